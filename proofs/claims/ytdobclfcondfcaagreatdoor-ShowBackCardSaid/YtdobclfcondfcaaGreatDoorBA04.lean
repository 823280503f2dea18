/- What the card of this claim stands on, or the card itself: for every input, as the given row says. -/
import Derived.Lib.AppendStr
import Derived.Lib.Builder
import Derived.Laws.MakeOwn
import Derived.Laws.Build
import Derived.Test.YtdobclfcondfcaaGreatDoorBA03

namespace Go.Ax
open Go.Lib
section ops
variable {E : Env} {k : Kn} {ty : TypeId} {s : St} {tab : List (Nat × TI)} {e : Eff}
def appCall2 (x y : Operand) (t u : TypeId) : Op := .call { callee := .builtin .append, args := #[x, y], argTypes := #[t, u] }
theorem exec_append2 {P : Program} {a : Act} {w w' : World} {o : Oper} {t u : TypeId} {x y : Operand} {v : Value} (ho : o.op = appCall2 x y t u) (h : (Builtin.append_ #[t, u] o.type #[a.eval x, a.eval y]).run P w = .ok v w') : (execOp a.eval o).run P w = .ok (.value v) w' := by
  simp [execOp, ho, appCall2, resolve, invoke, builtin, h]
def bsRow (m : ByteArray) : List (List D) := m.data.toList.map fun b => [.v (.int .u8 b.toNat)]
theorem bsRow_len (m : ByteArray) : (bsRow m).length = m.size := by rw [bsRow, List.length_map, Array.length_toList]; rfl
theorem bsRow_one (m : ByteArray) : ∀ q ∈ bsRow m, q.length = 1 := fun q hq => by
  obtain ⟨b, _, rfl⟩ := List.mem_map.1 hq; rfl
theorem bsRow_cells (m : ByteArray) {h : Nat → Option Obj} {Im : Nat → Prop} (i j : Nat) (q : List D) (x : D) (h1 : (bsRow m)[i]? = some q) (h2 : q[j]? = some x) : ∃ u, (strCells m)[i * 1 + j]? = some u ∧ RD h Im u x := by
  simp only [bsRow, List.getElem?_map, Option.map_eq_some_iff] at h1
  obtain ⟨b, hb, rfl⟩ := h1
  have hj : j = 0 := by
    have := (List.getElem?_eq_some_iff.1 h2).1
    simp at this; exact this
  subst hj
  simp at h2; subst h2
  refine ⟨.int .u8 b.toNat, ?_, .v _ rfl⟩
  simp only [strCells, List.getElem?_map]
  rw [Nat.mul_one, Nat.add_zero, hb]; rfl
theorem run_append_str_none {P : Program} {w : World} {t u ty e : TypeId} {i : TypeInfo} (ht : P.underlying t = some (.slice e)) (hu : P.underlying u = some .string) (hi : P.info? e = some i) {base : Option Addr} {n cap : Nat} (hc : n ≤ cap) {m : ByteArray} (hm : m.size = 0) :
    (Builtin.append_ #[t, u] ty #[.slice base n cap, .string m]).run P w = .ok (.slice base n cap) w := by
  have hf := run_firstCells_string (P := P) w i.size m
  have hn : strCells m = [] := List.eq_nil_of_length_eq_zero (by rw [strCells_length]; exact hm)
  rw [hm, hn] at hf
  cases base <;> simp [Builtin.append_, run_underlying ht, run_underlying hu, sizeOf, typeInfo, hi, Builtin.lenOf, hm, hf, hc, storeCells]
theorem ok_append_str {t u e : TypeId} {x y : Operand} {i ui ei : TI} {r n : Nat} {els : List (List D)} {m : ByteArray} (hi : opIn k.nt (appCall2 x y t u) = true) (ht : tiOf E.P t = some i) (hk : i.k = .slice e) (hu : tiOf E.P u = some ui) (huk : ui.k = .str) (he : tiOf E.P e = some ei) (hsz : ei.size = 1) (hby : ei.bytes = 1) (hz : ei.zero = [.int .u8 0])
    (hx : evO s x = .msl r n 0 n) (hy : evO s y = .d (.v (.string m))) :
    OpOk E k (appCall2 x y t u) ty s { val := .msl r (els.length + m.size) 0 (els.length + m.size), rh := some (r, .buf 1 e els), wh := some (r, some (.buf 1 e (els ++ bsRow m))), cond := [n = els.length, els.length + m.size ≤ 140737488355328] } := by
  intro c Im ρ F H a w o ok hnt ha S ho hty hF hH hnew hc
  obtain ⟨c1, c2, _⟩ := hc
  have h2 := opIn_ev (x := x) S hnt hi hF (by simp [Op.operands, appCall2, Call.operands])
  have h3 := opIn_ev (x := y) S hnt hi hF (by simp [Op.operands, appCall2, Call.operands])
  rw [hx] at h2
  rw [hy] at h3
  obtain ⟨inf, d, z, g1, g2, g3, rfl⟩ := tiOf_spec ht
  cases d <;> simp only [kindOf] at hk <;> cases hk
  obtain ⟨uinf, ud, uz, v1, v2, v3, rfl⟩ := tiOf_spec hu
  have hud : ud = .string := by
    cases ud with
    | string => rfl
    | _ => simp [kindOf] at huk
  subst hud
  obtain ⟨einf, ed, ez, f1, f2, f3, rfl⟩ := tiOf_spec he
  simp only at hsz hby hz
  have hz1 : ez.cells.size = 1 := by
    have := congrArg List.length hz
    simpa using this
  generalize hv : a.eval x = v at h2
  cases h2 with
  | msl _ _ _ _ _ _ hp2 =>
    obtain ⟨l, hl', hro, hown⟩ := S.obj r _ (hH r _ rfl)
    have hlen : l.len = els.length := hro.2.2.2.1
    have hbuf : l.isBuf = true := hro.1
    have hels := hro.2.2.2.2.1
    have hsub := hro.sub_eq
    have hval : v = l.sub 0 els.length := by rw [(hp2 l hl').2 (by omega)]; congr
    have hcaple : els.length ≤ l.cap := by
      rcases hro.2.2.2.2.2 with ⟨_, h0, _⟩ | ⟨_, _, _, _, h0, _⟩
      · subst h0; simp
      · exact h0
    have hy2 := h3.v
    by_cases h0 : m.size = 0
    · have hb0 : bsRow m = [] := List.eq_nil_of_length_eq_zero (by rw [bsRow_len, h0])
      have hrun := run_append_str_none (w := w) (ty := o.type) g2 v2 f1 (base := l.addr) (n := els.length) (cap := l.cap) hcaple h0
      refine ⟨v, w, .inl (exec_append2 ho (by rw [hv, hy2, hval, hsub]; exact hrun)), Im, ρ, ?_, .msl _ _ _ _ _ (by rw [hval, hsub]; rfl) fun l1 hl1 => ?_⟩
      · simp only [hb0, List.append_nil, updO]
        have : upd H r (some (.buf 1 e els)) = H := by
          funext q; by_cases eq : q = r
          · subst eq; simp [hH q _ rfl]
          · rw [upd_ne _ _ eq]
        rw [this]; exact S
      · rw [hl'] at hl1; injection hl1 with hl1; subst hl1
        rw [h0, Nat.add_zero]
        exact ⟨by omega, fun _ => hval⟩
    · have hm : 0 < m.size := Nat.pos_of_ne_zero h0
      have h63 : els.length + m.size ≤ maxLen := by simp only [maxLen]; omega
      -- the row that grows, from whatever it was
      have grows : ∀ (olds : List Value) (old : Nat), olds.length = els.length → (∀ (i j : Nat) (q : List D) (x : D), els[i]? = some q → q[j]? = some x → ∃ u, olds[i * 1 + j]? = some u ∧ RD (hp w) Im u x) →
          (Builtin.append_ #[t, u] o.type #[.slice l.addr els.length l.cap, .string m]).run E.P w = .ok (.slice (some ⟨w.heap.size, 0, none⟩) (els.length + m.size) (grownCap w (els.length + m.size) old e)) (w.drew.alloc (.cells (olds.toArray ++ (strCells m).toArray ++ Builtin.zeroCells ez.cells (grownCap w (els.length + m.size) old e - (els.length + m.size))) e)) →
          ∃ v' w', (Builtin.append_ #[t, u] o.type #[.slice l.addr els.length l.cap, .string m]).run E.P w = .ok v' w' ∧ ∃ l', Grows w w' (fun b => b ∈ l.fp) ∧ (∀ b ∈ l'.fp, b ∈ l.fp ∨ (w.heap.size ≤ b ∧ b < w'.heap.size)) ∧ l'.len = els.length + m.size ∧ l'.isBuf = true ∧ v' = l'.sub 0 (els.length + m.size) ∧ RO (hp w') Im (upd ρ r (some l')) l' (.buf 1 e (els ++ bsRow m)) := by
        intro olds old ho1 ho2 hrun
        have hge := grownCap_ge w (els.length + m.size) old e
        have hcm := grownCap_le_maxLen w (els.length + m.size) old e h63
        refine ⟨_, _, hrun, { blk := some w.heap.size, isBuf := true, cap := grownCap w (els.length + m.size) old e, len := els.length + m.size, sz := 1 }, ⟨by simp, rfl, rfl, rfl, fun b hb _ => heap_alloc_old w.drew _ b hb⟩, fun b hb => .inr (by simp [Loc.fp] at hb; subst hb; simp), rfl, rfl, ?_, ?_⟩
        · simp only [Loc.sub, Loc.addr, Option.map_some, Nat.zero_mul]
          split
          · rename_i hh; simp [hh]
          · simp [Addr.add]
        · have hI : ∀ b, Im b → hp (w.drew.alloc (.cells (olds.toArray ++ (strCells m).toArray ++ Builtin.zeroCells ez.cells (grownCap w (els.length + m.size) old e - (els.length + m.size))) e)) b = hp w b := fun b hb' => heap_alloc_old w.drew _ b (S.imn b hb').1
          refine ⟨rfl, rfl, rfl, by simp [bsRow_len], fun q hq => ?_, .inr ⟨w.heap.size, _, rfl, heap_alloc_new w.drew _, by rw [List.length_append, bsRow_len]; exact hge, hcm, ?_, fun i j q x e1 e2 => ?_⟩⟩
          · rcases List.mem_append.1 hq with h | h
            · exact hels q h
            · exact bsRow_one m q h
          · simp only [Array.size_append, List.size_toArray, size_zeroCells, hz1, ho1, strCells_length]
            omega
          · obtain ⟨u, g1, g2⟩ := append_rel (h := hp w) (Im := Im) (sz := 1) (by rw [ho1, Nat.mul_one]) ho2 (fun i j q x => bsRow_cells m i j q x) i j q x e1 e2
            refine ⟨u, ?_, g2.mono (fun _ h => h) hI⟩
            have hlt : i * 1 + j < (olds ++ strCells m).length := (List.getElem?_eq_some_iff.1 g1).1
            rw [Array.getElem?_append_left (by simpa using hlt)]
            simpa using g1
      have main : ∃ v' w', (Builtin.append_ #[t, u] o.type #[.slice l.addr els.length l.cap, .string m]).run E.P w = .ok v' w' ∧ ∃ l', Grows w w' (fun b => b ∈ l.fp) ∧ (∀ b ∈ l'.fp, b ∈ l.fp ∨ (w.heap.size ≤ b ∧ b < w'.heap.size)) ∧ l'.len = els.length + m.size ∧ l'.isBuf = true ∧ v' = l'.sub 0 (els.length + m.size) ∧ RO (hp w') Im (upd ρ r (some l')) l' (.buf 1 e (els ++ bsRow m)) := by
        rcases hro.2.2.2.2.2 with ⟨q1, q2, q3⟩ | ⟨g, ms, q1, q2, q3, q4, q5, q6⟩
        · subst q2
          refine grows [] 0 rfl (by simp) ?_
          cases had : l.addr with
          | none =>
            have := run_append_nil_string (P := E.P) w t u o.type e einf ez g2 v2 f1 f3 m hm (by omega) (by rw [hby]; omega)
            rw [q3]
            simp only [List.length_nil, Nat.zero_add]
            rw [this]
            congr 3
            apply Array.ext'
            simp [strCells]
          | some b =>
            have := run_append_grow_string (P := E.P) w t u o.type e einf ez g2 v2 f1 f3 b 0 0 [] (by simp) (by simp) m (by omega) (by omega) (by rw [hby]; exact growslice_fits (by omega) (by omega))
            rw [q3]; exact this
        · have haddr : l.addr = some ⟨g, 0, none⟩ := by simp [Loc.addr, q1]
          rw [haddr]
          by_cases hroom : els.length + m.size ≤ l.cap
          · have hrun := run_append_room_string (P := E.P) w t u o.type e einf g2 v2 f1 hsz g els.length l.cap ms q2 m hroom (by omega)
            refine ⟨_, _, hrun, { l with len := els.length + m.size }, ?_, fun b hb => .inl hb, rfl, hbuf, ?_, ?_⟩
            · have hg := Grows.setRow w g (ms.toList.take els.length ++ strCells m ++ ms.toList.drop (els.length + m.size)).toArray
              exact ⟨hg.size, hg.os, hg.tape, hg.output, fun b hb hn => hg.block b hb fun h => hn (by subst h; simp [Loc.fp, q1])⟩
            · simp only [Loc.sub, Loc.addr, q1, Option.map_some, Nat.zero_mul]
              split
              · rename_i hh; simp [hh]
              · simp [Addr.add]
            · have hG : g < w.heap.size := (Array.getElem?_eq_some_iff.1 q2).1
              have hI : ∀ b, Im b → hp (w.setRow g (ms.toList.take els.length ++ strCells m ++ ms.toList.drop (els.length + m.size)).toArray) b = hp w b := fun b hb => (Grows.setRow w g _).block b (S.imn b hb).1 fun h => by
                subst h
                exact (hown b (by simp [Loc.fp, q1])).2.1 hb
              refine ⟨hbuf, hro.2.1, hro.2.2.1, by simp [bsRow_len], fun q hq => ?_, .inr ⟨g, _, q1, setRow_heap w g ms _ e _ q2, by rw [List.length_append, bsRow_len]; exact hroom, q4, ?_, fun i j q x e1 e2 => ?_⟩⟩
              · rcases List.mem_append.1 hq with h | h
                · exact hels q h
                · exact bsRow_one m q h
              · simp only [List.size_toArray, List.length_append, List.length_take, List.length_drop, Array.length_toList, strCells_length]
                omega
              · have hxs : ∀ (i j : Nat) (q : List D) (x : D), els[i]? = some q → q[j]? = some x → ∃ u, (ms.toList.take els.length)[i * 1 + j]? = some u ∧ RD (hp w) Im u x := fun i j q x e1 e2 => by
                  obtain ⟨u, k1, k2⟩ := q6 i j q x e1 e2
                  have hil : i < els.length := (List.getElem?_eq_some_iff.1 e1).1
                  have hjl : j < 1 := by
                    have := (List.getElem?_eq_some_iff.1 e2).1
                    rw [hels q (List.mem_of_getElem? e1)] at this; exact this
                  exact ⟨u, by rw [List.getElem?_take, if_pos (by omega)]; simpa using k1, k2⟩
                obtain ⟨u, g1, g2⟩ := append_rel (h := hp w) (Im := Im) (sz := 1) (by simp; omega) hxs (fun i j q x => bsRow_cells m i j q x) i j q x e1 e2
                refine ⟨u, ?_, g2.mono (fun _ h => h) hI⟩
                have hlt : i * 1 + j < (ms.toList.take els.length ++ strCells m).length := (List.getElem?_eq_some_iff.1 g1).1
                rw [List.getElem?_toArray, List.getElem?_append_left hlt]
                exact g1
          · have hxs : ∀ (i j : Nat) (q : List D) (x : D), els[i]? = some q → q[j]? = some x → ∃ u, (ms.toList.take els.length)[i * 1 + j]? = some u ∧ RD (hp w) Im u x := fun i j q x e1 e2 => by
              obtain ⟨u, k1, k2⟩ := q6 i j q x e1 e2
              have hil : i < els.length := (List.getElem?_eq_some_iff.1 e1).1
              have hjl : j < 1 := by
                have := (List.getElem?_eq_some_iff.1 e2).1
                rw [hels q (List.mem_of_getElem? e1)] at this; exact this
              exact ⟨u, by rw [List.getElem?_take, if_pos (by omega)]; simpa using k1, k2⟩
            have := grows (ms.toList.take els.length) l.cap (by simp; omega) hxs (by
              rw [haddr]
              exact run_append_grow_string (P := E.P) w t u o.type e einf ez g2 v2 f1 f3 ⟨g, 0, none⟩ els.length l.cap (ms.toList.take els.length) (by rw [hsz]; simp; omega) (fun j u hu => by
                rw [List.getElem?_take] at hu
                split at hu
                · have hb : w.heap[g]? = some (.cells ms e (0, 0)) := q2
                  have ha : ((⟨g, 0, none⟩ : Addr).add j) = ⟨g, j, none⟩ := by unfold Addr.add; split <;> simp_all
                  have hu' : ms[j]? = some u := by simpa using hu
                  rw [ha, cell_of_heap hb, hu']
                · simp at hu) m (by omega) (by omega) (by rw [hby]; exact growslice_fits (by omega) (by omega)))
            rw [haddr] at this; exact this
      obtain ⟨v', w', k1, l', k2, k3, k4, k5, k6, k7⟩ := main
      refine ⟨v', w', .inl (exec_append2 ho (by rw [hv, hy2, hval, hsub]; exact k1)), Im, _, S.chg (r := r) (l := l) (l' := l') (o' := .buf 1 e (els ++ bsRow m)) (hH r _ rfl) hl' k2 (.inr (.inl ⟨hbuf, k5, by rw [k4, hlen]; omega⟩)) k3 k7, .msl _ _ _ _ _ (by rw [k6]; rfl) fun l1 hl1 => ?_⟩
      rw [upd_same] at hl1; injection hl1 with hl1; subst hl1
      exact ⟨by rw [k4]; exact Nat.le_refl _, fun _ => k6⟩
def opAppStr (tab : List (Nat × TI)) (s : St) (x y : Operand) (t u : TypeId) : Option Eff := match lkT t tab, lkT u tab with
  | some i, some ui => match i.k, ui.k with
    | .slice e, .str => match lkT e tab with
      | some ei => match Nat.beq ei.size 1, Nat.beq ei.bytes 1, ei.zero with
        | true, true, [.int .u8 0] => match evO s x, evO s y with
          | .msl r n 0 len, .d (.v (.string m)) => match lkH r s.h with
            | some (.buf 1 el els) => match Nat.beq el e with
              | true => some { val := .msl r (els.length + m.size) 0 (els.length + m.size), rh := some (r, .buf 1 el els), wh := some (r, some (.buf 1 el (els ++ bsRow m))), cond := [len = n, n = els.length, els.length + m.size ≤ 140737488355328] }
              | false => none
            | _ => none
          | _, _ => none
        | _, _, _ => none
      | none => none
    | _, _ => none
  | _, _ => none
theorem opAppStr_ok (htab : TabOk E.P tab) {t u : TypeId} {x y : Operand} (hi : opIn k.nt (appCall2 x y t u) = true) (h : opAppStr tab s x y t u = some e) : Good E k (appCall2 x y t u) ty s e := by
  unfold opAppStr at h
  split at h
  · rename_i i ui ht hu
    split at h
    · rename_i e0 hk huk
      split at h
      · rename_i ei he
        split at h
        · rename_i h1 h2 h3
          split at h
          · rename_i r n len m hx hy
            split at h
            · rename_i el els hr
              split at h
              · rename_i h4
                have := Nat.eq_of_beq_eq_true h4; subst this
                injection h with h; subst h
                refine ⟨fun c Im ρ F H a w o ok hn ha S ho hty hF hH hnew hc => ?_, by simp [RhOk, hr]⟩
                obtain ⟨c1, c2, c3, _⟩ := hc
                subst c1
                exact ok_append_str hi (htab.at ht) hk (htab.at hu) huk (htab.at he) (Nat.eq_of_beq_eq_true h1) (Nat.eq_of_beq_eq_true h2) h3 hx hy c Im ρ F H a w o ok hn ha S ho hty hF hH hnew ⟨c2, c3, trivial⟩
              · simp at h
            · simp at h
          · simp at h
        · simp at h
      · simp at h
    · simp at h
  · simp at h
end ops
end Go.Ax

namespace Go.Ax
section ops
variable {E : Env} {k : Kn} {ty : TypeId} {s : St} {tab : List (Nat × TI)} {e : Eff}
theorem madeCells_at {z : Array Value} {n j : Nat} (hj : j < n) : (madeCells z n)[j]? = some z[j % z.size]! := by
  simp [madeCells, hj]
theorem ok_makeSlice {t e0 : TypeId} {lo co : Operand} {i ei : TI} {d : Nat} {kl kc : IntKind} {l c0 : Int} (hi : opIn k.nt (.makeSlice t lo co) = true) (ht : tiOf E.P t = some i) (hk : i.k = .slice e0) (he : tiOf E.P e0 = some ei) (hz : ei.zero.length = ei.size) (hpos : 0 < ei.size) (hby : 0 < ei.bytes) (h1 : ei.zero.all (·.oneCell') = true)
    (hl : evO s lo = .d (.v (.int kl l))) (hc : evO s co = .d (.v (.int kc c0))) :
    OpOk E k (.makeSlice t lo co) ty s { val := .msl d l.toNat 0 l.toNat, wh := some (d, some (.buf ei.size e0 (List.replicate l.toNat (ei.zero.map .v)))), new := some d, cond := [0 ≤ l, l ≤ c0, c0 * ei.bytes ≤ 140737488355328] } := by
  intro c Im ρ F H a w o ok hnt ha S ho hty hF hH hnew hcd
  obtain ⟨c1, c2, c3, _⟩ := hcd
  have h2 := opIn_ev (x := lo) S hnt hi hF (by simp [Op.operands])
  have h3 := opIn_ev (x := co) S hnt hi hF (by simp [Op.operands])
  rw [hl] at h2; rw [hc] at h3
  have h2 := h2.v
  have h3 := h3.v
  obtain ⟨inf, dd, z, g1, g2, g3, rfl⟩ := tiOf_spec ht
  cases dd <;> simp only [kindOf] at hk <;> cases hk
  obtain ⟨einf, ed, ez, f1, f2, f3, rfl⟩ := tiOf_spec he
  simp only at hz hby c3 hpos h1
  have hzs : ez.cells.size = einf.size := by simpa using hz
  have hc0 : c0 ≤ 140737488355328 := by
    have : c0 * 1 ≤ c0 * (einf.bytes : Int) := Int.mul_le_mul_of_nonneg_left (by omega) (by omega)
    omega
  have hrun := run_make (P := E.P) w t e0 einf ez g2 f1 f3 kl kc l c0 c1 c2 (by rw [Int.mul_comm]; omega) (by omega)
  refine ⟨.slice (some ⟨w.heap.size, 0, none⟩) l.toNat c0.toNat, w.alloc (.cells (madeCells ez.cells (c0.toNat * einf.size)) e0), .inl (by simp [execOp, ho, h2, h3, hrun]), Im, _, S.new (r := d) (l := { blk := some w.heap.size, isBuf := true, cap := c0.toNat, len := l.toNat, sz := einf.size }) (o := .buf einf.size e0 (List.replicate l.toNat (ez.cells.toList.map .v))) (Grows.alloc w _) (hnew d rfl) (fun b hb => ?_) ⟨rfl, rfl, rfl, by simp, fun q hq => ?_, .inr ⟨w.heap.size, _, rfl, heap_alloc_new w _, by simp; omega, by simp [maxLen]; omega, size_madeCells _ _, fun ii j el x e1 e2 => ?_⟩⟩, .msl _ _ _ _ _ rfl fun l1 hl1 => ?_⟩
  · simp [Loc.fp] at hb; subst hb; simp
  · rw [List.mem_replicate] at hq; rw [hq.2]; simpa using hzs
  · rw [List.getElem?_replicate] at e1
    split at e1
    · rename_i hlt
      injection e1 with e1; subst e1
      simp only [List.getElem?_map, Option.map_eq_some_iff] at e2
      obtain ⟨u, hu, rfl⟩ := e2
      have hj : j < einf.size := by have := (List.getElem?_eq_some_iff.1 hu).1; simpa [hzs] using this
      have hlt2 : ii * einf.size + j < c0.toNat * einf.size := by
        have h5 : ii + 1 ≤ c0.toNat := by omega
        have := Nat.mul_le_mul_right einf.size h5
        rw [Nat.succ_mul] at this; omega
      refine ⟨_, madeCells_at hlt2, ?_⟩
      have hmod : (ii * einf.size + j) % ez.cells.size = j := by rw [hzs, Nat.mul_comm, Nat.mul_add_mod, Nat.mod_eq_of_lt hj]
      have hu2 : ez.cells[j]! = u := by
        have : ez.cells[j]? = some u := by simpa using hu
        simp [Array.getElem!_eq_getD, Array.getD_eq_getD_getElem?, this]
      rw [hmod, hu2]
      exact .v _ (List.all_eq_true.1 h1 u (List.mem_of_getElem? hu))
    · simp at e1
  · rw [upd_same] at hl1; injection hl1 with hl1; subst hl1
    refine ⟨Nat.le_refl _, fun _ => ?_⟩
    simp only [Loc.sub, Loc.addr, Option.map_some, Nat.zero_mul, Nat.sub_zero]
    split <;> simp [Addr.add]
theorem ok_makeData {t e0 : TypeId} {lo co : Operand} {i ei : TI} {kl kc : IntKind} {l c0 : Int} (hi : opIn k.nt (.makeSlice t lo co) = true) (ht : tiOf E.P t = some i) (hk : i.k = .slice e0) (he : tiOf E.P e0 = some ei) (hz : ei.zero.length = ei.size) (hpos : 0 < ei.size) (hby : 0 < ei.bytes) (h1 : ei.zero.all (·.oneCell') = true)
    (hl : evO s lo = .d (.v (.int kl l))) (hc : evO s co = .d (.v (.int kc c0))) :
    OpOk E k (.makeSlice t lo co) ty s { val := .d (.sl false ei.size (List.replicate l.toNat (ei.zero.map .v))), cond := [0 ≤ l, l ≤ c0, c0 * ei.bytes ≤ 140737488355328] } := by
  intro c Im ρ F H a w o ok hnt ha S ho hty hF hH hnew hcd
  obtain ⟨c1, c2, c3, _⟩ := hcd
  have h2 := opIn_ev (x := lo) S hnt hi hF (by simp [Op.operands])
  have h3 := opIn_ev (x := co) S hnt hi hF (by simp [Op.operands])
  rw [hl] at h2; rw [hc] at h3
  have h2 := h2.v
  have h3 := h3.v
  obtain ⟨inf, dd, z, g1, g2, g3, rfl⟩ := tiOf_spec ht
  cases dd <;> simp only [kindOf] at hk <;> cases hk
  obtain ⟨einf, ed, ez, f1, f2, f3, rfl⟩ := tiOf_spec he
  simp only at hz hby c3 hpos h1
  have hzs : ez.cells.size = einf.size := by simpa using hz
  have hc0 : c0 ≤ 140737488355328 := by
    have : c0 * 1 ≤ c0 * (einf.bytes : Int) := Int.mul_le_mul_of_nonneg_left (by omega) (by omega)
    omega
  have hrun := run_make (P := E.P) w t e0 einf ez g2 f1 f3 kl kc l c0 c1 c2 (by rw [Int.mul_comm]; omega) (by omega)
  have hrl : (List.replicate l.toNat (ez.cells.toList.map D.v)).length = l.toNat := by simp
  refine ⟨.slice (some ⟨w.heap.size, 0, none⟩) l.toNat c0.toNat, w.alloc (.cells (madeCells ez.cells (c0.toNat * einf.size)) e0), .inl (by simp [execOp, ho, h2, h3, hrun]), fun b => Im b ∨ b = w.heap.size, ρ, S.born (B := fun b => b = w.heap.size) (Grows.alloc w _) (fun b hb => by subst hb; simp), .d _ _ ?_⟩
  have hrow := RD.row (h := hp (w.alloc (.cells (madeCells ez.cells (c0.toNat * einf.size)) e0))) (Im := fun b => Im b ∨ b = w.heap.size) (b := w.heap.size) (o := 0) (cap := c0.toNat) (sz := einf.size) (els := List.replicate l.toNat (ez.cells.toList.map D.v)) (tight := false) (cs := madeCells ez.cells (c0.toNat * einf.size)) (t := e0) (fz := (0, 0)) (.inr rfl) (heap_alloc_new w _) (fun q hq => by rw [List.mem_replicate] at hq; rw [hq.2]; simpa using hzs) (by rw [hrl]; omega) (by simp) fun ii j el x e1 e2 => ?_
  · rw [hrl] at hrow; exact hrow
  · rw [List.getElem?_replicate] at e1
    split at e1
    · rename_i hlt
      injection e1 with e1; subst e1
      simp only [List.getElem?_map, Option.map_eq_some_iff] at e2
      obtain ⟨u, hu, rfl⟩ := e2
      have hj : j < einf.size := by have := (List.getElem?_eq_some_iff.1 hu).1; simpa [hzs] using this
      have hlt2 : ii * einf.size + j < c0.toNat * einf.size := by
        have h5 : ii + 1 ≤ c0.toNat := by omega
        have := Nat.mul_le_mul_right einf.size h5
        rw [Nat.succ_mul] at this; omega
      refine ⟨_, by rw [Nat.zero_add]; exact madeCells_at hlt2, ?_⟩
      have hmod : (ii * einf.size + j) % ez.cells.size = j := by rw [hzs, Nat.mul_comm, Nat.mul_add_mod, Nat.mod_eq_of_lt hj]
      have hu2 : ez.cells[j]! = u := by
        have : ez.cells[j]? = some u := by simpa using hu
        simp [Array.getElem!_eq_getD, Array.getD_eq_getD_getElem?, this]
      rw [hmod, hu2]
      exact .v _ (List.all_eq_true.1 h1 u (List.mem_of_getElem? hu))
    · simp at e1
def isConst : Operand → Bool
  | .const _ => true
  | _ => false
def opMake (tab : List (Nat × TI)) (s : St) (d : Nat) (t : TypeId) (lo co : Operand) : Option Eff := match lkT t tab, evO s lo, evO s co with
  | some i, .d (.v (.int _ l)), .d (.v (.int _ c0)) => match i.k with
    | .slice e => match lkT e tab with
      | none => none
      | some ei => match Nat.beq ei.zero.length ei.size, Nat.blt 0 ei.size, Nat.blt 0 ei.bytes, ei.zero.all (·.oneCell') with
        | true, true, true, true => match isConst lo with
          | true => some { val := .d (.sl false ei.size (List.replicate l.toNat (ei.zero.map .v))), cond := [0 ≤ l, l ≤ c0, c0 * ei.bytes ≤ 140737488355328] }
          | false => some { val := .msl d l.toNat 0 l.toNat, wh := some (d, some (.buf ei.size e (List.replicate l.toNat (ei.zero.map .v)))), new := some d, cond := [0 ≤ l, l ≤ c0, c0 * ei.bytes ≤ 140737488355328] }
        | _, _, _, _ => none
    | _ => none
  | _, _, _ => none
theorem opMake_ok (htab : TabOk E.P tab) {d : Nat} {t : TypeId} {lo co : Operand} (hi : opIn k.nt (.makeSlice t lo co) = true) (h : opMake tab s d t lo co = some e) : Good E k (.makeSlice t lo co) ty s e := by
  unfold opMake at h
  split at h
  · rename_i i _ l _ c0 ht hl hc
    have ht := htab.at ht
    split at h
    · rename_i e0 hk
      split at h
      · simp at h
      rename_i ei he
      have he := htab.at he
      split at h
      · rename_i g1 g2 g3 g4
        split at h
        · injection h with h; subst h
          exact ⟨ok_makeData hi ht hk he (Nat.eq_of_beq_eq_true g1) (by simpa using g2) (by simpa using g3) g4 hl hc, by simp [RhOk]⟩
        · injection h with h; subst h
          exact ⟨ok_makeSlice hi ht hk he (Nat.eq_of_beq_eq_true g1) (by simpa using g2) (by simpa using g3) g4 hl hc, by simp [RhOk]⟩
      · simp at h
    · simp at h
  · simp at h
theorem ok_store_mptr {t : TypeId} {x y : Operand} {i : TI} {r n q j0 sz : Nat} {el : TypeId} {els : List (List D)} {l : List D} (hi : opIn k.nt (.store t x y) = true) (ht : tiOf E.P t = some i) (hx : evO s x = .mptr r n q j0) (hy : dcells (evO s y) = some l) :
    OpOk E k (.store t x y) ty s { val := .junk, rh := some (r, .buf sz el els), wh := some (r, some (.buf sz el (els.set q (splice (els.getD q []) l j0)))), cond := [n = els.length, q < els.length, l.length = i.size, j0 + i.size ≤ sz] } := by
  intro c Im ρ F H a w o ok hnt ha S ho hty hF hH hnew hcd
  obtain ⟨c1, c2, c3, c4, _⟩ := hcd
  have h2 := opIn_ev (x := x) S hnt hi hF (by simp [Op.operands])
  have h3 := opIn_ev (x := y) S hnt hi hF (by simp [Op.operands])
  rw [hx] at h2
  obtain ⟨hl1, hl2⟩ := dcells_ok h3 hy
  generalize hv : a.eval x = v at h2
  cases h2 with
  | mptr _ _ _ _ _ _ hp2 =>
    obtain ⟨lc, hl', hro, hown⟩ := S.obj r _ (hH r _ rfl)
    obtain ⟨k1, k2, k3, k4, k5, k6⟩ := hro
    obtain ⟨b, hb, rfl⟩ := (hp2 lc hl').2 (by omega)
    rcases k6 with ⟨h0, _⟩ | ⟨b', ms, hb', hm, hcap1, hcap2, hsz, hcell⟩
    · rw [hb] at h0; exact absurd h0 (by simp)
    · rw [hb] at hb'; injection hb' with hb'; subst hb'
      have hrow : (els.getD q []).length = sz := by
        have : els.getD q [] = els[q] := by simp [List.getD, List.getElem?_eq_getElem c2]
        rw [this]; exact k5 _ (List.getElem_mem c2)
      have hfit : q * sz + sz ≤ ms.size := by
        rw [hsz]
        have := Nat.mul_le_mul_right sz (show q + 1 ≤ lc.cap by omega)
        rw [Nat.succ_mul] at this; omega
      have hvs : (a.eval y).cells.size = i.size := by rw [← c3, ← hl1]; simp
      have h1 : ∀ u ∈ (a.eval y).cells.toList, u.oneCell' = true := fun u hu => by
        obtain ⟨j, hj⟩ := List.getElem?_of_mem hu
        have hjl : j < l.length := by rw [← hl1]; exact (List.getElem?_eq_some_iff.1 hj).1
        exact (hl2 j u l[j] hj (List.getElem?_eq_getElem hjl)).one
      have hst := run_storeVar_at (P := E.P) (w := w) (t := t) (ty := el) (i := i) (v := a.eval y) (b := b) (off := q * sz + j0) (ms := ms) ht hm hvs (by omega) h1
      have hfp : lc.fp = [b] := by simp [Loc.fp, hb, k2]
      generalize hms : (ms.toList.take (q * sz + j0) ++ (a.eval y).cells.toList ++ ms.toList.drop (q * sz + j0 + (a.eval y).cells.toList.length)).toArray = ms2 at hst
      have hg : Grows w (w.setRow b ms2) (fun q => q ∈ lc.fp) := by rw [hfp]; simpa using Grows.setRow w b _
      have hm2 := setRow_heap w b ms ms2 el _ hm
      have hI : ∀ b', Im b' → hp (w.setRow b ms2) b' = hp w b' := fun b' hb' => hg.block b' (S.imn b' hb').1 fun h => (hown b' h).2.1 hb'
      have hvl : (a.eval y).cells.toList.length = l.length := by rw [← hl1]
      have hsz2 : ms2.size = ms.size := by rw [← hms]; simp; omega
      refine ⟨undef, _, .inr ⟨exec_store ho (by rw [hv, k3]) hst, rfl⟩, Im, _, S.chg (r := r) (l := lc) (l' := lc) (o' := .buf sz el (els.set q (splice (els.getD q []) l j0))) (hH r _ rfl) hl' hg (.inl rfl) (fun q hq => .inl hq) ?_, .junk _⟩
      rw [upd_self hl']
      have hrow2 : els[q]? = some (els.getD q []) := by simp [List.getD, List.getElem?_eq_getElem c2]
      generalize els.getD q [] = row at hrow hrow2
      have hspl : (splice row l j0).length = sz := by simp [splice]; omega
      refine ⟨k1, k2, k3, by simpa using k4, fun z hz => ?_, .inr ⟨b, ms2, hb, hm2, by simpa using hcap1, hcap2, by omega, fun ii j el' x e1 e2 => ?_⟩⟩
      · rcases List.mem_or_eq_of_mem_set hz with h | h
        · exact k5 z h
        · rw [h]; exact hspl
      · have hget : ∀ p : Nat, ms2[p]? = (ms.toList.take (q * sz + j0) ++ (a.eval y).cells.toList ++ ms.toList.drop (q * sz + j0 + (a.eval y).cells.toList.length))[p]? := fun p => by rw [← hms, List.getElem?_toArray]
        have hout : ∀ p : Nat, (p < q * sz + j0 ∨ q * sz + j0 + l.length ≤ p) → ms2[p]? = ms[p]? := fun p hp => by
          have hq1 : q * sz + j0 ≤ ms.toList.length := by simp; omega
          rw [hget, hvl]
          rcases hp with hp | hp
          · rw [List.append_assoc, List.getElem?_append_left (by simp; omega), List.getElem?_take, if_pos hp]; simp
          · rw [List.getElem?_append_right (by simp [hvl]; omega), List.getElem?_drop]
            have : q * sz + j0 + l.length + (p - (List.take (q * sz + j0) ms.toList ++ (a.eval y).cells.toList).length) = p := by simp [hvl]; omega
            rw [this]; simp
        have hin : ∀ p : Nat, q * sz + j0 ≤ p → p < q * sz + j0 + l.length → ms2[p]? = (a.eval y).cells.toList[p - (q * sz + j0)]? := fun p h1 h2 => by
          rw [hget, List.append_assoc, List.getElem?_append_right (by simp; omega), List.getElem?_append_left (by simp [hvl]; omega)]
          congr 1
          simp; omega
        by_cases hq : q = ii
        · subst hq
          rw [List.getElem?_set_self c2] at e1
          injection e1 with e1; subst e1
          have hj : j < sz := by rw [← hspl]; exact (List.getElem?_eq_some_iff.1 e2).1
          by_cases hb1 : j0 ≤ j ∧ j < j0 + l.length
          · have e3 : l[j - j0]? = some x := by
              rw [splice, List.append_assoc, List.getElem?_append_right (by simp; omega), List.getElem?_append_left (by simp; omega)] at e2
              rw [← e2]; congr 1; simp; omega
            have hjl : j - j0 < (a.eval y).cells.toList.length := by omega
            refine ⟨(a.eval y).cells.toList[j - j0], ?_, ((hl2 _ _ x (List.getElem?_eq_getElem hjl) e3)).mono (fun _ h => h) hI⟩
            rw [hin _ (by omega) (by omega), show q * sz + j - (q * sz + j0) = j - j0 by omega]
            exact List.getElem?_eq_getElem hjl
          · have e3 : row[j]? = some x := by
              rw [← e2, splice]
              by_cases hjj : j < j0
              · rw [List.append_assoc, List.getElem?_append_left (by simp; omega), List.getElem?_take, if_pos hjj]
              · rw [List.getElem?_append_right (by simp; omega), List.getElem?_drop]
                congr 1; simp; omega
            obtain ⟨v, g1, g2⟩ := hcell q j _ x hrow2 e3
            exact ⟨v, by rw [hout _ (by omega)]; exact g1, g2.mono (fun _ h => h) hI⟩
        · rw [List.getElem?_set_ne hq] at e1
          have hj : j < sz := by rw [← k5 el' (List.mem_of_getElem? e1)]; exact (List.getElem?_eq_some_iff.1 e2).1
          obtain ⟨v, g1, g2⟩ := hcell ii j el' x e1 e2
          refine ⟨v, ?_, g2.mono (fun _ h => h) hI⟩
          rw [hout]; exact g1
          rcases Nat.lt_or_gt_of_ne hq with h | h
          · right
            have := Nat.mul_le_mul_right sz (show q + 1 ≤ ii by omega)
            rw [Nat.succ_mul] at this; omega
          · left
            have := Nat.mul_le_mul_right sz (show ii + 1 ≤ q by omega)
            rw [Nat.succ_mul] at this; omega
def opStoreX (tab : List (Nat × TI)) (s : St) (t : TypeId) (x y : Operand) : Option Eff := match lkT t tab, evO s x with
  | some i, .mptr r n q j0 => match lkH r s.h with
    | some (.buf sz el els) => match dcells (evO s y) with
      | some l => some { val := .junk, rh := some (r, .buf sz el els), wh := some (r, some (.buf sz el (els.set q (splice (els.getD q []) l j0)))), cond := [n = els.length, q < els.length, l.length = i.size, j0 + i.size ≤ sz] }
      | none => none
    | _ => none
  | _, _ => none
theorem opStoreX_ok (htab : TabOk E.P tab) {t : TypeId} {x y : Operand} (hi : opIn k.nt (.store t x y) = true) (h : opStoreX tab s t x y = some e) : Good E k (.store t x y) ty s e := by
  unfold opStoreX at h
  split at h
  · rename_i i r n q j0 ht hx
    have ht := htab.at ht
    split at h
    · rename_i sz el els hr
      split at h
      · rename_i l hl
        injection h with h; subst h
        exact ⟨ok_store_mptr hi ht hx hl, by simp [RhOk, hr]⟩
      · simp at h
    · simp at h
  · simp at h
theorem RO.newsBuf {w : World} {Im : Nat → Prop} {ρ : Nat → Option Loc} {l : Loc} {sz off len : Nat} {el : TypeId} {els : List (List D)} (H : RO (hp w) Im ρ l (.buf sz el els)) (hle : off + len ≤ els.length) (hs : 0 < sz) (hpos : 0 < len) :
    ∃ (ad : Addr) (cap : Nat) (news : List Value), l.sub off len = .slice (some ad) len cap ∧ news.length = len * sz ∧ (∀ (j : Nat) (u : Value), news[j]? = some u → w.cell? (ad.add j) = some u) ∧ (∀ u ∈ news, u.oneCell' = true) ∧
      (∀ q ∈ (els.drop off).take len, q.length = sz) ∧ ∀ (i j : Nat) (q : List D) (x : D), ((els.drop off).take len)[i]? = some q → q[j]? = some x → ∃ u, news[i * sz + j]? = some u ∧ RD (hp w) Im u x := by
  obtain ⟨k1, k2, k3, k4, k5, k6⟩ := H
  rcases k6 with ⟨_, h0, _⟩ | ⟨b, ms, hb, hm, hcap1, hcap2, hsz, hcell⟩
  · subst h0; simp at hle; omega
  have hmul : (off + len) * sz ≤ ms.size := by rw [hsz]; exact Nat.mul_le_mul_right sz (by omega)
  rw [Nat.add_mul] at hmul
  have key : ∀ j, j < len * sz → ∃ v q x, ms[off * sz + j]? = some v ∧ RD (hp w) Im v x ∧ els[off + j / sz]? = some q ∧ q[j % sz]? = some x := fun j hj => by
    have h1 : j / sz < len := (Nat.div_lt_iff_lt_mul hs).2 hj
    have h2 : j % sz < sz := Nat.mod_lt _ hs
    have h3 := k5 els[off + j / sz] (List.getElem_mem (by omega))
    obtain ⟨v, g1, g2⟩ := hcell (off + j / sz) (j % sz) _ _ (List.getElem?_eq_getElem (by omega)) (List.getElem?_eq_getElem (by omega))
    refine ⟨v, _, _, ?_, g2, List.getElem?_eq_getElem (by omega), List.getElem?_eq_getElem (by omega)⟩
    have : (off + j / sz) * sz + j % sz = off * sz + j := by
      rw [Nat.add_mul, Nat.add_assoc]; have := Nat.div_add_mod j sz; rw [Nat.mul_comm] at this; omega
    rw [← this]; exact g1
  refine ⟨⟨b, off * sz, none⟩, l.cap - off, (List.range (len * sz)).map fun j => ms.getD (off * sz + j) undef, ?_, by simp, fun j u hu => ?_, fun u hu => ?_, fun q hq => k5 q (List.mem_of_mem_drop (List.mem_of_mem_take hq)), fun i j q x h1 h2 => ?_⟩
  · have hne : ¬ l.cap = off := by omega
    simp only [Loc.sub, if_neg hne, Loc.addr, hb, Option.map_some, k3]
    rw [add_zero_spot]; simp
  · have hj : j < len * sz := by have := (List.getElem?_eq_some_iff.1 hu).1; simpa using this
    obtain ⟨v, q, x, g1, _⟩ := key j hj
    have : u = v := by
      have : some u = some v := by rw [← hu]; simp [hj, Array.getD_eq_getD_getElem?, g1]
      exact Option.some.inj this
    subst this
    rw [add_zero_spot]
    exact cell_hp hm g1
  · obtain ⟨j, hj⟩ := List.getElem?_of_mem hu
    have hjl : j < len * sz := by have := (List.getElem?_eq_some_iff.1 hj).1; simpa using this
    obtain ⟨v, q, x, g1, g2, _⟩ := key j hjl
    have : u = v := by
      have : some u = some v := by rw [← hj]; simp [hjl, Array.getD_eq_getD_getElem?, g1]
      exact Option.some.inj this
    subst this
    exact g2.one
  · have hil : i < len := by have := (List.getElem?_eq_some_iff.1 h1).1; simp at this; omega
    rw [List.getElem?_take, if_pos hil, List.getElem?_drop] at h1
    have hql : q.length = sz := k5 q (List.mem_of_getElem? h1)
    have hj : j < sz := by rw [← hql]; exact (List.getElem?_eq_some_iff.1 h2).1
    obtain ⟨v, g1, g2⟩ := hcell (off + i) j q x h1 h2
    have hlt : i * sz + j < len * sz := by
      have := Nat.mul_le_mul_right sz (show i + 1 ≤ len by omega)
      rw [Nat.succ_mul] at this; omega
    refine ⟨v, ?_, g2⟩
    have : off * sz + (i * sz + j) = (off + i) * sz + j := by rw [Nat.add_mul]; omega
    simp [hlt, Array.getD_eq_getD_getElem?, this, g1]
theorem ok_append_src {t e0 : TypeId} {x y : Operand} {i ei : TI} {d sz r n off len : Nat} {el : TypeId} {els : List (List D)} (hi : opIn k.nt (appCall x y t) = true) (ht : tiOf E.P t = some i) (hk : i.k = .slice e0) (he : tiOf E.P e0 = some ei) (hsz : ei.size = sz) (hz : ei.zero.length = ei.size) (hpos : 0 < sz) (hby : 0 < ei.bytes)
    (hx : slOf sz (evO s x) = some (true, [])) (hy : evO s y = .msl r n off len) :
    OpOk E k (appCall x y t) ty s { val := .msl d len 0 len, rh := some (r, .buf sz el els), wh := some (d, some (.buf sz e0 ((els.drop off).take len))), new := some d, cond := [n = els.length, off + len ≤ n, len * ei.bytes ≤ 140737488355328] } := by
  intro c Im ρ F H a w o ok hnt ha S ho hty hF hH hnew hc
  obtain ⟨c1, c2, c3, _⟩ := hc
  have h2 := slOf_ok hx (opIn_ev (x := x) S hnt hi hF (by simp [Op.operands, appCall, Call.operands]))
  have h3 := opIn_ev (x := y) S hnt hi hF (by simp [Op.operands, appCall, Call.operands])
  rw [hy] at h3
  obtain ⟨inf, dd, z, g1, g2, g3, rfl⟩ := tiOf_spec ht
  cases dd <;> simp only [kindOf] at hk <;> cases hk
  obtain ⟨einf, ed, ez, f1, f2, f3, rfl⟩ := tiOf_spec he
  simp only at hz hsz c3 hby
  have hzs : ez.cells.size = sz := by rw [← hsz]; simpa using hz
  have hx0 : ∃ a0, a.eval x = .slice a0 0 0 := by
    generalize hv : a.eval x = v at h2
    cases h2 with
    | nil _ _ a0 cap hcap => exact ⟨a0, by rw [hcap rfl]⟩
    | sl _ _ _ b o cap f hs hb hle ht hc hr => exact ⟨_, by rw [ht rfl]; rfl⟩
  obtain ⟨a0, hx0⟩ := hx0
  obtain ⟨l, hl', hro, hown⟩ := S.obj r _ (hH r _ rfl)
  generalize hv : a.eval y = v at h3
  cases h3 with
  | msl _ _ _ _ _ _ hp2 =>
    have hval := (hp2 l hl').2 (by rw [hro.2.2.2.1]; exact c1)
    have hlen : ((els.drop off).take len).length = len := by simp; omega
    by_cases h0 : len = 0
    · subst h0
      have hy2 : ∃ b2 c2, a.eval y = .slice b2 0 c2 := ⟨_, _, by rw [hv, hval]; rfl⟩
      obtain ⟨b2, c4, hy2⟩ := hy2
      have hrun := run_append_none (w := w) (ty := o.type) g2 f1 (base := a0) (b2 := b2) (n := 0) (cap := 0) (c := c4) (Nat.le_refl _)
      refine ⟨.slice a0 0 0, w, .inl (exec_append ho (by rw [hx0, hy2]; exact hrun)), Im, _, S.new (w' := w) (r := d) (l := { blk := none, isBuf := true, cap := 0, len := 0, sz, ad0 := a0 }) (o := .buf sz e0 ((els.drop off).take 0)) (Grows.refl _ _) (hnew d rfl) (by simp [Loc.fp]) ⟨rfl, rfl, rfl, by simp, by simp, .inl ⟨rfl, by simp, rfl⟩⟩, .msl _ _ _ _ _ rfl fun l hl => ?_⟩
      rw [upd_same] at hl; injection hl with hl; subst hl
      simp [Loc.sub, Loc.addr]
    · obtain ⟨ad, cap, news, hy2, n1, n2, n3, n4, n5⟩ := hro.newsBuf (off := off) (len := len) (by omega) hpos (by omega)
      obtain ⟨v', w', l', k1, k2, k3, k4, k5, k6, k7, k8⟩ := fresh_append (E := E) (ty := o.type) (c := cap) (ρ := upd ρ d none) (els := []) (els2 := (els.drop off).take len) (n := 0) (m := len) (a0 := a0) (olds := []) g2 f1 f3 hsz hzs hby rfl hlen.symm (by omega) (by simpa using c3) (by simp) (by simp) (fun _ => rfl) n1 n2 (by simpa using n4) (by simp) n5 (fun b hb => (S.imn b hb).1)
      refine ⟨v', w', .inl (exec_append ho (by rw [hx0, hv, hval, hy2]; exact k1)), Im, _, S.new (r := d) (l := l') (o := .buf sz e0 ([] ++ (els.drop off).take len)) k2 (hnew d rfl) (fun b hb => ?_) (k8.mono (fun _ h => h) (fun _ _ => rfl) (fun _ _ => rfl) (fun q hq => by simp [AObj.ment] at hq)), .msl _ _ _ _ _ (by rw [k7]; rfl) fun l1 hl1 => ?_⟩
      · rw [k3] at hb; simp at hb; subst hb; omega
      · rw [upd_same] at hl1; injection hl1 with hl1; subst hl1
        exact ⟨by omega, fun _ => by rw [k7, Nat.zero_add]⟩
theorem RD.tightV {h : Nat → Option Obj} {Im : Nat → Prop} {v : Value} {sz : Nat} {els : List (List D)} (H : RD h Im v (.sl true sz els)) : ∃ a, v = .slice a els.length els.length := by
  cases H with
  | nil _ _ a cap ht => exact ⟨a, by rw [ht rfl]; rfl⟩
  | sl _ _ _ b o cap f hs hb hle ht hc hr => exact ⟨_, by rw [ht rfl]⟩
theorem ok_append_tight {t e : TypeId} {x y : Operand} {i ei : TI} {d sz : Nat} {els els2 : List (List D)} {tight : Bool} (hi : opIn k.nt (appCall x y t) = true) (ht : tiOf E.P t = some i) (hk : i.k = .slice e) (he : tiOf E.P e = some ei) (hsz : ei.size = sz) (hz : ei.zero.length = ei.size) (hpos : 0 < sz) (hby : 0 < ei.bytes)
    (hx : slOf sz (evO s x) = some (true, els)) (hy : slOf sz (evO s y) = some (tight, els2)) :
    OpOk E k (appCall x y t) ty s { val := .msl d (els.length + els2.length) 0 (els.length + els2.length), wh := some (d, some (.buf sz e (els ++ els2))), new := some d, cond := [0 < els.length, 0 < els2.length, (els.length + els2.length) * ei.bytes ≤ 140737488355328] } := by
  intro c Im ρ F H a w o ok hnt ha S ho hty hF hH hnew hc
  obtain ⟨c0, c1, c2, _⟩ := hc
  have h2 := slOf_ok hx (opIn_ev (x := x) S hnt hi hF (by simp [Op.operands, appCall, Call.operands]))
  have h3 := slOf_ok hy (opIn_ev (x := y) S hnt hi hF (by simp [Op.operands, appCall, Call.operands]))
  obtain ⟨inf, dd, z, g1, g2, g3, rfl⟩ := tiOf_spec ht
  cases dd <;> simp only [kindOf] at hk <;> cases hk
  obtain ⟨einf, ed, ez, f1, f2, f3, rfl⟩ := tiOf_spec he
  simp only at hz hsz c2 hby
  have hzs : ez.cells.size = sz := by rw [← hsz]; simpa using hz
  rcases h2.news hpos with ⟨cap, h0', _⟩ | ⟨ad0, cap0, olds, hx2, m1, m2, m3, m4, m5⟩
  · rw [h0'] at c0; simp at c0
  rcases h3.news hpos with ⟨cap, h0', _⟩ | ⟨ad, cap, news, hy2, n1, n2, n3, n4, n5⟩
  · rw [h0'] at c1; simp at c1
  have hcap : cap0 = els.length := by
    obtain ⟨a1, h4⟩ := h2.tightV
    rw [hx2] at h4
    injection h4
  subst hcap
  obtain ⟨v', w', l', k1, k2, k3, k4, k5, k6, k7, k8⟩ := fresh_append (E := E) (ty := o.type) (c := cap) (ρ := upd ρ d none) (els := els) (els2 := els2) (n := els.length) (m := els2.length) (a0 := some ad0) (olds := olds) g2 f1 f3 hsz hzs hby rfl rfl c1 c2 m1 (fun j u hj a1 e1 => by injection e1 with e1; subst e1; exact m2 j u hj) (by simp) n1 n2 (fun q hq => (List.mem_append.1 hq).elim (m4 q) (n4 q)) m5 n5 (fun b hb => (S.imn b hb).1)
  refine ⟨v', w', .inl (exec_append ho (by rw [hx2, hy2]; exact k1)), Im, _, S.new (r := d) (l := l') (o := .buf sz e (els ++ els2)) k2 (hnew d rfl) (fun b hb => ?_) (k8.mono (fun _ h => h) (fun _ _ => rfl) (fun _ _ => rfl) (fun q hq => by simp [AObj.ment] at hq)), .msl _ _ _ _ _ (by rw [k7]; rfl) fun l1 hl1 => ?_⟩
  · rw [k3] at hb; simp at hb; subst hb; omega
  · rw [upd_same] at hl1; injection hl1 with hl1; subst hl1
    exact ⟨by omega, fun _ => k7⟩
def opAppSrc (tab : List (Nat × TI)) (s : St) (d : Nat) (x y : Operand) (t : TypeId) : Option Eff := match lkT t tab with
  | none => none
  | some i => match i.k with
    | .slice e => match lkT e tab with
      | none => none
      | some ei => match Nat.beq ei.zero.length ei.size, Nat.blt 0 ei.size, Nat.blt 0 ei.bytes with
        | true, true, true => match slOf ei.size (evO s x), evO s y with
          | some (true, []), .msl r n off len => match lkH r s.h with
            | some (.buf sz el els) => match Nat.beq ei.size sz with
              | true => some { val := .msl d len 0 len, rh := some (r, .buf sz el els), wh := some (d, some (.buf sz e ((els.drop off).take len))), new := some d, cond := [n = els.length, off + len ≤ n, len * ei.bytes ≤ 140737488355328] }
              | false => none
            | _ => none
          | some (true, els), z => match slOf ei.size z with
            | some (_, els2) => some { val := .msl d (els.length + els2.length) 0 (els.length + els2.length), wh := some (d, some (.buf ei.size e (els ++ els2))), new := some d, cond := [0 < els.length, 0 < els2.length, (els.length + els2.length) * ei.bytes ≤ 140737488355328] }
            | none => none
          | _, _ => none
        | _, _, _ => none
    | _ => none
theorem opAppSrc_ok (htab : TabOk E.P tab) {t : TypeId} {x y : Operand} {d : Nat} (hi : opIn k.nt (appCall x y t) = true) (h : opAppSrc tab s d x y t = some e) : Good E k (appCall x y t) ty s e := by
  unfold opAppSrc at h
  split at h
  · simp at h
  rename_i i ht
  have ht := htab.at ht
  split at h
  · rename_i e0 hk
    split at h
    · simp at h
    rename_i ei he
    have he := htab.at he
    split at h
    · rename_i hz hpos hby
      split at h
      · rename_i r n off len hx hy
        split at h
        · rename_i sz el els hr
          split at h
          · rename_i hs
            have hs := Nat.eq_of_beq_eq_true hs
            subst hs
            injection h with h; subst h
            exact ⟨ok_append_src hi ht hk he rfl (Nat.eq_of_beq_eq_true hz) (by simpa using hpos) (by simpa using hby) hx hy, by simp [RhOk, hr]⟩
          · simp at h
        · simp at h
      · rename_i els z hx _
        split at h
        · rename_i tt els2 hy
          injection h with h; subst h
          exact ⟨ok_append_tight hi ht hk he rfl (Nat.eq_of_beq_eq_true hz) (by simpa using hpos) (by simpa using hby) hx hy, by simp [RhOk]⟩
        · simp at h
      · simp at h
    · simp at h
  · simp at h
end ops
end Go.Ax

namespace Go.Ax
section ops
variable {E : Env} {k : Kn} {ty : TypeId} {s : St} {tab : List (Nat × TI)} {e : Eff}
def TK.isIf : TK → Bool
  | .iface => true
  | _ => false
theorem concrete_of {P : Program} {t : TypeId} {i : TI} (ht : tiOf P t = some i) (hk : i.k.isIf = false) : ∃ d, P.underlying t = some d ∧ (∀ ms, d ≠ .interface ms) ∧ P.concrete t = true := by
  obtain ⟨inf, d, z, g1, g2, g3, rfl⟩ := tiOf_spec ht
  refine ⟨d, g2, fun ms e => ?_, ?_⟩
  · subst e; simp [kindOf, TK.isIf] at hk
  · unfold Program.concrete
    rw [g2]
    cases d <;> first | rfl | (simp [kindOf, TK.isIf] at hk)
theorem ok_makeIface {t : TypeId} {x : Operand} {i : TI} (hi : opIn k.nt (.makeInterface t x) = true) (ht : tiOf E.P t = some i) (hk : i.k.isIf = false) : OpOk E k (.makeInterface t x) ty s { val := .ifc t (evO s x) } :=
  .pure [] none fun _ c Im ρ F H a w o _ hn S ho _ hF _ => by
    have h1 := opIn_ev (x := x) S hn hi hF (by simp [Op.operands])
    obtain ⟨d, g2, g3, g4⟩ := concrete_of ht hk
    exact ⟨.iface t (a.eval x), by simp [execOp, ho, run_makeInterface w t (a.eval x) g4], .ifc _ _ _ h1⟩
theorem ok_typeAssert {it t : TypeId} {x : Operand} {i : TI} {y : AV} (hi : opIn k.nt (.typeAssert x it t true) = true) (ht : tiOf E.P t = some i) (hk : i.k.isIf = false) (hx : evO s x = .ifc t y) : OpOk E k (.typeAssert x it t true) ty s { val := .tup [y, .d (.v (.bool true))] } :=
  .pure [] none fun _ c Im ρ F H a w o _ hn S ho _ hF _ => by
    have h1 := opIn_ev (x := x) S hn hi hF (by simp [Op.operands])
    rw [hx] at h1
    obtain ⟨d, g2, g3, g4⟩ := concrete_of ht hk
    generalize hv : a.eval x = v at h1
    cases h1 with
    | ifc _ v0 _ hy =>
      refine ⟨.tuple #[v0, .bool true], ?_, .tup _ _ rfl fun i v x e1 e2 => ?_⟩
      · have : (Instr.typeAssert (.iface t v0) it t true).run E.P w = .ok (.tuple #[v0, .bool true]) w := by
          unfold Instr.typeAssert
          simp only [Sem.run_bind, run_underlying g2, Result.andThen_ok]
          cases d <;> first | exact absurd rfl (g3 _) | simp
        simp [execOp, ho, hv, this]
      · match i with
        | 0 => simp at e1 e2; subst e1; subst e2; exact hy
        | 1 => simp at e1 e2; subst e1; subst e2; exact RA.intv _ rfl
        | n + 2 => simp at e1
def opIfc (tab : List (Nat × TI)) (s : St) (op : Op) : Option Eff := match op with
  | .makeInterface t x => match lkT t tab with
    | some i => match i.k.isIf with
      | false => some { val := .ifc t (evO s x) }
      | true => none
    | none => none
  | .typeAssert x _ t true => match lkT t tab, evO s x with
    | some i, .ifc t' y => match i.k.isIf, Nat.beq t' t with
      | false, true => some { val := .tup [y, .d (.v (.bool true))] }
      | _, _ => none
    | _, _ => none
  | _ => none
theorem opIfc_ok (htab : TabOk E.P tab) {op : Op} (hi : opIn k.nt op = true) (h : opIfc tab s op = some e) : Good E k op ty s e := by
  unfold opIfc at h
  split at h
  · split at h
    · rename_i i ht
      split at h
      · rename_i hk; injection h with h; subst h; exact ⟨ok_makeIface hi (htab.at ht) hk, by simp [RhOk]⟩
      · simp at h
    · simp at h
  · split at h
    · rename_i i t' y ht hx
      split at h
      · rename_i hk hb
        have := Nat.eq_of_beq_eq_true hb; subst this
        injection h with h; subst h
        exact ⟨ok_typeAssert hi (htab.at ht) hk hx, by simp [RhOk]⟩
      · simp at h
    · simp at h
  · simp at h
def clearCall (x : Operand) (t : TypeId) : Op := .call { callee := .builtin .clear, args := #[x], argTypes := #[t] }
theorem size_zeroC (z : Array Value) (n : Nat) : (Builtin.zeroCells z n).size = n * z.size := by simp [Builtin.zeroCells]
theorem zeroC_at {z : Array Value} {n j : Nat} (hj : j < n * z.size) : (Builtin.zeroCells z n)[j]? = some z[j % z.size]! := by
  simp [Builtin.zeroCells, hj]
theorem ok_clear {t e0 : TypeId} {x : Operand} {i ei : TI} {r n off len sz : Nat} {el : TypeId} {els : List (List D)} (hi : opIn k.nt (clearCall x t) = true) (ht : tiOf E.P t = some i) (hk : i.k = .slice e0) (he : tiOf E.P e0 = some ei) (hz : ei.zero.length = ei.size) (h1 : ei.zero.all (·.oneCell') = true) (hx : evO s x = .msl r n off len) :
    OpOk E k (clearCall x t) ty s { val := .tup [], rh := some (r, .buf sz el els), wh := some (r, some (.buf sz el (els.take off ++ List.replicate len (ei.zero.map .v) ++ els.drop (off + len)))), cond := [n = els.length, off + len ≤ els.length, sz = ei.size, 0 < sz] } := by
  intro c Im ρ F H a w o ok hnt ha S ho hty hF hH hnew hcd
  obtain ⟨c1, c2, c3, c4, _⟩ := hcd
  have h2 := opIn_ev (x := x) S hnt hi hF (by simp [clearCall, Op.operands, Call.operands])
  rw [hx] at h2
  generalize hv : a.eval x = v at h2
  cases h2 with
  | msl _ _ _ _ _ _ hp2 =>
    obtain ⟨lc, hl', hro, hown⟩ := S.obj r _ (hH r _ rfl)
    obtain ⟨k1, k2, k3, k4, k5, k6⟩ := hro
    have hvs := (hp2 lc hl').2 (by omega)
    obtain ⟨inf, dd, z0, g1, g2, g3, rfl⟩ := tiOf_spec ht
    cases dd <;> simp only [kindOf] at hk <;> cases hk
    obtain ⟨einf, ed, ez, f1, f2, f3, rfl⟩ := tiOf_spec he
    simp only at hz h1 c3
    have hzs : ez.cells.size = einf.size := by simpa using hz
    have hzv : (zeroValue e0).run E.P w = .ok ez w := by simp [zeroValue, typeInfo, f1, f3]
    have hrow : (ez.cells.toList.map D.v).length = sz := by simp [hzs, c3]
    have hlens : (els.take off ++ List.replicate len (ez.cells.toList.map D.v) ++ els.drop (off + len)).length = els.length := by simp; omega
    rcases Nat.eq_zero_or_pos len with h0 | hpos
    · subst h0
      have he2 : els.take off ++ List.replicate 0 (ez.cells.toList.map D.v) ++ els.drop (off + 0) = els := by simp
      rw [he2]
      refine ⟨.tuple #[], w, .inl ?_, Im, ρ, ?_, .tup _ _ rfl (by simp)⟩
      · obtain ⟨ad, cp, hs0⟩ : ∃ ad cp, v = .slice ad 0 cp := ⟨_, _, hvs⟩
        rw [hs0] at hv
        simp only [execOp, ho, clearCall]
        cases ad <;> simp [resolve, invoke, builtin, hv, Builtin.clear_, run_underlying g2]
      · have : updO H (some (r, some (AObj.buf sz el els))) = H := by
          funext q
          by_cases e : q = r
          · subst e; simp [updO, hH]
          · simp [updO, upd_ne _ _ e]
        rw [this]; exact S
    · rcases k6 with ⟨h0, h00, _⟩ | ⟨b, ms, hb, hm, hcap1, hcap2, hsz, hcell⟩
      · subst h00; simp at c2; omega
      have hfit : off * sz + len * sz ≤ ms.size := by
        rw [hsz, ← Nat.add_mul]; exact Nat.mul_le_mul_right sz (by omega)
      have hsl : v = .slice (some ⟨b, off * sz, none⟩) len (lc.cap - off) := by
        rw [hvs, Loc.sub, if_neg (by omega), Loc.addr, hb]
        simp [Addr.add, k3]
        exact fun h => h.symm
      have hst := run_storeCells_at (P := E.P) b (off * sz) el (Builtin.zeroCells ez.cells len).toList 0 ms w hm (by simp [size_zeroC, hzs, ← c3]; omega) (fun u hu => by
        obtain ⟨j, hj⟩ := List.getElem?_of_mem hu
        have hj2 : (Builtin.zeroCells ez.cells len)[j]? = some u := by simpa using hj
        have hjl : j < len * ez.cells.size := by have := (Array.getElem?_eq_some_iff.1 hj2).1; rwa [size_zeroC] at this
        rw [zeroC_at hjl] at hj2
        injection hj2 with hj2
        subst hj2
        have hmod : j % ez.cells.size < ez.cells.size := Nat.mod_lt _ (by omega)
        rw [getElem!_pos ez.cells _ hmod]
        exact List.all_eq_true.1 h1 _ (by simp))
      simp only [Nat.add_zero] at hst
      generalize hms : (ms.toList.take (off * sz) ++ (Builtin.zeroCells ez.cells len).toList ++ ms.toList.drop (off * sz + (Builtin.zeroCells ez.cells len).toList.length)).toArray = ms2 at hst
      have hfp : lc.fp = [b] := by simp [Loc.fp, hb, k2]
      have hg : Grows w (w.setRow b ms2) (fun q => q ∈ lc.fp) := by rw [hfp]; simpa using Grows.setRow w b _
      have hm2 := setRow_heap w b ms ms2 el _ hm
      have hI : ∀ b', Im b' → hp (w.setRow b ms2) b' = hp w b' := fun b' hb' => hg.block b' (S.imn b' hb').1 fun h => (hown b' h).2.1 hb'
      have hzl : (Builtin.zeroCells ez.cells len).toList.length = len * sz := by simp [size_zeroC, hzs, c3]
      have hsz2 : ms2.size = ms.size := by rw [← hms]; simp only [List.size_toArray, List.length_append, List.length_take, List.length_drop, hzl, Array.length_toList]; omega
      refine ⟨.tuple #[], _, .inl ?_, Im, _, S.chg (r := r) (l := lc) (l' := lc) (o' := .buf sz el (els.take off ++ List.replicate len (ez.cells.toList.map D.v) ++ els.drop (off + len))) (hH r _ rfl) hl' hg (.inl rfl) (fun q hq => .inl hq) ?_, .tup _ _ rfl (by simp)⟩
      · obtain ⟨m, rfl⟩ : ∃ m, len = m + 1 := ⟨len - 1, by omega⟩
        simp only [execOp, ho, clearCall]
        simp [resolve, invoke, builtin, hv, hsl, Builtin.clear_, run_underlying g2, hzv, hst]
      · rw [upd_self hl']
        refine ⟨k1, k2, k3, by rw [hlens]; exact k4, fun q hq => ?_, .inr ⟨b, ms2, hb, hm2, by rw [hlens]; exact hcap1, hcap2, by omega, fun ii j el' x e1 e2 => ?_⟩⟩
        · rcases List.mem_append.1 hq with h | h
          · rcases List.mem_append.1 h with h | h
            · exact k5 q (List.mem_of_mem_take h)
            · rw [List.mem_replicate] at h; rw [h.2]; exact hrow
          · exact k5 q (List.mem_of_mem_drop h)
        · have hget : ∀ p : Nat, ms2[p]? = (ms.toList.take (off * sz) ++ (Builtin.zeroCells ez.cells len).toList ++ ms.toList.drop (off * sz + len * sz))[p]? := fun p => by rw [← hms, List.getElem?_toArray, hzl]
          have hout : ∀ p : Nat, (p < off * sz ∨ off * sz + len * sz ≤ p) → ms2[p]? = ms[p]? := fun p hp => by
            have hq1 : off * sz ≤ ms.toList.length := by simp; omega
            rw [hget]
            rcases hp with hp | hp
            · rw [List.append_assoc, List.getElem?_append_left (by simp; omega), List.getElem?_take, if_pos hp]; simp
            · rw [List.getElem?_append_right (by simp only [List.length_append, List.length_take, hzl]; omega), List.getElem?_drop]
              have : off * sz + len * sz + (p - (List.take (off * sz) ms.toList ++ (Builtin.zeroCells ez.cells len).toList).length) = p := by simp only [List.length_append, List.length_take, hzl]; omega
              rw [this]; simp
          have hin : ∀ p : Nat, off * sz ≤ p → p < off * sz + len * sz → ms2[p]? = some ez.cells[(p - off * sz) % ez.cells.size]! := fun p h1 h2 => by
            rw [hget, List.append_assoc, List.getElem?_append_right (by simp; omega), List.getElem?_append_left (by simp only [List.length_take, hzl, Array.length_toList]; omega)]
            have e : p - (List.take (off * sz) ms.toList).length = p - off * sz := by simp; omega
            rw [e]
            have := zeroC_at (z := ez.cells) (n := len) (j := p - off * sz) (by rw [hzs, ← c3]; omega)
            simpa using this
          have hj : j < sz := by
            have hmem := List.mem_of_getElem? e1
            have hl : el'.length = sz := by
              rcases List.mem_append.1 hmem with h | h
              · rcases List.mem_append.1 h with h | h
                · exact k5 _ (List.mem_of_mem_take h)
                · rw [List.mem_replicate] at h; rw [h.2]; exact hrow
              · exact k5 _ (List.mem_of_mem_drop h)
            rw [← hl]; exact (List.getElem?_eq_some_iff.1 e2).1
          by_cases h3 : ii < off
          · rw [List.append_assoc, List.getElem?_append_left (by simp; omega), List.getElem?_take, if_pos h3] at e1
            obtain ⟨v', q1, q2⟩ := hcell ii j el' x e1 e2
            refine ⟨v', ?_, q2.mono (fun _ h => h) hI⟩
            rw [hout _ (.inl ?_)]
            · exact q1
            · have := Nat.mul_le_mul_right sz (show ii + 1 ≤ off by omega)
              rw [Nat.succ_mul] at this; omega
          · by_cases h4 : ii < off + len
            · rw [List.getElem?_append_left (by simp; omega), List.getElem?_append_right (by simp; omega)] at e1
              have e3 : el' = ez.cells.toList.map D.v := by
                rw [List.getElem?_replicate] at e1
                split at e1
                · injection e1 with e1; exact e1.symm
                · simp at e1
              subst e3
              simp only [List.getElem?_map, Option.map_eq_some_iff] at e2
              obtain ⟨u, hu, rfl⟩ := e2
              have hlo : off * sz ≤ ii * sz := Nat.mul_le_mul_right sz (by omega)
              have hhi : ii * sz + j < off * sz + len * sz := by
                have := Nat.mul_le_mul_right sz (show ii + 1 ≤ off + len by omega)
                rw [Nat.succ_mul, Nat.add_mul] at this; omega
              refine ⟨_, hin _ (by omega) hhi, ?_⟩
              have e5 : ii * sz + j - off * sz = (ii - off) * sz + j := by rw [Nat.sub_mul]; omega
              have hmod : (ii * sz + j - off * sz) % ez.cells.size = j := by rw [e5, hzs, ← c3, Nat.mul_comm, Nat.mul_add_mod, Nat.mod_eq_of_lt hj]
              have hu2 : ez.cells[j]! = u := by
                have : ez.cells[j]? = some u := by simpa using hu
                simp [Array.getElem!_eq_getD, Array.getD_eq_getD_getElem?, this]
              rw [hmod, hu2]
              exact .v _ (List.all_eq_true.1 h1 u (List.mem_of_getElem? hu))
            · rw [List.getElem?_append_right (by simp; omega), List.getElem?_drop] at e1
              have e6 : off + len + (ii - (els.take off ++ List.replicate len (ez.cells.toList.map D.v)).length) = ii := by simp; omega
              rw [e6] at e1
              obtain ⟨v', q1, q2⟩ := hcell ii j el' x e1 e2
              refine ⟨v', ?_, q2.mono (fun _ h => h) hI⟩
              rw [hout _ (.inr ?_)]
              · exact q1
              · have := Nat.mul_le_mul_right sz (show off + len ≤ ii by omega)
                rw [Nat.add_mul] at this; omega
def opClear (tab : List (Nat × TI)) (s : St) (x : Operand) (t : TypeId) : Option Eff := match lkT t tab, evO s x with
  | some i, .msl r n off len => match i.k, lkH r s.h with
    | .slice e0, some (.buf sz el els) => match lkT e0 tab with
      | some ei => match Nat.beq ei.zero.length ei.size, ei.zero.all (·.oneCell') with
        | true, true => some { val := .tup [], rh := some (r, .buf sz el els), wh := some (r, some (.buf sz el (els.take off ++ List.replicate len (ei.zero.map .v) ++ els.drop (off + len)))), cond := [n = els.length, off + len ≤ els.length, sz = ei.size, 0 < sz] }
        | _, _ => none
      | none => none
    | _, _ => none
  | _, _ => none
theorem opClear_ok (htab : TabOk E.P tab) {x : Operand} {t : TypeId} (hi : opIn k.nt (clearCall x t) = true) (h : opClear tab s x t = some e) : Good E k (clearCall x t) ty s e := by
  unfold opClear at h
  split at h
  · rename_i i r n off len ht hx
    split at h
    · rename_i e0 sz el els hk hr
      split at h
      · rename_i ei he
        split at h
        · rename_i g1 g2
          injection h with h; subst h
          exact ⟨ok_clear hi (htab.at ht) hk (htab.at he) (Nat.eq_of_beq_eq_true g1) g2 hx, by simp [RhOk, hr]⟩
        · simp at h
      · simp at h
    · simp at h
  · simp at h
end ops
end Go.Ax

namespace Go.Ax
section ops
variable {E : Env} {k : Kn} {ty : TypeId} {s : St} {tab : List (Nat × TI)} {e : Eff}
def fillA (place : Nat → Option (Nat × Nat)) (cells : List AV) : List (Nat × List AV) → Option (List AV)
  | [] => some cells
  | (i, l) :: r => match place i with
    | none => none
    | some (off, _) => fillA place (splice cells l off) r
def fillAC (place : Nat → Option (Nat × Nat)) (n : Nat) : List (Nat × List AV) → Prop
  | [] => True
  | (i, l) :: r => (∃ off sz, place i = some (off, sz) ∧ l.length = sz ∧ off + sz ≤ n) ∧ fillAC place n r
theorem fillA_ok {R : Value → AV → Prop} {place : Nat → Option (Nat × Nat)} : ∀ {ps : List (Nat × List AV)} {vs : List (Nat × Value)} {cells : List AV} {ms : Array Value} {n : Nat} {out : List AV}, fillA place cells ps = some out → fillAC place n ps → ms.size = n → Rel2 R ms.toList cells →
    vs.length = ps.length → (∀ (i : Nat) (p : Nat × List AV) (v : Nat × Value), ps[i]? = some p → vs[i]? = some v → v.1 = p.1 ∧ Rel2 R v.2.cells.toList p.2) → ∃ ms', Instr.fill place ms vs = some ms' ∧ ms'.size = n ∧ Rel2 R ms'.toList out
  | [], [], cells, ms, n, out, h, _, hn, hr, _, _ => by simp [fillA] at h; subst h; exact ⟨ms, rfl, hn, hr⟩
  | [], v :: vs, _, _, _, _, _, _, _, _, hl, _ => by simp at hl
  | p :: ps, [], _, _, _, _, _, _, _, _, hl, _ => by simp at hl
  | (i, l) :: ps, (i', v) :: vs, cells, ms, n, out, h, hc, hn, hr, hl, hv => by
    obtain ⟨⟨off, sz, hp, hsz, hfit⟩, hc'⟩ := hc
    obtain ⟨e1, e2⟩ := hv 0 (i, l) (i', v) rfl rfl
    simp only at e1; subst e1
    simp only [fillA, hp] at h
    have hvl : v.cells.size = sz := by have := e2.1; simp at this; omega
    have hsp := foldl_set_splice v.cells.toList off ms (by simp; omega)
    have hr' := hr.splice e2 off
    rw [← hsp] at hr'
    obtain ⟨ms', g1, g2, g3⟩ := fillA_ok (vs := vs) (ms := (v.cells.toList.zipIdx.foldl (fun (cs : Array Value) (p : Value × Nat) => cs.setIfInBounds (off + p.2) p.1) ms)) h hc' (by
      have : ((v.cells.toList.zipIdx.foldl (fun (cs : Array Value) (p : Value × Nat) => cs.setIfInBounds (off + p.2) p.1) ms)).toList.length = n := by rw [hsp]; simp; omega
      simpa using this) hr' (by simpa using hl) (fun j p u h1 h2 => hv (j + 1) p u (by simpa using h1) (by simpa using h2))
    refine ⟨ms', ?_, g2, g3⟩
    have hcond : ¬ (v.cells.size ≠ sz ∨ off + v.cells.size > ms.size) := by omega
    simp only [Instr.fill, hp]
    rw [if_neg (by simpa using hcond)]
    rw [← g1]
    congr 1
    rw [← Array.foldl_toList]
    simp
def acells (x : AV) : Option (List AV) := match x.hasCells with
  | true => some x.cells
  | false => none
theorem acells_ok {h : Nat → Option Obj} {Im : Nat → Prop} {ρ : Nat → Option Loc} {v : Value} {x : AV} {l : List AV} (H : RA h Im ρ v x) (hx : acells x = some l) : Rel2 (RA h Im ρ) v.cells.toList l := by
  unfold acells at hx
  split at hx
  · rename_i hc; injection hx with hx; subst hx; exact H.cells hc
  · simp at hx
def partsA (s : St) : List (Nat × Operand) → Option (List (Nat × List AV))
  | [] => some []
  | (i, x) :: r => match acells (evO s x), partsA s r with
    | some l, some l' => some ((i, l) :: l')
    | _, _ => none
theorem partsA_spec {s : St} : ∀ {ps : List (Nat × Operand)} {l : List (Nat × List AV)}, partsA s ps = some l → l.length = ps.length ∧ ∀ (i : Nat) (p : Nat × Operand) (q : Nat × List AV), ps[i]? = some p → l[i]? = some q → q.1 = p.1 ∧ acells (evO s p.2) = some q.2
  | [], l, h => by simp [partsA] at h; subst h; exact ⟨rfl, by simp⟩
  | (i, x) :: r, l, h => by
    simp only [partsA] at h
    split at h
    · rename_i l1 l2 h1 h2
      injection h with h; subst h
      obtain ⟨g1, g2⟩ := partsA_spec h2
      refine ⟨by simp [g1], fun j p q hp hq => ?_⟩
      cases j with
      | zero => simp at hp hq; subst hp; subst hq; exact ⟨rfl, h1⟩
      | succ j => exact g2 j p q (by simpa using hp) (by simpa using hq)
    · simp at h
theorem ok_build_refs {tab : List (Nat × TI)} (htab : TabOk E.P tab) {t : TypeId} {parts : Array (Nat × Operand)} {i : TI} {fs : List (Nat × TypeId)} {ps : List (Nat × List AV)} {out : List AV} (hi : opIn k.nt (.build t parts) = true) (ht : lkT t tab = some i) (hk : i.k = .struct fs)
    (hall : fs.all (fun p => (lkT p.2 tab).isSome) = true) (hz : i.zero.all (·.oneCell') = true) (hps : partsA s parts.toList = some ps) (ho : fillA (placeOf tab i) (i.zero.map fun v => .d (.v v)) ps = some out) :
    OpOk E k (.build t parts) ty s { val := .agg out, cond := [fillAC (placeOf tab i) i.zero.length ps] } :=
  .pure _ none fun hc c Im ρ F H a w o _ hn S ho' _ hF _ => by
    have hti := htab.at ht
    obtain ⟨inf, d, z, g1, g2, g3, he⟩ := tiOf_spec hti
    have hk' : kindOf d = .struct fs := by rw [he] at hk; exact hk
    cases d <;> simp only [kindOf] at hk' <;> cases hk'
    rename_i flds
    obtain ⟨hlen, hspec⟩ := partsA_spec hps
    have hzl : i.zero = z.cells.toList := by rw [he]
    have hzr : Rel2 (RA (hp w) Im ρ) z.cells.toList (i.zero.map fun v => .d (.v v)) := by
      refine ⟨by simp [hzl], fun j v x hv hx => ?_⟩
      simp only [List.getElem?_map, Option.map_eq_some_iff] at hx
      obtain ⟨u, hu, rfl⟩ := hx
      rw [hzl, hv] at hu; injection hu with hu; subst hu
      exact .d _ _ (.v _ (List.all_eq_true.1 hz v (by rw [hzl]; exact List.mem_of_getElem? hv)))
    have hplace : placeOf tab i = fun j => ((flds.toList.map fun (f : Field) => (f.offset, ((lkT f.type tab).map (·.size)).getD 0)).toArray)[j]? := by
      funext j
      simp only [placeOf, hk, List.getElem?_map]
      have : ((flds.toList.map fun (f : Field) => (f.offset, ((lkT f.type tab).map (·.size)).getD 0)).toArray)[j]? = (flds.toList[j]?).map fun (f : Field) => (f.offset, ((lkT f.type tab).map (·.size)).getD 0) := by simp
      rw [this]
      cases hj : flds.toList[j]? with
      | none => simp
      | some f =>
        have hm : (f.offset, f.type) ∈ flds.toList.map fun f => (f.offset, f.type) := List.mem_map.2 ⟨f, List.mem_of_getElem? hj, rfl⟩
        have := List.all_eq_true.1 hall _ hm
        simp only [Option.map_some]
        cases hq : lkT f.type tab with
        | none => simp [hq] at this
        | some ti => simp
    obtain ⟨ms, f1, f2, f3⟩ := fillA_ok (R := RA (hp w) Im ρ) (place := placeOf tab i) (ps := ps) (vs := (parts.map fun (j, x) => (j, a.eval x)).toList) (cells := i.zero.map fun v => .d (.v v)) (ms := z.cells) (n := i.zero.length) ho hc.1 (by rw [hzl]; simp) hzr (by simp [hlen]) (fun j p v hp1 hv1 => by
      have hpl : j < parts.toList.length := by rw [← hlen]; exact (List.getElem?_eq_some_iff.1 hp1).1
      have hpj : parts.toList[j]? = some parts.toList[j] := List.getElem?_eq_getElem hpl
      obtain ⟨e1, e2⟩ := hspec j _ p hpj hp1
      have hv2 : v = ((parts.toList[j]).1, a.eval (parts.toList[j]).2) := by
        have : (parts.map fun (j, x) => (j, a.eval x)).toList[j]? = (parts.toList[j]?).map fun p => (p.1, a.eval p.2) := by simp
        rw [this, hpj] at hv1; simpa using hv1.symm
      subst hv2
      refine ⟨e1.symm, acells_ok (opIn_ev (x := (parts.toList[j]).2) S hn hi hF ?_) e2⟩
      simp only [Op.operands, List.mem_map]
      exact ⟨parts.toList[j], List.getElem_mem hpl, rfl⟩)
    refine ⟨.agg ms, ?_, .agg ms out (by have := f3.1; simpa using this) fun j v x h1 h2 => f3.2 j v x (by simpa using h1) h2⟩
    have hm : ∀ f ∈ flds.toList, ∃ ti, lkT f.type tab = some ti := fun f hf => by
      have := List.all_eq_true.1 hall (f.offset, f.type) (List.mem_map.2 ⟨f, hf, rfl⟩)
      cases hq : lkT f.type tab with
      | none => simp [hq] at this
      | some ti => exact ⟨ti, rfl⟩
    have hmap : (flds.mapM (m := Sem) fun (f : Field) => do pure (f.offset, ← sizeOf f.type)).run E.P w = .ok (flds.toList.map fun f => (f.offset, ((lkT f.type tab).map (·.size)).getD 0)).toArray w := by
      rw [Array.mapM_eq_mapM_toList, Sem.run_map, run_mapM_places htab flds.toList hm]; rfl
    rw [hplace] at f1
    simp only [execOp, ho', Instr.build, Sem.run_bind, zeroValue, typeInfo, g1, g3, Result.andThen_ok, run_underlying g2, hmap, run_program, Sem.run_pure]
    rw [f1]
    simp
def opBuildA (tab : List (Nat × TI)) (s : St) (t : TypeId) (parts : Array (Nat × Operand)) : Option Eff := match lkT t tab with
  | none => none
  | some i => match i.k with
    | .struct fs => match fs.all (fun p => (lkT p.2 tab).isSome), i.zero.all (·.oneCell'), partsA s parts.toList with
      | true, true, some ps => match fillA (placeOf tab i) (i.zero.map fun v => .d (.v v)) ps with
        | some out => some { val := .agg out, cond := [fillAC (placeOf tab i) i.zero.length ps] }
        | none => none
      | _, _, _ => none
    | _ => none
theorem opBuildA_ok (htab : TabOk E.P tab) {t : TypeId} {parts : Array (Nat × Operand)} (hi : opIn k.nt (.build t parts) = true) (h : opBuildA tab s t parts = some e) : Good E k (.build t parts) ty s e := by
  unfold opBuildA at h
  split at h
  · simp at h
  rename_i i ht
  split at h
  · rename_i fs hk
    split at h
    · rename_i ps h1 h2 h3
      split at h
      · rename_i out ho
        injection h with h; subst h
        exact ⟨ok_build_refs htab hi ht hk h1 h2 h3 ho, by simp [RhOk]⟩
      · simp at h
    · simp at h
  · simp at h
theorem ok_index_arr {t e0 : TypeId} {x ix : Operand} {i ei : TI} {n esz : Nat} {cs : List D} {ik : IntKind} {j : Int} (hi : opIn k.nt (.index t x ix) = true) (ht : tiOf E.P t = some i) (hk : i.k = .array n e0) (he : tiOf E.P e0 = some ei) (ha : ei.k.agg = false) (h1 : ei.size = 1)
    (hx : evO s x = .dagg cs) (hj : evO s ix = .d (.v (.int ik j))) : OpOk E k (.index t x ix) ty s { val := .d (forceS ei.k esz (cs.getD j.toNat (.v undef))), cond := [0 ≤ j, j < n, j.toNat < cs.length, has ei.k esz (cs.getD j.toNat (.v undef))] } :=
  .pure _ none fun hc c Im ρ F H a w o _ hn S ho _ hF _ => by
    have h2 := opIn_ev (x := x) S hn hi hF (by simp [Op.operands])
    have h3 := opIn_ev (x := ix) S hn hi hF (by simp [Op.operands])
    rw [hx] at h2
    rw [hj] at h3
    generalize hv : a.eval x = v at h2
    obtain ⟨c1, c2, c3, c4, _⟩ := hc
    cases h2 with
    | dagg ms _ hl hr =>
      have hp := run_part (w := w) he (fun _ => h1) (cs := ms) (off := j.toNat * ei.size) (by rw [h1]; omega)
      have hlm : j.toNat < ms.size := by omega
      refine ⟨ms.getD j.toNat undef, ?_, ?_⟩
      · obtain ⟨inf, d, z, g1, g2, g3, rfl⟩ := tiOf_spec ht
        cases d <;> simp only [kindOf] at hk <;> cases hk
        rw [ha, h1] at hp
        simp only [Bool.false_eq_true, if_false, Nat.mul_one] at hp
        simp [execOp, ho, hv, h3.v, Instr.index, asIntOf, run_underlying g2, c1, c2, run_sizeOf he, h1, hp]
      · rw [forceS_eq]
        refine .d _ _ (RD.force c4 (hr j.toNat _ _ ?_ ?_))
        · simp [Array.getD, hlm]
        · simp [List.getD, List.getElem?_eq_getElem c3]
def opIdxA (tab : List (Nat × TI)) (s : St) (t : TypeId) (x ix : Operand) : Option Eff := match lkT t tab with
  | none => none
  | some i => match i.k with
    | .array n e0 => match lkT e0 tab, evO s x, evO s ix with
      | some ei, .dagg cs, .d (.v (.int _ j)) => match ei.k.agg, Nat.beq ei.size 1 with
        | false, true => some { val := .d (forceS ei.k (eszOf tab ei) (cs.getD j.toNat (.v undef))), cond := [0 ≤ j, j < n, j.toNat < cs.length, has ei.k (eszOf tab ei) (cs.getD j.toNat (.v undef))] }
        | _, _ => none
      | _, _, _ => none
    | _ => none
theorem opIdxA_ok (htab : TabOk E.P tab) {t : TypeId} {x ix : Operand} (hi : opIn k.nt (.index t x ix) = true) (h : opIdxA tab s t x ix = some e) : Good E k (.index t x ix) ty s e := by
  unfold opIdxA at h
  split at h
  · simp at h
  rename_i i ht
  split at h
  · rename_i n e0 hk
    split at h
    · rename_i ei cs ik j he hx hj
      split at h
      · rename_i ha hz
        injection h with h; subst h
        exact ⟨ok_index_arr hi (htab.at ht) hk (htab.at he) ha (Nat.eq_of_beq_eq_true hz) hx hj, by simp [RhOk]⟩
      · simp at h
    · simp at h
  · simp at h
def opStoreD (tab : List (Nat × TI)) (s : St) (t : TypeId) (x y : Operand) : Option Eff := match lkT t tab, evO s x with
  | some i, .ptr r off => match lkH r s.h with
    | some (.dvar n cs) => match Nat.beq i.size n, dcells (evO s y) with
      | false, some l => some { val := .junk, rh := some (r, .dvar n cs), wh := some (r, some (.dvar n (splice cs l off))), cond := [l.length = i.size, off + i.size ≤ n] }
      | _, _ => none
    | _ => none
  | _, _ => none
theorem opStoreD_ok (htab : TabOk E.P tab) {t : TypeId} {x y : Operand} (hi : opIn k.nt (.store t x y) = true) (h : opStoreD tab s t x y = some e) : Good E k (.store t x y) ty s e := by
  unfold opStoreD at h
  split at h
  · rename_i i r off ht hx
    split at h
    · rename_i n cs hr
      split at h
      · rename_i l hsz hl
        refine opStore_ok htab hi ?_
        unfold opStore
        rw [ht, hx]
        simp only [hr, hl, hsz]
        cases Nat.beq off 0 <;> exact h
      · simp at h
    · simp at h
  · simp at h
end ops
end Go.Ax

namespace Go.Ax
section ops
variable {E : Env} {k : Kn} {ty : TypeId} {s : St} {tab : List (Nat × TI)} {e : Eff}
theorem ok_slice0 {t e : TypeId} {x y z : Operand} {i ei : TI} {tight : Bool} {sz : Nat} {els : List (List D)} (hin : opIn k.nt (.slice t x none (some y) (some z)) = true) (ht : tiOf E.P t = some i) (hk : i.k = .slice e) (he : tiOf E.P e = some ei) (hsz : ei.size = sz)
    (hx : slOf sz (evO s x) = some (tight, els)) (hh : intOf s (some y) = some (some 0)) (hm : intOf s (some z) = some (some 0)) :
    OpOk E k (.slice t x none (some y) (some z)) ty s { val := .d (.sl true sz []) } :=
  .pure _ none fun _ c Im ρ F H a w o _ hn S ho _ hF _ => by
    have h1 := slOf_ok hx (opIn_ev (x := x) S hn hin hF (by simp [Op.operands]))
    obtain ⟨h2, _⟩ := intOf_ev S hn hin hF hh (by intro q hq; injection hq with hq; subst hq; simp [Op.operands])
    obtain ⟨h3, _⟩ := intOf_ev S hn hin hF hm (by intro q hq; injection hq with hq; subst hq; simp [Op.operands])
    obtain ⟨k1, j1, e1, q1⟩ := h2 y rfl
    obtain ⟨k2, j2, e2, q2⟩ := h3 z rfl
    injection e1 with e1; subst e1
    injection e2 with e2; subst e2
    obtain ⟨inf, d, zr, g1, g2, g3, rfl⟩ := tiOf_spec ht
    cases d <;> simp only [kindOf] at hk <;> cases hk
    obtain ⟨ad, cap, hv, hle, hp⟩ := h1.piece
    have hb : (Instr.sliceBounds true els.length cap none (some (a.eval y)) (some (a.eval z))).run E.P w = .ok (0, 0, 0) w := by
      have r1 : ∀ (kk : IntKind) (n : Nat) (code : BoundsCode), (Instr.sliceBound (.int kk 0) n code).run E.P w = .ok 0 w := fun kk n code => run_sliceBound (j := 0) (by decide) (by omega)
      simp [Instr.sliceBounds, q1, q2, r1]
    refine ⟨.slice ad 0 0, ?_, .d _ _ (.nil true sz ad 0 fun _ => rfl)⟩
    simp [execOp, ho, Instr.sliceAt, Instr.slice, run_underlying g2, hv, hb, run_sizeOf he]
def opSlice3 (tab : List (Nat × TI)) (s : St) (t : TypeId) (x y z : Operand) : Option Eff := match lkT t tab, intOf s (some y), intOf s (some z) with
  | some i, some (some jy), some (some jz) => match i.k, decide (jy = 0), decide (jz = 0) with
    | .slice e, true, true => match lkT e tab with
      | none => none
      | some ei => match slOf ei.size (evO s x) with
        | some _ => some { val := .d (.sl true ei.size []) }
        | none => none
    | _, _, _ => none
  | _, _, _ => none
theorem opSlice3_ok (htab : TabOk E.P tab) {t : TypeId} {x y z : Operand} (hin : opIn k.nt (.slice t x none (some y) (some z)) = true) (h : opSlice3 tab s t x y z = some e) : Good E k (.slice t x none (some y) (some z)) ty s e := by
  unfold opSlice3 at h
  split at h
  · rename_i i jy jz ht hy hz
    split at h
    · rename_i e0 hk h1 h2
      have h1 := of_decide_eq_true h1
      have h2 := of_decide_eq_true h2
      subst h1; subst h2
      split at h
      · simp at h
      rename_i ei he
      split at h
      · rename_i p hx
        injection h with h; subst h
        obtain ⟨tight, els⟩ := p
        exact ⟨ok_slice0 hin (htab.at ht) hk (htab.at he) rfl hx hy hz, by simp [RhOk]⟩
      · simp at h
    · simp at h
  · simp at h
end ops
end Go.Ax

namespace Go.Ax
section ops
variable {E : Env} {k : Kn} {ty : TypeId} {s : St} {tab : List (Nat × TI)} {e : Eff}
theorem ok_indexAddr_lbuf {t e : TypeId} {x ix : Operand} {i ei : TI} {r n off len : Nat} {el : TypeId} {els : List (List D)} {z : AV} {ik : IntKind} {j : Int} (hi : opIn k.nt (.indexAddr t x ix) = true) (ht : tiOf E.P t = some i) (hk : i.k = .slice e) (he : tiOf E.P e = some ei) (hsz : ei.size = 1)
    (hx : evO s x = .msl r n off len) (hj : evO s ix = .d (.v (.int ik j))) : OpOk E k (.indexAddr t x ix) ty s { val := .mptr r n (off + j.toNat) 0, rh := some (r, .lbuf el els z), cond := [n = els.length + 1, off + len ≤ n, 0 ≤ j, j < len] } :=
  .pure _ _ fun hc c Im ρ F H a w o _ hn S ho _ hF hH => by
    have h2 := opIn_ev (x := x) S hn hi hF (by simp [Op.operands])
    have h3 := opIn_ev (x := ix) S hn hi hF (by simp [Op.operands])
    rw [hx] at h2
    rw [hj] at h3
    obtain ⟨c1, c2, c3, c4, _⟩ := hc
    generalize hv : a.eval x = v at h2
    cases h2 with
    | msl _ _ _ _ _ _ hp =>
      obtain ⟨l, hl', hro, _⟩ := S.obj r _ (hH r _ rfl)
      obtain ⟨_, _, hlsz, hlen, _, b, ms, hb, hm, hle, _, _, hcell⟩ := hro
      have hval := (hp l hl').2 (by omega)
      have hcap : ¬ l.cap = off := by omega
      have hadd : l.addr.map (·.add (off * l.sz)) = some (⟨b, off * 1, none⟩ : Addr) := by simp [Loc.addr, hb, add_zero_spot, hlsz]
      rw [Loc.sub, if_neg hcap, hadd] at hval
      refine ⟨.pointer (some ⟨b, (off + j.toNat) * 1, none⟩), ?_, .mptr _ _ _ _ _ rfl fun l1 hl1 => ?_⟩
      · simp [execOp, ho, hv, hval, h3.v, run_indexAt_slice ht hk he c3 c4, add_zero_spot, hsz]
      · rw [hl'] at hl1; injection hl1 with hl1; subst hl1
        exact ⟨(hp l hl').1, fun _ => ⟨b, hb, by rw [hlsz, Nat.add_zero]⟩⟩
theorem ok_load_lbuf {t : TypeId} {x : Operand} {i : TI} {r n q : Nat} {el : TypeId} {els : List (List D)} {z : AV} (hi : opIn k.nt (.load t x) = true) (ht : tiOf E.P t = some i) (ha : i.k.agg = false) (h1 : i.k.agg = false → i.size = 1) (hx : evO s x = .mptr r n q 0) :
    OpPure E k (.load t x) ty s { val := z, rh := some (r, .lbuf el els z), cond := [n = els.length + 1, q = els.length] } :=
  .mk' _ _ fun hc c Im ρ F H a w o _ hn S ho _ hF hH => by
    have h2 := opIn_ev (x := x) S hn hi hF (by simp [Op.operands])
    rw [hx] at h2
    generalize hv : a.eval x = v at h2
    obtain ⟨c1, c2, _⟩ := hc
    cases h2 with
    | mptr _ _ _ _ _ _ hp =>
      obtain ⟨l, hl', hro, _⟩ := S.obj r _ (hH r _ rfl)
      obtain ⟨_, _, hsz, hlen, _, b', ms, hb', hm, _, _, _, _, u, g7, g8, _⟩ := hro
      obtain ⟨b, hb, rfl⟩ := (hp l hl').2 (by omega)
      rw [hb] at hb'; injection hb' with hb'; subst hb'
      obtain ⟨v, g1, g2⟩ := loadA_ok (ρ := ρ) (w := w) (Im := Im) (b := b) (cs := List.replicate q .junk ++ [z]) (off := q) ht h1 (by rw [h1 ha]; simp) (fun j y hj => by
        by_cases hjq : j < q
        · have hms : j < ms.size := by
            have := (Array.getElem?_eq_some_iff.1 g7).1
            omega
          rw [List.getElem?_append_left (by simpa using hjq), List.getElem?_replicate, if_pos hjq] at hj
          injection hj with hj; subst hj
          exact ⟨ms[j], cell_hp hm (by simp [hms]), .junk _⟩
        · have hje : j = q := by
            have := (List.getElem?_eq_some_iff.1 hj).1
            simp at this; omega
          subst hje
          rw [List.getElem?_append_right (by simp)] at hj
          simp at hj; subst hj
          exact ⟨u, cell_hp hm (by rw [c2]; exact g7), g8⟩)
      refine ⟨v, exec_load ho hv (by rw [hsz, Nat.mul_one, Nat.add_zero]; exact g1), ?_⟩
      unfold loadA at g2
      rw [ha] at g2
      simpa [List.getD] using g2
def LastSh (h : Nat → Option Obj) (Im : Nat → Prop) (l : Loc) (el : TypeId) (pre : List (List D)) : Prop :=
  l.isBuf = true ∧ l.more = [] ∧ l.sz = 1 ∧ l.len = pre.length + 1 ∧ (∀ e ∈ pre, e.length = 1) ∧ ∃ b ms, l.blk = some b ∧ h b = some (.cells ms el (0, 0)) ∧ pre.length + 1 ≤ l.cap ∧ l.cap ≤ maxLen ∧ ms.size = l.cap ∧
    ∀ i j e y, pre[i]? = some e → e[j]? = some y → ∃ v, ms[i * 1 + j]? = some v ∧ RD h Im v y
theorem RO.lastL {h : Nat → Option Obj} {Im : Nat → Prop} {ρ : Nat → Option Loc} {l : Loc} {el : TypeId} {els : List (List D)} {z : AV} (H : RO h Im ρ l (.lbuf el els z)) : LastSh h Im l el els := by
  obtain ⟨h0, h1, h2, h3, h4, b, ms, g1, g2, g3, g4, g5, g6, _⟩ := H
  exact ⟨h0, h1, h2, h3, h4, b, ms, g1, g2, g3, g4, g5, g6⟩
theorem RO.lastB {h : Nat → Option Obj} {Im : Nat → Prop} {ρ : Nat → Option Loc} {l : Loc} {el : TypeId} {els : List (List D)} {q : Nat} (hq : els.length = q + 1) (H : RO h Im ρ l (.buf 1 el els)) : LastSh h Im l el (els.take q) := by
  obtain ⟨h0, h1, h2, h3, h4, h5⟩ := H
  have hl : (els.take q).length = q := by simp; omega
  refine ⟨h0, h1, h2, by omega, fun e he => h4 e (List.mem_of_mem_take he), ?_⟩
  rcases h5 with ⟨_, h5, _⟩ | ⟨b, ms, g1, g2, g3, g4, g5, g6⟩
  · rw [h5] at hq; simp at hq
  · refine ⟨b, ms, g1, g2, by omega, g4, by omega, fun i j e y e1 e2 => g6 i j e y ?_ e2⟩
    rw [List.getElem?_take] at e1
    split at e1
    · exact e1
    · simp at e1
theorem ok_store_last {t : TypeId} {x y : Operand} {i : TI} {r n q r2 n2 off2 len2 : Nat} {el : TypeId} {o0 : AObj} {pre : List (List D)} (hi : opIn k.nt (.store t x y) = true) (ht : tiOf E.P t = some i) (h1 : i.size = 1) (hx : evO s x = .mptr r n q 0) (hy : evO s y = .msl r2 n2 off2 len2)
    (H0 : ∀ (h : Nat → Option Obj) (Im : Nat → Prop) (ρ : Nat → Option Loc) (l : Loc), RO h Im ρ l o0 → LastSh h Im l el pre) :
    OpOk E k (.store t x y) ty s { val := .junk, rh := some (r, o0), wh := some (r, some (.lbuf el pre (.msl r2 n2 off2 len2))), cond := [n = pre.length + 1, q = pre.length] } := by
  intro c Im ρ F H a w o ok hnt ha S ho hty hF hH hnew hcd
  obtain ⟨c1, c2, _⟩ := hcd
  have h2 := opIn_ev (x := x) S hnt hi hF (by simp [Op.operands])
  have h3 := opIn_ev (x := y) S hnt hi hF (by simp [Op.operands])
  rw [hx] at h2
  rw [hy] at h3
  have h6 := h3.cells rfl
  generalize hv : a.eval x = v at h2
  cases h2 with
  | mptr _ _ _ _ _ _ hp2 =>
    obtain ⟨lc, hl', hro, hown⟩ := S.obj r _ (hH r _ rfl)
    obtain ⟨k1, k2, k3, k4, k5, b', ms, hb', hm, hcap1, hcap2, hsz, hcell⟩ := H0 _ _ _ _ hro
    obtain ⟨b, hb, rfl⟩ := (hp2 lc hl').2 (by omega)
    rw [hb] at hb'; injection hb' with hb'; subst hb'
    have hvl : (a.eval y).cells.toList.length = 1 := h6.1
    have hvs : (a.eval y).cells.size = i.size := by rw [h1]; simpa using hvl
    obtain ⟨u, hu⟩ : ∃ u, (a.eval y).cells.toList = [u] := List.length_eq_one_iff.1 hvl
    have hru : RA (hp w) Im ρ u (.msl r2 n2 off2 len2) := h6.2 0 u _ (by rw [hu]; rfl) rfl
    have hu1 : u.oneCell' = true := by cases hru; assumption
    have hone : ∀ z ∈ (a.eval y).cells.toList, z.oneCell' = true := fun z hz => by rw [hu] at hz; simp at hz; subst hz; exact hu1
    have hqm : q < ms.size := by omega
    have hst := run_storeVar_at (P := E.P) (w := w) (t := t) (ty := el) (i := i) (v := a.eval y) (b := b) (off := q) (ms := ms) ht hm hvs (by omega) hone
    rw [hu] at hst
    have hfp : lc.fp = [b] := by simp [Loc.fp, hb, k2]
    generalize hms : (ms.toList.take q ++ [u] ++ ms.toList.drop (q + [u].length)).toArray = ms2 at hst
    have hg : Grows w (w.setRow b ms2) (fun p => p ∈ lc.fp) := by rw [hfp]; simpa using Grows.setRow w b _
    have hm2 := setRow_heap w b ms ms2 el _ hm
    have hI : ∀ b', Im b' → hp (w.setRow b ms2) b' = hp w b' := fun b' hb' => hg.block b' (S.imn b' hb').1 fun h => (hown b' h).2.1 hb'
    have hsz2 : ms2.size = ms.size := by rw [← hms]; simp; omega
    have hget : ∀ p : Nat, ms2[p]? = (ms.toList.take q ++ [u] ++ ms.toList.drop (q + [u].length))[p]? := fun p => by rw [← hms, List.getElem?_toArray]
    have hlt : ∀ p, p < q → ms2[p]? = ms[p]? := fun p hp => by
      rw [hget, List.append_assoc, List.getElem?_append_left (by simp; omega), List.getElem?_take, if_pos hp]; simp
    have hat : ms2[q]? = some u := by
      rw [hget, List.append_assoc, List.getElem?_append_right (by simp; omega)]
      have : q - (ms.toList.take q).length = 0 := by simp; omega
      rw [this]; rfl
    refine ⟨undef, _, .inr ⟨exec_store ho (by rw [hv, k3, Nat.mul_one, Nat.add_zero]) hst, rfl⟩, Im, _, S.chg (r := r) (l := lc) (l' := lc) (o' := .lbuf el pre (.msl r2 n2 off2 len2)) (hH r _ rfl) hl' hg (.inl rfl) (fun q hq => .inl hq) ?_, .junk _⟩
    rw [upd_self hl']
    refine ⟨k1, k2, k3, k4, k5, b, ms2, hb, hm2, hcap1, hcap2, by omega, fun ii j e1 y1 g1 g2 => ?_, u, by rw [← c2]; exact hat, hru.ext (fun _ h => h) hI fun _ _ => rfl, hu1⟩
    have hii : ii < pre.length := (List.getElem?_eq_some_iff.1 g1).1
    have hj : j < 1 := by rw [← k5 e1 (List.mem_of_getElem? g1)]; exact (List.getElem?_eq_some_iff.1 g2).1
    obtain ⟨v, q1, q2⟩ := hcell ii j e1 y1 g1 g2
    exact ⟨v, by rw [hlt _ (by omega)]; exact q1, q2.mono (fun _ h => h) hI⟩
def opIdxL (tab : List (Nat × TI)) (s : St) (t : TypeId) (x ix : Operand) : Option Eff := match lkT t tab with
  | none => none
  | some i => match i.k, evO s ix with
    | .slice e, .d (.v (.int _ j)) => match lkT e tab with
      | none => none
      | some ei => match evO s x with
        | .msl r n off len => match lkH r s.h with
          | some (.lbuf el els z) => match Nat.beq ei.size 1 with
            | true => some { val := .mptr r n (off + j.toNat) 0, rh := some (r, .lbuf el els z), cond := [n = els.length + 1, off + len ≤ n, 0 ≤ j, j < len] }
            | false => none
          | _ => none
        | _ => none
    | _, _ => none
theorem opIdxL_ok (htab : TabOk E.P tab) {t : TypeId} {x ix : Operand} (hi : opIn k.nt (.indexAddr t x ix) = true) (h : opIdxL tab s t x ix = some e) : Good E k (.indexAddr t x ix) ty s e := by
  unfold opIdxL at h
  split at h
  · simp at h
  rename_i i ht
  split at h
  · rename_i e0 ik j hk hj
    split at h
    · simp at h
    rename_i ei he
    split at h
    · rename_i r n off len hx
      split at h
      · rename_i el els z hr
        split at h
        · rename_i hsz
          injection h with h; subst h
          exact ⟨ok_indexAddr_lbuf hi (htab.at ht) hk (htab.at he) (Nat.eq_of_beq_eq_true hsz) hx hj, by simp [RhOk, hr]⟩
        · simp at h
      · simp at h
    · simp at h
  · simp at h
def opLoadL (tab : List (Nat × TI)) (s : St) (t : TypeId) (x : Operand) : Option Eff := match lkT t tab, evO s x with
  | some i, .mptr r n q 0 => match i.k.agg, Nat.beq i.size 1, lkH r s.h with
    | false, true, some (.lbuf el els z) => some { val := z, rh := some (r, .lbuf el els z), cond := [n = els.length + 1, q = els.length] }
    | _, _, _ => none
  | _, _ => none
theorem opLoadL_pure (htab : TabOk E.P tab) {t : TypeId} {x : Operand} (hi : opIn k.nt (.load t x) = true) (h : opLoadL tab s t x = some e) : OpPure E k (.load t x) ty s e ∧ RhOk s e := by
  unfold opLoadL at h
  split at h
  · rename_i i r n q ht hx
    split at h
    · rename_i el els z ha h1 hr
      injection h with h; subst h
      exact ⟨ok_load_lbuf hi (htab.at ht) ha (fun _ => Nat.eq_of_beq_eq_true h1) hx, by simp [RhOk, hr]⟩
    · simp at h
  · simp at h
def opStoreL (tab : List (Nat × TI)) (s : St) (t : TypeId) (x y : Operand) : Option Eff := match lkT t tab, evO s x with
  | some i, .mptr r n q 0 => match Nat.beq i.size 1, evO s y with
    | true, .msl r2 n2 off2 len2 => match lkH r s.h with
      | some (.lbuf el els z) => some { val := .junk, rh := some (r, .lbuf el els z), wh := some (r, some (.lbuf el els (.msl r2 n2 off2 len2))), cond := [n = els.length + 1, q = els.length] }
      | some (.buf 1 el els) => match Nat.beq els.length (q + 1) with
        | true => some { val := .junk, rh := some (r, .buf 1 el els), wh := some (r, some (.lbuf el (els.take q) (.msl r2 n2 off2 len2))), cond := [n = (els.take q).length + 1, q = (els.take q).length] }
        | false => none
      | _ => none
    | _, _ => none
  | _, _ => none
theorem opStoreL_ok (htab : TabOk E.P tab) {t : TypeId} {x y : Operand} (hi : opIn k.nt (.store t x y) = true) (h : opStoreL tab s t x y = some e) : Good E k (.store t x y) ty s e := by
  unfold opStoreL at h
  split at h
  · rename_i i r n q ht hx
    split at h
    · rename_i r2 n2 off2 len2 h1 hy
      have h1 := Nat.eq_of_beq_eq_true h1
      split at h
      · rename_i el els z hr
        injection h with h; subst h
        exact ⟨ok_store_last hi (htab.at ht) h1 hx hy fun _ _ _ _ H => H.lastL, by simp [RhOk, hr]⟩
      · rename_i el els hr
        split at h
        · rename_i hq
          injection h with h; subst h
          exact ⟨ok_store_last hi (htab.at ht) h1 hx hy fun _ _ _ _ H => H.lastB (Nat.eq_of_beq_eq_true hq), by simp [RhOk, hr]⟩
        · simp at h
      · simp at h
    · simp at h
  · simp at h
theorem ok_len_lbuf {x : Operand} {t e el : TypeId} {i : TI} {r n off len : Nat} {els : List (List D)} {z : AV} (hi : opIn k.nt (lenCall x t) = true) (ht : tiOf E.P t = some i) (hk : i.k = .slice e) (hx : evO s x = .msl r n off len) :
    OpOk E k (lenCall x t) ty s { val := .d (.v (.int .i64 len)), rh := some (r, .lbuf el els z), cond := [n = els.length + 1] } :=
  .pure _ _ fun hc c Im ρ F H a w o _ hn S ho hty hF hH => by
    have h2 := opIn_ev (x := x) S hn hi hF (by simp [Op.operands, lenCall, Call.operands])
    rw [hx] at h2
    obtain ⟨inf, d, z, g1, g2, g3, rfl⟩ := tiOf_spec ht
    cases d <;> simp only [kindOf] at hk <;> cases hk
    generalize hv : a.eval x = v at h2
    cases h2 with
    | msl _ _ _ _ _ _ hp =>
      obtain ⟨l, hl', hro, _⟩ := S.obj r _ (hH r _ rfl)
      have hval := (hp l hl').2 (by have := hro.2.2.2.1; have := hc.1; omega)
      exact ⟨_, exec_len ho (by simp [Builtin.len_, hv, hval, Loc.sub, run_underlying g2, goInt]), RA.intv _ rfl⟩
def opLenL (tab : List (Nat × TI)) (s : St) (x : Operand) (t : TypeId) : Option Eff := match lkT t tab with
  | none => none
  | some i => match i.k, evO s x with
    | .slice _, .msl r n _ len => match lkH r s.h with
      | some (.lbuf el els z) => some { val := .d (.v (.int .i64 len)), rh := some (r, .lbuf el els z), cond := [n = els.length + 1] }
      | _ => none
    | _, _ => none
theorem opLenL_ok (htab : TabOk E.P tab) {t : TypeId} {x : Operand} (hi : opIn k.nt (lenCall x t) = true) (h : opLenL tab s x t = some e) : Good E k (lenCall x t) ty s e := by
  unfold opLenL at h
  split at h
  · simp at h
  rename_i i ht
  split at h
  · rename_i e0 r n off len hk hx
    split at h
    · rename_i el els z hr
      injection h with h; subst h
      exact ⟨ok_len_lbuf hi (htab.at ht) hk hx, by simp [RhOk, hr]⟩
    · simp at h
  · simp at h
end ops
end Go.Ax
