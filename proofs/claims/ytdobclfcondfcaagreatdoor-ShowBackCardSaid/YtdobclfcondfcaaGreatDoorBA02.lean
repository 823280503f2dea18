/- What the card of this claim stands on, or the card itself: for every input, as the given row says. -/
import Derived.Laws.AppendOwn
import Derived.Test.YtdobclfcondfcaaGreatDoorBA01

namespace Go.Ax
def Rel2 {α : Type} (R : Value → α → Prop) (ms : List Value) (cs : List α) : Prop := ms.length = cs.length ∧ ∀ (i : Nat) (v : Value) (x : α), ms[i]? = some v → cs[i]? = some x → R v x
theorem Rel2.append {α : Type} {R : Value → α → Prop} {a b : List Value} {c d : List α} (h : Rel2 R a c) (k : Rel2 R b d) : Rel2 R (a ++ b) (c ++ d) := by
  refine ⟨by simp [h.1, k.1], fun i v x hv hx => ?_⟩
  by_cases hi : i < a.length
  · rw [List.getElem?_append_left hi] at hv
    rw [List.getElem?_append_left (by rw [← h.1]; exact hi)] at hx
    exact h.2 i v x hv hx
  · rw [List.getElem?_append_right (by omega)] at hv
    rw [List.getElem?_append_right (by rw [← h.1]; omega), ← h.1] at hx
    exact k.2 _ v x hv hx
theorem Rel2.take {α : Type} {R : Value → α → Prop} {a : List Value} {c : List α} (n : Nat) (h : Rel2 R a c) : Rel2 R (a.take n) (c.take n) := by
  refine ⟨by simp [h.1], fun i v x hv hx => ?_⟩
  rw [List.getElem?_take] at hv hx
  split at hv
  · rename_i hi; rw [if_pos hi] at hx; exact h.2 i v x hv hx
  · simp at hv
theorem Rel2.drop {α : Type} {R : Value → α → Prop} {a : List Value} {c : List α} (n : Nat) (h : Rel2 R a c) : Rel2 R (a.drop n) (c.drop n) := by
  refine ⟨by simp [h.1], fun i v x hv hx => ?_⟩
  rw [List.getElem?_drop] at hv hx
  exact h.2 _ v x hv hx
theorem Rel2.imp {α : Type} {R R' : Value → α → Prop} {a : List Value} {c : List α} (h : Rel2 R a c) (hR : ∀ v x, R v x → R' v x) : Rel2 R' a c := ⟨h.1, fun i v x h1 h2 => hR v x (h.2 i v x h1 h2)⟩
def splice {α : Type} (cs l : List α) (off : Nat) : List α := cs.take off ++ l ++ cs.drop (off + l.length)
theorem Rel2.splice {α : Type} {R : Value → α → Prop} {a b : List Value} {c d : List α} (h : Rel2 R a c) (k : Rel2 R b d) (off : Nat) : Rel2 R (a.take off ++ b ++ a.drop (off + b.length)) (splice c d off) := by
  unfold Ax.splice
  rw [← k.1]
  exact ((h.take off).append k).append (h.drop _)
theorem Rel2.single {α : Type} {R : Value → α → Prop} {v : Value} {x : α} (h : R v x) : Rel2 R [v] [x] := by
  refine ⟨rfl, fun i u y h1 h2 => ?_⟩
  cases i with
  | zero => simp at h1 h2; subst h1; subst h2; exact h
  | succ i => simp at h1
theorem Rel2.map {α β : Type} {R : Value → α → Prop} {R' : Value → β → Prop} {f : α → β} {a : List Value} {c : List α} (h : Rel2 R a c) (hf : ∀ v x, R v x → R' v (f x)) : Rel2 R' a (c.map f) := by
  refine ⟨by simp [h.1], fun i v y h1 h2 => ?_⟩
  simp only [List.getElem?_map, Option.map_eq_some_iff] at h2
  obtain ⟨x, hx, rfl⟩ := h2
  exact hf v x (h.2 i v x h1 hx)
def AV.cells : AV → List AV
  | .agg cs => cs
  | .dagg cs => cs.map .d
  | x => [x]
section ops
variable {E : Env} {k : Kn} {ty : TypeId} {s : St}
theorem run_indexAt_slice {P : Program} {w : World} {t e : TypeId} {i ei : TI} (hi : tiOf P t = some i) (hk : i.k = .slice e) (he : tiOf P e = some ei) {ad : Addr} {len cap : Nat} {ik : IntKind} {j : Int} (h0 : 0 ≤ j) (h1 : j < len) :
    (Instr.indexAt t (.slice (some ad) len cap) (.int ik j)).run P w = .ok (.pointer (some (ad.add (j.toNat * ei.size)))) w := by
  obtain ⟨inf, d, z, g1, g2, g3, rfl⟩ := tiOf_spec hi
  cases d <;> simp only [kindOf] at hk <;> cases hk
  simp [Instr.indexAt, asIntOf, run_underlying g2, h0, h1, run_sizeOf he]
theorem run_indexAt_array {P : Program} {w : World} {t e : TypeId} {n : Nat} {i ei : TI} (hi : tiOf P t = some i) (hk : i.k = .array n e) (he : tiOf P e = some ei) {ad : Addr} {ik : IntKind} {j : Int} (h0 : 0 ≤ j) (h1 : j < n) :
    (Instr.indexAt t (.pointer (some ad)) (.int ik j)).run P w = .ok (.pointer (some (ad.add (j.toNat * ei.size)))) w := by
  obtain ⟨inf, d, z, g1, g2, g3, rfl⟩ := tiOf_spec hi
  cases d <;> simp only [kindOf] at hk <;> cases hk
  simp [Instr.indexAt, asIntOf, run_underlying g2, h0, h1, run_sizeOf he, Instr.sureAddr]
theorem RD.elem {h : Nat → Option Obj} {Im : Nat → Prop} {ρ : Nat → Option Loc} {v : Value} {tight : Bool} {sz : Nat} {els : List (List D)} (H : RD h Im v (.sl tight sz els)) {q : Nat} (hq : q < els.length) :
    ∃ b o cap, v = .slice (some ⟨b, o, none⟩) els.length cap ∧ RA h Im ρ (.pointer (some ⟨b, o + q * sz, none⟩)) (.ep (els.getD q [])) := by
  cases H with
  | nil => simp at hq
  | sl _ _ _ b o cap f hs hb hle ht hc hr =>
    have hel : els[q]? = some (els.getD q []) := by simp [List.getD, List.getElem?_eq_getElem hq]
    refine ⟨b, o, cap, rfl, .ep b _ _ (f q) hb (fun j x hj => ?_) fun j x hj => hr q j _ x hel hj⟩
    obtain ⟨ms, t, fz, e1, e2⟩ := hc q j _ x hel hj
    exact ⟨ms, t, fz, e1, by rw [Nat.add_assoc]; exact e2⟩
theorem ok_indexAddr_sl {t e : TypeId} {x ix : Operand} {i ei : TI} {tight : Bool} {sz : Nat} {els : List (List D)} {ik : IntKind} {j : Int} (hi : opIn k.nt (.indexAddr t x ix) = true) (ht : tiOf E.P t = some i) (hk : i.k = .slice e) (he : tiOf E.P e = some ei) (hsz : ei.size = sz)
    (hx : evO s x = .d (.sl tight sz els)) (hj : evO s ix = .d (.v (.int ik j))) : OpOk E k (.indexAddr t x ix) ty s { val := .ep (els.getD j.toNat []), cond := [0 ≤ j, j < els.length] } :=
  .pure _ none fun hc c Im ρ F H a w o _ hn S ho _ hF _ => by
    have h2 := opIn_ev (x := x) S hn hi hF (by simp [Op.operands])
    have h3 := opIn_ev (x := ix) S hn hi hF (by simp [Op.operands])
    rw [hx] at h2
    rw [hj] at h3
    obtain ⟨c1, c2, _⟩ := hc
    obtain ⟨b, o', cap, hv, hr⟩ := (h2.d_inv).elem (ρ := ρ) (q := j.toNat) (by omega)
    refine ⟨_, ?_, hr⟩
    simp [execOp, ho, hv, h3.v, run_indexAt_slice ht hk he c1 c2, add_zero_spot, hsz]
theorem ok_indexAddr_msl {t e : TypeId} {x ix : Operand} {i ei : TI} {r n off len sz : Nat} {el : TypeId} {els : List (List D)} {ik : IntKind} {j : Int} (hi : opIn k.nt (.indexAddr t x ix) = true) (ht : tiOf E.P t = some i) (hk : i.k = .slice e) (he : tiOf E.P e = some ei) (hsz : ei.size = sz)
    (hx : evO s x = .msl r n off len) (hj : evO s ix = .d (.v (.int ik j))) : OpOk E k (.indexAddr t x ix) ty s { val := .mptr r n (off + j.toNat) 0, rh := some (r, .buf sz el els), cond := [n = els.length, off + len ≤ n, 0 ≤ j, j < len] } :=
  .pure _ _ fun hc c Im ρ F H a w o _ hn S ho _ hF hH => by
    have h2 := opIn_ev (x := x) S hn hi hF (by simp [Op.operands])
    have h3 := opIn_ev (x := ix) S hn hi hF (by simp [Op.operands])
    rw [hx] at h2
    rw [hj] at h3
    obtain ⟨c1, c2, c3, c4, _⟩ := hc
    generalize hv : a.eval x = v at h2
    cases h2 with
    | msl _ _ _ _ _ _ hp =>
      obtain ⟨l, hl', hro, _⟩ := S.obj r _ (hH r _ rfl)
      obtain ⟨_, _, hlsz, hlen, _, hown⟩ := hro
      have hval := (hp l hl').2 (by omega)
      rcases hown with ⟨_, h0, _⟩ | ⟨b, ms, hb, hm, hle, _, _, hcell⟩
      · rw [h0] at c1; simp at c1; omega
      · have hcap : ¬ l.cap = off := by omega
        have hadd : l.addr.map (·.add (off * l.sz)) = some (⟨b, off * sz, none⟩ : Addr) := by simp [Loc.addr, hb, add_zero_spot, hlsz]
        rw [Loc.sub, if_neg hcap, hadd] at hval
        refine ⟨.pointer (some ⟨b, (off + j.toNat) * sz, none⟩), ?_, .mptr _ _ _ _ _ rfl fun l1 hl1 => ?_⟩
        · simp [execOp, ho, hv, hval, h3.v, run_indexAt_slice ht hk he c3 c4, add_zero_spot, hsz, Nat.add_mul]
        · rw [hl'] at hl1; injection hl1 with hl1; subst hl1
          exact ⟨(hp l hl').1, fun _ => ⟨b, hb, by rw [hlsz, Nat.add_zero]⟩⟩
theorem ok_indexAddr_arr {t e : TypeId} {x ix : Operand} {i ei : TI} {r off n : Nat} {ob : AObj} {ik : IntKind} {j : Int} (hi : opIn k.nt (.indexAddr t x ix) = true) (ht : tiOf E.P t = some i) (hk : i.k = .array n e) (he : tiOf E.P e = some ei)
    (hx : evO s x = .ptr r off) (hj : evO s ix = .d (.v (.int ik j))) : OpOk E k (.indexAddr t x ix) ty s { val := .ptr r (off + j.toNat * ei.size), rh := some (r, ob), cond := [0 ≤ j, j < n] } :=
  .pure _ _ fun hc c Im ρ F H a w o _ hn S ho _ hF hH => by
    have h2 := opIn_ev (x := x) S hn hi hF (by simp [Op.operands])
    have h3 := opIn_ev (x := ix) S hn hi hF (by simp [Op.operands])
    rw [hx] at h2
    rw [hj] at h3
    generalize hv : a.eval x = v at h2
    cases h2 with
    | ptr _ _ _ _ hp =>
      obtain ⟨l, hl', _⟩ := S.obj r _ (hH r _ rfl)
      obtain ⟨h5, b, h6, rfl⟩ := hp l hl'
      refine ⟨.pointer (some ⟨b, off + j.toNat * ei.size, none⟩), ?_, .ptr _ _ _ rfl fun l1 hl1 => ?_⟩
      · simp [execOp, ho, hv, h3.v, run_indexAt_array ht hk he hc.1 hc.2.1, add_zero_spot]
      · rw [hl'] at hl1; injection hl1 with hl1; subst hl1
        exact ⟨h5, b, h6, rfl⟩
theorem ok_indexAddr_mptr {t e : TypeId} {x ix : Operand} {i ei : TI} {r n q j0 m sz : Nat} {el : TypeId} {els : List (List D)} {ik : IntKind} {j : Int} (hi : opIn k.nt (.indexAddr t x ix) = true) (ht : tiOf E.P t = some i) (hk : i.k = .array m e) (he : tiOf E.P e = some ei)
    (hx : evO s x = .mptr r n q j0) (hj : evO s ix = .d (.v (.int ik j))) : OpOk E k (.indexAddr t x ix) ty s { val := .mptr r n q (j0 + j.toNat * ei.size), rh := some (r, .buf sz el els), cond := [n = els.length, 0 ≤ j, j < m] } :=
  .pure _ _ fun hc c Im ρ F H a w o _ hn S ho _ hF hH => by
    have h2 := opIn_ev (x := x) S hn hi hF (by simp [Op.operands])
    have h3 := opIn_ev (x := ix) S hn hi hF (by simp [Op.operands])
    rw [hx] at h2
    rw [hj] at h3
    generalize hv : a.eval x = v at h2
    cases h2 with
    | mptr _ _ _ _ _ _ hp =>
      obtain ⟨l, hl', hro, _⟩ := S.obj r _ (hH r _ rfl)
      have hlen := hro.2.2.2.1
      obtain ⟨b, h6, rfl⟩ := (hp l hl').2 (by have := hc.1; omega)
      refine ⟨.pointer (some ⟨b, q * l.sz + (j0 + j.toNat * ei.size), none⟩), ?_, .mptr _ _ _ _ _ rfl fun l1 hl1 => ?_⟩
      · simp [execOp, ho, hv, h3.v, run_indexAt_array ht hk he hc.2.1 hc.2.2.1, add_zero_spot, Nat.add_assoc]
      · rw [hl'] at hl1; injection hl1 with hl1; subst hl1
        exact ⟨(hp l hl').1, fun _ => ⟨b, h6, rfl⟩⟩
theorem ok_indexAddr_ep {t e : TypeId} {x ix : Operand} {i ei : TI} {n : Nat} {cs : List D} {ik : IntKind} {j : Int} (hi : opIn k.nt (.indexAddr t x ix) = true) (ht : tiOf E.P t = some i) (hk : i.k = .array n e) (he : tiOf E.P e = some ei)
    (hx : evO s x = .ep cs) (hj : evO s ix = .d (.v (.int ik j))) : OpOk E k (.indexAddr t x ix) ty s { val := .ep (cs.drop (j.toNat * ei.size)), cond := [0 ≤ j, j < n] } :=
  .pure _ none fun hc c Im ρ F H a w o _ hn S ho _ hF _ => by
    have h2 := opIn_ev (x := x) S hn hi hF (by simp [Op.operands])
    have h3 := opIn_ev (x := ix) S hn hi hF (by simp [Op.operands])
    rw [hx] at h2
    rw [hj] at h3
    generalize hv : a.eval x = v at h2
    cases h2 with
    | ep b o' _ g hb hcs hr =>
      exact ⟨.pointer (some ⟨b, o' + j.toNat * ei.size, none⟩), by simp [execOp, ho, hv, h3.v, run_indexAt_array ht hk he hc.1 hc.2.1, add_zero_spot], ep_drop rfl (.ep b o' cs g hb hcs hr)⟩
def byteAt (m : ByteArray) (j : Int) : Int := if h : j.toNat < m.size then ((m[j.toNat]'h).toNat : Int) else 0
theorem ok_index_str {t : TypeId} {x ix : Operand} {i : TI} {m : ByteArray} {ik : IntKind} {j : Int} (hi : opIn k.nt (.index t x ix) = true) (ht : tiOf E.P t = some i) (hk : i.k = .str)
    (hx : evO s x = .d (.v (.string m))) (hj : evO s ix = .d (.v (.int ik j))) : OpOk E k (.index t x ix) ty s { val := .d (.v (.int .u8 (byteAt m j))), cond := [0 ≤ j, j < m.size] } :=
  .pure _ none fun hc c Im ρ F H a w o _ hn S ho _ hF _ => by
    have h2 := opIn_ev (x := x) S hn hi hF (by simp [Op.operands])
    have h3 := opIn_ev (x := ix) S hn hi hF (by simp [Op.operands])
    rw [hx] at h2
    rw [hj] at h3
    obtain ⟨inf, d, z, g1, g2, g3, rfl⟩ := tiOf_spec ht
    cases d <;> simp only [kindOf] at hk <;> cases hk
    obtain ⟨c1, c2, _⟩ := hc
    have hlt : j.toNat < m.size := by omega
    refine ⟨.int .u8 (byteAt m j), ?_, RA.intv _ rfl⟩
    simp [execOp, ho, h2.v, h3.v, Instr.index, asIntOf, run_underlying g2, c1, byteAt, hlt]
theorem run_part {P : Program} {w : World} {t : TypeId} {i : TI} (hi : tiOf P t = some i) (h1 : i.k.agg = false → i.size = 1) {cs : Array Value} {off : Nat} (hl : off + i.size ≤ cs.size) :
    (part t cs off).run P w = .ok (if i.k.agg then .agg (cs.extract off (off + i.size)) else cs.getD off undef) w := by
  unfold part
  rw [Sem.run_bind, run_isAgg hi]
  simp only [Result.andThen_ok]
  cases ha : i.k.agg with
  | true => simp [run_sizeOf hi]
  | false =>
    have h2 := h1 ha
    have : off < cs.size := by omega
    simp [this]
theorem ok_field_dagg {t : TypeId} {x : Operand} {i fi : TI} {f off esz : Nat} {ft : TypeId} {cs : List D} (hi : opIn k.nt (.field t x f) = true) (ht : tiOf E.P t = some i) (hf : fieldOff i f = some (off, ft)) (hfi : tiOf E.P ft = some fi) (h1 : fi.k.agg = false → fi.size = 1)
    (hx : evO s x = .dagg cs) : OpOk E k (.field t x f) ty s { val := loadD fi esz cs off, cond := [off + fi.size ≤ cs.length, fi.k.agg = false → has fi.k esz (cs.getD off (.v undef))] } :=
  .pure _ none fun hc c Im ρ F H a w o _ hn S ho _ hF _ => by
    have h2 := opIn_ev (x := x) S hn hi hF (by simp [Op.operands])
    rw [hx] at h2
    generalize hv : a.eval x = v at h2
    obtain ⟨c1, c2, _⟩ := hc
    cases h2 with
    | dagg ms _ hl hr =>
      have hp := run_part (w := w) hfi h1 (cs := ms) (off := off) (by omega)
      refine ⟨if fi.k.agg then .agg (ms.extract off (off + fi.size)) else ms.getD off undef, ?_, ?_⟩
      · obtain ⟨inf, d, z, h3, h4, h5, rfl⟩ := tiOf_spec ht
        cases d <;> simp only [kindOf, fieldOff] at hf <;> try (cases hf; done)
        rename_i fs
        simp only [List.getElem?_map, Option.map_eq_some_iff] at hf
        obtain ⟨fd, hfd, he⟩ := hf
        simp only [Prod.mk.injEq] at he
        obtain ⟨rfl, rfl⟩ := he
        have hfd' : fs[f]? = some fd := by simpa using hfd
        simp [execOp, ho, hv, Instr.field, run_underlying h4, hfd', asAgg, hp]
      · unfold loadD
        cases ha : fi.k.agg with
        | true =>
          simp only [if_true]
          refine .dagg _ _ (by rw [cut_length c1]; simp; omega) fun j v x hv' hx' => ?_
          have hj : j < fi.size := by
            have := (List.getElem?_eq_some_iff.1 hx').1
            rwa [cut_length c1] at this
          rw [cut_get hj] at hx'
          refine hr (off + j) v x ?_ hx'
          have hms : off + j < ms.size := by omega
          have : (ms.extract off (off + fi.size))[j]? = ms[off + j]? := by
            rw [Array.getElem?_extract]
            simp; omega
          rw [this] at hv'; exact hv'
        | false =>
          have hlt : off < cs.length := by have := h1 ha; omega
          have hlm : off < ms.size := by omega
          simp only [Bool.false_eq_true, if_false, forceS_eq]
          refine .d _ _ (RD.force (c2 ha) (hr off _ _ ?_ ?_))
          · simp [Array.getD, hlm]
          · simp [List.getD, List.getElem?_eq_getElem hlt]
theorem ok_extract {x : Operand} {j : Nat} {vs : List AV} {y : AV} (hi : opIn k.nt (.extract x j) = true) (hx : evO s x = .tup vs) (hy : vs[j]? = some y) : OpOk E k (.extract x j) ty s { val := y } :=
  .pure [] none fun _ c Im ρ F H a w o _ hn S ho _ hF _ => by
    have h2 := opIn_ev (x := x) S hn hi hF (by simp [Op.operands])
    rw [hx] at h2
    generalize hv : a.eval x = v at h2
    cases h2 with
    | tup ms _ hl hr =>
      have hj : j < ms.size := by rw [hl]; exact (List.getElem?_eq_some_iff.1 hy).1
      have hm : ms[j]? = some ms[j] := by simp [hj]
      exact ⟨ms[j], by simp [execOp, ho, hv, Instr.extract, hm], hr j _ y hm hy⟩
def lenCall (x : Operand) (t : TypeId) : Op := .call { callee := .builtin .len, args := #[x], argTypes := #[t] }
theorem exec_len {P : Program} {a : Act} {w : World} {o : Oper} {t : TypeId} {x : Operand} {n : Int} (ho : o.op = lenCall x t) (h : (Builtin.len_ #[t] o.type #[a.eval x]).run P w = .ok (.int .i64 n) w) : (execOp a.eval o).run P w = .ok (.value (.int .i64 n)) w := by
  simp [execOp, ho, lenCall, resolve, invoke, builtin, h]
theorem ok_len_str {x : Operand} {t : TypeId} {i : TI} {m : ByteArray} (hi : opIn k.nt (lenCall x t) = true) (ht : tiOf E.P t = some i) (hk : i.k = .str) (hx : evO s x = .d (.v (.string m))) : OpOk E k (lenCall x t) ty s { val := .d (.v (.int .i64 m.size)) } :=
  .pure [] none fun _ c Im ρ F H a w o _ hn S ho hty hF _ => by
    have h2 := opIn_ev (x := x) S hn hi hF (by simp [Op.operands, lenCall, Call.operands])
    rw [hx] at h2
    obtain ⟨inf, d, z, g1, g2, g3, rfl⟩ := tiOf_spec ht
    cases d <;> simp only [kindOf] at hk <;> cases hk
    exact ⟨_, exec_len ho (by simp [Builtin.len_, h2.v, run_underlying g2, goInt]), RA.intv _ rfl⟩
theorem RD.slice {h : Nat → Option Obj} {Im : Nat → Prop} {v : Value} {tight : Bool} {sz : Nat} {els : List (List D)} (H : RD h Im v (.sl tight sz els)) : ∃ a cap, v = .slice a els.length cap := by
  cases H with
  | nil _ _ a cap _ => exact ⟨a, cap, rfl⟩
  | sl _ _ _ b o cap => exact ⟨_, cap, rfl⟩
theorem ok_len_sl {x : Operand} {t e : TypeId} {i : TI} {tight : Bool} {sz : Nat} {els : List (List D)} (hi : opIn k.nt (lenCall x t) = true) (ht : tiOf E.P t = some i) (hk : i.k = .slice e) (hx : evO s x = .d (.sl tight sz els)) : OpOk E k (lenCall x t) ty s { val := .d (.v (.int .i64 els.length)) } :=
  .pure [] none fun _ c Im ρ F H a w o _ hn S ho hty hF _ => by
    have h2 := opIn_ev (x := x) S hn hi hF (by simp [Op.operands, lenCall, Call.operands])
    rw [hx] at h2
    obtain ⟨inf, d, z, g1, g2, g3, rfl⟩ := tiOf_spec ht
    cases d <;> simp only [kindOf] at hk <;> cases hk
    obtain ⟨ad, cap, hv⟩ := (h2.d_inv).slice
    exact ⟨_, exec_len ho (by simp [Builtin.len_, hv, run_underlying g2, goInt]), RA.intv _ rfl⟩
theorem ok_len_nil {x : Operand} {t e : TypeId} {i : TI} {ad : Option Addr} {n c0 : Nat} (hi : opIn k.nt (lenCall x t) = true) (ht : tiOf E.P t = some i) (hk : i.k = .slice e) (hx : evO s x = .d (.v (.slice ad n c0))) : OpOk E k (lenCall x t) ty s { val := .d (.v (.int .i64 n)) } :=
  .pure [] none fun _ c Im ρ F H a w o _ hn S ho hty hF _ => by
    have h2 := opIn_ev (x := x) S hn hi hF (by simp [Op.operands, lenCall, Call.operands])
    rw [hx] at h2
    obtain ⟨inf, d, z, g1, g2, g3, rfl⟩ := tiOf_spec ht
    cases d <;> simp only [kindOf] at hk <;> cases hk
    exact ⟨_, exec_len ho (by simp [Builtin.len_, h2.v, run_underlying g2, goInt]), RA.intv _ rfl⟩
theorem ok_len_msl {x : Operand} {t e el : TypeId} {i : TI} {r n off len sz : Nat} {els : List (List D)} (hi : opIn k.nt (lenCall x t) = true) (ht : tiOf E.P t = some i) (hk : i.k = .slice e) (hx : evO s x = .msl r n off len) :
    OpOk E k (lenCall x t) ty s { val := .d (.v (.int .i64 len)), rh := some (r, .buf sz el els), cond := [n = els.length] } :=
  .pure _ _ fun hc c Im ρ F H a w o _ hn S ho hty hF hH => by
    have h2 := opIn_ev (x := x) S hn hi hF (by simp [Op.operands, lenCall, Call.operands])
    rw [hx] at h2
    obtain ⟨inf, d, z, g1, g2, g3, rfl⟩ := tiOf_spec ht
    cases d <;> simp only [kindOf] at hk <;> cases hk
    generalize hv : a.eval x = v at h2
    cases h2 with
    | msl _ _ _ _ _ _ hp =>
      obtain ⟨l, hl', hro, _⟩ := S.obj r _ (hH r _ rfl)
      have hval := (hp l hl').2 (by have := hro.2.2.2.1; have := hc.1; omega)
      exact ⟨_, exec_len ho (by simp [Builtin.len_, hv, hval, Loc.sub, run_underlying g2, goInt]), RA.intv _ rfl⟩
theorem ok_alloc {t : TypeId} {i : TI} {d : Nat} (ht : tiOf E.P t = some i) (h1 : i.zero.all (·.oneCell') = true) : OpOk E k (.alloc t) ty s { val := .ptr d 0, wh := some (d, some (.dvar i.zero.length (i.zero.map .v))), new := some d } := by
  intro c Im ρ F H a w o ok hn ha S ho hty hF hH hnew hc
  obtain ⟨inf, ds, z, g1, g2, g3, rfl⟩ := tiOf_spec ht
  have hb : ∀ b ∈ ({ blk := some w.heap.size } : Loc).fp, w.heap.size ≤ b ∧ b < (w.alloc (.cells z.cells t)).heap.size := fun b hb => by
    simp [Loc.fp] at hb; subst hb; simp
  refine ⟨.pointer (some ⟨w.heap.size, 0, none⟩), w.alloc (.cells z.cells t), .inl ?_, Im, _, S.new (r := d) (l := { blk := some w.heap.size }) (o := .dvar z.cells.toList.length (z.cells.toList.map .v)) (Grows.alloc w _) (hnew d rfl) hb ?_, .ptr _ _ _ rfl fun l hl => ?_⟩
  · simp [execOp, ho, Instr.alloc, zeroValue, typeInfo, g1, g3, newVar, newRow]
  · refine ⟨rfl, rfl, by simp, w.heap.size, z.cells, t, rfl, heap_alloc_new w _, by simp, fun j v hv x hx => ?_⟩
    simp only [List.getElem?_map, Option.map_eq_some_iff] at hx
    obtain ⟨u, hu, rfl⟩ := hx
    have : u = v := by simpa [hv] using hu.symm
    subst this
    exact .v _ (List.all_eq_true.1 h1 u (List.mem_of_getElem? hu))
  · rw [upd_same] at hl; injection hl with hl; subst hl
    exact ⟨rfl, _, rfl, rfl⟩
theorem ok_allocT {t : TypeId} {i : TI} {d : Nat} (ht : tiOf E.P t = some i) (h1 : i.zero.all (·.oneCell') = true) : OpOk E k (.alloc t) ty s { val := .ptr d 0, wh := some (d, some (.tvar t (i.zero.map .v))), new := some d } := by
  intro c Im ρ F H a w o ok hn ha S ho hty hF hH hnew hc
  obtain ⟨inf, ds, z, g1, g2, g3, rfl⟩ := tiOf_spec ht
  have hb : ∀ b ∈ ({ blk := some w.heap.size } : Loc).fp, w.heap.size ≤ b ∧ b < (w.alloc (.cells z.cells t)).heap.size := fun b hb => by
    simp [Loc.fp] at hb; subst hb; simp
  refine ⟨.pointer (some ⟨w.heap.size, 0, none⟩), w.alloc (.cells z.cells t), .inl ?_, Im, _, S.new (r := d) (l := { blk := some w.heap.size }) (o := .tvar t (z.cells.toList.map .v)) (Grows.alloc w _) (hnew d rfl) hb ?_, .ptr _ _ _ rfl fun l hl => ?_⟩
  · simp [execOp, ho, Instr.alloc, zeroValue, typeInfo, g1, g3, newVar, newRow]
  · refine ⟨rfl, rfl, w.heap.size, z.cells, rfl, heap_alloc_new w _, by simp, fun j v x hv hx => ?_⟩
    simp only [List.getElem?_map, Option.map_eq_some_iff] at hx
    obtain ⟨u, hu, rfl⟩ := hx
    have : u = v := by simpa [hv] using hu.symm
    subst this
    exact .v _ (List.all_eq_true.1 h1 u (List.mem_of_getElem? hu))
  · rw [upd_same] at hl; injection hl with hl; subst hl
    exact ⟨rfl, _, rfl, rfl⟩
def AV.hasCells : AV → Bool
  | .junk | .tup _ => false
  | _ => true
theorem cells_one {v : Value} (h : v.oneCell' = true) : v.cells = #[v] := by
  cases v <;> first | rfl | (simp [Value.oneCell'] at h)
theorem RA.cells {h : Nat → Option Obj} {Im : Nat → Prop} {ρ : Nat → Option Loc} {v : Value} {x : AV} (H : RA h Im ρ v x) (hx : x.hasCells = true) :
    Rel2 (fun u y => RA h Im ρ u y) v.cells.toList x.cells := by
  have one : ∀ {v : Value} {x : AV}, v.cells = #[v] → x.cells = [x] → RA h Im ρ v x → Rel2 (fun u y => RA h Im ρ u y) v.cells.toList x.cells := fun h1 h2 h3 => by rw [h1, h2]; exact .single h3
  cases H with
  | junk => simp [AV.hasCells] at hx
  | tup => simp [AV.hasCells] at hx
  | d _ y hd =>
    exact one (cells_one hd.one) rfl (.d _ _ hd)
  | dagg cs l hl hr => exact ⟨by simp [Value.cells, AV.cells, hl], fun i v y h1 h2 => by
      simp only [AV.cells, List.getElem?_map, Option.map_eq_some_iff] at h2
      obtain ⟨z, hz, rfl⟩ := h2
      exact .d _ _ (hr i v z (by simpa [Value.cells] using h1) hz)⟩
  | agg cs l hl hr => exact ⟨by simp [Value.cells, AV.cells, hl], fun i v y h1 h2 => hr i v y (by simpa [Value.cells] using h1) (by simpa [AV.cells] using h2)⟩
  | ptr x r off h0 hp => exact one (cells_one h0) rfl (.ptr _ r off h0 hp)
  | ep b o cs f hb hc hr => exact one rfl rfl (.ep b o cs f hb hc hr)
  | msl x r n off len h0 hp => exact one (cells_one h0) rfl (.msl _ r n off len h0 hp)
  | mptr x r n i j h0 hp => exact one (cells_one h0) rfl (.mptr _ r n i j h0 hp)
  | mp x r h0 hp => exact one (cells_one h0) rfl (.mp _ r h0 hp)
  | clo fn fs cs lf lc hf hc hrf hrc => exact one rfl rfl (.clo fn fs cs lf lc hf hc hrf hrc)
  | ifc t x y hx2 => exact one rfl rfl (.ifc t x y hx2)
end ops
end Go.Ax

namespace Go.Ax
def AV.one : AV → Bool
  | .junk | .agg _ | .dagg _ | .tup _ => false
  | _ => true
theorem RA.oneV {h : Nat → Option Obj} {Im : Nat → Prop} {ρ : Nat → Option Loc} {v : Value} {x : AV} (H : RA h Im ρ v x) (hx : x.one = true) : v.oneCell' = true := by
  cases H <;> first | (simp [AV.one] at hx; done) | assumption | rfl | skip
  rename_i hd; exact hd.one
def objOf : AV → AObj
  | .dagg cs => .dvar cs.length cs
  | .d x => .dvar 1 [x]
  | x => .var x.cells
def okBox : AV → Bool
  | .junk | .tup _ => false
  | .agg cs => cs.all AV.one
  | _ => true
theorem okBox_one {x : AV} (h : okBox x = true) (hd : ∀ cs, x ≠ .dagg cs) : ∀ y ∈ x.cells, y.one = true := by
  cases x <;> simp only [AV.cells] <;> first | (simp [okBox] at h; done) | (simp [AV.one]; done) | (exact absurd rfl (hd _)) | (intro y hy; exact List.all_eq_true.1 h y hy)
theorem RO.box {w : World} {Im : Nat → Prop} {ρ : Nat → Option Loc} {v : Value} {x : AV} {b : Nat} {t : TypeId} (hb : hp w b = some (.cells v.cells t (0, 0))) (H : RA (hp w) Im ρ v x) (hx : okBox x = true) : RO (hp w) Im ρ { blk := some b } (objOf x) := by
  have gen : (∀ y ∈ x.cells, y.one = true) → x.hasCells = true → RO (hp w) Im ρ { blk := some b } (.var x.cells) := fun h1 h2 => by
    have h3 := H.cells h2
    refine ⟨rfl, rfl, b, v.cells, t, rfl, hb, by simpa using h3.1, fun i u hu y hy => ?_⟩
    have h4 := h3.2 i u y (by simpa using hu) hy
    exact ⟨h4, h4.oneV (h1 y (List.mem_of_getElem? hy))⟩
  cases x <;> simp only [objOf] <;> first | (simp [okBox] at hx; done) | (exact gen (okBox_one hx (by simp)) rfl) | skip
  · refine ⟨rfl, rfl, rfl, b, v.cells, t, rfl, hb, ?_, fun i u hu y hy => ?_⟩
    · rw [cells_one (H.oneV rfl)]; rfl
    · rw [cells_one (H.oneV rfl)] at hu
      cases i with
      | zero => simp at hu hy; subst hu; subst hy; exact H.d_inv
      | succ i => simp at hy
  · cases H with
    | dagg cs l hl hr => exact ⟨rfl, rfl, rfl, b, cs, t, rfl, hb, hl, fun i u hu y hy => hr i u y hu hy⟩
theorem RA.ext {h h' : Nat → Option Obj} {Im Im' : Nat → Prop} {ρ ρ' : Nat → Option Loc} {v : Value} {x : AV} (H : RA h Im ρ v x) (hI : ∀ b, Im b → Im' b) (hh : ∀ b, Im b → h' b = h b) (hρ : ∀ r, x.ment r = true → ρ' r = ρ r) : RA h' Im' ρ' v x :=
  H.mono hI hh fun r hr l' hl' => ⟨l', by rw [← hρ r hr]; exact hl', .inl rfl⟩
section ops
variable {E : Env} {k : Kn} {ty : TypeId} {s : St}
theorem ok_box {t : TypeId} {x : Operand} {y : AV} {d : Nat} (hi : opIn k.nt (.box t x) = true) (hx : evO s x = y) (hb : okBox y = true) (hm : y.ment d = false) : OpOk E k (.box t x) ty s { val := .ptr d 0, wh := some (d, some (objOf y)), new := some d } := by
  intro c Im ρ F H a w o ok hn ha S ho hty hF hH hnew hc
  have h2 := opIn_ev (x := x) S hn hi hF (by simp [Op.operands])
  rw [hx] at h2
  have hfp : ∀ b ∈ ({ blk := some w.heap.size } : Loc).fp, w.heap.size ≤ b ∧ b < (w.alloc (.cells (a.eval x).cells t)).heap.size := fun b hb => by
    simp [Loc.fp] at hb; subst hb; simp
  have hI : ∀ b, Im b → hp (w.alloc (.cells (a.eval x).cells t)) b = hp w b := fun b hb => heap_alloc_old w _ b (S.imn b hb).1
  refine ⟨.pointer (some ⟨w.heap.size, 0, none⟩), w.alloc (.cells (a.eval x).cells t), .inl ?_, Im, _, S.new (r := d) (l := { blk := some w.heap.size }) (o := objOf y) (Grows.alloc w _) (hnew d rfl) hfp ?_, .ptr _ _ _ rfl fun l hl => ?_⟩
  · simp [execOp, ho, Instr.box, newVar, newRow]
  · refine RO.box (w := w.alloc (.cells (a.eval x).cells t)) (v := a.eval x) (heap_alloc_new w _) (h2.ext (fun _ h => h) hI fun r hr => ?_) hb
    have hne : r ≠ d := fun e => by subst e; rw [hm] at hr; exact absurd hr (by simp)
    rw [upd_ne _ _ hne]
  · rw [upd_same] at hl; injection hl with hl; subst hl
    exact ⟨rfl, _, rfl, rfl⟩
theorem foldl_set_splice (vs : List Value) : ∀ (off : Nat) (cs : Array Value), off + vs.length ≤ cs.size →
    ((vs.zipIdx.foldl (fun (cs : Array Value) (p : Value × Nat) => cs.setIfInBounds (off + p.2) p.1) cs)).toList = cs.toList.take off ++ vs ++ cs.toList.drop (off + vs.length) := by
  suffices h : ∀ (vs : List Value) (i off : Nat) (cs : Array Value), off + i + vs.length ≤ cs.size →
      (((vs.zipIdx i).foldl (fun (cs : Array Value) (p : Value × Nat) => cs.setIfInBounds (off + p.2) p.1) cs)).toList = cs.toList.take (off + i) ++ vs ++ cs.toList.drop (off + i + vs.length) by
    intro off cs hl; simpa using h vs 0 off cs (by simpa using hl)
  intro vs
  induction vs with
  | nil => intro i off cs _; simp
  | cons v rest ih =>
    intro i off cs hl
    simp only [List.zipIdx_cons, List.foldl_cons]
    rw [ih (i + 1) off (cs.setIfInBounds (off + i) v) (by simp at hl ⊢; omega)]
    have e := list_seg_step cs.toList (off + i) v rest (by simp at hl ⊢; omega)
    simpa [Array.toList_setIfInBounds, Nat.add_assoc] using e
def fillD (place : Nat → Option (Nat × Nat)) (cells : List D) : List (Nat × List D) → Option (List D)
  | [] => some cells
  | (i, l) :: r => match place i with
    | none => none
    | some (off, _) => fillD place (splice cells l off) r
def fillC (place : Nat → Option (Nat × Nat)) (n : Nat) : List (Nat × List D) → Prop
  | [] => True
  | (i, l) :: r => (∃ off sz, place i = some (off, sz) ∧ l.length = sz ∧ off + sz ≤ n) ∧ fillC place n r
theorem fill_ok {R : Value → D → Prop} {place : Nat → Option (Nat × Nat)} : ∀ {ps : List (Nat × List D)} {vs : List (Nat × Value)} {cells : List D} {ms : Array Value} {n : Nat} {out : List D}, fillD place cells ps = some out → fillC place n ps → ms.size = n → Rel2 R ms.toList cells →
    vs.length = ps.length → (∀ (i : Nat) (p : Nat × List D) (v : Nat × Value), ps[i]? = some p → vs[i]? = some v → v.1 = p.1 ∧ Rel2 R v.2.cells.toList p.2) → ∃ ms', Instr.fill place ms vs = some ms' ∧ ms'.size = n ∧ Rel2 R ms'.toList out
  | [], [], cells, ms, n, out, h, _, hn, hr, _, _ => by simp [fillD] at h; subst h; exact ⟨ms, rfl, hn, hr⟩
  | [], v :: vs, _, _, _, _, _, _, _, _, hl, _ => by simp at hl
  | p :: ps, [], _, _, _, _, _, _, _, _, hl, _ => by simp at hl
  | (i, l) :: ps, (i', v) :: vs, cells, ms, n, out, h, hc, hn, hr, hl, hv => by
    obtain ⟨⟨off, sz, hp, hsz, hfit⟩, hc'⟩ := hc
    obtain ⟨e1, e2⟩ := hv 0 (i, l) (i', v) rfl rfl
    simp only at e1; subst e1
    simp only [fillD, hp] at h
    have hvl : v.cells.size = sz := by have := e2.1; simp at this; omega
    have hsp := foldl_set_splice v.cells.toList off ms (by simp; omega)
    have hr' := hr.splice e2 off
    rw [← hsp] at hr'
    obtain ⟨ms', g1, g2, g3⟩ := fill_ok (vs := vs) (ms := (v.cells.toList.zipIdx.foldl (fun (cs : Array Value) (p : Value × Nat) => cs.setIfInBounds (off + p.2) p.1) ms)) h hc' (by
      have : ((v.cells.toList.zipIdx.foldl (fun (cs : Array Value) (p : Value × Nat) => cs.setIfInBounds (off + p.2) p.1) ms)).toList.length = n := by rw [hsp]; simp; omega
      simpa using this) hr' (by simpa using hl) (fun j p u h1 h2 => hv (j + 1) p u (by simpa using h1) (by simpa using h2))
    refine ⟨ms', ?_, g2, g3⟩
    have hcond : ¬ (v.cells.size ≠ sz ∨ off + v.cells.size > ms.size) := by omega
    simp only [Instr.fill, hp]
    rw [if_neg (by simpa using hcond)]
    rw [← g1]
    congr 1
    rw [← Array.foldl_toList]
    simp
def dcells : AV → Option (List D)
  | .d x => some [x]
  | .dagg cs => some cs
  | _ => none
theorem dcells_ok {h : Nat → Option Obj} {Im : Nat → Prop} {ρ : Nat → Option Loc} {v : Value} {x : AV} {l : List D} (H : RA h Im ρ v x) (hx : dcells x = some l) : Rel2 (RD h Im) v.cells.toList l := by
  cases x <;> simp only [dcells] at hx <;> cases hx
  · rw [cells_one (H.oneV rfl)]; exact .single H.d_inv
  · cases H with
    | dagg cs l hl hr => exact ⟨by simpa [Value.cells] using hl, fun i u y h1 h2 => hr i u y (by simpa [Value.cells] using h1) h2⟩
def partsD (s : St) : List (Nat × Operand) → Option (List (Nat × List D))
  | [] => some []
  | (i, x) :: r => match dcells (evO s x), partsD s r with
    | some l, some l' => some ((i, l) :: l')
    | _, _ => none
theorem partsD_spec {s : St} : ∀ {ps : List (Nat × Operand)} {l : List (Nat × List D)}, partsD s ps = some l → l.length = ps.length ∧ ∀ (i : Nat) (p : Nat × Operand) (q : Nat × List D), ps[i]? = some p → l[i]? = some q → q.1 = p.1 ∧ dcells (evO s p.2) = some q.2
  | [], l, h => by simp [partsD] at h; subst h; exact ⟨rfl, by simp⟩
  | (i, x) :: r, l, h => by
    simp only [partsD] at h
    split at h
    · rename_i l1 l2 h1 h2
      injection h with h; subst h
      obtain ⟨g1, g2⟩ := partsD_spec h2
      refine ⟨by simp [g1], fun j p q hp hq => ?_⟩
      cases j with
      | zero => simp at hp hq; subst hp; subst hq; exact ⟨rfl, h1⟩
      | succ j => exact g2 j p q (by simpa using hp) (by simpa using hq)
    · simp at h
def placeOf (tab : List (Nat × TI)) (i : TI) (j : Nat) : Option (Nat × Nat) := match i.k with
  | .struct fs => match fs[j]? with
    | some (off, t) => match lkT t tab with
      | some ti => some (off, ti.size)
      | none => none
    | none => none
  | .array _ e => match lkT e tab with
    | some ti => some (j * ti.size, ti.size)
    | none => none
  | _ => none
theorem run_mapM_places {P : Program} {w : World} {tab : List (Nat × TI)} (ht : TabOk P tab) : ∀ (fs : List Field), (∀ f ∈ fs, ∃ ti, lkT f.type tab = some ti) →
    (fs.mapM (m := Sem) fun (f : Field) => do pure (f.offset, ← sizeOf f.type)).run P w = .ok (fs.map fun f => (f.offset, ((lkT f.type tab).map (·.size)).getD 0)) w
  | [], _ => by simp
  | f :: fs, h => by
    obtain ⟨ti, hti⟩ := h f (by simp)
    have ih := run_mapM_places (w := w) ht fs fun g hg => h g (by simp [hg])
    simp only [List.mapM_cons, Sem.run_bind, run_sizeOf (ht.at hti), Result.andThen_ok, Sem.run_pure, ih, List.map_cons, hti, Option.map_some, Option.getD_some]
theorem ok_build_struct {tab : List (Nat × TI)} (htab : TabOk E.P tab) {t : TypeId} {parts : Array (Nat × Operand)} {i : TI} {fs : List (Nat × TypeId)} {ps : List (Nat × List D)} {out : List D} (hi : opIn k.nt (.build t parts) = true) (ht : lkT t tab = some i) (hk : i.k = .struct fs)
    (hall : fs.all (fun p => (lkT p.2 tab).isSome) = true) (hz : i.zero.all (·.oneCell') = true) (hps : partsD s parts.toList = some ps) (ho : fillD (placeOf tab i) (i.zero.map .v) ps = some out) :
    OpOk E k (.build t parts) ty s { val := .dagg out, cond := [fillC (placeOf tab i) i.zero.length ps] } :=
  .pure _ none fun hc c Im ρ F H a w o _ hn S ho' _ hF _ => by
    have hti := htab.at ht
    obtain ⟨inf, d, z, g1, g2, g3, he⟩ := tiOf_spec hti
    have hk' : kindOf d = .struct fs := by rw [he] at hk; exact hk
    cases d <;> simp only [kindOf] at hk' <;> cases hk'
    rename_i flds
    obtain ⟨hlen, hspec⟩ := partsD_spec hps
    have hzl : i.zero = z.cells.toList := by rw [he]
    have hzr : Rel2 (RD (hp w) Im) z.cells.toList (i.zero.map .v) := by
      refine ⟨by simp [hzl], fun j v x hv hx => ?_⟩
      simp only [List.getElem?_map, Option.map_eq_some_iff] at hx
      obtain ⟨u, hu, rfl⟩ := hx
      rw [hzl, hv] at hu; injection hu with hu; subst hu
      exact .v _ (List.all_eq_true.1 hz v (by rw [hzl]; exact List.mem_of_getElem? hv))
    have hplace : placeOf tab i = fun j => ((flds.toList.map fun (f : Field) => (f.offset, ((lkT f.type tab).map (·.size)).getD 0)).toArray)[j]? := by
      funext j
      simp only [placeOf, hk, List.getElem?_map]
      have : ((flds.toList.map fun (f : Field) => (f.offset, ((lkT f.type tab).map (·.size)).getD 0)).toArray)[j]? = (flds.toList[j]?).map fun (f : Field) => (f.offset, ((lkT f.type tab).map (·.size)).getD 0) := by simp
      rw [this]
      cases hj : flds.toList[j]? with
      | none => simp
      | some f =>
        have hm : (f.offset, f.type) ∈ flds.toList.map fun f => (f.offset, f.type) := List.mem_map.2 ⟨f, List.mem_of_getElem? hj, rfl⟩
        have := List.all_eq_true.1 hall _ hm
        simp only [Option.map_some]
        cases hq : lkT f.type tab with
        | none => simp [hq] at this
        | some ti => simp
    obtain ⟨ms, f1, f2, f3⟩ := fill_ok (R := RD (hp w) Im) (place := placeOf tab i) (ps := ps) (vs := (parts.map fun (j, x) => (j, a.eval x)).toList) (cells := i.zero.map .v) (ms := z.cells) (n := i.zero.length) ho hc.1 (by rw [hzl]; simp) hzr (by simp [hlen]) (fun j p v hp1 hv1 => by
      have hpl : j < parts.toList.length := by rw [← hlen]; exact (List.getElem?_eq_some_iff.1 hp1).1
      have hpj : parts.toList[j]? = some parts.toList[j] := List.getElem?_eq_getElem hpl
      obtain ⟨e1, e2⟩ := hspec j _ p hpj hp1
      have hv2 : v = ((parts.toList[j]).1, a.eval (parts.toList[j]).2) := by
        have : (parts.map fun (j, x) => (j, a.eval x)).toList[j]? = (parts.toList[j]?).map fun p => (p.1, a.eval p.2) := by simp
        rw [this, hpj] at hv1; simpa using hv1.symm
      subst hv2
      refine ⟨e1.symm, dcells_ok (opIn_ev (x := (parts.toList[j]).2) S hn hi hF ?_) e2⟩
      simp only [Op.operands, List.mem_map]
      exact ⟨parts.toList[j], List.getElem_mem hpl, rfl⟩)
    refine ⟨.agg ms, ?_, .dagg ms out (by have := f3.1; simpa using this) fun j v x h1 h2 => f3.2 j v x (by simpa using h1) h2⟩
    have hm : ∀ f ∈ flds.toList, ∃ ti, lkT f.type tab = some ti := fun f hf => by
      have := List.all_eq_true.1 hall (f.offset, f.type) (List.mem_map.2 ⟨f, hf, rfl⟩)
      cases hq : lkT f.type tab with
      | none => simp [hq] at this
      | some ti => exact ⟨ti, rfl⟩
    have hmap : (flds.mapM (m := Sem) fun (f : Field) => do pure (f.offset, ← sizeOf f.type)).run E.P w = .ok (flds.toList.map fun f => (f.offset, ((lkT f.type tab).map (·.size)).getD 0)).toArray w := by
      rw [Array.mapM_eq_mapM_toList, Sem.run_map, run_mapM_places htab flds.toList hm]; rfl
    rw [hplace] at f1
    simp only [execOp, ho', Instr.build, Sem.run_bind, zeroValue, typeInfo, g1, g3, Result.andThen_ok, run_underlying g2, hmap, run_program, Sem.run_pure]
    rw [f1]
    simp
end ops
end Go.Ax

namespace Go.Ax
section ops
variable {E : Env} {k : Kn} {ty : TypeId} {s : St}
def partsS (s : St) (sz : Nat) : Nat → List (Nat × Operand) → Option (List (List D))
  | _, [] => some []
  | j, (i, x) :: r => match Nat.beq i j, dcells (evO s x), partsS s sz (j + 1) r with
    | true, some l, some l' => some (l :: l')
    | _, _, _ => none
theorem partsS_spec {s : St} {sz : Nat} : ∀ {ps : List (Nat × Operand)} {j : Nat} {l : List (List D)}, partsS s sz j ps = some l → l.length = ps.length ∧ ∀ (i : Nat) (p : Nat × Operand) (q : List D), ps[i]? = some p → l[i]? = some q → p.1 = j + i ∧ dcells (evO s p.2) = some q
  | [], j, l, h => by simp [partsS] at h; subst h; exact ⟨rfl, by simp⟩
  | (i, x) :: r, j, l, h => by
    simp only [partsS] at h
    split at h
    · rename_i l1 l2 h0 h1 h2
      injection h with h; subst h
      obtain ⟨g1, g2⟩ := partsS_spec h2
      refine ⟨by simp [g1], fun m p q hp hq => ?_⟩
      cases m with
      | zero => simp at hp hq; subst hp; subst hq; exact ⟨Nat.eq_of_beq_eq_true h0, h1⟩
      | succ m =>
        obtain ⟨e1, e2⟩ := g2 m p q (by simpa using hp) (by simpa using hq)
        exact ⟨by omega, e2⟩
    · simp at h
theorem fill_rows {R : Value → D → Prop} {sz : Nat} : ∀ {els : List (List D)} {vs : List (Nat × Value)} {j : Nat} {ms : Array Value}, vs.length = els.length → (∀ (i : Nat) (v : Nat × Value) (q : List D), vs[i]? = some v → els[i]? = some q → v.1 = j + i ∧ Rel2 R v.2.cells.toList q) →
    (∀ q ∈ els, q.length = sz) → (j + els.length) * sz ≤ ms.size → ∃ ms', Instr.fill (fun i => some (i * sz, sz)) ms vs = some ms' ∧ ms'.size = ms.size ∧ (∀ i, i < j * sz → ms'[i]? = ms[i]?) ∧
      ∀ i m q x, els[i]? = some q → q[m]? = some x → ∃ v, ms'[(j + i) * sz + m]? = some v ∧ R v x
  | [], vs, j, ms, hl, hv, hs, hz => by
    have : vs = [] := List.eq_nil_of_length_eq_zero (by simpa using hl)
    subst this
    exact ⟨ms, rfl, rfl, fun _ _ => rfl, by simp⟩
  | q :: els, [], j, ms, hl, _, _, _ => by simp at hl
  | q :: els, (i', v) :: vs, j, ms, hl, hv, hs, hz => by
    obtain ⟨e1, e2⟩ := hv 0 (i', v) q rfl rfl
    simp only [Nat.add_zero] at e1
    have e1 : j = i' := e1.symm
    subst e1
    have hq : q.length = sz := hs q (by simp)
    have hvl : v.cells.size = sz := by have := e2.1; simp at this; omega
    have hfit : j * sz + sz ≤ ms.size := by
      have : (j + (q :: els).length) * sz = j * sz + sz + els.length * sz := by simp [Nat.add_mul]; omega
      omega
    have hsp := foldl_set_splice v.cells.toList (j * sz) ms (by simp; omega)
    generalize hms1 : (v.cells.toList.zipIdx.foldl (fun (cs : Array Value) (p : Value × Nat) => cs.setIfInBounds (j * sz + p.2) p.1) ms) = ms1 at hsp
    have hsz1 : ms1.size = ms.size := by
      have : ms1.toList.length = ms.size := by rw [hsp]; simp; omega
      simpa using this
    have hget : ∀ i, ms1[i]? = (ms.toList.take (j * sz) ++ v.cells.toList ++ ms.toList.drop (j * sz + v.cells.toList.length))[i]? := fun i => by rw [← hsp, Array.getElem?_toList]
    obtain ⟨ms', g1, g2, g3, g4⟩ := fill_rows (R := R) (sz := sz) (els := els) (vs := vs) (j := j + 1) (ms := ms1) (by simpa using hl) (fun i u p h1 h2 => by
      obtain ⟨k1, k2⟩ := hv (i + 1) u p (by simpa using h1) (by simpa using h2)
      exact ⟨by omega, k2⟩) (fun p hp => hs p (by simp [hp])) (by rw [hsz1, show j + 1 + els.length = j + (q :: els).length from by rw [List.length_cons]; omega]; exact hz)
    refine ⟨ms', ?_, g2.trans hsz1, fun i hi => ?_, fun i m p x hp hx => ?_⟩
    · simp only [Instr.fill]
      rw [if_neg (by simp; omega), ← g1]
      congr 1
      rw [← hms1, ← Array.foldl_toList]
      simp
    · rw [g3 i (by rw [Nat.add_mul]; omega), hget i, List.append_assoc, List.getElem?_append_left (by simp; omega)]
      rw [List.getElem?_take, if_pos hi]; simp
    · cases i with
      | zero =>
        simp at hp; subst hp
        have hm : m < q.length := (List.getElem?_eq_some_iff.1 hx).1
        have hmv : m < v.cells.toList.length := by rw [e2.1]; exact hm
        refine ⟨v.cells.toList[m], ?_, e2.2 m _ x (List.getElem?_eq_getElem hmv) hx⟩
        rw [Nat.add_zero, g3 _ (by rw [Nat.add_mul]; omega), hget, List.append_assoc, List.getElem?_append_right (by simp; omega), List.getElem?_append_left (by simp; simp at hmv; omega)]
        have hlen : (ms.toList.take (j * sz)).length = j * sz := by simp; omega
        rw [hlen, Nat.add_sub_cancel_left]
        exact List.getElem?_eq_getElem hmv
      | succ i =>
        obtain ⟨u, k1, k2⟩ := g4 i m p x (by simpa using hp) hx
        exact ⟨u, by rw [show j + (i + 1) = j + 1 + i from by omega]; exact k1, k2⟩
theorem RD.row {h : Nat → Option Obj} {Im : Nat → Prop} {b o cap sz : Nat} {els : List (List D)} {tight : Bool} {cs : Array Value} {t : TypeId} {fz : Nat × Nat} (hb : Im b) (hm : h b = some (.cells cs t fz)) (hs : ∀ el ∈ els, el.length = sz) (hle : els.length ≤ cap) (ht : tight = true → cap = els.length)
    (hc : ∀ i j el x, els[i]? = some el → el[j]? = some x → ∃ v, cs[o + (i * sz + j)]? = some v ∧ RD h Im v x) : RD h Im (.slice (some ⟨b, o, none⟩) els.length cap) (.sl tight sz els) := by
  refine .sl tight sz els b o cap (fun i j => cs.getD (o + (i * sz + j)) undef) hs hb hle ht (fun i j el x h1 h2 => ?_) (fun i j el x h1 h2 => ?_)
  · obtain ⟨v, e1, _⟩ := hc i j el x h1 h2
    refine ⟨cs, t, fz, hm, ?_⟩
    rw [e1, Array.getD_eq_getD_getElem?, e1]; rfl
  · obtain ⟨v, e1, e2⟩ := hc i j el x h1 h2
    rw [Array.getD_eq_getD_getElem?, e1]; exact e2
theorem ok_buildSlice {t e : TypeId} {i ei : TI} {n : Nat} {parts : Array (Nat × Operand)} {els : List (List D)} (hi : opIn k.nt (.buildSlice t n parts) = true) (ht : tiOf E.P t = some i) (hk : i.k = .slice e) (he : tiOf E.P e = some ei) (hz : ei.zero.length = ei.size) (hsmall : n * ei.size ≤ 16777216)
    (hps : partsS s ei.size 0 parts.toList = some els) (hn : els.length = n) : OpOk E k (.buildSlice t n parts) ty s { val := .d (.sl true ei.size els), cond := [∀ q ∈ els, q.length = ei.size] } := by
  intro c Im ρ F H a w o ok hnt ha S ho hty hF hH hnew hc
  obtain ⟨inf, d, z, g1, g2, g3, rfl⟩ := tiOf_spec ht
  cases d <;> simp only [kindOf] at hk <;> cases hk
  obtain ⟨einf, ed, ez, f1, f2, f3, rfl⟩ := tiOf_spec he
  simp only at hz hsmall hc hps
  have hzs : ez.cells.size = einf.size := by simpa using hz
  obtain ⟨hlen, hspec⟩ := partsS_spec hps
  subst hn
  let zeros : Array Value := (Array.range (els.length * einf.size)).map fun j => (if els.length * einf.size = 0 then #[] else ez.cells)[j % (if els.length * einf.size = 0 then #[] else ez.cells).size]!
  obtain ⟨ms, r1, r2, _, r4⟩ := fill_rows (R := RD (hp w) Im) (sz := einf.size) (els := els) (vs := (parts.map fun (j, x) => (j, a.eval x)).toList) (j := 0) (ms := zeros) (by simp [hlen]) (fun j v q h1 h2 => by
    have hpl : j < parts.toList.length := by rw [← hlen]; exact (List.getElem?_eq_some_iff.1 h2).1
    have hpj : parts.toList[j]? = some parts.toList[j] := List.getElem?_eq_getElem hpl
    obtain ⟨e1, e2⟩ := hspec j _ q hpj h2
    have hv2 : v = ((parts.toList[j]).1, a.eval (parts.toList[j]).2) := by
      have : (parts.map fun (j, x) => (j, a.eval x)).toList[j]? = (parts.toList[j]?).map fun p => (p.1, a.eval p.2) := by simp
      rw [this, hpj] at h1; simpa using h1.symm
    subst hv2
    refine ⟨e1, dcells_ok (opIn_ev (x := (parts.toList[j]).2) S hnt hi hF ?_) e2⟩
    simp only [Op.operands, List.mem_map]
    exact ⟨parts.toList[j], List.getElem_mem hpl, rfl⟩) hc.1 (by simp [zeros])
  have hrun : (execOp a.eval o).run E.P w = .ok (.value (.slice (some ⟨w.heap.size, 0, none⟩) els.length els.length)) (w.alloc (.cells ms e)) := by
    have hs2 : ¬ (els.length * einf.size > 2 ^ 24) := by omega
    have hsize : (sizeOf e).run E.P w = .ok einf.size w := by simp [sizeOf, typeInfo, f1]
    have hzv : (zeroValue e).run E.P w = .ok ez w := by simp [zeroValue, typeInfo, f1, f3]
    simp only [execOp, ho, Instr.buildSlice, Sem.run_bind, run_underlying g2, hsize, Result.andThen_ok, if_neg hs2, Sem.run_pure, Sem.run_ite]
    simp only [zeros] at r1
    rw [Array.toList_map] at r1
    by_cases h0 : els.length * einf.size = 0
    · simp only [if_pos h0] at r1
      rw [if_pos h0, Array.toList_map, r1]
      simp [newRow]
    · simp only [if_neg h0] at r1
      rw [if_neg h0, hzv]
      simp only [Result.andThen_ok]
      rw [Array.toList_map, r1]
      simp [newRow]
  refine ⟨_, _, .inl hrun, fun b => Im b ∨ b = w.heap.size, ρ, S.born (B := fun b => b = w.heap.size) (Grows.alloc w _) (fun b hb => by subst hb; simp), ?_⟩
  refine .d _ _ (RD.row (cs := ms) (t := e) (fz := (0, 0)) (.inr rfl) (heap_alloc_new w _) hc.1 (Nat.le_refl _) (fun _ => rfl) fun i j el x h1 h2 => ?_)
  obtain ⟨v, e1, e2⟩ := r4 i j el x h1 h2
  exact ⟨v, by simpa using e1, e2.mono (fun _ h => .inl h) fun b hb => heap_alloc_old w _ b (S.imn b hb).1⟩
end ops
end Go.Ax

namespace Go.Ax
theorem Grows.setRow (w : World) (b : Nat) (cs : Array Value) : Grows w (w.setRow b cs) fun x => x = b :=
  ⟨by simp, rfl, rfl, rfl, fun x _ hx => setRow_other w b x cs hx⟩
theorem run_storeVar_at {P : Program} {w : World} {t ty : TypeId} {i : TI} {v : Value} {b off : Nat} {ms : Array Value} (hi : tiOf P t = some i) (hm : hp w b = some (.cells ms ty (0, 0))) (hv : v.cells.size = i.size) (hfit : off + i.size ≤ ms.size) (h1 : ∀ u ∈ v.cells.toList, u.oneCell' = true) :
    (storeVar t ⟨b, off, none⟩ v).run P w = .ok () (w.setRow b (ms.toList.take off ++ v.cells.toList ++ ms.toList.drop (off + v.cells.toList.length)).toArray) := by
  have hs := run_storeCells_at P b off ty v.cells.toList 0 ms w hm (by simp; omega) h1
  simp only [Nat.add_zero] at hs
  simp [storeVar, run_sizeOf hi, hv, hs]
theorem RO.dvar_rel {h : Nat → Option Obj} {Im : Nat → Prop} {ρ : Nat → Option Loc} {l : Loc} {n : Nat} {cs : List D} (H : RO h Im ρ l (.dvar n cs)) : ∃ b ms t, l.blk = some b ∧ l.more = [] ∧ l.isBuf = false ∧ h b = some (.cells ms t (0, 0)) ∧ ms.size = n ∧ Rel2 (RD h Im) ms.toList cs := by
  obtain ⟨h0, h1, h2, b, ms, t, h3, h4, h5, h6⟩ := H
  exact ⟨b, ms, t, h3, h1, h0, h4, h5, by simp [h5, h2], fun i v x e1 e2 => h6 i v (by simpa using e1) x e2⟩
theorem RO.dvar_of {h : Nat → Option Obj} {Im : Nat → Prop} {ρ : Nat → Option Loc} {l : Loc} {n b : Nat} {cs : List D} {ms : Array Value} {t : TypeId} (h1 : l.blk = some b) (h2 : l.more = []) (h0 : l.isBuf = false) (h3 : h b = some (.cells ms t (0, 0))) (h4 : ms.size = n) (h5 : Rel2 (RD h Im) ms.toList cs) : RO h Im ρ l (.dvar n cs) :=
  ⟨h0, h2, by rw [← h5.1]; simpa using h4, b, ms, t, h1, h3, h4, fun i v hv x hx => h5.2 i v x (by simpa using hv) hx⟩
theorem RO.var_rel {h : Nat → Option Obj} {Im : Nat → Prop} {ρ : Nat → Option Loc} {l : Loc} {cs : List AV} (H : RO h Im ρ l (.var cs)) : ∃ b ms t, l.blk = some b ∧ l.more = [] ∧ l.isBuf = false ∧ h b = some (.cells ms t (0, 0)) ∧ ms.size = cs.length ∧ Rel2 (fun v x => RA h Im ρ v x ∧ v.oneCell' = true) ms.toList cs := by
  obtain ⟨h0, h1, b, ms, t, h3, h4, h5, h6⟩ := H
  exact ⟨b, ms, t, h3, h1, h0, h4, h5, by simp [h5], fun i v x e1 e2 => h6 i v (by simpa using e1) x e2⟩
theorem RO.var_of {h : Nat → Option Obj} {Im : Nat → Prop} {ρ : Nat → Option Loc} {l : Loc} {b : Nat} {cs : List AV} {ms : Array Value} {t : TypeId} (h1 : l.blk = some b) (h2 : l.more = []) (h0 : l.isBuf = false) (h3 : h b = some (.cells ms t (0, 0))) (h5 : Rel2 (fun v x => RA h Im ρ v x ∧ v.oneCell' = true) ms.toList cs) : RO h Im ρ l (.var cs) :=
  ⟨h0, h2, b, ms, t, h1, h3, by have := h5.1; simpa using this, fun i v hv x hx => h5.2 i v x (by simpa using hv) hx⟩
theorem RO.dvar_var {h : Nat → Option Obj} {Im : Nat → Prop} {ρ : Nat → Option Loc} {l : Loc} {n : Nat} {cs : List D} (H : RO h Im ρ l (.dvar n cs)) : RO h Im ρ l (.var (cs.map .d)) := by
  obtain ⟨b, ms, t, h1, h2, h0, h3, _, h5⟩ := H.dvar_rel
  exact .var_of h1 h2 h0 h3 (h5.map fun v x hx => ⟨.d _ _ hx, hx.one⟩)
section ops
variable {E : Env} {k : Kn} {ty : TypeId} {s : St}
theorem exec_store {P : Program} {a : Act} {w w' : World} {o : Oper} {t : TypeId} {x y : Operand} {ad : Addr} (ho : o.op = .store t x y) (hx : a.eval x = .pointer (some ad)) (h : (storeVar t ad (a.eval y)).run P w = .ok () w') :
    (execOp a.eval o).run P w = .ok .skip w' := by simp [execOp, ho, hx, Instr.storeAt, Instr.sureAddr, h]
theorem upd_self {ρ : Nat → Option Loc} {r : Nat} {l : Loc} (h : ρ r = some l) : upd ρ r (some l) = ρ := by
  funext q; by_cases e : q = r
  · subst e; simp [h]
  · rw [upd_ne _ _ e]
theorem store_var {t : TypeId} {x y : Operand} {i : TI} {r off : Nat} {ob ob' : AObj} {cond : List Prop} (hi : opIn k.nt (.store t x y) = true) (ht : tiOf E.P t = some i) (hx : evO s x = .ptr r off)
    (hob : AllL cond → ∀ (Im : Nat → Prop) (ρ : Nat → Option Loc) (l : Loc) (w : World) (v : Value), RO (hp w) Im ρ l ob → RA (hp w) Im ρ v (evO s y) → (∀ b ∈ l.fp, ¬ Im b) → ∃ b ms tt, l.blk = some b ∧ l.more = [] ∧ hp w b = some (.cells ms tt (0, 0)) ∧ v.cells.size = i.size ∧ off + i.size ≤ ms.size ∧ (∀ u ∈ v.cells.toList, u.oneCell' = true) ∧
      (∀ w', (∀ q, Im q → hp w' q = hp w q) → hp w' b = some (.cells (ms.toList.take off ++ v.cells.toList ++ ms.toList.drop (off + v.cells.toList.length)).toArray tt (0, 0)) → RO (hp w') Im ρ l ob')) :
    OpOk E k (.store t x y) ty s { val := .junk, rh := some (r, ob), wh := some (r, some ob'), cond } := by
  intro c Im ρ F H a w o ok hn ha S ho hty hF hH hnew hc
  have h2 := opIn_ev (x := x) S hn hi hF (by simp [Op.operands])
  have h3 := opIn_ev (x := y) S hn hi hF (by simp [Op.operands])
  rw [hx] at h2
  generalize hv : a.eval x = v at h2
  cases h2 with
  | ptr _ _ _ _ hp2 =>
    obtain ⟨l, hl, hro, hown⟩ := S.obj r _ (hH r _ rfl)
    obtain ⟨_, b1, hb1, rfl⟩ := hp2 l hl
    obtain ⟨b, ms, tt, hb, hmore, hm, hsz, hfit, h1, hnext⟩ := hob hc Im ρ l w (a.eval y) hro h3 (fun b hb => (hown b hb).2.1)
    rw [hb] at hb1; injection hb1 with hb1; subst hb1
    have hfp : l.fp = [b] := by simp [Loc.fp, hb, hmore]
    have hrun := run_storeVar_at (P := E.P) (w := w) ht hm hsz hfit h1
    have hg : Grows w (w.setRow b (ms.toList.take off ++ (a.eval y).cells.toList ++ ms.toList.drop (off + (a.eval y).cells.toList.length)).toArray) (fun q => q ∈ l.fp) := by
      rw [hfp]; simpa using Grows.setRow w b _
    refine ⟨undef, _, .inr ⟨exec_store ho hv hrun, rfl⟩, Im, _, S.chg (r := r) (l := l) (l' := l) (o' := ob') (hH r _ rfl) hl hg (.inl rfl) (fun q hq => .inl hq) ?_, .junk _⟩
    rw [upd_self hl]
    refine hnext _ (fun q hq => hg.block q (S.imn q hq).1 fun h => (hown q h).2.1 hq) (setRow_heap w b ms _ tt _ hm)
theorem ok_store_dvar {t : TypeId} {x y : Operand} {i : TI} {r off n : Nat} {cs l : List D} (hi : opIn k.nt (.store t x y) = true) (ht : tiOf E.P t = some i) (hx : evO s x = .ptr r off) (hy : dcells (evO s y) = some l) :
    OpOk E k (.store t x y) ty s { val := .junk, rh := some (r, .dvar n cs), wh := some (r, some (.dvar n (splice cs l off))), cond := [l.length = i.size, off + i.size ≤ n] } :=
  store_var hi ht hx fun hc Im ρ lo w v hro hra hni => by
    obtain ⟨c1, c2, _⟩ := hc
    obtain ⟨b, ms, tt, h1, h2, h0, h3, h4, h5⟩ := hro.dvar_rel
    have h6 := dcells_ok hra hy
    have hvs : v.cells.size = i.size := by have := h6.1; simp at this; omega
    refine ⟨b, ms, tt, h1, h2, h3, hvs, by omega, fun u hu => ?_, fun w' hI hm => ?_⟩
    · obtain ⟨j, hj⟩ := List.getElem?_of_mem hu
      have hjl : j < l.length := by rw [← h6.1]; exact (List.getElem?_eq_some_iff.1 hj).1
      exact (h6.2 j u l[j] hj (List.getElem?_eq_getElem hjl)).one
    · refine .dvar_of h1 h2 h0 hm (by simp; omega) ?_
      have := (h5.splice h6 off).imp fun v x (hx : RD (hp w) Im v x) => hx.mono (fun _ h => h) hI
      simpa using this
theorem ok_store_whole {t : TypeId} {x y : Operand} {i : TI} {r n : Nat} {cs l : List D} (hi : opIn k.nt (.store t x y) = true) (ht : tiOf E.P t = some i) (hx : evO s x = .ptr r 0) (hy : dcells (evO s y) = some l) (hn : i.size = n) :
    OpOk E k (.store t x y) ty s { val := .junk, rh := some (r, .dvar n cs), wh := some (r, some (.dvar n l)), cond := [l.length = i.size] } :=
  store_var hi ht hx fun hc Im ρ lo w v hro hra hni => by
    obtain ⟨c1, _⟩ := hc
    obtain ⟨b, ms, tt, h1, h2, h0, h3, h4, h5⟩ := hro.dvar_rel
    have h6 := dcells_ok hra hy
    have hvs : v.cells.size = i.size := by have := h6.1; simp at this; omega
    refine ⟨b, ms, tt, h1, h2, h3, hvs, by omega, fun u hu => ?_, fun w' hI hm => ?_⟩
    · obtain ⟨j, hj⟩ := List.getElem?_of_mem hu
      have hjl : j < l.length := by rw [← h6.1]; exact (List.getElem?_eq_some_iff.1 hj).1
      exact (h6.2 j u l[j] hj (List.getElem?_eq_getElem hjl)).one
    · have hd : ms.toList.drop v.cells.toList.length = [] := List.drop_eq_nil_of_le (by simp; omega)
      rw [Nat.zero_add, hd, List.take_zero, List.nil_append, List.append_nil] at hm
      refine .dvar_of h1 h2 h0 hm (by simp; omega) ?_
      have := h6.imp fun v x (hx : RD (hp w) Im v x) => hx.mono (fun _ h => h) hI
      simpa using this
theorem ok_store_var {t : TypeId} {x y : Operand} {i : TI} {r off : Nat} {cs : List AV} {z : AV} (hi : opIn k.nt (.store t x y) = true) (ht : tiOf E.P t = some i) (hx : evO s x = .ptr r off) (hy : evO s y = z) (hz : z.hasCells = true) (hz1 : z.cells.all AV.one = true) (hl : z.cells.length = i.size) (hfit : off + i.size ≤ cs.length) :
    OpOk E k (.store t x y) ty s { val := .junk, rh := some (r, .var cs), wh := some (r, some (.var (splice cs z.cells off))) } :=
  store_var hi ht hx fun hc Im ρ lo w v hro hra hni => by
    rw [hy] at hra
    obtain ⟨b, ms, tt, h1, h2, h0, h3, h4, h5⟩ := hro.var_rel
    have h6 := hra.cells hz
    have hvs : v.cells.size = i.size := by have := h6.1; simp at this; omega
    have h7 : Rel2 (fun v x => RA (hp w) Im ρ v x ∧ v.oneCell' = true) v.cells.toList z.cells := ⟨h6.1, fun j u q e1 e2 => ⟨h6.2 j u q e1 e2, (h6.2 j u q e1 e2).oneV (List.all_eq_true.1 hz1 q (List.mem_of_getElem? e2))⟩⟩
    refine ⟨b, ms, tt, h1, h2, h3, hvs, by omega, fun u hu => ?_, fun w' hI hm => ?_⟩
    · obtain ⟨j, hj⟩ := List.getElem?_of_mem hu
      have hjl : j < z.cells.length := by rw [← h6.1]; exact (List.getElem?_eq_some_iff.1 hj).1
      exact (h7.2 j u z.cells[j] hj (List.getElem?_eq_getElem hjl)).2
    · refine .var_of h1 h2 h0 hm ?_
      have := (h5.splice h7 off).imp fun v x (hx : RA (hp w) Im ρ v x ∧ v.oneCell' = true) => And.intro (hx.1.ext (fun _ h => h) hI fun _ _ => rfl) hx.2
      simpa using this
theorem ok_store_mixed {t : TypeId} {x y : Operand} {i : TI} {r off n : Nat} {cs : List D} {z : AV} (hi : opIn k.nt (.store t x y) = true) (ht : tiOf E.P t = some i) (hx : evO s x = .ptr r off) (hy : evO s y = z) (hz : z.hasCells = true) (hz1 : z.cells.all AV.one = true) (hl : z.cells.length = i.size) (hfit : off + i.size ≤ n) :
    OpOk E k (.store t x y) ty s { val := .junk, rh := some (r, .dvar n cs), wh := some (r, some (.var (splice (cs.map .d) z.cells off))) } :=
  store_var hi ht hx fun hc Im ρ lo w v hro hra hni => by
    rw [hy] at hra
    have hcl := hro.2.2.1
    obtain ⟨b, ms, tt, h1, h2, h0, h3, h4, h5⟩ := hro.dvar_var.var_rel
    have h6 := hra.cells hz
    have hvs : v.cells.size = i.size := by have := h6.1; simp at this; omega
    have h7 : Rel2 (fun v x => RA (hp w) Im ρ v x ∧ v.oneCell' = true) v.cells.toList z.cells := ⟨h6.1, fun j u q e1 e2 => ⟨h6.2 j u q e1 e2, (h6.2 j u q e1 e2).oneV (List.all_eq_true.1 hz1 q (List.mem_of_getElem? e2))⟩⟩
    refine ⟨b, ms, tt, h1, h2, h3, hvs, by rw [h4, List.length_map]; omega, fun u hu => ?_, fun w' hI hm => ?_⟩
    · obtain ⟨j, hj⟩ := List.getElem?_of_mem hu
      have hjl : j < z.cells.length := by rw [← h6.1]; exact (List.getElem?_eq_some_iff.1 hj).1
      exact (h7.2 j u z.cells[j] hj (List.getElem?_eq_getElem hjl)).2
    · refine .var_of h1 h2 h0 hm ?_
      have := (h5.splice h7 off).imp fun v x (hx : RA (hp w) Im ρ v x ∧ v.oneCell' = true) => And.intro (hx.1.ext (fun _ h => h) hI fun _ _ => rfl) hx.2
      simpa using this
def appCall (x y : Operand) (t : TypeId) : Op := .call { callee := .builtin .append, args := #[x, y], argTypes := #[t, t] }
theorem exec_append {P : Program} {a : Act} {w w' : World} {o : Oper} {t : TypeId} {x y : Operand} {v : Value} (ho : o.op = appCall x y t) (h : (Builtin.append_ #[t, t] o.type #[a.eval x, a.eval y]).run P w = .ok v w') : (execOp a.eval o).run P w = .ok (.value v) w' := by
  simp [execOp, ho, appCall, resolve, invoke, builtin, h]
theorem RD.news {w : World} {Im : Nat → Prop} {v : Value} {tight : Bool} {sz : Nat} {els : List (List D)} (H : RD (hp w) Im v (.sl tight sz els)) (hs : 0 < sz) :
    (∃ cap, els = [] ∧ v = .slice none 0 cap) ∨ ∃ (ad : Addr) (cap : Nat) (news : List Value), v = .slice (some ad) els.length cap ∧ news.length = els.length * sz ∧ (∀ (j : Nat) (u : Value), news[j]? = some u → w.cell? (ad.add j) = some u) ∧ (∀ u ∈ news, u.oneCell' = true) ∧
      (∀ q ∈ els, q.length = sz) ∧ ∀ (i j : Nat) (q : List D) (x : D), els[i]? = some q → q[j]? = some x → ∃ u, news[i * sz + j]? = some u ∧ RD (hp w) Im u x := by
  cases H with
  | nil _ _ ad cap _ =>
    cases ad with
    | none => exact .inl ⟨cap, rfl, rfl⟩
    | some ad => exact .inr ⟨ad, cap, [], rfl, by simp, by simp, by simp, by simp, by simp⟩
  | sl _ _ _ b o cap f hlen hb hle ht hc hr =>
    have key : ∀ j, j < els.length * sz → ∃ q x, els[j / sz]? = some q ∧ q[j % sz]? = some x := fun j hj => by
      have h1 : j / sz < els.length := (Nat.div_lt_iff_lt_mul hs).2 hj
      have h2 : j % sz < sz := Nat.mod_lt _ hs
      have h3 := hlen els[j / sz] (List.getElem_mem h1)
      exact ⟨els[j / sz], (els[j / sz])[j % sz]'(by omega), List.getElem?_eq_getElem h1, List.getElem?_eq_getElem (by omega)⟩
    refine .inr ⟨⟨b, o, none⟩, cap, (List.range (els.length * sz)).map fun j => f (j / sz) (j % sz), rfl, by simp, fun j u hu => ?_, fun u hu => ?_, hlen, fun i j q x h1 h2 => ?_⟩
    · have hj : j < els.length * sz := by have := (List.getElem?_eq_some_iff.1 hu).1; simpa using this
      have hu' : u = f (j / sz) (j % sz) := by simpa [hj] using hu.symm
      obtain ⟨q, x, h1, h2⟩ := key j hj
      obtain ⟨ms, t, fz, e1, e2⟩ := hc _ _ q x h1 h2
      have : o + (j / sz * sz + j % sz) = o + j := by have := Nat.div_add_mod j sz; rw [Nat.mul_comm] at this; omega
      rw [this] at e2
      rw [add_zero_spot, hu']
      exact cell_hp e1 e2
    · simp only [List.mem_map, List.mem_range] at hu
      obtain ⟨j, hj, rfl⟩ := hu
      obtain ⟨q, x, h1, h2⟩ := key j hj
      exact (hr _ _ q x h1 h2).one
    · have hil : i < els.length := (List.getElem?_eq_some_iff.1 h1).1
      have hjl : j < sz := by
        have := (List.getElem?_eq_some_iff.1 h2).1
        rw [hlen q (List.mem_of_getElem? h1)] at this; exact this
      have hlt : i * sz + j < els.length * sz := by
        have : (i + 1) * sz ≤ els.length * sz := Nat.mul_le_mul_right _ (by omega)
        rw [Nat.add_mul] at this; omega
      refine ⟨f i j, ?_, hr i j q x h1 h2⟩
      have e1 : (i * sz + j) / sz = i := by rw [Nat.mul_comm, Nat.mul_add_div hs, Nat.div_eq_of_lt hjl]; omega
      have e2 : (i * sz + j) % sz = j := by rw [Nat.mul_comm, Nat.mul_add_mod, Nat.mod_eq_of_lt hjl]
      simp [hlt, e1, e2]
theorem run_append_none {P : Program} {w : World} {t ty e : TypeId} {i : TypeInfo} (ht : P.underlying t = some (.slice e)) (hi : P.info? e = some i) {base b2 : Option Addr} {n cap c : Nat} (hc : n ≤ cap) :
    (Builtin.append_ #[t, t] ty #[.slice base n cap, .slice b2 0 c]).run P w = .ok (.slice base n cap) w := by
  cases base <;> cases b2 <;> simp [Builtin.append_, run_underlying ht, sizeOf, typeInfo, hi, Builtin.lenOf, hc, Builtin.firstCells, storeCells, loadCells, loadCellsFrom]
theorem append_where {P : Program} {w w' : World} {t ty e : TypeId} {i : TypeInfo} {z : Value} {sz n m c : Nat} {v v' : Value} {xs news : List Value} {ad : Addr} (ht : P.underlying t = some (.slice e)) (hi : P.info? e = some i) (hz : i.zero = some z) (hsz : i.size = sz)
    (hown : w.ownsRow 0 e sz v n xs) (hl : news.length = m * sz) (hnews : ∀ (j : Nat) (u : Value), news[j]? = some u → w.cell? (ad.add j) = some u) (h1 : ∀ u ∈ news, u.oneCell' = true) (hm : 0 < m) (h63 : n + m ≤ maxLen) (hb : (n + m) * i.bytes ≤ 140737488355328)
    (hr : (Builtin.append_ #[t, t] ty #[v, .slice (some ad) m c]).run P w = .ok v' w') : v'.ownBlock = v.ownBlock ∨ v'.ownBlock = some w.heap.size := by
  subst hsz
  have hsmall : n + m ≤ 9223372036854775807 := by simp only [maxLen] at h63; omega
  rcases hown.2 with ⟨rfl, rfl⟩ | ⟨g, cap, cur, rfl, _, hg, hnc, hcm, hcs, htake⟩
  · have h2 := run_append_nil (P := P) w t ty e i z ht hi hz ad m c news hl hnews hm (by omega) (by simp only [Nat.zero_add] at hb; omega)
    rw [h2] at hr; injection hr with hr _; subst hr
    exact .inr rfl
  · by_cases hroom : n + m ≤ cap
    · have hfit : n * i.size + news.length ≤ cur.size := by rw [hl, hcs, ← Nat.add_mul]; exact Nat.mul_le_mul_right _ hroom
      have h2 := run_append_room (P := P) w t ty e i ht hi g n cap cur hg ad m c news hl hnews h1 hroom hfit
      rw [h2] at hr; injection hr with hr _; subst hr
      exact .inl rfl
    · have h2 := run_append_grow (P := P) w t ty e i z ht hi hz ⟨g, 0, none⟩ n cap xs hown.1 (hown.cells (g := g) rfl) ad m c news hl hnews (by omega) (by omega) (growslice_fits (by omega) hb)
      rw [h2] at hr; injection hr with hr _; subst hr
      exact .inr rfl
theorem RO.sub_eq {h : Nat → Option Obj} {Im : Nat → Prop} {ρ : Nat → Option Loc} {l : Loc} {sz : Nat} {el : TypeId} {els : List (List D)} (_ : RO h Im ρ l (.buf sz el els)) : l.sub 0 els.length = .slice l.addr els.length l.cap := by
  simp only [Loc.sub, Nat.zero_mul]
  split
  · rename_i h; rw [h]
  · cases l.addr <;> simp [Addr.add]
theorem RO.owns {w : World} {Im : Nat → Prop} {ρ : Nat → Option Loc} {l : Loc} {sz : Nat} {el : TypeId} {els : List (List D)} (H : RO (hp w) Im ρ l (.buf sz el els)) (had : l.blk = none → l.ad0 = none) : ∃ xs, w.ownsRow 0 el sz (l.sub 0 els.length) els.length xs ∧
    (∀ (i j : Nat) (q : List D) (x : D), els[i]? = some q → q[j]? = some x → ∃ u, xs[i * sz + j]? = some u ∧ RD (hp w) Im u x) ∧ l.sub 0 els.length = .slice l.addr els.length l.cap := by
  obtain ⟨_, _, h2, h3, h4, h5⟩ := H
  have hsub : l.sub 0 els.length = .slice l.addr els.length l.cap := by
    simp only [Loc.sub, Nat.zero_mul]
    split
    · rename_i h; rw [h]
    · cases l.addr <;> simp [Addr.add]
  rcases h5 with ⟨h6, h7, h8⟩ | ⟨b, ms, h6, h7, h8, h9, h10, h11⟩
  · subst h7
    exact ⟨[], ⟨by simp, .inl ⟨by rw [hsub]; simp [Loc.addr, h6, h8, had h6], rfl⟩⟩, by simp, hsub⟩
  · have hle : els.length * sz ≤ l.cap * sz := Nat.mul_le_mul_right _ h8
    refine ⟨ms.toList.take (els.length * sz), ⟨by simp; omega, .inr ⟨b, l.cap, ms, by rw [hsub]; simp [Loc.addr, h6], Nat.zero_le _, h7, h8, h9, h10, rfl⟩⟩, fun i j q x e1 e2 => ?_, hsub⟩
    obtain ⟨v, g1, g2⟩ := h11 i j q x e1 e2
    have hil : i < els.length := (List.getElem?_eq_some_iff.1 e1).1
    have hjl : j < sz := by
      have := (List.getElem?_eq_some_iff.1 e2).1
      rw [h4 q (List.mem_of_getElem? e1)] at this; exact this
    have hlt : i * sz + j < els.length * sz := by
      have : (i + 1) * sz ≤ els.length * sz := Nat.mul_le_mul_right _ (by omega)
      rw [Nat.add_mul] at this; omega
    exact ⟨v, by rw [List.getElem?_take, if_pos hlt]; simpa using g1, g2⟩
theorem RO.of_owns {w : World} {Im : Nat → Prop} {ρ : Nat → Option Loc} {sz : Nat} {el : TypeId} {els : List (List D)} {v : Value} {xs : List Value} (h : w.ownsRow 0 el sz v els.length xs) (hl : ∀ q ∈ els, q.length = sz)
    (hx : ∀ (i j : Nat) (q : List D) (x : D), els[i]? = some q → q[j]? = some x → ∃ u, xs[i * sz + j]? = some u ∧ RD (hp w) Im u x) :
    ∃ l : Loc, l.more = [] ∧ l.len = els.length ∧ l.isBuf = true ∧ v = l.sub 0 els.length ∧ l.blk = v.ownBlock ∧ RO (hp w) Im ρ l (.buf sz el els) := by
  rcases h.2 with ⟨rfl, h0⟩ | ⟨g, cap, cur, rfl, _, hg, h1, h2, h3, h4⟩
  · have : els = [] := List.eq_nil_of_length_eq_zero h0
    subst this
    exact ⟨{ blk := none, isBuf := true, cap := 0, len := 0, sz }, rfl, rfl, rfl, by simp [Loc.sub, Loc.addr], rfl, rfl, rfl, rfl, rfl, by simp, .inl ⟨rfl, rfl, rfl⟩⟩
  · refine ⟨{ blk := some g, isBuf := true, cap, len := els.length, sz }, rfl, rfl, rfl, ?_, rfl, rfl, rfl, rfl, rfl, hl, .inr ⟨g, cur, rfl, hg, h1, h2, h3, fun i j q x e1 e2 => ?_⟩⟩
    · simp only [Loc.sub, Loc.addr, Option.map_some, Nat.zero_mul]
      split
      · rename_i hh; simp [hh]
      · simp [Addr.add]
    · obtain ⟨u, g1, g2⟩ := hx i j q x e1 e2
      rw [← h4, List.getElem?_take] at g1
      split at g1
      · exact ⟨u, by simpa using g1, g2⟩
      · simp at g1
theorem append_rel {Im : Nat → Prop} {h : Nat → Option Obj} {sz : Nat} {els els2 : List (List D)} {xs news : List Value} (hl : xs.length = els.length * sz) (hx : ∀ (i j : Nat) (q : List D) (x : D), els[i]? = some q → q[j]? = some x → ∃ u, xs[i * sz + j]? = some u ∧ RD h Im u x)
    (hn : ∀ (i j : Nat) (q : List D) (x : D), els2[i]? = some q → q[j]? = some x → ∃ u, news[i * sz + j]? = some u ∧ RD h Im u x) (i j : Nat) (q : List D) (x : D) (h1 : (els ++ els2)[i]? = some q) (h2 : q[j]? = some x) : ∃ u, (xs ++ news)[i * sz + j]? = some u ∧ RD h Im u x := by
  by_cases hi : i < els.length
  · rw [List.getElem?_append_left hi] at h1
    obtain ⟨u, g1, g2⟩ := hx i j q x h1 h2
    exact ⟨u, by rw [List.getElem?_append_left (List.getElem?_eq_some_iff.1 g1).1]; exact g1, g2⟩
  · rw [List.getElem?_append_right (by omega)] at h1
    obtain ⟨u, g1, g2⟩ := hn _ j q x h1 h2
    have hm : els.length * sz ≤ i * sz := Nat.mul_le_mul_right _ (by omega)
    have e : (i - els.length) * sz = i * sz - els.length * sz := by rw [Nat.sub_mul]
    refine ⟨u, ?_, g2⟩
    rw [List.getElem?_append_right (by rw [hl]; omega), hl, show i * sz + j - els.length * sz = (i - els.length) * sz + j from by rw [e]; omega]
    exact g1
theorem fresh_append {E : Env} {w : World} {t ty e : TypeId} {inf : TypeInfo} {z : Value} {sz c n m : Nat} {Im : Nat → Prop} {ρ : Nat → Option Loc} {els els2 : List (List D)} {a0 : Option Addr} {ad : Addr} {olds news : List Value} (ht : E.P.underlying t = some (.slice e)) (f1 : E.P.info? e = some inf)
    (f3 : inf.zero = some z) (hsz : inf.size = sz) (hzs : z.cells.size = sz) (hby : 0 < inf.bytes) (hn : n = els.length) (hmm : m = els2.length) (hm : 0 < m) (hb : (n + m) * inf.bytes ≤ 140737488355328)
    (hlo : olds.length = n * sz) (ho : ∀ (j : Nat) (u : Value), olds[j]? = some u → ∀ a, a0 = some a → w.cell? (a.add j) = some u) (h0 : a0 = none → n = 0) (hl : news.length = m * sz) (hnews : ∀ (j : Nat) (u : Value), news[j]? = some u → w.cell? (ad.add j) = some u)
    (hels : ∀ q ∈ els ++ els2, q.length = sz) (hx : ∀ (i j : Nat) (q : List D) (x : D), els[i]? = some q → q[j]? = some x → ∃ u, olds[i * sz + j]? = some u ∧ RD (hp w) Im u x) (hx2 : ∀ (i j : Nat) (q : List D) (x : D), els2[i]? = some q → q[j]? = some x → ∃ u, news[i * sz + j]? = some u ∧ RD (hp w) Im u x)
    (hIm : ∀ b, Im b → b < w.heap.size) :
    ∃ v w' l, (Builtin.append_ #[t, t] ty #[.slice a0 n n, .slice (some ad) m c]).run E.P w = .ok v w' ∧ Grows w w' (fun _ => False) ∧ l.fp = [w.heap.size] ∧ w'.heap.size = w.heap.size + 1 ∧ l.len = n + m ∧ l.isBuf = true ∧ v = l.sub 0 (n + m) ∧ RO (hp w') Im ρ l (.buf sz e (els ++ els2)) := by
  have h63 : n + m ≤ maxLen := by
    have : n + m ≤ (n + m) * inf.bytes := Nat.le_mul_of_pos_right _ hby
    simp only [maxLen]; omega
  have hsmall : n + m ≤ 9223372036854775807 := by simp only [maxLen] at h63; omega
  have hrun : ∃ cap, n + m ≤ cap ∧ cap ≤ maxLen ∧ (Builtin.append_ #[t, t] ty #[.slice a0 n n, .slice (some ad) m c]).run E.P w = .ok (.slice (some ⟨w.heap.size, 0, none⟩) (n + m) cap) (w.drew.alloc (.cells (olds.toArray ++ news.toArray ++ Builtin.zeroCells z.cells (cap - (n + m))) e)) := by
    refine ⟨grownCap w (n + m) n e, grownCap_ge w _ _ e, grownCap_le_maxLen w _ _ e h63, ?_⟩
    cases a0 with
    | none =>
      have hn0 := h0 rfl
      subst hsz
      rw [hn0] at hlo ⊢
      have : olds = [] := List.eq_nil_of_length_eq_zero (by simpa using hlo)
      subst this
      have h2 := run_append_nil (P := E.P) w t ty e inf z ht f1 f3 ad m c news hl hnews hm (by omega) (by rw [hn0] at hb; simp only [Nat.zero_add] at hb; omega)
      simpa using h2
    | some a =>
      subst hsz
      exact run_append_grow (P := E.P) w t ty e inf z ht f1 f3 a n n olds hlo (fun j u hu => ho j u hu a rfl) ad m c news hl hnews (by omega) (by omega) (growslice_fits (by omega) hb)
  obtain ⟨cap, k1, k2, hr⟩ := hrun
  refine ⟨_, _, { blk := some w.heap.size, isBuf := true, cap, len := n + m, sz }, hr, ⟨by simp, rfl, rfl, rfl, fun b hb' _ => heap_alloc_old w.drew _ b hb'⟩, rfl, by simp, rfl, rfl, ?_, ?_⟩
  · simp only [Loc.sub, Loc.addr, Option.map_some, Nat.zero_mul]
    split
    · rename_i hh; simp [hh]
    · simp [Addr.add]
  · have hI : ∀ b, Im b → hp (w.drew.alloc (.cells (olds.toArray ++ news.toArray ++ Builtin.zeroCells z.cells (cap - (n + m))) e)) b = hp w b := fun b hb' => heap_alloc_old w.drew _ b (hIm b hb')
    refine ⟨rfl, rfl, rfl, by simp [hn, hmm], hels, .inr ⟨w.heap.size, _, rfl, heap_alloc_new w.drew _, by rw [List.length_append]; simp only; omega, k2, ?_, fun i j q x e1 e2 => ?_⟩⟩
    · simp only [Array.size_append, List.size_toArray, size_zeroCells, hzs, hlo, hl, ← Nat.add_mul]
      congr 1; omega
    · obtain ⟨u, g1, g2⟩ := append_rel (h := hp w) (Im := Im) (by rw [hlo, hn]) hx hx2 i j q x e1 e2
      refine ⟨u, ?_, g2.mono (fun _ h => h) hI⟩
      have hlt : i * sz + j < (olds ++ news).length := (List.getElem?_eq_some_iff.1 g1).1
      rw [Array.getElem?_append_left (by simpa using hlt)]
      simpa using g1
theorem ok_append_msl {t e : TypeId} {x y : Operand} {i ei : TI} {r n sz : Nat} {els els2 : List (List D)} {tight : Bool} (hi : opIn k.nt (appCall x y t) = true) (ht : tiOf E.P t = some i) (hk : i.k = .slice e) (he : tiOf E.P e = some ei) (hsz : ei.size = sz) (hz : ei.zero.length = ei.size) (hpos : 0 < sz) (hby : 0 < ei.bytes)
    (hx : evO s x = .msl r n 0 n) (hy : evO s y = .d (.sl tight sz els2)) :
    OpOk E k (appCall x y t) ty s { val := .msl r (els.length + els2.length) 0 (els.length + els2.length), rh := some (r, .buf sz e els), wh := some (r, some (.buf sz e (els ++ els2))), cond := [n = els.length, (els.length + els2.length) * ei.bytes ≤ 140737488355328] } := by
  intro c Im ρ F H a w o ok hnt ha S ho hty hF hH hnew hc
  obtain ⟨c1, c2, _⟩ := hc
  have h2 := opIn_ev (x := x) S hnt hi hF (by simp [Op.operands, appCall, Call.operands])
  have h3 := opIn_ev (x := y) S hnt hi hF (by simp [Op.operands, appCall, Call.operands])
  rw [hx] at h2
  rw [hy] at h3
  obtain ⟨inf, d, z, g1, g2, g3, rfl⟩ := tiOf_spec ht
  cases d <;> simp only [kindOf] at hk <;> cases hk
  obtain ⟨einf, ed, ez, f1, f2, f3, rfl⟩ := tiOf_spec he
  simp only at hz hsz c2 hby
  have hzs : ez.cells.size = sz := by rw [← hsz]; simpa using hz
  generalize hv : a.eval x = v at h2
  cases h2 with
  | msl _ _ _ _ _ _ hp2 =>
    obtain ⟨l, hl', hro, hown⟩ := S.obj r _ (hH r _ rfl)
    have hlen : l.len = els.length := hro.2.2.2.1
    have hbuf : l.isBuf = true := hro.1
    have hels := hro.2.2.2.2.1
    have hsub := hro.sub_eq
    have hval : v = l.sub 0 els.length := by rw [(hp2 l hl').2 (by omega)]; congr
    have hcaple : els.length ≤ l.cap := by
      rcases hro.2.2.2.2.2 with ⟨_, h0, _⟩ | ⟨_, _, _, _, h0, _⟩
      · subst h0; simp
      · exact h0
    have hnil : els2 = [] → ∃ b2 c2, a.eval y = .slice b2 0 c2 := fun h0 => by
      subst h0; obtain ⟨b2, c2, h⟩ := (h3.d_inv).slice; exact ⟨b2, c2, h⟩
    by_cases h0 : els2 = []
    · obtain ⟨b2, cap, hy2⟩ := hnil h0
      subst h0
      have hrun := run_append_none (w := w) (ty := o.type) g2 f1 (base := l.addr) (b2 := b2) (n := els.length) (cap := l.cap) (c := cap) hcaple
      refine ⟨v, w, .inl (exec_append ho (by rw [hv, hy2, hval, hsub]; exact hrun)), Im, ρ, ?_, .msl _ _ _ _ _ (by rw [hval, hsub]; rfl) fun l1 hl1 => ?_⟩
      · simp only [List.append_nil, updO]
        have : upd H r (some (.buf sz e els)) = H := by
          funext q; by_cases eq : q = r
          · subst eq; simp [hH q _ rfl]
          · rw [upd_ne _ _ eq]
        rw [this]; exact S
      · rw [hl'] at hl1; injection hl1 with hl1; subst hl1
        simp only [List.length_nil, Nat.add_zero]
        exact ⟨by omega, fun _ => hval⟩
    · have hm : 0 < els2.length := List.length_pos_iff.2 h0
      rcases (h3.d_inv).news hpos with ⟨cap, h0', _⟩ | ⟨ad, cap, news, hy2, n1, n2, n3, n4, n5⟩
      · exact absurd h0' h0
      · have h63 : els.length + els2.length ≤ maxLen := by
          have : els.length + els2.length ≤ (els.length + els2.length) * einf.bytes := Nat.le_mul_of_pos_right _ hby
          simp only [maxLen]; omega
        by_cases hbl : l.blk = none
        · have he0 : els = [] ∧ l.cap = 0 := by
            rcases hro.2.2.2.2.2 with ⟨_, q2, q3⟩ | ⟨b, _, q1, _⟩
            · exact ⟨q2, q3⟩
            · rw [hbl] at q1; exact absurd q1 (by simp)
          have he1 := he0.1
          subst he1
          obtain ⟨v', w', l', k1, k2, k3, k4, k5, k6, k7, k8⟩ := fresh_append (E := E) (ty := o.type) (c := cap) (ρ := upd ρ r none) (els := []) (els2 := els2) (n := 0) (m := els2.length) (a0 := l.addr) (olds := []) g2 f1 f3 hsz hzs hby rfl rfl hm (by simpa using c2) (by simp) (by simp) (fun _ => rfl) n1 n2 (by simpa using n4) (by simp) n5 (fun b hb => (S.imn b hb).1)
          refine ⟨v', w', .inl (exec_append ho (by rw [hv, hy2, hval, hsub, he0.2]; exact k1)), Im, _, S.chg (r := r) (l := l) (l' := l') (o' := .buf sz e ([] ++ els2)) (hH r _ rfl) hl' ⟨k2.size, k2.os, k2.tape, k2.output, fun b hb _ => k2.block b hb (fun h => h)⟩ (.inr (.inl ⟨hbuf, k6, by rw [k5, hlen]; simp; omega⟩)) (fun b hb => ?_) (k8.mono (fun _ h => h) (fun _ _ => rfl) (fun _ _ => rfl) (fun q hq => by simp [AObj.ment] at hq)), .msl _ _ _ _ _ (by rw [k7]; rfl) fun l1 hl1 => ?_⟩
          · rw [k3] at hb; simp at hb; subst hb; right; omega
          · rw [upd_same] at hl1; injection hl1 with hl1; subst hl1
            simp only [List.length_nil]
            exact ⟨by omega, fun _ => k7⟩
        obtain ⟨xs, hrow, hxs, _⟩ := hro.owns (fun h => absurd h hbl)
        obtain ⟨v', w', r1, r2, r3, _⟩ := run_append_own (P := E.P) w 0 t o.type e einf ez sz einf.bytes g2 f1 f3 hsz rfl hzs hpos _ els.length xs hrow ad els2.length cap news n1 n2 n3 h63 c2 (Nat.zero_le _)
        have hwh := append_where g2 f1 f3 hsz hrow n1 n2 n3 hm h63 c2 r1
        have hob : (l.sub 0 els.length).ownBlock = l.blk := by
          rw [hsub]; cases hb : l.blk with
          | none => exact absurd hb hbl
          | some b => simp [Loc.addr, hb, Value.ownBlock]
        have hfp : l.fp = l.blk.toList := by simp [Loc.fp, hro.2.1]
        have hg : Grows w w' (fun q => q ∈ l.fp) := ⟨r3.size, r3.os, r3.tape, r3.output, fun b hb hnb => r3.block b hb fun he => hnb (by rw [hob] at he; rw [hfp, ← he]; simp)⟩
        have hI : ∀ b, Im b → hp w' b = hp w b := fun b hb => hg.block b (S.imn b hb).1 fun h => (hown b h).2.1 hb
        obtain ⟨l', q1, q2, q3, q4, q5, q6⟩ := RO.of_owns (Im := Im) (ρ := upd ρ r none) (els := els ++ els2) (by rw [List.length_append]; exact r2) (fun q hq => by
          rcases List.mem_append.1 hq with h | h
          · exact hels q h
          · exact n4 q h) (fun i j q x e1 e2 => by
          obtain ⟨u, k1, k2⟩ := append_rel hrow.1 hxs n5 i j q x e1 e2
          exact ⟨u, k1, k2.mono (fun _ h => h) hI⟩)
        have hlt : ∀ b ∈ l'.fp, b ∈ l.fp ∨ (w.heap.size ≤ b ∧ b < w'.heap.size) := fun b hb => by
          have hb' : l'.blk = some b := by simpa [Loc.fp, q1] using hb
          rw [q5] at hb'
          rcases hwh with h | h
          · left; rw [hob] at h; rw [hfp, ← h, hb']; simp
          · right
            rw [h] at hb'; injection hb' with hb'; subst hb'
            exact ⟨Nat.le_refl _, (r2.lt _ h).2⟩
        refine ⟨v', w', .inl (exec_append ho (by rw [hv, hy2, hval]; exact r1)), Im, _, S.chg (r := r) (l := l) (l' := l') (o' := .buf sz e (els ++ els2)) (hH r _ rfl) hl' hg (.inr (.inl ⟨hbuf, q3, by rw [q2, hlen, List.length_append]; omega⟩)) hlt (q6.mono (fun _ h => h) (fun _ _ => rfl) (fun _ _ => rfl) (fun q hq => by simp [AObj.ment] at hq)),
          .msl _ _ _ _ _ (by rw [q4]; rfl) fun l1 hl1 => ?_⟩
        rw [upd_same] at hl1; injection hl1 with hl1; subst hl1
        exact ⟨by rw [q2, List.length_append]; exact Nat.le_refl _, fun _ => by rw [q4, List.length_append]⟩
end ops
end Go.Ax

namespace Go.Ax
def slOf (sz : Nat) : AV → Option (Bool × List (List D))
  | .d (.sl t z els) => match Nat.beq z sz with
    | true => some (t, els)
    | false => none
  | .d (.v (.slice none 0 0)) => some (true, [])
  | _ => none
theorem slOf_ok {h : Nat → Option Obj} {Im : Nat → Prop} {ρ : Nat → Option Loc} {sz : Nat} {v : Value} {x : AV} {t : Bool} {els : List (List D)} (hx : slOf sz x = some (t, els)) (H : RA h Im ρ v x) : RD h Im v (.sl t sz els) := by
  unfold slOf at hx
  split at hx
  · rename_i t' z els'
    cases hb : Nat.beq z sz with
    | true => simp only [hb] at hx; injection hx with hx; injection hx with h1 h2; subst h1; subst h2; have := Nat.eq_of_beq_eq_true hb; subst this; exact H.d_inv
    | false => simp [hb] at hx
  · injection hx with hx; injection hx with h1 h2; subst h1; subst h2
    rw [H.v]; exact .nil true sz none 0 (fun _ => rfl)
  · simp at hx
section ops
variable {E : Env} {k : Kn} {ty : TypeId} {s : St}
theorem ok_append_new {t e : TypeId} {x y : Operand} {i ei : TI} {d sz : Nat} {els els2 : List (List D)} {tight : Bool} (hi : opIn k.nt (appCall x y t) = true) (ht : tiOf E.P t = some i) (hk : i.k = .slice e) (he : tiOf E.P e = some ei) (hsz : ei.size = sz) (hz : ei.zero.length = ei.size) (hpos : 0 < sz) (hby : 0 < ei.bytes)
    (hx : slOf sz (evO s x) = some (true, els)) (hy : slOf sz (evO s y) = some (tight, els2)) (hne : els = []) :
    OpOk E k (appCall x y t) ty s { val := .msl d (els.length + els2.length) 0 (els.length + els2.length), wh := some (d, some (.buf sz e (els ++ els2))), new := some d, cond := [(els.length + els2.length) * ei.bytes ≤ 140737488355328] } := by
  intro c Im ρ F H a w o ok hnt ha S ho hty hF hH hnew hc
  obtain ⟨c2, _⟩ := hc
  have h2 := slOf_ok hx (opIn_ev (x := x) S hnt hi hF (by simp [Op.operands, appCall, Call.operands]))
  have h3 := slOf_ok hy (opIn_ev (x := y) S hnt hi hF (by simp [Op.operands, appCall, Call.operands]))
  subst hne
  obtain ⟨inf, dd, z, g1, g2, g3, rfl⟩ := tiOf_spec ht
  cases dd <;> simp only [kindOf] at hk <;> cases hk
  obtain ⟨einf, ed, ez, f1, f2, f3, rfl⟩ := tiOf_spec he
  simp only at hz hsz c2 hby
  have hzs : ez.cells.size = sz := by rw [← hsz]; simpa using hz
  have hx0 : ∃ a0, a.eval x = .slice a0 0 0 := by
    generalize hv : a.eval x = v at h2
    cases h2 with
    | nil _ _ a0 cap hcap => exact ⟨a0, by rw [hcap rfl]⟩
    | sl _ _ _ b o cap f hs hb hle ht hc hr => exact ⟨_, by rw [ht rfl]; rfl⟩
  obtain ⟨a0, hx0⟩ := hx0
  by_cases h0 : els2 = []
  · subst h0
    obtain ⟨b2, c2, hy2⟩ := h3.slice
    have hrun := run_append_none (w := w) (ty := o.type) g2 f1 (base := a0) (b2 := b2) (n := 0) (cap := 0) (c := c2) (Nat.le_refl _)
    refine ⟨.slice a0 0 0, w, .inl (exec_append ho (by rw [hx0, hy2]; exact hrun)), Im, _, S.new (w' := w) (r := d) (l := { blk := none, isBuf := true, cap := 0, len := 0, sz, ad0 := a0 }) (o := .buf sz e []) (Grows.refl _ _) (hnew d rfl) (by simp [Loc.fp]) ⟨rfl, rfl, rfl, rfl, by simp, .inl ⟨rfl, rfl, rfl⟩⟩, .msl _ _ _ _ _ rfl fun l hl => ?_⟩
    rw [upd_same] at hl; injection hl with hl; subst hl
    simp [Loc.sub, Loc.addr]
  · have hm : 0 < els2.length := List.length_pos_iff.2 h0
    rcases h3.news hpos with ⟨cap, h0', _⟩ | ⟨ad, cap, news, hy2, n1, n2, n3, n4, n5⟩
    · exact absurd h0' h0
    · obtain ⟨v', w', l', k1, k2, k3, k4, k5, k6, k7, k8⟩ := fresh_append (E := E) (ty := o.type) (c := cap) (ρ := upd ρ d none) (els := []) (els2 := els2) (n := 0) (m := els2.length) (a0 := a0) (olds := []) g2 f1 f3 hsz hzs hby rfl rfl hm (by simpa using c2) (by simp) (by simp) (fun _ => rfl) n1 n2 (by simpa using n4) (by simp) n5 (fun b hb => (S.imn b hb).1)
      refine ⟨v', w', .inl (exec_append ho (by rw [hx0, hy2]; exact k1)), Im, _, S.new (r := d) (l := l') (o := .buf sz e ([] ++ els2)) k2 (hnew d rfl) (fun b hb => ?_) (k8.mono (fun _ h => h) (fun _ _ => rfl) (fun _ _ => rfl) (fun q hq => by simp [AObj.ment] at hq)), .msl _ _ _ _ _ (by rw [k7]; rfl) fun l1 hl1 => ?_⟩
      · rw [k3] at hb; simp at hb; subst hb; omega
      · rw [upd_same] at hl1; injection hl1 with hl1; subst hl1
        simp only [List.length_nil]
        exact ⟨by omega, fun _ => k7⟩
def intOf (s : St) : Option Operand → Option (Option Int)
  | none => some none
  | some x => match evO s x with
    | .d (.v (.int _ j)) => some (some j)
    | _ => none
theorem run_sliceBound {P : Program} {w : World} {k : IntKind} {j : Int} {y : Nat} {code : BoundsCode} (h0 : 0 ≤ j) (h1 : j ≤ y) : (Instr.sliceBound (.int k j) y code).run P w = .ok j.toNat w := by
  simp [Instr.sliceBound, asIntOf, h0, h1]
theorem sliceBounds_run {P : Program} {w : World} {a : Act} {lo hi : Option Operand} {jl jh : Option Int} {isS : Bool} {len cap : Nat} (hl : ∀ x, lo = some x → ∃ k j, jl = some j ∧ a.eval x = .int k j) (hh : ∀ x, hi = some x → ∃ k j, jh = some j ∧ a.eval x = .int k j) (hln : lo = none → jl = none) (hhn : hi = none → jh = none)
    (c1 : 0 ≤ jl.getD 0) (c2 : jl.getD 0 ≤ jh.getD len) (c3 : jh.getD len ≤ cap) : (Instr.sliceBounds isS len cap (lo.map a.eval) (hi.map a.eval) none).run P w = .ok ((jl.getD 0).toNat, (jh.getD len).toNat, cap) w := by
  cases hi with
  | none =>
    have := hhn rfl; subst this
    cases lo with
    | none => have := hln rfl; subst this; simp [Instr.sliceBounds]
    | some x =>
      obtain ⟨k, j, rfl, he⟩ := hl x rfl
      simp only [Option.getD_some, Option.getD_none] at c1 c2
      simp [Instr.sliceBounds, he, run_sliceBound c1 c2]
  | some y =>
    obtain ⟨k', j', rfl, he'⟩ := hh y rfl
    simp only [Option.getD_some] at c2 c3
    have h0 : 0 ≤ j' := by omega
    have r1 : ∀ code, (Instr.sliceBound (.int k' j') cap code).run P w = .ok j'.toNat w := fun code => run_sliceBound h0 c3
    cases lo with
    | none => have := hln rfl; subst this; simp [Instr.sliceBounds, he', r1]
    | some x =>
      obtain ⟨k, j, rfl, he⟩ := hl x rfl
      simp only [Option.getD_some] at c1 c2
      have r2 : ∀ code, (Instr.sliceBound (.int k j) j'.toNat code).run P w = .ok j.toNat w := fun code => run_sliceBound c1 (by omega)
      simp [Instr.sliceBounds, he', r1, he, r2]
theorem intOf_ev {c : Cx} {Im : Nat → Prop} {ρ : Nat → Option Loc} {F : Nat → AV} {H : Nat → Option AObj} {a : Act} {w : World} (S : Sim c Im ρ F H a w) {op : Op} (hn : c.nt = k.nt) (hi : opIn k.nt op = true) (hF : ∀ t ∈ opTmps op, lk t s.f = F t) {lo : Option Operand} {jl : Option Int} (h : intOf s lo = some jl) (hm : ∀ x, lo = some x → x ∈ op.operands.toList) :
    (∀ x, lo = some x → ∃ k j, jl = some j ∧ a.eval x = .int k j) ∧ (lo = none → jl = none) := by
  refine ⟨fun x hx => ?_, fun hx => ?_⟩
  · subst hx
    have h1 := opIn_ev (x := x) S hn hi hF (hm x rfl)
    simp only [intOf] at h
    split at h
    · rename_i kk j he
      rw [he] at h1
      injection h with h
      exact ⟨kk, j, h.symm, h1.v⟩
    · simp at h
  · subst hx; simp only [intOf] at h; injection h with h; exact h.symm
theorem ok_slice_str {t : TypeId} {x : Operand} {lo hi : Option Operand} {i : TI} {m : ByteArray} {jl jh : Option Int} (hin : opIn k.nt (.slice t x lo hi none) = true) (ht : tiOf E.P t = some i) (hk : i.k = .str) (hx : evO s x = .d (.v (.string m))) (hl : intOf s lo = some jl) (hh : intOf s hi = some jh) :
    OpOk E k (.slice t x lo hi none) ty s { val := .d (.v (.string (m.extract (jl.getD 0).toNat (jh.getD m.size).toNat))), cond := [0 ≤ jl.getD 0, jl.getD 0 ≤ jh.getD m.size, jh.getD m.size ≤ m.size] } :=
  .pure _ none fun hc c Im ρ F H a w o _ hn S ho _ hF _ => by
    have h1 := opIn_ev (x := x) S hn hin hF (by simp [Op.operands])
    rw [hx] at h1
    obtain ⟨l1, l2⟩ := intOf_ev S hn hin hF hl (by intro y hy; subst hy; simp [Op.operands])
    obtain ⟨h2, h3⟩ := intOf_ev S hn hin hF hh (by intro y hy; subst hy; simp [Op.operands])
    obtain ⟨inf, d, z, g1, g2, g3, rfl⟩ := tiOf_spec ht
    cases d <;> simp only [kindOf] at hk <;> cases hk
    have hb := sliceBounds_run (P := E.P) (w := w) (isS := false) l1 h2 l2 h3 hc.1 hc.2.1 hc.2.2.1
    exact ⟨_, by simp [execOp, ho, Instr.sliceAt, Instr.slice, run_underlying g2, h1.v, hb], RA.intv _ rfl⟩
theorem RD.piece {h : Nat → Option Obj} {Im : Nat → Prop} {v : Value} {tight : Bool} {sz : Nat} {els : List (List D)} (H : RD h Im v (.sl tight sz els)) : ∃ ad cap, v = .slice ad els.length cap ∧ els.length ≤ cap ∧ ∀ lo hi, lo ≤ hi → hi ≤ els.length → RD h Im (.slice (if cap = lo then ad else ad.map (·.add (lo * sz))) (hi - lo) (cap - lo)) (.sl false sz ((els.drop lo).take (hi - lo))) := by
  cases H with
  | nil _ _ a cap ht =>
    refine ⟨a, cap, rfl, Nat.zero_le _, fun lo hi h1 h2 => ?_⟩
    have h3 : hi = 0 := by simpa using h2
    subst h3
    have h4 : lo = 0 := by omega
    subst h4
    simp only [List.drop_nil, List.take_nil, Nat.sub_zero]
    exact .nil false sz _ _ (by simp)
  | sl _ _ _ b o cap f hs hb hle ht hc hr =>
    refine ⟨_, cap, rfl, hle, fun lo hi h1 h2 => ?_⟩
    by_cases he : hi = lo
    · subst he; rw [Nat.sub_self, List.take_zero]; exact .nil false sz _ _ (by simp)
    · rw [if_neg (by omega), Option.map_some, add_zero_spot]
      have hlen : ((els.drop lo).take (hi - lo)).length = hi - lo := by simp; omega
      have key := RD.sl (h := h) (Im := Im) false sz ((els.drop lo).take (hi - lo)) b (o + lo * sz) (cap - lo) (fun i j => f (lo + i) j) (fun el hel => hs el (List.mem_of_mem_drop (List.mem_of_mem_take hel))) hb (by rw [hlen]; omega) (by simp) (fun i j el x e1 e2 => by
        rw [List.getElem?_take] at e1
        split at e1
        · rw [List.getElem?_drop] at e1
          obtain ⟨ms, t, fz, k1, k2⟩ := hc _ j el x e1 e2
          exact ⟨ms, t, fz, k1, by rw [← k2]; congr 1; rw [Nat.add_mul]; omega⟩
        · simp at e1) (fun i j el x e1 e2 => by
        rw [List.getElem?_take] at e1
        split at e1
        · rw [List.getElem?_drop] at e1; exact hr _ j el x e1 e2
        · simp at e1)
      rwa [hlen] at key
theorem ok_slice_sl {t e : TypeId} {x : Operand} {lo hi : Option Operand} {i ei : TI} {tight : Bool} {sz : Nat} {els : List (List D)} {jl jh : Option Int} (hin : opIn k.nt (.slice t x lo hi none) = true) (ht : tiOf E.P t = some i) (hk : i.k = .slice e) (he : tiOf E.P e = some ei) (hsz : ei.size = sz)
    (hx : slOf sz (evO s x) = some (tight, els)) (hl : intOf s lo = some jl) (hh : intOf s hi = some jh) :
    OpOk E k (.slice t x lo hi none) ty s { val := .d (.sl false sz ((els.drop (jl.getD 0).toNat).take ((jh.getD els.length).toNat - (jl.getD 0).toNat))), cond := [0 ≤ jl.getD 0, jl.getD 0 ≤ jh.getD els.length, jh.getD els.length ≤ els.length] } :=
  .pure _ none fun hc c Im ρ F H a w o _ hn S ho _ hF _ => by
    have h1 := slOf_ok hx (opIn_ev (x := x) S hn hin hF (by simp [Op.operands]))
    obtain ⟨l1, l2⟩ := intOf_ev S hn hin hF hl (by intro y hy; subst hy; simp [Op.operands])
    obtain ⟨h2, h3⟩ := intOf_ev S hn hin hF hh (by intro y hy; subst hy; simp [Op.operands])
    obtain ⟨inf, d, z, g1, g2, g3, rfl⟩ := tiOf_spec ht
    cases d <;> simp only [kindOf] at hk <;> cases hk
    obtain ⟨c1, c2, c3, _⟩ := hc
    obtain ⟨ad, cap, hv, hle, hp⟩ := h1.piece
    have hb := sliceBounds_run (P := E.P) (w := w) (isS := true) (len := els.length) (cap := cap) l1 h2 l2 h3 c1 c2 (by omega)
    refine ⟨_, ?_, .d _ _ (hp (jl.getD 0).toNat (jh.getD els.length).toNat (by omega) (by omega))⟩
    simp [execOp, ho, Instr.sliceAt, Instr.slice, run_underlying g2, hv, hb, run_sizeOf he, hsz]
theorem ok_slice_msl {t e : TypeId} {x : Operand} {lo hi : Option Operand} {i ei : TI} {sz r n len : Nat} {el : TypeId} {els : List (List D)} {jl jh : Option Int} (hin : opIn k.nt (.slice t x lo hi none) = true) (ht : tiOf E.P t = some i) (hk : i.k = .slice e) (he : tiOf E.P e = some ei) (hsz : ei.size = sz)
    (hx : evO s x = .msl r n 0 len) (hl : intOf s lo = some jl) (hh : intOf s hi = some jh) :
    OpOk E k (.slice t x lo hi none) ty s { val := .msl r n (jl.getD 0).toNat ((jh.getD len).toNat - (jl.getD 0).toNat), rh := some (r, .buf sz el els), cond := [n = els.length, 0 ≤ jl.getD 0, jl.getD 0 ≤ jh.getD len, jh.getD len ≤ els.length] } :=
  .pure _ _ fun hc c Im ρ F H a w o _ hn S ho _ hF hH => by
    have h1 := opIn_ev (x := x) S hn hin hF (by simp [Op.operands])
    rw [hx] at h1
    obtain ⟨l1, l2⟩ := intOf_ev S hn hin hF hl (by intro y hy; subst hy; simp [Op.operands])
    obtain ⟨h2, h3⟩ := intOf_ev S hn hin hF hh (by intro y hy; subst hy; simp [Op.operands])
    obtain ⟨inf, d, z, g1, g2, g3, rfl⟩ := tiOf_spec ht
    cases d <;> simp only [kindOf] at hk <;> cases hk
    obtain ⟨c1, c3, c4, c5, _⟩ := hc
    generalize hv : a.eval x = v at h1
    cases h1 with
    | msl _ _ _ _ _ _ hp =>
      obtain ⟨l, hl', hro, _⟩ := S.obj r _ (hH r _ rfl)
      have hlen := hro.2.2.2.1
      have hlsz := hro.2.2.1
      have hval := (hp l hl').2 (by omega)
      have hcap : els.length ≤ l.cap := by
        rcases hro.2.2.2.2.2 with ⟨_, h0, _⟩ | ⟨_, _, _, _, h0, _⟩
        · subst h0; simp
        · exact h0
      have hv2 : l.sub 0 len = .slice l.addr len l.cap := by
        simp only [Loc.sub, Nat.zero_mul]
        split
        · rename_i h; rw [h]
        · cases l.addr <;> simp [Addr.add]
      have hb := sliceBounds_run (P := E.P) (w := w) (isS := true) (len := len) (cap := l.cap) l1 h2 l2 h3 c3 c4 (by omega)
      refine ⟨l.sub (jl.getD 0).toNat ((jh.getD len).toNat - (jl.getD 0).toNat), ?_, .msl _ _ _ _ _ rfl fun q hq => ?_⟩
      · rw [hv2] at hval
        simp [execOp, ho, Instr.sliceAt, Instr.slice, run_underlying g2, hv, hval, hb, run_sizeOf he, hsz, Loc.sub, hlsz]
      · rw [hl'] at hq; injection hq with hq; subst hq
        exact ⟨by omega, fun _ => rfl⟩
theorem ok_convert_int {src dst : TypeId} {x : Operand} {si di : TI} {sk ik dk : IntKind} {n : Int} (hi : opIn k.nt (.convert src dst x) = true) (hs : tiOf E.P src = some si) (hsk : si.k = .int sk) (hd : tiOf E.P dst = some di) (hdk : di.k = .int dk) (hx : evO s x = .d (.v (.int ik n))) :
    OpOk E k (.convert src dst x) ty s { val := .d (.v (.int dk (dk.wrap n))) } :=
  .pure [] none fun _ c Im ρ F H a w o _ hn S ho _ hF _ => by
    have h1 := opIn_ev (x := x) S hn hi hF (by simp [Op.operands])
    rw [hx] at h1
    obtain ⟨inf, d, z, g1, g2, g3, rfl⟩ := tiOf_spec hs
    cases d <;> simp only [kindOf] at hsk <;> cases hsk
    obtain ⟨inf2, d2, z2, f1, f2, f3, rfl⟩ := tiOf_spec hd
    cases d2 <;> simp only [kindOf] at hdk <;> cases hdk
    exact ⟨_, by simp [execOp, ho, convert, run_underlying g2, run_underlying f2, h1.v, Conv.intToInt], RA.intv _ rfl⟩
theorem ok_convert_str {src dst : TypeId} {x : Operand} {si di : TI} {m : ByteArray} (hi : opIn k.nt (.convert src dst x) = true) (hs : tiOf E.P src = some si) (hsk : si.k = .str) (hd : tiOf E.P dst = some di) (hdk : di.k = .str) (hx : evO s x = .d (.v (.string m))) :
    OpOk E k (.convert src dst x) ty s { val := .d (.v (.string m)) } :=
  .pure [] none fun _ c Im ρ F H a w o _ hn S ho _ hF _ => by
    have h1 := opIn_ev (x := x) S hn hi hF (by simp [Op.operands])
    rw [hx] at h1
    obtain ⟨inf, d, z, g1, g2, g3, rfl⟩ := tiOf_spec hs
    cases d <;> simp only [kindOf] at hsk <;> cases hsk
    obtain ⟨inf2, d2, z2, f1, f2, f3, rfl⟩ := tiOf_spec hd
    cases d2 <;> simp only [kindOf] at hdk <;> cases hdk
    exact ⟨_, by simp [execOp, ho, convert, run_underlying g2, run_underlying f2, h1.v], RA.intv _ rfl⟩
def evL (s : St) (xs : List Operand) : List AV := xs.map (evO s)
theorem ok_makeFunc {f : Fn} {first caps : Array Operand} (hi : opIn k.nt (.makeFunc f first caps) = true) : OpOk E k (.makeFunc f first caps) ty s { val := .clo f (evL s first.toList) (evL s caps.toList) } :=
  .pure [] none fun _ c Im ρ F H a w o _ hn S ho _ hF _ => by
    have key : ∀ (xs : Array Operand), (∀ x ∈ xs.toList, x ∈ (Op.makeFunc f first caps).operands.toList) → ∀ (i : Nat) (v : Value) (x : AV), (xs.map a.eval)[i]? = some v → (evL s xs.toList)[i]? = some x → RA (hp w) Im ρ v x := fun xs hxs i v x h1 h2 => by
      simp only [evL, List.getElem?_map, Option.map_eq_some_iff] at h2
      obtain ⟨y, hy, rfl⟩ := h2
      have : v = a.eval y := by
        have : xs[i]? = some y := by simpa using hy
        simpa [this] using h1.symm
      subst this
      exact opIn_ev S hn hi hF (hxs y (List.mem_of_getElem? hy))
    exact ⟨.func f (first.map a.eval) (caps.map a.eval), by simp [execOp, ho, Instr.makeFunc], .clo _ _ _ _ _ (by simp [evL]) (by simp [evL]) (key first fun x hx => by simp [Op.operands]; exact .inl (by simpa using hx)) (key caps fun x hx => by simp [Op.operands]; exact .inr (by simpa using hx))⟩
end ops
end Go.Ax
