/- Abstract execution, part G: elements, lengths, pieces, new variables, stores, appends. -/
import Derived.Test.YtjokajidcojlmaaDoorAxF
import Derived.Laws.AppendOwn
namespace Go.Ax

/-! #### Lists side by side -/
def Rel2 {α : Type} (R : Value → α → Prop) (ms : List Value) (cs : List α) : Prop := ms.length = cs.length ∧ ∀ (i : Nat) (v : Value) (x : α), ms[i]? = some v → cs[i]? = some x → R v x
theorem Rel2.nil {α : Type} {R : Value → α → Prop} : Rel2 R [] [] := ⟨rfl, by simp⟩
theorem Rel2.append {α : Type} {R : Value → α → Prop} {a b : List Value} {c d : List α} (h : Rel2 R a c) (k : Rel2 R b d) : Rel2 R (a ++ b) (c ++ d) := by
  refine ⟨by simp [h.1, k.1], fun i v x hv hx => ?_⟩
  by_cases hi : i < a.length
  · rw [List.getElem?_append_left hi] at hv
    rw [List.getElem?_append_left (by rw [← h.1]; exact hi)] at hx
    exact h.2 i v x hv hx
  · rw [List.getElem?_append_right (by omega)] at hv
    rw [List.getElem?_append_right (by rw [← h.1]; omega), ← h.1] at hx
    exact k.2 _ v x hv hx
theorem Rel2.take {α : Type} {R : Value → α → Prop} {a : List Value} {c : List α} (n : Nat) (h : Rel2 R a c) : Rel2 R (a.take n) (c.take n) := by
  refine ⟨by simp [h.1], fun i v x hv hx => ?_⟩
  rw [List.getElem?_take] at hv hx
  split at hv
  · rename_i hi; rw [if_pos hi] at hx; exact h.2 i v x hv hx
  · simp at hv
theorem Rel2.drop {α : Type} {R : Value → α → Prop} {a : List Value} {c : List α} (n : Nat) (h : Rel2 R a c) : Rel2 R (a.drop n) (c.drop n) := by
  refine ⟨by simp [h.1], fun i v x hv hx => ?_⟩
  rw [List.getElem?_drop] at hv hx
  exact h.2 _ v x hv hx
theorem Rel2.imp {α : Type} {R R' : Value → α → Prop} {a : List Value} {c : List α} (h : Rel2 R a c) (hR : ∀ v x, R v x → R' v x) : Rel2 R' a c := ⟨h.1, fun i v x h1 h2 => hR v x (h.2 i v x h1 h2)⟩
def splice {α : Type} (cs l : List α) (off : Nat) : List α := cs.take off ++ l ++ cs.drop (off + l.length)
theorem Rel2.splice {α : Type} {R : Value → α → Prop} {a b : List Value} {c d : List α} (h : Rel2 R a c) (k : Rel2 R b d) (off : Nat) : Rel2 R (a.take off ++ b ++ a.drop (off + b.length)) (splice c d off) := by
  unfold Ax.splice
  rw [← k.1]
  exact ((h.take off).append k).append (h.drop _)
theorem Rel2.single {α : Type} {R : Value → α → Prop} {v : Value} {x : α} (h : R v x) : Rel2 R [v] [x] := by
  refine ⟨rfl, fun i u y h1 h2 => ?_⟩
  cases i with
  | zero => simp at h1 h2; subst h1; subst h2; exact h
  | succ i => simp at h1
theorem Rel2.map {α β : Type} {R : Value → α → Prop} {R' : Value → β → Prop} {f : α → β} {a : List Value} {c : List α} (h : Rel2 R a c) (hf : ∀ v x, R v x → R' v (f x)) : Rel2 R' a (c.map f) := by
  refine ⟨by simp [h.1], fun i v y h1 h2 => ?_⟩
  simp only [List.getElem?_map, Option.map_eq_some_iff] at h2
  obtain ⟨x, hx, rfl⟩ := h2
  exact hf v x (h.2 i v x h1 hx)

/-- The cells that a value is, as an abstract value has them. -/
def AV.cells : AV → List AV
  | .agg cs => cs
  | .dagg cs => cs.map .d
  | x => [x]

section ops
variable {E : Env} {k : Kn} {ty : TypeId} {s : St}

/-! #### Elements -/
theorem run_indexAt_slice {P : Program} {w : World} {t e : TypeId} {i ei : TI} (hi : tiOf P t = some i) (hk : i.k = .slice e) (he : tiOf P e = some ei) {ad : Addr} {len cap : Nat} {ik : IntKind} {j : Int} (h0 : 0 ≤ j) (h1 : j < len) :
    (Instr.indexAt t (.slice (some ad) len cap) (.int ik j)).run P w = .ok (.pointer (some (ad.add (j.toNat * ei.size)))) w := by
  obtain ⟨inf, d, z, g1, g2, g3, rfl⟩ := tiOf_spec hi
  cases d <;> simp only [kindOf] at hk <;> cases hk
  simp [Instr.indexAt, asIntOf, run_underlying g2, h0, h1, run_sizeOf he]

theorem run_indexAt_array {P : Program} {w : World} {t e : TypeId} {n : Nat} {i ei : TI} (hi : tiOf P t = some i) (hk : i.k = .array n e) (he : tiOf P e = some ei) {ad : Addr} {ik : IntKind} {j : Int} (h0 : 0 ≤ j) (h1 : j < n) :
    (Instr.indexAt t (.pointer (some ad)) (.int ik j)).run P w = .ok (.pointer (some (ad.add (j.toNat * ei.size)))) w := by
  obtain ⟨inf, d, z, g1, g2, g3, rfl⟩ := tiOf_spec hi
  cases d <;> simp only [kindOf] at hk <;> cases hk
  simp [Instr.indexAt, asIntOf, run_underlying g2, h0, h1, run_sizeOf he, Instr.sureAddr]

theorem RD.elem {h : Nat → Option Obj} {Im : Nat → Prop} {ρ : Nat → Option Loc} {v : Value} {tight : Bool} {sz : Nat} {els : List (List D)} (H : RD h Im v (.sl tight sz els)) {q : Nat} (hq : q < els.length) :
    ∃ b o cap, v = .slice (some ⟨b, o, none⟩) els.length cap ∧ RA h Im ρ (.pointer (some ⟨b, o + q * sz, none⟩)) (.ep (els.getD q [])) := by
  cases H with
  | nil => simp at hq
  | sl _ _ _ b o cap f hs hb hle ht hc hr =>
    have hel : els[q]? = some (els.getD q []) := by simp [List.getD, List.getElem?_eq_getElem hq]
    refine ⟨b, o, cap, rfl, .ep b _ _ (f q) hb (fun j x hj => ?_) fun j x hj => hr q j _ x hel hj⟩
    obtain ⟨ms, t, fz, e1, e2⟩ := hc q j _ x hel hj
    exact ⟨ms, t, fz, e1, by rw [Nat.add_assoc]; exact e2⟩

theorem ok_indexAddr_sl {t e : TypeId} {x ix : Operand} {i ei : TI} {tight : Bool} {sz : Nat} {els : List (List D)} {ik : IntKind} {j : Int} (hi : opIn k.nt (.indexAddr t x ix) = true) (ht : tiOf E.P t = some i) (hk : i.k = .slice e) (he : tiOf E.P e = some ei) (hsz : ei.size = sz)
    (hx : evO s x = .d (.sl tight sz els)) (hj : evO s ix = .d (.v (.int ik j))) : OpOk E k (.indexAddr t x ix) ty s { val := .ep (els.getD j.toNat []), cond := [0 ≤ j, j < els.length] } :=
  .pure _ none fun hc c Im ρ F H a w o _ hn S ho _ hF _ => by
    have h2 := opIn_ev (x := x) S hn hi hF (by simp [Op.operands])
    have h3 := opIn_ev (x := ix) S hn hi hF (by simp [Op.operands])
    rw [hx] at h2
    rw [hj] at h3
    obtain ⟨c1, c2, _⟩ := hc
    obtain ⟨b, o', cap, hv, hr⟩ := (h2.d_inv).elem (ρ := ρ) (q := j.toNat) (by omega)
    refine ⟨_, ?_, hr⟩
    simp [execOp, ho, hv, h3.v, run_indexAt_slice ht hk he c1 c2, add_zero_spot, hsz]

theorem ok_indexAddr_msl {t e : TypeId} {x ix : Operand} {i ei : TI} {r n off len sz : Nat} {el : TypeId} {els : List (List D)} {ik : IntKind} {j : Int} (hi : opIn k.nt (.indexAddr t x ix) = true) (ht : tiOf E.P t = some i) (hk : i.k = .slice e) (he : tiOf E.P e = some ei) (hsz : ei.size = sz)
    (hx : evO s x = .msl r n off len) (hj : evO s ix = .d (.v (.int ik j))) : OpOk E k (.indexAddr t x ix) ty s { val := .mptr r n (off + j.toNat) 0, rh := some (r, .buf sz el els), cond := [n = els.length, off + len ≤ n, 0 ≤ j, j < len] } :=
  .pure _ _ fun hc c Im ρ F H a w o _ hn S ho _ hF hH => by
    have h2 := opIn_ev (x := x) S hn hi hF (by simp [Op.operands])
    have h3 := opIn_ev (x := ix) S hn hi hF (by simp [Op.operands])
    rw [hx] at h2
    rw [hj] at h3
    obtain ⟨c1, c2, c3, c4, _⟩ := hc
    generalize hv : a.eval x = v at h2
    cases h2 with
    | msl _ _ _ _ _ _ hp =>
      obtain ⟨l, hl', hro, _⟩ := S.obj r _ (hH r _ rfl)
      obtain ⟨_, _, hlsz, hlen, _, hown⟩ := hro
      have hval := (hp l hl').2 (by omega)
      rcases hown with ⟨_, h0, _⟩ | ⟨b, ms, hb, hm, hle, _, _, hcell⟩
      · rw [h0] at c1; simp at c1; omega
      · have hcap : ¬ l.cap = off := by omega
        have hadd : l.addr.map (·.add (off * l.sz)) = some (⟨b, off * sz, none⟩ : Addr) := by simp [Loc.addr, hb, add_zero_spot, hlsz]
        rw [Loc.sub, if_neg hcap, hadd] at hval
        refine ⟨.pointer (some ⟨b, (off + j.toNat) * sz, none⟩), ?_, .mptr _ _ _ _ _ rfl fun l1 hl1 => ?_⟩
        · simp [execOp, ho, hv, hval, h3.v, run_indexAt_slice ht hk he c3 c4, add_zero_spot, hsz, Nat.add_mul]
        · rw [hl'] at hl1; injection hl1 with hl1; subst hl1
          exact ⟨(hp l hl').1, fun _ => ⟨b, hb, by rw [hlsz, Nat.add_zero]⟩⟩

theorem ok_indexAddr_arr {t e : TypeId} {x ix : Operand} {i ei : TI} {r off n : Nat} {ob : AObj} {ik : IntKind} {j : Int} (hi : opIn k.nt (.indexAddr t x ix) = true) (ht : tiOf E.P t = some i) (hk : i.k = .array n e) (he : tiOf E.P e = some ei)
    (hx : evO s x = .ptr r off) (hj : evO s ix = .d (.v (.int ik j))) : OpOk E k (.indexAddr t x ix) ty s { val := .ptr r (off + j.toNat * ei.size), rh := some (r, ob), cond := [0 ≤ j, j < n] } :=
  .pure _ _ fun hc c Im ρ F H a w o _ hn S ho _ hF hH => by
    have h2 := opIn_ev (x := x) S hn hi hF (by simp [Op.operands])
    have h3 := opIn_ev (x := ix) S hn hi hF (by simp [Op.operands])
    rw [hx] at h2
    rw [hj] at h3
    generalize hv : a.eval x = v at h2
    cases h2 with
    | ptr _ _ _ _ hp =>
      obtain ⟨l, hl', _⟩ := S.obj r _ (hH r _ rfl)
      obtain ⟨h5, b, h6, rfl⟩ := hp l hl'
      refine ⟨.pointer (some ⟨b, off + j.toNat * ei.size, none⟩), ?_, .ptr _ _ _ rfl fun l1 hl1 => ?_⟩
      · simp [execOp, ho, hv, h3.v, run_indexAt_array ht hk he hc.1 hc.2.1, add_zero_spot]
      · rw [hl'] at hl1; injection hl1 with hl1; subst hl1
        exact ⟨h5, b, h6, rfl⟩

theorem ok_indexAddr_ep {t e : TypeId} {x ix : Operand} {i ei : TI} {n : Nat} {cs : List D} {ik : IntKind} {j : Int} (hi : opIn k.nt (.indexAddr t x ix) = true) (ht : tiOf E.P t = some i) (hk : i.k = .array n e) (he : tiOf E.P e = some ei)
    (hx : evO s x = .ep cs) (hj : evO s ix = .d (.v (.int ik j))) : OpOk E k (.indexAddr t x ix) ty s { val := .ep (cs.drop (j.toNat * ei.size)), cond := [0 ≤ j, j < n] } :=
  .pure _ none fun hc c Im ρ F H a w o _ hn S ho _ hF _ => by
    have h2 := opIn_ev (x := x) S hn hi hF (by simp [Op.operands])
    have h3 := opIn_ev (x := ix) S hn hi hF (by simp [Op.operands])
    rw [hx] at h2
    rw [hj] at h3
    generalize hv : a.eval x = v at h2
    cases h2 with
    | ep b o' _ g hb hcs hr =>
      exact ⟨.pointer (some ⟨b, o' + j.toNat * ei.size, none⟩), by simp [execOp, ho, hv, h3.v, run_indexAt_array ht hk he hc.1 hc.2.1, add_zero_spot], ep_drop rfl (.ep b o' cs g hb hcs hr)⟩

/-- A byte of a text. -/
def byteAt (m : ByteArray) (j : Int) : Int := if h : j.toNat < m.size then ((m[j.toNat]'h).toNat : Int) else 0
theorem ok_index_str {t : TypeId} {x ix : Operand} {i : TI} {m : ByteArray} {ik : IntKind} {j : Int} (hi : opIn k.nt (.index t x ix) = true) (ht : tiOf E.P t = some i) (hk : i.k = .str)
    (hx : evO s x = .d (.v (.string m))) (hj : evO s ix = .d (.v (.int ik j))) : OpOk E k (.index t x ix) ty s { val := .d (.v (.int .u8 (byteAt m j))), cond := [0 ≤ j, j < m.size] } :=
  .pure _ none fun hc c Im ρ F H a w o _ hn S ho _ hF _ => by
    have h2 := opIn_ev (x := x) S hn hi hF (by simp [Op.operands])
    have h3 := opIn_ev (x := ix) S hn hi hF (by simp [Op.operands])
    rw [hx] at h2
    rw [hj] at h3
    obtain ⟨inf, d, z, g1, g2, g3, rfl⟩ := tiOf_spec ht
    cases d <;> simp only [kindOf] at hk <;> cases hk
    obtain ⟨c1, c2, _⟩ := hc
    have hlt : j.toNat < m.size := by omega
    refine ⟨.int .u8 (byteAt m j), ?_, RA.intv _ rfl⟩
    simp [execOp, ho, h2.v, h3.v, Instr.index, asIntOf, run_underlying g2, c1, byteAt, hlt]

/-! #### Parts of values -/
theorem run_part {P : Program} {w : World} {t : TypeId} {i : TI} (hi : tiOf P t = some i) (h1 : i.k.agg = false → i.size = 1) {cs : Array Value} {off : Nat} (hl : off + i.size ≤ cs.size) :
    (part t cs off).run P w = .ok (if i.k.agg then .agg (cs.extract off (off + i.size)) else cs.getD off undef) w := by
  unfold part
  rw [Sem.run_bind, run_isAgg hi]
  simp only [Result.andThen_ok]
  cases ha : i.k.agg with
  | true => simp [run_sizeOf hi]
  | false =>
    have h2 := h1 ha
    have : off < cs.size := by omega
    simp [this]

theorem ok_field_dagg {t : TypeId} {x : Operand} {i fi : TI} {f off esz : Nat} {ft : TypeId} {cs : List D} (hi : opIn k.nt (.field t x f) = true) (ht : tiOf E.P t = some i) (hf : fieldOff i f = some (off, ft)) (hfi : tiOf E.P ft = some fi) (h1 : fi.k.agg = false → fi.size = 1)
    (hx : evO s x = .dagg cs) : OpOk E k (.field t x f) ty s { val := loadD fi esz cs off, cond := [off + fi.size ≤ cs.length, fi.k.agg = false → has fi.k esz (cs.getD off (.v undef))] } :=
  .pure _ none fun hc c Im ρ F H a w o _ hn S ho _ hF _ => by
    have h2 := opIn_ev (x := x) S hn hi hF (by simp [Op.operands])
    rw [hx] at h2
    generalize hv : a.eval x = v at h2
    obtain ⟨c1, c2, _⟩ := hc
    cases h2 with
    | dagg ms _ hl hr =>
      have hp := run_part (w := w) hfi h1 (cs := ms) (off := off) (by omega)
      refine ⟨if fi.k.agg then .agg (ms.extract off (off + fi.size)) else ms.getD off undef, ?_, ?_⟩
      · obtain ⟨inf, d, z, h3, h4, h5, rfl⟩ := tiOf_spec ht
        cases d <;> simp only [kindOf, fieldOff] at hf <;> try (cases hf; done)
        rename_i fs
        simp only [List.getElem?_map, Option.map_eq_some_iff] at hf
        obtain ⟨fd, hfd, he⟩ := hf
        simp only [Prod.mk.injEq] at he
        obtain ⟨rfl, rfl⟩ := he
        have hfd' : fs[f]? = some fd := by simpa using hfd
        simp [execOp, ho, hv, Instr.field, run_underlying h4, hfd', asAgg, hp]
      · unfold loadD
        cases ha : fi.k.agg with
        | true =>
          simp only [if_true]
          refine .dagg _ _ (by rw [cut_length c1]; simp; omega) fun j v x hv' hx' => ?_
          have hj : j < fi.size := by
            have := (List.getElem?_eq_some_iff.1 hx').1
            rwa [cut_length c1] at this
          rw [cut_get hj] at hx'
          refine hr (off + j) v x ?_ hx'
          have hms : off + j < ms.size := by omega
          have : (ms.extract off (off + fi.size))[j]? = ms[off + j]? := by
            rw [Array.getElem?_extract]
            simp; omega
          rw [this] at hv'; exact hv'
        | false =>
          have hlt : off < cs.length := by have := h1 ha; omega
          have hlm : off < ms.size := by omega
          simp only [Bool.false_eq_true, if_false]
          refine .d _ _ (RD.force (c2 ha) (hr off _ _ ?_ ?_))
          · simp [Array.getD, hlm]
          · simp [List.getD, List.getElem?_eq_getElem hlt]

theorem ok_extract {x : Operand} {j : Nat} {vs : List AV} {y : AV} (hi : opIn k.nt (.extract x j) = true) (hx : evO s x = .tup vs) (hy : vs[j]? = some y) : OpOk E k (.extract x j) ty s { val := y } :=
  .pure [] none fun _ c Im ρ F H a w o _ hn S ho _ hF _ => by
    have h2 := opIn_ev (x := x) S hn hi hF (by simp [Op.operands])
    rw [hx] at h2
    generalize hv : a.eval x = v at h2
    cases h2 with
    | tup ms _ hl hr =>
      have hj : j < ms.size := by rw [hl]; exact (List.getElem?_eq_some_iff.1 hy).1
      have hm : ms[j]? = some ms[j] := by simp [hj]
      exact ⟨ms[j], by simp [execOp, ho, hv, Instr.extract, hm], hr j _ y hm hy⟩

/-! #### Lengths -/
def lenCall (x : Operand) (t : TypeId) : Op := .call { callee := .builtin .len, args := #[x], argTypes := #[t] }
theorem exec_len {P : Program} {a : Act} {w : World} {o : Oper} {t : TypeId} {x : Operand} {n : Int} (ho : o.op = lenCall x t) (h : (Builtin.len_ #[t] o.type #[a.eval x]).run P w = .ok (.int .i64 n) w) : (execOp a.eval o).run P w = .ok (.value (.int .i64 n)) w := by
  simp [execOp, ho, lenCall, resolve, invoke, builtin, h]
theorem ok_len_str {x : Operand} {t : TypeId} {i : TI} {m : ByteArray} (hi : opIn k.nt (lenCall x t) = true) (ht : tiOf E.P t = some i) (hk : i.k = .str) (hx : evO s x = .d (.v (.string m))) : OpOk E k (lenCall x t) ty s { val := .d (.v (.int .i64 m.size)) } :=
  .pure [] none fun _ c Im ρ F H a w o _ hn S ho hty hF _ => by
    have h2 := opIn_ev (x := x) S hn hi hF (by simp [Op.operands, lenCall, Call.operands])
    rw [hx] at h2
    obtain ⟨inf, d, z, g1, g2, g3, rfl⟩ := tiOf_spec ht
    cases d <;> simp only [kindOf] at hk <;> cases hk
    exact ⟨_, exec_len ho (by simp [Builtin.len_, h2.v, run_underlying g2, goInt]), RA.intv _ rfl⟩
theorem RD.slice {h : Nat → Option Obj} {Im : Nat → Prop} {v : Value} {tight : Bool} {sz : Nat} {els : List (List D)} (H : RD h Im v (.sl tight sz els)) : ∃ a cap, v = .slice a els.length cap := by
  cases H with
  | nil _ _ a cap _ => exact ⟨a, cap, rfl⟩
  | sl _ _ _ b o cap => exact ⟨_, cap, rfl⟩
theorem ok_len_sl {x : Operand} {t e : TypeId} {i : TI} {tight : Bool} {sz : Nat} {els : List (List D)} (hi : opIn k.nt (lenCall x t) = true) (ht : tiOf E.P t = some i) (hk : i.k = .slice e) (hx : evO s x = .d (.sl tight sz els)) : OpOk E k (lenCall x t) ty s { val := .d (.v (.int .i64 els.length)) } :=
  .pure [] none fun _ c Im ρ F H a w o _ hn S ho hty hF _ => by
    have h2 := opIn_ev (x := x) S hn hi hF (by simp [Op.operands, lenCall, Call.operands])
    rw [hx] at h2
    obtain ⟨inf, d, z, g1, g2, g3, rfl⟩ := tiOf_spec ht
    cases d <;> simp only [kindOf] at hk <;> cases hk
    obtain ⟨ad, cap, hv⟩ := (h2.d_inv).slice
    exact ⟨_, exec_len ho (by simp [Builtin.len_, hv, run_underlying g2, goInt]), RA.intv _ rfl⟩
theorem ok_len_nil {x : Operand} {t e : TypeId} {i : TI} {ad : Option Addr} {n c0 : Nat} (hi : opIn k.nt (lenCall x t) = true) (ht : tiOf E.P t = some i) (hk : i.k = .slice e) (hx : evO s x = .d (.v (.slice ad n c0))) : OpOk E k (lenCall x t) ty s { val := .d (.v (.int .i64 n)) } :=
  .pure [] none fun _ c Im ρ F H a w o _ hn S ho hty hF _ => by
    have h2 := opIn_ev (x := x) S hn hi hF (by simp [Op.operands, lenCall, Call.operands])
    rw [hx] at h2
    obtain ⟨inf, d, z, g1, g2, g3, rfl⟩ := tiOf_spec ht
    cases d <;> simp only [kindOf] at hk <;> cases hk
    exact ⟨_, exec_len ho (by simp [Builtin.len_, h2.v, run_underlying g2, goInt]), RA.intv _ rfl⟩
theorem ok_len_msl {x : Operand} {t e el : TypeId} {i : TI} {r n off len sz : Nat} {els : List (List D)} (hi : opIn k.nt (lenCall x t) = true) (ht : tiOf E.P t = some i) (hk : i.k = .slice e) (hx : evO s x = .msl r n off len) :
    OpOk E k (lenCall x t) ty s { val := .d (.v (.int .i64 len)), rh := some (r, .buf sz el els), cond := [n = els.length] } :=
  .pure _ _ fun hc c Im ρ F H a w o _ hn S ho hty hF hH => by
    have h2 := opIn_ev (x := x) S hn hi hF (by simp [Op.operands, lenCall, Call.operands])
    rw [hx] at h2
    obtain ⟨inf, d, z, g1, g2, g3, rfl⟩ := tiOf_spec ht
    cases d <;> simp only [kindOf] at hk <;> cases hk
    generalize hv : a.eval x = v at h2
    cases h2 with
    | msl _ _ _ _ _ _ hp =>
      obtain ⟨l, hl', hro, _⟩ := S.obj r _ (hH r _ rfl)
      have hval := (hp l hl').2 (by have := hro.2.2.2.1; have := hc.1; omega)
      exact ⟨_, exec_len ho (by simp [Builtin.len_, hv, hval, Loc.sub, run_underlying g2, goInt]), RA.intv _ rfl⟩

/-! #### New variables -/
theorem ok_alloc {t : TypeId} {i : TI} {d : Nat} (ht : tiOf E.P t = some i) (h1 : i.zero.all (·.oneCell') = true) : OpOk E k (.alloc t) ty s { val := .ptr d 0, wh := some (d, some (.dvar i.zero.length (i.zero.map .v))), new := some d } := by
  intro c Im ρ F H a w o ok hn ha S ho hty hF hH hnew hc
  obtain ⟨inf, ds, z, g1, g2, g3, rfl⟩ := tiOf_spec ht
  have hb : ∀ b ∈ ({ blk := some w.heap.size } : Loc).fp, w.heap.size ≤ b ∧ b < (w.alloc (.cells z.cells t)).heap.size := fun b hb => by
    simp [Loc.fp] at hb; subst hb; simp
  refine ⟨.pointer (some ⟨w.heap.size, 0, none⟩), w.alloc (.cells z.cells t), .inl ?_, Im, _, S.new (r := d) (l := { blk := some w.heap.size }) (o := .dvar z.cells.toList.length (z.cells.toList.map .v)) (Grows.alloc w _) (hnew d rfl) hb ?_, .ptr _ _ _ rfl fun l hl => ?_⟩
  · simp [execOp, ho, Instr.alloc, zeroValue, typeInfo, g1, g3, newVar, newRow]
  · refine ⟨rfl, rfl, by simp, w.heap.size, z.cells, t, rfl, heap_alloc_new w _, by simp, fun j v hv x hx => ?_⟩
    simp only [List.getElem?_map, Option.map_eq_some_iff] at hx
    obtain ⟨u, hu, rfl⟩ := hx
    have : u = v := by simpa [hv] using hu.symm
    subst this
    exact .v _ (List.all_eq_true.1 h1 u (List.mem_of_getElem? hu))
  · rw [upd_same] at hl; injection hl with hl; subst hl
    exact ⟨rfl, _, rfl, rfl⟩

theorem ok_allocT {t : TypeId} {i : TI} {d : Nat} (ht : tiOf E.P t = some i) (h1 : i.zero.all (·.oneCell') = true) : OpOk E k (.alloc t) ty s { val := .ptr d 0, wh := some (d, some (.tvar t (i.zero.map .v))), new := some d } := by
  intro c Im ρ F H a w o ok hn ha S ho hty hF hH hnew hc
  obtain ⟨inf, ds, z, g1, g2, g3, rfl⟩ := tiOf_spec ht
  have hb : ∀ b ∈ ({ blk := some w.heap.size } : Loc).fp, w.heap.size ≤ b ∧ b < (w.alloc (.cells z.cells t)).heap.size := fun b hb => by
    simp [Loc.fp] at hb; subst hb; simp
  refine ⟨.pointer (some ⟨w.heap.size, 0, none⟩), w.alloc (.cells z.cells t), .inl ?_, Im, _, S.new (r := d) (l := { blk := some w.heap.size }) (o := .tvar t (z.cells.toList.map .v)) (Grows.alloc w _) (hnew d rfl) hb ?_, .ptr _ _ _ rfl fun l hl => ?_⟩
  · simp [execOp, ho, Instr.alloc, zeroValue, typeInfo, g1, g3, newVar, newRow]
  · refine ⟨rfl, rfl, w.heap.size, z.cells, rfl, heap_alloc_new w _, by simp, fun j v x hv hx => ?_⟩
    simp only [List.getElem?_map, Option.map_eq_some_iff] at hx
    obtain ⟨u, hu, rfl⟩ := hx
    have : u = v := by simpa [hv] using hu.symm
    subst this
    exact .v _ (List.all_eq_true.1 h1 u (List.mem_of_getElem? hu))
  · rw [upd_same] at hl; injection hl with hl; subst hl
    exact ⟨rfl, _, rfl, rfl⟩

def AV.hasCells : AV → Bool
  | .junk | .tup _ => false
  | _ => true
theorem cells_one {v : Value} (h : v.oneCell' = true) : v.cells = #[v] := by
  cases v <;> first | rfl | (simp [Value.oneCell'] at h)
theorem RA.cells {h : Nat → Option Obj} {Im : Nat → Prop} {ρ : Nat → Option Loc} {v : Value} {x : AV} (H : RA h Im ρ v x) (hx : x.hasCells = true) :
    Rel2 (fun u y => RA h Im ρ u y) v.cells.toList x.cells := by
  have one : ∀ {v : Value} {x : AV}, v.cells = #[v] → x.cells = [x] → RA h Im ρ v x → Rel2 (fun u y => RA h Im ρ u y) v.cells.toList x.cells := fun h1 h2 h3 => by rw [h1, h2]; exact .single h3
  cases H with
  | junk => simp [AV.hasCells] at hx
  | tup => simp [AV.hasCells] at hx
  | d _ y hd =>
    exact one (cells_one hd.one) rfl (.d _ _ hd)
  | dagg cs l hl hr => exact ⟨by simp [Value.cells, AV.cells, hl], fun i v y h1 h2 => by
      simp only [AV.cells, List.getElem?_map, Option.map_eq_some_iff] at h2
      obtain ⟨z, hz, rfl⟩ := h2
      exact .d _ _ (hr i v z (by simpa [Value.cells] using h1) hz)⟩
  | agg cs l hl hr => exact ⟨by simp [Value.cells, AV.cells, hl], fun i v y h1 h2 => hr i v y (by simpa [Value.cells] using h1) (by simpa [AV.cells] using h2)⟩
  | ptr x r off h0 hp => exact one (cells_one h0) rfl (.ptr _ r off h0 hp)
  | ep b o cs f hb hc hr => exact one rfl rfl (.ep b o cs f hb hc hr)
  | msl x r n off len h0 hp => exact one (cells_one h0) rfl (.msl _ r n off len h0 hp)
  | mptr x r n i j h0 hp => exact one (cells_one h0) rfl (.mptr _ r n i j h0 hp)
  | mp x r h0 hp => exact one (cells_one h0) rfl (.mp _ r h0 hp)
  | clo fn fs cs lf lc hf hc hrf hrc => exact one rfl rfl (.clo fn fs cs lf lc hf hc hrf hrc)
  | ifc t x y hx2 => exact one rfl rfl (.ifc t x y hx2)

end ops
end Go.Ax
