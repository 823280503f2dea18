/- Abstract execution, part R: a region that draws its order, the rest. -/
import Derived.Test.YtjokajidcojlmaaDoorAxQ
namespace Go.Ax

def guardT (ops : List Oper) : Option (Nat × Bool) → List Nat
  | none => []
  | some (j, _) => match nth ops j with
    | some o => match o.dst with
      | some d => [d]
      | none => []
    | none => []
def readsT (ops : List Oper) (o : Oper) : List Nat := opTmps o.op ++ guardT ops o.guard

variable {X : Ax} {k : Kn}

/-- What one operation does, wherever what it reads is so. -/
def StepOk (X : Ax) (k : Kn) (Q : APost) (ops : List Oper) (o : Oper) (s : St) (st : Stp) : Prop :=
  (∀ t v, st.wt = some (t, v) → o.dst = some t) ∧
  ∀ (c : Cx) (Im : Nat → Prop) (ρ : Nat → Option Loc) (s' : St) (a : Act) (w : World) (K : Act → World → Prop), c.Ok X.E → c.nt = k.nt → c.anc = k.anc → Sim c Im ρ s'.F s'.H a w →
    (∀ t ∈ readsT ops o, lk t s'.f = lk t s.f) → (∀ r ∈ st.ro, lkH r s'.h = lkH r s.h) → (∀ r ∈ st.nw, Unm c r s'.F s'.H) →
    (∀ Im' ρ' a' w', Sim c Im' ρ' (fun t => lk t (st.putF s'.f)) (fun r => lkH r (st.wh ++ s'.h)) a' w' → K a' w') →
    if Region.wanted o (yielded ops.toArray a.tmps) then o.wp X.E.P a w K (Lift c Q) else K (a.put o.dst undef) w

inductive Trace (X : Ax) (k : Kn) (Q : APost) (ops : List Oper) : List Oper → St → List Stp → St → Prop
  | nil (s : St) : Trace X k Q ops [] s [] s
  | cons {o : Oper} {rest : List Oper} {s s' : St} {st : Stp} {tr : List Stp} (h : StepOk X k Q ops o s st) (ht : Trace X k Q ops rest { f := st.putF s.f, h := st.wh ++ s.h } tr s') : Trace X k Q ops (o :: rest) s (st :: tr) s'

theorem Trace.length {Q : APost} {ops l : List Oper} {s s' : St} {tr : List Stp} (h : Trace X k Q ops l s tr s') : tr.length = l.length := by
  induction h with
  | nil => rfl
  | cons _ _ ih => simp [ih]
/-- The state in the text's order. -/
theorem Trace.at {Q : APost} {ops : List Oper} : ∀ {l : List Oper} {s s' : St} {tr : List Stp}, Trace X k Q ops l s tr s' → ∀ (i : Nat) (o : Oper) (st : Stp), l[i]? = some o → tr[i]? = some st →
    StepOk X k Q ops o { f := apF ((tr.take i).map (true, ·)) s.f, h := apH ((tr.take i).map (true, ·)) s.h } st
  | _, _, _, _, .nil s, i, o, st, h, _ => by simp at h
  | _, s, _, _, .cons (st := st0) hs ht, 0, o, st, h1, h2 => by simp at h1 h2; subst h1; subst h2; exact hs
  | _, s, _, _, .cons (st := st0) hs ht, i + 1, o, st, h1, h2 => by
    have := ht.at i o st (by simpa using h1) (by simpa using h2)
    simpa [apF, apH, Stp.putF] using this
theorem Trace.end {Q : APost} {ops : List Oper} : ∀ {l : List Oper} {s s' : St} {tr : List Stp}, Trace X k Q ops l s tr s' → s' = { f := apF (tr.map (true, ·)) s.f, h := apH (tr.map (true, ·)) s.h }
  | _, _, _, _, .nil s => rfl
  | _, s, s', _, .cons (st := st0) hs ht => by
    have := ht.end
    rw [this]; rfl

/-! #### What comes ahead of what -/
def bindE (e : Edge) : Bool := Region.binds .any e
/-- A bit for each operation that comes ahead. -/
def orEdges (acc : List Nat) : List Edge → Nat
  | [] => 0
  | e :: es => match bindE e with
    | true => (2 ^ e.on ||| (nth acc e.on).getD 0) ||| orEdges acc es
    | false => orEdges acc es
def bmsGo : List Oper → List Nat → List Nat
  | [], acc => acc
  | o :: r, acc => bmsGo r (acc ++ [orEdges acc o.after.toList])
def bms (ops : List Oper) : List Nat := bmsGo ops []
def bitOf (bm : List Nat) (j i : Nat) : Bool := match nth bm j with
  | some x => Nat.beq (Nat.land 1 (Nat.shiftRight x i)) 1
  | none => false
theorem bitOf_test {bm : List Nat} {j i : Nat} (h : bitOf bm j i = true) : Nat.testBit ((nth bm j).getD 0) i = true := by
  unfold bitOf at h
  split at h
  · rename_i x hx
    rw [hx]
    have h := Nat.eq_of_beq_eq_true h
    have h : 1 &&& (x >>> i) = 1 := h
    simp [Nat.testBit, h]
  · simp at h

theorem test_bitOf {bm : List Nat} {j i : Nat} (h : Nat.testBit ((nth bm j).getD 0) i = true) : bitOf bm j i = true := by
  unfold bitOf
  split
  · rename_i x hx
    rw [hx] at h
    have h : (1 &&& (x >>> i) != 0) = true := h
    have h2 : (1 : Nat) &&& (x >>> i) = (x >>> i) % 2 := by rw [Nat.and_comm, Nat.and_one_is_mod]
    have h3 : Nat.land 1 (Nat.shiftRight x i) = (1 : Nat) &&& (x >>> i) := rfl
    rw [h3]
    have : (1 : Nat) &&& (x >>> i) = 1 := by
      have : (1 : Nat) &&& (x >>> i) ≠ 0 := by simpa using h
      omega
    rw [this]; rfl
  · rename_i hx
    rw [hx] at h; simp at h

theorem bmsGo_prefix : ∀ (l : List Oper) (acc : List Nat), ∃ r, bmsGo l acc = acc ++ r ∧ r.length = l.length
  | [], acc => ⟨[], by simp [bmsGo]⟩
  | o :: l, acc => by
    obtain ⟨r, h1, h2⟩ := bmsGo_prefix l (acc ++ [orEdges acc o.after.toList])
    exact ⟨orEdges acc o.after.toList :: r, by rw [bmsGo, h1]; simp, by simp [h2]⟩
theorem bmsGo_at : ∀ (l : List Oper) (acc : List Nat) (i : Nat) (o : Oper), l[i]? = some o → (bmsGo l acc)[acc.length + i]? = some (orEdges ((bmsGo l acc).take (acc.length + i)) o.after.toList)
  | [], acc, i, o, h => by simp at h
  | o' :: l, acc, 0, o, h => by
    simp at h; subst h
    obtain ⟨r, h1, _⟩ := bmsGo_prefix l (acc ++ [orEdges acc o'.after.toList])
    rw [bmsGo, h1]
    simp
  | o' :: l, acc, i + 1, o, h => by
    have := bmsGo_at l (acc ++ [orEdges acc o'.after.toList]) i o (by simpa using h)
    rw [bmsGo]
    simp only [List.length_append, List.length_cons, List.length_nil] at this
    rw [show acc.length + (i + 1) = acc.length + (0 + 1) + i from by omega]
    exact this
theorem bms_at {ops : List Oper} {i : Nat} {o : Oper} (h : ops[i]? = some o) : (bms ops)[i]? = some (orEdges ((bms ops).take i) o.after.toList) := by
  have := bmsGo_at ops [] i o h
  simpa [bms] using this

theorem orEdges_bit {acc : List Nat} {i : Nat} : ∀ {es : List Edge}, Nat.testBit (orEdges acc es) i = true → ∃ e ∈ es, bindE e = true ∧ (e.on = i ∨ Nat.testBit ((nth acc e.on).getD 0) i = true)
  | [], h => by simp [orEdges] at h
  | e :: es, h => by
    simp only [orEdges] at h
    split at h
    · rename_i hb
      rw [Nat.testBit_or, Nat.testBit_or, Bool.or_eq_true, Bool.or_eq_true] at h
      rcases h with (h | h) | h
      · refine ⟨e, by simp, hb, .inl ?_⟩
        rw [Nat.testBit_two_pow] at h
        simpa using h
      · exact ⟨e, by simp, hb, .inr h⟩
      · obtain ⟨e', h1, h2, h3⟩ := orEdges_bit h
        exact ⟨e', by simp [h1], h2, h3⟩
    · obtain ⟨e', h1, h2, h3⟩ := orEdges_bit h
      exact ⟨e', by simp [h1], h2, h3⟩

/-- Who is listed, his edges' ends are. -/
def ClosedM (ops : List Oper) (m : List Bool) : Prop := ∀ (j : Nat) (o : Oper), m[j]? = some true → ops[j]? = some o → ∀ e ∈ o.after.toList, bindE e = true → m[e.on]? = some true

theorem nth_take {l : List Nat} {j i : Nat} (h : i < j) : nth (l.take j) i = nth l i := by rw [nth_eq, nth_eq, List.getElem?_take, if_pos h]

theorem closedM_anc {ops : List Oper} {m : List Bool} (hlow : ∀ (j : Nat) (o : Oper), ops[j]? = some o → ∀ e ∈ o.after.toList, bindE e = true → e.on < j) (hm : ClosedM ops m) : ∀ (j : Nat) {i : Nat}, (∃ o, ops[j]? = some o ∧ ∀ e ∈ o.after.toList, bindE e = true → m[e.on]? = some true) → bitOf (bms ops) j i = true → m[i]? = some true := by
  intro j
  induction j using Nat.strongRecOn with
  | _ j ih =>
    intro i ⟨o, ho, hed⟩ hb
    have hb := bitOf_test hb
    rw [nth_eq, bms_at ho] at hb
    obtain ⟨e, h1, h2, h3⟩ := orEdges_bit (by simpa using hb)
    have hlt := hlow j o ho e h1 h2
    have hl := hed e h1 h2
    rcases h3 with h3 | h3
    · rw [← h3]; exact hl
    · rw [nth_take hlt] at h3
      have h3 := test_bitOf h3
      have hjl : j < ops.length := (List.getElem?_eq_some_iff.1 ho).1
      have ho' : ops[e.on]? = some ops[e.on] := List.getElem?_eq_getElem (by omega)
      exact ih e.on hlt ⟨_, ho', hm e.on _ hl ho'⟩ h3

/-! #### The checks -/
def confT (ops : List Oper) (a b : Oper) : Bool :=
  (match a.dst with | some d => memN d (readsT ops b) || (match b.dst with | some d' => Nat.beq d d' | none => false) | none => false) || (match b.dst with | some d => memN d (readsT ops a) | none => false)
def statRow (ops : List Oper) (bm : List Nat) (o : Oper) (j : Nat) : List Oper → Nat → Bool
  | [], _ => true
  | a :: r, i => (!(confT ops a o) || bitOf bm j i) && statRow ops bm o j r (i + 1)
def statGo (ops : List Oper) (bm : List Nat) : List Oper → Nat → Bool
  | [], _ => true
  | o :: r, j => o.after.toList.all (fun e => !(bindE e) || Nat.blt e.on j) && statRow ops bm o j (ops.take j) 0 && statGo ops bm r (j + 1)
def statOk (ops : List Oper) : Bool := statGo ops (bms ops) ops 0

theorem statRow_spec {ops : List Oper} {bm : List Nat} {o : Oper} {j : Nat} : ∀ {l : List Oper} {i : Nat}, statRow ops bm o j l i = true → ∀ (m : Nat) (a : Oper), l[m]? = some a → confT ops a o = true → bitOf bm j (i + m) = true
  | [], i, _, m, a, h, _ => by simp at h
  | x :: l, i, h, 0, a, h1, h2 => by
    simp only [statRow, Bool.and_eq_true, Bool.or_eq_true, Bool.not_eq_true'] at h
    simp at h1; subst h1
    rcases h.1 with h3 | h3
    · rw [h2] at h3; simp at h3
    · simpa using h3
  | x :: l, i, h, m + 1, a, h1, h2 => by
    simp only [statRow, Bool.and_eq_true] at h
    have := statRow_spec h.2 m a (by simpa using h1) h2
    rw [show i + (m + 1) = i + 1 + m from by omega]; exact this
theorem statGo_spec {ops : List Oper} {bm : List Nat} : ∀ {l : List Oper} {j : Nat}, statGo ops bm l j = true → ∀ (m : Nat) (o : Oper), l[m]? = some o → (∀ e ∈ o.after.toList, bindE e = true → e.on < j + m) ∧ statRow ops bm o (j + m) (ops.take (j + m)) 0 = true
  | [], j, _, m, o, h => by simp at h
  | x :: l, j, h, 0, o, h1 => by
    simp only [statGo, Bool.and_eq_true] at h
    simp at h1; subst h1
    refine ⟨fun e he hb => ?_, h.1.2⟩
    have := List.all_eq_true.1 h.1.1 e he
    simp only [hb, Bool.not_true, Bool.false_or] at this
    simpa using this
  | x :: l, j, h, m + 1, o, h1 => by
    simp only [statGo, Bool.and_eq_true] at h
    have := statGo_spec h.2 m o (by simpa using h1)
    rw [show j + (m + 1) = j + 1 + m from by omega]; exact this

theorem statOk_low {ops : List Oper} (h : statOk ops = true) (j : Nat) (o : Oper) (ho : ops[j]? = some o) : ∀ e ∈ o.after.toList, bindE e = true → e.on < j := by
  have := (statGo_spec h j o ho).1
  simpa using this
theorem statOk_conf {ops : List Oper} (h : statOk ops = true) {i j : Nat} {a o : Oper} (hij : i < j) (ha : ops[i]? = some a) (ho : ops[j]? = some o) (hc : confT ops a o = true) : bitOf (bms ops) j i = true := by
  have h1 := (statGo_spec h j o ho).2
  rw [Nat.zero_add] at h1
  have := statRow_spec h1 i a (by rw [List.getElem?_take, if_pos hij]; exact ha) hc
  simpa using this

/-- Objects: who touches what another one writes comes ahead or behind. -/
def interN (a b : List Nat) : Bool := a.any fun x => memN x b
def confO (a b : Stp) : Bool := interN (keysH a.wh) (b.ro ++ keysH b.wh) || interN a.ro (keysH b.wh)
def unmS (r : Nat) (st : Stp) : Bool := (match st.wt with | some (_, v) => !(v.ment r) | none => true) && unmH r st.wh && !(memN r (keysH st.wh))
/-- No object is touched. -/
def Stp.plain (b : Stp) : Bool := match b.wh, b.ro, b.nw with
  | [], [], [] => true
  | _, _, _ => false
theorem Stp.plain_spec {b : Stp} (h : b.plain = true) : b.wh = [] ∧ b.ro = [] ∧ b.nw = [] := by
  unfold Stp.plain at h
  split at h
  · rename_i h1 h2 h3; exact ⟨h1, h2, h3⟩
  · simp at h
theorem confO_plain {a b : Stp} (h : b.plain = true) : confO a b = false := by
  obtain ⟨h1, h2, _⟩ := Stp.plain_spec h
  unfold confO
  rw [h1, h2]
  have (l : List Nat) : interN l [] = false := by induction l <;> simp_all [interN, memN]
  simp [keysH, this]
def dynRow (bm : List Nat) (b : Stp) (j : Nat) : List Stp → Nat → Bool
  | [], _ => true
  | a :: r, i => (!(confO a b) || bitOf bm j i) && dynRow bm b j r (i + 1)
def newRow (bm : List Nat) (i : Nat) (rs : List Nat) : List Stp → Nat → Bool
  | [], _ => true
  | b :: r, j => (Nat.beq i j || bitOf bm j i || rs.all (fun q => unmS q b)) && newRow bm i rs r (j + 1)
def dynGo (bm : List Nat) (anc : List Nat) (s0 : St) (tr : List Stp) : List Stp → Nat → Bool
  | [], _ => true
  | b :: r, j => match b.plain with
    | true => dynGo bm anc s0 tr r (j + 1)
    | false => dynRow bm b j (tr.take j) 0 && newRow bm j b.nw tr 0 && b.nw.all (fun q => unmB anc q s0) && dynGo bm anc s0 tr r (j + 1)

theorem dynRow_spec {bm : List Nat} {b : Stp} {j : Nat} : ∀ {l : List Stp} {i : Nat}, dynRow bm b j l i = true → ∀ (m : Nat) (a : Stp), l[m]? = some a → confO a b = true → bitOf bm j (i + m) = true
  | [], i, _, m, a, h, _ => by simp at h
  | x :: l, i, h, 0, a, h1, h2 => by
    simp only [dynRow, Bool.and_eq_true, Bool.or_eq_true, Bool.not_eq_true'] at h
    simp at h1; subst h1
    rcases h.1 with h3 | h3
    · rw [h2] at h3; simp at h3
    · simpa using h3
  | x :: l, i, h, m + 1, a, h1, h2 => by
    simp only [dynRow, Bool.and_eq_true] at h
    have := dynRow_spec h.2 m a (by simpa using h1) h2
    rw [show i + (m + 1) = i + 1 + m from by omega]; exact this
theorem newRow_spec {bm : List Nat} {i : Nat} {rs : List Nat} : ∀ {l : List Stp} {j : Nat}, newRow bm i rs l j = true → ∀ (m : Nat) (b : Stp), l[m]? = some b → i ≠ j + m → bitOf bm (j + m) i = false → ∀ q ∈ rs, unmS q b = true
  | [], j, _, m, b, h, _, _ => by simp at h
  | x :: l, j, h, 0, b, h1, h2, h3 => by
    simp only [newRow, Bool.and_eq_true, Bool.or_eq_true] at h
    simp at h1; subst h1
    rcases h.1 with (h4 | h4) | h4
    · exact absurd (Nat.eq_of_beq_eq_true h4) (by simpa using h2)
    · rw [Nat.add_zero] at h3; rw [h3] at h4; simp at h4
    · exact fun q hq => List.all_eq_true.1 h4 q hq
  | x :: l, j, h, m + 1, b, h1, h2, h3 => by
    simp only [newRow, Bool.and_eq_true] at h
    rw [show j + (m + 1) = j + 1 + m from by omega] at h2 h3
    exact newRow_spec h.2 m b (by simpa using h1) h2 h3
theorem dynGo_spec {bm anc : List Nat} {s0 : St} {tr : List Stp} : ∀ {l : List Stp} {j : Nat}, dynGo bm anc s0 tr l j = true → ∀ (m : Nat) (b : Stp), l[m]? = some b → b.plain = true ∨ (dynRow bm b (j + m) (tr.take (j + m)) 0 = true ∧ newRow bm (j + m) b.nw tr 0 = true ∧ ∀ q ∈ b.nw, unmB anc q s0 = true)
  | [], j, _, m, o, h => by simp at h
  | x :: l, j, h, 0, o, h1 => by
    simp only [dynGo] at h
    simp at h1; subst h1
    split at h
    · rename_i hp; exact .inl hp
    · simp only [Bool.and_eq_true] at h
      exact .inr ⟨h.1.1.1, h.1.1.2, fun q hq => List.all_eq_true.1 h.1.2 q hq⟩
  | x :: l, j, h, m + 1, o, h1 => by
    have h2 : dynGo bm anc s0 tr l (j + 1) = true := by
      simp only [dynGo] at h
      split at h
      · exact h
      · simp only [Bool.and_eq_true] at h; exact h.2
    have := dynGo_spec h2 m o (by simpa using h1)
    rw [show j + (m + 1) = j + 1 + m from by omega]; exact this

theorem memN_of {r : Nat} : ∀ {l : List Nat}, r ∈ l → memN r l = true
  | x :: l, h => by
    simp only [memN]
    split
    · rfl
    · rename_i hb
      rcases List.mem_cons.1 h with rfl | h
      · simp at hb
      · exact memN_of h
theorem confT_left {ops : List Oper} {a b : Oper} {d : Nat} (h : a.dst = some d) (hb : d ∈ readsT ops b ∨ b.dst = some d) : confT ops a b = true := by
  unfold confT
  rw [h]
  rcases hb with hb | hb
  · simp [memN_of hb]
  · simp [hb]
theorem confT_right {ops : List Oper} {a b : Oper} {d : Nat} (h : b.dst = some d) (ha : d ∈ readsT ops a) : confT ops a b = true := by
  unfold confT
  rw [h]
  simp [memN_of ha]
theorem interN_of {a b : List Nat} {r : Nat} (h1 : r ∈ a) (h2 : r ∈ b) : interN a b = true := List.any_eq_true.2 ⟨r, h1, memN_of h2⟩
theorem confO_left {a b : Stp} {r : Nat} (h : a.writesO r) (hb : r ∈ b.ro ∨ b.writesO r) : confO a b = true := by
  unfold confO
  rw [interN_of h (by simpa [Stp.writesO] using hb)]; rfl
theorem confO_right {a b : Stp} {r : Nat} (h : b.writesO r) (ha : r ∈ a.ro) : confO a b = true := by
  unfold confO
  rw [interN_of ha h]; simp

end Go.Ax
