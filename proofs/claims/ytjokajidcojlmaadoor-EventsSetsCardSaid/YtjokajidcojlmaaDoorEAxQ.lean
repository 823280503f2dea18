import Derived.Test.YtjokajidcojlmaaDoorEAxM

/- Abstract execution, part Q: a region that draws its order: one walk in the text's order serves for all orders. -/
namespace Go.Ax

/-- What one operation of a region did: the slot that it wrote, the objects; what it read; new objects. -/
structure Stp where
  wt : Option (Nat × AV)
  wh : HL
  ro : List Nat
  nw : List Nat

def keysH : HL → List Nat
  | [] => []
  | (r, _) :: h => r :: keysH h
theorem mem_keysH {r : Nat} : ∀ {h : HL}, r ∈ keysH h ↔ ∃ p ∈ h, p.1 = r
  | [] => by simp [keysH]
  | (q, o) :: h => by simp [keysH, mem_keysH (h := h), eq_comm]

/-- The state when those that are marked have run. -/
def apF : List (Bool × Stp) → List (Nat × AV) → List (Nat × AV)
  | [], f => f
  | (true, st) :: l, f => apF l (match st.wt with | some p => p :: f | none => f)
  | (false, _) :: l, f => apF l f
def apH : List (Bool × Stp) → HL → HL
  | [], h => h
  | (true, st) :: l, h => apH l (st.wh ++ h)
  | (false, _) :: l, h => apH l h

def Stp.putF (st : Stp) (f : List (Nat × AV)) : List (Nat × AV) := match st.wt with
  | some p => p :: f
  | none => f
theorem apF_append (a b : List (Bool × Stp)) (f : List (Nat × AV)) : apF (a ++ b) f = apF b (apF a f) := by
  induction a generalizing f with
  | nil => rfl
  | cons x a ih => obtain ⟨m, st⟩ := x; cases m <;> simp only [List.cons_append, apF, ih]
theorem apH_append (a b : List (Bool × Stp)) (f : HL) : apH (a ++ b) f = apH b (apH a f) := by
  induction a generalizing f with
  | nil => rfl
  | cons x a ih => obtain ⟨m, st⟩ := x; cases m <;> simp only [List.cons_append, apH, ih]

def Stp.writesT (st : Stp) (t : Nat) : Prop := ∃ v, st.wt = some (t, v)
def Stp.writesO (st : Stp) (r : Nat) : Prop := r ∈ keysH st.wh

theorem lk_putF {st : Stp} {f : List (Nat × AV)} {t : Nat} (h : ¬ st.writesT t) : lk t (st.putF f) = lk t f := by
  unfold Stp.putF
  cases hw : st.wt with
  | none => rfl
  | some p =>
    obtain ⟨d, v⟩ := p
    have hne : Nat.beq d t = false := by
      cases hb : Nat.beq d t with
      | false => rfl
      | true => exact absurd ⟨v, by rw [hw, Nat.eq_of_beq_eq_true hb]⟩ h
    simp [lk, hne]
theorem lk_putF2 {st : Stp} {f g : List (Nat × AV)} {t : Nat} (h : lk t f = lk t g) : lk t (st.putF f) = lk t (st.putF g) := by
  unfold Stp.putF
  cases hw : st.wt with
  | none => exact h
  | some p =>
    obtain ⟨d, v⟩ := p
    simp only [lk]
    cases Nat.beq d t with
    | true => rfl
    | false => exact h
theorem lkH_putH {st : Stp} {h : HL} {r : Nat} (hr : ¬ st.writesO r) : lkH r (st.wh ++ h) = lkH r h :=
  lkH_append r _ _ fun p hp he => hr (mem_keysH.2 ⟨p, hp, he⟩)
theorem lkH_putH2 {st : Stp} {f g : HL} {r : Nat} (h : lkH r f = lkH r g) : lkH r (st.wh ++ f) = lkH r (st.wh ++ g) := by
  by_cases hw : st.writesO r
  · have := mem_keysH.1 hw
    rw [lkH_left r _ _ this, lkH_left r _ _ this]
  · rw [lkH_putH hw, lkH_putH hw, h]

/-- All marked. -/
def full (l : List (Bool × Stp)) : List (Bool × Stp) := l.map fun x => (true, x.2)

theorem apF_full {t : Nat} : ∀ {l : List (Bool × Stp)} {f g : List (Nat × AV)}, (∀ x ∈ l, x.1 = false → ¬ x.2.writesT t) → lk t f = lk t g → lk t (apF l f) = lk t (apF (full l) g)
  | [], f, g, _, h => h
  | (true, st) :: l, f, g, hw, h => apF_full (l := l) (fun x hx => hw x (by simp [hx])) (lk_putF2 h)
  | (false, st) :: l, f, g, hw, h => apF_full (l := l) (fun x hx => hw x (by simp [hx])) (by
      have := lk_putF (f := g) (hw (false, st) (by simp) rfl)
      exact h.trans this.symm)
theorem apH_full {r : Nat} : ∀ {l : List (Bool × Stp)} {f g : HL}, (∀ x ∈ l, x.1 = false → ¬ x.2.writesO r) → lkH r f = lkH r g → lkH r (apH l f) = lkH r (apH (full l) g)
  | [], f, g, _, h => h
  | (true, st) :: l, f, g, hw, h => apH_full (l := l) (fun x hx => hw x (by simp [hx])) (lkH_putH2 h)
  | (false, st) :: l, f, g, hw, h => apH_full (l := l) (fun x hx => hw x (by simp [hx])) (h.trans (lkH_putH (h := g) (hw (false, st) (by simp) rfl)).symm)
/-- What runs later and doesn't write there. -/
theorem apF_later {t : Nat} : ∀ {l : List (Bool × Stp)} {f : List (Nat × AV)}, (∀ x ∈ l, x.1 = true → ¬ x.2.writesT t) → lk t (apF l f) = lk t f
  | [], f, _ => rfl
  | (true, st) :: l, f, hw => (apF_later (l := l) (fun x hx => hw x (by simp [hx]))).trans (lk_putF (hw (true, st) (by simp) rfl))
  | (false, st) :: l, f, hw => apF_later (l := l) (fun x hx => hw x (by simp [hx]))
theorem apH_later {r : Nat} : ∀ {l : List (Bool × Stp)} {f : HL}, (∀ x ∈ l, x.1 = true → ¬ x.2.writesO r) → lkH r (apH l f) = lkH r f
  | [], f, _ => rfl
  | (true, st) :: l, f, hw => (apH_later (l := l) (fun x hx => hw x (by simp [hx]))).trans (lkH_putH (hw (true, st) (by simp) rfl))
  | (false, st) :: l, f, hw => apH_later (l := l) (fun x hx => hw x (by simp [hx]))
/-- One more is marked. -/
theorem apF_mark {st : Stp} : ∀ {l : List (Bool × Stp)} {f : List (Nat × AV)}, (∀ x ∈ l, x.1 = true → ∀ t, st.writesT t → ¬ x.2.writesT t) → ∀ t, lk t (apF l (st.putF f)) = lk t (st.putF (apF l f)) := by
  intro l f hw t
  by_cases h : st.writesT t
  · rw [apF_later fun x hx he => hw x hx he t h]
    obtain ⟨v, hv⟩ := h
    simp [Stp.putF, hv, lk]
  · rw [lk_putF h]
    have gen : ∀ (l : List (Bool × Stp)) (f g : List (Nat × AV)), lk t f = lk t g → lk t (apF l f) = lk t (apF l g) := by
      intro l
      induction l with
      | nil => exact fun f g h => h
      | cons x l ih => obtain ⟨m, s⟩ := x; cases m with
        | true => exact fun f g h => ih _ _ (lk_putF2 h)
        | false => exact fun f g h => ih _ _ h
    exact gen l _ _ (lk_putF h)
theorem apH_mark {st : Stp} : ∀ {l : List (Bool × Stp)} {f : HL}, (∀ x ∈ l, x.1 = true → ∀ r, st.writesO r → ¬ x.2.writesO r) → ∀ r, lkH r (apH l (st.wh ++ f)) = lkH r (st.wh ++ apH l f) := by
  intro l f hw r
  by_cases h : st.writesO r
  · rw [apH_later fun x hx he => hw x hx he r h]
    have := mem_keysH.1 h
    rw [lkH_left r _ _ this, lkH_left r _ _ this]
  · rw [lkH_putH h]
    have gen : ∀ (l : List (Bool × Stp)) (f g : HL), lkH r f = lkH r g → lkH r (apH l f) = lkH r (apH l g) := by
      intro l
      induction l with
      | nil => exact fun f g h => h
      | cons x l ih => obtain ⟨m, s⟩ := x; cases m with
        | true => exact fun f g h => ih _ _ (lkH_putH2 h)
        | false => exact fun f g h => ih _ _ h
    exact gen l _ _ (lkH_putH h)

end Go.Ax

/- Abstract execution, part R: a region that draws its order, the rest. -/
namespace Go.Ax

def guardT (ops : List Oper) : Option (Nat × Bool) → List Nat
  | none => []
  | some (j, _) => match nth ops j with
    | some o => match o.dst with
      | some d => [d]
      | none => []
    | none => []
def readsT (ops : List Oper) (o : Oper) : List Nat := opTmps o.op ++ guardT ops o.guard

variable {X : Ax} {k : Kn}

/-- What one operation does, wherever what it reads is so. -/
def StepOk (X : Ax) (k : Kn) (Q : APost) (ops : List Oper) (o : Oper) (s : St) (st : Stp) : Prop :=
  (∀ t v, st.wt = some (t, v) → o.dst = some t) ∧
  ∀ (c : Cx) (Im : Nat → Prop) (ρ : Nat → Option Loc) (s' : St) (a : Act) (w : World) (K : Act → World → Prop), c.Ok X.E → c.nt = k.nt → c.anc = k.anc → Sim c Im ρ s'.F s'.H a w →
    (∀ t ∈ readsT ops o, lk t s'.f = lk t s.f) → (∀ r ∈ st.ro, lkH r s'.h = lkH r s.h) → (∀ r ∈ st.nw, Unm c r s'.F s'.H) →
    (∀ Im' ρ' a' w', Sim c Im' ρ' (fun t => lk t (st.putF s'.f)) (fun r => lkH r (st.wh ++ s'.h)) a' w' → K a' w') →
    if Region.wanted o (yielded ops.toArray a.tmps) then o.wpIn c.fence 0 X.E.P a w K (Lift c Q) else K (a.put o.dst undef) w

inductive Trace (X : Ax) (k : Kn) (Q : APost) (ops : List Oper) : List Oper → St → List Stp → St → Prop
  | nil (s : St) : Trace X k Q ops [] s [] s
  | cons {o : Oper} {rest : List Oper} {s s' : St} {st : Stp} {tr : List Stp} (h : StepOk X k Q ops o s st) (ht : Trace X k Q ops rest { f := st.putF s.f, h := st.wh ++ s.h } tr s') : Trace X k Q ops (o :: rest) s (st :: tr) s'

theorem Trace.length {Q : APost} {ops l : List Oper} {s s' : St} {tr : List Stp} (h : Trace X k Q ops l s tr s') : tr.length = l.length := by
  induction h with
  | nil => rfl
  | cons _ _ ih => simp [ih]
/-- The state in the text's order. -/
theorem Trace.at {Q : APost} {ops : List Oper} : ∀ {l : List Oper} {s s' : St} {tr : List Stp}, Trace X k Q ops l s tr s' → ∀ (i : Nat) (o : Oper) (st : Stp), l[i]? = some o → tr[i]? = some st →
    StepOk X k Q ops o { f := apF ((tr.take i).map (true, ·)) s.f, h := apH ((tr.take i).map (true, ·)) s.h } st
  | _, _, _, _, .nil s, i, o, st, h, _ => by simp at h
  | _, s, _, _, .cons (st := st0) hs ht, 0, o, st, h1, h2 => by simp at h1 h2; subst h1; subst h2; exact hs
  | _, s, _, _, .cons (st := st0) hs ht, i + 1, o, st, h1, h2 => by
    have := ht.at i o st (by simpa using h1) (by simpa using h2)
    simpa [apF, apH, Stp.putF] using this
theorem Trace.end {Q : APost} {ops : List Oper} : ∀ {l : List Oper} {s s' : St} {tr : List Stp}, Trace X k Q ops l s tr s' → s' = { f := apF (tr.map (true, ·)) s.f, h := apH (tr.map (true, ·)) s.h }
  | _, _, _, _, .nil s => rfl
  | _, s, s', _, .cons (st := st0) hs ht => by
    have := ht.end
    rw [this]; rfl

/-! #### What comes ahead of what -/
def bindE (e : Edge) : Bool := Region.binds .any e
/-- A bit for each operation that comes ahead. -/
def orEdges (acc : List Nat) : List Edge → Nat
  | [] => 0
  | e :: es => match bindE e with
    | true => (2 ^ e.on ||| (nth acc e.on).getD 0) ||| orEdges acc es
    | false => orEdges acc es
def bmsGo : List Oper → List Nat → List Nat
  | [], acc => acc
  | o :: r, acc => bmsGo r (acc ++ [orEdges acc o.after.toList])
def bms (ops : List Oper) : List Nat := bmsGo ops []
def bitOf (bm : List Nat) (j i : Nat) : Bool := match nth bm j with
  | some x => Nat.beq (Nat.land 1 (Nat.shiftRight x i)) 1
  | none => false
theorem bitOf_test {bm : List Nat} {j i : Nat} (h : bitOf bm j i = true) : Nat.testBit ((nth bm j).getD 0) i = true := by
  unfold bitOf at h
  split at h
  · rename_i x hx
    rw [hx]
    have h := Nat.eq_of_beq_eq_true h
    have h : 1 &&& (x >>> i) = 1 := h
    simp [Nat.testBit, h]
  · simp at h

theorem test_bitOf {bm : List Nat} {j i : Nat} (h : Nat.testBit ((nth bm j).getD 0) i = true) : bitOf bm j i = true := by
  unfold bitOf
  split
  · rename_i x hx
    rw [hx] at h
    have h : (1 &&& (x >>> i) != 0) = true := h
    have h2 : (1 : Nat) &&& (x >>> i) = (x >>> i) % 2 := by rw [Nat.and_comm, Nat.and_one_is_mod]
    have h3 : Nat.land 1 (Nat.shiftRight x i) = (1 : Nat) &&& (x >>> i) := rfl
    rw [h3]
    have : (1 : Nat) &&& (x >>> i) = 1 := by
      have : (1 : Nat) &&& (x >>> i) ≠ 0 := by simpa using h
      omega
    rw [this]; rfl
  · rename_i hx
    rw [hx] at h; simp at h

theorem bmsGo_prefix : ∀ (l : List Oper) (acc : List Nat), ∃ r, bmsGo l acc = acc ++ r ∧ r.length = l.length
  | [], acc => ⟨[], by simp [bmsGo]⟩
  | o :: l, acc => by
    obtain ⟨r, h1, h2⟩ := bmsGo_prefix l (acc ++ [orEdges acc o.after.toList])
    exact ⟨orEdges acc o.after.toList :: r, by rw [bmsGo, h1]; simp, by simp [h2]⟩
theorem bmsGo_at : ∀ (l : List Oper) (acc : List Nat) (i : Nat) (o : Oper), l[i]? = some o → (bmsGo l acc)[acc.length + i]? = some (orEdges ((bmsGo l acc).take (acc.length + i)) o.after.toList)
  | [], acc, i, o, h => by simp at h
  | o' :: l, acc, 0, o, h => by
    simp at h; subst h
    obtain ⟨r, h1, _⟩ := bmsGo_prefix l (acc ++ [orEdges acc o'.after.toList])
    rw [bmsGo, h1]
    simp
  | o' :: l, acc, i + 1, o, h => by
    have := bmsGo_at l (acc ++ [orEdges acc o'.after.toList]) i o (by simpa using h)
    rw [bmsGo]
    simp only [List.length_append, List.length_cons, List.length_nil] at this
    rw [show acc.length + (i + 1) = acc.length + (0 + 1) + i from by omega]
    exact this
theorem bms_at {ops : List Oper} {i : Nat} {o : Oper} (h : ops[i]? = some o) : (bms ops)[i]? = some (orEdges ((bms ops).take i) o.after.toList) := by
  have := bmsGo_at ops [] i o h
  simpa [bms] using this

theorem orEdges_bit {acc : List Nat} {i : Nat} : ∀ {es : List Edge}, Nat.testBit (orEdges acc es) i = true → ∃ e ∈ es, bindE e = true ∧ (e.on = i ∨ Nat.testBit ((nth acc e.on).getD 0) i = true)
  | [], h => by simp [orEdges] at h
  | e :: es, h => by
    simp only [orEdges] at h
    split at h
    · rename_i hb
      rw [Nat.testBit_or, Nat.testBit_or, Bool.or_eq_true, Bool.or_eq_true] at h
      rcases h with (h | h) | h
      · refine ⟨e, by simp, hb, .inl ?_⟩
        rw [Nat.testBit_two_pow] at h
        simpa using h
      · exact ⟨e, by simp, hb, .inr h⟩
      · obtain ⟨e', h1, h2, h3⟩ := orEdges_bit h
        exact ⟨e', by simp [h1], h2, h3⟩
    · obtain ⟨e', h1, h2, h3⟩ := orEdges_bit h
      exact ⟨e', by simp [h1], h2, h3⟩

/-- Who is listed, his edges' ends are. -/
def ClosedM (ops : List Oper) (m : List Bool) : Prop := ∀ (j : Nat) (o : Oper), m[j]? = some true → ops[j]? = some o → ∀ e ∈ o.after.toList, bindE e = true → m[e.on]? = some true

theorem nth_take {l : List Nat} {j i : Nat} (h : i < j) : nth (l.take j) i = nth l i := by rw [nth_eq, nth_eq, List.getElem?_take, if_pos h]

theorem closedM_anc {ops : List Oper} {m : List Bool} (hlow : ∀ (j : Nat) (o : Oper), ops[j]? = some o → ∀ e ∈ o.after.toList, bindE e = true → e.on < j) (hm : ClosedM ops m) : ∀ (j : Nat) {i : Nat}, (∃ o, ops[j]? = some o ∧ ∀ e ∈ o.after.toList, bindE e = true → m[e.on]? = some true) → bitOf (bms ops) j i = true → m[i]? = some true := by
  intro j
  induction j using Nat.strongRecOn with
  | _ j ih =>
    intro i ⟨o, ho, hed⟩ hb
    have hb := bitOf_test hb
    rw [nth_eq, bms_at ho] at hb
    obtain ⟨e, h1, h2, h3⟩ := orEdges_bit (by simpa using hb)
    have hlt := hlow j o ho e h1 h2
    have hl := hed e h1 h2
    rcases h3 with h3 | h3
    · rw [← h3]; exact hl
    · rw [nth_take hlt] at h3
      have h3 := test_bitOf h3
      have hjl : j < ops.length := (List.getElem?_eq_some_iff.1 ho).1
      have ho' : ops[e.on]? = some ops[e.on] := List.getElem?_eq_getElem (by omega)
      exact ih e.on hlt ⟨_, ho', hm e.on _ hl ho'⟩ h3

/-! #### The checks -/
def confT (ops : List Oper) (a b : Oper) : Bool :=
  (match a.dst with | some d => memN d (readsT ops b) || (match b.dst with | some d' => Nat.beq d d' | none => false) | none => false) || (match b.dst with | some d => memN d (readsT ops a) | none => false)
def statRow (ops : List Oper) (bm : List Nat) (o : Oper) (j : Nat) : List Oper → Nat → Bool
  | [], _ => true
  | a :: r, i => (!(confT ops a o) || bitOf bm j i) && statRow ops bm o j r (i + 1)
def statGo (ops : List Oper) (bm : List Nat) : List Oper → Nat → Bool
  | [], _ => true
  | o :: r, j => o.after.toList.all (fun e => !(bindE e) || Nat.blt e.on j) && statRow ops bm o j (ops.take j) 0 && statGo ops bm r (j + 1)
def statOk (ops : List Oper) : Bool := statGo ops (bms ops) ops 0

theorem statRow_spec {ops : List Oper} {bm : List Nat} {o : Oper} {j : Nat} : ∀ {l : List Oper} {i : Nat}, statRow ops bm o j l i = true → ∀ (m : Nat) (a : Oper), l[m]? = some a → confT ops a o = true → bitOf bm j (i + m) = true
  | [], i, _, m, a, h, _ => by simp at h
  | x :: l, i, h, 0, a, h1, h2 => by
    simp only [statRow, Bool.and_eq_true, Bool.or_eq_true, Bool.not_eq_true'] at h
    simp at h1; subst h1
    rcases h.1 with h3 | h3
    · rw [h2] at h3; simp at h3
    · simpa using h3
  | x :: l, i, h, m + 1, a, h1, h2 => by
    simp only [statRow, Bool.and_eq_true] at h
    have := statRow_spec h.2 m a (by simpa using h1) h2
    rw [show i + (m + 1) = i + 1 + m from by omega]; exact this
theorem statGo_spec {ops : List Oper} {bm : List Nat} : ∀ {l : List Oper} {j : Nat}, statGo ops bm l j = true → ∀ (m : Nat) (o : Oper), l[m]? = some o → (∀ e ∈ o.after.toList, bindE e = true → e.on < j + m) ∧ statRow ops bm o (j + m) (ops.take (j + m)) 0 = true
  | [], j, _, m, o, h => by simp at h
  | x :: l, j, h, 0, o, h1 => by
    simp only [statGo, Bool.and_eq_true] at h
    simp at h1; subst h1
    refine ⟨fun e he hb => ?_, h.1.2⟩
    have := List.all_eq_true.1 h.1.1 e he
    simp only [hb, Bool.not_true, Bool.false_or] at this
    simpa using this
  | x :: l, j, h, m + 1, o, h1 => by
    simp only [statGo, Bool.and_eq_true] at h
    have := statGo_spec h.2 m o (by simpa using h1)
    rw [show j + (m + 1) = j + 1 + m from by omega]; exact this

theorem statOk_low {ops : List Oper} (h : statOk ops = true) (j : Nat) (o : Oper) (ho : ops[j]? = some o) : ∀ e ∈ o.after.toList, bindE e = true → e.on < j := by
  have := (statGo_spec h j o ho).1
  simpa using this
theorem statOk_conf {ops : List Oper} (h : statOk ops = true) {i j : Nat} {a o : Oper} (hij : i < j) (ha : ops[i]? = some a) (ho : ops[j]? = some o) (hc : confT ops a o = true) : bitOf (bms ops) j i = true := by
  have h1 := (statGo_spec h j o ho).2
  rw [Nat.zero_add] at h1
  have := statRow_spec h1 i a (by rw [List.getElem?_take, if_pos hij]; exact ha) hc
  simpa using this

/-- Objects: who touches what another one writes comes ahead or behind. -/
def interN (a b : List Nat) : Bool := a.any fun x => memN x b
def confO (a b : Stp) : Bool := interN (keysH a.wh) (b.ro ++ keysH b.wh) || interN a.ro (keysH b.wh)
def unmS (r : Nat) (st : Stp) : Bool := (match st.wt with | some (_, v) => !(v.ment r) | none => true) && unmH r st.wh && !(memN r (keysH st.wh))
/-- No object is touched. -/
def Stp.plain (b : Stp) : Bool := match b.wh, b.ro, b.nw with
  | [], [], [] => true
  | _, _, _ => false
theorem Stp.plain_spec {b : Stp} (h : b.plain = true) : b.wh = [] ∧ b.ro = [] ∧ b.nw = [] := by
  unfold Stp.plain at h
  split at h
  · rename_i h1 h2 h3; exact ⟨h1, h2, h3⟩
  · simp at h
theorem confO_plain {a b : Stp} (h : b.plain = true) : confO a b = false := by
  obtain ⟨h1, h2, _⟩ := Stp.plain_spec h
  unfold confO
  rw [h1, h2]
  have (l : List Nat) : interN l [] = false := by induction l <;> simp_all [interN, memN]
  simp [keysH, this]
def dynRow (bm : List Nat) (b : Stp) (j : Nat) : List Stp → Nat → Bool
  | [], _ => true
  | a :: r, i => (!(confO a b) || bitOf bm j i) && dynRow bm b j r (i + 1)
def newRow (bm : List Nat) (i : Nat) (rs : List Nat) : List Stp → Nat → Bool
  | [], _ => true
  | b :: r, j => (Nat.beq i j || bitOf bm j i || rs.all (fun q => unmS q b)) && newRow bm i rs r (j + 1)
def dynGo (bm : List Nat) (anc : List Nat) (s0 : St) (tr : List Stp) : List Stp → Nat → Bool
  | [], _ => true
  | b :: r, j => match b.plain with
    | true => dynGo bm anc s0 tr r (j + 1)
    | false => dynRow bm b j (tr.take j) 0 && newRow bm j b.nw tr 0 && b.nw.all (fun q => unmB anc q s0) && dynGo bm anc s0 tr r (j + 1)

theorem dynRow_spec {bm : List Nat} {b : Stp} {j : Nat} : ∀ {l : List Stp} {i : Nat}, dynRow bm b j l i = true → ∀ (m : Nat) (a : Stp), l[m]? = some a → confO a b = true → bitOf bm j (i + m) = true
  | [], i, _, m, a, h, _ => by simp at h
  | x :: l, i, h, 0, a, h1, h2 => by
    simp only [dynRow, Bool.and_eq_true, Bool.or_eq_true, Bool.not_eq_true'] at h
    simp at h1; subst h1
    rcases h.1 with h3 | h3
    · rw [h2] at h3; simp at h3
    · simpa using h3
  | x :: l, i, h, m + 1, a, h1, h2 => by
    simp only [dynRow, Bool.and_eq_true] at h
    have := dynRow_spec h.2 m a (by simpa using h1) h2
    rw [show i + (m + 1) = i + 1 + m from by omega]; exact this
theorem newRow_spec {bm : List Nat} {i : Nat} {rs : List Nat} : ∀ {l : List Stp} {j : Nat}, newRow bm i rs l j = true → ∀ (m : Nat) (b : Stp), l[m]? = some b → i ≠ j + m → bitOf bm (j + m) i = false → ∀ q ∈ rs, unmS q b = true
  | [], j, _, m, b, h, _, _ => by simp at h
  | x :: l, j, h, 0, b, h1, h2, h3 => by
    simp only [newRow, Bool.and_eq_true, Bool.or_eq_true] at h
    simp at h1; subst h1
    rcases h.1 with (h4 | h4) | h4
    · exact absurd (Nat.eq_of_beq_eq_true h4) (by simpa using h2)
    · rw [Nat.add_zero] at h3; rw [h3] at h4; simp at h4
    · exact fun q hq => List.all_eq_true.1 h4 q hq
  | x :: l, j, h, m + 1, b, h1, h2, h3 => by
    simp only [newRow, Bool.and_eq_true] at h
    rw [show j + (m + 1) = j + 1 + m from by omega] at h2 h3
    exact newRow_spec h.2 m b (by simpa using h1) h2 h3
theorem dynGo_spec {bm anc : List Nat} {s0 : St} {tr : List Stp} : ∀ {l : List Stp} {j : Nat}, dynGo bm anc s0 tr l j = true → ∀ (m : Nat) (b : Stp), l[m]? = some b → b.plain = true ∨ (dynRow bm b (j + m) (tr.take (j + m)) 0 = true ∧ newRow bm (j + m) b.nw tr 0 = true ∧ ∀ q ∈ b.nw, unmB anc q s0 = true)
  | [], j, _, m, o, h => by simp at h
  | x :: l, j, h, 0, o, h1 => by
    simp only [dynGo] at h
    simp at h1; subst h1
    split at h
    · rename_i hp; exact .inl hp
    · simp only [Bool.and_eq_true] at h
      exact .inr ⟨h.1.1.1, h.1.1.2, fun q hq => List.all_eq_true.1 h.1.2 q hq⟩
  | x :: l, j, h, m + 1, o, h1 => by
    have h2 : dynGo bm anc s0 tr l (j + 1) = true := by
      simp only [dynGo] at h
      split at h
      · exact h
      · simp only [Bool.and_eq_true] at h; exact h.2
    have := dynGo_spec h2 m o (by simpa using h1)
    rw [show j + (m + 1) = j + 1 + m from by omega]; exact this

theorem memN_of {r : Nat} : ∀ {l : List Nat}, r ∈ l → memN r l = true
  | x :: l, h => by
    simp only [memN]
    split
    · rfl
    · rename_i hb
      rcases List.mem_cons.1 h with rfl | h
      · simp at hb
      · exact memN_of h
theorem confT_left {ops : List Oper} {a b : Oper} {d : Nat} (h : a.dst = some d) (hb : d ∈ readsT ops b ∨ b.dst = some d) : confT ops a b = true := by
  unfold confT
  rw [h]
  rcases hb with hb | hb
  · simp [memN_of hb]
  · simp [hb]
theorem confT_right {ops : List Oper} {a b : Oper} {d : Nat} (h : b.dst = some d) (ha : d ∈ readsT ops a) : confT ops a b = true := by
  unfold confT
  rw [h]
  simp [memN_of ha]
theorem interN_of {a b : List Nat} {r : Nat} (h1 : r ∈ a) (h2 : r ∈ b) : interN a b = true := List.any_eq_true.2 ⟨r, h1, memN_of h2⟩
theorem confO_left {a b : Stp} {r : Nat} (h : a.writesO r) (hb : r ∈ b.ro ∨ b.writesO r) : confO a b = true := by
  unfold confO
  rw [interN_of h (by simpa [Stp.writesO] using hb)]; rfl
theorem confO_right {a b : Stp} {r : Nat} (h : b.writesO r) (ha : r ∈ a.ro) : confO a b = true := by
  unfold confO
  rw [interN_of ha h]; simp

end Go.Ax

/- Abstract execution, part S: a region that draws its order: all orders at once. -/
namespace Go.Ax

variable {X : Ax} {k : Kn}

theorem unmF_lk {r : Nat} {v : AV} {t : Nat} {f : List (Nat × AV)} (hv : v.ment r = false) (h : unmF r f = true) : unmF r ((t, v) :: f) = true := by simp [unmF, hv, h]
theorem apF_unm {r : Nat} : ∀ {l : List (Bool × Stp)} {f : List (Nat × AV)}, (∀ x ∈ l, x.1 = true → unmS r x.2 = true) → unmF r f = true → unmF r (apF l f) = true
  | [], f, _, h => h
  | (false, st) :: l, f, hw, h => apF_unm (l := l) (fun x hx => hw x (by simp [hx])) h
  | (true, st) :: l, f, hw, h => by
    refine apF_unm (l := l) (fun x hx => hw x (by simp [hx])) ?_
    have := hw (true, st) (by simp) rfl
    unfold unmS at this
    cases hs : st.wt with
    | none => exact h
    | some p =>
      obtain ⟨t, v⟩ := p
      simp only [hs, Bool.and_eq_true, Bool.not_eq_true'] at this
      exact unmF_lk this.1.1 h
theorem unmH_append {r : Nat} : ∀ {a b : HL}, unmH r a = true → unmH r b = true → unmH r (a ++ b) = true
  | [], b, _, h => h
  | (q, none) :: a, b, h1, h2 => by simp only [List.cons_append, unmH] at h1 ⊢; exact unmH_append h1 h2
  | (q, some o) :: a, b, h1, h2 => by
    simp only [List.cons_append, unmH] at h1 ⊢
    cases hm : o.ment r with
    | true => simp [hm] at h1
    | false => simp only [hm] at h1 ⊢; exact unmH_append h1 h2
theorem apH_unm {r : Nat} : ∀ {l : List (Bool × Stp)} {h : HL}, (∀ x ∈ l, x.1 = true → unmS r x.2 = true) → unmH r h = true → unmH r (apH l h) = true
  | [], f, _, h => h
  | (false, st) :: l, f, hw, h => apH_unm (l := l) (fun x hx => hw x (by simp [hx])) h
  | (true, st) :: l, f, hw, h => by
    refine apH_unm (l := l) (fun x hx => hw x (by simp [hx])) ?_
    have := hw (true, st) (by simp) rfl
    unfold unmS at this
    simp only [Bool.and_eq_true] at this
    exact unmH_append this.1.2 h
theorem memN_mem {r : Nat} {l : List Nat} (h : memN r l = false) : r ∉ l := memN_spec h
theorem apH_none {r : Nat} {l : List (Bool × Stp)} {h : HL} (hw : ∀ x ∈ l, x.1 = true → unmS r x.2 = true) (h0 : lkH r h = none) : lkH r (apH l h) = none := by
  rw [apH_later fun x hx he hr => ?_, h0]
  have := hw x hx he
  unfold unmS at this
  simp only [Bool.and_eq_true, Bool.not_eq_true'] at this
  exact memN_mem this.2 hr

theorem zip_split {α β : Type} {m : List α} {tr : List β} {i : Nat} {x : α} {y : β} (h1 : m[i]? = some x) (h2 : tr[i]? = some y) : m.zip tr = (m.take i).zip (tr.take i) ++ (x, y) :: (m.drop (i + 1)).zip (tr.drop (i + 1)) := by
  induction i generalizing m tr with
  | zero =>
    cases m <;> cases tr <;> simp at h1 h2 ⊢
    simp [h1, h2]
  | succ i ih =>
    cases m with
    | nil => simp at h1
    | cons a m =>
      cases tr with
      | nil => simp at h2
      | cons b tr => simp [ih (by simpa using h1) (by simpa using h2)]
theorem zip_full (m : List Bool) (tr : List Stp) (h : m.length = tr.length) : full (m.zip tr) = tr.map (true, ·) := by
  induction m generalizing tr with
  | nil => cases tr <;> simp_all [full]
  | cons a m ih => cases tr with
    | nil => simp at h
    | cons b tr => simp only [List.zip_cons_cons, full, List.map_cons]; simp only [full] at ih; rw [ih tr (by simpa using h)]
theorem mem_zip_at {m : List Bool} {tr : List Stp} {x : Bool × Stp} (h : x ∈ m.zip tr) : ∃ j : Nat, m[j]? = some x.1 ∧ tr[j]? = some x.2 := by
  obtain ⟨j, hj⟩ := List.getElem?_of_mem h
  rw [List.getElem?_zip_eq_some] at hj
  exact ⟨j, hj⟩

/-- What a drawing region keeps: who has run, in whatever order. -/
structure Mid (c : Cx) (ops : List Oper) (tr : List Stp) (s0 : St) (m : List Bool) (a : Act) (w : World) : Prop where
  len : m.length = ops.length
  closed : ClosedM ops m
  sim : ∃ Im ρ, Sim c Im ρ (fun t => lk t (apF (m.zip tr) s0.f)) (fun r => lkH r (apH (m.zip tr) s0.h)) a w

theorem Mid.step {c : Cx} {ops : List Oper} {tr : List Stp} {s0 sn : St} {Q : APost} {m : List Bool} {a : Act} {w : World} (hok : c.Ok X.E) (hn : c.nt = k.nt) (ha : c.anc = k.anc) (ht : Trace X k Q ops ops s0 tr sn) (hs : statOk ops = true)
    (hd : dynGo (bms ops) k.anc s0 tr tr 0 = true) (M : Mid c ops tr s0 m a w) {i : Nat} {o : Oper} (hi : m[i]? = some false) (ho : ops[i]? = some o) (hed : ∀ e ∈ o.after.toList, bindE e = true → m[e.on]? = some true)
    {K : Act → World → Prop} (hK : ∀ a' w', Mid c ops tr s0 (m.set i true) a' w' → K a' w') :
    if Region.wanted o (yielded ops.toArray a.tmps) then o.wpIn c.fence 0 X.E.P a w K (Lift c Q) else K (a.put o.dst undef) w := by
  have htl := ht.length
  have hil : i < ops.length := (List.getElem?_eq_some_iff.1 ho).1
  obtain ⟨st, hst⟩ : ∃ st, tr[i]? = some st := ⟨tr[i], List.getElem?_eq_getElem (by omega)⟩
  have hstep := ht.at i o st ho hst
  have hlow := statOk_low hs
  have ancI : ∀ j, bitOf (bms ops) i j = true → m[j]? = some true := fun j hb => closedM_anc hlow M.closed i ⟨o, ho, hed⟩ hb
  have ancJ : ∀ j, m[j]? = some true → bitOf (bms ops) j i = false := fun j hj => by
    cases hb : bitOf (bms ops) j i with
    | false => rfl
    | true =>
      have hjl : j < ops.length := by rw [← M.len]; exact (List.getElem?_eq_some_iff.1 hj).1
      have := closedM_anc hlow M.closed j ⟨ops[j], List.getElem?_eq_getElem hjl, M.closed j _ hj (List.getElem?_eq_getElem hjl)⟩ hb
      rw [hi] at this; simp at this
  have wOf : ∀ j (y : Stp) (oj : Oper), tr[j]? = some y → ops[j]? = some oj → ∀ t, y.writesT t → oj.dst = some t := fun j y oj hy hoj t ⟨v, hv⟩ => (ht.at j oj y hoj hy).1 t v hv
  have opAt : ∀ j (y : Stp), tr[j]? = some y → ∃ oj, ops[j]? = some oj := fun j y hy => ⟨ops[j]'(by rw [← htl]; exact (List.getElem?_eq_some_iff.1 hy).1), List.getElem?_eq_getElem _⟩
  -- the pieces
  let A := (m.take i).zip (tr.take i)
  let B := (m.drop (i + 1)).zip (tr.drop (i + 1))
  have hz : m.zip tr = A ++ (false, st) :: B := zip_split hi hst
  have hz' : (m.set i true).zip tr = A ++ (true, st) :: B := by
    have h1 : (m.set i true)[i]? = some true := by simp [(List.getElem?_eq_some_iff.1 hi).1]
    rw [zip_split h1 hst]
    simp [A, B, List.take_set_of_le, List.drop_set_of_lt]
  have hA : ∀ x ∈ A, ∃ j, j < i ∧ m[j]? = some x.1 ∧ tr[j]? = some x.2 := fun x hx => by
    obtain ⟨j, h1, h2⟩ := mem_zip_at hx
    rw [List.getElem?_take] at h1 h2
    split at h1
    · rename_i hj; rw [if_pos hj] at h2; exact ⟨j, hj, h1, h2⟩
    · simp at h1
  have hB : ∀ x ∈ B, ∃ j, i < j ∧ m[j]? = some x.1 ∧ tr[j]? = some x.2 := fun x hx => by
    obtain ⟨j, h1, h2⟩ := mem_zip_at hx
    rw [List.getElem?_drop] at h1 h2
    exact ⟨i + 1 + j, by omega, h1, h2⟩
  have hAf : full A = (tr.take i).map (true, ·) := zip_full _ _ (by have := M.len; simp; omega)
  have hdyn := dynGo_spec hd
  have conf : ∀ j j' (y y' : Stp), j < j' → tr[j]? = some y → tr[j']? = some y' → confO y y' = true → bitOf (bms ops) j' j = true := fun j j' y y' hlt hy hy' hc => by
    rcases hdyn j' y' hy' with h | h
    · rw [confO_plain h] at hc; simp at hc
    · have h1 := h.1
      rw [Nat.zero_add] at h1
      have := dynRow_spec h1 j y (by rw [List.getElem?_take, if_pos hlt]; exact hy) hc
      simpa using this
  -- what later ones write isn't read
  have laterT : ∀ x ∈ B, x.1 = true → ∀ t, (t ∈ readsT ops o ∨ st.writesT t) → ¬ x.2.writesT t := fun x hx he t hr hw => by
    obtain ⟨j, hj, h1, h2⟩ := hB x hx
    rw [he] at h1
    obtain ⟨oj, hoj⟩ := opAt j x.2 h2
    have hdj := wOf j x.2 oj h2 hoj t hw
    have hc : confT ops o oj = true := by
      rcases hr with hr | hr
      · exact confT_right hdj hr
      · exact confT_left (wOf i st o hst ho t hr) (.inr hdj)
    have := statOk_conf hs hj ho hoj hc
    rw [ancJ j h1] at this; simp at this
  have earlierT : ∀ x ∈ A, x.1 = false → ∀ t, t ∈ readsT ops o → ¬ x.2.writesT t := fun x hx he t hr hw => by
    obtain ⟨j, hj, h1, h2⟩ := hA x hx
    rw [he] at h1
    obtain ⟨oj, hoj⟩ := opAt j x.2 h2
    have hdj := wOf j x.2 oj h2 hoj t hw
    have := ancI j (statOk_conf hs hj hoj ho (confT_left hdj (.inl hr)))
    rw [h1] at this; simp at this
  have laterO : ∀ x ∈ B, x.1 = true → ∀ r, (r ∈ st.ro ∨ st.writesO r) → ¬ x.2.writesO r := fun x hx he r hr hw => by
    obtain ⟨j, hj, h1, h2⟩ := hB x hx
    rw [he] at h1
    have hc : confO st x.2 = true := by
      rcases hr with hr | hr
      · exact confO_right hw hr
      · exact confO_left hr (.inr hw)
    have := conf i j st x.2 hj hst h2 hc
    rw [ancJ j h1] at this; simp at this
  have earlierO : ∀ x ∈ A, x.1 = false → ∀ r, r ∈ st.ro → ¬ x.2.writesO r := fun x hx he r hr hw => by
    obtain ⟨j, hj, h1, h2⟩ := hA x hx
    rw [he] at h1
    have := ancI j (conf j i x.2 st hj h2 hst (confO_left hw (.inl hr)))
    rw [h1] at this; simp at this
  have hunm : ∀ r ∈ st.nw, ∀ x ∈ m.zip tr, x.1 = true → unmS r x.2 = true := fun r hr x hx he => by
    obtain ⟨j, h1, h2⟩ := mem_zip_at hx
    rw [he] at h1
    rcases hdyn i st hst with h | h
    · rw [(Stp.plain_spec h).2.2] at hr; simp at hr
    · have hne : i ≠ j := fun e => by subst e; rw [hi] at h1; simp at h1
      have h3 := h.2.1
      rw [Nat.zero_add] at h3
      refine newRow_spec h3 j x.2 h2 (by simpa using hne) ?_ r hr
      simpa using ancJ j h1
  have hunm0 : ∀ r ∈ st.nw, unmB k.anc r s0 = true := fun r hr => by
    rcases hdyn i st hst with h | h
    · rw [(Stp.plain_spec h).2.2] at hr; simp at hr
    · exact h.2.2 r hr
  obtain ⟨Im, ρ, S⟩ := M.sim
  refine hstep.2 c Im ρ { f := apF (m.zip tr) s0.f, h := apH (m.zip tr) s0.h } a w K hok hn ha S (fun t hr => ?_) (fun r hr => ?_) (fun r hr => ?_) (fun Im' ρ' a' w' S' => ?_)
  · show lk t (apF (m.zip tr) s0.f) = lk t (apF ((tr.take i).map (true, ·)) s0.f)
    rw [hz, apF_append, ← hAf]
    show lk t (apF B (apF A s0.f)) = _
    rw [apF_later fun x hx he => laterT x hx he t (.inl hr)]
    exact apF_full (fun x hx he => earlierT x hx he t hr) rfl
  · show lkH r (apH (m.zip tr) s0.h) = lkH r (apH ((tr.take i).map (true, ·)) s0.h)
    rw [hz, apH_append, ← hAf]
    show lkH r (apH B (apH A s0.h)) = _
    rw [apH_later fun x hx he => laterO x hx he r (.inl hr)]
    exact apH_full (fun x hx he => earlierO x hx he r hr) rfl
  · have h0 := hunm0 r hr
    unfold unmB at h0
    split at h0
    · rename_i e1 e2 e3 e4
      exact ⟨by rw [ha]; exact memN_spec e1, unmF_spec (apF_unm (hunm r hr) e2), unmH_spec (apH_unm (hunm r hr) e3), apH_none (hunm r hr) e4⟩
    · simp at h0
  · refine hK a' w' ⟨by simpa using M.len, fun j oj hj hoj e he hb => ?_, Im', ρ', ?_⟩
    · by_cases hji : i = j
      · subst hji
        rw [ho] at hoj; injection hoj with hoj; subst hoj
        have h1 := hed e he hb
        have hne : i ≠ e.on := fun e' => by rw [← e', hi] at h1; simp at h1
        rw [List.getElem?_set_ne hne]; exact h1
      · rw [List.getElem?_set_ne hji] at hj
        have h1 := M.closed j oj hj hoj e he hb
        have hne : i ≠ e.on := fun e' => by rw [← e', hi] at h1; simp at h1
        rw [List.getElem?_set_ne hne]; exact h1
    · have e1 : (fun t => lk t (apF ((m.set i true).zip tr) s0.f)) = fun t => lk t (st.putF (apF (m.zip tr) s0.f)) := by
        funext t
        rw [hz, hz', apF_append, apF_append]
        exact apF_mark (fun x hx he t hw => laterT x hx he t (.inr hw)) t
      have e2 : (fun r => lkH r (apH ((m.set i true).zip tr) s0.h)) = fun r => lkH r (st.wh ++ apH (m.zip tr) s0.h) := by
        funext r
        rw [hz, hz', apH_append, apH_append]
        exact apH_mark (fun x hx he r hw => laterO x hx he r (.inr hw)) r
      rw [e1, e2]; exact S'

theorem Mid.run {c : Cx} {ops : List Oper} {tr : List Stp} {s0 sn : St} {Q : APost} (hok : c.Ok X.E) (hn : c.nt = k.nt) (ha : c.anc = k.anc) (ht : Trace X k Q ops ops s0 tr sn) (hs : statOk ops = true) (hd : dynGo (bms ops) k.anc s0 tr tr 0 = true) (hQ : Q .normal sn) :
    ∀ (fuel : Nat) (L : Array Bool) (a : Act) (w : World), (L.toList.filter (!·)).length ≤ fuel → Mid c ops tr s0 L.toList a w → wpAnyIn c.fence 0 X.E.P .any ops.toArray (Lift c Q) fuel L a w := by
  have hlow := statOk_low hs
  have done : ∀ (L : Array Bool) (a : Act) (w : World), Mid c ops tr s0 L.toList a w → Region.ready .any ops.toArray L = [] → Lift c Q .normal a w := fun L a w M hr => by
    have hall : ∀ j, j < ops.length → L.toList[j]? = some true := by
      intro j
      induction j using Nat.strongRecOn with
      | _ j ih =>
        intro hj
        have hjl : j < L.toList.length := by rw [M.len]; exact hj
        cases hb : L.toList[j] with
        | true => rw [List.getElem?_eq_getElem hjl, hb]
        | false =>
          have : j ∈ Region.ready .any ops.toArray L := mem_ready.2 ⟨by simp [Array.getD_eq_getD_getElem?]; rw [Array.getElem?_eq_getElem (by simpa using hjl)]; simpa using hb, ops[j], by simp [hj], fun e he hb => by
            have hlt := hlow j ops[j] (List.getElem?_eq_getElem hj) e (by simpa using he) hb
            have := ih e.on hlt (by omega)
            simp [Array.getD_eq_getD_getElem?]
            simp at this; simp [this]⟩
          rw [hr] at this; simp at this
    obtain ⟨Im, ρ, S⟩ := M.sim
    have hfull : L.toList.zip tr = tr.map (true, ·) := by
      rw [← zip_full L.toList tr (by rw [M.len, ht.length])]
      unfold full
      refine (List.map_congr_left (g := id) fun x hx => ?_).trans (List.map_id _) |>.symm
      obtain ⟨j, h1, h2⟩ := mem_zip_at hx
      have hj : j < ops.length := by rw [← M.len]; exact (List.getElem?_eq_some_iff.1 h1).1
      rw [hall j hj] at h1
      injection h1 with h1
      obtain ⟨b, y⟩ := x
      simp at h1; subst h1; rfl
    rw [hfull] at S
    have hsn := ht.end
    exact ⟨by simp, Im, ρ, sn, by rw [hsn]; exact S, hQ⟩
  have act : ∀ (L : Array Bool) (a : Act) (w : World), Mid c ops tr s0 L.toList a w → ∀ i ∈ Region.ready .any ops.toArray L, ∀ K : Act → World → Prop, (∀ a' w', Mid c ops tr s0 (L.setIfInBounds i true).toList a' w' → K a' w') → L.toList[i]? = some false ∧ wpOpIn c.fence 0 X.E.P ops.toArray (Lift c Q) i K a w := fun L a w M i hi K hK => by
    obtain ⟨h0, o, ho, hed⟩ := mem_ready.1 hi
    have ho' : ops[i]? = some o := by simpa using ho
    have hil : i < L.size := by have := M.len; have := (List.getElem?_eq_some_iff.1 ho').1; simp at *; omega
    have hm : L.toList[i]? = some false := by
      simp [Array.getD_eq_getD_getElem?, Array.getElem?_eq_getElem hil] at h0
      simp [hil, h0]
    refine ⟨hm, ?_⟩
    have := Mid.step hok hn ha ht hs hd M hm ho' (fun e he hb => by
      have := hed e (by simpa using he) hb
      simp [Array.getD_eq_getD_getElem?] at this
      rw [Array.getElem?_toList]
      cases h : L[e.on]? with
      | none => rw [h] at this; simp at this
      | some b => rw [h] at this; simp at this; rw [this]) (K := K) (fun a' w' M' => hK a' w' (by simpa using M'))
    unfold wpOpIn
    simp only [ho]
    split at this
    · rename_i hw; rw [if_pos hw]; exact this
    · rename_i hw; rw [if_neg hw]; exact ⟨fun _ _ => trivial, this⟩
  intro fuel
  induction fuel with
  | zero =>
    intro L a w hf M
    have hr : Region.ready .any ops.toArray L = [] := by
      refine List.eq_nil_iff_forall_not_mem.2 fun i hi => ?_
      have := (act L a w M i hi (fun _ _ => True) fun _ _ _ => trivial).1
      have hm := List.mem_of_getElem? this
      have : false ∈ L.toList.filter (!·) := List.mem_filter.2 ⟨hm, rfl⟩
      have := List.length_pos_of_mem this
      omega
    exact ⟨hr, done L a w M hr⟩
  | succ fuel ih =>
    intro L a w hf M
    refine ⟨done L a w M, fun i hi => ?_⟩
    have hm := (act L a w M i hi (fun _ _ => True) fun _ _ _ => trivial).1
    refine (act L a w M i hi _ fun a' w' M' => ih _ a' w' ?_ M').2
    have key : ∀ (l : List Bool) (i : Nat), l[i]? = some false → ((l.set i true).filter (!·)).length + 1 = (l.filter (!·)).length := by
      intro l
      induction l with
      | nil => intro i h; simp at h
      | cons x l ih =>
        intro i h
        cases i with
        | zero => simp at h; subst h; simp
        | succ i =>
          have := ih i (by simpa using h)
          cases x <;> simp_all
    have := key L.toList i hm
    simp only [Array.toList_setIfInBounds]
    omega

theorem AWp.draw {id : Nat} {ops : Array Oper} {tr : List Stp} {s0 sn : St} {Q : APost} (ht : Trace X k Q ops.toList ops.toList s0 tr sn) (hs : statOk ops.toList = true) (hd : dynGo (bms ops.toList) k.anc s0 tr tr 0 = true) (hQ : Q .normal sn) :
    AWp X.E k (.region id ops true) Q s0 := fun c ok hn ha Im ρ a w S => by
  refine wpIn_region_any X.E.mixed ?_
  have S' : Sim c Im ρ s0.F s0.H a { w with drawn := w.drawn + 1 } := S.world rfl rfl rfl rfl
  have hz : ∀ (n : Nat) (l : List Stp), apF ((List.replicate n false).zip l) s0.f = s0.f ∧ apH ((List.replicate n false).zip l) s0.h = s0.h := by
    intro n
    induction n with
    | zero => intro l; simp [apF, apH]
    | succ n ih => intro l; cases l with
      | nil => simp [apF, apH]
      | cons x l => simp only [List.replicate_succ, List.zip_cons_cons, apF, apH]; exact ih l
  have := Mid.run ok hn ha ht hs hd hQ ops.size (Array.replicate ops.size false) a { w with drawn := w.drawn + 1 } (by simp) ⟨by simp, fun j o hj => by
    simp [Array.toList_replicate, List.getElem?_replicate] at hj, Im, ρ, ?_⟩
  · simpa using this
  · simp only [Array.toList_replicate]
    rw [(hz ops.size tr).1, (hz ops.size tr).2]; exact S'

end Go.Ax

/- Abstract execution, part U: a drawing region by the one function. -/
namespace Go.Ax

variable {X : Ax} {k : Kn}

/-- What a call brings back that wasn't there. -/
def newK (hin : HL) : HL → List Nat
  | [] => []
  | (r, _) :: h => match lkH r hin with
    | some _ => newK hin h
    | none => r :: newK hin h
theorem newK_spec {hin : HL} : ∀ {ho : HL} {r : Nat} {o : AObj}, lkH r ho = some o → (∃ o', lkH r hin = some o') ∨ r ∈ newK hin ho
  | [], r, o, h => by simp [lkH] at h
  | (q, x) :: h, r, o, hr => by
    simp only [newK]
    by_cases e : q = r
    · subst e
      cases h1 : lkH q hin with
      | some o' => exact .inl ⟨o', rfl⟩
      | none => right; simp
    · have hb : Nat.beq q r = false := by
        cases hb : Nat.beq q r with
        | false => rfl
        | true => exact absurd (Nat.eq_of_beq_eq_true hb) e
      simp only [lkH, hb] at hr
      rcases newK_spec hr with h1 | h1
      · exact .inl h1
      · cases h2 : lkH q hin with
        | some _ => exact .inr h1
        | none => exact .inr (List.mem_cons_of_mem _ h1)

/-- A call in a drawing region: what it comes to is one thing. -/
structure CallD (E : Env) (f : FuncId) (args : List AV) (s : St) (K : AV → HL → HL → Prop) (PD : List PanicEntry → Prop) : Prop where
  ok : ∃ hin res ho, Ctr E f args hin (fun o => o = .ret res ho ∨ ∃ ch, o = .pan ch [] ∧ PD ch) ∧ (∀ r o, lkH r hin = some o → lkH r s.h = some o) ∧ K res hin ho

def wtOf (dst : Option Tmp) (x : AV) : Option (Nat × AV) := match dst with
  | some d => some (d, x)
  | none => none
def St.put (s : St) (st : Stp) : St := { f := st.putF s.f, h := st.wh ++ s.h }
def oneL {α : Type} : Option α → List α
  | some x => [x]
  | none => []
def rhL : Option (Nat × AObj) → List Nat
  | some (r, _) => [r]
  | none => []

/-- A step, its parts reckoned at once. -/
def stepV (dst : Option Tmp) (x : AV) (wh : HL) (ro nw : List Nat) (s : St) (K : Stp → St → Prop) : Prop := match s with
  | ⟨f, h⟩ => match dst with
    | some d => strictV x fun x => K ⟨some (d, x), wh, ro, nw⟩ ⟨(d, x) :: f, wh ++ h⟩
    | none => K ⟨none, wh, ro, nw⟩ ⟨f, wh ++ h⟩
theorem stepV_spec {dst : Option Tmp} {x : AV} {wh : HL} {ro nw : List Nat} {s : St} {K : Stp → St → Prop} (h : stepV dst x wh ro nw s K) : K ⟨wtOf dst x, wh, ro, nw⟩ (s.put ⟨wtOf dst x, wh, ro, nw⟩) := by
  unfold stepV at h
  cases dst with
  | none => exact h
  | some d => exact strictV_spec (K := fun x => K ⟨some (d, x), wh, ro, nw⟩ ⟨(d, x) :: s.f, wh ++ s.h⟩) h

def opD (E : Env) (tab : List (Nat × TI)) (k : Kn) (PD : List PanicEntry → Prop) (o : Oper) (s : St) (K : Stp → St → Prop) : Prop := match o.op with
  | .call { callee := .value f, args, argTypes := _ } => match calleeOf s f, args.toList.all (inN k.nt), inN k.nt f with
    | some (fid, fs, caps), true, true => strictL (argsV fs (evL s args.toList) caps) fun vs => CallD E fid vs s (fun res hin ho => strictH (ho ++ killed hin) fun wh => stepV o.dst res wh (keysH hin) (newK hin ho) s K) PD
    | _, _, _ => False
  | op => withDst o.dst fun d => match opIn k.nt op, opR tab s d op with
    | true, some ⟨val, rh, wh, new, cond⟩ => condP cond (strictH (oneL wh) fun wh => stepV o.dst val wh (rhL rh) (oneL new) s K)
    | _, _ => False

def skipD (s : St) (dst : Option Tmp) (K : Stp → St → Prop) : Prop := stepV dst (.tup []) [] [] [] s K

def runD (E : Env) (tab : List (Nat × TI)) (k : Kn) (PD : List PanicEntry → Prop) (ops : List Oper) (K : List Stp → St → Prop) : List Oper → (List Stp → List Stp) → St → Prop
  | [], acc, s => K (acc []) s
  | o :: rest, acc, s => match dstIn k.nt o.dst, guardV ops s o.guard with
    | true, some (b, want) => match want with
      | true => ifB b (opD E tab k PD o s fun st s => runD E tab k PD ops K rest (fun l => acc (st :: l)) s) (skipD s o.dst fun st s => runD E tab k PD ops K rest (fun l => acc (st :: l)) s)
      | false => ifB b (skipD s o.dst fun st s => runD E tab k PD ops K rest (fun l => acc (st :: l)) s) (opD E tab k PD o s fun st s => runD E tab k PD ops K rest (fun l => acc (st :: l)) s)
    | _, _ => False

theorem evL_congr {s s' : St} {xs : List Operand} (h : ∀ t, Operand.tmp t ∈ xs → lk t s'.f = lk t s.f) : evL s' xs = evL s xs := by
  unfold evL
  refine List.map_congr_left fun x hx => ?_
  cases x with
  | tmp t => exact h t hx
  | _ => rfl
theorem calleeOf_congr {s s' : St} {f : Operand} (h : ∀ t, f = .tmp t → lk t s'.f = lk t s.f) : calleeOf s' f = calleeOf s f := by
  cases f with
  | tmp t => simp only [calleeOf]; rw [h t rfl]
  | _ => rfl
theorem guardV_congr {ops : List Oper} {s s' : St} {g : Option (Nat × Bool)} (h : ∀ t ∈ guardT ops g, lk t s'.f = lk t s.f) : guardV ops s' g = guardV ops s g := by
  cases g with
  | none => rfl
  | some p =>
    obtain ⟨j, want⟩ := p
    simp only [guardV]
    cases hj : nth ops j with
    | none => rfl
    | some o =>
      cases hd : o.dst with
      | none => simp [hd]
      | some d =>
        have := h d (by simp [guardT, hj, hd])
        simp only [hd, this]

theorem wtOf_put {c : Cx} {Im : Nat → Prop} {ρ : Nat → Option Loc} {s : St} {H : Nat → Option AObj} {a : Act} {w : World} {dst : Option Tmp} {v : Value} {x : AV} {wh : HL} {ro nw : List Nat} (S : Sim c Im ρ s.F H a w) (hn : c.nt = k.nt) (hd : dstIn k.nt dst = true) (hv : RA (hp w) Im ρ v x) (hH : H = fun r => lkH r (wh ++ s.h)) :
    Sim c Im ρ (fun t => lk t ((⟨wtOf dst x, wh, ro, nw⟩ : Stp).putF s.f)) (fun r => lkH r (wh ++ s.h)) (a.put dst v) w := by
  subst hH
  cases dst with
  | none => exact S
  | some d =>
    have hd : d < c.nt := by rw [hn]; simpa [dstIn] using hd
    have := S.put hd hv
    rw [← lk_cons] at this
    exact this

theorem wtOf_dst {dst : Option Tmp} {x : AV} {t : Nat} {v : AV} (h : wtOf dst x = some (t, v)) : dst = some t := by
  cases dst with
  | none => simp [wtOf] at h
  | some d => simp only [wtOf] at h; injection h with h; injection h with h1 h2; rw [h1]

theorem stepOk_skip {Q : APost} {ops : List Oper} {o : Oper} {s : St} (hall : ops.all (fun o => dstIn k.nt o.dst) = true) (hd : dstIn k.nt o.dst = true) {b want : Bool} (hg : guardV ops s o.guard = some (b, want)) (hb : (b == want) = false) :
    StepOk X k Q ops o s ⟨wtOf o.dst (.tup []), [], [], []⟩ := by
  refine ⟨fun t v h => wtOf_dst h, fun c Im ρ s' a w K ok hn ha S hr _ _ hK => ?_⟩
  have hg' : guardV ops s' o.guard = some (b, want) := by rw [guardV_congr fun t ht => hr t (by simp [readsT, ht]), hg]
  rw [guard_ok S hn hall hg', hb]
  exact hK Im ρ _ w (wtOf_put S hn hd (.tup #[] [] rfl (by simp)) rfl)

theorem guard_yes {c : Cx} {Im : Nat → Prop} {ρ : Nat → Option Loc} {ops : List Oper} {o : Oper} {s s' : St} {a : Act} {w : World} (S : Sim c Im ρ s'.F s'.H a w) (hn : c.nt = k.nt) (hall : ops.all (fun o => dstIn k.nt o.dst) = true)
    {b want : Bool} (hg : guardV ops s o.guard = some (b, want)) (hb : (b == want) = true) (hr : ∀ t ∈ readsT ops o, lk t s'.f = lk t s.f) : Region.wanted o (yielded ops.toArray a.tmps) = true := by
  have hg' : guardV ops s' o.guard = some (b, want) := by rw [guardV_congr fun t ht => hr t (by simp [readsT, ht]), hg]
  rw [guard_ok S hn hall hg', hb]

theorem stepOk_op {Q : APost} {ops : List Oper} {o : Oper} {s : St} {e : Eff} (hall : ops.all (fun o => dstIn k.nt o.dst) = true) (hd : dstIn k.nt o.dst = true) {b want : Bool} (hg : guardV ops s o.guard = some (b, want)) (hb : (b == want) = true)
    (hin : opIn k.nt o.op = true) (hr : opR X.tab s (dstOf o.dst) o.op = some e) (hc : AllL e.cond) : StepOk X k Q ops o s ⟨wtOf o.dst e.val, oneL e.wh, rhL e.rh, oneL e.new⟩ := by
  refine ⟨fun t v h => wtOf_dst h, fun c Im ρ s' a w K ok hn ha S hrd hro hnw hK => ?_⟩
  rw [guard_yes S hn hall hg hb hrd]
  simp only [if_true]
  obtain ⟨hok, hrh⟩ := opR_ok (E := X.E) (k := k) (ty := o.type) X.ok hin hr
  obtain ⟨v, w', hrun, Im', ρ', S', hra⟩ := hok c Im ρ s'.F s'.H a w o ok hn ha S rfl rfl (fun t ht => (hrd t (by simp [readsT, ht])).symm) (fun r x hx => by
    show lkH r s'.h = some x
    rw [hro r (by simp [rhL, hx]), hrh r x hx]) (fun r hx => hnw r (by simp [oneL, hx])) hc
  have hH : updO s'.H e.wh = fun r => lkH r (oneL e.wh ++ s'.h) := by
    cases e.wh with
    | none => rfl
    | some p => obtain ⟨r, ob⟩ := p; exact (lkH_cons r ob s'.h).symm
  have S2 := wtOf_put (ro := rhL e.rh) (nw := oneL e.new) (s := s') S' hn hd hra hH
  have := hK Im' ρ' _ _ S2
  refine ⟨fun _ _ => trivial, ?_⟩
  rw [semAt_of (by
    intro cl hc; rw [hc] at hr; exact absurd hr (by simp [show ∀ tab s d, opR tab s d (.defer cl) = none from fun _ _ _ => rfl]))]
  rcases hrun with hrun | ⟨hrun, rfl⟩
  · rw [hrun]; exact this
  · rw [hrun]; exact this

theorem stepOk_call {Q : APost} {ops : List Oper} {o : Oper} {s : St} (hall : ops.all (fun o => dstIn k.nt o.dst) = true) (hd : dstIn k.nt o.dst = true) {b want : Bool} (hg : guardV ops s o.guard = some (b, want)) (hb : (b == want) = true)
    {f : Operand} {args : Array Operand} {ats : Array TypeId} (hop : o.op = .call { callee := .value f, args, argTypes := ats }) {fid : FuncId} {fs0 caps : List AV} (hcal : calleeOf s f = some (fid, fs0, caps)) (hargs : args.toList.all (inN k.nt) = true) (hf : inN k.nt f = true)
    {hin ho : HL} {res : AV} (hctr : Ctr X.E fid (argsV fs0 (evL s args.toList) caps) hin fun o => o = .ret res ho ∨ ∃ ch, o = .pan ch [] ∧ Q (.panic ch) { f := [], h := [] }) (hhin : ∀ r o, lkH r hin = some o → lkH r s.h = some o) :
    StepOk X k Q ops o s ⟨wtOf o.dst res, ho ++ killed hin, keysH hin, newK hin ho⟩ := by
  refine ⟨fun t v h => wtOf_dst h, fun c Im ρ s' a w K ok hn ha S hrd hro hnw hK => ?_⟩
  rw [guard_yes S hn hall hg hb hrd]
  simp only [if_true]
  refine ⟨fun _ _ => trivial, ?_⟩
  rw [semAt_of (by
    intro cl hc; rw [hc] at hop; exact absurd hop (by simp))]
  have hops : ∀ t, (.tmp t = f ∨ .tmp t ∈ args.toList) → t ∈ readsT ops o := fun t h => by
    refine List.mem_append.2 (.inl (List.mem_filterMap.2 ⟨.tmp t, ?_, rfl⟩))
    rw [hop]
    rcases h with h | h
    · simp [Op.operands, Call.operands, h]
    · have : Operand.tmp t ∈ args := by simpa using h
      simp [Op.operands, Call.operands, this]
  have hcal' : calleeOf s' f = some (fid, fs0, caps) := by rw [calleeOf_congr fun t ht => hrd t (hops t (.inl ht.symm)), hcal]
  have hev' : evL s' args.toList = evL s args.toList := evL_congr fun t ht => hrd t (hops t (.inr ht))
  have hhin' : ∀ r o, lkH r hin = some o → lkH r s'.h = some o := fun r o h => by
    rw [hro r (mem_keysH.2 (lkH_mem h))]; exact hhin r o h
  obtain ⟨fvs, cvs, hres, hfs, hcs, hfr, hcr⟩ := callee_ok S hn (ats := ats) (args := args) (ty := o.type) (P := X.E.P) hcal' hf
  have hrun : (execOp a.eval o).run X.E.P w = .ok (.enter fid (fvs ++ args.map a.eval ++ cvs)) w := by
    simp [execOp, hop, hres, invoke, run_callFunc hctr.1]
  rw [hrun]
  simp only [Oper.uponIn]
  refine ⟨fun h => by simp [Fence.wide] at h, callsIn_fence c ?_⟩
  have hcall := hctr.2 w Im ρ (fvs ++ args.map a.eval ++ cvs) (S.G ok) (fun b hb => (S.imn b hb).1) (fun b hb => S.im0 b (ok.gl b hb)) (by simp [argsV_eq, evL, hcs, hfs]) (by rw [argsV_eq, ← hev']; exact argsV_ok S hn hargs hfs hfr hcr) (S.hrel hhin')
  refine hcall.mono fun e w' he => ?_
  cases e with
  | returned v =>
    obtain ⟨res', ho', Im', ρ', hpost, hra, hcl, haft⟩ := he
    have hpost := hpost.elim (fun h => h) fun ⟨_, h, _⟩ => by simp at h
    injection hpost with h1 h2; subst h1; subst h2
    have S' := S.call hhin' haft (fun r o hr => (newK_spec hr).imp id fun h => hnw r h)
    have hH : (fun r => lkH r (s'.back hin ho')) = fun r => lkH r ((ho' ++ killed hin) ++ s'.h) := by funext r; simp [St.back]
    have S2 := wtOf_put (dst := o.dst) (v := v) (x := res') (ro := keysH hin) (nw := newK hin ho') (s := s') S' hn hd (hcl.back (ρ := ρ) (hin := hin) hra) hH
    exact hK _ _ _ _ S2
  | panicked ch =>
    obtain ⟨ho', Im', ρ', hpost, haft⟩ := he
    rcases hpost with hpost | ⟨ch', hpost, hq⟩
    · exact absurd hpost (by simp)
    · injection hpost with h1 h2; subst h1; subst h2
      have S' := S.call (ho := []) hhin' haft (fun r o (hr : lkH r [] = some o) => absurd hr (by simp [lkH]))
      exact ⟨by simp, _, _, { f := [], h := [] }, S'.weak (fun t => .inl rfl) (fun r o (h : lkH r [] = some o) => absurd h (by simp [lkH])), hq⟩
  | outgrown => exact he.elim

theorem opD_ok {Q : APost} {PD : List PanicEntry → Prop} (hPD : ∀ ch, PD ch → Q (.panic ch) { f := [], h := [] }) {ops : List Oper} {o : Oper} {s : St} {K : Stp → St → Prop} (hall : ops.all (fun o => dstIn k.nt o.dst) = true) (hd : dstIn k.nt o.dst = true) {b want : Bool} (hg : guardV ops s o.guard = some (b, want)) (hb : (b == want) = true)
    (h : opD X.E X.tab k PD o s K) : ∃ st, StepOk X k Q ops o s st ∧ K st (s.put st) := by
  unfold opD at h
  split at h
  · rename_i f args ats hop
    split at h
    · rename_i fid fs0 caps hcal hargs hf
      obtain ⟨hin, res, ho, hctr, hhin, hK⟩ := (strictL_spec h).ok
      exact ⟨_, stepOk_call hall hd hg hb hop hcal hargs hf (hctr.mono fun o h => h.imp id fun ⟨ch, h1, h2⟩ => ⟨ch, h1, hPD ch h2⟩) hhin, stepV_spec (strictH_spec hK)⟩
    · exact h.elim
  · have h := withDst_spec h
    split at h
    · rename_i val rh wh new cond hin hr
      obtain ⟨hc, hK⟩ := condP_spec h
      exact ⟨_, stepOk_op hall hd hg hb hin hr hc, stepV_spec (strictH_spec hK)⟩
    · exact h.elim

theorem runD_ok {Q : APost} {PD : List PanicEntry → Prop} (hPD : ∀ ch, PD ch → Q (.panic ch) { f := [], h := [] }) {ops : List Oper} {K : List Stp → St → Prop} (hall : ops.all (fun o => dstIn k.nt o.dst) = true) : ∀ (l : List Oper) {acc : List Stp → List Stp} {s : St}, runD X.E X.tab k PD ops K l acc s →
    ∃ tr s', Trace X k Q ops l s tr s' ∧ K (acc tr) s'
  | [], acc, s, h => ⟨[], s, .nil s, h⟩
  | o :: rest, acc, s, h => by
    unfold runD at h
    split at h
    · rename_i b want hd hg
      have hyes : (b == want) = true → (opD X.E X.tab k PD o s fun st s => runD X.E X.tab k PD ops K rest (fun l => acc (st :: l)) s) → ∃ tr s', Trace X k Q ops (o :: rest) s tr s' ∧ K (acc tr) s' := fun hb h => by
        obtain ⟨st, h1, h2⟩ := opD_ok (Q := Q) hPD hall hd hg hb h
        obtain ⟨tr, s', h3, h4⟩ := runD_ok (Q := Q) hPD hall rest h2
        exact ⟨st :: tr, s', .cons h1 h3, h4⟩
      have hno : (b == want) = false → (skipD s o.dst fun st s => runD X.E X.tab k PD ops K rest (fun l => acc (st :: l)) s) → ∃ tr s', Trace X k Q ops (o :: rest) s tr s' ∧ K (acc tr) s' := fun hb h => by
        obtain ⟨tr, s', h3, h4⟩ := runD_ok (Q := Q) hPD hall rest (stepV_spec h)
        exact ⟨_, s', .cons (stepOk_skip hall hd hg hb) h3, h4⟩
      cases want with
      | true =>
        cases b with
        | true => exact hyes rfl h
        | false => exact hno rfl h
      | false =>
        cases b with
        | true => exact hno rfl h
        | false => exact hyes rfl h
    · exact h.elim

def dynP (b : Bool) (p : Prop) : Prop := match b with
  | true => p
  | false => False
theorem dynP_spec {b : Bool} {p : Prop} (h : dynP b p) : b = true ∧ p := by
  cases b with
  | true => exact ⟨rfl, h⟩
  | false => exact h.elim

/-- A drawing region, met by one walk in the text's order. -/
theorem DrawP.intro {id : Nat} {ops : Array Oper} {Q : APost} {s : St} (bm : List Nat) (hbm : bms ops.toList = bm) (hs : (statOk ops.toList && ops.toList.all (fun o => dstIn k.nt o.dst)) = true)
    (h : runD X.E X.tab k (fun ch => Q (.panic ch) { f := [], h := [] }) ops.toList (fun tr s' => dynP (dynGo bm k.anc s tr tr 0) (Q .normal s')) ops.toList (fun l => l) s) : DrawP X.E k id ops Q s := by
  simp only [Bool.and_eq_true] at hs
  obtain ⟨tr, s', ht, hK⟩ := runD_ok (Q := Q) (fun _ h => h) hs.2 ops.toList h
  obtain ⟨hd, hq⟩ := dynP_spec hK
  exact ⟨AWp.draw ht hs.1 (by rw [hbm]; exact hd) hq⟩

/-- Nothing is this. -/
abbrev AV.bot : AV := .d (.sl false 1 [[]])
theorem not_bot {h : Nat → Option Obj} {Im : Nat → Prop} {ρ : Nat → Option Loc} {v : Value} (H : RA h Im ρ v .bot) : False := by
  cases H with
  | d _ _ hd =>
    cases hd with
    | sl _ _ _ b o cap f hs => have := hs [] (by simp); simp at this

/-- A drawing region in which a call panics: it is met as if it came back with what nothing is. -/
theorem DrawP.dies {id : Nat} {ops : Array Oper} {Q : APost} {s : St} (bm : List Nat) (hbm : bms ops.toList = bm) (hs : (statOk ops.toList && ops.toList.all (fun o => dstIn k.nt o.dst)) = true) (t : Nat) (ht : Nat.blt t k.nt = true)
    (h : runD X.E X.tab k (fun ch => Q (.panic ch) { f := [], h := [] }) ops.toList (fun tr s' => dynP (dynGo bm k.anc s tr tr 0) (lk t s'.f = .bot)) ops.toList (fun l => l) s) : DrawP X.E k id ops Q s := by
  let Q' : APost := fun e s => match e with
    | .normal => lk t s.f = .bot
    | e => Q e s
  have h1 : DrawP X.E k id ops Q' s := DrawP.intro bm hbm hs h
  refine ⟨fun c ok hn ha Im ρ a w S => wpIn_mono (h1.ok c ok hn ha Im ρ a w S) fun e a' w' ⟨hne, Im', ρ', s', S', hq⟩ => ⟨hne, Im', ρ', s', S', ?_⟩⟩
  cases e with
  | normal =>
    have hq : lk t s'.f = .bot := hq
    have := S'.fr t (by rw [hn]; simpa using ht)
    simp only [St.F] at this
    rw [hq] at this
    exact (not_bot this).elim
  | _ => exact hq

end Go.Ax
