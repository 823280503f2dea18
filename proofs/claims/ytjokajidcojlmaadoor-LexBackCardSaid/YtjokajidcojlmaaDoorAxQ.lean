/- Abstract execution, part Q: a region that draws its order: one walk in the text's order serves for all orders. -/
import Derived.Test.YtjokajidcojlmaaDoorAxP
namespace Go.Ax

/-- What one operation of a region did: the slot that it wrote, the objects; what it read; new objects. -/
structure Stp where
  wt : Option (Nat × AV)
  wh : HL
  ro : List Nat
  nw : List Nat

def keysH : HL → List Nat
  | [] => []
  | (r, _) :: h => r :: keysH h
theorem mem_keysH {r : Nat} : ∀ {h : HL}, r ∈ keysH h ↔ ∃ p ∈ h, p.1 = r
  | [] => by simp [keysH]
  | (q, o) :: h => by simp [keysH, mem_keysH (h := h), eq_comm]

/-- The state when those that are marked have run. -/
def apF : List (Bool × Stp) → List (Nat × AV) → List (Nat × AV)
  | [], f => f
  | (true, st) :: l, f => apF l (match st.wt with | some p => p :: f | none => f)
  | (false, _) :: l, f => apF l f
def apH : List (Bool × Stp) → HL → HL
  | [], h => h
  | (true, st) :: l, h => apH l (st.wh ++ h)
  | (false, _) :: l, h => apH l h

def Stp.putF (st : Stp) (f : List (Nat × AV)) : List (Nat × AV) := match st.wt with
  | some p => p :: f
  | none => f
theorem apF_append (a b : List (Bool × Stp)) (f : List (Nat × AV)) : apF (a ++ b) f = apF b (apF a f) := by
  induction a generalizing f with
  | nil => rfl
  | cons x a ih => obtain ⟨m, st⟩ := x; cases m <;> simp only [List.cons_append, apF, ih]
theorem apH_append (a b : List (Bool × Stp)) (f : HL) : apH (a ++ b) f = apH b (apH a f) := by
  induction a generalizing f with
  | nil => rfl
  | cons x a ih => obtain ⟨m, st⟩ := x; cases m <;> simp only [List.cons_append, apH, ih]

def Stp.writesT (st : Stp) (t : Nat) : Prop := ∃ v, st.wt = some (t, v)
def Stp.writesO (st : Stp) (r : Nat) : Prop := r ∈ keysH st.wh

theorem lk_putF {st : Stp} {f : List (Nat × AV)} {t : Nat} (h : ¬ st.writesT t) : lk t (st.putF f) = lk t f := by
  unfold Stp.putF
  cases hw : st.wt with
  | none => rfl
  | some p =>
    obtain ⟨d, v⟩ := p
    have hne : Nat.beq d t = false := by
      cases hb : Nat.beq d t with
      | false => rfl
      | true => exact absurd ⟨v, by rw [hw, Nat.eq_of_beq_eq_true hb]⟩ h
    simp [lk, hne]
theorem lk_putF2 {st : Stp} {f g : List (Nat × AV)} {t : Nat} (h : lk t f = lk t g) : lk t (st.putF f) = lk t (st.putF g) := by
  unfold Stp.putF
  cases hw : st.wt with
  | none => exact h
  | some p =>
    obtain ⟨d, v⟩ := p
    simp only [lk]
    cases Nat.beq d t with
    | true => rfl
    | false => exact h
theorem lkH_putH {st : Stp} {h : HL} {r : Nat} (hr : ¬ st.writesO r) : lkH r (st.wh ++ h) = lkH r h :=
  lkH_append r _ _ fun p hp he => hr (mem_keysH.2 ⟨p, hp, he⟩)
theorem lkH_putH2 {st : Stp} {f g : HL} {r : Nat} (h : lkH r f = lkH r g) : lkH r (st.wh ++ f) = lkH r (st.wh ++ g) := by
  by_cases hw : st.writesO r
  · have := mem_keysH.1 hw
    rw [lkH_left r _ _ this, lkH_left r _ _ this]
  · rw [lkH_putH hw, lkH_putH hw, h]

/-- All marked. -/
def full (l : List (Bool × Stp)) : List (Bool × Stp) := l.map fun x => (true, x.2)

theorem apF_full {t : Nat} : ∀ {l : List (Bool × Stp)} {f g : List (Nat × AV)}, (∀ x ∈ l, x.1 = false → ¬ x.2.writesT t) → lk t f = lk t g → lk t (apF l f) = lk t (apF (full l) g)
  | [], f, g, _, h => h
  | (true, st) :: l, f, g, hw, h => apF_full (l := l) (fun x hx => hw x (by simp [hx])) (lk_putF2 h)
  | (false, st) :: l, f, g, hw, h => apF_full (l := l) (fun x hx => hw x (by simp [hx])) (by
      have := lk_putF (f := g) (hw (false, st) (by simp) rfl)
      exact h.trans this.symm)
theorem apH_full {r : Nat} : ∀ {l : List (Bool × Stp)} {f g : HL}, (∀ x ∈ l, x.1 = false → ¬ x.2.writesO r) → lkH r f = lkH r g → lkH r (apH l f) = lkH r (apH (full l) g)
  | [], f, g, _, h => h
  | (true, st) :: l, f, g, hw, h => apH_full (l := l) (fun x hx => hw x (by simp [hx])) (lkH_putH2 h)
  | (false, st) :: l, f, g, hw, h => apH_full (l := l) (fun x hx => hw x (by simp [hx])) (h.trans (lkH_putH (h := g) (hw (false, st) (by simp) rfl)).symm)
/-- What runs later and doesn't write there. -/
theorem apF_later {t : Nat} : ∀ {l : List (Bool × Stp)} {f : List (Nat × AV)}, (∀ x ∈ l, x.1 = true → ¬ x.2.writesT t) → lk t (apF l f) = lk t f
  | [], f, _ => rfl
  | (true, st) :: l, f, hw => (apF_later (l := l) (fun x hx => hw x (by simp [hx]))).trans (lk_putF (hw (true, st) (by simp) rfl))
  | (false, st) :: l, f, hw => apF_later (l := l) (fun x hx => hw x (by simp [hx]))
theorem apH_later {r : Nat} : ∀ {l : List (Bool × Stp)} {f : HL}, (∀ x ∈ l, x.1 = true → ¬ x.2.writesO r) → lkH r (apH l f) = lkH r f
  | [], f, _ => rfl
  | (true, st) :: l, f, hw => (apH_later (l := l) (fun x hx => hw x (by simp [hx]))).trans (lkH_putH (hw (true, st) (by simp) rfl))
  | (false, st) :: l, f, hw => apH_later (l := l) (fun x hx => hw x (by simp [hx]))
/-- One more is marked. -/
theorem apF_mark {st : Stp} : ∀ {l : List (Bool × Stp)} {f : List (Nat × AV)}, (∀ x ∈ l, x.1 = true → ∀ t, st.writesT t → ¬ x.2.writesT t) → ∀ t, lk t (apF l (st.putF f)) = lk t (st.putF (apF l f)) := by
  intro l f hw t
  by_cases h : st.writesT t
  · rw [apF_later fun x hx he => hw x hx he t h]
    obtain ⟨v, hv⟩ := h
    simp [Stp.putF, hv, lk]
  · rw [lk_putF h]
    have gen : ∀ (l : List (Bool × Stp)) (f g : List (Nat × AV)), lk t f = lk t g → lk t (apF l f) = lk t (apF l g) := by
      intro l
      induction l with
      | nil => exact fun f g h => h
      | cons x l ih => obtain ⟨m, s⟩ := x; cases m with
        | true => exact fun f g h => ih _ _ (lk_putF2 h)
        | false => exact fun f g h => ih _ _ h
    exact gen l _ _ (lk_putF h)
theorem apH_mark {st : Stp} : ∀ {l : List (Bool × Stp)} {f : HL}, (∀ x ∈ l, x.1 = true → ∀ r, st.writesO r → ¬ x.2.writesO r) → ∀ r, lkH r (apH l (st.wh ++ f)) = lkH r (st.wh ++ apH l f) := by
  intro l f hw r
  by_cases h : st.writesO r
  · rw [apH_later fun x hx he => hw x hx he r h]
    have := mem_keysH.1 h
    rw [lkH_left r _ _ this, lkH_left r _ _ this]
  · rw [lkH_putH h]
    have gen : ∀ (l : List (Bool × Stp)) (f g : HL), lkH r f = lkH r g → lkH r (apH l f) = lkH r (apH l g) := by
      intro l
      induction l with
      | nil => exact fun f g h => h
      | cons x l ih => obtain ⟨m, s⟩ := x; cases m with
        | true => exact fun f g h => ih _ _ (lkH_putH2 h)
        | false => exact fun f g h => ih _ _ h
    exact gen l _ _ (lkH_putH h)

end Go.Ax
