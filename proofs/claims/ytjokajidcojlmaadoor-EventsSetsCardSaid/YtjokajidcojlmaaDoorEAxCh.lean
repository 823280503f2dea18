import Derived.Lib.ValidLaws
import Derived.Lib.RuneCount

/- Plain: a text's bytes in chunks, one for each code point that the model's decoder tells. -/
namespace Go.Ax
open Go.Lib

/-- A code point and its bytes. -/
abbrev Ch := Nat × List UInt8
def chunksN : Nat → List UInt8 → List Ch
  | 0, _ => []
  | _ + 1, [] => []
  | f + 1, b :: t => ((decodeL (b :: t)).1, (b :: t).take (decodeL (b :: t)).2) :: chunksN f ((b :: t).drop (decodeL (b :: t)).2)
def chunks (l : List UInt8) : List Ch := chunksN l.length l
def flat (cs : List Ch) : List UInt8 := cs.flatMap (·.2)

theorem chunksN_nil : ∀ f, chunksN f [] = []
  | 0 => rfl
  | _ + 1 => rfl
theorem chunksN_fuel : ∀ (f g : Nat) (l : List UInt8), l.length ≤ f → l.length ≤ g → chunksN f l = chunksN g l
  | 0, g, l, hf, _ => by
    have : l = [] := List.eq_nil_of_length_eq_zero (by omega)
    subst this; rw [chunksN_nil, chunksN_nil]
  | f + 1, 0, l, _, hg => by
    have : l = [] := List.eq_nil_of_length_eq_zero (by omega)
    subst this; rw [chunksN_nil, chunksN_nil]
  | f + 1, g + 1, [], _, _ => by rw [chunksN_nil, chunksN_nil]
  | f + 1, g + 1, b :: t, hf, hg => by
    have hw := decodeL_width (b :: t)
    simp only [chunksN]
    rw [chunksN_fuel f g _ (by simp only [List.length_drop]; omega) (by simp only [List.length_drop]; omega)]
theorem chunks_nil : chunks [] = [] := rfl
theorem chunks_step {l : List UInt8} (h : l ≠ []) : chunks l = ((decodeL l).1, l.take (decodeL l).2) :: chunks (l.drop (decodeL l).2) := by
  cases l with
  | nil => exact absurd rfl h
  | cons b t =>
    have hw := decodeL_width (b :: t)
    show chunksN (t.length + 1) (b :: t) = _
    simp only [chunksN]
    rw [chunksN_fuel t.length _ _ (by simp only [List.length_drop, List.length_cons]; omega) (Nat.le_refl _)]; rfl
theorem chunks_ne {l : List UInt8} (h : l ≠ []) : chunks l ≠ [] := by rw [chunks_step h]; simp
theorem chunks_eq_nil {l : List UInt8} : chunks l = [] ↔ l = [] := ⟨fun h => Classical.byContradiction fun hn => chunks_ne hn h, fun h => by rw [h]; rfl⟩
theorem flat_nil : flat [] = [] := rfl
theorem flat_cons (c : Ch) (cs : List Ch) : flat (c :: cs) = c.2 ++ flat cs := by simp [flat]
theorem flat_append (a b : List Ch) : flat (a ++ b) = flat a ++ flat b := by simp [flat]
theorem flat_chunks (l : List UInt8) : flat (chunks l) = l := by
  generalize hn : l.length = n
  induction n using Nat.strongRecOn generalizing l with
  | _ n ih =>
    by_cases h : l = []
    · subst h; rfl
    · have hw := decodeL_width l
      have hl : 0 < l.length := List.length_pos_iff.2 h
      rw [chunks_step h, flat_cons, ih _ (by rw [List.length_drop]; omega) _ rfl]
      exact List.take_append_drop _ _

/-- The list does not begin with a continuation byte. -/
def Edge (x : List UInt8) : Prop := (x.getD 0 0).toNat / 64 ≠ 2
theorem edge_nil : Edge [] := by show ¬ ((0 : UInt8).toNat / 64 = 2); decide
theorem edge_low {b : UInt8} {t : List UInt8} (h : b.toNat < 128) : Edge (b :: t) := by
  show ¬ (b.toNat / 64 = 2); omega

theorem getD_app (l x : List UInt8) (i : Nat) : (l ++ x).getD i 0 = if i < l.length then l.getD i 0 else x.getD (i - l.length) 0 := by
  split
  · rename_i h; simp [List.getD, List.getElem?_append_left h]
  · rename_i h; simp [List.getD, List.getElem?_append_right (by omega : l.length ≤ i)]
theorem getD_out (l : List UInt8) (i : Nat) (h : l.length ≤ i) : l.getD i 0 = 0 := by simp [List.getD, List.getElem?_eq_none h]

set_option maxRecDepth 100000 in
set_option maxHeartbeats 4000000 in
theorem decodeN_cut (n m b0 b1 b2 b3 c1 c2 c3 : Nat) (hn : 1 ≤ n) (h1 : 1 < n → c1 = b1) (h2 : 2 < n → c2 = b2) (h3 : 3 < n → c3 = b3) (hm : n ≤ m)
    (e : (n = 1 → b1 / 64 ≠ 2) ∧ (n = 2 → b2 / 64 ≠ 2) ∧ (n = 3 → b3 / 64 ≠ 2) ∨ n = m) : decodeN m b0 b1 b2 b3 = decodeN n b0 c1 c2 c3 := by
  rcases Nat.lt_or_ge n 4 with hlt | hge
  · rcases (by omega : n = 1 ∨ n = 2 ∨ n = 3) with rfl | rfl | rfl
    · rcases e with ⟨e, _, _⟩ | rfl
      · have e := e rfl
        unfold decodeN
        simp only [e, and_false, false_and, if_false, show ¬ (1 < 1) by omega]
      · unfold decodeN
        simp only [and_false, false_and, if_false, show ¬ (1 < 1) by omega]
    · have h1 := h1 (by omega); subst h1
      rcases e with ⟨_, e, _⟩ | rfl
      · have e := e rfl
        unfold decodeN
        simp only [e, and_false, false_and, if_false, show ¬ (2 < 2) by omega, show 1 < m by omega, show 1 < 2 by omega]
      · unfold decodeN
        simp only [and_false, false_and, if_false, show ¬ (2 < 2) by omega]
    · have h1 := h1 (by omega); subst h1
      have h2 := h2 (by omega); subst h2
      rcases e with ⟨_, _, e⟩ | rfl
      · have e := e rfl
        unfold decodeN
        simp only [e, and_false, false_and, if_false, show ¬ (3 < 3) by omega, show 1 < m by omega, show 1 < 3 by omega, show 2 < m by omega, show 2 < 3 by omega]
      · unfold decodeN
        simp only [and_false, false_and, if_false, show ¬ (3 < 3) by omega]
  · have h1 := h1 (by omega); subst h1
    have h2 := h2 (by omega); subst h2
    have h3 := h3 (by omega); subst h3
    unfold decodeN
    simp only [show 1 < m by omega, show 2 < m by omega, show 3 < m by omega, show 1 < n by omega, show 2 < n by omega, show 3 < n by omega]

/-- What stands behind a boundary plays no part in a code point ahead of it. -/
theorem decodeL_app {l x : List UInt8} (h : l ≠ []) (hx : Edge x) : decodeL (l ++ x) = decodeL l := by
  have hl : 0 < l.length := List.length_pos_iff.2 h
  rw [decodeL_N, decodeL_N]
  have g0 : (l ++ x).getD 0 0 = l.getD 0 0 := by rw [getD_app, if_pos hl]
  rw [g0]
  by_cases hxe : x = []
  · subst hxe; rw [List.append_nil]
  refine decodeN_cut _ _ _ _ _ _ _ _ _ hl (fun hh => by rw [getD_app, if_pos hh]) (fun hh => by rw [getD_app, if_pos hh]) (fun hh => by rw [getD_app, if_pos hh]) (by rw [List.length_append]; omega) (.inl ⟨fun e => ?_, fun e => ?_, fun e => ?_⟩)
  · rw [getD_app, if_neg (by omega), e]; exact hx
  · rw [getD_app, if_neg (by omega), e]; exact hx
  · rw [getD_app, if_neg (by omega), e]; exact hx

theorem chunks_app {l x : List UInt8} (hx : Edge x) : chunks (l ++ x) = chunks l ++ chunks x := by
  generalize hn : l.length = n
  induction n using Nat.strongRecOn generalizing l with
  | _ n ih =>
    by_cases h : l = []
    · subst h; rfl
    · have hw := decodeL_width l
      have hle := decodeL_le l h
      have hl : 0 < l.length := List.length_pos_iff.2 h
      rw [chunks_step (by simp [h] : l ++ x ≠ []), decodeL_app h hx, chunks_step h, List.take_append_of_le_length hle, List.drop_append_of_le_length hle, ih _ (by rw [List.length_drop]; omega) rfl]
      rfl

theorem chunks_low {b : UInt8} {t : List UInt8} (h : b.toNat < 128) : chunks (b :: t) = (b.toNat, [b]) :: chunks t := by
  rw [chunks_step (by simp), decodeL_ascii b t h]; rfl

set_option maxRecDepth 100000 in
set_option maxHeartbeats 4000000 in
theorem decodeN_short (n m b0 b1 b2 b3 c1 c2 c3 : Nat) (hn : 1 ≤ n) (h1 : 1 < n → c1 = b1) (h2 : 2 < n → c2 = b2) (h3 : 3 < n → c3 = b3) (hm : n ≤ m)
    (hw : (decodeN m b0 b1 b2 b3).2 ≤ n) : decodeN n b0 c1 c2 c3 = decodeN m b0 b1 b2 b3 := by
  rcases Nat.lt_or_ge n 4 with hlt | hge
  · rcases (by omega : n = 1 ∨ n = 2 ∨ n = 3) with rfl | rfl | rfl
    · unfold decodeN at hw ⊢
      repeat' split at hw
      all_goals simp only at hw
      all_goals repeat' split
      all_goals first | rfl | (exfalso; omega)
    · have h1 := h1 (by omega); subst h1
      unfold decodeN at hw ⊢
      repeat' split at hw
      all_goals simp only at hw
      all_goals repeat' split
      all_goals first | rfl | (exfalso; omega)
    · have h1 := h1 (by omega); subst h1
      have h2 := h2 (by omega); subst h2
      unfold decodeN at hw ⊢
      repeat' split at hw
      all_goals simp only at hw
      all_goals repeat' split
      all_goals first | rfl | (exfalso; omega)
  · have h1 := h1 (by omega); subst h1
    have h2 := h2 (by omega); subst h2
    have h3 := h3 (by omega); subst h3
    unfold decodeN
    simp only [show 1 < m by omega, show 2 < m by omega, show 3 < m by omega, show 1 < n by omega, show 2 < n by omega, show 3 < n by omega]

theorem decodeL_short {l x : List UInt8} (h : l ≠ []) (hw : (decodeL (l ++ x)).2 ≤ l.length) : decodeL l = decodeL (l ++ x) := by
  have hl : 0 < l.length := List.length_pos_iff.2 h
  rw [decodeL_N (l ++ x)] at hw ⊢
  rw [decodeL_N l]
  have g0 : (l ++ x).getD 0 0 = l.getD 0 0 := by rw [getD_app, if_pos hl]
  rw [g0] at hw ⊢
  exact decodeN_short _ _ _ _ _ _ _ _ _ hl (fun hh => by rw [getD_app, if_pos hh]) (fun hh => by rw [getD_app, if_pos hh]) (fun hh => by rw [getD_app, if_pos hh]) (by rw [List.length_append]; omega) hw

/-- Chunks that are a text's own. -/
def GoodC (cs : List Ch) : Prop := chunks (flat cs) = cs
theorem good_chunks (l : List UInt8) : GoodC (chunks l) := by rw [GoodC, flat_chunks]
theorem good_nil : GoodC [] := rfl
theorem GoodC.ne {c : Ch} {cs : List Ch} (h : GoodC (c :: cs)) : c.2 ≠ [] ∧ GoodC cs ∧ decodeL (c.2 ++ flat cs) = (c.1, c.2.length) := by
  unfold GoodC at h
  have hne : flat (c :: cs) ≠ [] := fun e => by rw [e, chunks_nil] at h; exact absurd h (by simp)
  have hw := decodeL_width (flat (c :: cs))
  have hle := decodeL_le _ hne
  rw [chunks_step hne] at h
  injection h with h1 h2
  have e2 : c.2 = (flat (c :: cs)).take (decodeL (flat (c :: cs))).2 := (congrArg Prod.snd h1).symm
  have hlen : c.2.length = (decodeL (flat (c :: cs))).2 := by rw [e2, List.length_take]; omega
  have h3 : (flat (c :: cs)).drop (decodeL (flat (c :: cs))).2 = flat cs := by
    rw [← hlen, flat_cons, List.drop_left]
  rw [h3] at h2
  refine ⟨fun e => by rw [e] at hlen; simp at hlen; omega, h2, ?_⟩
  rw [← flat_cons]
  have h5 : (decodeL (flat (c :: cs))).1 = c.1 := congrArg Prod.fst h1
  exact Prod.ext h5 hlen.symm
theorem GoodC.tail {c : Ch} {cs : List Ch} (h : GoodC (c :: cs)) : GoodC cs := h.ne.2.1
theorem GoodC.suf {a b : List Ch} (h : GoodC (a ++ b)) : GoodC b := by
  induction a with
  | nil => exact h
  | cons c a ih => exact ih h.tail
theorem GoodC.pre {a b : List Ch} (h : GoodC (a ++ b)) : GoodC a := by
  induction a with
  | nil => rfl
  | cons c a ih =>
    have h : GoodC (c :: (a ++ b)) := h
    obtain ⟨h1, h2, h3⟩ := h.ne
    have ih : chunks (flat a) = a := ih h2
    rw [flat_append, ← List.append_assoc] at h3
    have h4 := decodeL_short (l := c.2 ++ flat a) (x := flat b) (by simp [h1]) (by rw [h3]; simp)
    rw [h3] at h4
    show chunks (flat (c :: a)) = c :: a
    rw [flat_cons, chunks_step (by simp [h1]), h4]
    simp only [List.take_left, List.drop_left, ih]
/-- Chunks ahead of a boundary. -/
theorem GoodC.app {a b : List Ch} (ha : GoodC a) (hb : GoodC b) (he : Edge (flat b)) : GoodC (a ++ b) := by
  unfold GoodC at *
  rw [flat_append, chunks_app he, ha, hb]
theorem good_low {b : UInt8} {cs : List Ch} (h : b.toNat < 128) (hg : GoodC cs) : GoodC ((b.toNat, [b]) :: cs) := by
  unfold GoodC at *
  rw [flat_cons]
  show chunks (b :: flat cs) = _
  rw [chunks_low h, hg]

/-- A chunk that is no fault. -/
def okCh (c : Ch) : Bool := !(c.1 == 65533 && c.2.length == 1)
theorem valid_chunks (l : List UInt8) : validD l = (chunks l).all okCh := by
  generalize hn : l.length = n
  induction n using Nat.strongRecOn generalizing l with
  | _ n ih =>
    by_cases h : l = []
    · subst h; rfl
    · have hw := decodeL_width l
      have hle := decodeL_le l h
      have hl : 0 < l.length := List.length_pos_iff.2 h
      rw [validD_step l h, chunks_step h, List.all_cons, ih _ (by rw [List.length_drop]; omega) _ rfl, okCh]
      simp only [List.length_take, Nat.min_eq_left hle]
      by_cases hc : (decodeL l).1 = 65533 ∧ (decodeL l).2 = 1
      · rw [if_pos hc]; simp [hc.1, hc.2]
      · rw [if_neg hc]
        have : ((decodeL l).1 == 65533 && (decodeL l).2 == 1) = false := by
          cases h1 : (decodeL l).1 == 65533 <;> cases h2 : (decodeL l).2 == 1 <;> simp_all
        rw [this]; rfl
theorem valid_app {l x : List UInt8} (hx : Edge x) : validD (l ++ x) = (validD l && validD x) := by
  rw [valid_chunks, valid_chunks, valid_chunks, chunks_app hx, List.all_append]
end Go.Ax
