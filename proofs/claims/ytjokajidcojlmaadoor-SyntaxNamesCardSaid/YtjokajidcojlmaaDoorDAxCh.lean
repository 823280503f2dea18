import Derived.Lib.ValidLaws
import Derived.Lib.RuneCount
import Derived.Test.YtjokajidcojlmaaDoorDAxLx
import Derived.Lib.Join
import Derived.Lib.ItoaNum

/- Plain: a text's bytes in chunks, one for each code point that the model's decoder tells. -/
namespace Go.Ax
open Go.Lib

/-- A code point and its bytes. -/
abbrev Ch := Nat × List UInt8
def chunksN : Nat → List UInt8 → List Ch
  | 0, _ => []
  | _ + 1, [] => []
  | f + 1, b :: t => ((decodeL (b :: t)).1, (b :: t).take (decodeL (b :: t)).2) :: chunksN f ((b :: t).drop (decodeL (b :: t)).2)
def chunks (l : List UInt8) : List Ch := chunksN l.length l
def flat (cs : List Ch) : List UInt8 := cs.flatMap (·.2)

theorem chunksN_nil : ∀ f, chunksN f [] = []
  | 0 => rfl
  | _ + 1 => rfl
theorem chunksN_fuel : ∀ (f g : Nat) (l : List UInt8), l.length ≤ f → l.length ≤ g → chunksN f l = chunksN g l
  | 0, g, l, hf, _ => by
    have : l = [] := List.eq_nil_of_length_eq_zero (by omega)
    subst this; rw [chunksN_nil, chunksN_nil]
  | f + 1, 0, l, _, hg => by
    have : l = [] := List.eq_nil_of_length_eq_zero (by omega)
    subst this; rw [chunksN_nil, chunksN_nil]
  | f + 1, g + 1, [], _, _ => by rw [chunksN_nil, chunksN_nil]
  | f + 1, g + 1, b :: t, hf, hg => by
    have hw := decodeL_width (b :: t)
    simp only [chunksN]
    rw [chunksN_fuel f g _ (by simp only [List.length_drop]; omega) (by simp only [List.length_drop]; omega)]
theorem chunks_nil : chunks [] = [] := rfl
theorem chunks_step {l : List UInt8} (h : l ≠ []) : chunks l = ((decodeL l).1, l.take (decodeL l).2) :: chunks (l.drop (decodeL l).2) := by
  cases l with
  | nil => exact absurd rfl h
  | cons b t =>
    have hw := decodeL_width (b :: t)
    show chunksN (t.length + 1) (b :: t) = _
    simp only [chunksN]
    rw [chunksN_fuel t.length _ _ (by simp only [List.length_drop, List.length_cons]; omega) (Nat.le_refl _)]; rfl
theorem chunks_ne {l : List UInt8} (h : l ≠ []) : chunks l ≠ [] := by rw [chunks_step h]; simp
theorem chunks_eq_nil {l : List UInt8} : chunks l = [] ↔ l = [] := ⟨fun h => Classical.byContradiction fun hn => chunks_ne hn h, fun h => by rw [h]; rfl⟩
theorem flat_nil : flat [] = [] := rfl
theorem flat_cons (c : Ch) (cs : List Ch) : flat (c :: cs) = c.2 ++ flat cs := by simp [flat]
theorem flat_append (a b : List Ch) : flat (a ++ b) = flat a ++ flat b := by simp [flat]
theorem flat_chunks (l : List UInt8) : flat (chunks l) = l := by
  generalize hn : l.length = n
  induction n using Nat.strongRecOn generalizing l with
  | _ n ih =>
    by_cases h : l = []
    · subst h; rfl
    · have hw := decodeL_width l
      have hl : 0 < l.length := List.length_pos_iff.2 h
      rw [chunks_step h, flat_cons, ih _ (by rw [List.length_drop]; omega) _ rfl]
      exact List.take_append_drop _ _

/-- The list does not begin with a continuation byte. -/
def Edge (x : List UInt8) : Prop := (x.getD 0 0).toNat / 64 ≠ 2
theorem edge_nil : Edge [] := by show ¬ ((0 : UInt8).toNat / 64 = 2); decide
theorem edge_low {b : UInt8} {t : List UInt8} (h : b.toNat < 128) : Edge (b :: t) := by
  show ¬ (b.toNat / 64 = 2); omega

theorem getD_app (l x : List UInt8) (i : Nat) : (l ++ x).getD i 0 = if i < l.length then l.getD i 0 else x.getD (i - l.length) 0 := by
  split
  · rename_i h; simp [List.getD, List.getElem?_append_left h]
  · rename_i h; simp [List.getD, List.getElem?_append_right (by omega : l.length ≤ i)]
theorem getD_out (l : List UInt8) (i : Nat) (h : l.length ≤ i) : l.getD i 0 = 0 := by simp [List.getD, List.getElem?_eq_none h]

set_option maxRecDepth 100000 in
set_option maxHeartbeats 4000000 in
theorem decodeN_cut (n m b0 b1 b2 b3 c1 c2 c3 : Nat) (hn : 1 ≤ n) (h1 : 1 < n → c1 = b1) (h2 : 2 < n → c2 = b2) (h3 : 3 < n → c3 = b3) (hm : n ≤ m)
    (e : (n = 1 → b1 / 64 ≠ 2) ∧ (n = 2 → b2 / 64 ≠ 2) ∧ (n = 3 → b3 / 64 ≠ 2) ∨ n = m) : decodeN m b0 b1 b2 b3 = decodeN n b0 c1 c2 c3 := by
  rcases Nat.lt_or_ge n 4 with hlt | hge
  · rcases (by omega : n = 1 ∨ n = 2 ∨ n = 3) with rfl | rfl | rfl
    · rcases e with ⟨e, _, _⟩ | rfl
      · have e := e rfl
        unfold decodeN
        simp only [e, and_false, false_and, if_false, show ¬ (1 < 1) by omega]
      · unfold decodeN
        simp only [and_false, false_and, if_false, show ¬ (1 < 1) by omega]
    · have h1 := h1 (by omega); subst h1
      rcases e with ⟨_, e, _⟩ | rfl
      · have e := e rfl
        unfold decodeN
        simp only [e, and_false, false_and, if_false, show ¬ (2 < 2) by omega, show 1 < m by omega, show 1 < 2 by omega]
      · unfold decodeN
        simp only [and_false, false_and, if_false, show ¬ (2 < 2) by omega]
    · have h1 := h1 (by omega); subst h1
      have h2 := h2 (by omega); subst h2
      rcases e with ⟨_, _, e⟩ | rfl
      · have e := e rfl
        unfold decodeN
        simp only [e, and_false, false_and, if_false, show ¬ (3 < 3) by omega, show 1 < m by omega, show 1 < 3 by omega, show 2 < m by omega, show 2 < 3 by omega]
      · unfold decodeN
        simp only [and_false, false_and, if_false, show ¬ (3 < 3) by omega]
  · have h1 := h1 (by omega); subst h1
    have h2 := h2 (by omega); subst h2
    have h3 := h3 (by omega); subst h3
    unfold decodeN
    simp only [show 1 < m by omega, show 2 < m by omega, show 3 < m by omega, show 1 < n by omega, show 2 < n by omega, show 3 < n by omega]

/-- What stands behind a boundary plays no part in a code point ahead of it. -/
theorem decodeL_app {l x : List UInt8} (h : l ≠ []) (hx : Edge x) : decodeL (l ++ x) = decodeL l := by
  have hl : 0 < l.length := List.length_pos_iff.2 h
  rw [decodeL_N, decodeL_N]
  have g0 : (l ++ x).getD 0 0 = l.getD 0 0 := by rw [getD_app, if_pos hl]
  rw [g0]
  by_cases hxe : x = []
  · subst hxe; rw [List.append_nil]
  refine decodeN_cut _ _ _ _ _ _ _ _ _ hl (fun hh => by rw [getD_app, if_pos hh]) (fun hh => by rw [getD_app, if_pos hh]) (fun hh => by rw [getD_app, if_pos hh]) (by rw [List.length_append]; omega) (.inl ⟨fun e => ?_, fun e => ?_, fun e => ?_⟩)
  · rw [getD_app, if_neg (by omega), e]; exact hx
  · rw [getD_app, if_neg (by omega), e]; exact hx
  · rw [getD_app, if_neg (by omega), e]; exact hx

theorem chunks_app {l x : List UInt8} (hx : Edge x) : chunks (l ++ x) = chunks l ++ chunks x := by
  generalize hn : l.length = n
  induction n using Nat.strongRecOn generalizing l with
  | _ n ih =>
    by_cases h : l = []
    · subst h; rfl
    · have hw := decodeL_width l
      have hle := decodeL_le l h
      have hl : 0 < l.length := List.length_pos_iff.2 h
      rw [chunks_step (by simp [h] : l ++ x ≠ []), decodeL_app h hx, chunks_step h, List.take_append_of_le_length hle, List.drop_append_of_le_length hle, ih _ (by rw [List.length_drop]; omega) rfl]
      rfl

theorem chunks_low {b : UInt8} {t : List UInt8} (h : b.toNat < 128) : chunks (b :: t) = (b.toNat, [b]) :: chunks t := by
  rw [chunks_step (by simp), decodeL_ascii b t h]; rfl

set_option maxRecDepth 100000 in
set_option maxHeartbeats 4000000 in
theorem decodeN_short (n m b0 b1 b2 b3 c1 c2 c3 : Nat) (hn : 1 ≤ n) (h1 : 1 < n → c1 = b1) (h2 : 2 < n → c2 = b2) (h3 : 3 < n → c3 = b3) (hm : n ≤ m)
    (hw : (decodeN m b0 b1 b2 b3).2 ≤ n) : decodeN n b0 c1 c2 c3 = decodeN m b0 b1 b2 b3 := by
  rcases Nat.lt_or_ge n 4 with hlt | hge
  · rcases (by omega : n = 1 ∨ n = 2 ∨ n = 3) with rfl | rfl | rfl
    · unfold decodeN at hw ⊢
      repeat' split at hw
      all_goals simp only at hw
      all_goals repeat' split
      all_goals first | rfl | (exfalso; omega)
    · have h1 := h1 (by omega); subst h1
      unfold decodeN at hw ⊢
      repeat' split at hw
      all_goals simp only at hw
      all_goals repeat' split
      all_goals first | rfl | (exfalso; omega)
    · have h1 := h1 (by omega); subst h1
      have h2 := h2 (by omega); subst h2
      unfold decodeN at hw ⊢
      repeat' split at hw
      all_goals simp only at hw
      all_goals repeat' split
      all_goals first | rfl | (exfalso; omega)
  · have h1 := h1 (by omega); subst h1
    have h2 := h2 (by omega); subst h2
    have h3 := h3 (by omega); subst h3
    unfold decodeN
    simp only [show 1 < m by omega, show 2 < m by omega, show 3 < m by omega, show 1 < n by omega, show 2 < n by omega, show 3 < n by omega]

theorem decodeL_short {l x : List UInt8} (h : l ≠ []) (hw : (decodeL (l ++ x)).2 ≤ l.length) : decodeL l = decodeL (l ++ x) := by
  have hl : 0 < l.length := List.length_pos_iff.2 h
  rw [decodeL_N (l ++ x)] at hw ⊢
  rw [decodeL_N l]
  have g0 : (l ++ x).getD 0 0 = l.getD 0 0 := by rw [getD_app, if_pos hl]
  rw [g0] at hw ⊢
  exact decodeN_short _ _ _ _ _ _ _ _ _ hl (fun hh => by rw [getD_app, if_pos hh]) (fun hh => by rw [getD_app, if_pos hh]) (fun hh => by rw [getD_app, if_pos hh]) (by rw [List.length_append]; omega) hw

/-- Chunks that are a text's own. -/
def GoodC (cs : List Ch) : Prop := chunks (flat cs) = cs
theorem good_chunks (l : List UInt8) : GoodC (chunks l) := by rw [GoodC, flat_chunks]
theorem good_nil : GoodC [] := rfl
theorem GoodC.ne {c : Ch} {cs : List Ch} (h : GoodC (c :: cs)) : c.2 ≠ [] ∧ GoodC cs ∧ decodeL (c.2 ++ flat cs) = (c.1, c.2.length) := by
  unfold GoodC at h
  have hne : flat (c :: cs) ≠ [] := fun e => by rw [e, chunks_nil] at h; exact absurd h (by simp)
  have hw := decodeL_width (flat (c :: cs))
  have hle := decodeL_le _ hne
  rw [chunks_step hne] at h
  injection h with h1 h2
  have e2 : c.2 = (flat (c :: cs)).take (decodeL (flat (c :: cs))).2 := (congrArg Prod.snd h1).symm
  have hlen : c.2.length = (decodeL (flat (c :: cs))).2 := by rw [e2, List.length_take]; omega
  have h3 : (flat (c :: cs)).drop (decodeL (flat (c :: cs))).2 = flat cs := by
    rw [← hlen, flat_cons, List.drop_left]
  rw [h3] at h2
  refine ⟨fun e => by rw [e] at hlen; simp at hlen; omega, h2, ?_⟩
  rw [← flat_cons]
  have h5 : (decodeL (flat (c :: cs))).1 = c.1 := congrArg Prod.fst h1
  exact Prod.ext h5 hlen.symm
theorem GoodC.tail {c : Ch} {cs : List Ch} (h : GoodC (c :: cs)) : GoodC cs := h.ne.2.1
theorem GoodC.suf {a b : List Ch} (h : GoodC (a ++ b)) : GoodC b := by
  induction a with
  | nil => exact h
  | cons c a ih => exact ih h.tail
theorem GoodC.pre {a b : List Ch} (h : GoodC (a ++ b)) : GoodC a := by
  induction a with
  | nil => rfl
  | cons c a ih =>
    have h : GoodC (c :: (a ++ b)) := h
    obtain ⟨h1, h2, h3⟩ := h.ne
    have ih : chunks (flat a) = a := ih h2
    rw [flat_append, ← List.append_assoc] at h3
    have h4 := decodeL_short (l := c.2 ++ flat a) (x := flat b) (by simp [h1]) (by rw [h3]; simp)
    rw [h3] at h4
    show chunks (flat (c :: a)) = c :: a
    rw [flat_cons, chunks_step (by simp [h1]), h4]
    simp only [List.take_left, List.drop_left, ih]
/-- Chunks ahead of a boundary. -/
theorem GoodC.app {a b : List Ch} (ha : GoodC a) (hb : GoodC b) (he : Edge (flat b)) : GoodC (a ++ b) := by
  unfold GoodC at *
  rw [flat_append, chunks_app he, ha, hb]
theorem good_low {b : UInt8} {cs : List Ch} (h : b.toNat < 128) (hg : GoodC cs) : GoodC ((b.toNat, [b]) :: cs) := by
  unfold GoodC at *
  rw [flat_cons]
  show chunks (b :: flat cs) = _
  rw [chunks_low h, hg]

/-- A chunk that is no fault. -/
def okCh (c : Ch) : Bool := !(c.1 == 65533 && c.2.length == 1)
theorem valid_chunks (l : List UInt8) : validD l = (chunks l).all okCh := by
  generalize hn : l.length = n
  induction n using Nat.strongRecOn generalizing l with
  | _ n ih =>
    by_cases h : l = []
    · subst h; rfl
    · have hw := decodeL_width l
      have hle := decodeL_le l h
      have hl : 0 < l.length := List.length_pos_iff.2 h
      rw [validD_step l h, chunks_step h, List.all_cons, ih _ (by rw [List.length_drop]; omega) _ rfl, okCh]
      simp only [List.length_take, Nat.min_eq_left hle]
      by_cases hc : (decodeL l).1 = 65533 ∧ (decodeL l).2 = 1
      · rw [if_pos hc]; simp [hc.1, hc.2]
      · rw [if_neg hc]
        have : ((decodeL l).1 == 65533 && (decodeL l).2 == 1) = false := by
          cases h1 : (decodeL l).1 == 65533 <;> cases h2 : (decodeL l).2 == 1 <;> simp_all
        rw [this]; rfl
theorem valid_app {l x : List UInt8} (hx : Edge x) : validD (l ++ x) = (validD l && validD x) := by
  rw [valid_chunks, valid_chunks, valid_chunks, chunks_app hx, List.all_append]
end Go.Ax

/- Plain: the lexer's tokens, over chunks. -/
namespace Go.Ax
open Go.Lib
set_option maxRecDepth 10000

def wB (c : Ch) : Bool := withinF c.1
def dB (c : Ch) : Bool := isDigit c.1
def nB (c : Ch) : Bool := (c.1 : Int) != 10
def numC : List Ch → Int → Option Int
  | [], v => some v
  | c :: r, v => if 65535 < 10 * v + ((c.1 : Int) - 48) then none else numC r (10 * v + ((c.1 : Int) - 48))
def sign2 : List Ch → Bool
  | a :: b :: _ => (a.1 == 58 && b.1 == 61) || (a.1 == 61 && b.1 == 62)
  | _ => false
def headW : List Ch → Bool
  | [] => false
  | c :: _ => wB c
def baOf (cs : List Ch) : ByteArray := ⟨(flat cs).toArray⟩
inductive StepR where
  | err (e : Int)
  | tok (t : TokT) (r : List Ch)
def stepC (cs : List Ch) : StepR :=
  match cs with
  | [] => .err 10
  | c :: _ =>
    if classF c.1 = 2 then (if 20 < (cs.takeWhile wB).length then .err 2 else .tok ⟨1, baOf (cs.takeWhile wB), 0⟩ (cs.dropWhile wB))
    else if classF c.1 = 3 then (if headW (cs.dropWhile dB) then .err 10 else match numC (cs.takeWhile dB) 0 with
      | none => .err 2
      | some v => .tok ⟨2, ⟨#[]⟩, v⟩ (cs.dropWhile dB))
    else if classF c.1 = 5 then (if sign2 cs then .tok ⟨3, baOf (cs.take 2), 0⟩ (cs.drop 2) else .tok ⟨3, baOf (cs.take 1), 0⟩ (cs.drop 1))
    else .err 10
def tokC : Nat → List Ch → List TokT → Option (List TokT) × Int
  | 0, _, _ => (none, 0)
  | _ + 1, [], acc => (some (acc ++ [noTok]), 0)
  | f + 1, c :: r, acc => if classF c.1 = 0 then tokC f r acc else if classF c.1 = 1 then tokC f ((c :: r).dropWhile nB) acc else
    match stepC (c :: r) with
    | .err e => (none, e)
    | .tok t r' => tokC f r' (acc ++ [t])

/-! ### from the text to its chunks -/
theorem runeAt_drop (s : ByteArray) (pos : Nat) : runeAt s pos = (decodeL (s.data.toList.drop pos)).1 ∧ runeW s pos = (decodeL (s.data.toList.drop pos)).2 := by
  rw [decodeL_drop]; exact ⟨rfl, rfl⟩
theorem len_data (s : ByteArray) : s.data.toList.length = s.size := by rw [Array.length_toList]; rfl
theorem runF_chunks (p : Int → Bool) (s : ByteArray) : ∀ (f pos : Nat), s.size ≤ pos + f → pos ≤ s.size → runF p s f pos = pos + (flat ((chunks (s.data.toList.drop pos)).takeWhile fun c => p c.1)).length
  | 0, pos, h1, h2 => by
    have : s.data.toList.drop pos = [] := List.drop_eq_nil_of_le (by rw [len_data]; omega)
    rw [this]; simp only [runF, chunks_nil, List.takeWhile_nil, flat_nil, List.length_nil]; omega
  | f + 1, pos, h1, h2 => by
    simp only [runF]
    by_cases hlt : pos < s.size
    · rw [if_pos hlt]
      have hne : s.data.toList.drop pos ≠ [] := fun e => by
        have : (s.data.toList.drop pos).length = 0 := by rw [e]; rfl
        rw [List.length_drop, len_data] at this; omega
      have hw := decodeL_width (s.data.toList.drop pos)
      have hle := decodeL_le _ hne
      rw [List.length_drop, len_data] at hle
      obtain ⟨r1, r2⟩ := runeAt_drop s pos
      rw [r1, r2, chunks_step hne, List.takeWhile_cons]
      by_cases hp : p ((decodeL (s.data.toList.drop pos)).1 : Int) = true
      · rw [if_pos hp, if_pos hp, flat_cons, List.length_append, runF_chunks p s f _ (by omega) (by omega), List.drop_drop, List.length_take, List.length_drop, len_data]
        omega
      · rw [if_neg hp, if_neg hp]; rfl
    · rw [if_neg hlt]
      have : s.data.toList.drop pos = [] := List.drop_eq_nil_of_le (by rw [len_data]; omega)
      rw [this]; simp only [chunks_nil, List.takeWhile_nil, flat_nil, List.length_nil]; omega

theorem data_take (s : ByteArray) (n : Nat) : (s.extract 0 n).data.toList = s.data.toList.take n := by
  simp [ByteArray.data_extract]
theorem data_drop (s : ByteArray) (n : Nat) : (s.extract n s.size).data.toList = s.data.toList.drop n := by
  simp only [ByteArray.data_extract, Array.toList_extract]
  rw [List.extract_eq_take_drop]
  exact List.take_of_length_le (by rw [List.length_drop, len_data]; omega)
theorem ba_data (s : ByteArray) (l : List UInt8) (h : s.data.toList = l) : s = ⟨l.toArray⟩ := by
  subst h; obtain ⟨a⟩ := s; simp

/-- A split of a text at what is so. -/
theorem split_chunks (p : Ch → Bool) (l : List UInt8) : l.take (flat ((chunks l).takeWhile p)).length = flat ((chunks l).takeWhile p) ∧ l.drop (flat ((chunks l).takeWhile p)).length = flat ((chunks l).dropWhile p) ∧ GoodC ((chunks l).takeWhile p) ∧ GoodC ((chunks l).dropWhile p) := by
  have e : l = flat ((chunks l).takeWhile p) ++ flat ((chunks l).dropWhile p) := by
    rw [← flat_append, List.takeWhile_append_dropWhile, flat_chunks]
  have hg := good_chunks l
  rw [← List.takeWhile_append_dropWhile (p := p) (l := chunks l)] at hg
  refine ⟨?_, ?_, hg.pre, hg.suf⟩
  · conv => lhs; arg 2; rw [e]
    exact List.take_left
  · conv => lhs; arg 2; rw [e]
    exact List.drop_left

theorem runeCountFrom_chunks (s : ByteArray) : ∀ (f pos : Nat), s.size ≤ pos + f → runeCountFrom s f pos = (chunks (s.data.toList.drop pos)).length
  | 0, pos, h => by
    have : s.data.toList.drop pos = [] := List.drop_eq_nil_of_le (by rw [len_data]; omega)
    rw [this]; rfl
  | f + 1, pos, h => by
    unfold runeCountFrom
    by_cases hlt : pos < s.size
    · have hne : s.data.toList.drop pos ≠ [] := fun e => by
        have : (s.data.toList.drop pos).length = 0 := by rw [e]; rfl
        rw [List.length_drop, len_data] at this; omega
      have hw := decodeL_width (s.data.toList.drop pos)
      rw [if_pos hlt, ← decodeL_drop, runeCountFrom_chunks s f _ (by omega), chunks_step hne, List.length_cons, List.drop_drop]
      omega
    · have : s.data.toList.drop pos = [] := List.drop_eq_nil_of_le (by rw [len_data]; omega)
      rw [if_neg hlt, this]; rfl
theorem runeCount_chunks (s : ByteArray) : runeCount s = (chunks s.data.toList).length := by
  have := runeCountFrom_chunks s s.size 0 (by omega)
  rw [List.drop_zero] at this
  exact this

theorem decodeL_high {b : UInt8} {t : List UInt8} (h : 128 ≤ b.toNat) : 128 ≤ (decodeL (b :: t)).1 := by
  have := (decode_high ⟨(b :: t).toArray⟩ 0 (by simp [ByteArray.size]) (by show 128 ≤ b.toNat; exact h)).1
  exact this
/-- A code point below 128 is its byte. -/
theorem GoodC.low {c : Ch} {cs : List Ch} (h : GoodC (c :: cs)) (hc : c.1 < 128) : ∃ b : UInt8, c.2 = [b] ∧ b.toNat = c.1 := by
  obtain ⟨h1, _, h3⟩ := h.ne
  obtain ⟨n, l⟩ := c
  cases l with
  | nil => exact absurd rfl h1
  | cons b t =>
    have h3 : decodeL (b :: (t ++ flat cs)) = (n, (b :: t).length) := h3
    by_cases hb : b.toNat < 128
    · rw [decodeL_ascii b _ hb] at h3
      injection h3 with e1 e2
      have : t = [] := by cases t with
        | nil => rfl
        | cons x t => simp at e2
      subst this
      exact ⟨b, rfl, e1⟩
    · have := decodeL_high (b := b) (t := t ++ flat cs) (by omega)
      rw [h3] at this
      have hc : n < 128 := hc
      have : 128 ≤ n := this
      omega
theorem GoodC.byte {c : Ch} {cs : List Ch} (h : GoodC (c :: cs)) {b : UInt8} {t : List UInt8} (hb : flat (c :: cs) = b :: t) (hl : b.toNat < 128) : c.1 = b.toNat := by
  unfold GoodC at h
  rw [hb, chunks_low hl] at h
  injection h with h1 _
  rw [← h1]

theorem classF_low {c : Int} (h : classF c = 5 ∨ classF c = 3 ∨ classF c = 0 ∨ classF c = 1) : 0 ≤ c ∧ c < 128 := by
  unfold classF at h
  repeat' split at h
  all_goals omega

theorem numGo_chunks (d : ByteArray) : ∀ (cs : List Ch) (pos : Nat) (v : Int), (∀ c ∈ cs, ∃ b : UInt8, c.2 = [b] ∧ b.toNat = c.1) → d.data.toList.drop pos = flat cs → numGo d cs.length pos v = numC cs v
  | [], pos, v, _, _ => rfl
  | c :: cs, pos, v, h, hd => by
    obtain ⟨b, h1, h2⟩ := h c (by simp)
    rw [flat_cons, h1] at hd
    have hlt : pos < d.data.toList.length := by
      rcases Nat.lt_or_ge pos d.data.toList.length with hh | hh
      · exact hh
      · rw [List.drop_eq_nil_of_le hh] at hd; simp at hd
    rw [List.drop_eq_getElem_cons hlt] at hd
    injection hd with e1 e2
    have hlt' : pos < d.size := by rw [← len_data]; exact hlt
    have hb : byteAt d pos = (c.1 : Int) := by
      simp only [byteAt, Int.toNat_natCast]
      rw [dif_pos hlt']
      have : d[pos]'hlt' = b := by rw [← e1]; rfl
      rw [this, h2]
    simp only [List.length_cons, numGo, numC, hb]
    rw [numGo_chunks d cs (pos + 1) _ (fun c hc => h c (by simp [hc])) e2]

theorem flat_one {cs : List Ch} (h : ∀ c ∈ cs, ∃ b : UInt8, c.2 = [b] ∧ b.toNat = c.1) : (flat cs).length = cs.length := by
  induction cs with
  | nil => rfl
  | cons c cs ih =>
    obtain ⟨b, h1, _⟩ := h c (by simp)
    rw [flat_cons, List.length_append, ih fun c hc => h c (by simp [hc]), h1, List.length_cons]; simp; omega
theorem GoodC.lows {cs : List Ch} (h : GoodC cs) (hc : ∀ c ∈ cs, c.1 < 128) : ∀ c ∈ cs, ∃ b : UInt8, c.2 = [b] ∧ b.toNat = c.1 := by
  induction cs with
  | nil => exact fun c hc => by simp at hc
  | cons d cs ih =>
    intro c hm
    rcases List.mem_cons.1 hm with rfl | hm
    · exact h.low (hc _ (by simp))
    · exact ih h.tail (fun c hc' => hc c (by simp [hc'])) c hm

theorem takeWhile_all {α : Type} (p : α → Bool) (l : List α) : ∀ c ∈ l.takeWhile p, p c = true := by
  induction l with
  | nil => exact fun c h => by simp at h
  | cons x l ih =>
    intro c h
    rw [List.takeWhile_cons] at h
    split at h
    · rename_i hx
      rcases List.mem_cons.1 h with rfl | h
      · exact hx
      · exact ih c h
    · simp at h

theorem hasPrefix2 (x y : UInt8) (l : List UInt8) : Lib.hasPrefix l [x, y] = (match l with
    | a :: b :: _ => x == a && y == b
    | _ => false) := by
  unfold Lib.hasPrefix
  match l with
  | [] => rfl
  | [a] => simp [List.isPrefixOf]
  | a :: b :: t => simp [List.isPrefixOf]

theorem beq_u8 (a b : UInt8) : (a == b) = (a.toNat == b.toNat) := by
  rw [Bool.eq_iff_iff, beq_iff_eq, beq_iff_eq]; exact ⟨fun h => by rw [h], fun h => UInt8.toNat_inj.1 h⟩

theorem sign2_bytes {c : Ch} {r : List Ch} (h : GoodC (c :: r)) (hc : c.1 < 128) : sign2 (c :: r) = (Lib.hasPrefix (flat (c :: r)) [58, 61] || Lib.hasPrefix (flat (c :: r)) [61, 62]) := by
  obtain ⟨b, h1, h2⟩ := h.low hc
  rw [hasPrefix2, hasPrefix2, flat_cons, h1]
  cases r with
  | nil => rfl
  | cons d r =>
    obtain ⟨g1, g2, g3⟩ := h.tail.ne
    obtain ⟨n, dl⟩ := d
    cases dl with
    | nil => exact absurd rfl g1
    | cons x t =>
      rw [flat_cons]
      simp only [List.cons_append, List.nil_append, sign2]
      have e1 : (c.1 == 58) = ((58 : UInt8) == b) := by rw [← h2, beq_u8, Bool.beq_comm]; rfl
      have e2 : (c.1 == 61) = ((61 : UInt8) == b) := by rw [← h2, beq_u8, Bool.beq_comm]; rfl
      have key : ∀ k : UInt8, k.toNat < 128 → (n == k.toNat) = (k == x) := fun k hk => by
        rw [beq_u8]
        by_cases hx : x.toNat < 128
        · have := h.tail.byte (b := x) (t := t ++ flat r) (by rw [flat_cons]; rfl) hx
          have : n = x.toNat := this
          rw [this, Bool.beq_comm]
        · have := decodeL_high (b := x) (t := t ++ flat r) (by omega)
          have g3 : decodeL (x :: (t ++ flat r)) = (n, _) := g3
          rw [g3] at this
          have : 128 ≤ n := this
          rw [Bool.eq_iff_iff, beq_iff_eq, beq_iff_eq]; omega
      have e3 := key 61 (by decide)
      have e4 := key 62 (by decide)
      rw [e1, e2]
      have e3 : (n == 61) = ((61 : UInt8) == x) := e3
      have e4 : (n == 62) = ((62 : UInt8) == x) := e4
      rw [e3, e4]

theorem GoodC.take_flat {A B : List Ch} : (flat (A ++ B)).take (flat A).length = flat A ∧ (flat (A ++ B)).drop (flat A).length = flat B := by
  rw [flat_append]; exact ⟨List.take_left, List.drop_left⟩

theorem sign2_low {c d : Ch} {r : List Ch} (h : sign2 (c :: d :: r) = true) : d.1 < 128 := by
  simp only [sign2, Bool.or_eq_true, Bool.and_eq_true, beq_iff_eq] at h; omega
theorem sign2_two {c : Ch} {r : List Ch} (h : sign2 (c :: r) = true) : ∃ d r', r = d :: r' := by
  cases r with
  | nil => simp [sign2] at h
  | cons d r => exact ⟨_, _, rfl⟩

/-- What stepF says of a text, stepC says of its chunks. -/
theorem step_eq (s : ByteArray) (c : Ch) (r : List Ch) (hcs : chunks s.data.toList = c :: r) :
    match stepC (c :: r) with
    | .err e => (stepF s).e = e ∧ e ≠ 0
    | .tok t r' => (stepF s).e = 0 ∧ (stepF s).t = t ∧ chunks (s.extract (stepF s).n.toNat s.size).data.toList = r' := by
  have hg : GoodC (c :: r) := by rw [← hcs]; exact good_chunks _
  have hfl : flat (c :: r) = s.data.toList := by rw [← hcs, flat_chunks]
  have hne : s.data.toList ≠ [] := fun e => by rw [e, chunks_nil] at hcs; simp at hcs
  have hsz : 0 < s.size := by rw [← len_data]; exact List.length_pos_iff.2 hne
  have hd1 : (Lib.decodeGo s).1 = c.1 := by
    rw [(decodeGo_rune hsz).1, (runeAt_drop s 0).1, List.drop_zero]
    rw [chunks_step hne] at hcs
    injection hcs with h1 _
    rw [← h1]
  unfold stepF stepC
  simp only [hd1]
  by_cases h2 : classF c.1 = 2
  · rw [if_pos h2, if_pos h2]
    obtain ⟨k1, k2, k3, k4⟩ := split_chunks wB s.data.toList
    rw [hcs] at k1 k2 k3 k4
    have hn : runF withinF s s.size 0 = (flat ((c :: r).takeWhile wB)).length := by
      rw [runF_chunks withinF s s.size 0 (by omega) (by omega), List.drop_zero, hcs, Nat.zero_add]; rfl
    have hrc : runeCount (s.extract 0 (flat ((c :: r).takeWhile wB)).length) = ((c :: r).takeWhile wB).length := by
      rw [runeCount_chunks, data_take, k1, k3]
    unfold wordF
    rw [hn, hrc]
    by_cases h20 : 20 < ((c :: r).takeWhile wB).length
    · rw [if_pos h20, if_pos h20]; exact ⟨rfl, by decide⟩
    · rw [if_neg h20, if_neg h20]
      refine ⟨rfl, ?_, ?_⟩
      · show TokT.mk 1 (s.extract 0 _) 0 = TokT.mk 1 (baOf _) 0
        rw [ba_data (s.extract 0 (flat ((c :: r).takeWhile wB)).length) (flat ((c :: r).takeWhile wB)) (by rw [data_take, k1])]; rfl
      · show chunks (s.extract ((flat ((c :: r).takeWhile wB)).length : Int).toNat s.size).data.toList = _
        rw [Int.toNat_natCast, data_drop, k2, k4]
  · rw [if_neg h2, if_neg h2]
    by_cases h3 : classF c.1 = 3
    · rw [if_pos h3, if_pos h3]
      obtain ⟨k1, k2, k3, k4⟩ := split_chunks dB s.data.toList
      rw [hcs] at k1 k2 k3 k4
      have hn : runF isDigit s s.size 0 = (flat ((c :: r).takeWhile dB)).length := by
        rw [runF_chunks isDigit s s.size 0 (by omega) (by omega), List.drop_zero, hcs, Nat.zero_add]; rfl
      have hlow : ∀ c' ∈ (c :: r).takeWhile dB, c'.1 < 128 := fun c' hc' => by
        have := isDigit_iff (takeWhile_all dB _ c' hc'); omega
      have hlows := k3.lows hlow
      have hlen := flat_one hlows
      have hsplit : (flat ((c :: r).takeWhile dB)).length + (flat ((c :: r).dropWhile dB)).length = s.size := by
        rw [← List.length_append, ← flat_append, List.takeWhile_append_dropWhile, hfl, len_data]
      have hcond : ((flat ((c :: r).takeWhile dB)).length < s.size ∧ withinF (Lib.decodeGo (s.extract (flat ((c :: r).takeWhile dB)).length s.size)).1 = true) ↔ headW ((c :: r).dropWhile dB) = true := by
        cases hdw : (c :: r).dropWhile dB with
        | nil =>
          rw [hdw] at hsplit
          simp only [flat_nil, List.length_nil] at hsplit
          simp only [headW, Bool.false_eq_true, iff_false]
          exact fun h => by omega
        | cons d r' =>
          rw [hdw] at k2 k4 hsplit
          have hdz : 0 < (s.extract (flat ((c :: r).takeWhile dB)).length s.size).size := by
            rw [← len_data, data_drop, k2]
            exact List.length_pos_iff.2 (fun e => by unfold GoodC at k4; rw [e, chunks_nil] at k4; simp at k4)
          have e1 : (Lib.decodeGo (s.extract (flat ((c :: r).takeWhile dB)).length s.size)).1 = d.1 := by
            rw [(decodeGo_rune hdz).1, (runeAt_drop _ 0).1, List.drop_zero, data_drop, k2]
            have hne2 : flat (d :: r') ≠ [] := fun e => by unfold GoodC at k4; rw [e, chunks_nil] at k4; simp at k4
            unfold GoodC at k4
            rw [chunks_step hne2] at k4
            injection k4 with h1 _
            exact congrArg Prod.fst h1
          rw [e1]
          simp only [headW, wB]
          refine ⟨fun h => h.2, fun h => ⟨?_, h⟩⟩
          have : 0 < (flat (d :: r')).length := List.length_pos_iff.2 (fun e => by unfold GoodC at k4; rw [e, chunks_nil] at k4; simp at k4)
          omega
      unfold numberF
      rw [hn]
      by_cases hw : headW ((c :: r).dropWhile dB) = true
      · rw [if_pos hw, if_pos (hcond.2 hw)]; exact ⟨rfl, by decide⟩
      · rw [if_neg hw, if_neg (fun h => hw (hcond.1 h))]
        have hnum : numGo (s.extract 0 (flat ((c :: r).takeWhile dB)).length) (flat ((c :: r).takeWhile dB)).length 0 0 = numC ((c :: r).takeWhile dB) 0 := by
          conv => lhs; arg 2; rw [hlen]
          exact numGo_chunks _ _ 0 0 hlows (by rw [List.drop_zero, data_take, k1])
        rw [hnum]
        cases numC ((c :: r).takeWhile dB) 0 with
        | none => exact ⟨rfl, by decide⟩
        | some v =>
          refine ⟨rfl, rfl, ?_⟩
          show chunks (s.extract ((flat ((c :: r).takeWhile dB)).length : Int).toNat s.size).data.toList = _
          rw [Int.toNat_natCast, data_drop, k2, k4]
    · rw [if_neg h3, if_neg h3]
      by_cases h5 : classF c.1 = 5
      · rw [if_pos h5, if_pos h5]
        have hlow : c.1 < 128 := by have := classF_low (.inl h5); omega
        obtain ⟨b, hb1, hb2⟩ := hg.low hlow
        have hs2 := sign2_bytes hg hlow
        rw [hfl] at hs2
        unfold markF markN
        rw [← hs2]
        have fin : ∀ A B : List Ch, c :: r = A ++ B → ((flat A).length : Int) = (if sign2 (c :: r) = true then 2 else 1) → TokT.mk 3 (s.extract 0 (if sign2 (c :: r) = true then (2 : Int) else 1).toNat) 0 = ⟨3, baOf A, 0⟩ ∧ chunks (s.extract (if sign2 (c :: r) = true then (2 : Int) else 1).toNat s.size).data.toList = B := by
          intro A B hAB hl
          rw [← hl, Int.toNat_natCast]
          have e1 := GoodC.take_flat (A := A) (B := B)
          rw [← hAB, hfl] at e1
          refine ⟨?_, ?_⟩
          · rw [ba_data (s.extract 0 (flat A).length) (flat A) (by rw [data_take, e1.1])]; rfl
          · rw [data_drop, e1.2]
            rw [hAB] at hg
            exact hg.suf
        by_cases hs : sign2 (c :: r) = true
        · obtain ⟨d, r', hr⟩ := sign2_two hs
          subst hr
          obtain ⟨b2, hb3, _⟩ := hg.tail.low (sign2_low hs)
          have := fin [c, d] r' rfl (by rw [if_pos hs, flat_cons, flat_cons, hb1, hb3]; rfl)
          rw [if_pos hs]
          rw [if_pos hs] at this ⊢
          exact ⟨rfl, this⟩
        · have := fin [c] r rfl (by rw [if_neg hs, flat_cons, hb1]; rfl)
          rw [if_neg hs]
          rw [if_neg hs] at this ⊢
          exact ⟨rfl, this⟩
      · rw [if_neg h5, if_neg h5]; exact ⟨rfl, by decide⟩

theorem ba_size0 {s : ByteArray} (h : s.size = 0) : s.data.toList = [] := List.eq_nil_of_length_eq_zero (by rw [len_data, h])

theorem tok_eq : ∀ (f : Nat) (s : ByteArray) (acc : List TokT), tokGo f s acc = tokC f (chunks s.data.toList) acc
  | 0, s, acc => by simp only [tokGo, tokC]
  | f + 1, s, acc => by
    by_cases hz : s.size = 0
    · rw [tokGo, if_pos hz, ba_size0 hz, chunks_nil]; rfl
    · have hsz : 0 < s.size := by omega
      have hne : s.data.toList ≠ [] := fun e => by have := len_data s; rw [e] at this; simp at this; omega
      cases hcs : chunks s.data.toList with
      | nil => exact absurd hcs (chunks_ne hne)
      | cons c r =>
        have hst := chunks_step hne
        rw [hcs] at hst
        injection hst with hc hr
        have hd1 : (Lib.decodeGo s).1 = c.1 := by
          rw [(decodeGo_rune hsz).1, (runeAt_drop s 0).1, List.drop_zero, hc]
        have hd2 : (Lib.decodeGo s).2 = (decodeL s.data.toList).2 := by
          rw [(decodeGo_rune hsz).2, (runeAt_drop s 0).2, List.drop_zero]
        rw [tokGo, if_neg hz, tokC, hd1]
        by_cases h0 : classF c.1 = 0
        · rw [if_pos h0, if_pos h0, tok_eq f, hd2, data_drop, hr]
        · rw [if_neg h0, if_neg h0]
          by_cases h1 : classF c.1 = 1
          · rw [if_pos h1, if_pos h1, tok_eq f]
            obtain ⟨k1, k2, k3, k4⟩ := split_chunks nB s.data.toList
            rw [hcs] at k1 k2 k3 k4
            have hn : runF (· != 10) s s.size 0 = (flat ((c :: r).takeWhile nB)).length := by
              rw [runF_chunks _ s s.size 0 (by omega) (by omega), List.drop_zero, hcs, Nat.zero_add]; rfl
            rw [hn, data_drop, k2, k4]
          · rw [if_neg h1, if_neg h1]
            have hs := step_eq s c r hcs
            cases hst : stepC (c :: r) with
            | err e =>
              rw [hst] at hs
              obtain ⟨e1, e2⟩ := hs
              rw [if_pos (by rw [e1]; exact e2), e1]
            | tok t r' =>
              rw [hst] at hs
              obtain ⟨e1, e2, e3⟩ := hs
              rw [if_neg (by rw [e1]; simp), tok_eq f, e2, e3]
end Go.Ax

/- Plain: tokens of a text of two lines. -/
namespace Go.Ax
open Go.Lib
set_option maxRecDepth 10000

theorem takeWhile_stop {α : Type} {p : α → Bool} {x : α} (hx : p x = false) (A X : List α) : (A ++ x :: X).takeWhile p = A.takeWhile p ∧ (A ++ x :: X).dropWhile p = A.dropWhile p ++ x :: X := by
  induction A with
  | nil => simp [hx]
  | cons a A ih =>
    rw [List.cons_append, List.takeWhile_cons, List.dropWhile_cons, List.takeWhile_cons, List.dropWhile_cons, ih.1, ih.2]
    cases p a <;> exact ⟨rfl, rfl⟩
theorem dropWhile_nil {α : Type} {p : α → Bool} : ∀ {l : List α}, (∀ c ∈ l, p c = true) → l.dropWhile p = []
  | [], _ => rfl
  | a :: l, h => by rw [List.dropWhile_cons, if_pos (h a (by simp)), dropWhile_nil fun c hc => h c (by simp [hc])]
theorem dropWhile_len {α : Type} (p : α → Bool) (l : List α) : (l.dropWhile p).length ≤ l.length := (List.dropWhile_suffix p).length_le
theorem dropWhile_lt {α : Type} {p : α → Bool} {x : α} (hx : p x = true) (l : List α) : ((x :: l).dropWhile p).length < (x :: l).length := by
  rw [List.dropWhile_cons, if_pos hx, List.length_cons]
  have := dropWhile_len p l
  omega

theorem stepC_len {c : Ch} {r r' : List Ch} {t : TokT} (h : stepC (c :: r) = .tok t r') : r'.length < (c :: r).length := by
  unfold stepC at h
  simp only at h
  split at h
  · rename_i h2
    split at h
    · exact absurd h (by simp)
    · injection h with _ h; subst h
      exact dropWhile_lt (by simp [wB, withinF, h2]) r
  · split at h
    · rename_i h3
      split at h
      · exact absurd h (by simp)
      · split at h
        · exact absurd h (by simp)
        · injection h with _ h; subst h
          exact dropWhile_lt (by simp [dB, isDigit, h3]) r
    · split at h
      · split at h
        · injection h with _ h; subst h; simp; omega
        · injection h with _ h; subst h; simp
      · exact absurd h (by simp)

theorem nB_hash {c : Ch} (h : classF c.1 = 1) : nB c = true := by
  unfold nB
  by_cases h10 : (c.1 : Int) = 10
  · rw [h10] at h; exact absurd h (by decide)
  · simpa using h10

theorem tokC_fuel : ∀ (f g : Nat) (cs : List Ch) (acc : List TokT), cs.length < f → cs.length < g → tokC f cs acc = tokC g cs acc
  | 0, g, cs, acc, h, _ => by omega
  | f + 1, 0, cs, acc, _, h => by omega
  | f + 1, g + 1, [], acc, _, _ => rfl
  | f + 1, g + 1, c :: r, acc, h1, h2 => by
    simp only [List.length_cons] at h1 h2
    rw [tokC, tokC]
    split
    · exact tokC_fuel f g r acc (by omega) (by omega)
    · split
      · rename_i h3
        have := dropWhile_lt (nB_hash h3) r
        simp only [List.length_cons] at this
        exact tokC_fuel f g _ acc (by omega) (by omega)
      · cases hs : stepC (c :: r) with
        | err e => rfl
        | tok t r' =>
          have := stepC_len hs
          simp only [List.length_cons] at this
          exact tokC_fuel f g r' _ (by omega) (by omega)

def tokT (cs : List Ch) (acc : List TokT) : Option (List TokT) × Int := tokC (cs.length + 1) cs acc
theorem tokC_T {f : Nat} {cs : List Ch} {acc : List TokT} (h : cs.length < f) : tokC f cs acc = tokT cs acc := tokC_fuel _ _ _ _ h (by omega)
theorem tokT_nil (acc : List TokT) : tokT [] acc = (some (acc ++ [noTok]), 0) := rfl
theorem tokT_cons (c : Ch) (r : List Ch) (acc : List TokT) : tokT (c :: r) acc = if classF c.1 = 0 then tokT r acc else if classF c.1 = 1 then tokT ((c :: r).dropWhile nB) acc else
    match stepC (c :: r) with
    | .err e => (none, e)
    | .tok t r' => tokT r' (acc ++ [t]) := by
  show tokC ((c :: r).length + 1) (c :: r) acc = _
  rw [tokC]
  split
  · rw [tokC_T (by simp)]
  · split
    · rename_i h1
      rw [tokC_T (dropWhile_lt (nB_hash h1) r)]
    · cases hs : stepC (c :: r) with
      | err e => rfl
      | tok t r' => exact tokC_T (stepC_len hs)

abbrev nlc : Ch := (10, [10])
theorem cls10 : classF ((nlc.1 : Nat) : Int) = 0 := by decide
theorem stepC_app (c : Ch) (r X : List Ch) : stepC (c :: (r ++ nlc :: X)) = match stepC (c :: r) with
    | .err e => .err e
    | .tok t r' => .tok t (r' ++ nlc :: X) := by
  have hw := takeWhile_stop (p := wB) (x := nlc) (by decide) (c :: r) X
  have hd := takeWhile_stop (p := dB) (x := nlc) (by decide) (c :: r) X
  rw [List.cons_append] at hw hd
  unfold stepC
  simp only [hw.1, hw.2, hd.1, hd.2]
  split
  · split <;> rfl
  · split
    · have : headW ((c :: r).dropWhile dB ++ nlc :: X) = headW ((c :: r).dropWhile dB) := by
        cases (c :: r).dropWhile dB with
        | nil => exact (by decide : wB nlc = false)
        | cons d l => rfl
      rw [this]
      split
      · rfl
      · split <;> simp_all
    · split
      · cases r with
        | nil =>
          have e1 : sign2 (c :: ([] ++ nlc :: X)) = false := by simp [sign2]
          have e2 : sign2 [c] = false := rfl
          rw [e1, e2]; rfl
        | cons d r =>
          have e1 : sign2 (c :: (d :: r ++ nlc :: X)) = sign2 (c :: d :: r) := rfl
          rw [e1]
          split <;> rfl
      · rfl

theorem tokT_app (X : List Ch) : ∀ (n : Nat) (A : List Ch) (acc : List TokT), A.length ≤ n → tokT (A ++ nlc :: X) acc = match tokT A acc with
    | (some l, _) => tokT (nlc :: X) l.dropLast
    | (none, e) => (none, e)
  | n, [], acc, _ => by rw [tokT_nil]; simp
  | 0, c :: r, acc, h => by simp at h
  | n + 1, c :: r, acc, h => by
    simp only [List.length_cons] at h
    rw [List.cons_append, tokT_cons, tokT_cons, stepC_app]
    split
    · exact tokT_app X n r acc (by omega)
    · split
      · rename_i h1
        have hd := takeWhile_stop (p := nB) (x := nlc) (by decide) (c :: r) X
        rw [List.cons_append] at hd
        rw [hd.2]
        have := dropWhile_lt (nB_hash h1) r
        simp only [List.length_cons] at this
        exact tokT_app X n _ acc (by omega)
      · cases hs : stepC (c :: r) with
        | err e => rfl
        | tok t r' =>
          have := stepC_len hs
          simp only [List.length_cons] at this
          exact tokT_app X n r' _ (by omega)

theorem tokT_acc (a : List TokT) : ∀ (n : Nat) (cs : List Ch) (b : List TokT), cs.length ≤ n → tokT cs (a ++ b) = match tokT cs b with
    | (some l, e) => (some (a ++ l), e)
    | (none, e) => (none, e)
  | n, [], b, _ => by rw [tokT_nil, tokT_nil, List.append_assoc]
  | 0, c :: r, b, h => by simp at h
  | n + 1, c :: r, b, h => by
    simp only [List.length_cons] at h
    rw [tokT_cons, tokT_cons]
    split
    · exact tokT_acc a n r b (by omega)
    · split
      · rename_i h1
        have := dropWhile_lt (nB_hash h1) r
        simp only [List.length_cons] at this
        exact tokT_acc a n _ b (by omega)
      · cases hs : stepC (c :: r) with
        | err e => rfl
        | tok t r' =>
          have := stepC_len hs
          simp only [List.length_cons] at this
          simp only
          rw [show a ++ b ++ [t] = a ++ (b ++ [t]) from List.append_assoc ..]
          exact tokT_acc a n r' _ (by omega)
theorem tokT_acc' (a : List TokT) (cs : List Ch) : tokT cs a = match tokT cs [] with
    | (some l, e) => (some (a ++ l), e)
    | (none, e) => (none, e) := by
  have := tokT_acc a _ cs [] (Nat.le_refl _)
  rwa [List.append_nil] at this

theorem stepC_err {cs : List Ch} {e : Int} (h : stepC cs = .err e) : e = 2 ∨ e = 10 := by
  unfold stepC at h
  repeat' split at h
  all_goals first | (injection h with h; omega) | (exact absurd h (by simp))
theorem tokT_ends : ∀ (n : Nat) (cs : List Ch) (acc : List TokT), cs.length ≤ n → (∃ l, tokT cs acc = (some (l ++ [noTok]), 0)) ∨ (∃ e, tokT cs acc = (none, e) ∧ (e = 2 ∨ e = 10))
  | n, [], acc, _ => .inl ⟨acc, rfl⟩
  | 0, c :: r, b, h => by simp at h
  | n + 1, c :: r, b, h => by
    simp only [List.length_cons] at h
    rw [tokT_cons]
    split
    · exact tokT_ends n r b (by omega)
    · split
      · rename_i h1
        have := dropWhile_lt (nB_hash h1) r
        simp only [List.length_cons] at this
        exact tokT_ends n _ b (by omega)
      · cases hs : stepC (c :: r) with
        | err e => exact .inr ⟨e, rfl, stepC_err hs⟩
        | tok t r' =>
          have := stepC_len hs
          simp only [List.length_cons] at this
          exact tokT_ends n r' _ (by omega)

/-- utf8.ValidString. -/
def vS (s : ByteArray) : Bool := validD s.data.toList
theorem chunks_len (l : List UInt8) : (chunks l).length ≤ l.length := by
  generalize hn : l.length = n
  induction n using Nat.strongRecOn generalizing l with
  | _ n ih =>
    by_cases h : l = []
    · subst h; simp [chunks_nil]
    · have hw := decodeL_width l
      have hl : 0 < l.length := List.length_pos_iff.2 h
      have := ih (l.drop (decodeL l).2).length (by rw [List.length_drop]; omega) _ rfl
      rw [chunks_step h, List.length_cons]
      rw [List.length_drop] at this; omega
theorem tokensF_T (s : ByteArray) (h : s.size ≤ 4000) : tokensF vS s = if vS s = false then (none, 10) else tokT (chunks s.data.toList) [] := by
  rw [tokensF, if_neg (by omega), tok_eq]
  have := chunks_len s.data.toList
  rw [len_data] at this
  rw [tokC_T (by omega)]

theorem low_chunks : ∀ (l : List UInt8), (∀ b ∈ l, b.toNat < 128) → chunks l = l.map fun b => (b.toNat, [b])
  | [], _ => rfl
  | b :: t, h => by rw [chunks_low (h b (by simp)), low_chunks t fun x hx => h x (by simp [hx])]; rfl

/-- A text of two, with a remark between. -/
def linesT (a m b : ByteArray) : List UInt8 := a.data.toList ++ 10 :: 35 :: (m.data.toList ++ 10 :: b.data.toList)
theorem edge10 (t : List UInt8) : Edge (10 :: t) := edge_low (by decide)
theorem lines_chunks (a m b : ByteArray) (hm : ∀ x ∈ m.data.toList, x.toNat < 128) : chunks (linesT a m b) = chunks a.data.toList ++ nlc :: (35, [35]) :: (m.data.toList.map (fun b => (b.toNat, [b])) ++ nlc :: chunks b.data.toList) := by
  rw [linesT, chunks_app (edge10 _), chunks_low (by decide), chunks_low (by decide), chunks_app (edge10 _), chunks_low (by decide), low_chunks _ hm]
  rfl
theorem all_low (l : List UInt8) (h : ∀ b ∈ l, b.toNat < 128) : (l.map fun b => ((b.toNat, [b]) : Ch)).all okCh = true := by
  rw [List.all_eq_true]
  intro c hc
  obtain ⟨b, hb, rfl⟩ := List.mem_map.1 hc
  have := h b hb
  simp [okCh]; omega
theorem lines_valid (a m b : ByteArray) (hm : ∀ x ∈ m.data.toList, x.toNat < 128) : validD (linesT a m b) = (vS a && vS b) := by
  rw [valid_chunks, lines_chunks a m b hm, List.all_append, List.all_cons, List.all_cons, List.all_append, List.all_cons, all_low _ hm, vS, vS, valid_chunks, valid_chunks]
  rw [show okCh nlc = true from by decide, show okCh ((35, [35]) : Ch) = true from by decide]
  simp
theorem tokT_lines (m b : List UInt8) (hm : ∀ x ∈ m, x.toNat ≠ 10) (acc : List TokT) : tokT (nlc :: (35, [35]) :: (m.map (fun b => ((b.toNat, [b]) : Ch)) ++ nlc :: chunks b)) acc = tokT (chunks b) acc := by
  rw [tokT_cons, if_pos cls10, tokT_cons, if_neg (by decide), if_pos (by decide), ← List.cons_append, (takeWhile_stop (p := nB) (x := nlc) (by decide) _ _).2]
  have : List.dropWhile nB ((35, [35]) :: m.map (fun b => ((b.toNat, [b]) : Ch))) = [] := by
    refine dropWhile_nil fun c hc => ?_
    rcases List.mem_cons.1 hc with rfl | hc
    · decide
    · obtain ⟨x, hx, rfl⟩ := List.mem_map.1 hc
      have := hm x hx
      simp [nB]; omega
  rw [this, List.nil_append, tokT_cons, if_pos cls10]

theorem lines_law (a m b S : ByteArray) (ha : a.size ≤ 500) (hb : b.size ≤ 500) (hms : m.size ≤ 100) (hm : ∀ x ∈ m.data.toList, x.toNat < 128 ∧ x.toNat ≠ 10) (hS : S.data.toList = linesT a m b) :
    match tokensF vS a, tokensF vS b with
    | (none, e), (none, f) => (tokensF vS S = (none, e) ∨ tokensF vS S = (none, f)) ∧ e ≠ 0 ∧ f ≠ 0
    | (none, e), (some _, f) => tokensF vS S = (none, e) ∧ e ≠ 0 ∧ f = 0
    | (some _, e), (none, f) => tokensF vS S = (none, f) ∧ e = 0 ∧ f ≠ 0
    | (some l, e), (some k, f) => tokensF vS S = (some (l.dropLast ++ k), 0) ∧ e = 0 ∧ f = 0 := by
  have hsz : S.size ≤ 4000 := by
    rw [← len_data, hS, linesT]
    simp only [List.length_append, List.length_cons, len_data]; omega
  have hm1 : ∀ x ∈ m.data.toList, x.toNat < 128 := fun x hx => (hm x hx).1
  rw [tokensF_T a (by omega), tokensF_T b (by omega), tokensF_T S hsz]
  have hv : vS S = (vS a && vS b) := by rw [vS, hS, lines_valid a m b hm1]
  rw [hv, hS, lines_chunks a m b hm1, tokT_app _ _ _ _ (Nat.le_refl _), ]
  have hX := fun acc => tokT_lines m.data.toList b.data.toList (fun x hx => (hm x hx).2) acc
  cases hva : vS a with
  | false =>
    rw [Bool.false_and, if_pos rfl, if_pos rfl]
    cases hvb : vS b with
    | false => rw [if_pos rfl]; exact ⟨.inl rfl, by decide, by decide⟩
    | true =>
      rw [if_neg (by simp)]
      rcases tokT_ends _ (chunks b.data.toList) [] (Nat.le_refl _) with ⟨l, h⟩ | ⟨e, h, he⟩
      · rw [h]; exact ⟨rfl, by decide, rfl⟩
      · rw [h]; exact ⟨.inl rfl, by decide, by omega⟩
  | true =>
    rw [Bool.true_and, if_neg (by simp)]
    cases hvb : vS b with
    | false =>
      rw [if_pos rfl, if_pos rfl]
      rcases tokT_ends _ (chunks a.data.toList) [] (Nat.le_refl _) with ⟨l, h⟩ | ⟨e, h, he⟩
      · rw [h]; exact ⟨rfl, rfl, by decide⟩
      · rw [h]; exact ⟨.inr rfl, by omega, by decide⟩
    | true =>
      rw [if_neg (by simp), if_neg (by simp)]
      rcases tokT_ends _ (chunks a.data.toList) [] (Nat.le_refl _) with ⟨l, h⟩ | ⟨e, h, he⟩
      · rw [h]
        have h2 := hX ((l ++ [noTok]).dropLast)
        have h3 := tokT_acc' ((l ++ [noTok]).dropLast) (chunks b.data.toList)
        rcases tokT_ends _ (chunks b.data.toList) [] (Nat.le_refl _) with ⟨k, g⟩ | ⟨f, g, hf⟩
        · rw [g] at h3 ⊢
          exact ⟨h2.trans h3, rfl, rfl⟩
        · rw [g] at h3 ⊢
          exact ⟨h2.trans h3, rfl, by omega⟩
      · rw [h]
        rcases tokT_ends _ (chunks b.data.toList) [] (Nat.le_refl _) with ⟨k, g⟩ | ⟨f, g, hf⟩
        · rw [g]; exact ⟨rfl, by omega, rfl⟩
        · rw [g]; exact ⟨.inl rfl, by omega, by omega⟩
end Go.Ax

/- Plain: tokens as a text, and back. -/
namespace Go.Ax
open Go.Lib
set_option maxRecDepth 10000

def lowC (l : List UInt8) : List Ch := l.map fun b => (b.toNat, [b])
theorem flat_low : ∀ l : List UInt8, flat (lowC l) = l
  | [] => rfl
  | b :: t => by show flat ((b.toNat, [b]) :: lowC t) = _; rw [flat_cons, flat_low t]; rfl
theorem good_lowC : ∀ (l : List UInt8), (∀ b ∈ l, b.toNat < 128) → GoodC (lowC l)
  | [], _ => rfl
  | b :: t, h => good_low (h b (by simp)) (good_lowC t fun x hx => h x (by simp [hx]))

/-- A token that the lexer makes. -/
inductive TokOk : TokT → Prop
  | word (c : Ch) (r : List Ch) (hg : GoodC (c :: r)) (hw : ∀ d ∈ c :: r, wB d = true) (hc : classF c.1 = 2) (hl : (c :: r).length ≤ 20) (ok : (c :: r).all okCh = true) : TokOk ⟨1, baOf (c :: r), 0⟩
  | num (v : Nat) (h : v ≤ 65535) : TokOk ⟨2, ⟨#[]⟩, v⟩
  | one (c : Ch) (hg : GoodC [c]) (hc : classF c.1 = 5) (ok : [c].all okCh = true) : TokOk ⟨3, baOf [c], 0⟩
  | two (c d : Ch) (hg : GoodC [c, d]) (hc : classF c.1 = 5) (hs : sign2 [c, d] = true) (ok : [c, d].all okCh = true) : TokOk ⟨3, baOf [c, d], 0⟩

/-- A token's text. -/
def txtB (t : TokT) : List UInt8 := if t.kind = 2 then decDigits t.n.toNat else t.s.data.toList
def txtC (t : TokT) : List Ch := chunks (txtB t)
theorem baOf_data (cs : List Ch) : (baOf cs).data.toList = flat cs := by simp [baOf]

theorem dec_digit : ∀ (u : Nat), ∀ b ∈ decDigits u, 48 ≤ b.toNat ∧ b.toNat ≤ 57 := by
  intro u
  induction u using Nat.strongRecOn with
  | _ u ih =>
    intro b hb
    rw [decDigits] at hb
    have hd : ∀ k, k < 10 → (UInt8.ofNat (48 + k)).toNat = 48 + k := fun k hk => by
      simp only [UInt8.toNat_ofNat']; omega
    split at hb
    · rename_i h
      rw [List.mem_singleton] at hb; subst hb
      have := hd u h; omega
    · rename_i h
      rcases List.mem_append.1 hb with hb | hb
      · exact ih (u / 10) (by omega) b hb
      · rw [List.mem_singleton] at hb; subst hb
        have := hd (u % 10) (by omega); omega
theorem dec_ne (u : Nat) : decDigits u ≠ [] := by
  rw [decDigits]; split <;> simp
theorem numC_app : ∀ (a b : List Ch) (v : Int), numC (a ++ b) v = (numC a v).bind (numC b)
  | [], b, v => rfl
  | c :: a, b, v => by
    simp only [List.cons_append, numC]
    split
    · rfl
    · exact numC_app a b _
theorem numC_dec : ∀ (u : Nat), u ≤ 65535 → numC (lowC (decDigits u)) 0 = some (u : Int) := by
  intro u
  induction u using Nat.strongRecOn with
  | _ u ih =>
    intro hu
    have hd : ∀ k, k < 10 → (UInt8.ofNat (48 + k)).toNat = 48 + k := fun k hk => by
      simp only [UInt8.toNat_ofNat']; omega
    rw [decDigits]
    split
    · rename_i h
      have h1 := hd u h
      simp only [lowC, List.map_cons, List.map_nil, numC, h1]
      rw [if_neg (by omega)]
      exact congrArg some (by omega)
    · rename_i h
      have h1 := hd (u % 10) (by omega)
      have h2 := ih (u / 10) (by omega) (by omega)
      rw [lowC, List.map_append]
      rw [lowC] at h2
      rw [numC_app, h2]
      simp only [List.map_cons, List.map_nil, Option.bind_some, numC, h1]
      rw [if_neg (by omega)]
      exact congrArg some (by omega)
theorem dec_len5 (u : Nat) (h : u ≤ 65535) : (decDigits u).length ≤ 5 := by
  have one : ∀ k, k < 10 → (decDigits k).length ≤ 1 := fun k hk => by rw [decDigits_one hk]; simp
  have st : ∀ k n, (decDigits (k / 10)).length ≤ n → (decDigits k).length ≤ n + 1 := fun k n hn => by
    rw [decDigits]; split
    · simp
    · simp; exact hn
  exact st _ _ (st _ _ (st _ _ (st _ _ (one _ (by omega)))))

theorem isDigit_of {c : Int} (h : 48 ≤ c ∧ c ≤ 57) : isDigit c = true := by
  have : c = 48 ∨ c = 49 ∨ c = 50 ∨ c = 51 ∨ c = 52 ∨ c = 53 ∨ c = 54 ∨ c = 55 ∨ c = 56 ∨ c = 57 := by omega
  rcases this with rfl | rfl | rfl | rfl | rfl | rfl | rfl | rfl | rfl | rfl <;> decide

abbrev spc : Ch := (32, [32])
/-- What may stand behind a token's text. -/
def Rest (r : List Ch) : Prop := r = [] ∨ ∃ X, r = spc :: X
theorem takeWhile_rest {p : Ch → Bool} (hp : p spc = false) {A r : List Ch} (hA : ∀ c ∈ A, p c = true) (hr : Rest r) : (A ++ r).takeWhile p = A ∧ (A ++ r).dropWhile p = r := by
  have h1 : A.takeWhile p = A := by
    induction A with
    | nil => rfl
    | cons a A ih => rw [List.takeWhile_cons, if_pos (hA a (by simp)), ih fun c hc => hA c (by simp [hc])]
  have h2 : A.dropWhile p = [] := dropWhile_nil hA
  rcases hr with rfl | ⟨X, rfl⟩
  · rw [List.append_nil, h1, h2]; exact ⟨rfl, rfl⟩
  · obtain ⟨e1, e2⟩ := takeWhile_stop hp A X
    rw [e1, e2, h1, h2]; exact ⟨rfl, rfl⟩

theorem txtC_num (v : Nat) (h : v ≤ 65535) : txtC ⟨2, ⟨#[]⟩, v⟩ = lowC (decDigits v) := by
  have : txtB ⟨2, ⟨#[]⟩, v⟩ = decDigits v := by simp [txtB]
  rw [txtC, this]
  exact low_chunks _ fun b hb => by have := dec_digit v b hb; omega
theorem txtC_text (k : Int) (cs : List Ch) (n : Int) (hk : k ≠ 2) (hg : GoodC cs) : txtC ⟨k, baOf cs, n⟩ = cs := by
  have : txtB ⟨k, baOf cs, n⟩ = flat cs := by simp only [txtB]; rw [if_neg hk, baOf_data]
  rw [txtC, this]; exact hg

theorem TokOk.step {t : TokT} (h : TokOk t) (r : List Ch) (hr : Rest r) : ∃ c r', txtC t = c :: r' ∧ classF c.1 ≠ 0 ∧ classF c.1 ≠ 1 ∧ stepC (txtC t ++ r) = .tok t r := by
  cases h with
  | word c r' hg hw hc hl ok =>
    rw [txtC_text 1 _ 0 (by decide) hg]
    refine ⟨c, r', rfl, by omega, by omega, ?_⟩
    obtain ⟨e1, e2⟩ := takeWhile_rest (p := wB) (by decide) hw hr
    unfold stepC
    simp only [List.cons_append] at e1 e2 ⊢
    rw [if_pos hc, e1, e2, if_neg (by omega)]
  | num v hv =>
    rw [txtC_num v hv]
    have hd : ∀ c ∈ lowC (decDigits v), dB c = true := fun c hc => by
      obtain ⟨b, hb, rfl⟩ := List.mem_map.1 hc
      have := dec_digit v b hb
      exact isDigit_of (by omega)
    obtain ⟨e1, e2⟩ := takeWhile_rest (p := dB) (by decide) hd hr
    have hn := numC_dec v hv
    cases hl : lowC (decDigits v) with
    | nil => exact absurd (List.map_eq_nil_iff.1 hl) (dec_ne v)
    | cons c r' =>
      rw [hl] at e1 e2 hn hd
      have hc : classF c.1 = 3 := by have := hd c (by simp); simpa [dB, isDigit] using this
      refine ⟨c, r', rfl, by omega, by omega, ?_⟩
      unfold stepC
      simp only [List.cons_append] at e1 e2 ⊢
      have hh : headW r = false := by
        rcases hr with rfl | ⟨X, rfl⟩
        · rfl
        · exact (by decide : wB spc = false)
      rw [if_neg (by omega), if_pos hc, e1, e2, hh, hn]
      rfl
  | one c hg hc ok =>
    rw [txtC_text 3 _ 0 (by decide) hg]
    refine ⟨c, [], rfl, by omega, by omega, ?_⟩
    have hs : sign2 ([c] ++ r) = false := by
      rcases hr with rfl | ⟨X, rfl⟩
      · rfl
      · simp [sign2]
    unfold stepC
    simp only [List.cons_append, List.nil_append] at hs ⊢
    rw [if_neg (by omega), if_neg (by omega), if_pos hc, hs]
    rfl
  | two c d hg hc hs ok =>
    rw [txtC_text 3 _ 0 (by decide) hg]
    refine ⟨c, [d], rfl, by omega, by omega, ?_⟩
    have hs : sign2 ([c, d] ++ r) = true := hs
    unfold stepC
    simp only [List.cons_append, List.nil_append] at hs ⊢
    rw [if_neg (by omega), if_neg (by omega), if_pos hc, hs]
    rfl

def joinC : List TokT → List Ch
  | [] => []
  | [t] => txtC t
  | t :: r => txtC t ++ spc :: joinC r
theorem tokT_join : ∀ (l : List TokT) (acc : List TokT), (∀ t ∈ l, TokOk t) → tokT (joinC l) acc = (some (acc ++ l ++ [noTok]), 0)
  | [], acc, _ => by rw [joinC, tokT_nil, List.append_nil]
  | [t], acc, h => by
    obtain ⟨c, r', h1, h2, h3, h4⟩ := (h t (by simp)).step [] (.inl rfl)
    rw [List.append_nil] at h4
    rw [joinC]
    rw [h1] at h4 ⊢
    rw [tokT_cons, if_neg h2, if_neg h3, h4]
    exact tokT_nil _
  | t :: u :: l, acc, h => by
    obtain ⟨c, r', h1, h2, h3, h4⟩ := (h t (by simp)).step (spc :: joinC (u :: l)) (.inr ⟨_, rfl⟩)
    rw [joinC]
    · rw [h1] at h4 ⊢
      rw [List.cons_append] at h4 ⊢
      rw [tokT_cons, if_neg h2, if_neg h3, h4]
      simp only
      rw [tokT_cons, if_pos (by decide), tokT_join (u :: l) _ fun x hx => h x (by simp at hx ⊢; exact .inr hx)]
      simp
    · simp

theorem TokOk.txt {t : TokT} (h : TokOk t) : GoodC (txtC t) ∧ (txtC t).all okCh = true := by
  refine ⟨good_chunks _, ?_⟩
  cases h with
  | word c r' hg hw hc hl ok => rw [txtC_text 1 _ 0 (by decide) hg]; exact ok
  | num v hv => rw [txtC_num v hv]; exact all_low _ fun b hb => by have := dec_digit v b hb; omega
  | one c hg hc ok => rw [txtC_text 3 _ 0 (by decide) hg]; exact ok
  | two c d hg hc hs ok => rw [txtC_text 3 _ 0 (by decide) hg]; exact ok
theorem flat_txtC (t : TokT) : flat (txtC t) = txtB t := flat_chunks _

theorem join_cons2 (x y : List UInt8) (l : List (List UInt8)) : Lib.join (x :: y :: l) [32] = x ++ 32 :: Lib.join (y :: l) [32] := by
  simp [Lib.join, List.intercalate]
theorem joinC_ok : ∀ (l : List TokT), (∀ t ∈ l, TokOk t) → GoodC (joinC l) ∧ (joinC l).all okCh = true ∧ flat (joinC l) = Lib.join (l.map txtB) [32]
  | [], _ => ⟨rfl, rfl, rfl⟩
  | [t], h => ⟨(h t (by simp)).txt.1, (h t (by simp)).txt.2, by rw [joinC, flat_txtC, List.map_cons, List.map_nil, Lib.join_one]⟩
  | t :: u :: l, h => by
    obtain ⟨h1, h2, h3⟩ := joinC_ok (u :: l) fun x hx => h x (by simp at hx ⊢; exact .inr hx)
    obtain ⟨g1, g2⟩ := (h t (by simp)).txt
    have e : joinC (t :: u :: l) = txtC t ++ spc :: joinC (u :: l) := by rw [joinC]; simp
    have hs : GoodC (spc :: joinC (u :: l)) := good_low (b := 32) (by decide) h1
    rw [e]
    refine ⟨g1.app hs (by rw [flat_cons]; exact edge_low (by decide)), ?_, ?_⟩
    · rw [List.all_append, List.all_cons, g2, h2]; decide
    · rw [flat_append, flat_cons, flat_txtC, h3]
      show txtB t ++ 32 :: Lib.join (txtB u :: l.map txtB) [32] = Lib.join (txtB t :: txtB u :: l.map txtB) [32]
      rw [join_cons2]

/-! ### what the lexer makes -/
theorem numC_range : ∀ (cs : List Ch) (v : Int), (∀ c ∈ cs, dB c = true) → 0 ≤ v → v ≤ 65535 → ∀ w, numC cs v = some w → 0 ≤ w ∧ w ≤ 65535
  | [], v, _, h0, h1, w, h => by simp only [numC] at h; injection h with h; omega
  | c :: cs, v, hc, h0, h1, w, h => by
    simp only [numC] at h
    have := isDigit_iff (hc c (by simp))
    split at h
    · exact absurd h (by simp)
    · exact numC_range cs _ (fun d hd => hc d (by simp [hd])) (by omega) (by omega) w h

def wt (l : List TokT) : Nat := (l.map fun t => (txtB t).length + 1).sum
theorem wt_app (a b : List TokT) : wt (a ++ b) = wt a + wt b := by simp [wt]
theorem wt_one (t : TokT) : wt [t] = (txtB t).length + 1 := by simp [wt]
theorem GoodC.pos {c : Ch} {cs : List Ch} (h : GoodC (c :: cs)) : 1 ≤ (flat (c :: cs)).length := by
  have := List.length_pos_iff.2 h.ne.1
  rw [flat_cons, List.length_append]; omega
theorem all_split {A B : List Ch} (h : (A ++ B).all okCh = true) : A.all okCh = true ∧ B.all okCh = true := by
  rw [List.all_append, Bool.and_eq_true] at h; exact h

theorem stepC_ok {c : Ch} {r r' : List Ch} {t : TokT} (hg : GoodC (c :: r)) (ok : (c :: r).all okCh = true) (h : stepC (c :: r) = .tok t r') : TokOk t ∧ GoodC r' ∧ r'.all okCh = true ∧ (txtB t).length + 1 + 6 * (flat r').length ≤ 6 * (flat (c :: r)).length := by
  unfold stepC at h
  simp only at h
  split at h
  · rename_i h2
    split at h
    · exact absurd h (by simp)
    · rename_i h20
      injection h with h1 h; subst h; subst h1
      have hwc : wB c = true := by simp [wB, withinF, h2]
      have e := List.takeWhile_append_dropWhile (p := wB) (l := c :: r)
      have hg' := hg; have ok' := ok
      rw [← e] at hg' ok'
      have e3 : (flat (c :: r)).length = (flat ((c :: r).takeWhile wB)).length + (flat ((c :: r).dropWhile wB)).length := by
        rw [← List.length_append, ← flat_append, e]
      have hta := takeWhile_all wB (c :: r)
      have htw : (c :: r).takeWhile wB = c :: r.takeWhile wB := by rw [List.takeWhile_cons, if_pos hwc]
      have hgp := hg'.pre
      have hall := (all_split ok').1
      rw [htw] at hgp hall hta h20 e3 ⊢
      refine ⟨.word _ _ hgp hta h2 (by omega) hall, hg'.suf, (all_split ok').2, ?_⟩
      have e4 : (txtB ⟨1, baOf (c :: r.takeWhile wB), 0⟩).length = (flat (c :: r.takeWhile wB)).length := by simp only [txtB]; rw [if_neg (by decide), baOf_data]
      have := hgp.pos
      rw [e4, e3]; omega
  · split at h
    · rename_i h3
      split at h
      · exact absurd h (by simp)
      · cases hn : numC ((c :: r).takeWhile dB) 0 with
        | none => rw [hn] at h; exact absurd h (by simp)
        | some v =>
          rw [hn] at h
          injection h with h1 h; subst h; subst h1
          have hdc : dB c = true := by simp [dB, isDigit, h3]
          have e := List.takeWhile_append_dropWhile (p := dB) (l := c :: r)
          have hg' := hg; have ok' := ok
          rw [← e] at hg' ok'
          have e3 : (flat (c :: r)).length = (flat ((c :: r).takeWhile dB)).length + (flat ((c :: r).dropWhile dB)).length := by
            rw [← List.length_append, ← flat_append, e]
          have hta := takeWhile_all dB (c :: r)
          have htw : (c :: r).takeWhile dB = c :: r.takeWhile dB := by rw [List.takeWhile_cons, if_pos hdc]
          have hgp := hg'.pre
          obtain ⟨v0, v1⟩ := numC_range _ 0 hta (by omega) (by omega) v hn
          rw [htw] at hgp e3
          have hv : v = (v.toNat : Int) := by omega
          refine ⟨by rw [hv]; exact .num v.toNat (by omega), hg'.suf, (all_split ok').2, ?_⟩
          have e4 : (txtB ⟨2, ⟨#[]⟩, v⟩).length ≤ 5 := by
            unfold txtB
            rw [if_pos rfl]
            show (decDigits v.toNat).length ≤ 5
            exact dec_len5 _ (by omega)
          have := hgp.pos
          rw [e3]; omega
    · split at h
      · rename_i h5
        split at h
        · rename_i hs
          injection h with h1 h; subst h; subst h1
          obtain ⟨d, r2, hr⟩ := sign2_two hs
          subst hr
          have hgp : GoodC [c, d] := (show GoodC ([c, d] ++ r2) from hg).pre
          have hal := all_split (A := [c, d]) (B := r2) ok
          refine ⟨.two c d hgp h5 hs hal.1, hg.tail.tail, hal.2, ?_⟩
          have e4 : (txtB ⟨3, baOf [c, d], 0⟩).length = (flat [c, d]).length := by simp only [txtB]; rw [if_neg (by decide), baOf_data]
          have := hgp.pos
          show (txtB ⟨3, baOf [c, d], 0⟩).length + 1 + 6 * (flat r2).length ≤ 6 * (flat ([c, d] ++ r2)).length
          rw [e4, flat_append, List.length_append]; omega
        · injection h with h1 h; subst h; subst h1
          have hgp : GoodC [c] := (show GoodC ([c] ++ r) from hg).pre
          have hal := all_split (A := [c]) (B := r) ok
          refine ⟨.one c hgp h5 hal.1, hg.tail, hal.2, ?_⟩
          have e4 : (txtB ⟨3, baOf [c], 0⟩).length = (flat [c]).length := by simp only [txtB]; rw [if_neg (by decide), baOf_data]
          have := hgp.pos
          show (txtB ⟨3, baOf [c], 0⟩).length + 1 + 6 * (flat r).length ≤ 6 * (flat ([c] ++ r)).length
          rw [e4, flat_append, List.length_append]; omega
      · exact absurd h (by simp)

theorem tokT_ok : ∀ (n : Nat) (cs : List Ch) (acc : List TokT), cs.length ≤ n → GoodC cs → cs.all okCh = true → (∀ t ∈ acc, TokOk t) → ∀ m e, tokT cs acc = (some m, e) → ∃ l, m = l ++ [noTok] ∧ (∀ t ∈ l, TokOk t) ∧ wt l ≤ wt acc + 6 * (flat cs).length
  | n, [], acc, _, _, _, ha, m, e, h => by
    rw [tokT_nil] at h
    injection h with h _; injection h with h
    exact ⟨acc, h.symm, ha, by omega⟩
  | 0, c :: r, b, h, _, _, _, _, _, _ => by simp at h
  | n + 1, c :: r, acc, hlen, hg, ok, ha, m, e, h => by
    simp only [List.length_cons] at hlen
    have hfl : (flat (c :: r)).length = c.2.length + (flat r).length := by rw [flat_cons, List.length_append]
    rw [tokT_cons] at h
    split at h
    · obtain ⟨l, h1, h2, h3⟩ := tokT_ok n r acc (by omega) hg.tail (by rw [List.all_cons, Bool.and_eq_true] at ok; exact ok.2) ha m e h
      exact ⟨l, h1, h2, by omega⟩
    · split at h
      · rename_i h1
        have hd := dropWhile_lt (nB_hash h1) r
        simp only [List.length_cons] at hd
        have e1 := List.takeWhile_append_dropWhile (p := nB) (l := c :: r)
        have hg' := hg; have ok' := ok
        rw [← e1] at hg' ok'
        have e3 : (flat (c :: r)).length = (flat ((c :: r).takeWhile nB)).length + (flat ((c :: r).dropWhile nB)).length := by
          rw [← List.length_append, ← flat_append, e1]
        obtain ⟨l, h1, h2, h3⟩ := tokT_ok n _ acc (by omega) hg'.suf (all_split ok').2 ha m e h
        exact ⟨l, h1, h2, by omega⟩
      · cases hs : stepC (c :: r) with
        | err e => rw [hs] at h; exact absurd h (by simp)
        | tok t r' =>
          rw [hs] at h
          obtain ⟨g1, g2, g3, g4⟩ := stepC_ok hg ok hs
          have hl := stepC_len hs
          simp only [List.length_cons] at hl
          obtain ⟨l, h1, h2, h3⟩ := tokT_ok n r' (acc ++ [t]) (by omega) g2 g3 (fun x hx => (List.mem_append.1 hx).elim (ha x) fun hx => by simp at hx; subst hx; exact g1) m e h
          refine ⟨l, h1, h2, ?_⟩
          rw [wt_app, wt_one] at h3
          omega

/-- The tokens ahead of the end. -/
def ahead (m : List TokT) : List TokT := m.takeWhile fun t => t.kind != 0
def joinB (m : List TokT) : List UInt8 := Lib.join ((ahead m).map txtB) [32]
theorem TokOk.kind {t : TokT} (h : TokOk t) : (t.kind != 0) = true := by cases h <;> rfl
theorem ahead_ok {l : List TokT} (h : ∀ t ∈ l, TokOk t) : ahead (l ++ [noTok]) = l := by
  have := (takeWhile_stop (p := fun t : TokT => t.kind != 0) (x := noTok) rfl l []).1
  rw [ahead, this]
  induction l with
  | nil => rfl
  | cons a l ih =>
    rw [List.takeWhile_cons, if_pos (h a (by simp)).kind]
    exact congrArg _ (ih (fun t ht => h t (by simp [ht])) (takeWhile_stop rfl l []).1)
theorem join_wt : ∀ l : List TokT, (Lib.join (l.map txtB) [32]).length ≤ wt l
  | [] => by simp [Lib.join_nil]
  | [t] => by rw [List.map_cons, List.map_nil, Lib.join_one, wt_one]; omega
  | t :: u :: l => by
    have := join_wt (u :: l)
    rw [List.map_cons] at this
    rw [List.map_cons, List.map_cons, join_cons2, List.length_append, List.length_cons, show t :: u :: l = [t] ++ (u :: l) from rfl, wt_app, wt_one]
    omega

theorem back_law (s S : ByteArray) (hs : s.size ≤ 500) (m : List TokT) (e : Int) (h : tokensF vS s = (some m, e)) (hS : S.data.toList = joinB m) : (joinB m).length ≤ 3000 ∧ tokensF vS S = (some m, 0) := by
  rw [tokensF_T s (by omega)] at h
  cases hv : vS s with
  | false => rw [hv, if_pos rfl] at h; exact absurd h (by simp)
  | true =>
    rw [hv, if_neg (by simp)] at h
    obtain ⟨l, h1, h2, h3⟩ := tokT_ok _ (chunks s.data.toList) [] (Nat.le_refl _) (good_chunks _) (by rw [← valid_chunks]; exact hv) (fun t ht => by simp at ht) m e h
    subst h1
    obtain ⟨j1, j2, j3⟩ := joinC_ok l h2
    have hj : joinB (l ++ [noTok]) = flat (joinC l) := by rw [joinB, ahead_ok h2, j3]
    have hsz : (joinB (l ++ [noTok])).length ≤ 3000 := by
      rw [joinB, ahead_ok h2]
      have := join_wt l
      rw [flat_chunks, len_data] at h3
      simp only [wt, List.map_nil, List.sum_nil] at h3
      simp only [wt] at this
      omega
    refine ⟨hsz, ?_⟩
    have hch : chunks S.data.toList = joinC l := by rw [hS, hj]; exact j1
    rw [tokensF_T S (by rw [← len_data, hS]; omega), vS, valid_chunks, hch, j2, if_neg (by simp), tokT_join l [] h2]
    simp
end Go.Ax

/- The laws of layer 4, walked. -/
namespace Go.Ax

open Go.Proofs Go.Lib
set_option maxRecDepth 10000

theorem tokV_ctr (g : GP) (hg : ∀ w, g.G w → LibG w) (s : ByteArray) (hs : s.size < 2 ^ 62) : Ctr (ax g).E 27 [.str s] [] (fun o => o = .ret (tokAV (tokensF vS s)) []) :=
  tokens_ctr g hg vS (fun s h => valid_ctr g hg s (by omega)) s hs

theorem wt_len (l : List TokT) : l.length ≤ wt l := by
  induction l with
  | nil => simp
  | cons t l ih => rw [show t :: l = [t] ++ l from rfl, wt_app, wt_one, List.length_append]; simp; omega
/-- What the tokens of a text are. -/
theorem tok_some {s : ByteArray} {m : List TokT} {e : Int} (h : tokensF vS s = (some m, e)) : e = 0 ∧ s.size ≤ 4000 ∧ ∃ l, m = l ++ [noTok] ∧ (∀ t ∈ l, TokOk t) ∧ wt l ≤ 6 * s.size ∧ l.length ≤ 6 * s.size := by
  have hs : s.size ≤ 4000 := by
    rcases Nat.lt_or_ge 4000 s.size with h1 | h1
    · rw [tokensF, if_pos h1] at h; exact absurd h (by simp)
    · exact h1
  rw [tokensF_T s hs] at h
  cases hv : vS s with
  | false => rw [hv, if_pos rfl] at h; exact absurd h (by simp)
  | true =>
    rw [hv, if_neg (by simp)] at h
    obtain ⟨l, h1, h2, h3⟩ := tokT_ok _ (chunks s.data.toList) [] (Nat.le_refl _) (good_chunks _) (by rw [← valid_chunks]; exact hv) (fun t ht => by simp at ht) m e h
    have he : e = 0 := by
      rcases tokT_ends _ (chunks s.data.toList) [] (Nat.le_refl _) with ⟨k, g⟩ | ⟨f, g, _⟩
      · rw [g] at h; injection h with _ h; exact h.symm
      · rw [g] at h; exact absurd h (by simp)
    rw [flat_chunks, len_data] at h3
    have h4 : wt l ≤ 6 * s.size := by simpa [wt] using h3
    exact ⟨he, hs, l, h1, h2, h4, by have := wt_len l; omega⟩

end Go.Ax
