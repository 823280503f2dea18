/- Plain: tokens of a text of two lines. -/
import Derived.Test.YtjokajidcojlmaaDoorAxLy
namespace Go.Ax
open Go.Lib
set_option maxRecDepth 10000

theorem takeWhile_stop {α : Type} {p : α → Bool} {x : α} (hx : p x = false) (A X : List α) : (A ++ x :: X).takeWhile p = A.takeWhile p ∧ (A ++ x :: X).dropWhile p = A.dropWhile p ++ x :: X := by
  induction A with
  | nil => simp [hx]
  | cons a A ih =>
    rw [List.cons_append, List.takeWhile_cons, List.dropWhile_cons, List.takeWhile_cons, List.dropWhile_cons, ih.1, ih.2]
    cases p a <;> exact ⟨rfl, rfl⟩
theorem dropWhile_nil {α : Type} {p : α → Bool} : ∀ {l : List α}, (∀ c ∈ l, p c = true) → l.dropWhile p = []
  | [], _ => rfl
  | a :: l, h => by rw [List.dropWhile_cons, if_pos (h a (by simp)), dropWhile_nil fun c hc => h c (by simp [hc])]
theorem dropWhile_len {α : Type} (p : α → Bool) (l : List α) : (l.dropWhile p).length ≤ l.length := (List.dropWhile_suffix p).length_le
theorem dropWhile_lt {α : Type} {p : α → Bool} {x : α} (hx : p x = true) (l : List α) : ((x :: l).dropWhile p).length < (x :: l).length := by
  rw [List.dropWhile_cons, if_pos hx, List.length_cons]
  have := dropWhile_len p l
  omega

theorem stepC_len {c : Ch} {r r' : List Ch} {t : TokT} (h : stepC (c :: r) = .tok t r') : r'.length < (c :: r).length := by
  unfold stepC at h
  simp only at h
  split at h
  · rename_i h2
    split at h
    · exact absurd h (by simp)
    · injection h with _ h; subst h
      exact dropWhile_lt (by simp [wB, withinF, h2]) r
  · split at h
    · rename_i h3
      split at h
      · exact absurd h (by simp)
      · split at h
        · exact absurd h (by simp)
        · injection h with _ h; subst h
          exact dropWhile_lt (by simp [dB, isDigit, h3]) r
    · split at h
      · split at h
        · injection h with _ h; subst h; simp; omega
        · injection h with _ h; subst h; simp
      · exact absurd h (by simp)

theorem nB_hash {c : Ch} (h : classF c.1 = 1) : nB c = true := by
  unfold nB
  by_cases h10 : (c.1 : Int) = 10
  · rw [h10] at h; exact absurd h (by decide)
  · simpa using h10

theorem tokC_fuel : ∀ (f g : Nat) (cs : List Ch) (acc : List TokT), cs.length < f → cs.length < g → tokC f cs acc = tokC g cs acc
  | 0, g, cs, acc, h, _ => by omega
  | f + 1, 0, cs, acc, _, h => by omega
  | f + 1, g + 1, [], acc, _, _ => rfl
  | f + 1, g + 1, c :: r, acc, h1, h2 => by
    simp only [List.length_cons] at h1 h2
    rw [tokC, tokC]
    split
    · exact tokC_fuel f g r acc (by omega) (by omega)
    · split
      · rename_i h3
        have := dropWhile_lt (nB_hash h3) r
        simp only [List.length_cons] at this
        exact tokC_fuel f g _ acc (by omega) (by omega)
      · cases hs : stepC (c :: r) with
        | err e => rfl
        | tok t r' =>
          have := stepC_len hs
          simp only [List.length_cons] at this
          exact tokC_fuel f g r' _ (by omega) (by omega)

def tokT (cs : List Ch) (acc : List TokT) : Option (List TokT) × Int := tokC (cs.length + 1) cs acc
theorem tokC_T {f : Nat} {cs : List Ch} {acc : List TokT} (h : cs.length < f) : tokC f cs acc = tokT cs acc := tokC_fuel _ _ _ _ h (by omega)
theorem tokT_nil (acc : List TokT) : tokT [] acc = (some (acc ++ [noTok]), 0) := rfl
theorem tokT_cons (c : Ch) (r : List Ch) (acc : List TokT) : tokT (c :: r) acc = if classF c.1 = 0 then tokT r acc else if classF c.1 = 1 then tokT ((c :: r).dropWhile nB) acc else
    match stepC (c :: r) with
    | .err e => (none, e)
    | .tok t r' => tokT r' (acc ++ [t]) := by
  show tokC ((c :: r).length + 1) (c :: r) acc = _
  rw [tokC]
  split
  · rw [tokC_T (by simp)]
  · split
    · rename_i h1
      rw [tokC_T (dropWhile_lt (nB_hash h1) r)]
    · cases hs : stepC (c :: r) with
      | err e => rfl
      | tok t r' => exact tokC_T (stepC_len hs)

abbrev nlc : Ch := (10, [10])
theorem cls10 : classF ((nlc.1 : Nat) : Int) = 0 := by decide
theorem stepC_app (c : Ch) (r X : List Ch) : stepC (c :: (r ++ nlc :: X)) = match stepC (c :: r) with
    | .err e => .err e
    | .tok t r' => .tok t (r' ++ nlc :: X) := by
  have hw := takeWhile_stop (p := wB) (x := nlc) (by decide) (c :: r) X
  have hd := takeWhile_stop (p := dB) (x := nlc) (by decide) (c :: r) X
  rw [List.cons_append] at hw hd
  unfold stepC
  simp only [hw.1, hw.2, hd.1, hd.2]
  split
  · split <;> rfl
  · split
    · have : headW ((c :: r).dropWhile dB ++ nlc :: X) = headW ((c :: r).dropWhile dB) := by
        cases (c :: r).dropWhile dB with
        | nil => exact (by decide : wB nlc = false)
        | cons d l => rfl
      rw [this]
      split
      · rfl
      · split <;> simp_all
    · split
      · cases r with
        | nil =>
          have e1 : sign2 (c :: ([] ++ nlc :: X)) = false := by simp [sign2]
          have e2 : sign2 [c] = false := rfl
          rw [e1, e2]; rfl
        | cons d r =>
          have e1 : sign2 (c :: (d :: r ++ nlc :: X)) = sign2 (c :: d :: r) := rfl
          rw [e1]
          split <;> rfl
      · rfl

theorem tokT_app (X : List Ch) : ∀ (n : Nat) (A : List Ch) (acc : List TokT), A.length ≤ n → tokT (A ++ nlc :: X) acc = match tokT A acc with
    | (some l, _) => tokT (nlc :: X) l.dropLast
    | (none, e) => (none, e)
  | n, [], acc, _ => by rw [tokT_nil]; simp
  | 0, c :: r, acc, h => by simp at h
  | n + 1, c :: r, acc, h => by
    simp only [List.length_cons] at h
    rw [List.cons_append, tokT_cons, tokT_cons, stepC_app]
    split
    · exact tokT_app X n r acc (by omega)
    · split
      · rename_i h1
        have hd := takeWhile_stop (p := nB) (x := nlc) (by decide) (c :: r) X
        rw [List.cons_append] at hd
        rw [hd.2]
        have := dropWhile_lt (nB_hash h1) r
        simp only [List.length_cons] at this
        exact tokT_app X n _ acc (by omega)
      · cases hs : stepC (c :: r) with
        | err e => rfl
        | tok t r' =>
          have := stepC_len hs
          simp only [List.length_cons] at this
          exact tokT_app X n r' _ (by omega)

theorem tokT_acc (a : List TokT) : ∀ (n : Nat) (cs : List Ch) (b : List TokT), cs.length ≤ n → tokT cs (a ++ b) = match tokT cs b with
    | (some l, e) => (some (a ++ l), e)
    | (none, e) => (none, e)
  | n, [], b, _ => by rw [tokT_nil, tokT_nil, List.append_assoc]
  | 0, c :: r, b, h => by simp at h
  | n + 1, c :: r, b, h => by
    simp only [List.length_cons] at h
    rw [tokT_cons, tokT_cons]
    split
    · exact tokT_acc a n r b (by omega)
    · split
      · rename_i h1
        have := dropWhile_lt (nB_hash h1) r
        simp only [List.length_cons] at this
        exact tokT_acc a n _ b (by omega)
      · cases hs : stepC (c :: r) with
        | err e => rfl
        | tok t r' =>
          have := stepC_len hs
          simp only [List.length_cons] at this
          simp only
          rw [show a ++ b ++ [t] = a ++ (b ++ [t]) from List.append_assoc ..]
          exact tokT_acc a n r' _ (by omega)
theorem tokT_acc' (a : List TokT) (cs : List Ch) : tokT cs a = match tokT cs [] with
    | (some l, e) => (some (a ++ l), e)
    | (none, e) => (none, e) := by
  have := tokT_acc a _ cs [] (Nat.le_refl _)
  rwa [List.append_nil] at this

theorem stepC_err {cs : List Ch} {e : Int} (h : stepC cs = .err e) : e = 2 ∨ e = 10 := by
  unfold stepC at h
  repeat' split at h
  all_goals first | (injection h with h; omega) | (exact absurd h (by simp))
theorem tokT_ends : ∀ (n : Nat) (cs : List Ch) (acc : List TokT), cs.length ≤ n → (∃ l, tokT cs acc = (some (l ++ [noTok]), 0)) ∨ (∃ e, tokT cs acc = (none, e) ∧ (e = 2 ∨ e = 10))
  | n, [], acc, _ => .inl ⟨acc, rfl⟩
  | 0, c :: r, b, h => by simp at h
  | n + 1, c :: r, b, h => by
    simp only [List.length_cons] at h
    rw [tokT_cons]
    split
    · exact tokT_ends n r b (by omega)
    · split
      · rename_i h1
        have := dropWhile_lt (nB_hash h1) r
        simp only [List.length_cons] at this
        exact tokT_ends n _ b (by omega)
      · cases hs : stepC (c :: r) with
        | err e => exact .inr ⟨e, rfl, stepC_err hs⟩
        | tok t r' =>
          have := stepC_len hs
          simp only [List.length_cons] at this
          exact tokT_ends n r' _ (by omega)

/-- utf8.ValidString. -/
def vS (s : ByteArray) : Bool := validD s.data.toList
theorem chunks_len (l : List UInt8) : (chunks l).length ≤ l.length := by
  generalize hn : l.length = n
  induction n using Nat.strongRecOn generalizing l with
  | _ n ih =>
    by_cases h : l = []
    · subst h; simp [chunks_nil]
    · have hw := decodeL_width l
      have hl : 0 < l.length := List.length_pos_iff.2 h
      have := ih (l.drop (decodeL l).2).length (by rw [List.length_drop]; omega) _ rfl
      rw [chunks_step h, List.length_cons]
      rw [List.length_drop] at this; omega
theorem tokensF_T (s : ByteArray) (h : s.size ≤ 4000) : tokensF vS s = if vS s = false then (none, 10) else tokT (chunks s.data.toList) [] := by
  rw [tokensF, if_neg (by omega), tok_eq]
  have := chunks_len s.data.toList
  rw [len_data] at this
  rw [tokC_T (by omega)]

theorem low_chunks : ∀ (l : List UInt8), (∀ b ∈ l, b.toNat < 128) → chunks l = l.map fun b => (b.toNat, [b])
  | [], _ => rfl
  | b :: t, h => by rw [chunks_low (h b (by simp)), low_chunks t fun x hx => h x (by simp [hx])]; rfl

/-- A text of two, with a remark between. -/
def linesT (a m b : ByteArray) : List UInt8 := a.data.toList ++ 10 :: 35 :: (m.data.toList ++ 10 :: b.data.toList)
theorem edge10 (t : List UInt8) : Edge (10 :: t) := edge_low (by decide)
theorem lines_chunks (a m b : ByteArray) (hm : ∀ x ∈ m.data.toList, x.toNat < 128) : chunks (linesT a m b) = chunks a.data.toList ++ nlc :: (35, [35]) :: (m.data.toList.map (fun b => (b.toNat, [b])) ++ nlc :: chunks b.data.toList) := by
  rw [linesT, chunks_app (edge10 _), chunks_low (by decide), chunks_low (by decide), chunks_app (edge10 _), chunks_low (by decide), low_chunks _ hm]
  rfl
theorem all_low (l : List UInt8) (h : ∀ b ∈ l, b.toNat < 128) : (l.map fun b => ((b.toNat, [b]) : Ch)).all okCh = true := by
  rw [List.all_eq_true]
  intro c hc
  obtain ⟨b, hb, rfl⟩ := List.mem_map.1 hc
  have := h b hb
  simp [okCh]; omega
theorem lines_valid (a m b : ByteArray) (hm : ∀ x ∈ m.data.toList, x.toNat < 128) : validD (linesT a m b) = (vS a && vS b) := by
  rw [valid_chunks, lines_chunks a m b hm, List.all_append, List.all_cons, List.all_cons, List.all_append, List.all_cons, all_low _ hm, vS, vS, valid_chunks, valid_chunks]
  rw [show okCh nlc = true from by decide, show okCh ((35, [35]) : Ch) = true from by decide]
  simp
theorem tokT_lines (m b : List UInt8) (hm : ∀ x ∈ m, x.toNat ≠ 10) (acc : List TokT) : tokT (nlc :: (35, [35]) :: (m.map (fun b => ((b.toNat, [b]) : Ch)) ++ nlc :: chunks b)) acc = tokT (chunks b) acc := by
  rw [tokT_cons, if_pos cls10, tokT_cons, if_neg (by decide), if_pos (by decide), ← List.cons_append, (takeWhile_stop (p := nB) (x := nlc) (by decide) _ _).2]
  have : List.dropWhile nB ((35, [35]) :: m.map (fun b => ((b.toNat, [b]) : Ch))) = [] := by
    refine dropWhile_nil fun c hc => ?_
    rcases List.mem_cons.1 hc with rfl | hc
    · decide
    · obtain ⟨x, hx, rfl⟩ := List.mem_map.1 hc
      have := hm x hx
      simp [nB]; omega
  rw [this, List.nil_append, tokT_cons, if_pos cls10]

theorem lines_law (a m b S : ByteArray) (ha : a.size ≤ 500) (hb : b.size ≤ 500) (hms : m.size ≤ 100) (hm : ∀ x ∈ m.data.toList, x.toNat < 128 ∧ x.toNat ≠ 10) (hS : S.data.toList = linesT a m b) :
    match tokensF vS a, tokensF vS b with
    | (none, e), (none, f) => (tokensF vS S = (none, e) ∨ tokensF vS S = (none, f)) ∧ e ≠ 0 ∧ f ≠ 0
    | (none, e), (some _, f) => tokensF vS S = (none, e) ∧ e ≠ 0 ∧ f = 0
    | (some _, e), (none, f) => tokensF vS S = (none, f) ∧ e = 0 ∧ f ≠ 0
    | (some l, e), (some k, f) => tokensF vS S = (some (l.dropLast ++ k), 0) ∧ e = 0 ∧ f = 0 := by
  have hsz : S.size ≤ 4000 := by
    rw [← len_data, hS, linesT]
    simp only [List.length_append, List.length_cons, len_data]; omega
  have hm1 : ∀ x ∈ m.data.toList, x.toNat < 128 := fun x hx => (hm x hx).1
  rw [tokensF_T a (by omega), tokensF_T b (by omega), tokensF_T S hsz]
  have hv : vS S = (vS a && vS b) := by rw [vS, hS, lines_valid a m b hm1]
  rw [hv, hS, lines_chunks a m b hm1, tokT_app _ _ _ _ (Nat.le_refl _), ]
  have hX := fun acc => tokT_lines m.data.toList b.data.toList (fun x hx => (hm x hx).2) acc
  cases hva : vS a with
  | false =>
    rw [Bool.false_and, if_pos rfl, if_pos rfl]
    cases hvb : vS b with
    | false => rw [if_pos rfl]; exact ⟨.inl rfl, by decide, by decide⟩
    | true =>
      rw [if_neg (by simp)]
      rcases tokT_ends _ (chunks b.data.toList) [] (Nat.le_refl _) with ⟨l, h⟩ | ⟨e, h, he⟩
      · rw [h]; exact ⟨rfl, by decide, rfl⟩
      · rw [h]; exact ⟨.inl rfl, by decide, by omega⟩
  | true =>
    rw [Bool.true_and, if_neg (by simp)]
    cases hvb : vS b with
    | false =>
      rw [if_pos rfl, if_pos rfl]
      rcases tokT_ends _ (chunks a.data.toList) [] (Nat.le_refl _) with ⟨l, h⟩ | ⟨e, h, he⟩
      · rw [h]; exact ⟨rfl, rfl, by decide⟩
      · rw [h]; exact ⟨.inr rfl, by omega, by decide⟩
    | true =>
      rw [if_neg (by simp), if_neg (by simp)]
      rcases tokT_ends _ (chunks a.data.toList) [] (Nat.le_refl _) with ⟨l, h⟩ | ⟨e, h, he⟩
      · rw [h]
        have h2 := hX ((l ++ [noTok]).dropLast)
        have h3 := tokT_acc' ((l ++ [noTok]).dropLast) (chunks b.data.toList)
        rcases tokT_ends _ (chunks b.data.toList) [] (Nat.le_refl _) with ⟨k, g⟩ | ⟨f, g, hf⟩
        · rw [g] at h3 ⊢
          exact ⟨h2.trans h3, rfl, rfl⟩
        · rw [g] at h3 ⊢
          exact ⟨h2.trans h3, rfl, by omega⟩
      · rw [h]
        rcases tokT_ends _ (chunks b.data.toList) [] (Nat.le_refl _) with ⟨k, g⟩ | ⟨f, g, hf⟩
        · rw [g]; exact ⟨rfl, by omega, rfl⟩
        · rw [g]; exact ⟨.inl rfl, by omega, by omega⟩
end Go.Ax
