/- What the card of this claim stands on, or the card itself: for every input, as the given row says. -/
import Derived.Lib.Join
import Derived.Lib.ItoaNum
import Derived.Test.YtjcgfiidbpailaaDoorSA06
import Derived.Test.YtjcgfiidbpailaaDoorSA08
import Derived.Test.YtjcgfiidbpailaaDoorSA09
namespace Go.Ax
open Go.Lib
set_option maxRecDepth 10000
theorem takeWhile_stop {α : Type} {p : α → Bool} {x : α} (hx : p x = false) (A X : List α) : (A ++ x :: X).takeWhile p = A.takeWhile p ∧ (A ++ x :: X).dropWhile p = A.dropWhile p ++ x :: X := by
  induction A with
  | nil => simp [hx]
  | cons a A ih =>
    rw [List.cons_append, List.takeWhile_cons, List.dropWhile_cons, List.takeWhile_cons, List.dropWhile_cons, ih.1, ih.2]
    cases p a <;> exact ⟨rfl, rfl⟩
theorem dropWhile_len {α : Type} (p : α → Bool) (l : List α) : (l.dropWhile p).length ≤ l.length := (List.dropWhile_suffix p).length_le
theorem dropWhile_lt {α : Type} {p : α → Bool} {x : α} (hx : p x = true) (l : List α) : ((x :: l).dropWhile p).length < (x :: l).length := by
  rw [List.dropWhile_cons, if_pos hx, List.length_cons]
  have := dropWhile_len p l
  omega
theorem stepC_len {c : Ch} {r r' : List Ch} {t : TokT} (h : stepC (c :: r) = .tok t r') : r'.length < (c :: r).length := by
  unfold stepC at h
  simp only at h
  split at h
  · rename_i h2
    split at h
    · exact absurd h (by simp)
    · injection h with _ h; subst h
      exact dropWhile_lt (by simp [wB, withinF, h2]) r
  · split at h
    · rename_i h3
      split at h
      · exact absurd h (by simp)
      · split at h
        · exact absurd h (by simp)
        · injection h with _ h; subst h
          exact dropWhile_lt (by simp [dB, isDigit, h3]) r
    · split at h
      · split at h
        · injection h with _ h; subst h; simp; omega
        · injection h with _ h; subst h; simp
      · exact absurd h (by simp)
theorem nB_hash {c : Ch} (h : classF c.1 = 1) : nB c = true := by
  unfold nB
  by_cases h10 : (c.1 : Int) = 10
  · rw [h10] at h; exact absurd h (by decide)
  · simpa using h10
theorem tokC_fuel : ∀ (f g : Nat) (cs : List Ch) (acc : List TokT), cs.length < f → cs.length < g → tokC f cs acc = tokC g cs acc
  | 0, g, cs, acc, h, _ => by omega
  | f + 1, 0, cs, acc, _, h => by omega
  | f + 1, g + 1, [], acc, _, _ => rfl
  | f + 1, g + 1, c :: r, acc, h1, h2 => by
    simp only [List.length_cons] at h1 h2
    rw [tokC, tokC]
    split
    · exact tokC_fuel f g r acc (by omega) (by omega)
    · split
      · rename_i h3
        have := dropWhile_lt (nB_hash h3) r
        simp only [List.length_cons] at this
        exact tokC_fuel f g _ acc (by omega) (by omega)
      · cases hs : stepC (c :: r) with
        | err e => rfl
        | tok t r' =>
          have := stepC_len hs
          simp only [List.length_cons] at this
          exact tokC_fuel f g r' _ (by omega) (by omega)
def tokT (cs : List Ch) (acc : List TokT) : Option (List TokT) × Int := tokC (cs.length + 1) cs acc
theorem tokC_T {f : Nat} {cs : List Ch} {acc : List TokT} (h : cs.length < f) : tokC f cs acc = tokT cs acc := tokC_fuel _ _ _ _ h (by omega)
theorem tokT_nil (acc : List TokT) : tokT [] acc = (some (acc ++ [noTok]), 0) := rfl
theorem tokT_cons (c : Ch) (r : List Ch) (acc : List TokT) : tokT (c :: r) acc = if classF c.1 = 0 then tokT r acc else if classF c.1 = 1 then tokT ((c :: r).dropWhile nB) acc else
    match stepC (c :: r) with
    | .err e => (none, e)
    | .tok t r' => tokT r' (acc ++ [t]) := by
  show tokC ((c :: r).length + 1) (c :: r) acc = _
  rw [tokC]
  split
  · rw [tokC_T (by simp)]
  · split
    · rename_i h1
      rw [tokC_T (dropWhile_lt (nB_hash h1) r)]
    · cases hs : stepC (c :: r) with
      | err e => rfl
      | tok t r' => exact tokC_T (stepC_len hs)
abbrev nlc : Ch := (10, [10])
theorem stepC_app (c : Ch) (r X : List Ch) : stepC (c :: (r ++ nlc :: X)) = match stepC (c :: r) with
    | .err e => .err e
    | .tok t r' => .tok t (r' ++ nlc :: X) := by
  have hw := takeWhile_stop (p := wB) (x := nlc) (by decide) (c :: r) X
  have hd := takeWhile_stop (p := dB) (x := nlc) (by decide) (c :: r) X
  rw [List.cons_append] at hw hd
  unfold stepC
  simp only [hw.1, hw.2, hd.1, hd.2]
  split
  · split <;> rfl
  · split
    · have : headW ((c :: r).dropWhile dB ++ nlc :: X) = headW ((c :: r).dropWhile dB) := by
        cases (c :: r).dropWhile dB with
        | nil => exact (by decide : wB nlc = false)
        | cons d l => rfl
      rw [this]
      split
      · rfl
      · split <;> simp_all
    · split
      · cases r with
        | nil =>
          have e1 : sign2 (c :: ([] ++ nlc :: X)) = false := by simp [sign2]
          have e2 : sign2 [c] = false := rfl
          rw [e1, e2]; rfl
        | cons d r =>
          have e1 : sign2 (c :: (d :: r ++ nlc :: X)) = sign2 (c :: d :: r) := rfl
          rw [e1]
          split <;> rfl
      · rfl
theorem tokT_app (X : List Ch) : ∀ (n : Nat) (A : List Ch) (acc : List TokT), A.length ≤ n → tokT (A ++ nlc :: X) acc = match tokT A acc with
    | (some l, _) => tokT (nlc :: X) l.dropLast
    | (none, e) => (none, e)
  | n, [], acc, _ => by rw [tokT_nil]; simp
  | 0, c :: r, acc, h => by simp at h
  | n + 1, c :: r, acc, h => by
    simp only [List.length_cons] at h
    rw [List.cons_append, tokT_cons, tokT_cons, stepC_app]
    split
    · exact tokT_app X n r acc (by omega)
    · split
      · rename_i h1
        have hd := takeWhile_stop (p := nB) (x := nlc) (by decide) (c :: r) X
        rw [List.cons_append] at hd
        rw [hd.2]
        have := dropWhile_lt (nB_hash h1) r
        simp only [List.length_cons] at this
        exact tokT_app X n _ acc (by omega)
      · cases hs : stepC (c :: r) with
        | err e => rfl
        | tok t r' =>
          have := stepC_len hs
          simp only [List.length_cons] at this
          exact tokT_app X n r' _ (by omega)
theorem stepC_err {cs : List Ch} {e : Int} (h : stepC cs = .err e) : e = 2 ∨ e = 10 := by
  unfold stepC at h
  repeat' split at h
  all_goals first | (injection h with h; omega) | (exact absurd h (by simp))
theorem tokT_ends : ∀ (n : Nat) (cs : List Ch) (acc : List TokT), cs.length ≤ n → (∃ l, tokT cs acc = (some (l ++ [noTok]), 0)) ∨ (∃ e, tokT cs acc = (none, e) ∧ (e = 2 ∨ e = 10))
  | n, [], acc, _ => .inl ⟨acc, rfl⟩
  | 0, c :: r, b, h => by simp at h
  | n + 1, c :: r, b, h => by
    simp only [List.length_cons] at h
    rw [tokT_cons]
    split
    · exact tokT_ends n r b (by omega)
    · split
      · rename_i h1
        have := dropWhile_lt (nB_hash h1) r
        simp only [List.length_cons] at this
        exact tokT_ends n _ b (by omega)
      · cases hs : stepC (c :: r) with
        | err e => exact .inr ⟨e, rfl, stepC_err hs⟩
        | tok t r' =>
          have := stepC_len hs
          simp only [List.length_cons] at this
          exact tokT_ends n r' _ (by omega)
def vS (s : ByteArray) : Bool := validD s.data.toList
theorem chunks_len (l : List UInt8) : (chunks l).length ≤ l.length := by
  generalize hn : l.length = n
  induction n using Nat.strongRecOn generalizing l with
  | _ n ih =>
    by_cases h : l = []
    · subst h; simp [chunks_nil]
    · have hw := decodeL_width l
      have hl : 0 < l.length := List.length_pos_iff.2 h
      have := ih (l.drop (decodeL l).2).length (by rw [List.length_drop]; omega) _ rfl
      rw [chunks_step h, List.length_cons]
      rw [List.length_drop] at this; omega
theorem tokensF_T (s : ByteArray) (h : s.size ≤ 4000) : tokensF vS s = if vS s = false then (none, 10) else tokT (chunks s.data.toList) [] := by
  rw [tokensF, if_neg (by omega), tok_eq]
  have := chunks_len s.data.toList
  rw [len_data] at this
  rw [tokC_T (by omega)]
theorem low_chunks : ∀ (l : List UInt8), (∀ b ∈ l, b.toNat < 128) → chunks l = l.map fun b => (b.toNat, [b])
  | [], _ => rfl
  | b :: t, h => by rw [chunks_low (h b (by simp)), low_chunks t fun x hx => h x (by simp [hx])]; rfl
theorem all_low (l : List UInt8) (h : ∀ b ∈ l, b.toNat < 128) : (l.map fun b => ((b.toNat, [b]) : Ch)).all okCh = true := by
  rw [List.all_eq_true]
  intro c hc
  obtain ⟨b, hb, rfl⟩ := List.mem_map.1 hc
  have := h b hb
  simp [okCh]; omega
end Go.Ax
namespace Go.Ax
open Go.Lib
set_option maxRecDepth 10000
def lowC (l : List UInt8) : List Ch := l.map fun b => (b.toNat, [b])
theorem flat_low : ∀ l : List UInt8, flat (lowC l) = l
  | [] => rfl
  | b :: t => by show flat ((b.toNat, [b]) :: lowC t) = _; rw [flat_cons, flat_low t]; rfl
inductive TokOk : TokT → Prop
  | word (c : Ch) (r : List Ch) (hg : GoodC (c :: r)) (hw : ∀ d ∈ c :: r, wB d = true) (hc : classF c.1 = 2) (hl : (c :: r).length ≤ 20) (ok : (c :: r).all okCh = true) : TokOk ⟨1, baOf (c :: r), 0⟩
  | num (v : Nat) (h : v ≤ 65535) : TokOk ⟨2, ⟨#[]⟩, v⟩
  | one (c : Ch) (hg : GoodC [c]) (hc : classF c.1 = 5) (ok : [c].all okCh = true) : TokOk ⟨3, baOf [c], 0⟩
  | two (c d : Ch) (hg : GoodC [c, d]) (hc : classF c.1 = 5) (hs : sign2 [c, d] = true) (ok : [c, d].all okCh = true) : TokOk ⟨3, baOf [c, d], 0⟩
def txtB (t : TokT) : List UInt8 := if t.kind = 2 then decDigits t.n.toNat else t.s.data.toList
theorem baOf_data (cs : List Ch) : (baOf cs).data.toList = flat cs := by simp [baOf]
theorem dec_digit : ∀ (u : Nat), ∀ b ∈ decDigits u, 48 ≤ b.toNat ∧ b.toNat ≤ 57 := by
  intro u
  induction u using Nat.strongRecOn with
  | _ u ih =>
    intro b hb
    rw [decDigits] at hb
    have hd : ∀ k, k < 10 → (UInt8.ofNat (48 + k)).toNat = 48 + k := fun k hk => by
      simp only [UInt8.toNat_ofNat']; omega
    split at hb
    · rename_i h
      rw [List.mem_singleton] at hb; subst hb
      have := hd u h; omega
    · rename_i h
      rcases List.mem_append.1 hb with hb | hb
      · exact ih (u / 10) (by omega) b hb
      · rw [List.mem_singleton] at hb; subst hb
        have := hd (u % 10) (by omega); omega
theorem dec_ne (u : Nat) : decDigits u ≠ [] := by
  rw [decDigits]; split <;> simp
theorem numC_app : ∀ (a b : List Ch) (v : Int), numC (a ++ b) v = (numC a v).bind (numC b)
  | [], b, v => rfl
  | c :: a, b, v => by
    simp only [List.cons_append, numC]
    split
    · rfl
    · exact numC_app a b _
theorem numC_dec : ∀ (u : Nat), u ≤ 65535 → numC (lowC (decDigits u)) 0 = some (u : Int) := by
  intro u
  induction u using Nat.strongRecOn with
  | _ u ih =>
    intro hu
    have hd : ∀ k, k < 10 → (UInt8.ofNat (48 + k)).toNat = 48 + k := fun k hk => by
      simp only [UInt8.toNat_ofNat']; omega
    rw [decDigits]
    split
    · rename_i h
      have h1 := hd u h
      simp only [lowC, List.map_cons, List.map_nil, numC, h1]
      rw [if_neg (by omega)]
      exact congrArg some (by omega)
    · rename_i h
      have h1 := hd (u % 10) (by omega)
      have h2 := ih (u / 10) (by omega) (by omega)
      rw [lowC, List.map_append]
      rw [lowC] at h2
      rw [numC_app, h2]
      simp only [List.map_cons, List.map_nil, Option.bind_some, numC, h1]
      rw [if_neg (by omega)]
      exact congrArg some (by omega)
theorem dec_len5 (u : Nat) (h : u ≤ 65535) : (decDigits u).length ≤ 5 := by
  have one : ∀ k, k < 10 → (decDigits k).length ≤ 1 := fun k hk => by rw [decDigits_one hk]; simp
  have st : ∀ k n, (decDigits (k / 10)).length ≤ n → (decDigits k).length ≤ n + 1 := fun k n hn => by
    rw [decDigits]; split
    · simp
    · simp; exact hn
  exact st _ _ (st _ _ (st _ _ (st _ _ (one _ (by omega)))))
theorem isDigit_of {c : Int} (h : 48 ≤ c ∧ c ≤ 57) : isDigit c = true := by
  have : c = 48 ∨ c = 49 ∨ c = 50 ∨ c = 51 ∨ c = 52 ∨ c = 53 ∨ c = 54 ∨ c = 55 ∨ c = 56 ∨ c = 57 := by omega
  rcases this with rfl | rfl | rfl | rfl | rfl | rfl | rfl | rfl | rfl | rfl <;> decide
theorem numC_range : ∀ (cs : List Ch) (v : Int), (∀ c ∈ cs, dB c = true) → 0 ≤ v → v ≤ 65535 → ∀ w, numC cs v = some w → 0 ≤ w ∧ w ≤ 65535
  | [], v, _, h0, h1, w, h => by simp only [numC] at h; injection h with h; omega
  | c :: cs, v, hc, h0, h1, w, h => by
    simp only [numC] at h
    have := isDigit_iff (hc c (by simp))
    split at h
    · exact absurd h (by simp)
    · exact numC_range cs _ (fun d hd => hc d (by simp [hd])) (by omega) (by omega) w h
def wt (l : List TokT) : Nat := (l.map fun t => (txtB t).length + 1).sum
theorem wt_app (a b : List TokT) : wt (a ++ b) = wt a + wt b := by simp [wt]
theorem wt_one (t : TokT) : wt [t] = (txtB t).length + 1 := by simp [wt]
theorem GoodC.pos {c : Ch} {cs : List Ch} (h : GoodC (c :: cs)) : 1 ≤ (flat (c :: cs)).length := by
  have := List.length_pos_iff.2 h.ne.1
  rw [flat_cons, List.length_append]; omega
theorem all_split {A B : List Ch} (h : (A ++ B).all okCh = true) : A.all okCh = true ∧ B.all okCh = true := by
  rw [List.all_append, Bool.and_eq_true] at h; exact h
theorem stepC_ok {c : Ch} {r r' : List Ch} {t : TokT} (hg : GoodC (c :: r)) (ok : (c :: r).all okCh = true) (h : stepC (c :: r) = .tok t r') : TokOk t ∧ GoodC r' ∧ r'.all okCh = true ∧ (txtB t).length + 1 + 6 * (flat r').length ≤ 6 * (flat (c :: r)).length := by
  unfold stepC at h
  simp only at h
  split at h
  · rename_i h2
    split at h
    · exact absurd h (by simp)
    · rename_i h20
      injection h with h1 h; subst h; subst h1
      have hwc : wB c = true := by simp [wB, withinF, h2]
      have e := List.takeWhile_append_dropWhile (p := wB) (l := c :: r)
      have hg' := hg; have ok' := ok
      rw [← e] at hg' ok'
      have e3 : (flat (c :: r)).length = (flat ((c :: r).takeWhile wB)).length + (flat ((c :: r).dropWhile wB)).length := by
        rw [← List.length_append, ← flat_append, e]
      have hta := takeWhile_all wB (c :: r)
      have htw : (c :: r).takeWhile wB = c :: r.takeWhile wB := by rw [List.takeWhile_cons, if_pos hwc]
      have hgp := hg'.pre
      have hall := (all_split ok').1
      rw [htw] at hgp hall hta h20 e3 ⊢
      refine ⟨.word _ _ hgp hta h2 (by omega) hall, hg'.suf, (all_split ok').2, ?_⟩
      have e4 : (txtB ⟨1, baOf (c :: r.takeWhile wB), 0⟩).length = (flat (c :: r.takeWhile wB)).length := by simp only [txtB]; rw [if_neg (by decide), baOf_data]
      have := hgp.pos
      rw [e4, e3]; omega
  · split at h
    · rename_i h3
      split at h
      · exact absurd h (by simp)
      · cases hn : numC ((c :: r).takeWhile dB) 0 with
        | none => rw [hn] at h; exact absurd h (by simp)
        | some v =>
          rw [hn] at h
          injection h with h1 h; subst h; subst h1
          have hdc : dB c = true := by simp [dB, isDigit, h3]
          have e := List.takeWhile_append_dropWhile (p := dB) (l := c :: r)
          have hg' := hg; have ok' := ok
          rw [← e] at hg' ok'
          have e3 : (flat (c :: r)).length = (flat ((c :: r).takeWhile dB)).length + (flat ((c :: r).dropWhile dB)).length := by
            rw [← List.length_append, ← flat_append, e]
          have hta := takeWhile_all dB (c :: r)
          have htw : (c :: r).takeWhile dB = c :: r.takeWhile dB := by rw [List.takeWhile_cons, if_pos hdc]
          have hgp := hg'.pre
          obtain ⟨v0, v1⟩ := numC_range _ 0 hta (by omega) (by omega) v hn
          rw [htw] at hgp e3
          have hv : v = (v.toNat : Int) := by omega
          refine ⟨by rw [hv]; exact .num v.toNat (by omega), hg'.suf, (all_split ok').2, ?_⟩
          have e4 : (txtB ⟨2, ⟨#[]⟩, v⟩).length ≤ 5 := by
            unfold txtB
            rw [if_pos rfl]
            show (decDigits v.toNat).length ≤ 5
            exact dec_len5 _ (by omega)
          have := hgp.pos
          rw [e3]; omega
    · split at h
      · rename_i h5
        split at h
        · rename_i hs
          injection h with h1 h; subst h; subst h1
          obtain ⟨d, r2, hr⟩ := sign2_two hs
          subst hr
          have hgp : GoodC [c, d] := (show GoodC ([c, d] ++ r2) from hg).pre
          have hal := all_split (A := [c, d]) (B := r2) ok
          refine ⟨.two c d hgp h5 hs hal.1, hg.tail.tail, hal.2, ?_⟩
          have e4 : (txtB ⟨3, baOf [c, d], 0⟩).length = (flat [c, d]).length := by simp only [txtB]; rw [if_neg (by decide), baOf_data]
          have := hgp.pos
          show (txtB ⟨3, baOf [c, d], 0⟩).length + 1 + 6 * (flat r2).length ≤ 6 * (flat ([c, d] ++ r2)).length
          rw [e4, flat_append, List.length_append]; omega
        · injection h with h1 h; subst h; subst h1
          have hgp : GoodC [c] := (show GoodC ([c] ++ r) from hg).pre
          have hal := all_split (A := [c]) (B := r) ok
          refine ⟨.one c hgp h5 hal.1, hg.tail, hal.2, ?_⟩
          have e4 : (txtB ⟨3, baOf [c], 0⟩).length = (flat [c]).length := by simp only [txtB]; rw [if_neg (by decide), baOf_data]
          have := hgp.pos
          show (txtB ⟨3, baOf [c], 0⟩).length + 1 + 6 * (flat r).length ≤ 6 * (flat ([c] ++ r)).length
          rw [e4, flat_append, List.length_append]; omega
      · exact absurd h (by simp)
theorem tokT_ok : ∀ (n : Nat) (cs : List Ch) (acc : List TokT), cs.length ≤ n → GoodC cs → cs.all okCh = true → (∀ t ∈ acc, TokOk t) → ∀ m e, tokT cs acc = (some m, e) → ∃ l, m = l ++ [noTok] ∧ (∀ t ∈ l, TokOk t) ∧ wt l ≤ wt acc + 6 * (flat cs).length
  | n, [], acc, _, _, _, ha, m, e, h => by
    rw [tokT_nil] at h
    injection h with h _; injection h with h
    exact ⟨acc, h.symm, ha, by omega⟩
  | 0, c :: r, b, h, _, _, _, _, _, _ => by simp at h
  | n + 1, c :: r, acc, hlen, hg, ok, ha, m, e, h => by
    simp only [List.length_cons] at hlen
    have hfl : (flat (c :: r)).length = c.2.length + (flat r).length := by rw [flat_cons, List.length_append]
    rw [tokT_cons] at h
    split at h
    · obtain ⟨l, h1, h2, h3⟩ := tokT_ok n r acc (by omega) hg.tail (by rw [List.all_cons, Bool.and_eq_true] at ok; exact ok.2) ha m e h
      exact ⟨l, h1, h2, by omega⟩
    · split at h
      · rename_i h1
        have hd := dropWhile_lt (nB_hash h1) r
        simp only [List.length_cons] at hd
        have e1 := List.takeWhile_append_dropWhile (p := nB) (l := c :: r)
        have hg' := hg; have ok' := ok
        rw [← e1] at hg' ok'
        have e3 : (flat (c :: r)).length = (flat ((c :: r).takeWhile nB)).length + (flat ((c :: r).dropWhile nB)).length := by
          rw [← List.length_append, ← flat_append, e1]
        obtain ⟨l, h1, h2, h3⟩ := tokT_ok n _ acc (by omega) hg'.suf (all_split ok').2 ha m e h
        exact ⟨l, h1, h2, by omega⟩
      · cases hs : stepC (c :: r) with
        | err e => rw [hs] at h; exact absurd h (by simp)
        | tok t r' =>
          rw [hs] at h
          obtain ⟨g1, g2, g3, g4⟩ := stepC_ok hg ok hs
          have hl := stepC_len hs
          simp only [List.length_cons] at hl
          obtain ⟨l, h1, h2, h3⟩ := tokT_ok n r' (acc ++ [t]) (by omega) g2 g3 (fun x hx => (List.mem_append.1 hx).elim (ha x) fun hx => by simp at hx; subst hx; exact g1) m e h
          refine ⟨l, h1, h2, ?_⟩
          rw [wt_app, wt_one] at h3
          omega
end Go.Ax
namespace Go.Ax
open Go.Proofs Go.Lib
set_option maxRecDepth 10000
inductive Lx where
  | w (l : List UInt8)
  | n (k : Nat)
  | m (l : List UInt8)
  | s (b : UInt8)
def Lx.txt : Lx → List UInt8
  | .w l => l
  | .n k => decDigits k
  | .m l => l
  | .s b => [b]
def Lx.tok : Lx → List TokT
  | .w l => [⟨1, ⟨l.toArray⟩, 0⟩]
  | .n k => [⟨2, ⟨#[]⟩, k⟩]
  | .m l => [⟨3, ⟨l.toArray⟩, 0⟩]
  | .s _ => []
def signs : List (List UInt8) := [[40], [41], [33], [64], [61], [59], [43], [38], [46], [58, 61], [61, 62]]
def Lx.ok : Lx → Bool
  | .w l => !l.isEmpty && decide (l.length ≤ 20) && l.all fun b => decide (97 ≤ b.toNat) && decide (b.toNat ≤ 122)
  | .n k => decide (k ≤ 65535)
  | .m l => signs.contains l
  | .s b => b == 32 || b == 10
def Lx.wl : Lx → Bool
  | .w _ => true
  | .n _ => true
  | _ => false
def sepX : List Lx → Bool
  | [] => true
  | [_] => true
  | x :: y :: r => !(x.wl && y.wl) && sepX (y :: r)
def txtX (L : List Lx) : List UInt8 := (L.map Lx.txt).flatten
def tokX (L : List Lx) : List TokT := (L.map Lx.tok).flatten
theorem txtX_app (a b : List Lx) : txtX (a ++ b) = txtX a ++ txtX b := by simp [txtX]
theorem tokX_app (a b : List Lx) : tokX (a ++ b) = tokX a ++ tokX b := by simp [tokX]
theorem txtX_cons (x : Lx) (b : List Lx) : txtX (x :: b) = x.txt ++ txtX b := by simp [txtX]
theorem tokX_cons (x : Lx) (b : List Lx) : tokX (x :: b) = x.tok ++ tokX b := by simp [tokX]
theorem sepX_mid {x : Lx} (h : x.wl = false) : ∀ (a b : List Lx), sepX a = true → sepX b = true → sepX (a ++ x :: b) = true
  | [], [], _, _ => rfl
  | [], y :: b, _, hb => by simp [sepX, h]; exact hb
  | [z], b, _, hb => by
    have := sepX_mid h [] b rfl hb
    simp only [List.nil_append] at this
    simp [sepX, h, this]
  | z :: y :: a, b, ha, hb => by
    simp only [sepX, Bool.and_eq_true] at ha
    have := sepX_mid h (y :: a) b ha.2 hb
    simp only [List.cons_append] at this ⊢
    simp [sepX, this]
    simpa using ha.1
theorem letter_cls : ∀ b : UInt8, (decide (97 ≤ b.toNat) && decide (b.toNat ≤ 122)) = true → classF ((b.toNat : Nat) : Int) = 2 := by
  have h : ∀ n, n < 256 → 97 ≤ n → n ≤ 122 → classF ((n : Nat) : Int) = 2 := by decide +kernel
  intro b hb
  simp only [Bool.and_eq_true, decide_eq_true_eq] at hb
  exact h b.toNat b.toNat_lt hb.1 hb.2
theorem sign_first : ∀ l ∈ signs, ∃ b r, l = b :: r ∧ classF ((b.toNat : Nat) : Int) = 5 ∧ b.toNat < 128 ∧ b ≠ 62 := by
  intro l hl
  simp only [signs, List.mem_cons, List.not_mem_nil, or_false] at hl
  rcases hl with rfl | rfl | rfl | rfl | rfl | rfl | rfl | rfl | rfl | rfl | rfl <;> exact ⟨_, _, rfl, by decide, by decide, by decide⟩
theorem blank_cls {b : UInt8} (h : (b == 32 || b == 10) = true) : classF ((b.toNat : Nat) : Int) = 0 ∧ b ≠ 62 := by
  rw [Bool.or_eq_true, beq_iff_eq, beq_iff_eq] at h
  rcases h with rfl | rfl <;> exact ⟨by decide, by decide⟩
theorem tw_stop {p : Ch → Bool} : ∀ {A r : List Ch}, (∀ c ∈ A, p c = true) → (∀ c, r.head? = some c → p c = false) → (A ++ r).takeWhile p = A ∧ (A ++ r).dropWhile p = r
  | [], [], _, _ => ⟨rfl, rfl⟩
  | [], c :: r, _, hr => by
    have := hr c rfl
    simp [this]
  | a :: A, r, hA, hr => by
    have ha := hA a (by simp)
    obtain ⟨h1, h2⟩ := tw_stop (A := A) (r := r) (fun c hc => hA c (by simp [hc])) hr
    simp [ha, h1, h2]
theorem first_of {x : Lx} (h : x.ok = true) : ∃ b r, x.txt = b :: r ∧ b.toNat < 128 ∧ b ≠ 62 ∧ (x.wl = false → wB (b.toNat, [b]) = false ∧ dB (b.toNat, [b]) = false) := by
  cases x with
  | w l =>
    simp only [Lx.ok, Bool.and_eq_true] at h
    cases l with
    | nil => simp at h
    | cons b r =>
      have hb := h.2
      simp only [List.all_cons, Bool.and_eq_true, decide_eq_true_eq] at hb
      exact ⟨b, r, rfl, by omega, fun e => by rw [e] at hb; exact absurd hb.1.1 (by decide), by simp [Lx.wl]⟩
  | n k =>
    cases hd : decDigits k with
    | nil => exact absurd hd (dec_ne k)
    | cons b r =>
      have hb := dec_digit k b (by rw [hd]; simp)
      exact ⟨b, r, hd, by omega, fun e => by rw [e] at hb; exact absurd hb.2 (by decide), by simp [Lx.wl]⟩
  | m l =>
    obtain ⟨b, r, rfl, h1, h2, h3⟩ := sign_first l (by simpa [Lx.ok] using h)
    refine ⟨b, r, rfl, h2, h3, fun _ => ⟨?_, ?_⟩⟩
    · simp only [wB, withinF, h1]; rfl
    · simp only [dB, isDigit, h1]; rfl
  | s b =>
    obtain ⟨h1, h2⟩ := blank_cls h
    refine ⟨b, [], rfl, ?_, h2, fun _ => ⟨?_, ?_⟩⟩
    · simp only [Lx.ok, Bool.or_eq_true, beq_iff_eq] at h
      rcases h with rfl | rfl <;> decide
    · simp only [wB, withinF, h1]; rfl
    · simp only [dB, isDigit, h1]; rfl
theorem lowC_app (a b : List UInt8) : lowC (a ++ b) = lowC a ++ lowC b := by simp [lowC]
theorem low_word {l : List UInt8} (h : (l.all fun b => decide (97 ≤ b.toNat) && decide (b.toNat ≤ 122)) = true) : ∀ c ∈ lowC l, wB c = true := fun c hc => by
  obtain ⟨b, hb, rfl⟩ := List.mem_map.1 hc
  have := letter_cls b (List.all_eq_true.1 h b hb)
  simp only [wB, withinF, this]; rfl
theorem baOf_low (l : List UInt8) : baOf (lowC l) = ⟨l.toArray⟩ := by rw [baOf, flat_low]
theorem tok_step {x : Lx} (hx : x.ok = true) (r : List Ch) (acc : List TokT) (hr : x.wl = true → ∀ c, r.head? = some c → wB c = false ∧ dB c = false) (hr2 : ∀ c, r.head? = some c → c.1 ≠ 62) : tokT (lowC x.txt ++ r) acc = tokT r (acc ++ x.tok) := by
  cases x with
  | w l =>
    simp only [Lx.ok, Bool.and_eq_true, decide_eq_true_eq] at hx
    obtain ⟨⟨hne, hlen⟩, hall⟩ := hx
    obtain ⟨e1, e2⟩ := tw_stop (p := wB) (low_word hall) fun c hc => (hr rfl c hc).1
    cases l with
    | nil => simp at hne
    | cons b l =>
      have hb := letter_cls b (by simp only [List.all_cons, Bool.and_eq_true] at hall; simpa using hall.1)
      have hst : stepC (lowC (b :: l) ++ r) = .tok ⟨1, ⟨(b :: l).toArray⟩, 0⟩ r := by
        unfold stepC
        show (if classF ((b.toNat : Nat) : Int) = 2 then _ else _) = _
        rw [if_pos hb]
        show (if 20 < ((lowC (b :: l) ++ r).takeWhile wB).length then _ else StepR.tok ⟨1, baOf ((lowC (b :: l) ++ r).takeWhile wB), 0⟩ ((lowC (b :: l) ++ r).dropWhile wB)) = _
        rw [e1, e2, if_neg (by simp [lowC]; simp at hlen; omega), baOf_low]
      show tokT ((b.toNat, [b]) :: (lowC l ++ r)) acc = _
      rw [tokT_cons, if_neg (by show ¬ classF ((b.toNat : Nat) : Int) = 0; omega), if_neg (by show ¬ classF ((b.toNat : Nat) : Int) = 1; omega)]
      have hst : stepC ((b.toNat, [b]) :: (lowC l ++ r)) = _ := hst
      rw [hst]; rfl
  | n k =>
    have hk : k ≤ 65535 := by simpa [Lx.ok] using hx
    have hd : ∀ c ∈ lowC (decDigits k), dB c = true := fun c hc => by
      obtain ⟨b, hb, rfl⟩ := List.mem_map.1 hc
      have := dec_digit k b hb
      exact isDigit_of (by omega)
    obtain ⟨e1, e2⟩ := tw_stop (p := dB) hd fun c hc => (hr rfl c hc).2
    have hn := numC_dec k hk
    have hh : headW r = false := by
      cases r with
      | nil => rfl
      | cons c r => exact (hr rfl c rfl).1
    show tokT (lowC (decDigits k) ++ r) acc = _
    cases hl : decDigits k with
    | nil => exact absurd hl (dec_ne k)
    | cons b l =>
      rw [hl] at e1 e2 hn hd
      have hb : classF ((b.toNat : Nat) : Int) = 3 := by have := hd (b.toNat, [b]) (by simp [lowC]); simpa [dB, isDigit] using this
      have hst : stepC (lowC (b :: l) ++ r) = .tok ⟨2, ⟨#[]⟩, k⟩ r := by
        unfold stepC
        show (if classF ((b.toNat : Nat) : Int) = 2 then _ else if classF ((b.toNat : Nat) : Int) = 3 then _ else _) = _
        rw [if_neg (by omega), if_pos hb]
        show (if headW ((lowC (b :: l) ++ r).dropWhile dB) then _ else match numC ((lowC (b :: l) ++ r).takeWhile dB) 0 with
          | none => _
          | some v => StepR.tok ⟨2, ⟨#[]⟩, v⟩ ((lowC (b :: l) ++ r).dropWhile dB)) = _
        rw [e1, e2, hh, hn]; rfl
      show tokT ((b.toNat, [b]) :: (lowC l ++ r)) acc = _
      rw [tokT_cons, if_neg (by show ¬ classF ((b.toNat : Nat) : Int) = 0; omega), if_neg (by show ¬ classF ((b.toNat : Nat) : Int) = 1; omega)]
      have hst : stepC ((b.toNat, [b]) :: (lowC l ++ r)) = _ := hst
      rw [hst]; rfl
  | m l =>
    have hm : l ∈ signs := by simpa [Lx.ok] using hx
    obtain ⟨b, t, rfl, hb, _⟩ := sign_first l hm
    have hst : stepC (lowC (b :: t) ++ r) = .tok ⟨3, ⟨(b :: t).toArray⟩, 0⟩ r := by
      unfold stepC
      show (if classF ((b.toNat : Nat) : Int) = 2 then _ else if classF ((b.toNat : Nat) : Int) = 3 then _ else if classF ((b.toNat : Nat) : Int) = 5 then _ else _) = _
      rw [if_neg (by omega), if_neg (by omega), if_pos hb]
      show (if sign2 (lowC (b :: t) ++ r) then StepR.tok ⟨3, baOf ((lowC (b :: t) ++ r).take 2), 0⟩ ((lowC (b :: t) ++ r).drop 2) else StepR.tok ⟨3, baOf ((lowC (b :: t) ++ r).take 1), 0⟩ ((lowC (b :: t) ++ r).drop 1)) = _
      simp only [signs, List.mem_cons, List.not_mem_nil, or_false] at hm
      rcases hm with hm | hm | hm | hm | hm | hm | hm | hm | hm | hm | hm <;> injection hm with q1 q2 <;> subst q1 <;> subst q2
      all_goals first
        | (have : sign2 (lowC [58, 61] ++ r) = true := rfl
           rw [this]; rfl)
        | (have : sign2 (lowC [61, 62] ++ r) = true := rfl
           rw [this]; rfl)
        | (cases r with
           | nil => rfl
           | cons c r =>
             have hc := hr2 c rfl
             simp [lowC, sign2, hc, baOf, flat])
    show tokT ((b.toNat, [b]) :: (lowC t ++ r)) acc = _
    rw [tokT_cons, if_neg (by show ¬ classF ((b.toNat : Nat) : Int) = 0; omega), if_neg (by show ¬ classF ((b.toNat : Nat) : Int) = 1; omega)]
    have hst : stepC ((b.toNat, [b]) :: (lowC t ++ r)) = _ := hst
    rw [hst]; rfl
  | s b =>
    obtain ⟨h1, _⟩ := blank_cls hx
    show tokT ((b.toNat, [b]) :: r) acc = tokT r (acc ++ [])
    rw [tokT_cons, if_pos h1, List.append_nil]
theorem tok_lx : ∀ (L : List Lx), (∀ x ∈ L, x.ok = true) → sepX L = true → ∀ acc, tokT (lowC (txtX L)) acc = (some (acc ++ tokX L ++ [noTok]), 0)
  | [], _, _, acc => by
    show tokT [] acc = _
    rw [tokT_nil]; simp [tokX]
  | x :: L, hok, hs, acc => by
    have hL : sepX L = true := by
      cases L with
      | nil => rfl
      | cons y L => simp only [sepX, Bool.and_eq_true] at hs; exact hs.2
    rw [txtX_cons, lowC_app, tok_step (hok x (by simp)), tok_lx L (fun y hy => hok y (by simp [hy])) hL, tokX_cons]
    · simp only [List.append_assoc]
    · intro hx c hc
      cases L with
      | nil => simp [txtX, lowC] at hc
      | cons y L =>
        simp only [sepX, Bool.and_eq_true, hx] at hs
        have hy : y.wl = false := by simpa using hs.1
        obtain ⟨b, r, e, _, _, h4⟩ := first_of (hok y (by simp))
        rw [txtX_cons, e] at hc
        simp [lowC] at hc
        subst hc
        exact h4 hy
    · intro c hc
      cases L with
      | nil => simp [txtX, lowC] at hc
      | cons y L =>
        obtain ⟨b, r, e, _, h3, _⟩ := first_of (hok y (by simp))
        rw [txtX_cons, e] at hc
        simp [lowC] at hc
        subst hc
        intro h
        apply h3
        exact UInt8.toNat_inj.1 h
end Go.Ax
namespace Go.Ax
open Go.Proofs
set_option maxRecDepth 10000
def EndT (l : List TokT) : Prop := ∃ i, l = i ++ [noTok]
theorem EndT.tail {t : TokT} {r : List TokT} (h : EndT (t :: r)) (hk : t.kind ≠ 0) : EndT r := by
  obtain ⟨i, hi⟩ := h
  cases i with
  | nil =>
    injection hi with h1 h2
    subst h1; exact absurd rfl hk
  | cons x i => injection hi with h1 h2; exact ⟨i, h2⟩
theorem EndT.not_nil (h : EndT []) : False := by obtain ⟨i, h⟩ := h; simp at h
structure SP where
  l : List TokT
  ok : EndT l
  ns : List (ByteArray × Int)
  unk : Bool
  twi : Bool
def entN (e : ByteArray × Int) : List D × D := ([.v (.string e.1)], .u16 e.2)
def objSP (p : SP) : AObj := .var [.d (.sl false 3 (p.l.map rowK)), .mp 9001, .bool p.unk, .bool p.twi]
def spH (p : SP) : HL := [(9000, some (objSP p)), (9001, some (.map false (p.ns.map entN)))]
abbrev Failed : List PanicEntry := [{ v := .iface 121 (.agg #[]), recovered := false }]
def hdT (p : SP) : TokT := p.l.headD noTok
def SP.tl (p : SP) (h : (hdT p).kind ≠ 0) : SP := ⟨p.l.tail, by
  obtain ⟨l, ok, _, _, _⟩ := p
  cases l with
  | nil => exact ok.not_nil.elim
  | cons t r => exact ok.tail h, p.ns, p.unk, p.twi⟩
def nextS (p : SP) : Option (TokT × SP) := if h : (hdT p).kind = 0 then none else some (hdT p, p.tl h)
theorem fail_ctr (g : GP) : Ctr (ax g).E 89 [.ptr 9000 0] [] (fun o => o = .pan Failed []) := by
  refine Ctr.body (X := ax g) _ 4 [] [] Tryd.func89 rfl rfl rfl rfl (by decide +kernel) rfl rfl ?_
  conv => whnf
  repeat' (first | (refine And.intro (by first | exact rfl | decide | exact Nat.le_of_ble_eq_true rfl | exact ⟨_, rfl⟩ | exact ⟨_, _, rfl⟩ | omega | (simp only []; omega) | exact True.intro | (simp only [IntKind.wrap_i64, List.length_map]; omega) | (simp only [List.map_cons, List.map_nil, List.length_cons, Option.getD]; omega) | (simp only [bsz, ByteArray.size_append, List.size_toArray, List.length_cons, List.length_nil]; omega)) ?_; conv => whnf) | (refine ifB_intro (fun hA => ?_) (fun hA => ?_) <;> (try rw [hA]) <;> (conv => whnf) <;> (first | replace hA := of_decide_eq_true hA | replace hA := of_decide_eq_false hA | replace hA := eq_of_beq hA | replace hA := ne_of_beq_false hA | replace hA := bne_iff_ne.1 hA | replace hA := bne_eq_false_iff_eq.1 hA | skip) <;> (try simp only [List.length_map, cond_true, cond_false, Bool.not_eq_true', Bool.not_eq_false', beq_iff_eq, beq_eq_false_iff_ne, ne_eq] at hA)))
  exact ⟨⟨[], trivial, rfl, rfl⟩⟩
theorem rest_rows (t : TokT) (r : List TokT) : List.take (((List.map rowK (t :: r)).length : Int).toNat - (1 : Int).toNat) (List.drop (1 : Int).toNat (List.map rowK (t :: r))) = List.map rowK r := by simp [← List.map_take]
theorem snext_ctr (g : GP) (p : SP) : Ctr (ax g).E 116 [.ptr 9000 0] (spH p) (fun o => o = outP Failed (fun x : TokT × SP => .dagg (rowK x.1)) (fun x => spH x.2) (nextS p)) := by
  obtain ⟨l, ok, ns, u, w⟩ := p
  cases l with
  | nil => exact ok.not_nil.elim
  | cons t r =>
    refine Ctr.body (X := ax g) _ 24 [9000, 9001] [.cell 2 114] Tryd.func116 rfl rfl rfl rfl (by decide +kernel) rfl rfl ?_
    conv => whnf
    repeat' (first | (refine And.intro (by first | exact rfl | decide | exact Nat.le_of_ble_eq_true rfl | exact ⟨_, rfl⟩ | exact ⟨_, _, rfl⟩ | omega | (simp only [List.length_map]; omega) | exact True.intro | (simp only [List.length_map]; omega) | (simp only [List.map_cons, List.length_cons, Option.getD]; omega) | (simp only [bsz, ByteArray.size_append, List.size_toArray, List.length_cons, List.length_nil]; omega)) ?_; conv => whnf) | (refine ifB_intro (fun hA => ?_) (fun hA => ?_) <;> (try rw [hA]) <;> (conv => whnf) <;> (first | replace hA := of_decide_eq_true hA | replace hA := of_decide_eq_false hA | replace hA := eq_of_beq hA | replace hA := ne_of_beq_false hA | replace hA := bne_iff_ne.1 hA | replace hA := bne_eq_false_iff_eq.1 hA | skip) <;> (try simp only [List.length_map, cond_true, cond_false, Bool.not_eq_true', Bool.not_eq_false', beq_iff_eq, beq_eq_false_iff_ne, ne_eq] at hA)) | (refine CallP.fails (fail_ctr g) ?_; (conv => whnf); refine ⟨⟨[], trivial, rfl, ?_⟩⟩))
    · simp [nextS, hdT, hA, outP]
    · refine ⟨⟨spH ⟨r, ok.tail hA, ns, u, w⟩, ?_⟩⟩
      conv => whnf
      refine And.intro ⟨fun o h => by rw [← h]; exact congrArg (fun z => some (AObj.var [.d (.sl false 3 z), .mp 9001, .bool u, .bool w])) (rest_rows t r), fun o h => h, trivial⟩ ?_
      repeat' (first | (refine And.intro (by first | exact rfl | decide | exact Nat.le_of_ble_eq_true rfl | exact ⟨_, rfl⟩ | exact ⟨_, _, rfl⟩ | omega | (simp only [List.length_map]; omega) | exact True.intro | (simp only [IntKind.wrap_i64, List.length_map]; omega) | (simp only [List.map_cons, List.map_nil, List.length_cons, Option.getD]; omega) | (simp only [bsz, ByteArray.size_append, List.size_toArray, List.length_cons, List.length_nil]; omega)) ?_; conv => whnf) | (refine ifB_intro (fun hA => ?_) (fun hA => ?_) <;> (try rw [hA]) <;> (conv => whnf) <;> (first | replace hA := of_decide_eq_true hA | replace hA := of_decide_eq_false hA | replace hA := eq_of_beq hA | replace hA := ne_of_beq_false hA | replace hA := bne_iff_ne.1 hA | replace hA := bne_eq_false_iff_eq.1 hA | skip) <;> (try simp only [List.length_map, cond_true, cond_false, Bool.not_eq_true', Bool.not_eq_false', beq_iff_eq, beq_eq_false_iff_ne, ne_eq] at hA)))
      simp [nextS, hdT, hA, outP, SP.tl]
      rfl
def peekS (p : SP) : ByteArray := if (hdT p).kind = 1 ∨ (hdT p).kind = 3 then (hdT p).s else ⟨#[]⟩
theorem speek_ctr (g : GP) (p : SP) : Ctr (ax g).E 117 [.ptr 9000 0] (spH p) (fun o => o = .ret (.str (peekS p)) (spH p)) := by
  obtain ⟨l, ok, ns, u, w⟩ := p
  cases l with
  | nil => exact ok.not_nil.elim
  | cons t r =>
    refine Ctr.body (X := ax g) _ 20 [9000, 9001] [.tmp 2] Tryd.func117 rfl rfl rfl rfl (by decide +kernel) rfl rfl ?_
    conv => whnf
    repeat' (first | (refine And.intro (by first | exact rfl | decide | exact Nat.le_of_ble_eq_true rfl | exact ⟨_, rfl⟩ | exact ⟨_, _, rfl⟩ | omega | (simp only [List.length_map]; omega) | exact True.intro | (simp only [List.length_map]; omega) | (simp only [List.map_cons, List.length_cons]; omega) | (simp only [bsz, ByteArray.size_append, List.size_toArray, List.length_cons, List.length_nil]; omega)) ?_; conv => whnf) | (refine ifB_intro (fun hA => ?_) (fun hA => ?_) <;> (try rw [hA]) <;> (conv => whnf) <;> (first | replace hA := of_decide_eq_true hA | replace hA := of_decide_eq_false hA | replace hA := eq_of_beq hA | replace hA := ne_of_beq_false hA | replace hA := bne_iff_ne.1 hA | replace hA := bne_eq_false_iff_eq.1 hA | skip) <;> (try simp only [List.length_map, cond_true, cond_false, Bool.not_eq_true', Bool.not_eq_false', beq_iff_eq, beq_eq_false_iff_ne, ne_eq] at hA)))
    all_goals (refine ⟨⟨spH ⟨t :: r, ok, ns, u, w⟩, ?_⟩⟩; (conv => whnf))
    repeat' (first | (refine And.intro (by first | exact rfl | decide | exact Nat.le_of_ble_eq_true rfl | exact ⟨_, rfl⟩ | exact ⟨_, _, rfl⟩ | omega | (simp only []; omega) | exact True.intro | (simp only []; omega) | (simp only [List.map_cons, List.map_nil, List.length_cons]; omega) | (simp only [List.length_cons, List.length_nil]; omega)) ?_; conv => whnf) | (refine ifB_intro (fun hA => ?_) (fun hA => ?_) <;> (try rw [hA]) <;> (conv => whnf) <;> (first | replace hA := of_decide_eq_true hA | replace hA := of_decide_eq_false hA | replace hA := eq_of_beq hA | replace hA := ne_of_beq_false hA | replace hA := bne_iff_ne.1 hA | replace hA := bne_eq_false_iff_eq.1 hA | skip) <;> (try simp only [List.length_map, cond_true, cond_false, Bool.not_eq_true', Bool.not_eq_false', beq_iff_eq, beq_eq_false_iff_ne, ne_eq] at hA)) | (refine And.intro ⟨fun o h => h, fun o h => h, trivial⟩ ?_; conv => whnf))
    all_goals simp_all [peekS, hdT]
theorem peek_kind {p : SP} {s : ByteArray} (hs : s ≠ ⟨#[]⟩) (h : (peekS p).data.toList = s.data.toList) : (hdT p).kind ≠ 0 := fun e => by
  simp only [peekS, e] at h
  apply hs
  have : s.data = #[] := by
    rw [if_neg (by omega)] at h
    exact Array.toList_inj.1 h.symm
  cases s; simp_all
def takeS (s : ByteArray) (p : SP) : Bool × SP := if h : (peekS p).data.toList = s.data.toList ∧ (hdT p).kind ≠ 0 then (true, p.tl h.2) else (false, p)
theorem take_ctr (g : GP) (p : SP) (s : ByteArray) (hs : s ≠ ⟨#[]⟩) : Ctr (ax g).E 85 [.ptr 9000 0, .str s] (spH p) (fun o => o = .ret (.bool (takeS s p).1) (spH (takeS s p).2)) := by
  refine Ctr.body (X := ax g) _ 11 [9000, 9001] [.tmp 4] Tryd.func85 rfl rfl rfl rfl (by decide +kernel) rfl rfl ?_
  conv => whnf
  repeat' (first | (refine And.intro (by first | exact rfl | decide | exact Nat.le_of_ble_eq_true rfl | exact ⟨_, rfl⟩ | exact ⟨_, _, rfl⟩ | omega | (simp only [List.length_map]; omega) | exact True.intro | (simp only [IntKind.wrap_i64, List.length_map]; omega) | (simp only [List.map_cons, List.map_nil, List.length_cons, Option.getD]; omega) | (simp only [bsz, ByteArray.size_append, List.size_toArray, List.length_cons, List.length_nil]; omega)) ?_; conv => whnf) | (refine ifB_intro (fun hA => ?_) (fun hA => ?_) <;> (try rw [hA]) <;> (conv => whnf) <;> (first | replace hA := of_decide_eq_true hA | replace hA := of_decide_eq_false hA | replace hA := eq_of_beq hA | replace hA := ne_of_beq_false hA | replace hA := bne_iff_ne.1 hA | replace hA := bne_eq_false_iff_eq.1 hA | skip) <;> (try simp only [ne_eq] at hA)) | (refine CallP.hlb (speek_ctr g p) (by (conv => whnf); repeat' first | exact trivial | refine And.intro (fun _ h => h) ?_) rfl ?_; conv => whnf) | (refine CallD.hlb (speek_ctr g p) (by (conv => whnf); repeat' first | exact trivial | refine And.intro (fun _ h => h) ?_) ?_; conv => whnf) | (refine CallP.may (snext_ctr g p) (by (conv => whnf); repeat' first | exact trivial | refine And.intro (fun _ h => h) ?_) (fun _ => rfl) (fun hN => ?_) (fun xS hS => ?_) <;> (conv => whnf) <;> (try refine ⟨⟨[], trivial, rfl, ?_⟩⟩)))
  · refine ⟨⟨spH p, ?_⟩⟩
    conv => whnf
    repeat' (first | (refine And.intro (by first | exact rfl | decide | exact Nat.le_of_ble_eq_true rfl | exact ⟨_, rfl⟩ | exact ⟨_, _, rfl⟩ | omega | (simp only []; omega) | exact True.intro | (simp only []; omega) | (simp only []; omega) | (simp only []; omega)) ?_; conv => whnf) | (refine ifB_intro (fun hA => ?_) (fun hA => ?_) <;> (try rw [hA]) <;> (conv => whnf) <;> (first | replace hA := of_decide_eq_true hA | replace hA := of_decide_eq_false hA | replace hA := eq_of_beq hA | replace hA := ne_of_beq_false hA | replace hA := bne_iff_ne.1 hA | replace hA := bne_eq_false_iff_eq.1 hA | skip) <;> (try simp only [List.length_map, cond_true, cond_false, Bool.not_eq_true', Bool.not_eq_false', beq_iff_eq, beq_eq_false_iff_ne, ne_eq] at hA)) | (refine And.intro ⟨fun o h => h, fun o h => h, trivial⟩ ?_; conv => whnf))
    rw [takeS, dif_neg (fun h => hA h.1)]
  · rw [nextS, dif_neg (peek_kind hs hA)] at hN; exact absurd hN (by simp)
  · rw [nextS, dif_neg (peek_kind hs hA)] at hS
    injection hS with hS
    subst hS
    refine ⟨⟨spH (p.tl (peek_kind hs hA)), ?_⟩⟩
    conv => whnf
    repeat' (first | (refine And.intro (by first | exact rfl | decide | exact Nat.le_of_ble_eq_true rfl | exact ⟨_, rfl⟩ | exact ⟨_, _, rfl⟩ | omega | (simp only []; omega) | exact True.intro | (simp only []; omega) | (simp only []; omega) | (simp only []; omega)) ?_; conv => whnf) | (refine ifB_intro (fun hA => ?_) (fun hA => ?_) <;> (try rw [hA]) <;> (conv => whnf) <;> (first | replace hA := of_decide_eq_true hA | replace hA := of_decide_eq_false hA | replace hA := eq_of_beq hA | replace hA := ne_of_beq_false hA | replace hA := bne_iff_ne.1 hA | replace hA := bne_eq_false_iff_eq.1 hA | skip) <;> (try simp only [List.length_map, cond_true, cond_false, Bool.not_eq_true', Bool.not_eq_false', beq_iff_eq, beq_eq_false_iff_ne, ne_eq] at hA)) | (refine And.intro ⟨fun o h => h, fun o h => h, trivial⟩ ?_; conv => whnf))
    rw [takeS, dif_pos ⟨hA, peek_kind hs hA⟩]
def mustS (s : ByteArray) (p : SP) : Option SP := if (takeS s p).1 = true then some (takeS s p).2 else none
theorem must5_ctr (g : GP) (p : SP) (s : ByteArray) (hs : s ≠ ⟨#[]⟩) : Ctr (ax g).E 83 [.ptr 9000 0, .str s] (spH p) (fun o => o = outP Failed (fun _ : SP => .tup []) spH (mustS s p)) := by
  refine Ctr.body (X := ax g) _ 10 [9000, 9001] [] Tryd.func83 rfl rfl rfl rfl (by decide +kernel) rfl rfl ?_
  conv => whnf
  repeat' (first | (refine And.intro (by first | exact rfl | decide | exact Nat.le_of_ble_eq_true rfl | exact ⟨_, rfl⟩ | exact ⟨_, _, rfl⟩ | omega | (simp only [List.length_map]; omega) | exact True.intro | (simp only [IntKind.wrap_i64, List.length_map]; omega) | (simp only [List.map_cons, List.map_nil, List.length_cons, Option.getD]; omega) | (simp only [bsz, ByteArray.size_append, List.size_toArray, List.length_cons, List.length_nil]; omega)) ?_; conv => whnf) | (refine ifB_intro (fun hA => ?_) (fun hA => ?_) <;> (try rw [hA]) <;> (conv => whnf) <;> (first | replace hA := of_decide_eq_true hA | replace hA := of_decide_eq_false hA | replace hA := eq_of_beq hA | replace hA := ne_of_beq_false hA | replace hA := bne_iff_ne.1 hA | replace hA := bne_eq_false_iff_eq.1 hA | skip) <;> (try simp only [Bool.not_eq_true', Bool.not_eq_false'] at hA)) | (refine CallP.hlb (take_ctr g p s hs) (by (conv => whnf); repeat' first | exact trivial | refine And.intro (fun _ h => h) ?_) rfl ?_; conv => whnf) | (refine CallD.hlb (take_ctr g p s hs) (by (conv => whnf); repeat' first | exact trivial | refine And.intro (fun _ h => h) ?_) ?_; conv => whnf) | (refine CallP.fails (fail_ctr g) ?_; (conv => whnf); refine ⟨⟨[], trivial, rfl, ?_⟩⟩))
  · rw [mustS, if_neg (by simp [hA])]; rfl
  · refine ⟨⟨spH (takeS s p).2, ?_⟩⟩
    conv => whnf
    repeat' (first | (refine And.intro (by first | exact rfl | decide | exact Nat.le_of_ble_eq_true rfl | exact ⟨_, rfl⟩ | exact ⟨_, _, rfl⟩ | omega | (simp only []; omega) | exact True.intro | (simp only []; omega) | (simp only []; omega) | (simp only []; omega)) ?_; conv => whnf) | (refine ifB_intro (fun hA => ?_) (fun hA => ?_) <;> (try rw [hA]) <;> (conv => whnf) <;> (first | replace hA := of_decide_eq_true hA | replace hA := of_decide_eq_false hA | replace hA := eq_of_beq hA | replace hA := ne_of_beq_false hA | replace hA := bne_iff_ne.1 hA | replace hA := bne_eq_false_iff_eq.1 hA | skip) <;> (try simp only [List.length_map, cond_true, cond_false, Bool.not_eq_true', Bool.not_eq_false', beq_iff_eq, beq_eq_false_iff_ne, ne_eq] at hA)) | (refine And.intro ⟨fun o h => h, fun o h => h, trivial⟩ ?_; conv => whnf))
    rw [mustS, if_pos hA]; rfl
def numS (p : SP) : Option (Int × SP) := match nextS p with
  | none => none
  | some (t, q) => if t.kind = 2 then some (t.n, q) else none
theorem num5_ctr (g : GP) (p : SP) : Ctr (ax g).E 84 [.ptr 9000 0] (spH p) (fun o => o = outP Failed (fun x : Int × SP => .d (.u16 x.1)) (fun x => spH x.2) (numS p)) := by
  refine Ctr.body (X := ax g) _ 13 [9000, 9001] [.tmp 2] Tryd.func84 rfl rfl rfl rfl (by decide +kernel) rfl rfl ?_
  conv => whnf
  repeat' (first | (refine And.intro (by first | exact rfl | decide | exact Nat.le_of_ble_eq_true rfl | exact ⟨_, rfl⟩ | exact ⟨_, _, rfl⟩ | omega | (simp only [List.length_map]; omega) | exact True.intro | (simp only [IntKind.wrap_i64, List.length_map]; omega) | (simp only [List.map_cons, List.map_nil, List.length_cons, Option.getD]; omega) | (simp only [bsz, ByteArray.size_append, List.size_toArray, List.length_cons, List.length_nil]; omega)) ?_; conv => whnf) | (refine ifB_intro (fun hA => ?_) (fun hA => ?_) <;> (try rw [hA]) <;> (conv => whnf) <;> (first | replace hA := of_decide_eq_true hA | replace hA := of_decide_eq_false hA | replace hA := eq_of_beq hA | replace hA := ne_of_beq_false hA | replace hA := bne_iff_ne.1 hA | replace hA := bne_eq_false_iff_eq.1 hA | skip) <;> (try simp only [ne_eq] at hA)) | (refine CallP.may (snext_ctr g p) (by (conv => whnf); repeat' first | exact trivial | refine And.intro (fun _ h => h) ?_) (fun _ => rfl) (fun hN => ?_) (fun xS hS => ?_) <;> (conv => whnf) <;> (try refine ⟨⟨[], trivial, rfl, ?_⟩⟩)) | (refine CallP.fails (fail_ctr g) ?_; (conv => whnf); refine ⟨⟨[], trivial, rfl, ?_⟩⟩))
  · rw [numS, hN]; rfl
  · rw [numS, hS]; simp only [if_neg hA]; rfl
  · refine ⟨⟨spH xS.2, ?_⟩⟩
    conv => whnf
    repeat' (first | (refine And.intro (by first | exact rfl | decide | exact Nat.le_of_ble_eq_true rfl | exact ⟨_, rfl⟩ | exact ⟨_, _, rfl⟩ | omega | (simp only []; omega) | exact True.intro | (simp only []; omega) | (simp only [List.map_cons, List.map_nil, List.length_cons]; omega) | (simp only [List.length_cons, List.length_nil]; omega)) ?_; conv => whnf) | (refine ifB_intro (fun hA => ?_) (fun hA => ?_) <;> (try rw [hA]) <;> (conv => whnf) <;> (first | replace hA := of_decide_eq_true hA | replace hA := of_decide_eq_false hA | replace hA := eq_of_beq hA | replace hA := ne_of_beq_false hA | replace hA := bne_iff_ne.1 hA | replace hA := bne_eq_false_iff_eq.1 hA | skip) <;> (try simp only [List.length_map, cond_true, cond_false, Bool.not_eq_true', Bool.not_eq_false', beq_iff_eq, beq_eq_false_iff_ne, ne_eq] at hA)) | (refine And.intro ⟨fun o h => h, fun o h => h, trivial⟩ ?_; conv => whnf))
    rw [numS, hS]; simp only [if_pos hA]; rfl
def fieldGo (w : ByteArray) : List Nat → Option Nat
  | [] => none
  | i :: r => if (nameF (i : Int)).data.toList = w.data.toList then some i else fieldGo w r
def fieldIx (w : ByteArray) : Option Nat := fieldGo w [0, 1, 2, 3, 4, 5, 6, 7]
def fieldR (o : Option Nat) : AOut := .ret (.tup [.i64 ((o.getD 0 : Nat) : Int), .bool o.isSome]) []
theorem fieldGo_drop (w : ByteArray) (i : Nat) (h : i < 8) : fieldGo w ([0, 1, 2, 3, 4, 5, 6, 7].drop i) = if (nameF (i : Int)).data.toList = w.data.toList then some i else fieldGo w ([0, 1, 2, 3, 4, 5, 6, 7].drop (i + 1)) := by
  match i, h with
  | 0, _ | 1, _ | 2, _ | 3, _ | 4, _ | 5, _ | 6, _ | 7, _ => rfl
theorem pfield_ctr (g : GP) (w : ByteArray) : Ctr (ax g).E 12 [.str w] [] (fun o => o = fieldR (fieldIx w)) := by
  refine Ctr.body (X := ax g) _ 14 [] [.tmp 2, .tmp 3] Tryd.func12 rfl rfl rfl rfl (by decide +kernel) rfl rfl ?_
  conv => whnf
  refine LoopP.inv (X := ax g) (fun i : Nat => { f := [(0, .str w), (2, .i64 0), (3, .bool false), (5, .i64 i)], h := [] }) (fun i => i ≤ 8 ∧ fieldIx w = fieldGo w ([0, 1, 2, 3, 4, 5, 6, 7].drop i)) (fun i => 8 - i) 0 ⟨by omega, rfl⟩ ⟨⟨rfl, rfl, rfl, rfl, trivial⟩, trivial⟩ fun i hi => ?_
  obtain ⟨hi, he⟩ := hi
  conv => whnf
  repeat' (first | (refine And.intro (by first | exact rfl | decide | exact Nat.le_of_ble_eq_true rfl | exact ⟨_, rfl⟩ | exact ⟨_, _, rfl⟩ | omega | (simp only [List.length_map]; omega) | exact True.intro | (simp only [IntKind.wrap_i64, List.length_map]; omega) | (simp only [List.map_cons, List.map_nil, List.length_cons, Option.getD]; omega) | (simp only [bsz, ByteArray.size_append, List.size_toArray, List.length_cons, List.length_nil]; omega)) ?_; conv => whnf) | (refine ifB_intro (fun hA => ?_) (fun hA => ?_) <;> (try rw [hA]) <;> (conv => whnf) <;> (first | replace hA := of_decide_eq_true hA | replace hA := of_decide_eq_false hA | replace hA := eq_of_beq hA | replace hA := ne_of_beq_false hA | replace hA := bne_iff_ne.1 hA | replace hA := bne_eq_false_iff_eq.1 hA | skip) <;> (try simp only [ne_eq] at hA)) | (refine CallP.det (name_ctr g i) ?_; conv => whnf) | (refine CallD.det (name_ctr g i) ?_; conv => whnf))
  · rename_i h8
    rw [fieldGo_drop w i (by omega), if_pos hA] at he
    refine ⟨⟨[], ?_⟩⟩
    conv => whnf
    rw [he]; rfl
  · rename_i h8
    rw [fieldGo_drop w i (by omega), if_neg hA] at he
    exact ⟨i + 1, ⟨by omega, he⟩, by omega, ⟨⟨rfl, rfl, rfl, AV.int_eq (i64_succ (by omega)), trivial⟩, trivial⟩⟩
  · have : i = 8 := by omega
    subst this
    refine ⟨⟨[], ?_⟩⟩
    conv => whnf
    rw [he]; rfl
def resWords : List (List UInt8) := [[105, 110, 105, 116], [108, 101, 116], [112, 111, 108, 105, 99, 121], [111, 110], [105, 100], [100, 114, 111, 112], [115, 119, 105, 116, 99, 104], [108, 105, 110, 107], [104, 111, 115, 116]]
def reservedS (w : ByteArray) : Bool := resWords.any (fun v => decide (w.data.toList = v)) || (fieldIx w).isSome
theorem reserved_ctr (g : GP) (w : ByteArray) : Ctr (ax g).E 118 [.str w] [] (fun o => o = .ret (.bool (reservedS w)) []) := by
  refine Ctr.body (X := ax g) _ 22 [] [.tmp 2] Tryd.func118 rfl rfl rfl rfl (by decide +kernel) rfl rfl ?_
  conv => whnf
  repeat' (first | (refine And.intro (by first | exact rfl | decide | exact Nat.le_of_ble_eq_true rfl | exact ⟨_, rfl⟩ | exact ⟨_, _, rfl⟩ | omega | (simp only [List.length_map]; omega) | exact True.intro | (simp only [IntKind.wrap_i64, List.length_map]; omega) | (simp only [List.map_cons, List.map_nil, List.length_cons, Option.getD]; omega) | (simp only [bsz, ByteArray.size_append, List.size_toArray, List.length_cons, List.length_nil]; omega)) ?_; conv => whnf) | (refine ifB_intro (fun hA => ?_) (fun hA => ?_) <;> (try rw [hA]) <;> (conv => whnf) <;> (first | replace hA := of_decide_eq_true hA | replace hA := of_decide_eq_false hA | replace hA := eq_of_beq hA | replace hA := ne_of_beq_false hA | replace hA := bne_iff_ne.1 hA | replace hA := bne_eq_false_iff_eq.1 hA | skip) <;> (try simp only [ne_eq] at hA)) | (refine CallP.det (pfield_ctr g w) ?_; conv => whnf) | (refine CallD.det (pfield_ctr g w) ?_; conv => whnf))
  all_goals (refine ⟨⟨[], ?_⟩⟩; (conv => whnf); simp_all [reservedS, resWords])
def nameS (p : SP) : Option (ByteArray × SP) := match nextS p with
  | none => none
  | some (t, q) => if t.kind = 1 ∧ reservedS t.s = false then some (t.s, q) else none
theorem name5_ctr (g : GP) (p : SP) : Ctr (ax g).E 86 [.ptr 9000 0] (spH p) (fun o => o = outP Failed (fun x : ByteArray × SP => .str x.1) (fun x => spH x.2) (nameS p)) := by
  refine Ctr.body (X := ax g) _ 18 [9000, 9001] [.tmp 2] Tryd.func86 rfl rfl rfl rfl (by decide +kernel) rfl rfl ?_
  conv => whnf
  repeat' (first | (refine And.intro (by first | exact rfl | decide | exact Nat.le_of_ble_eq_true rfl | exact ⟨_, rfl⟩ | exact ⟨_, _, rfl⟩ | omega | (simp only [List.length_map]; omega) | exact True.intro | (simp only [IntKind.wrap_i64, List.length_map]; omega) | (simp only [List.map_cons, List.map_nil, List.length_cons, Option.getD]; omega) | (simp only [bsz, ByteArray.size_append, List.size_toArray, List.length_cons, List.length_nil]; omega)) ?_; conv => whnf) | (refine ifB_intro (fun hA => ?_) (fun hA => ?_) <;> (try rw [hA]) <;> (conv => whnf) <;> (first | replace hA := of_decide_eq_true hA | replace hA := of_decide_eq_false hA | replace hA := eq_of_beq hA | replace hA := ne_of_beq_false hA | replace hA := bne_iff_ne.1 hA | replace hA := bne_eq_false_iff_eq.1 hA | skip) <;> (try simp only [cond_false, ne_eq] at hA)) | (refine CallP.may (snext_ctr g p) (by (conv => whnf); repeat' first | exact trivial | refine And.intro (fun _ h => h) ?_) (fun _ => rfl) (fun hN => ?_) (fun xS hS => ?_) <;> (conv => whnf) <;> (try refine ⟨⟨[], trivial, rfl, ?_⟩⟩)) | (refine CallP.fails (fail_ctr g) ?_; (conv => whnf); refine ⟨⟨[], trivial, rfl, ?_⟩⟩) | (refine CallP.det (reserved_ctr g _) ?_; conv => whnf) | (refine CallD.det (reserved_ctr g _) ?_; conv => whnf))
  · rw [nameS, hN]; rfl
  · rw [nameS, hS]; simp only [if_neg (fun h : xS.1.kind = 1 ∧ _ => hA h.1)]; rfl
  · rw [nameS, hS]; simp only [if_neg (fun h : xS.1.kind = 1 ∧ reservedS xS.1.s = false => by rw [hA] at h; exact absurd h.2 (by simp))]; rfl
  · rename_i hk
    refine ⟨⟨spH xS.2, ?_⟩⟩
    conv => whnf
    repeat' (first | (refine And.intro (by first | exact rfl | decide | exact Nat.le_of_ble_eq_true rfl | exact ⟨_, rfl⟩ | exact ⟨_, _, rfl⟩ | omega | (simp only []; omega) | exact True.intro | (simp only []; omega) | (simp only [List.map_cons, List.map_nil, List.length_cons]; omega) | (simp only [List.length_cons, List.length_nil]; omega)) ?_; conv => whnf) | (refine ifB_intro (fun hA => ?_) (fun hA => ?_) <;> (try rw [hA]) <;> (conv => whnf) <;> (first | replace hA := of_decide_eq_true hA | replace hA := of_decide_eq_false hA | replace hA := eq_of_beq hA | replace hA := ne_of_beq_false hA | replace hA := bne_iff_ne.1 hA | replace hA := bne_eq_false_iff_eq.1 hA | skip) <;> (try simp only [List.length_map, cond_true, cond_false, Bool.not_eq_true', Bool.not_eq_false', beq_iff_eq, beq_eq_false_iff_ne, ne_eq] at hA)) | (refine And.intro ⟨fun o h => h, fun o h => h, trivial⟩ ?_; conv => whnf))
    rw [nameS, hS]; simp only [if_pos (And.intro hk hA)]; rfl
def fieldS (p : SP) : Option (Int × SP) := match nextS p with
  | none => none
  | some (t, q) => if t.kind = 1 ∧ (fieldIx t.s).isSome = true then some ((((fieldIx t.s).getD 0 : Nat) : Int), q) else none
theorem field5_ctr (g : GP) (p : SP) : Ctr (ax g).E 123 [.ptr 9000 0] (spH p) (fun o => o = outP Failed (fun x : Int × SP => .i64 x.1) (fun x => spH x.2) (fieldS p)) := by
  refine Ctr.body (X := ax g) _ 24 [9000, 9001] [.tmp 2] Tryd.func123 rfl rfl rfl rfl (by decide +kernel) rfl rfl ?_
  conv => whnf
  repeat' (first | (refine And.intro (by first | exact rfl | decide | exact Nat.le_of_ble_eq_true rfl | exact ⟨_, rfl⟩ | exact ⟨_, _, rfl⟩ | omega | (simp only [List.length_map]; omega) | exact True.intro | (simp only [IntKind.wrap_i64, List.length_map]; omega) | (simp only [List.map_cons, List.map_nil, List.length_cons, Option.getD]; omega) | (simp only [bsz, ByteArray.size_append, List.size_toArray, List.length_cons, List.length_nil]; omega)) ?_; conv => whnf) | (refine ifB_intro (fun hA => ?_) (fun hA => ?_) <;> (try rw [hA]) <;> (conv => whnf) <;> (first | replace hA := of_decide_eq_true hA | replace hA := of_decide_eq_false hA | replace hA := eq_of_beq hA | replace hA := ne_of_beq_false hA | replace hA := bne_iff_ne.1 hA | replace hA := bne_eq_false_iff_eq.1 hA | skip) <;> (try simp only [cond_false, Bool.not_eq_true', Bool.not_eq_false', ne_eq] at hA)) | (refine CallP.may (snext_ctr g p) (by (conv => whnf); repeat' first | exact trivial | refine And.intro (fun _ h => h) ?_) (fun _ => rfl) (fun hN => ?_) (fun xS hS => ?_) <;> (conv => whnf) <;> (try refine ⟨⟨[], trivial, rfl, ?_⟩⟩)) | (refine CallP.fails (fail_ctr g) ?_; (conv => whnf); refine ⟨⟨[], trivial, rfl, ?_⟩⟩) | (refine CallP.det (pfield_ctr g _) ?_; conv => whnf) | (refine CallD.det (pfield_ctr g _) ?_; conv => whnf))
  · rw [fieldS, hN]; rfl
  · rw [fieldS, hS]; simp only [if_neg (fun h : xS.1.kind = 1 ∧ _ => hA h.1)]; rfl
  · rw [fieldS, hS]; simp only [if_neg (fun h : xS.1.kind = 1 ∧ (fieldIx xS.1.s).isSome = true => by rw [hA] at h; exact absurd h.2 (by simp))]; rfl
  · rename_i hk
    refine ⟨⟨spH xS.2, ?_⟩⟩
    conv => whnf
    repeat' (first | (refine And.intro (by first | exact rfl | decide | exact Nat.le_of_ble_eq_true rfl | exact ⟨_, rfl⟩ | exact ⟨_, _, rfl⟩ | omega | (simp only []; omega) | exact True.intro | (simp only []; omega) | (simp only [List.map_cons, List.map_nil, List.length_cons]; omega) | (simp only [List.length_cons, List.length_nil]; omega)) ?_; conv => whnf) | (refine ifB_intro (fun hA => ?_) (fun hA => ?_) <;> (try rw [hA]) <;> (conv => whnf) <;> (first | replace hA := of_decide_eq_true hA | replace hA := of_decide_eq_false hA | replace hA := eq_of_beq hA | replace hA := ne_of_beq_false hA | replace hA := bne_iff_ne.1 hA | replace hA := bne_eq_false_iff_eq.1 hA | skip) <;> (try simp only [List.length_map, cond_true, cond_false, Bool.not_eq_true', Bool.not_eq_false', beq_iff_eq, beq_eq_false_iff_ne, ne_eq] at hA)) | (refine And.intro ⟨fun o h => h, fun o h => h, trivial⟩ ?_; conv => whnf))
    rw [fieldS, hS]; simp only [if_pos (And.intro hk hA)]; rfl
def nsFind (w : ByteArray) : List (ByteArray × Int) → Nat → Option Nat
  | [], _ => none
  | e :: r, i => match w.data.toList == e.1.data.toList with
    | true => some i
    | false => nsFind w r (i + 1)
def nsGet (ns : List (ByteArray × Int)) (w : ByteArray) : Int := match nsFind w ns 0 with
  | some i => (ns.getD i (w, 0)).2
  | none => 0
def nsHas (ns : List (ByteArray × Int)) (w : ByteArray) : Bool := (nsFind w ns 0).isSome
def nsPut (ns : List (ByteArray × Int)) (w : ByteArray) (n : Int) : List (ByteArray × Int) := match nsFind w ns 0 with
  | some i => ns.set i (w, n)
  | none => ns ++ [(w, n)]
theorem mfind_ns (w : ByteArray) : ∀ (ns : List (ByteArray × Int)) (i : Nat), mfind [.str] [.v (.string w)] (ns.map entN) i = nsFind w ns i
  | [], _ => rfl
  | e :: r, i => by
    have ih := mfind_ns w r (i + 1)
    have he : eqAll [.str] [.v (.string w)] (entN e).1 0 = (w.data.toList == e.1.data.toList) := by simp [eqAll, scEq, entN, D.str]
    rw [List.map_cons, mfind, nsFind, he, ih]
    rfl
theorem mget_ns (ns : List (ByteArray × Int)) (w : ByteArray) : mget [.str] [.v (.string w)] (.v (.int .u16 0)) (ns.map entN) = .u16 (nsGet ns w) := by
  unfold mget nsGet
  rw [mfind_ns]
  cases hf : nsFind w ns 0 with
  | none => rfl
  | some i =>
    have hl : i < (ns.map entN).length := by
      have := (mfind_lt (l := [.str]) (key := [.v (.string w)]) (es := ns.map entN) (i := 0) (j := i) (by rw [mfind_ns]; exact hf)).2
      omega
    have hl2 : i < ns.length := by simpa using hl
    simp [List.getD, hl2, entN]
theorem mhas_ns (ns : List (ByteArray × Int)) (w : ByteArray) : mhas [.str] [.v (.string w)] (ns.map entN) = nsHas ns w := by rw [mhas, mfind_ns]; rfl
theorem mput_ns (ns : List (ByteArray × Int)) (w : ByteArray) (n : Int) : mput [.str] [.v (.string w)] (.v (.int .u16 n)) (ns.map entN) = (nsPut ns w n).map entN := by
  unfold mput nsPut
  rw [mfind_ns]
  cases hf : nsFind w ns 0 with
  | none => simp [entN]
  | some i => simp [entN, List.map_set]
theorem keyOk_ns (w : ByteArray) : KeyOk [.str] [.v (.string w)] := ⟨rfl, ⟨_, rfl⟩, trivial⟩
theorem keysOk_ns (ns : List (ByteArray × Int)) : KeysOk [.str] (ns.map entN) := fun e he => by
  obtain ⟨x, _, rfl⟩ := List.mem_map.1 he
  exact ⟨rfl, ⟨_, rfl⟩, trivial⟩
theorem hasGet_ns (ns : List (ByteArray × Int)) (w : ByteArray) : has (.int .u16) 0 (mget [.str] [.v (.string w)] (.v (.int .u16 0)) (ns.map entN)) := ⟨_, mget_ns ns w⟩
def valueS (p : SP) : Option (Int × SP) := if (hdT p).kind = 2 then numS p else match nameS p with
  | none => none
  | some (w, q) => some (nsGet q.ns w, { q with unk := q.unk || !nsHas q.ns w })
theorem value_ctr (g : GP) (p : SP) : Ctr (ax g).E 124 [.ptr 9000 0] (spH p) (fun o => o = outP Failed (fun x : Int × SP => .d (.u16 x.1)) (fun x => spH x.2) (valueS p)) := by
  have hv := num5_ctr g p
  have hn := name5_ctr g p
  obtain ⟨l, ok, ns, u, w⟩ := p
  cases l with
  | nil => exact ok.not_nil.elim
  | cons t r =>
    refine Ctr.body (X := ax g) _ 37 [9000, 9001] [.tmp 2] Tryd.func124 rfl rfl rfl rfl (by decide +kernel) rfl rfl ?_
    conv => whnf
    repeat' (first | (refine And.intro (by first | exact rfl | decide | exact Nat.le_of_ble_eq_true rfl | exact ⟨_, rfl⟩ | exact ⟨_, _, rfl⟩ | omega | (simp only [List.length_map]; omega) | exact True.intro | (simp only [List.length_map]; omega) | (simp only [List.map_cons, List.length_cons]; omega) | (simp only [bsz, ByteArray.size_append, List.size_toArray, List.length_cons, List.length_nil]; omega)) ?_; conv => whnf) | (refine ifB_intro (fun hA => ?_) (fun hA => ?_) <;> (try rw [hA]) <;> (conv => whnf) <;> (first | replace hA := of_decide_eq_true hA | replace hA := of_decide_eq_false hA | replace hA := eq_of_beq hA | replace hA := ne_of_beq_false hA | replace hA := bne_iff_ne.1 hA | replace hA := bne_eq_false_iff_eq.1 hA | skip) <;> (try simp only [List.length_map, cond_true, cond_false, Bool.not_eq_true', Bool.not_eq_false', beq_iff_eq, beq_eq_false_iff_ne, ne_eq] at hA)) | (refine CallP.may (hv) (by (conv => whnf); repeat' first | exact trivial | refine And.intro (fun _ h => h) ?_) (fun _ => rfl) (fun hN => ?_) (fun xS hS => ?_) <;> (conv => whnf) <;> (try refine ⟨⟨[], trivial, rfl, ?_⟩⟩)))
    · rw [valueS, if_pos (show (hdT ⟨t :: r, ok, ns, u, w⟩).kind = 2 from hA), hN]; rfl
    · refine ⟨⟨spH xS.2, ?_⟩⟩
      conv => whnf
      repeat' (first | (refine And.intro (by first | exact rfl | decide | exact Nat.le_of_ble_eq_true rfl | exact ⟨_, rfl⟩ | exact ⟨_, _, rfl⟩ | omega | (simp only []; omega) | exact True.intro | (simp only []; omega) | (simp only [List.map_cons]; omega) | (simp only []; omega)) ?_; conv => whnf) | (refine ifB_intro (fun hA => ?_) (fun hA => ?_) <;> (try rw [hA]) <;> (conv => whnf) <;> (first | replace hA := of_decide_eq_true hA | replace hA := of_decide_eq_false hA | replace hA := eq_of_beq hA | replace hA := ne_of_beq_false hA | replace hA := bne_iff_ne.1 hA | replace hA := bne_eq_false_iff_eq.1 hA | skip) <;> (try simp only [List.length_map, cond_true, cond_false, Bool.not_eq_true', Bool.not_eq_false', beq_iff_eq, beq_eq_false_iff_ne, ne_eq] at hA)) | (refine And.intro ⟨fun o h => h, fun o h => h, trivial⟩ ?_; conv => whnf))
      rw [valueS, if_pos (show (hdT ⟨t :: r, ok, ns, u, w⟩).kind = 2 from hA), hS]; rfl
    · cases hN : nameS ⟨t :: r, ok, ns, u, w⟩ with
      | none =>
        have hd := hn.none hN
        refine DrawP.any (X := ax g) (by decide +kernel) ?_
        conv => whnf
        repeat' (first | (refine And.intro (by first | exact rfl | decide | exact Nat.le_of_ble_eq_true rfl | exact ⟨_, rfl⟩ | exact ⟨_, _, rfl⟩ | omega | (simp only [List.length_map]; omega) | exact True.intro | (simp only [IntKind.wrap_i64, List.length_map]; omega) | (simp only [List.map_cons, List.map_nil, List.length_cons, Option.getD]; omega) | (simp only [bsz, ByteArray.size_append, List.size_toArray, List.length_cons, List.length_nil]; omega)) ?_; conv => whnf) | (refine ifB_intro (fun hA => ?_) (fun hA => ?_) <;> (try rw [hA]) <;> (conv => whnf) <;> (first | replace hA := of_decide_eq_true hA | replace hA := of_decide_eq_false hA | replace hA := eq_of_beq hA | replace hA := ne_of_beq_false hA | replace hA := bne_iff_ne.1 hA | replace hA := bne_eq_false_iff_eq.1 hA | skip) <;> (try simp only [List.length_map, cond_true, cond_false, Bool.not_eq_true', Bool.not_eq_false', beq_iff_eq, beq_eq_false_iff_ne, ne_eq] at hA)) | (refine CallP.dies (hd) (by (conv => whnf); repeat' first | exact trivial | refine And.intro (fun _ h => h) ?_) ?_; (conv => whnf); refine ⟨⟨[], trivial, rfl, ?_⟩⟩) | (refine BothP.mk ?_ ?_ <;> conv => whnf))
        all_goals (rw [valueS, if_neg (show ¬(hdT ⟨t :: r, ok, ns, u, w⟩).kind = 2 from hA), hN]; rfl)
      | some x =>
        obtain ⟨wd, q⟩ := x
        have hd := hn.some hN
        refine DrawP.join { f := [(0, .ptr 9000 0), (3, .d (.u16 (nsGet q.ns wd))), (4, .bool (nsHas q.ns wd))], h := spH q } (DrawP.any (X := ax g) (by decide +kernel) ?_) ?_
        · conv => whnf
          repeat' (first | (refine And.intro (by first | exact rfl | decide | exact Nat.le_of_ble_eq_true rfl | exact ⟨_, rfl⟩ | exact ⟨_, _, rfl⟩ | omega | (simp only []; omega) | exact True.intro | (simp only []; omega) | (simp only [List.map_cons]; omega) | (simp only []; omega)) ?_; conv => whnf) | (refine ifB_intro (fun hA => ?_) (fun hA => ?_) <;> (try rw [hA]) <;> (conv => whnf) <;> (first | replace hA := of_decide_eq_true hA | replace hA := of_decide_eq_false hA | replace hA := eq_of_beq hA | replace hA := ne_of_beq_false hA | replace hA := bne_iff_ne.1 hA | replace hA := bne_eq_false_iff_eq.1 hA | skip) <;> (try simp only [List.length_map, cond_true, cond_false, Bool.not_eq_true', Bool.not_eq_false', beq_iff_eq, beq_eq_false_iff_ne, ne_eq] at hA)) | (refine CallP.hlb (hd) (by (conv => whnf); repeat' first | exact trivial | refine And.intro (fun _ h => h) ?_) rfl ?_; conv => whnf) | (refine CallD.hlb (hd) (by (conv => whnf); repeat' first | exact trivial | refine And.intro (fun _ h => h) ?_) ?_; conv => whnf) | (refine And.intro (keyOk_ns _) ?_; conv => whnf) | (refine And.intro (keysOk_ns _) ?_; conv => whnf) | (refine And.intro (hasGet_ns _ _) ?_; conv => whnf) | (refine BothP.mk ?_ ?_ <;> conv => whnf))
          all_goals exact ⟨⟨rfl, AV.int_eq (congrArg D.int (mget_ns q.ns wd)), AV.bool_eq (mhas_ns q.ns wd), trivial⟩, ⟨fun o h => h, fun o h => h, trivial⟩⟩
        · have hk : valueS ⟨t :: r, ok, ns, u, w⟩ = some (nsGet q.ns wd, { q with unk := q.unk || !nsHas q.ns wd }) := by
            rw [valueS, if_neg (show ¬(hdT ⟨t :: r, ok, ns, u, w⟩).kind = 2 from hA), hN]
          rw [hk]
          conv => whnf
          repeat' (first | (refine And.intro (by first | exact rfl | decide | exact Nat.le_of_ble_eq_true rfl | exact ⟨_, rfl⟩ | exact ⟨_, _, rfl⟩ | omega | (simp only [List.length_map]; omega) | exact True.intro | (simp only [IntKind.wrap_i64, List.length_map]; omega) | (simp only [List.map_cons, List.map_nil, List.length_cons, Option.getD]; omega) | (simp only [bsz, ByteArray.size_append, List.size_toArray, List.length_cons, List.length_nil]; omega)) ?_; conv => whnf) | (refine ifB_intro (fun hA => ?_) (fun hA => ?_) <;> (try rw [hA]) <;> (conv => whnf) <;> (first | replace hA := of_decide_eq_true hA | replace hA := of_decide_eq_false hA | replace hA := eq_of_beq hA | replace hA := ne_of_beq_false hA | replace hA := bne_iff_ne.1 hA | replace hA := bne_eq_false_iff_eq.1 hA | skip) <;> (try simp only [List.length_map, cond_true, cond_false, Bool.not_eq_true', Bool.not_eq_false', beq_iff_eq, beq_eq_false_iff_ne, ne_eq] at hA)))
          all_goals
            refine ⟨⟨spH { q with unk := q.unk || !nsHas q.ns wd }, ?_⟩⟩
            conv => whnf
            refine And.intro ⟨fun o h => by rw [← h]; simp only [objSP, hA]; rfl, fun o h => h, trivial⟩ ?_
            conv => whnf
            rw [hA]; rfl
end Go.Ax
namespace Go.Ax
open Go.Proofs
set_option maxRecDepth 10000
def atB : ByteArray := ⟨#[64]⟩
def eqB : ByteArray := ⟨#[61]⟩
def asB : ByteArray := ⟨#[58, 61]⟩
def partS (sign : ByteArray) (p : SP) : Option (PairT × SP) := (mustS atB p).bind fun p1 => (numS p1).bind fun x => (mustS sign x.2).bind fun p3 => (valueS p3).bind fun y => some (⟨IntKind.i64.wrap x.1, y.1⟩, y.2)
theorem part5_ctr (g : GP) (p : SP) (sign : ByteArray) (hs : sign ≠ ⟨#[]⟩) : Ctr (ax g).E 122 [.ptr 9000 0, .str sign] (spH p) (fun o => o = outP Failed (fun x : PairT × SP => .dagg (rowF x.1)) (fun x => spH x.2) (partS sign p)) := by
  refine Ctr.body (X := ax g) _ 18 [9000, 9001] [.cell 4 29] Tryd.func122 rfl rfl rfl rfl (by decide +kernel) rfl rfl ?_
  conv => whnf
  repeat' (first | (refine And.intro (by first | exact rfl | decide | exact Nat.le_of_ble_eq_true rfl | exact ⟨_, rfl⟩ | exact ⟨_, _, rfl⟩ | exact Nat.le_refl _ | exact Int.le_refl _ | omega | (simp only []; omega) | exact True.intro | (simp only [IntKind.wrap_i64]; omega) | (simp only [List.length_cons]; omega) | (simp only [List.length_cons, List.length_nil]; omega) | exact ⟨⟨_, _, rfl, rfl, Nat.le_of_ble_eq_true rfl⟩, trivial⟩ | exact ⟨⟨_, _, rfl, rfl, Nat.le_of_ble_eq_true rfl⟩, ⟨_, _, rfl, rfl, Nat.le_of_ble_eq_true rfl⟩, trivial⟩ | exact ⟨⟨_, _, rfl, rfl, Nat.le_of_ble_eq_true rfl⟩, ⟨_, _, rfl, rfl, Nat.le_of_ble_eq_true rfl⟩, ⟨_, _, rfl, rfl, Nat.le_of_ble_eq_true rfl⟩, trivial⟩) ?_; conv => whnf) | (refine ifB_intro (fun hA => ?_) (fun hA => ?_) <;> (try rw [hA]) <;> (conv => whnf) <;> (first | replace hA := of_decide_eq_true hA | replace hA := of_decide_eq_false hA | replace hA := eq_of_beq hA | replace hA := ne_of_beq_false hA | replace hA := bne_iff_ne.1 hA | replace hA := bne_eq_false_iff_eq.1 hA | skip) <;> (try simp only [List.length_map, cond_true, cond_false, Bool.not_eq_true', Bool.not_eq_false', beq_iff_eq, beq_eq_false_iff_ne, ne_eq] at hA)) | (refine CallP.may (must5_ctr g _ atB (by decide)) (by (conv => whnf); repeat' first | exact trivial | refine And.intro (fun _ h => h) ?_) (fun _ => rfl) (fun hN => ?_) (fun xS hS => ?_) <;> (conv => whnf) <;> (try refine ⟨⟨[], trivial, rfl, ?_⟩⟩)) | (refine CallP.may (num5_ctr g _) (by (conv => whnf); repeat' first | exact trivial | refine And.intro (fun _ h => h) ?_) (fun _ => rfl) (fun hN => ?_) (fun xS hS => ?_) <;> (conv => whnf) <;> (try refine ⟨⟨[], trivial, rfl, ?_⟩⟩)) | (refine CallP.may (must5_ctr g _ sign hs) (by (conv => whnf); repeat' first | exact trivial | refine And.intro (fun _ h => h) ?_) (fun _ => rfl) (fun hN => ?_) (fun xS hS => ?_) <;> (conv => whnf) <;> (try refine ⟨⟨[], trivial, rfl, ?_⟩⟩)) | (refine CallP.may (value_ctr g _) (by (conv => whnf); repeat' first | exact trivial | refine And.intro (fun _ h => h) ?_) (fun _ => rfl) (fun hN => ?_) (fun xS hS => ?_) <;> (conv => whnf) <;> (try refine ⟨⟨[], trivial, rfl, ?_⟩⟩)) | (rw [getD_map _ _ _ _ (by assumption)]; conv => whnf))
  all_goals try (simp_all [partS, outP]; done)
  refine ⟨⟨spH xS.2, ?_⟩⟩
  conv => whnf
  repeat' (first | (refine And.intro (by first | exact rfl | decide | exact Nat.le_of_ble_eq_true rfl | exact ⟨_, rfl⟩ | exact ⟨_, _, rfl⟩ | exact Nat.le_refl _ | exact Int.le_refl _ | omega | (simp only []; omega) | exact True.intro | (simp only [IntKind.wrap_i64]; omega) | (simp only [List.map_cons, List.map_nil, List.length_cons]; omega) | (simp only [List.length_cons, List.length_nil]; omega) | exact ⟨⟨_, _, rfl, rfl, Nat.le_of_ble_eq_true rfl⟩, trivial⟩ | exact ⟨⟨_, _, rfl, rfl, Nat.le_of_ble_eq_true rfl⟩, ⟨_, _, rfl, rfl, Nat.le_of_ble_eq_true rfl⟩, trivial⟩ | exact ⟨⟨_, _, rfl, rfl, Nat.le_of_ble_eq_true rfl⟩, ⟨_, _, rfl, rfl, Nat.le_of_ble_eq_true rfl⟩, ⟨_, _, rfl, rfl, Nat.le_of_ble_eq_true rfl⟩, trivial⟩) ?_; conv => whnf) | (refine ifB_intro (fun hA => ?_) (fun hA => ?_) <;> (try rw [hA]) <;> (conv => whnf) <;> (first | replace hA := of_decide_eq_true hA | replace hA := of_decide_eq_false hA | replace hA := eq_of_beq hA | replace hA := ne_of_beq_false hA | replace hA := bne_iff_ne.1 hA | replace hA := bne_eq_false_iff_eq.1 hA | skip) <;> (try simp only [List.length_map, cond_true, cond_false, Bool.not_eq_true', Bool.not_eq_false', beq_iff_eq, beq_eq_false_iff_ne, ne_eq] at hA)) | (refine And.intro ⟨fun o h => h, fun o h => h, trivial⟩ ?_; conv => whnf) | (rw [getD_map _ _ _ _ (by assumption)]; conv => whnf))
  simp_all [partS, outP, Option.bind]
  rfl
def listGo {α : Type} (sign : ByteArray) (one : SP → Option (α × SP)) : Nat → List α → SP → Option (List α × SP)
  | 0, _, _ => none
  | n + 1, acc, p => if (takeS sign p).1 = true then (match one (takeS sign p).2 with
    | none => none
    | some (x, q) => listGo sign one n (acc ++ [x]) q) else some (acc, (takeS sign p).2)
def listS {α : Type} (sign : ByteArray) (one : SP → Option (α × SP)) (p : SP) : Option (List α × SP) := match one p with
  | none => none
  | some (x, q) => listGo sign one (q.l.length + 1) [x] q
def Less {α : Type} (one : SP → Option (α × SP)) : Prop := ∀ p x q, one p = some (x, q) → q.l.length < p.l.length
theorem takeS_len {s : ByteArray} {p : SP} : (takeS s p).2.l.length ≤ p.l.length ∧ ((takeS s p).1 = true → (takeS s p).2.l.length < p.l.length) := by
  unfold takeS
  split
  · rename_i h
    obtain ⟨l, ok, ns, u, w⟩ := p
    cases l with
    | nil => exact ok.not_nil.elim
    | cons t r => simp [SP.tl]
  · simp
theorem listGo_more {α : Type} {sign : ByteArray} {one : SP → Option (α × SP)} {n : Nat} {acc : List α} {p : SP} (ht : (takeS sign p).1 = true) {x : α} {q : SP} (h1 : one (takeS sign p).2 = some (x, q)) : listGo sign one (n + 1) acc p = listGo sign one n (acc ++ [x]) q := by
  rw [listGo, if_pos ht, h1]
theorem listGo_dies {α : Type} {sign : ByteArray} {one : SP → Option (α × SP)} {n : Nat} {acc : List α} {p : SP} (ht : (takeS sign p).1 = true) (h1 : one (takeS sign p).2 = none) : listGo sign one (n + 1) acc p = none := by
  rw [listGo, if_pos ht, h1]
theorem listGo_done {α : Type} {sign : ByteArray} {one : SP → Option (α × SP)} {n : Nat} {acc : List α} {p : SP} (ht : (takeS sign p).1 = false) : listGo sign one (n + 1) acc p = some (acc, (takeS sign p).2) := by
  rw [listGo, if_neg (by simp [ht])]
theorem plist_ctr (g : GP) (sign : ByteArray) (hs : sign ≠ ⟨#[]⟩) (f : FuncId) (one : SP → Option (PolT × SP)) (hl : Less one) (N : Nat) (h1 : ∀ p : SP, p.l.length ≤ N → Ctr (ax g).E f [.ptr 9000 0] (spH p) (fun o => o = outP Failed (fun x : PolT × SP => .dagg (rowP4 x.1)) (fun x => spH x.2) (one p))) (p : SP) (hp : p.l.length ≤ N) (hN0 : N ≤ 100000) :
    Ctr (ax g).E 120 [.ptr 9000 0, .str sign, .clo (.func f) [.ptr 9000 0] []] (spH p) (fun o => o = outP Failed (fun x : List PolT × SP => .d (.sl false 4 (x.1.map rowO4))) (fun x => spH x.2) (listS sign one p)) := by
  refine Ctr.loose (rx := fun x : List PolT × SP => .d (.sl true 4 (x.1.map rowO4))) ?_ (fun x q => rfl) fun x w Im ρ v H => by
    cases H with | d _ _ h => exact .d _ _ h.loose
  have hc := h1 p hp
  refine Ctr.body (X := ax g) _ 20 [9000, 9001] [.tmp 6] Tryd.func120 rfl rfl rfl rfl (by decide +kernel) rfl rfl ?_
  conv => whnf
  repeat' (first | (refine And.intro (by first | exact rfl | decide | exact Nat.le_of_ble_eq_true rfl | exact ⟨_, rfl⟩ | exact ⟨_, _, rfl⟩ | exact Nat.le_refl _ | exact Int.le_refl _ | omega | (simp only [List.length_map]; omega) | exact True.intro | (simp only [IntKind.wrap_i64, List.length_map]; omega) | (simp only [List.map_cons, List.map_nil, List.length_cons, Option.getD]; omega) | (simp only [bsz, ByteArray.size_append, List.size_toArray, List.length_cons, List.length_nil]; omega) | exact ⟨⟨_, _, rfl, rfl, Nat.le_of_ble_eq_true rfl⟩, trivial⟩ | exact ⟨⟨_, _, rfl, rfl, Nat.le_of_ble_eq_true rfl⟩, ⟨_, _, rfl, rfl, Nat.le_of_ble_eq_true rfl⟩, trivial⟩ | exact ⟨⟨_, _, rfl, rfl, Nat.le_of_ble_eq_true rfl⟩, ⟨_, _, rfl, rfl, Nat.le_of_ble_eq_true rfl⟩, ⟨_, _, rfl, rfl, Nat.le_of_ble_eq_true rfl⟩, trivial⟩) ?_; conv => whnf) | (refine ifB_intro (fun hA => ?_) (fun hA => ?_) <;> (try rw [hA]) <;> (conv => whnf) <;> (first | replace hA := of_decide_eq_true hA | replace hA := of_decide_eq_false hA | replace hA := eq_of_beq hA | replace hA := ne_of_beq_false hA | replace hA := bne_iff_ne.1 hA | replace hA := bne_eq_false_iff_eq.1 hA | skip) <;> (try simp only [List.length_map, cond_true, cond_false, Bool.not_eq_true', Bool.not_eq_false', beq_iff_eq, beq_eq_false_iff_ne, ne_eq] at hA)) | (refine CallP.may (hc) (by (conv => whnf); repeat' first | exact trivial | refine And.intro (fun _ h => h) ?_) (fun _ => rfl) (fun hN => ?_) (fun xS hS => ?_) <;> (conv => whnf) <;> (try refine ⟨⟨[], trivial, rfl, ?_⟩⟩)) | (rw [getD_map _ _ _ _ (by assumption)]; conv => whnf))
  · exact .inl (by rw [listS, hN]; rfl)
  · obtain ⟨x0, q0⟩ := xS
    have h0 := hl p x0 q0 hS
    have hL : listS sign one p = listGo sign one (q0.l.length + 1) [x0] q0 := by rw [listS, hS]
    rw [hL]
    generalize hR0 : listGo sign one (q0.l.length + 1) [x0] q0 = R at hL
    refine LoopP.inv (X := ax g) (fun x : Bool × List PolT × SP => bif x.1 then { f := [(0, .ptr 9000 0), (1, .str sign), (2, .clo (.func f) [.ptr 9000 0] []), (7, .msl 18 x.2.1.length 0 x.2.1.length)], h := (18, some (.buf 4 49 (x.2.1.map rowO4))) :: spH x.2.2 } else { f := [(0, .ptr 9000 0), (1, .str sign), (2, .clo (.func f) [.ptr 9000 0] []), (7, .d (.sl true 4 (x.2.1.map rowO4)))], h := spH x.2.2 })
      (fun x => (x.1 = false → 0 < x.2.1.length) ∧ x.2.1.length + x.2.2.l.length ≤ N ∧ ∃ n, x.2.2.l.length < n ∧ listGo sign one n x.2.1 x.2.2 = R) (fun x => x.2.2.l.length) (false, [x0], q0) ⟨fun _ => Nat.one_pos, by show 1 + q0.l.length ≤ N; omega, q0.l.length + 1, Nat.lt_succ_self _, hR0⟩ ⟨⟨rfl, rfl, rfl, congrArg (fun z => AV.d (.sl true 4 [z])) (rowO4_at x0).symm, trivial⟩, ⟨fun o h => h, fun o h => h, trivial⟩⟩ fun x hx => ?_
    obtain ⟨b, acc, q⟩ := x
    obtain ⟨hpos, hq, n, hn, hR⟩ := hx
    replace hpos : b = false → 0 < acc.length := hpos
    replace hq : acc.length + q.l.length ≤ N := hq
    replace hn : q.l.length < n := hn
    replace hR : listGo sign one n acc q = R := hR
    obtain ⟨n, rfl⟩ : ∃ m, n = m + 1 := ⟨n - 1, by omega⟩
    have ht := take_ctr g q sign hs
    have hlen := takeS_len (s := sign) (p := q)
    have hq2 : (takeS sign q).2.l.length ≤ N := by have := hlen.1; omega
    have ho := h1 (takeS sign q).2 hq2
    cases b with
    | false =>
      cases acc with
      | nil => exact absurd (hpos rfl) (by simp)
      | cons a0 acc =>
      conv => whnf
      repeat' (first | (refine And.intro (by first | exact rfl | decide | exact Nat.le_of_ble_eq_true rfl | exact ⟨_, rfl⟩ | exact ⟨_, _, rfl⟩ | exact Nat.le_refl _ | exact Int.le_refl _ | omega | (simp only [List.length_map]; omega) | exact True.intro | (simp only [List.length_map]; omega) | (simp only [List.map_cons, List.length_cons]; omega) | (simp only [List.length_cons, List.length_nil]; omega) | exact ⟨⟨_, _, rfl, rfl, Nat.le_of_ble_eq_true rfl⟩, trivial⟩ | exact ⟨⟨_, _, rfl, rfl, Nat.le_of_ble_eq_true rfl⟩, ⟨_, _, rfl, rfl, Nat.le_of_ble_eq_true rfl⟩, trivial⟩ | exact ⟨⟨_, _, rfl, rfl, Nat.le_of_ble_eq_true rfl⟩, ⟨_, _, rfl, rfl, Nat.le_of_ble_eq_true rfl⟩, ⟨_, _, rfl, rfl, Nat.le_of_ble_eq_true rfl⟩, trivial⟩) ?_; conv => whnf) | (refine ifB_intro (fun hA => ?_) (fun hA => ?_) <;> (try rw [hA]) <;> (conv => whnf) <;> (first | replace hA := of_decide_eq_true hA | replace hA := of_decide_eq_false hA | replace hA := eq_of_beq hA | replace hA := ne_of_beq_false hA | replace hA := bne_iff_ne.1 hA | replace hA := bne_eq_false_iff_eq.1 hA | skip) <;> (try simp only [List.length_map, cond_true, cond_false, Bool.not_eq_true', Bool.not_eq_false', beq_iff_eq, beq_eq_false_iff_ne, ne_eq] at hA)) | (refine CallP.hlb (ht) (by (conv => whnf); repeat' first | exact trivial | refine And.intro (fun _ h => h) ?_) rfl ?_; conv => whnf) | (refine CallD.hlb (ht) (by (conv => whnf); repeat' first | exact trivial | refine And.intro (fun _ h => h) ?_) ?_; conv => whnf) | (refine CallP.may (ho) (by (conv => whnf); repeat' first | exact trivial | refine And.intro (fun _ h => h) ?_) (fun _ => rfl) (fun hN => ?_) (fun xS hS => ?_) <;> (conv => whnf) <;> (try refine ⟨⟨[], trivial, rfl, ?_⟩⟩)) | (rw [getD_map _ _ _ _ (by assumption)]; conv => whnf))
      · rw [listGo_dies hA hN] at hR; subst hR; exact .inl rfl
      · obtain ⟨y, r⟩ := xS
        have hr := hl _ _ _ hS
        simp only [List.length_cons] at hq
        rw [listGo_more hA hS] at hR
        have hlen2 := hlen.2 hA
        repeat' (first | (refine And.intro (by first | exact rfl | decide | exact Nat.le_of_ble_eq_true rfl | exact ⟨_, rfl⟩ | exact ⟨_, _, rfl⟩ | exact Nat.le_refl _ | exact Int.le_refl _ | omega | (simp only [List.length_map]; omega) | exact True.intro | (simp only [List.length_map]; omega) | (simp only [List.map_cons, List.length_cons]; omega) | (simp only [List.length_cons, List.length_nil]; omega) | exact ⟨⟨_, _, rfl, rfl, Nat.le_of_ble_eq_true rfl⟩, trivial⟩ | exact ⟨⟨_, _, rfl, rfl, Nat.le_of_ble_eq_true rfl⟩, ⟨_, _, rfl, rfl, Nat.le_of_ble_eq_true rfl⟩, trivial⟩ | exact ⟨⟨_, _, rfl, rfl, Nat.le_of_ble_eq_true rfl⟩, ⟨_, _, rfl, rfl, Nat.le_of_ble_eq_true rfl⟩, ⟨_, _, rfl, rfl, Nat.le_of_ble_eq_true rfl⟩, trivial⟩) ?_; conv => whnf) | (refine ifB_intro (fun hA => ?_) (fun hA => ?_) <;> (try rw [hA]) <;> (conv => whnf) <;> (first | replace hA := of_decide_eq_true hA | replace hA := of_decide_eq_false hA | replace hA := eq_of_beq hA | replace hA := ne_of_beq_false hA | replace hA := bne_iff_ne.1 hA | replace hA := bne_eq_false_iff_eq.1 hA | skip) <;> (try simp only [List.length_map, cond_true, cond_false, Bool.not_eq_true', Bool.not_eq_false', beq_iff_eq, beq_eq_false_iff_ne, ne_eq] at hA)) | (refine And.intro (by simp only [List.map_cons, List.length_map, List.length_cons, List.length_nil]; omega) ?_; conv => whnf) | (rw [getD_map _ _ _ _ (by assumption)]; conv => whnf))
        refine ⟨(true, (a0 :: acc) ++ [y], r), ⟨fun h => by simp at h, by show ((a0 :: acc) ++ [y]).length + r.l.length ≤ N; simp; omega, n, by show r.l.length < n; omega, hR⟩, by show r.l.length < q.l.length; omega, ⟨rfl, rfl, rfl, ?_, trivial⟩, ⟨fun o h => ?_, fun o h => h, fun o h => h, trivial⟩⟩
        · exact msl_eq (by simp)
        · rw [← h]; exact congrArg (fun z => some (AObj.buf 4 49 z)) (by rw [← rowO4_at]; simp)
      · rw [listGo_done hA] at hR
        subst hR
        refine ⟨⟨spH (takeS sign q).2, ?_⟩⟩
        conv => whnf
        repeat' (first | (refine And.intro (by first | exact rfl | decide | exact Nat.le_of_ble_eq_true rfl | exact ⟨_, rfl⟩ | exact ⟨_, _, rfl⟩ | exact Nat.le_refl _ | exact Int.le_refl _ | omega | (simp only []; omega) | exact True.intro | (simp only []; omega) | (simp only []; omega) | (simp only []; omega) | exact ⟨⟨_, _, rfl, rfl, Nat.le_of_ble_eq_true rfl⟩, trivial⟩ | exact ⟨⟨_, _, rfl, rfl, Nat.le_of_ble_eq_true rfl⟩, ⟨_, _, rfl, rfl, Nat.le_of_ble_eq_true rfl⟩, trivial⟩ | exact ⟨⟨_, _, rfl, rfl, Nat.le_of_ble_eq_true rfl⟩, ⟨_, _, rfl, rfl, Nat.le_of_ble_eq_true rfl⟩, ⟨_, _, rfl, rfl, Nat.le_of_ble_eq_true rfl⟩, trivial⟩) ?_; conv => whnf) | (refine ifB_intro (fun hA => ?_) (fun hA => ?_) <;> (try rw [hA]) <;> (conv => whnf) <;> (first | replace hA := of_decide_eq_true hA | replace hA := of_decide_eq_false hA | replace hA := eq_of_beq hA | replace hA := ne_of_beq_false hA | replace hA := bne_iff_ne.1 hA | replace hA := bne_eq_false_iff_eq.1 hA | skip) <;> (try simp only [List.length_map, cond_true, cond_false, Bool.not_eq_true', Bool.not_eq_false', beq_iff_eq, beq_eq_false_iff_ne, ne_eq] at hA)) | (refine And.intro ⟨fun o h => h, fun o h => h, trivial⟩ ?_; conv => whnf) | (rw [getD_map _ _ _ _ (by assumption)]; conv => whnf))
        exact .inl rfl
    | true =>
      conv => whnf
      repeat' (first | (refine And.intro (by first | exact rfl | decide | exact Nat.le_of_ble_eq_true rfl | exact ⟨_, rfl⟩ | exact ⟨_, _, rfl⟩ | exact Nat.le_refl _ | exact Int.le_refl _ | omega | (simp only [List.length_map]; omega) | exact True.intro | (simp only [List.length_map]; omega) | (simp only []; omega) | (simp only []; omega) | exact ⟨⟨_, _, rfl, rfl, Nat.le_of_ble_eq_true rfl⟩, trivial⟩ | exact ⟨⟨_, _, rfl, rfl, Nat.le_of_ble_eq_true rfl⟩, ⟨_, _, rfl, rfl, Nat.le_of_ble_eq_true rfl⟩, trivial⟩ | exact ⟨⟨_, _, rfl, rfl, Nat.le_of_ble_eq_true rfl⟩, ⟨_, _, rfl, rfl, Nat.le_of_ble_eq_true rfl⟩, ⟨_, _, rfl, rfl, Nat.le_of_ble_eq_true rfl⟩, trivial⟩) ?_; conv => whnf) | (refine ifB_intro (fun hA => ?_) (fun hA => ?_) <;> (try rw [hA]) <;> (conv => whnf) <;> (first | replace hA := of_decide_eq_true hA | replace hA := of_decide_eq_false hA | replace hA := eq_of_beq hA | replace hA := ne_of_beq_false hA | replace hA := bne_iff_ne.1 hA | replace hA := bne_eq_false_iff_eq.1 hA | skip) <;> (try simp only [List.length_map, cond_true, cond_false, Bool.not_eq_true', Bool.not_eq_false', beq_iff_eq, beq_eq_false_iff_ne, ne_eq] at hA)) | (refine CallP.hlb (ht) (by (conv => whnf); repeat' first | exact trivial | refine And.intro (fun _ h => h) ?_) rfl ?_; conv => whnf) | (refine CallD.hlb (ht) (by (conv => whnf); repeat' first | exact trivial | refine And.intro (fun _ h => h) ?_) ?_; conv => whnf) | (refine CallP.may (ho) (by (conv => whnf); repeat' first | exact trivial | refine And.intro (fun _ h => h) ?_) (fun _ => rfl) (fun hN => ?_) (fun xS hS => ?_) <;> (conv => whnf) <;> (try refine ⟨⟨[], trivial, rfl, ?_⟩⟩)) | (rw [getD_map _ _ _ _ (by assumption)]; conv => whnf))
      · rw [listGo_dies hA hN] at hR; subst hR; exact .inl rfl
      · obtain ⟨y, r⟩ := xS
        have hr := hl _ _ _ hS
        rw [listGo_more hA hS] at hR
        have hlen2 := hlen.2 hA
        repeat' (first | (refine And.intro (by first | exact rfl | decide | exact Nat.le_of_ble_eq_true rfl | exact ⟨_, rfl⟩ | exact ⟨_, _, rfl⟩ | exact Nat.le_refl _ | exact Int.le_refl _ | omega | (simp only [List.length_map]; omega) | exact True.intro | (simp only [List.length_map]; omega) | (simp only [List.length_cons]; omega) | (simp only [List.length_cons, List.length_nil]; omega) | exact ⟨⟨_, _, rfl, rfl, Nat.le_of_ble_eq_true rfl⟩, trivial⟩ | exact ⟨⟨_, _, rfl, rfl, Nat.le_of_ble_eq_true rfl⟩, ⟨_, _, rfl, rfl, Nat.le_of_ble_eq_true rfl⟩, trivial⟩ | exact ⟨⟨_, _, rfl, rfl, Nat.le_of_ble_eq_true rfl⟩, ⟨_, _, rfl, rfl, Nat.le_of_ble_eq_true rfl⟩, ⟨_, _, rfl, rfl, Nat.le_of_ble_eq_true rfl⟩, trivial⟩) ?_; conv => whnf) | (refine ifB_intro (fun hA => ?_) (fun hA => ?_) <;> (try rw [hA]) <;> (conv => whnf) <;> (first | replace hA := of_decide_eq_true hA | replace hA := of_decide_eq_false hA | replace hA := eq_of_beq hA | replace hA := ne_of_beq_false hA | replace hA := bne_iff_ne.1 hA | replace hA := bne_eq_false_iff_eq.1 hA | skip) <;> (try simp only [List.length_map, cond_true, cond_false, Bool.not_eq_true', Bool.not_eq_false', beq_iff_eq, beq_eq_false_iff_ne, ne_eq] at hA)) | (refine And.intro (by first | exact (List.length_map ..).symm | (simp only [List.length_map, List.length_cons, List.length_nil]; omega)) ?_; conv => whnf) | (rw [getD_map _ _ _ _ (by assumption)]; conv => whnf))
        refine ⟨(true, acc ++ [y], r), ⟨fun h => by simp at h, by show (acc ++ [y]).length + r.l.length ≤ N; simp; omega, n, by show r.l.length < n; omega, hR⟩, by show r.l.length < q.l.length; omega, ⟨rfl, rfl, rfl, ?_, trivial⟩, ⟨fun o h => ?_, fun o h => h, fun o h => h, trivial⟩⟩
        · exact msl_eq (by simp)
        · rw [← h]; exact congrArg (fun z => some (AObj.buf 4 49 z)) (by rw [← rowO4_at]; simp)
      · rw [listGo_done hA] at hR
        subst hR
        refine ⟨⟨spH (takeS sign q).2, ?_⟩⟩
        conv => whnf
        repeat' (first | (refine And.intro (by first | exact rfl | decide | exact Nat.le_of_ble_eq_true rfl | exact ⟨_, rfl⟩ | exact ⟨_, _, rfl⟩ | exact Nat.le_refl _ | exact Int.le_refl _ | omega | (simp only [List.length_map]; omega) | exact True.intro | (simp only [List.length_map]; omega) | (simp only []; omega) | (simp only []; omega) | exact ⟨⟨_, _, rfl, rfl, Nat.le_of_ble_eq_true rfl⟩, trivial⟩ | exact ⟨⟨_, _, rfl, rfl, Nat.le_of_ble_eq_true rfl⟩, ⟨_, _, rfl, rfl, Nat.le_of_ble_eq_true rfl⟩, trivial⟩ | exact ⟨⟨_, _, rfl, rfl, Nat.le_of_ble_eq_true rfl⟩, ⟨_, _, rfl, rfl, Nat.le_of_ble_eq_true rfl⟩, ⟨_, _, rfl, rfl, Nat.le_of_ble_eq_true rfl⟩, trivial⟩) ?_; conv => whnf) | (refine ifB_intro (fun hA => ?_) (fun hA => ?_) <;> (try rw [hA]) <;> (conv => whnf) <;> (first | replace hA := of_decide_eq_true hA | replace hA := of_decide_eq_false hA | replace hA := eq_of_beq hA | replace hA := ne_of_beq_false hA | replace hA := bne_iff_ne.1 hA | replace hA := bne_eq_false_iff_eq.1 hA | skip) <;> (try simp only [List.length_map, cond_true, cond_false, Bool.not_eq_true', Bool.not_eq_false', beq_iff_eq, beq_eq_false_iff_ne, ne_eq] at hA)) | (refine And.intro ⟨fun o h => h, fun o h => h, trivial⟩ ?_; conv => whnf) | (rw [getD_map _ _ _ _ (by assumption)]; conv => whnf))
        repeat' (first | (refine And.intro (by first | exact rfl | decide | exact Nat.le_of_ble_eq_true rfl | exact ⟨_, rfl⟩ | exact ⟨_, _, rfl⟩ | exact Nat.le_refl _ | exact Int.le_refl _ | omega | (simp only [List.length_map]; omega) | exact True.intro | (simp only [List.length_map]; omega) | (simp only []; omega) | (simp only []; omega) | exact ⟨⟨_, _, rfl, rfl, Nat.le_of_ble_eq_true rfl⟩, trivial⟩ | exact ⟨⟨_, _, rfl, rfl, Nat.le_of_ble_eq_true rfl⟩, ⟨_, _, rfl, rfl, Nat.le_of_ble_eq_true rfl⟩, trivial⟩ | exact ⟨⟨_, _, rfl, rfl, Nat.le_of_ble_eq_true rfl⟩, ⟨_, _, rfl, rfl, Nat.le_of_ble_eq_true rfl⟩, ⟨_, _, rfl, rfl, Nat.le_of_ble_eq_true rfl⟩, trivial⟩) ?_; conv => whnf) | (refine ifB_intro (fun hA => ?_) (fun hA => ?_) <;> (try rw [hA]) <;> (conv => whnf) <;> (first | replace hA := of_decide_eq_true hA | replace hA := of_decide_eq_false hA | replace hA := eq_of_beq hA | replace hA := ne_of_beq_false hA | replace hA := bne_iff_ne.1 hA | replace hA := bne_eq_false_iff_eq.1 hA | skip) <;> (try simp only [List.length_map, cond_true, cond_false, Bool.not_eq_true', Bool.not_eq_false', beq_iff_eq, beq_eq_false_iff_ne, ne_eq] at hA)) | (refine And.intro (by first | exact (List.length_map ..).symm | (simp only [List.length_map, Nat.zero_add]; omega)) ?_; conv => whnf) | (rw [getD_map _ _ _ _ (by assumption)]; conv => whnf))
        refine .inr ?_
        show AOut.ret (.d (.sl false 4 (List.take acc.length (List.drop 0 (acc.map rowO4))))) _ = _
        rw [List.drop_zero, List.take_of_length_le (by simp)]
        rfl
end Go.Ax
