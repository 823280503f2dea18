/- Plain: tokens as a text, and back. -/
import Derived.Test.YtjokajidcojlmaaDoorAxLz
import Derived.Lib.Join
import Derived.Lib.ItoaNum
namespace Go.Ax
open Go.Lib
set_option maxRecDepth 10000

def lowC (l : List UInt8) : List Ch := l.map fun b => (b.toNat, [b])
theorem flat_low : ∀ l : List UInt8, flat (lowC l) = l
  | [] => rfl
  | b :: t => by show flat ((b.toNat, [b]) :: lowC t) = _; rw [flat_cons, flat_low t]; rfl
theorem good_lowC : ∀ (l : List UInt8), (∀ b ∈ l, b.toNat < 128) → GoodC (lowC l)
  | [], _ => rfl
  | b :: t, h => good_low (h b (by simp)) (good_lowC t fun x hx => h x (by simp [hx]))

/-- A token that the lexer makes. -/
inductive TokOk : TokT → Prop
  | word (c : Ch) (r : List Ch) (hg : GoodC (c :: r)) (hw : ∀ d ∈ c :: r, wB d = true) (hc : classF c.1 = 2) (hl : (c :: r).length ≤ 20) (ok : (c :: r).all okCh = true) : TokOk ⟨1, baOf (c :: r), 0⟩
  | num (v : Nat) (h : v ≤ 65535) : TokOk ⟨2, ⟨#[]⟩, v⟩
  | one (c : Ch) (hg : GoodC [c]) (hc : classF c.1 = 5) (ok : [c].all okCh = true) : TokOk ⟨3, baOf [c], 0⟩
  | two (c d : Ch) (hg : GoodC [c, d]) (hc : classF c.1 = 5) (hs : sign2 [c, d] = true) (ok : [c, d].all okCh = true) : TokOk ⟨3, baOf [c, d], 0⟩

/-- A token's text. -/
def txtB (t : TokT) : List UInt8 := if t.kind = 2 then decDigits t.n.toNat else t.s.data.toList
def txtC (t : TokT) : List Ch := chunks (txtB t)
theorem baOf_data (cs : List Ch) : (baOf cs).data.toList = flat cs := by simp [baOf]

theorem dec_digit : ∀ (u : Nat), ∀ b ∈ decDigits u, 48 ≤ b.toNat ∧ b.toNat ≤ 57 := by
  intro u
  induction u using Nat.strongRecOn with
  | _ u ih =>
    intro b hb
    rw [decDigits] at hb
    have hd : ∀ k, k < 10 → (UInt8.ofNat (48 + k)).toNat = 48 + k := fun k hk => by
      simp only [UInt8.toNat_ofNat']; omega
    split at hb
    · rename_i h
      rw [List.mem_singleton] at hb; subst hb
      have := hd u h; omega
    · rename_i h
      rcases List.mem_append.1 hb with hb | hb
      · exact ih (u / 10) (by omega) b hb
      · rw [List.mem_singleton] at hb; subst hb
        have := hd (u % 10) (by omega); omega
theorem dec_ne (u : Nat) : decDigits u ≠ [] := by
  rw [decDigits]; split <;> simp
theorem numC_app : ∀ (a b : List Ch) (v : Int), numC (a ++ b) v = (numC a v).bind (numC b)
  | [], b, v => rfl
  | c :: a, b, v => by
    simp only [List.cons_append, numC]
    split
    · rfl
    · exact numC_app a b _
theorem numC_dec : ∀ (u : Nat), u ≤ 65535 → numC (lowC (decDigits u)) 0 = some (u : Int) := by
  intro u
  induction u using Nat.strongRecOn with
  | _ u ih =>
    intro hu
    have hd : ∀ k, k < 10 → (UInt8.ofNat (48 + k)).toNat = 48 + k := fun k hk => by
      simp only [UInt8.toNat_ofNat']; omega
    rw [decDigits]
    split
    · rename_i h
      have h1 := hd u h
      simp only [lowC, List.map_cons, List.map_nil, numC, h1]
      rw [if_neg (by omega)]
      exact congrArg some (by omega)
    · rename_i h
      have h1 := hd (u % 10) (by omega)
      have h2 := ih (u / 10) (by omega) (by omega)
      rw [lowC, List.map_append]
      rw [lowC] at h2
      rw [numC_app, h2]
      simp only [List.map_cons, List.map_nil, Option.bind_some, numC, h1]
      rw [if_neg (by omega)]
      exact congrArg some (by omega)
theorem dec_len5 (u : Nat) (h : u ≤ 65535) : (decDigits u).length ≤ 5 := by
  have one : ∀ k, k < 10 → (decDigits k).length ≤ 1 := fun k hk => by rw [decDigits_one hk]; simp
  have st : ∀ k n, (decDigits (k / 10)).length ≤ n → (decDigits k).length ≤ n + 1 := fun k n hn => by
    rw [decDigits]; split
    · simp
    · simp; exact hn
  exact st _ _ (st _ _ (st _ _ (st _ _ (one _ (by omega)))))

theorem isDigit_of {c : Int} (h : 48 ≤ c ∧ c ≤ 57) : isDigit c = true := by
  have : c = 48 ∨ c = 49 ∨ c = 50 ∨ c = 51 ∨ c = 52 ∨ c = 53 ∨ c = 54 ∨ c = 55 ∨ c = 56 ∨ c = 57 := by omega
  rcases this with rfl | rfl | rfl | rfl | rfl | rfl | rfl | rfl | rfl | rfl <;> decide

abbrev spc : Ch := (32, [32])
/-- What may stand behind a token's text. -/
def Rest (r : List Ch) : Prop := r = [] ∨ ∃ X, r = spc :: X
theorem takeWhile_rest {p : Ch → Bool} (hp : p spc = false) {A r : List Ch} (hA : ∀ c ∈ A, p c = true) (hr : Rest r) : (A ++ r).takeWhile p = A ∧ (A ++ r).dropWhile p = r := by
  have h1 : A.takeWhile p = A := by
    induction A with
    | nil => rfl
    | cons a A ih => rw [List.takeWhile_cons, if_pos (hA a (by simp)), ih fun c hc => hA c (by simp [hc])]
  have h2 : A.dropWhile p = [] := dropWhile_nil hA
  rcases hr with rfl | ⟨X, rfl⟩
  · rw [List.append_nil, h1, h2]; exact ⟨rfl, rfl⟩
  · obtain ⟨e1, e2⟩ := takeWhile_stop hp A X
    rw [e1, e2, h1, h2]; exact ⟨rfl, rfl⟩

theorem txtC_num (v : Nat) (h : v ≤ 65535) : txtC ⟨2, ⟨#[]⟩, v⟩ = lowC (decDigits v) := by
  have : txtB ⟨2, ⟨#[]⟩, v⟩ = decDigits v := by simp [txtB]
  rw [txtC, this]
  exact low_chunks _ fun b hb => by have := dec_digit v b hb; omega
theorem txtC_text (k : Int) (cs : List Ch) (n : Int) (hk : k ≠ 2) (hg : GoodC cs) : txtC ⟨k, baOf cs, n⟩ = cs := by
  have : txtB ⟨k, baOf cs, n⟩ = flat cs := by simp only [txtB]; rw [if_neg hk, baOf_data]
  rw [txtC, this]; exact hg

theorem TokOk.step {t : TokT} (h : TokOk t) (r : List Ch) (hr : Rest r) : ∃ c r', txtC t = c :: r' ∧ classF c.1 ≠ 0 ∧ classF c.1 ≠ 1 ∧ stepC (txtC t ++ r) = .tok t r := by
  cases h with
  | word c r' hg hw hc hl ok =>
    rw [txtC_text 1 _ 0 (by decide) hg]
    refine ⟨c, r', rfl, by omega, by omega, ?_⟩
    obtain ⟨e1, e2⟩ := takeWhile_rest (p := wB) (by decide) hw hr
    unfold stepC
    simp only [List.cons_append] at e1 e2 ⊢
    rw [if_pos hc, e1, e2, if_neg (by omega)]
  | num v hv =>
    rw [txtC_num v hv]
    have hd : ∀ c ∈ lowC (decDigits v), dB c = true := fun c hc => by
      obtain ⟨b, hb, rfl⟩ := List.mem_map.1 hc
      have := dec_digit v b hb
      exact isDigit_of (by omega)
    obtain ⟨e1, e2⟩ := takeWhile_rest (p := dB) (by decide) hd hr
    have hn := numC_dec v hv
    cases hl : lowC (decDigits v) with
    | nil => exact absurd (List.map_eq_nil_iff.1 hl) (dec_ne v)
    | cons c r' =>
      rw [hl] at e1 e2 hn hd
      have hc : classF c.1 = 3 := by have := hd c (by simp); simpa [dB, isDigit] using this
      refine ⟨c, r', rfl, by omega, by omega, ?_⟩
      unfold stepC
      simp only [List.cons_append] at e1 e2 ⊢
      have hh : headW r = false := by
        rcases hr with rfl | ⟨X, rfl⟩
        · rfl
        · exact (by decide : wB spc = false)
      rw [if_neg (by omega), if_pos hc, e1, e2, hh, hn]
      rfl
  | one c hg hc ok =>
    rw [txtC_text 3 _ 0 (by decide) hg]
    refine ⟨c, [], rfl, by omega, by omega, ?_⟩
    have hs : sign2 ([c] ++ r) = false := by
      rcases hr with rfl | ⟨X, rfl⟩
      · rfl
      · simp [sign2]
    unfold stepC
    simp only [List.cons_append, List.nil_append] at hs ⊢
    rw [if_neg (by omega), if_neg (by omega), if_pos hc, hs]
    rfl
  | two c d hg hc hs ok =>
    rw [txtC_text 3 _ 0 (by decide) hg]
    refine ⟨c, [d], rfl, by omega, by omega, ?_⟩
    have hs : sign2 ([c, d] ++ r) = true := hs
    unfold stepC
    simp only [List.cons_append, List.nil_append] at hs ⊢
    rw [if_neg (by omega), if_neg (by omega), if_pos hc, hs]
    rfl

def joinC : List TokT → List Ch
  | [] => []
  | [t] => txtC t
  | t :: r => txtC t ++ spc :: joinC r
theorem tokT_join : ∀ (l : List TokT) (acc : List TokT), (∀ t ∈ l, TokOk t) → tokT (joinC l) acc = (some (acc ++ l ++ [noTok]), 0)
  | [], acc, _ => by rw [joinC, tokT_nil, List.append_nil]
  | [t], acc, h => by
    obtain ⟨c, r', h1, h2, h3, h4⟩ := (h t (by simp)).step [] (.inl rfl)
    rw [List.append_nil] at h4
    rw [joinC]
    rw [h1] at h4 ⊢
    rw [tokT_cons, if_neg h2, if_neg h3, h4]
    exact tokT_nil _
  | t :: u :: l, acc, h => by
    obtain ⟨c, r', h1, h2, h3, h4⟩ := (h t (by simp)).step (spc :: joinC (u :: l)) (.inr ⟨_, rfl⟩)
    rw [joinC]
    · rw [h1] at h4 ⊢
      rw [List.cons_append] at h4 ⊢
      rw [tokT_cons, if_neg h2, if_neg h3, h4]
      simp only
      rw [tokT_cons, if_pos (by decide), tokT_join (u :: l) _ fun x hx => h x (by simp at hx ⊢; exact .inr hx)]
      simp
    · simp

theorem TokOk.txt {t : TokT} (h : TokOk t) : GoodC (txtC t) ∧ (txtC t).all okCh = true := by
  refine ⟨good_chunks _, ?_⟩
  cases h with
  | word c r' hg hw hc hl ok => rw [txtC_text 1 _ 0 (by decide) hg]; exact ok
  | num v hv => rw [txtC_num v hv]; exact all_low _ fun b hb => by have := dec_digit v b hb; omega
  | one c hg hc ok => rw [txtC_text 3 _ 0 (by decide) hg]; exact ok
  | two c d hg hc hs ok => rw [txtC_text 3 _ 0 (by decide) hg]; exact ok
theorem flat_txtC (t : TokT) : flat (txtC t) = txtB t := flat_chunks _

theorem join_cons2 (x y : List UInt8) (l : List (List UInt8)) : Lib.join (x :: y :: l) [32] = x ++ 32 :: Lib.join (y :: l) [32] := by
  simp [Lib.join, List.intercalate]
theorem joinC_ok : ∀ (l : List TokT), (∀ t ∈ l, TokOk t) → GoodC (joinC l) ∧ (joinC l).all okCh = true ∧ flat (joinC l) = Lib.join (l.map txtB) [32]
  | [], _ => ⟨rfl, rfl, rfl⟩
  | [t], h => ⟨(h t (by simp)).txt.1, (h t (by simp)).txt.2, by rw [joinC, flat_txtC, List.map_cons, List.map_nil, Lib.join_one]⟩
  | t :: u :: l, h => by
    obtain ⟨h1, h2, h3⟩ := joinC_ok (u :: l) fun x hx => h x (by simp at hx ⊢; exact .inr hx)
    obtain ⟨g1, g2⟩ := (h t (by simp)).txt
    have e : joinC (t :: u :: l) = txtC t ++ spc :: joinC (u :: l) := by rw [joinC]; simp
    have hs : GoodC (spc :: joinC (u :: l)) := good_low (b := 32) (by decide) h1
    rw [e]
    refine ⟨g1.app hs (by rw [flat_cons]; exact edge_low (by decide)), ?_, ?_⟩
    · rw [List.all_append, List.all_cons, g2, h2]; decide
    · rw [flat_append, flat_cons, flat_txtC, h3]
      show txtB t ++ 32 :: Lib.join (txtB u :: l.map txtB) [32] = Lib.join (txtB t :: txtB u :: l.map txtB) [32]
      rw [join_cons2]

/-! ### what the lexer makes -/
theorem numC_range : ∀ (cs : List Ch) (v : Int), (∀ c ∈ cs, dB c = true) → 0 ≤ v → v ≤ 65535 → ∀ w, numC cs v = some w → 0 ≤ w ∧ w ≤ 65535
  | [], v, _, h0, h1, w, h => by simp only [numC] at h; injection h with h; omega
  | c :: cs, v, hc, h0, h1, w, h => by
    simp only [numC] at h
    have := isDigit_iff (hc c (by simp))
    split at h
    · exact absurd h (by simp)
    · exact numC_range cs _ (fun d hd => hc d (by simp [hd])) (by omega) (by omega) w h

def wt (l : List TokT) : Nat := (l.map fun t => (txtB t).length + 1).sum
theorem wt_app (a b : List TokT) : wt (a ++ b) = wt a + wt b := by simp [wt]
theorem wt_one (t : TokT) : wt [t] = (txtB t).length + 1 := by simp [wt]
theorem GoodC.pos {c : Ch} {cs : List Ch} (h : GoodC (c :: cs)) : 1 ≤ (flat (c :: cs)).length := by
  have := List.length_pos_iff.2 h.ne.1
  rw [flat_cons, List.length_append]; omega
theorem all_split {A B : List Ch} (h : (A ++ B).all okCh = true) : A.all okCh = true ∧ B.all okCh = true := by
  rw [List.all_append, Bool.and_eq_true] at h; exact h

theorem stepC_ok {c : Ch} {r r' : List Ch} {t : TokT} (hg : GoodC (c :: r)) (ok : (c :: r).all okCh = true) (h : stepC (c :: r) = .tok t r') : TokOk t ∧ GoodC r' ∧ r'.all okCh = true ∧ (txtB t).length + 1 + 6 * (flat r').length ≤ 6 * (flat (c :: r)).length := by
  unfold stepC at h
  simp only at h
  split at h
  · rename_i h2
    split at h
    · exact absurd h (by simp)
    · rename_i h20
      injection h with h1 h; subst h; subst h1
      have hwc : wB c = true := by simp [wB, withinF, h2]
      have e := List.takeWhile_append_dropWhile (p := wB) (l := c :: r)
      have hg' := hg; have ok' := ok
      rw [← e] at hg' ok'
      have e3 : (flat (c :: r)).length = (flat ((c :: r).takeWhile wB)).length + (flat ((c :: r).dropWhile wB)).length := by
        rw [← List.length_append, ← flat_append, e]
      have hta := takeWhile_all wB (c :: r)
      have htw : (c :: r).takeWhile wB = c :: r.takeWhile wB := by rw [List.takeWhile_cons, if_pos hwc]
      have hgp := hg'.pre
      have hall := (all_split ok').1
      rw [htw] at hgp hall hta h20 e3 ⊢
      refine ⟨.word _ _ hgp hta h2 (by omega) hall, hg'.suf, (all_split ok').2, ?_⟩
      have e4 : (txtB ⟨1, baOf (c :: r.takeWhile wB), 0⟩).length = (flat (c :: r.takeWhile wB)).length := by simp only [txtB]; rw [if_neg (by decide), baOf_data]
      have := hgp.pos
      rw [e4, e3]; omega
  · split at h
    · rename_i h3
      split at h
      · exact absurd h (by simp)
      · cases hn : numC ((c :: r).takeWhile dB) 0 with
        | none => rw [hn] at h; exact absurd h (by simp)
        | some v =>
          rw [hn] at h
          injection h with h1 h; subst h; subst h1
          have hdc : dB c = true := by simp [dB, isDigit, h3]
          have e := List.takeWhile_append_dropWhile (p := dB) (l := c :: r)
          have hg' := hg; have ok' := ok
          rw [← e] at hg' ok'
          have e3 : (flat (c :: r)).length = (flat ((c :: r).takeWhile dB)).length + (flat ((c :: r).dropWhile dB)).length := by
            rw [← List.length_append, ← flat_append, e]
          have hta := takeWhile_all dB (c :: r)
          have htw : (c :: r).takeWhile dB = c :: r.takeWhile dB := by rw [List.takeWhile_cons, if_pos hdc]
          have hgp := hg'.pre
          obtain ⟨v0, v1⟩ := numC_range _ 0 hta (by omega) (by omega) v hn
          rw [htw] at hgp e3
          have hv : v = (v.toNat : Int) := by omega
          refine ⟨by rw [hv]; exact .num v.toNat (by omega), hg'.suf, (all_split ok').2, ?_⟩
          have e4 : (txtB ⟨2, ⟨#[]⟩, v⟩).length ≤ 5 := by
            unfold txtB
            rw [if_pos rfl]
            show (decDigits v.toNat).length ≤ 5
            exact dec_len5 _ (by omega)
          have := hgp.pos
          rw [e3]; omega
    · split at h
      · rename_i h5
        split at h
        · rename_i hs
          injection h with h1 h; subst h; subst h1
          obtain ⟨d, r2, hr⟩ := sign2_two hs
          subst hr
          have hgp : GoodC [c, d] := (show GoodC ([c, d] ++ r2) from hg).pre
          have hal := all_split (A := [c, d]) (B := r2) ok
          refine ⟨.two c d hgp h5 hs hal.1, hg.tail.tail, hal.2, ?_⟩
          have e4 : (txtB ⟨3, baOf [c, d], 0⟩).length = (flat [c, d]).length := by simp only [txtB]; rw [if_neg (by decide), baOf_data]
          have := hgp.pos
          show (txtB ⟨3, baOf [c, d], 0⟩).length + 1 + 6 * (flat r2).length ≤ 6 * (flat ([c, d] ++ r2)).length
          rw [e4, flat_append, List.length_append]; omega
        · injection h with h1 h; subst h; subst h1
          have hgp : GoodC [c] := (show GoodC ([c] ++ r) from hg).pre
          have hal := all_split (A := [c]) (B := r) ok
          refine ⟨.one c hgp h5 hal.1, hg.tail, hal.2, ?_⟩
          have e4 : (txtB ⟨3, baOf [c], 0⟩).length = (flat [c]).length := by simp only [txtB]; rw [if_neg (by decide), baOf_data]
          have := hgp.pos
          show (txtB ⟨3, baOf [c], 0⟩).length + 1 + 6 * (flat r).length ≤ 6 * (flat ([c] ++ r)).length
          rw [e4, flat_append, List.length_append]; omega
      · exact absurd h (by simp)

theorem tokT_ok : ∀ (n : Nat) (cs : List Ch) (acc : List TokT), cs.length ≤ n → GoodC cs → cs.all okCh = true → (∀ t ∈ acc, TokOk t) → ∀ m e, tokT cs acc = (some m, e) → ∃ l, m = l ++ [noTok] ∧ (∀ t ∈ l, TokOk t) ∧ wt l ≤ wt acc + 6 * (flat cs).length
  | n, [], acc, _, _, _, ha, m, e, h => by
    rw [tokT_nil] at h
    injection h with h _; injection h with h
    exact ⟨acc, h.symm, ha, by omega⟩
  | 0, c :: r, b, h, _, _, _, _, _, _ => by simp at h
  | n + 1, c :: r, acc, hlen, hg, ok, ha, m, e, h => by
    simp only [List.length_cons] at hlen
    have hfl : (flat (c :: r)).length = c.2.length + (flat r).length := by rw [flat_cons, List.length_append]
    rw [tokT_cons] at h
    split at h
    · obtain ⟨l, h1, h2, h3⟩ := tokT_ok n r acc (by omega) hg.tail (by rw [List.all_cons, Bool.and_eq_true] at ok; exact ok.2) ha m e h
      exact ⟨l, h1, h2, by omega⟩
    · split at h
      · rename_i h1
        have hd := dropWhile_lt (nB_hash h1) r
        simp only [List.length_cons] at hd
        have e1 := List.takeWhile_append_dropWhile (p := nB) (l := c :: r)
        have hg' := hg; have ok' := ok
        rw [← e1] at hg' ok'
        have e3 : (flat (c :: r)).length = (flat ((c :: r).takeWhile nB)).length + (flat ((c :: r).dropWhile nB)).length := by
          rw [← List.length_append, ← flat_append, e1]
        obtain ⟨l, h1, h2, h3⟩ := tokT_ok n _ acc (by omega) hg'.suf (all_split ok').2 ha m e h
        exact ⟨l, h1, h2, by omega⟩
      · cases hs : stepC (c :: r) with
        | err e => rw [hs] at h; exact absurd h (by simp)
        | tok t r' =>
          rw [hs] at h
          obtain ⟨g1, g2, g3, g4⟩ := stepC_ok hg ok hs
          have hl := stepC_len hs
          simp only [List.length_cons] at hl
          obtain ⟨l, h1, h2, h3⟩ := tokT_ok n r' (acc ++ [t]) (by omega) g2 g3 (fun x hx => (List.mem_append.1 hx).elim (ha x) fun hx => by simp at hx; subst hx; exact g1) m e h
          refine ⟨l, h1, h2, ?_⟩
          rw [wt_app, wt_one] at h3
          omega

/-- The tokens ahead of the end. -/
def ahead (m : List TokT) : List TokT := m.takeWhile fun t => t.kind != 0
def joinB (m : List TokT) : List UInt8 := Lib.join ((ahead m).map txtB) [32]
theorem TokOk.kind {t : TokT} (h : TokOk t) : (t.kind != 0) = true := by cases h <;> rfl
theorem ahead_ok {l : List TokT} (h : ∀ t ∈ l, TokOk t) : ahead (l ++ [noTok]) = l := by
  have := (takeWhile_stop (p := fun t : TokT => t.kind != 0) (x := noTok) rfl l []).1
  rw [ahead, this]
  induction l with
  | nil => rfl
  | cons a l ih =>
    rw [List.takeWhile_cons, if_pos (h a (by simp)).kind]
    exact congrArg _ (ih (fun t ht => h t (by simp [ht])) (takeWhile_stop rfl l []).1)
theorem join_wt : ∀ l : List TokT, (Lib.join (l.map txtB) [32]).length ≤ wt l
  | [] => by simp [Lib.join_nil]
  | [t] => by rw [List.map_cons, List.map_nil, Lib.join_one, wt_one]; omega
  | t :: u :: l => by
    have := join_wt (u :: l)
    rw [List.map_cons] at this
    rw [List.map_cons, List.map_cons, join_cons2, List.length_append, List.length_cons, show t :: u :: l = [t] ++ (u :: l) from rfl, wt_app, wt_one]
    omega

theorem back_law (s S : ByteArray) (hs : s.size ≤ 500) (m : List TokT) (e : Int) (h : tokensF vS s = (some m, e)) (hS : S.data.toList = joinB m) : (joinB m).length ≤ 3000 ∧ tokensF vS S = (some m, 0) := by
  rw [tokensF_T s (by omega)] at h
  cases hv : vS s with
  | false => rw [hv, if_pos rfl] at h; exact absurd h (by simp)
  | true =>
    rw [hv, if_neg (by simp)] at h
    obtain ⟨l, h1, h2, h3⟩ := tokT_ok _ (chunks s.data.toList) [] (Nat.le_refl _) (good_chunks _) (by rw [← valid_chunks]; exact hv) (fun t ht => by simp at ht) m e h
    subst h1
    obtain ⟨j1, j2, j3⟩ := joinC_ok l h2
    have hj : joinB (l ++ [noTok]) = flat (joinC l) := by rw [joinB, ahead_ok h2, j3]
    have hsz : (joinB (l ++ [noTok])).length ≤ 3000 := by
      rw [joinB, ahead_ok h2]
      have := join_wt l
      rw [flat_chunks, len_data] at h3
      simp only [wt, List.map_nil, List.sum_nil] at h3
      simp only [wt] at this
      omega
    refine ⟨hsz, ?_⟩
    have hch : chunks S.data.toList = joinC l := by rw [hS, hj]; exact j1
    rw [tokensF_T S (by rw [← len_data, hS]; omega), vS, valid_chunks, hch, j2, if_neg (by simp), tokT_join l [] h2]
    simp
end Go.Ax
