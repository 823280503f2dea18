/- Plain: the lexer's tokens, over chunks. -/
import Derived.Test.YtjokajidcojlmaaDoorAxTk
import Derived.Test.YtjokajidcojlmaaDoorAxCh
namespace Go.Ax
open Go.Lib
set_option maxRecDepth 10000

def wB (c : Ch) : Bool := withinF c.1
def dB (c : Ch) : Bool := isDigit c.1
def nB (c : Ch) : Bool := (c.1 : Int) != 10
def numC : List Ch → Int → Option Int
  | [], v => some v
  | c :: r, v => if 65535 < 10 * v + ((c.1 : Int) - 48) then none else numC r (10 * v + ((c.1 : Int) - 48))
def sign2 : List Ch → Bool
  | a :: b :: _ => (a.1 == 58 && b.1 == 61) || (a.1 == 61 && b.1 == 62)
  | _ => false
def headW : List Ch → Bool
  | [] => false
  | c :: _ => wB c
def baOf (cs : List Ch) : ByteArray := ⟨(flat cs).toArray⟩
inductive StepR where
  | err (e : Int)
  | tok (t : TokT) (r : List Ch)
def stepC (cs : List Ch) : StepR :=
  match cs with
  | [] => .err 10
  | c :: _ =>
    if classF c.1 = 2 then (if 20 < (cs.takeWhile wB).length then .err 2 else .tok ⟨1, baOf (cs.takeWhile wB), 0⟩ (cs.dropWhile wB))
    else if classF c.1 = 3 then (if headW (cs.dropWhile dB) then .err 10 else match numC (cs.takeWhile dB) 0 with
      | none => .err 2
      | some v => .tok ⟨2, ⟨#[]⟩, v⟩ (cs.dropWhile dB))
    else if classF c.1 = 5 then (if sign2 cs then .tok ⟨3, baOf (cs.take 2), 0⟩ (cs.drop 2) else .tok ⟨3, baOf (cs.take 1), 0⟩ (cs.drop 1))
    else .err 10
def tokC : Nat → List Ch → List TokT → Option (List TokT) × Int
  | 0, _, _ => (none, 0)
  | _ + 1, [], acc => (some (acc ++ [noTok]), 0)
  | f + 1, c :: r, acc => if classF c.1 = 0 then tokC f r acc else if classF c.1 = 1 then tokC f ((c :: r).dropWhile nB) acc else
    match stepC (c :: r) with
    | .err e => (none, e)
    | .tok t r' => tokC f r' (acc ++ [t])

/-! ### from the text to its chunks -/
theorem runeAt_drop (s : ByteArray) (pos : Nat) : runeAt s pos = (decodeL (s.data.toList.drop pos)).1 ∧ runeW s pos = (decodeL (s.data.toList.drop pos)).2 := by
  rw [decodeL_drop]; exact ⟨rfl, rfl⟩
theorem len_data (s : ByteArray) : s.data.toList.length = s.size := by rw [Array.length_toList]; rfl
theorem runF_chunks (p : Int → Bool) (s : ByteArray) : ∀ (f pos : Nat), s.size ≤ pos + f → pos ≤ s.size → runF p s f pos = pos + (flat ((chunks (s.data.toList.drop pos)).takeWhile fun c => p c.1)).length
  | 0, pos, h1, h2 => by
    have : s.data.toList.drop pos = [] := List.drop_eq_nil_of_le (by rw [len_data]; omega)
    rw [this]; simp only [runF, chunks_nil, List.takeWhile_nil, flat_nil, List.length_nil]; omega
  | f + 1, pos, h1, h2 => by
    simp only [runF]
    by_cases hlt : pos < s.size
    · rw [if_pos hlt]
      have hne : s.data.toList.drop pos ≠ [] := fun e => by
        have : (s.data.toList.drop pos).length = 0 := by rw [e]; rfl
        rw [List.length_drop, len_data] at this; omega
      have hw := decodeL_width (s.data.toList.drop pos)
      have hle := decodeL_le _ hne
      rw [List.length_drop, len_data] at hle
      obtain ⟨r1, r2⟩ := runeAt_drop s pos
      rw [r1, r2, chunks_step hne, List.takeWhile_cons]
      by_cases hp : p ((decodeL (s.data.toList.drop pos)).1 : Int) = true
      · rw [if_pos hp, if_pos hp, flat_cons, List.length_append, runF_chunks p s f _ (by omega) (by omega), List.drop_drop, List.length_take, List.length_drop, len_data]
        omega
      · rw [if_neg hp, if_neg hp]; rfl
    · rw [if_neg hlt]
      have : s.data.toList.drop pos = [] := List.drop_eq_nil_of_le (by rw [len_data]; omega)
      rw [this]; simp only [chunks_nil, List.takeWhile_nil, flat_nil, List.length_nil]; omega

theorem data_take (s : ByteArray) (n : Nat) : (s.extract 0 n).data.toList = s.data.toList.take n := by
  simp [ByteArray.data_extract]
theorem data_drop (s : ByteArray) (n : Nat) : (s.extract n s.size).data.toList = s.data.toList.drop n := by
  simp only [ByteArray.data_extract, Array.toList_extract]
  rw [List.extract_eq_take_drop]
  exact List.take_of_length_le (by rw [List.length_drop, len_data]; omega)
theorem ba_data (s : ByteArray) (l : List UInt8) (h : s.data.toList = l) : s = ⟨l.toArray⟩ := by
  subst h; obtain ⟨a⟩ := s; simp

/-- A split of a text at what is so. -/
theorem split_chunks (p : Ch → Bool) (l : List UInt8) : l.take (flat ((chunks l).takeWhile p)).length = flat ((chunks l).takeWhile p) ∧ l.drop (flat ((chunks l).takeWhile p)).length = flat ((chunks l).dropWhile p) ∧ GoodC ((chunks l).takeWhile p) ∧ GoodC ((chunks l).dropWhile p) := by
  have e : l = flat ((chunks l).takeWhile p) ++ flat ((chunks l).dropWhile p) := by
    rw [← flat_append, List.takeWhile_append_dropWhile, flat_chunks]
  have hg := good_chunks l
  rw [← List.takeWhile_append_dropWhile (p := p) (l := chunks l)] at hg
  refine ⟨?_, ?_, hg.pre, hg.suf⟩
  · conv => lhs; arg 2; rw [e]
    exact List.take_left
  · conv => lhs; arg 2; rw [e]
    exact List.drop_left

theorem runeCountFrom_chunks (s : ByteArray) : ∀ (f pos : Nat), s.size ≤ pos + f → runeCountFrom s f pos = (chunks (s.data.toList.drop pos)).length
  | 0, pos, h => by
    have : s.data.toList.drop pos = [] := List.drop_eq_nil_of_le (by rw [len_data]; omega)
    rw [this]; rfl
  | f + 1, pos, h => by
    unfold runeCountFrom
    by_cases hlt : pos < s.size
    · have hne : s.data.toList.drop pos ≠ [] := fun e => by
        have : (s.data.toList.drop pos).length = 0 := by rw [e]; rfl
        rw [List.length_drop, len_data] at this; omega
      have hw := decodeL_width (s.data.toList.drop pos)
      rw [if_pos hlt, ← decodeL_drop, runeCountFrom_chunks s f _ (by omega), chunks_step hne, List.length_cons, List.drop_drop]
      omega
    · have : s.data.toList.drop pos = [] := List.drop_eq_nil_of_le (by rw [len_data]; omega)
      rw [if_neg hlt, this]; rfl
theorem runeCount_chunks (s : ByteArray) : runeCount s = (chunks s.data.toList).length := by
  have := runeCountFrom_chunks s s.size 0 (by omega)
  rw [List.drop_zero] at this
  exact this

theorem decodeL_high {b : UInt8} {t : List UInt8} (h : 128 ≤ b.toNat) : 128 ≤ (decodeL (b :: t)).1 := by
  have := (decode_high ⟨(b :: t).toArray⟩ 0 (by simp [ByteArray.size]) (by show 128 ≤ b.toNat; exact h)).1
  exact this
/-- A code point below 128 is its byte. -/
theorem GoodC.low {c : Ch} {cs : List Ch} (h : GoodC (c :: cs)) (hc : c.1 < 128) : ∃ b : UInt8, c.2 = [b] ∧ b.toNat = c.1 := by
  obtain ⟨h1, _, h3⟩ := h.ne
  obtain ⟨n, l⟩ := c
  cases l with
  | nil => exact absurd rfl h1
  | cons b t =>
    have h3 : decodeL (b :: (t ++ flat cs)) = (n, (b :: t).length) := h3
    by_cases hb : b.toNat < 128
    · rw [decodeL_ascii b _ hb] at h3
      injection h3 with e1 e2
      have : t = [] := by cases t with
        | nil => rfl
        | cons x t => simp at e2
      subst this
      exact ⟨b, rfl, e1⟩
    · have := decodeL_high (b := b) (t := t ++ flat cs) (by omega)
      rw [h3] at this
      have hc : n < 128 := hc
      have : 128 ≤ n := this
      omega
theorem GoodC.byte {c : Ch} {cs : List Ch} (h : GoodC (c :: cs)) {b : UInt8} {t : List UInt8} (hb : flat (c :: cs) = b :: t) (hl : b.toNat < 128) : c.1 = b.toNat := by
  unfold GoodC at h
  rw [hb, chunks_low hl] at h
  injection h with h1 _
  rw [← h1]

theorem classF_low {c : Int} (h : classF c = 5 ∨ classF c = 3 ∨ classF c = 0 ∨ classF c = 1) : 0 ≤ c ∧ c < 128 := by
  unfold classF at h
  repeat' split at h
  all_goals omega

theorem numGo_chunks (d : ByteArray) : ∀ (cs : List Ch) (pos : Nat) (v : Int), (∀ c ∈ cs, ∃ b : UInt8, c.2 = [b] ∧ b.toNat = c.1) → d.data.toList.drop pos = flat cs → numGo d cs.length pos v = numC cs v
  | [], pos, v, _, _ => rfl
  | c :: cs, pos, v, h, hd => by
    obtain ⟨b, h1, h2⟩ := h c (by simp)
    rw [flat_cons, h1] at hd
    have hlt : pos < d.data.toList.length := by
      rcases Nat.lt_or_ge pos d.data.toList.length with hh | hh
      · exact hh
      · rw [List.drop_eq_nil_of_le hh] at hd; simp at hd
    rw [List.drop_eq_getElem_cons hlt] at hd
    injection hd with e1 e2
    have hlt' : pos < d.size := by rw [← len_data]; exact hlt
    have hb : byteAt d pos = (c.1 : Int) := by
      simp only [byteAt, Int.toNat_natCast]
      rw [dif_pos hlt']
      have : d[pos]'hlt' = b := by rw [← e1]; rfl
      rw [this, h2]
    simp only [List.length_cons, numGo, numC, hb]
    rw [numGo_chunks d cs (pos + 1) _ (fun c hc => h c (by simp [hc])) e2]

theorem flat_one {cs : List Ch} (h : ∀ c ∈ cs, ∃ b : UInt8, c.2 = [b] ∧ b.toNat = c.1) : (flat cs).length = cs.length := by
  induction cs with
  | nil => rfl
  | cons c cs ih =>
    obtain ⟨b, h1, _⟩ := h c (by simp)
    rw [flat_cons, List.length_append, ih fun c hc => h c (by simp [hc]), h1, List.length_cons]; simp; omega
theorem GoodC.lows {cs : List Ch} (h : GoodC cs) (hc : ∀ c ∈ cs, c.1 < 128) : ∀ c ∈ cs, ∃ b : UInt8, c.2 = [b] ∧ b.toNat = c.1 := by
  induction cs with
  | nil => exact fun c hc => by simp at hc
  | cons d cs ih =>
    intro c hm
    rcases List.mem_cons.1 hm with rfl | hm
    · exact h.low (hc _ (by simp))
    · exact ih h.tail (fun c hc' => hc c (by simp [hc'])) c hm

theorem takeWhile_all {α : Type} (p : α → Bool) (l : List α) : ∀ c ∈ l.takeWhile p, p c = true := by
  induction l with
  | nil => exact fun c h => by simp at h
  | cons x l ih =>
    intro c h
    rw [List.takeWhile_cons] at h
    split at h
    · rename_i hx
      rcases List.mem_cons.1 h with rfl | h
      · exact hx
      · exact ih c h
    · simp at h

theorem hasPrefix2 (x y : UInt8) (l : List UInt8) : Lib.hasPrefix l [x, y] = (match l with
    | a :: b :: _ => x == a && y == b
    | _ => false) := by
  unfold Lib.hasPrefix
  match l with
  | [] => rfl
  | [a] => simp [List.isPrefixOf]
  | a :: b :: t => simp [List.isPrefixOf]

theorem beq_u8 (a b : UInt8) : (a == b) = (a.toNat == b.toNat) := by
  rw [Bool.eq_iff_iff, beq_iff_eq, beq_iff_eq]; exact ⟨fun h => by rw [h], fun h => UInt8.toNat_inj.1 h⟩

theorem sign2_bytes {c : Ch} {r : List Ch} (h : GoodC (c :: r)) (hc : c.1 < 128) : sign2 (c :: r) = (Lib.hasPrefix (flat (c :: r)) [58, 61] || Lib.hasPrefix (flat (c :: r)) [61, 62]) := by
  obtain ⟨b, h1, h2⟩ := h.low hc
  rw [hasPrefix2, hasPrefix2, flat_cons, h1]
  cases r with
  | nil => rfl
  | cons d r =>
    obtain ⟨g1, g2, g3⟩ := h.tail.ne
    obtain ⟨n, dl⟩ := d
    cases dl with
    | nil => exact absurd rfl g1
    | cons x t =>
      rw [flat_cons]
      simp only [List.cons_append, List.nil_append, sign2]
      have e1 : (c.1 == 58) = ((58 : UInt8) == b) := by rw [← h2, beq_u8, Bool.beq_comm]; rfl
      have e2 : (c.1 == 61) = ((61 : UInt8) == b) := by rw [← h2, beq_u8, Bool.beq_comm]; rfl
      have key : ∀ k : UInt8, k.toNat < 128 → (n == k.toNat) = (k == x) := fun k hk => by
        rw [beq_u8]
        by_cases hx : x.toNat < 128
        · have := h.tail.byte (b := x) (t := t ++ flat r) (by rw [flat_cons]; rfl) hx
          have : n = x.toNat := this
          rw [this, Bool.beq_comm]
        · have := decodeL_high (b := x) (t := t ++ flat r) (by omega)
          have g3 : decodeL (x :: (t ++ flat r)) = (n, _) := g3
          rw [g3] at this
          have : 128 ≤ n := this
          rw [Bool.eq_iff_iff, beq_iff_eq, beq_iff_eq]; omega
      have e3 := key 61 (by decide)
      have e4 := key 62 (by decide)
      rw [e1, e2]
      have e3 : (n == 61) = ((61 : UInt8) == x) := e3
      have e4 : (n == 62) = ((62 : UInt8) == x) := e4
      rw [e3, e4]

theorem GoodC.take_flat {A B : List Ch} : (flat (A ++ B)).take (flat A).length = flat A ∧ (flat (A ++ B)).drop (flat A).length = flat B := by
  rw [flat_append]; exact ⟨List.take_left, List.drop_left⟩

theorem sign2_low {c d : Ch} {r : List Ch} (h : sign2 (c :: d :: r) = true) : d.1 < 128 := by
  simp only [sign2, Bool.or_eq_true, Bool.and_eq_true, beq_iff_eq] at h; omega
theorem sign2_two {c : Ch} {r : List Ch} (h : sign2 (c :: r) = true) : ∃ d r', r = d :: r' := by
  cases r with
  | nil => simp [sign2] at h
  | cons d r => exact ⟨_, _, rfl⟩

/-- What stepF says of a text, stepC says of its chunks. -/
theorem step_eq (s : ByteArray) (c : Ch) (r : List Ch) (hcs : chunks s.data.toList = c :: r) :
    match stepC (c :: r) with
    | .err e => (stepF s).e = e ∧ e ≠ 0
    | .tok t r' => (stepF s).e = 0 ∧ (stepF s).t = t ∧ chunks (s.extract (stepF s).n.toNat s.size).data.toList = r' := by
  have hg : GoodC (c :: r) := by rw [← hcs]; exact good_chunks _
  have hfl : flat (c :: r) = s.data.toList := by rw [← hcs, flat_chunks]
  have hne : s.data.toList ≠ [] := fun e => by rw [e, chunks_nil] at hcs; simp at hcs
  have hsz : 0 < s.size := by rw [← len_data]; exact List.length_pos_iff.2 hne
  have hd1 : (Lib.decodeGo s).1 = c.1 := by
    rw [(decodeGo_rune hsz).1, (runeAt_drop s 0).1, List.drop_zero]
    rw [chunks_step hne] at hcs
    injection hcs with h1 _
    rw [← h1]
  unfold stepF stepC
  simp only [hd1]
  by_cases h2 : classF c.1 = 2
  · rw [if_pos h2, if_pos h2]
    obtain ⟨k1, k2, k3, k4⟩ := split_chunks wB s.data.toList
    rw [hcs] at k1 k2 k3 k4
    have hn : runF withinF s s.size 0 = (flat ((c :: r).takeWhile wB)).length := by
      rw [runF_chunks withinF s s.size 0 (by omega) (by omega), List.drop_zero, hcs, Nat.zero_add]; rfl
    have hrc : runeCount (s.extract 0 (flat ((c :: r).takeWhile wB)).length) = ((c :: r).takeWhile wB).length := by
      rw [runeCount_chunks, data_take, k1, k3]
    unfold wordF
    rw [hn, hrc]
    by_cases h20 : 20 < ((c :: r).takeWhile wB).length
    · rw [if_pos h20, if_pos h20]; exact ⟨rfl, by decide⟩
    · rw [if_neg h20, if_neg h20]
      refine ⟨rfl, ?_, ?_⟩
      · show TokT.mk 1 (s.extract 0 _) 0 = TokT.mk 1 (baOf _) 0
        rw [ba_data (s.extract 0 (flat ((c :: r).takeWhile wB)).length) (flat ((c :: r).takeWhile wB)) (by rw [data_take, k1])]; rfl
      · show chunks (s.extract ((flat ((c :: r).takeWhile wB)).length : Int).toNat s.size).data.toList = _
        rw [Int.toNat_natCast, data_drop, k2, k4]
  · rw [if_neg h2, if_neg h2]
    by_cases h3 : classF c.1 = 3
    · rw [if_pos h3, if_pos h3]
      obtain ⟨k1, k2, k3, k4⟩ := split_chunks dB s.data.toList
      rw [hcs] at k1 k2 k3 k4
      have hn : runF isDigit s s.size 0 = (flat ((c :: r).takeWhile dB)).length := by
        rw [runF_chunks isDigit s s.size 0 (by omega) (by omega), List.drop_zero, hcs, Nat.zero_add]; rfl
      have hlow : ∀ c' ∈ (c :: r).takeWhile dB, c'.1 < 128 := fun c' hc' => by
        have := isDigit_iff (takeWhile_all dB _ c' hc'); omega
      have hlows := k3.lows hlow
      have hlen := flat_one hlows
      have hsplit : (flat ((c :: r).takeWhile dB)).length + (flat ((c :: r).dropWhile dB)).length = s.size := by
        rw [← List.length_append, ← flat_append, List.takeWhile_append_dropWhile, hfl, len_data]
      have hcond : ((flat ((c :: r).takeWhile dB)).length < s.size ∧ withinF (Lib.decodeGo (s.extract (flat ((c :: r).takeWhile dB)).length s.size)).1 = true) ↔ headW ((c :: r).dropWhile dB) = true := by
        cases hdw : (c :: r).dropWhile dB with
        | nil =>
          rw [hdw] at hsplit
          simp only [flat_nil, List.length_nil] at hsplit
          simp only [headW, Bool.false_eq_true, iff_false]
          exact fun h => by omega
        | cons d r' =>
          rw [hdw] at k2 k4 hsplit
          have hdz : 0 < (s.extract (flat ((c :: r).takeWhile dB)).length s.size).size := by
            rw [← len_data, data_drop, k2]
            exact List.length_pos_iff.2 (fun e => by unfold GoodC at k4; rw [e, chunks_nil] at k4; simp at k4)
          have e1 : (Lib.decodeGo (s.extract (flat ((c :: r).takeWhile dB)).length s.size)).1 = d.1 := by
            rw [(decodeGo_rune hdz).1, (runeAt_drop _ 0).1, List.drop_zero, data_drop, k2]
            have hne2 : flat (d :: r') ≠ [] := fun e => by unfold GoodC at k4; rw [e, chunks_nil] at k4; simp at k4
            unfold GoodC at k4
            rw [chunks_step hne2] at k4
            injection k4 with h1 _
            exact congrArg Prod.fst h1
          rw [e1]
          simp only [headW, wB]
          refine ⟨fun h => h.2, fun h => ⟨?_, h⟩⟩
          have : 0 < (flat (d :: r')).length := List.length_pos_iff.2 (fun e => by unfold GoodC at k4; rw [e, chunks_nil] at k4; simp at k4)
          omega
      unfold numberF
      rw [hn]
      by_cases hw : headW ((c :: r).dropWhile dB) = true
      · rw [if_pos hw, if_pos (hcond.2 hw)]; exact ⟨rfl, by decide⟩
      · rw [if_neg hw, if_neg (fun h => hw (hcond.1 h))]
        have hnum : numGo (s.extract 0 (flat ((c :: r).takeWhile dB)).length) (flat ((c :: r).takeWhile dB)).length 0 0 = numC ((c :: r).takeWhile dB) 0 := by
          conv => lhs; arg 2; rw [hlen]
          exact numGo_chunks _ _ 0 0 hlows (by rw [List.drop_zero, data_take, k1])
        rw [hnum]
        cases numC ((c :: r).takeWhile dB) 0 with
        | none => exact ⟨rfl, by decide⟩
        | some v =>
          refine ⟨rfl, rfl, ?_⟩
          show chunks (s.extract ((flat ((c :: r).takeWhile dB)).length : Int).toNat s.size).data.toList = _
          rw [Int.toNat_natCast, data_drop, k2, k4]
    · rw [if_neg h3, if_neg h3]
      by_cases h5 : classF c.1 = 5
      · rw [if_pos h5, if_pos h5]
        have hlow : c.1 < 128 := by have := classF_low (.inl h5); omega
        obtain ⟨b, hb1, hb2⟩ := hg.low hlow
        have hs2 := sign2_bytes hg hlow
        rw [hfl] at hs2
        unfold markF markN
        rw [← hs2]
        have fin : ∀ A B : List Ch, c :: r = A ++ B → ((flat A).length : Int) = (if sign2 (c :: r) = true then 2 else 1) → TokT.mk 3 (s.extract 0 (if sign2 (c :: r) = true then (2 : Int) else 1).toNat) 0 = ⟨3, baOf A, 0⟩ ∧ chunks (s.extract (if sign2 (c :: r) = true then (2 : Int) else 1).toNat s.size).data.toList = B := by
          intro A B hAB hl
          rw [← hl, Int.toNat_natCast]
          have e1 := GoodC.take_flat (A := A) (B := B)
          rw [← hAB, hfl] at e1
          refine ⟨?_, ?_⟩
          · rw [ba_data (s.extract 0 (flat A).length) (flat A) (by rw [data_take, e1.1])]; rfl
          · rw [data_drop, e1.2]
            rw [hAB] at hg
            exact hg.suf
        by_cases hs : sign2 (c :: r) = true
        · obtain ⟨d, r', hr⟩ := sign2_two hs
          subst hr
          obtain ⟨b2, hb3, _⟩ := hg.tail.low (sign2_low hs)
          have := fin [c, d] r' rfl (by rw [if_pos hs, flat_cons, flat_cons, hb1, hb3]; rfl)
          rw [if_pos hs]
          rw [if_pos hs] at this ⊢
          exact ⟨rfl, this⟩
        · have := fin [c] r rfl (by rw [if_neg hs, flat_cons, hb1]; rfl)
          rw [if_neg hs]
          rw [if_neg hs] at this ⊢
          exact ⟨rfl, this⟩
      · rw [if_neg h5, if_neg h5]; exact ⟨rfl, by decide⟩

theorem ba_size0 {s : ByteArray} (h : s.size = 0) : s.data.toList = [] := List.eq_nil_of_length_eq_zero (by rw [len_data, h])

theorem tok_eq : ∀ (f : Nat) (s : ByteArray) (acc : List TokT), tokGo f s acc = tokC f (chunks s.data.toList) acc
  | 0, s, acc => by simp only [tokGo, tokC]
  | f + 1, s, acc => by
    by_cases hz : s.size = 0
    · rw [tokGo, if_pos hz, ba_size0 hz, chunks_nil]; rfl
    · have hsz : 0 < s.size := by omega
      have hne : s.data.toList ≠ [] := fun e => by have := len_data s; rw [e] at this; simp at this; omega
      cases hcs : chunks s.data.toList with
      | nil => exact absurd hcs (chunks_ne hne)
      | cons c r =>
        have hst := chunks_step hne
        rw [hcs] at hst
        injection hst with hc hr
        have hd1 : (Lib.decodeGo s).1 = c.1 := by
          rw [(decodeGo_rune hsz).1, (runeAt_drop s 0).1, List.drop_zero, hc]
        have hd2 : (Lib.decodeGo s).2 = (decodeL s.data.toList).2 := by
          rw [(decodeGo_rune hsz).2, (runeAt_drop s 0).2, List.drop_zero]
        rw [tokGo, if_neg hz, tokC, hd1]
        by_cases h0 : classF c.1 = 0
        · rw [if_pos h0, if_pos h0, tok_eq f, hd2, data_drop, hr]
        · rw [if_neg h0, if_neg h0]
          by_cases h1 : classF c.1 = 1
          · rw [if_pos h1, if_pos h1, tok_eq f]
            obtain ⟨k1, k2, k3, k4⟩ := split_chunks nB s.data.toList
            rw [hcs] at k1 k2 k3 k4
            have hn : runF (· != 10) s s.size 0 = (flat ((c :: r).takeWhile nB)).length := by
              rw [runF_chunks _ s s.size 0 (by omega) (by omega), List.drop_zero, hcs, Nat.zero_add]; rfl
            rw [hn, data_drop, k2, k4]
          · rw [if_neg h1, if_neg h1]
            have hs := step_eq s c r hcs
            cases hst : stepC (c :: r) with
            | err e =>
              rw [hst] at hs
              obtain ⟨e1, e2⟩ := hs
              rw [if_pos (by rw [e1]; exact e2), e1]
            | tok t r' =>
              rw [hst] at hs
              obtain ⟨e1, e2, e3⟩ := hs
              rw [if_neg (by rw [e1]; simp), tok_eq f, e2, e3]
end Go.Ax
