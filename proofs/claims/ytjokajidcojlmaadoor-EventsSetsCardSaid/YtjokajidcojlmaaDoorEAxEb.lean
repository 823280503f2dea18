import Derived.Test.YtjokajidcojlmaaDoorEAxV
import Derived.Lib.TrailingZeros

/- Sets of events: numbers of 64 bits, and the functions that compute with them. -/
namespace Go.Ax
open Go.Proofs
set_option maxRecDepth 10000

def bitF (e : Int) : BitVec 64 := if e < 0 ∨ 64 ≤ e then 0 else 1#64 <<< e.toNat
def hasB (s : BitVec 64) (e : Int) : Bool := decide (0 ≤ e) && s.getLsbD e.toNat
def withB (s : BitVec 64) (e : Int) : BitVec 64 := s ||| bitF e
def withoutB (s : BitVec 64) (e : Int) : BitVec 64 := s &&& ~~~ bitF e
def inB (a b : BitVec 64) : Bool := a &&& ~~~ b == 0#64
def ofB (l : List Int) : BitVec 64 := l.foldl withB 0#64

theorem bitF_in {e : Int} (h0 : 0 ≤ e) (h1 : e < 64) : bitF e = 1#64 <<< e.toNat := by unfold bitF; rw [if_neg (by omega)]
theorem bitF_out {e : Int} (h : e < 0 ∨ 64 ≤ e) : bitF e = 0 := by unfold bitF; rw [if_pos h]
theorem bit_get (n i : Nat) (hn : n < 64) : (1#64 <<< n).getLsbD i = decide (i = n) := by
  rw [BitVec.getLsbD_shiftLeft, BitVec.getLsbD_one]
  by_cases h : i = n
  · subst h; simp [hn]
  · simp only [h, decide_false]
    by_cases h1 : i < n
    · simp [h1]
    · have : ¬ (i - n = 0) := by omega
      simp [this]
theorem hasB_and (s : BitVec 64) (e : Int) : (s &&& bitF e != 0#64) = hasB s e := by
  unfold hasB
  by_cases h : e < 0 ∨ 64 ≤ e
  · rw [bitF_out h]
    have : s.getLsbD e.toNat = false ∨ ¬ 0 ≤ e := by
      rcases h with h | h
      · right; omega
      · left; exact BitVec.getLsbD_of_ge _ _ (by omega)
    rcases this with h | h <;> simp [h]
  · rw [bitF_in (by omega) (by omega), show decide (0 ≤ e) = true from by simp; omega, Bool.true_and]
    generalize hn : e.toNat = n
    have hn : n < 64 := by omega
    cases hb : s.getLsbD n with
    | false =>
      rw [bne_eq_false_iff_eq]
      apply BitVec.eq_of_getLsbD_eq
      intro i hi
      rw [BitVec.getLsbD_and, bit_get n i hn]
      by_cases h : i = n
      · subst h; simp [hb]
      · simp [h]
    | true =>
      rw [bne_iff_ne]
      intro hz
      have := congrArg (fun x => BitVec.getLsbD x n) hz
      simp only [BitVec.getLsbD_and, bit_get n n hn, hb] at this
      simp at this
theorem withB_has (s : BitVec 64) (e : Int) (h : hasB s e = true) : withB s e = s := by
  unfold hasB at h
  have h0 : 0 ≤ e := by by_cases h0 : 0 ≤ e; · exact h0
                        · simp [h0] at h
  have h1 : s.getLsbD e.toNat = true := by simpa [h0] using h
  have h2 : e < 64 := by
    by_cases h2 : e < 64; · exact h2
    · rw [BitVec.getLsbD_of_ge _ _ (by omega)] at h1; simp at h1
  unfold withB
  rw [bitF_in h0 h2]
  apply BitVec.eq_of_getLsbD_eq
  intro i hi
  rw [BitVec.getLsbD_or, bit_get _ i (by omega)]
  by_cases h : i = e.toNat
  · subst h; simp [h1]
  · simp [h]
theorem withB_out (s : BitVec 64) (e : Int) (h : e < 0 ∨ 63 < e) : withB s e = s := by
  unfold withB; rw [bitF_out (by omega)]; simp
theorem withB_add (s : BitVec 64) (e : Int) (h : hasB s e = false) : s + bitF e = withB s e := by
  rw [← hasB_and, bne_eq_false_iff_eq] at h
  unfold withB
  rw [BitVec.add_eq_or_of_and_eq_zero _ _ h]
theorem withoutB_hasnt (s : BitVec 64) (e : Int) (h : hasB s e = false) : withoutB s e = s := by
  rw [← hasB_and, bne_eq_false_iff_eq] at h
  unfold withoutB
  apply BitVec.eq_of_getLsbD_eq
  intro i hi
  have := congrArg (fun x => BitVec.getLsbD x i) h
  simp only [BitVec.getLsbD_and, BitVec.getLsbD_zero] at this
  rw [BitVec.getLsbD_and, BitVec.getLsbD_not]
  cases h1 : s.getLsbD i <;> cases h2 : (bitF e).getLsbD i <;> simp_all
theorem withoutB_sub (s : BitVec 64) (e : Int) (h : hasB s e = true) : s - bitF e = withoutB s e := by
  have hw : s = withoutB s e + bitF e := by
    rw [BitVec.add_eq_or_of_and_eq_zero]
    · have h2 := withB_has s e h
      unfold withB at h2
      apply BitVec.eq_of_getLsbD_eq
      intro i hi
      have := congrArg (fun x => BitVec.getLsbD x i) h2
      simp only [BitVec.getLsbD_or] at this
      unfold withoutB
      rw [BitVec.getLsbD_or, BitVec.getLsbD_and, BitVec.getLsbD_not]
      cases h1 : s.getLsbD i <;> cases h2 : (bitF e).getLsbD i <;> simp_all
    · unfold withoutB
      apply BitVec.eq_of_getLsbD_eq
      intro i hi
      rw [BitVec.getLsbD_and, BitVec.getLsbD_and, BitVec.getLsbD_not, BitVec.getLsbD_zero]
      cases h1 : s.getLsbD i <;> cases h2 : (bitF e).getLsbD i <;> simp_all
  have h3 : s - bitF e = withoutB s e + bitF e - bitF e := by rw [← hw]
  rw [h3, BitVec.add_sub_cancel]
theorem hasB_div (s : BitVec 64) (e : Int) (h0 : 0 ≤ e) (h1 : e < 64) : ((s / (1#64 <<< e.toNat)) % 2#64 == 1#64) = hasB s e := by
  unfold hasB
  rw [show decide (0 ≤ e) = true from by simp; omega, Bool.true_and]
  generalize hn : e.toNat = n
  have hn : n < 64 := by omega
  rw [Bool.eq_iff_iff, beq_iff_eq, ← BitVec.toNat_inj, BitVec.toNat_umod, BitVec.toNat_udiv]
  have hp : (1#64 <<< n).toNat = 2 ^ n := by
    rw [BitVec.toNat_shiftLeft, Nat.shiftLeft_eq]
    show 1 * 2 ^ n % 2 ^ 64 = 2 ^ n
    rw [Nat.one_mul, Nat.mod_eq_of_lt (Nat.pow_lt_pow_right (by omega) hn)]
  rw [hp]
  show s.toNat / 2 ^ n % 2 = 1 ↔ s.toNat.testBit n = true
  rw [Nat.testBit_eq_decide_div_mod_eq, decide_eq_true_iff]
theorem inB_iff (a b : BitVec 64) : inB a b = true ↔ ∀ i, i < 64 → a.getLsbD i = true → b.getLsbD i = true := by
  unfold inB
  rw [beq_iff_eq]
  constructor
  · intro h i hi ha
    have := congrArg (fun x => BitVec.getLsbD x i) h
    simp only [BitVec.getLsbD_and, BitVec.getLsbD_not, BitVec.getLsbD_zero, ha, hi] at this
    simpa using this
  · intro h
    apply BitVec.eq_of_getLsbD_eq
    intro i hi
    rw [BitVec.getLsbD_and, BitVec.getLsbD_not, BitVec.getLsbD_zero]
    cases ha : a.getLsbD i with
    | false => simp
    | true => simp [h i hi ha]

/-- The members. -/
def lstB (s : BitVec 64) : List Nat := (List.range 64).filter s.getLsbD
theorem lstB_mem {s : BitVec 64} {i : Nat} : i ∈ lstB s ↔ s.getLsbD i = true := by
  unfold lstB
  rw [List.mem_filter, List.mem_range]
  constructor
  · exact fun h => h.2
  · intro h
    refine ⟨?_, h⟩
    by_cases h2 : i < 64; · exact h2
    · rw [BitVec.getLsbD_of_ge _ _ (by omega)] at h; simp at h
theorem range_cut {n k : Nat} (h : k < n) : List.range n = List.range k ++ k :: List.range' (k + 1) (n - k - 1) := by
  rw [List.range_eq_range', List.range_eq_range', show n = k + (1 + (n - k - 1)) from by omega, ← List.range'_append_1, ← List.range'_append_1]
  congr 1
  show _ = k :: List.range' (k + 1) _
  rw [show k + (1 + (n - k - 1)) - k - 1 = n - k - 1 from by omega]
  simp [List.range']
theorem lstB_first (s : BitVec 64) (k : Nat) (hk : s.getLsbD k = true) (hl : ∀ i, i < k → s.getLsbD i = false) : lstB s = k :: lstB (withoutB s k) := by
  have h64 : k < 64 := by
    by_cases h2 : k < 64; · exact h2
    · rw [BitVec.getLsbD_of_ge _ _ (by omega)] at hk; simp at hk
  have hw : ∀ i, i < 64 → (withoutB s k).getLsbD i = (s.getLsbD i && !decide (i = k)) := fun i hi => by
    unfold withoutB
    rw [bitF_in (by omega) (by omega), BitVec.getLsbD_and, BitVec.getLsbD_not, bit_get _ _ (by omega)]
    simp [hi]
  unfold lstB
  rw [range_cut h64, List.filter_append, List.filter_append, List.filter_cons, List.filter_cons, hk, hw k h64]
  have e1 : (List.range k).filter s.getLsbD = [] := by
    rw [List.filter_eq_nil_iff]
    intro i hi
    rw [List.mem_range] at hi
    simp [hl i hi]
  have e2 : (List.range k).filter (withoutB s k).getLsbD = [] := by
    rw [List.filter_eq_nil_iff]
    intro i hi
    rw [List.mem_range] at hi
    rw [hw i (by omega), hl i hi]; simp
  have e3 : (List.range' (k + 1) (64 - k - 1)).filter (withoutB s k).getLsbD = (List.range' (k + 1) (64 - k - 1)).filter s.getLsbD := by
    apply List.filter_congr
    intro i hi
    rw [List.mem_range'_1] at hi
    rw [hw i (by omega)]
    have : ¬ i = k := by omega
    simp [this]
  rw [e1, e2, e3]
  simp [hk]
theorem lstB_nil (s : BitVec 64) (h : s = 0#64) : lstB s = [] := by subst h; decide +kernel
theorem lstB_len (s : BitVec 64) : (lstB s).length ≤ 64 := by
  have := List.length_filter_le s.getLsbD (List.range 64)
  rw [List.length_range] at this
  exact this

/-- The least member. -/
theorem ctz_first (s : BitVec 64) (h : s ≠ 0#64) : s.getLsbD (Lib.ctz 64 s.toNat) = true ∧ (∀ i, i < Lib.ctz 64 s.toNat → s.getLsbD i = false) ∧ Lib.ctz 64 s.toNat < 64 := by
  have hz : s.toNat ≠ 0 := fun e => h (BitVec.eq_of_toNat_eq (by simpa using e))
  obtain ⟨m, hm, hk⟩ := Lib.ctzFrom_spec 64 s.toNat (by omega) s.isLt
  have he : Lib.ctz 64 s.toNat = Lib.ctzFrom 64 s.toNat := by unfold Lib.ctz; rw [if_neg hz]
  rw [he]
  generalize Lib.ctzFrom 64 s.toNat = k at hm hk
  have hb : ∀ i, s.getLsbD i = (decide (k ≤ i) && (2 * m + 1).testBit (i - k)) := fun i => by
    show s.toNat.testBit i = _
    rw [hm, Nat.mul_comm, Nat.testBit_mul_two_pow]
  refine ⟨by rw [hb]; simp, fun i hi => by rw [hb]; have : ¬ k ≤ i := by omega
                                           simp [this], hk⟩

end Go.Ax

/- How many bits a number of 64 bits has: bits.OnesCount64's arithmetic. -/
namespace Go.Ax
open Go.Proofs
set_option maxRecDepth 10000

def pcB : Nat → Nat → Nat
  | 0, _ => 0
  | n + 1, x => x % 2 + pcB n (x / 2)
theorem pcB_len (p : Nat → Bool) : ∀ (n x o : Nat), (∀ i, i < n → p (o + i) = x.testBit i) → ((List.range' o n).filter p).length = pcB n x
  | 0, _, _, _ => rfl
  | n + 1, x, o, h => by
    have h0 : p o = x.testBit 0 := h 0 (by omega)
    have ih := pcB_len p n (x / 2) (o + 1) fun i hi => by
      rw [show o + 1 + i = o + (i + 1) from by omega, h (i + 1) (by omega), Nat.testBit_succ]
    rw [pcB, List.range'_succ, List.filter_cons, h0, Nat.testBit_zero, ← ih]
    rcases Nat.mod_two_eq_zero_or_one x with h | h <;> simp [h]
    omega
theorem lstB_pc (s : BitVec 64) : (lstB s).length = pcB 64 s.toNat := by
  unfold lstB
  rw [List.range_eq_range']
  exact pcB_len _ 64 s.toNat 0 fun i _ => by rw [Nat.zero_add]; rfl
theorem pcB_add : ∀ (m n x : Nat), pcB (m + n) x = pcB m (x % 2 ^ m) + pcB n (x / 2 ^ m)
  | 0, n, x => by simp [pcB]
  | m + 1, n, x => by
    have e1 : x % 2 ^ (m + 1) / 2 = x / 2 % 2 ^ m := by rw [Nat.pow_succ, Nat.mul_comm, Nat.mod_mul_right_div_self]
    have e2 : x % 2 ^ (m + 1) % 2 = x % 2 := by rw [Nat.pow_succ, Nat.mod_mul_left_mod]
    have e3 : x / 2 / 2 ^ m = x / 2 ^ (m + 1) := by rw [Nat.div_div_eq_div_mul, Nat.pow_succ, Nat.mul_comm]
    rw [show m + 1 + n = (m + n) + 1 from by omega, pcB, pcB, pcB_add m n (x / 2), e1, e2, e3]
    omega
theorem pcB_byte (n x : Nat) : pcB (8 + n) x = pcB 8 (x % 256) + pcB n (x / 256) := pcB_add 8 n x

def byB (f : Nat → Nat) : Nat → Nat → Nat
  | 0, _ => 0
  | n + 1, x => 256 * byB f n (x / 256) + f (x % 256)
def repB (m : Nat) : Nat → Nat
  | 0 => 0
  | n + 1 => 256 * repB m n + m
theorem and_byte (a b c d : Nat) (hb : b < 256) (hd : d < 256) : (256 * a + b) &&& (256 * c + d) = 256 * (a &&& c) + (b &&& d) := by
  apply Nat.eq_of_testBit_eq
  intro j
  have hbd : b &&& d < 2 ^ 8 := Nat.and_lt_two_pow _ hd
  rw [Nat.testBit_and, show 256 = 2 ^ 8 from rfl, Nat.testBit_two_pow_mul_add _ hb, Nat.testBit_two_pow_mul_add _ hd, Nat.testBit_two_pow_mul_add _ hbd]
  split <;> rw [Nat.testBit_and]
theorem shr_byte (s a b c d : Nat) (hs : s ≤ 8) (hb : b < 256) (hd : d < 2 ^ (8 - s)) : ((256 * a + b) / 2 ^ s) &&& (256 * c + d) = 256 * ((a / 2 ^ s) &&& c) + ((b / 2 ^ s) &&& d) := by
  have hd8 : d < 256 := Nat.lt_of_lt_of_le hd (Nat.pow_le_pow_right (by omega) (by omega : 8 - s ≤ 8))
  have hbs : b / 2 ^ s < 256 := Nat.lt_of_le_of_lt (Nat.div_le_self _ _) hb
  apply Nat.eq_of_testBit_eq
  intro j
  have hbd : b / 2 ^ s &&& d < 2 ^ 8 := Nat.and_lt_two_pow _ hd8
  rw [Nat.testBit_and, show 256 = 2 ^ 8 from rfl, Nat.testBit_div_two_pow, Nat.testBit_two_pow_mul_add _ hb, Nat.testBit_two_pow_mul_add _ hd8, Nat.testBit_two_pow_mul_add _ hbd]
  by_cases h1 : j < 8
  · rw [if_pos h1, if_pos h1, Nat.testBit_and, Nat.testBit_div_two_pow]
    by_cases h2 : s + j < 8
    · rw [show j + s = s + j from by omega, if_pos h2]
    · have : d.testBit j = false := Nat.testBit_lt_two_pow (Nat.lt_of_lt_of_le hd (Nat.pow_le_pow_right (by omega) (by omega)))
      rw [this, Bool.and_false, Bool.and_false]
  · rw [if_neg h1, if_neg h1, Nat.testBit_and, Nat.testBit_div_two_pow, if_neg (by omega), show j + s - 8 = j - 8 + s from by omega]

/-- One step of shift, mask and add, by bytes. -/
def st (s m r : Nat) : Nat := ((r / 2 ^ s) &&& m) + (r &&& m)
theorem step_bytes (s m : Nat) (hs : s ≤ 8) (hm : m < 2 ^ (8 - s)) (f : Nat → Nat) (hf : ∀ r, r < 256 → f r < 256) : ∀ (n x : Nat), (byB f n x / 2 ^ s &&& repB m n) + (byB f n x &&& repB m n) = byB (fun r => st s m (f r)) n x
  | 0, x => by simp [byB, repB]
  | n + 1, x => by
    have hm8 : m < 256 := Nat.lt_of_lt_of_le hm (Nat.pow_le_pow_right (by omega) (by omega : 8 - s ≤ 8))
    have h1 := hf (x % 256) (Nat.mod_lt _ (by omega))
    have ih := step_bytes s m hs hm f hf n (x / 256)
    rw [byB, repB, shr_byte s _ _ _ _ hs h1 hm, and_byte _ _ _ _ h1 hm8, byB, ← ih]
    unfold st
    omega
theorem step3_bytes (f : Nat → Nat) (hf : ∀ r, r < 256 → f r < 256 ∧ f r % 16 ≤ 4 ∧ f r / 16 ≤ 4) : ∀ (n x : Nat), (byB f n x / 2 ^ 4 + byB f n x) &&& repB 15 n = byB (fun r => (f r / 16 + f r) % 16) n x ∧ (byB f n x) % 16 ≤ 4
  | 0, x => by simp [byB, repB]
  | n + 1, x => by
    obtain ⟨h1, h2, h3⟩ := hf (x % 256) (Nat.mod_lt _ (by omega))
    obtain ⟨ih, h4⟩ := step3_bytes f hf n (x / 256)
    rw [byB, byB, repB]
    generalize byB f n (x / 256) = q at ih h4
    generalize f (x % 256) = r at h1 h2 h3
    have e : (256 * q + r) / 2 ^ 4 + (256 * q + r) = 256 * (q / 2 ^ 4 + q) + (16 * (q % 16) + r / 16 + r) := by omega
    rw [e, and_byte _ _ _ _ (by omega) (by omega), ih]
    have e2 : ∀ z : Nat, z &&& 15 = z % 16 := fun z => Nat.and_two_pow_sub_one_eq_mod z 4
    rw [e2]
    exact ⟨by omega, by omega⟩
theorem byB_id : ∀ (n x : Nat), x < 256 ^ n → byB (fun r => r) n x = x
  | 0, x, h => by simp at h; subst h; rfl
  | n + 1, x, h => by
    rw [byB, byB_id n (x / 256) (by rw [Nat.pow_succ] at h; omega)]
    omega
theorem byB_congr {f g : Nat → Nat} (h : ∀ r, r < 256 → f r = g r) : ∀ n x, byB f n x = byB g n x
  | 0, _ => rfl
  | n + 1, x => by rw [byB, byB, byB_congr h n, h _ (Nat.mod_lt _ (by omega))]

theorem ones_bytes (x : Nat) (hx : x < 2 ^ 64) :
    let y1 := (x / 2 ^ 1 &&& 6148914691236517205) + (x &&& 6148914691236517205)
    let y2 := (y1 / 2 ^ 2 &&& 3689348814741910323) + (y1 &&& 3689348814741910323)
    (y2 / 2 ^ 4 + y2) &&& 1085102592571150095 = byB (fun r => pcB 8 r) 8 x ∧ y1 < 2 ^ 64 ∧ y2 < 2 ^ 63 := by
  intro y1 y2
  have hx8 : x < 256 ^ 8 := hx
  have k1 : y1 = byB (fun r => st 1 85 r) 8 x := by
    have h := step_bytes 1 85 (by omega) (by decide) (fun r => r) (fun r h => h) 8 x
    rw [byB_id 8 x hx8, show repB 85 8 = 6148914691236517205 from by decide +kernel] at h
    exact h
  have k2 : y2 = byB (fun r => st 2 51 (st 1 85 r)) 8 x := by
    have h := step_bytes 2 51 (by omega) (by decide) (fun r => st 1 85 r) (by decide +kernel) 8 x
    rw [show repB 51 8 = 3689348814741910323 from by decide +kernel, ← k1] at h
    exact h
  have k3 := (step3_bytes (fun r => st 2 51 (st 1 85 r)) (by decide +kernel) 8 x).1
  have hb : ∀ (f : Nat → Nat) (c : Nat), (∀ r, r < 256 → f r ≤ c) → byB f 8 x ≤ c * 72340172838076673 := fun f c h => by
    have h' : ∀ z, f (z % 256) ≤ c := fun z => h _ (Nat.mod_lt _ (by omega))
    simp only [byB]
    have g0 := h' x; have g1 := h' (x / 256); have g2 := h' (x / 256 / 256); have g3 := h' (x / 256 / 256 / 256); have g4 := h' (x / 256 / 256 / 256 / 256); have g5 := h' (x / 256 / 256 / 256 / 256 / 256); have g6 := h' (x / 256 / 256 / 256 / 256 / 256 / 256); have g7 := h' (x / 256 / 256 / 256 / 256 / 256 / 256 / 256)
    omega
  refine ⟨?_, ?_, ?_⟩
  · rw [show repB 15 8 = 1085102592571150095 from by decide +kernel, ← k2] at k3
    exact k3.trans (byB_congr (by decide +kernel) 8 x)
  · rw [k1]
    have := hb (fun r => st 1 85 r) 170 (by decide +kernel)
    omega
  · rw [k2]
    have := hb (fun r => st 2 51 (st 1 85 r)) 68 (by decide +kernel)
    omega
theorem pcB_le : ∀ (n x : Nat), pcB n x ≤ n
  | 0, _ => Nat.le_refl 0
  | n + 1, x => by have := pcB_le n (x / 2); simp only [pcB]; omega
theorem dv {k E r T : Nat} (h : r < k) (e : T = k * E + r) : T / k = E := by
  rw [e, Nat.mul_add_div (by omega), Nat.div_eq_of_lt h, Nat.add_zero]
theorem md {k E r T : Nat} (h : r < k) (e : T = k * E + r) : T % k = r := by
  rw [e, Nat.mul_add_mod, Nat.mod_eq_of_lt h]
theorem sum8 {p0 p1 p2 p3 p4 p5 p6 p7 t t1 t2 t3 : Nat} (g0 : p0 ≤ 8) (g1 : p1 ≤ 8) (g2 : p2 ≤ 8) (g3 : p3 ≤ 8) (g4 : p4 ≤ 8) (g5 : p5 ≤ 8) (g6 : p6 ≤ 8) (g7 : p7 ≤ 8)
    (et : t = 256 * (256 * (256 * (256 * (256 * (256 * (256 * p7 + p6) + p5) + p4) + p3) + p2) + p1) + p0) (e1 : t1 = t + t / 2 ^ 8) (e2 : t2 = t1 + t1 / 2 ^ 16) (e3 : t3 = t2 + t2 / 2 ^ 32) :
    t3 % 128 = p0 + (p1 + (p2 + (p3 + (p4 + (p5 + (p6 + p7)))))) ∧ t3 < 2 ^ 63 := by
  have d1 : t / 2 ^ 8 = _ := dv (k := 256) (by clear et e1 e2 e3; omega) et
  have c1 : t1 = 65536 * (256 * (256 * (256 * (256 * (256 * p7 + (p6 + p7)) + (p5 + p6)) + (p4 + p5)) + (p3 + p4)) + (p2 + p3)) + (256 * (p1 + p2) + (p0 + p1)) := by rw [e1, d1, et]; clear e1 e2 e3 d1 et; omega
  have d2 : t1 / 2 ^ 16 = _ := dv (k := 65536) (by clear et e1 e2 e3 d1 c1; omega) c1
  have c2 : t2 = 4294967296 * (256 * (256 * (256 * p7 + (p6 + p7)) + (p5 + p6 + p7)) + (p4 + p5 + p6 + p7)) + (256 * (256 * (256 * (p3 + p4 + p5 + p6) + (p2 + p3 + p4 + p5)) + (p1 + p2 + p3 + p4)) + (p0 + p1 + p2 + p3)) := by rw [e2, d2, c1]; clear e1 e2 e3 d1 et c1 d2; omega
  have d3 : t2 / 2 ^ 32 = _ := dv (k := 4294967296) (by clear c1 c2 d1 d2 et e1 e2 e3; omega) c2
  have c3 : t3 = 128 * (33554432 * (256 * (256 * (256 * p7 + (p6 + p7)) + (p5 + p6 + p7)) + (p4 + p5 + p6 + p7)) + (2 * (256 * (256 * (p3 + p4 + p5 + p6) + (p2 + p3 + p4 + p5)) + (p1 + p2 + p3 + p4))) + 2 * (256 * (256 * p7 + (p6 + p7)) + (p5 + p6 + p7))) + (p0 + (p1 + (p2 + (p3 + (p4 + (p5 + (p6 + p7))))))) := by rw [e3, d3, c2]; clear e1 e2 e3 d1 et c1 d2 c2 d3; omega
  refine ⟨md (by clear c1 c2 c3 d1 d2 d3 et e1 e2 e3; omega) c3, ?_⟩
  rw [c3]
  clear c1 c2 c3 d1 d2 d3 et e1 e2 e3
  omega
theorem sum_bytes (x : Nat) {t t1 t2 t3 : Nat} (et : t = byB (fun r => pcB 8 r) 8 x) (e1 : t1 = t + t / 2 ^ 8) (e2 : t2 = t1 + t1 / 2 ^ 16) (e3 : t3 = t2 + t2 / 2 ^ 32) : t3 % 128 = pcB 64 x ∧ t3 < 2 ^ 63 := by
  have h : ∀ z, pcB 8 (z % 256) ≤ 8 := fun z => pcB_le 8 _
  have e : pcB 64 x = pcB 8 (x % 256) + (pcB 8 (x / 256 % 256) + (pcB 8 (x / 256 / 256 % 256) + (pcB 8 (x / 256 / 256 / 256 % 256) + (pcB 8 (x / 256 / 256 / 256 / 256 % 256) + (pcB 8 (x / 256 / 256 / 256 / 256 / 256 % 256) + (pcB 8 (x / 256 / 256 / 256 / 256 / 256 / 256 % 256) + pcB 8 (x / 256 / 256 / 256 / 256 / 256 / 256 / 256 % 256))))))) := by
    have z : ∀ y, pcB 8 y = pcB 8 (y % 256) := fun y => (pcB_byte 0 y).trans (Nat.add_zero _)
    rw [← z (x / 256 / 256 / 256 / 256 / 256 / 256 / 256), ← pcB_byte 8, ← pcB_byte (8 + 8), ← pcB_byte (8 + (8 + 8)), ← pcB_byte (8 + (8 + (8 + 8))), ← pcB_byte (8 + (8 + (8 + (8 + 8)))), ← pcB_byte (8 + (8 + (8 + (8 + (8 + 8))))), ← pcB_byte (8 + (8 + (8 + (8 + (8 + (8 + 8))))))]
  rw [e]
  refine sum8 (h _) (h _) (h _) (h _) (h _) (h _) (h _) (h _) ?_ e1 e2 e3
  rw [et]
  simp only [byB, Nat.mul_zero, Nat.zero_add]

/-- OnesCount64's number. -/
def onesB (x : BitVec 64) : BitVec 64 :=
  let y1 := ((x >>> 1) &&& 0x5555555555555555#64) + (x &&& 0x5555555555555555#64)
  let y2 := ((y1 >>> 2) &&& 0x3333333333333333#64) + (y1 &&& 0x3333333333333333#64)
  let t := ((y2 >>> 4) + y2) &&& 0x0f0f0f0f0f0f0f0f#64
  let t1 := t + (t >>> 8)
  let t2 := t1 + (t1 >>> 16)
  t2 + (t2 >>> 32)
theorem onesB_eq (x : BitVec 64) : (onesB x).toNat % 128 = (lstB x).length ∧ (onesB x).toNat < 2 ^ 63 := by
  obtain ⟨h1, h2, h3⟩ := ones_bytes x.toNat x.isLt
  obtain ⟨h4, h5⟩ := sum_bytes x.toNat rfl rfl rfl rfl
  rw [← h1] at h4 h5
  rw [lstB_pc]
  unfold onesB
  simp only [BitVec.toNat_add, BitVec.toNat_and, BitVec.toNat_ushiftRight, BitVec.toNat_ofNat, Nat.shiftRight_eq_div_pow]
  rw [show 6148914691236517205 % 2 ^ 64 = 6148914691236517205 from rfl, show 3689348814741910323 % 2 ^ 64 = 3689348814741910323 from rfl, show 1085102592571150095 % 2 ^ 64 = 1085102592571150095 from rfl]
  generalize hy1 : (x.toNat / 2 ^ 1 &&& 6148914691236517205) + (x.toNat &&& 6148914691236517205) = y1 at *
  rw [Nat.mod_eq_of_lt h2]
  generalize hy2 : (y1 / 2 ^ 2 &&& 3689348814741910323) + (y1 &&& 3689348814741910323) = y2 at *
  rw [Nat.mod_eq_of_lt (show y2 < 2 ^ 64 by omega), Nat.mod_eq_of_lt (show y2 / 2 ^ 4 + y2 < 2 ^ 64 by omega)]
  generalize (y2 / 2 ^ 4 + y2) &&& 1085102592571150095 = t at *
  have e1 : (t + t / 2 ^ 8) % 2 ^ 64 = t + t / 2 ^ 8 := Nat.mod_eq_of_lt (by omega)
  rw [e1]
  generalize t + t / 2 ^ 8 = t1 at *
  have e2 : (t1 + t1 / 2 ^ 16) % 2 ^ 64 = t1 + t1 / 2 ^ 16 := Nat.mod_eq_of_lt (by omega)
  rw [e2]
  generalize t1 + t1 / 2 ^ 16 = t2 at *
  rw [Nat.mod_eq_of_lt (show t2 + t2 / 2 ^ 32 < 2 ^ 64 by omega)]
  exact ⟨h4, h5⟩

/-- Of two sets: what both have and what one has are as many as they. -/
theorem pcB_and_or : ∀ (n a b : Nat), pcB n a + pcB n b = pcB n (a ||| b) + pcB n (a &&& b)
  | 0, _, _ => rfl
  | n + 1, a, b => by
    have ih := pcB_and_or n (a / 2) (b / 2)
    have e1 : (a ||| b) / 2 = a / 2 ||| b / 2 := by
      apply Nat.eq_of_testBit_eq; intro i
      rw [Nat.testBit_or, ← Nat.testBit_succ, ← Nat.testBit_succ, ← Nat.testBit_succ, Nat.testBit_or]
    have e2 : (a &&& b) / 2 = a / 2 &&& b / 2 := by
      apply Nat.eq_of_testBit_eq; intro i
      rw [Nat.testBit_and, ← Nat.testBit_succ, ← Nat.testBit_succ, ← Nat.testBit_succ, Nat.testBit_and]
    have o0 : a % 2 + b % 2 = (a ||| b) % 2 + (a &&& b) % 2 := by
      have h1 := Nat.testBit_or a b 0
      have h2 := Nat.testBit_and a b 0
      simp only [Nat.testBit_zero] at h1 h2
      rw [Bool.eq_iff_iff] at h1 h2
      simp only [decide_eq_true_iff, Bool.or_eq_true, Bool.and_eq_true] at h1 h2
      omega
    simp only [pcB, e1, e2]
    omega
theorem lstB_and_or (a b : BitVec 64) : (lstB a).length + (lstB b).length = (lstB (a ||| b)).length + (lstB (a &&& b)).length := by
  rw [lstB_pc, lstB_pc, lstB_pc, lstB_pc, BitVec.toNat_or, BitVec.toNat_and, pcB_and_or]

end Go.Ax
