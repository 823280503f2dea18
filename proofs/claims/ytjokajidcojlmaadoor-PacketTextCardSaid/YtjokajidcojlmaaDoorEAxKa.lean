import Derived.Test.YtjokajidcojlmaaDoorEAxEh
import Derived.Test.YtjokajidcojlmaaDoorEAxEf

/- Packets: plain: names, numbers, words, texts. -/
namespace Go.Ax
open Go.Proofs
set_option maxRecDepth 10000

def nameL : List (List UInt8) := [[115, 119], [112, 116], [115, 114, 99], [100, 115, 116], [116, 121, 112], [115, 118, 99], [118, 105, 100], [111, 112, 116]]
def nameF (i : Nat) : List UInt8 := nameL.getD i []
def fieldGo (s : List UInt8) : List (List UInt8) → Nat → Option Nat
  | [], _ => none
  | x :: r, i => if x = s then some i else fieldGo s r (i + 1)
def fieldK (s : List UInt8) : Option Nat := fieldGo s nameL 0
theorem fieldGo_lt {s : List UInt8} : ∀ {l : List (List UInt8)} {i j : Nat}, fieldGo s l i = some j → i ≤ j ∧ j < i + l.length
  | [], i, j, h => by simp [fieldGo] at h
  | x :: r, i, j, h => by
    rw [fieldGo] at h
    split at h
    · injection h with h; subst h; simp
    · have := fieldGo_lt h; simp; omega
theorem fieldK_lt {s : List UInt8} {j : Nat} (h : fieldK s = some j) : j < 8 := by
  have := fieldGo_lt h
  simp [nameL] at this; omega
theorem fieldGo_drop (s : List UInt8) (i : Nat) (h : i < 8) : fieldGo s (nameL.drop i) i = if nameF i = s then some i else fieldGo s (nameL.drop (i + 1)) (i + 1) := by
  have hl : i < nameL.length := h
  rw [List.drop_eq_getElem_cons hl, fieldGo]
  have : nameF i = nameL[i] := by unfold nameF; simp [List.getD, hl]
  rw [this]
theorem name_facts : ∀ i, i < 8 → (nameF i ≠ [] ∧ (nameF i).all (fun c => c != 61 && c != 32) = true ∧ (nameF i).length ≤ 3) ∧ fieldK (nameF i) = some i := by decide +kernel

/-! ### numbers -/
def isD (c : UInt8) : Bool := decide (48 ≤ c.toNat) && decide (c.toNat ≤ 57)
def valD (a : Nat) (l : List UInt8) : Nat := l.foldl (fun a c => a * 10 + (c.toNat - 48)) a
def numK (l : List UInt8) : Option Nat := if l.length < 1 ∨ 5 < l.length ∨ l.all isD = false ∨ 65535 < valD 0 l then none else some (valD 0 l)
theorem numK_lt {l : List UInt8} {n : Nat} (h : numK l = some n) : n < 65536 := by
  unfold numK at h
  split at h
  · simp at h
  · injection h with h; omega
theorem valD_bound : ∀ (l : List UInt8) (a : Nat), l.all isD = true → valD a l < (a + 1) * 10 ^ l.length
  | [], a, _ => by simp [valD]
  | c :: r, a, h => by
    simp only [List.all_cons, Bool.and_eq_true] at h
    have h1 : c.toNat ≤ 57 ∧ 48 ≤ c.toNat := by
      have := h.1; unfold isD at this; simp at this; omega
    have ih := valD_bound r (a * 10 + (c.toNat - 48)) h.2
    have e : valD a (c :: r) = valD (a * 10 + (c.toNat - 48)) r := rfl
    rw [e, List.length_cons, Nat.pow_succ]
    refine Nat.lt_of_lt_of_le ih ?_
    rw [Nat.mul_comm (10 ^ r.length) 10, ← Nat.mul_assoc]
    exact Nat.mul_le_mul_right _ (by omega)
theorem valD_mono : ∀ (l : List UInt8) (a : Nat), l.all isD = true → a ≤ valD a l
  | [], a, _ => Nat.le_refl a
  | c :: r, a, h => by
    simp only [List.all_cons, Bool.and_eq_true] at h
    have := valD_mono r (a * 10 + (c.toNat - 48)) h.2
    have e : valD a (c :: r) = valD (a * 10 + (c.toNat - 48)) r := rfl
    rw [e]; omega
theorem parseM_digits : ∀ (l : List UInt8) (a : Nat), l.all isD = true → a < 10 ^ 15 → l.length ≤ 5 → valD a l < 10 ^ 17 → Lib.parseUintM 65535 a l = (if a ≤ 65535 ∨ l ≠ [] then (if 65535 < valD a l then .range else .ok (valD a l)) else .ok a)
  | [], a, _, _, _, _ => by
    by_cases h : a ≤ 65535
    · rw [if_pos (.inl h), if_neg (show ¬ 65535 < valD a [] from Nat.not_lt.2 h)]; rfl
    · rw [if_neg (by simp [h])]; rfl
  | c :: r, a, h, ha, hl, hv => by
    simp only [List.all_cons, Bool.and_eq_true] at h
    have h1 : 48 ≤ c.toNat ∧ c.toNat ≤ 57 := by
      have := h.1; unfold isD at this; simp at this; omega
    have e : valD a (c :: r) = valD (a * 10 + (c.toNat - 48)) r := rfl
    have hm := valD_mono r (a * 10 + (c.toNat - 48)) h.2
    rw [if_pos (.inr (by simp)), Lib.parseUintM, if_pos h1, if_neg (by omega), e]
    by_cases hb : 65535 < a * 10 + (c.toNat - 48)
    · rw [if_pos hb, if_pos (by omega)]
    · rw [if_neg hb, parseM_digits r _ h.2 (by omega) (by simp at hl; omega) (by rw [← e]; exact hv), if_pos (.inl (by omega))]
theorem parseB_digits (l : List UInt8) (h1 : 1 ≤ l.length) (h5 : l.length ≤ 5) (hd : l.all isD = true) : Lib.parseUintB 16 l = (if 65535 < valD 0 l then .range else .ok (valD 0 l)) := by
  have hne : l ≠ [] := fun e => by rw [e] at h1; simp at h1
  have hb := valD_bound l 0 hd
  have hp : 10 ^ l.length ≤ 10 ^ 5 := Nat.pow_le_pow_right (by omega) h5
  unfold Lib.parseUintB
  rw [if_neg hne, show 2 ^ 16 - 1 = 65535 from rfl, parseM_digits l 0 hd (by omega) h5 (by omega), if_pos (.inl (by omega))]
theorem valD_append (l r : List UInt8) (a : Nat) : valD a (l ++ r) = valD (valD a l) r := by unfold valD; rw [List.foldl_append]
theorem dec_facts : ∀ (n : Nat), (Lib.decDigits n).all isD = true ∧ valD 0 (Lib.decDigits n) = n ∧ 1 ≤ (Lib.decDigits n).length := by
  intro n
  induction n using Nat.strongRecOn with
  | _ n ih =>
    have key : ∀ k, k < 10 → isD (UInt8.ofNat (48 + k)) = true ∧ (UInt8.ofNat (48 + k)).toNat - 48 = k := by decide
    by_cases h : n < 10
    · rw [Lib.decDigits_one h]
      obtain ⟨k1, k2⟩ := key n h
      refine ⟨by simp only [List.all_cons, List.all_nil, Bool.and_true]; exact k1, ?_, by simp⟩
      show 0 * 10 + _ = n
      rw [k2]; omega
    · obtain ⟨i1, i2, i3⟩ := ih (n / 10) (by omega)
      obtain ⟨k1, k2⟩ := key (n % 10) (by omega)
      rw [Lib.decDigits, dif_neg h]
      refine ⟨by rw [List.all_append, i1]; simp only [List.all_cons, List.all_nil, Bool.and_true, Bool.true_and]; exact k1, ?_, by simp⟩
      rw [valD_append, i2]
      show n / 10 * 10 + _ = n
      rw [k2]; omega
theorem dec_len : ∀ (k n : Nat), n < 10 ^ (k + 1) → (Lib.decDigits n).length ≤ k + 1
  | 0, n, h => by rw [Lib.decDigits_one (by simpa using h)]; simp
  | k + 1, n, h => by
    by_cases h1 : n < 10
    · rw [Lib.decDigits_one h1]; simp
    · rw [Lib.decDigits, dif_neg h1, List.length_append]
      have := dec_len k (n / 10) (by rw [Nat.pow_succ] at h; omega)
      simp; omega
theorem numK_dec (n : Nat) (h : n < 65536) : numK (Lib.decDigits n) = some n := by
  obtain ⟨h1, h2, h3⟩ := dec_facts n
  have h4 := dec_len 4 n (by omega)
  unfold numK
  rw [h2, h1, if_neg]
  rintro (h | h | h | h)
  · omega
  · omega
  · simp at h
  · omega
theorem isD_ne {l : List UInt8} (h : l.all isD = true) : l.all (fun c => c != 61 && c != 32) = true := by
  rw [List.all_eq_true] at h ⊢
  intro c hc
  have := h c hc
  unfold isD at this
  have h2 : 48 ≤ c.toNat ∧ c.toNat ≤ 57 := by simp at this; omega
  have n1 : c ≠ 61 := fun e => by subst e; have : (61 : UInt8).toNat = 61 := rfl; omega
  have n2 : c ≠ 32 := fun e => by subst e; have : (32 : UInt8).toNat = 32 := rfl; omega
  simp [n1, n2]

/-! ### words -/
def wordK (w : List UInt8) : Option (Nat × Nat) := match splitL 61 w with
  | [k, v] => match fieldK k, numK v with
    | some i, some n => some (i, n)
    | _, _ => none
  | _ => none
theorem wordK_lt {w : List UInt8} {i n : Nat} (h : wordK w = some (i, n)) : i < 8 ∧ n < 65536 := by
  unfold wordK at h
  split at h
  · split at h
    · rename_i i' n' h1 h2
      simp only [Option.some.injEq, Prod.mk.injEq] at h
      obtain ⟨rfl, rfl⟩ := h
      exact ⟨fieldK_lt h1, numK_lt h2⟩
    · simp at h
  · simp at h
def readK : List (List UInt8) → List Nat → List Nat → Option (List Nat)
  | [], p, _ => some p
  | [] :: r, p, seen => readK r p seen
  | (c :: w) :: r, p, seen => match wordK (c :: w) with
    | none => none
    | some (i, n) => if seen.contains i then none else readK r (p.set i n) (seen ++ [i])
def zeroP : List Nat := [0, 0, 0, 0, 0, 0, 0, 0]
def readP (t : List UInt8) : Option (List Nat) := readK (splitL 32 t) zeroP []

/-! ### texts -/
def partsP (p : List Nat) : Nat → List (List UInt8)
  | 0 => []
  | i + 1 => if p.getD i 0 ≠ 0 ∨ i ≤ 1 then partsP p i ++ [nameF i ++ 61 :: Lib.decDigits (p.getD i 0)] else partsP p i
def textP (p : List Nat) : List UInt8 := Lib.join (partsP p 8) [32]
theorem wordK_part (i n : Nat) (hi : i < 8) (hn : n < 65536) : wordK (nameF i ++ 61 :: Lib.decDigits n) = some (i, n) := by
  obtain ⟨⟨h1, h2, h3⟩, h4⟩ := name_facts i hi
  have ha : ∀ {l : List UInt8}, l.all (fun c => c != 61 && c != 32) = true → l.all (· != 61) = true := fun h => by
    rw [List.all_eq_true] at h ⊢
    intro c hc
    have := h c hc
    simp only [Bool.and_eq_true] at this
    exact this.1
  unfold wordK
  rw [split_app 61 _ _ (ha h2), split_one 61 _ (ha (isD_ne (dec_facts n).1))]
  simp only [h4, numK_dec n hn]
theorem readK_parts (p : List Nat) (hp : p.length = 8) (hb : ∀ i, i < 8 → p.getD i 0 < 65536) : ∀ (i : Nat), i ≤ 8 → ∀ (r : List (List UInt8)), ∃ seen, (∀ j ∈ seen, j < i) ∧ readK (partsP p i ++ r) zeroP [] = readK r (p.take i ++ zeroP.drop i) seen
  | 0, _, r => ⟨[], by simp, rfl⟩
  | i + 1, h, r => by
    have hi : i < p.length := by omega
    have hg : p.getD i 0 = p[i] := by simp [List.getD, hi]
    have hz : ∀ i, i < 8 → zeroP.drop i = 0 :: zeroP.drop (i + 1) := by decide
    rw [partsP]
    by_cases hc : p.getD i 0 ≠ 0 ∨ i ≤ 1
    · rw [if_pos hc, List.append_assoc]
      obtain ⟨seen, h1, h2⟩ := readK_parts p hp hb i (by omega) ([nameF i ++ 61 :: Lib.decDigits (p.getD i 0)] ++ r)
      have h3 := wordK_part i (p.getD i 0) (by omega) (hb i (by omega))
      refine ⟨seen ++ [i], fun j hj => ?_, ?_⟩
      · rcases List.mem_append.1 hj with hj | hj
        · have := h1 j hj; omega
        · simp at hj; omega
      · rw [h2]
        obtain ⟨c, w, hw⟩ : ∃ c w, nameF i ++ 61 :: Lib.decDigits (p.getD i 0) = c :: w := by
          cases hn : nameF i with
          | nil => exact ⟨_, _, rfl⟩
          | cons c w => exact ⟨_, _, rfl⟩
        rw [hw] at h3 ⊢
        rw [List.singleton_append, readK, h3]
        have h4 : seen.contains i = false := by
          rw [Bool.eq_false_iff]
          intro h5
          have := h1 i (by simpa using h5)
          omega
        simp only [h4, Bool.false_eq_true, if_false]
        congr 1
        have e : p.take (i + 1) = p.take i ++ [p[i]] := List.take_succ_eq_append_getElem hi
        rw [e, hz i (by omega), List.set_append_right _ _ (by simp; omega), hg, List.append_assoc, List.length_take, Nat.min_eq_left (by omega), Nat.sub_self]
        rfl
    · rw [if_neg hc]
      obtain ⟨seen, h1, h2⟩ := readK_parts p hp hb i (by omega) r
      refine ⟨seen, fun j hj => by have := h1 j hj; omega, ?_⟩
      rw [h2]
      congr 1
      have h0 : p[i] = 0 := by
        have : ¬ (p.getD i 0 ≠ 0) := fun h => hc (.inl h)
        rw [hg] at this; omega
      rw [List.take_succ_eq_append_getElem hi, hz i (by omega), h0]
      simp
theorem parts_facts (p : List Nat) (i : Nat) (h : i ≤ 8) : ∀ x ∈ partsP p i, x.all (· != 32) = true ∧ x ≠ [] := by
  induction i with
  | zero => simp [partsP]
  | succ i ih =>
    rw [partsP]
    have hx : ∀ x ∈ partsP p i ++ [nameF i ++ 61 :: Lib.decDigits (p.getD i 0)], x.all (· != 32) = true ∧ x ≠ [] := fun x hx => by
      rcases List.mem_append.1 hx with hx | hx
      · exact ih (by omega) x hx
      · simp only [List.mem_singleton] at hx
        subst hx
        obtain ⟨⟨h1, h2, h3⟩, h4⟩ := name_facts i (by omega)
        have ha : ∀ {l : List UInt8}, l.all (fun c => c != 61 && c != 32) = true → l.all (· != 32) = true := fun h => by
          rw [List.all_eq_true] at h ⊢
          intro c hc
          have := h c hc
          simp only [Bool.and_eq_true] at this
          exact this.2
        refine ⟨?_, by simp⟩
        rw [List.all_append, ha h2, List.all_cons, ha (isD_ne (dec_facts _).1)]
        rfl
    split
    · exact hx
    · exact fun x h => hx x (by simp [h])
theorem parts_ne (p : List Nat) (i : Nat) (h : 1 ≤ i) : partsP p i ≠ [] := by
  induction i with
  | zero => omega
  | succ i ih =>
    rw [partsP]
    split
    · simp
    · rename_i hc
      refine ih ?_
      have : ¬ i ≤ 1 := fun h => hc (.inr h)
      omega
theorem split_joinW : ∀ (xs : List (List UInt8)), xs ≠ [] → (∀ x ∈ xs, x.all (· != 32) = true) → splitL 32 (Lib.join xs [32]) = xs
  | [], h, _ => absurd rfl h
  | [x], _, h => by rw [Lib.join_one]; exact split_one 32 x (h x (by simp))
  | x :: y :: r, _, h => by
    have e : Lib.join (x :: y :: r) [32] = x ++ 32 :: Lib.join (y :: r) [32] := by simp [Lib.join, List.intercalate]
    rw [e, split_app 32 x _ (h x (by simp)), split_joinW (y :: r) (by simp) fun z hz => h z (by simp at hz ⊢; exact .inr hz)]
theorem readP_text (p : List Nat) (hp : p.length = 8) (hb : ∀ i, i < 8 → p.getD i 0 < 65536) : readP (textP p) = some p := by
  unfold readP textP
  rw [split_joinW _ (parts_ne p 8 (by omega)) fun x hx => (parts_facts p 8 (by omega) x hx).1]
  obtain ⟨seen, _, h⟩ := readK_parts p hp hb 8 (by omega) []
  rw [List.append_nil] at h
  rw [h]
  show some (p.take 8 ++ zeroP.drop 8) = some p
  rw [List.take_of_length_le (by omega)]
  simp [zeroP]
end Go.Ax

/- Packets: names, fields, texts. -/
namespace Go.Ax
open Go.Proofs
set_option maxRecDepth 10000

theorem pname_ctr (g : GP) (i : Nat) (hi : i < 8) : Ctr (ax g).E 113 [.i64 i] [] (fun o => o = .ret (.str (baL (nameF i))) []) := by
  obtain rfl | rfl | rfl | rfl | rfl | rfl | rfl | rfl : i = 0 ∨ i = 1 ∨ i = 2 ∨ i = 3 ∨ i = 4 ∨ i = 5 ∨ i = 6 ∨ i = 7 := by omega
  all_goals
    refine Ctr.body (X := ax g) _ 20 [] [.tmp 2] Tryd.func113 rfl rfl rfl rfl (by decide +kernel) rfl rfl ?_
    conv => whnf
    repeat' (first | (refine And.intro (by first | exact rfl | decide | exact Nat.le_of_ble_eq_true rfl | exact ⟨_, rfl⟩ | exact ⟨_, _, rfl⟩ | exact Nat.le_refl _ | exact Int.le_refl _ | omega | (simp only [List.length_map]; omega) | exact True.intro | (simp only [IntKind.wrap_i64, List.length_map]; omega) | (simp only [List.map_cons, List.map_nil, List.length_cons, Option.getD]; omega) | (simp only [bsz, ByteArray.size_append, List.size_toArray, List.length_cons, List.length_nil]; omega) | exact ⟨⟨_, _, rfl, rfl, Nat.le_of_ble_eq_true rfl⟩, trivial⟩ | exact ⟨⟨_, _, rfl, rfl, Nat.le_of_ble_eq_true rfl⟩, ⟨_, _, rfl, rfl, Nat.le_of_ble_eq_true rfl⟩, trivial⟩ | exact ⟨⟨_, _, rfl, rfl, Nat.le_of_ble_eq_true rfl⟩, ⟨_, _, rfl, rfl, Nat.le_of_ble_eq_true rfl⟩, ⟨_, _, rfl, rfl, Nat.le_of_ble_eq_true rfl⟩, trivial⟩) ?_; conv => whnf) | (refine ifB_intro (fun hA => ?_) (fun hA => ?_) <;> (try rw [hA]) <;> (conv => whnf) <;> (first | replace hA := of_decide_eq_true hA | replace hA := of_decide_eq_false hA | replace hA := eq_of_beq hA | replace hA := ne_of_beq_false hA | replace hA := bne_iff_ne.1 hA | replace hA := bne_eq_false_iff_eq.1 hA | skip) <;> (try simp only [List.length_map, cond_true, cond_false, Bool.not_eq_true', Bool.not_eq_false', beq_iff_eq, beq_eq_false_iff_ne, ne_eq] at hA)) | (exfalso; omega) | (rw [getD_map _ _ _ _ (by assumption)]; conv => whnf))
    refine ⟨⟨[], ?_⟩⟩
    conv => whnf
    rfl
theorem ba_toList (l : List UInt8) : (baL l).data.toList = l := by simp [baL]
theorem ba_of (s : ByteArray) : baL s.data.toList = s := by apply ByteArray.ext; simp [baL]
def fieldV (o : Option Nat) : AV := .tup [.i64 ((o.getD 0 : Nat) : Int), .bool o.isSome]
theorem field_ctr (g : GP) (s : ByteArray) : Ctr (ax g).E 69 [.str s] [] (fun o => o = .ret (fieldV (fieldK s.data.toList)) []) := by
  refine Ctr.body (X := ax g) _ 14 [] [.tmp 2, .tmp 3] Tryd.func69 rfl rfl rfl rfl (by decide +kernel) rfl rfl ?_
  conv => whnf
  refine LoopP.inv (X := ax g) (fun i : Nat => { f := [(0, .str s), (2, .i64 0), (3, .bool false), (5, .i64 i)], h := [] }) (fun i => i ≤ 8 ∧ fieldK s.data.toList = fieldGo s.data.toList (nameL.drop i) i) (fun i => 8 - i) 0 ⟨Nat.zero_le _, rfl⟩ ⟨⟨rfl, rfl, rfl, rfl, trivial⟩, trivial⟩ fun i ⟨hi, he⟩ => ?_
  conv => whnf
  refine ifB_intro (fun h => ?_) (fun h => ?_)
  · have h : i < 8 := by first | (have h0 := of_decide_eq_true h; omega) | (have h0 := of_decide_eq_false h; omega) | (have h0 := h; simp at h0; omega) | (have h0 := h; simp at h0; exact h0)
    rw [fieldGo_drop _ i h] at he
    conv => whnf
    repeat' (first | (refine And.intro (by first | exact rfl | decide | exact Nat.le_of_ble_eq_true rfl | exact ⟨_, rfl⟩ | exact ⟨_, _, rfl⟩ | exact Nat.le_refl _ | exact Int.le_refl _ | omega | (simp only [List.length_map]; omega) | exact True.intro | (simp only [IntKind.wrap_i64, List.length_map]; omega) | (simp only [List.map_cons, List.map_nil, List.length_cons, Option.getD]; omega) | (simp only [bsz, ByteArray.size_append, List.size_toArray, List.length_cons, List.length_nil]; omega) | exact ⟨⟨_, _, rfl, rfl, Nat.le_of_ble_eq_true rfl⟩, trivial⟩ | exact ⟨⟨_, _, rfl, rfl, Nat.le_of_ble_eq_true rfl⟩, ⟨_, _, rfl, rfl, Nat.le_of_ble_eq_true rfl⟩, trivial⟩ | exact ⟨⟨_, _, rfl, rfl, Nat.le_of_ble_eq_true rfl⟩, ⟨_, _, rfl, rfl, Nat.le_of_ble_eq_true rfl⟩, ⟨_, _, rfl, rfl, Nat.le_of_ble_eq_true rfl⟩, trivial⟩) ?_; conv => whnf) | (refine ifB_intro (fun hA => ?_) (fun hA => ?_) <;> (try rw [hA]) <;> (conv => whnf) <;> (first | replace hA := of_decide_eq_true hA | replace hA := of_decide_eq_false hA | replace hA := eq_of_beq hA | replace hA := ne_of_beq_false hA | replace hA := bne_iff_ne.1 hA | replace hA := bne_eq_false_iff_eq.1 hA | skip) <;> (try simp only [ne_eq] at hA)) | (refine CallP.det (pname_ctr g i h) ?_; conv => whnf) | (refine CallD.det (pname_ctr g i h) ?_; conv => whnf) | (rw [getD_map _ _ _ _ (by assumption)]; conv => whnf))
    · rw [ba_toList] at hA
      rw [if_pos hA] at he
      refine ⟨⟨[], ?_⟩⟩
      conv => whnf
      rw [he]; rfl
    · rw [ba_toList] at hA
      rw [if_neg hA] at he
      exact ⟨i + 1, ⟨by omega, he⟩, by omega, ⟨⟨rfl, rfl, rfl, AV.int_eq (i64_succ (by omega)), trivial⟩, trivial⟩⟩
  · have h : ¬ i < 8 := by first | (have h0 := of_decide_eq_true h; omega) | (have h0 := of_decide_eq_false h; omega) | (have h0 := h; simp at h0; omega) | (have h0 := h; simp at h0; exact h0)
    have : i = 8 := by omega
    subst this
    conv => whnf
    refine ⟨⟨[], ?_⟩⟩
    conv => whnf
    rw [he]; rfl
def rowW (l : List UInt8) : List D := [.v (.string (baL l))]
theorem names_ctr (g : GP) : Ctr (ax g).E 80 [] [] (fun o => o = .ret (.d (.sl true 1 (nameL.map rowW))) []) := by
  refine Ctr.body (X := ax g) _ 2 [] [.tmp 0] Tryd.func80 rfl rfl rfl rfl (by decide +kernel) rfl rfl ?_
  conv => whnf
  repeat' (first | (refine And.intro (by first | exact rfl | decide | exact Nat.le_of_ble_eq_true rfl | exact ⟨_, rfl⟩ | exact ⟨_, _, rfl⟩ | exact Nat.le_refl _ | exact Int.le_refl _ | omega | (simp only [List.length_map]; omega) | exact True.intro | (simp only [IntKind.wrap_i64, List.length_map]; omega) | (simp only [List.map_cons, List.map_nil, List.length_cons, Option.getD]; omega) | (simp only [bsz, ByteArray.size_append, List.size_toArray, List.length_cons, List.length_nil]; omega) | exact ⟨⟨_, _, rfl, rfl, Nat.le_of_ble_eq_true rfl⟩, trivial⟩ | exact ⟨⟨_, _, rfl, rfl, Nat.le_of_ble_eq_true rfl⟩, ⟨_, _, rfl, rfl, Nat.le_of_ble_eq_true rfl⟩, trivial⟩ | exact ⟨⟨_, _, rfl, rfl, Nat.le_of_ble_eq_true rfl⟩, ⟨_, _, rfl, rfl, Nat.le_of_ble_eq_true rfl⟩, ⟨_, _, rfl, rfl, Nat.le_of_ble_eq_true rfl⟩, trivial⟩) ?_; conv => whnf) | (refine ifB_intro (fun hA => ?_) (fun hA => ?_) <;> (try rw [hA]) <;> (conv => whnf) <;> (first | replace hA := of_decide_eq_true hA | replace hA := of_decide_eq_false hA | replace hA := eq_of_beq hA | replace hA := ne_of_beq_false hA | replace hA := bne_iff_ne.1 hA | replace hA := bne_eq_false_iff_eq.1 hA | skip) <;> (try simp only [List.length_map, cond_true, cond_false, Bool.not_eq_true', Bool.not_eq_false', beq_iff_eq, beq_eq_false_iff_ne, ne_eq] at hA)) | (rw [getD_map _ _ _ _ (by assumption)]; conv => whnf))
  refine ⟨⟨[], ?_⟩⟩
  conv => whnf
  rfl
theorem refField_ctr (g : GP) (s : ByteArray) : Ctr (ax g).E 70 [.str s] [] (fun o => o = .ret (.i64 (match fieldK s.data.toList with | some i => (i : Int) | none => -1)) []) := by
  refine Ctr.body (X := ax g) _ 19 [] [.tmp 2] Tryd.func70 rfl rfl rfl rfl (by decide +kernel) rfl rfl ?_
  conv => whnf
  repeat' (first | (refine And.intro (by first | exact rfl | decide | exact Nat.le_of_ble_eq_true rfl | exact ⟨_, rfl⟩ | exact ⟨_, _, rfl⟩ | exact Nat.le_refl _ | exact Int.le_refl _ | omega | (simp only [List.length_map]; omega) | exact True.intro | (simp only [IntKind.wrap_i64, List.length_map]; omega) | (simp only [List.map_cons, List.map_nil, List.length_cons, Option.getD]; omega) | (simp only [bsz, ByteArray.size_append, List.size_toArray, List.length_cons, List.length_nil]; omega) | exact ⟨⟨_, _, rfl, rfl, Nat.le_of_ble_eq_true rfl⟩, trivial⟩ | exact ⟨⟨_, _, rfl, rfl, Nat.le_of_ble_eq_true rfl⟩, ⟨_, _, rfl, rfl, Nat.le_of_ble_eq_true rfl⟩, trivial⟩ | exact ⟨⟨_, _, rfl, rfl, Nat.le_of_ble_eq_true rfl⟩, ⟨_, _, rfl, rfl, Nat.le_of_ble_eq_true rfl⟩, ⟨_, _, rfl, rfl, Nat.le_of_ble_eq_true rfl⟩, trivial⟩) ?_; conv => whnf) | (refine ifB_intro (fun hA => ?_) (fun hA => ?_) <;> (try rw [hA]) <;> (conv => whnf) <;> (first | replace hA := of_decide_eq_true hA | replace hA := of_decide_eq_false hA | replace hA := eq_of_beq hA | replace hA := ne_of_beq_false hA | replace hA := bne_iff_ne.1 hA | replace hA := bne_eq_false_iff_eq.1 hA | skip) <;> (try simp only [List.length_map, cond_true, cond_false, Bool.not_eq_true', Bool.not_eq_false', beq_iff_eq, beq_eq_false_iff_ne, ne_eq] at hA)) | (refine CallP.det (names_ctr g) ?_; conv => whnf) | (refine CallD.det (names_ctr g) ?_; conv => whnf) | (rw [getD_map _ _ _ _ (by assumption)]; conv => whnf))
  refine LoopP.inv (X := ax g) (fun i : Nat => { f := [(0, .str s), (2, .i64 0), (3, .d (.sl true 1 (nameL.map rowW))), (4, .i64 i)], h := [] }) (fun i => i ≤ 8 ∧ fieldK s.data.toList = fieldGo s.data.toList (nameL.drop i) i) (fun i => 8 - i) 0 ⟨Nat.zero_le _, rfl⟩ ⟨⟨rfl, rfl, rfl, rfl, trivial⟩, trivial⟩ fun i ⟨hi, he⟩ => ?_
  conv => whnf
  refine ifB_intro (fun h => ?_) (fun h => ?_)
  · have hl : i < nameL.length := by
      have h0 := of_decide_eq_true h
      rw [List.length_map] at h0
      omega
    have h8 : i < 8 := hl
    rw [fieldGo_drop _ i h8] at he
    have hn : nameF i = nameL[i] := by unfold nameF; rw [List.getD, List.getElem?_eq_getElem hl]; rfl
    rw [hn] at he
    conv => whnf
    repeat' (first | (refine And.intro (by first | exact rfl | decide | exact Nat.le_of_ble_eq_true rfl | exact ⟨_, rfl⟩ | exact ⟨_, _, rfl⟩ | exact Nat.le_refl _ | exact Int.le_refl _ | omega | (simp only [List.length_map]; omega) | exact True.intro | (simp only []; omega) | (simp only []; omega) | (simp only []; omega) | exact ⟨⟨_, _, rfl, rfl, Nat.le_of_ble_eq_true rfl⟩, trivial⟩ | exact ⟨⟨_, _, rfl, rfl, Nat.le_of_ble_eq_true rfl⟩, ⟨_, _, rfl, rfl, Nat.le_of_ble_eq_true rfl⟩, trivial⟩ | exact ⟨⟨_, _, rfl, rfl, Nat.le_of_ble_eq_true rfl⟩, ⟨_, _, rfl, rfl, Nat.le_of_ble_eq_true rfl⟩, ⟨_, _, rfl, rfl, Nat.le_of_ble_eq_true rfl⟩, trivial⟩) ?_; conv => whnf) | (refine ifB_intro (fun hA => ?_) (fun hA => ?_) <;> (try rw [hA]) <;> (conv => whnf) <;> (first | replace hA := of_decide_eq_true hA | replace hA := of_decide_eq_false hA | replace hA := eq_of_beq hA | replace hA := ne_of_beq_false hA | replace hA := bne_iff_ne.1 hA | replace hA := bne_eq_false_iff_eq.1 hA | skip) <;> (try simp only [ne_eq] at hA)) | (rw [getD_map _ _ _ _ (by assumption)]; conv => whnf))
    · rw [ba_toList] at hA
      rw [if_pos hA] at he
      refine ⟨⟨[], ?_⟩⟩
      conv => whnf
      rw [he]
    · rw [ba_toList] at hA
      rw [if_neg hA] at he
      exact ⟨i + 1, ⟨by omega, he⟩, by omega, ⟨⟨rfl, rfl, rfl, AV.int_eq (i64_succ (by omega)), trivial⟩, trivial⟩⟩
  · have hl : ¬ i < nameL.length := by
      have h0 := of_decide_eq_false h
      rw [List.length_map] at h0
      omega
    have : i = 8 := by have : nameL.length = 8 := rfl; omega
    subst this
    conv => whnf
    refine ⟨⟨[], ?_⟩⟩
    conv => whnf
    rw [he]; rfl

/-! ### Text -/
def cellU (n : Nat) : D := .v (.int .u16 (n : Int))
def rowU (p : List Nat) : List D := p.map cellU
theorem rowU_len (p : List Nat) : (rowU p).length = p.length := by simp [rowU]
theorem rowU_get (p : List Nat) (i : Nat) (h : i < p.length) : (rowU p).getD (i : Int).toNat (.v undef) = .v (.int .u16 ((p.getD i 0 : Nat) : Int)) := by
  unfold rowU cellU; simp [List.getD, h]
theorem rowU_cut (p : List Nat) (h : p.length = 8) : cut 0 8 (rowU p) = rowU p := by
  unfold cut
  rw [List.drop_zero, List.take_of_length_le (by rw [rowU_len]; omega)]
def OkK (p : List Nat) : Prop := p.length = 8 ∧ ∀ i, i < 8 → p.getD i 0 < 65536
theorem partsP_len (p : List Nat) : ∀ i, (partsP p i).length ≤ i
  | 0 => by simp [partsP]
  | i + 1 => by
    have := partsP_len p i
    rw [partsP]; split
    · simp; omega
    · omega
def rowS9 (l : List UInt8) : List D := [.v (.string (baL l))]
theorem part_len (p : List Nat) (ok : OkK p) (i : Nat) (hi : i ≤ 8) : ∀ x ∈ partsP p i, x.length ≤ 9 := by
  induction i with
  | zero => simp [partsP]
  | succ i ih =>
    have h1 := ih (by omega)
    rw [partsP]
    split
    · intro x hx
      rcases List.mem_append.1 hx with hx | hx
      · exact h1 x hx
      · simp only [List.mem_singleton] at hx
        subst hx
        have h2 := (name_facts i (by omega)).1.2.2
        have h3 := dec_len 4 (p.getD i 0) (by have := ok.2 i (by omega); omega)
        rw [List.length_append, List.length_cons]; omega
    · exact h1
theorem joinW_bound : ∀ (xs : List (List UInt8)) (k : Nat), (∀ x ∈ xs, x.length ≤ k) → (Lib.join xs [32]).length ≤ (k + 1) * xs.length := by
  intro xs k h
  have e : (Lib.join xs [32]).length = (Lib.join xs [44]).length := by
    cases xs with
    | nil => rfl
    | cons x r => rw [Lib.join_length, Lib.join_length]; rfl
  rw [e]; exact join_bound xs k h
theorem textP_len (p : List Nat) (ok : OkK p) (i : Nat) (hi : i ≤ 8) : (Lib.join (partsP p i) [32]).length ≤ 80 := by
  have h1 := joinW_bound (partsP p i) 9 (part_len p ok i hi)
  have h2 := partsP_len p i
  omega
theorem pjoin_give (g : GP) (p : List Nat) (ok : OkK p) : Ctr (ax g).E 83 ([.msl 903 (partsP p 8).length 0 (partsP p 8).length, .str ⟨#[32]⟩].map (frz 903 1 ((partsP p 8).map rowS9))) [] (fun o => o = .ret (.str (baL (textP p))) []) := by
  have e : ((partsP p 8).map baL).map (·.data.toList) = partsP p 8 := by
    rw [List.map_map]
    conv => rhs; rw [← List.map_id (partsP p 8)]
    exact List.map_congr_left fun z _ => by simp [baL]
  have hb := textP_len p ok 8 (by omega)
  have hpl := partsP_len p 8
  have h := join_ctr g false ((partsP p 8).map baL) ⟨#[32]⟩ (by rw [List.length_map]; omega) (by rw [e]; show (Lib.join (partsP p 8) [32]).length ≤ _; omega)
  rw [e] at h
  simp only [List.map_cons, List.map_nil, frzE 903 1 (partsP p 8).length ((partsP p 8).map rowS9) (by simp)]
  rw [List.map_map] at h
  exact h
theorem ptext_ctr (g : GP) (hp : ∀ w, g.G w → PowG w) (p : List Nat) (ok : OkK p) : Ctr (ax g).E 66 [.dagg (rowU p)] [] (fun o => o = .ret (.str (baL (textP p))) []) := by
  have hl : (rowU p).length = 8 := by rw [rowU_len]; exact ok.1
  refine Ctr.body (X := ax g) _ 30 [] [.tmp 2] Tryd.func66 rfl rfl rfl rfl (by decide +kernel) rfl rfl ?_
  conv => whnf
  repeat' (first | (refine And.intro (by first | exact rfl | decide | exact Nat.le_of_ble_eq_true rfl | exact ⟨_, rfl⟩ | exact ⟨_, _, rfl⟩ | exact Nat.le_refl _ | exact Int.le_refl _ | omega | (simp only []; omega) | exact True.intro | (simp only [IntKind.wrap_i64, List.length_map]; omega) | (simp only [List.map_cons, List.map_nil, List.length_cons, Option.getD]; omega) | (simp only [bsz, ByteArray.size_append, List.size_toArray, List.length_cons, List.length_nil]; omega) | exact ⟨⟨_, _, rfl, rfl, Nat.le_of_ble_eq_true rfl⟩, trivial⟩ | exact ⟨⟨_, _, rfl, rfl, Nat.le_of_ble_eq_true rfl⟩, ⟨_, _, rfl, rfl, Nat.le_of_ble_eq_true rfl⟩, trivial⟩ | exact ⟨⟨_, _, rfl, rfl, Nat.le_of_ble_eq_true rfl⟩, ⟨_, _, rfl, rfl, Nat.le_of_ble_eq_true rfl⟩, ⟨_, _, rfl, rfl, Nat.le_of_ble_eq_true rfl⟩, trivial⟩) ?_; conv => whnf) | (refine ifB_intro (fun hA => ?_) (fun hA => ?_) <;> (try rw [hA]) <;> (conv => whnf) <;> (first | replace hA := of_decide_eq_true hA | replace hA := of_decide_eq_false hA | replace hA := eq_of_beq hA | replace hA := ne_of_beq_false hA | replace hA := bne_iff_ne.1 hA | replace hA := bne_eq_false_iff_eq.1 hA | skip) <;> (try simp only [List.length_map, cond_true, cond_false, Bool.not_eq_true', Bool.not_eq_false', beq_iff_eq, beq_eq_false_iff_ne, ne_eq] at hA)) | (refine And.intro (show 0 + 8 ≤ (rowU p).length by omega) ?_; conv => whnf) | (rw [getD_map _ _ _ _ (by assumption)]; conv => whnf))
  refine LoopP.own 3 903 1 9 rfl rfl rfl ?_
  refine LoopP.inv (X := ax g) (fun i : Nat => { f := [(3, .msl 903 (partsP p i).length 0 (partsP p i).length), (6, .dagg (rowU p)), (7, .i64 i)], h := [(903, some (.buf 1 9 ((partsP p i).map rowS9)))] }) (fun i => i ≤ 8) (fun i => 8 - i) 0 (Nat.zero_le _) ⟨⟨rfl, (congrArg AV.dagg (rowU_cut p ok.1)), rfl, trivial⟩, ⟨fun o h => h, trivial⟩⟩ fun i hi => ?_
  conv => whnf
  refine ifB_intro (fun h => ?_) (fun h => ?_)
  · have h : i < 8 := by first | (have h0 := of_decide_eq_true h; omega) | (have h0 := of_decide_eq_false h; omega) | (have h0 := h; simp at h0; omega) | (have h0 := h; simp at h0; exact h0)
    have hg := rowU_get p i (by have := ok.1; omega)
    have hb := ok.2 i h
    have hit := itoa_ctr g hp (p.getD i 0) (by omega)
    have hpl := partsP_len p i
    have hw : IntKind.i64.wrap ((p.getD i 0 : Nat) : Int) = ((p.getD i 0 : Nat) : Int) := i64_wrap (by omega) (by omega)
    have hns : (baL (nameF i)).size ≤ 3 := by have := (name_facts i h).1.2.2; simpa [baL, bsz] using this
    have hds := dec_len 4 (p.getD i 0) (by omega)
    have hstr : (baL (nameF i) ++ ⟨#[61]⟩) ++ (⟨(Lib.decDigits (p.getD i 0)).toArray⟩ : ByteArray) = baL (nameF i ++ 61 :: Lib.decDigits (p.getD i 0)) := by
      apply ByteArray.ext; simp [baL, ByteArray.data_append]
    have hpp : (p.getD i 0 ≠ 0 ∨ i ≤ 1) → partsP p (i + 1) = partsP p i ++ [nameF i ++ 61 :: Lib.decDigits (p.getD i 0)] := fun h => by rw [partsP, if_pos h]
    have hpn : ¬ (p.getD i 0 ≠ 0 ∨ i ≤ 1) → partsP p (i + 1) = partsP p i := fun h => by rw [partsP, if_neg h]
    conv => whnf
    repeat' (first | (refine And.intro (by first | exact rfl | decide | exact Nat.le_of_ble_eq_true rfl | exact ⟨_, rfl⟩ | exact ⟨_, _, rfl⟩ | exact Nat.le_refl _ | exact Int.le_refl _ | omega | (simp only [List.length_map]; omega) | exact True.intro | (simp only [List.length_map]; omega) | (simp only [List.length_cons]; omega) | (simp only [bsz, ByteArray.size_append, List.size_toArray, List.length_cons, List.length_nil]; omega) | exact ⟨⟨_, _, rfl, rfl, Nat.le_of_ble_eq_true rfl⟩, trivial⟩ | exact ⟨⟨_, _, rfl, rfl, Nat.le_of_ble_eq_true rfl⟩, ⟨_, _, rfl, rfl, Nat.le_of_ble_eq_true rfl⟩, trivial⟩ | exact ⟨⟨_, _, rfl, rfl, Nat.le_of_ble_eq_true rfl⟩, ⟨_, _, rfl, rfl, Nat.le_of_ble_eq_true rfl⟩, ⟨_, _, rfl, rfl, Nat.le_of_ble_eq_true rfl⟩, trivial⟩) ?_; conv => whnf) | (refine ifB_intro (fun hA => ?_) (fun hA => ?_) <;> (try rw [hA]) <;> (conv => whnf) <;> (first | replace hA := of_decide_eq_true hA | replace hA := of_decide_eq_false hA | replace hA := eq_of_beq hA | replace hA := ne_of_beq_false hA | replace hA := bne_iff_ne.1 hA | replace hA := bne_eq_false_iff_eq.1 hA | skip) <;> (try simp only [ne_eq] at hA)) | (refine And.intro (show ((i : Int)).toNat < (rowU p).length by omega) ?_; conv => whnf) | (rw [hg]; conv => whnf) | (refine CallP.det (pname_ctr g i h) ?_; conv => whnf) | (refine CallD.det (pname_ctr g i h) ?_; conv => whnf) | (rw [hw]; conv => whnf) | (refine CallP.det (hit) ?_; conv => whnf) | (refine CallD.det (hit) ?_; conv => whnf) | (refine And.intro (show (baL (nameF i)).size + 1 ≤ 9223372036854775807 by omega) ?_; conv => whnf) | (refine And.intro (show (baL (nameF i) ++ ⟨#[61]⟩).size + (Lib.decDigits (p.getD i 0)).length ≤ 9223372036854775807 by rw [ByteArray.size_append]; show (baL (nameF i)).size + 1 + _ ≤ _; omega) ?_; conv => whnf) | (refine And.intro (List.length_map _).symm ?_; conv => whnf) | (refine And.intro (by show (((partsP p i).map rowS9).length + 1) * 16 ≤ 140737488355328; rw [List.length_map]; omega) ?_; conv => whnf) | (rw [getD_map _ _ _ _ (by assumption)]; conv => whnf))
    · have hc := hpp (.inl (by omega))
      exact ⟨i + 1, by omega, by omega, ⟨⟨msl_eq (by rw [hc]; simp), rfl, AV.int_eq (i64_succ (by omega)), trivial⟩, ⟨fun o h => by rw [← h, hc, List.map_append, hstr]; rfl, trivial⟩⟩⟩
    · have hc := hpp (.inr (by omega))
      exact ⟨i + 1, by omega, by omega, ⟨⟨msl_eq (by rw [hc]; simp), rfl, AV.int_eq (i64_succ (by omega)), trivial⟩, ⟨fun o h => by rw [← h, hc, List.map_append, hstr]; rfl, trivial⟩⟩⟩
    · have hc := hpn (by omega)
      exact ⟨i + 1, by omega, by omega, ⟨⟨msl_eq (by rw [hc]), rfl, AV.int_eq (i64_succ (by omega)), trivial⟩, ⟨fun o h => by rw [← h, hc]; rfl, trivial⟩⟩⟩
  · have h : ¬ i < 8 := by first | (have h0 := of_decide_eq_true h; omega) | (have h0 := of_decide_eq_false h; omega) | (have h0 := h; simp at h0; omega) | (have h0 := h; simp at h0; exact h0)
    have : i = 8 := by omega
    subst this
    conv => whnf
    refine CallP.arg (args' := [.msl 903 (partsP p 8).length 0 (partsP p 8).length, .str ⟨#[32]⟩]) rfl ?_
    refine CallP.give 903 1 9 ((partsP p 8).map rowS9) rfl (pjoin_give g p ok) ?_
    conv => whnf
    refine ⟨⟨[], ?_⟩⟩
    conv => whnf

/-! ### the document's text -/
def accT (p : List Nat) (i : Nat) : ByteArray := baL (Lib.join (partsP p i) [32])
theorem accT_app (p : List Nat) (i : Nat) (hc : p.getD i 0 ≠ 0 ∨ i ≤ 1) : (i = 0 → accT p (i + 1) = (accT p i ++ baL (nameF i) ++ ⟨#[61]⟩) ++ ⟨(Lib.decDigits (p.getD i 0)).toArray⟩) ∧ (1 ≤ i → accT p (i + 1) = ((accT p i ++ ⟨#[32]⟩) ++ baL (nameF i) ++ ⟨#[61]⟩) ++ ⟨(Lib.decDigits (p.getD i 0)).toArray⟩) := by
  have hp : partsP p (i + 1) = partsP p i ++ [nameF i ++ 61 :: Lib.decDigits (p.getD i 0)] := by rw [partsP, if_pos hc]
  constructor
  · intro h
    subst h
    unfold accT
    rw [hp, partsP, List.nil_append, Lib.join_one, Lib.join_nil]
    apply ByteArray.ext; simp [baL, ByteArray.data_append]
  · intro h
    unfold accT
    rw [hp, join_snoc _ _ _ (parts_ne p i h)]
    apply ByteArray.ext; simp [baL, ByteArray.data_append]
theorem accT_ne (p : List Nat) (i : Nat) (h : 1 ≤ i) (h8 : i ≤ 8) : Lib.join (partsP p i) [32] ≠ [] := by
  have h1 := parts_ne p i h
  obtain ⟨x, r, hx⟩ := List.exists_cons_of_ne_nil h1
  have h2 := (parts_facts p i h8 x (by rw [hx]; simp)).2
  rw [hx, Lib.join_cons]
  intro h3
  exact h2 (List.append_eq_nil_iff.1 h3).1
theorem reftextP_ctr (g : GP) (p : List Nat) (ok : OkK p) : Ctr (ax g).E 71 [.dagg (rowU p)] [] (fun o => o = .ret (.str (baL (textP p))) []) := by
  have hl : (rowU p).length = 8 := by rw [rowU_len]; exact ok.1
  refine Ctr.body (X := ax g) _ 35 [] [.tmp 2] Tryd.func71 rfl rfl rfl rfl (by decide +kernel) rfl rfl ?_
  conv => whnf
  repeat' (first | (refine And.intro (by first | exact rfl | decide | exact Nat.le_of_ble_eq_true rfl | exact ⟨_, rfl⟩ | exact ⟨_, _, rfl⟩ | exact Nat.le_refl _ | exact Int.le_refl _ | omega | (simp only [List.length_map]; omega) | exact True.intro | (simp only [IntKind.wrap_i64, List.length_map]; omega) | (simp only [List.map_cons, List.map_nil, List.length_cons, Option.getD]; omega) | (simp only [bsz, ByteArray.size_append, List.size_toArray, List.length_cons, List.length_nil]; omega) | exact ⟨⟨_, _, rfl, rfl, Nat.le_of_ble_eq_true rfl⟩, trivial⟩ | exact ⟨⟨_, _, rfl, rfl, Nat.le_of_ble_eq_true rfl⟩, ⟨_, _, rfl, rfl, Nat.le_of_ble_eq_true rfl⟩, trivial⟩ | exact ⟨⟨_, _, rfl, rfl, Nat.le_of_ble_eq_true rfl⟩, ⟨_, _, rfl, rfl, Nat.le_of_ble_eq_true rfl⟩, ⟨_, _, rfl, rfl, Nat.le_of_ble_eq_true rfl⟩, trivial⟩) ?_; conv => whnf) | (refine ifB_intro (fun hA => ?_) (fun hA => ?_) <;> (try rw [hA]) <;> (conv => whnf) <;> (first | replace hA := of_decide_eq_true hA | replace hA := of_decide_eq_false hA | replace hA := eq_of_beq hA | replace hA := ne_of_beq_false hA | replace hA := bne_iff_ne.1 hA | replace hA := bne_eq_false_iff_eq.1 hA | skip) <;> (try simp only [List.length_map, cond_true, cond_false, Bool.not_eq_true', Bool.not_eq_false', beq_iff_eq, beq_eq_false_iff_ne, ne_eq] at hA)) | (rw [getD_map _ _ _ _ (by assumption)]; conv => whnf))
  refine LoopP.inv (X := ax g) (fun i : Nat => { f := [(1, .ptr 1 0), (3, .str (accT p i)), (4, .i64 i)], h := [(1, some (.dvar (rowU p).length (rowU p)))] }) (fun i => i ≤ 8) (fun i => 8 - i) 0 (Nat.zero_le _) ⟨⟨rfl, rfl, rfl, trivial⟩, ⟨fun o h => h, trivial⟩⟩ fun i hi => ?_
  conv => whnf
  refine ifB_intro (fun h => ?_) (fun h => ?_)
  · have h : i < 8 := by first | (have h0 := of_decide_eq_true h; omega) | (have h0 := of_decide_eq_false h; omega) | (have h0 := h; simp at h0; omega) | (have h0 := h; simp at h0; exact h0)
    have hg := rowU_get p i (by have := ok.1; omega)
    have hg0 : (rowU p).getD (0 + (i : Int).toNat * 1) (.v undef) = .v (.int .u16 ((p.getD i 0 : Nat) : Int)) := by rw [Nat.zero_add, Nat.mul_one]; exact hg
    have hb := ok.2 i h
    have hit := digits_ctr g (p.getD i 0) (by omega)
    have hw : IntKind.i64.wrap ((p.getD i 0 : Nat) : Int) = ((p.getD i 0 : Nat) : Int) := i64_wrap (by omega) (by omega)
    have hns : (baL (nameF i)).size ≤ 3 := by have := (name_facts i h).1.2.2; simpa [baL, bsz] using this
    have hds := dec_len 4 (p.getD i 0) (by omega)
    have hal : (accT p i).size ≤ 80 := by have := textP_len p ok i hi; simpa [accT, baL, bsz] using this
    have hpn : ¬ (p.getD i 0 ≠ 0 ∨ i ≤ 1) → partsP p (i + 1) = partsP p i := fun h => by rw [partsP, if_neg h]
    have hnl : i < nameL.length := h
    have hn : nameF i = nameL[i] := by unfold nameF; rw [List.getD, List.getElem?_eq_getElem hnl]; rfl
    conv => whnf
    repeat' (first | (refine And.intro (by first | exact rfl | decide | exact Nat.le_of_ble_eq_true rfl | exact ⟨_, rfl⟩ | exact ⟨_, _, rfl⟩ | exact Nat.le_refl _ | exact Int.le_refl _ | omega | (simp only []; omega) | exact True.intro | (simp only []; omega) | (simp only []; omega) | (simp only [bsz, List.size_toArray, List.length_cons, List.length_nil]; omega) | exact ⟨⟨_, _, rfl, rfl, Nat.le_of_ble_eq_true rfl⟩, trivial⟩ | exact ⟨⟨_, _, rfl, rfl, Nat.le_of_ble_eq_true rfl⟩, ⟨_, _, rfl, rfl, Nat.le_of_ble_eq_true rfl⟩, trivial⟩ | exact ⟨⟨_, _, rfl, rfl, Nat.le_of_ble_eq_true rfl⟩, ⟨_, _, rfl, rfl, Nat.le_of_ble_eq_true rfl⟩, ⟨_, _, rfl, rfl, Nat.le_of_ble_eq_true rfl⟩, trivial⟩) ?_; conv => whnf) | (refine ifB_intro (fun hA => ?_) (fun hA => ?_) <;> (try rw [hA]) <;> (conv => whnf) <;> (first | replace hA := of_decide_eq_true hA | replace hA := of_decide_eq_false hA | replace hA := eq_of_beq hA | replace hA := ne_of_beq_false hA | replace hA := bne_iff_ne.1 hA | replace hA := bne_eq_false_iff_eq.1 hA | skip) <;> (try simp only [ne_eq] at hA)) | (refine And.intro (show 0 + (i : Int).toNat * 1 + 1 ≤ (rowU p).length by omega) ?_; conv => whnf) | (rw [hg0]; conv => whnf) | (rw [getD_map _ _ _ _ (by assumption)]; conv => whnf))
    · have hi1 : 1 ≤ i := by
        rcases Nat.eq_zero_or_pos i with h0 | h0
        · subst h0; exact absurd rfl hA
        · exact h0
      have hs1 : (accT p i ++ ⟨#[32]⟩ : ByteArray).size ≤ 81 := by rw [ByteArray.size_append]; show _ + 1 ≤ _; omega
      have hc := (accT_app p i (.inr (by omega))).2 hi1
      refine DrawP.intro (X := ax g) (id := 8) B71_8 (by kernel_rfl) (by decide +kernel) ?_
      conv => whnf
      repeat' (first | (refine And.intro (by first | exact rfl | decide | exact Nat.le_of_ble_eq_true rfl | exact ⟨_, rfl⟩ | exact ⟨_, _, rfl⟩ | exact Nat.le_refl _ | exact Int.le_refl _ | omega | (simp only [List.length_map]; omega) | exact True.intro | (simp only []; omega) | (simp only []; omega) | (simp only [bsz, ByteArray.size_append, List.size_toArray, List.length_cons, List.length_nil]; omega) | exact ⟨⟨_, _, rfl, rfl, Nat.le_of_ble_eq_true rfl⟩, trivial⟩ | exact ⟨⟨_, _, rfl, rfl, Nat.le_of_ble_eq_true rfl⟩, ⟨_, _, rfl, rfl, Nat.le_of_ble_eq_true rfl⟩, trivial⟩ | exact ⟨⟨_, _, rfl, rfl, Nat.le_of_ble_eq_true rfl⟩, ⟨_, _, rfl, rfl, Nat.le_of_ble_eq_true rfl⟩, ⟨_, _, rfl, rfl, Nat.le_of_ble_eq_true rfl⟩, trivial⟩) ?_; conv => whnf) | (refine ifB_intro (fun hA => ?_) (fun hA => ?_) <;> (try rw [hA]) <;> (conv => whnf) <;> (first | replace hA := of_decide_eq_true hA | replace hA := of_decide_eq_false hA | replace hA := eq_of_beq hA | replace hA := ne_of_beq_false hA | replace hA := bne_iff_ne.1 hA | replace hA := bne_eq_false_iff_eq.1 hA | skip) <;> (try simp only [List.length_map, cond_true, cond_false, Bool.not_eq_true', Bool.not_eq_false', beq_iff_eq, beq_eq_false_iff_ne, ne_eq] at hA)) | (refine CallP.det (names_ctr g) ?_; conv => whnf) | (refine CallD.det (names_ctr g) ?_; conv => whnf) | (refine And.intro (show 0 + (i : Int).toNat * 1 + 1 ≤ (rowU p).length by omega) ?_; conv => whnf) | (rw [hg0]; conv => whnf) | (rw [hw]; conv => whnf) | (refine CallP.det (hit) ?_; conv => whnf) | (refine CallD.det (hit) ?_; conv => whnf) | (refine And.intro (show ((accT p i ++ ⟨#[32]⟩ : ByteArray)).size + (baL nameL[i]).size ≤ 9223372036854775807 by rw [← hn]; omega) ?_; conv => whnf) | (refine And.intro (show ((accT p i ++ ⟨#[32]⟩ : ByteArray) ++ baL nameL[i]).size + 1 ≤ 9223372036854775807 by rw [ByteArray.size_append, ← hn]; omega) ?_; conv => whnf) | (refine And.intro (show ((accT p i ++ ⟨#[32]⟩ : ByteArray) ++ baL nameL[i] ++ ⟨#[61]⟩).size + (Lib.decDigits (p.getD i 0)).length ≤ 9223372036854775807 by rw [ByteArray.size_append, ByteArray.size_append, ← hn]; show ((accT p i ++ ⟨#[32]⟩ : ByteArray)).size + _ + 1 + _ ≤ _; omega) ?_; conv => whnf) | (rw [getD_map _ _ _ _ (by assumption)]; conv => whnf))
      exact ⟨i + 1, by omega, by omega, ⟨⟨rfl, by rw [hc, hn]; rfl, AV.int_eq (i64_succ (by omega)), trivial⟩, ⟨fun o h => h, trivial⟩⟩⟩
    · have hi1 : i = 0 := by
        rcases Nat.eq_zero_or_pos i with h0 | h0
        · exact h0
        · exact absurd (by simpa [accT, ba_toList] using hA) (accT_ne p i h0 hi)
      have hc := (accT_app p i (.inr (by omega))).1 hi1
      refine DrawP.intro (X := ax g) (id := 8) B71_8 (by kernel_rfl) (by decide +kernel) ?_
      conv => whnf
      repeat' (first | (refine And.intro (by first | exact rfl | decide | exact Nat.le_of_ble_eq_true rfl | exact ⟨_, rfl⟩ | exact ⟨_, _, rfl⟩ | exact Nat.le_refl _ | exact Int.le_refl _ | omega | (simp only [List.length_map]; omega) | exact True.intro | (simp only []; omega) | (simp only []; omega) | (simp only [bsz, ByteArray.size_append, List.size_toArray, List.length_cons, List.length_nil]; omega) | exact ⟨⟨_, _, rfl, rfl, Nat.le_of_ble_eq_true rfl⟩, trivial⟩ | exact ⟨⟨_, _, rfl, rfl, Nat.le_of_ble_eq_true rfl⟩, ⟨_, _, rfl, rfl, Nat.le_of_ble_eq_true rfl⟩, trivial⟩ | exact ⟨⟨_, _, rfl, rfl, Nat.le_of_ble_eq_true rfl⟩, ⟨_, _, rfl, rfl, Nat.le_of_ble_eq_true rfl⟩, ⟨_, _, rfl, rfl, Nat.le_of_ble_eq_true rfl⟩, trivial⟩) ?_; conv => whnf) | (refine ifB_intro (fun hA => ?_) (fun hA => ?_) <;> (try rw [hA]) <;> (conv => whnf) <;> (first | replace hA := of_decide_eq_true hA | replace hA := of_decide_eq_false hA | replace hA := eq_of_beq hA | replace hA := ne_of_beq_false hA | replace hA := bne_iff_ne.1 hA | replace hA := bne_eq_false_iff_eq.1 hA | skip) <;> (try simp only [List.length_map, cond_true, cond_false, Bool.not_eq_true', Bool.not_eq_false', beq_iff_eq, beq_eq_false_iff_ne, ne_eq] at hA)) | (refine CallP.det (names_ctr g) ?_; conv => whnf) | (refine CallD.det (names_ctr g) ?_; conv => whnf) | (refine And.intro (show 0 + (i : Int).toNat * 1 + 1 ≤ (rowU p).length by omega) ?_; conv => whnf) | (rw [hg0]; conv => whnf) | (rw [hw]; conv => whnf) | (refine CallP.det (hit) ?_; conv => whnf) | (refine CallD.det (hit) ?_; conv => whnf) | (refine And.intro (show (accT p i).size + (baL nameL[i]).size ≤ 9223372036854775807 by rw [← hn]; omega) ?_; conv => whnf) | (refine And.intro (show (accT p i ++ baL nameL[i]).size + 1 ≤ 9223372036854775807 by rw [ByteArray.size_append, ← hn]; omega) ?_; conv => whnf) | (refine And.intro (show (accT p i ++ baL nameL[i] ++ ⟨#[61]⟩).size + (Lib.decDigits (p.getD i 0)).length ≤ 9223372036854775807 by rw [ByteArray.size_append, ByteArray.size_append, ← hn]; show (accT p i).size + _ + 1 + _ ≤ _; omega) ?_; conv => whnf) | (rw [getD_map _ _ _ _ (by assumption)]; conv => whnf))
      exact ⟨i + 1, by omega, by omega, ⟨⟨rfl, by rw [hc, hn]; rfl, AV.int_eq (i64_succ (by omega)), trivial⟩, ⟨fun o h => h, trivial⟩⟩⟩
    · have hc := (accT_app p i (.inl (by omega))).2 (by omega)
      have hs1 : (accT p i ++ ⟨#[32]⟩ : ByteArray).size ≤ 81 := by rw [ByteArray.size_append]; show _ + 1 ≤ _; omega
      refine DrawP.intro (X := ax g) (id := 8) B71_8 (by kernel_rfl) (by decide +kernel) ?_
      conv => whnf
      repeat' (first | (refine And.intro (by first | exact rfl | decide | exact Nat.le_of_ble_eq_true rfl | exact ⟨_, rfl⟩ | exact ⟨_, _, rfl⟩ | exact Nat.le_refl _ | exact Int.le_refl _ | omega | (simp only [List.length_map]; omega) | exact True.intro | (simp only []; omega) | (simp only []; omega) | (simp only [bsz, ByteArray.size_append, List.size_toArray, List.length_cons, List.length_nil]; omega) | exact ⟨⟨_, _, rfl, rfl, Nat.le_of_ble_eq_true rfl⟩, trivial⟩ | exact ⟨⟨_, _, rfl, rfl, Nat.le_of_ble_eq_true rfl⟩, ⟨_, _, rfl, rfl, Nat.le_of_ble_eq_true rfl⟩, trivial⟩ | exact ⟨⟨_, _, rfl, rfl, Nat.le_of_ble_eq_true rfl⟩, ⟨_, _, rfl, rfl, Nat.le_of_ble_eq_true rfl⟩, ⟨_, _, rfl, rfl, Nat.le_of_ble_eq_true rfl⟩, trivial⟩) ?_; conv => whnf) | (refine ifB_intro (fun hA => ?_) (fun hA => ?_) <;> (try rw [hA]) <;> (conv => whnf) <;> (first | replace hA := of_decide_eq_true hA | replace hA := of_decide_eq_false hA | replace hA := eq_of_beq hA | replace hA := ne_of_beq_false hA | replace hA := bne_iff_ne.1 hA | replace hA := bne_eq_false_iff_eq.1 hA | skip) <;> (try simp only [List.length_map, cond_true, cond_false, Bool.not_eq_true', Bool.not_eq_false', beq_iff_eq, beq_eq_false_iff_ne, ne_eq] at hA)) | (refine CallP.det (names_ctr g) ?_; conv => whnf) | (refine CallD.det (names_ctr g) ?_; conv => whnf) | (refine And.intro (show 0 + (i : Int).toNat * 1 + 1 ≤ (rowU p).length by omega) ?_; conv => whnf) | (rw [hg0]; conv => whnf) | (rw [hw]; conv => whnf) | (refine CallP.det (hit) ?_; conv => whnf) | (refine CallD.det (hit) ?_; conv => whnf) | (refine And.intro (show ((accT p i ++ ⟨#[32]⟩ : ByteArray)).size + (baL nameL[i]).size ≤ 9223372036854775807 by rw [← hn]; omega) ?_; conv => whnf) | (refine And.intro (show ((accT p i ++ ⟨#[32]⟩ : ByteArray) ++ baL nameL[i]).size + 1 ≤ 9223372036854775807 by rw [ByteArray.size_append, ← hn]; omega) ?_; conv => whnf) | (refine And.intro (show ((accT p i ++ ⟨#[32]⟩ : ByteArray) ++ baL nameL[i] ++ ⟨#[61]⟩).size + (Lib.decDigits (p.getD i 0)).length ≤ 9223372036854775807 by rw [ByteArray.size_append, ByteArray.size_append, ← hn]; show ((accT p i ++ ⟨#[32]⟩ : ByteArray)).size + _ + 1 + _ ≤ _; omega) ?_; conv => whnf) | (rw [getD_map _ _ _ _ (by assumption)]; conv => whnf))
      exact ⟨i + 1, by omega, by omega, ⟨⟨rfl, by rw [hc, hn]; rfl, AV.int_eq (i64_succ (by omega)), trivial⟩, ⟨fun o h => h, trivial⟩⟩⟩
    · exact absurd (by simpa [accT, ba_toList] using hA) (accT_ne p i (by omega) hi)
    · have hc := hpn (by omega)
      exact ⟨i + 1, by omega, by omega, ⟨⟨rfl, by unfold accT; rw [hc]; rfl, AV.int_eq (i64_succ (by omega)), trivial⟩, ⟨fun o h => h, trivial⟩⟩⟩
  · have h : ¬ i < 8 := by first | (have h0 := of_decide_eq_true h; omega) | (have h0 := of_decide_eq_false h; omega) | (have h0 := h; simp at h0; omega) | (have h0 := h; simp at h0; exact h0)
    have : i = 8 := by omega
    subst this
    conv => whnf
    refine ⟨⟨[], ?_⟩⟩
    conv => whnf
    rfl
end Go.Ax
