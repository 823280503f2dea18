import Derived.Test.YtjokajidcojlmaaDoorEAxRf
import Derived.Test.YtjokajidcojlmaaDoorEAxEa
import Derived.Test.YtjokajidcojlmaaDoorEAxV
import Derived.Test.YtjokajidcojlmaaDoorEAxEf
import Derived.Lib.IndexBytes

/- strings.SplitSeq by one byte. -/
namespace Go.Ax
open Go.Proofs
set_option maxRecDepth 10000

def boxN (a b c : Nat) (s : ByteArray) (x : UInt8) : HL := [(a, some (.dvar 1 [.v (.string s)])), (b, some (.dvar 1 [.v (.string ⟨#[x]⟩)])), (c, some (.dvar 1 [.i64 0]))]
theorem split0_ctr (g : GP) (s : ByteArray) (x : UInt8) : Ctr (ax g).E 144 [.str s, .str ⟨#[x]⟩, .i64 0] [] (fun o => o = .ret (.clo (.func 164) [] [.ptr 4 0, .ptr 3 0, .ptr 5 0]) (boxN 3 4 5 s x)) := by
  refine Ctr.body (X := ax g) _ 8 [] [.tmp 6] Tryd.func144 rfl rfl rfl rfl (by decide +kernel) rfl rfl ?_
  conv => whnf
  repeat' (first | (refine And.intro (by first | exact rfl | decide | exact Nat.le_of_ble_eq_true rfl | exact ⟨_, rfl⟩ | exact ⟨_, _, rfl⟩ | exact Nat.le_refl _ | exact Int.le_refl _ | omega | (simp only [List.length_map]; omega) | exact True.intro | (simp only [IntKind.wrap_i64, List.length_map]; omega) | (simp only [List.map_cons, List.map_nil, List.length_cons, Option.getD]; omega) | (simp only [bsz, ByteArray.size_append, List.size_toArray, List.length_cons, List.length_nil]; omega) | exact ⟨⟨_, _, rfl, rfl, Nat.le_of_ble_eq_true rfl⟩, trivial⟩ | exact ⟨⟨_, _, rfl, rfl, Nat.le_of_ble_eq_true rfl⟩, ⟨_, _, rfl, rfl, Nat.le_of_ble_eq_true rfl⟩, trivial⟩ | exact ⟨⟨_, _, rfl, rfl, Nat.le_of_ble_eq_true rfl⟩, ⟨_, _, rfl, rfl, Nat.le_of_ble_eq_true rfl⟩, ⟨_, _, rfl, rfl, Nat.le_of_ble_eq_true rfl⟩, trivial⟩) ?_; conv => whnf) | (refine ifB_intro (fun hA => ?_) (fun hA => ?_) <;> (try rw [hA]) <;> (conv => whnf) <;> (first | replace hA := of_decide_eq_true hA | replace hA := of_decide_eq_false hA | replace hA := eq_of_beq hA | replace hA := ne_of_beq_false hA | replace hA := bne_iff_ne.1 hA | replace hA := bne_eq_false_iff_eq.1 hA | skip) <;> (try simp only [List.length_map, cond_true, cond_false, Bool.not_eq_true', Bool.not_eq_false', beq_iff_eq, beq_eq_false_iff_ne, ne_eq] at hA)) | (rw [getD_map _ _ _ _ (by assumption)]; conv => whnf))
  refine ⟨⟨[(3, some (.dvar 1 [.v (.string s)])), (4, some (.dvar 1 [.v (.string ⟨#[x]⟩)])), (5, some (.dvar 1 [.i64 0]))], ?_⟩⟩
  conv => whnf
  refine And.intro ⟨fun o h => h, fun o h => h, fun o h => h, trivial⟩ ?_
  conv => whnf
  repeat' (first | (refine And.intro (by first | exact rfl | decide | exact Nat.le_of_ble_eq_true rfl | exact ⟨_, rfl⟩ | exact ⟨_, _, rfl⟩ | exact Nat.le_refl _ | exact Int.le_refl _ | omega | (simp only [List.length_map]; omega) | exact True.intro | (simp only [IntKind.wrap_i64, List.length_map]; omega) | (simp only [List.map_cons, List.map_nil, List.length_cons, Option.getD]; omega) | (simp only [bsz, ByteArray.size_append, List.size_toArray, List.length_cons, List.length_nil]; omega) | exact ⟨⟨_, _, rfl, rfl, Nat.le_of_ble_eq_true rfl⟩, trivial⟩ | exact ⟨⟨_, _, rfl, rfl, Nat.le_of_ble_eq_true rfl⟩, ⟨_, _, rfl, rfl, Nat.le_of_ble_eq_true rfl⟩, trivial⟩ | exact ⟨⟨_, _, rfl, rfl, Nat.le_of_ble_eq_true rfl⟩, ⟨_, _, rfl, rfl, Nat.le_of_ble_eq_true rfl⟩, ⟨_, _, rfl, rfl, Nat.le_of_ble_eq_true rfl⟩, trivial⟩) ?_; conv => whnf) | (refine ifB_intro (fun hA => ?_) (fun hA => ?_) <;> (try rw [hA]) <;> (conv => whnf) <;> (first | replace hA := of_decide_eq_true hA | replace hA := of_decide_eq_false hA | replace hA := eq_of_beq hA | replace hA := ne_of_beq_false hA | replace hA := bne_iff_ne.1 hA | replace hA := bne_eq_false_iff_eq.1 hA | skip) <;> (try simp only [List.length_map, cond_true, cond_false, Bool.not_eq_true', Bool.not_eq_false', beq_iff_eq, beq_eq_false_iff_ne, ne_eq] at hA)) | (rw [getD_map _ _ _ _ (by assumption)]; conv => whnf))
  rfl
theorem split1_ctr (g : GP) (s : ByteArray) (x : UInt8) : Ctr (ax g).E 110 [.str s, .str ⟨#[x]⟩] [] (fun o => o = .ret (.clo (.func 164) [] [.ptr 4 0, .ptr 3 0, .ptr 5 0]) (boxN 3 4 5 s x)) := by
  refine Ctr.body (X := ax g) _ 8 [] [.tmp 4] Tryd.func110 rfl rfl rfl rfl (by decide +kernel) rfl rfl ?_
  conv => whnf
  refine CallP.makesL rfl (split0_ctr g s x) ?_
  conv => whnf
  refine ⟨⟨[(3, some (.dvar 1 [.v (.string s)])), (4, some (.dvar 1 [.v (.string ⟨#[x]⟩)])), (5, some (.dvar 1 [.i64 0]))], ?_⟩⟩
  conv => whnf
  refine And.intro ⟨fun o h => h, fun o h => h, fun o h => h, trivial⟩ ?_
  conv => whnf
  repeat' (first | (refine And.intro (by first | exact rfl | decide | exact Nat.le_of_ble_eq_true rfl | exact ⟨_, rfl⟩ | exact ⟨_, _, rfl⟩ | exact Nat.le_refl _ | exact Int.le_refl _ | omega | (simp only [List.length_map]; omega) | exact True.intro | (simp only [IntKind.wrap_i64, List.length_map]; omega) | (simp only [List.map_cons, List.map_nil, List.length_cons, Option.getD]; omega) | (simp only [bsz, ByteArray.size_append, List.size_toArray, List.length_cons, List.length_nil]; omega) | exact ⟨⟨_, _, rfl, rfl, Nat.le_of_ble_eq_true rfl⟩, trivial⟩ | exact ⟨⟨_, _, rfl, rfl, Nat.le_of_ble_eq_true rfl⟩, ⟨_, _, rfl, rfl, Nat.le_of_ble_eq_true rfl⟩, trivial⟩ | exact ⟨⟨_, _, rfl, rfl, Nat.le_of_ble_eq_true rfl⟩, ⟨_, _, rfl, rfl, Nat.le_of_ble_eq_true rfl⟩, ⟨_, _, rfl, rfl, Nat.le_of_ble_eq_true rfl⟩, trivial⟩) ?_; conv => whnf) | (refine ifB_intro (fun hA => ?_) (fun hA => ?_) <;> (try rw [hA]) <;> (conv => whnf) <;> (first | replace hA := of_decide_eq_true hA | replace hA := of_decide_eq_false hA | replace hA := eq_of_beq hA | replace hA := ne_of_beq_false hA | replace hA := bne_iff_ne.1 hA | replace hA := bne_eq_false_iff_eq.1 hA | skip) <;> (try simp only [List.length_map, cond_true, cond_false, Bool.not_eq_true', Bool.not_eq_false', beq_iff_eq, beq_eq_false_iff_ne, ne_eq] at hA)) | (rw [getD_map _ _ _ _ (by assumption)]; conv => whnf))
  rfl
/-- The objects by other names. -/
theorem split_ctr (g : GP) (s : ByteArray) (x : UInt8) : Ctr (ax g).E 110 [.str s, .str ⟨#[x]⟩] [] (fun o => o = .ret (.clo (.func 164) [] [.ptr 9104 0, .ptr 9103 0, .ptr 9105 0]) (boxH s x)) := by
  have h1 := (split1_ctr g s x).swapG (post' := fun o => o = .ret (.clo (.func 164) [] [.ptr 4 0, .ptr 9103 0, .ptr 5 0]) (boxN 9103 4 5 s x)) 3 9103 (fun res ho h => by injection h with h1 h2; subst h1; subst h2; rfl) (fun ch ho h => by simp at h)
  have h2 := h1.swapG (post' := fun o => o = .ret (.clo (.func 164) [] [.ptr 9104 0, .ptr 9103 0, .ptr 5 0]) (boxN 9103 9104 5 s x)) 4 9104 (fun res ho h => by injection h with h1 h2; subst h1; subst h2; rfl) (fun ch ho h => by simp at h)
  exact h2.swapG (post' := fun o => o = .ret (.clo (.func 164) [] [.ptr 9104 0, .ptr 9103 0, .ptr 9105 0]) (boxH s x)) 5 9105 (fun res ho h => by injection h with h1 h2; subst h1; subst h2; rfl) (fun ch ho h => by simp at h)

/-! ### what is read -/
def addP (a : BitVec 64) (p : List UInt8) : BitVec 64 := match Lib.atoiAll p with
  | .ok v => withB a v
  | _ => a
def innerL (t : List UInt8) : List UInt8 := Lib.trimSuffix (Lib.trimPrefix t [123]) [125]
def accB (t : ByteArray) : BitVec 64 := if innerL t.data.toList = [] then 0#64 else (splitL 44 (innerL t.data.toList)).foldl addP 0#64
def readE (t : ByteArray) : Option (BitVec 64) := if textE (accB t) = t then some (accB t) else none

def dec2 (n : Nat) : List UInt8 := if n < 10 then [UInt8.ofNat (48 + n)] else [UInt8.ofNat (48 + n / 10), UInt8.ofNat (48 + n % 10)]
theorem dec2_eq {n : Nat} (h : n < 64) : Lib.decDigits n = dec2 n := by
  unfold dec2
  split
  · rename_i h1; exact Lib.decDigits_one h1
  · rename_i h1; exact Lib.decDigits_two h1 (by omega)
theorem dec2_facts : ∀ n, n < 64 → Lib.atoiAll (dec2 n) = .ok (n : Int) ∧ dec2 n ≠ [] ∧ (dec2 n).all (· != 44) = true := by decide +kernel

theorem split_one (c : UInt8) : ∀ l : List UInt8, l.all (· != c) = true → splitL c l = [l]
  | [], _ => rfl
  | b :: r, h => by
    simp only [List.all_cons, Bool.and_eq_true, bne_iff_ne, ne_eq] at h
    rw [splitL, if_neg fun e => h.1 e.symm, split_one c r h.2]
theorem split_app (c : UInt8) : ∀ (l r : List UInt8), l.all (· != c) = true → splitL c (l ++ c :: r) = l :: splitL c r
  | [], r, _ => by rw [List.nil_append, splitL, if_pos rfl]
  | b :: l, r, h => by
    simp only [List.all_cons, Bool.and_eq_true, bne_iff_ne, ne_eq] at h
    rw [List.cons_append, splitL, if_neg fun e => h.1 e.symm, split_app c l r h.2]
theorem split_join : ∀ (xs : List (List UInt8)), xs ≠ [] → (∀ x ∈ xs, x.all (· != 44) = true) → splitL 44 (Lib.join xs [44]) = xs
  | [], h, _ => absurd rfl h
  | [x], _, h => by rw [Lib.join_one]; exact split_one 44 x (h x (by simp))
  | x :: y :: r, _, h => by
    have e : Lib.join (x :: y :: r) [44] = x ++ 44 :: Lib.join (y :: r) [44] := by simp [Lib.join, List.intercalate]
    rw [e, split_app 44 x _ (h x (by simp)), split_join (y :: r) (by simp) fun z hz => h z (by simp at hz ⊢; exact .inr hz)]
theorem foldl_add (l : List Int) (h : ∀ z ∈ l, 0 ≤ z ∧ z < 64) : ∀ a, (numE l).foldl addP a = l.foldl withB a := by
  induction l with
  | nil => intro a; rfl
  | cons z r ih =>
    intro a
    obtain ⟨h0, h1⟩ := h z (by simp)
    obtain ⟨n, rfl⟩ : ∃ n : Nat, z = n := ⟨z.toNat, by omega⟩
    have e : addP a (Lib.decDigits (n : Int).toNat) = withB a n := by
      unfold addP
      rw [Int.toNat_natCast, dec2_eq (by omega), (dec2_facts n (by omega)).1]
    show (numE r).foldl addP (addP a (Lib.decDigits (n : Int).toNat)) = r.foldl withB (withB a n)
    rw [e, ih (fun z hz => h z (by simp [hz]))]
theorem foldl_get (l : List Int) (h : ∀ z ∈ l, 0 ≤ z ∧ z < 64) : ∀ (a : BitVec 64) (i : Nat), (l.foldl withB a).getLsbD i = (a.getLsbD i || decide ((i : Int) ∈ l)) := by
  induction l with
  | nil => intro a i; simp
  | cons z r ih =>
    intro a i
    obtain ⟨h0, h1⟩ := h z (by simp)
    rw [List.foldl_cons, ih (fun z hz => h z (by simp [hz])), withB, bitF_in h0 h1, BitVec.getLsbD_or, bit_get _ _ (by omega)]
    have : (i = z.toNat) ↔ ((i : Int) = z) := by omega
    simp only [List.mem_cons, Bool.decide_or, this]
    rw [Bool.or_assoc]
theorem of_lst (s : BitVec 64) : ofB (lstZ s) = s := by
  apply BitVec.eq_of_getLsbD_eq
  intro i hi
  unfold ofB
  rw [foldl_get _ fun z hz => lstZ_mem hz]
  have : ((i : Int) ∈ lstZ s) ↔ s.getLsbD i = true := by
    rw [← lstB_mem]
    unfold lstZ
    rw [List.mem_map]
    constructor
    · rintro ⟨j, hj, e⟩
      have : j = i := by have e : (j : Int) = i := e; omega
      exact this ▸ hj
    · intro h; exact ⟨i, h, rfl⟩
  cases hb : s.getLsbD i <;> simp [this, hb]
theorem textE_list (a : BitVec 64) : (textE a).data.toList = 123 :: (joinE (lstZ a) ++ [125]) := by
  unfold textE
  simp [ByteArray.data_append]
theorem inner_text (a : BitVec 64) : innerL (textE a).data.toList = joinE (lstZ a) ∧ Lib.hasPrefix (textE a).data.toList [123] = true ∧ Lib.hasSuffix (Lib.trimPrefix (textE a).data.toList [123]) [125] = true := by
  rw [textE_list]
  have h1 : Lib.hasPrefix (123 :: (joinE (lstZ a) ++ [125])) [123] = true := by simp [Lib.hasPrefix, List.isPrefixOf]
  have h2 : Lib.trimPrefix (123 :: (joinE (lstZ a) ++ [125])) [123] = joinE (lstZ a) ++ [125] := by
    rw [Lib.trimPrefix, if_pos h1]; rfl
  have h3 : Lib.hasSuffix (joinE (lstZ a) ++ [125]) [125] = true := by
    rw [Lib.hasSuffix, List.isSuffixOf_iff_suffix]
    exact List.suffix_append _ _
  refine ⟨?_, h1, by rw [h2]; exact h3⟩
  rw [innerL, h2, Lib.trimSuffix, if_pos h3]
  simp
theorem numE_facts (s : BitVec 64) : ∀ x ∈ numE (lstZ s), x.all (· != 44) = true ∧ x ≠ [] ∧ ∃ v, Lib.atoiAll x = .ok v := fun x hx => by
  obtain ⟨z, hz, rfl⟩ := List.mem_map.1 hx
  obtain ⟨h0, h1⟩ := lstZ_mem hz
  rw [dec2_eq (by omega)]
  obtain ⟨e1, e2, e3⟩ := dec2_facts z.toNat (by omega)
  exact ⟨e3, e2, _, e1⟩
theorem accB_text (a : BitVec 64) : accB (textE a) = a := by
  unfold accB
  rw [(inner_text a).1]
  by_cases h : lstZ a = []
  · have h1 : joinE (lstZ a) = [] := by rw [h]; rfl
    rw [if_pos h1]
    have := of_lst a
    rw [h] at this
    exact this
  · obtain ⟨z, r, hz⟩ := List.exists_cons_of_ne_nil h
    have hne : numE (lstZ a) ≠ [] := by rw [hz]; simp [numE]
    have h1 : joinE (lstZ a) ≠ [] := by
      intro h1
      have h2 := (numE_facts a (Lib.decDigits z.toNat) (by rw [hz]; simp [numE])).2.1
      unfold joinE at h1
      rw [hz] at h1
      have h3 : Lib.join (numE (z :: r)) [44] = Lib.decDigits z.toNat ++ Lib.joinTail [44] (numE r) := Lib.join_cons _ _ _
      rw [h3] at h1
      exact h2 (List.append_eq_nil_iff.1 h1).1
    rw [if_neg h1]
    unfold joinE
    rw [split_join _ hne fun x hx => (numE_facts a x hx).1, foldl_add _ (fun z hz => lstZ_mem hz)]
    exact of_lst a
theorem readE_text (a : BitVec 64) : readE (textE a) = some a := by
  unfold readE
  rw [accB_text, if_pos rfl]
theorem readE_some {t : ByteArray} {a : BitVec 64} (h : readE t = some a) : textE a = t := by
  unfold readE at h
  split at h
  · rename_i h1; injection h with h; rw [← h]; exact h1
  · simp at h
/-- Where a piece is no number, nothing is read. -/
theorem readE_bad {t : ByteArray} (h : readE t ≠ none) : Lib.hasPrefix t.data.toList [123] = true ∧ Lib.hasSuffix (Lib.trimPrefix t.data.toList [123]) [125] = true ∧ (innerL t.data.toList ≠ [] → ∀ p ∈ splitL 44 (innerL t.data.toList), ∃ v, Lib.atoiAll p = .ok v) := by
  obtain ⟨a, ha⟩ := Option.ne_none_iff_exists'.1 h
  have ht := readE_some ha
  subst ht
  obtain ⟨h1, h2, h3⟩ := inner_text a
  refine ⟨h2, h3, fun hne p hp => ?_⟩
  rw [h1] at hne hp
  have h4 : numE (lstZ a) ≠ [] := fun e => hne (by unfold joinE; rw [e]; rfl)
  unfold joinE at hp
  rw [split_join _ h4 fun x hx => (numE_facts a x hx).1] at hp
  exact (numE_facts a p hp).2.2
end Go.Ax

/- events.Read. -/
namespace Go.Ax
open Go.Proofs
set_option maxRecDepth 10000

def readV (r : Option (BitVec 64)) : AV := .tup [.u64 (r.getD 0#64), .bool r.isSome]
def invE (pre : List (List UInt8)) : HL := [(2, some (.dvar 1 [.v (.int .u64 0)])), (3, some (.dvar 1 [.v (.bool false)])), (7, some (.dvar 1 [.v (.int .u64 (pre.foldl addP 0#64).toNat)]))]
theorem index165 (g : GP) (c : UInt8) (s : ByteArray) : Ctr (ax g).E 165 [.str s, .str ⟨#[c]⟩] [] (fun o => o = .ret (.i64 (Lib.index s.data.toList [c])) []) := by
  rw [Go.Lib.index_one]
  exact index1_ctr g s c
theorem split_len (c : UInt8) : ∀ l : List UInt8, ∀ p ∈ splitL c l, p.length ≤ l.length
  | [], p, h => by simp [splitL] at h; subst h; simp
  | b :: r, p, h => by
    rw [splitL] at h
    have ih := split_len c r
    split at h
    · rcases List.mem_cons.1 h with rfl | h
      · simp
      · have := ih p h; simp; omega
    · split at h
      · simp at h; subst h; simp
      · rename_i q qs hq
        rw [hq] at ih
        rcases List.mem_cons.1 h with rfl | h
        · have := ih q (by simp); simp; omega
        · have := ih p (by simp [h]); simp; omega
theorem read_set_ctr (g : GP) (hd : ∀ w, g.G w → DebT w) (hp : ∀ w, g.G w → PowG w) (he : ∀ w, g.G w → ErrG w) (t : ByteArray) (ht : t.size ≤ 100000) : Ctr (ax g).E 61 [.str t] [] (fun o => o = .ret (readV (readE t)) []) := by
  have hl : t.data.toList.length = t.size := by rw [Array.length_toList]; rfl
  generalize h1 : Lib.hasPrefix t.data.toList [123] = b1
  generalize h2 : Lib.trimPrefix t.data.toList [123] = l1
  generalize h3 : Lib.hasSuffix l1 [125] = b2
  generalize h4 : Lib.trimSuffix l1 [125] = l2
  have hin : innerL t.data.toList = l2 := by rw [innerL, h2, h4]
  have hl1 : l1.length ≤ t.size := by
    rw [← h2, ← hl, Lib.trimPrefix]; split <;> simp
  have hl2 : l2.length ≤ t.size := by
    rw [← h4, Lib.trimSuffix]; split
    · rw [List.length_take]; omega
    · exact hl1
  have c1 := cutPrefix_ctr g t ⟨#[123]⟩
  have c2 := cutSuffix_ctr g ⟨l1.toArray⟩ ⟨#[125]⟩ (by show l1.toArray.size < _; simp; omega)
  simp only [h1, h2, h3, h4] at c1 c2
  have bad : ∀ x, l2 ≠ [] → x ∈ splitL 44 l2 → (∀ v, Lib.atoiAll x ≠ .ok v) → readE t = none := fun x h0 hx hv => by
    cases hr : readE t with
    | none => rfl
    | some a =>
      have h5 := (readE_bad (t := t) (by rw [hr]; simp)).2.2
      rw [hin] at h5
      obtain ⟨v, h6⟩ := h5 h0 x hx
      exact absurd h6 (hv v)
  have hno : ¬ (textE (accB t)).data.toList = t.data.toList → readE t = none := fun h => by
    unfold readE; rw [if_neg fun e => h (by rw [e])]
  have hyes : (textE (accB t)).data.toList = t.data.toList → readE t = some (accB t) := fun h => by
    unfold readE
    rw [if_pos]
    apply ByteArray.ext
    exact Array.ext' h
  refine Ctr.bodyT (X := ax g) _ 47 [] [.cell 2 79, .cell 3 4] Tryd.func61 rfl rfl rfl rfl (by decide +kernel) rfl rfl ?_
  conv => whnf
  repeat' (first | (refine And.intro (by first | exact rfl | decide | exact Nat.le_of_ble_eq_true rfl | exact ⟨_, rfl⟩ | exact ⟨_, _, rfl⟩ | exact Nat.le_refl _ | exact Int.le_refl _ | omega | (simp only [List.length_map]; omega) | exact True.intro | (simp only [IntKind.wrap_i64, List.length_map]; omega) | (simp only [List.map_cons, List.map_nil, List.length_cons, Option.getD]; omega) | (simp only [bsz, ByteArray.size_append, List.size_toArray, List.length_cons, List.length_nil]; omega) | exact ⟨⟨_, _, rfl, rfl, Nat.le_of_ble_eq_true rfl⟩, trivial⟩ | exact ⟨⟨_, _, rfl, rfl, Nat.le_of_ble_eq_true rfl⟩, ⟨_, _, rfl, rfl, Nat.le_of_ble_eq_true rfl⟩, trivial⟩ | exact ⟨⟨_, _, rfl, rfl, Nat.le_of_ble_eq_true rfl⟩, ⟨_, _, rfl, rfl, Nat.le_of_ble_eq_true rfl⟩, ⟨_, _, rfl, rfl, Nat.le_of_ble_eq_true rfl⟩, trivial⟩) ?_; conv => whnf) | (refine ifB_intro (fun hA => ?_) (fun hA => ?_) <;> (try rw [hA]) <;> (conv => whnf) <;> (first | replace hA := of_decide_eq_true hA | replace hA := of_decide_eq_false hA | replace hA := eq_of_beq hA | replace hA := ne_of_beq_false hA | replace hA := bne_iff_ne.1 hA | replace hA := bne_eq_false_iff_eq.1 hA | skip) <;> (try simp only [cond_false, Bool.not_eq_true', Bool.not_eq_false', ne_eq] at hA)) | (refine CallP.det (c1) ?_; conv => whnf) | (refine CallD.det (c1) ?_; conv => whnf) | (refine CallP.det (c2) ?_; conv => whnf) | (refine CallD.det (c2) ?_; conv => whnf) | (rw [getD_map _ _ _ _ (by assumption)]; conv => whnf))
  · have hn : readE t = none := by
      cases hr : readE t with
      | none => rfl
      | some a =>
        have := (readE_bad (t := t) (by rw [hr]; simp)).1
        rw [h1, hA] at this; simp at this
    refine ⟨⟨[], ?_⟩⟩
    conv => whnf
    repeat' (first | (refine And.intro (by first | exact rfl | decide | exact Nat.le_of_ble_eq_true rfl | exact ⟨_, rfl⟩ | exact ⟨_, _, rfl⟩ | exact Nat.le_refl _ | exact Int.le_refl _ | omega | (simp only [List.length_map]; omega) | exact True.intro | (simp only [IntKind.wrap_i64, List.length_map]; omega) | (simp only [List.map_cons, List.map_nil, List.length_cons, Option.getD]; omega) | (simp only [bsz, ByteArray.size_append, List.size_toArray, List.length_cons, List.length_nil]; omega) | exact ⟨⟨_, _, rfl, rfl, Nat.le_of_ble_eq_true rfl⟩, trivial⟩ | exact ⟨⟨_, _, rfl, rfl, Nat.le_of_ble_eq_true rfl⟩, ⟨_, _, rfl, rfl, Nat.le_of_ble_eq_true rfl⟩, trivial⟩ | exact ⟨⟨_, _, rfl, rfl, Nat.le_of_ble_eq_true rfl⟩, ⟨_, _, rfl, rfl, Nat.le_of_ble_eq_true rfl⟩, ⟨_, _, rfl, rfl, Nat.le_of_ble_eq_true rfl⟩, trivial⟩) ?_; conv => whnf) | (refine ifB_intro (fun hA => ?_) (fun hA => ?_) <;> (try rw [hA]) <;> (conv => whnf) <;> (first | replace hA := of_decide_eq_true hA | replace hA := of_decide_eq_false hA | replace hA := eq_of_beq hA | replace hA := ne_of_beq_false hA | replace hA := bne_iff_ne.1 hA | replace hA := bne_eq_false_iff_eq.1 hA | skip) <;> (try simp only [List.length_map, cond_true, cond_false, Bool.not_eq_true', Bool.not_eq_false', beq_iff_eq, beq_eq_false_iff_ne, ne_eq] at hA)) | (rw [getD_map _ _ _ _ (by assumption)]; conv => whnf))
    rw [hn]; rfl
  · have hn : readE t = none := by
      cases hr : readE t with
      | none => rfl
      | some a =>
        have := (readE_bad (t := t) (by rw [hr]; simp)).2.1
        rw [h2, h3, hA] at this; simp at this
    refine ⟨⟨[], ?_⟩⟩
    conv => whnf
    repeat' (first | (refine And.intro (by first | exact rfl | decide | exact Nat.le_of_ble_eq_true rfl | exact ⟨_, rfl⟩ | exact ⟨_, _, rfl⟩ | exact Nat.le_refl _ | exact Int.le_refl _ | omega | (simp only [List.length_map]; omega) | exact True.intro | (simp only [IntKind.wrap_i64, List.length_map]; omega) | (simp only [List.map_cons, List.map_nil, List.length_cons, Option.getD]; omega) | (simp only [bsz, ByteArray.size_append, List.size_toArray, List.length_cons, List.length_nil]; omega) | exact ⟨⟨_, _, rfl, rfl, Nat.le_of_ble_eq_true rfl⟩, trivial⟩ | exact ⟨⟨_, _, rfl, rfl, Nat.le_of_ble_eq_true rfl⟩, ⟨_, _, rfl, rfl, Nat.le_of_ble_eq_true rfl⟩, trivial⟩ | exact ⟨⟨_, _, rfl, rfl, Nat.le_of_ble_eq_true rfl⟩, ⟨_, _, rfl, rfl, Nat.le_of_ble_eq_true rfl⟩, ⟨_, _, rfl, rfl, Nat.le_of_ble_eq_true rfl⟩, trivial⟩) ?_; conv => whnf) | (refine ifB_intro (fun hA => ?_) (fun hA => ?_) <;> (try rw [hA]) <;> (conv => whnf) <;> (first | replace hA := of_decide_eq_true hA | replace hA := of_decide_eq_false hA | replace hA := eq_of_beq hA | replace hA := ne_of_beq_false hA | replace hA := bne_iff_ne.1 hA | replace hA := bne_eq_false_iff_eq.1 hA | skip) <;> (try simp only [List.length_map, cond_true, cond_false, Bool.not_eq_true', Bool.not_eq_false', beq_iff_eq, beq_eq_false_iff_ne, ne_eq] at hA)) | (rw [getD_map _ _ _ _ (by assumption)]; conv => whnf))
    rw [hn]; rfl
  · clear c1 c2
    have hacc : accB t = (splitL 44 l2).foldl addP 0#64 := by unfold accB; rw [hin, if_neg hA]
    refine CallP.makesL rfl (split_ctr g ⟨l2.toArray⟩ 44) ?_
    conv => whnf
    have hit : IterC (ax g).E 164 [.ptr 9104 0, .ptr 9103 0, .ptr 9105 0] (boxH ⟨l2.toArray⟩ 44) (fun l : List UInt8 => Value.string (baL l)) (splitL 44 l2) := by
      have := split_iter g 44 (index165 g 44) ⟨l2.toArray⟩ (by show l2.toArray.size < _; simp; omega)
      simpa using this
    refine OtherP.range (X := ax g) (boxH ⟨l2.toArray⟩ 44) (splitL 44 l2) invE [2, 3, 7] [(0, .str t), (2, .ptr 2 0), (3, .ptr 3 0), (7, .ptr 7 0)] rfl rfl rfl rfl hit rfl ⟨fun o h => h, fun o h => h, fun o h => h, trivial⟩ ⟨fun o h => h, fun o h => h, fun o h => h, trivial⟩ rfl ⟨rfl, rfl, rfl, rfl, trivial⟩ rfl rfl rfl (fun _ => rfl) (fun pre x post hx => ?_) ?_
    · have hm : x ∈ splitL 44 l2 := by rw [hx]; simp
      have hlen := split_len 44 l2 x hm
      have ha := atoi_ctr g he (baL x) (by simp [baL, bsz]; omega)
      rw [show (baL x).data.toList = x from by simp [baL]] at ha
      have hi : invE (pre ++ [x]) = [(2, some (.dvar 1 [.v (.int .u64 0)])), (3, some (.dvar 1 [.v (.bool false)])), (7, some (.dvar 1 [.v (.int .u64 (addP (pre.foldl addP 0#64) x).toNat)]))] := by
        unfold invE; rw [List.foldl_append]; rfl
      rw [hi]
      rcases atoi_cases x with ⟨v, hat⟩ | ⟨hat, _⟩ | hat
      · have hap : addP (pre.foldl addP 0#64) x = withB (pre.foldl addP 0#64) v := by unfold addP; rw [hat]
        rw [hap]
        unfold atoiV at ha
        rw [hat] at ha
        conv => whnf
        repeat' (first | (refine And.intro (by first | exact rfl | decide | exact Nat.le_of_ble_eq_true rfl | exact ⟨_, rfl⟩ | exact ⟨_, _, rfl⟩ | exact Nat.le_refl _ | exact Int.le_refl _ | omega | (simp only []; omega) | exact True.intro | (simp only []; omega) | (simp only []; omega) | (simp only []; omega) | exact ⟨⟨_, _, rfl, rfl, Nat.le_of_ble_eq_true rfl⟩, trivial⟩ | exact ⟨⟨_, _, rfl, rfl, Nat.le_of_ble_eq_true rfl⟩, ⟨_, _, rfl, rfl, Nat.le_of_ble_eq_true rfl⟩, trivial⟩ | exact ⟨⟨_, _, rfl, rfl, Nat.le_of_ble_eq_true rfl⟩, ⟨_, _, rfl, rfl, Nat.le_of_ble_eq_true rfl⟩, ⟨_, _, rfl, rfl, Nat.le_of_ble_eq_true rfl⟩, trivial⟩) ?_; conv => whnf) | (refine ifB_intro (fun hA => ?_) (fun hA => ?_) <;> (try rw [hA]) <;> (conv => whnf) <;> (first | replace hA := of_decide_eq_true hA | replace hA := of_decide_eq_false hA | replace hA := eq_of_beq hA | replace hA := ne_of_beq_false hA | replace hA := bne_iff_ne.1 hA | replace hA := bne_eq_false_iff_eq.1 hA | skip) <;> (try simp only [List.length_map, cond_true, cond_false, Bool.not_eq_true', Bool.not_eq_false', beq_iff_eq, beq_eq_false_iff_ne, ne_eq] at hA)) | (refine CallP.det (ha) ?_; conv => whnf) | (refine CallD.det (ha) ?_; conv => whnf) | (refine CallP.det (with_ctr g (pre.foldl addP 0#64) v) ?_; conv => whnf) | (refine CallD.det (with_ctr g (pre.foldl addP 0#64) v) ?_; conv => whnf) | (rw [getD_map _ _ _ _ (by assumption)]; conv => whnf))
        exact ⟨fun o h => h, fun o h => h, fun o h => h, trivial⟩
      · have hn := bad x hA hm (by first | exact hat | (rw [hat]; simp))
        rw [atoiV_bad (by first | exact hat | (rw [hat]; intro v hv; cases hv))] at ha
        conv => whnf
        repeat' (first | (refine And.intro (by first | exact rfl | decide | exact Nat.le_of_ble_eq_true rfl | exact ⟨_, rfl⟩ | exact ⟨_, _, rfl⟩ | exact Nat.le_refl _ | exact Int.le_refl _ | omega | (simp only [List.length_map]; omega) | exact True.intro | (simp only [IntKind.wrap_i64, List.length_map]; omega) | (simp only [List.map_cons, List.map_nil, List.length_cons, Option.getD]; omega) | (simp only [bsz, ByteArray.size_append, List.size_toArray, List.length_cons, List.length_nil]; omega) | exact ⟨⟨_, _, rfl, rfl, Nat.le_of_ble_eq_true rfl⟩, trivial⟩ | exact ⟨⟨_, _, rfl, rfl, Nat.le_of_ble_eq_true rfl⟩, ⟨_, _, rfl, rfl, Nat.le_of_ble_eq_true rfl⟩, trivial⟩ | exact ⟨⟨_, _, rfl, rfl, Nat.le_of_ble_eq_true rfl⟩, ⟨_, _, rfl, rfl, Nat.le_of_ble_eq_true rfl⟩, ⟨_, _, rfl, rfl, Nat.le_of_ble_eq_true rfl⟩, trivial⟩) ?_; conv => whnf) | (refine ifB_intro (fun hA => ?_) (fun hA => ?_) <;> (try rw [hA]) <;> (conv => whnf) <;> (first | replace hA := of_decide_eq_true hA | replace hA := of_decide_eq_false hA | replace hA := eq_of_beq hA | replace hA := ne_of_beq_false hA | replace hA := bne_iff_ne.1 hA | replace hA := bne_eq_false_iff_eq.1 hA | skip) <;> (try simp only [List.length_map, cond_true, cond_false, Bool.not_eq_true', Bool.not_eq_false', beq_iff_eq, beq_eq_false_iff_ne, ne_eq] at hA)) | (refine CallP.det (ha) ?_; conv => whnf) | (refine CallD.det (ha) ?_; conv => whnf) | (rw [getD_map _ _ _ _ (by assumption)]; conv => whnf))
        refine ⟨⟨[], ?_⟩⟩
        conv => whnf
        repeat' (first | (refine And.intro (by first | exact rfl | decide | exact Nat.le_of_ble_eq_true rfl | exact ⟨_, rfl⟩ | exact ⟨_, _, rfl⟩ | exact Nat.le_refl _ | exact Int.le_refl _ | omega | (simp only [List.length_map]; omega) | exact True.intro | (simp only [IntKind.wrap_i64, List.length_map]; omega) | (simp only [List.map_cons, List.map_nil, List.length_cons, Option.getD]; omega) | (simp only [bsz, ByteArray.size_append, List.size_toArray, List.length_cons, List.length_nil]; omega) | exact ⟨⟨_, _, rfl, rfl, Nat.le_of_ble_eq_true rfl⟩, trivial⟩ | exact ⟨⟨_, _, rfl, rfl, Nat.le_of_ble_eq_true rfl⟩, ⟨_, _, rfl, rfl, Nat.le_of_ble_eq_true rfl⟩, trivial⟩ | exact ⟨⟨_, _, rfl, rfl, Nat.le_of_ble_eq_true rfl⟩, ⟨_, _, rfl, rfl, Nat.le_of_ble_eq_true rfl⟩, ⟨_, _, rfl, rfl, Nat.le_of_ble_eq_true rfl⟩, trivial⟩) ?_; conv => whnf) | (refine ifB_intro (fun hA => ?_) (fun hA => ?_) <;> (try rw [hA]) <;> (conv => whnf) <;> (first | replace hA := of_decide_eq_true hA | replace hA := of_decide_eq_false hA | replace hA := eq_of_beq hA | replace hA := ne_of_beq_false hA | replace hA := bne_iff_ne.1 hA | replace hA := bne_eq_false_iff_eq.1 hA | skip) <;> (try simp only [List.length_map, cond_true, cond_false, Bool.not_eq_true', Bool.not_eq_false', beq_iff_eq, beq_eq_false_iff_ne, ne_eq] at hA)) | (rw [getD_map _ _ _ _ (by assumption)]; conv => whnf))
        rw [hn]; rfl
      · have hn := bad x hA hm (by first | exact hat | (rw [hat]; simp))
        rw [atoiV_bad (by first | exact hat | (rw [hat]; intro v hv; cases hv))] at ha
        conv => whnf
        repeat' (first | (refine And.intro (by first | exact rfl | decide | exact Nat.le_of_ble_eq_true rfl | exact ⟨_, rfl⟩ | exact ⟨_, _, rfl⟩ | exact Nat.le_refl _ | exact Int.le_refl _ | omega | (simp only [List.length_map]; omega) | exact True.intro | (simp only [IntKind.wrap_i64, List.length_map]; omega) | (simp only [List.map_cons, List.map_nil, List.length_cons, Option.getD]; omega) | (simp only [bsz, ByteArray.size_append, List.size_toArray, List.length_cons, List.length_nil]; omega) | exact ⟨⟨_, _, rfl, rfl, Nat.le_of_ble_eq_true rfl⟩, trivial⟩ | exact ⟨⟨_, _, rfl, rfl, Nat.le_of_ble_eq_true rfl⟩, ⟨_, _, rfl, rfl, Nat.le_of_ble_eq_true rfl⟩, trivial⟩ | exact ⟨⟨_, _, rfl, rfl, Nat.le_of_ble_eq_true rfl⟩, ⟨_, _, rfl, rfl, Nat.le_of_ble_eq_true rfl⟩, ⟨_, _, rfl, rfl, Nat.le_of_ble_eq_true rfl⟩, trivial⟩) ?_; conv => whnf) | (refine ifB_intro (fun hA => ?_) (fun hA => ?_) <;> (try rw [hA]) <;> (conv => whnf) <;> (first | replace hA := of_decide_eq_true hA | replace hA := of_decide_eq_false hA | replace hA := eq_of_beq hA | replace hA := ne_of_beq_false hA | replace hA := bne_iff_ne.1 hA | replace hA := bne_eq_false_iff_eq.1 hA | skip) <;> (try simp only [List.length_map, cond_true, cond_false, Bool.not_eq_true', Bool.not_eq_false', beq_iff_eq, beq_eq_false_iff_ne, ne_eq] at hA)) | (refine CallP.det (ha) ?_; conv => whnf) | (refine CallD.det (ha) ?_; conv => whnf) | (rw [getD_map _ _ _ _ (by assumption)]; conv => whnf))
        refine ⟨⟨[], ?_⟩⟩
        conv => whnf
        repeat' (first | (refine And.intro (by first | exact rfl | decide | exact Nat.le_of_ble_eq_true rfl | exact ⟨_, rfl⟩ | exact ⟨_, _, rfl⟩ | exact Nat.le_refl _ | exact Int.le_refl _ | omega | (simp only [List.length_map]; omega) | exact True.intro | (simp only [IntKind.wrap_i64, List.length_map]; omega) | (simp only [List.map_cons, List.map_nil, List.length_cons, Option.getD]; omega) | (simp only [bsz, ByteArray.size_append, List.size_toArray, List.length_cons, List.length_nil]; omega) | exact ⟨⟨_, _, rfl, rfl, Nat.le_of_ble_eq_true rfl⟩, trivial⟩ | exact ⟨⟨_, _, rfl, rfl, Nat.le_of_ble_eq_true rfl⟩, ⟨_, _, rfl, rfl, Nat.le_of_ble_eq_true rfl⟩, trivial⟩ | exact ⟨⟨_, _, rfl, rfl, Nat.le_of_ble_eq_true rfl⟩, ⟨_, _, rfl, rfl, Nat.le_of_ble_eq_true rfl⟩, ⟨_, _, rfl, rfl, Nat.le_of_ble_eq_true rfl⟩, trivial⟩) ?_; conv => whnf) | (refine ifB_intro (fun hA => ?_) (fun hA => ?_) <;> (try rw [hA]) <;> (conv => whnf) <;> (first | replace hA := of_decide_eq_true hA | replace hA := of_decide_eq_false hA | replace hA := eq_of_beq hA | replace hA := ne_of_beq_false hA | replace hA := bne_iff_ne.1 hA | replace hA := bne_eq_false_iff_eq.1 hA | skip) <;> (try simp only [List.length_map, cond_true, cond_false, Bool.not_eq_true', Bool.not_eq_false', beq_iff_eq, beq_eq_false_iff_ne, ne_eq] at hA)) | (rw [getD_map _ _ _ _ (by assumption)]; conv => whnf))
        rw [hn]; rfl
    · have hinv : invE (splitL 44 l2) = [(2, some (.dvar 1 [.v (.int .u64 0)])), (3, some (.dvar 1 [.v (.bool false)])), (7, some (.dvar 1 [.v (.int .u64 (accB t).toNat)]))] := by unfold invE; rw [hacc]
      rw [hinv]
      conv => whnf
      repeat' (first | (refine And.intro (by first | exact rfl | decide | exact Nat.le_of_ble_eq_true rfl | exact ⟨_, rfl⟩ | exact ⟨_, _, rfl⟩ | exact Nat.le_refl _ | exact Int.le_refl _ | omega | (simp only [List.length_map]; omega) | exact True.intro | (simp only [IntKind.wrap_i64, List.length_map]; omega) | (simp only [List.map_cons, List.map_nil, List.length_cons, Option.getD]; omega) | (simp only [bsz, ByteArray.size_append, List.size_toArray, List.length_cons, List.length_nil]; omega) | exact ⟨⟨_, _, rfl, rfl, Nat.le_of_ble_eq_true rfl⟩, trivial⟩ | exact ⟨⟨_, _, rfl, rfl, Nat.le_of_ble_eq_true rfl⟩, ⟨_, _, rfl, rfl, Nat.le_of_ble_eq_true rfl⟩, trivial⟩ | exact ⟨⟨_, _, rfl, rfl, Nat.le_of_ble_eq_true rfl⟩, ⟨_, _, rfl, rfl, Nat.le_of_ble_eq_true rfl⟩, ⟨_, _, rfl, rfl, Nat.le_of_ble_eq_true rfl⟩, trivial⟩) ?_; conv => whnf) | (refine ifB_intro (fun hA => ?_) (fun hA => ?_) <;> (try rw [hA]) <;> (conv => whnf) <;> (first | replace hA := of_decide_eq_true hA | replace hA := of_decide_eq_false hA | replace hA := eq_of_beq hA | replace hA := ne_of_beq_false hA | replace hA := bne_iff_ne.1 hA | replace hA := bne_eq_false_iff_eq.1 hA | skip) <;> (try simp only [ne_eq] at hA)) | (refine CallP.det (text_ctr g hd hp (accB t)) ?_; conv => whnf) | (refine CallD.det (text_ctr g hd hp (accB t)) ?_; conv => whnf) | (rw [getD_map _ _ _ _ (by assumption)]; conv => whnf))
      · rw [hno hA]
        refine ⟨⟨[], ?_⟩⟩
        conv => whnf
        repeat' (first | (refine And.intro (by first | exact rfl | decide | exact Nat.le_of_ble_eq_true rfl | exact ⟨_, rfl⟩ | exact ⟨_, _, rfl⟩ | exact Nat.le_refl _ | exact Int.le_refl _ | omega | (simp only [List.length_map]; omega) | exact True.intro | (simp only [IntKind.wrap_i64, List.length_map]; omega) | (simp only [List.map_cons, List.map_nil, List.length_cons, Option.getD]; omega) | (simp only [bsz, ByteArray.size_append, List.size_toArray, List.length_cons, List.length_nil]; omega) | exact ⟨⟨_, _, rfl, rfl, Nat.le_of_ble_eq_true rfl⟩, trivial⟩ | exact ⟨⟨_, _, rfl, rfl, Nat.le_of_ble_eq_true rfl⟩, ⟨_, _, rfl, rfl, Nat.le_of_ble_eq_true rfl⟩, trivial⟩ | exact ⟨⟨_, _, rfl, rfl, Nat.le_of_ble_eq_true rfl⟩, ⟨_, _, rfl, rfl, Nat.le_of_ble_eq_true rfl⟩, ⟨_, _, rfl, rfl, Nat.le_of_ble_eq_true rfl⟩, trivial⟩) ?_; conv => whnf) | (refine ifB_intro (fun hA => ?_) (fun hA => ?_) <;> (try rw [hA]) <;> (conv => whnf) <;> (first | replace hA := of_decide_eq_true hA | replace hA := of_decide_eq_false hA | replace hA := eq_of_beq hA | replace hA := ne_of_beq_false hA | replace hA := bne_iff_ne.1 hA | replace hA := bne_eq_false_iff_eq.1 hA | skip) <;> (try simp only [List.length_map, cond_true, cond_false, Bool.not_eq_true', Bool.not_eq_false', beq_iff_eq, beq_eq_false_iff_ne, ne_eq] at hA)) | (rw [getD_map _ _ _ _ (by assumption)]; conv => whnf))
        rfl
      · rw [hyes hA]
        refine ⟨⟨[], ?_⟩⟩
        conv => whnf
        repeat' (first | (refine And.intro (by first | exact rfl | decide | exact Nat.le_of_ble_eq_true rfl | exact ⟨_, rfl⟩ | exact ⟨_, _, rfl⟩ | exact Nat.le_refl _ | exact Int.le_refl _ | omega | (simp only [List.length_map]; omega) | exact True.intro | (simp only [IntKind.wrap_i64, List.length_map]; omega) | (simp only [List.map_cons, List.map_nil, List.length_cons, Option.getD]; omega) | (simp only [bsz, ByteArray.size_append, List.size_toArray, List.length_cons, List.length_nil]; omega) | exact ⟨⟨_, _, rfl, rfl, Nat.le_of_ble_eq_true rfl⟩, trivial⟩ | exact ⟨⟨_, _, rfl, rfl, Nat.le_of_ble_eq_true rfl⟩, ⟨_, _, rfl, rfl, Nat.le_of_ble_eq_true rfl⟩, trivial⟩ | exact ⟨⟨_, _, rfl, rfl, Nat.le_of_ble_eq_true rfl⟩, ⟨_, _, rfl, rfl, Nat.le_of_ble_eq_true rfl⟩, ⟨_, _, rfl, rfl, Nat.le_of_ble_eq_true rfl⟩, trivial⟩) ?_; conv => whnf) | (refine ifB_intro (fun hA => ?_) (fun hA => ?_) <;> (try rw [hA]) <;> (conv => whnf) <;> (first | replace hA := of_decide_eq_true hA | replace hA := of_decide_eq_false hA | replace hA := eq_of_beq hA | replace hA := ne_of_beq_false hA | replace hA := bne_iff_ne.1 hA | replace hA := bne_eq_false_iff_eq.1 hA | skip) <;> (try simp only [List.length_map, cond_true, cond_false, Bool.not_eq_true', Bool.not_eq_false', beq_iff_eq, beq_eq_false_iff_ne, ne_eq] at hA)) | (rw [getD_map _ _ _ _ (by assumption)]; conv => whnf))
        rfl
  · have hacc : accB t = 0#64 := by unfold accB; rw [hin, if_pos hA]
    rw [hacc] at hno hyes
    repeat' (first | (refine And.intro (by first | exact rfl | decide | exact Nat.le_of_ble_eq_true rfl | exact ⟨_, rfl⟩ | exact ⟨_, _, rfl⟩ | exact Nat.le_refl _ | exact Int.le_refl _ | omega | (simp only [List.length_map]; omega) | exact True.intro | (simp only [IntKind.wrap_i64, List.length_map]; omega) | (simp only [List.map_cons, List.map_nil, List.length_cons, Option.getD]; omega) | (simp only [bsz, ByteArray.size_append, List.size_toArray, List.length_cons, List.length_nil]; omega) | exact ⟨⟨_, _, rfl, rfl, Nat.le_of_ble_eq_true rfl⟩, trivial⟩ | exact ⟨⟨_, _, rfl, rfl, Nat.le_of_ble_eq_true rfl⟩, ⟨_, _, rfl, rfl, Nat.le_of_ble_eq_true rfl⟩, trivial⟩ | exact ⟨⟨_, _, rfl, rfl, Nat.le_of_ble_eq_true rfl⟩, ⟨_, _, rfl, rfl, Nat.le_of_ble_eq_true rfl⟩, ⟨_, _, rfl, rfl, Nat.le_of_ble_eq_true rfl⟩, trivial⟩) ?_; conv => whnf) | (refine ifB_intro (fun hA => ?_) (fun hA => ?_) <;> (try rw [hA]) <;> (conv => whnf) <;> (first | replace hA := of_decide_eq_true hA | replace hA := of_decide_eq_false hA | replace hA := eq_of_beq hA | replace hA := ne_of_beq_false hA | replace hA := bne_iff_ne.1 hA | replace hA := bne_eq_false_iff_eq.1 hA | skip) <;> (try simp only [ne_eq] at hA)) | (refine CallP.det (text_ctr g hd hp 0#64) ?_; conv => whnf) | (refine CallD.det (text_ctr g hd hp 0#64) ?_; conv => whnf) | (rw [getD_map _ _ _ _ (by assumption)]; conv => whnf))
    · rw [hno hA]
      refine ⟨⟨[], ?_⟩⟩
      conv => whnf
      repeat' (first | (refine And.intro (by first | exact rfl | decide | exact Nat.le_of_ble_eq_true rfl | exact ⟨_, rfl⟩ | exact ⟨_, _, rfl⟩ | exact Nat.le_refl _ | exact Int.le_refl _ | omega | (simp only [List.length_map]; omega) | exact True.intro | (simp only [IntKind.wrap_i64, List.length_map]; omega) | (simp only [List.map_cons, List.map_nil, List.length_cons, Option.getD]; omega) | (simp only [bsz, ByteArray.size_append, List.size_toArray, List.length_cons, List.length_nil]; omega) | exact ⟨⟨_, _, rfl, rfl, Nat.le_of_ble_eq_true rfl⟩, trivial⟩ | exact ⟨⟨_, _, rfl, rfl, Nat.le_of_ble_eq_true rfl⟩, ⟨_, _, rfl, rfl, Nat.le_of_ble_eq_true rfl⟩, trivial⟩ | exact ⟨⟨_, _, rfl, rfl, Nat.le_of_ble_eq_true rfl⟩, ⟨_, _, rfl, rfl, Nat.le_of_ble_eq_true rfl⟩, ⟨_, _, rfl, rfl, Nat.le_of_ble_eq_true rfl⟩, trivial⟩) ?_; conv => whnf) | (refine ifB_intro (fun hA => ?_) (fun hA => ?_) <;> (try rw [hA]) <;> (conv => whnf) <;> (first | replace hA := of_decide_eq_true hA | replace hA := of_decide_eq_false hA | replace hA := eq_of_beq hA | replace hA := ne_of_beq_false hA | replace hA := bne_iff_ne.1 hA | replace hA := bne_eq_false_iff_eq.1 hA | skip) <;> (try simp only [List.length_map, cond_true, cond_false, Bool.not_eq_true', Bool.not_eq_false', beq_iff_eq, beq_eq_false_iff_ne, ne_eq] at hA)) | (rw [getD_map _ _ _ _ (by assumption)]; conv => whnf))
      rfl
    · rw [hyes hA]
      refine ⟨⟨[], ?_⟩⟩
      conv => whnf
      repeat' (first | (refine And.intro (by first | exact rfl | decide | exact Nat.le_of_ble_eq_true rfl | exact ⟨_, rfl⟩ | exact ⟨_, _, rfl⟩ | exact Nat.le_refl _ | exact Int.le_refl _ | omega | (simp only [List.length_map]; omega) | exact True.intro | (simp only [IntKind.wrap_i64, List.length_map]; omega) | (simp only [List.map_cons, List.map_nil, List.length_cons, Option.getD]; omega) | (simp only [bsz, ByteArray.size_append, List.size_toArray, List.length_cons, List.length_nil]; omega) | exact ⟨⟨_, _, rfl, rfl, Nat.le_of_ble_eq_true rfl⟩, trivial⟩ | exact ⟨⟨_, _, rfl, rfl, Nat.le_of_ble_eq_true rfl⟩, ⟨_, _, rfl, rfl, Nat.le_of_ble_eq_true rfl⟩, trivial⟩ | exact ⟨⟨_, _, rfl, rfl, Nat.le_of_ble_eq_true rfl⟩, ⟨_, _, rfl, rfl, Nat.le_of_ble_eq_true rfl⟩, ⟨_, _, rfl, rfl, Nat.le_of_ble_eq_true rfl⟩, trivial⟩) ?_; conv => whnf) | (refine ifB_intro (fun hA => ?_) (fun hA => ?_) <;> (try rw [hA]) <;> (conv => whnf) <;> (first | replace hA := of_decide_eq_true hA | replace hA := of_decide_eq_false hA | replace hA := eq_of_beq hA | replace hA := ne_of_beq_false hA | replace hA := bne_iff_ne.1 hA | replace hA := bne_eq_false_iff_eq.1 hA | skip) <;> (try simp only [List.length_map, cond_true, cond_false, Bool.not_eq_true', Bool.not_eq_false', beq_iff_eq, beq_eq_false_iff_ne, ne_eq] at hA)) | (rw [getD_map _ _ _ _ (by assumption)]; conv => whnf))
      rfl
end Go.Ax
