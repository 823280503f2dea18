import Derived.Test.YtjokajidcojlmaaDoorEAxKa

/- Packets: library functions of texts: Cut, Trim of digits, ParseUint. -/
namespace Go.Ax
open Go.Proofs Go.RowKit Go.Shelf Go.Lib
set_option maxRecDepth 10000

/-! ### strings.Cut by one byte -/
theorem sindex1_ctr (g : GP) (s : ByteArray) (c : UInt8) : Ctr (ax g).E 171 [.str s, .str ⟨#[c]⟩] [] fun o => o = .ret (.i64 (Lib.indexByte s.data.toList c)) [] :=
  Ctr.ofVal (E := (ax g).E) (f := 171) (xs := [.string s, .string ⟨#[c]⟩]) ⟨_, Tryd.func171, rfl, by decide +kernel⟩ rfl fun w _ => (Tryd.stringslite_Index_one s c w).mono fun e w' ⟨h1, h2⟩ => ⟨h1, by rw [h2]; exact Below.refl _ _⟩
def cutV (c : UInt8) (l : List UInt8) : AV := if Lib.indexByte l c = -1 then .tup [.str (baL l), .str ⟨#[]⟩, .bool false] else .tup [.str (baL (l.take (Lib.indexByte l c).toNat)), .str (baL (l.drop ((Lib.indexByte l c).toNat + 1))), .bool true]
theorem scut_ctr (g : GP) (s : ByteArray) (c : UInt8) (hs : s.size < 2 ^ 62) : Ctr (ax g).E 148 [.str s, .str ⟨#[c]⟩] [] fun o => o = .ret (cutV c s.data.toList) [] := by
  have hi := sindex1_ctr g s c
  have hl : s.data.toList.length = s.size := by rw [Array.length_toList]; rfl
  unfold cutV
  rcases index_one c s.data.toList with ⟨h1, h2⟩ | ⟨n, h1, h2, h3⟩ <;> rw [Go.Lib.index_one] at h1
  · rw [h1] at hi ⊢
    refine Ctr.body (X := ax g) _ 23 [] [.tmp 4, .tmp 5, .tmp 6] Tryd.func148 rfl rfl rfl rfl (by decide +kernel) rfl rfl ?_
    conv => whnf
    repeat' (first | (refine And.intro (by first | exact rfl | decide | exact Nat.le_of_ble_eq_true rfl | exact ⟨_, rfl⟩ | exact ⟨_, _, rfl⟩ | exact Nat.le_refl _ | exact Int.le_refl _ | omega | (simp only [List.length_map]; omega) | exact True.intro | (simp only [IntKind.wrap_i64, List.length_map]; omega) | (simp only [List.map_cons, List.map_nil, List.length_cons, Option.getD]; omega) | (simp only [bsz, ByteArray.size_append, List.size_toArray, List.length_cons, List.length_nil]; omega) | exact ⟨⟨_, _, rfl, rfl, Nat.le_of_ble_eq_true rfl⟩, trivial⟩ | exact ⟨⟨_, _, rfl, rfl, Nat.le_of_ble_eq_true rfl⟩, ⟨_, _, rfl, rfl, Nat.le_of_ble_eq_true rfl⟩, trivial⟩ | exact ⟨⟨_, _, rfl, rfl, Nat.le_of_ble_eq_true rfl⟩, ⟨_, _, rfl, rfl, Nat.le_of_ble_eq_true rfl⟩, ⟨_, _, rfl, rfl, Nat.le_of_ble_eq_true rfl⟩, trivial⟩) ?_; conv => whnf) | (refine ifB_intro (fun hA => ?_) (fun hA => ?_) <;> (try rw [hA]) <;> (conv => whnf) <;> (first | replace hA := of_decide_eq_true hA | replace hA := of_decide_eq_false hA | replace hA := eq_of_beq hA | replace hA := ne_of_beq_false hA | replace hA := bne_iff_ne.1 hA | replace hA := bne_eq_false_iff_eq.1 hA | skip) <;> (try simp only [List.length_map, cond_true, cond_false, Bool.not_eq_true', Bool.not_eq_false', beq_iff_eq, beq_eq_false_iff_ne, ne_eq] at hA)) | (refine CallP.det (hi) ?_; conv => whnf) | (refine CallD.det (hi) ?_; conv => whnf) | (rw [getD_map _ _ _ _ (by assumption)]; conv => whnf))
    refine ⟨⟨[], ?_⟩⟩
    conv => whnf
    rw [if_pos rfl, ba_of]
  · rw [h1] at hi ⊢
    have hw1 : IntKind.i64.wrap ((n : Int) + ((⟨#[c]⟩ : ByteArray).size : Int)) = ((n + 1 : Nat) : Int) := by rw [show ((⟨#[c]⟩ : ByteArray).size : Int) = 1 from rfl, IntKind.wrap_i64]; omega
    refine Ctr.body (X := ax g) _ 23 [] [.tmp 4, .tmp 5, .tmp 6] Tryd.func148 rfl rfl rfl rfl (by decide +kernel) rfl rfl ?_
    conv => whnf
    repeat' (first | (refine And.intro (by first | exact rfl | decide | exact Nat.le_of_ble_eq_true rfl | exact ⟨_, rfl⟩ | exact ⟨_, _, rfl⟩ | exact Nat.le_refl _ | exact Int.le_refl _ | omega | (simp only [List.length_map]; omega) | exact True.intro | (simp only [IntKind.wrap_i64]; omega) | (simp only [Option.getD]; omega) | (simp only [bsz, ByteArray.size_append, List.size_toArray, List.length_cons, List.length_nil]; omega) | exact ⟨⟨_, _, rfl, rfl, Nat.le_of_ble_eq_true rfl⟩, trivial⟩ | exact ⟨⟨_, _, rfl, rfl, Nat.le_of_ble_eq_true rfl⟩, ⟨_, _, rfl, rfl, Nat.le_of_ble_eq_true rfl⟩, trivial⟩ | exact ⟨⟨_, _, rfl, rfl, Nat.le_of_ble_eq_true rfl⟩, ⟨_, _, rfl, rfl, Nat.le_of_ble_eq_true rfl⟩, ⟨_, _, rfl, rfl, Nat.le_of_ble_eq_true rfl⟩, trivial⟩) ?_; conv => whnf) | (refine ifB_intro (fun hA => ?_) (fun hA => ?_) <;> (try rw [hA]) <;> (conv => whnf) <;> (first | replace hA := of_decide_eq_true hA | replace hA := of_decide_eq_false hA | replace hA := eq_of_beq hA | replace hA := ne_of_beq_false hA | replace hA := bne_iff_ne.1 hA | replace hA := bne_eq_false_iff_eq.1 hA | skip) <;> (try simp only [List.length_map, cond_true, cond_false, Bool.not_eq_true', Bool.not_eq_false', beq_iff_eq, beq_eq_false_iff_ne, ne_eq] at hA)) | (refine CallP.det (hi) ?_; conv => whnf) | (refine CallD.det (hi) ?_; conv => whnf) | (refine DrawP.intro (X := ax g) (id := 3) B148_3 (by kernel_rfl) (by decide +kernel) ?_; conv => whnf) | (rw [hw1]; conv => whnf) | (exfalso; omega) | (refine And.intro (show (0 : Int) ≤ (n : Int) by omega) ?_; conv => whnf) | (refine And.intro (show (n : Int) ≤ (s.size : Int) by omega) ?_; conv => whnf) | (refine And.intro (show ((n + 1 : Nat) : Int) ≤ (s.size : Int) by omega) ?_; conv => whnf) | (rw [getD_map _ _ _ _ (by assumption)]; conv => whnf))
    have e1 : s.extract ((none : Option Int).getD 0).toNat ((some (n : Int)).getD ((s.size : Nat) : Int)).toNat = baL (s.data.toList.take n) := by rw [← sub_take (by omega)]; rfl
    have e2 : s.extract ((some (((n + 1 : Nat) : Int))).getD 0).toNat ((none : Option Int).getD ((s.size : Nat) : Int)).toNat = baL (s.data.toList.drop (n + 1)) := by rw [← sub_drop]; rfl
    refine ⟨⟨[], ?_⟩⟩
    conv => whnf
    rw [if_neg (by omega), e1, e2]
    rfl
theorem cut_ctr (g : GP) (s : ByteArray) (c : UInt8) (hs : s.size < 2 ^ 62) : Ctr (ax g).E 114 [.str s, .str ⟨#[c]⟩] [] fun o => o = .ret (cutV c s.data.toList) [] := by
  have h := scut_ctr g s c hs
  unfold cutV at h ⊢
  split at h <;> rename_i hc
  · rw [if_pos hc]
    refine Ctr.body (X := ax g) _ 13 [] [.tmp 4, .tmp 5, .tmp 6] Tryd.func114 rfl rfl rfl rfl (by decide +kernel) rfl rfl ?_
    conv => whnf
    repeat' (first | (refine And.intro (by first | exact rfl | decide | exact Nat.le_of_ble_eq_true rfl | exact ⟨_, rfl⟩ | exact ⟨_, _, rfl⟩ | exact Nat.le_refl _ | exact Int.le_refl _ | omega | (simp only [List.length_map]; omega) | exact True.intro | (simp only [IntKind.wrap_i64, List.length_map]; omega) | (simp only [List.map_cons, List.map_nil, List.length_cons, Option.getD]; omega) | (simp only [bsz, ByteArray.size_append, List.size_toArray, List.length_cons, List.length_nil]; omega) | exact ⟨⟨_, _, rfl, rfl, Nat.le_of_ble_eq_true rfl⟩, trivial⟩ | exact ⟨⟨_, _, rfl, rfl, Nat.le_of_ble_eq_true rfl⟩, ⟨_, _, rfl, rfl, Nat.le_of_ble_eq_true rfl⟩, trivial⟩ | exact ⟨⟨_, _, rfl, rfl, Nat.le_of_ble_eq_true rfl⟩, ⟨_, _, rfl, rfl, Nat.le_of_ble_eq_true rfl⟩, ⟨_, _, rfl, rfl, Nat.le_of_ble_eq_true rfl⟩, trivial⟩) ?_; conv => whnf) | (refine ifB_intro (fun hA => ?_) (fun hA => ?_) <;> (try rw [hA]) <;> (conv => whnf) <;> (first | replace hA := of_decide_eq_true hA | replace hA := of_decide_eq_false hA | replace hA := eq_of_beq hA | replace hA := ne_of_beq_false hA | replace hA := bne_iff_ne.1 hA | replace hA := bne_eq_false_iff_eq.1 hA | skip) <;> (try simp only [List.length_map, cond_true, cond_false, Bool.not_eq_true', Bool.not_eq_false', beq_iff_eq, beq_eq_false_iff_ne, ne_eq] at hA)) | (refine CallP.det (h) ?_; conv => whnf) | (refine CallD.det (h) ?_; conv => whnf) | (rw [getD_map _ _ _ _ (by assumption)]; conv => whnf))
    refine ⟨⟨[], ?_⟩⟩
    conv => whnf
  · rw [if_neg hc]
    refine Ctr.body (X := ax g) _ 13 [] [.tmp 4, .tmp 5, .tmp 6] Tryd.func114 rfl rfl rfl rfl (by decide +kernel) rfl rfl ?_
    conv => whnf
    repeat' (first | (refine And.intro (by first | exact rfl | decide | exact Nat.le_of_ble_eq_true rfl | exact ⟨_, rfl⟩ | exact ⟨_, _, rfl⟩ | exact Nat.le_refl _ | exact Int.le_refl _ | omega | (simp only [List.length_map]; omega) | exact True.intro | (simp only [IntKind.wrap_i64, List.length_map]; omega) | (simp only [List.map_cons, List.map_nil, List.length_cons, Option.getD]; omega) | (simp only [bsz, ByteArray.size_append, List.size_toArray, List.length_cons, List.length_nil]; omega) | exact ⟨⟨_, _, rfl, rfl, Nat.le_of_ble_eq_true rfl⟩, trivial⟩ | exact ⟨⟨_, _, rfl, rfl, Nat.le_of_ble_eq_true rfl⟩, ⟨_, _, rfl, rfl, Nat.le_of_ble_eq_true rfl⟩, trivial⟩ | exact ⟨⟨_, _, rfl, rfl, Nat.le_of_ble_eq_true rfl⟩, ⟨_, _, rfl, rfl, Nat.le_of_ble_eq_true rfl⟩, ⟨_, _, rfl, rfl, Nat.le_of_ble_eq_true rfl⟩, trivial⟩) ?_; conv => whnf) | (refine ifB_intro (fun hA => ?_) (fun hA => ?_) <;> (try rw [hA]) <;> (conv => whnf) <;> (first | replace hA := of_decide_eq_true hA | replace hA := of_decide_eq_false hA | replace hA := eq_of_beq hA | replace hA := ne_of_beq_false hA | replace hA := bne_iff_ne.1 hA | replace hA := bne_eq_false_iff_eq.1 hA | skip) <;> (try simp only [List.length_map, cond_true, cond_false, Bool.not_eq_true', Bool.not_eq_false', beq_iff_eq, beq_eq_false_iff_ne, ne_eq] at hA)) | (refine CallP.det (h) ?_; conv => whnf) | (refine CallD.det (h) ?_; conv => whnf) | (rw [getD_map _ _ _ _ (by assumption)]; conv => whnf))
    refine ⟨⟨[], ?_⟩⟩
    conv => whnf

/-! ### strings.Trim of digits -/
def digB10 : ByteArray := ⟨#[48, 49, 50, 51, 52, 53, 54, 55, 56, 57]⟩
def digC (i : Nat) : List D := (List.range 256).map fun c => .v (.bool (decide (48 ≤ c) && decide (c < 48 + i)))
theorem digC_len (i : Nat) : (digC i).length = 256 := by simp [digC]
theorem digC_get (i c : Nat) (h : c < 256) : (digC i).getD c (.v undef) = .v (.bool (decide (48 ≤ c) && decide (c < 48 + i))) := by
  unfold digC; simp [List.getD, h]
theorem digC_set (i : Nat) (hi : i < 10) : (digC i).set (48 + i) (.v (.bool true)) = digC (i + 1) := by
  apply List.ext_getElem
  · simp [digC]
  · intro c h1 h2
    have hc : c < 256 := by simpa [digC] using h2
    rw [List.getElem_set]
    by_cases h : 48 + i = c
    · subst h; simp [digC]
    · rw [if_neg h]
      simp only [digC, List.getElem_map, List.getElem_range]
      congr 3
      rw [Bool.eq_iff_iff]; simp; omega
theorem digC_zero : digC 0 = List.map D.v (List.replicate 256 (.bool false)) := by
  apply List.ext_getElem
  · simp [digC]
  · intro c h1 h2
    simp only [digC, List.getElem_map, List.getElem_range, List.getElem_replicate]
    congr 2
    rw [Bool.eq_false_iff]; simp
theorem splice_one {α : Type} (l : List α) (x : α) (i : Nat) (h : i < l.length) : splice l [x] i = l.set i x := by
  unfold splice
  rw [List.set_eq_take_append_cons_drop, if_pos h]
  simp
theorem set_ctr (g : GP) : Ctr (ax g).E 174 [.str digB10] [] fun o => o = .ret (.tup [.dagg (digC 10), .bool true]) [] := by
  refine Ctr.body (X := ax g) _ 21 [] [.cell 2 215, .tmp 3] Tryd.func174 rfl rfl rfl rfl (by decide +kernel) rfl rfl ?_
  conv => whnf
  refine LoopP.inv (X := ax g) (fun i : Nat => { f := [(0, .str digB10), (2, .ptr 2 0), (3, .bool false), (4, .i64 i)], h := [(2, some (.dvar 256 (digC i)))] }) (fun i => i ≤ 10) (fun i => 10 - i) 0 (Nat.zero_le _) ⟨⟨rfl, rfl, rfl, rfl, trivial⟩, ⟨fun o h => ?_, trivial⟩⟩ fun i hi => ?_
  · rw [← h, digC_zero]; rfl
  have hby : ∀ i : Nat, i < 10 → byteAt digB10 ((i : Nat) : Int) = ((48 + i : Nat) : Int) := by decide
  conv => whnf
  refine ifB_intro (fun h => ?_) (fun h => ?_)
  · have h : i < 10 := by have h0 := of_decide_eq_true h; have : (digB10.size : Int) = 10 := rfl; omega
    have hb := hby i h
    conv => whnf
    repeat' (first | (refine And.intro (by first | exact rfl | decide | exact Nat.le_of_ble_eq_true rfl | exact ⟨_, rfl⟩ | exact ⟨_, _, rfl⟩ | exact Nat.le_refl _ | exact Int.le_refl _ | omega | (simp only []; omega) | exact True.intro | (simp only [IntKind.wrap_i64, List.length_map]; omega) | (simp only [List.map_cons, List.map_nil, List.length_cons, Option.getD]; omega) | (simp only [bsz, ByteArray.size_append, List.size_toArray, List.length_cons, List.length_nil]; omega) | exact ⟨⟨_, _, rfl, rfl, Nat.le_of_ble_eq_true rfl⟩, trivial⟩ | exact ⟨⟨_, _, rfl, rfl, Nat.le_of_ble_eq_true rfl⟩, ⟨_, _, rfl, rfl, Nat.le_of_ble_eq_true rfl⟩, trivial⟩ | exact ⟨⟨_, _, rfl, rfl, Nat.le_of_ble_eq_true rfl⟩, ⟨_, _, rfl, rfl, Nat.le_of_ble_eq_true rfl⟩, ⟨_, _, rfl, rfl, Nat.le_of_ble_eq_true rfl⟩, trivial⟩) ?_; conv => whnf) | (refine ifB_intro (fun hA => ?_) (fun hA => ?_) <;> (try rw [hA]) <;> (conv => whnf) <;> (first | replace hA := of_decide_eq_true hA | replace hA := of_decide_eq_false hA | replace hA := eq_of_beq hA | replace hA := ne_of_beq_false hA | replace hA := bne_iff_ne.1 hA | replace hA := bne_eq_false_iff_eq.1 hA | skip) <;> (try simp only [List.length_map, cond_true, cond_false, Bool.not_eq_true', Bool.not_eq_false', beq_iff_eq, beq_eq_false_iff_ne, ne_eq] at hA)) | (refine And.intro (show (i : Int) < (digB10.size : Int) from by have : (digB10.size : Int) = 10 := rfl; omega) ?_; conv => whnf) | (rw [hb]; conv => whnf) | (exfalso; omega) | (rw [getD_map _ _ _ _ (by assumption)]; conv => whnf))
    have hs : splice (digC i) [D.v (.bool true)] (0 + ((48 + i : Nat) : Int).toNat * 1) = digC (i + 1) := by
      rw [splice_one _ _ _ (by rw [digC_len]; omega), ← digC_set i h]
      congr 1
      omega
    exact ⟨i + 1, by omega, by omega, ⟨⟨rfl, rfl, rfl, AV.int_eq (i64_succ (by omega)), trivial⟩, ⟨fun o h' => by rw [← h', ← hs]; rfl, trivial⟩⟩⟩
  · have h : i = 10 := by have h0 := of_decide_eq_false h; have : (digB10.size : Int) = 10 := rfl; omega
    subst h
    conv => whnf
    repeat' (first | (refine And.intro (by first | exact rfl | decide | exact Nat.le_of_ble_eq_true rfl | exact ⟨_, rfl⟩ | exact ⟨_, _, rfl⟩ | exact Nat.le_refl _ | exact Int.le_refl _ | omega | (simp only [List.length_map]; omega) | exact True.intro | (simp only [IntKind.wrap_i64, List.length_map]; omega) | (simp only [List.map_cons, List.map_nil, List.length_cons, Option.getD]; omega) | (simp only [bsz, ByteArray.size_append, List.size_toArray, List.length_cons, List.length_nil]; omega) | exact ⟨⟨_, _, rfl, rfl, Nat.le_of_ble_eq_true rfl⟩, trivial⟩ | exact ⟨⟨_, _, rfl, rfl, Nat.le_of_ble_eq_true rfl⟩, ⟨_, _, rfl, rfl, Nat.le_of_ble_eq_true rfl⟩, trivial⟩ | exact ⟨⟨_, _, rfl, rfl, Nat.le_of_ble_eq_true rfl⟩, ⟨_, _, rfl, rfl, Nat.le_of_ble_eq_true rfl⟩, ⟨_, _, rfl, rfl, Nat.le_of_ble_eq_true rfl⟩, trivial⟩) ?_; conv => whnf) | (refine ifB_intro (fun hA => ?_) (fun hA => ?_) <;> (try rw [hA]) <;> (conv => whnf) <;> (first | replace hA := of_decide_eq_true hA | replace hA := of_decide_eq_false hA | replace hA := eq_of_beq hA | replace hA := ne_of_beq_false hA | replace hA := bne_iff_ne.1 hA | replace hA := bne_eq_false_iff_eq.1 hA | skip) <;> (try simp only [List.length_map, cond_true, cond_false, Bool.not_eq_true', Bool.not_eq_false', beq_iff_eq, beq_eq_false_iff_ne, ne_eq] at hA)) | (refine And.intro (show 0 + 256 ≤ (digC 10).length by rw [digC_len]; omega) ?_; conv => whnf) | (rw [getD_map _ _ _ _ (by assumption)]; conv => whnf))
    have hct : cut 0 256 (digC 10) = digC 10 := by
      unfold cut
      rw [List.drop_zero, List.take_of_length_le (by rw [digC_len]; omega)]
    refine ⟨⟨[], ?_⟩⟩
    conv => whnf
    repeat' (first | (refine And.intro (by first | exact rfl | decide | exact Nat.le_of_ble_eq_true rfl | exact ⟨_, rfl⟩ | exact ⟨_, _, rfl⟩ | exact Nat.le_refl _ | exact Int.le_refl _ | omega | (simp only [List.length_map]; omega) | exact True.intro | (simp only [IntKind.wrap_i64, List.length_map]; omega) | (simp only [List.map_cons, List.map_nil, List.length_cons, Option.getD]; omega) | (simp only [bsz, ByteArray.size_append, List.size_toArray, List.length_cons, List.length_nil]; omega) | exact ⟨⟨_, _, rfl, rfl, Nat.le_of_ble_eq_true rfl⟩, trivial⟩ | exact ⟨⟨_, _, rfl, rfl, Nat.le_of_ble_eq_true rfl⟩, ⟨_, _, rfl, rfl, Nat.le_of_ble_eq_true rfl⟩, trivial⟩ | exact ⟨⟨_, _, rfl, rfl, Nat.le_of_ble_eq_true rfl⟩, ⟨_, _, rfl, rfl, Nat.le_of_ble_eq_true rfl⟩, ⟨_, _, rfl, rfl, Nat.le_of_ble_eq_true rfl⟩, trivial⟩) ?_; conv => whnf) | (refine ifB_intro (fun hA => ?_) (fun hA => ?_) <;> (try rw [hA]) <;> (conv => whnf) <;> (first | replace hA := of_decide_eq_true hA | replace hA := of_decide_eq_false hA | replace hA := eq_of_beq hA | replace hA := ne_of_beq_false hA | replace hA := bne_iff_ne.1 hA | replace hA := bne_eq_false_iff_eq.1 hA | skip) <;> (try simp only [List.length_map, cond_true, cond_false, Bool.not_eq_true', Bool.not_eq_false', beq_iff_eq, beq_eq_false_iff_ne, ne_eq] at hA)) | (rw [hct]; conv => whnf) | (rw [getD_map _ _ _ _ (by assumption)]; conv => whnf))
    rw [hct]
theorem byteAt_ba (l : List UInt8) (i : Nat) (h : i < l.length) : byteAt (baL l) ((i : Nat) : Int) = (l[i].toNat : Int) := by
  have hs : i < (baL l).size := by show i < l.toArray.size; simpa using h
  unfold byteAt
  rw [Int.toNat_natCast, dif_pos hs]
  rfl
theorem ba_size (l : List UInt8) : (baL l).size = l.length := by show l.toArray.size = _; simp
theorem contains_ctr' (g : GP) (c : UInt8) : Ctr (ax g).E 205 [.ptr 9300 0, .d (.v (.int .u8 c.toNat))] [(9300, some (.dvar 256 (digC 10)))] fun o => o = .ret (.bool (isD c)) [(9300, some (.dvar 256 (digC 10)))] := by
  have hc := c.toNat_lt
  have hg : (digC 10).getD (0 + (c.toNat : Int).toNat * 1) (.v undef) = .v (.bool (isD c)) := by
    rw [show 0 + (c.toNat : Int).toNat * 1 = c.toNat from by omega, digC_get 10 c.toNat (by omega)]
    unfold isD
    congr 3
    rw [Bool.eq_iff_iff]; simp; omega
  refine Ctr.body (X := ax g) _ 10 [9300] [.tmp 4] Tryd.func205 rfl rfl rfl rfl (by decide +kernel) rfl rfl ?_
  conv => whnf
  repeat' (first | (refine And.intro (by first | exact rfl | decide | exact Nat.le_of_ble_eq_true rfl | exact ⟨_, rfl⟩ | exact ⟨_, _, rfl⟩ | exact Nat.le_refl _ | exact Int.le_refl _ | omega | (simp only []; omega) | exact True.intro | (simp only []; omega) | (simp only []; omega) | (simp only []; omega) | exact ⟨⟨_, _, rfl, rfl, Nat.le_of_ble_eq_true rfl⟩, trivial⟩ | exact ⟨⟨_, _, rfl, rfl, Nat.le_of_ble_eq_true rfl⟩, ⟨_, _, rfl, rfl, Nat.le_of_ble_eq_true rfl⟩, trivial⟩ | exact ⟨⟨_, _, rfl, rfl, Nat.le_of_ble_eq_true rfl⟩, ⟨_, _, rfl, rfl, Nat.le_of_ble_eq_true rfl⟩, ⟨_, _, rfl, rfl, Nat.le_of_ble_eq_true rfl⟩, trivial⟩) ?_; conv => whnf) | (refine ifB_intro (fun hA => ?_) (fun hA => ?_) <;> (try rw [hA]) <;> (conv => whnf) <;> (first | replace hA := of_decide_eq_true hA | replace hA := of_decide_eq_false hA | replace hA := eq_of_beq hA | replace hA := ne_of_beq_false hA | replace hA := bne_iff_ne.1 hA | replace hA := bne_eq_false_iff_eq.1 hA | skip) <;> (try simp only [List.length_map, cond_true, cond_false, Bool.not_eq_true', Bool.not_eq_false', beq_iff_eq, beq_eq_false_iff_ne, ne_eq] at hA)) | (refine And.intro (show 0 + (c.toNat : Int).toNat * 1 + 1 ≤ (digC 10).length by rw [digC_len]; omega) ?_; conv => whnf) | (rw [hg]; conv => whnf) | (rw [getD_map _ _ _ _ (by assumption)]; conv => whnf))
  refine ⟨⟨[(9300, some (.dvar 256 (digC 10)))], ?_⟩⟩
  conv => whnf
  refine And.intro ⟨fun o h => h, trivial⟩ ?_
  conv => whnf

def trimR (l : List UInt8) : List UInt8 := (l.reverse.dropWhile isD).reverse
theorem trimR_snoc (l : List UInt8) (c : UInt8) : trimR (l ++ [c]) = if isD c then trimR l else l ++ [c] := by
  unfold trimR
  rw [List.reverse_append, List.reverse_singleton, List.singleton_append, List.dropWhile_cons]
  split
  · rfl
  · simp
theorem trimRight_ctr (g : GP) (l : List UInt8) (hl : l.length < 2 ^ 62) : Ctr (ax g).E 176 [.str (baL l), .ptr 9300 0] [(9300, some (.dvar 256 (digC 10)))] fun o => o = .ret (.str (baL (trimR l))) [(9300, some (.dvar 256 (digC 10)))] := by
  refine Ctr.body (X := ax g) _ 22 [9300] [.tmp 4] Tryd.func176 rfl rfl rfl rfl (by decide +kernel) rfl rfl ?_
  conv => whnf
  refine LoopP.inv (X := ax g) (fun m : List UInt8 => { f := [(0, .str (baL m)), (1, .ptr 9300 0)], h := [(9300, some (.dvar 256 (digC 10)))] }) (fun m => m.length ≤ l.length ∧ trimR l = trimR m) (fun m => m.length) l ⟨Nat.le_refl _, rfl⟩ ⟨⟨rfl, rfl, trivial⟩, ⟨fun o h => h, trivial⟩⟩ fun m ⟨hm, he⟩ => ?_
  have hms := ba_size m
  conv => whnf
  refine ifB_intro (fun h => ?_) (fun h => ?_)
  · have h0 : 0 < m.length := by have h0 := of_decide_eq_true h; omega
    obtain ⟨m', c, rfl⟩ : ∃ m' c, m = m' ++ [c] := by
      rcases List.eq_nil_or_concat m with h1 | ⟨m', c, h1⟩
      · rw [h1] at h0; simp at h0
      · exact ⟨m', c, by rw [h1, List.concat_eq_append]⟩
    have hl1 : (m' ++ [c]).length = m'.length + 1 := by simp
    have hw : IntKind.i64.wrap (((baL (m' ++ [c])).size : Int) - 1) = ((m'.length : Nat) : Int) := by rw [hms, hl1, IntKind.wrap_i64]; omega
    have hb : byteAt (baL (m' ++ [c])) ((m'.length : Nat) : Int) = (c.toNat : Int) := by
      rw [byteAt_ba _ _ (by omega)]
      simp
    have e1 : (baL (m' ++ [c])).extract ((none : Option Int).getD 0).toNat ((some ((m'.length : Nat) : Int)).getD (((baL (m' ++ [c])).size : Nat) : Int)).toNat = baL m' := by
      have h5 := sub_take (s := baL (m' ++ [c])) (n := m'.length) (by omega)
      rw [ba_toList, List.take_left] at h5
      rw [← h5]; rfl
    have hc := contains_ctr' g c
    rw [trimR_snoc] at he
    conv => whnf
    repeat' (first | (refine And.intro (by first | exact rfl | decide | exact Nat.le_of_ble_eq_true rfl | exact ⟨_, rfl⟩ | exact ⟨_, _, rfl⟩ | exact Nat.le_refl _ | exact Int.le_refl _ | omega | (simp only [List.length_map]; omega) | exact True.intro | (simp only [IntKind.wrap_i64]; omega) | (simp only [Option.getD]; omega) | (simp only [bsz, ByteArray.size_append, List.size_toArray, List.length_cons, List.length_nil]; omega) | exact ⟨⟨_, _, rfl, rfl, Nat.le_of_ble_eq_true rfl⟩, trivial⟩ | exact ⟨⟨_, _, rfl, rfl, Nat.le_of_ble_eq_true rfl⟩, ⟨_, _, rfl, rfl, Nat.le_of_ble_eq_true rfl⟩, trivial⟩ | exact ⟨⟨_, _, rfl, rfl, Nat.le_of_ble_eq_true rfl⟩, ⟨_, _, rfl, rfl, Nat.le_of_ble_eq_true rfl⟩, ⟨_, _, rfl, rfl, Nat.le_of_ble_eq_true rfl⟩, trivial⟩) ?_; conv => whnf) | (refine ifB_intro (fun hA => ?_) (fun hA => ?_) <;> (try rw [hA]) <;> (conv => whnf) <;> (first | replace hA := of_decide_eq_true hA | replace hA := of_decide_eq_false hA | replace hA := eq_of_beq hA | replace hA := ne_of_beq_false hA | replace hA := bne_iff_ne.1 hA | replace hA := bne_eq_false_iff_eq.1 hA | skip) <;> (try simp only [Bool.not_eq_true', Bool.not_eq_false'] at hA)) | (rw [hw]; conv => whnf) | (refine And.intro (show (0 : Int) ≤ ((m'.length : Nat) : Int) by omega) ?_; conv => whnf) | (refine And.intro (show ((m'.length : Nat) : Int) < ((baL (m' ++ [c])).size : Int) by omega) ?_; conv => whnf) | (refine And.intro (show ((m'.length : Nat) : Int) ≤ ((baL (m' ++ [c])).size : Int) by omega) ?_; conv => whnf) | (rw [hb]; conv => whnf) | (refine CallP.upd rfl (hc) ?_; conv => whnf) | (refine CallD.upd rfl (hc) ?_; conv => whnf) | (rw [getD_map _ _ _ _ (by assumption)]; conv => whnf))
    · refine ⟨⟨[(9300, some (.dvar 256 (digC 10)))], ?_⟩⟩
      conv => whnf
      refine And.intro ⟨fun o h => h, trivial⟩ ?_
      conv => whnf
      rw [he, if_neg (by rw [hA]; simp)]
    · exact ⟨m', ⟨by omega, by rw [he, if_pos hA]⟩, by omega, ⟨⟨by rw [← e1, ← hw]; rfl, rfl, trivial⟩, ⟨fun o h => h, trivial⟩⟩⟩
  · have h0 : m = [] := by
      have h0 := of_decide_eq_false h
      have : m.length = 0 := by omega
      exact List.eq_nil_of_length_eq_zero this
    subst h0
    conv => whnf
    refine ⟨⟨[(9300, some (.dvar 256 (digC 10)))], ?_⟩⟩
    conv => whnf
    refine And.intro ⟨fun o h => h, trivial⟩ ?_
    conv => whnf
    rw [he]; rfl
theorem trimLeft_ctr (g : GP) (l : List UInt8) (hl : l.length < 2 ^ 62) : Ctr (ax g).E 175 [.str (baL l), .ptr 9300 0] [(9300, some (.dvar 256 (digC 10)))] fun o => o = .ret (.str (baL (l.dropWhile isD))) [(9300, some (.dvar 256 (digC 10)))] := by
  refine Ctr.body (X := ax g) _ 16 [9300] [.tmp 4] Tryd.func175 rfl rfl rfl rfl (by decide +kernel) rfl rfl ?_
  conv => whnf
  refine LoopP.inv (X := ax g) (fun m : List UInt8 => { f := [(0, .str (baL m)), (1, .ptr 9300 0)], h := [(9300, some (.dvar 256 (digC 10)))] }) (fun m => m.length ≤ l.length ∧ l.dropWhile isD = m.dropWhile isD) (fun m => m.length) l ⟨Nat.le_refl _, rfl⟩ ⟨⟨rfl, rfl, trivial⟩, ⟨fun o h => h, trivial⟩⟩ fun m ⟨hm, he⟩ => ?_
  have hms := ba_size m
  conv => whnf
  refine ifB_intro (fun h => ?_) (fun h => ?_)
  · have h0 : 0 < m.length := by have h0 := of_decide_eq_true h; omega
    obtain ⟨c, m', rfl⟩ : ∃ c m', m = c :: m' := by
      cases m with
      | nil => simp at h0
      | cons c m' => exact ⟨c, m', rfl⟩
    have hl1 : (c :: m').length = m'.length + 1 := by simp
    have hb : byteAt (baL (c :: m')) 0 = (c.toNat : Int) := byteAt_ba (c :: m') 0 (by omega)
    have e1 : (baL (c :: m')).extract ((some (1 : Int)).getD 0).toNat ((none : Option Int).getD (((baL (c :: m')).size : Nat) : Int)).toNat = baL m' := by
      have h5 := sub_drop (s := baL (c :: m')) (n := 1)
      rw [ba_toList] at h5
      exact h5
    have hc := contains_ctr' g c
    rw [List.dropWhile_cons] at he
    conv => whnf
    repeat' (first | (refine And.intro (by first | exact rfl | decide | exact Nat.le_of_ble_eq_true rfl | exact ⟨_, rfl⟩ | exact ⟨_, _, rfl⟩ | exact Nat.le_refl _ | exact Int.le_refl _ | omega | (simp only [List.length_map]; omega) | exact True.intro | (simp only [IntKind.wrap_i64, List.length_map]; omega) | (simp only [Option.getD]; omega) | (simp only [bsz, ByteArray.size_append, List.size_toArray, List.length_cons, List.length_nil]; omega) | exact ⟨⟨_, _, rfl, rfl, Nat.le_of_ble_eq_true rfl⟩, trivial⟩ | exact ⟨⟨_, _, rfl, rfl, Nat.le_of_ble_eq_true rfl⟩, ⟨_, _, rfl, rfl, Nat.le_of_ble_eq_true rfl⟩, trivial⟩ | exact ⟨⟨_, _, rfl, rfl, Nat.le_of_ble_eq_true rfl⟩, ⟨_, _, rfl, rfl, Nat.le_of_ble_eq_true rfl⟩, ⟨_, _, rfl, rfl, Nat.le_of_ble_eq_true rfl⟩, trivial⟩) ?_; conv => whnf) | (refine ifB_intro (fun hA => ?_) (fun hA => ?_) <;> (try rw [hA]) <;> (conv => whnf) <;> (first | replace hA := of_decide_eq_true hA | replace hA := of_decide_eq_false hA | replace hA := eq_of_beq hA | replace hA := ne_of_beq_false hA | replace hA := bne_iff_ne.1 hA | replace hA := bne_eq_false_iff_eq.1 hA | skip) <;> (try simp only [Bool.not_eq_true', Bool.not_eq_false'] at hA)) | (refine And.intro (show (0 : Int) < ((baL (c :: m')).size : Int) by omega) ?_; conv => whnf) | (refine And.intro (show (1 : Int) ≤ ((baL (c :: m')).size : Int) by omega) ?_; conv => whnf) | (rw [hb]; conv => whnf) | (refine CallP.upd rfl (hc) ?_; conv => whnf) | (refine CallD.upd rfl (hc) ?_; conv => whnf) | (rw [getD_map _ _ _ _ (by assumption)]; conv => whnf))
    · refine ⟨⟨[(9300, some (.dvar 256 (digC 10)))], ?_⟩⟩
      conv => whnf
      refine And.intro ⟨fun o h => h, trivial⟩ ?_
      conv => whnf
      rw [he, if_neg (by rw [hA]; simp)]
    · exact ⟨m', ⟨by omega, by rw [he, if_pos hA]⟩, by omega, ⟨⟨by rw [← e1]; rfl, rfl, trivial⟩, ⟨fun o h => h, trivial⟩⟩⟩
  · have h0 : m = [] := by
      have h0 := of_decide_eq_false h
      have : m.length = 0 := by omega
      exact List.eq_nil_of_length_eq_zero this
    subst h0
    conv => whnf
    refine ⟨⟨[(9300, some (.dvar 256 (digC 10)))], ?_⟩⟩
    conv => whnf
    refine And.intro ⟨fun o h => h, trivial⟩ ?_
    conv => whnf
    rw [he]; rfl
def trimD (l : List UInt8) : List UInt8 := (trimR l).dropWhile isD
theorem trimR_len (l : List UInt8) : (trimR l).length ≤ l.length := by
  unfold trimR
  have := (List.dropWhile_sublist (l := l.reverse) isD).length_le
  simpa using this
theorem drop_all {l : List UInt8} : (l.dropWhile isD).all isD = true → l.all isD = true := by
  induction l with
  | nil => simp
  | cons c r ih =>
    rw [List.dropWhile_cons]
    split
    · rename_i hc
      intro h
      rw [List.all_cons, hc, ih h]; rfl
    · exact fun h => h
theorem trimD_nil (l : List UInt8) : trimD l = [] ↔ l.all isD = true := by
  unfold trimD
  have h1 : ∀ x : List UInt8, x.dropWhile isD = [] ↔ x.all isD = true := fun x => by
    constructor
    · intro h; exact drop_all (by rw [h]; rfl)
    · intro h
      induction x with
      | nil => rfl
      | cons c r ih =>
        rw [List.all_cons, Bool.and_eq_true] at h
        rw [List.dropWhile_cons, if_pos h.1]; exact ih h.2
  rw [h1]
  unfold trimR
  rw [List.all_reverse]
  constructor
  · intro h; have := drop_all h; rwa [List.all_reverse] at this
  · intro h
    have : l.reverse.dropWhile isD = [] := (h1 _).2 (by rw [List.all_reverse]; exact h)
    rw [this]; rfl
theorem trim_ctr (g : GP) (l : List UInt8) (hl : l.length < 2 ^ 62) : Ctr (ax g).E 149 [.str (baL l), .str digB10] [] fun o => o = .ret (.str (baL (trimD l))) [] := by
  have h1 := (trimRight_ctr g l hl).swap 5 9300
  have h2 := (trimLeft_ctr g (trimR l) (by have := trimR_len l; omega)).swap 5 9300
  refine Ctr.body (X := ax g) _ 43 [] [.tmp 4] Tryd.func149 rfl rfl rfl rfl (by decide +kernel) rfl rfl ?_
  conv => whnf
  repeat' (first | (refine And.intro (by first | exact rfl | decide | exact Nat.le_of_ble_eq_true rfl | exact ⟨_, rfl⟩ | exact ⟨_, _, rfl⟩ | exact Nat.le_refl _ | exact Int.le_refl _ | omega | (simp only [List.length_map]; omega) | exact True.intro | (simp only [IntKind.wrap_i64, List.length_map]; omega) | (simp only [List.map_cons, List.map_nil, List.length_cons, Option.getD]; omega) | (simp only [bsz, ByteArray.size_append, List.size_toArray, List.length_cons, List.length_nil]; omega) | exact ⟨⟨_, _, rfl, rfl, Nat.le_of_ble_eq_true rfl⟩, trivial⟩ | exact ⟨⟨_, _, rfl, rfl, Nat.le_of_ble_eq_true rfl⟩, ⟨_, _, rfl, rfl, Nat.le_of_ble_eq_true rfl⟩, trivial⟩ | exact ⟨⟨_, _, rfl, rfl, Nat.le_of_ble_eq_true rfl⟩, ⟨_, _, rfl, rfl, Nat.le_of_ble_eq_true rfl⟩, ⟨_, _, rfl, rfl, Nat.le_of_ble_eq_true rfl⟩, trivial⟩) ?_; conv => whnf) | (refine ifB_intro (fun hA => ?_) (fun hA => ?_) <;> (try rw [hA]) <;> (conv => whnf) <;> (first | replace hA := of_decide_eq_true hA | replace hA := of_decide_eq_false hA | replace hA := eq_of_beq hA | replace hA := ne_of_beq_false hA | replace hA := bne_iff_ne.1 hA | replace hA := bne_eq_false_iff_eq.1 hA | skip) <;> (try simp only [ne_eq] at hA)) | (refine CallP.det (set_ctr g) ?_; conv => whnf) | (refine CallD.det (set_ctr g) ?_; conv => whnf) | (refine CallP.upd rfl (h1) ?_; conv => whnf) | (refine CallD.upd rfl (h1) ?_; conv => whnf) | (refine CallP.upd rfl (h2) ?_; conv => whnf) | (refine CallD.upd rfl (h2) ?_; conv => whnf) | (rw [getD_map _ _ _ _ (by assumption)]; conv => whnf))
  · rw [ba_toList] at hA
    subst hA
    refine ⟨⟨[], ?_⟩⟩
    conv => whnf
    rfl
  · refine ⟨⟨[], ?_⟩⟩
    conv => whnf
    rfl

/-! ### strconv.ParseUint, base 10, 16 bits; packet.number -/
def puV (l : List UInt8) : AV := match Lib.parseUintB 16 l with
  | .ok u => .tup [.d (.v (.int .u64 (u : Int))), .d (.v .nilIface)]
  | .range => .tup [.d (.v (.int .u64 65535)), .ifc 210 .junk]
  | _ => .tup [.d (.v (.int .u64 0)), .ifc 210 .junk]
theorem puV_ok {l : List UInt8} {u : Nat} (h : Lib.parseUintB 16 l = .ok u) : puV l = .tup [.d (.v (.int .u64 (u : Int))), .d (.v .nilIface)] := by unfold puV; rw [h]
theorem puV_range {l : List UInt8} (h : Lib.parseUintB 16 l = .range) : puV l = .tup [.d (.v (.int .u64 65535)), .ifc 210 .junk] := by unfold puV; rw [h]
theorem puV_bad {l : List UInt8} (h0 : ∀ v, Lib.parseUintB 16 l ≠ .ok v) (h1 : Lib.parseUintB 16 l ≠ .range) : puV l = .tup [.d (.v (.int .u64 0)), .ifc 210 .junk] := by
  unfold puV
  cases h : Lib.parseUintB 16 l <;> first | rfl | exact absurd h (h0 _) | exact absurd h h1
theorem pu_cases (l : List UInt8) : (∃ v, Lib.parseUintB 16 l = .ok v) ∨ ((∀ v, Lib.parseUintB 16 l ≠ .ok v) ∧ Lib.parseUintB 16 l ≠ .range) ∨ Lib.parseUintB 16 l = .range := by
  cases Lib.parseUintB 16 l <;> simp
theorem pu_ctr (g : GP) (hg : ∀ w, g.G w → ErrG w) (s : ByteArray) (hs : s.size ≤ 281474976710656) : Ctr (ax g).E 150 [.str s, .i64 10, .i64 16] [] fun o => o = .ret (puV s.data.toList) [] := by
  have hb : Bodied (ax g).E.P 150 := ⟨_, Tryd.func150, rfl, by decide +kernel⟩
  rcases pu_cases s.data.toList with ⟨v, h⟩ | ⟨h, h'⟩ | h
  · rw [puV_ok h]
    refine Ctr.ofAny (xs := [.string s, .int .i64 10, .int .i64 16]) hb (fun r => rfl) fun w hG => (Tryd.strconv_ParseUint_10_at16_ok s (by omega) v h w).mono fun e w' ⟨h1, h2⟩ => ⟨_, h1, fun h Im ρ => .tup2 (.d _ _ (.v _ rfl)) (.d _ _ (.v _ rfl)), ?_⟩
    rcases h2 with h2 | h2
    · rw [h2]; exact Below.refl _ _
    · rw [h2]; exact Go.Joins.below_bytesWorld _ _ _ _ (Nat.le_refl _)
  · rw [puV_bad h h']
    refine Ctr.ofAny (xs := [.string s, .int .i64 10, .int .i64 16]) hb (fun r => rfl) fun w hG => ?_
    obtain ⟨tp, p, hv⟩ := (hg w hG).syn
    exact (Tryd.strconv_ParseUint_10_at16_syntax_var s hs h h' tp p w hv).mono fun e w' ⟨N, h1, _, _, h2⟩ => ⟨_, h1, fun h Im ρ => .tup2 (.d _ _ (.v _ rfl)) (.ifc _ _ _ (.junk _)), h2⟩
  · rw [puV_range h]
    refine Ctr.ofAny (xs := [.string s, .int .i64 10, .int .i64 16]) hb (fun r => rfl) fun w hG => ?_
    obtain ⟨tp, p, hv⟩ := (hg w hG).rng
    exact (Tryd.strconv_ParseUint_10_at16_range_var s hs h tp p w hv).mono fun e w' ⟨N, h1, _, _, h2⟩ => ⟨_, h1, fun h Im ρ => .tup2 (.d _ _ (.v _ rfl)) (.ifc _ _ _ (.junk _)), h2⟩
def numW (l : List UInt8) : Nat := if l.length < 1 ∨ 5 < l.length ∨ l.all isD = false then 0 else if 65535 < valD 0 l then 65535 else valD 0 l
theorem number_ctr (g : GP) (hg : ∀ w, g.G w → ErrG w) (l : List UInt8) (hl : l.length < 2 ^ 40) : Ctr (ax g).E 115 [.str (baL l)] [] fun o => o = .ret (.tup [.d (.v (.int .u16 (numW l : Int))), .bool (numK l).isSome]) [] := by
  have h1 := trim_ctr g l (by omega)
  have hms := ba_size l
  have h2 := pu_ctr g hg (baL l) (by omega)
  rw [ba_toList] at h2
  unfold puV at h2
  have bad : (l.length < 1 ∨ 5 < l.length ∨ l.all isD = false) → numW l = 0 ∧ numK l = none := fun h => by
    unfold numW numK
    rw [if_pos h, if_pos]
    · exact ⟨rfl, rfl⟩
    · rcases h with h | h | h
      · exact .inl h
      · exact .inr (.inl h)
      · exact .inr (.inr (.inl h))
  refine Ctr.body (X := ax g) _ 27 [] [.tmp 2, .tmp 3] Tryd.func115 rfl rfl rfl rfl (by decide +kernel) rfl rfl ?_
  conv => whnf
  repeat' (first | (refine And.intro (by first | exact rfl | decide | exact Nat.le_of_ble_eq_true rfl | exact ⟨_, rfl⟩ | exact ⟨_, _, rfl⟩ | exact Nat.le_refl _ | exact Int.le_refl _ | omega | (simp only [List.length_map]; omega) | exact True.intro | (simp only [IntKind.wrap_i64, List.length_map]; omega) | (simp only [List.map_cons, List.map_nil, List.length_cons, Option.getD]; omega) | (simp only [bsz, ByteArray.size_append, List.size_toArray, List.length_cons, List.length_nil]; omega) | exact ⟨⟨_, _, rfl, rfl, Nat.le_of_ble_eq_true rfl⟩, trivial⟩ | exact ⟨⟨_, _, rfl, rfl, Nat.le_of_ble_eq_true rfl⟩, ⟨_, _, rfl, rfl, Nat.le_of_ble_eq_true rfl⟩, trivial⟩ | exact ⟨⟨_, _, rfl, rfl, Nat.le_of_ble_eq_true rfl⟩, ⟨_, _, rfl, rfl, Nat.le_of_ble_eq_true rfl⟩, ⟨_, _, rfl, rfl, Nat.le_of_ble_eq_true rfl⟩, trivial⟩) ?_; conv => whnf) | (refine ifB_intro (fun hA => ?_) (fun hA => ?_) <;> (try rw [hA]) <;> (conv => whnf) <;> (first | replace hA := of_decide_eq_true hA | replace hA := of_decide_eq_false hA | replace hA := eq_of_beq hA | replace hA := ne_of_beq_false hA | replace hA := bne_iff_ne.1 hA | replace hA := bne_eq_false_iff_eq.1 hA | skip) <;> (try simp only [ne_eq] at hA)) | (refine CallP.det (h1) ?_; conv => whnf) | (refine CallD.det (h1) ?_; conv => whnf) | (rw [getD_map _ _ _ _ (by assumption)]; conv => whnf))
  · rw [ba_toList] at hA
    obtain ⟨b1, b2⟩ := bad (.inl (by rw [hA]; simp))
    refine ⟨⟨[], ?_⟩⟩
    conv => whnf
    rw [b1, b2]; rfl
  · obtain ⟨b1, b2⟩ := bad (.inr (.inl (by omega)))
    refine ⟨⟨[], ?_⟩⟩
    conv => whnf
    rw [b1, b2]; rfl
  · rw [ba_toList, trimD_nil] at hA
    obtain ⟨b1, b2⟩ := bad (.inr (.inr (by simpa using hA)))
    refine ⟨⟨[], ?_⟩⟩
    conv => whnf
    rw [b1, b2]; rfl
  · rename_i hne h5
    rw [ba_toList] at hne
    rw [ba_toList, trimD_nil] at hA
    have hlen : 1 ≤ l.length := by
      rcases Nat.eq_zero_or_pos l.length with h | h
      · exact absurd (List.eq_nil_of_length_eq_zero h) hne
      · exact h
    have hb := parseB_digits l hlen (by omega) hA
    by_cases hv : 65535 < valD 0 l
    · rw [if_pos hv] at hb
      rw [hb] at h2
      have b1 : numW l = 65535 := by unfold numW; rw [if_neg, if_pos hv]; rintro (h | h | h); · omega
                                     · omega
                                     · rw [hA] at h; simp at h
      have b2 : numK l = none := by unfold numK; rw [if_pos (.inr (.inr (.inr hv)))]
      repeat' (first | (refine And.intro (by first | exact rfl | decide | exact Nat.le_of_ble_eq_true rfl | exact ⟨_, rfl⟩ | exact ⟨_, _, rfl⟩ | exact Nat.le_refl _ | exact Int.le_refl _ | omega | (simp only [List.length_map]; omega) | exact True.intro | (simp only [IntKind.wrap_i64, List.length_map]; omega) | (simp only [List.map_cons, List.map_nil, List.length_cons, Option.getD]; omega) | (simp only [bsz, ByteArray.size_append, List.size_toArray, List.length_cons, List.length_nil]; omega) | exact ⟨⟨_, _, rfl, rfl, Nat.le_of_ble_eq_true rfl⟩, trivial⟩ | exact ⟨⟨_, _, rfl, rfl, Nat.le_of_ble_eq_true rfl⟩, ⟨_, _, rfl, rfl, Nat.le_of_ble_eq_true rfl⟩, trivial⟩ | exact ⟨⟨_, _, rfl, rfl, Nat.le_of_ble_eq_true rfl⟩, ⟨_, _, rfl, rfl, Nat.le_of_ble_eq_true rfl⟩, ⟨_, _, rfl, rfl, Nat.le_of_ble_eq_true rfl⟩, trivial⟩) ?_; conv => whnf) | (refine ifB_intro (fun hA => ?_) (fun hA => ?_) <;> (try rw [hA]) <;> (conv => whnf) <;> (first | replace hA := of_decide_eq_true hA | replace hA := of_decide_eq_false hA | replace hA := eq_of_beq hA | replace hA := ne_of_beq_false hA | replace hA := bne_iff_ne.1 hA | replace hA := bne_eq_false_iff_eq.1 hA | skip) <;> (try simp only [List.length_map, cond_true, cond_false, Bool.not_eq_true', Bool.not_eq_false', beq_iff_eq, beq_eq_false_iff_ne, ne_eq] at hA)) | (refine CallP.det (h2) ?_; conv => whnf) | (refine CallD.det (h2) ?_; conv => whnf) | (refine DrawP.intro (X := ax g) (id := 4) B115_4 (by kernel_rfl) (by decide +kernel) ?_; conv => whnf) | (rw [getD_map _ _ _ _ (by assumption)]; conv => whnf))
      refine ⟨⟨[], ?_⟩⟩
      conv => whnf
      rw [b1, b2]; rfl
    · rw [if_neg hv] at hb
      rw [hb] at h2
      have b1 : numW l = valD 0 l := by unfold numW; rw [if_neg, if_neg hv]; rintro (h | h | h); · omega
                                        · omega
                                        · rw [hA] at h; simp at h
      have b2 : numK l = some (valD 0 l) := by unfold numK; rw [if_neg]; rintro (h | h | h | h); · omega
                                               · omega
                                               · rw [hA] at h; simp at h
                                               · omega
      repeat' (first | (refine And.intro (by first | exact rfl | decide | exact Nat.le_of_ble_eq_true rfl | exact ⟨_, rfl⟩ | exact ⟨_, _, rfl⟩ | exact Nat.le_refl _ | exact Int.le_refl _ | omega | (simp only [List.length_map]; omega) | exact True.intro | (simp only [IntKind.wrap_i64, List.length_map]; omega) | (simp only [List.map_cons, List.map_nil, List.length_cons, Option.getD]; omega) | (simp only [bsz, ByteArray.size_append, List.size_toArray, List.length_cons, List.length_nil]; omega) | exact ⟨⟨_, _, rfl, rfl, Nat.le_of_ble_eq_true rfl⟩, trivial⟩ | exact ⟨⟨_, _, rfl, rfl, Nat.le_of_ble_eq_true rfl⟩, ⟨_, _, rfl, rfl, Nat.le_of_ble_eq_true rfl⟩, trivial⟩ | exact ⟨⟨_, _, rfl, rfl, Nat.le_of_ble_eq_true rfl⟩, ⟨_, _, rfl, rfl, Nat.le_of_ble_eq_true rfl⟩, ⟨_, _, rfl, rfl, Nat.le_of_ble_eq_true rfl⟩, trivial⟩) ?_; conv => whnf) | (refine ifB_intro (fun hA => ?_) (fun hA => ?_) <;> (try rw [hA]) <;> (conv => whnf) <;> (first | replace hA := of_decide_eq_true hA | replace hA := of_decide_eq_false hA | replace hA := eq_of_beq hA | replace hA := ne_of_beq_false hA | replace hA := bne_iff_ne.1 hA | replace hA := bne_eq_false_iff_eq.1 hA | skip) <;> (try simp only [List.length_map, cond_true, cond_false, Bool.not_eq_true', Bool.not_eq_false', beq_iff_eq, beq_eq_false_iff_ne, ne_eq] at hA)) | (refine CallP.det (h2) ?_; conv => whnf) | (refine CallD.det (h2) ?_; conv => whnf) | (refine DrawP.intro (X := ax g) (id := 4) B115_4 (by kernel_rfl) (by decide +kernel) ?_; conv => whnf) | (rw [getD_map _ _ _ _ (by assumption)]; conv => whnf))
      refine ⟨⟨[], ?_⟩⟩
      conv => whnf
      rw [b1, b2, show IntKind.u16.wrap ((valD 0 l : Nat) : Int) = ((valD 0 l : Nat) : Int) from by rw [IntKind.wrap_u16]; omega]; rfl
end Go.Ax

/- Packets: the document's Split and Number; With. -/
namespace Go.Ax
open Go.Proofs Go.RowKit Go.Shelf Go.Lib
set_option maxRecDepth 10000

theorem ba_extract (l : List UInt8) (a b : Nat) (h : a ≤ b) (hb : b ≤ l.length) : (baL l).extract a b = baL ((l.drop a).take (b - a)) := by
  apply ByteArray.ext
  rw [ByteArray.data_extract]
  apply Array.ext'
  rw [Array.toList_extract, List.extract_eq_take_drop, ba_toList, ba_toList]
theorem drop_cut (l : List UInt8) (st i : Nat) (h : st ≤ i) (hi : i < l.length) : l.drop st = (l.drop st).take (i - st) ++ l[i] :: l.drop (i + 1) := by
  have e : l.drop i = l[i] :: l.drop (i + 1) := List.drop_eq_getElem_cons hi
  rw [← e]
  have h1 := List.take_append_drop (i - st) (l.drop st)
  rw [List.drop_drop, show st + (i - st) = i from by omega] at h1
  exact h1.symm
theorem take_snoc (l : List UInt8) (st i : Nat) (h : st ≤ i) (hi : i < l.length) : (l.drop st).take (i + 1 - st) = (l.drop st).take (i - st) ++ [l[i]] := by
  rw [show i + 1 - st = (i - st) + 1 from by omega, List.take_succ_eq_append_getElem (by rw [List.length_drop]; omega)]
  congr 2
  rw [List.getElem_drop]
  congr 1
  omega
structure SplitI (c : UInt8) (l : List UInt8) (acc : List (List UInt8)) (st i : Nat) : Prop where
  le : i ≤ l.length
  lo : st ≤ i
  eq : splitL c l = acc ++ splitL c (l.drop st)
  no : ((l.drop st).take (i - st)).all (· != c) = true
theorem split_ref (g : GP) (c : UInt8) (l : List UInt8) (hl : l.length < 2 ^ 40) : Ctr (ax g).E 116 [.str (baL l), .d (.v (.int .u8 c.toNat))] [] fun o => o = .ret (.d (.sl false 1 ((splitL c l).map rowW))) [] := by
  have hsz := ba_size l
  refine Ctr.body (X := ax g) _ 35 [] [.tmp 4] Tryd.func116 rfl rfl rfl rfl (by decide +kernel) rfl rfl ?_
  conv => whnf
  refine LoopP.own 5 904 1 9 rfl rfl rfl ?_
  refine LoopP.inv (X := ax g) (fun x : List (List UInt8) × Nat × Nat => { f := [(0, .str (baL l)), (1, .d (.v (.int .u8 c.toNat))), (5, .msl 904 x.1.length 0 x.1.length), (6, .i64 x.2.1), (7, .i64 x.2.2)], h := [(904, some (.buf 1 9 (x.1.map rowW)))] }) (fun x => x.1.length ≤ x.2.2 ∧ (SplitI c l x.1 x.2.1 x.2.2 ∨ (x.2.2 = l.length + 1 ∧ splitL c l = x.1))) (fun x => l.length + 2 - x.2.2) ([], 0, 0) ⟨Nat.le_refl _, .inl ⟨Nat.zero_le _, Nat.le_refl _, rfl, rfl⟩⟩ ⟨⟨rfl, rfl, rfl, rfl, rfl, trivial⟩, ⟨fun o h => h, trivial⟩⟩ fun ⟨acc, st, i⟩ ⟨ha, hI⟩ => ?_
  dsimp only at ha hI ⊢
  conv => whnf
  refine ifB_intro (fun h => ?_) (fun h => ?_)
  · have hi : i ≤ l.length := by have h0 := of_decide_eq_true h; omega
    rcases hI with hI | ⟨h1, _⟩
    · obtain ⟨_, hst, heq, hno⟩ := hI
      have e1 : (baL l).extract ((some ((st : Nat) : Int)).getD 0).toNat ((some ((i : Nat) : Int)).getD (((baL l).size : Nat) : Int)).toNat = baL ((l.drop st).take (i - st)) := ba_extract l st i hst hi
      by_cases hlast : i = l.length
      · have hpc : splitL c (l.drop st) = [(l.drop st).take (i - st)] := by
          have : (l.drop st).take (i - st) = l.drop st := List.take_of_length_le (by rw [List.length_drop]; omega)
          rw [this] at hno ⊢
          exact split_one c _ hno
        conv => whnf
        repeat' (first | (refine And.intro (by first | exact rfl | decide | exact Nat.le_of_ble_eq_true rfl | exact ⟨_, rfl⟩ | exact ⟨_, _, rfl⟩ | exact Nat.le_refl _ | exact Int.le_refl _ | omega | (simp only [List.length_map]; omega) | exact True.intro | (simp only [List.length_map]; omega) | (simp only [List.length_cons, Option.getD]; omega) | (simp only [List.length_cons, List.length_nil]; omega) | exact ⟨⟨_, _, rfl, rfl, Nat.le_of_ble_eq_true rfl⟩, trivial⟩ | exact ⟨⟨_, _, rfl, rfl, Nat.le_of_ble_eq_true rfl⟩, ⟨_, _, rfl, rfl, Nat.le_of_ble_eq_true rfl⟩, trivial⟩ | exact ⟨⟨_, _, rfl, rfl, Nat.le_of_ble_eq_true rfl⟩, ⟨_, _, rfl, rfl, Nat.le_of_ble_eq_true rfl⟩, ⟨_, _, rfl, rfl, Nat.le_of_ble_eq_true rfl⟩, trivial⟩) ?_; conv => whnf) | (refine ifB_intro (fun hA => ?_) (fun hA => ?_) <;> (try rw [hA]) <;> (conv => whnf) <;> (first | replace hA := of_decide_eq_true hA | replace hA := of_decide_eq_false hA | replace hA := eq_of_beq hA | replace hA := ne_of_beq_false hA | replace hA := bne_iff_ne.1 hA | replace hA := bne_eq_false_iff_eq.1 hA | skip) <;> (try simp only [List.length_map, cond_true, cond_false, Bool.not_eq_true', Bool.not_eq_false', beq_iff_eq, beq_eq_false_iff_ne, ne_eq] at hA)) | (exfalso; omega) | (rw [e1]; conv => whnf) | (refine And.intro (List.length_map _).symm ?_; conv => whnf) | (refine And.intro (by show ((acc.map rowW).length + 1) * 16 ≤ 140737488355328; rw [List.length_map]; omega) ?_; conv => whnf) | (rw [getD_map _ _ _ _ (by assumption)]; conv => whnf))
        refine ⟨(acc ++ [(l.drop st).take (i - st)], i + 1, i + 1), ⟨by simp; omega, .inr ⟨by show i + 1 = _; omega, by rw [heq, hpc]⟩⟩, by show _ - (i + 1) < _ - i; omega, ⟨⟨rfl, rfl, msl_eq (by simp), AV.int_eq (i64_succ (by omega)), AV.int_eq (i64_succ (by omega)), trivial⟩, ⟨fun o h' => ?_, trivial⟩⟩⟩
        rw [← h', List.map_append]
        first | rfl | (rw [← e1]; rfl) | (rw [e1]; rfl)
      · have hil : i < l.length := by omega
        have hb := byteAt_ba l i hil
        have hcut := drop_cut l st i hst hil
        have hsn := take_snoc l st i hst hil
        conv => whnf
        repeat' (first | (refine And.intro (by first | exact rfl | decide | exact Nat.le_of_ble_eq_true rfl | exact ⟨_, rfl⟩ | exact ⟨_, _, rfl⟩ | exact Nat.le_refl _ | exact Int.le_refl _ | omega | (simp only [List.length_map]; omega) | exact True.intro | (simp only [List.length_map]; omega) | (simp only [List.length_cons, Option.getD]; omega) | (simp only [List.length_cons, List.length_nil]; omega) | exact ⟨⟨_, _, rfl, rfl, Nat.le_of_ble_eq_true rfl⟩, trivial⟩ | exact ⟨⟨_, _, rfl, rfl, Nat.le_of_ble_eq_true rfl⟩, ⟨_, _, rfl, rfl, Nat.le_of_ble_eq_true rfl⟩, trivial⟩ | exact ⟨⟨_, _, rfl, rfl, Nat.le_of_ble_eq_true rfl⟩, ⟨_, _, rfl, rfl, Nat.le_of_ble_eq_true rfl⟩, ⟨_, _, rfl, rfl, Nat.le_of_ble_eq_true rfl⟩, trivial⟩) ?_; conv => whnf) | (refine ifB_intro (fun hA => ?_) (fun hA => ?_) <;> (try rw [hA]) <;> (conv => whnf) <;> (first | replace hA := of_decide_eq_true hA | replace hA := of_decide_eq_false hA | replace hA := eq_of_beq hA | replace hA := ne_of_beq_false hA | replace hA := bne_iff_ne.1 hA | replace hA := bne_eq_false_iff_eq.1 hA | skip) <;> (try simp only [List.length_map, cond_true, cond_false, Bool.not_eq_true', Bool.not_eq_false', beq_iff_eq, beq_eq_false_iff_ne, ne_eq] at hA)) | (exfalso; omega) | (rw [hb]; conv => whnf) | (rw [e1]; conv => whnf) | (refine And.intro (List.length_map _).symm ?_; conv => whnf) | (refine And.intro (by show ((acc.map rowW).length + 1) * 16 ≤ 140737488355328; rw [List.length_map]; omega) ?_; conv => whnf) | (rw [getD_map _ _ _ _ (by assumption)]; conv => whnf))
        · have hcc : l[i] = c := UInt8.toNat_inj.1 (by omega)
          rw [hcc] at hcut
          have hpc : splitL c (l.drop st) = (l.drop st).take (i - st) :: splitL c (l.drop (i + 1)) := by
            have h5 := split_app c ((l.drop st).take (i - st)) (l.drop (i + 1)) hno
            rw [← hcut] at h5; exact h5
          refine ⟨(acc ++ [(l.drop st).take (i - st)], i + 1, i + 1), ⟨by simp; omega, .inl ⟨by show i + 1 ≤ _; omega, Nat.le_refl _, by rw [heq, hpc, List.append_assoc]; rfl, by simp⟩⟩, by show _ - (i + 1) < _ - i; omega, ⟨⟨rfl, rfl, msl_eq (by simp), AV.int_eq (i64_succ (by omega)), AV.int_eq (i64_succ (by omega)), trivial⟩, ⟨fun o h' => ?_, trivial⟩⟩⟩
          rw [← h', List.map_append]
          first | rfl | (rw [← e1]; rfl) | (rw [e1]; rfl)
        · have hcc : l[i] ≠ c := fun e => hA (by rw [hb, e])
          exact ⟨(acc, st, i + 1), ⟨by show acc.length ≤ i + 1; omega, .inl ⟨by show i + 1 ≤ _; omega, by show st ≤ i + 1; omega, heq, by show ((l.drop st).take (i + 1 - st)).all _ = true; rw [hsn, List.all_append, hno]; simp [hcc]⟩⟩, by show _ - (i + 1) < _ - i; omega, ⟨⟨rfl, rfl, rfl, rfl, AV.int_eq (i64_succ (by omega)), trivial⟩, ⟨fun o h' => h', trivial⟩⟩⟩
    · omega
  · rcases hI with hI | ⟨h1, h2⟩
    · have h0 := of_decide_eq_false h
      have := hI.le
      omega
    · conv => whnf
      refine ⟨⟨[], ?_⟩⟩
      conv => whnf
      refine And.intro (List.length_map _).symm ?_
      conv => whnf
      refine And.intro (by rw [List.length_map]; omega) ?_
      conv => whnf
      rw [h2]
      simp
      exact List.take_of_length_le (by simp)

theorem num_step {y z v : Nat} (hv : v = y * 10 + (z - 48)) (h1 : 48 ≤ z) (h2 : z ≤ 57) (hy : y < 1000000) : IntKind.i64.wrap (IntKind.i64.wrap ((y : Int) * 10) + IntKind.i64.wrap (IntKind.u8.wrap ((z : Int) - 48))) = (v : Int) := by
  have e1 : IntKind.u8.wrap ((z : Int) - 48) = (z : Int) - 48 := by rw [IntKind.wrap_u8]; omega
  have e2 : IntKind.i64.wrap ((y : Int) * 10) = (y : Int) * 10 := i64_wrap (by omega) (by omega)
  have e3 : IntKind.i64.wrap ((z : Int) - 48) = (z : Int) - 48 := i64_wrap (by omega) (by omega)
  rw [e1, e2, e3, i64_wrap (by omega) (by omega)]
  omega
def numN (l : List UInt8) : Int := match numK l with | some n => (n : Int) | none => -1
theorem refNumber_ctr (g : GP) (l : List UInt8) (hl : l.length < 2 ^ 40) : Ctr (ax g).E 117 [.str (baL l)] [] fun o => o = .ret (.i64 (numN l)) [] := by
  have hsz := ba_size l
  have bad : (l.length < 1 ∨ 5 < l.length ∨ l.all isD = false ∨ 65535 < valD 0 l) → numN l = -1 := fun h => by
    unfold numN numK
    rw [if_pos h]
  refine Ctr.body (X := ax g) _ 40 [] [.tmp 2] Tryd.func117 rfl rfl rfl rfl (by decide +kernel) rfl rfl ?_
  conv => whnf
  repeat' (first | (refine And.intro (by first | exact rfl | decide | exact Nat.le_of_ble_eq_true rfl | exact ⟨_, rfl⟩ | exact ⟨_, _, rfl⟩ | exact Nat.le_refl _ | exact Int.le_refl _ | omega | (simp only [List.length_map]; omega) | exact True.intro | (simp only [IntKind.wrap_i64, List.length_map]; omega) | (simp only [List.map_cons, List.map_nil, List.length_cons, Option.getD]; omega) | (simp only [bsz, ByteArray.size_append, List.size_toArray, List.length_cons, List.length_nil]; omega) | exact ⟨⟨_, _, rfl, rfl, Nat.le_of_ble_eq_true rfl⟩, trivial⟩ | exact ⟨⟨_, _, rfl, rfl, Nat.le_of_ble_eq_true rfl⟩, ⟨_, _, rfl, rfl, Nat.le_of_ble_eq_true rfl⟩, trivial⟩ | exact ⟨⟨_, _, rfl, rfl, Nat.le_of_ble_eq_true rfl⟩, ⟨_, _, rfl, rfl, Nat.le_of_ble_eq_true rfl⟩, ⟨_, _, rfl, rfl, Nat.le_of_ble_eq_true rfl⟩, trivial⟩) ?_; conv => whnf) | (refine ifB_intro (fun hA => ?_) (fun hA => ?_) <;> (try rw [hA]) <;> (conv => whnf) <;> (first | replace hA := of_decide_eq_true hA | replace hA := of_decide_eq_false hA | replace hA := eq_of_beq hA | replace hA := ne_of_beq_false hA | replace hA := bne_iff_ne.1 hA | replace hA := bne_eq_false_iff_eq.1 hA | skip) <;> (try simp only [List.length_map, cond_true, cond_false, Bool.not_eq_true', Bool.not_eq_false', beq_iff_eq, beq_eq_false_iff_ne, ne_eq] at hA)) | (rw [getD_map _ _ _ _ (by assumption)]; conv => whnf))
  · refine ⟨⟨[], ?_⟩⟩
    conv => whnf
    rw [bad (.inl (by omega))]
  · refine ⟨⟨[], ?_⟩⟩
    conv => whnf
    rw [bad (.inr (.inl (by omega)))]
  · rename_i h1
    refine LoopP.inv (X := ax g) (fun i : Nat => { f := [(0, .str (baL l)), (2, .i64 0), (3, .i64 (valD 0 (l.take i) : Nat)), (4, .i64 i)], h := [] }) (fun i => i ≤ l.length ∧ (l.take i).all isD = true) (fun i => l.length - i) 0 ⟨Nat.zero_le _, rfl⟩ ⟨⟨rfl, rfl, rfl, rfl, trivial⟩, trivial⟩ fun i ⟨hi, hd⟩ => ?_
    have hvb := valD_bound (l.take i) 0 hd
    have hp : 10 ^ (l.take i).length ≤ 10 ^ 5 := Nat.pow_le_pow_right (by omega) (by rw [List.length_take]; omega)
    conv => whnf
    refine ifB_intro (fun h => ?_) (fun h => ?_)
    · have h : i < l.length := by have h0 := of_decide_eq_true h; omega
      have hb := byteAt_ba l i h
      have ht : l.take (i + 1) = l.take i ++ [l[i]] := List.take_succ_eq_append_getElem h
      have hnd : isD l[i] = false → numN l = -1 := fun hx => bad (.inr (.inr (.inl (by
        rw [← List.take_append_drop i l, List.drop_eq_getElem_cons h, List.all_append, List.all_cons, hx]; simp))))
      conv => whnf
      repeat' (first | (refine And.intro (by first | exact rfl | decide | exact Nat.le_of_ble_eq_true rfl | exact ⟨_, rfl⟩ | exact ⟨_, _, rfl⟩ | exact Nat.le_refl _ | exact Int.le_refl _ | omega | (simp only [List.length_map]; omega) | exact True.intro | (simp only [IntKind.wrap_i64, List.length_map]; omega) | (simp only [List.map_cons, List.map_nil, List.length_cons, Option.getD]; omega) | (simp only [bsz, ByteArray.size_append, List.size_toArray, List.length_cons, List.length_nil]; omega) | exact ⟨⟨_, _, rfl, rfl, Nat.le_of_ble_eq_true rfl⟩, trivial⟩ | exact ⟨⟨_, _, rfl, rfl, Nat.le_of_ble_eq_true rfl⟩, ⟨_, _, rfl, rfl, Nat.le_of_ble_eq_true rfl⟩, trivial⟩ | exact ⟨⟨_, _, rfl, rfl, Nat.le_of_ble_eq_true rfl⟩, ⟨_, _, rfl, rfl, Nat.le_of_ble_eq_true rfl⟩, ⟨_, _, rfl, rfl, Nat.le_of_ble_eq_true rfl⟩, trivial⟩) ?_; conv => whnf) | (refine ifB_intro (fun hA => ?_) (fun hA => ?_) <;> (try rw [hA]) <;> (conv => whnf) <;> (first | replace hA := of_decide_eq_true hA | replace hA := of_decide_eq_false hA | replace hA := eq_of_beq hA | replace hA := ne_of_beq_false hA | replace hA := bne_iff_ne.1 hA | replace hA := bne_eq_false_iff_eq.1 hA | skip) <;> (try simp only [List.length_map, cond_true, cond_false, Bool.not_eq_true', Bool.not_eq_false', beq_iff_eq, beq_eq_false_iff_ne, ne_eq] at hA)) | (rw [hb]; conv => whnf) | (rw [getD_map _ _ _ _ (by assumption)]; conv => whnf))
      · rw [hb] at hA
        have := hnd (by unfold isD; rw [Bool.and_eq_false_iff]; left; rw [decide_eq_false_iff_not]; omega)
        refine ⟨⟨[], ?_⟩⟩
        conv => whnf
        rw [this]
      · rw [hb] at hA
        have := hnd (by unfold isD; rw [Bool.and_eq_false_iff]; right; rw [decide_eq_false_iff_not]; omega)
        refine ⟨⟨[], ?_⟩⟩
        conv => whnf
        rw [this]
      · rename_i hA0
        rw [hb] at hA hA0
        have hdig : isD l[i] = true := by unfold isD; rw [Bool.and_eq_true, decide_eq_true_iff, decide_eq_true_iff]; omega
        have hv : valD 0 (l.take (i + 1)) = valD 0 (l.take i) * 10 + (l[i].toNat - 48) := by rw [ht, valD_append]; rfl
        have hz : 48 ≤ l[i].toNat ∧ l[i].toNat ≤ 57 := by omega
        have hy : valD 0 (l.take i) < 1000000 := by omega
        have key : IntKind.i64.wrap (IntKind.i64.wrap (((valD 0 (l.take i) : Nat) : Int) * 10) + IntKind.i64.wrap (IntKind.u8.wrap ((l[i].toNat : Int) - 48))) = ((valD 0 (l.take (i + 1)) : Nat) : Int) := num_step hv hz.1 hz.2 hy
        have ht2 : (l.take (i + 1)).all isD = true := by rw [ht, List.all_append, hd]; simp [hdig]
        try rw [hb]
        rw [key]
        exact ⟨i + 1, ⟨by omega, ht2⟩, by omega, ⟨⟨rfl, rfl, rfl, AV.int_eq (i64_succ (by omega)), trivial⟩, trivial⟩⟩
    · have h : i = l.length := by have h0 := of_decide_eq_false h; omega
      subst h
      rw [List.take_length] at hd
      conv => whnf
      repeat' (first | (refine And.intro (by first | exact rfl | decide | exact Nat.le_of_ble_eq_true rfl | exact ⟨_, rfl⟩ | exact ⟨_, _, rfl⟩ | exact Nat.le_refl _ | exact Int.le_refl _ | omega | (simp only [List.length_map]; omega) | exact True.intro | (simp only [IntKind.wrap_i64, List.length_map]; omega) | (simp only [List.map_cons, List.map_nil, List.length_cons, Option.getD]; omega) | (simp only [bsz, ByteArray.size_append, List.size_toArray, List.length_cons, List.length_nil]; omega) | exact ⟨⟨_, _, rfl, rfl, Nat.le_of_ble_eq_true rfl⟩, trivial⟩ | exact ⟨⟨_, _, rfl, rfl, Nat.le_of_ble_eq_true rfl⟩, ⟨_, _, rfl, rfl, Nat.le_of_ble_eq_true rfl⟩, trivial⟩ | exact ⟨⟨_, _, rfl, rfl, Nat.le_of_ble_eq_true rfl⟩, ⟨_, _, rfl, rfl, Nat.le_of_ble_eq_true rfl⟩, ⟨_, _, rfl, rfl, Nat.le_of_ble_eq_true rfl⟩, trivial⟩) ?_; conv => whnf) | (refine ifB_intro (fun hA => ?_) (fun hA => ?_) <;> (try rw [hA]) <;> (conv => whnf) <;> (first | replace hA := of_decide_eq_true hA | replace hA := of_decide_eq_false hA | replace hA := eq_of_beq hA | replace hA := ne_of_beq_false hA | replace hA := bne_iff_ne.1 hA | replace hA := bne_eq_false_iff_eq.1 hA | skip) <;> (try simp only [List.length_map, cond_true, cond_false, Bool.not_eq_true', Bool.not_eq_false', beq_iff_eq, beq_eq_false_iff_ne, ne_eq] at hA)) | (rw [getD_map _ _ _ _ (by assumption)]; conv => whnf))
      · rw [List.take_length] at hA
        refine ⟨⟨[], ?_⟩⟩
        conv => whnf
        rw [bad (.inr (.inr (.inr (by omega))))]
      · rw [List.take_length] at hA
        refine ⟨⟨[], ?_⟩⟩
        conv => whnf
        have : numN l = (valD 0 l : Nat) := by
          unfold numN numK
          rw [if_neg]
          rintro (h | h | h | h)
          · omega
          · omega
          · rw [hd] at h; simp at h
          · omega
        rw [this, List.take_length]

/-! ### With -/
theorem is_ctr (g : GP) (i : Nat) (hi : i < 8) : Ctr (ax g).E 147 [.i64 i] [] fun o => o = .ret (.bool true) [] := by
  refine Ctr.body (X := ax g) _ 9 [] [.tmp 2] Tryd.func147 rfl rfl rfl rfl (by decide +kernel) rfl rfl ?_
  conv => whnf
  repeat' (first | (refine And.intro (by first | exact rfl | decide | exact Nat.le_of_ble_eq_true rfl | exact ⟨_, rfl⟩ | exact ⟨_, _, rfl⟩ | exact Nat.le_refl _ | exact Int.le_refl _ | omega | (simp only [List.length_map]; omega) | exact True.intro | (simp only [IntKind.wrap_i64, List.length_map]; omega) | (simp only [List.map_cons, List.map_nil, List.length_cons, Option.getD]; omega) | (simp only [bsz, ByteArray.size_append, List.size_toArray, List.length_cons, List.length_nil]; omega) | exact ⟨⟨_, _, rfl, rfl, Nat.le_of_ble_eq_true rfl⟩, trivial⟩ | exact ⟨⟨_, _, rfl, rfl, Nat.le_of_ble_eq_true rfl⟩, ⟨_, _, rfl, rfl, Nat.le_of_ble_eq_true rfl⟩, trivial⟩ | exact ⟨⟨_, _, rfl, rfl, Nat.le_of_ble_eq_true rfl⟩, ⟨_, _, rfl, rfl, Nat.le_of_ble_eq_true rfl⟩, ⟨_, _, rfl, rfl, Nat.le_of_ble_eq_true rfl⟩, trivial⟩) ?_; conv => whnf) | (refine ifB_intro (fun hA => ?_) (fun hA => ?_) <;> (try rw [hA]) <;> (conv => whnf) <;> (first | replace hA := of_decide_eq_true hA | replace hA := of_decide_eq_false hA | replace hA := eq_of_beq hA | replace hA := ne_of_beq_false hA | replace hA := bne_iff_ne.1 hA | replace hA := bne_eq_false_iff_eq.1 hA | skip) <;> (try simp only [List.length_map, cond_true, cond_false, Bool.not_eq_true', Bool.not_eq_false', beq_iff_eq, beq_eq_false_iff_ne, ne_eq] at hA)) | (exfalso; omega) | (rw [getD_map _ _ _ _ (by assumption)]; conv => whnf))
  refine ⟨⟨[], ?_⟩⟩
  conv => whnf
  rw [show decide ((0 : Int) ≤ (i : Int)) = true from by simp, show decide ((i : Int) < 8) = true from by simp; omega]
  rfl
theorem eight {p : List Nat} (h : p.length = 8) : ∃ a0 a1 a2 a3 a4 a5 a6 a7, p = [a0, a1, a2, a3, a4, a5, a6, a7] := by
  match p, h with
  | [a0, a1, a2, a3, a4, a5, a6, a7], _ => exact ⟨a0, a1, a2, a3, a4, a5, a6, a7, rfl⟩
theorem pwith_ctr (g : GP) (p : List Nat) (hp : p.length = 8) (i : Nat) (hi : i < 8) (n : Nat) : Ctr (ax g).E 112 [.dagg (rowU p), .i64 i, .d (.v (.int .u16 n))] [] fun o => o = .ret (.dagg (rowU (p.set i n))) [] := by
  have hl : (rowU p).length = 8 := by rw [rowU_len]; exact hp
  have hs : splice (rowU p) [D.v (.int .u16 (n : Int))] (0 + ((i : Nat) : Int).toNat * 1) = rowU (p.set i n) := by
    rw [show 0 + ((i : Nat) : Int).toNat * 1 = i from by omega, splice_one _ _ _ (by omega), rowU, rowU, List.map_set]; rfl
  have hct := rowU_cut (p.set i n) (by simpa using hp)
  obtain ⟨a0, a1, a2, a3, a4, a5, a6, a7, rfl⟩ := eight hp
  refine Ctr.body (X := ax g) _ 13 [] [.cell 6 96] Tryd.func112 rfl rfl rfl rfl (by decide +kernel) rfl rfl ?_
  conv => whnf
  have hl2 : 0 + 8 ≤ (splice (rowU [a0, a1, a2, a3, a4, a5, a6, a7]) [D.v (.int .u16 (n : Int))] (0 + ((i : Nat) : Int).toNat * 1)).length := by rw [hs, rowU_len]; simp
  repeat' (first | (refine And.intro (by first | exact rfl | decide | exact Nat.le_of_ble_eq_true rfl | exact ⟨_, rfl⟩ | exact ⟨_, _, rfl⟩ | exact Nat.le_refl _ | exact Int.le_refl _ | omega | (simp only []; omega) | exact True.intro | (simp only []; omega) | (simp only []; omega) | (simp only []; omega) | exact ⟨⟨_, _, rfl, rfl, Nat.le_of_ble_eq_true rfl⟩, trivial⟩ | exact ⟨⟨_, _, rfl, rfl, Nat.le_of_ble_eq_true rfl⟩, ⟨_, _, rfl, rfl, Nat.le_of_ble_eq_true rfl⟩, trivial⟩ | exact ⟨⟨_, _, rfl, rfl, Nat.le_of_ble_eq_true rfl⟩, ⟨_, _, rfl, rfl, Nat.le_of_ble_eq_true rfl⟩, ⟨_, _, rfl, rfl, Nat.le_of_ble_eq_true rfl⟩, trivial⟩) ?_; conv => whnf) | (refine ifB_intro (fun hA => ?_) (fun hA => ?_) <;> (try rw [hA]) <;> (conv => whnf) <;> (first | replace hA := of_decide_eq_true hA | replace hA := of_decide_eq_false hA | replace hA := eq_of_beq hA | replace hA := ne_of_beq_false hA | replace hA := bne_iff_ne.1 hA | replace hA := bne_eq_false_iff_eq.1 hA | skip) <;> (try simp only [List.length_map, cond_true, cond_false, Bool.not_eq_true', Bool.not_eq_false', beq_iff_eq, beq_eq_false_iff_ne, ne_eq] at hA)) | (refine CallP.det (is_ctr g i hi) ?_; conv => whnf) | (refine CallD.det (is_ctr g i hi) ?_; conv => whnf) | (refine And.intro (show 0 + ((i : Nat) : Int).toNat * 1 + 1 ≤ 8 by omega) ?_; conv => whnf) | (refine And.intro hl2 ?_; conv => whnf) | (rw [getD_map _ _ _ _ (by assumption)]; conv => whnf))
  have hl3 : (cut 0 8 (splice (rowU [a0, a1, a2, a3, a4, a5, a6, a7]) [D.v (.int .u16 (n : Int))] (0 + ((i : Nat) : Int).toNat * 1))).length = 8 := by rw [hs, hct, rowU_len]; simp
  refine And.intro hl3 ?_
  conv => whnf
  refine ⟨⟨[], ?_⟩⟩
  conv => whnf
  repeat' (first | (refine And.intro (by first | exact rfl | decide | exact Nat.le_of_ble_eq_true rfl | exact ⟨_, rfl⟩ | exact ⟨_, _, rfl⟩ | exact Nat.le_refl _ | exact Int.le_refl _ | omega | (simp only []; omega) | exact True.intro | (simp only [IntKind.wrap_i64, List.length_map]; omega) | (simp only [List.map_cons, List.map_nil, List.length_cons, Option.getD]; omega) | (simp only [bsz, ByteArray.size_append, List.size_toArray, List.length_cons, List.length_nil]; omega) | exact ⟨⟨_, _, rfl, rfl, Nat.le_of_ble_eq_true rfl⟩, trivial⟩ | exact ⟨⟨_, _, rfl, rfl, Nat.le_of_ble_eq_true rfl⟩, ⟨_, _, rfl, rfl, Nat.le_of_ble_eq_true rfl⟩, trivial⟩ | exact ⟨⟨_, _, rfl, rfl, Nat.le_of_ble_eq_true rfl⟩, ⟨_, _, rfl, rfl, Nat.le_of_ble_eq_true rfl⟩, ⟨_, _, rfl, rfl, Nat.le_of_ble_eq_true rfl⟩, trivial⟩) ?_; conv => whnf) | (refine ifB_intro (fun hA => ?_) (fun hA => ?_) <;> (try rw [hA]) <;> (conv => whnf) <;> (first | replace hA := of_decide_eq_true hA | replace hA := of_decide_eq_false hA | replace hA := eq_of_beq hA | replace hA := ne_of_beq_false hA | replace hA := bne_iff_ne.1 hA | replace hA := bne_eq_false_iff_eq.1 hA | skip) <;> (try simp only [List.length_map, cond_true, cond_false, Bool.not_eq_true', Bool.not_eq_false', beq_iff_eq, beq_eq_false_iff_ne, ne_eq] at hA)) | (refine And.intro (show 0 + 8 ≤ _ from by rw [hl3]) ?_; conv => whnf) | (rw [getD_map _ _ _ _ (by assumption)]; conv => whnf))
  show AOut.ret (.dagg (cut 0 8 (cut 0 8 (splice (rowU [a0, a1, a2, a3, a4, a5, a6, a7]) [D.v (.int .u16 (n : Int))] (0 + ((i : Nat) : Int).toNat * 1))))) [] = _
  rw [hs, hct, hct]
end Go.Ax
