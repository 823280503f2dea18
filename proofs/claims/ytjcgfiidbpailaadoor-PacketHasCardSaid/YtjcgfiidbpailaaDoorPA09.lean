/- What the card of this claim stands on, or the card itself: for every input, as the given row says. -/
import Derived.Test.YtjcgfiidbpailaaDoorPA08

namespace Go.Ax
open Go.Proofs Go.RowKit Go.Shelf Go.Lib
set_option maxRecDepth 10000
theorem sindex1_ctr (g : GP) (s : ByteArray) (c : UInt8) : Ctr (ax g).E 104 [.str s, .str ⟨#[c]⟩] [] fun o => o = .ret (.i64 (Lib.indexByte s.data.toList c)) [] :=
  Ctr.ofVal (E := (ax g).E) (f := 104) (xs := [.string s, .string ⟨#[c]⟩]) ⟨_, Tryd.func104, rfl, by decide +kernel⟩ rfl fun w _ => (Tryd.stringslite_Index_one s c w).mono fun e w' ⟨h1, h2⟩ => ⟨h1, by rw [h2]; exact Below.refl _ _⟩
def cutV (c : UInt8) (l : List UInt8) : AV := if Lib.indexByte l c = -1 then .tup [.str (baL l), .str ⟨#[]⟩, .bool false] else .tup [.str (baL (l.take (Lib.indexByte l c).toNat)), .str (baL (l.drop ((Lib.indexByte l c).toNat + 1))), .bool true]
theorem scut_ctr (g : GP) (s : ByteArray) (c : UInt8) (hs : s.size < 2 ^ 62) : Ctr (ax g).E 73 [.str s, .str ⟨#[c]⟩] [] fun o => o = .ret (cutV c s.data.toList) [] := by
  have hi := sindex1_ctr g s c
  have hl : s.data.toList.length = s.size := by rw [Array.length_toList]; rfl
  unfold cutV
  rcases index_one c s.data.toList with ⟨h1, h2⟩ | ⟨n, h1, h2, h3⟩ <;> rw [Go.Lib.index_one] at h1
  · rw [h1] at hi ⊢
    refine Ctr.body (X := ax g) _ 23 [] [.tmp 4, .tmp 5, .tmp 6] Tryd.func73 rfl rfl rfl rfl (by decide +kernel) rfl rfl ?_
    conv => whnf
    repeat' (first | (refine And.intro (by first | exact rfl | decide | exact Nat.le_of_ble_eq_true rfl | exact ⟨_, rfl⟩ | exact ⟨_, _, rfl⟩ | exact Nat.le_refl _ | exact Int.le_refl _ | omega | (simp only [List.length_map]; omega) | exact True.intro | (simp only [IntKind.wrap_i64, List.length_map]; omega) | (simp only [List.map_cons, List.map_nil, List.length_cons, Option.getD]; omega) | (simp only [bsz, ByteArray.size_append, List.size_toArray, List.length_cons, List.length_nil]; omega) | exact ⟨⟨_, _, rfl, rfl, Nat.le_of_ble_eq_true rfl⟩, trivial⟩ | exact ⟨⟨_, _, rfl, rfl, Nat.le_of_ble_eq_true rfl⟩, ⟨_, _, rfl, rfl, Nat.le_of_ble_eq_true rfl⟩, trivial⟩ | exact ⟨⟨_, _, rfl, rfl, Nat.le_of_ble_eq_true rfl⟩, ⟨_, _, rfl, rfl, Nat.le_of_ble_eq_true rfl⟩, ⟨_, _, rfl, rfl, Nat.le_of_ble_eq_true rfl⟩, trivial⟩) ?_; conv => whnf) | (refine ifB_intro (fun hA => ?_) (fun hA => ?_) <;> (try rw [hA]) <;> (conv => whnf) <;> (first | replace hA := of_decide_eq_true hA | replace hA := of_decide_eq_false hA | replace hA := eq_of_beq hA | replace hA := ne_of_beq_false hA | replace hA := bne_iff_ne.1 hA | replace hA := bne_eq_false_iff_eq.1 hA | skip) <;> (try simp only [List.length_map, cond_true, cond_false, Bool.not_eq_true', Bool.not_eq_false', beq_iff_eq, beq_eq_false_iff_ne, ne_eq] at hA)) | (refine CallP.det (hi) ?_; conv => whnf) | (refine CallD.det (hi) ?_; conv => whnf) | (rw [getD_map _ _ _ _ (by assumption)]; conv => whnf))
    refine ⟨⟨[], ?_⟩⟩
    conv => whnf
    rw [if_pos rfl, ba_of]
  · rw [h1] at hi ⊢
    have hw1 : IntKind.i64.wrap ((n : Int) + ((⟨#[c]⟩ : ByteArray).size : Int)) = ((n + 1 : Nat) : Int) := by rw [show ((⟨#[c]⟩ : ByteArray).size : Int) = 1 from rfl, IntKind.wrap_i64]; omega
    refine Ctr.body (X := ax g) _ 23 [] [.tmp 4, .tmp 5, .tmp 6] Tryd.func73 rfl rfl rfl rfl (by decide +kernel) rfl rfl ?_
    conv => whnf
    repeat' (first | (refine And.intro (by first | exact rfl | decide | exact Nat.le_of_ble_eq_true rfl | exact ⟨_, rfl⟩ | exact ⟨_, _, rfl⟩ | exact Nat.le_refl _ | exact Int.le_refl _ | omega | (simp only [List.length_map]; omega) | exact True.intro | (simp only [IntKind.wrap_i64]; omega) | (simp only [Option.getD]; omega) | (simp only [bsz, ByteArray.size_append, List.size_toArray, List.length_cons, List.length_nil]; omega) | exact ⟨⟨_, _, rfl, rfl, Nat.le_of_ble_eq_true rfl⟩, trivial⟩ | exact ⟨⟨_, _, rfl, rfl, Nat.le_of_ble_eq_true rfl⟩, ⟨_, _, rfl, rfl, Nat.le_of_ble_eq_true rfl⟩, trivial⟩ | exact ⟨⟨_, _, rfl, rfl, Nat.le_of_ble_eq_true rfl⟩, ⟨_, _, rfl, rfl, Nat.le_of_ble_eq_true rfl⟩, ⟨_, _, rfl, rfl, Nat.le_of_ble_eq_true rfl⟩, trivial⟩) ?_; conv => whnf) | (refine ifB_intro (fun hA => ?_) (fun hA => ?_) <;> (try rw [hA]) <;> (conv => whnf) <;> (first | replace hA := of_decide_eq_true hA | replace hA := of_decide_eq_false hA | replace hA := eq_of_beq hA | replace hA := ne_of_beq_false hA | replace hA := bne_iff_ne.1 hA | replace hA := bne_eq_false_iff_eq.1 hA | skip) <;> (try simp only [List.length_map, cond_true, cond_false, Bool.not_eq_true', Bool.not_eq_false', beq_iff_eq, beq_eq_false_iff_ne, ne_eq] at hA)) | (refine CallP.det (hi) ?_; conv => whnf) | (refine CallD.det (hi) ?_; conv => whnf) | (refine DrawP.intro (X := ax g) (id := 3) B73_3 (by kernel_rfl) (by decide +kernel) ?_; conv => whnf) | (rw [hw1]; conv => whnf) | (exfalso; omega) | (refine And.intro (show (0 : Int) ≤ (n : Int) by omega) ?_; conv => whnf) | (refine And.intro (show (n : Int) ≤ (s.size : Int) by omega) ?_; conv => whnf) | (refine And.intro (show ((n + 1 : Nat) : Int) ≤ (s.size : Int) by omega) ?_; conv => whnf) | (rw [getD_map _ _ _ _ (by assumption)]; conv => whnf))
    have e1 : s.extract ((none : Option Int).getD 0).toNat ((some (n : Int)).getD ((s.size : Nat) : Int)).toNat = baL (s.data.toList.take n) := by rw [← sub_take (by omega)]; rfl
    have e2 : s.extract ((some (((n + 1 : Nat) : Int))).getD 0).toNat ((none : Option Int).getD ((s.size : Nat) : Int)).toNat = baL (s.data.toList.drop (n + 1)) := by rw [← sub_drop]; rfl
    refine ⟨⟨[], ?_⟩⟩
    conv => whnf
    rw [if_neg (by omega), e1, e2]
    rfl
theorem cut_ctr (g : GP) (s : ByteArray) (c : UInt8) (hs : s.size < 2 ^ 62) : Ctr (ax g).E 45 [.str s, .str ⟨#[c]⟩] [] fun o => o = .ret (cutV c s.data.toList) [] := by
  have h := scut_ctr g s c hs
  unfold cutV at h ⊢
  split at h <;> rename_i hc
  · rw [if_pos hc]
    refine Ctr.body (X := ax g) _ 13 [] [.tmp 4, .tmp 5, .tmp 6] Tryd.func45 rfl rfl rfl rfl (by decide +kernel) rfl rfl ?_
    conv => whnf
    repeat' (first | (refine And.intro (by first | exact rfl | decide | exact Nat.le_of_ble_eq_true rfl | exact ⟨_, rfl⟩ | exact ⟨_, _, rfl⟩ | exact Nat.le_refl _ | exact Int.le_refl _ | omega | (simp only [List.length_map]; omega) | exact True.intro | (simp only [IntKind.wrap_i64, List.length_map]; omega) | (simp only [List.map_cons, List.map_nil, List.length_cons, Option.getD]; omega) | (simp only [bsz, ByteArray.size_append, List.size_toArray, List.length_cons, List.length_nil]; omega) | exact ⟨⟨_, _, rfl, rfl, Nat.le_of_ble_eq_true rfl⟩, trivial⟩ | exact ⟨⟨_, _, rfl, rfl, Nat.le_of_ble_eq_true rfl⟩, ⟨_, _, rfl, rfl, Nat.le_of_ble_eq_true rfl⟩, trivial⟩ | exact ⟨⟨_, _, rfl, rfl, Nat.le_of_ble_eq_true rfl⟩, ⟨_, _, rfl, rfl, Nat.le_of_ble_eq_true rfl⟩, ⟨_, _, rfl, rfl, Nat.le_of_ble_eq_true rfl⟩, trivial⟩) ?_; conv => whnf) | (refine ifB_intro (fun hA => ?_) (fun hA => ?_) <;> (try rw [hA]) <;> (conv => whnf) <;> (first | replace hA := of_decide_eq_true hA | replace hA := of_decide_eq_false hA | replace hA := eq_of_beq hA | replace hA := ne_of_beq_false hA | replace hA := bne_iff_ne.1 hA | replace hA := bne_eq_false_iff_eq.1 hA | skip) <;> (try simp only [List.length_map, cond_true, cond_false, Bool.not_eq_true', Bool.not_eq_false', beq_iff_eq, beq_eq_false_iff_ne, ne_eq] at hA)) | (refine CallP.det (h) ?_; conv => whnf) | (refine CallD.det (h) ?_; conv => whnf) | (rw [getD_map _ _ _ _ (by assumption)]; conv => whnf))
    refine ⟨⟨[], ?_⟩⟩
    conv => whnf
  · rw [if_neg hc]
    refine Ctr.body (X := ax g) _ 13 [] [.tmp 4, .tmp 5, .tmp 6] Tryd.func45 rfl rfl rfl rfl (by decide +kernel) rfl rfl ?_
    conv => whnf
    repeat' (first | (refine And.intro (by first | exact rfl | decide | exact Nat.le_of_ble_eq_true rfl | exact ⟨_, rfl⟩ | exact ⟨_, _, rfl⟩ | exact Nat.le_refl _ | exact Int.le_refl _ | omega | (simp only [List.length_map]; omega) | exact True.intro | (simp only [IntKind.wrap_i64, List.length_map]; omega) | (simp only [List.map_cons, List.map_nil, List.length_cons, Option.getD]; omega) | (simp only [bsz, ByteArray.size_append, List.size_toArray, List.length_cons, List.length_nil]; omega) | exact ⟨⟨_, _, rfl, rfl, Nat.le_of_ble_eq_true rfl⟩, trivial⟩ | exact ⟨⟨_, _, rfl, rfl, Nat.le_of_ble_eq_true rfl⟩, ⟨_, _, rfl, rfl, Nat.le_of_ble_eq_true rfl⟩, trivial⟩ | exact ⟨⟨_, _, rfl, rfl, Nat.le_of_ble_eq_true rfl⟩, ⟨_, _, rfl, rfl, Nat.le_of_ble_eq_true rfl⟩, ⟨_, _, rfl, rfl, Nat.le_of_ble_eq_true rfl⟩, trivial⟩) ?_; conv => whnf) | (refine ifB_intro (fun hA => ?_) (fun hA => ?_) <;> (try rw [hA]) <;> (conv => whnf) <;> (first | replace hA := of_decide_eq_true hA | replace hA := of_decide_eq_false hA | replace hA := eq_of_beq hA | replace hA := ne_of_beq_false hA | replace hA := bne_iff_ne.1 hA | replace hA := bne_eq_false_iff_eq.1 hA | skip) <;> (try simp only [List.length_map, cond_true, cond_false, Bool.not_eq_true', Bool.not_eq_false', beq_iff_eq, beq_eq_false_iff_ne, ne_eq] at hA)) | (refine CallP.det (h) ?_; conv => whnf) | (refine CallD.det (h) ?_; conv => whnf) | (rw [getD_map _ _ _ _ (by assumption)]; conv => whnf))
    refine ⟨⟨[], ?_⟩⟩
    conv => whnf
def digB10 : ByteArray := ⟨#[48, 49, 50, 51, 52, 53, 54, 55, 56, 57]⟩
def digC (i : Nat) : List D := (List.range 256).map fun c => .v (.bool (decide (48 ≤ c) && decide (c < 48 + i)))
theorem digC_len (i : Nat) : (digC i).length = 256 := by simp [digC]
theorem digC_get (i c : Nat) (h : c < 256) : (digC i).getD c (.v undef) = .v (.bool (decide (48 ≤ c) && decide (c < 48 + i))) := by
  unfold digC; simp [List.getD, h]
theorem digC_set (i : Nat) (hi : i < 10) : (digC i).set (48 + i) (.v (.bool true)) = digC (i + 1) := by
  apply List.ext_getElem
  · simp [digC]
  · intro c h1 h2
    have hc : c < 256 := by simpa [digC] using h2
    rw [List.getElem_set]
    by_cases h : 48 + i = c
    · subst h; simp [digC]
    · rw [if_neg h]
      simp only [digC, List.getElem_map, List.getElem_range]
      congr 3
      rw [Bool.eq_iff_iff]; simp; omega
theorem digC_zero : digC 0 = List.map D.v (List.replicate 256 (.bool false)) := by
  apply List.ext_getElem
  · simp [digC]
  · intro c h1 h2
    simp only [digC, List.getElem_map, List.getElem_range, List.getElem_replicate]
    congr 2
    rw [Bool.eq_false_iff]; simp
theorem splice_one {α : Type} (l : List α) (x : α) (i : Nat) (h : i < l.length) : splice l [x] i = l.set i x := by
  unfold splice
  rw [List.set_eq_take_append_cons_drop, if_pos h]
  simp
theorem set_ctr (g : GP) : Ctr (ax g).E 107 [.str digB10] [] fun o => o = .ret (.tup [.dagg (digC 10), .bool true]) [] := by
  refine Ctr.body (X := ax g) _ 21 [] [.cell 2 170, .tmp 3] Tryd.func107 rfl rfl rfl rfl (by decide +kernel) rfl rfl ?_
  conv => whnf
  refine LoopP.inv (X := ax g) (fun i : Nat => { f := [(0, .str digB10), (2, .ptr 2 0), (3, .bool false), (4, .i64 i)], h := [(2, some (.dvar 256 (digC i)))] }) (fun i => i ≤ 10) (fun i => 10 - i) 0 (Nat.zero_le _) ⟨⟨rfl, rfl, rfl, rfl, trivial⟩, ⟨fun o h => ?_, trivial⟩⟩ fun i hi => ?_
  · rw [← h, digC_zero]; rfl
  have hby : ∀ i : Nat, i < 10 → byteAt digB10 ((i : Nat) : Int) = ((48 + i : Nat) : Int) := by decide
  conv => whnf
  refine ifB_intro (fun h => ?_) (fun h => ?_)
  · have h : i < 10 := by have h0 := of_decide_eq_true h; have : (digB10.size : Int) = 10 := rfl; omega
    have hb := hby i h
    conv => whnf
    repeat' (first | (refine And.intro (by first | exact rfl | decide | exact Nat.le_of_ble_eq_true rfl | exact ⟨_, rfl⟩ | exact ⟨_, _, rfl⟩ | exact Nat.le_refl _ | exact Int.le_refl _ | omega | (simp only []; omega) | exact True.intro | (simp only [IntKind.wrap_i64, List.length_map]; omega) | (simp only [List.map_cons, List.map_nil, List.length_cons, Option.getD]; omega) | (simp only [bsz, ByteArray.size_append, List.size_toArray, List.length_cons, List.length_nil]; omega) | exact ⟨⟨_, _, rfl, rfl, Nat.le_of_ble_eq_true rfl⟩, trivial⟩ | exact ⟨⟨_, _, rfl, rfl, Nat.le_of_ble_eq_true rfl⟩, ⟨_, _, rfl, rfl, Nat.le_of_ble_eq_true rfl⟩, trivial⟩ | exact ⟨⟨_, _, rfl, rfl, Nat.le_of_ble_eq_true rfl⟩, ⟨_, _, rfl, rfl, Nat.le_of_ble_eq_true rfl⟩, ⟨_, _, rfl, rfl, Nat.le_of_ble_eq_true rfl⟩, trivial⟩) ?_; conv => whnf) | (refine ifB_intro (fun hA => ?_) (fun hA => ?_) <;> (try rw [hA]) <;> (conv => whnf) <;> (first | replace hA := of_decide_eq_true hA | replace hA := of_decide_eq_false hA | replace hA := eq_of_beq hA | replace hA := ne_of_beq_false hA | replace hA := bne_iff_ne.1 hA | replace hA := bne_eq_false_iff_eq.1 hA | skip) <;> (try simp only [List.length_map, cond_true, cond_false, Bool.not_eq_true', Bool.not_eq_false', beq_iff_eq, beq_eq_false_iff_ne, ne_eq] at hA)) | (refine And.intro (show (i : Int) < (digB10.size : Int) from by have : (digB10.size : Int) = 10 := rfl; omega) ?_; conv => whnf) | (rw [hb]; conv => whnf) | (exfalso; omega) | (rw [getD_map _ _ _ _ (by assumption)]; conv => whnf))
    have hs : splice (digC i) [D.v (.bool true)] (0 + ((48 + i : Nat) : Int).toNat * 1) = digC (i + 1) := by
      rw [splice_one _ _ _ (by rw [digC_len]; omega), ← digC_set i h]
      congr 1
      omega
    exact ⟨i + 1, by omega, by omega, ⟨⟨rfl, rfl, rfl, AV.int_eq (i64_succ (by omega)), trivial⟩, ⟨fun o h' => by rw [← h', ← hs]; rfl, trivial⟩⟩⟩
  · have h : i = 10 := by have h0 := of_decide_eq_false h; have : (digB10.size : Int) = 10 := rfl; omega
    subst h
    conv => whnf
    repeat' (first | (refine And.intro (by first | exact rfl | decide | exact Nat.le_of_ble_eq_true rfl | exact ⟨_, rfl⟩ | exact ⟨_, _, rfl⟩ | exact Nat.le_refl _ | exact Int.le_refl _ | omega | (simp only [List.length_map]; omega) | exact True.intro | (simp only [IntKind.wrap_i64, List.length_map]; omega) | (simp only [List.map_cons, List.map_nil, List.length_cons, Option.getD]; omega) | (simp only [bsz, ByteArray.size_append, List.size_toArray, List.length_cons, List.length_nil]; omega) | exact ⟨⟨_, _, rfl, rfl, Nat.le_of_ble_eq_true rfl⟩, trivial⟩ | exact ⟨⟨_, _, rfl, rfl, Nat.le_of_ble_eq_true rfl⟩, ⟨_, _, rfl, rfl, Nat.le_of_ble_eq_true rfl⟩, trivial⟩ | exact ⟨⟨_, _, rfl, rfl, Nat.le_of_ble_eq_true rfl⟩, ⟨_, _, rfl, rfl, Nat.le_of_ble_eq_true rfl⟩, ⟨_, _, rfl, rfl, Nat.le_of_ble_eq_true rfl⟩, trivial⟩) ?_; conv => whnf) | (refine ifB_intro (fun hA => ?_) (fun hA => ?_) <;> (try rw [hA]) <;> (conv => whnf) <;> (first | replace hA := of_decide_eq_true hA | replace hA := of_decide_eq_false hA | replace hA := eq_of_beq hA | replace hA := ne_of_beq_false hA | replace hA := bne_iff_ne.1 hA | replace hA := bne_eq_false_iff_eq.1 hA | skip) <;> (try simp only [List.length_map, cond_true, cond_false, Bool.not_eq_true', Bool.not_eq_false', beq_iff_eq, beq_eq_false_iff_ne, ne_eq] at hA)) | (refine And.intro (show 0 + 256 ≤ (digC 10).length by rw [digC_len]; omega) ?_; conv => whnf) | (rw [getD_map _ _ _ _ (by assumption)]; conv => whnf))
    have hct : cut 0 256 (digC 10) = digC 10 := by
      unfold cut
      rw [List.drop_zero, List.take_of_length_le (by rw [digC_len]; omega)]
    refine ⟨⟨[], ?_⟩⟩
    conv => whnf
    repeat' (first | (refine And.intro (by first | exact rfl | decide | exact Nat.le_of_ble_eq_true rfl | exact ⟨_, rfl⟩ | exact ⟨_, _, rfl⟩ | exact Nat.le_refl _ | exact Int.le_refl _ | omega | (simp only [List.length_map]; omega) | exact True.intro | (simp only [IntKind.wrap_i64, List.length_map]; omega) | (simp only [List.map_cons, List.map_nil, List.length_cons, Option.getD]; omega) | (simp only [bsz, ByteArray.size_append, List.size_toArray, List.length_cons, List.length_nil]; omega) | exact ⟨⟨_, _, rfl, rfl, Nat.le_of_ble_eq_true rfl⟩, trivial⟩ | exact ⟨⟨_, _, rfl, rfl, Nat.le_of_ble_eq_true rfl⟩, ⟨_, _, rfl, rfl, Nat.le_of_ble_eq_true rfl⟩, trivial⟩ | exact ⟨⟨_, _, rfl, rfl, Nat.le_of_ble_eq_true rfl⟩, ⟨_, _, rfl, rfl, Nat.le_of_ble_eq_true rfl⟩, ⟨_, _, rfl, rfl, Nat.le_of_ble_eq_true rfl⟩, trivial⟩) ?_; conv => whnf) | (refine ifB_intro (fun hA => ?_) (fun hA => ?_) <;> (try rw [hA]) <;> (conv => whnf) <;> (first | replace hA := of_decide_eq_true hA | replace hA := of_decide_eq_false hA | replace hA := eq_of_beq hA | replace hA := ne_of_beq_false hA | replace hA := bne_iff_ne.1 hA | replace hA := bne_eq_false_iff_eq.1 hA | skip) <;> (try simp only [List.length_map, cond_true, cond_false, Bool.not_eq_true', Bool.not_eq_false', beq_iff_eq, beq_eq_false_iff_ne, ne_eq] at hA)) | (rw [hct]; conv => whnf) | (rw [getD_map _ _ _ _ (by assumption)]; conv => whnf))
    rw [hct]
theorem byteAt_ba (l : List UInt8) (i : Nat) (h : i < l.length) : byteAt (baL l) ((i : Nat) : Int) = (l[i].toNat : Int) := by
  have hs : i < (baL l).size := by show i < l.toArray.size; simpa using h
  unfold byteAt
  rw [Int.toNat_natCast, dif_pos hs]
  rfl
theorem ba_size (l : List UInt8) : (baL l).size = l.length := by show l.toArray.size = _; simp
theorem contains_ctr' (g : GP) (c : UInt8) : Ctr (ax g).E 143 [.ptr 9300 0, .d (.v (.int .u8 c.toNat))] [(9300, some (.dvar 256 (digC 10)))] fun o => o = .ret (.bool (isD c)) [(9300, some (.dvar 256 (digC 10)))] := by
  have hc := c.toNat_lt
  have hg : (digC 10).getD (0 + (c.toNat : Int).toNat * 1) (.v undef) = .v (.bool (isD c)) := by
    rw [show 0 + (c.toNat : Int).toNat * 1 = c.toNat from by omega, digC_get 10 c.toNat (by omega)]
    unfold isD
    congr 3
    rw [Bool.eq_iff_iff]; simp; omega
  refine Ctr.body (X := ax g) _ 10 [9300] [.tmp 4] Tryd.func143 rfl rfl rfl rfl (by decide +kernel) rfl rfl ?_
  conv => whnf
  repeat' (first | (refine And.intro (by first | exact rfl | decide | exact Nat.le_of_ble_eq_true rfl | exact ⟨_, rfl⟩ | exact ⟨_, _, rfl⟩ | exact Nat.le_refl _ | exact Int.le_refl _ | omega | (simp only []; omega) | exact True.intro | (simp only []; omega) | (simp only []; omega) | (simp only []; omega) | exact ⟨⟨_, _, rfl, rfl, Nat.le_of_ble_eq_true rfl⟩, trivial⟩ | exact ⟨⟨_, _, rfl, rfl, Nat.le_of_ble_eq_true rfl⟩, ⟨_, _, rfl, rfl, Nat.le_of_ble_eq_true rfl⟩, trivial⟩ | exact ⟨⟨_, _, rfl, rfl, Nat.le_of_ble_eq_true rfl⟩, ⟨_, _, rfl, rfl, Nat.le_of_ble_eq_true rfl⟩, ⟨_, _, rfl, rfl, Nat.le_of_ble_eq_true rfl⟩, trivial⟩) ?_; conv => whnf) | (refine ifB_intro (fun hA => ?_) (fun hA => ?_) <;> (try rw [hA]) <;> (conv => whnf) <;> (first | replace hA := of_decide_eq_true hA | replace hA := of_decide_eq_false hA | replace hA := eq_of_beq hA | replace hA := ne_of_beq_false hA | replace hA := bne_iff_ne.1 hA | replace hA := bne_eq_false_iff_eq.1 hA | skip) <;> (try simp only [List.length_map, cond_true, cond_false, Bool.not_eq_true', Bool.not_eq_false', beq_iff_eq, beq_eq_false_iff_ne, ne_eq] at hA)) | (refine And.intro (show 0 + (c.toNat : Int).toNat * 1 + 1 ≤ (digC 10).length by rw [digC_len]; omega) ?_; conv => whnf) | (rw [hg]; conv => whnf) | (rw [getD_map _ _ _ _ (by assumption)]; conv => whnf))
  refine ⟨⟨[(9300, some (.dvar 256 (digC 10)))], ?_⟩⟩
  conv => whnf
  refine And.intro ⟨fun o h => h, trivial⟩ ?_
  conv => whnf
def trimR (l : List UInt8) : List UInt8 := (l.reverse.dropWhile isD).reverse
theorem trimR_snoc (l : List UInt8) (c : UInt8) : trimR (l ++ [c]) = if isD c then trimR l else l ++ [c] := by
  unfold trimR
  rw [List.reverse_append, List.reverse_singleton, List.singleton_append, List.dropWhile_cons]
  split
  · rfl
  · simp
theorem trimRight_ctr (g : GP) (l : List UInt8) (hl : l.length < 2 ^ 62) : Ctr (ax g).E 109 [.str (baL l), .ptr 9300 0] [(9300, some (.dvar 256 (digC 10)))] fun o => o = .ret (.str (baL (trimR l))) [(9300, some (.dvar 256 (digC 10)))] := by
  refine Ctr.body (X := ax g) _ 22 [9300] [.tmp 4] Tryd.func109 rfl rfl rfl rfl (by decide +kernel) rfl rfl ?_
  conv => whnf
  refine LoopP.inv (X := ax g) (fun m : List UInt8 => { f := [(0, .str (baL m)), (1, .ptr 9300 0)], h := [(9300, some (.dvar 256 (digC 10)))] }) (fun m => m.length ≤ l.length ∧ trimR l = trimR m) (fun m => m.length) l ⟨Nat.le_refl _, rfl⟩ ⟨⟨rfl, rfl, trivial⟩, ⟨fun o h => h, trivial⟩⟩ fun m ⟨hm, he⟩ => ?_
  have hms := ba_size m
  conv => whnf
  refine ifB_intro (fun h => ?_) (fun h => ?_)
  · have h0 : 0 < m.length := by have h0 := of_decide_eq_true h; omega
    obtain ⟨m', c, rfl⟩ : ∃ m' c, m = m' ++ [c] := by
      rcases List.eq_nil_or_concat m with h1 | ⟨m', c, h1⟩
      · rw [h1] at h0; simp at h0
      · exact ⟨m', c, by rw [h1, List.concat_eq_append]⟩
    have hl1 : (m' ++ [c]).length = m'.length + 1 := by simp
    have hw : IntKind.i64.wrap (((baL (m' ++ [c])).size : Int) - 1) = ((m'.length : Nat) : Int) := by rw [hms, hl1, IntKind.wrap_i64]; omega
    have hb : byteAt (baL (m' ++ [c])) ((m'.length : Nat) : Int) = (c.toNat : Int) := by
      rw [byteAt_ba _ _ (by omega)]
      simp
    have e1 : (baL (m' ++ [c])).extract ((none : Option Int).getD 0).toNat ((some ((m'.length : Nat) : Int)).getD (((baL (m' ++ [c])).size : Nat) : Int)).toNat = baL m' := by
      have h5 := sub_take (s := baL (m' ++ [c])) (n := m'.length) (by omega)
      rw [ba_toList, List.take_left] at h5
      rw [← h5]; rfl
    have hc := contains_ctr' g c
    rw [trimR_snoc] at he
    conv => whnf
    repeat' (first | (refine And.intro (by first | exact rfl | decide | exact Nat.le_of_ble_eq_true rfl | exact ⟨_, rfl⟩ | exact ⟨_, _, rfl⟩ | exact Nat.le_refl _ | exact Int.le_refl _ | omega | (simp only [List.length_map]; omega) | exact True.intro | (simp only [IntKind.wrap_i64]; omega) | (simp only [Option.getD]; omega) | (simp only [bsz, ByteArray.size_append, List.size_toArray, List.length_cons, List.length_nil]; omega) | exact ⟨⟨_, _, rfl, rfl, Nat.le_of_ble_eq_true rfl⟩, trivial⟩ | exact ⟨⟨_, _, rfl, rfl, Nat.le_of_ble_eq_true rfl⟩, ⟨_, _, rfl, rfl, Nat.le_of_ble_eq_true rfl⟩, trivial⟩ | exact ⟨⟨_, _, rfl, rfl, Nat.le_of_ble_eq_true rfl⟩, ⟨_, _, rfl, rfl, Nat.le_of_ble_eq_true rfl⟩, ⟨_, _, rfl, rfl, Nat.le_of_ble_eq_true rfl⟩, trivial⟩) ?_; conv => whnf) | (refine ifB_intro (fun hA => ?_) (fun hA => ?_) <;> (try rw [hA]) <;> (conv => whnf) <;> (first | replace hA := of_decide_eq_true hA | replace hA := of_decide_eq_false hA | replace hA := eq_of_beq hA | replace hA := ne_of_beq_false hA | replace hA := bne_iff_ne.1 hA | replace hA := bne_eq_false_iff_eq.1 hA | skip) <;> (try simp only [Bool.not_eq_true', Bool.not_eq_false'] at hA)) | (rw [hw]; conv => whnf) | (refine And.intro (show (0 : Int) ≤ ((m'.length : Nat) : Int) by omega) ?_; conv => whnf) | (refine And.intro (show ((m'.length : Nat) : Int) < ((baL (m' ++ [c])).size : Int) by omega) ?_; conv => whnf) | (refine And.intro (show ((m'.length : Nat) : Int) ≤ ((baL (m' ++ [c])).size : Int) by omega) ?_; conv => whnf) | (rw [hb]; conv => whnf) | (refine CallP.upd rfl (hc) ?_; conv => whnf) | (refine CallD.upd rfl (hc) ?_; conv => whnf) | (rw [getD_map _ _ _ _ (by assumption)]; conv => whnf))
    · refine ⟨⟨[(9300, some (.dvar 256 (digC 10)))], ?_⟩⟩
      conv => whnf
      refine And.intro ⟨fun o h => h, trivial⟩ ?_
      conv => whnf
      rw [he, if_neg (by rw [hA]; simp)]
    · exact ⟨m', ⟨by omega, by rw [he, if_pos hA]⟩, by omega, ⟨⟨by rw [← e1, ← hw]; rfl, rfl, trivial⟩, ⟨fun o h => h, trivial⟩⟩⟩
  · have h0 : m = [] := by
      have h0 := of_decide_eq_false h
      have : m.length = 0 := by omega
      exact List.eq_nil_of_length_eq_zero this
    subst h0
    conv => whnf
    refine ⟨⟨[(9300, some (.dvar 256 (digC 10)))], ?_⟩⟩
    conv => whnf
    refine And.intro ⟨fun o h => h, trivial⟩ ?_
    conv => whnf
    rw [he]; rfl
theorem trimLeft_ctr (g : GP) (l : List UInt8) (hl : l.length < 2 ^ 62) : Ctr (ax g).E 108 [.str (baL l), .ptr 9300 0] [(9300, some (.dvar 256 (digC 10)))] fun o => o = .ret (.str (baL (l.dropWhile isD))) [(9300, some (.dvar 256 (digC 10)))] := by
  refine Ctr.body (X := ax g) _ 16 [9300] [.tmp 4] Tryd.func108 rfl rfl rfl rfl (by decide +kernel) rfl rfl ?_
  conv => whnf
  refine LoopP.inv (X := ax g) (fun m : List UInt8 => { f := [(0, .str (baL m)), (1, .ptr 9300 0)], h := [(9300, some (.dvar 256 (digC 10)))] }) (fun m => m.length ≤ l.length ∧ l.dropWhile isD = m.dropWhile isD) (fun m => m.length) l ⟨Nat.le_refl _, rfl⟩ ⟨⟨rfl, rfl, trivial⟩, ⟨fun o h => h, trivial⟩⟩ fun m ⟨hm, he⟩ => ?_
  have hms := ba_size m
  conv => whnf
  refine ifB_intro (fun h => ?_) (fun h => ?_)
  · have h0 : 0 < m.length := by have h0 := of_decide_eq_true h; omega
    obtain ⟨c, m', rfl⟩ : ∃ c m', m = c :: m' := by
      cases m with
      | nil => simp at h0
      | cons c m' => exact ⟨c, m', rfl⟩
    have hl1 : (c :: m').length = m'.length + 1 := by simp
    have hb : byteAt (baL (c :: m')) 0 = (c.toNat : Int) := byteAt_ba (c :: m') 0 (by omega)
    have e1 : (baL (c :: m')).extract ((some (1 : Int)).getD 0).toNat ((none : Option Int).getD (((baL (c :: m')).size : Nat) : Int)).toNat = baL m' := by
      have h5 := sub_drop (s := baL (c :: m')) (n := 1)
      rw [ba_toList] at h5
      exact h5
    have hc := contains_ctr' g c
    rw [List.dropWhile_cons] at he
    conv => whnf
    repeat' (first | (refine And.intro (by first | exact rfl | decide | exact Nat.le_of_ble_eq_true rfl | exact ⟨_, rfl⟩ | exact ⟨_, _, rfl⟩ | exact Nat.le_refl _ | exact Int.le_refl _ | omega | (simp only [List.length_map]; omega) | exact True.intro | (simp only [IntKind.wrap_i64, List.length_map]; omega) | (simp only [Option.getD]; omega) | (simp only [bsz, ByteArray.size_append, List.size_toArray, List.length_cons, List.length_nil]; omega) | exact ⟨⟨_, _, rfl, rfl, Nat.le_of_ble_eq_true rfl⟩, trivial⟩ | exact ⟨⟨_, _, rfl, rfl, Nat.le_of_ble_eq_true rfl⟩, ⟨_, _, rfl, rfl, Nat.le_of_ble_eq_true rfl⟩, trivial⟩ | exact ⟨⟨_, _, rfl, rfl, Nat.le_of_ble_eq_true rfl⟩, ⟨_, _, rfl, rfl, Nat.le_of_ble_eq_true rfl⟩, ⟨_, _, rfl, rfl, Nat.le_of_ble_eq_true rfl⟩, trivial⟩) ?_; conv => whnf) | (refine ifB_intro (fun hA => ?_) (fun hA => ?_) <;> (try rw [hA]) <;> (conv => whnf) <;> (first | replace hA := of_decide_eq_true hA | replace hA := of_decide_eq_false hA | replace hA := eq_of_beq hA | replace hA := ne_of_beq_false hA | replace hA := bne_iff_ne.1 hA | replace hA := bne_eq_false_iff_eq.1 hA | skip) <;> (try simp only [Bool.not_eq_true', Bool.not_eq_false'] at hA)) | (refine And.intro (show (0 : Int) < ((baL (c :: m')).size : Int) by omega) ?_; conv => whnf) | (refine And.intro (show (1 : Int) ≤ ((baL (c :: m')).size : Int) by omega) ?_; conv => whnf) | (rw [hb]; conv => whnf) | (refine CallP.upd rfl (hc) ?_; conv => whnf) | (refine CallD.upd rfl (hc) ?_; conv => whnf) | (rw [getD_map _ _ _ _ (by assumption)]; conv => whnf))
    · refine ⟨⟨[(9300, some (.dvar 256 (digC 10)))], ?_⟩⟩
      conv => whnf
      refine And.intro ⟨fun o h => h, trivial⟩ ?_
      conv => whnf
      rw [he, if_neg (by rw [hA]; simp)]
    · exact ⟨m', ⟨by omega, by rw [he, if_pos hA]⟩, by omega, ⟨⟨by rw [← e1]; rfl, rfl, trivial⟩, ⟨fun o h => h, trivial⟩⟩⟩
  · have h0 : m = [] := by
      have h0 := of_decide_eq_false h
      have : m.length = 0 := by omega
      exact List.eq_nil_of_length_eq_zero this
    subst h0
    conv => whnf
    refine ⟨⟨[(9300, some (.dvar 256 (digC 10)))], ?_⟩⟩
    conv => whnf
    refine And.intro ⟨fun o h => h, trivial⟩ ?_
    conv => whnf
    rw [he]; rfl
def trimD (l : List UInt8) : List UInt8 := (trimR l).dropWhile isD
theorem trimR_len (l : List UInt8) : (trimR l).length ≤ l.length := by
  unfold trimR
  have := (List.dropWhile_sublist (l := l.reverse) isD).length_le
  simpa using this
theorem drop_all {l : List UInt8} : (l.dropWhile isD).all isD = true → l.all isD = true := by
  induction l with
  | nil => simp
  | cons c r ih =>
    rw [List.dropWhile_cons]
    split
    · rename_i hc
      intro h
      rw [List.all_cons, hc, ih h]; rfl
    · exact fun h => h
theorem trimD_nil (l : List UInt8) : trimD l = [] ↔ l.all isD = true := by
  unfold trimD
  have h1 : ∀ x : List UInt8, x.dropWhile isD = [] ↔ x.all isD = true := fun x => by
    constructor
    · intro h; exact drop_all (by rw [h]; rfl)
    · intro h
      induction x with
      | nil => rfl
      | cons c r ih =>
        rw [List.all_cons, Bool.and_eq_true] at h
        rw [List.dropWhile_cons, if_pos h.1]; exact ih h.2
  rw [h1]
  unfold trimR
  rw [List.all_reverse]
  constructor
  · intro h; have := drop_all h; rwa [List.all_reverse] at this
  · intro h
    have : l.reverse.dropWhile isD = [] := (h1 _).2 (by rw [List.all_reverse]; exact h)
    rw [this]; rfl
theorem trim_ctr (g : GP) (l : List UInt8) (hl : l.length < 2 ^ 62) : Ctr (ax g).E 74 [.str (baL l), .str digB10] [] fun o => o = .ret (.str (baL (trimD l))) [] := by
  have h1 := (trimRight_ctr g l hl).swap 5 9300
  have h2 := (trimLeft_ctr g (trimR l) (by have := trimR_len l; omega)).swap 5 9300
  refine Ctr.body (X := ax g) _ 43 [] [.tmp 4] Tryd.func74 rfl rfl rfl rfl (by decide +kernel) rfl rfl ?_
  conv => whnf
  repeat' (first | (refine And.intro (by first | exact rfl | decide | exact Nat.le_of_ble_eq_true rfl | exact ⟨_, rfl⟩ | exact ⟨_, _, rfl⟩ | exact Nat.le_refl _ | exact Int.le_refl _ | omega | (simp only [List.length_map]; omega) | exact True.intro | (simp only [IntKind.wrap_i64, List.length_map]; omega) | (simp only [List.map_cons, List.map_nil, List.length_cons, Option.getD]; omega) | (simp only [bsz, ByteArray.size_append, List.size_toArray, List.length_cons, List.length_nil]; omega) | exact ⟨⟨_, _, rfl, rfl, Nat.le_of_ble_eq_true rfl⟩, trivial⟩ | exact ⟨⟨_, _, rfl, rfl, Nat.le_of_ble_eq_true rfl⟩, ⟨_, _, rfl, rfl, Nat.le_of_ble_eq_true rfl⟩, trivial⟩ | exact ⟨⟨_, _, rfl, rfl, Nat.le_of_ble_eq_true rfl⟩, ⟨_, _, rfl, rfl, Nat.le_of_ble_eq_true rfl⟩, ⟨_, _, rfl, rfl, Nat.le_of_ble_eq_true rfl⟩, trivial⟩) ?_; conv => whnf) | (refine ifB_intro (fun hA => ?_) (fun hA => ?_) <;> (try rw [hA]) <;> (conv => whnf) <;> (first | replace hA := of_decide_eq_true hA | replace hA := of_decide_eq_false hA | replace hA := eq_of_beq hA | replace hA := ne_of_beq_false hA | replace hA := bne_iff_ne.1 hA | replace hA := bne_eq_false_iff_eq.1 hA | skip) <;> (try simp only [ne_eq] at hA)) | (refine CallP.det (set_ctr g) ?_; conv => whnf) | (refine CallD.det (set_ctr g) ?_; conv => whnf) | (refine CallP.upd rfl (h1) ?_; conv => whnf) | (refine CallD.upd rfl (h1) ?_; conv => whnf) | (refine CallP.upd rfl (h2) ?_; conv => whnf) | (refine CallD.upd rfl (h2) ?_; conv => whnf) | (rw [getD_map _ _ _ _ (by assumption)]; conv => whnf))
  · rw [ba_toList] at hA
    subst hA
    refine ⟨⟨[], ?_⟩⟩
    conv => whnf
    rfl
  · refine ⟨⟨[], ?_⟩⟩
    conv => whnf
    rfl
def puV (l : List UInt8) : AV := match Lib.parseUintB 16 l with
  | .ok u => .tup [.d (.v (.int .u64 (u : Int))), .d (.v .nilIface)]
  | .range => .tup [.d (.v (.int .u64 65535)), .ifc 202 .junk]
  | _ => .tup [.d (.v (.int .u64 0)), .ifc 202 .junk]
theorem puV_ok {l : List UInt8} {u : Nat} (h : Lib.parseUintB 16 l = .ok u) : puV l = .tup [.d (.v (.int .u64 (u : Int))), .d (.v .nilIface)] := by unfold puV; rw [h]
theorem puV_range {l : List UInt8} (h : Lib.parseUintB 16 l = .range) : puV l = .tup [.d (.v (.int .u64 65535)), .ifc 202 .junk] := by unfold puV; rw [h]
theorem puV_bad {l : List UInt8} (h0 : ∀ v, Lib.parseUintB 16 l ≠ .ok v) (h1 : Lib.parseUintB 16 l ≠ .range) : puV l = .tup [.d (.v (.int .u64 0)), .ifc 202 .junk] := by
  unfold puV
  cases h : Lib.parseUintB 16 l <;> first | rfl | exact absurd h (h0 _) | exact absurd h h1
theorem pu_cases (l : List UInt8) : (∃ v, Lib.parseUintB 16 l = .ok v) ∨ ((∀ v, Lib.parseUintB 16 l ≠ .ok v) ∧ Lib.parseUintB 16 l ≠ .range) ∨ Lib.parseUintB 16 l = .range := by
  cases Lib.parseUintB 16 l <;> simp
theorem pu_ctr (g : GP) (hg : ∀ w, g.G w → ErrG w) (s : ByteArray) (hs : s.size ≤ 281474976710656) : Ctr (ax g).E 75 [.str s, .i64 10, .i64 16] [] fun o => o = .ret (puV s.data.toList) [] := by
  have hb : Bodied (ax g).E.P 75 := ⟨_, Tryd.func75, rfl, by decide +kernel⟩
  rcases pu_cases s.data.toList with ⟨v, h⟩ | ⟨h, h'⟩ | h
  · rw [puV_ok h]
    refine Ctr.ofAny (xs := [.string s, .int .i64 10, .int .i64 16]) hb (fun r => rfl) fun w hG => (Tryd.strconv_ParseUint_10_at16_ok s (by omega) v h w).mono fun e w' ⟨h1, h2⟩ => ⟨_, h1, fun h Im ρ => .tup2 (.d _ _ (.v _ rfl)) (.d _ _ (.v _ rfl)), ?_⟩
    rcases h2 with h2 | h2
    · rw [h2]; exact Below.refl _ _
    · rw [h2]; exact Go.Joins.below_bytesWorld _ _ _ _ (Nat.le_refl _)
  · rw [puV_bad h h']
    refine Ctr.ofAny (xs := [.string s, .int .i64 10, .int .i64 16]) hb (fun r => rfl) fun w hG => ?_
    obtain ⟨tp, p, hv⟩ := (hg w hG).syn
    exact (Tryd.strconv_ParseUint_10_at16_syntax_var s hs h h' tp p w hv).mono fun e w' ⟨N, h1, _, _, h2⟩ => ⟨_, h1, fun h Im ρ => .tup2 (.d _ _ (.v _ rfl)) (.ifc _ _ _ (.junk _)), h2⟩
  · rw [puV_range h]
    refine Ctr.ofAny (xs := [.string s, .int .i64 10, .int .i64 16]) hb (fun r => rfl) fun w hG => ?_
    obtain ⟨tp, p, hv⟩ := (hg w hG).rng
    exact (Tryd.strconv_ParseUint_10_at16_range_var s hs h tp p w hv).mono fun e w' ⟨N, h1, _, _, h2⟩ => ⟨_, h1, fun h Im ρ => .tup2 (.d _ _ (.v _ rfl)) (.ifc _ _ _ (.junk _)), h2⟩
def numW (l : List UInt8) : Nat := if l.length < 1 ∨ 5 < l.length ∨ l.all isD = false then 0 else if 65535 < valD 0 l then 65535 else valD 0 l
theorem number_ctr (g : GP) (hg : ∀ w, g.G w → ErrG w) (l : List UInt8) (hl : l.length < 2 ^ 40) : Ctr (ax g).E 46 [.str (baL l)] [] fun o => o = .ret (.tup [.d (.v (.int .u16 (numW l : Int))), .bool (numK l).isSome]) [] := by
  have h1 := trim_ctr g l (by omega)
  have hms := ba_size l
  have h2 := pu_ctr g hg (baL l) (by omega)
  rw [ba_toList] at h2
  unfold puV at h2
  have bad : (l.length < 1 ∨ 5 < l.length ∨ l.all isD = false) → numW l = 0 ∧ numK l = none := fun h => by
    unfold numW numK
    rw [if_pos h, if_pos]
    · exact ⟨rfl, rfl⟩
    · rcases h with h | h | h
      · exact .inl h
      · exact .inr (.inl h)
      · exact .inr (.inr (.inl h))
  refine Ctr.body (X := ax g) _ 27 [] [.tmp 2, .tmp 3] Tryd.func46 rfl rfl rfl rfl (by decide +kernel) rfl rfl ?_
  conv => whnf
  repeat' (first | (refine And.intro (by first | exact rfl | decide | exact Nat.le_of_ble_eq_true rfl | exact ⟨_, rfl⟩ | exact ⟨_, _, rfl⟩ | exact Nat.le_refl _ | exact Int.le_refl _ | omega | (simp only [List.length_map]; omega) | exact True.intro | (simp only [IntKind.wrap_i64, List.length_map]; omega) | (simp only [List.map_cons, List.map_nil, List.length_cons, Option.getD]; omega) | (simp only [bsz, ByteArray.size_append, List.size_toArray, List.length_cons, List.length_nil]; omega) | exact ⟨⟨_, _, rfl, rfl, Nat.le_of_ble_eq_true rfl⟩, trivial⟩ | exact ⟨⟨_, _, rfl, rfl, Nat.le_of_ble_eq_true rfl⟩, ⟨_, _, rfl, rfl, Nat.le_of_ble_eq_true rfl⟩, trivial⟩ | exact ⟨⟨_, _, rfl, rfl, Nat.le_of_ble_eq_true rfl⟩, ⟨_, _, rfl, rfl, Nat.le_of_ble_eq_true rfl⟩, ⟨_, _, rfl, rfl, Nat.le_of_ble_eq_true rfl⟩, trivial⟩) ?_; conv => whnf) | (refine ifB_intro (fun hA => ?_) (fun hA => ?_) <;> (try rw [hA]) <;> (conv => whnf) <;> (first | replace hA := of_decide_eq_true hA | replace hA := of_decide_eq_false hA | replace hA := eq_of_beq hA | replace hA := ne_of_beq_false hA | replace hA := bne_iff_ne.1 hA | replace hA := bne_eq_false_iff_eq.1 hA | skip) <;> (try simp only [ne_eq] at hA)) | (refine CallP.det (h1) ?_; conv => whnf) | (refine CallD.det (h1) ?_; conv => whnf) | (rw [getD_map _ _ _ _ (by assumption)]; conv => whnf))
  · rw [ba_toList] at hA
    obtain ⟨b1, b2⟩ := bad (.inl (by rw [hA]; simp))
    refine ⟨⟨[], ?_⟩⟩
    conv => whnf
    rw [b1, b2]; rfl
  · obtain ⟨b1, b2⟩ := bad (.inr (.inl (by omega)))
    refine ⟨⟨[], ?_⟩⟩
    conv => whnf
    rw [b1, b2]; rfl
  · rw [ba_toList, trimD_nil] at hA
    obtain ⟨b1, b2⟩ := bad (.inr (.inr (by simpa using hA)))
    refine ⟨⟨[], ?_⟩⟩
    conv => whnf
    rw [b1, b2]; rfl
  · rename_i hne h5
    rw [ba_toList] at hne
    rw [ba_toList, trimD_nil] at hA
    have hlen : 1 ≤ l.length := by
      rcases Nat.eq_zero_or_pos l.length with h | h
      · exact absurd (List.eq_nil_of_length_eq_zero h) hne
      · exact h
    have hb := parseB_digits l hlen (by omega) hA
    by_cases hv : 65535 < valD 0 l
    · rw [if_pos hv] at hb
      rw [hb] at h2
      have b1 : numW l = 65535 := by unfold numW; rw [if_neg, if_pos hv]; rintro (h | h | h); · omega
                                     · omega
                                     · rw [hA] at h; simp at h
      have b2 : numK l = none := by unfold numK; rw [if_pos (.inr (.inr (.inr hv)))]
      repeat' (first | (refine And.intro (by first | exact rfl | decide | exact Nat.le_of_ble_eq_true rfl | exact ⟨_, rfl⟩ | exact ⟨_, _, rfl⟩ | exact Nat.le_refl _ | exact Int.le_refl _ | omega | (simp only [List.length_map]; omega) | exact True.intro | (simp only [IntKind.wrap_i64, List.length_map]; omega) | (simp only [List.map_cons, List.map_nil, List.length_cons, Option.getD]; omega) | (simp only [bsz, ByteArray.size_append, List.size_toArray, List.length_cons, List.length_nil]; omega) | exact ⟨⟨_, _, rfl, rfl, Nat.le_of_ble_eq_true rfl⟩, trivial⟩ | exact ⟨⟨_, _, rfl, rfl, Nat.le_of_ble_eq_true rfl⟩, ⟨_, _, rfl, rfl, Nat.le_of_ble_eq_true rfl⟩, trivial⟩ | exact ⟨⟨_, _, rfl, rfl, Nat.le_of_ble_eq_true rfl⟩, ⟨_, _, rfl, rfl, Nat.le_of_ble_eq_true rfl⟩, ⟨_, _, rfl, rfl, Nat.le_of_ble_eq_true rfl⟩, trivial⟩) ?_; conv => whnf) | (refine ifB_intro (fun hA => ?_) (fun hA => ?_) <;> (try rw [hA]) <;> (conv => whnf) <;> (first | replace hA := of_decide_eq_true hA | replace hA := of_decide_eq_false hA | replace hA := eq_of_beq hA | replace hA := ne_of_beq_false hA | replace hA := bne_iff_ne.1 hA | replace hA := bne_eq_false_iff_eq.1 hA | skip) <;> (try simp only [List.length_map, cond_true, cond_false, Bool.not_eq_true', Bool.not_eq_false', beq_iff_eq, beq_eq_false_iff_ne, ne_eq] at hA)) | (refine CallP.det (h2) ?_; conv => whnf) | (refine CallD.det (h2) ?_; conv => whnf) | (refine DrawP.intro (X := ax g) (id := 4) B46_4 (by kernel_rfl) (by decide +kernel) ?_; conv => whnf) | (rw [getD_map _ _ _ _ (by assumption)]; conv => whnf))
      refine ⟨⟨[], ?_⟩⟩
      conv => whnf
      rw [b1, b2]; rfl
    · rw [if_neg hv] at hb
      rw [hb] at h2
      have b1 : numW l = valD 0 l := by unfold numW; rw [if_neg, if_neg hv]; rintro (h | h | h); · omega
                                        · omega
                                        · rw [hA] at h; simp at h
      have b2 : numK l = some (valD 0 l) := by unfold numK; rw [if_neg]; rintro (h | h | h | h); · omega
                                               · omega
                                               · rw [hA] at h; simp at h
                                               · omega
      repeat' (first | (refine And.intro (by first | exact rfl | decide | exact Nat.le_of_ble_eq_true rfl | exact ⟨_, rfl⟩ | exact ⟨_, _, rfl⟩ | exact Nat.le_refl _ | exact Int.le_refl _ | omega | (simp only [List.length_map]; omega) | exact True.intro | (simp only [IntKind.wrap_i64, List.length_map]; omega) | (simp only [List.map_cons, List.map_nil, List.length_cons, Option.getD]; omega) | (simp only [bsz, ByteArray.size_append, List.size_toArray, List.length_cons, List.length_nil]; omega) | exact ⟨⟨_, _, rfl, rfl, Nat.le_of_ble_eq_true rfl⟩, trivial⟩ | exact ⟨⟨_, _, rfl, rfl, Nat.le_of_ble_eq_true rfl⟩, ⟨_, _, rfl, rfl, Nat.le_of_ble_eq_true rfl⟩, trivial⟩ | exact ⟨⟨_, _, rfl, rfl, Nat.le_of_ble_eq_true rfl⟩, ⟨_, _, rfl, rfl, Nat.le_of_ble_eq_true rfl⟩, ⟨_, _, rfl, rfl, Nat.le_of_ble_eq_true rfl⟩, trivial⟩) ?_; conv => whnf) | (refine ifB_intro (fun hA => ?_) (fun hA => ?_) <;> (try rw [hA]) <;> (conv => whnf) <;> (first | replace hA := of_decide_eq_true hA | replace hA := of_decide_eq_false hA | replace hA := eq_of_beq hA | replace hA := ne_of_beq_false hA | replace hA := bne_iff_ne.1 hA | replace hA := bne_eq_false_iff_eq.1 hA | skip) <;> (try simp only [List.length_map, cond_true, cond_false, Bool.not_eq_true', Bool.not_eq_false', beq_iff_eq, beq_eq_false_iff_ne, ne_eq] at hA)) | (refine CallP.det (h2) ?_; conv => whnf) | (refine CallD.det (h2) ?_; conv => whnf) | (refine DrawP.intro (X := ax g) (id := 4) B46_4 (by kernel_rfl) (by decide +kernel) ?_; conv => whnf) | (rw [getD_map _ _ _ _ (by assumption)]; conv => whnf))
      refine ⟨⟨[], ?_⟩⟩
      conv => whnf
      rw [b1, b2, show IntKind.u16.wrap ((valD 0 l : Nat) : Int) = ((valD 0 l : Nat) : Int) from by rw [IntKind.wrap_u16]; omega]; rfl
end Go.Ax

namespace Go.Ax
open Go.Proofs Go.RowKit Go.Shelf Go.Lib
set_option maxRecDepth 10000
theorem is_ctr (g : GP) (i : Nat) (hi : i < 8) : Ctr (ax g).E 29 [.i64 i] [] fun o => o = .ret (.bool true) [] := by
  refine Ctr.body (X := ax g) _ 9 [] [.tmp 2] Tryd.func29 rfl rfl rfl rfl (by decide +kernel) rfl rfl ?_
  conv => whnf
  repeat' (first | (refine And.intro (by first | exact rfl | decide | exact Nat.le_of_ble_eq_true rfl | exact ⟨_, rfl⟩ | exact ⟨_, _, rfl⟩ | exact Nat.le_refl _ | exact Int.le_refl _ | omega | (simp only [List.length_map]; omega) | exact True.intro | (simp only [IntKind.wrap_i64, List.length_map]; omega) | (simp only [List.map_cons, List.map_nil, List.length_cons, Option.getD]; omega) | (simp only [bsz, ByteArray.size_append, List.size_toArray, List.length_cons, List.length_nil]; omega) | exact ⟨⟨_, _, rfl, rfl, Nat.le_of_ble_eq_true rfl⟩, trivial⟩ | exact ⟨⟨_, _, rfl, rfl, Nat.le_of_ble_eq_true rfl⟩, ⟨_, _, rfl, rfl, Nat.le_of_ble_eq_true rfl⟩, trivial⟩ | exact ⟨⟨_, _, rfl, rfl, Nat.le_of_ble_eq_true rfl⟩, ⟨_, _, rfl, rfl, Nat.le_of_ble_eq_true rfl⟩, ⟨_, _, rfl, rfl, Nat.le_of_ble_eq_true rfl⟩, trivial⟩) ?_; conv => whnf) | (refine ifB_intro (fun hA => ?_) (fun hA => ?_) <;> (try rw [hA]) <;> (conv => whnf) <;> (first | replace hA := of_decide_eq_true hA | replace hA := of_decide_eq_false hA | replace hA := eq_of_beq hA | replace hA := ne_of_beq_false hA | replace hA := bne_iff_ne.1 hA | replace hA := bne_eq_false_iff_eq.1 hA | skip) <;> (try simp only [List.length_map, cond_true, cond_false, Bool.not_eq_true', Bool.not_eq_false', beq_iff_eq, beq_eq_false_iff_ne, ne_eq] at hA)) | (exfalso; omega) | (rw [getD_map _ _ _ _ (by assumption)]; conv => whnf))
  refine ⟨⟨[], ?_⟩⟩
  conv => whnf
  rw [show decide ((0 : Int) ≤ (i : Int)) = true from by simp, show decide ((i : Int) < 8) = true from by simp; omega]
  rfl
theorem eight {p : List Nat} (h : p.length = 8) : ∃ a0 a1 a2 a3 a4 a5 a6 a7, p = [a0, a1, a2, a3, a4, a5, a6, a7] := by
  match p, h with
  | [a0, a1, a2, a3, a4, a5, a6, a7], _ => exact ⟨a0, a1, a2, a3, a4, a5, a6, a7, rfl⟩
theorem pwith_ctr (g : GP) (p : List Nat) (hp : p.length = 8) (i : Nat) (hi : i < 8) (n : Nat) : Ctr (ax g).E 10 [.dagg (rowU p), .i64 i, .d (.v (.int .u16 n))] [] fun o => o = .ret (.dagg (rowU (p.set i n))) [] := by
  have hl : (rowU p).length = 8 := by rw [rowU_len]; exact hp
  have hs : splice (rowU p) [D.v (.int .u16 (n : Int))] (0 + ((i : Nat) : Int).toNat * 1) = rowU (p.set i n) := by
    rw [show 0 + ((i : Nat) : Int).toNat * 1 = i from by omega, splice_one _ _ _ (by omega), rowU, rowU, List.map_set]; rfl
  have hct := rowU_cut (p.set i n) (by simpa using hp)
  obtain ⟨a0, a1, a2, a3, a4, a5, a6, a7, rfl⟩ := eight hp
  refine Ctr.body (X := ax g) _ 13 [] [.cell 6 24] Tryd.func10 rfl rfl rfl rfl (by decide +kernel) rfl rfl ?_
  conv => whnf
  have hl2 : 0 + 8 ≤ (splice (rowU [a0, a1, a2, a3, a4, a5, a6, a7]) [D.v (.int .u16 (n : Int))] (0 + ((i : Nat) : Int).toNat * 1)).length := by rw [hs, rowU_len]; simp
  repeat' (first | (refine And.intro (by first | exact rfl | decide | exact Nat.le_of_ble_eq_true rfl | exact ⟨_, rfl⟩ | exact ⟨_, _, rfl⟩ | exact Nat.le_refl _ | exact Int.le_refl _ | omega | (simp only []; omega) | exact True.intro | (simp only []; omega) | (simp only []; omega) | (simp only []; omega) | exact ⟨⟨_, _, rfl, rfl, Nat.le_of_ble_eq_true rfl⟩, trivial⟩ | exact ⟨⟨_, _, rfl, rfl, Nat.le_of_ble_eq_true rfl⟩, ⟨_, _, rfl, rfl, Nat.le_of_ble_eq_true rfl⟩, trivial⟩ | exact ⟨⟨_, _, rfl, rfl, Nat.le_of_ble_eq_true rfl⟩, ⟨_, _, rfl, rfl, Nat.le_of_ble_eq_true rfl⟩, ⟨_, _, rfl, rfl, Nat.le_of_ble_eq_true rfl⟩, trivial⟩) ?_; conv => whnf) | (refine ifB_intro (fun hA => ?_) (fun hA => ?_) <;> (try rw [hA]) <;> (conv => whnf) <;> (first | replace hA := of_decide_eq_true hA | replace hA := of_decide_eq_false hA | replace hA := eq_of_beq hA | replace hA := ne_of_beq_false hA | replace hA := bne_iff_ne.1 hA | replace hA := bne_eq_false_iff_eq.1 hA | skip) <;> (try simp only [List.length_map, cond_true, cond_false, Bool.not_eq_true', Bool.not_eq_false', beq_iff_eq, beq_eq_false_iff_ne, ne_eq] at hA)) | (refine CallP.det (is_ctr g i hi) ?_; conv => whnf) | (refine CallD.det (is_ctr g i hi) ?_; conv => whnf) | (refine And.intro (show 0 + ((i : Nat) : Int).toNat * 1 + 1 ≤ 8 by omega) ?_; conv => whnf) | (refine And.intro hl2 ?_; conv => whnf) | (rw [getD_map _ _ _ _ (by assumption)]; conv => whnf))
  have hl3 : (cut 0 8 (splice (rowU [a0, a1, a2, a3, a4, a5, a6, a7]) [D.v (.int .u16 (n : Int))] (0 + ((i : Nat) : Int).toNat * 1))).length = 8 := by rw [hs, hct, rowU_len]; simp
  refine And.intro hl3 ?_
  conv => whnf
  refine ⟨⟨[], ?_⟩⟩
  conv => whnf
  repeat' (first | (refine And.intro (by first | exact rfl | decide | exact Nat.le_of_ble_eq_true rfl | exact ⟨_, rfl⟩ | exact ⟨_, _, rfl⟩ | exact Nat.le_refl _ | exact Int.le_refl _ | omega | (simp only []; omega) | exact True.intro | (simp only [IntKind.wrap_i64, List.length_map]; omega) | (simp only [List.map_cons, List.map_nil, List.length_cons, Option.getD]; omega) | (simp only [bsz, ByteArray.size_append, List.size_toArray, List.length_cons, List.length_nil]; omega) | exact ⟨⟨_, _, rfl, rfl, Nat.le_of_ble_eq_true rfl⟩, trivial⟩ | exact ⟨⟨_, _, rfl, rfl, Nat.le_of_ble_eq_true rfl⟩, ⟨_, _, rfl, rfl, Nat.le_of_ble_eq_true rfl⟩, trivial⟩ | exact ⟨⟨_, _, rfl, rfl, Nat.le_of_ble_eq_true rfl⟩, ⟨_, _, rfl, rfl, Nat.le_of_ble_eq_true rfl⟩, ⟨_, _, rfl, rfl, Nat.le_of_ble_eq_true rfl⟩, trivial⟩) ?_; conv => whnf) | (refine ifB_intro (fun hA => ?_) (fun hA => ?_) <;> (try rw [hA]) <;> (conv => whnf) <;> (first | replace hA := of_decide_eq_true hA | replace hA := of_decide_eq_false hA | replace hA := eq_of_beq hA | replace hA := ne_of_beq_false hA | replace hA := bne_iff_ne.1 hA | replace hA := bne_eq_false_iff_eq.1 hA | skip) <;> (try simp only [List.length_map, cond_true, cond_false, Bool.not_eq_true', Bool.not_eq_false', beq_iff_eq, beq_eq_false_iff_ne, ne_eq] at hA)) | (refine And.intro (show 0 + 8 ≤ _ from by rw [hl3]) ?_; conv => whnf) | (rw [getD_map _ _ _ _ (by assumption)]; conv => whnf))
  show AOut.ret (.dagg (cut 0 8 (cut 0 8 (splice (rowU [a0, a1, a2, a3, a4, a5, a6, a7]) [D.v (.int .u16 (n : Int))] (0 + ((i : Nat) : Int).toNat * 1))))) [] = _
  rw [hs, hct, hct]
end Go.Ax

namespace Go.Ax
open Go.Proofs
set_option maxRecDepth 10000
def isK (f : Int) : Bool := decide (0 ≤ f) && decide (f < 8)
def nameI (f : Int) : List UInt8 := if isK f = true then nameF f.toNat else []
def withI (p : List Nat) (f : Int) (n : Nat) : List Nat := if isK f = true then p.set f.toNat n else p
theorem isK_nat {f : Int} (h : isK f = true) : ∃ i : Nat, f = (i : Int) ∧ i < 8 := by
  simp [isK] at h
  exact ⟨f.toNat, by omega, by omega⟩
theorem is_any (g : GP) (f : Int) : Ctr (ax g).E 29 [.i64 f] [] fun o => o = .ret (.bool (isK f)) [] := by
  by_cases h : isK f = true
  · obtain ⟨i, rfl, hi⟩ := isK_nat h
    rw [h]
    exact is_ctr g i hi
  · refine Ctr.body (X := ax g) _ 9 [] [.tmp 2] Tryd.func29 rfl rfl rfl rfl (by decide +kernel) rfl rfl ?_
    conv => whnf
    repeat' (first | (refine And.intro (by first | exact rfl | decide | exact Nat.le_of_ble_eq_true rfl | exact ⟨_, rfl⟩ | exact ⟨_, _, rfl⟩ | exact Nat.le_refl _ | exact Int.le_refl _ | omega | (simp only [List.length_map]; omega) | exact True.intro | (simp only [IntKind.wrap_i64, List.length_map]; omega) | (simp only [List.map_cons, List.map_nil, List.length_cons, Option.getD]; omega) | (simp only [bsz, ByteArray.size_append, List.size_toArray, List.length_cons, List.length_nil]; omega) | exact ⟨⟨_, _, rfl, rfl, Nat.le_of_ble_eq_true rfl⟩, trivial⟩ | exact ⟨⟨_, _, rfl, rfl, Nat.le_of_ble_eq_true rfl⟩, ⟨_, _, rfl, rfl, Nat.le_of_ble_eq_true rfl⟩, trivial⟩ | exact ⟨⟨_, _, rfl, rfl, Nat.le_of_ble_eq_true rfl⟩, ⟨_, _, rfl, rfl, Nat.le_of_ble_eq_true rfl⟩, ⟨_, _, rfl, rfl, Nat.le_of_ble_eq_true rfl⟩, trivial⟩) ?_; conv => whnf) | (refine ifB_intro (fun hA => ?_) (fun hA => ?_) <;> (try rw [hA]) <;> (conv => whnf) <;> (first | replace hA := of_decide_eq_true hA | replace hA := of_decide_eq_false hA | replace hA := eq_of_beq hA | replace hA := ne_of_beq_false hA | replace hA := bne_iff_ne.1 hA | replace hA := bne_eq_false_iff_eq.1 hA | skip) <;> (try simp only [List.length_map, cond_true, cond_false, Bool.not_eq_true', Bool.not_eq_false', beq_iff_eq, beq_eq_false_iff_ne, ne_eq] at hA)) | (rw [getD_map _ _ _ _ (by assumption)]; conv => whnf))
    all_goals
      refine ⟨⟨[], ?_⟩⟩
      conv => whnf
      try rfl
    all_goals
      simp [isK] at h ⊢
      try omega
theorem pname_any (g : GP) (f : Int) : Ctr (ax g).E 15 [.i64 f] [] (fun o => o = .ret (.str (baL (nameI f))) []) := by
  by_cases h : isK f = true
  · obtain ⟨i, rfl, hi⟩ := isK_nat h
    have := pname_ctr g i hi
    rw [nameI, if_pos h]
    exact this
  · rw [nameI, if_neg h]
    have h : ∀ i : Nat, i < 8 → ¬ f = (i : Int) := fun i hi e => h (by subst e; simp [isK]; omega)
    have h0 : ¬ f = 0 := h 0 (by omega)
    have h1 : ¬ f = 1 := h 1 (by omega)
    have h2 : ¬ f = 2 := h 2 (by omega)
    have h3 : ¬ f = 3 := h 3 (by omega)
    have h4 : ¬ f = 4 := h 4 (by omega)
    have h5 : ¬ f = 5 := h 5 (by omega)
    have h6 : ¬ f = 6 := h 6 (by omega)
    have h7 : ¬ f = 7 := h 7 (by omega)
    refine Ctr.body (X := ax g) _ 20 [] [.tmp 2] Tryd.func15 rfl rfl rfl rfl (by decide +kernel) rfl rfl ?_
    conv => whnf
    repeat' (first | (refine And.intro (by first | exact rfl | decide | exact Nat.le_of_ble_eq_true rfl | exact ⟨_, rfl⟩ | exact ⟨_, _, rfl⟩ | exact Nat.le_refl _ | exact Int.le_refl _ | omega | (simp only [List.length_map]; omega) | exact True.intro | (simp only [IntKind.wrap_i64, List.length_map]; omega) | (simp only [List.map_cons, List.map_nil, List.length_cons, Option.getD]; omega) | (simp only [bsz, ByteArray.size_append, List.size_toArray, List.length_cons, List.length_nil]; omega) | exact ⟨⟨_, _, rfl, rfl, Nat.le_of_ble_eq_true rfl⟩, trivial⟩ | exact ⟨⟨_, _, rfl, rfl, Nat.le_of_ble_eq_true rfl⟩, ⟨_, _, rfl, rfl, Nat.le_of_ble_eq_true rfl⟩, trivial⟩ | exact ⟨⟨_, _, rfl, rfl, Nat.le_of_ble_eq_true rfl⟩, ⟨_, _, rfl, rfl, Nat.le_of_ble_eq_true rfl⟩, ⟨_, _, rfl, rfl, Nat.le_of_ble_eq_true rfl⟩, trivial⟩) ?_; conv => whnf) | (refine ifB_intro (fun hA => ?_) (fun hA => ?_) <;> (try rw [hA]) <;> (conv => whnf) <;> (first | replace hA := of_decide_eq_true hA | replace hA := of_decide_eq_false hA | replace hA := eq_of_beq hA | replace hA := ne_of_beq_false hA | replace hA := bne_iff_ne.1 hA | replace hA := bne_eq_false_iff_eq.1 hA | skip) <;> (try simp only [List.length_map, cond_true, cond_false, Bool.not_eq_true', Bool.not_eq_false', beq_iff_eq, beq_eq_false_iff_ne, ne_eq] at hA)) | (exfalso; first | exact h0 ‹_› | exact h1 ‹_› | exact h2 ‹_› | exact h3 ‹_› | exact h4 ‹_› | exact h5 ‹_› | exact h6 ‹_› | exact h7 ‹_›) | (rw [getD_map _ _ _ _ (by assumption)]; conv => whnf))
    refine ⟨⟨[], ?_⟩⟩
    conv => whnf
    rfl
theorem pwith_any (g : GP) (p : List Nat) (hp : p.length = 8) (f : Int) (n : Nat) : Ctr (ax g).E 10 [.dagg (rowU p), .i64 f, .d (.v (.int .u16 n))] [] fun o => o = .ret (.dagg (rowU (withI p f n))) [] := by
  by_cases h : isK f = true
  · obtain ⟨i, rfl, hi⟩ := isK_nat h
    have := pwith_ctr g p hp i hi n
    rw [withI, if_pos h]
    exact this
  · have hb : isK f = false := by simpa using h
    have hc := is_any g f
    rw [hb] at hc
    rw [withI, if_neg h]
    have hct := rowU_cut p hp
    obtain ⟨a0, a1, a2, a3, a4, a5, a6, a7, rfl⟩ := eight hp
    refine Ctr.body (X := ax g) _ 13 [] [.cell 6 24] Tryd.func10 rfl rfl rfl rfl (by decide +kernel) rfl rfl ?_
    conv => whnf
    repeat' (first | (refine And.intro (by first | exact rfl | decide | exact Nat.le_of_ble_eq_true rfl | exact ⟨_, rfl⟩ | exact ⟨_, _, rfl⟩ | exact Nat.le_refl _ | exact Int.le_refl _ | omega | (simp only [List.length_map]; omega) | exact True.intro | (simp only [IntKind.wrap_i64, List.length_map]; omega) | (simp only [List.map_cons, List.map_nil, List.length_cons, Option.getD]; omega) | (simp only [bsz, ByteArray.size_append, List.size_toArray, List.length_cons, List.length_nil]; omega) | exact ⟨⟨_, _, rfl, rfl, Nat.le_of_ble_eq_true rfl⟩, trivial⟩ | exact ⟨⟨_, _, rfl, rfl, Nat.le_of_ble_eq_true rfl⟩, ⟨_, _, rfl, rfl, Nat.le_of_ble_eq_true rfl⟩, trivial⟩ | exact ⟨⟨_, _, rfl, rfl, Nat.le_of_ble_eq_true rfl⟩, ⟨_, _, rfl, rfl, Nat.le_of_ble_eq_true rfl⟩, ⟨_, _, rfl, rfl, Nat.le_of_ble_eq_true rfl⟩, trivial⟩) ?_; conv => whnf) | (refine ifB_intro (fun hA => ?_) (fun hA => ?_) <;> (try rw [hA]) <;> (conv => whnf) <;> (first | replace hA := of_decide_eq_true hA | replace hA := of_decide_eq_false hA | replace hA := eq_of_beq hA | replace hA := ne_of_beq_false hA | replace hA := bne_iff_ne.1 hA | replace hA := bne_eq_false_iff_eq.1 hA | skip) <;> (try simp only [List.length_map, cond_true, cond_false, Bool.not_eq_true', Bool.not_eq_false', beq_iff_eq, beq_eq_false_iff_ne, ne_eq] at hA)) | (refine CallP.det (hc) ?_; conv => whnf) | (refine CallD.det (hc) ?_; conv => whnf) | (rw [getD_map _ _ _ _ (by assumption)]; conv => whnf))
    refine ⟨⟨[], ?_⟩⟩
    conv => whnf
    repeat' (first | (refine And.intro (by first | exact rfl | decide | exact Nat.le_of_ble_eq_true rfl | exact ⟨_, rfl⟩ | exact ⟨_, _, rfl⟩ | exact Nat.le_refl _ | exact Int.le_refl _ | omega | (simp only [List.length_map]; omega) | exact True.intro | (simp only [IntKind.wrap_i64, List.length_map]; omega) | (simp only [List.map_cons, List.map_nil, List.length_cons, Option.getD]; omega) | (simp only [bsz, ByteArray.size_append, List.size_toArray, List.length_cons, List.length_nil]; omega) | exact ⟨⟨_, _, rfl, rfl, Nat.le_of_ble_eq_true rfl⟩, trivial⟩ | exact ⟨⟨_, _, rfl, rfl, Nat.le_of_ble_eq_true rfl⟩, ⟨_, _, rfl, rfl, Nat.le_of_ble_eq_true rfl⟩, trivial⟩ | exact ⟨⟨_, _, rfl, rfl, Nat.le_of_ble_eq_true rfl⟩, ⟨_, _, rfl, rfl, Nat.le_of_ble_eq_true rfl⟩, ⟨_, _, rfl, rfl, Nat.le_of_ble_eq_true rfl⟩, trivial⟩) ?_; conv => whnf) | (refine ifB_intro (fun hA => ?_) (fun hA => ?_) <;> (try rw [hA]) <;> (conv => whnf) <;> (first | replace hA := of_decide_eq_true hA | replace hA := of_decide_eq_false hA | replace hA := eq_of_beq hA | replace hA := ne_of_beq_false hA | replace hA := bne_iff_ne.1 hA | replace hA := bne_eq_false_iff_eq.1 hA | skip) <;> (try simp only [List.length_map, cond_true, cond_false, Bool.not_eq_true', Bool.not_eq_false', beq_iff_eq, beq_eq_false_iff_ne, ne_eq] at hA)) | (rw [getD_map _ _ _ _ (by assumption)]; conv => whnf))
    rfl
end Go.Ax

namespace Go.Ax
set_option maxRecDepth 10000
def hasF (p : List Nat) (l : List (Int × Int)) : Bool := l.all fun x => isK x.1 && decide (((p.getD x.1.toNat 0 : Nat) : Int) = x.2)
def doF (p : List Nat) (l : List (Int × Int)) : List Nat := l.foldl (fun p x => withI p x.1 x.2.toNat) p
def ownF (a : List Nat) : List (Int × Int) := (List.range 8).map fun i : Nat => (((i : Nat) : Int), ((a.getD i 0 : Nat) : Int))
theorem withI_len (p : List Nat) (f : Int) (n : Nat) : (withI p f n).length = p.length := by
  rw [withI]; split <;> simp
theorem doF_len (l : List (Int × Int)) : ∀ p : List Nat, (doF p l).length = p.length := by
  induction l with
  | nil => intro p; rfl
  | cons x l ih => intro p; rw [doF, List.foldl_cons, ← doF, ih, withI_len]
theorem isK_of {i : Nat} (h : i < 8) : isK (i : Int) = true := by simp [isK]; omega
theorem has_own (a : List Nat) : hasF a (ownF a) = true := by
  rw [hasF, List.all_eq_true]
  intro x hx
  obtain ⟨i, hi, rfl⟩ := List.mem_map.1 hx
  have hi := List.mem_range.1 hi
  rw [Bool.and_eq_true]
  exact ⟨isK_of hi, by simp⟩
theorem has_one {a : List Nat} {i : Nat} (h : i < 8) (n : Int) : hasF a [((i : Int), n)] = decide (((a.getD i 0 : Nat) : Int) = n) := by
  simp [hasF, isK_of h]
theorem has_eight (a : List Nat) : hasF a [(8, 0)] = false := by simp [hasF, isK]
theorem with_with {p : List Nat} {i : Nat} (hi : i < 8) (n m : Nat) : doF p [((i : Int), (n : Int)), ((i : Int), (m : Int))] = withI p i m := by
  simp [doF, withI, isK_of hi]
theorem with_get {p : List Nat} (hp : p.length = 8) {i : Nat} (hi : i < 8) (m : Nat) : (withI p i m).getD i 0 = m := by
  rw [withI, if_pos (isK_of hi)]
  have h : i < p.length := by omega
  simp [List.getD, h]
theorem has_law {p : List Nat} (hp : p.length = 8) {i : Nat} (hi : i < 8) (n m : Nat) :
    let a := doF p [((i : Int), (n : Int)), ((i : Int), (m : Int))]
    hasF a (ownF a) = true ∧ hasF a [((i : Int), (m : Int))] = true ∧ hasF a [((i : Int), (n : Int))] = decide (n = m) ∧ hasF a [(8, 0)] = false ∧ a = withI p i m ∧ doF a [] = a := by
  intro a
  have ha : a = withI p i m := with_with hi n m
  have hg : a.getD i 0 = m := by rw [ha]; exact with_get hp hi m
  refine ⟨has_own a, ?_, ?_, has_eight a, ha, rfl⟩
  · rw [has_one hi, hg]; simp
  · rw [has_one hi, hg]
    by_cases e : n = m
    · subst e; simp
    · have : ¬ m = n := fun h => e h.symm
      simp [e]; omega
end Go.Ax
