/- What the card of this claim stands on, or the card itself: for every input, as the given row says. -/
import Derived.Test.YtdobclfcondfcaaGreatDoorPA08
import Derived.Test.YtdobclfcondfcaaGreatDoorPA10

namespace Go.Ax
open Go.Proofs Go.RowKit Go.Shelf Go.Lib
set_option maxRecDepth 10000
theorem cutL_at {c : UInt8} {l : List UInt8} {i : Nat} (h : i < l.length) (ha : (l.take i).all (· != c) = true) (hc : l[i] = c) : cutL c l = (l.take i, l.drop (i + 1), true) := by
  have e : l = l.take i ++ c :: l.drop (i + 1) := by rw [← hc, ← List.drop_eq_getElem_cons h, List.take_append_drop]
  conv => lhs; rw [e]
  exact cutL_cat ha
theorem cutL_no {c : UInt8} {l : List UInt8} (ha : l.all (· != c) = true) : cutL c l = (l, [], false) := by
  have h1 := split_one c l ha
  rcases index_one c l with ⟨h2, _⟩ | ⟨n, _, _, h3⟩
  · rw [Go.Lib.index_one] at h2
    unfold cutL; rw [if_pos h2]
  · rw [h1] at h3; injection h3 with _ h3; exact absurd h3.symm (splitL_ne c _)
theorem rcut37_ctr (g : GP) (c : UInt8) (l : List UInt8) (hl : l.length < 2 ^ 40) : Ctr (ax g).E 119 [.str (baL l), .d (.v (.int .u8 c.toNat))] [] fun o => o = .ret (.tup [.str (baL (cutL c l).1), .str (baL (cutL c l).2.1), .bool (cutL c l).2.2]) [] := by
  have hsz := ba_size l
  refine Ctr.body (X := ax g) _ 27 [] [.tmp 4, .tmp 5, .tmp 6] Tryz.func119 rfl rfl rfl rfl (by decide +kernel) rfl rfl ?_
  conv => whnf
  refine LoopP.inv (X := ax g) (fun i : Nat => { f := [(0, .str (baL l)), (1, .d (.v (.int .u8 c.toNat))), (7, .i64 i)], h := [] }) (fun i => i ≤ l.length ∧ (l.take i).all (· != c) = true) (fun i => l.length - i) 0 ⟨Nat.zero_le _, rfl⟩ ⟨⟨rfl, rfl, rfl, trivial⟩, trivial⟩ fun i ⟨hi, hI⟩ => ?_
  conv => whnf
  refine ifB_intro (fun h => ?_) (fun h => ?_)
  · have hlt : i < l.length := by have h0 := of_decide_eq_true h; omega
    have hb := byteAt_ba l i hlt
    have hw : IntKind.i64.wrap ((i : Int) + 1) = ((i + 1 : Nat) : Int) := i64_succ (by omega)
    have x1 : (baL l).extract ((none : Option Int).getD 0).toNat ((some ((i : Nat) : Int)).getD (((baL l).size : Nat) : Int)).toNat = baL (l.take i) := by rw [← ba_toList l, ← sub_take (by rw [hsz]; omega), ba_toList]; rfl
    have x2 : (baL l).extract ((some (((i + 1 : Nat) : Int))).getD 0).toNat ((none : Option Int).getD (((baL l).size : Nat) : Int)).toNat = baL (l.drop (i + 1)) := by rw [← ba_toList l, ← sub_drop, ba_toList]; rfl
    conv => whnf
    repeat' (first | (refine And.intro (by first | exact rfl | decide | exact Nat.le_of_ble_eq_true rfl | exact ⟨_, rfl⟩ | exact ⟨_, _, rfl⟩ | exact Nat.le_refl _ | exact Int.le_refl _ | omega | (simp only [List.length_map]; omega) | exact True.intro | (simp only [IntKind.wrap_i64, List.length_map]; omega) | (simp only [List.map_cons, List.map_nil, List.length_cons, Option.getD]; omega) | (simp only [bsz, ByteArray.size_append, List.size_toArray, List.length_cons, List.length_nil]; omega) | exact ⟨⟨_, _, rfl, rfl, Nat.le_of_ble_eq_true rfl⟩, trivial⟩ | exact ⟨⟨_, _, rfl, rfl, Nat.le_of_ble_eq_true rfl⟩, ⟨_, _, rfl, rfl, Nat.le_of_ble_eq_true rfl⟩, trivial⟩ | exact ⟨⟨_, _, rfl, rfl, Nat.le_of_ble_eq_true rfl⟩, ⟨_, _, rfl, rfl, Nat.le_of_ble_eq_true rfl⟩, ⟨_, _, rfl, rfl, Nat.le_of_ble_eq_true rfl⟩, trivial⟩) ?_; conv => whnf) | (refine ifB_intro (fun hA => ?_) (fun hA => ?_) <;> (try rw [hA]) <;> (conv => whnf) <;> (first | replace hA := of_decide_eq_true hA | replace hA := of_decide_eq_false hA | replace hA := eq_of_beq hA | replace hA := ne_of_beq_false hA | replace hA := bne_iff_ne.1 hA | replace hA := bne_eq_false_iff_eq.1 hA | skip) <;> (try simp only [List.length_map, cond_true, cond_false, Bool.not_eq_true', Bool.not_eq_false', beq_iff_eq, beq_eq_false_iff_ne, ne_eq] at hA)) | (rw [hb]; conv => whnf) | (refine DrawP.intro (X := ax g) (id := 5) B119_5 (by kernel_rfl) (by decide +kernel) ?_; conv => whnf) | (rw [hw]; conv => whnf) | (rw [getD_map _ _ _ _ (by assumption)]; conv => whnf))
    · have hcc : l[i] = c := UInt8.toNat_inj.1 (by omega)
      rw [cutL_at hlt hI hcc]
      refine ⟨⟨[], ?_⟩⟩
      conv => whnf
      show AOut.ret (.tup [.str ((baL l).extract ((none : Option Int).getD 0).toNat ((some ((i : Nat) : Int)).getD (((baL l).size : Nat) : Int)).toNat), .str ((baL l).extract ((some (((i + 1 : Nat) : Int))).getD 0).toNat ((none : Option Int).getD (((baL l).size : Nat) : Int)).toNat), .bool true]) [] = _
      rw [x1, x2]
    · have hcc : l[i] ≠ c := fun e => hA (by rw [hb, e])
      exact ⟨i + 1, ⟨by omega, by rw [List.take_succ_eq_append_getElem hlt, List.all_append, hI]; simp [hcc]⟩, by omega, ⟨⟨rfl, rfl, rfl, trivial⟩, trivial⟩⟩
  · have hge : i = l.length := by have h0 := of_decide_eq_false h; omega
    subst hge
    rw [List.take_length] at hI
    rw [cutL_no hI]
    conv => whnf
    refine ⟨⟨[], ?_⟩⟩
    conv => whnf
    rfl
theorem rplace37_ctr (g : GP) (l : List UInt8) (hl : l.length < 2 ^ 40) : Ctr (ax g).E 120 [.str (baL l)] [] fun o => o = .ret (.tup [.i64 (placeN l), .bool (placeY l)]) [] := by
  have h1 := refNumber_ctr g l hl
  unfold placeN placeY
  by_cases h : l = [42]
  · subst h
    refine Ctr.body (X := ax g) _ 12 [] [.tmp 2, .tmp 3] Tryz.func120 rfl rfl rfl rfl (by decide +kernel) rfl rfl ?_
    conv => whnf
    repeat' (first | (refine And.intro (by first | exact rfl | decide | exact Nat.le_of_ble_eq_true rfl | exact ⟨_, rfl⟩ | exact ⟨_, _, rfl⟩ | exact Nat.le_refl _ | exact Int.le_refl _ | omega | (simp only [List.length_map]; omega) | exact True.intro | (simp only [IntKind.wrap_i64, List.length_map]; omega) | (simp only [List.map_cons, List.map_nil, List.length_cons, Option.getD]; omega) | (simp only [bsz, ByteArray.size_append, List.size_toArray, List.length_cons, List.length_nil]; omega) | exact ⟨⟨_, _, rfl, rfl, Nat.le_of_ble_eq_true rfl⟩, trivial⟩ | exact ⟨⟨_, _, rfl, rfl, Nat.le_of_ble_eq_true rfl⟩, ⟨_, _, rfl, rfl, Nat.le_of_ble_eq_true rfl⟩, trivial⟩ | exact ⟨⟨_, _, rfl, rfl, Nat.le_of_ble_eq_true rfl⟩, ⟨_, _, rfl, rfl, Nat.le_of_ble_eq_true rfl⟩, ⟨_, _, rfl, rfl, Nat.le_of_ble_eq_true rfl⟩, trivial⟩) ?_; conv => whnf) | (refine ifB_intro (fun hA => ?_) (fun hA => ?_) <;> (try rw [hA]) <;> (conv => whnf) <;> (first | replace hA := of_decide_eq_true hA | replace hA := of_decide_eq_false hA | replace hA := eq_of_beq hA | replace hA := ne_of_beq_false hA | replace hA := bne_iff_ne.1 hA | replace hA := bne_eq_false_iff_eq.1 hA | skip) <;> (try simp only [List.length_map, cond_true, cond_false, Bool.not_eq_true', Bool.not_eq_false', beq_iff_eq, beq_eq_false_iff_ne, ne_eq] at hA)) | (rw [getD_map _ _ _ _ (by assumption)]; conv => whnf))
    refine ⟨⟨[], ?_⟩⟩
    conv => whnf
    rfl
  · rw [if_neg h]
    refine Ctr.body (X := ax g) _ 12 [] [.tmp 2, .tmp 3] Tryz.func120 rfl rfl rfl rfl (by decide +kernel) rfl rfl ?_
    conv => whnf
    repeat' (first | (refine And.intro (by first | exact rfl | decide | exact Nat.le_of_ble_eq_true rfl | exact ⟨_, rfl⟩ | exact ⟨_, _, rfl⟩ | exact Nat.le_refl _ | exact Int.le_refl _ | omega | (simp only [List.length_map]; omega) | exact True.intro | (simp only [IntKind.wrap_i64, List.length_map]; omega) | (simp only [List.map_cons, List.map_nil, List.length_cons, Option.getD]; omega) | (simp only [bsz, ByteArray.size_append, List.size_toArray, List.length_cons, List.length_nil]; omega) | exact ⟨⟨_, _, rfl, rfl, Nat.le_of_ble_eq_true rfl⟩, trivial⟩ | exact ⟨⟨_, _, rfl, rfl, Nat.le_of_ble_eq_true rfl⟩, ⟨_, _, rfl, rfl, Nat.le_of_ble_eq_true rfl⟩, trivial⟩ | exact ⟨⟨_, _, rfl, rfl, Nat.le_of_ble_eq_true rfl⟩, ⟨_, _, rfl, rfl, Nat.le_of_ble_eq_true rfl⟩, ⟨_, _, rfl, rfl, Nat.le_of_ble_eq_true rfl⟩, trivial⟩) ?_; conv => whnf) | (refine ifB_intro (fun hA => ?_) (fun hA => ?_) <;> (try rw [hA]) <;> (conv => whnf) <;> (first | replace hA := of_decide_eq_true hA | replace hA := of_decide_eq_false hA | replace hA := eq_of_beq hA | replace hA := ne_of_beq_false hA | replace hA := bne_iff_ne.1 hA | replace hA := bne_eq_false_iff_eq.1 hA | skip) <;> (try simp only [List.length_map, cond_true, cond_false, Bool.not_eq_true', Bool.not_eq_false', beq_iff_eq, beq_eq_false_iff_ne, ne_eq] at hA)) | (rw [ba_toList] at hA; exact absurd hA h) | (refine CallP.det (h1) ?_; conv => whnf) | (refine CallD.det (h1) ?_; conv => whnf) | (rw [getD_map _ _ _ _ (by assumption)]; conv => whnf))
    refine ⟨⟨[], ?_⟩⟩
    conv => whnf
    simp [h]
theorem rtexts37_ctr (g : GP) (l : List UInt8) (hl : l.length < 2 ^ 40) : Ctr (ax g).E 60 [.str (baL l)] [] fun o => o = .ret (.d (.sl false 1 ((wordsL l).map rowW))) [] := by
  have h1 := split_ref g 32 l hl
  have hsl := splitL_le 32 l
  unfold wordsL
  generalize splitL 32 l = L at *
  refine Ctr.body (X := ax g) _ 27 [] [.tmp 2] Tryz.func60 rfl rfl rfl rfl (by decide +kernel) rfl rfl ?_
  conv => whnf
  repeat' (first | (refine And.intro (by first | exact rfl | decide | exact Nat.le_of_ble_eq_true rfl | exact ⟨_, rfl⟩ | exact ⟨_, _, rfl⟩ | exact Nat.le_refl _ | exact Int.le_refl _ | omega | (simp only [List.length_map]; omega) | exact True.intro | (simp only [IntKind.wrap_i64, List.length_map]; omega) | (simp only [List.map_cons, List.map_nil, List.length_cons, Option.getD]; omega) | (simp only [bsz, ByteArray.size_append, List.size_toArray, List.length_cons, List.length_nil]; omega) | exact ⟨⟨_, _, rfl, rfl, Nat.le_of_ble_eq_true rfl⟩, trivial⟩ | exact ⟨⟨_, _, rfl, rfl, Nat.le_of_ble_eq_true rfl⟩, ⟨_, _, rfl, rfl, Nat.le_of_ble_eq_true rfl⟩, trivial⟩ | exact ⟨⟨_, _, rfl, rfl, Nat.le_of_ble_eq_true rfl⟩, ⟨_, _, rfl, rfl, Nat.le_of_ble_eq_true rfl⟩, ⟨_, _, rfl, rfl, Nat.le_of_ble_eq_true rfl⟩, trivial⟩) ?_; conv => whnf) | (refine ifB_intro (fun hA => ?_) (fun hA => ?_) <;> (try rw [hA]) <;> (conv => whnf) <;> (first | replace hA := of_decide_eq_true hA | replace hA := of_decide_eq_false hA | replace hA := eq_of_beq hA | replace hA := ne_of_beq_false hA | replace hA := bne_iff_ne.1 hA | replace hA := bne_eq_false_iff_eq.1 hA | skip) <;> (try simp only [List.length_map, cond_true, cond_false, Bool.not_eq_true', Bool.not_eq_false', beq_iff_eq, beq_eq_false_iff_ne, ne_eq] at hA)) | (refine CallP.det (h1) ?_; conv => whnf) | (refine CallD.det (h1) ?_; conv => whnf) | (rw [getD_map _ _ _ _ (by assumption)]; conv => whnf))
  refine LoopP.own 3 9503 1 9 rfl rfl rfl ?_
  refine LoopP.inv (X := ax g) (fun i : Nat => { f := [(3, .msl 9503 (keptS (fun x => x == []) (L.take i)).length 0 (keptS (fun x => x == []) (L.take i)).length), (4, .d (.sl false 1 (L.map rowW))), (5, .i64 i)], h := [(9503, some (.buf 1 9 ((keptS (fun x => x == []) (L.take i)).map rowW)))] }) (fun i => i ≤ L.length) (fun i => L.length - i) 0 (Nat.zero_le _) ⟨⟨rfl, rfl, rfl, trivial⟩, ⟨fun o h => h, trivial⟩⟩ fun i hi => ?_
  have hk := keptS_len (fun x => x == []) L i
  have hkm : ((keptS (fun x => x == []) (L.take i)).map rowW).length = (keptS (fun x => x == []) (L.take i)).length := List.length_map _
  conv => whnf
  refine ifB_intro (fun h => ?_) (fun h => ?_)
  · have hlt : i < L.length := by simpa using h
    have hn := keptS_next (fun x => x == []) L i hlt
    conv => whnf
    repeat' (first | (refine And.intro (by first | exact rfl | decide | exact Nat.le_of_ble_eq_true rfl | exact ⟨_, rfl⟩ | exact ⟨_, _, rfl⟩ | exact Nat.le_refl _ | exact Int.le_refl _ | omega | (simp only [List.length_map]; omega) | exact True.intro | (simp only [IntKind.wrap_i64, List.length_map]; omega) | (simp only [List.map_cons, List.map_nil, List.length_cons, Option.getD]; omega) | (simp only [bsz, ByteArray.size_append, List.size_toArray, List.length_cons, List.length_nil]; omega) | exact ⟨⟨_, _, rfl, rfl, Nat.le_of_ble_eq_true rfl⟩, trivial⟩ | exact ⟨⟨_, _, rfl, rfl, Nat.le_of_ble_eq_true rfl⟩, ⟨_, _, rfl, rfl, Nat.le_of_ble_eq_true rfl⟩, trivial⟩ | exact ⟨⟨_, _, rfl, rfl, Nat.le_of_ble_eq_true rfl⟩, ⟨_, _, rfl, rfl, Nat.le_of_ble_eq_true rfl⟩, ⟨_, _, rfl, rfl, Nat.le_of_ble_eq_true rfl⟩, trivial⟩) ?_; conv => whnf) | (refine ifB_intro (fun hA => ?_) (fun hA => ?_) <;> (try rw [hA]) <;> (conv => whnf) <;> (first | replace hA := of_decide_eq_true hA | replace hA := of_decide_eq_false hA | replace hA := eq_of_beq hA | replace hA := ne_of_beq_false hA | replace hA := bne_iff_ne.1 hA | replace hA := bne_eq_false_iff_eq.1 hA | skip) <;> (try simp only [List.length_map, cond_true, cond_false, Bool.not_eq_true', Bool.not_eq_false', beq_iff_eq, ne_eq] at hA)) | (rw [getD_map rowW L i [] hlt]; conv => whnf) | (refine And.intro hkm.symm ?_; conv => whnf) | (refine And.intro (by show (List.length _ + 1) * 16 ≤ 140737488355328; rw [hkm]; omega) ?_; conv => whnf) | (rw [getD_map _ _ _ _ (by assumption)]; conv => whnf))
    all_goals
      rw [ba_toList] at hA
    · have e : (L[i] == []) = false := by simpa using hA
      rw [e, if_neg (by simp)] at hn
      refine ⟨i + 1, by omega, by omega, ⟨⟨?_, rfl, AV.int_eq (i64_succ (by omega)), trivial⟩, ⟨fun o h => ?_, trivial⟩⟩⟩
      · rw [hn]
        exact msl_eq (by rw [hkm, List.length_append]; rfl)
      · rw [← h, hn, List.map_append]; rfl
    · have e : (L[i] == []) = true := by simpa using hA
      rw [e, if_pos rfl] at hn
      exact ⟨i + 1, by omega, by omega, ⟨⟨by rw [hn]; rfl, rfl, AV.int_eq (i64_succ (by omega)), trivial⟩, ⟨fun o h => by rw [← h, hn]; rfl, trivial⟩⟩⟩
  · have hge : i = L.length := by have h0 := of_decide_eq_false h; simp at h0; omega
    subst hge
    rw [List.take_length] at *
    conv => whnf
    repeat' (first | (refine And.intro (by first | exact rfl | decide | exact Nat.le_of_ble_eq_true rfl | exact ⟨_, rfl⟩ | exact ⟨_, _, rfl⟩ | exact Nat.le_refl _ | exact Int.le_refl _ | omega | (simp only [List.length_map]; omega) | exact True.intro | (simp only [IntKind.wrap_i64, List.length_map]; omega) | (simp only [List.map_cons, List.map_nil, List.length_cons, Option.getD]; omega) | (simp only [bsz, ByteArray.size_append, List.size_toArray, List.length_cons, List.length_nil]; omega) | exact ⟨⟨_, _, rfl, rfl, Nat.le_of_ble_eq_true rfl⟩, trivial⟩ | exact ⟨⟨_, _, rfl, rfl, Nat.le_of_ble_eq_true rfl⟩, ⟨_, _, rfl, rfl, Nat.le_of_ble_eq_true rfl⟩, trivial⟩ | exact ⟨⟨_, _, rfl, rfl, Nat.le_of_ble_eq_true rfl⟩, ⟨_, _, rfl, rfl, Nat.le_of_ble_eq_true rfl⟩, ⟨_, _, rfl, rfl, Nat.le_of_ble_eq_true rfl⟩, trivial⟩) ?_; conv => whnf) | (refine ifB_intro (fun hA => ?_) (fun hA => ?_) <;> (try rw [hA]) <;> (conv => whnf) <;> (first | replace hA := of_decide_eq_true hA | replace hA := of_decide_eq_false hA | replace hA := eq_of_beq hA | replace hA := ne_of_beq_false hA | replace hA := bne_iff_ne.1 hA | replace hA := bne_eq_false_iff_eq.1 hA | skip) <;> (try simp only [List.length_map, cond_true, cond_false, Bool.not_eq_true', Bool.not_eq_false', beq_iff_eq, beq_eq_false_iff_ne, ne_eq] at hA)) | (rw [getD_map _ _ _ _ (by assumption)]; conv => whnf))
    refine ⟨⟨[], ?_⟩⟩
    conv => whnf
    repeat' (first | (refine And.intro (by first | exact rfl | decide | exact Nat.le_of_ble_eq_true rfl | exact ⟨_, rfl⟩ | exact ⟨_, _, rfl⟩ | exact Nat.le_refl _ | exact Int.le_refl _ | omega | (simp only [List.length_map]; omega) | exact True.intro | (simp only [IntKind.wrap_i64, List.length_map]; omega) | (simp only [List.map_cons, List.map_nil, List.length_cons, Option.getD]; omega) | (simp only [bsz, ByteArray.size_append, List.size_toArray, List.length_cons, List.length_nil]; omega) | exact ⟨⟨_, _, rfl, rfl, Nat.le_of_ble_eq_true rfl⟩, trivial⟩ | exact ⟨⟨_, _, rfl, rfl, Nat.le_of_ble_eq_true rfl⟩, ⟨_, _, rfl, rfl, Nat.le_of_ble_eq_true rfl⟩, trivial⟩ | exact ⟨⟨_, _, rfl, rfl, Nat.le_of_ble_eq_true rfl⟩, ⟨_, _, rfl, rfl, Nat.le_of_ble_eq_true rfl⟩, ⟨_, _, rfl, rfl, Nat.le_of_ble_eq_true rfl⟩, trivial⟩) ?_; conv => whnf) | (refine ifB_intro (fun hA => ?_) (fun hA => ?_) <;> (try rw [hA]) <;> (conv => whnf) <;> (first | replace hA := of_decide_eq_true hA | replace hA := of_decide_eq_false hA | replace hA := eq_of_beq hA | replace hA := ne_of_beq_false hA | replace hA := bne_iff_ne.1 hA | replace hA := bne_eq_false_iff_eq.1 hA | skip) <;> (try simp only [List.length_map, cond_true, cond_false, Bool.not_eq_true', Bool.not_eq_false', beq_iff_eq, beq_eq_false_iff_ne, ne_eq] at hA)) | (refine And.intro hkm.symm ?_; conv => whnf) | (rw [getD_map _ _ _ _ (by assumption)]; conv => whnf))
    rw [List.drop_zero, List.take_of_length_le (by rw [hkm]; exact Nat.le_refl _)]
end Go.Ax

namespace Go.Ax
open Go.Proofs Go.RowKit Go.Shelf Go.Lib
set_option maxRecDepth 10000
theorem neg_cases (l : List UInt8) : (∃ r, l = 33 :: r ∧ bareW l = r ∧ negW l = true) ∨ (bareW l = l ∧ negW l = false ∧ ∀ h : 0 < l.length, l[0] ≠ 33) := by
  unfold bareW negW Lib.trimPrefix Lib.hasPrefix
  cases l with
  | nil => exact .inr ⟨rfl, rfl, by simp⟩
  | cons b r =>
    by_cases hb : b = 33
    · subst hb; exact .inl ⟨r, rfl, rfl, rfl⟩
    · have hb2 : ¬ 33 = b := fun e => hb e.symm
      have e : List.isPrefixOf [33] (b :: r) = false := by simp [List.isPrefixOf, hb2]
      rw [e]
      exact .inr ⟨rfl, rfl, fun _ => by simpa using hb⟩
def zeroWd : List D := [.v (.bool false), .v (.bool false), .i64 0, .i64 0, .v (.slice none 0 0)]
set_option maxHeartbeats 2000000 in
theorem rword37_ctr (g : GP) (l : List UInt8) (hl : l.length < 2 ^ 30) : Ctr (ax g).E 61 [.str (baL l)] [] fun o => o = .ret (.tup [.dagg (rowWd (wordR l).1), .bool (wordR l).2]) [] := by
  refine Ctr.tup1 ?_
  have hs := ba_size l
  by_cases h0 : l = [46, 46]
  · have hr : wordR l = (⟨true, false, 0, 0, []⟩, true) := by unfold wordR; rw [if_pos h0]
    rw [hr]
    subst h0
    refine Ctr.body (X := ax g) _ 114 [] [.cell 2 122, .tmp 3] Tryz.func61 rfl rfl rfl rfl (by decide +kernel) rfl rfl ?_
    conv => whnf
    repeat' (first | (refine And.intro (by first | exact rfl | decide | exact Nat.le_of_ble_eq_true rfl | exact ⟨_, rfl⟩ | exact ⟨_, _, rfl⟩ | exact Nat.le_refl _ | exact Int.le_refl _ | omega | (simp only []; omega) | exact True.intro | (simp only []; omega) | (simp only [List.length_cons]; omega) | (simp only [List.length_cons, List.length_nil]; omega) | exact ⟨⟨_, _, rfl, rfl, Nat.le_of_ble_eq_true rfl⟩, trivial⟩ | exact ⟨⟨_, _, rfl, rfl, Nat.le_of_ble_eq_true rfl⟩, ⟨_, _, rfl, rfl, Nat.le_of_ble_eq_true rfl⟩, trivial⟩ | exact ⟨⟨_, _, rfl, rfl, Nat.le_of_ble_eq_true rfl⟩, ⟨_, _, rfl, rfl, Nat.le_of_ble_eq_true rfl⟩, ⟨_, _, rfl, rfl, Nat.le_of_ble_eq_true rfl⟩, trivial⟩) ?_; conv => whnf) | (refine ifB_intro (fun hA => ?_) (fun hA => ?_) <;> (try rw [hA]) <;> (conv => whnf) <;> (first | replace hA := of_decide_eq_true hA | replace hA := of_decide_eq_false hA | replace hA := eq_of_beq hA | replace hA := ne_of_beq_false hA | replace hA := bne_iff_ne.1 hA | replace hA := bne_eq_false_iff_eq.1 hA | skip) <;> (try simp only [List.length_map, cond_true, cond_false, Bool.not_eq_true', Bool.not_eq_false', beq_iff_eq, beq_eq_false_iff_ne, ne_eq] at hA)) | (rw [getD_map _ _ _ _ (by assumption)]; conv => whnf))
    refine ⟨⟨[], ?_⟩⟩
    conv => whnf
    repeat' (first | (refine And.intro (by first | exact rfl | decide | exact Nat.le_of_ble_eq_true rfl | exact ⟨_, rfl⟩ | exact ⟨_, _, rfl⟩ | exact Nat.le_refl _ | exact Int.le_refl _ | omega | (simp only [List.length_map]; omega) | exact True.intro | (simp only [IntKind.wrap_i64, List.length_map]; omega) | (simp only [List.map_cons, List.map_nil, List.length_cons, Option.getD]; omega) | (simp only [bsz, ByteArray.size_append, List.size_toArray, List.length_cons, List.length_nil]; omega) | exact ⟨⟨_, _, rfl, rfl, Nat.le_of_ble_eq_true rfl⟩, trivial⟩ | exact ⟨⟨_, _, rfl, rfl, Nat.le_of_ble_eq_true rfl⟩, ⟨_, _, rfl, rfl, Nat.le_of_ble_eq_true rfl⟩, trivial⟩ | exact ⟨⟨_, _, rfl, rfl, Nat.le_of_ble_eq_true rfl⟩, ⟨_, _, rfl, rfl, Nat.le_of_ble_eq_true rfl⟩, ⟨_, _, rfl, rfl, Nat.le_of_ble_eq_true rfl⟩, trivial⟩) ?_; conv => whnf) | (refine ifB_intro (fun hA => ?_) (fun hA => ?_) <;> (try rw [hA]) <;> (conv => whnf) <;> (first | replace hA := of_decide_eq_true hA | replace hA := of_decide_eq_false hA | replace hA := eq_of_beq hA | replace hA := ne_of_beq_false hA | replace hA := bne_iff_ne.1 hA | replace hA := bne_eq_false_iff_eq.1 hA | skip) <;> (try simp only [List.length_map, cond_true, cond_false, Bool.not_eq_true', Bool.not_eq_false', beq_iff_eq, beq_eq_false_iff_ne, ne_eq] at hA)) | (rw [getD_map _ _ _ _ (by assumption)]; conv => whnf))
    exact ⟨_, RA.dagg_le' (nil_le _ _ _ _), rfl⟩
  · have hbl : (bareW l).length ≤ l.length := trimPrefix_len l [33]
    have hne : 0 < (partsW l).length := by
      rcases Nat.eq_zero_or_pos (partsW l).length with h | h
      · exact absurd (List.eq_nil_of_length_eq_zero h) (splitL_ne 46 _)
      · exact h
    have hps : ∀ p ∈ partsW l, p.length ≤ l.length := fun p hp => Nat.le_trans (split_len 46 _ p hp) hbl
    have hpn : (partsW l).length ≤ l.length + 1 := Nat.le_trans (splitL_le 46 _) (by omega)
    have c2 := split_ref g 46 (bareW l) (by omega)
    obtain ⟨a1, a2⟩ := cutL_len 58 ((partsW l).headD [])
    have hhd : ((partsW l).headD []).length ≤ l.length := by
      cases hq : partsW l with
      | nil => simp
      | cons x r => exact hps x (by rw [hq]; simp)
    have c3 := rcut37_ctr g 58 ((partsW l).headD []) (by omega)
    have c4 := rplace37_ctr g (atW l).1 (by unfold atW; omega)
    have c5 := rplace37_ctr g (atW l).2.1 (by unfold atW; omega)
    have hr : wordR l = if headR l = true then (⟨false, negW l, placeN (atW l).1, placeN (atW l).2.1, (testsR (partsW l).tail []).1⟩, (testsR (partsW l).tail []).2) else (⟨false, negW l, 0, 0, []⟩, false) := by unfold wordR; rw [if_neg h0]
    rw [hr]
    unfold headR
    have hneg := neg_cases l
    change Ctr _ _ [.str (baL (bareW l)), _] _ (fun o => o = .ret (.d (.sl false 1 ((partsW l).map rowW))) []) at c2
    change Ctr _ _ _ _ (fun o => o = .ret (.tup [.str (baL (atW l).1), .str (baL (atW l).2.1), .bool (atW l).2.2]) []) at c3
    clear hr
    generalize atW l = A at *
    generalize hP : partsW l = P at *
    obtain ⟨x, y, two⟩ := A
    dsimp only at *
    clear hP
    rcases hneg with ⟨r, hlr, hB, hN⟩ | ⟨hB, hN, hb0⟩
    · rw [hN]
      rw [hB] at c2
      have x2 : (baL l).extract ((some (1 : Int)).getD 0).toNat ((none : Option Int).getD (((baL l).size : Nat) : Int)).toNat = baL r := by
        show (baL l).extract 1 (baL l).size = _
        have := sub_drop (s := baL l) (n := 1)
        rw [this, ba_toList, hlr]; rfl
      have hlp : 0 < l.length := by rw [hlr]; simp
      have hb : byteAt (baL l) 0 = 33 := by
        have := byteAt_ba l 0 hlp
        have e : l[0] = 33 := by simp [hlr]
        rw [e] at this; exact this
      refine Ctr.body (X := ax g) _ 114 [] [.cell 2 122, .tmp 3] Tryz.func61 rfl rfl rfl rfl (by decide +kernel) rfl rfl ?_
      conv => whnf
      repeat' (first | (refine And.intro (by first | exact rfl | decide | exact Nat.le_of_ble_eq_true rfl | exact ⟨_, rfl⟩ | exact ⟨_, _, rfl⟩ | exact Nat.le_refl _ | exact Int.le_refl _ | omega | (simp only []; omega) | exact True.intro | (simp only []; omega) | (simp only [List.length_cons, Option.getD]; omega) | (simp only [List.length_cons, List.length_nil]; omega) | exact ⟨⟨_, _, rfl, rfl, Nat.le_of_ble_eq_true rfl⟩, trivial⟩ | exact ⟨⟨_, _, rfl, rfl, Nat.le_of_ble_eq_true rfl⟩, ⟨_, _, rfl, rfl, Nat.le_of_ble_eq_true rfl⟩, trivial⟩ | exact ⟨⟨_, _, rfl, rfl, Nat.le_of_ble_eq_true rfl⟩, ⟨_, _, rfl, rfl, Nat.le_of_ble_eq_true rfl⟩, ⟨_, _, rfl, rfl, Nat.le_of_ble_eq_true rfl⟩, trivial⟩) ?_; conv => whnf) | (refine ifB_intro (fun hA => ?_) (fun hA => ?_) <;> (try rw [hA]) <;> (conv => whnf) <;> (first | replace hA := of_decide_eq_true hA | replace hA := of_decide_eq_false hA | replace hA := eq_of_beq hA | replace hA := ne_of_beq_false hA | replace hA := bne_iff_ne.1 hA | replace hA := bne_eq_false_iff_eq.1 hA | skip) <;> (try simp only [ne_eq] at hA)) | (rw [ba_toList] at hA; exact absurd hA h0) | (exfalso; omega) | (exfalso; exact hA hb) | (rw [getD_map _ _ _ _ (by assumption)]; conv => whnf))
      obtain ⟨p0, ps, rfl⟩ : ∃ p0 ps, P = p0 :: ps := by
        cases P with
        | nil => simp at hne
        | cons p0 ps => exact ⟨p0, ps, rfl⟩
      have hlen : ((p0 :: ps).map rowW).length = (p0 :: ps).length := List.length_map _
      have hlen2 : (rowW p0 :: ps.map rowW).length = ps.length + 1 := by simp
      have hpc : (p0 :: ps).length = ps.length + 1 := rfl
      repeat' (first | (refine And.intro (by first | exact rfl | decide | exact Nat.le_of_ble_eq_true rfl | exact ⟨_, rfl⟩ | exact ⟨_, _, rfl⟩ | exact Nat.le_refl _ | exact Int.le_refl _ | omega | (simp only [List.length_map]; omega) | exact True.intro | (simp only [IntKind.wrap_i64, List.length_map]; omega) | (simp only [List.map_cons, List.map_nil, List.length_cons, Option.getD]; omega) | (simp only [bsz, ByteArray.size_append, List.size_toArray, List.length_cons, List.length_nil]; omega) | exact ⟨⟨_, _, rfl, rfl, Nat.le_of_ble_eq_true rfl⟩, trivial⟩ | exact ⟨⟨_, _, rfl, rfl, Nat.le_of_ble_eq_true rfl⟩, ⟨_, _, rfl, rfl, Nat.le_of_ble_eq_true rfl⟩, trivial⟩ | exact ⟨⟨_, _, rfl, rfl, Nat.le_of_ble_eq_true rfl⟩, ⟨_, _, rfl, rfl, Nat.le_of_ble_eq_true rfl⟩, ⟨_, _, rfl, rfl, Nat.le_of_ble_eq_true rfl⟩, trivial⟩) ?_; conv => whnf) | (refine ifB_intro (fun hA => ?_) (fun hA => ?_) <;> (try rw [hA]) <;> (conv => whnf) <;> (first | replace hA := of_decide_eq_true hA | replace hA := of_decide_eq_false hA | replace hA := eq_of_beq hA | replace hA := ne_of_beq_false hA | replace hA := bne_iff_ne.1 hA | replace hA := bne_eq_false_iff_eq.1 hA | skip) <;> (try simp only [cond_false, Bool.not_eq_true', Bool.not_eq_false'] at hA)) | (refine CallP.arg (args' := [.str (baL r), .d (.v (.int .u8 46))]) (congrArg (fun z => [AV.str z, AV.d (.v (.int .u8 46))]) x2) (CallP.det c2 ?_); conv => whnf) | (rw [List.map_cons]; conv => whnf) | (refine CallP.det (c3) ?_; conv => whnf) | (refine CallD.det (c3) ?_; conv => whnf) | (refine CallP.det (c4) ?_; conv => whnf) | (refine CallD.det (c4) ?_; conv => whnf) | (refine CallP.det (c5) ?_; conv => whnf) | (refine CallD.det (c5) ?_; conv => whnf) | (rw [getD_map _ _ _ _ (by assumption)]; conv => whnf))
      iterate 4
        · have hc : ¬ ((two && placeY x && placeY y && decide ((p0 :: ps).length ≤ 7)) = true) := by
            simp only [Bool.and_eq_true, decide_eq_true_eq]
            rintro ⟨⟨⟨q1, q2⟩, q3⟩, q4⟩
            first | omega | (simp_all; done) | (simp_all; omega)
          rw [if_neg hc]
          refine ⟨⟨[], ?_⟩⟩
          conv => whnf
          repeat' (first | (refine And.intro (by first | exact rfl | decide | exact Nat.le_of_ble_eq_true rfl | exact ⟨_, rfl⟩ | exact ⟨_, _, rfl⟩ | exact Nat.le_refl _ | exact Int.le_refl _ | omega | (simp only [List.length_map]; omega) | exact True.intro | (simp only [IntKind.wrap_i64, List.length_map]; omega) | (simp only [List.map_cons, List.map_nil, List.length_cons, Option.getD]; omega) | (simp only [bsz, ByteArray.size_append, List.size_toArray, List.length_cons, List.length_nil]; omega) | exact ⟨⟨_, _, rfl, rfl, Nat.le_of_ble_eq_true rfl⟩, trivial⟩ | exact ⟨⟨_, _, rfl, rfl, Nat.le_of_ble_eq_true rfl⟩, ⟨_, _, rfl, rfl, Nat.le_of_ble_eq_true rfl⟩, trivial⟩ | exact ⟨⟨_, _, rfl, rfl, Nat.le_of_ble_eq_true rfl⟩, ⟨_, _, rfl, rfl, Nat.le_of_ble_eq_true rfl⟩, ⟨_, _, rfl, rfl, Nat.le_of_ble_eq_true rfl⟩, trivial⟩) ?_; conv => whnf) | (refine ifB_intro (fun hA => ?_) (fun hA => ?_) <;> (try rw [hA]) <;> (conv => whnf) <;> (first | replace hA := of_decide_eq_true hA | replace hA := of_decide_eq_false hA | replace hA := eq_of_beq hA | replace hA := ne_of_beq_false hA | replace hA := bne_iff_ne.1 hA | replace hA := bne_eq_false_iff_eq.1 hA | skip) <;> (try simp only [List.length_map, cond_true, cond_false, Bool.not_eq_true', Bool.not_eq_false', beq_iff_eq, beq_eq_false_iff_ne, ne_eq] at hA)) | (rw [getD_map _ _ _ _ (by assumption)]; conv => whnf))
          exact ⟨_, RA.dagg_le' (nil_le _ _ _ _), rfl⟩
      · have hc : (two && placeY x && placeY y && decide ((p0 :: ps).length ≤ 7)) = true := by
          simp only [Bool.and_eq_true, decide_eq_true_eq]
          refine ⟨⟨⟨?_, ?_⟩, ?_⟩, by rw [hlen2] at hA; omega⟩ <;> simp_all
        rw [if_pos hc]
        refine LoopP.asVar 4 5 _ rfl ?_
        refine LoopP.asVar 2 5 _ rfl ?_
        refine LoopP.ownCell 4 4 9500 2 106 _ rfl rfl rfl ?_
        refine LoopP.inv (X := ax g) (fun z : Nat × List (Int × Int) => { f := [(2, .ptr 2 0), (4, .ptr 4 0), (5, .d (.sl false 1 ((p0 :: ps).map rowW))), (13, .i64 ((z.1 + 1 : Nat) : Int))], h := [(2, some (.var (zeroWd.map .d))), (4, some (.var [.bool false, .bool true, .i64 (placeN x), .i64 (placeN y), .msl 9500 z.2.length 0 z.2.length])), (9500, some (.buf 2 106 (z.2.map rowPr)))] }) (fun z => z.1 ≤ ps.length ∧ z.2.length ≤ z.1 ∧ testsR ps [] = testsR (ps.drop z.1) z.2) (fun z => ps.length - z.1) (0, []) ⟨Nat.zero_le _, Nat.le_refl _, rfl⟩ ⟨⟨rfl, rfl, rfl, rfl, trivial⟩, ⟨fun o h => h, fun o h => h, fun o h => h, trivial⟩⟩ fun ⟨i, acc⟩ ⟨hi, hac, hI⟩ => ?_
        dsimp only at hi hac hI ⊢
        conv => whnf
        refine ifB_intro (fun h => ?_) (fun h => ?_)
        · have h : i < ps.length := by have h0 := of_decide_eq_true h; rw [hlen] at h0; omega
          have hge : ((p0 :: ps).map rowW).getD (((i + 1 : Nat) : Int)).toNat [] = rowW ps[i] := by
            rw [show (((i + 1 : Nat) : Int)).toNat = i + 1 from by omega, List.map_cons, List.getD_cons_succ]
            simp [List.getD, h]
          have hpl := hps ps[i] (by simp)
          obtain ⟨q1, q2⟩ := cutL_len 61 ps[i]
          have t1 := rcut37_ctr g 61 ps[i] (by omega)
          have t2 := refField_ctr g (baL (cutL 61 ps[i]).1)
          rw [ba_toList] at t2
          have t3 := refNumber_ctr g (cutL 61 ps[i]).2.1 (by omega)
          have hst : testsR (ps.drop i) acc = if testR ps[i] = true then testsR (ps.drop (i + 1)) (acc ++ [pairR ps[i]]) else (acc, false) := by
            rw [List.drop_eq_getElem_cons h, testsR]
          change Ctr _ _ _ _ (fun o => o = .ret (.i64 (fieldN (cutL 61 ps[i]).1)) []) at t2
          have hal : (acc.map rowPr).length = acc.length := List.length_map _
          unfold testR pairR at hst
          generalize cutL 61 ps[i] = C at *
          obtain ⟨ca, cb, cc⟩ := C
          dsimp only at t1 t2 t3 hst
          generalize fieldN ca = fv at *
          generalize numN cb = nv at *
          conv => whnf
          repeat' (first | (refine And.intro (by first | exact rfl | decide | exact Nat.le_of_ble_eq_true rfl | exact ⟨_, rfl⟩ | exact ⟨_, _, rfl⟩ | exact Nat.le_refl _ | exact Int.le_refl _ | omega | (simp only [List.length_map]; omega) | exact True.intro | (simp only [List.length_map]; omega) | (simp only [List.map_cons, List.map_nil, List.length_cons]; omega) | (simp only [List.length_cons, List.length_nil]; omega) | exact ⟨⟨_, _, rfl, rfl, Nat.le_of_ble_eq_true rfl⟩, trivial⟩ | exact ⟨⟨_, _, rfl, rfl, Nat.le_of_ble_eq_true rfl⟩, ⟨_, _, rfl, rfl, Nat.le_of_ble_eq_true rfl⟩, trivial⟩ | exact ⟨⟨_, _, rfl, rfl, Nat.le_of_ble_eq_true rfl⟩, ⟨_, _, rfl, rfl, Nat.le_of_ble_eq_true rfl⟩, ⟨_, _, rfl, rfl, Nat.le_of_ble_eq_true rfl⟩, trivial⟩) ?_; conv => whnf) | (refine ifB_intro (fun hA => ?_) (fun hA => ?_) <;> (try rw [hA]) <;> (conv => whnf) <;> (first | replace hA := of_decide_eq_true hA | replace hA := of_decide_eq_false hA | replace hA := eq_of_beq hA | replace hA := ne_of_beq_false hA | replace hA := bne_iff_ne.1 hA | replace hA := bne_eq_false_iff_eq.1 hA | skip) <;> (try simp only [Bool.not_eq_true', Bool.not_eq_false'] at hA)) | (erw [hge]; conv => whnf) | (refine CallP.det (t1) ?_; conv => whnf) | (refine CallD.det (t1) ?_; conv => whnf) | (refine CallP.det (t2) ?_; conv => whnf) | (refine CallD.det (t2) ?_; conv => whnf) | (refine CallP.det (t3) ?_; conv => whnf) | (refine CallD.det (t3) ?_; conv => whnf) | (refine And.intro hal.symm ?_; conv => whnf) | (refine And.intro (by show ((acc.map rowPr).length + 1) * 16 ≤ 140737488355328; rw [hal]; omega) ?_; conv => whnf) | (rw [getD_map _ _ _ _ (by assumption)]; conv => whnf))
          iterate 3
            · have ht : testsR (p0 :: ps).tail [] = (acc, false) := by
                show testsR ps [] = _
                rw [hI, hst, if_neg (by simp only [Bool.and_eq_true, decide_eq_true_eq]; rintro ⟨⟨k1, k2⟩, k3⟩; first | omega | simp_all)]
              rw [ht]
              refine ⟨⟨[], ?_⟩⟩
              conv => whnf
              repeat' (first | (refine And.intro (by first | exact rfl | decide | exact Nat.le_of_ble_eq_true rfl | exact ⟨_, rfl⟩ | exact ⟨_, _, rfl⟩ | exact Nat.le_refl _ | exact Int.le_refl _ | omega | (simp only [List.length_map]; omega) | exact True.intro | (simp only [IntKind.wrap_i64, List.length_map]; omega) | (simp only [List.map_cons, List.map_nil, List.length_cons, Option.getD]; omega) | (simp only [bsz, ByteArray.size_append, List.size_toArray, List.length_cons, List.length_nil]; omega) | exact ⟨⟨_, _, rfl, rfl, Nat.le_of_ble_eq_true rfl⟩, trivial⟩ | exact ⟨⟨_, _, rfl, rfl, Nat.le_of_ble_eq_true rfl⟩, ⟨_, _, rfl, rfl, Nat.le_of_ble_eq_true rfl⟩, trivial⟩ | exact ⟨⟨_, _, rfl, rfl, Nat.le_of_ble_eq_true rfl⟩, ⟨_, _, rfl, rfl, Nat.le_of_ble_eq_true rfl⟩, ⟨_, _, rfl, rfl, Nat.le_of_ble_eq_true rfl⟩, trivial⟩) ?_; conv => whnf) | (refine ifB_intro (fun hA => ?_) (fun hA => ?_) <;> (try rw [hA]) <;> (conv => whnf) <;> (first | replace hA := of_decide_eq_true hA | replace hA := of_decide_eq_false hA | replace hA := eq_of_beq hA | replace hA := ne_of_beq_false hA | replace hA := bne_iff_ne.1 hA | replace hA := bne_eq_false_iff_eq.1 hA | skip) <;> (try simp only [List.length_map, cond_true, cond_false, Bool.not_eq_true', Bool.not_eq_false', beq_iff_eq, beq_eq_false_iff_ne, ne_eq] at hA)) | (refine And.intro hal.symm ?_; conv => whnf) | (rw [getD_map _ _ _ _ (by assumption)]; conv => whnf))
              refine ⟨.agg [.bool false, .bool true, .i64 (placeN x), .i64 (placeN y), .d (.sl false 2 (((acc.map rowPr).drop 0).take acc.length))], RA.agg_dagg ?_, rfl⟩
              rw [List.drop_zero, List.take_of_length_le (by rw [hal]; exact Nat.le_refl _)]
              rfl
          · rw [if_pos (by simp only [Bool.and_eq_true, decide_eq_true_eq]; refine ⟨⟨by simp_all, by omega⟩, by omega⟩)] at hst
            refine ⟨(i + 1, acc ++ [(fv, IntKind.u16.wrap nv)]), ⟨by show i + 1 ≤ _; omega, by show (acc ++ [_]).length ≤ i + 1; rw [List.length_append, List.length_singleton]; omega, by show _ = testsR (ps.drop (i + 1)) _; rw [hI, hst]⟩, by show ps.length - (i + 1) < _; omega, ⟨⟨rfl, rfl, rfl, AV.int_eq (i64_succ (by omega)), trivial⟩, ⟨fun o h => h, fun o h => ?_, fun o h => ?_, trivial⟩⟩⟩
            · rw [← h]
              show some (AObj.var [.bool false, .bool true, .i64 (placeN x), .i64 (placeN y), .msl 9500 ((acc.map rowPr).length + 1) 0 ((acc.map rowPr).length + 1)]) = some (AObj.var [.bool false, .bool true, .i64 (placeN x), .i64 (placeN y), .msl 9500 (acc ++ [(fv, IntKind.u16.wrap nv)]).length 0 (acc ++ [(fv, IntKind.u16.wrap nv)]).length])
              rw [hal, List.length_append]
              rfl
            · rw [← h, List.map_append]; rfl
        · have h : i = ps.length := by have h0 := of_decide_eq_false h; rw [hlen] at h0; omega
          subst h
          rw [List.drop_length, testsR] at hI
          have hal : (acc.map rowPr).length = acc.length := List.length_map _
          have ht : testsR (p0 :: ps).tail [] = (acc, true) := hI
          rw [ht]
          conv => whnf
          repeat' (first | (refine And.intro (by first | exact rfl | decide | exact Nat.le_of_ble_eq_true rfl | exact ⟨_, rfl⟩ | exact ⟨_, _, rfl⟩ | exact Nat.le_refl _ | exact Int.le_refl _ | omega | (simp only [List.length_map]; omega) | exact True.intro | (simp only [IntKind.wrap_i64, List.length_map]; omega) | (simp only [List.map_cons, List.map_nil, List.length_cons, Option.getD]; omega) | (simp only [bsz, ByteArray.size_append, List.size_toArray, List.length_cons, List.length_nil]; omega) | exact ⟨⟨_, _, rfl, rfl, Nat.le_of_ble_eq_true rfl⟩, trivial⟩ | exact ⟨⟨_, _, rfl, rfl, Nat.le_of_ble_eq_true rfl⟩, ⟨_, _, rfl, rfl, Nat.le_of_ble_eq_true rfl⟩, trivial⟩ | exact ⟨⟨_, _, rfl, rfl, Nat.le_of_ble_eq_true rfl⟩, ⟨_, _, rfl, rfl, Nat.le_of_ble_eq_true rfl⟩, ⟨_, _, rfl, rfl, Nat.le_of_ble_eq_true rfl⟩, trivial⟩) ?_; conv => whnf) | (refine ifB_intro (fun hA => ?_) (fun hA => ?_) <;> (try rw [hA]) <;> (conv => whnf) <;> (first | replace hA := of_decide_eq_true hA | replace hA := of_decide_eq_false hA | replace hA := eq_of_beq hA | replace hA := ne_of_beq_false hA | replace hA := bne_iff_ne.1 hA | replace hA := bne_eq_false_iff_eq.1 hA | skip) <;> (try simp only [List.length_map, cond_true, cond_false, Bool.not_eq_true', Bool.not_eq_false', beq_iff_eq, beq_eq_false_iff_ne, ne_eq] at hA)) | (rw [getD_map _ _ _ _ (by assumption)]; conv => whnf))
          refine ⟨⟨[], ?_⟩⟩
          conv => whnf
          repeat' (first | (refine And.intro (by first | exact rfl | decide | exact Nat.le_of_ble_eq_true rfl | exact ⟨_, rfl⟩ | exact ⟨_, _, rfl⟩ | exact Nat.le_refl _ | exact Int.le_refl _ | omega | (simp only [List.length_map]; omega) | exact True.intro | (simp only [IntKind.wrap_i64, List.length_map]; omega) | (simp only [List.map_cons, List.map_nil, List.length_cons, Option.getD]; omega) | (simp only [bsz, ByteArray.size_append, List.size_toArray, List.length_cons, List.length_nil]; omega) | exact ⟨⟨_, _, rfl, rfl, Nat.le_of_ble_eq_true rfl⟩, trivial⟩ | exact ⟨⟨_, _, rfl, rfl, Nat.le_of_ble_eq_true rfl⟩, ⟨_, _, rfl, rfl, Nat.le_of_ble_eq_true rfl⟩, trivial⟩ | exact ⟨⟨_, _, rfl, rfl, Nat.le_of_ble_eq_true rfl⟩, ⟨_, _, rfl, rfl, Nat.le_of_ble_eq_true rfl⟩, ⟨_, _, rfl, rfl, Nat.le_of_ble_eq_true rfl⟩, trivial⟩) ?_; conv => whnf) | (refine ifB_intro (fun hA => ?_) (fun hA => ?_) <;> (try rw [hA]) <;> (conv => whnf) <;> (first | replace hA := of_decide_eq_true hA | replace hA := of_decide_eq_false hA | replace hA := eq_of_beq hA | replace hA := ne_of_beq_false hA | replace hA := bne_iff_ne.1 hA | replace hA := bne_eq_false_iff_eq.1 hA | skip) <;> (try simp only [List.length_map, cond_true, cond_false, Bool.not_eq_true', Bool.not_eq_false', beq_iff_eq, beq_eq_false_iff_ne, ne_eq] at hA)) | (refine And.intro hal.symm ?_; conv => whnf) | (rw [getD_map _ _ _ _ (by assumption)]; conv => whnf))
          refine ⟨.agg [.bool false, .bool true, .i64 (placeN x), .i64 (placeN y), .d (.sl false 2 (((acc.map rowPr).drop 0).take acc.length))], RA.agg_dagg ?_, rfl⟩
          rw [List.drop_zero, List.take_of_length_le (by rw [hal]; exact Nat.le_refl _)]
          rfl
    · rw [hN]
      rw [hB] at c2
      refine Ctr.body (X := ax g) _ 114 [] [.cell 2 122, .tmp 3] Tryz.func61 rfl rfl rfl rfl (by decide +kernel) rfl rfl ?_
      conv => whnf
      by_cases hlp : 0 < l.length
      · have hb := byteAt_ba l 0 hlp
        have hb1 := hb0 hlp
        have hb2 : byteAt (baL l) 0 ≠ 33 := fun e => hb1 (UInt8.toNat_inj.1 (by show l[0].toNat = 33; have e2 : byteAt (baL l) 0 = (l[0].toNat : Int) := hb; omega))
        repeat' (first | (refine And.intro (by first | exact rfl | decide | exact Nat.le_of_ble_eq_true rfl | exact ⟨_, rfl⟩ | exact ⟨_, _, rfl⟩ | exact Nat.le_refl _ | exact Int.le_refl _ | omega | (simp only []; omega) | exact True.intro | (simp only []; omega) | (simp only [List.length_cons]; omega) | (simp only [List.length_cons, List.length_nil]; omega) | exact ⟨⟨_, _, rfl, rfl, Nat.le_of_ble_eq_true rfl⟩, trivial⟩ | exact ⟨⟨_, _, rfl, rfl, Nat.le_of_ble_eq_true rfl⟩, ⟨_, _, rfl, rfl, Nat.le_of_ble_eq_true rfl⟩, trivial⟩ | exact ⟨⟨_, _, rfl, rfl, Nat.le_of_ble_eq_true rfl⟩, ⟨_, _, rfl, rfl, Nat.le_of_ble_eq_true rfl⟩, ⟨_, _, rfl, rfl, Nat.le_of_ble_eq_true rfl⟩, trivial⟩) ?_; conv => whnf) | (refine ifB_intro (fun hA => ?_) (fun hA => ?_) <;> (try rw [hA]) <;> (conv => whnf) <;> (first | replace hA := of_decide_eq_true hA | replace hA := of_decide_eq_false hA | replace hA := eq_of_beq hA | replace hA := ne_of_beq_false hA | replace hA := bne_iff_ne.1 hA | replace hA := bne_eq_false_iff_eq.1 hA | skip) <;> (try simp only [ne_eq] at hA)) | (rw [ba_toList] at hA; exact absurd hA h0) | (exfalso; omega) | (exfalso; exact hb2 hA) | (rw [getD_map _ _ _ _ (by assumption)]; conv => whnf))
        obtain ⟨p0, ps, rfl⟩ : ∃ p0 ps, P = p0 :: ps := by
          cases P with
          | nil => simp at hne
          | cons p0 ps => exact ⟨p0, ps, rfl⟩
        have hlen : ((p0 :: ps).map rowW).length = (p0 :: ps).length := List.length_map _
        have hlen2 : (rowW p0 :: ps.map rowW).length = ps.length + 1 := by simp
        have hpc : (p0 :: ps).length = ps.length + 1 := rfl
        repeat' (first | (refine And.intro (by first | exact rfl | decide | exact Nat.le_of_ble_eq_true rfl | exact ⟨_, rfl⟩ | exact ⟨_, _, rfl⟩ | exact Nat.le_refl _ | exact Int.le_refl _ | omega | (simp only [List.length_map]; omega) | exact True.intro | (simp only [IntKind.wrap_i64, List.length_map]; omega) | (simp only [List.map_cons, List.map_nil, List.length_cons, Option.getD]; omega) | (simp only [bsz, ByteArray.size_append, List.size_toArray, List.length_cons, List.length_nil]; omega) | exact ⟨⟨_, _, rfl, rfl, Nat.le_of_ble_eq_true rfl⟩, trivial⟩ | exact ⟨⟨_, _, rfl, rfl, Nat.le_of_ble_eq_true rfl⟩, ⟨_, _, rfl, rfl, Nat.le_of_ble_eq_true rfl⟩, trivial⟩ | exact ⟨⟨_, _, rfl, rfl, Nat.le_of_ble_eq_true rfl⟩, ⟨_, _, rfl, rfl, Nat.le_of_ble_eq_true rfl⟩, ⟨_, _, rfl, rfl, Nat.le_of_ble_eq_true rfl⟩, trivial⟩) ?_; conv => whnf) | (refine ifB_intro (fun hA => ?_) (fun hA => ?_) <;> (try rw [hA]) <;> (conv => whnf) <;> (first | replace hA := of_decide_eq_true hA | replace hA := of_decide_eq_false hA | replace hA := eq_of_beq hA | replace hA := ne_of_beq_false hA | replace hA := bne_iff_ne.1 hA | replace hA := bne_eq_false_iff_eq.1 hA | skip) <;> (try simp only [cond_false, Bool.not_eq_true', Bool.not_eq_false'] at hA)) | (refine CallP.det (c2) ?_; conv => whnf) | (refine CallD.det (c2) ?_; conv => whnf) | (rw [List.map_cons]; conv => whnf) | (refine CallP.det (c3) ?_; conv => whnf) | (refine CallD.det (c3) ?_; conv => whnf) | (refine CallP.det (c4) ?_; conv => whnf) | (refine CallD.det (c4) ?_; conv => whnf) | (refine CallP.det (c5) ?_; conv => whnf) | (refine CallD.det (c5) ?_; conv => whnf) | (rw [getD_map _ _ _ _ (by assumption)]; conv => whnf))
        iterate 4
          · have hc : ¬ ((two && placeY x && placeY y && decide ((p0 :: ps).length ≤ 7)) = true) := by
              simp only [Bool.and_eq_true, decide_eq_true_eq]
              rintro ⟨⟨⟨q1, q2⟩, q3⟩, q4⟩
              first | omega | (simp_all; done) | (simp_all; omega)
            rw [if_neg hc]
            refine ⟨⟨[], ?_⟩⟩
            conv => whnf
            repeat' (first | (refine And.intro (by first | exact rfl | decide | exact Nat.le_of_ble_eq_true rfl | exact ⟨_, rfl⟩ | exact ⟨_, _, rfl⟩ | exact Nat.le_refl _ | exact Int.le_refl _ | omega | (simp only [List.length_map]; omega) | exact True.intro | (simp only [IntKind.wrap_i64, List.length_map]; omega) | (simp only [List.map_cons, List.map_nil, List.length_cons, Option.getD]; omega) | (simp only [bsz, ByteArray.size_append, List.size_toArray, List.length_cons, List.length_nil]; omega) | exact ⟨⟨_, _, rfl, rfl, Nat.le_of_ble_eq_true rfl⟩, trivial⟩ | exact ⟨⟨_, _, rfl, rfl, Nat.le_of_ble_eq_true rfl⟩, ⟨_, _, rfl, rfl, Nat.le_of_ble_eq_true rfl⟩, trivial⟩ | exact ⟨⟨_, _, rfl, rfl, Nat.le_of_ble_eq_true rfl⟩, ⟨_, _, rfl, rfl, Nat.le_of_ble_eq_true rfl⟩, ⟨_, _, rfl, rfl, Nat.le_of_ble_eq_true rfl⟩, trivial⟩) ?_; conv => whnf) | (refine ifB_intro (fun hA => ?_) (fun hA => ?_) <;> (try rw [hA]) <;> (conv => whnf) <;> (first | replace hA := of_decide_eq_true hA | replace hA := of_decide_eq_false hA | replace hA := eq_of_beq hA | replace hA := ne_of_beq_false hA | replace hA := bne_iff_ne.1 hA | replace hA := bne_eq_false_iff_eq.1 hA | skip) <;> (try simp only [List.length_map, cond_true, cond_false, Bool.not_eq_true', Bool.not_eq_false', beq_iff_eq, beq_eq_false_iff_ne, ne_eq] at hA)) | (rw [getD_map _ _ _ _ (by assumption)]; conv => whnf))
            exact ⟨_, RA.dagg_le' (nil_le _ _ _ _), rfl⟩
        · have hc : (two && placeY x && placeY y && decide ((p0 :: ps).length ≤ 7)) = true := by
            simp only [Bool.and_eq_true, decide_eq_true_eq]
            refine ⟨⟨⟨?_, ?_⟩, ?_⟩, by rw [hlen2] at hA; omega⟩ <;> simp_all
          rw [if_pos hc]
          refine LoopP.asVar 4 5 _ rfl ?_
          refine LoopP.asVar 2 5 _ rfl ?_
          refine LoopP.ownCell 4 4 9500 2 106 _ rfl rfl rfl ?_
          refine LoopP.inv (X := ax g) (fun z : Nat × List (Int × Int) => { f := [(2, .ptr 2 0), (4, .ptr 4 0), (5, .d (.sl false 1 ((p0 :: ps).map rowW))), (13, .i64 ((z.1 + 1 : Nat) : Int))], h := [(2, some (.var (zeroWd.map .d))), (4, some (.var [.bool false, .bool false, .i64 (placeN x), .i64 (placeN y), .msl 9500 z.2.length 0 z.2.length])), (9500, some (.buf 2 106 (z.2.map rowPr)))] }) (fun z => z.1 ≤ ps.length ∧ z.2.length ≤ z.1 ∧ testsR ps [] = testsR (ps.drop z.1) z.2) (fun z => ps.length - z.1) (0, []) ⟨Nat.zero_le _, Nat.le_refl _, rfl⟩ ⟨⟨rfl, rfl, rfl, rfl, trivial⟩, ⟨fun o h => h, fun o h => h, fun o h => h, trivial⟩⟩ fun ⟨i, acc⟩ ⟨hi, hac, hI⟩ => ?_
          dsimp only at hi hac hI ⊢
          conv => whnf
          refine ifB_intro (fun h => ?_) (fun h => ?_)
          · have h : i < ps.length := by have h0 := of_decide_eq_true h; rw [hlen] at h0; omega
            have hge : ((p0 :: ps).map rowW).getD (((i + 1 : Nat) : Int)).toNat [] = rowW ps[i] := by
              rw [show (((i + 1 : Nat) : Int)).toNat = i + 1 from by omega, List.map_cons, List.getD_cons_succ]
              simp [List.getD, h]
            have hpl := hps ps[i] (by simp)
            obtain ⟨q1, q2⟩ := cutL_len 61 ps[i]
            have t1 := rcut37_ctr g 61 ps[i] (by omega)
            have t2 := refField_ctr g (baL (cutL 61 ps[i]).1)
            rw [ba_toList] at t2
            have t3 := refNumber_ctr g (cutL 61 ps[i]).2.1 (by omega)
            have hst : testsR (ps.drop i) acc = if testR ps[i] = true then testsR (ps.drop (i + 1)) (acc ++ [pairR ps[i]]) else (acc, false) := by
              rw [List.drop_eq_getElem_cons h, testsR]
            change Ctr _ _ _ _ (fun o => o = .ret (.i64 (fieldN (cutL 61 ps[i]).1)) []) at t2
            have hal : (acc.map rowPr).length = acc.length := List.length_map _
            unfold testR pairR at hst
            generalize cutL 61 ps[i] = C at *
            obtain ⟨ca, cb, cc⟩ := C
            dsimp only at t1 t2 t3 hst
            generalize fieldN ca = fv at *
            generalize numN cb = nv at *
            conv => whnf
            repeat' (first | (refine And.intro (by first | exact rfl | decide | exact Nat.le_of_ble_eq_true rfl | exact ⟨_, rfl⟩ | exact ⟨_, _, rfl⟩ | exact Nat.le_refl _ | exact Int.le_refl _ | omega | (simp only [List.length_map]; omega) | exact True.intro | (simp only [List.length_map]; omega) | (simp only [List.map_cons, List.map_nil, List.length_cons]; omega) | (simp only [List.length_cons, List.length_nil]; omega) | exact ⟨⟨_, _, rfl, rfl, Nat.le_of_ble_eq_true rfl⟩, trivial⟩ | exact ⟨⟨_, _, rfl, rfl, Nat.le_of_ble_eq_true rfl⟩, ⟨_, _, rfl, rfl, Nat.le_of_ble_eq_true rfl⟩, trivial⟩ | exact ⟨⟨_, _, rfl, rfl, Nat.le_of_ble_eq_true rfl⟩, ⟨_, _, rfl, rfl, Nat.le_of_ble_eq_true rfl⟩, ⟨_, _, rfl, rfl, Nat.le_of_ble_eq_true rfl⟩, trivial⟩) ?_; conv => whnf) | (refine ifB_intro (fun hA => ?_) (fun hA => ?_) <;> (try rw [hA]) <;> (conv => whnf) <;> (first | replace hA := of_decide_eq_true hA | replace hA := of_decide_eq_false hA | replace hA := eq_of_beq hA | replace hA := ne_of_beq_false hA | replace hA := bne_iff_ne.1 hA | replace hA := bne_eq_false_iff_eq.1 hA | skip) <;> (try simp only [Bool.not_eq_true', Bool.not_eq_false'] at hA)) | (erw [hge]; conv => whnf) | (refine CallP.det (t1) ?_; conv => whnf) | (refine CallD.det (t1) ?_; conv => whnf) | (refine CallP.det (t2) ?_; conv => whnf) | (refine CallD.det (t2) ?_; conv => whnf) | (refine CallP.det (t3) ?_; conv => whnf) | (refine CallD.det (t3) ?_; conv => whnf) | (refine And.intro hal.symm ?_; conv => whnf) | (refine And.intro (by show ((acc.map rowPr).length + 1) * 16 ≤ 140737488355328; rw [hal]; omega) ?_; conv => whnf) | (rw [getD_map _ _ _ _ (by assumption)]; conv => whnf))
            iterate 3
              · have ht : testsR (p0 :: ps).tail [] = (acc, false) := by
                  show testsR ps [] = _
                  rw [hI, hst, if_neg (by simp only [Bool.and_eq_true, decide_eq_true_eq]; rintro ⟨⟨k1, k2⟩, k3⟩; first | omega | simp_all)]
                rw [ht]
                refine ⟨⟨[], ?_⟩⟩
                conv => whnf
                repeat' (first | (refine And.intro (by first | exact rfl | decide | exact Nat.le_of_ble_eq_true rfl | exact ⟨_, rfl⟩ | exact ⟨_, _, rfl⟩ | exact Nat.le_refl _ | exact Int.le_refl _ | omega | (simp only [List.length_map]; omega) | exact True.intro | (simp only [IntKind.wrap_i64, List.length_map]; omega) | (simp only [List.map_cons, List.map_nil, List.length_cons, Option.getD]; omega) | (simp only [bsz, ByteArray.size_append, List.size_toArray, List.length_cons, List.length_nil]; omega) | exact ⟨⟨_, _, rfl, rfl, Nat.le_of_ble_eq_true rfl⟩, trivial⟩ | exact ⟨⟨_, _, rfl, rfl, Nat.le_of_ble_eq_true rfl⟩, ⟨_, _, rfl, rfl, Nat.le_of_ble_eq_true rfl⟩, trivial⟩ | exact ⟨⟨_, _, rfl, rfl, Nat.le_of_ble_eq_true rfl⟩, ⟨_, _, rfl, rfl, Nat.le_of_ble_eq_true rfl⟩, ⟨_, _, rfl, rfl, Nat.le_of_ble_eq_true rfl⟩, trivial⟩) ?_; conv => whnf) | (refine ifB_intro (fun hA => ?_) (fun hA => ?_) <;> (try rw [hA]) <;> (conv => whnf) <;> (first | replace hA := of_decide_eq_true hA | replace hA := of_decide_eq_false hA | replace hA := eq_of_beq hA | replace hA := ne_of_beq_false hA | replace hA := bne_iff_ne.1 hA | replace hA := bne_eq_false_iff_eq.1 hA | skip) <;> (try simp only [List.length_map, cond_true, cond_false, Bool.not_eq_true', Bool.not_eq_false', beq_iff_eq, beq_eq_false_iff_ne, ne_eq] at hA)) | (refine And.intro hal.symm ?_; conv => whnf) | (rw [getD_map _ _ _ _ (by assumption)]; conv => whnf))
                refine ⟨.agg [.bool false, .bool false, .i64 (placeN x), .i64 (placeN y), .d (.sl false 2 (((acc.map rowPr).drop 0).take acc.length))], RA.agg_dagg ?_, rfl⟩
                rw [List.drop_zero, List.take_of_length_le (by rw [hal]; exact Nat.le_refl _)]
                rfl
            · rw [if_pos (by simp only [Bool.and_eq_true, decide_eq_true_eq]; refine ⟨⟨by simp_all, by omega⟩, by omega⟩)] at hst
              refine ⟨(i + 1, acc ++ [(fv, IntKind.u16.wrap nv)]), ⟨by show i + 1 ≤ _; omega, by show (acc ++ [_]).length ≤ i + 1; rw [List.length_append, List.length_singleton]; omega, by show _ = testsR (ps.drop (i + 1)) _; rw [hI, hst]⟩, by show ps.length - (i + 1) < _; omega, ⟨⟨rfl, rfl, rfl, AV.int_eq (i64_succ (by omega)), trivial⟩, ⟨fun o h => h, fun o h => ?_, fun o h => ?_, trivial⟩⟩⟩
              · rw [← h]
                show some (AObj.var [.bool false, .bool false, .i64 (placeN x), .i64 (placeN y), .msl 9500 ((acc.map rowPr).length + 1) 0 ((acc.map rowPr).length + 1)]) = some (AObj.var [.bool false, .bool false, .i64 (placeN x), .i64 (placeN y), .msl 9500 (acc ++ [(fv, IntKind.u16.wrap nv)]).length 0 (acc ++ [(fv, IntKind.u16.wrap nv)]).length])
                rw [hal, List.length_append]
                rfl
              · rw [← h, List.map_append]; rfl
          · have h : i = ps.length := by have h0 := of_decide_eq_false h; rw [hlen] at h0; omega
            subst h
            rw [List.drop_length, testsR] at hI
            have hal : (acc.map rowPr).length = acc.length := List.length_map _
            have ht : testsR (p0 :: ps).tail [] = (acc, true) := hI
            rw [ht]
            conv => whnf
            repeat' (first | (refine And.intro (by first | exact rfl | decide | exact Nat.le_of_ble_eq_true rfl | exact ⟨_, rfl⟩ | exact ⟨_, _, rfl⟩ | exact Nat.le_refl _ | exact Int.le_refl _ | omega | (simp only [List.length_map]; omega) | exact True.intro | (simp only [IntKind.wrap_i64, List.length_map]; omega) | (simp only [List.map_cons, List.map_nil, List.length_cons, Option.getD]; omega) | (simp only [bsz, ByteArray.size_append, List.size_toArray, List.length_cons, List.length_nil]; omega) | exact ⟨⟨_, _, rfl, rfl, Nat.le_of_ble_eq_true rfl⟩, trivial⟩ | exact ⟨⟨_, _, rfl, rfl, Nat.le_of_ble_eq_true rfl⟩, ⟨_, _, rfl, rfl, Nat.le_of_ble_eq_true rfl⟩, trivial⟩ | exact ⟨⟨_, _, rfl, rfl, Nat.le_of_ble_eq_true rfl⟩, ⟨_, _, rfl, rfl, Nat.le_of_ble_eq_true rfl⟩, ⟨_, _, rfl, rfl, Nat.le_of_ble_eq_true rfl⟩, trivial⟩) ?_; conv => whnf) | (refine ifB_intro (fun hA => ?_) (fun hA => ?_) <;> (try rw [hA]) <;> (conv => whnf) <;> (first | replace hA := of_decide_eq_true hA | replace hA := of_decide_eq_false hA | replace hA := eq_of_beq hA | replace hA := ne_of_beq_false hA | replace hA := bne_iff_ne.1 hA | replace hA := bne_eq_false_iff_eq.1 hA | skip) <;> (try simp only [List.length_map, cond_true, cond_false, Bool.not_eq_true', Bool.not_eq_false', beq_iff_eq, beq_eq_false_iff_ne, ne_eq] at hA)) | (rw [getD_map _ _ _ _ (by assumption)]; conv => whnf))
            refine ⟨⟨[], ?_⟩⟩
            conv => whnf
            repeat' (first | (refine And.intro (by first | exact rfl | decide | exact Nat.le_of_ble_eq_true rfl | exact ⟨_, rfl⟩ | exact ⟨_, _, rfl⟩ | exact Nat.le_refl _ | exact Int.le_refl _ | omega | (simp only [List.length_map]; omega) | exact True.intro | (simp only [IntKind.wrap_i64, List.length_map]; omega) | (simp only [List.map_cons, List.map_nil, List.length_cons, Option.getD]; omega) | (simp only [bsz, ByteArray.size_append, List.size_toArray, List.length_cons, List.length_nil]; omega) | exact ⟨⟨_, _, rfl, rfl, Nat.le_of_ble_eq_true rfl⟩, trivial⟩ | exact ⟨⟨_, _, rfl, rfl, Nat.le_of_ble_eq_true rfl⟩, ⟨_, _, rfl, rfl, Nat.le_of_ble_eq_true rfl⟩, trivial⟩ | exact ⟨⟨_, _, rfl, rfl, Nat.le_of_ble_eq_true rfl⟩, ⟨_, _, rfl, rfl, Nat.le_of_ble_eq_true rfl⟩, ⟨_, _, rfl, rfl, Nat.le_of_ble_eq_true rfl⟩, trivial⟩) ?_; conv => whnf) | (refine ifB_intro (fun hA => ?_) (fun hA => ?_) <;> (try rw [hA]) <;> (conv => whnf) <;> (first | replace hA := of_decide_eq_true hA | replace hA := of_decide_eq_false hA | replace hA := eq_of_beq hA | replace hA := ne_of_beq_false hA | replace hA := bne_iff_ne.1 hA | replace hA := bne_eq_false_iff_eq.1 hA | skip) <;> (try simp only [List.length_map, cond_true, cond_false, Bool.not_eq_true', Bool.not_eq_false', beq_iff_eq, beq_eq_false_iff_ne, ne_eq] at hA)) | (refine And.intro hal.symm ?_; conv => whnf) | (rw [getD_map _ _ _ _ (by assumption)]; conv => whnf))
            refine ⟨.agg [.bool false, .bool false, .i64 (placeN x), .i64 (placeN y), .d (.sl false 2 (((acc.map rowPr).drop 0).take acc.length))], RA.agg_dagg ?_, rfl⟩
            rw [List.drop_zero, List.take_of_length_le (by rw [hal]; exact Nat.le_refl _)]
            rfl
      · repeat' (first | (refine And.intro (by first | exact rfl | decide | exact Nat.le_of_ble_eq_true rfl | exact ⟨_, rfl⟩ | exact ⟨_, _, rfl⟩ | exact Nat.le_refl _ | exact Int.le_refl _ | omega | (simp only []; omega) | exact True.intro | (simp only []; omega) | (simp only [List.length_cons]; omega) | (simp only [List.length_cons, List.length_nil]; omega) | exact ⟨⟨_, _, rfl, rfl, Nat.le_of_ble_eq_true rfl⟩, trivial⟩ | exact ⟨⟨_, _, rfl, rfl, Nat.le_of_ble_eq_true rfl⟩, ⟨_, _, rfl, rfl, Nat.le_of_ble_eq_true rfl⟩, trivial⟩ | exact ⟨⟨_, _, rfl, rfl, Nat.le_of_ble_eq_true rfl⟩, ⟨_, _, rfl, rfl, Nat.le_of_ble_eq_true rfl⟩, ⟨_, _, rfl, rfl, Nat.le_of_ble_eq_true rfl⟩, trivial⟩) ?_; conv => whnf) | (refine ifB_intro (fun hA => ?_) (fun hA => ?_) <;> (try rw [hA]) <;> (conv => whnf) <;> (first | replace hA := of_decide_eq_true hA | replace hA := of_decide_eq_false hA | replace hA := eq_of_beq hA | replace hA := ne_of_beq_false hA | replace hA := bne_iff_ne.1 hA | replace hA := bne_eq_false_iff_eq.1 hA | skip) <;> (try simp only [ne_eq] at hA)) | (rw [ba_toList] at hA; exact absurd hA h0) | (exfalso; omega) | (rw [getD_map _ _ _ _ (by assumption)]; conv => whnf))
        obtain ⟨p0, ps, rfl⟩ : ∃ p0 ps, P = p0 :: ps := by
          cases P with
          | nil => simp at hne
          | cons p0 ps => exact ⟨p0, ps, rfl⟩
        have hlen : ((p0 :: ps).map rowW).length = (p0 :: ps).length := List.length_map _
        have hlen2 : (rowW p0 :: ps.map rowW).length = ps.length + 1 := by simp
        have hpc : (p0 :: ps).length = ps.length + 1 := rfl
        repeat' (first | (refine And.intro (by first | exact rfl | decide | exact Nat.le_of_ble_eq_true rfl | exact ⟨_, rfl⟩ | exact ⟨_, _, rfl⟩ | exact Nat.le_refl _ | exact Int.le_refl _ | omega | (simp only [List.length_map]; omega) | exact True.intro | (simp only [IntKind.wrap_i64, List.length_map]; omega) | (simp only [List.map_cons, List.map_nil, List.length_cons, Option.getD]; omega) | (simp only [bsz, ByteArray.size_append, List.size_toArray, List.length_cons, List.length_nil]; omega) | exact ⟨⟨_, _, rfl, rfl, Nat.le_of_ble_eq_true rfl⟩, trivial⟩ | exact ⟨⟨_, _, rfl, rfl, Nat.le_of_ble_eq_true rfl⟩, ⟨_, _, rfl, rfl, Nat.le_of_ble_eq_true rfl⟩, trivial⟩ | exact ⟨⟨_, _, rfl, rfl, Nat.le_of_ble_eq_true rfl⟩, ⟨_, _, rfl, rfl, Nat.le_of_ble_eq_true rfl⟩, ⟨_, _, rfl, rfl, Nat.le_of_ble_eq_true rfl⟩, trivial⟩) ?_; conv => whnf) | (refine ifB_intro (fun hA => ?_) (fun hA => ?_) <;> (try rw [hA]) <;> (conv => whnf) <;> (first | replace hA := of_decide_eq_true hA | replace hA := of_decide_eq_false hA | replace hA := eq_of_beq hA | replace hA := ne_of_beq_false hA | replace hA := bne_iff_ne.1 hA | replace hA := bne_eq_false_iff_eq.1 hA | skip) <;> (try simp only [cond_false, Bool.not_eq_true', Bool.not_eq_false'] at hA)) | (refine CallP.det (c2) ?_; conv => whnf) | (refine CallD.det (c2) ?_; conv => whnf) | (rw [List.map_cons]; conv => whnf) | (refine CallP.det (c3) ?_; conv => whnf) | (refine CallD.det (c3) ?_; conv => whnf) | (refine CallP.det (c4) ?_; conv => whnf) | (refine CallD.det (c4) ?_; conv => whnf) | (refine CallP.det (c5) ?_; conv => whnf) | (refine CallD.det (c5) ?_; conv => whnf) | (rw [getD_map _ _ _ _ (by assumption)]; conv => whnf))
        iterate 4
          · have hc : ¬ ((two && placeY x && placeY y && decide ((p0 :: ps).length ≤ 7)) = true) := by
              simp only [Bool.and_eq_true, decide_eq_true_eq]
              rintro ⟨⟨⟨q1, q2⟩, q3⟩, q4⟩
              first | omega | (simp_all; done) | (simp_all; omega)
            rw [if_neg hc]
            refine ⟨⟨[], ?_⟩⟩
            conv => whnf
            repeat' (first | (refine And.intro (by first | exact rfl | decide | exact Nat.le_of_ble_eq_true rfl | exact ⟨_, rfl⟩ | exact ⟨_, _, rfl⟩ | exact Nat.le_refl _ | exact Int.le_refl _ | omega | (simp only [List.length_map]; omega) | exact True.intro | (simp only [IntKind.wrap_i64, List.length_map]; omega) | (simp only [List.map_cons, List.map_nil, List.length_cons, Option.getD]; omega) | (simp only [bsz, ByteArray.size_append, List.size_toArray, List.length_cons, List.length_nil]; omega) | exact ⟨⟨_, _, rfl, rfl, Nat.le_of_ble_eq_true rfl⟩, trivial⟩ | exact ⟨⟨_, _, rfl, rfl, Nat.le_of_ble_eq_true rfl⟩, ⟨_, _, rfl, rfl, Nat.le_of_ble_eq_true rfl⟩, trivial⟩ | exact ⟨⟨_, _, rfl, rfl, Nat.le_of_ble_eq_true rfl⟩, ⟨_, _, rfl, rfl, Nat.le_of_ble_eq_true rfl⟩, ⟨_, _, rfl, rfl, Nat.le_of_ble_eq_true rfl⟩, trivial⟩) ?_; conv => whnf) | (refine ifB_intro (fun hA => ?_) (fun hA => ?_) <;> (try rw [hA]) <;> (conv => whnf) <;> (first | replace hA := of_decide_eq_true hA | replace hA := of_decide_eq_false hA | replace hA := eq_of_beq hA | replace hA := ne_of_beq_false hA | replace hA := bne_iff_ne.1 hA | replace hA := bne_eq_false_iff_eq.1 hA | skip) <;> (try simp only [List.length_map, cond_true, cond_false, Bool.not_eq_true', Bool.not_eq_false', beq_iff_eq, beq_eq_false_iff_ne, ne_eq] at hA)) | (rw [getD_map _ _ _ _ (by assumption)]; conv => whnf))
            exact ⟨_, RA.dagg_le' (nil_le _ _ _ _), rfl⟩
        · have hc : (two && placeY x && placeY y && decide ((p0 :: ps).length ≤ 7)) = true := by
            simp only [Bool.and_eq_true, decide_eq_true_eq]
            refine ⟨⟨⟨?_, ?_⟩, ?_⟩, by rw [hlen2] at hA; omega⟩ <;> simp_all
          rw [if_pos hc]
          refine LoopP.asVar 4 5 _ rfl ?_
          refine LoopP.asVar 2 5 _ rfl ?_
          refine LoopP.ownCell 4 4 9500 2 106 _ rfl rfl rfl ?_
          refine LoopP.inv (X := ax g) (fun z : Nat × List (Int × Int) => { f := [(2, .ptr 2 0), (4, .ptr 4 0), (5, .d (.sl false 1 ((p0 :: ps).map rowW))), (13, .i64 ((z.1 + 1 : Nat) : Int))], h := [(2, some (.var (zeroWd.map .d))), (4, some (.var [.bool false, .bool false, .i64 (placeN x), .i64 (placeN y), .msl 9500 z.2.length 0 z.2.length])), (9500, some (.buf 2 106 (z.2.map rowPr)))] }) (fun z => z.1 ≤ ps.length ∧ z.2.length ≤ z.1 ∧ testsR ps [] = testsR (ps.drop z.1) z.2) (fun z => ps.length - z.1) (0, []) ⟨Nat.zero_le _, Nat.le_refl _, rfl⟩ ⟨⟨rfl, rfl, rfl, rfl, trivial⟩, ⟨fun o h => h, fun o h => h, fun o h => h, trivial⟩⟩ fun ⟨i, acc⟩ ⟨hi, hac, hI⟩ => ?_
          dsimp only at hi hac hI ⊢
          conv => whnf
          refine ifB_intro (fun h => ?_) (fun h => ?_)
          · have h : i < ps.length := by have h0 := of_decide_eq_true h; rw [hlen] at h0; omega
            have hge : ((p0 :: ps).map rowW).getD (((i + 1 : Nat) : Int)).toNat [] = rowW ps[i] := by
              rw [show (((i + 1 : Nat) : Int)).toNat = i + 1 from by omega, List.map_cons, List.getD_cons_succ]
              simp [List.getD, h]
            have hpl := hps ps[i] (by simp)
            obtain ⟨q1, q2⟩ := cutL_len 61 ps[i]
            have t1 := rcut37_ctr g 61 ps[i] (by omega)
            have t2 := refField_ctr g (baL (cutL 61 ps[i]).1)
            rw [ba_toList] at t2
            have t3 := refNumber_ctr g (cutL 61 ps[i]).2.1 (by omega)
            have hst : testsR (ps.drop i) acc = if testR ps[i] = true then testsR (ps.drop (i + 1)) (acc ++ [pairR ps[i]]) else (acc, false) := by
              rw [List.drop_eq_getElem_cons h, testsR]
            change Ctr _ _ _ _ (fun o => o = .ret (.i64 (fieldN (cutL 61 ps[i]).1)) []) at t2
            have hal : (acc.map rowPr).length = acc.length := List.length_map _
            unfold testR pairR at hst
            generalize cutL 61 ps[i] = C at *
            obtain ⟨ca, cb, cc⟩ := C
            dsimp only at t1 t2 t3 hst
            generalize fieldN ca = fv at *
            generalize numN cb = nv at *
            conv => whnf
            repeat' (first | (refine And.intro (by first | exact rfl | decide | exact Nat.le_of_ble_eq_true rfl | exact ⟨_, rfl⟩ | exact ⟨_, _, rfl⟩ | exact Nat.le_refl _ | exact Int.le_refl _ | omega | (simp only [List.length_map]; omega) | exact True.intro | (simp only [IntKind.wrap_i64, List.length_map]; omega) | (simp only [List.map_cons, List.map_nil, List.length_cons, Option.getD]; omega) | (simp only [bsz, ByteArray.size_append, List.size_toArray, List.length_cons, List.length_nil]; omega) | exact ⟨⟨_, _, rfl, rfl, Nat.le_of_ble_eq_true rfl⟩, trivial⟩ | exact ⟨⟨_, _, rfl, rfl, Nat.le_of_ble_eq_true rfl⟩, ⟨_, _, rfl, rfl, Nat.le_of_ble_eq_true rfl⟩, trivial⟩ | exact ⟨⟨_, _, rfl, rfl, Nat.le_of_ble_eq_true rfl⟩, ⟨_, _, rfl, rfl, Nat.le_of_ble_eq_true rfl⟩, ⟨_, _, rfl, rfl, Nat.le_of_ble_eq_true rfl⟩, trivial⟩) ?_; conv => whnf) | (refine ifB_intro (fun hA => ?_) (fun hA => ?_) <;> (try rw [hA]) <;> (conv => whnf) <;> (first | replace hA := of_decide_eq_true hA | replace hA := of_decide_eq_false hA | replace hA := eq_of_beq hA | replace hA := ne_of_beq_false hA | replace hA := bne_iff_ne.1 hA | replace hA := bne_eq_false_iff_eq.1 hA | skip) <;> (try simp only [Bool.not_eq_true', Bool.not_eq_false'] at hA)) | (erw [hge]; conv => whnf) | (refine CallP.det (t1) ?_; conv => whnf) | (refine CallD.det (t1) ?_; conv => whnf) | (refine CallP.det (t2) ?_; conv => whnf) | (refine CallD.det (t2) ?_; conv => whnf) | (refine CallP.det (t3) ?_; conv => whnf) | (refine CallD.det (t3) ?_; conv => whnf) | (refine And.intro hal.symm ?_; conv => whnf) | (refine And.intro (by show ((acc.map rowPr).length + 1) * 16 ≤ 140737488355328; rw [hal]; omega) ?_; conv => whnf) | (rw [getD_map _ _ _ _ (by assumption)]; conv => whnf))
            iterate 3
              · have ht : testsR (p0 :: ps).tail [] = (acc, false) := by
                  show testsR ps [] = _
                  rw [hI, hst, if_neg (by simp only [Bool.and_eq_true, decide_eq_true_eq]; rintro ⟨⟨k1, k2⟩, k3⟩; first | omega | simp_all)]
                rw [ht]
                refine ⟨⟨[], ?_⟩⟩
                conv => whnf
                repeat' (first | (refine And.intro (by first | exact rfl | decide | exact Nat.le_of_ble_eq_true rfl | exact ⟨_, rfl⟩ | exact ⟨_, _, rfl⟩ | exact Nat.le_refl _ | exact Int.le_refl _ | omega | (simp only [List.length_map]; omega) | exact True.intro | (simp only [IntKind.wrap_i64, List.length_map]; omega) | (simp only [List.map_cons, List.map_nil, List.length_cons, Option.getD]; omega) | (simp only [bsz, ByteArray.size_append, List.size_toArray, List.length_cons, List.length_nil]; omega) | exact ⟨⟨_, _, rfl, rfl, Nat.le_of_ble_eq_true rfl⟩, trivial⟩ | exact ⟨⟨_, _, rfl, rfl, Nat.le_of_ble_eq_true rfl⟩, ⟨_, _, rfl, rfl, Nat.le_of_ble_eq_true rfl⟩, trivial⟩ | exact ⟨⟨_, _, rfl, rfl, Nat.le_of_ble_eq_true rfl⟩, ⟨_, _, rfl, rfl, Nat.le_of_ble_eq_true rfl⟩, ⟨_, _, rfl, rfl, Nat.le_of_ble_eq_true rfl⟩, trivial⟩) ?_; conv => whnf) | (refine ifB_intro (fun hA => ?_) (fun hA => ?_) <;> (try rw [hA]) <;> (conv => whnf) <;> (first | replace hA := of_decide_eq_true hA | replace hA := of_decide_eq_false hA | replace hA := eq_of_beq hA | replace hA := ne_of_beq_false hA | replace hA := bne_iff_ne.1 hA | replace hA := bne_eq_false_iff_eq.1 hA | skip) <;> (try simp only [List.length_map, cond_true, cond_false, Bool.not_eq_true', Bool.not_eq_false', beq_iff_eq, beq_eq_false_iff_ne, ne_eq] at hA)) | (refine And.intro hal.symm ?_; conv => whnf) | (rw [getD_map _ _ _ _ (by assumption)]; conv => whnf))
                refine ⟨.agg [.bool false, .bool false, .i64 (placeN x), .i64 (placeN y), .d (.sl false 2 (((acc.map rowPr).drop 0).take acc.length))], RA.agg_dagg ?_, rfl⟩
                rw [List.drop_zero, List.take_of_length_le (by rw [hal]; exact Nat.le_refl _)]
                rfl
            · rw [if_pos (by simp only [Bool.and_eq_true, decide_eq_true_eq]; refine ⟨⟨by simp_all, by omega⟩, by omega⟩)] at hst
              refine ⟨(i + 1, acc ++ [(fv, IntKind.u16.wrap nv)]), ⟨by show i + 1 ≤ _; omega, by show (acc ++ [_]).length ≤ i + 1; rw [List.length_append, List.length_singleton]; omega, by show _ = testsR (ps.drop (i + 1)) _; rw [hI, hst]⟩, by show ps.length - (i + 1) < _; omega, ⟨⟨rfl, rfl, rfl, AV.int_eq (i64_succ (by omega)), trivial⟩, ⟨fun o h => h, fun o h => ?_, fun o h => ?_, trivial⟩⟩⟩
              · rw [← h]
                show some (AObj.var [.bool false, .bool false, .i64 (placeN x), .i64 (placeN y), .msl 9500 ((acc.map rowPr).length + 1) 0 ((acc.map rowPr).length + 1)]) = some (AObj.var [.bool false, .bool false, .i64 (placeN x), .i64 (placeN y), .msl 9500 (acc ++ [(fv, IntKind.u16.wrap nv)]).length 0 (acc ++ [(fv, IntKind.u16.wrap nv)]).length])
                rw [hal, List.length_append]
                rfl
              · rw [← h, List.map_append]; rfl
          · have h : i = ps.length := by have h0 := of_decide_eq_false h; rw [hlen] at h0; omega
            subst h
            rw [List.drop_length, testsR] at hI
            have hal : (acc.map rowPr).length = acc.length := List.length_map _
            have ht : testsR (p0 :: ps).tail [] = (acc, true) := hI
            rw [ht]
            conv => whnf
            repeat' (first | (refine And.intro (by first | exact rfl | decide | exact Nat.le_of_ble_eq_true rfl | exact ⟨_, rfl⟩ | exact ⟨_, _, rfl⟩ | exact Nat.le_refl _ | exact Int.le_refl _ | omega | (simp only [List.length_map]; omega) | exact True.intro | (simp only [IntKind.wrap_i64, List.length_map]; omega) | (simp only [List.map_cons, List.map_nil, List.length_cons, Option.getD]; omega) | (simp only [bsz, ByteArray.size_append, List.size_toArray, List.length_cons, List.length_nil]; omega) | exact ⟨⟨_, _, rfl, rfl, Nat.le_of_ble_eq_true rfl⟩, trivial⟩ | exact ⟨⟨_, _, rfl, rfl, Nat.le_of_ble_eq_true rfl⟩, ⟨_, _, rfl, rfl, Nat.le_of_ble_eq_true rfl⟩, trivial⟩ | exact ⟨⟨_, _, rfl, rfl, Nat.le_of_ble_eq_true rfl⟩, ⟨_, _, rfl, rfl, Nat.le_of_ble_eq_true rfl⟩, ⟨_, _, rfl, rfl, Nat.le_of_ble_eq_true rfl⟩, trivial⟩) ?_; conv => whnf) | (refine ifB_intro (fun hA => ?_) (fun hA => ?_) <;> (try rw [hA]) <;> (conv => whnf) <;> (first | replace hA := of_decide_eq_true hA | replace hA := of_decide_eq_false hA | replace hA := eq_of_beq hA | replace hA := ne_of_beq_false hA | replace hA := bne_iff_ne.1 hA | replace hA := bne_eq_false_iff_eq.1 hA | skip) <;> (try simp only [List.length_map, cond_true, cond_false, Bool.not_eq_true', Bool.not_eq_false', beq_iff_eq, beq_eq_false_iff_ne, ne_eq] at hA)) | (rw [getD_map _ _ _ _ (by assumption)]; conv => whnf))
            refine ⟨⟨[], ?_⟩⟩
            conv => whnf
            repeat' (first | (refine And.intro (by first | exact rfl | decide | exact Nat.le_of_ble_eq_true rfl | exact ⟨_, rfl⟩ | exact ⟨_, _, rfl⟩ | exact Nat.le_refl _ | exact Int.le_refl _ | omega | (simp only [List.length_map]; omega) | exact True.intro | (simp only [IntKind.wrap_i64, List.length_map]; omega) | (simp only [List.map_cons, List.map_nil, List.length_cons, Option.getD]; omega) | (simp only [bsz, ByteArray.size_append, List.size_toArray, List.length_cons, List.length_nil]; omega) | exact ⟨⟨_, _, rfl, rfl, Nat.le_of_ble_eq_true rfl⟩, trivial⟩ | exact ⟨⟨_, _, rfl, rfl, Nat.le_of_ble_eq_true rfl⟩, ⟨_, _, rfl, rfl, Nat.le_of_ble_eq_true rfl⟩, trivial⟩ | exact ⟨⟨_, _, rfl, rfl, Nat.le_of_ble_eq_true rfl⟩, ⟨_, _, rfl, rfl, Nat.le_of_ble_eq_true rfl⟩, ⟨_, _, rfl, rfl, Nat.le_of_ble_eq_true rfl⟩, trivial⟩) ?_; conv => whnf) | (refine ifB_intro (fun hA => ?_) (fun hA => ?_) <;> (try rw [hA]) <;> (conv => whnf) <;> (first | replace hA := of_decide_eq_true hA | replace hA := of_decide_eq_false hA | replace hA := eq_of_beq hA | replace hA := ne_of_beq_false hA | replace hA := bne_iff_ne.1 hA | replace hA := bne_eq_false_iff_eq.1 hA | skip) <;> (try simp only [List.length_map, cond_true, cond_false, Bool.not_eq_true', Bool.not_eq_false', beq_iff_eq, beq_eq_false_iff_ne, ne_eq] at hA)) | (refine And.intro hal.symm ?_; conv => whnf) | (rw [getD_map _ _ _ _ (by assumption)]; conv => whnf))
            refine ⟨.agg [.bool false, .bool false, .i64 (placeN x), .i64 (placeN y), .d (.sl false 2 (((acc.map rowPr).drop 0).take acc.length))], RA.agg_dagg ?_, rfl⟩
            rw [List.drop_zero, List.take_of_length_le (by rw [hal]; exact Nat.le_refl _)]
            rfl
theorem rwords37_ctr (g : GP) (l : List UInt8) (hl : l.length < 2 ^ 30) : Ctr (ax g).E 18 [.str (baL l)] [] fun o => o = .ret (parseV (parseR l)) [] := by
  have hs := ba_size l
  have h1 := rtexts37_ctr g l (by omega)
  have hwl := fun x (h : x ∈ wordsL l) => words_len h
  unfold parseR
  generalize wordsL l = ws at *
  have hwm : (ws.map rowW).length = ws.length := List.length_map _
  refine Ctr.body (X := ax g) _ 40 [] [.tmp 2, .tmp 3] Tryz.func18 rfl rfl rfl rfl (by decide +kernel) rfl rfl ?_
  conv => whnf
  repeat' (first | (refine And.intro (by first | exact rfl | decide | exact Nat.le_of_ble_eq_true rfl | exact ⟨_, rfl⟩ | exact ⟨_, _, rfl⟩ | exact Nat.le_refl _ | exact Int.le_refl _ | omega | (simp only [List.length_map]; omega) | exact True.intro | (simp only [IntKind.wrap_i64, List.length_map]; omega) | (simp only [List.map_cons, List.map_nil, List.length_cons, Option.getD]; omega) | (simp only [bsz, ByteArray.size_append, List.size_toArray, List.length_cons, List.length_nil]; omega) | exact ⟨⟨_, _, rfl, rfl, Nat.le_of_ble_eq_true rfl⟩, trivial⟩ | exact ⟨⟨_, _, rfl, rfl, Nat.le_of_ble_eq_true rfl⟩, ⟨_, _, rfl, rfl, Nat.le_of_ble_eq_true rfl⟩, trivial⟩ | exact ⟨⟨_, _, rfl, rfl, Nat.le_of_ble_eq_true rfl⟩, ⟨_, _, rfl, rfl, Nat.le_of_ble_eq_true rfl⟩, ⟨_, _, rfl, rfl, Nat.le_of_ble_eq_true rfl⟩, trivial⟩) ?_; conv => whnf) | (refine ifB_intro (fun hA => ?_) (fun hA => ?_) <;> (try rw [hA]) <;> (conv => whnf) <;> (first | replace hA := of_decide_eq_true hA | replace hA := of_decide_eq_false hA | replace hA := eq_of_beq hA | replace hA := ne_of_beq_false hA | replace hA := bne_iff_ne.1 hA | replace hA := bne_eq_false_iff_eq.1 hA | skip) <;> (try simp only [List.length_map] at hA)) | (refine CallP.det (h1) ?_; conv => whnf) | (refine CallD.det (h1) ?_; conv => whnf) | (rw [getD_map _ _ _ _ (by assumption)]; conv => whnf))
  · rw [if_pos (.inl (by omega))]
    refine ⟨⟨[], ?_⟩⟩
    conv => whnf
    rfl
  · rw [if_pos (.inr (.inl (by omega)))]
    refine ⟨⟨[], ?_⟩⟩
    conv => whnf
    rfl
  · refine LoopP.own 5 9501 5 122 rfl rfl rfl ?_
    refine LoopP.inv (X := ax g) (fun i : Nat => { f := [(4, .d (.sl false 1 (ws.map rowW))), (5, .msl 9501 i 0 i), (6, .i64 i)], h := [(9501, some (.buf 5 122 ((ws.take i).map fun x => rowWd (wordR x).1)))] }) (fun i => i ≤ ws.length ∧ (ws.take i).all (fun x => (wordR x).2) = true) (fun i => ws.length - i) 0 ⟨Nat.zero_le _, rfl⟩ ⟨⟨rfl, rfl, rfl, trivial⟩, ⟨fun o h => h, trivial⟩⟩ fun i ⟨hi, hI⟩ => ?_
    have hbl : ((ws.take i).map fun x => rowWd (wordR x).1).length = i := by rw [List.length_map, List.length_take]; omega
    conv => whnf
    refine ifB_intro (fun h => ?_) (fun h => ?_)
    · have h : i < ws.length := by have h0 := of_decide_eq_true h; omega
      have hc := rword37_ctr g ws[i] (by have := hwl ws[i] (by simp); omega)
      have ht : ws.take (i + 1) = ws.take i ++ [ws[i]] := List.take_succ_eq_append_getElem h
      have hbad : (wordR ws[i]).2 = false → ws.all (fun x => (wordR x).2) = false := fun hb => by
        rw [Bool.eq_false_iff]; intro ha
        have := List.all_eq_true.1 ha ws[i] (by simp)
        rw [hb] at this; simp at this
      have hmx0 : (ws.take (i + 1)).map (fun x => rowWd (wordR x).1) = (ws.take i).map (fun x => rowWd (wordR x).1) ++ [rowWd (wordR ws[i]).1] := by rw [ht, List.map_append]; rfl
      generalize hrw : wordR ws[i] = R at *
      obtain ⟨⟨wm, wn, wsw, wpt, wh⟩, ok⟩ := R
      dsimp only at hc hbad
      conv => whnf
      repeat' (first | (refine And.intro (by first | exact rfl | decide | exact Nat.le_of_ble_eq_true rfl | exact ⟨_, rfl⟩ | exact ⟨_, _, rfl⟩ | exact Nat.le_refl _ | exact Int.le_refl _ | omega | (simp only [List.length_map]; omega) | exact True.intro | (simp only [List.length_map]; omega) | (simp only [List.length_cons]; omega) | (simp only [List.length_cons, List.length_nil]; omega) | exact ⟨⟨_, _, rfl, rfl, Nat.le_of_ble_eq_true rfl⟩, trivial⟩ | exact ⟨⟨_, _, rfl, rfl, Nat.le_of_ble_eq_true rfl⟩, ⟨_, _, rfl, rfl, Nat.le_of_ble_eq_true rfl⟩, trivial⟩ | exact ⟨⟨_, _, rfl, rfl, Nat.le_of_ble_eq_true rfl⟩, ⟨_, _, rfl, rfl, Nat.le_of_ble_eq_true rfl⟩, ⟨_, _, rfl, rfl, Nat.le_of_ble_eq_true rfl⟩, trivial⟩) ?_; conv => whnf) | (refine ifB_intro (fun hA => ?_) (fun hA => ?_) <;> (try rw [hA]) <;> (conv => whnf) <;> (first | replace hA := of_decide_eq_true hA | replace hA := of_decide_eq_false hA | replace hA := eq_of_beq hA | replace hA := ne_of_beq_false hA | replace hA := bne_iff_ne.1 hA | replace hA := bne_eq_false_iff_eq.1 hA | skip) <;> (try simp only [Bool.not_eq_true', Bool.not_eq_false'] at hA)) | (rw [getD_map rowW ws i [] h]; conv => whnf) | (refine CallP.det (hc) ?_; conv => whnf) | (refine CallD.det (hc) ?_; conv => whnf) | (refine And.intro hbl.symm ?_; conv => whnf) | (refine And.intro (by show (List.length _ + 1) * 48 ≤ 140737488355328; rw [hbl]; omega) ?_; conv => whnf) | (rw [getD_map _ _ _ _ (by assumption)]; conv => whnf))
      · rw [if_pos (.inr (.inr (hbad (by simp_all))))]
        refine ⟨⟨[], ?_⟩⟩
        conv => whnf
        rfl
      · refine ⟨i + 1, ⟨by omega, by rw [ht, List.all_append, hI, List.all_cons, List.all_nil, hrw]; simp_all⟩, by omega, ⟨⟨rfl, msl_eq (show List.length _ + 1 = i + 1 by rw [hbl]), AV.int_eq (i64_succ (by omega)), trivial⟩, ⟨fun o h => by rw [← h, hmx0]; rfl, trivial⟩⟩⟩
    · have h : i = ws.length := by have h0 := of_decide_eq_false h; omega
      subst h
      rw [List.take_length] at hI hbl ⊢
      have hmm : (ws.map fun x => rowWd (wordR x).1) = (ws.map fun x => (wordR x).1).map rowWd := by rw [List.map_map]; rfl
      conv => whnf
      rw [if_neg (by intro h; rcases h with h | h | h; omega; omega; rw [hI] at h; simp at h)]
      repeat' (first | (refine And.intro (by first | exact rfl | decide | exact Nat.le_of_ble_eq_true rfl | exact ⟨_, rfl⟩ | exact ⟨_, _, rfl⟩ | exact Nat.le_refl _ | exact Int.le_refl _ | omega | (simp only [List.length_map]; omega) | exact True.intro | (simp only [IntKind.wrap_i64, List.length_map]; omega) | (simp only [List.map_cons, List.map_nil, List.length_cons, Option.getD]; omega) | (simp only [bsz, ByteArray.size_append, List.size_toArray, List.length_cons, List.length_nil]; omega) | exact ⟨⟨_, _, rfl, rfl, Nat.le_of_ble_eq_true rfl⟩, trivial⟩ | exact ⟨⟨_, _, rfl, rfl, Nat.le_of_ble_eq_true rfl⟩, ⟨_, _, rfl, rfl, Nat.le_of_ble_eq_true rfl⟩, trivial⟩ | exact ⟨⟨_, _, rfl, rfl, Nat.le_of_ble_eq_true rfl⟩, ⟨_, _, rfl, rfl, Nat.le_of_ble_eq_true rfl⟩, ⟨_, _, rfl, rfl, Nat.le_of_ble_eq_true rfl⟩, trivial⟩) ?_; conv => whnf) | (refine ifB_intro (fun hA => ?_) (fun hA => ?_) <;> (try rw [hA]) <;> (conv => whnf) <;> (first | replace hA := of_decide_eq_true hA | replace hA := of_decide_eq_false hA | replace hA := eq_of_beq hA | replace hA := ne_of_beq_false hA | replace hA := bne_iff_ne.1 hA | replace hA := bne_eq_false_iff_eq.1 hA | skip) <;> (try simp only [List.length_map, cond_true, cond_false, Bool.not_eq_true', Bool.not_eq_false', beq_iff_eq, beq_eq_false_iff_ne, ne_eq] at hA)) | (rw [getD_map _ _ _ _ (by assumption)]; conv => whnf))
      refine ⟨⟨[], ?_⟩⟩
      conv => whnf
      repeat' (first | (refine And.intro (by first | exact rfl | decide | exact Nat.le_of_ble_eq_true rfl | exact ⟨_, rfl⟩ | exact ⟨_, _, rfl⟩ | exact Nat.le_refl _ | exact Int.le_refl _ | omega | (simp only [List.length_map]; omega) | exact True.intro | (simp only [IntKind.wrap_i64, List.length_map]; omega) | (simp only [List.map_cons, List.map_nil, List.length_cons, Option.getD]; omega) | (simp only [bsz, ByteArray.size_append, List.size_toArray, List.length_cons, List.length_nil]; omega) | exact ⟨⟨_, _, rfl, rfl, Nat.le_of_ble_eq_true rfl⟩, trivial⟩ | exact ⟨⟨_, _, rfl, rfl, Nat.le_of_ble_eq_true rfl⟩, ⟨_, _, rfl, rfl, Nat.le_of_ble_eq_true rfl⟩, trivial⟩ | exact ⟨⟨_, _, rfl, rfl, Nat.le_of_ble_eq_true rfl⟩, ⟨_, _, rfl, rfl, Nat.le_of_ble_eq_true rfl⟩, ⟨_, _, rfl, rfl, Nat.le_of_ble_eq_true rfl⟩, trivial⟩) ?_; conv => whnf) | (refine ifB_intro (fun hA => ?_) (fun hA => ?_) <;> (try rw [hA]) <;> (conv => whnf) <;> (first | replace hA := of_decide_eq_true hA | replace hA := of_decide_eq_false hA | replace hA := eq_of_beq hA | replace hA := ne_of_beq_false hA | replace hA := bne_iff_ne.1 hA | replace hA := bne_eq_false_iff_eq.1 hA | skip) <;> (try simp only [List.length_map, cond_true, cond_false, Bool.not_eq_true', Bool.not_eq_false', beq_iff_eq, beq_eq_false_iff_ne, ne_eq] at hA)) | (refine And.intro hbl.symm ?_; conv => whnf) | (rw [getD_map _ _ _ _ (by assumption)]; conv => whnf))
      rw [List.drop_zero, List.take_of_length_le (by rw [hbl]; exact Nat.le_refl _), hmm]
      rfl
end Go.Ax
