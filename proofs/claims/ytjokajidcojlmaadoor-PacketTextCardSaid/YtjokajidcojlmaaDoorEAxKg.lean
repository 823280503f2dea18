import Derived.Test.YtjokajidcojlmaaDoorEAxKe

/- Packets: the document's Read. -/
namespace Go.Ax
open Go.Proofs Go.RowKit Go.Shelf Go.Lib
set_option maxRecDepth 10000

theorem splitL_len (c : UInt8) : ∀ l : List UInt8, (splitL c l).length ≤ l.length + 1
  | [] => by simp [splitL]
  | b :: r => by
    have ih := splitL_len c r
    rw [splitL]
    split
    · simp; omega
    · split
      · simp
      · rename_i q qs hq
        rw [hq] at ih
        simp at ih ⊢; omega
def boolRow (seen : List Nat) : List D := (List.range 8).map fun i => .v (.bool (seen.contains i))
theorem boolRow_len (seen : List Nat) : (boolRow seen).length = 8 := by simp [boolRow]
theorem boolRow_get (seen : List Nat) (i : Nat) (h : i < 8) : (boolRow seen).getD (0 + ((i : Nat) : Int).toNat * 1) (.v undef) = .v (.bool (seen.contains i)) := by
  rw [show 0 + ((i : Nat) : Int).toNat * 1 = i from by omega]
  unfold boolRow; simp [List.getD, h]
theorem boolRow_set (seen : List Nat) (i : Nat) (h : i < 8) : splice (boolRow seen) [D.v (.bool true)] (0 + ((i : Nat) : Int).toNat * 1) = boolRow (seen ++ [i]) := by
  rw [show 0 + ((i : Nat) : Int).toNat * 1 = i from by omega, splice_one _ _ _ (by rw [boolRow_len]; exact h)]
  apply List.ext_getElem
  · simp [boolRow]
  · intro j h1 h2
    rw [List.getElem_set]
    by_cases hj : i = j
    · subst hj; simp [boolRow]
    · rw [if_neg hj]
      have : ¬ j = i := fun e => hj e.symm
      simp [boolRow, this]
theorem refReadP_ctr (g : GP) (t : List UInt8) (ht : t.length ≤ 100000) : Ctr (ax g).E 68 [.str (baL t)] [] (fun o => o = .ret (readPV (readP t)) []) := by
  have hts := ba_size t
  have hsp := split_ref g 32 t (by omega)
  have hLl := splitL_len 32 t
  have hml := split_len 32 t
  rw [readP_run]
  generalize splitL 32 t = L at *
  refine Ctr.body (X := ax g) _ 69 [] [.cell 2 96, .tmp 3] Tryd.func68 rfl rfl rfl rfl (by decide +kernel) rfl rfl ?_
  conv => whnf
  repeat' (first | (refine And.intro (by first | exact rfl | decide | exact Nat.le_of_ble_eq_true rfl | exact ⟨_, rfl⟩ | exact ⟨_, _, rfl⟩ | exact Nat.le_refl _ | exact Int.le_refl _ | omega | (simp only [List.length_map]; omega) | exact True.intro | (simp only [IntKind.wrap_i64, List.length_map]; omega) | (simp only [List.map_cons, List.map_nil, List.length_cons, Option.getD]; omega) | (simp only [bsz, ByteArray.size_append, List.size_toArray, List.length_cons, List.length_nil]; omega) | exact ⟨⟨_, _, rfl, rfl, Nat.le_of_ble_eq_true rfl⟩, trivial⟩ | exact ⟨⟨_, _, rfl, rfl, Nat.le_of_ble_eq_true rfl⟩, ⟨_, _, rfl, rfl, Nat.le_of_ble_eq_true rfl⟩, trivial⟩ | exact ⟨⟨_, _, rfl, rfl, Nat.le_of_ble_eq_true rfl⟩, ⟨_, _, rfl, rfl, Nat.le_of_ble_eq_true rfl⟩, ⟨_, _, rfl, rfl, Nat.le_of_ble_eq_true rfl⟩, trivial⟩) ?_; conv => whnf) | (refine ifB_intro (fun hA => ?_) (fun hA => ?_) <;> (try rw [hA]) <;> (conv => whnf) <;> (first | replace hA := of_decide_eq_true hA | replace hA := of_decide_eq_false hA | replace hA := eq_of_beq hA | replace hA := ne_of_beq_false hA | replace hA := bne_iff_ne.1 hA | replace hA := bne_eq_false_iff_eq.1 hA | skip) <;> (try simp only [List.length_map, cond_true, cond_false, Bool.not_eq_true', Bool.not_eq_false', beq_iff_eq, beq_eq_false_iff_ne, ne_eq] at hA)) | (refine CallP.det (hsp) ?_; conv => whnf) | (refine CallD.det (hsp) ?_; conv => whnf) | (rw [getD_map _ _ _ _ (by assumption)]; conv => whnf))
  refine LoopP.inv (X := ax g) (fun x : Nat × List Nat × List Nat => { f := [(2, .ptr 2 0), (3, .bool false), (4, .ptr 4 0), (5, .ptr 5 0), (6, .d (.sl false 1 (L.map rowW))), (7, .i64 x.1)], h := [(2, some (.dvar 8 (rowU zeroP))), (4, some (.dvar 8 (rowU x.2.1))), (5, some (.dvar 8 (boolRow x.2.2)))] }) (fun x => x.1 ≤ L.length ∧ runK (L.take x.1) (zeroP, []) = some (x.2.1, x.2.2)) (fun x => L.length - x.1) (0, zeroP, []) ⟨Nat.zero_le _, rfl⟩ ⟨⟨rfl, rfl, rfl, rfl, rfl, rfl, trivial⟩, ⟨fun o h => h, fun o h => h, fun o h => h, trivial⟩⟩ fun ⟨i, p, seen⟩ ⟨hi, hr⟩ => ?_
  dsimp only at hi hr ⊢
  have hok := stOk0.run hr
  have hp8 : (rowU p).length = 8 := by rw [rowU_len]; exact hok.len
  conv => whnf
  refine ifB_intro (fun h => ?_) (fun h => ?_)
  · have h : i < L.length := by
      have h0 := of_decide_eq_true h
      rw [List.length_map] at h0
      omega
    have hst : runK (L.take (i + 1)) (zeroP, []) = stepK (p, seen) L[i] := by
      rw [List.take_succ_eq_append_getElem h, runK_snoc, hr]; rfl
    have hbad : stepK (p, seen) L[i] = none → runK L (zeroP, []) = none := fun hb => by
      have := run_bad (post := L.drop (i + 1)) hr hb
      rwa [← List.drop_eq_getElem_cons h, List.take_append_drop] at this
    have hxl := hml L[i] (List.getElem_mem h)
    have hs61 := split_ref g 61 L[i] (by omega)
    have hrw : rowW L[i] = [.v (.string (baL L[i]))] := rfl
    conv => whnf
    repeat' (first | (refine And.intro (by first | exact rfl | decide | exact Nat.le_of_ble_eq_true rfl | exact ⟨_, rfl⟩ | exact ⟨_, _, rfl⟩ | exact Nat.le_refl _ | exact Int.le_refl _ | omega | (simp only [List.length_map]; omega) | exact True.intro | (simp only []; omega) | (simp only []; omega) | (simp only []; omega) | exact ⟨⟨_, _, rfl, rfl, Nat.le_of_ble_eq_true rfl⟩, trivial⟩ | exact ⟨⟨_, _, rfl, rfl, Nat.le_of_ble_eq_true rfl⟩, ⟨_, _, rfl, rfl, Nat.le_of_ble_eq_true rfl⟩, trivial⟩ | exact ⟨⟨_, _, rfl, rfl, Nat.le_of_ble_eq_true rfl⟩, ⟨_, _, rfl, rfl, Nat.le_of_ble_eq_true rfl⟩, ⟨_, _, rfl, rfl, Nat.le_of_ble_eq_true rfl⟩, trivial⟩) ?_; conv => whnf) | (refine ifB_intro (fun hA => ?_) (fun hA => ?_) <;> (try rw [hA]) <;> (conv => whnf) <;> (first | replace hA := of_decide_eq_true hA | replace hA := of_decide_eq_false hA | replace hA := eq_of_beq hA | replace hA := ne_of_beq_false hA | replace hA := bne_iff_ne.1 hA | replace hA := bne_eq_false_iff_eq.1 hA | skip) <;> (try simp only [ne_eq] at hA)) | (rw [getD_map _ _ _ _ (by assumption)]; conv => whnf))
    · rw [ba_toList] at hA
      exact ⟨(i + 1, p, seen), ⟨by show i + 1 ≤ _; omega, by rw [hst, hA]; rfl⟩, by show L.length - (i + 1) < L.length - i; omega, ⟨⟨rfl, rfl, rfl, rfl, rfl, AV.int_eq (i64_succ (by omega)), trivial⟩, ⟨fun o h => h, fun o h => h, fun o h => h, trivial⟩⟩⟩
    · rw [ba_toList] at hA
      have hst2 : stepK (p, seen) L[i] = match wordK L[i] with
        | none => none
        | some (i, n) => if seen.contains i then none else some (p.set i n, seen ++ [i]) := by
        cases hq : L[i] with
        | nil => exact absurd hq hA
        | cons c w => rfl
      generalize L[i] = x at *
      unfold wordK at hst2
      cases h61 : splitL 61 x with
      | nil => exact absurd h61 (splitL_ne 61 x)
      | cons a r =>
        cases r with
        | nil =>
          rw [h61] at hs61 hst2
          have hn := hbad hst2
          repeat' (first | (refine And.intro (by first | exact rfl | decide | exact Nat.le_of_ble_eq_true rfl | exact ⟨_, rfl⟩ | exact ⟨_, _, rfl⟩ | exact Nat.le_refl _ | exact Int.le_refl _ | omega | (simp only []; omega) | exact True.intro | (simp only [IntKind.wrap_i64, List.length_map]; omega) | (simp only [List.map_cons, List.map_nil, List.length_cons, Option.getD]; omega) | (simp only [bsz, ByteArray.size_append, List.size_toArray, List.length_cons, List.length_nil]; omega) | exact ⟨⟨_, _, rfl, rfl, Nat.le_of_ble_eq_true rfl⟩, trivial⟩ | exact ⟨⟨_, _, rfl, rfl, Nat.le_of_ble_eq_true rfl⟩, ⟨_, _, rfl, rfl, Nat.le_of_ble_eq_true rfl⟩, trivial⟩ | exact ⟨⟨_, _, rfl, rfl, Nat.le_of_ble_eq_true rfl⟩, ⟨_, _, rfl, rfl, Nat.le_of_ble_eq_true rfl⟩, ⟨_, _, rfl, rfl, Nat.le_of_ble_eq_true rfl⟩, trivial⟩) ?_; conv => whnf) | (refine ifB_intro (fun hA => ?_) (fun hA => ?_) <;> (try rw [hA]) <;> (conv => whnf) <;> (first | replace hA := of_decide_eq_true hA | replace hA := of_decide_eq_false hA | replace hA := eq_of_beq hA | replace hA := ne_of_beq_false hA | replace hA := bne_iff_ne.1 hA | replace hA := bne_eq_false_iff_eq.1 hA | skip) <;> (try simp only [List.length_map, cond_true, cond_false, Bool.not_eq_true', Bool.not_eq_false', beq_iff_eq, beq_eq_false_iff_ne, ne_eq] at hA)) | (refine CallP.det (hs61) ?_; conv => whnf) | (refine CallD.det (hs61) ?_; conv => whnf) | (rw [getD_map _ _ _ _ (by assumption)]; conv => whnf))
          refine ⟨⟨[], ?_⟩⟩
          conv => whnf
          repeat' (first | (refine And.intro (by first | exact rfl | decide | exact Nat.le_of_ble_eq_true rfl | exact ⟨_, rfl⟩ | exact ⟨_, _, rfl⟩ | exact Nat.le_refl _ | exact Int.le_refl _ | omega | (simp only [List.length_map]; omega) | exact True.intro | (simp only [IntKind.wrap_i64, List.length_map]; omega) | (simp only [List.map_cons, List.map_nil, List.length_cons, Option.getD]; omega) | (simp only [bsz, ByteArray.size_append, List.size_toArray, List.length_cons, List.length_nil]; omega) | exact ⟨⟨_, _, rfl, rfl, Nat.le_of_ble_eq_true rfl⟩, trivial⟩ | exact ⟨⟨_, _, rfl, rfl, Nat.le_of_ble_eq_true rfl⟩, ⟨_, _, rfl, rfl, Nat.le_of_ble_eq_true rfl⟩, trivial⟩ | exact ⟨⟨_, _, rfl, rfl, Nat.le_of_ble_eq_true rfl⟩, ⟨_, _, rfl, rfl, Nat.le_of_ble_eq_true rfl⟩, ⟨_, _, rfl, rfl, Nat.le_of_ble_eq_true rfl⟩, trivial⟩) ?_; conv => whnf) | (refine ifB_intro (fun hA => ?_) (fun hA => ?_) <;> (try rw [hA]) <;> (conv => whnf) <;> (first | replace hA := of_decide_eq_true hA | replace hA := of_decide_eq_false hA | replace hA := eq_of_beq hA | replace hA := ne_of_beq_false hA | replace hA := bne_iff_ne.1 hA | replace hA := bne_eq_false_iff_eq.1 hA | skip) <;> (try simp only [List.length_map, cond_true, cond_false, Bool.not_eq_true', Bool.not_eq_false', beq_iff_eq, beq_eq_false_iff_ne, ne_eq] at hA)) | (rw [getD_map _ _ _ _ (by assumption)]; conv => whnf))
          rw [hn]; rfl
        | cons b r =>
          cases r with
          | cons c r =>
            rw [h61] at hs61 hst2
            have hn := hbad hst2
            repeat' (first | (refine And.intro (by first | exact rfl | decide | exact Nat.le_of_ble_eq_true rfl | exact ⟨_, rfl⟩ | exact ⟨_, _, rfl⟩ | exact Nat.le_refl _ | exact Int.le_refl _ | omega | (simp only []; omega) | exact True.intro | (simp only [IntKind.wrap_i64, List.length_map]; omega) | (simp only [List.map_cons, List.map_nil, List.length_cons, Option.getD]; omega) | (simp only [bsz, ByteArray.size_append, List.size_toArray, List.length_cons, List.length_nil]; omega) | exact ⟨⟨_, _, rfl, rfl, Nat.le_of_ble_eq_true rfl⟩, trivial⟩ | exact ⟨⟨_, _, rfl, rfl, Nat.le_of_ble_eq_true rfl⟩, ⟨_, _, rfl, rfl, Nat.le_of_ble_eq_true rfl⟩, trivial⟩ | exact ⟨⟨_, _, rfl, rfl, Nat.le_of_ble_eq_true rfl⟩, ⟨_, _, rfl, rfl, Nat.le_of_ble_eq_true rfl⟩, ⟨_, _, rfl, rfl, Nat.le_of_ble_eq_true rfl⟩, trivial⟩) ?_; conv => whnf) | (refine ifB_intro (fun hA => ?_) (fun hA => ?_) <;> (try rw [hA]) <;> (conv => whnf) <;> (first | replace hA := of_decide_eq_true hA | replace hA := of_decide_eq_false hA | replace hA := eq_of_beq hA | replace hA := ne_of_beq_false hA | replace hA := bne_iff_ne.1 hA | replace hA := bne_eq_false_iff_eq.1 hA | skip) <;> (try simp only [List.length_map, cond_true, cond_false, Bool.not_eq_true', Bool.not_eq_false', beq_iff_eq, beq_eq_false_iff_ne, ne_eq] at hA)) | (refine CallP.det (hs61) ?_; conv => whnf) | (refine CallD.det (hs61) ?_; conv => whnf) | (rw [getD_map _ _ _ _ (by assumption)]; conv => whnf))
            refine ⟨⟨[], ?_⟩⟩
            conv => whnf
            repeat' (first | (refine And.intro (by first | exact rfl | decide | exact Nat.le_of_ble_eq_true rfl | exact ⟨_, rfl⟩ | exact ⟨_, _, rfl⟩ | exact Nat.le_refl _ | exact Int.le_refl _ | omega | (simp only [List.length_map]; omega) | exact True.intro | (simp only [IntKind.wrap_i64, List.length_map]; omega) | (simp only [List.map_cons, List.map_nil, List.length_cons, Option.getD]; omega) | (simp only [bsz, ByteArray.size_append, List.size_toArray, List.length_cons, List.length_nil]; omega) | exact ⟨⟨_, _, rfl, rfl, Nat.le_of_ble_eq_true rfl⟩, trivial⟩ | exact ⟨⟨_, _, rfl, rfl, Nat.le_of_ble_eq_true rfl⟩, ⟨_, _, rfl, rfl, Nat.le_of_ble_eq_true rfl⟩, trivial⟩ | exact ⟨⟨_, _, rfl, rfl, Nat.le_of_ble_eq_true rfl⟩, ⟨_, _, rfl, rfl, Nat.le_of_ble_eq_true rfl⟩, ⟨_, _, rfl, rfl, Nat.le_of_ble_eq_true rfl⟩, trivial⟩) ?_; conv => whnf) | (refine ifB_intro (fun hA => ?_) (fun hA => ?_) <;> (try rw [hA]) <;> (conv => whnf) <;> (first | replace hA := of_decide_eq_true hA | replace hA := of_decide_eq_false hA | replace hA := eq_of_beq hA | replace hA := ne_of_beq_false hA | replace hA := bne_iff_ne.1 hA | replace hA := bne_eq_false_iff_eq.1 hA | skip) <;> (try simp only [List.length_map, cond_true, cond_false, Bool.not_eq_true', Bool.not_eq_false', beq_iff_eq, beq_eq_false_iff_ne, ne_eq] at hA)) | (rw [getD_map _ _ _ _ (by assumption)]; conv => whnf))
            rw [hn]; rfl
          | nil =>
            rw [h61] at hs61 hst2
            have hra : rowW a = [.v (.string (baL a))] := rfl
            have hrb : rowW b = [.v (.string (baL b))] := rfl
            have hf := refField_ctr g (baL a)
            have hbl : b.length ≤ x.length := split_len 61 x b (by rw [h61]; simp)
            have hnum := refNumber_ctr g b (by omega)
            rw [ba_toList] at hf
            dsimp only at hst2
            cases hfk : fieldK a with
            | none =>
              rw [hfk] at hf hst2
              have hn := hbad hst2
              repeat' (first | (refine And.intro (by first | exact rfl | decide | exact Nat.le_of_ble_eq_true rfl | exact ⟨_, rfl⟩ | exact ⟨_, _, rfl⟩ | exact Nat.le_refl _ | exact Int.le_refl _ | omega | (simp only [List.length_map]; omega) | exact True.intro | (simp only [List.length_map]; omega) | (simp only [List.map_cons, List.map_nil, List.length_cons]; omega) | (simp only [bsz, ByteArray.size_append, List.size_toArray, List.length_cons, List.length_nil]; omega) | exact ⟨⟨_, _, rfl, rfl, Nat.le_of_ble_eq_true rfl⟩, trivial⟩ | exact ⟨⟨_, _, rfl, rfl, Nat.le_of_ble_eq_true rfl⟩, ⟨_, _, rfl, rfl, Nat.le_of_ble_eq_true rfl⟩, trivial⟩ | exact ⟨⟨_, _, rfl, rfl, Nat.le_of_ble_eq_true rfl⟩, ⟨_, _, rfl, rfl, Nat.le_of_ble_eq_true rfl⟩, ⟨_, _, rfl, rfl, Nat.le_of_ble_eq_true rfl⟩, trivial⟩) ?_; conv => whnf) | (refine ifB_intro (fun hA => ?_) (fun hA => ?_) <;> (try rw [hA]) <;> (conv => whnf) <;> (first | replace hA := of_decide_eq_true hA | replace hA := of_decide_eq_false hA | replace hA := eq_of_beq hA | replace hA := ne_of_beq_false hA | replace hA := bne_iff_ne.1 hA | replace hA := bne_eq_false_iff_eq.1 hA | skip) <;> (try simp only [List.length_map, cond_true, cond_false, Bool.not_eq_true', Bool.not_eq_false', beq_iff_eq, beq_eq_false_iff_ne, ne_eq] at hA)) | (refine CallP.det (hs61) ?_; conv => whnf) | (refine CallD.det (hs61) ?_; conv => whnf) | (refine CallP.det (hf) ?_; conv => whnf) | (refine CallD.det (hf) ?_; conv => whnf) | (refine CallP.det (hnum) ?_; conv => whnf) | (refine CallD.det (hnum) ?_; conv => whnf) | (rw [getD_map _ _ _ _ (by assumption)]; conv => whnf))
              refine ⟨⟨[], ?_⟩⟩
              conv => whnf
              repeat' (first | (refine And.intro (by first | exact rfl | decide | exact Nat.le_of_ble_eq_true rfl | exact ⟨_, rfl⟩ | exact ⟨_, _, rfl⟩ | exact Nat.le_refl _ | exact Int.le_refl _ | omega | (simp only [List.length_map]; omega) | exact True.intro | (simp only [IntKind.wrap_i64, List.length_map]; omega) | (simp only [List.map_cons, List.map_nil, List.length_cons, Option.getD]; omega) | (simp only [bsz, ByteArray.size_append, List.size_toArray, List.length_cons, List.length_nil]; omega) | exact ⟨⟨_, _, rfl, rfl, Nat.le_of_ble_eq_true rfl⟩, trivial⟩ | exact ⟨⟨_, _, rfl, rfl, Nat.le_of_ble_eq_true rfl⟩, ⟨_, _, rfl, rfl, Nat.le_of_ble_eq_true rfl⟩, trivial⟩ | exact ⟨⟨_, _, rfl, rfl, Nat.le_of_ble_eq_true rfl⟩, ⟨_, _, rfl, rfl, Nat.le_of_ble_eq_true rfl⟩, ⟨_, _, rfl, rfl, Nat.le_of_ble_eq_true rfl⟩, trivial⟩) ?_; conv => whnf) | (refine ifB_intro (fun hA => ?_) (fun hA => ?_) <;> (try rw [hA]) <;> (conv => whnf) <;> (first | replace hA := of_decide_eq_true hA | replace hA := of_decide_eq_false hA | replace hA := eq_of_beq hA | replace hA := ne_of_beq_false hA | replace hA := bne_iff_ne.1 hA | replace hA := bne_eq_false_iff_eq.1 hA | skip) <;> (try simp only [List.length_map, cond_true, cond_false, Bool.not_eq_true', Bool.not_eq_false', beq_iff_eq, beq_eq_false_iff_ne, ne_eq] at hA)) | (rw [getD_map _ _ _ _ (by assumption)]; conv => whnf))
              rw [hn]; rfl
            | some j =>
              have hj := fieldK_lt hfk
              have hgb := boolRow_get seen j hj
              rw [hfk] at hf hst2
              cases hnk : numK b with
              | none =>
                have hnn : numN b = -1 := by unfold numN; rw [hnk]
                rw [hnk] at hst2
                rw [hnn] at hnum
                have hn := hbad hst2
                repeat' (first | (refine And.intro (by first | exact rfl | decide | exact Nat.le_of_ble_eq_true rfl | exact ⟨_, rfl⟩ | exact ⟨_, _, rfl⟩ | exact Nat.le_refl _ | exact Int.le_refl _ | omega | (simp only [List.length_map]; omega) | exact True.intro | (simp only [List.length_map]; omega) | (simp only [List.map_cons, List.map_nil, List.length_cons]; omega) | (simp only []; omega) | exact ⟨⟨_, _, rfl, rfl, Nat.le_of_ble_eq_true rfl⟩, trivial⟩ | exact ⟨⟨_, _, rfl, rfl, Nat.le_of_ble_eq_true rfl⟩, ⟨_, _, rfl, rfl, Nat.le_of_ble_eq_true rfl⟩, trivial⟩ | exact ⟨⟨_, _, rfl, rfl, Nat.le_of_ble_eq_true rfl⟩, ⟨_, _, rfl, rfl, Nat.le_of_ble_eq_true rfl⟩, ⟨_, _, rfl, rfl, Nat.le_of_ble_eq_true rfl⟩, trivial⟩) ?_; conv => whnf) | (refine ifB_intro (fun hA => ?_) (fun hA => ?_) <;> (try rw [hA]) <;> (conv => whnf) <;> (first | replace hA := of_decide_eq_true hA | replace hA := of_decide_eq_false hA | replace hA := eq_of_beq hA | replace hA := ne_of_beq_false hA | replace hA := bne_iff_ne.1 hA | replace hA := bne_eq_false_iff_eq.1 hA | skip) <;> (try simp only [List.length_map] at hA)) | (refine CallP.det (hs61) ?_; conv => whnf) | (refine CallD.det (hs61) ?_; conv => whnf) | (refine CallP.det (hf) ?_; conv => whnf) | (refine CallD.det (hf) ?_; conv => whnf) | (refine CallP.det (hnum) ?_; conv => whnf) | (refine CallD.det (hnum) ?_; conv => whnf) | (refine And.intro (show 0 + ((j : Nat) : Int).toNat * 1 + 1 ≤ (boolRow seen).length by rw [boolRow_len]; omega) ?_; conv => whnf) | (rw [hgb]; conv => whnf) | (refine DrawP.intro (X := ax g) (id := 12) B68_12 (by kernel_rfl) (by decide +kernel) ?_; conv => whnf) | (rw [getD_map _ _ _ _ (by assumption)]; conv => whnf))
                all_goals
                  refine ⟨⟨[], ?_⟩⟩
                  conv => whnf
                  repeat' (first | (refine And.intro (by first | exact rfl | decide | exact Nat.le_of_ble_eq_true rfl | exact ⟨_, rfl⟩ | exact ⟨_, _, rfl⟩ | exact Nat.le_refl _ | exact Int.le_refl _ | omega | (simp only [List.length_map]; omega) | exact True.intro | (simp only [IntKind.wrap_i64, List.length_map]; omega) | (simp only [List.map_cons, List.map_nil, List.length_cons, Option.getD]; omega) | (simp only [bsz, ByteArray.size_append, List.size_toArray, List.length_cons, List.length_nil]; omega) | exact ⟨⟨_, _, rfl, rfl, Nat.le_of_ble_eq_true rfl⟩, trivial⟩ | exact ⟨⟨_, _, rfl, rfl, Nat.le_of_ble_eq_true rfl⟩, ⟨_, _, rfl, rfl, Nat.le_of_ble_eq_true rfl⟩, trivial⟩ | exact ⟨⟨_, _, rfl, rfl, Nat.le_of_ble_eq_true rfl⟩, ⟨_, _, rfl, rfl, Nat.le_of_ble_eq_true rfl⟩, ⟨_, _, rfl, rfl, Nat.le_of_ble_eq_true rfl⟩, trivial⟩) ?_; conv => whnf) | (refine ifB_intro (fun hA => ?_) (fun hA => ?_) <;> (try rw [hA]) <;> (conv => whnf) <;> (first | replace hA := of_decide_eq_true hA | replace hA := of_decide_eq_false hA | replace hA := eq_of_beq hA | replace hA := ne_of_beq_false hA | replace hA := bne_iff_ne.1 hA | replace hA := bne_eq_false_iff_eq.1 hA | skip) <;> (try simp only [List.length_map, cond_true, cond_false, Bool.not_eq_true', Bool.not_eq_false', beq_iff_eq, beq_eq_false_iff_ne, ne_eq] at hA)) | (rw [getD_map _ _ _ _ (by assumption)]; conv => whnf))
                  rw [hn]; rfl
              | some m =>
                have hnn : numN b = (m : Int) := by unfold numN; rw [hnk]
                rw [hnk] at hst2
                rw [hnn] at hnum
                repeat' (first | (refine And.intro (by first | exact rfl | decide | exact Nat.le_of_ble_eq_true rfl | exact ⟨_, rfl⟩ | exact ⟨_, _, rfl⟩ | exact Nat.le_refl _ | exact Int.le_refl _ | omega | (simp only [List.length_map]; omega) | exact True.intro | (simp only [List.length_map]; omega) | (simp only [List.map_cons, List.map_nil, List.length_cons]; omega) | (simp only []; omega) | exact ⟨⟨_, _, rfl, rfl, Nat.le_of_ble_eq_true rfl⟩, trivial⟩ | exact ⟨⟨_, _, rfl, rfl, Nat.le_of_ble_eq_true rfl⟩, ⟨_, _, rfl, rfl, Nat.le_of_ble_eq_true rfl⟩, trivial⟩ | exact ⟨⟨_, _, rfl, rfl, Nat.le_of_ble_eq_true rfl⟩, ⟨_, _, rfl, rfl, Nat.le_of_ble_eq_true rfl⟩, ⟨_, _, rfl, rfl, Nat.le_of_ble_eq_true rfl⟩, trivial⟩) ?_; conv => whnf) | (refine ifB_intro (fun hA => ?_) (fun hA => ?_) <;> (try rw [hA]) <;> (conv => whnf) <;> (first | replace hA := of_decide_eq_true hA | replace hA := of_decide_eq_false hA | replace hA := eq_of_beq hA | replace hA := ne_of_beq_false hA | replace hA := bne_iff_ne.1 hA | replace hA := bne_eq_false_iff_eq.1 hA | skip) <;> (try simp only [List.length_map] at hA)) | (refine CallP.det (hs61) ?_; conv => whnf) | (refine CallD.det (hs61) ?_; conv => whnf) | (refine CallP.det (hf) ?_; conv => whnf) | (refine CallD.det (hf) ?_; conv => whnf) | (refine CallP.det (hnum) ?_; conv => whnf) | (refine CallD.det (hnum) ?_; conv => whnf) | (refine And.intro (show 0 + ((j : Nat) : Int).toNat * 1 + 1 ≤ (boolRow seen).length by rw [boolRow_len]; omega) ?_; conv => whnf) | (rw [hgb]; conv => whnf) | (refine DrawP.intro (X := ax g) (id := 12) B68_12 (by kernel_rfl) (by decide +kernel) ?_; conv => whnf) | (rw [getD_map _ _ _ _ (by assumption)]; conv => whnf))
                · rw [show decide (((j : Nat) : Int) < 0) = false from by simp] at hA
                  have hA : seen.contains j = true := hA
                  have hn := hbad (by rw [hst2]; exact if_pos hA)
                  refine ⟨⟨[], ?_⟩⟩
                  conv => whnf
                  repeat' (first | (refine And.intro (by first | exact rfl | decide | exact Nat.le_of_ble_eq_true rfl | exact ⟨_, rfl⟩ | exact ⟨_, _, rfl⟩ | exact Nat.le_refl _ | exact Int.le_refl _ | omega | (simp only [List.length_map]; omega) | exact True.intro | (simp only [IntKind.wrap_i64, List.length_map]; omega) | (simp only [List.map_cons, List.map_nil, List.length_cons, Option.getD]; omega) | (simp only [bsz, ByteArray.size_append, List.size_toArray, List.length_cons, List.length_nil]; omega) | exact ⟨⟨_, _, rfl, rfl, Nat.le_of_ble_eq_true rfl⟩, trivial⟩ | exact ⟨⟨_, _, rfl, rfl, Nat.le_of_ble_eq_true rfl⟩, ⟨_, _, rfl, rfl, Nat.le_of_ble_eq_true rfl⟩, trivial⟩ | exact ⟨⟨_, _, rfl, rfl, Nat.le_of_ble_eq_true rfl⟩, ⟨_, _, rfl, rfl, Nat.le_of_ble_eq_true rfl⟩, ⟨_, _, rfl, rfl, Nat.le_of_ble_eq_true rfl⟩, trivial⟩) ?_; conv => whnf) | (refine ifB_intro (fun hA => ?_) (fun hA => ?_) <;> (try rw [hA]) <;> (conv => whnf) <;> (first | replace hA := of_decide_eq_true hA | replace hA := of_decide_eq_false hA | replace hA := eq_of_beq hA | replace hA := ne_of_beq_false hA | replace hA := bne_iff_ne.1 hA | replace hA := bne_eq_false_iff_eq.1 hA | skip) <;> (try simp only [List.length_map, cond_true, cond_false, Bool.not_eq_true', Bool.not_eq_false', beq_iff_eq, beq_eq_false_iff_ne, ne_eq] at hA)) | (rw [getD_map _ _ _ _ (by assumption)]; conv => whnf))
                  rw [hn]; rfl
                · rw [show decide (((j : Nat) : Int) < 0) = false from by simp] at hA
                  have hA : seen.contains j = false := hA
                  have e : stepK (p, seen) x = some (p.set j m, seen ++ [j]) := by rw [hst2]; exact if_neg (by rw [hA]; simp)
                  have hm := numK_lt hnk
                  have hwm : IntKind.u16.wrap ((m : Nat) : Int) = ((m : Nat) : Int) := by rw [IntKind.wrap_u16]; omega
                  refine ⟨(i + 1, p.set j m, seen ++ [j]), ⟨by show i + 1 ≤ _; omega, by rw [hst, e]⟩, by show L.length - (i + 1) < L.length - i; omega, ⟨⟨rfl, rfl, rfl, rfl, rfl, AV.int_eq (i64_succ (by omega)), trivial⟩, ⟨fun o h => h, fun o h => ?_, fun o h => ?_, trivial⟩⟩⟩
                  · rw [← h]
                    show some (AObj.dvar 8 (splice (rowU p) [D.v (.int .u16 (IntKind.u16.wrap (m : Int)))] (0 + ((j : Nat) : Int).toNat * 1))) = _
                    rw [hwm, rowU_set p hok.len j hj m]
                  · rw [← h]; exact congrArg (fun z => some (AObj.dvar 8 z)) (boolRow_set seen j hj)
  · have h : i = L.length := by
      have h0 := of_decide_eq_false h
      rw [List.length_map] at h0
      omega
    subst h
    rw [List.take_length] at hr
    rw [hr]
    have h8 := hok.len
    dsimp only at h8
    clear hok hr
    obtain ⟨a0, a1, a2, a3, a4, a5, a6, a7, rfl⟩ := eight h8
    conv => whnf
    repeat' (first | (refine And.intro (by first | exact rfl | decide | exact Nat.le_of_ble_eq_true rfl | exact ⟨_, rfl⟩ | exact ⟨_, _, rfl⟩ | exact Nat.le_refl _ | exact Int.le_refl _ | omega | (simp only [List.length_map]; omega) | exact True.intro | (simp only [IntKind.wrap_i64, List.length_map]; omega) | (simp only [List.map_cons, List.map_nil, List.length_cons, Option.getD]; omega) | (simp only [bsz, ByteArray.size_append, List.size_toArray, List.length_cons, List.length_nil]; omega) | exact ⟨⟨_, _, rfl, rfl, Nat.le_of_ble_eq_true rfl⟩, trivial⟩ | exact ⟨⟨_, _, rfl, rfl, Nat.le_of_ble_eq_true rfl⟩, ⟨_, _, rfl, rfl, Nat.le_of_ble_eq_true rfl⟩, trivial⟩ | exact ⟨⟨_, _, rfl, rfl, Nat.le_of_ble_eq_true rfl⟩, ⟨_, _, rfl, rfl, Nat.le_of_ble_eq_true rfl⟩, ⟨_, _, rfl, rfl, Nat.le_of_ble_eq_true rfl⟩, trivial⟩) ?_; conv => whnf) | (refine ifB_intro (fun hA => ?_) (fun hA => ?_) <;> (try rw [hA]) <;> (conv => whnf) <;> (first | replace hA := of_decide_eq_true hA | replace hA := of_decide_eq_false hA | replace hA := eq_of_beq hA | replace hA := ne_of_beq_false hA | replace hA := bne_iff_ne.1 hA | replace hA := bne_eq_false_iff_eq.1 hA | skip) <;> (try simp only [List.length_map, cond_true, cond_false, Bool.not_eq_true', Bool.not_eq_false', beq_iff_eq, beq_eq_false_iff_ne, ne_eq] at hA)) | (rw [getD_map _ _ _ _ (by assumption)]; conv => whnf))
    refine ⟨⟨[], ?_⟩⟩
    conv => whnf
    repeat' (first | (refine And.intro (by first | exact rfl | decide | exact Nat.le_of_ble_eq_true rfl | exact ⟨_, rfl⟩ | exact ⟨_, _, rfl⟩ | exact Nat.le_refl _ | exact Int.le_refl _ | omega | (simp only [List.length_map]; omega) | exact True.intro | (simp only [IntKind.wrap_i64, List.length_map]; omega) | (simp only [List.map_cons, List.map_nil, List.length_cons, Option.getD]; omega) | (simp only [bsz, ByteArray.size_append, List.size_toArray, List.length_cons, List.length_nil]; omega) | exact ⟨⟨_, _, rfl, rfl, Nat.le_of_ble_eq_true rfl⟩, trivial⟩ | exact ⟨⟨_, _, rfl, rfl, Nat.le_of_ble_eq_true rfl⟩, ⟨_, _, rfl, rfl, Nat.le_of_ble_eq_true rfl⟩, trivial⟩ | exact ⟨⟨_, _, rfl, rfl, Nat.le_of_ble_eq_true rfl⟩, ⟨_, _, rfl, rfl, Nat.le_of_ble_eq_true rfl⟩, ⟨_, _, rfl, rfl, Nat.le_of_ble_eq_true rfl⟩, trivial⟩) ?_; conv => whnf) | (refine ifB_intro (fun hA => ?_) (fun hA => ?_) <;> (try rw [hA]) <;> (conv => whnf) <;> (first | replace hA := of_decide_eq_true hA | replace hA := of_decide_eq_false hA | replace hA := eq_of_beq hA | replace hA := ne_of_beq_false hA | replace hA := bne_iff_ne.1 hA | replace hA := bne_eq_false_iff_eq.1 hA | skip) <;> (try simp only [List.length_map, cond_true, cond_false, Bool.not_eq_true', Bool.not_eq_false', beq_iff_eq, beq_eq_false_iff_ne, ne_eq] at hA)) | (rw [getD_map _ _ _ _ (by assumption)]; conv => whnf))
    rfl
end Go.Ax

/- Packets: awake; a packet's text, read. -/
namespace Go.Ax
open Go.Proofs Go.RowKit Go.Shelf Go.Lib
set_option maxRecDepth 10000

theorem readPV_some (p : List Nat) : readPV (some p) = .tup [.dagg (rowU p), .bool true] := rfl
theorem awake1_ctr (g : GP) (hp : ∀ w, g.G w → PowG w) (he : ∀ w, g.G w → ErrG w) : Ctr (ax g).E 65 [] [] (fun o => o = .ret (.bool true) []) := by
  have h1 := pwith_ctr g zeroP rfl 0 (by omega) 1
  have h2 := pwith_ctr g (zeroP.set 0 1) rfl 3 (by omega) 7
  have h3 := readp_ctr g he [100, 115, 116, 61, 55, 32, 32, 115, 119, 61, 49] (by decide)
  rw [show readP [100, 115, 116, 61, 55, 32, 32, 115, 119, 61, 49] = some ((zeroP.set 0 1).set 3 7) from by decide +kernel, readPV_some] at h3
  have h4 := field_ctr g (baL [100, 115, 116])
  rw [ba_toList, show fieldK [100, 115, 116] = some 3 from by decide +kernel] at h4
  have h5 := pname_ctr g 3 (by omega)
  have h6 := ptext_ctr g hp ((zeroP.set 0 1).set 3 7) ⟨rfl, by decide⟩
  rw [show textP ((zeroP.set 0 1).set 3 7) = [115, 119, 61, 49, 32, 112, 116, 61, 48, 32, 100, 115, 116, 61, 55] from by decide +kernel] at h6
  refine Ctr.body (X := ax g) _ 39 [] [.tmp 0] Tryd.func65 rfl rfl rfl rfl (by decide +kernel) rfl rfl ?_
  conv => whnf
  repeat' (first | (refine And.intro (by first | exact rfl | decide | exact Nat.le_of_ble_eq_true rfl | exact ⟨_, rfl⟩ | exact ⟨_, _, rfl⟩ | exact Nat.le_refl _ | exact Int.le_refl _ | omega | (simp only []; omega) | exact True.intro | (simp only [IntKind.wrap_i64, List.length_map]; omega) | (simp only [List.map_cons, List.map_nil, List.length_cons, Option.getD]; omega) | (simp only [bsz, ByteArray.size_append, List.size_toArray, List.length_cons, List.length_nil]; omega) | exact ⟨⟨_, _, rfl, rfl, Nat.le_of_ble_eq_true rfl⟩, trivial⟩ | exact ⟨⟨_, _, rfl, rfl, Nat.le_of_ble_eq_true rfl⟩, ⟨_, _, rfl, rfl, Nat.le_of_ble_eq_true rfl⟩, trivial⟩ | exact ⟨⟨_, _, rfl, rfl, Nat.le_of_ble_eq_true rfl⟩, ⟨_, _, rfl, rfl, Nat.le_of_ble_eq_true rfl⟩, ⟨_, _, rfl, rfl, Nat.le_of_ble_eq_true rfl⟩, trivial⟩) ?_; conv => whnf) | (refine ifB_intro (fun hA => ?_) (fun hA => ?_) <;> (try rw [hA]) <;> (conv => whnf) <;> (first | replace hA := of_decide_eq_true hA | replace hA := of_decide_eq_false hA | replace hA := eq_of_beq hA | replace hA := ne_of_beq_false hA | replace hA := bne_iff_ne.1 hA | replace hA := bne_eq_false_iff_eq.1 hA | skip) <;> (try simp only [List.length_map, cond_true, cond_false, Bool.not_eq_true', Bool.not_eq_false', beq_iff_eq, beq_eq_false_iff_ne, ne_eq] at hA)) | (refine CallP.det (h1) ?_; conv => whnf) | (refine CallD.det (h1) ?_; conv => whnf) | (refine CallP.det (h2) ?_; conv => whnf) | (refine CallD.det (h2) ?_; conv => whnf) | (refine CallP.det (h3) ?_; conv => whnf) | (refine CallD.det (h3) ?_; conv => whnf) | (refine CallP.det (h4) ?_; conv => whnf) | (refine CallD.det (h4) ?_; conv => whnf) | (refine CallP.det (h5) ?_; conv => whnf) | (refine CallD.det (h5) ?_; conv => whnf) | (refine CallP.det (h6) ?_; conv => whnf) | (refine CallD.det (h6) ?_; conv => whnf) | (rw [getD_map _ _ _ _ (by assumption)]; conv => whnf))
  refine ⟨⟨[], ?_⟩⟩
  conv => whnf
  rfl
theorem eqU8 (a0 a1 a2 a3 a4 a5 a6 a7 : Nat) : eqAll [.int .u16, .int .u16, .int .u16, .int .u16, .int .u16, .int .u16, .int .u16, .int .u16] (cut 0 8 (rowU [a0, a1, a2, a3, a4, a5, a6, a7])) (cut 0 8 (rowU [a0, a1, a2, a3, a4, a5, a6, a7])) 0 = true := by
  simp [eqAll, cut, rowU, cellU, scEq, List.getD]
theorem packetText_ctr (g : GP) (hp : ∀ w, g.G w → PowG w) (he : ∀ w, g.G w → ErrG w) (p : List Nat) (ok : OkK p) (s : ByteArray) : Ctr (ax g).E 14 [.dagg (rowU p), .str s] [] (fun o => o = .ret (.bool true) []) := by
  have h0 := awake1_ctr g hp he
  have h1 := ptext_ctr g hp p ok
  have hlen := textP_len p ok 8 (by omega)
  have h2 := readp_ctr g he (textP p) (by unfold textP; omega)
  rw [readP_text p ok.1 ok.2, readPV_some] at h2
  have h7 := reftextP_ctr g p ok
  generalize textP p = tp at *
  obtain ⟨a0, a1, a2, a3, a4, a5, a6, a7, rfl⟩ := eight ok.1
  obtain ⟨t, rfl⟩ : ∃ t, s = baL t := ⟨s.data.toList, (ba_of s).symm⟩
  have hts := ba_size t
  refine Ctr.body (X := ax g) _ 78 [] [.tmp 4] Tryd.func14 rfl rfl rfl rfl (by decide +kernel) rfl rfl ?_
  conv => whnf
  repeat' (first | (refine And.intro (by first | exact rfl | decide | exact Nat.le_of_ble_eq_true rfl | exact ⟨_, rfl⟩ | exact ⟨_, _, rfl⟩ | exact Nat.le_refl _ | exact Int.le_refl _ | omega | (simp only [List.length_map]; omega) | exact True.intro | (simp only [IntKind.wrap_i64, List.length_map]; omega) | (simp only [List.map_cons, List.map_nil, List.length_cons, Option.getD]; omega) | (simp only [bsz, ByteArray.size_append, List.size_toArray, List.length_cons, List.length_nil]; omega) | exact ⟨⟨_, _, rfl, rfl, Nat.le_of_ble_eq_true rfl⟩, trivial⟩ | exact ⟨⟨_, _, rfl, rfl, Nat.le_of_ble_eq_true rfl⟩, ⟨_, _, rfl, rfl, Nat.le_of_ble_eq_true rfl⟩, trivial⟩ | exact ⟨⟨_, _, rfl, rfl, Nat.le_of_ble_eq_true rfl⟩, ⟨_, _, rfl, rfl, Nat.le_of_ble_eq_true rfl⟩, ⟨_, _, rfl, rfl, Nat.le_of_ble_eq_true rfl⟩, trivial⟩) ?_; conv => whnf) | (refine ifB_intro (fun hA => ?_) (fun hA => ?_) <;> (try rw [hA]) <;> (conv => whnf) <;> (first | replace hA := of_decide_eq_true hA | replace hA := of_decide_eq_false hA | replace hA := eq_of_beq hA | replace hA := ne_of_beq_false hA | replace hA := bne_iff_ne.1 hA | replace hA := bne_eq_false_iff_eq.1 hA | skip) <;> (try simp only [List.length_map, cond_true, cond_false, Bool.not_eq_true', Bool.not_eq_false', beq_iff_eq, beq_eq_false_iff_ne, ne_eq] at hA)) | (refine CallP.det (h0) ?_; conv => whnf) | (refine CallD.det (h0) ?_; conv => whnf) | (rw [getD_map _ _ _ _ (by assumption)]; conv => whnf))
  · refine ⟨⟨[], ?_⟩⟩
    conv => whnf
  · have ht : t.length ≤ 300 := by omega
    have h3 := readp_ctr g he t (by omega)
    have h4 := refReadP_ctr g t (by omega)
    have h5 := field_ctr g (baL t)
    have h6 := refField_ctr g (baL t)
    rw [ba_toList] at h5 h6
    obtain ⟨q, b, hq8, hq⟩ : ∃ q b, q.length = 8 ∧ readPV (readP t) = .tup [.dagg (rowU q), .bool b] := ⟨(readP t).getD zeroP, (readP t).isSome, by
      cases h : readP t with
      | none => rfl
      | some q => exact (readP_ok h).1, rfl⟩
    rw [hq] at h3 h4
    obtain ⟨b0, b1, b2, b3, b4, b5, b6, b7, rfl⟩ := eight hq8
    clear hq
    cases hf : fieldK t with
    | none =>
      rw [hf] at h5 h6
      repeat' (first | (refine And.intro (by first | exact rfl | decide | exact Nat.le_of_ble_eq_true rfl | exact ⟨_, rfl⟩ | exact ⟨_, _, rfl⟩ | exact Nat.le_refl _ | exact Int.le_refl _ | omega | (simp only [List.length_map]; omega) | exact True.intro | (simp only [IntKind.wrap_i64, List.length_map]; omega) | (simp only [List.map_cons, List.map_nil, List.length_cons, Option.getD]; omega) | (simp only [bsz, ByteArray.size_append, List.size_toArray, List.length_cons, List.length_nil]; omega) | exact ⟨⟨_, _, rfl, rfl, Nat.le_of_ble_eq_true rfl⟩, trivial⟩ | exact ⟨⟨_, _, rfl, rfl, Nat.le_of_ble_eq_true rfl⟩, ⟨_, _, rfl, rfl, Nat.le_of_ble_eq_true rfl⟩, trivial⟩ | exact ⟨⟨_, _, rfl, rfl, Nat.le_of_ble_eq_true rfl⟩, ⟨_, _, rfl, rfl, Nat.le_of_ble_eq_true rfl⟩, ⟨_, _, rfl, rfl, Nat.le_of_ble_eq_true rfl⟩, trivial⟩) ?_; conv => whnf) | (refine ifB_intro (fun hA => ?_) (fun hA => ?_) <;> (try rw [hA]) <;> (conv => whnf) <;> (first | replace hA := of_decide_eq_true hA | replace hA := of_decide_eq_false hA | replace hA := eq_of_beq hA | replace hA := ne_of_beq_false hA | replace hA := bne_iff_ne.1 hA | replace hA := bne_eq_false_iff_eq.1 hA | skip) <;> (try simp only [cond_true, ne_eq] at hA)) | (refine CallP.det (h1) ?_; conv => whnf) | (refine CallD.det (h1) ?_; conv => whnf) | (refine CallP.det (h2) ?_; conv => whnf) | (refine CallD.det (h2) ?_; conv => whnf) | (refine CallP.det (h3) ?_; conv => whnf) | (refine CallD.det (h3) ?_; conv => whnf) | (refine CallP.det (h4) ?_; conv => whnf) | (refine CallD.det (h4) ?_; conv => whnf) | (refine CallP.det (h5) ?_; conv => whnf) | (refine CallD.det (h5) ?_; conv => whnf) | (refine CallP.det (h6) ?_; conv => whnf) | (refine CallD.det (h6) ?_; conv => whnf) | (refine CallP.det (h7) ?_; conv => whnf) | (refine CallD.det (h7) ?_; conv => whnf) | (exact absurd trivial hA) | (exact absurd (eqU8 _ _ _ _ _ _ _ _) hA) | (rw [getD_map _ _ _ _ (by assumption)]; conv => whnf))
      all_goals first
        | exact absurd rfl hA
        | exact absurd ((eqU8 _ _ _ _ _ _ _ _).symm.trans hA) (by decide)
        | (refine ⟨⟨[], ?_⟩⟩; (conv => whnf); rfl)
    | some i =>
      rw [hf] at h5 h6
      repeat' (first | (refine And.intro (by first | exact rfl | decide | exact Nat.le_of_ble_eq_true rfl | exact ⟨_, rfl⟩ | exact ⟨_, _, rfl⟩ | exact Nat.le_refl _ | exact Int.le_refl _ | omega | (simp only [List.length_map]; omega) | exact True.intro | (simp only [IntKind.wrap_i64, List.length_map]; omega) | (simp only [List.map_cons, List.map_nil, List.length_cons, Option.getD]; omega) | (simp only [bsz, ByteArray.size_append, List.size_toArray, List.length_cons, List.length_nil]; omega) | exact ⟨⟨_, _, rfl, rfl, Nat.le_of_ble_eq_true rfl⟩, trivial⟩ | exact ⟨⟨_, _, rfl, rfl, Nat.le_of_ble_eq_true rfl⟩, ⟨_, _, rfl, rfl, Nat.le_of_ble_eq_true rfl⟩, trivial⟩ | exact ⟨⟨_, _, rfl, rfl, Nat.le_of_ble_eq_true rfl⟩, ⟨_, _, rfl, rfl, Nat.le_of_ble_eq_true rfl⟩, ⟨_, _, rfl, rfl, Nat.le_of_ble_eq_true rfl⟩, trivial⟩) ?_; conv => whnf) | (refine ifB_intro (fun hA => ?_) (fun hA => ?_) <;> (try rw [hA]) <;> (conv => whnf) <;> (first | replace hA := of_decide_eq_true hA | replace hA := of_decide_eq_false hA | replace hA := eq_of_beq hA | replace hA := ne_of_beq_false hA | replace hA := bne_iff_ne.1 hA | replace hA := bne_eq_false_iff_eq.1 hA | skip) <;> (try simp only [cond_true, ne_eq] at hA)) | (refine CallP.det (h1) ?_; conv => whnf) | (refine CallD.det (h1) ?_; conv => whnf) | (refine CallP.det (h2) ?_; conv => whnf) | (refine CallD.det (h2) ?_; conv => whnf) | (refine CallP.det (h3) ?_; conv => whnf) | (refine CallD.det (h3) ?_; conv => whnf) | (refine CallP.det (h4) ?_; conv => whnf) | (refine CallD.det (h4) ?_; conv => whnf) | (refine CallP.det (h5) ?_; conv => whnf) | (refine CallD.det (h5) ?_; conv => whnf) | (refine CallP.det (h6) ?_; conv => whnf) | (refine CallD.det (h6) ?_; conv => whnf) | (refine CallP.det (h7) ?_; conv => whnf) | (refine CallD.det (h7) ?_; conv => whnf) | (exact absurd trivial hA) | (exact absurd (eqU8 _ _ _ _ _ _ _ _) hA) | (rw [getD_map _ _ _ _ (by assumption)]; conv => whnf))
      all_goals first
        | exact absurd rfl hA
        | exact absurd ((eqU8 _ _ _ _ _ _ _ _).symm.trans hA) (by decide)
        | (refine ⟨⟨[], ?_⟩⟩; (conv => whnf); simp; done)
        | (refine ⟨⟨[], ?_⟩⟩; (conv => whnf); simp; omega)
end Go.Ax
