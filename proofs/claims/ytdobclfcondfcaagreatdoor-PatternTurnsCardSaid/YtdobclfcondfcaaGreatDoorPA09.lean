/- What the card of this claim stands on, or the card itself: for every input, as the given row says. -/
import Derived.Lib.IndexBytes
import Derived.Recover
import Derived.Test.YtdobclfcondfcaaGreatDoorPA05
import Derived.Test.YtdobclfcondfcaaGreatDoorPA06
import Derived.Test.YtdobclfcondfcaaGreatDoorPA08

namespace Go.Ax
open Go.Proofs Go.RowKit Go.Shelf Go.Lib
set_option maxRecDepth 10000
theorem ba_extract (l : List UInt8) (a b : Nat) (h : a ≤ b) (hb : b ≤ l.length) : (baL l).extract a b = baL ((l.drop a).take (b - a)) := by
  apply ByteArray.ext
  rw [ByteArray.data_extract]
  apply Array.ext'
  rw [Array.toList_extract, List.extract_eq_take_drop, ba_toList, ba_toList]
theorem drop_cut (l : List UInt8) (st i : Nat) (h : st ≤ i) (hi : i < l.length) : l.drop st = (l.drop st).take (i - st) ++ l[i] :: l.drop (i + 1) := by
  have e : l.drop i = l[i] :: l.drop (i + 1) := List.drop_eq_getElem_cons hi
  rw [← e]
  have h1 := List.take_append_drop (i - st) (l.drop st)
  rw [List.drop_drop, show st + (i - st) = i from by omega] at h1
  exact h1.symm
theorem take_snoc (l : List UInt8) (st i : Nat) (h : st ≤ i) (hi : i < l.length) : (l.drop st).take (i + 1 - st) = (l.drop st).take (i - st) ++ [l[i]] := by
  rw [show i + 1 - st = (i - st) + 1 from by omega, List.take_succ_eq_append_getElem (by rw [List.length_drop]; omega)]
  congr 2
  rw [List.getElem_drop]
  congr 1
  omega
structure SplitI (c : UInt8) (l : List UInt8) (acc : List (List UInt8)) (st i : Nat) : Prop where
  le : i ≤ l.length
  lo : st ≤ i
  eq : splitL c l = acc ++ splitL c (l.drop st)
  no : ((l.drop st).take (i - st)).all (· != c) = true
theorem split_ref (g : GP) (c : UInt8) (l : List UInt8) (hl : l.length < 2 ^ 40) : Ctr (ax g).E 82 [.str (baL l), .d (.v (.int .u8 c.toNat))] [] fun o => o = .ret (.d (.sl false 1 ((splitL c l).map rowW))) [] := by
  have hsz := ba_size l
  refine Ctr.body (X := ax g) _ 35 [] [.tmp 4] Tryz.func82 rfl rfl rfl rfl (by decide +kernel) rfl rfl ?_
  conv => whnf
  refine LoopP.own 5 904 1 9 rfl rfl rfl ?_
  refine LoopP.inv (X := ax g) (fun x : List (List UInt8) × Nat × Nat => { f := [(0, .str (baL l)), (1, .d (.v (.int .u8 c.toNat))), (5, .msl 904 x.1.length 0 x.1.length), (6, .i64 x.2.1), (7, .i64 x.2.2)], h := [(904, some (.buf 1 9 (x.1.map rowW)))] }) (fun x => x.1.length ≤ x.2.2 ∧ (SplitI c l x.1 x.2.1 x.2.2 ∨ (x.2.2 = l.length + 1 ∧ splitL c l = x.1))) (fun x => l.length + 2 - x.2.2) ([], 0, 0) ⟨Nat.le_refl _, .inl ⟨Nat.zero_le _, Nat.le_refl _, rfl, rfl⟩⟩ ⟨⟨rfl, rfl, rfl, rfl, rfl, trivial⟩, ⟨fun o h => h, trivial⟩⟩ fun ⟨acc, st, i⟩ ⟨ha, hI⟩ => ?_
  dsimp only at ha hI ⊢
  conv => whnf
  refine ifB_intro (fun h => ?_) (fun h => ?_)
  · have hi : i ≤ l.length := by have h0 := of_decide_eq_true h; omega
    rcases hI with hI | ⟨h1, _⟩
    · obtain ⟨_, hst, heq, hno⟩ := hI
      have e1 : (baL l).extract ((some ((st : Nat) : Int)).getD 0).toNat ((some ((i : Nat) : Int)).getD (((baL l).size : Nat) : Int)).toNat = baL ((l.drop st).take (i - st)) := ba_extract l st i hst hi
      by_cases hlast : i = l.length
      · have hpc : splitL c (l.drop st) = [(l.drop st).take (i - st)] := by
          have : (l.drop st).take (i - st) = l.drop st := List.take_of_length_le (by rw [List.length_drop]; omega)
          rw [this] at hno ⊢
          exact split_one c _ hno
        conv => whnf
        repeat' (first | (refine And.intro (by first | exact rfl | decide | exact Nat.le_of_ble_eq_true rfl | exact ⟨_, rfl⟩ | exact ⟨_, _, rfl⟩ | exact Nat.le_refl _ | exact Int.le_refl _ | omega | (simp only [List.length_map]; omega) | exact True.intro | (simp only [List.length_map]; omega) | (simp only [List.length_cons, Option.getD]; omega) | (simp only [List.length_cons, List.length_nil]; omega) | exact ⟨⟨_, _, rfl, rfl, Nat.le_of_ble_eq_true rfl⟩, trivial⟩ | exact ⟨⟨_, _, rfl, rfl, Nat.le_of_ble_eq_true rfl⟩, ⟨_, _, rfl, rfl, Nat.le_of_ble_eq_true rfl⟩, trivial⟩ | exact ⟨⟨_, _, rfl, rfl, Nat.le_of_ble_eq_true rfl⟩, ⟨_, _, rfl, rfl, Nat.le_of_ble_eq_true rfl⟩, ⟨_, _, rfl, rfl, Nat.le_of_ble_eq_true rfl⟩, trivial⟩) ?_; conv => whnf) | (refine ifB_intro (fun hA => ?_) (fun hA => ?_) <;> (try rw [hA]) <;> (conv => whnf) <;> (first | replace hA := of_decide_eq_true hA | replace hA := of_decide_eq_false hA | replace hA := eq_of_beq hA | replace hA := ne_of_beq_false hA | replace hA := bne_iff_ne.1 hA | replace hA := bne_eq_false_iff_eq.1 hA | skip) <;> (try simp only [List.length_map, cond_true, cond_false, Bool.not_eq_true', Bool.not_eq_false', beq_iff_eq, beq_eq_false_iff_ne, ne_eq] at hA)) | (exfalso; omega) | (rw [e1]; conv => whnf) | (refine And.intro (List.length_map _).symm ?_; conv => whnf) | (refine And.intro (by show ((acc.map rowW).length + 1) * 16 ≤ 140737488355328; rw [List.length_map]; omega) ?_; conv => whnf) | (rw [getD_map _ _ _ _ (by assumption)]; conv => whnf))
        refine ⟨(acc ++ [(l.drop st).take (i - st)], i + 1, i + 1), ⟨by simp; omega, .inr ⟨by show i + 1 = _; omega, by rw [heq, hpc]⟩⟩, by show _ - (i + 1) < _ - i; omega, ⟨⟨rfl, rfl, msl_eq (by simp), AV.int_eq (i64_succ (by omega)), AV.int_eq (i64_succ (by omega)), trivial⟩, ⟨fun o h' => ?_, trivial⟩⟩⟩
        rw [← h', List.map_append]
        first | rfl | (rw [← e1]; rfl) | (rw [e1]; rfl)
      · have hil : i < l.length := by omega
        have hb := byteAt_ba l i hil
        have hcut := drop_cut l st i hst hil
        have hsn := take_snoc l st i hst hil
        conv => whnf
        repeat' (first | (refine And.intro (by first | exact rfl | decide | exact Nat.le_of_ble_eq_true rfl | exact ⟨_, rfl⟩ | exact ⟨_, _, rfl⟩ | exact Nat.le_refl _ | exact Int.le_refl _ | omega | (simp only [List.length_map]; omega) | exact True.intro | (simp only [List.length_map]; omega) | (simp only [List.length_cons, Option.getD]; omega) | (simp only [List.length_cons, List.length_nil]; omega) | exact ⟨⟨_, _, rfl, rfl, Nat.le_of_ble_eq_true rfl⟩, trivial⟩ | exact ⟨⟨_, _, rfl, rfl, Nat.le_of_ble_eq_true rfl⟩, ⟨_, _, rfl, rfl, Nat.le_of_ble_eq_true rfl⟩, trivial⟩ | exact ⟨⟨_, _, rfl, rfl, Nat.le_of_ble_eq_true rfl⟩, ⟨_, _, rfl, rfl, Nat.le_of_ble_eq_true rfl⟩, ⟨_, _, rfl, rfl, Nat.le_of_ble_eq_true rfl⟩, trivial⟩) ?_; conv => whnf) | (refine ifB_intro (fun hA => ?_) (fun hA => ?_) <;> (try rw [hA]) <;> (conv => whnf) <;> (first | replace hA := of_decide_eq_true hA | replace hA := of_decide_eq_false hA | replace hA := eq_of_beq hA | replace hA := ne_of_beq_false hA | replace hA := bne_iff_ne.1 hA | replace hA := bne_eq_false_iff_eq.1 hA | skip) <;> (try simp only [List.length_map, cond_true, cond_false, Bool.not_eq_true', Bool.not_eq_false', beq_iff_eq, beq_eq_false_iff_ne, ne_eq] at hA)) | (exfalso; omega) | (rw [hb]; conv => whnf) | (rw [e1]; conv => whnf) | (refine And.intro (List.length_map _).symm ?_; conv => whnf) | (refine And.intro (by show ((acc.map rowW).length + 1) * 16 ≤ 140737488355328; rw [List.length_map]; omega) ?_; conv => whnf) | (rw [getD_map _ _ _ _ (by assumption)]; conv => whnf))
        · have hcc : l[i] = c := UInt8.toNat_inj.1 (by omega)
          rw [hcc] at hcut
          have hpc : splitL c (l.drop st) = (l.drop st).take (i - st) :: splitL c (l.drop (i + 1)) := by
            have h5 := split_app c ((l.drop st).take (i - st)) (l.drop (i + 1)) hno
            rw [← hcut] at h5; exact h5
          refine ⟨(acc ++ [(l.drop st).take (i - st)], i + 1, i + 1), ⟨by simp; omega, .inl ⟨by show i + 1 ≤ _; omega, Nat.le_refl _, by rw [heq, hpc, List.append_assoc]; rfl, by simp⟩⟩, by show _ - (i + 1) < _ - i; omega, ⟨⟨rfl, rfl, msl_eq (by simp), AV.int_eq (i64_succ (by omega)), AV.int_eq (i64_succ (by omega)), trivial⟩, ⟨fun o h' => ?_, trivial⟩⟩⟩
          rw [← h', List.map_append]
          first | rfl | (rw [← e1]; rfl) | (rw [e1]; rfl)
        · have hcc : l[i] ≠ c := fun e => hA (by rw [hb, e])
          exact ⟨(acc, st, i + 1), ⟨by show acc.length ≤ i + 1; omega, .inl ⟨by show i + 1 ≤ _; omega, by show st ≤ i + 1; omega, heq, by show ((l.drop st).take (i + 1 - st)).all _ = true; rw [hsn, List.all_append, hno]; simp [hcc]⟩⟩, by show _ - (i + 1) < _ - i; omega, ⟨⟨rfl, rfl, rfl, rfl, AV.int_eq (i64_succ (by omega)), trivial⟩, ⟨fun o h' => h', trivial⟩⟩⟩
    · omega
  · rcases hI with hI | ⟨h1, h2⟩
    · have h0 := of_decide_eq_false h
      have := hI.le
      omega
    · conv => whnf
      refine ⟨⟨[], ?_⟩⟩
      conv => whnf
      refine And.intro (List.length_map _).symm ?_
      conv => whnf
      refine And.intro (by rw [List.length_map]; omega) ?_
      conv => whnf
      rw [h2]
      simp
      exact List.take_of_length_le (by simp)
theorem num_step {y z v : Nat} (hv : v = y * 10 + (z - 48)) (h1 : 48 ≤ z) (h2 : z ≤ 57) (hy : y < 1000000) : IntKind.i64.wrap (IntKind.i64.wrap ((y : Int) * 10) + IntKind.i64.wrap (IntKind.u8.wrap ((z : Int) - 48))) = (v : Int) := by
  have e1 : IntKind.u8.wrap ((z : Int) - 48) = (z : Int) - 48 := by rw [IntKind.wrap_u8]; omega
  have e2 : IntKind.i64.wrap ((y : Int) * 10) = (y : Int) * 10 := i64_wrap (by omega) (by omega)
  have e3 : IntKind.i64.wrap ((z : Int) - 48) = (z : Int) - 48 := i64_wrap (by omega) (by omega)
  rw [e1, e2, e3, i64_wrap (by omega) (by omega)]
  omega
def numN (l : List UInt8) : Int := match numK l with | some n => (n : Int) | none => -1
theorem refNumber_ctr (g : GP) (l : List UInt8) (hl : l.length < 2 ^ 40) : Ctr (ax g).E 84 [.str (baL l)] [] fun o => o = .ret (.i64 (numN l)) [] := by
  have hsz := ba_size l
  have bad : (l.length < 1 ∨ 5 < l.length ∨ l.all isD = false ∨ 65535 < valD 0 l) → numN l = -1 := fun h => by
    unfold numN numK
    rw [if_pos h]
  refine Ctr.body (X := ax g) _ 40 [] [.tmp 2] Tryz.func84 rfl rfl rfl rfl (by decide +kernel) rfl rfl ?_
  conv => whnf
  repeat' (first | (refine And.intro (by first | exact rfl | decide | exact Nat.le_of_ble_eq_true rfl | exact ⟨_, rfl⟩ | exact ⟨_, _, rfl⟩ | exact Nat.le_refl _ | exact Int.le_refl _ | omega | (simp only [List.length_map]; omega) | exact True.intro | (simp only [IntKind.wrap_i64, List.length_map]; omega) | (simp only [List.map_cons, List.map_nil, List.length_cons, Option.getD]; omega) | (simp only [bsz, ByteArray.size_append, List.size_toArray, List.length_cons, List.length_nil]; omega) | exact ⟨⟨_, _, rfl, rfl, Nat.le_of_ble_eq_true rfl⟩, trivial⟩ | exact ⟨⟨_, _, rfl, rfl, Nat.le_of_ble_eq_true rfl⟩, ⟨_, _, rfl, rfl, Nat.le_of_ble_eq_true rfl⟩, trivial⟩ | exact ⟨⟨_, _, rfl, rfl, Nat.le_of_ble_eq_true rfl⟩, ⟨_, _, rfl, rfl, Nat.le_of_ble_eq_true rfl⟩, ⟨_, _, rfl, rfl, Nat.le_of_ble_eq_true rfl⟩, trivial⟩) ?_; conv => whnf) | (refine ifB_intro (fun hA => ?_) (fun hA => ?_) <;> (try rw [hA]) <;> (conv => whnf) <;> (first | replace hA := of_decide_eq_true hA | replace hA := of_decide_eq_false hA | replace hA := eq_of_beq hA | replace hA := ne_of_beq_false hA | replace hA := bne_iff_ne.1 hA | replace hA := bne_eq_false_iff_eq.1 hA | skip) <;> (try simp only [List.length_map, cond_true, cond_false, Bool.not_eq_true', Bool.not_eq_false', beq_iff_eq, beq_eq_false_iff_ne, ne_eq] at hA)) | (rw [getD_map _ _ _ _ (by assumption)]; conv => whnf))
  · refine ⟨⟨[], ?_⟩⟩
    conv => whnf
    rw [bad (.inl (by omega))]
  · refine ⟨⟨[], ?_⟩⟩
    conv => whnf
    rw [bad (.inr (.inl (by omega)))]
  · rename_i h1
    refine LoopP.inv (X := ax g) (fun i : Nat => { f := [(0, .str (baL l)), (2, .i64 0), (3, .i64 (valD 0 (l.take i) : Nat)), (4, .i64 i)], h := [] }) (fun i => i ≤ l.length ∧ (l.take i).all isD = true) (fun i => l.length - i) 0 ⟨Nat.zero_le _, rfl⟩ ⟨⟨rfl, rfl, rfl, rfl, trivial⟩, trivial⟩ fun i ⟨hi, hd⟩ => ?_
    have hvb := valD_bound (l.take i) 0 hd
    have hp : 10 ^ (l.take i).length ≤ 10 ^ 5 := Nat.pow_le_pow_right (by omega) (by rw [List.length_take]; omega)
    conv => whnf
    refine ifB_intro (fun h => ?_) (fun h => ?_)
    · have h : i < l.length := by have h0 := of_decide_eq_true h; omega
      have hb := byteAt_ba l i h
      have ht : l.take (i + 1) = l.take i ++ [l[i]] := List.take_succ_eq_append_getElem h
      have hnd : isD l[i] = false → numN l = -1 := fun hx => bad (.inr (.inr (.inl (by
        rw [← List.take_append_drop i l, List.drop_eq_getElem_cons h, List.all_append, List.all_cons, hx]; simp))))
      conv => whnf
      repeat' (first | (refine And.intro (by first | exact rfl | decide | exact Nat.le_of_ble_eq_true rfl | exact ⟨_, rfl⟩ | exact ⟨_, _, rfl⟩ | exact Nat.le_refl _ | exact Int.le_refl _ | omega | (simp only [List.length_map]; omega) | exact True.intro | (simp only [IntKind.wrap_i64, List.length_map]; omega) | (simp only [List.map_cons, List.map_nil, List.length_cons, Option.getD]; omega) | (simp only [bsz, ByteArray.size_append, List.size_toArray, List.length_cons, List.length_nil]; omega) | exact ⟨⟨_, _, rfl, rfl, Nat.le_of_ble_eq_true rfl⟩, trivial⟩ | exact ⟨⟨_, _, rfl, rfl, Nat.le_of_ble_eq_true rfl⟩, ⟨_, _, rfl, rfl, Nat.le_of_ble_eq_true rfl⟩, trivial⟩ | exact ⟨⟨_, _, rfl, rfl, Nat.le_of_ble_eq_true rfl⟩, ⟨_, _, rfl, rfl, Nat.le_of_ble_eq_true rfl⟩, ⟨_, _, rfl, rfl, Nat.le_of_ble_eq_true rfl⟩, trivial⟩) ?_; conv => whnf) | (refine ifB_intro (fun hA => ?_) (fun hA => ?_) <;> (try rw [hA]) <;> (conv => whnf) <;> (first | replace hA := of_decide_eq_true hA | replace hA := of_decide_eq_false hA | replace hA := eq_of_beq hA | replace hA := ne_of_beq_false hA | replace hA := bne_iff_ne.1 hA | replace hA := bne_eq_false_iff_eq.1 hA | skip) <;> (try simp only [List.length_map, cond_true, cond_false, Bool.not_eq_true', Bool.not_eq_false', beq_iff_eq, beq_eq_false_iff_ne, ne_eq] at hA)) | (rw [hb]; conv => whnf) | (rw [getD_map _ _ _ _ (by assumption)]; conv => whnf))
      · rw [hb] at hA
        have := hnd (by unfold isD; rw [Bool.and_eq_false_iff]; left; rw [decide_eq_false_iff_not]; omega)
        refine ⟨⟨[], ?_⟩⟩
        conv => whnf
        rw [this]
      · rw [hb] at hA
        have := hnd (by unfold isD; rw [Bool.and_eq_false_iff]; right; rw [decide_eq_false_iff_not]; omega)
        refine ⟨⟨[], ?_⟩⟩
        conv => whnf
        rw [this]
      · rename_i hA0
        rw [hb] at hA hA0
        have hdig : isD l[i] = true := by unfold isD; rw [Bool.and_eq_true, decide_eq_true_iff, decide_eq_true_iff]; omega
        have hv : valD 0 (l.take (i + 1)) = valD 0 (l.take i) * 10 + (l[i].toNat - 48) := by rw [ht, valD_append]; rfl
        have hz : 48 ≤ l[i].toNat ∧ l[i].toNat ≤ 57 := by omega
        have hy : valD 0 (l.take i) < 1000000 := by omega
        have key : IntKind.i64.wrap (IntKind.i64.wrap (((valD 0 (l.take i) : Nat) : Int) * 10) + IntKind.i64.wrap (IntKind.u8.wrap ((l[i].toNat : Int) - 48))) = ((valD 0 (l.take (i + 1)) : Nat) : Int) := num_step hv hz.1 hz.2 hy
        have ht2 : (l.take (i + 1)).all isD = true := by rw [ht, List.all_append, hd]; simp [hdig]
        try rw [hb]
        rw [key]
        exact ⟨i + 1, ⟨by omega, ht2⟩, by omega, ⟨⟨rfl, rfl, rfl, AV.int_eq (i64_succ (by omega)), trivial⟩, trivial⟩⟩
    · have h : i = l.length := by have h0 := of_decide_eq_false h; omega
      subst h
      rw [List.take_length] at hd
      conv => whnf
      repeat' (first | (refine And.intro (by first | exact rfl | decide | exact Nat.le_of_ble_eq_true rfl | exact ⟨_, rfl⟩ | exact ⟨_, _, rfl⟩ | exact Nat.le_refl _ | exact Int.le_refl _ | omega | (simp only [List.length_map]; omega) | exact True.intro | (simp only [IntKind.wrap_i64, List.length_map]; omega) | (simp only [List.map_cons, List.map_nil, List.length_cons, Option.getD]; omega) | (simp only [bsz, ByteArray.size_append, List.size_toArray, List.length_cons, List.length_nil]; omega) | exact ⟨⟨_, _, rfl, rfl, Nat.le_of_ble_eq_true rfl⟩, trivial⟩ | exact ⟨⟨_, _, rfl, rfl, Nat.le_of_ble_eq_true rfl⟩, ⟨_, _, rfl, rfl, Nat.le_of_ble_eq_true rfl⟩, trivial⟩ | exact ⟨⟨_, _, rfl, rfl, Nat.le_of_ble_eq_true rfl⟩, ⟨_, _, rfl, rfl, Nat.le_of_ble_eq_true rfl⟩, ⟨_, _, rfl, rfl, Nat.le_of_ble_eq_true rfl⟩, trivial⟩) ?_; conv => whnf) | (refine ifB_intro (fun hA => ?_) (fun hA => ?_) <;> (try rw [hA]) <;> (conv => whnf) <;> (first | replace hA := of_decide_eq_true hA | replace hA := of_decide_eq_false hA | replace hA := eq_of_beq hA | replace hA := ne_of_beq_false hA | replace hA := bne_iff_ne.1 hA | replace hA := bne_eq_false_iff_eq.1 hA | skip) <;> (try simp only [List.length_map, cond_true, cond_false, Bool.not_eq_true', Bool.not_eq_false', beq_iff_eq, beq_eq_false_iff_ne, ne_eq] at hA)) | (rw [getD_map _ _ _ _ (by assumption)]; conv => whnf))
      · rw [List.take_length] at hA
        refine ⟨⟨[], ?_⟩⟩
        conv => whnf
        rw [bad (.inr (.inr (.inr (by omega))))]
      · rw [List.take_length] at hA
        refine ⟨⟨[], ?_⟩⟩
        conv => whnf
        have : numN l = (valD 0 l : Nat) := by
          unfold numN numK
          rw [if_neg]
          rintro (h | h | h | h)
          · omega
          · omega
          · rw [hd] at h; simp at h
          · omega
        rw [this, List.take_length]
theorem is_ctr (g : GP) (i : Nat) (hi : i < 8) : Ctr (ax g).E 144 [.i64 i] [] fun o => o = .ret (.bool true) [] := by
  refine Ctr.body (X := ax g) _ 9 [] [.tmp 2] Tryz.func144 rfl rfl rfl rfl (by decide +kernel) rfl rfl ?_
  conv => whnf
  repeat' (first | (refine And.intro (by first | exact rfl | decide | exact Nat.le_of_ble_eq_true rfl | exact ⟨_, rfl⟩ | exact ⟨_, _, rfl⟩ | exact Nat.le_refl _ | exact Int.le_refl _ | omega | (simp only [List.length_map]; omega) | exact True.intro | (simp only [IntKind.wrap_i64, List.length_map]; omega) | (simp only [List.map_cons, List.map_nil, List.length_cons, Option.getD]; omega) | (simp only [bsz, ByteArray.size_append, List.size_toArray, List.length_cons, List.length_nil]; omega) | exact ⟨⟨_, _, rfl, rfl, Nat.le_of_ble_eq_true rfl⟩, trivial⟩ | exact ⟨⟨_, _, rfl, rfl, Nat.le_of_ble_eq_true rfl⟩, ⟨_, _, rfl, rfl, Nat.le_of_ble_eq_true rfl⟩, trivial⟩ | exact ⟨⟨_, _, rfl, rfl, Nat.le_of_ble_eq_true rfl⟩, ⟨_, _, rfl, rfl, Nat.le_of_ble_eq_true rfl⟩, ⟨_, _, rfl, rfl, Nat.le_of_ble_eq_true rfl⟩, trivial⟩) ?_; conv => whnf) | (refine ifB_intro (fun hA => ?_) (fun hA => ?_) <;> (try rw [hA]) <;> (conv => whnf) <;> (first | replace hA := of_decide_eq_true hA | replace hA := of_decide_eq_false hA | replace hA := eq_of_beq hA | replace hA := ne_of_beq_false hA | replace hA := bne_iff_ne.1 hA | replace hA := bne_eq_false_iff_eq.1 hA | skip) <;> (try simp only [List.length_map, cond_true, cond_false, Bool.not_eq_true', Bool.not_eq_false', beq_iff_eq, beq_eq_false_iff_ne, ne_eq] at hA)) | (exfalso; omega) | (rw [getD_map _ _ _ _ (by assumption)]; conv => whnf))
  refine ⟨⟨[], ?_⟩⟩
  conv => whnf
  rw [show decide ((0 : Int) ≤ (i : Int)) = true from by simp, show decide ((i : Int) < 8) = true from by simp; omega]
  rfl
theorem eight {p : List Nat} (h : p.length = 8) : ∃ a0 a1 a2 a3 a4 a5 a6 a7, p = [a0, a1, a2, a3, a4, a5, a6, a7] := by
  match p, h with
  | [a0, a1, a2, a3, a4, a5, a6, a7], _ => exact ⟨a0, a1, a2, a3, a4, a5, a6, a7, rfl⟩
end Go.Ax

namespace Go.Ax
open Go.Proofs Go.RowKit Go.Shelf Go.Lib
set_option maxRecDepth 10000
theorem splitL_count (c : UInt8) : ∀ l : List UInt8, (splitL c l).length = l.count c + 1
  | [] => by simp [splitL]
  | b :: r => by
    have ih := splitL_count c r
    rw [splitL, List.count_cons]
    by_cases h : c = b
    · subst h; simp [ih]
    · rw [if_neg h]
      have h2 : ¬ (b == c) = true := by simpa using fun e => h e.symm
      cases hq : splitL c r with
      | nil => exact absurd hq (splitL_ne c r)
      | cons q qs => rw [hq] at ih; simp at ih h2 ⊢; simp [h2, ih]
theorem splitL_last {c : UInt8} {l x : List UInt8} (h : splitL c l = [x]) : x = l := by
  rcases index_one c l with ⟨_, h2⟩ | ⟨n, _, _, h3⟩
  · rw [h2] at h; injection h with h; exact h.symm
  · rw [h3] at h; injection h with _ h; exact absurd h (splitL_ne c _)
theorem splitL_first {c : UInt8} {l x y : List UInt8} {r : List (List UInt8)} (h : splitL c l = x :: y :: r) : ∃ n : Nat, Lib.indexByte l c = (n : Int) ∧ n < l.length ∧ x = l.take n ∧ splitL c (l.drop (n + 1)) = y :: r := by
  rcases index_one c l with ⟨h1, h2⟩ | ⟨n, h1, h2, h3⟩ <;> rw [Go.Lib.index_one] at h1
  · rw [h2] at h; injection h with _ h; simp at h
  · rw [h3] at h; injection h with h4 h5; exact ⟨n, h1, h2, h4.symm, h5⟩
theorem count1_ctr (g : GP) (s : ByteArray) (c : UInt8) : Ctr (ax g).E 180 [.str s, .str ⟨#[c]⟩] [] fun o => o = .ret (.i64 ((s.data.toList.count c : Nat) : Int)) [] :=
  Ctr.ofVal (E := (ax g).E) (f := 180) (xs := [.string s, .string ⟨#[c]⟩]) ⟨_, Tryz.func180, rfl, by decide +kernel⟩ rfl fun w _ => (Tryz.strings_Count_one s c w).mono fun e w' ⟨h1, h2⟩ => ⟨h1, by rw [h2]; exact Below.refl _ _⟩
def zeroS : List D := [.v (.string ⟨#[]⟩)]
theorem rep_set (a : List (List D)) (n : Nat) (z x : List D) (i : Nat) (hi : a.length = i) (hn : 0 < n) : (a ++ List.replicate n z).set i x = (a ++ [x]) ++ List.replicate (n - 1) z := by
  subst hi
  obtain ⟨m, rfl⟩ : ∃ m, n = m + 1 := ⟨n - 1, by omega⟩
  rw [List.set_append_right _ _ (Nat.le_refl _), Nat.sub_self, List.replicate_succ, List.set_cons_zero]
  simp
theorem gensplit_ctr (g : GP) (s : ByteArray) (c : UInt8) (hs : s.size < 2 ^ 40) :
    Ctr (ax g).E 137 [.str s, .str ⟨#[c]⟩, .i64 0, .i64 (-1)] [] (fun o => o = .ret (.msl 31 (splitL c s.data.toList).length 0 (splitL c s.data.toList).length) [(31, some (.buf 1 9 ((splitL c s.data.toList).map rowW)))]) := by
  have hc := count1_ctr g s c
  have hcl := splitL_count c s.data.toList
  have hsz : s.data.toList.length = s.size := by rw [Array.length_toList]; rfl
  have hcb : s.data.toList.count c ≤ s.size := by rw [← hsz]; exact List.count_le_length
  have hw1 : IntKind.i64.wrap (((s.data.toList.count c : Nat) : Int) + 1) = (((splitL c s.data.toList).length : Nat) : Int) := by rw [hcl, IntKind.wrap_i64]; omega
  have hw2 : IntKind.i64.wrap ((s.size : Int) + 1) = ((s.size + 1 : Nat) : Int) := by rw [IntKind.wrap_i64]; omega
  have hmin : (if ((s.size + 1 : Nat) : Int) < (((splitL c s.data.toList).length : Nat) : Int) then ((s.size + 1 : Nat) : Int) else (((splitL c s.data.toList).length : Nat) : Int)) = (((splitL c s.data.toList).length : Nat) : Int) := by rw [if_neg]; omega
  have hw3 : IntKind.i64.wrap ((((splitL c s.data.toList).length : Nat) : Int) - 1) = (((splitL c s.data.toList).length - 1 : Nat) : Int) := by rw [IntKind.wrap_i64]; omega
  have hb : (splitL c s.data.toList).length ≤ 2 ^ 40 := by omega
  have h1 : 1 ≤ (splitL c s.data.toList).length := by omega
  generalize hL : splitL c s.data.toList = L at *
  refine Ctr.body (X := ax g) _ 66 [] [.tmp 8] Tryz.func137 rfl rfl rfl rfl (by decide +kernel) rfl rfl ?_
  conv => whnf
  repeat' (first | (refine And.intro (by first | exact rfl | decide | exact Nat.le_of_ble_eq_true rfl | exact ⟨_, rfl⟩ | exact ⟨_, _, rfl⟩ | exact Nat.le_refl _ | exact Int.le_refl _ | omega | (simp only []; omega) | exact True.intro | (simp only [IntKind.wrap_i64, List.length_map]; omega) | (simp only [List.map_cons, List.map_nil, List.length_cons, Option.getD]; omega) | (simp only [bsz, ByteArray.size_append, List.size_toArray, List.length_cons, List.length_nil]; omega) | exact ⟨⟨_, _, rfl, rfl, Nat.le_of_ble_eq_true rfl⟩, trivial⟩ | exact ⟨⟨_, _, rfl, rfl, Nat.le_of_ble_eq_true rfl⟩, ⟨_, _, rfl, rfl, Nat.le_of_ble_eq_true rfl⟩, trivial⟩ | exact ⟨⟨_, _, rfl, rfl, Nat.le_of_ble_eq_true rfl⟩, ⟨_, _, rfl, rfl, Nat.le_of_ble_eq_true rfl⟩, ⟨_, _, rfl, rfl, Nat.le_of_ble_eq_true rfl⟩, trivial⟩) ?_; conv => whnf) | (refine ifB_intro (fun hA => ?_) (fun hA => ?_) <;> (try rw [hA]) <;> (conv => whnf) <;> (first | replace hA := of_decide_eq_true hA | replace hA := of_decide_eq_false hA | replace hA := eq_of_beq hA | replace hA := ne_of_beq_false hA | replace hA := bne_iff_ne.1 hA | replace hA := bne_eq_false_iff_eq.1 hA | skip) <;> (try simp only [List.length_map, cond_true, cond_false, Bool.not_eq_true', Bool.not_eq_false', beq_iff_eq, beq_eq_false_iff_ne, ne_eq] at hA)) | (exfalso; omega) | (refine CallP.det (hc) ?_; conv => whnf) | (refine CallD.det (hc) ?_; conv => whnf) | (rw [hw1]; conv => whnf) | (rw [hw2]; conv => whnf) | (rw [hmin]; conv => whnf) | (rw [hw3]; conv => whnf) | (rw [getD_map _ _ _ _ (by assumption)]; conv => whnf))
  refine LoopP.inv (X := ax g) (fun x : Nat × List UInt8 => { f := [(0, .str (baL x.2)), (1, .str ⟨#[c]⟩), (2, .i64 0), (3, .i64 ((L.length - 1 : Nat) : Int)), (9, .msl 31 L.length 0 L.length), (10, .i64 x.1)], h := [(31, some (.buf 1 9 ((L.take x.1).map rowW ++ List.replicate (L.length - x.1) zeroS)))] }) (fun x => x.1 < L.length ∧ splitL c x.2 = L.drop x.1 ∧ x.2.length < 2 ^ 40) (fun x => L.length - x.1) (0, s.data.toList) ⟨by show 0 < L.length; omega, by rw [hL]; rfl, by show s.data.toList.length < _; rw [hsz]; omega⟩ ⟨⟨by rw [ba_of]; rfl, rfl, rfl, rfl, by first | rfl | exact msl_eq (by simp), rfl, trivial⟩, ⟨fun o h => by rw [← h]; simp [zeroS]; first | done | rfl, trivial⟩⟩ fun ⟨i, t⟩ ⟨hi, hsp, htl⟩ => ?_
  dsimp only at hi hsp htl ⊢
  have hts := ba_size t
  have hel : ((L.take i).map rowW).length = i := by rw [List.length_map, List.length_take]; omega
  have hels : ((L.take i).map rowW ++ List.replicate (L.length - i) zeroS).length = L.length := by rw [List.length_append, hel, List.length_replicate]; omega
  have hset : ∀ x : List UInt8, ((L.take i).map rowW ++ List.replicate (L.length - i) zeroS).set i (rowW x) = ((L.take i).map rowW ++ [rowW x]) ++ List.replicate (L.length - (i + 1)) zeroS := fun x => by
    rw [rep_set _ _ _ _ _ hel (by omega)]; congr 1
  have hgz : ((L.take i).map rowW ++ List.replicate (L.length - i) zeroS).getD i [] = zeroS := by
    obtain ⟨m, hm⟩ : ∃ m, L.length - i = m + 1 := ⟨L.length - i - 1, by omega⟩
    rw [List.getD, List.getElem?_append_right (by rw [hel]; exact Nat.le_refl _), hel, Nat.sub_self, hm, List.replicate_succ]; rfl
  conv => whnf
  refine ifB_intro (fun h => ?_) (fun h => ?_)
  · have h : i < L.length - 1 := by first | (have h0 := of_decide_eq_true h; omega) | (have h0 := of_decide_eq_false h; omega) | (have h0 := h; simp at h0; omega) | (have h0 := h; simp at h0; exact h0)
    obtain ⟨x, y, r, hxy⟩ : ∃ x y r, L.drop i = x :: y :: r := by
      rw [List.drop_eq_getElem_cons hi, List.drop_eq_getElem_cons (by omega)]; exact ⟨_, _, _, rfl⟩
    rw [hxy] at hsp
    obtain ⟨n, e1, e2, e3, e4⟩ := splitL_first hsp
    have hix := index1_ctr g (baL t) c
    rw [ba_toList, e1] at hix
    have hxi : L.take (i + 1) = L.take i ++ [t.take n] := by
      have h2 : L[i] = x := by rw [List.drop_eq_getElem_cons hi] at hxy; injection hxy
      rw [List.take_succ_eq_append_getElem hi, h2, e3]
    have hdr : L.drop (i + 1) = y :: r := by
      rw [List.drop_eq_getElem_cons hi] at hxy; injection hxy
    have hw4 : IntKind.i64.wrap ((n : Int) + 0) = ((n : Nat) : Int) := by rw [IntKind.wrap_i64]; omega
    have hw5 : IntKind.i64.wrap ((n : Int) + ((⟨#[c]⟩ : ByteArray).size : Int)) = ((n + 1 : Nat) : Int) := by rw [show ((⟨#[c]⟩ : ByteArray).size : Int) = 1 from rfl, IntKind.wrap_i64]; omega
    have x1 : (baL t).extract ((none : Option Int).getD 0).toNat ((some (n : Int)).getD (((baL t).size : Nat) : Int)).toNat = baL (t.take n) := by rw [← ba_toList t, ← sub_take (by rw [hts]; omega), ba_toList]; rfl
    have x2 : (baL t).extract ((some (((n + 1 : Nat) : Int))).getD 0).toNat ((none : Option Int).getD (((baL t).size : Nat) : Int)).toNat = baL (t.drop (n + 1)) := by rw [← ba_toList t, ← sub_drop, ba_toList]; rfl
    conv => whnf
    repeat' (first | (refine And.intro (by first | exact rfl | decide | exact Nat.le_of_ble_eq_true rfl | exact ⟨_, rfl⟩ | exact ⟨_, _, rfl⟩ | exact Nat.le_refl _ | exact Int.le_refl _ | omega | (simp only [List.length_map]; omega) | exact True.intro | (simp only [IntKind.wrap_i64]; omega) | (simp only [Option.getD]; omega) | (simp only [bsz, ByteArray.size_append, List.size_toArray, List.length_cons, List.length_nil]; omega) | exact ⟨⟨_, _, rfl, rfl, Nat.le_of_ble_eq_true rfl⟩, trivial⟩ | exact ⟨⟨_, _, rfl, rfl, Nat.le_of_ble_eq_true rfl⟩, ⟨_, _, rfl, rfl, Nat.le_of_ble_eq_true rfl⟩, trivial⟩ | exact ⟨⟨_, _, rfl, rfl, Nat.le_of_ble_eq_true rfl⟩, ⟨_, _, rfl, rfl, Nat.le_of_ble_eq_true rfl⟩, ⟨_, _, rfl, rfl, Nat.le_of_ble_eq_true rfl⟩, trivial⟩) ?_; conv => whnf) | (refine ifB_intro (fun hA => ?_) (fun hA => ?_) <;> (try rw [hA]) <;> (conv => whnf) <;> (first | replace hA := of_decide_eq_true hA | replace hA := of_decide_eq_false hA | replace hA := eq_of_beq hA | replace hA := ne_of_beq_false hA | replace hA := bne_iff_ne.1 hA | replace hA := bne_eq_false_iff_eq.1 hA | skip) <;> (try simp only [List.length_map, cond_true, cond_false, Bool.not_eq_true', Bool.not_eq_false', beq_iff_eq, beq_eq_false_iff_ne, ne_eq] at hA)) | (refine CallP.det (hix) ?_; conv => whnf) | (refine CallD.det (hix) ?_; conv => whnf) | (exfalso; omega) | (rw [hw4]; conv => whnf) | (rw [hw5]; conv => whnf) | (rw [getD_map _ _ _ _ (by assumption)]; conv => whnf))
    refine ⟨(i + 1, t.drop (n + 1)), ⟨by show i + 1 < _; omega, by rw [e4]; exact hdr.symm, by show (t.drop (n + 1)).length < _; rw [List.length_drop]; omega⟩, by show L.length - (i + 1) < _; omega, ⟨⟨by rw [x2]; rfl, rfl, rfl, rfl, rfl, AV.int_eq (i64_succ (by omega)), trivial⟩, ⟨fun o h => ?_, trivial⟩⟩⟩
    rw [← h]
    show some (AObj.buf 1 9 (List.set _ (0 + ((i : Nat) : Int).toNat) (splice (List.getD _ (0 + ((i : Nat) : Int).toNat) []) [D.v (.string ((baL t).extract ((none : Option Int).getD 0).toNat ((some (n : Int)).getD (((baL t).size : Nat) : Int)).toNat))] 0))) = _
    rw [show 0 + ((i : Nat) : Int).toNat = i from by omega, hgz, x1]
    show some (AObj.buf 1 9 (List.set _ i (rowW (t.take n)))) = _
    rw [hset, hxi, List.map_append]
    rfl
  · have h : ¬ i < L.length - 1 := by first | (have h0 := of_decide_eq_true h; omega) | (have h0 := of_decide_eq_false h; omega) | (have h0 := h; simp at h0; omega) | (have h0 := h; simp at h0; exact h0)
    have hie : i = L.length - 1 := by omega
    have hd1 : L.drop i = [L[i]] := by rw [List.drop_eq_getElem_cons hi, List.drop_eq_nil_of_le (by omega)]
    rw [hd1] at hsp
    have ht := splitL_last hsp
    have hxi : L = L.take i ++ [t] := by
      rw [← ht, ← List.take_succ_eq_append_getElem hi, List.take_of_length_le (by omega)]
    have hw6 : IntKind.i64.wrap ((i : Int) + 1) = ((L.length : Nat) : Int) := by rw [IntKind.wrap_i64]; omega
    conv => whnf
    repeat' (first | (refine And.intro (by first | exact rfl | decide | exact Nat.le_of_ble_eq_true rfl | exact ⟨_, rfl⟩ | exact ⟨_, _, rfl⟩ | exact Nat.le_refl _ | exact Int.le_refl _ | omega | (simp only [List.length_map]; omega) | exact True.intro | (simp only [IntKind.wrap_i64, List.length_map]; omega) | (simp only [Option.getD]; omega) | (simp only [bsz, ByteArray.size_append, List.size_toArray, List.length_cons, List.length_nil]; omega) | exact ⟨⟨_, _, rfl, rfl, Nat.le_of_ble_eq_true rfl⟩, trivial⟩ | exact ⟨⟨_, _, rfl, rfl, Nat.le_of_ble_eq_true rfl⟩, ⟨_, _, rfl, rfl, Nat.le_of_ble_eq_true rfl⟩, trivial⟩ | exact ⟨⟨_, _, rfl, rfl, Nat.le_of_ble_eq_true rfl⟩, ⟨_, _, rfl, rfl, Nat.le_of_ble_eq_true rfl⟩, ⟨_, _, rfl, rfl, Nat.le_of_ble_eq_true rfl⟩, trivial⟩) ?_; conv => whnf) | (refine ifB_intro (fun hA => ?_) (fun hA => ?_) <;> (try rw [hA]) <;> (conv => whnf) <;> (first | replace hA := of_decide_eq_true hA | replace hA := of_decide_eq_false hA | replace hA := eq_of_beq hA | replace hA := ne_of_beq_false hA | replace hA := bne_iff_ne.1 hA | replace hA := bne_eq_false_iff_eq.1 hA | skip) <;> (try simp only [List.length_map, cond_true, cond_false, Bool.not_eq_true', Bool.not_eq_false', beq_iff_eq, beq_eq_false_iff_ne, ne_eq] at hA)) | (rw [hw6]; conv => whnf) | (rw [List.length_set, hels]; conv => whnf) | (rw [getD_map _ _ _ _ (by assumption)]; conv => whnf))
    have hfin : ((L.take i).map rowW ++ List.replicate (L.length - i) zeroS).set (0 + ((i : Nat) : Int).toNat) (splice (((L.take i).map rowW ++ List.replicate (L.length - i) zeroS).getD (0 + ((i : Nat) : Int).toNat) []) [D.v (.string (baL t))] 0) = L.map rowW := by
      rw [show 0 + ((i : Nat) : Int).toNat = i from by omega, hgz]
      show List.set _ i (rowW t) = _
      rw [hset, show L.length - (i + 1) = 0 from by omega, List.replicate_zero, List.append_nil]
      conv => rhs; rw [hxi, List.map_append]
      rfl
    rw [hfin]
    refine ⟨⟨[(31, some (.buf 1 9 (L.map rowW)))], ?_⟩⟩
    conv => whnf
    refine And.intro ⟨fun o h => h, trivial⟩ ?_
    conv => whnf
    rfl
theorem ssplit_ctr (g : GP) (s : ByteArray) (c : UInt8) (hs : s.size < 2 ^ 40) :
    Ctr (ax g).E 78 [.str s, .str ⟨#[c]⟩] [] (fun o => o = .ret (.msl 9400 (splitL c s.data.toList).length 0 (splitL c s.data.toList).length) [(9400, some (.buf 1 9 ((splitL c s.data.toList).map rowW)))]) := by
  have h := (gensplit_ctr g s c hs).swap 31 9400
  generalize splitL c s.data.toList = L at *
  refine Ctr.body (X := ax g) _ 8 [] [.tmp 4] Tryz.func78 rfl rfl rfl rfl (by decide +kernel) rfl rfl ?_
  conv => whnf
  refine CallP.makes rfl h ?_
  conv => whnf
  refine ⟨⟨[(9400, some (.buf 1 9 (L.map rowW)))], ?_⟩⟩
  conv => whnf
  exact And.intro ⟨fun o h => h, trivial⟩ rfl
def findS (q : List UInt8 → Bool) : List (List UInt8) → Nat → Int
  | [], _ => -1
  | p :: l, i => if q p then i else findS q l (i + 1)
theorem findS_drop (q : List UInt8 → Bool) (l : List (List UInt8)) (i : Nat) (h : i < l.length) : findS q (l.drop i) i = if q l[i] then (i : Int) else findS q (l.drop (i + 1)) (i + 1) := by
  rw [List.drop_eq_getElem_cons h]; rfl
theorem findS_spec (q : List UInt8 → Bool) : ∀ (l : List (List UInt8)) (i : Nat), (findS q l i = -1 ∧ ∀ x ∈ l, q x = false) ∨ ∃ k : Nat, k < l.length ∧ findS q l i = ((i + k : Nat) : Int) ∧ (∀ h : k < l.length, q l[k] = true) ∧ ∀ x ∈ l.take k, q x = false
  | [], i => .inl ⟨rfl, by simp⟩
  | p :: l, i => by
    rw [findS]
    by_cases h : q p = true
    · rw [if_pos h]
      exact .inr ⟨0, by simp, rfl, fun _ => h, by simp⟩
    · rw [if_neg h]
      have h : q p = false := by simpa using h
      rcases findS_spec q l (i + 1) with ⟨h1, h2⟩ | ⟨k, h1, h2, h3, h4⟩
      · exact .inl ⟨h1, fun x hx => by rcases List.mem_cons.1 hx with rfl | hx; exact h; exact h2 x hx⟩
      · refine .inr ⟨k + 1, by simp; omega, by rw [h2]; congr 1; omega, fun hk => h3 (by omega), fun x hx => ?_⟩
        rw [List.take_succ_cons] at hx
        rcases List.mem_cons.1 hx with rfl | hx
        · exact h
        · exact h4 x hx
theorem indexS_ctr (g : GP) (fn : Nat) (q : List UInt8 → Bool) (l : List (List UInt8)) (hl : l.length < 2 ^ 62) (hq : ∀ x ∈ l, Ctr (ax g).E fn [.str (baL x)] [] (fun o => o = .ret (.bool (q x)) [])) :
    Ctr (ax g).E 175 [.msl 9400 l.length 0 l.length, .clo (.func fn) [] []] [(9400, some (.buf 1 9 (l.map rowW)))] (fun o => o = .ret (.i64 (findS q l 0)) [(9400, some (.buf 1 9 (l.map rowW)))]) := by
  refine Ctr.body (X := ax g) _ 19 [9400] [.tmp 4] Tryz.func175 rfl rfl rfl rfl (by decide +kernel) rfl rfl ?_
  conv => whnf
  repeat' (first | (refine And.intro (by first | exact rfl | decide | exact Nat.le_of_ble_eq_true rfl | exact ⟨_, rfl⟩ | exact ⟨_, _, rfl⟩ | exact Nat.le_refl _ | exact Int.le_refl _ | omega | (simp only [List.length_map]; omega) | exact True.intro | (simp only [List.length_map]; omega) | (simp only [List.map_cons, List.map_nil, List.length_cons, Option.getD]; omega) | (simp only [bsz, ByteArray.size_append, List.size_toArray, List.length_cons, List.length_nil]; omega) | exact ⟨⟨_, _, rfl, rfl, Nat.le_of_ble_eq_true rfl⟩, trivial⟩ | exact ⟨⟨_, _, rfl, rfl, Nat.le_of_ble_eq_true rfl⟩, ⟨_, _, rfl, rfl, Nat.le_of_ble_eq_true rfl⟩, trivial⟩ | exact ⟨⟨_, _, rfl, rfl, Nat.le_of_ble_eq_true rfl⟩, ⟨_, _, rfl, rfl, Nat.le_of_ble_eq_true rfl⟩, ⟨_, _, rfl, rfl, Nat.le_of_ble_eq_true rfl⟩, trivial⟩) ?_; conv => whnf) | (refine ifB_intro (fun hA => ?_) (fun hA => ?_) <;> (try rw [hA]) <;> (conv => whnf) <;> (first | replace hA := of_decide_eq_true hA | replace hA := of_decide_eq_false hA | replace hA := eq_of_beq hA | replace hA := ne_of_beq_false hA | replace hA := bne_iff_ne.1 hA | replace hA := bne_eq_false_iff_eq.1 hA | skip) <;> (try simp only [List.length_map, cond_true, cond_false, Bool.not_eq_true', Bool.not_eq_false', beq_iff_eq, beq_eq_false_iff_ne, ne_eq] at hA)) | (refine And.intro (List.length_map _).symm ?_; conv => whnf) | (rw [getD_map _ _ _ _ (by assumption)]; conv => whnf))
  refine LoopP.inv (X := ax g) (fun i : Nat => { f := [(0, .msl 9400 l.length 0 l.length), (1, .clo (.func fn) [] []), (4, .i64 0), (7, .i64 l.length), (8, .i64 i)], h := [(9400, some (.buf 1 9 (l.map rowW)))] }) (fun i => i ≤ l.length ∧ findS q l 0 = findS q (l.drop i) i) (fun i => l.length - i) 0 ⟨Nat.zero_le _, rfl⟩ ⟨⟨rfl, rfl, rfl, rfl, rfl, trivial⟩, ⟨fun o h => h, trivial⟩⟩ fun i ⟨hi, he⟩ => ?_
  conv => whnf
  refine ifB_intro (fun h2 => ?_) (fun h2 => ?_)
  · have hlt : i < l.length := by simpa using h2
    have hd := findS_drop q l i hlt
    have hc := hq l[i] (List.getElem_mem hlt)
    conv => whnf
    repeat' (first | (refine And.intro (by first | exact rfl | decide | exact Nat.le_of_ble_eq_true rfl | exact ⟨_, rfl⟩ | exact ⟨_, _, rfl⟩ | exact Nat.le_refl _ | exact Int.le_refl _ | omega | (simp only [List.length_map]; omega) | exact True.intro | (simp only [List.length_map]; omega) | (simp only [List.map_cons, List.map_nil, List.length_cons, Option.getD]; omega) | (simp only [bsz, ByteArray.size_append, List.size_toArray, List.length_cons, List.length_nil]; omega) | exact ⟨⟨_, _, rfl, rfl, Nat.le_of_ble_eq_true rfl⟩, trivial⟩ | exact ⟨⟨_, _, rfl, rfl, Nat.le_of_ble_eq_true rfl⟩, ⟨_, _, rfl, rfl, Nat.le_of_ble_eq_true rfl⟩, trivial⟩ | exact ⟨⟨_, _, rfl, rfl, Nat.le_of_ble_eq_true rfl⟩, ⟨_, _, rfl, rfl, Nat.le_of_ble_eq_true rfl⟩, ⟨_, _, rfl, rfl, Nat.le_of_ble_eq_true rfl⟩, trivial⟩) ?_; conv => whnf) | (refine ifB_intro (fun hA => ?_) (fun hA => ?_) <;> (try rw [hA]) <;> (conv => whnf) <;> (first | replace hA := of_decide_eq_true hA | replace hA := of_decide_eq_false hA | replace hA := eq_of_beq hA | replace hA := ne_of_beq_false hA | replace hA := bne_iff_ne.1 hA | replace hA := bne_eq_false_iff_eq.1 hA | skip) <;> (try simp only [List.length_map, cond_true, cond_false, Bool.not_eq_true', Bool.not_eq_false', beq_iff_eq, beq_eq_false_iff_ne, ne_eq] at hA)) | (erw [getD_map0 rowW l i [] hlt]; conv => whnf) | (refine And.intro (List.length_map _).symm ?_; conv => whnf) | (rw [getD_map _ _ _ _ (by assumption)]; conv => whnf))
    refine CallP.det hc ?_
    conv => whnf
    refine ifB_intro (fun h3 => ?_) (fun h3 => ?_)
    · have h3 : q l[i] = true := h3
      rw [h3, if_pos rfl] at hd
      conv => whnf
      refine ⟨⟨[(9400, some (.buf 1 9 (l.map rowW)))], ?_⟩⟩
      conv => whnf
      refine And.intro ⟨fun o h => h, trivial⟩ ?_
      conv => whnf
      rw [he, hd]
    · have h3 : q l[i] = false := h3
      rw [h3] at hd
      conv => whnf
      exact ⟨i + 1, ⟨by omega, by rw [he, hd]; rfl⟩, by omega, ⟨⟨rfl, rfl, rfl, rfl, AV.int_eq (i64_succ (by omega)), trivial⟩, ⟨fun o h => h, trivial⟩⟩⟩
  · have hge : l.length ≤ i := by simpa using h2
    conv => whnf
    refine ⟨⟨[(9400, some (.buf 1 9 (l.map rowW)))], ?_⟩⟩
    conv => whnf
    refine And.intro ⟨fun o h => h, trivial⟩ ?_
    conv => whnf
    rw [he, List.drop_eq_nil_of_le hge]; rfl
def keptS (q : List UInt8 → Bool) (l : List (List UInt8)) : List (List UInt8) := l.filter fun x => !q x
theorem keptS_all {q : List UInt8 → Bool} {l : List (List UInt8)} (h : ∀ x ∈ l, q x = false) : keptS q l = l := by
  rw [keptS, List.filter_eq_self]
  intro x hx
  rw [h x hx]; rfl
theorem keptS_next (q : List UInt8 → Bool) (l : List (List UInt8)) (i : Nat) (h : i < l.length) : keptS q (l.take (i + 1)) = if q l[i] then keptS q (l.take i) else keptS q (l.take i) ++ [l[i]] := by
  rw [List.take_succ_eq_append_getElem h, keptS, List.filter_append]
  cases hq : q l[i] <;> simp [keptS, hq]
theorem keptS_len (q : List UInt8 → Bool) (l : List (List UInt8)) (i : Nat) : (keptS q (l.take i)).length ≤ i := by
  have := List.length_filter_le (fun x => !q x) (l.take i)
  rw [List.length_take] at this
  unfold keptS; omega
def delS (q : List UInt8 → Bool) (l : List (List UInt8)) (j : Nat) : List (List UInt8) := keptS q (l.take j) ++ l.drop (keptS q (l.take j)).length
theorem delS_len (q : List UInt8 → Bool) (l : List (List UInt8)) (j : Nat) (h : j ≤ l.length) : (delS q l j).length = l.length := by
  have := keptS_len q l j
  rw [delS, List.length_append, List.length_drop]; omega
theorem delS_get (q : List UInt8 → Bool) (l : List (List UInt8)) (j : Nat) (h : j < l.length) : ∃ h2 : j < (delS q l j).length, (delS q l j)[j] = l[j] := by
  have hk := keptS_len q l j
  refine ⟨by rw [delS_len q l j (by omega)]; exact h, ?_⟩
  unfold delS
  rw [List.getElem_append_right hk, List.getElem_drop]
  congr 1; omega
theorem delS_drop (q : List UInt8 → Bool) (l : List (List UInt8)) (j : Nat) (h : j < l.length) (hq : q l[j] = true) : delS q l (j + 1) = delS q l j := by
  unfold delS; rw [keptS_next q l j h, if_pos hq]
theorem delS_keep (q : List UInt8 → Bool) (l : List (List UInt8)) (j : Nat) (h : j < l.length) (hq : q l[j] = false) : delS q l (j + 1) = (delS q l j).set (keptS q (l.take j)).length l[j] := by
  have hk := keptS_len q l j
  unfold delS; rw [keptS_next q l j h, if_neg (by rw [hq]; simp)]
  rw [List.set_append_right _ _ (Nat.le_refl _), Nat.sub_self, List.length_append, List.length_singleton, List.append_assoc]
  congr 1
  rw [List.drop_eq_getElem_cons (show (keptS q (l.take j)).length < l.length by omega), List.set_cons_zero]; rfl
theorem deleteS_ctr (g : GP) (fn : Nat) (q : List UInt8 → Bool) (l : List (List UInt8)) (hl : l.length < 2 ^ 62) (hq : ∀ x ∈ l, Ctr (ax g).E fn [.str (baL x)] [] (fun o => o = .ret (.bool (q x)) [])) :
    Ctr (ax g).E 126 [.msl 9400 l.length 0 l.length, .clo (.func fn) [] []] [(9400, some (.buf 1 9 (l.map rowW)))] (fun o => o = .ret (.msl 9400 l.length 0 (keptS q l).length) [(9400, some (.buf 1 9 ((keptS q l).map rowW ++ List.replicate (l.length - (keptS q l).length) zeroS)))]) := by
  have hix := indexS_ctr g fn q l hl hq
  have hfull := keptS_len q l l.length
  rw [List.take_length] at hfull
  refine Ctr.body (X := ax g) _ 42 [9400] [.tmp 4] Tryz.func126 rfl rfl rfl rfl (by decide +kernel) rfl rfl ?_
  conv => whnf
  rcases findS_spec q l 0 with ⟨h1, h2⟩ | ⟨k, h1, h2, h3, h4⟩
  · rw [h1] at hix
    have hka := keptS_all h2
    repeat' (first | (refine And.intro (by first | exact rfl | decide | exact Nat.le_of_ble_eq_true rfl | exact ⟨_, rfl⟩ | exact ⟨_, _, rfl⟩ | exact Nat.le_refl _ | exact Int.le_refl _ | omega | (simp only [List.length_map]; omega) | exact True.intro | (simp only [IntKind.wrap_i64, List.length_map]; omega) | (simp only [List.map_cons, List.map_nil, List.length_cons, Option.getD]; omega) | (simp only [bsz, ByteArray.size_append, List.size_toArray, List.length_cons, List.length_nil]; omega) | exact ⟨⟨_, _, rfl, rfl, Nat.le_of_ble_eq_true rfl⟩, trivial⟩ | exact ⟨⟨_, _, rfl, rfl, Nat.le_of_ble_eq_true rfl⟩, ⟨_, _, rfl, rfl, Nat.le_of_ble_eq_true rfl⟩, trivial⟩ | exact ⟨⟨_, _, rfl, rfl, Nat.le_of_ble_eq_true rfl⟩, ⟨_, _, rfl, rfl, Nat.le_of_ble_eq_true rfl⟩, ⟨_, _, rfl, rfl, Nat.le_of_ble_eq_true rfl⟩, trivial⟩) ?_; conv => whnf) | (refine ifB_intro (fun hA => ?_) (fun hA => ?_) <;> (try rw [hA]) <;> (conv => whnf) <;> (first | replace hA := of_decide_eq_true hA | replace hA := of_decide_eq_false hA | replace hA := eq_of_beq hA | replace hA := ne_of_beq_false hA | replace hA := bne_iff_ne.1 hA | replace hA := bne_eq_false_iff_eq.1 hA | skip) <;> (try simp only [List.length_map, cond_true, cond_false, Bool.not_eq_true', Bool.not_eq_false', beq_iff_eq, beq_eq_false_iff_ne, ne_eq] at hA)) | (refine CallP.upd rfl (hix) ?_; conv => whnf) | (refine CallD.upd rfl (hix) ?_; conv => whnf) | (rw [getD_map _ _ _ _ (by assumption)]; conv => whnf))
    rw [hka]
    refine ⟨⟨[(9400, some (.buf 1 9 (l.map rowW ++ List.replicate (l.length - l.length) zeroS)))], ?_⟩⟩
    conv => whnf
    exact And.intro ⟨fun o h => by rw [← h]; simp; rfl, trivial⟩ rfl
  · have hq1 := h3 h1
    rw [Nat.zero_add] at h2
    rw [h2] at hix
    have hk0 : keptS q (l.take k) = l.take k := keptS_all h4
    have hkn : keptS q (l.take (k + 1)) = l.take k := by rw [keptS_next q l k h1, if_pos hq1, hk0]
    have hd0 : delS q l (k + 1) = l := by rw [delS, hkn, List.length_take, Nat.min_eq_left (by omega), List.take_append_drop]
    have hw1 : IntKind.i64.wrap ((k : Int) + 1) = ((k + 1 : Nat) : Int) := i64_succ (by omega)
    repeat' (first | (refine And.intro (by first | exact rfl | decide | exact Nat.le_of_ble_eq_true rfl | exact ⟨_, rfl⟩ | exact ⟨_, _, rfl⟩ | exact Nat.le_refl _ | exact Int.le_refl _ | omega | (simp only [List.length_map]; omega) | exact True.intro | (simp only [IntKind.wrap_i64, List.length_map]; omega) | (simp only [List.map_cons, List.map_nil, List.length_cons, Option.getD]; omega) | (simp only [bsz, ByteArray.size_append, List.size_toArray, List.length_cons, List.length_nil]; omega) | exact ⟨⟨_, _, rfl, rfl, Nat.le_of_ble_eq_true rfl⟩, trivial⟩ | exact ⟨⟨_, _, rfl, rfl, Nat.le_of_ble_eq_true rfl⟩, ⟨_, _, rfl, rfl, Nat.le_of_ble_eq_true rfl⟩, trivial⟩ | exact ⟨⟨_, _, rfl, rfl, Nat.le_of_ble_eq_true rfl⟩, ⟨_, _, rfl, rfl, Nat.le_of_ble_eq_true rfl⟩, ⟨_, _, rfl, rfl, Nat.le_of_ble_eq_true rfl⟩, trivial⟩) ?_; conv => whnf) | (refine ifB_intro (fun hA => ?_) (fun hA => ?_) <;> (try rw [hA]) <;> (conv => whnf) <;> (first | replace hA := of_decide_eq_true hA | replace hA := of_decide_eq_false hA | replace hA := eq_of_beq hA | replace hA := ne_of_beq_false hA | replace hA := bne_iff_ne.1 hA | replace hA := bne_eq_false_iff_eq.1 hA | skip) <;> (try simp only [List.length_map, cond_true, cond_false, Bool.not_eq_true', Bool.not_eq_false', beq_iff_eq, beq_eq_false_iff_ne, ne_eq] at hA)) | (refine CallP.upd rfl (hix) ?_; conv => whnf) | (refine CallD.upd rfl (hix) ?_; conv => whnf) | (exfalso; omega) | (rw [hw1]; conv => whnf) | (rw [getD_map _ _ _ _ (by assumption)]; conv => whnf))
    refine LoopP.inv (X := ax g) (fun j : Nat => { f := [(0, .msl 9400 l.length 0 l.length), (1, .clo (.func fn) [] []), (4, .d (.v (.slice none 0 0))), (5, .i64 (keptS q (l.take j)).length), (6, .i64 j)], h := [(9400, some (.buf 1 9 ((delS q l j).map rowW)))] }) (fun j => j ≤ l.length) (fun j => l.length - j) (k + 1) (by omega) ⟨⟨rfl, rfl, rfl, by rw [hkn, List.length_take, Nat.min_eq_left (by omega)]; rfl, rfl, trivial⟩, ⟨fun o h => by rw [hd0] at h; exact h, trivial⟩⟩ fun j hj => ?_
    have hdl := delS_len q l j hj
    have hkl := keptS_len q l j
    have hdl2 : ((delS q l j).map rowW).length = l.length := by rw [List.length_map, hdl]
    conv => whnf
    repeat' (first | (refine And.intro (by first | exact rfl | decide | exact Nat.le_of_ble_eq_true rfl | exact ⟨_, rfl⟩ | exact ⟨_, _, rfl⟩ | exact Nat.le_refl _ | exact Int.le_refl _ | omega | (simp only [List.length_map]; omega) | exact True.intro | (simp only [List.length_map]; omega) | (simp only [List.map_cons, List.map_nil, Option.getD]; omega) | (simp only []; omega) | exact ⟨⟨_, _, rfl, rfl, Nat.le_of_ble_eq_true rfl⟩, trivial⟩ | exact ⟨⟨_, _, rfl, rfl, Nat.le_of_ble_eq_true rfl⟩, ⟨_, _, rfl, rfl, Nat.le_of_ble_eq_true rfl⟩, trivial⟩ | exact ⟨⟨_, _, rfl, rfl, Nat.le_of_ble_eq_true rfl⟩, ⟨_, _, rfl, rfl, Nat.le_of_ble_eq_true rfl⟩, ⟨_, _, rfl, rfl, Nat.le_of_ble_eq_true rfl⟩, trivial⟩) ?_; conv => whnf) | (refine ifB_intro (fun hA => ?_) (fun hA => ?_) <;> (try rw [hA]) <;> (conv => whnf) <;> (first | replace hA := of_decide_eq_true hA | replace hA := of_decide_eq_false hA | replace hA := eq_of_beq hA | replace hA := ne_of_beq_false hA | replace hA := bne_iff_ne.1 hA | replace hA := bne_eq_false_iff_eq.1 hA | skip) <;> (try simp only [List.length_map, cond_true, cond_false, Bool.not_eq_true', Bool.not_eq_false', beq_iff_eq, beq_eq_false_iff_ne, ne_eq] at hA)) | (refine And.intro hdl2.symm ?_; conv => whnf) | (rw [getD_map _ _ _ _ (by assumption)]; conv => whnf))
    · have hlt : j < l.length := by omega
      obtain ⟨hj2, hge⟩ := delS_get q l j hlt
      have hc := hq l[j] (List.getElem_mem hlt)
      have hdd := delS_drop q l j hlt
      have hdk := delS_keep q l j hlt
      have hkx := keptS_next q l j hlt
      repeat' (first | (refine And.intro (by first | exact rfl | decide | exact Nat.le_of_ble_eq_true rfl | exact ⟨_, rfl⟩ | exact ⟨_, _, rfl⟩ | exact Nat.le_refl _ | exact Int.le_refl _ | omega | (simp only []; omega) | exact True.intro | (simp only []; omega) | (simp only []; omega) | (simp only []; omega) | exact ⟨⟨_, _, rfl, rfl, Nat.le_of_ble_eq_true rfl⟩, trivial⟩ | exact ⟨⟨_, _, rfl, rfl, Nat.le_of_ble_eq_true rfl⟩, ⟨_, _, rfl, rfl, Nat.le_of_ble_eq_true rfl⟩, trivial⟩ | exact ⟨⟨_, _, rfl, rfl, Nat.le_of_ble_eq_true rfl⟩, ⟨_, _, rfl, rfl, Nat.le_of_ble_eq_true rfl⟩, ⟨_, _, rfl, rfl, Nat.le_of_ble_eq_true rfl⟩, trivial⟩) ?_; conv => whnf) | (refine ifB_intro (fun hA => ?_) (fun hA => ?_) <;> (try rw [hA]) <;> (conv => whnf) <;> (first | replace hA := of_decide_eq_true hA | replace hA := of_decide_eq_false hA | replace hA := eq_of_beq hA | replace hA := ne_of_beq_false hA | replace hA := bne_iff_ne.1 hA | replace hA := bne_eq_false_iff_eq.1 hA | skip) <;> (try simp only [List.length_map, cond_true, cond_false, Bool.not_eq_true', Bool.not_eq_false', beq_iff_eq, beq_eq_false_iff_ne, ne_eq] at hA)) | (erw [getD_map0 rowW (delS q l j) j [] hj2, hge]; conv => whnf) | (rw [getD_map _ _ _ _ (by assumption)]; conv => whnf))
      refine CallP.det hc ?_
      conv => whnf
      refine ifB_intro (fun h5 => ?_) (fun h5 => ?_)
      · have h5 : q l[j] = false := by simpa using h5
        rw [h5, if_neg (by simp)] at hkx
        have hkx2 : (keptS q (l.take (j + 1))).length = (keptS q (l.take j)).length + 1 := by rw [hkx, List.length_append]; rfl
        have hw2 : IntKind.i64.wrap (((keptS q (l.take j)).length : Int) + 1) = (((keptS q (l.take (j + 1))).length : Nat) : Int) := by rw [hkx2]; exact i64_succ (by omega)
        have hgz : ∃ x, ((delS q l j).map rowW).getD (keptS q (l.take j)).length [] = rowW x := by
          have : (keptS q (l.take j)).length < (delS q l j).length := by omega
          exact ⟨(delS q l j)[(keptS q (l.take j)).length], by rw [List.getD, List.getElem?_map, List.getElem?_eq_getElem this]; rfl⟩
        obtain ⟨x0, hgz⟩ := hgz
        conv => whnf
        repeat' (first | (refine And.intro (by first | exact rfl | decide | exact Nat.le_of_ble_eq_true rfl | exact ⟨_, rfl⟩ | exact ⟨_, _, rfl⟩ | exact Nat.le_refl _ | exact Int.le_refl _ | omega | (simp only [List.length_map]; omega) | exact True.intro | (simp only [IntKind.wrap_i64, List.length_map]; omega) | (simp only [List.map_cons, List.map_nil, List.length_cons, Option.getD]; omega) | (simp only [bsz, ByteArray.size_append, List.size_toArray, List.length_cons, List.length_nil]; omega) | exact ⟨⟨_, _, rfl, rfl, Nat.le_of_ble_eq_true rfl⟩, trivial⟩ | exact ⟨⟨_, _, rfl, rfl, Nat.le_of_ble_eq_true rfl⟩, ⟨_, _, rfl, rfl, Nat.le_of_ble_eq_true rfl⟩, trivial⟩ | exact ⟨⟨_, _, rfl, rfl, Nat.le_of_ble_eq_true rfl⟩, ⟨_, _, rfl, rfl, Nat.le_of_ble_eq_true rfl⟩, ⟨_, _, rfl, rfl, Nat.le_of_ble_eq_true rfl⟩, trivial⟩) ?_; conv => whnf) | (refine ifB_intro (fun hA => ?_) (fun hA => ?_) <;> (try rw [hA]) <;> (conv => whnf) <;> (first | replace hA := of_decide_eq_true hA | replace hA := of_decide_eq_false hA | replace hA := eq_of_beq hA | replace hA := ne_of_beq_false hA | replace hA := bne_iff_ne.1 hA | replace hA := bne_eq_false_iff_eq.1 hA | skip) <;> (try simp only [List.length_map, cond_true, cond_false, Bool.not_eq_true', Bool.not_eq_false', beq_iff_eq, beq_eq_false_iff_ne, ne_eq] at hA)) | (rw [hw2]; conv => whnf) | (rw [getD_map _ _ _ _ (by assumption)]; conv => whnf))
        refine ⟨j + 1, by omega, by omega, ⟨⟨rfl, rfl, rfl, rfl, AV.int_eq (i64_succ (by omega)), trivial⟩, ⟨fun o h => ?_, trivial⟩⟩⟩
        rw [← h, hdk h5]
        show some (AObj.buf 1 9 (List.set _ (0 + (((keptS q (l.take j)).length : Nat) : Int).toNat) (splice (List.getD _ (0 + (((keptS q (l.take j)).length : Nat) : Int).toNat) []) [D.v (.string (baL l[j]))] 0))) = _
        rw [show 0 + (((keptS q (l.take j)).length : Nat) : Int).toNat = (keptS q (l.take j)).length from by omega, hgz, List.map_set]
        rfl
      · have h5 : q l[j] = true := by simpa using h5
        rw [h5, if_pos rfl] at hkx
        conv => whnf
        repeat' (first | (refine And.intro (by first | exact rfl | decide | exact Nat.le_of_ble_eq_true rfl | exact ⟨_, rfl⟩ | exact ⟨_, _, rfl⟩ | exact Nat.le_refl _ | exact Int.le_refl _ | omega | (simp only [List.length_map]; omega) | exact True.intro | (simp only [IntKind.wrap_i64, List.length_map]; omega) | (simp only [List.map_cons, List.map_nil, List.length_cons, Option.getD]; omega) | (simp only [bsz, ByteArray.size_append, List.size_toArray, List.length_cons, List.length_nil]; omega) | exact ⟨⟨_, _, rfl, rfl, Nat.le_of_ble_eq_true rfl⟩, trivial⟩ | exact ⟨⟨_, _, rfl, rfl, Nat.le_of_ble_eq_true rfl⟩, ⟨_, _, rfl, rfl, Nat.le_of_ble_eq_true rfl⟩, trivial⟩ | exact ⟨⟨_, _, rfl, rfl, Nat.le_of_ble_eq_true rfl⟩, ⟨_, _, rfl, rfl, Nat.le_of_ble_eq_true rfl⟩, ⟨_, _, rfl, rfl, Nat.le_of_ble_eq_true rfl⟩, trivial⟩) ?_; conv => whnf) | (refine ifB_intro (fun hA => ?_) (fun hA => ?_) <;> (try rw [hA]) <;> (conv => whnf) <;> (first | replace hA := of_decide_eq_true hA | replace hA := of_decide_eq_false hA | replace hA := eq_of_beq hA | replace hA := ne_of_beq_false hA | replace hA := bne_iff_ne.1 hA | replace hA := bne_eq_false_iff_eq.1 hA | skip) <;> (try simp only [List.length_map, cond_true, cond_false, Bool.not_eq_true', Bool.not_eq_false', beq_iff_eq, beq_eq_false_iff_ne, ne_eq] at hA)) | (rw [getD_map _ _ _ _ (by assumption)]; conv => whnf))
        exact ⟨j + 1, by omega, by omega, ⟨⟨rfl, rfl, rfl, by rw [hkx]; rfl, AV.int_eq (i64_succ (by omega)), trivial⟩, ⟨fun o h => by rw [← h, hdd h5]; rfl, trivial⟩⟩⟩
    · have hje : j = l.length := by omega
      subst hje
      rw [List.take_length] at hkl ⊢
      have hdx : delS q l l.length = keptS q l ++ l.drop (keptS q l).length := by rw [delS, List.take_length]
      have hZ : List.take (((some ((keptS q l).length : Int)).getD 0)).toNat ((delS q l l.length).map rowW) ++ List.replicate (((none : Option Int).getD (l.length : Int)).toNat - ((some ((keptS q l).length : Int)).getD 0).toNat) zeroS ++ List.drop (((some ((keptS q l).length : Int)).getD 0).toNat + (((none : Option Int).getD (l.length : Int)).toNat - ((some ((keptS q l).length : Int)).getD 0).toNat)) ((delS q l l.length).map rowW) = (keptS q l).map rowW ++ List.replicate (l.length - (keptS q l).length) zeroS := by
        show List.take (keptS q l).length ((delS q l l.length).map rowW) ++ List.replicate (l.length - (keptS q l).length) zeroS ++ List.drop ((keptS q l).length + (l.length - (keptS q l).length)) ((delS q l l.length).map rowW) = _
        rw [List.drop_eq_nil_of_le (by omega), List.append_nil, hdx, List.map_append, List.take_left' (by simp)]
      have hZl : ((keptS q l).map rowW ++ List.replicate (l.length - (keptS q l).length) zeroS).length = l.length := by
        rw [List.length_append, List.length_map, List.length_replicate]; omega
      repeat' (first | (refine And.intro (by first | exact rfl | decide | exact Nat.le_of_ble_eq_true rfl | exact ⟨_, rfl⟩ | exact ⟨_, _, rfl⟩ | exact Nat.le_refl _ | exact Int.le_refl _ | omega | (simp only []; omega) | exact True.intro | (simp only []; omega) | (simp only [List.map_cons, List.map_nil, Option.getD]; omega) | (simp only []; omega) | exact ⟨⟨_, _, rfl, rfl, Nat.le_of_ble_eq_true rfl⟩, trivial⟩ | exact ⟨⟨_, _, rfl, rfl, Nat.le_of_ble_eq_true rfl⟩, ⟨_, _, rfl, rfl, Nat.le_of_ble_eq_true rfl⟩, trivial⟩ | exact ⟨⟨_, _, rfl, rfl, Nat.le_of_ble_eq_true rfl⟩, ⟨_, _, rfl, rfl, Nat.le_of_ble_eq_true rfl⟩, ⟨_, _, rfl, rfl, Nat.le_of_ble_eq_true rfl⟩, trivial⟩) ?_; conv => whnf) | (refine ifB_intro (fun hA => ?_) (fun hA => ?_) <;> (try rw [hA]) <;> (conv => whnf) <;> (first | replace hA := of_decide_eq_true hA | replace hA := of_decide_eq_false hA | replace hA := eq_of_beq hA | replace hA := ne_of_beq_false hA | replace hA := bne_iff_ne.1 hA | replace hA := bne_eq_false_iff_eq.1 hA | skip) <;> (try simp only [List.length_map, cond_true, cond_false, Bool.not_eq_true', Bool.not_eq_false', beq_iff_eq, beq_eq_false_iff_ne, ne_eq] at hA)) | (erw [hZ]; conv => whnf) | (rw [hZl]; conv => whnf) | (rw [getD_map _ _ _ _ (by assumption)]; conv => whnf))
      refine ⟨⟨[(9400, some (.buf 1 9 ((keptS q l).map rowW ++ List.replicate (l.length - (keptS q l).length) zeroS)))], ?_⟩⟩
      conv => whnf
      exact And.intro ⟨fun o h => h, trivial⟩ rfl
end Go.Ax

namespace Go.Ax
open Go.Proofs
set_option maxRecDepth 10000
def isK (f : Int) : Bool := decide (0 ≤ f) && decide (f < 8)
theorem isK_nat {f : Int} (h : isK f = true) : ∃ i : Nat, f = (i : Int) ∧ i < 8 := by
  simp [isK] at h
  exact ⟨f.toNat, by omega, by omega⟩
theorem is_any (g : GP) (f : Int) : Ctr (ax g).E 144 [.i64 f] [] fun o => o = .ret (.bool (isK f)) [] := by
  by_cases h : isK f = true
  · obtain ⟨i, rfl, hi⟩ := isK_nat h
    rw [h]
    exact is_ctr g i hi
  · refine Ctr.body (X := ax g) _ 9 [] [.tmp 2] Tryz.func144 rfl rfl rfl rfl (by decide +kernel) rfl rfl ?_
    conv => whnf
    repeat' (first | (refine And.intro (by first | exact rfl | decide | exact Nat.le_of_ble_eq_true rfl | exact ⟨_, rfl⟩ | exact ⟨_, _, rfl⟩ | exact Nat.le_refl _ | exact Int.le_refl _ | omega | (simp only [List.length_map]; omega) | exact True.intro | (simp only [IntKind.wrap_i64, List.length_map]; omega) | (simp only [List.map_cons, List.map_nil, List.length_cons, Option.getD]; omega) | (simp only [bsz, ByteArray.size_append, List.size_toArray, List.length_cons, List.length_nil]; omega) | exact ⟨⟨_, _, rfl, rfl, Nat.le_of_ble_eq_true rfl⟩, trivial⟩ | exact ⟨⟨_, _, rfl, rfl, Nat.le_of_ble_eq_true rfl⟩, ⟨_, _, rfl, rfl, Nat.le_of_ble_eq_true rfl⟩, trivial⟩ | exact ⟨⟨_, _, rfl, rfl, Nat.le_of_ble_eq_true rfl⟩, ⟨_, _, rfl, rfl, Nat.le_of_ble_eq_true rfl⟩, ⟨_, _, rfl, rfl, Nat.le_of_ble_eq_true rfl⟩, trivial⟩) ?_; conv => whnf) | (refine ifB_intro (fun hA => ?_) (fun hA => ?_) <;> (try rw [hA]) <;> (conv => whnf) <;> (first | replace hA := of_decide_eq_true hA | replace hA := of_decide_eq_false hA | replace hA := eq_of_beq hA | replace hA := ne_of_beq_false hA | replace hA := bne_iff_ne.1 hA | replace hA := bne_eq_false_iff_eq.1 hA | skip) <;> (try simp only [List.length_map, cond_true, cond_false, Bool.not_eq_true', Bool.not_eq_false', beq_iff_eq, beq_eq_false_iff_ne, ne_eq] at hA)) | (rw [getD_map _ _ _ _ (by assumption)]; conv => whnf))
    all_goals
      refine ⟨⟨[], ?_⟩⟩
      conv => whnf
      try rfl
    all_goals
      simp [isK] at h ⊢
      try omega
end Go.Ax

namespace Go.Ax
set_option maxRecDepth 10000
def hasF (p : List Nat) (l : List (Int × Int)) : Bool := l.all fun x => isK x.1 && decide (((p.getD x.1.toNat 0 : Nat) : Int) = x.2)
end Go.Ax

namespace Go.Ax
open Go.Proofs
set_option maxRecDepth 10000
def rowPr (p : Int × Int) : List D := [.i64 p.1, .u16 p.2]
def okF (p : List Nat) (x : Int × Int) : Bool := isK x.1 && decide (((p.getD x.1.toNat 0 : Nat) : Int) = x.2)
theorem hasF_all (p : List Nat) (l : List (Int × Int)) : hasF p l = l.all (okF p) := rfl
theorem bne_dec (a b : Int) : (a != b) = !decide (a = b) := by
  by_cases h : a = b <;> simp [h, bne]
theorem has1_ctr (g : GP) (p : List Nat) (hp : p.length = 8) (x : Int × Int) : Ctr (ax g).E 221 [.dagg (rowPr x), .ptr 9000 0] [(9000, some (.dvar 8 (rowU p)))] (fun o => o = .ret (.bool (!okF p x)) [(9000, some (.dvar 8 (rowU p)))]) := by
  obtain ⟨f, n⟩ := x
  have hi := is_any g f
  unfold okF
  dsimp only
  refine Ctr.body (X := ax g) _ 17 [9000] [.tmp 3] Tryz.func221 rfl rfl rfl rfl (by decide +kernel) rfl rfl ?_
  conv => whnf
  cases hk : isK f with
  | false =>
    rw [hk] at hi
    repeat' (first | (refine And.intro (by first | exact rfl | decide | exact Nat.le_of_ble_eq_true rfl | exact ⟨_, rfl⟩ | exact ⟨_, _, rfl⟩ | exact Nat.le_refl _ | exact Int.le_refl _ | omega | (simp only [List.length_map]; omega) | exact True.intro | (simp only [IntKind.wrap_i64, List.length_map]; omega) | (simp only [List.map_cons, List.map_nil, List.length_cons, Option.getD]; omega) | (simp only [bsz, ByteArray.size_append, List.size_toArray, List.length_cons, List.length_nil]; omega) | exact ⟨⟨_, _, rfl, rfl, Nat.le_of_ble_eq_true rfl⟩, trivial⟩ | exact ⟨⟨_, _, rfl, rfl, Nat.le_of_ble_eq_true rfl⟩, ⟨_, _, rfl, rfl, Nat.le_of_ble_eq_true rfl⟩, trivial⟩ | exact ⟨⟨_, _, rfl, rfl, Nat.le_of_ble_eq_true rfl⟩, ⟨_, _, rfl, rfl, Nat.le_of_ble_eq_true rfl⟩, ⟨_, _, rfl, rfl, Nat.le_of_ble_eq_true rfl⟩, trivial⟩) ?_; conv => whnf) | (refine ifB_intro (fun hA => ?_) (fun hA => ?_) <;> (try rw [hA]) <;> (conv => whnf) <;> (first | replace hA := of_decide_eq_true hA | replace hA := of_decide_eq_false hA | replace hA := eq_of_beq hA | replace hA := ne_of_beq_false hA | replace hA := bne_iff_ne.1 hA | replace hA := bne_eq_false_iff_eq.1 hA | skip) <;> (try simp only [List.length_map, cond_true, cond_false, Bool.not_eq_true', Bool.not_eq_false', beq_iff_eq, beq_eq_false_iff_ne, ne_eq] at hA)) | (refine CallP.det (hi) ?_; conv => whnf) | (refine CallD.det (hi) ?_; conv => whnf) | (refine DrawP.intro (X := ax g) (id := 1) B221_1 (by kernel_rfl) (by decide +kernel) ?_; conv => whnf) | (rw [getD_map _ _ _ _ (by assumption)]; conv => whnf))
    refine ⟨⟨[(9000, some (.dvar 8 (rowU p)))], ?_⟩⟩
    conv => whnf
    exact And.intro ⟨fun o h => h, trivial⟩ rfl
  | true =>
    rw [hk] at hi
    obtain ⟨i, rfl, h8⟩ := isK_nat hk
    have hg := rowU_get p i (by omega)
    have hg0 : (rowU p).getD (0 + ((i : Nat) : Int).toNat * 1) (.v undef) = .v (.int .u16 ((p.getD i 0 : Nat) : Int)) := by rw [← hg]; congr 1; omega
    have hl : (rowU p).length = 8 := by rw [rowU_len]; exact hp
    repeat' (first | (refine And.intro (by first | exact rfl | decide | exact Nat.le_of_ble_eq_true rfl | exact ⟨_, rfl⟩ | exact ⟨_, _, rfl⟩ | exact Nat.le_refl _ | exact Int.le_refl _ | omega | (simp only []; omega) | exact True.intro | (simp only []; omega) | (simp only []; omega) | (simp only []; omega) | exact ⟨⟨_, _, rfl, rfl, Nat.le_of_ble_eq_true rfl⟩, trivial⟩ | exact ⟨⟨_, _, rfl, rfl, Nat.le_of_ble_eq_true rfl⟩, ⟨_, _, rfl, rfl, Nat.le_of_ble_eq_true rfl⟩, trivial⟩ | exact ⟨⟨_, _, rfl, rfl, Nat.le_of_ble_eq_true rfl⟩, ⟨_, _, rfl, rfl, Nat.le_of_ble_eq_true rfl⟩, ⟨_, _, rfl, rfl, Nat.le_of_ble_eq_true rfl⟩, trivial⟩) ?_; conv => whnf) | (refine ifB_intro (fun hA => ?_) (fun hA => ?_) <;> (try rw [hA]) <;> (conv => whnf) <;> (first | replace hA := of_decide_eq_true hA | replace hA := of_decide_eq_false hA | replace hA := eq_of_beq hA | replace hA := ne_of_beq_false hA | replace hA := bne_iff_ne.1 hA | replace hA := bne_eq_false_iff_eq.1 hA | skip) <;> (try simp only [List.length_map, cond_true, cond_false, Bool.not_eq_true', Bool.not_eq_false', beq_iff_eq, beq_eq_false_iff_ne, ne_eq] at hA)) | (refine CallP.det (hi) ?_; conv => whnf) | (refine CallD.det (hi) ?_; conv => whnf) | (refine DrawP.intro (X := ax g) (id := 1) B221_1 (by kernel_rfl) (by decide +kernel) ?_; conv => whnf) | (refine And.intro (show 0 + ((i : Nat) : Int).toNat * 1 + 1 ≤ (rowU p).length by omega) ?_; conv => whnf) | (erw [hg0]; conv => whnf) | (rw [getD_map _ _ _ _ (by assumption)]; conv => whnf))
    refine ⟨⟨[(9000, some (.dvar 8 (rowU p)))], ?_⟩⟩
    conv => whnf
    refine And.intro ⟨fun o h => h, trivial⟩ ?_
    rw [Int.toNat_natCast, bne_dec]; rfl
def findR (q : Int × Int → Bool) : List (Int × Int) → Nat → Int
  | [], _ => -1
  | p :: l, i => if q p then i else findR q l (i + 1)
theorem findR_drop (q : Int × Int → Bool) (l : List (Int × Int)) (i : Nat) (h : i < l.length) : findR q (l.drop i) i = if q l[i] then (i : Int) else findR q (l.drop (i + 1)) (i + 1) := by
  rw [List.drop_eq_getElem_cons h]; rfl
theorem findR_iff (q : Int × Int → Bool) : ∀ (l : List (Int × Int)) (i : Nat), 0 ≤ findR q l i ↔ l.any q = true
  | [], i => by simp [findR]
  | p :: l, i => by
    show (0 ≤ if q p = true then (i : Int) else findR q l (i + 1)) ↔ _
    by_cases h : q p = true
    · rw [if_pos h]; simp [h]
    · rw [if_neg h, findR_iff q l (i + 1)]; simp [h]
theorem findR_any (q : Int × Int → Bool) (l : List (Int × Int)) (i : Nat) : decide (0 ≤ findR q l i) = l.any q := by
  rw [Bool.eq_iff_iff, decide_eq_true_iff]; exact findR_iff q l i
theorem indexR_ctr (g : GP) (fn n : Nat) (cs : List D) (q : Int × Int → Bool) (b : Bool) (l : List (Int × Int)) (hl : l.length < 2 ^ 62) (hq : ∀ x ∈ l, Ctr (ax g).E fn [.dagg (rowPr x), .ptr 9000 0] [(9000, some (.dvar n cs))] (fun o => o = .ret (.bool (q x)) [(9000, some (.dvar n cs))])) : Ctr (ax g).E 250 [.d (.sl b 2 (l.map rowPr)), .clo (.func fn) [] [.ptr 9000 0]] [(9000, some (.dvar n cs))] (fun o => o = .ret (.i64 (findR q l 0)) [(9000, some (.dvar n cs))]) := by
  refine Ctr.body (X := ax g) _ 19 [9000] [.tmp 4] Tryz.func250 rfl rfl rfl rfl (by decide +kernel) rfl rfl ?_
  conv => whnf
  repeat (refine And.intro (by first | exact rfl | decide | exact Nat.le_of_ble_eq_true rfl | exact ⟨_, rfl⟩ | exact ⟨_, _, rfl⟩ | exact Nat.le_refl _ | exact Int.le_refl _ | omega | (simp only [List.length_map]; omega)) ?_; conv => whnf)
  refine LoopP.inv (X := ax g) (fun i : Nat => { f := [(0, .d (.sl b 2 (l.map rowPr))), (1, .clo (.func fn) [] [.ptr 9000 0]), (4, .i64 0), (7, .i64 l.length), (8, .i64 i)], h := [(9000, some (.dvar n cs))] }) (fun i => i ≤ l.length ∧ findR q l 0 = findR q (l.drop i) i) (fun i => l.length - i) 0 ⟨Nat.zero_le _, rfl⟩ ⟨⟨rfl, rfl, rfl, AV.int_eq (by simp), rfl, trivial⟩, ⟨fun o h => h, trivial⟩⟩ fun i ⟨hi, he⟩ => ?_
  conv => whnf
  refine ifB_intro (fun h2 => ?_) (fun h2 => ?_)
  · have hlt : i < l.length := by simpa using h2
    have hd := findR_drop q l i hlt
    have hc := hq l[i] (List.getElem_mem hlt)
    conv => whnf
    repeat (refine And.intro (by first | exact rfl | decide | exact Nat.le_of_ble_eq_true rfl | exact ⟨_, rfl⟩ | exact ⟨_, _, rfl⟩ | exact Nat.le_refl _ | exact Int.le_refl _ | omega | (simp only [List.length_map]; omega)) ?_; conv => whnf)
    rw [getD_map rowPr l i [] hlt]
    generalize l[i] = x at hd hc
    obtain ⟨x1, x2⟩ := x
    conv => whnf
    repeat (refine And.intro (by first | exact rfl | decide | exact Nat.le_of_ble_eq_true rfl | exact ⟨_, rfl⟩ | exact ⟨_, _, rfl⟩ | exact Nat.le_refl _ | exact Int.le_refl _ | omega | (simp only [List.length_map]; omega)) ?_; conv => whnf)
    refine CallP.upd rfl hc ?_
    conv => whnf
    refine ifB_intro (fun h3 => ?_) (fun h3 => ?_)
    · have h3 : q (x1, x2) = true := h3
      rw [h3, if_pos rfl] at hd
      conv => whnf
      refine ⟨⟨[(9000, some (.dvar n cs))], ?_⟩⟩
      conv => whnf
      refine And.intro ⟨fun o h => h, trivial⟩ ?_
      conv => whnf
      rw [he, hd]
    · have h3 : q (x1, x2) = false := h3
      rw [h3] at hd
      conv => whnf
      exact ⟨i + 1, ⟨by omega, by rw [he, hd]; rfl⟩, by omega, ⟨⟨rfl, rfl, rfl, rfl, AV.int_eq (i64_succ (by omega)), trivial⟩, ⟨fun o h => h, trivial⟩⟩⟩
  · have hge : l.length ≤ i := by simpa using h2
    conv => whnf
    refine ⟨⟨[(9000, some (.dvar n cs))], ?_⟩⟩
    conv => whnf
    refine And.intro ⟨fun o h => h, trivial⟩ ?_
    conv => whnf
    rw [he, List.drop_eq_nil_of_le hge]; rfl
theorem contR_ctr (g : GP) (fn n : Nat) (cs : List D) (q : Int × Int → Bool) (b : Bool) (l : List (Int × Int)) (hl : l.length < 2 ^ 62) (hq : ∀ x ∈ l, Ctr (ax g).E fn [.dagg (rowPr x), .ptr 9000 0] [(9000, some (.dvar n cs))] (fun o => o = .ret (.bool (q x)) [(9000, some (.dvar n cs))])) : Ctr (ax g).E 220 [.d (.sl b 2 (l.map rowPr)), .clo (.func fn) [] [.ptr 9000 0]] [(9000, some (.dvar n cs))] (fun o => o = .ret (.bool (l.any q)) [(9000, some (.dvar n cs))]) := by
  refine Ctr.body (X := ax g) _ 9 [9000] [.tmp 4] Tryz.func220 rfl rfl rfl rfl (by decide +kernel) rfl rfl ?_
  conv => whnf
  repeat (refine And.intro (by first | exact rfl | decide | exact Nat.le_of_ble_eq_true rfl | exact ⟨_, rfl⟩ | exact ⟨_, _, rfl⟩ | exact Nat.le_refl _ | exact Int.le_refl _ | omega | (simp only [List.length_map]; omega)) ?_; conv => whnf)
  refine CallP.upd rfl (indexR_ctr g fn n cs q b l hl hq) ?_
  conv => whnf
  refine ⟨⟨[(9000, some (.dvar n cs))], ?_⟩⟩
  conv => whnf
  refine And.intro ⟨fun o h => h, trivial⟩ ?_
  conv => whnf
  rw [← findR_any q l 0]
theorem phas_ctr (g : GP) (p : List Nat) (hp : p.length = 8) (b : Bool) (l : List (Int × Int)) (hl : l.length < 2 ^ 62) : Ctr (ax g).E 174 [.dagg (rowU p), .d (.sl b 2 (l.map rowPr))] [] (fun o => o = .ret (.bool (hasF p l)) []) := by
  have hc := (contR_ctr g 221 8 (rowU p) (fun x => !okF p x) b l hl fun x _ => has1_ctr g p hp x).swap 2 9000
  have e : (!l.any fun x => !okF p x) = hasF p l := by
    rw [hasF_all, List.all_eq_not_any_not]
  obtain ⟨a0, a1, a2, a3, a4, a5, a6, a7, rfl⟩ := eight hp
  refine Ctr.body (X := ax g) _ 9 [] [.tmp 4] Tryz.func174 rfl rfl rfl rfl (by decide +kernel) rfl rfl ?_
  conv => whnf
  repeat' (first | (refine And.intro (by first | exact rfl | decide | exact Nat.le_of_ble_eq_true rfl | exact ⟨_, rfl⟩ | exact ⟨_, _, rfl⟩ | exact Nat.le_refl _ | exact Int.le_refl _ | omega | (simp only [List.length_map]; omega) | exact True.intro | (simp only [IntKind.wrap_i64, List.length_map]; omega) | (simp only [List.map_cons, List.map_nil, List.length_cons, Option.getD]; omega) | (simp only [bsz, ByteArray.size_append, List.size_toArray, List.length_cons, List.length_nil]; omega) | exact ⟨⟨_, _, rfl, rfl, Nat.le_of_ble_eq_true rfl⟩, trivial⟩ | exact ⟨⟨_, _, rfl, rfl, Nat.le_of_ble_eq_true rfl⟩, ⟨_, _, rfl, rfl, Nat.le_of_ble_eq_true rfl⟩, trivial⟩ | exact ⟨⟨_, _, rfl, rfl, Nat.le_of_ble_eq_true rfl⟩, ⟨_, _, rfl, rfl, Nat.le_of_ble_eq_true rfl⟩, ⟨_, _, rfl, rfl, Nat.le_of_ble_eq_true rfl⟩, trivial⟩) ?_; conv => whnf) | (refine ifB_intro (fun hA => ?_) (fun hA => ?_) <;> (try rw [hA]) <;> (conv => whnf) <;> (first | replace hA := of_decide_eq_true hA | replace hA := of_decide_eq_false hA | replace hA := eq_of_beq hA | replace hA := ne_of_beq_false hA | replace hA := bne_iff_ne.1 hA | replace hA := bne_eq_false_iff_eq.1 hA | skip) <;> (try simp only [List.length_map, cond_true, cond_false, Bool.not_eq_true', Bool.not_eq_false', beq_iff_eq, beq_eq_false_iff_ne, ne_eq] at hA)) | (refine CallP.upd rfl (hc) ?_; conv => whnf) | (refine CallD.upd rfl (hc) ?_; conv => whnf) | (rw [getD_map _ _ _ _ (by assumption)]; conv => whnf))
  refine ⟨⟨[], ?_⟩⟩
  conv => whnf
  rw [← e]
theorem pat_ctr (g : GP) (p : List Nat) (hp : p.length = 8) : Ctr (ax g).E 63 [.dagg (rowU p)] [] (fun o => o = .ret (.dagg [.u16 (p.getD 0 0 : Nat), .u16 (p.getD 1 0 : Nat)]) []) := by
  obtain ⟨a0, a1, a2, a3, a4, a5, a6, a7, rfl⟩ := eight hp
  refine Ctr.body (X := ax g) _ 8 [] [.cell 2 129] Tryz.func63 rfl rfl rfl rfl (by decide +kernel) rfl rfl ?_
  conv => whnf
  repeat' (first | (refine And.intro (by first | exact rfl | decide | exact Nat.le_of_ble_eq_true rfl | exact ⟨_, rfl⟩ | exact ⟨_, _, rfl⟩ | exact Nat.le_refl _ | exact Int.le_refl _ | omega | (simp only []; omega) | exact True.intro | (simp only []; omega) | (simp only [List.length_cons]; omega) | (simp only [List.length_cons, List.length_nil]; omega) | exact ⟨⟨_, _, rfl, rfl, Nat.le_of_ble_eq_true rfl⟩, trivial⟩ | exact ⟨⟨_, _, rfl, rfl, Nat.le_of_ble_eq_true rfl⟩, ⟨_, _, rfl, rfl, Nat.le_of_ble_eq_true rfl⟩, trivial⟩ | exact ⟨⟨_, _, rfl, rfl, Nat.le_of_ble_eq_true rfl⟩, ⟨_, _, rfl, rfl, Nat.le_of_ble_eq_true rfl⟩, ⟨_, _, rfl, rfl, Nat.le_of_ble_eq_true rfl⟩, trivial⟩) ?_; conv => whnf) | (refine ifB_intro (fun hA => ?_) (fun hA => ?_) <;> (try rw [hA]) <;> (conv => whnf) <;> (first | replace hA := of_decide_eq_true hA | replace hA := of_decide_eq_false hA | replace hA := eq_of_beq hA | replace hA := ne_of_beq_false hA | replace hA := bne_iff_ne.1 hA | replace hA := bne_eq_false_iff_eq.1 hA | skip) <;> (try simp only [List.length_map, cond_true, cond_false, Bool.not_eq_true', Bool.not_eq_false', beq_iff_eq, beq_eq_false_iff_ne, ne_eq] at hA)) | (rw [getD_map _ _ _ _ (by assumption)]; conv => whnf))
  refine ⟨⟨[], ?_⟩⟩
  conv => whnf
  repeat' (first | (refine And.intro (by first | exact rfl | decide | exact Nat.le_of_ble_eq_true rfl | exact ⟨_, rfl⟩ | exact ⟨_, _, rfl⟩ | exact Nat.le_refl _ | exact Int.le_refl _ | omega | (simp only [List.length_map]; omega) | exact True.intro | (simp only [IntKind.wrap_i64, List.length_map]; omega) | (simp only [List.map_cons, List.map_nil, List.length_cons, Option.getD]; omega) | (simp only [bsz, ByteArray.size_append, List.size_toArray, List.length_cons, List.length_nil]; omega) | exact ⟨⟨_, _, rfl, rfl, Nat.le_of_ble_eq_true rfl⟩, trivial⟩ | exact ⟨⟨_, _, rfl, rfl, Nat.le_of_ble_eq_true rfl⟩, ⟨_, _, rfl, rfl, Nat.le_of_ble_eq_true rfl⟩, trivial⟩ | exact ⟨⟨_, _, rfl, rfl, Nat.le_of_ble_eq_true rfl⟩, ⟨_, _, rfl, rfl, Nat.le_of_ble_eq_true rfl⟩, ⟨_, _, rfl, rfl, Nat.le_of_ble_eq_true rfl⟩, trivial⟩) ?_; conv => whnf) | (refine ifB_intro (fun hA => ?_) (fun hA => ?_) <;> (try rw [hA]) <;> (conv => whnf) <;> (first | replace hA := of_decide_eq_true hA | replace hA := of_decide_eq_false hA | replace hA := eq_of_beq hA | replace hA := ne_of_beq_false hA | replace hA := bne_iff_ne.1 hA | replace hA := bne_eq_false_iff_eq.1 hA | skip) <;> (try simp only [List.length_map, cond_true, cond_false, Bool.not_eq_true', Bool.not_eq_false', beq_iff_eq, beq_eq_false_iff_ne, ne_eq] at hA)) | (rw [getD_map _ _ _ _ (by assumption)]; conv => whnf))
  rfl
theorem refhasp_ctr (g : GP) (p : List Nat) (hp : p.length = 8) (b : Bool) (l : List (Int × Int)) (hl : l.length < 2 ^ 62) : Ctr (ax g).E 128 [.dagg (rowU p), .d (.sl b 2 (l.map rowPr))] [] (fun o => o = .ret (.bool (hasF p l)) []) := by
  have h8 : (rowU p).length = 8 := by rw [rowU_len]; exact hp
  obtain ⟨p0, p1, p2, p3, p4, p5, p6, p7, rfl⟩ := eight hp
  refine Ctr.body (X := ax g) _ 41 [] [.tmp 4] Tryz.func128 rfl rfl rfl rfl (by decide +kernel) rfl rfl ?_
  conv => whnf
  repeat' (first | (refine And.intro (by first | exact rfl | decide | exact Nat.le_of_ble_eq_true rfl | exact ⟨_, rfl⟩ | exact ⟨_, _, rfl⟩ | exact Nat.le_refl _ | exact Int.le_refl _ | omega | (simp only [List.length_map]; omega) | exact True.intro | (simp only [IntKind.wrap_i64, List.length_map]; omega) | (simp only [List.map_cons, List.map_nil, List.length_cons, Option.getD]; omega) | (simp only [bsz, ByteArray.size_append, List.size_toArray, List.length_cons, List.length_nil]; omega) | exact ⟨⟨_, _, rfl, rfl, Nat.le_of_ble_eq_true rfl⟩, trivial⟩ | exact ⟨⟨_, _, rfl, rfl, Nat.le_of_ble_eq_true rfl⟩, ⟨_, _, rfl, rfl, Nat.le_of_ble_eq_true rfl⟩, trivial⟩ | exact ⟨⟨_, _, rfl, rfl, Nat.le_of_ble_eq_true rfl⟩, ⟨_, _, rfl, rfl, Nat.le_of_ble_eq_true rfl⟩, ⟨_, _, rfl, rfl, Nat.le_of_ble_eq_true rfl⟩, trivial⟩) ?_; conv => whnf) | (refine ifB_intro (fun hA => ?_) (fun hA => ?_) <;> (try rw [hA]) <;> (conv => whnf) <;> (first | replace hA := of_decide_eq_true hA | replace hA := of_decide_eq_false hA | replace hA := eq_of_beq hA | replace hA := ne_of_beq_false hA | replace hA := bne_iff_ne.1 hA | replace hA := bne_eq_false_iff_eq.1 hA | skip) <;> (try simp only [List.length_map, cond_true, cond_false, Bool.not_eq_true', Bool.not_eq_false', beq_iff_eq, beq_eq_false_iff_ne, ne_eq] at hA)) | (rw [getD_map _ _ _ _ (by assumption)]; conv => whnf))
  refine LoopP.inv (X := ax g) (fun i : Nat => { f := [(1, .d (.sl b 2 (l.map rowPr))), (2, .ptr 2 0), (4, .bool false), (5, .i64 i)], h := [(2, some (.dvar 8 (rowU [p0, p1, p2, p3, p4, p5, p6, p7])))] }) (fun i => i ≤ l.length ∧ hasF [p0, p1, p2, p3, p4, p5, p6, p7] l = hasF [p0, p1, p2, p3, p4, p5, p6, p7] (l.drop i)) (fun i => l.length - i) 0 ⟨Nat.zero_le _, rfl⟩ ⟨⟨rfl, rfl, rfl, rfl, trivial⟩, ⟨fun o h => h, trivial⟩⟩ fun i ⟨hi, he⟩ => ?_
  conv => whnf
  refine ifB_intro (fun h2 => ?_) (fun h2 => ?_)
  · have hlt : i < l.length := by
      have h0 := of_decide_eq_true h2
      rw [List.length_map] at h0
      omega
    have hst : hasF [p0, p1, p2, p3, p4, p5, p6, p7] (l.drop i) = (okF [p0, p1, p2, p3, p4, p5, p6, p7] l[i] && hasF [p0, p1, p2, p3, p4, p5, p6, p7] (l.drop (i + 1))) := by
      rw [List.drop_eq_getElem_cons hlt]; rfl
    have hrow : rowPr l[i] = [.i64 l[i].1, .u16 l[i].2] := rfl
    cases hk : isK l[i].1 with
    | false =>
      have ho : okF [p0, p1, p2, p3, p4, p5, p6, p7] l[i] = false := by unfold okF; rw [hk]; rfl
      rw [ho, Bool.false_and] at hst
      have hk2 : ¬ (0 ≤ l[i].1 ∧ l[i].1 < 8) := fun e => by simp [isK] at hk; omega
      conv => whnf
      repeat' (first | (refine And.intro (by first | exact rfl | decide | exact Nat.le_of_ble_eq_true rfl | exact ⟨_, rfl⟩ | exact ⟨_, _, rfl⟩ | exact Nat.le_refl _ | exact Int.le_refl _ | omega | (simp only [List.length_map]; omega) | exact True.intro | (simp only []; omega) | (simp only []; omega) | (simp only []; omega) | exact ⟨⟨_, _, rfl, rfl, Nat.le_of_ble_eq_true rfl⟩, trivial⟩ | exact ⟨⟨_, _, rfl, rfl, Nat.le_of_ble_eq_true rfl⟩, ⟨_, _, rfl, rfl, Nat.le_of_ble_eq_true rfl⟩, trivial⟩ | exact ⟨⟨_, _, rfl, rfl, Nat.le_of_ble_eq_true rfl⟩, ⟨_, _, rfl, rfl, Nat.le_of_ble_eq_true rfl⟩, ⟨_, _, rfl, rfl, Nat.le_of_ble_eq_true rfl⟩, trivial⟩) ?_; conv => whnf) | (refine ifB_intro (fun hA => ?_) (fun hA => ?_) <;> (try rw [hA]) <;> (conv => whnf) <;> (first | replace hA := of_decide_eq_true hA | replace hA := of_decide_eq_false hA | replace hA := eq_of_beq hA | replace hA := ne_of_beq_false hA | replace hA := bne_iff_ne.1 hA | replace hA := bne_eq_false_iff_eq.1 hA | skip) <;> (try simp only [List.length_map, cond_true, cond_false, Bool.not_eq_true', Bool.not_eq_false', beq_iff_eq, beq_eq_false_iff_ne, ne_eq] at hA)) | (refine DrawP.intro (X := ax g) (id := 4) B128_4 (by kernel_rfl) (by decide +kernel) ?_; conv => whnf) | (rw [hrow]; conv => whnf) | (exfalso; omega) | (rw [getD_map _ _ _ _ (by assumption)]; conv => whnf))
      all_goals
        refine ⟨⟨[], ?_⟩⟩
        conv => whnf
        rw [he, hst]
    | true =>
      obtain ⟨j, hj, hj8⟩ := isK_nat hk
      have ho : okF [p0, p1, p2, p3, p4, p5, p6, p7] l[i] = decide ((([p0, p1, p2, p3, p4, p5, p6, p7].getD j 0 : Nat) : Int) = l[i].2) := by unfold okF; rw [hk, hj]; rfl
      rw [ho] at hst
      have hg0 : (rowU [p0, p1, p2, p3, p4, p5, p6, p7]).getD (0 + l[i].1.toNat * 1) (.v undef) = .v (.int .u16 (([p0, p1, p2, p3, p4, p5, p6, p7].getD j 0 : Nat) : Int)) := by rw [← rowU_get [p0, p1, p2, p3, p4, p5, p6, p7] j (by simpa using hj8)]; congr 1; omega
      rw [hj] at hrow
      conv => whnf
      repeat' (first | (refine And.intro (by first | exact rfl | decide | exact Nat.le_of_ble_eq_true rfl | exact ⟨_, rfl⟩ | exact ⟨_, _, rfl⟩ | exact Nat.le_refl _ | exact Int.le_refl _ | omega | (simp only [List.length_map]; omega) | exact True.intro | (simp only []; omega) | (simp only []; omega) | (simp only []; omega) | exact ⟨⟨_, _, rfl, rfl, Nat.le_of_ble_eq_true rfl⟩, trivial⟩ | exact ⟨⟨_, _, rfl, rfl, Nat.le_of_ble_eq_true rfl⟩, ⟨_, _, rfl, rfl, Nat.le_of_ble_eq_true rfl⟩, trivial⟩ | exact ⟨⟨_, _, rfl, rfl, Nat.le_of_ble_eq_true rfl⟩, ⟨_, _, rfl, rfl, Nat.le_of_ble_eq_true rfl⟩, ⟨_, _, rfl, rfl, Nat.le_of_ble_eq_true rfl⟩, trivial⟩) ?_; conv => whnf) | (refine ifB_intro (fun hA => ?_) (fun hA => ?_) <;> (try rw [hA]) <;> (conv => whnf) <;> (first | replace hA := of_decide_eq_true hA | replace hA := of_decide_eq_false hA | replace hA := eq_of_beq hA | replace hA := ne_of_beq_false hA | replace hA := bne_iff_ne.1 hA | replace hA := bne_eq_false_iff_eq.1 hA | skip) <;> (try simp only [ne_eq] at hA)) | (refine DrawP.intro (X := ax g) (id := 4) B128_4 (by kernel_rfl) (by decide +kernel) ?_; conv => whnf) | (rw [hrow]; conv => whnf) | (exfalso; omega) | (refine And.intro (show 0 + ((j : Nat) : Int).toNat * 1 + 1 ≤ (rowU [p0, p1, p2, p3, p4, p5, p6, p7]).length by omega) ?_; conv => whnf) | (erw [hg0]; conv => whnf) | (rw [getD_map _ _ _ _ (by assumption)]; conv => whnf))
      · refine ⟨⟨[], ?_⟩⟩
        conv => whnf
        rw [he, hst, decide_eq_false hA]; rfl
      · rw [decide_eq_true (by omega), Bool.true_and] at hst
        exact ⟨i + 1, ⟨by omega, by rw [he, hst]⟩, by omega, ⟨⟨rfl, rfl, rfl, AV.int_eq (i64_succ (by omega)), trivial⟩, ⟨fun o h => h, trivial⟩⟩⟩
  · have hge : i = l.length := by
      have h0 := of_decide_eq_false h2
      rw [List.length_map] at h0
      omega
    subst hge
    rw [List.drop_length] at he
    conv => whnf
    refine ⟨⟨[], ?_⟩⟩
    conv => whnf
    rw [he]; rfl
end Go.Ax

namespace Go.Ax
open Go.Proofs Go.RowKit Go.Shelf Go.Lib
set_option maxRecDepth 10000
def wordsL (l : List UInt8) : List (List UInt8) := keptS (fun x => x == []) (splitL 32 l)
theorem psplit1_ctr (g : GP) (x : List UInt8) : Ctr (ax g).E 127 [.str (baL x)] [] (fun o => o = .ret (.bool (x == [])) []) := by
  refine Ctr.body (X := ax g) _ 5 [] [.tmp 2] Tryz.func127 rfl rfl rfl rfl (by decide +kernel) rfl rfl ?_
  conv => whnf
  repeat' (first | (refine And.intro (by first | exact rfl | decide | exact Nat.le_of_ble_eq_true rfl | exact ⟨_, rfl⟩ | exact ⟨_, _, rfl⟩ | exact Nat.le_refl _ | exact Int.le_refl _ | omega | (simp only [List.length_map]; omega) | exact True.intro | (simp only [IntKind.wrap_i64, List.length_map]; omega) | (simp only [List.map_cons, List.map_nil, List.length_cons, Option.getD]; omega) | (simp only [bsz, ByteArray.size_append, List.size_toArray, List.length_cons, List.length_nil]; omega) | exact ⟨⟨_, _, rfl, rfl, Nat.le_of_ble_eq_true rfl⟩, trivial⟩ | exact ⟨⟨_, _, rfl, rfl, Nat.le_of_ble_eq_true rfl⟩, ⟨_, _, rfl, rfl, Nat.le_of_ble_eq_true rfl⟩, trivial⟩ | exact ⟨⟨_, _, rfl, rfl, Nat.le_of_ble_eq_true rfl⟩, ⟨_, _, rfl, rfl, Nat.le_of_ble_eq_true rfl⟩, ⟨_, _, rfl, rfl, Nat.le_of_ble_eq_true rfl⟩, trivial⟩) ?_; conv => whnf) | (refine ifB_intro (fun hA => ?_) (fun hA => ?_) <;> (try rw [hA]) <;> (conv => whnf) <;> (first | replace hA := of_decide_eq_true hA | replace hA := of_decide_eq_false hA | replace hA := eq_of_beq hA | replace hA := ne_of_beq_false hA | replace hA := bne_iff_ne.1 hA | replace hA := bne_eq_false_iff_eq.1 hA | skip) <;> (try simp only [List.length_map, cond_true, cond_false, Bool.not_eq_true', Bool.not_eq_false', beq_iff_eq, beq_eq_false_iff_ne, ne_eq] at hA)) | (rw [getD_map _ _ _ _ (by assumption)]; conv => whnf))
  refine ⟨⟨[], ?_⟩⟩
  conv => whnf
  show AOut.ret (AV.bool ((baL x).data.toList == [])) [] = _
  rw [ba_toList]
theorem splitL_le (c : UInt8) (l : List UInt8) : (splitL c l).length ≤ l.length + 1 := by
  rw [splitL_count]
  have := List.count_le_length (a := c) (l := l)
  omega
theorem psplitO_ctr (g : GP) (s : ByteArray) (hs : s.size < 2 ^ 40) :
    Ctr (ax g).E 68 [.str s] [] (fun o => o = .ret (.msl 9400 (splitL 32 s.data.toList).length 0 (wordsL s.data.toList).length) [(9400, some (.buf 1 9 ((wordsL s.data.toList).map rowW ++ List.replicate ((splitL 32 s.data.toList).length - (wordsL s.data.toList).length) zeroS)))]) := by
  have h1 := ssplit_ctr g s 32 hs
  have hsz : s.data.toList.length = s.size := by rw [Array.length_toList]; rfl
  have hle := splitL_le 32 s.data.toList
  have h2 := deleteS_ctr g 127 (fun x => x == []) (splitL 32 s.data.toList) (by omega) fun x _ => psplit1_ctr g x
  unfold wordsL
  generalize splitL 32 s.data.toList = L at *
  refine Ctr.body (X := ax g) _ 6 [] [.tmp 2] Tryz.func68 rfl rfl rfl rfl (by decide +kernel) rfl rfl ?_
  conv => whnf
  repeat' (first | (refine And.intro (by first | exact rfl | decide | exact Nat.le_of_ble_eq_true rfl | exact ⟨_, rfl⟩ | exact ⟨_, _, rfl⟩ | exact Nat.le_refl _ | exact Int.le_refl _ | omega | (simp only [List.length_map]; omega) | exact True.intro | (simp only [IntKind.wrap_i64, List.length_map]; omega) | (simp only [List.map_cons, List.map_nil, List.length_cons, Option.getD]; omega) | (simp only [bsz, ByteArray.size_append, List.size_toArray, List.length_cons, List.length_nil]; omega) | exact ⟨⟨_, _, rfl, rfl, Nat.le_of_ble_eq_true rfl⟩, trivial⟩ | exact ⟨⟨_, _, rfl, rfl, Nat.le_of_ble_eq_true rfl⟩, ⟨_, _, rfl, rfl, Nat.le_of_ble_eq_true rfl⟩, trivial⟩ | exact ⟨⟨_, _, rfl, rfl, Nat.le_of_ble_eq_true rfl⟩, ⟨_, _, rfl, rfl, Nat.le_of_ble_eq_true rfl⟩, ⟨_, _, rfl, rfl, Nat.le_of_ble_eq_true rfl⟩, trivial⟩) ?_; conv => whnf) | (refine ifB_intro (fun hA => ?_) (fun hA => ?_) <;> (try rw [hA]) <;> (conv => whnf) <;> (first | replace hA := of_decide_eq_true hA | replace hA := of_decide_eq_false hA | replace hA := eq_of_beq hA | replace hA := ne_of_beq_false hA | replace hA := bne_iff_ne.1 hA | replace hA := bne_eq_false_iff_eq.1 hA | skip) <;> (try simp only [List.length_map, cond_true, cond_false, Bool.not_eq_true', Bool.not_eq_false', beq_iff_eq, beq_eq_false_iff_ne, ne_eq] at hA)) | (refine CallP.makes rfl h1 ?_; conv => whnf) | (refine CallP.upd rfl (h2) ?_; conv => whnf) | (refine CallD.upd rfl (h2) ?_; conv => whnf) | (rw [getD_map _ _ _ _ (by assumption)]; conv => whnf))
  refine ⟨⟨[(9400, some (.buf 1 9 ((keptS (fun x => x == []) L).map rowW ++ List.replicate (L.length - (keptS (fun x => x == []) L).length) zeroS)))], ?_⟩⟩
  conv => whnf
  exact And.intro ⟨fun o h => h, trivial⟩ rfl
theorem kept_le (q : List UInt8 → Bool) (l : List (List UInt8)) : (keptS q l).length ≤ l.length := List.length_filter_le _ _
theorem psplit_ctr (g : GP) (s : ByteArray) (hs : s.size < 2 ^ 40) :
    Ctr (ax g).E 68 [.str s] [] (fun o => o = .ret (.d (.sl false 1 ((wordsL s.data.toList).map rowW))) []) := by
  have h1 := ssplit_ctr g s 32 hs
  have hsz : s.data.toList.length = s.size := by rw [Array.length_toList]; rfl
  have hle := splitL_le 32 s.data.toList
  have h2 := deleteS_ctr g 127 (fun x => x == []) (splitL 32 s.data.toList) (by omega) fun x _ => psplit1_ctr g x
  have hk := kept_le (fun x => x == []) (splitL 32 s.data.toList)
  unfold wordsL
  generalize splitL 32 s.data.toList = L at *
  generalize hK : keptS (fun x => x == []) L = K at *
  have hl : (K.map rowW ++ List.replicate (L.length - K.length) zeroS).length = L.length := by
    rw [List.length_append, List.length_map, List.length_replicate]; omega
  refine Ctr.body (X := ax g) _ 6 [] [.tmp 2] Tryz.func68 rfl rfl rfl rfl (by decide +kernel) rfl rfl ?_
  conv => whnf
  repeat' (first | (refine And.intro (by first | exact rfl | decide | exact Nat.le_of_ble_eq_true rfl | exact ⟨_, rfl⟩ | exact ⟨_, _, rfl⟩ | exact Nat.le_refl _ | exact Int.le_refl _ | omega | (simp only [List.length_map]; omega) | exact True.intro | (simp only [IntKind.wrap_i64, List.length_map]; omega) | (simp only [List.map_cons, List.map_nil, List.length_cons, Option.getD]; omega) | (simp only [bsz, ByteArray.size_append, List.size_toArray, List.length_cons, List.length_nil]; omega) | exact ⟨⟨_, _, rfl, rfl, Nat.le_of_ble_eq_true rfl⟩, trivial⟩ | exact ⟨⟨_, _, rfl, rfl, Nat.le_of_ble_eq_true rfl⟩, ⟨_, _, rfl, rfl, Nat.le_of_ble_eq_true rfl⟩, trivial⟩ | exact ⟨⟨_, _, rfl, rfl, Nat.le_of_ble_eq_true rfl⟩, ⟨_, _, rfl, rfl, Nat.le_of_ble_eq_true rfl⟩, ⟨_, _, rfl, rfl, Nat.le_of_ble_eq_true rfl⟩, trivial⟩) ?_; conv => whnf) | (refine ifB_intro (fun hA => ?_) (fun hA => ?_) <;> (try rw [hA]) <;> (conv => whnf) <;> (first | replace hA := of_decide_eq_true hA | replace hA := of_decide_eq_false hA | replace hA := eq_of_beq hA | replace hA := ne_of_beq_false hA | replace hA := bne_iff_ne.1 hA | replace hA := bne_eq_false_iff_eq.1 hA | skip) <;> (try simp only [List.length_map, cond_true, cond_false, Bool.not_eq_true', Bool.not_eq_false', beq_iff_eq, beq_eq_false_iff_ne, ne_eq] at hA)) | (refine CallP.makes rfl h1 ?_; conv => whnf) | (refine CallP.upd rfl (h2) ?_; conv => whnf) | (refine CallD.upd rfl (h2) ?_; conv => whnf) | (rw [getD_map _ _ _ _ (by assumption)]; conv => whnf))
  refine ⟨⟨[], ?_⟩⟩
  conv => whnf
  refine And.intro hl.symm ?_
  conv => whnf
  refine And.intro (by rw [hl]; omega) ?_
  conv => whnf
  rw [List.drop_zero, List.take_left' (by simp)]
def numP (l : List UInt8) : Int × Bool := if l.length < 1 ∨ 5 < l.length ∨ l.all isD = false then (0, false) else ((valD 0 l : Int), decide ((valD 0 l : Int) ≤ 65535))
theorem numP_numK (l : List UInt8) : (numP l).2 = (numK l).isSome ∧ ∀ n, numK l = some n → (numP l).1 = n := by
  unfold numP numK
  by_cases h : l.length < 1 ∨ 5 < l.length ∨ l.all isD = false
  · rw [if_pos h, if_pos (by rcases h with h | h | h <;> simp [h])]
    exact ⟨rfl, fun n h => by simp at h⟩
  · rw [if_neg h]
    by_cases h2 : 65535 < valD 0 l
    · rw [if_pos (.inr (.inr (.inr h2)))]
      exact ⟨by simp; omega, fun n h => by simp at h⟩
    · rw [if_neg (by intro h3; rcases h3 with h3 | h3 | h3 | h3; exact h (.inl h3); exact h (.inr (.inl h3)); exact h (.inr (.inr h3)); exact h2 h3)]
      exact ⟨by simp; omega, fun n h => by injection h with h; rw [h]⟩
theorem parse10_digits : ∀ (l : List UInt8) (a : Nat), l.all isD = true → valD a l < 10 ^ 17 → Lib.parseUint10 a l = .ok (valD a l)
  | [], a, _, _ => rfl
  | c :: r, a, h, hv => by
    simp only [List.all_cons, Bool.and_eq_true] at h
    have h1 : 48 ≤ c.toNat ∧ c.toNat ≤ 57 := by
      have := h.1; unfold isD at this; simp at this; omega
    have e : valD a (c :: r) = valD (a * 10 + (c.toNat - 48)) r := rfl
    have hm := valD_mono r (a * 10 + (c.toNat - 48)) h.2
    rw [e] at hv ⊢
    rw [Lib.parseUint10, if_pos h1, if_neg (by omega), if_neg (by omega), parse10_digits r _ h.2 hv]
theorem parseMag_digits {l : List UInt8} (h : l.all isD = true) (h1 : 1 ≤ l.length) (h5 : l.length ≤ 5) : Lib.parseMag l = .ok (valD 0 l) := by
  have hb := valD_bound l 0 h
  have hp : 10 ^ l.length ≤ 10 ^ 5 := Nat.pow_le_pow_right (by omega) h5
  rw [Lib.parseMag, if_neg (fun e => by rw [e] at h1; simp at h1), parse10_digits l 0 h (by omega)]
theorem atoi_digits {l : List UInt8} (h : l.all isD = true) (h1 : 1 ≤ l.length) (h5 : l.length ≤ 5) : Lib.atoiAll l = .ok ((valD 0 l : Nat) : Int) := by
  have hm := parseMag_digits h h1 h5
  have hb := valD_bound l 0 h
  have hp : 10 ^ l.length ≤ 10 ^ 5 := Nat.pow_le_pow_right (by omega) h5
  cases l with
  | nil => simp at h1
  | cons c r =>
    have hc : 48 ≤ c.toNat ∧ c.toNat ≤ 57 := by
      simp only [List.all_cons, Bool.and_eq_true] at h
      have := h.1; unfold isD at this; simp at this; omega
    have n1 : ¬ (c.toNat = 43 ∨ c.toNat = 45) := by omega
    have n2 : ¬ c.toNat = 45 := by omega
    simp only [Lib.atoiAll]
    rw [if_neg n1, hm]
    simp only [n2, not_false_eq_true, true_and, false_and, if_false]
    show (if 9223372036854775808 ≤ valD 0 (c :: r) then _ else _) = _
    rw [if_neg (by omega)]
theorem number37_ctr (g : GP) (he : ∀ w, g.G w → ErrG w) (l : List UInt8) (hl : l.length < 2 ^ 40) : Ctr (ax g).E 214 [.str (baL l)] [] fun o => o = .ret (.tup [.i64 (numP l).1, .bool (numP l).2]) [] := by
  have hs := ba_size l
  have h1 := trim_ctr g l (by omega)
  have bad : (l.length < 1 ∨ 5 < l.length ∨ l.all isD = false) → numP l = (0, false) := fun h => by unfold numP; rw [if_pos h]
  have h2 := atoi_ctr g he (baL l) (by omega)
  rw [ba_toList] at h2
  refine Ctr.body (X := ax g) _ 30 [] [.tmp 2, .tmp 3] Tryz.func214 rfl rfl rfl rfl (by decide +kernel) rfl rfl ?_
  conv => whnf
  repeat' (first | (refine And.intro (by first | exact rfl | decide | exact Nat.le_of_ble_eq_true rfl | exact ⟨_, rfl⟩ | exact ⟨_, _, rfl⟩ | exact Nat.le_refl _ | exact Int.le_refl _ | omega | (simp only [List.length_map]; omega) | exact True.intro | (simp only [IntKind.wrap_i64, List.length_map]; omega) | (simp only [List.map_cons, List.map_nil, List.length_cons, Option.getD]; omega) | (simp only [bsz, ByteArray.size_append, List.size_toArray, List.length_cons, List.length_nil]; omega) | exact ⟨⟨_, _, rfl, rfl, Nat.le_of_ble_eq_true rfl⟩, trivial⟩ | exact ⟨⟨_, _, rfl, rfl, Nat.le_of_ble_eq_true rfl⟩, ⟨_, _, rfl, rfl, Nat.le_of_ble_eq_true rfl⟩, trivial⟩ | exact ⟨⟨_, _, rfl, rfl, Nat.le_of_ble_eq_true rfl⟩, ⟨_, _, rfl, rfl, Nat.le_of_ble_eq_true rfl⟩, ⟨_, _, rfl, rfl, Nat.le_of_ble_eq_true rfl⟩, trivial⟩) ?_; conv => whnf) | (refine ifB_intro (fun hA => ?_) (fun hA => ?_) <;> (try rw [hA]) <;> (conv => whnf) <;> (first | replace hA := of_decide_eq_true hA | replace hA := of_decide_eq_false hA | replace hA := eq_of_beq hA | replace hA := ne_of_beq_false hA | replace hA := bne_iff_ne.1 hA | replace hA := bne_eq_false_iff_eq.1 hA | skip) <;> (try simp only [ne_eq] at hA)) | (refine CallP.det (h1) ?_; conv => whnf) | (refine CallD.det (h1) ?_; conv => whnf) | (rw [getD_map _ _ _ _ (by assumption)]; conv => whnf))
  · rw [ba_toList] at hA
    rw [bad (.inl (by rw [hA]; simp))]
    refine ⟨⟨[], ?_⟩⟩
    conv => whnf
  · rw [bad (.inr (.inl (by omega)))]
    refine ⟨⟨[], ?_⟩⟩
    conv => whnf
  · rw [ba_toList, trimD_nil] at hA
    rw [bad (.inr (.inr (by simpa using hA)))]
    refine ⟨⟨[], ?_⟩⟩
    conv => whnf
  · rename_i hne h5
    rw [ba_toList] at hne
    rw [ba_toList, trimD_nil] at hA
    have hlen : 1 ≤ l.length := by
      rcases Nat.eq_zero_or_pos l.length with h | h
      · exact absurd (List.eq_nil_of_length_eq_zero h) hne
      · exact h
    have hn : numP l = ((valD 0 l : Int), decide ((valD 0 l : Int) ≤ 65535)) := by
      unfold numP; rw [if_neg]; rintro (h | h | h)
      · omega
      · omega
      · rw [hA] at h; simp at h
    rw [atoiV_ok (atoi_digits hA hlen (by omega))] at h2
    rw [hn]
    repeat' (first | (refine And.intro (by first | exact rfl | decide | exact Nat.le_of_ble_eq_true rfl | exact ⟨_, rfl⟩ | exact ⟨_, _, rfl⟩ | exact Nat.le_refl _ | exact Int.le_refl _ | omega | (simp only [List.length_map]; omega) | exact True.intro | (simp only [IntKind.wrap_i64, List.length_map]; omega) | (simp only [List.map_cons, List.map_nil, List.length_cons, Option.getD]; omega) | (simp only [bsz, ByteArray.size_append, List.size_toArray, List.length_cons, List.length_nil]; omega) | exact ⟨⟨_, _, rfl, rfl, Nat.le_of_ble_eq_true rfl⟩, trivial⟩ | exact ⟨⟨_, _, rfl, rfl, Nat.le_of_ble_eq_true rfl⟩, ⟨_, _, rfl, rfl, Nat.le_of_ble_eq_true rfl⟩, trivial⟩ | exact ⟨⟨_, _, rfl, rfl, Nat.le_of_ble_eq_true rfl⟩, ⟨_, _, rfl, rfl, Nat.le_of_ble_eq_true rfl⟩, ⟨_, _, rfl, rfl, Nat.le_of_ble_eq_true rfl⟩, trivial⟩) ?_; conv => whnf) | (refine ifB_intro (fun hA => ?_) (fun hA => ?_) <;> (try rw [hA]) <;> (conv => whnf) <;> (first | replace hA := of_decide_eq_true hA | replace hA := of_decide_eq_false hA | replace hA := eq_of_beq hA | replace hA := ne_of_beq_false hA | replace hA := bne_iff_ne.1 hA | replace hA := bne_eq_false_iff_eq.1 hA | skip) <;> (try simp only [List.length_map, cond_true, cond_false, Bool.not_eq_true', Bool.not_eq_false', beq_iff_eq, beq_eq_false_iff_ne, ne_eq] at hA)) | (refine CallP.det (h2) ?_; conv => whnf) | (refine CallD.det (h2) ?_; conv => whnf) | (rw [getD_map _ _ _ _ (by assumption)]; conv => whnf))
    all_goals
      refine ⟨⟨[], ?_⟩⟩
      conv => whnf
      rfl
def placeP (l : List UInt8) : Int × Bool := if l = [42] then (-1, true) else numP l
theorem place37_ctr (g : GP) (he : ∀ w, g.G w → ErrG w) (l : List UInt8) (hl : l.length < 2 ^ 40) : Ctr (ax g).E 170 [.str (baL l)] [] fun o => o = .ret (.tup [.i64 (placeP l).1, .bool (placeP l).2]) [] := by
  have h1 := number37_ctr g he l hl
  unfold placeP
  refine Ctr.body (X := ax g) _ 10 [] [.tmp 2, .tmp 3] Tryz.func170 rfl rfl rfl rfl (by decide +kernel) rfl rfl ?_
  conv => whnf
  repeat' (first | (refine And.intro (by first | exact rfl | decide | exact Nat.le_of_ble_eq_true rfl | exact ⟨_, rfl⟩ | exact ⟨_, _, rfl⟩ | exact Nat.le_refl _ | exact Int.le_refl _ | omega | (simp only [List.length_map]; omega) | exact True.intro | (simp only [IntKind.wrap_i64, List.length_map]; omega) | (simp only [List.map_cons, List.map_nil, List.length_cons, Option.getD]; omega) | (simp only [bsz, ByteArray.size_append, List.size_toArray, List.length_cons, List.length_nil]; omega) | exact ⟨⟨_, _, rfl, rfl, Nat.le_of_ble_eq_true rfl⟩, trivial⟩ | exact ⟨⟨_, _, rfl, rfl, Nat.le_of_ble_eq_true rfl⟩, ⟨_, _, rfl, rfl, Nat.le_of_ble_eq_true rfl⟩, trivial⟩ | exact ⟨⟨_, _, rfl, rfl, Nat.le_of_ble_eq_true rfl⟩, ⟨_, _, rfl, rfl, Nat.le_of_ble_eq_true rfl⟩, ⟨_, _, rfl, rfl, Nat.le_of_ble_eq_true rfl⟩, trivial⟩) ?_; conv => whnf) | (refine ifB_intro (fun hA => ?_) (fun hA => ?_) <;> (try rw [hA]) <;> (conv => whnf) <;> (first | replace hA := of_decide_eq_true hA | replace hA := of_decide_eq_false hA | replace hA := eq_of_beq hA | replace hA := ne_of_beq_false hA | replace hA := bne_iff_ne.1 hA | replace hA := bne_eq_false_iff_eq.1 hA | skip) <;> (try simp only [ne_eq] at hA)) | (refine CallP.det (h1) ?_; conv => whnf) | (refine CallD.det (h1) ?_; conv => whnf) | (rw [getD_map _ _ _ _ (by assumption)]; conv => whnf))
  · rw [ba_toList] at hA
    rw [if_pos hA]
    refine ⟨⟨[], ?_⟩⟩
    conv => whnf
  · rw [ba_toList] at hA
    rw [if_neg hA]
    refine ⟨⟨[], ?_⟩⟩
    conv => whnf
def cutL (c : UInt8) (l : List UInt8) : List UInt8 × List UInt8 × Bool := if Lib.indexByte l c = -1 then (l, [], false) else (l.take (Lib.indexByte l c).toNat, l.drop ((Lib.indexByte l c).toNat + 1), true)
theorem cutV_eq (c : UInt8) (l : List UInt8) : cutV c l = .tup [.str (baL (cutL c l).1), .str (baL (cutL c l).2.1), .bool (cutL c l).2.2] := by
  unfold cutV cutL
  split <;> rfl
theorem cutL_len (c : UInt8) (l : List UInt8) : (cutL c l).1.length ≤ l.length ∧ (cutL c l).2.1.length ≤ l.length := by
  unfold cutL
  split
  · exact ⟨Nat.le_refl _, by simp⟩
  · exact ⟨by simp; omega, by simp⟩
def testP (l : List UInt8) : (Int × Int) × Bool := let c := cutL 61 l
  ((((fieldK c.1).getD 0 : Nat), IntKind.u16.wrap (numP c.2.1).1), c.2.2 && (fieldK c.1).isSome && (numP c.2.1).2 && decide ((2 : Int) ≤ ((fieldK c.1).getD 0 : Nat)))
theorem test37_ctr (g : GP) (he : ∀ w, g.G w → ErrG w) (l : List UInt8) (hl : l.length < 2 ^ 40) : Ctr (ax g).E 171 [.str (baL l)] [] fun o => o = .ret (.tup [.dagg (rowPr (testP l).1), .bool (testP l).2]) [] := by
  have hs := ba_size l
  have h1 := cut_ctr g (baL l) 61 (by omega)
  rw [ba_toList, cutV_eq] at h1
  obtain ⟨l1, l2⟩ := cutL_len 61 l
  have h2 := field_ctr g (baL (cutL 61 l).1)
  rw [ba_toList, fieldV] at h2
  have h3 := number37_ctr g he (cutL 61 l).2.1 (by omega)
  unfold testP
  dsimp only
  generalize cutL 61 l = x at *
  obtain ⟨a, b, k⟩ := x
  dsimp only at *
  refine Ctr.body (X := ax g) _ 42 [] [.cell 2 106, .tmp 3] Tryz.func171 rfl rfl rfl rfl (by decide +kernel) rfl rfl ?_
  conv => whnf
  repeat' (first | (refine And.intro (by first | exact rfl | decide | exact Nat.le_of_ble_eq_true rfl | exact ⟨_, rfl⟩ | exact ⟨_, _, rfl⟩ | exact Nat.le_refl _ | exact Int.le_refl _ | omega | (simp only []; omega) | exact True.intro | (simp only []; omega) | (simp only [List.length_cons, Option.getD]; omega) | (simp only [List.length_cons, List.length_nil]; omega) | exact ⟨⟨_, _, rfl, rfl, Nat.le_of_ble_eq_true rfl⟩, trivial⟩ | exact ⟨⟨_, _, rfl, rfl, Nat.le_of_ble_eq_true rfl⟩, ⟨_, _, rfl, rfl, Nat.le_of_ble_eq_true rfl⟩, trivial⟩ | exact ⟨⟨_, _, rfl, rfl, Nat.le_of_ble_eq_true rfl⟩, ⟨_, _, rfl, rfl, Nat.le_of_ble_eq_true rfl⟩, ⟨_, _, rfl, rfl, Nat.le_of_ble_eq_true rfl⟩, trivial⟩) ?_; conv => whnf) | (refine ifB_intro (fun hA => ?_) (fun hA => ?_) <;> (try rw [hA]) <;> (conv => whnf) <;> (first | replace hA := of_decide_eq_true hA | replace hA := of_decide_eq_false hA | replace hA := eq_of_beq hA | replace hA := ne_of_beq_false hA | replace hA := bne_iff_ne.1 hA | replace hA := bne_eq_false_iff_eq.1 hA | skip) <;> (try simp only [cond_true] at hA)) | (refine CallP.det (h1) ?_; conv => whnf) | (refine CallD.det (h1) ?_; conv => whnf) | (refine CallP.det (h2) ?_; conv => whnf) | (refine CallD.det (h2) ?_; conv => whnf) | (refine CallP.det (h3) ?_; conv => whnf) | (refine CallD.det (h3) ?_; conv => whnf) | (rw [getD_map _ _ _ _ (by assumption)]; conv => whnf))
  all_goals
    refine ⟨⟨[], ?_⟩⟩
    conv => whnf
    repeat' (first | (refine And.intro (by first | exact rfl | decide | exact Nat.le_of_ble_eq_true rfl | exact ⟨_, rfl⟩ | exact ⟨_, _, rfl⟩ | exact Nat.le_refl _ | exact Int.le_refl _ | omega | (simp only [List.length_map]; omega) | exact True.intro | (simp only [IntKind.wrap_i64, List.length_map]; omega) | (simp only [List.map_cons, List.map_nil, List.length_cons, Option.getD]; omega) | (simp only [bsz, ByteArray.size_append, List.size_toArray, List.length_cons, List.length_nil]; omega) | exact ⟨⟨_, _, rfl, rfl, Nat.le_of_ble_eq_true rfl⟩, trivial⟩ | exact ⟨⟨_, _, rfl, rfl, Nat.le_of_ble_eq_true rfl⟩, ⟨_, _, rfl, rfl, Nat.le_of_ble_eq_true rfl⟩, trivial⟩ | exact ⟨⟨_, _, rfl, rfl, Nat.le_of_ble_eq_true rfl⟩, ⟨_, _, rfl, rfl, Nat.le_of_ble_eq_true rfl⟩, ⟨_, _, rfl, rfl, Nat.le_of_ble_eq_true rfl⟩, trivial⟩) ?_; conv => whnf) | (refine ifB_intro (fun hA => ?_) (fun hA => ?_) <;> (try rw [hA]) <;> (conv => whnf) <;> (first | replace hA := of_decide_eq_true hA | replace hA := of_decide_eq_false hA | replace hA := eq_of_beq hA | replace hA := ne_of_beq_false hA | replace hA := bne_iff_ne.1 hA | replace hA := bne_eq_false_iff_eq.1 hA | skip) <;> (try simp only [List.length_map, cond_true, cond_false, Bool.not_eq_true', Bool.not_eq_false', beq_iff_eq, beq_eq_false_iff_ne, ne_eq] at hA)) | (rw [getD_map _ _ _ _ (by assumption)]; conv => whnf))
    try rw [hA]
    simp [cut, splice, rowPr, *]
end Go.Ax

namespace Go.Ax
open Go.Proofs
set_option maxRecDepth 10000
theorem split_len (c : UInt8) : ∀ l : List UInt8, ∀ p ∈ splitL c l, p.length ≤ l.length
  | [], p, h => by simp [splitL] at h; subst h; simp
  | b :: r, p, h => by
    rw [splitL] at h
    have ih := split_len c r
    split at h
    · rcases List.mem_cons.1 h with rfl | h
      · simp
      · have := ih p h; simp; omega
    · split at h
      · simp at h; subst h; simp
      · rename_i q qs hq
        rw [hq] at ih
        rcases List.mem_cons.1 h with rfl | h
        · have := ih q (by simp); simp; omega
        · have := ih p (by simp [h]); simp; omega
end Go.Ax
