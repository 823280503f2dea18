import Derived.Test.YtjokajidcojlmaaDoorAxLv
import Derived.Test.YtjokajidcojlmaaDoorAxW
namespace Go.Ax
open Go.Proofs Go.Lib
set_option maxRecDepth 10000

theorem awake4_ctr (g : GP) (hg : ∀ w, g.G w → LibG w) : Ctr (ax g).E 24 [] [] (fun o => o = .ret (.bool true) []) := by
  refine Ctr.body (X := ax g) _ 50 [] [.tmp 0] Tryd.func24 rfl rfl rfl rfl (by decide +kernel) rfl rfl ?_
  conv => whnf
  refine CallP.det (tokV_ctr g hg t1 (by decide)) ?_
  rw [tok1]
  conv => whnf
  repeat (first | (refine And.intro (by first | exact rfl | decide | exact Nat.le_of_ble_eq_true rfl | exact ⟨_, rfl⟩ | exact ⟨_, _, rfl⟩ | exact Nat.le_refl _ | exact Int.le_refl _ | omega | (simp only [List.length_map]; omega)) ?_; conv => whnf) | rw [getD_map _ _ _ _ (by assumption)])
  refine CallP.det (tokV_ctr g hg ⟨#[36]⟩ (by decide)) ?_
  rw [tok2]
  conv => whnf
  repeat (first | (refine And.intro (by first | exact rfl | decide | exact Nat.le_of_ble_eq_true rfl | exact ⟨_, rfl⟩ | exact ⟨_, _, rfl⟩ | exact Nat.le_refl _ | exact Int.le_refl _ | omega | (simp only [List.length_map]; omega)) ?_; conv => whnf) | rw [getD_map _ _ _ _ (by assumption)])
  refine CallP.det (lexjoin_ctr g hg l1 wt1 (by decide) (by intro t ht; simp [l1] at ht; rcases ht with rfl | rfl | rfl | rfl <;> decide)) ?_
  rw [join1]
  conv => whnf
  repeat (first | (refine And.intro (by first | exact rfl | decide | exact Nat.le_of_ble_eq_true rfl | exact ⟨_, rfl⟩ | exact ⟨_, _, rfl⟩ | exact Nat.le_refl _ | exact Int.le_refl _ | omega | (simp only [List.length_map]; omega)) ?_; conv => whnf) | rw [getD_map _ _ _ _ (by assumption)])
  refine ⟨⟨[], ?_⟩⟩
  conv => whnf
  rfl

theorem same_give (g : GP) (l : List TokT) (hl : l.length < 2 ^ 62) : Ctr (ax g).E 28 ([.d (.sl false 3 (l.map rowK)), .msl 103 (l.map rowK).length 0 (l.map rowK).length].map (frz 103 3 (l.map rowK))) [] (fun o => o = .ret (.bool true) []) := by
  have h := same_ctr g l l hl
  rw [sameK_refl] at h
  simp only [List.map_cons, List.map_nil, frz_whole 103 3 _ (l.map rowK) rfl]
  exact h
/-- The law's own answer is true. -/
theorem linesLaw_ctr (g : GP) (hg : ∀ w, g.G w → LibG w) (a b m : ByteArray) (ha : a.size < 2 ^ 62) (hb : b.size < 2 ^ 62) (hm : m.size < 2 ^ 62) : Ctr (ax g).E 5 [.str a, .str b, .str m] [] (fun o => o = .ret (.bool true) []) := by
  refine Ctr.body (X := ax g) _ 108 [] [.tmp 6] Tryd.func5 rfl rfl rfl rfl (by decide +kernel) rfl rfl ?_
  conv => whnf
  refine CallP.det (awake4_ctr g hg) ?_
  conv => whnf
  repeat (first | (refine And.intro (by first | exact rfl | decide | exact Nat.le_of_ble_eq_true rfl | exact ⟨_, rfl⟩ | exact ⟨_, _, rfl⟩ | exact Nat.le_refl _ | exact Int.le_refl _ | omega | (simp only [List.length_map]; omega)) ?_; conv => whnf) | rw [getD_map _ _ _ _ (by assumption)])
  refine ifB_intro (fun h1 => ?_) (fun h1 => ?_)
  · rw [h1]
    conv => whnf
    refine ⟨⟨[], ?_⟩⟩
    conv => whnf
  · rw [h1]
    have h1 : a.size ≤ 500 := by first | (have h0 := of_decide_eq_true h1; omega) | (have h0 := of_decide_eq_false h1; omega) | (have h0 := h1; simp at h0; omega) | (have h0 := h1; simp at h0; exact h0)
    conv => whnf
    refine ifB_intro (fun h2 => ?_) (fun h2 => ?_)
    · rw [h2]
      conv => whnf
      refine ⟨⟨[], ?_⟩⟩
      conv => whnf
    · rw [h2]
      have h2 : b.size ≤ 500 := by first | (have h0 := of_decide_eq_true h2; omega) | (have h0 := of_decide_eq_false h2; omega) | (have h0 := h2; simp at h0; omega) | (have h0 := h2; simp at h0; exact h0)
      conv => whnf
      refine ifB_intro (fun h3 => ?_) (fun h3 => ?_)
      · conv => whnf
        refine ⟨⟨[], ?_⟩⟩
        conv => whnf
      · have h3 : m.size ≤ 100 := by first | (have h0 := of_decide_eq_true h3; omega) | (have h0 := of_decide_eq_false h3; omega) | (have h0 := h3; simp at h0; omega) | (have h0 := h3; simp at h0; exact h0)
        conv => whnf
        refine LoopP.inv (X := ax g) (fun i : Nat => { f := [(0, .str a), (1, .str b), (2, .str m), (30, .i64 m.size), (31, .i64 i)], h := [] }) (fun i => i ≤ m.size ∧ ∀ j, j < i → byteAt m j ≤ 127 ∧ byteAt m j ≠ 10) (fun i => m.size - i) 0 ⟨by omega, fun j hj => by omega⟩ ⟨⟨rfl, rfl, rfl, rfl, rfl, trivial⟩, trivial⟩ fun i ⟨hi, hj⟩ => ?_
        conv => whnf
        refine ifB_intro (fun h4 => ?_) (fun h4 => ?_)
        · have h4 : i < m.size := by first | (have h0 := of_decide_eq_true h4; omega) | (have h0 := of_decide_eq_false h4; omega) | (have h0 := h4; simp at h0; omega) | (have h0 := h4; simp at h0; exact h0)
          conv => whnf
          repeat (first | (refine And.intro (by first | exact rfl | decide | exact Nat.le_of_ble_eq_true rfl | exact ⟨_, rfl⟩ | exact ⟨_, _, rfl⟩ | exact Nat.le_refl _ | exact Int.le_refl _ | omega | (simp only [List.length_map]; omega)) ?_; conv => whnf) | rw [getD_map _ _ _ _ (by assumption)])
          refine ifB_intro (fun h5 => ?_) (fun h5 => ?_)
          · rw [h5]
            conv => whnf
            refine ⟨⟨[], ?_⟩⟩
            conv => whnf
          · rw [h5]
            have h5 : (byteAt m i == 10) = false := h5
            have h5 : byteAt m i ≠ 10 := by simpa using h5
            conv => whnf
            repeat (first | (refine And.intro (by first | exact rfl | decide | exact Nat.le_of_ble_eq_true rfl | exact ⟨_, rfl⟩ | exact ⟨_, _, rfl⟩ | exact Nat.le_refl _ | exact Int.le_refl _ | omega | (simp only [List.length_map]; omega)) ?_; conv => whnf) | rw [getD_map _ _ _ _ (by assumption)])
            refine ifB_intro (fun h6 => ?_) (fun h6 => ?_)
            · conv => whnf
              refine ⟨⟨[], ?_⟩⟩
              conv => whnf
            · have h6 : decide (127 < byteAt m i) = false := h6
              have h6 : byteAt m i ≤ 127 := by first | (have h0 := of_decide_eq_true h6; omega) | (have h0 := of_decide_eq_false h6; omega) | (have h0 := h6; simp at h0; omega) | (have h0 := h6; simp at h0; exact h0)
              conv => whnf
              exact ⟨i + 1, ⟨by omega, fun j hj' => by
                rcases Nat.lt_or_ge j i with h | h
                · exact hj j h
                · have : j = i := by omega
                  subst this; exact ⟨h6, h5⟩⟩, by omega, ⟨⟨rfl, rfl, rfl, rfl, AV.int_eq (i64_succ (by omega)), trivial⟩, trivial⟩⟩
        · have h4 : ¬ i < m.size := by first | (have h0 := of_decide_eq_true h4; omega) | (have h0 := of_decide_eq_false h4; omega) | (have h0 := h4; simp at h0; omega) | (have h0 := h4; simp at h0; exact h0)
          conv => whnf
          have hmm : ∀ x ∈ m.data.toList, x.toNat < 128 ∧ x.toNat ≠ 10 := fun x hx => by
            obtain ⟨j, hj1, hj2⟩ := List.getElem_of_mem hx
            have hlt : j < m.size := by rw [← len_data]; exact hj1
            have := hj j (by omega)
            have e : byteAt m j = (x.toNat : Int) := by
              simp only [byteAt, Int.toNat_natCast]
              rw [dif_pos hlt, ← hj2]; rfl
            rw [e] at this; omega
          have hS : (a ++ ⟨#[10, 35]⟩ ++ m ++ ⟨#[10]⟩ ++ b).data.toList = linesT a m b := by
            simp [linesT, ByteArray.data_append]
          have hL := lines_law a m b _ h1 h2 h3 hmm hS
          have hSz : (a ++ ⟨#[10, 35]⟩ ++ m ++ ⟨#[10]⟩ ++ b).size < 2 ^ 62 := by
            simp only [ByteArray.size_append]
            have e1 : (⟨#[10, 35]⟩ : ByteArray).size = 2 := rfl
            have e2 : (⟨#[10]⟩ : ByteArray).size = 1 := rfl
            omega
          refine CallP.det (tokV_ctr g hg a (by omega)) ?_
          cases hA : tokensF vS a with
          | mk x e =>
            rw [hA] at hL
            cases x with
            | none =>
              conv => whnf
              repeat (first | (refine And.intro (by first | exact rfl | decide | exact Nat.le_of_ble_eq_true rfl | exact ⟨_, rfl⟩ | exact ⟨_, _, rfl⟩ | exact Nat.le_refl _ | exact Int.le_refl _ | omega | (simp only [List.length_map]; omega)) ?_; conv => whnf) | rw [getD_map _ _ _ _ (by assumption)])
              refine CallP.det (tokV_ctr g hg b (by omega)) ?_
              cases hB : tokensF vS b with
              | mk y f =>
                rw [hB] at hL
                cases y with
                | none =>
                  conv => whnf
                  repeat (first | (refine And.intro (by first | exact rfl | decide | exact Nat.le_of_ble_eq_true rfl | exact ⟨_, rfl⟩ | exact ⟨_, _, rfl⟩ | exact Nat.le_refl _ | exact Int.le_refl _ | omega | (simp only [List.length_map]; omega)) ?_; conv => whnf) | rw [getD_map _ _ _ _ (by assumption)])
                  refine And.intro (show a.size + 2 ≤ 9223372036854775807 by omega) ?_
                  conv => whnf
                  refine And.intro (by simp only [ByteArray.size_append] at hSz ⊢; omega) ?_
                  conv => whnf
                  refine And.intro (by simp only [ByteArray.size_append] at hSz ⊢; omega) ?_
                  conv => whnf
                  refine And.intro (by simp only [ByteArray.size_append] at hSz ⊢; omega) ?_
                  conv => whnf
                  refine CallP.det (tokV_ctr g hg _ hSz) ?_
                  obtain ⟨hL, he, hf⟩ := hL
                  rcases hL with hL | hL
                  · rw [hL]
                    conv => whnf
                    repeat (first | (refine And.intro (by first | exact rfl | decide | exact Nat.le_of_ble_eq_true rfl | exact ⟨_, rfl⟩ | exact ⟨_, _, rfl⟩ | exact Nat.le_refl _ | exact Int.le_refl _ | omega | (simp only [List.length_map]; omega)) ?_; conv => whnf) | rw [getD_map _ _ _ _ (by assumption)])
                    repeat' (first | (refine ifB_intro (fun h => ?_) (fun h => ?_); rotate_left; · (exfalso; revert h; simp [he, hf]; done)
                                      (try rw [h]); conv => whnf) | (refine ifB_intro (fun h => ?_) (fun h => ?_); · (exfalso; revert h; simp [he, hf]; done)
                                                                     (try rw [h]); conv => whnf) | (refine ifB_intro (fun h => ?_) (fun h => ?_) <;> (try rw [h]) <;> conv => whnf) | fail)
                    all_goals refine ⟨⟨[], ?_⟩⟩
                    all_goals conv => whnf
                    all_goals simp
                  · rw [hL]
                    conv => whnf
                    repeat (first | (refine And.intro (by first | exact rfl | decide | exact Nat.le_of_ble_eq_true rfl | exact ⟨_, rfl⟩ | exact ⟨_, _, rfl⟩ | exact Nat.le_refl _ | exact Int.le_refl _ | omega | (simp only [List.length_map]; omega)) ?_; conv => whnf) | rw [getD_map _ _ _ _ (by assumption)])
                    repeat' (first | (refine ifB_intro (fun h => ?_) (fun h => ?_); rotate_left; · (exfalso; revert h; simp [he, hf]; done)
                                      (try rw [h]); conv => whnf) | (refine ifB_intro (fun h => ?_) (fun h => ?_); · (exfalso; revert h; simp [he, hf]; done)
                                                                     (try rw [h]); conv => whnf) | (refine ifB_intro (fun h => ?_) (fun h => ?_) <;> (try rw [h]) <;> conv => whnf) | fail)
                    all_goals refine ⟨⟨[], ?_⟩⟩
                    all_goals conv => whnf
                    all_goals simp
                | some k =>
                  conv => whnf
                  repeat (first | (refine And.intro (by first | exact rfl | decide | exact Nat.le_of_ble_eq_true rfl | exact ⟨_, rfl⟩ | exact ⟨_, _, rfl⟩ | exact Nat.le_refl _ | exact Int.le_refl _ | omega | (simp only [List.length_map]; omega)) ?_; conv => whnf) | rw [getD_map _ _ _ _ (by assumption)])
                  refine And.intro (show a.size + 2 ≤ 9223372036854775807 by omega) ?_
                  conv => whnf
                  refine And.intro (by simp only [ByteArray.size_append] at hSz ⊢; omega) ?_
                  conv => whnf
                  refine And.intro (by simp only [ByteArray.size_append] at hSz ⊢; omega) ?_
                  conv => whnf
                  refine And.intro (by simp only [ByteArray.size_append] at hSz ⊢; omega) ?_
                  conv => whnf
                  refine CallP.det (tokV_ctr g hg _ hSz) ?_
                  obtain ⟨hL, he, hf⟩ := hL
                  rw [hL]
                  conv => whnf
                  repeat (first | (refine And.intro (by first | exact rfl | decide | exact Nat.le_of_ble_eq_true rfl | exact ⟨_, rfl⟩ | exact ⟨_, _, rfl⟩ | exact Nat.le_refl _ | exact Int.le_refl _ | omega | (simp only [List.length_map]; omega)) ?_; conv => whnf) | rw [getD_map _ _ _ _ (by assumption)])
                  repeat' (first | (refine ifB_intro (fun h => ?_) (fun h => ?_); rotate_left; · (exfalso; revert h; simp [he, hf]; done)
                                    (try rw [h]); conv => whnf) | (refine ifB_intro (fun h => ?_) (fun h => ?_); · (exfalso; revert h; simp [he, hf]; done)
                                                                   (try rw [h]); conv => whnf) | (refine ifB_intro (fun h => ?_) (fun h => ?_) <;> (try rw [h]) <;> conv => whnf) | fail)
                  all_goals refine ⟨⟨[], ?_⟩⟩
                  all_goals conv => whnf
                  all_goals simp
            | some l =>
              conv => whnf
              repeat (first | (refine And.intro (by first | exact rfl | decide | exact Nat.le_of_ble_eq_true rfl | exact ⟨_, rfl⟩ | exact ⟨_, _, rfl⟩ | exact Nat.le_refl _ | exact Int.le_refl _ | omega | (simp only [List.length_map]; omega)) ?_; conv => whnf) | rw [getD_map _ _ _ _ (by assumption)])
              refine CallP.det (tokV_ctr g hg b (by omega)) ?_
              cases hB : tokensF vS b with
              | mk y f =>
                rw [hB] at hL
                cases y with
                | none =>
                  conv => whnf
                  repeat (first | (refine And.intro (by first | exact rfl | decide | exact Nat.le_of_ble_eq_true rfl | exact ⟨_, rfl⟩ | exact ⟨_, _, rfl⟩ | exact Nat.le_refl _ | exact Int.le_refl _ | omega | (simp only [List.length_map]; omega)) ?_; conv => whnf) | rw [getD_map _ _ _ _ (by assumption)])
                  refine And.intro (show a.size + 2 ≤ 9223372036854775807 by omega) ?_
                  conv => whnf
                  refine And.intro (by simp only [ByteArray.size_append] at hSz ⊢; omega) ?_
                  conv => whnf
                  refine And.intro (by simp only [ByteArray.size_append] at hSz ⊢; omega) ?_
                  conv => whnf
                  refine And.intro (by simp only [ByteArray.size_append] at hSz ⊢; omega) ?_
                  conv => whnf
                  refine CallP.det (tokV_ctr g hg _ hSz) ?_
                  obtain ⟨hL, he, hf⟩ := hL
                  rw [hL]
                  conv => whnf
                  repeat (first | (refine And.intro (by first | exact rfl | decide | exact Nat.le_of_ble_eq_true rfl | exact ⟨_, rfl⟩ | exact ⟨_, _, rfl⟩ | exact Nat.le_refl _ | exact Int.le_refl _ | omega | (simp only [List.length_map]; omega)) ?_; conv => whnf) | rw [getD_map _ _ _ _ (by assumption)])
                  repeat' (first | (refine ifB_intro (fun h => ?_) (fun h => ?_); rotate_left; · (exfalso; revert h; simp [he, hf]; done)
                                    (try rw [h]); conv => whnf) | (refine ifB_intro (fun h => ?_) (fun h => ?_); · (exfalso; revert h; simp [he, hf]; done)
                                                                   (try rw [h]); conv => whnf) | (refine ifB_intro (fun h => ?_) (fun h => ?_) <;> (try rw [h]) <;> conv => whnf) | fail)
                  all_goals refine ⟨⟨[], ?_⟩⟩
                  all_goals conv => whnf
                  all_goals simp
                | some k =>
                  conv => whnf
                  repeat (first | (refine And.intro (by first | exact rfl | decide | exact Nat.le_of_ble_eq_true rfl | exact ⟨_, rfl⟩ | exact ⟨_, _, rfl⟩ | exact Nat.le_refl _ | exact Int.le_refl _ | omega | (simp only [List.length_map]; omega)) ?_; conv => whnf) | rw [getD_map _ _ _ _ (by assumption)])
                  refine And.intro (show a.size + 2 ≤ 9223372036854775807 by omega) ?_
                  conv => whnf
                  refine And.intro (by simp only [ByteArray.size_append] at hSz ⊢; omega) ?_
                  conv => whnf
                  refine And.intro (by simp only [ByteArray.size_append] at hSz ⊢; omega) ?_
                  conv => whnf
                  refine And.intro (by simp only [ByteArray.size_append] at hSz ⊢; omega) ?_
                  conv => whnf
                  refine CallP.det (tokV_ctr g hg _ hSz) ?_
                  obtain ⟨hL, he, hf⟩ := hL
                  rw [hL]
                  conv => whnf
                  repeat (first | (refine And.intro (by first | exact rfl | decide | exact Nat.le_of_ble_eq_true rfl | exact ⟨_, rfl⟩ | exact ⟨_, _, rfl⟩ | exact Nat.le_refl _ | exact Int.le_refl _ | omega | (simp only [List.length_map]; omega)) ?_; conv => whnf) | rw [getD_map _ _ _ _ (by assumption)])
                  subst he
                  subst hf
                  obtain ⟨_, _, l', hl', _, _, hlen⟩ := tok_some hA
                  obtain ⟨_, _, k', hk', _, _, hklen⟩ := tok_some hB
                  subst hl'
                  rw [List.dropLast_concat]
                  have hw : IntKind.i64.wrap ((((l' ++ [noTok]).map rowK).length : Int) - 1) = (l'.length : Int) := by
                    rw [List.length_map, List.length_append, i64_wrap (by simp; try omega) (by simp; try omega)]; simp
                  conv => whnf
                  repeat (first | (refine And.intro (by first | exact rfl | decide | exact Nat.le_of_ble_eq_true rfl | exact ⟨_, rfl⟩ | exact ⟨_, _, rfl⟩ | exact Nat.le_refl _ | exact Int.le_refl _ | omega | (simp only [List.length_map]; omega)) ?_; conv => whnf) | rw [getD_map _ _ _ _ (by assumption)])
                  rw [hw]
                  refine And.intro (show (0 : Int) ≤ (l'.length : Int) by omega) ?_
                  refine And.intro (show (l'.length : Int) ≤ (((l' ++ [noTok]).map rowK).length : Int) by simp; omega) ?_
                  have hsl : ∀ X : Int, List.take (((some (l'.length : Int)).getD X).toNat - ((none : Option Int).getD 0).toNat) (List.drop ((none : Option Int).getD 0).toNat ((l' ++ [noTok]).map rowK)) = l'.map rowK := fun X => by
                    simp [List.take_append_of_le_length]
                  conv => whnf
                  rw [hsl]
                  refine And.intro (by show ((l'.map rowK).length) * 32 ≤ 140737488355328; rw [List.length_map]; omega) ?_
                  conv => whnf
                  refine And.intro rfl ?_
                  refine And.intro rfl ?_
                  refine And.intro (by show ((l'.map rowK).length + (k.map rowK).length) * 32 ≤ 140737488355328; rw [List.length_map, List.length_map, hk', List.length_append]; simp; omega) ?_
                  conv => whnf
                  refine CallP.arg (args' := [.d (.sl false 3 ((l' ++ k).map rowK)), .msl 103 ((l' ++ k).map rowK).length 0 ((l' ++ k).map rowK).length]) (by simp) ?_
                  refine CallP.give 103 3 44 ((l' ++ k).map rowK) (show some (AObj.buf 3 44 (l'.map rowK ++ k.map rowK)) = some (AObj.buf 3 44 ((l' ++ k).map rowK)) from by rw [List.map_append]) (same_give g (l' ++ k) (by rw [hk', List.length_append, List.length_append]; simp; omega)) ?_
                  conv => whnf
                  refine ⟨⟨[], ?_⟩⟩
                  conv => whnf
                  rfl
end Go.Ax
