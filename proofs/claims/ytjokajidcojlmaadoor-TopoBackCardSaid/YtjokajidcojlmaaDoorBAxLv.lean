import Derived.Test.YtjokajidcojlmaaDoorBAxLj
import Derived.Test.YtjokajidcojlmaaDoorBAxV

/- The laws of layer 4, walked. -/
namespace Go.Ax

open Go.Proofs Go.Lib
set_option maxRecDepth 10000

theorem tokV_ctr (g : GP) (hg : ∀ w, g.G w → LibG w) (s : ByteArray) (hs : s.size < 2 ^ 62) : Ctr (ax g).E 27 [.str s] [] (fun o => o = .ret (tokAV (tokensF vS s)) []) :=
  tokens_ctr g hg vS (fun s h => valid_ctr g hg s (by omega)) s hs

theorem wt_len (l : List TokT) : l.length ≤ wt l := by
  induction l with
  | nil => simp
  | cons t l ih => rw [show t :: l = [t] ++ l from rfl, wt_app, wt_one, List.length_append]; simp; omega
/-- What the tokens of a text are. -/
theorem tok_some {s : ByteArray} {m : List TokT} {e : Int} (h : tokensF vS s = (some m, e)) : e = 0 ∧ s.size ≤ 4000 ∧ ∃ l, m = l ++ [noTok] ∧ (∀ t ∈ l, TokOk t) ∧ wt l ≤ 6 * s.size ∧ l.length ≤ 6 * s.size := by
  have hs : s.size ≤ 4000 := by
    rcases Nat.lt_or_ge 4000 s.size with h1 | h1
    · rw [tokensF, if_pos h1] at h; exact absurd h (by simp)
    · exact h1
  rw [tokensF_T s hs] at h
  cases hv : vS s with
  | false => rw [hv, if_pos rfl] at h; exact absurd h (by simp)
  | true =>
    rw [hv, if_neg (by simp)] at h
    obtain ⟨l, h1, h2, h3⟩ := tokT_ok _ (chunks s.data.toList) [] (Nat.le_refl _) (good_chunks _) (by rw [← valid_chunks]; exact hv) (fun t ht => by simp at ht) m e h
    have he : e = 0 := by
      rcases tokT_ends _ (chunks s.data.toList) [] (Nat.le_refl _) with ⟨k, g⟩ | ⟨f, g, _⟩
      · rw [g] at h; injection h with _ h; exact h.symm
      · rw [g] at h; exact absurd h (by simp)
    rw [flat_chunks, len_data] at h3
    have h4 : wt l ≤ 6 * s.size := by simpa [wt] using h3
    exact ⟨he, hs, l, h1, h2, h4, by have := wt_len l; omega⟩

def t1 : ByteArray := ⟨#[100, 115, 116, 58, 61, 55, 32, 35, 32, 120]⟩
def l1 : List TokT := [⟨1, ⟨#[100, 115, 116]⟩, 0⟩, ⟨3, ⟨#[58, 61]⟩, 0⟩, ⟨2, ⟨#[]⟩, 7⟩, noTok]
theorem tok1 : tokensF vS t1 = (some l1, 0) := by
  rw [tokensF_T _ (by decide)]
  rw [show vS t1 = true from by decide +kernel, if_neg (by simp)]
  have : chunks t1.data.toList = [(100, [100]), (115, [115]), (116, [116]), (58, [58]), (61, [61]), (55, [55]), (32, [32]), (35, [35]), (32, [32]), (120, [120])] := by decide +kernel
  rw [this]
  rfl
theorem tok2 : tokensF vS ⟨#[36]⟩ = (none, 10) := by
  rw [tokensF_T _ (by decide)]
  rw [show vS ⟨#[36]⟩ = true from by decide +kernel, if_neg (by simp)]
  have : chunks (⟨#[36]⟩ : ByteArray).data.toList = [(36, [36])] := by decide +kernel
  rw [this]
  rfl
theorem wt1 : wt l1 ≤ 2 ^ 40 := by
  have : wt l1 = 10 := by simp [wt, l1, txtB, noTok, decDigits_one]
  omega
theorem join1 : joinS (ahead l1) = ⟨#[100, 115, 116, 32, 58, 61, 32, 55]⟩ := by
  rw [joinS, show (ahead l1).map txtB = [[100, 115, 116], [58, 61], decDigits 7] from rfl, decDigits_one (by decide)]
  rfl
end Go.Ax

namespace Go.Ax
open Go.Proofs Go.Lib
set_option maxRecDepth 10000

theorem awake4_ctr (g : GP) (hg : ∀ w, g.G w → LibG w) : Ctr (ax g).E 24 [] [] (fun o => o = .ret (.bool true) []) := by
  refine Ctr.body (X := ax g) _ 50 [] [.tmp 0] Tryd.func24 rfl rfl rfl rfl (by decide +kernel) rfl rfl ?_
  conv => whnf
  refine CallP.det (tokV_ctr g hg t1 (by decide)) ?_
  rw [tok1]
  conv => whnf
  repeat (first | (refine And.intro (by first | exact rfl | decide | exact Nat.le_of_ble_eq_true rfl | exact ⟨_, rfl⟩ | exact ⟨_, _, rfl⟩ | exact Nat.le_refl _ | exact Int.le_refl _ | omega | (simp only [List.length_map]; omega)) ?_; conv => whnf) | rw [getD_map _ _ _ _ (by assumption)])
  refine CallP.det (tokV_ctr g hg ⟨#[36]⟩ (by decide)) ?_
  rw [tok2]
  conv => whnf
  repeat (first | (refine And.intro (by first | exact rfl | decide | exact Nat.le_of_ble_eq_true rfl | exact ⟨_, rfl⟩ | exact ⟨_, _, rfl⟩ | exact Nat.le_refl _ | exact Int.le_refl _ | omega | (simp only [List.length_map]; omega)) ?_; conv => whnf) | rw [getD_map _ _ _ _ (by assumption)])
  refine CallP.det (lexjoin_ctr g hg l1 wt1 (by decide) (by intro t ht; simp [l1] at ht; rcases ht with rfl | rfl | rfl | rfl <;> decide)) ?_
  rw [join1]
  conv => whnf
  repeat (first | (refine And.intro (by first | exact rfl | decide | exact Nat.le_of_ble_eq_true rfl | exact ⟨_, rfl⟩ | exact ⟨_, _, rfl⟩ | exact Nat.le_refl _ | exact Int.le_refl _ | omega | (simp only [List.length_map]; omega)) ?_; conv => whnf) | rw [getD_map _ _ _ _ (by assumption)])
  refine ⟨⟨[], ?_⟩⟩
  conv => whnf
  rfl

theorem same_give (g : GP) (l : List TokT) (hl : l.length < 2 ^ 62) : Ctr (ax g).E 28 ([.d (.sl false 3 (l.map rowK)), .msl 103 (l.map rowK).length 0 (l.map rowK).length].map (frz 103 3 (l.map rowK))) [] (fun o => o = .ret (.bool true) []) := by
  have h := same_ctr g l l hl
  rw [sameK_refl] at h
  simp only [List.map_cons, List.map_nil, frz_whole 103 3 _ (l.map rowK) rfl]
  exact h
/-- The law's own answer is true. -/
theorem linesLaw_ctr (g : GP) (hg : ∀ w, g.G w → LibG w) (a b m : ByteArray) (ha : a.size < 2 ^ 62) (hb : b.size < 2 ^ 62) (hm : m.size < 2 ^ 62) : Ctr (ax g).E 5 [.str a, .str b, .str m] [] (fun o => o = .ret (.bool true) []) := by
  refine Ctr.body (X := ax g) _ 108 [] [.tmp 6] Tryd.func5 rfl rfl rfl rfl (by decide +kernel) rfl rfl ?_
  conv => whnf
  refine CallP.det (awake4_ctr g hg) ?_
  conv => whnf
  repeat (first | (refine And.intro (by first | exact rfl | decide | exact Nat.le_of_ble_eq_true rfl | exact ⟨_, rfl⟩ | exact ⟨_, _, rfl⟩ | exact Nat.le_refl _ | exact Int.le_refl _ | omega | (simp only [List.length_map]; omega)) ?_; conv => whnf) | rw [getD_map _ _ _ _ (by assumption)])
  refine ifB_intro (fun h1 => ?_) (fun h1 => ?_)
  · rw [h1]
    conv => whnf
    refine ⟨⟨[], ?_⟩⟩
    conv => whnf
  · rw [h1]
    have h1 : a.size ≤ 500 := by first | (have h0 := of_decide_eq_true h1; omega) | (have h0 := of_decide_eq_false h1; omega) | (have h0 := h1; simp at h0; omega) | (have h0 := h1; simp at h0; exact h0)
    conv => whnf
    refine ifB_intro (fun h2 => ?_) (fun h2 => ?_)
    · rw [h2]
      conv => whnf
      refine ⟨⟨[], ?_⟩⟩
      conv => whnf
    · rw [h2]
      have h2 : b.size ≤ 500 := by first | (have h0 := of_decide_eq_true h2; omega) | (have h0 := of_decide_eq_false h2; omega) | (have h0 := h2; simp at h0; omega) | (have h0 := h2; simp at h0; exact h0)
      conv => whnf
      refine ifB_intro (fun h3 => ?_) (fun h3 => ?_)
      · conv => whnf
        refine ⟨⟨[], ?_⟩⟩
        conv => whnf
      · have h3 : m.size ≤ 100 := by first | (have h0 := of_decide_eq_true h3; omega) | (have h0 := of_decide_eq_false h3; omega) | (have h0 := h3; simp at h0; omega) | (have h0 := h3; simp at h0; exact h0)
        conv => whnf
        refine LoopP.inv (X := ax g) (fun i : Nat => { f := [(0, .str a), (1, .str b), (2, .str m), (30, .i64 m.size), (31, .i64 i)], h := [] }) (fun i => i ≤ m.size ∧ ∀ j, j < i → byteAt m j ≤ 127 ∧ byteAt m j ≠ 10) (fun i => m.size - i) 0 ⟨by omega, fun j hj => by omega⟩ ⟨⟨rfl, rfl, rfl, rfl, rfl, trivial⟩, trivial⟩ fun i ⟨hi, hj⟩ => ?_
        conv => whnf
        refine ifB_intro (fun h4 => ?_) (fun h4 => ?_)
        · have h4 : i < m.size := by first | (have h0 := of_decide_eq_true h4; omega) | (have h0 := of_decide_eq_false h4; omega) | (have h0 := h4; simp at h0; omega) | (have h0 := h4; simp at h0; exact h0)
          conv => whnf
          repeat (first | (refine And.intro (by first | exact rfl | decide | exact Nat.le_of_ble_eq_true rfl | exact ⟨_, rfl⟩ | exact ⟨_, _, rfl⟩ | exact Nat.le_refl _ | exact Int.le_refl _ | omega | (simp only [List.length_map]; omega)) ?_; conv => whnf) | rw [getD_map _ _ _ _ (by assumption)])
          refine ifB_intro (fun h5 => ?_) (fun h5 => ?_)
          · rw [h5]
            conv => whnf
            refine ⟨⟨[], ?_⟩⟩
            conv => whnf
          · rw [h5]
            have h5 : (byteAt m i == 10) = false := h5
            have h5 : byteAt m i ≠ 10 := by simpa using h5
            conv => whnf
            repeat (first | (refine And.intro (by first | exact rfl | decide | exact Nat.le_of_ble_eq_true rfl | exact ⟨_, rfl⟩ | exact ⟨_, _, rfl⟩ | exact Nat.le_refl _ | exact Int.le_refl _ | omega | (simp only [List.length_map]; omega)) ?_; conv => whnf) | rw [getD_map _ _ _ _ (by assumption)])
            refine ifB_intro (fun h6 => ?_) (fun h6 => ?_)
            · conv => whnf
              refine ⟨⟨[], ?_⟩⟩
              conv => whnf
            · have h6 : decide (127 < byteAt m i) = false := h6
              have h6 : byteAt m i ≤ 127 := by first | (have h0 := of_decide_eq_true h6; omega) | (have h0 := of_decide_eq_false h6; omega) | (have h0 := h6; simp at h0; omega) | (have h0 := h6; simp at h0; exact h0)
              conv => whnf
              exact ⟨i + 1, ⟨by omega, fun j hj' => by
                rcases Nat.lt_or_ge j i with h | h
                · exact hj j h
                · have : j = i := by omega
                  subst this; exact ⟨h6, h5⟩⟩, by omega, ⟨⟨rfl, rfl, rfl, rfl, AV.int_eq (i64_succ (by omega)), trivial⟩, trivial⟩⟩
        · have h4 : ¬ i < m.size := by first | (have h0 := of_decide_eq_true h4; omega) | (have h0 := of_decide_eq_false h4; omega) | (have h0 := h4; simp at h0; omega) | (have h0 := h4; simp at h0; exact h0)
          conv => whnf
          have hmm : ∀ x ∈ m.data.toList, x.toNat < 128 ∧ x.toNat ≠ 10 := fun x hx => by
            obtain ⟨j, hj1, hj2⟩ := List.getElem_of_mem hx
            have hlt : j < m.size := by rw [← len_data]; exact hj1
            have := hj j (by omega)
            have e : byteAt m j = (x.toNat : Int) := by
              simp only [byteAt, Int.toNat_natCast]
              rw [dif_pos hlt, ← hj2]; rfl
            rw [e] at this; omega
          have hS : (a ++ ⟨#[10, 35]⟩ ++ m ++ ⟨#[10]⟩ ++ b).data.toList = linesT a m b := by
            simp [linesT, ByteArray.data_append]
          have hL := lines_law a m b _ h1 h2 h3 hmm hS
          have hSz : (a ++ ⟨#[10, 35]⟩ ++ m ++ ⟨#[10]⟩ ++ b).size < 2 ^ 62 := by
            simp only [ByteArray.size_append]
            have e1 : (⟨#[10, 35]⟩ : ByteArray).size = 2 := rfl
            have e2 : (⟨#[10]⟩ : ByteArray).size = 1 := rfl
            omega
          refine CallP.det (tokV_ctr g hg a (by omega)) ?_
          cases hA : tokensF vS a with
          | mk x e =>
            rw [hA] at hL
            cases x with
            | none =>
              conv => whnf
              repeat (first | (refine And.intro (by first | exact rfl | decide | exact Nat.le_of_ble_eq_true rfl | exact ⟨_, rfl⟩ | exact ⟨_, _, rfl⟩ | exact Nat.le_refl _ | exact Int.le_refl _ | omega | (simp only [List.length_map]; omega)) ?_; conv => whnf) | rw [getD_map _ _ _ _ (by assumption)])
              refine CallP.det (tokV_ctr g hg b (by omega)) ?_
              cases hB : tokensF vS b with
              | mk y f =>
                rw [hB] at hL
                cases y with
                | none =>
                  conv => whnf
                  repeat (first | (refine And.intro (by first | exact rfl | decide | exact Nat.le_of_ble_eq_true rfl | exact ⟨_, rfl⟩ | exact ⟨_, _, rfl⟩ | exact Nat.le_refl _ | exact Int.le_refl _ | omega | (simp only [List.length_map]; omega)) ?_; conv => whnf) | rw [getD_map _ _ _ _ (by assumption)])
                  refine And.intro (show a.size + 2 ≤ 9223372036854775807 by omega) ?_
                  conv => whnf
                  refine And.intro (by simp only [ByteArray.size_append] at hSz ⊢; omega) ?_
                  conv => whnf
                  refine And.intro (by simp only [ByteArray.size_append] at hSz ⊢; omega) ?_
                  conv => whnf
                  refine And.intro (by simp only [ByteArray.size_append] at hSz ⊢; omega) ?_
                  conv => whnf
                  refine CallP.det (tokV_ctr g hg _ hSz) ?_
                  obtain ⟨hL, he, hf⟩ := hL
                  rcases hL with hL | hL
                  · rw [hL]
                    conv => whnf
                    repeat (first | (refine And.intro (by first | exact rfl | decide | exact Nat.le_of_ble_eq_true rfl | exact ⟨_, rfl⟩ | exact ⟨_, _, rfl⟩ | exact Nat.le_refl _ | exact Int.le_refl _ | omega | (simp only [List.length_map]; omega)) ?_; conv => whnf) | rw [getD_map _ _ _ _ (by assumption)])
                    repeat' (first | (refine ifB_intro (fun h => ?_) (fun h => ?_); rotate_left; · (exfalso; revert h; simp [he, hf]; done)
                                      (try rw [h]); conv => whnf) | (refine ifB_intro (fun h => ?_) (fun h => ?_); · (exfalso; revert h; simp [he, hf]; done)
                                                                     (try rw [h]); conv => whnf) | (refine ifB_intro (fun h => ?_) (fun h => ?_) <;> (try rw [h]) <;> conv => whnf) | fail)
                    all_goals refine ⟨⟨[], ?_⟩⟩
                    all_goals conv => whnf
                    all_goals simp
                  · rw [hL]
                    conv => whnf
                    repeat (first | (refine And.intro (by first | exact rfl | decide | exact Nat.le_of_ble_eq_true rfl | exact ⟨_, rfl⟩ | exact ⟨_, _, rfl⟩ | exact Nat.le_refl _ | exact Int.le_refl _ | omega | (simp only [List.length_map]; omega)) ?_; conv => whnf) | rw [getD_map _ _ _ _ (by assumption)])
                    repeat' (first | (refine ifB_intro (fun h => ?_) (fun h => ?_); rotate_left; · (exfalso; revert h; simp [he, hf]; done)
                                      (try rw [h]); conv => whnf) | (refine ifB_intro (fun h => ?_) (fun h => ?_); · (exfalso; revert h; simp [he, hf]; done)
                                                                     (try rw [h]); conv => whnf) | (refine ifB_intro (fun h => ?_) (fun h => ?_) <;> (try rw [h]) <;> conv => whnf) | fail)
                    all_goals refine ⟨⟨[], ?_⟩⟩
                    all_goals conv => whnf
                    all_goals simp
                | some k =>
                  conv => whnf
                  repeat (first | (refine And.intro (by first | exact rfl | decide | exact Nat.le_of_ble_eq_true rfl | exact ⟨_, rfl⟩ | exact ⟨_, _, rfl⟩ | exact Nat.le_refl _ | exact Int.le_refl _ | omega | (simp only [List.length_map]; omega)) ?_; conv => whnf) | rw [getD_map _ _ _ _ (by assumption)])
                  refine And.intro (show a.size + 2 ≤ 9223372036854775807 by omega) ?_
                  conv => whnf
                  refine And.intro (by simp only [ByteArray.size_append] at hSz ⊢; omega) ?_
                  conv => whnf
                  refine And.intro (by simp only [ByteArray.size_append] at hSz ⊢; omega) ?_
                  conv => whnf
                  refine And.intro (by simp only [ByteArray.size_append] at hSz ⊢; omega) ?_
                  conv => whnf
                  refine CallP.det (tokV_ctr g hg _ hSz) ?_
                  obtain ⟨hL, he, hf⟩ := hL
                  rw [hL]
                  conv => whnf
                  repeat (first | (refine And.intro (by first | exact rfl | decide | exact Nat.le_of_ble_eq_true rfl | exact ⟨_, rfl⟩ | exact ⟨_, _, rfl⟩ | exact Nat.le_refl _ | exact Int.le_refl _ | omega | (simp only [List.length_map]; omega)) ?_; conv => whnf) | rw [getD_map _ _ _ _ (by assumption)])
                  repeat' (first | (refine ifB_intro (fun h => ?_) (fun h => ?_); rotate_left; · (exfalso; revert h; simp [he, hf]; done)
                                    (try rw [h]); conv => whnf) | (refine ifB_intro (fun h => ?_) (fun h => ?_); · (exfalso; revert h; simp [he, hf]; done)
                                                                   (try rw [h]); conv => whnf) | (refine ifB_intro (fun h => ?_) (fun h => ?_) <;> (try rw [h]) <;> conv => whnf) | fail)
                  all_goals refine ⟨⟨[], ?_⟩⟩
                  all_goals conv => whnf
                  all_goals simp
            | some l =>
              conv => whnf
              repeat (first | (refine And.intro (by first | exact rfl | decide | exact Nat.le_of_ble_eq_true rfl | exact ⟨_, rfl⟩ | exact ⟨_, _, rfl⟩ | exact Nat.le_refl _ | exact Int.le_refl _ | omega | (simp only [List.length_map]; omega)) ?_; conv => whnf) | rw [getD_map _ _ _ _ (by assumption)])
              refine CallP.det (tokV_ctr g hg b (by omega)) ?_
              cases hB : tokensF vS b with
              | mk y f =>
                rw [hB] at hL
                cases y with
                | none =>
                  conv => whnf
                  repeat (first | (refine And.intro (by first | exact rfl | decide | exact Nat.le_of_ble_eq_true rfl | exact ⟨_, rfl⟩ | exact ⟨_, _, rfl⟩ | exact Nat.le_refl _ | exact Int.le_refl _ | omega | (simp only [List.length_map]; omega)) ?_; conv => whnf) | rw [getD_map _ _ _ _ (by assumption)])
                  refine And.intro (show a.size + 2 ≤ 9223372036854775807 by omega) ?_
                  conv => whnf
                  refine And.intro (by simp only [ByteArray.size_append] at hSz ⊢; omega) ?_
                  conv => whnf
                  refine And.intro (by simp only [ByteArray.size_append] at hSz ⊢; omega) ?_
                  conv => whnf
                  refine And.intro (by simp only [ByteArray.size_append] at hSz ⊢; omega) ?_
                  conv => whnf
                  refine CallP.det (tokV_ctr g hg _ hSz) ?_
                  obtain ⟨hL, he, hf⟩ := hL
                  rw [hL]
                  conv => whnf
                  repeat (first | (refine And.intro (by first | exact rfl | decide | exact Nat.le_of_ble_eq_true rfl | exact ⟨_, rfl⟩ | exact ⟨_, _, rfl⟩ | exact Nat.le_refl _ | exact Int.le_refl _ | omega | (simp only [List.length_map]; omega)) ?_; conv => whnf) | rw [getD_map _ _ _ _ (by assumption)])
                  repeat' (first | (refine ifB_intro (fun h => ?_) (fun h => ?_); rotate_left; · (exfalso; revert h; simp [he, hf]; done)
                                    (try rw [h]); conv => whnf) | (refine ifB_intro (fun h => ?_) (fun h => ?_); · (exfalso; revert h; simp [he, hf]; done)
                                                                   (try rw [h]); conv => whnf) | (refine ifB_intro (fun h => ?_) (fun h => ?_) <;> (try rw [h]) <;> conv => whnf) | fail)
                  all_goals refine ⟨⟨[], ?_⟩⟩
                  all_goals conv => whnf
                  all_goals simp
                | some k =>
                  conv => whnf
                  repeat (first | (refine And.intro (by first | exact rfl | decide | exact Nat.le_of_ble_eq_true rfl | exact ⟨_, rfl⟩ | exact ⟨_, _, rfl⟩ | exact Nat.le_refl _ | exact Int.le_refl _ | omega | (simp only [List.length_map]; omega)) ?_; conv => whnf) | rw [getD_map _ _ _ _ (by assumption)])
                  refine And.intro (show a.size + 2 ≤ 9223372036854775807 by omega) ?_
                  conv => whnf
                  refine And.intro (by simp only [ByteArray.size_append] at hSz ⊢; omega) ?_
                  conv => whnf
                  refine And.intro (by simp only [ByteArray.size_append] at hSz ⊢; omega) ?_
                  conv => whnf
                  refine And.intro (by simp only [ByteArray.size_append] at hSz ⊢; omega) ?_
                  conv => whnf
                  refine CallP.det (tokV_ctr g hg _ hSz) ?_
                  obtain ⟨hL, he, hf⟩ := hL
                  rw [hL]
                  conv => whnf
                  repeat (first | (refine And.intro (by first | exact rfl | decide | exact Nat.le_of_ble_eq_true rfl | exact ⟨_, rfl⟩ | exact ⟨_, _, rfl⟩ | exact Nat.le_refl _ | exact Int.le_refl _ | omega | (simp only [List.length_map]; omega)) ?_; conv => whnf) | rw [getD_map _ _ _ _ (by assumption)])
                  subst he
                  subst hf
                  obtain ⟨_, _, l', hl', _, _, hlen⟩ := tok_some hA
                  obtain ⟨_, _, k', hk', _, _, hklen⟩ := tok_some hB
                  subst hl'
                  rw [List.dropLast_concat]
                  have hw : IntKind.i64.wrap ((((l' ++ [noTok]).map rowK).length : Int) - 1) = (l'.length : Int) := by
                    rw [List.length_map, List.length_append, i64_wrap (by simp; try omega) (by simp; try omega)]; simp
                  conv => whnf
                  repeat (first | (refine And.intro (by first | exact rfl | decide | exact Nat.le_of_ble_eq_true rfl | exact ⟨_, rfl⟩ | exact ⟨_, _, rfl⟩ | exact Nat.le_refl _ | exact Int.le_refl _ | omega | (simp only [List.length_map]; omega)) ?_; conv => whnf) | rw [getD_map _ _ _ _ (by assumption)])
                  rw [hw]
                  refine And.intro (show (0 : Int) ≤ (l'.length : Int) by omega) ?_
                  refine And.intro (show (l'.length : Int) ≤ (((l' ++ [noTok]).map rowK).length : Int) by simp; omega) ?_
                  have hsl : ∀ X : Int, List.take (((some (l'.length : Int)).getD X).toNat - ((none : Option Int).getD 0).toNat) (List.drop ((none : Option Int).getD 0).toNat ((l' ++ [noTok]).map rowK)) = l'.map rowK := fun X => by
                    simp [List.take_append_of_le_length]
                  conv => whnf
                  rw [hsl]
                  refine And.intro (by show ((l'.map rowK).length) * 32 ≤ 140737488355328; rw [List.length_map]; omega) ?_
                  conv => whnf
                  refine And.intro rfl ?_
                  refine And.intro rfl ?_
                  refine And.intro (by show ((l'.map rowK).length + (k.map rowK).length) * 32 ≤ 140737488355328; rw [List.length_map, List.length_map, hk', List.length_append]; simp; omega) ?_
                  conv => whnf
                  refine CallP.arg (args' := [.d (.sl false 3 ((l' ++ k).map rowK)), .msl 103 ((l' ++ k).map rowK).length 0 ((l' ++ k).map rowK).length]) (by simp) ?_
                  refine CallP.give 103 3 44 ((l' ++ k).map rowK) (show some (AObj.buf 3 44 (l'.map rowK ++ k.map rowK)) = some (AObj.buf 3 44 ((l' ++ k).map rowK)) from by rw [List.map_append]) (same_give g (l' ++ k) (by rw [hk', List.length_append, List.length_append]; simp; omega)) ?_
                  conv => whnf
                  refine ⟨⟨[], ?_⟩⟩
                  conv => whnf
                  rfl
end Go.Ax

/- The law LexBack, walked. -/
namespace Go.Ax
open Go.Proofs Go.Lib
set_option maxRecDepth 10000

theorem wt_le (c : Nat) : ∀ (l : List TokT), (∀ t ∈ l, (txtB t).length ≤ c) → wt l ≤ l.length * (c + 1)
  | [], _ => by simp [wt]
  | t :: l, h => by
    have := wt_le c l fun x hx => h x (by simp [hx])
    have h1 := h t (by simp)
    rw [show t :: l = [t] ++ l from rfl, wt_app, wt_one, List.length_append, Nat.add_mul]
    simp; omega
theorem tok_none {s : ByteArray} {e : Int} (hs : s.size ≤ 4000) (h : tokensF vS s = (none, e)) : e ≠ 0 := by
  rw [tokensF_T s hs] at h
  split at h
  · injection h with _ h; omega
  · rcases tokT_ends _ (chunks s.data.toList) [] (Nat.le_refl _) with ⟨k, g⟩ | ⟨f, g, hf⟩
    · rw [g] at h; exact absurd h (by simp)
    · rw [g] at h; injection h with _ h; omega
theorem TokOk.num_ok {t : TokT} (h : TokOk t) : 0 ≤ t.n ∧ t.n < 65536 := by
  cases h with
  | num v hv => exact ⟨by show (0 : Int) ≤ (v : Int); omega, by show (v : Int) < 65536; omega⟩
  | _ => exact ⟨Int.le_refl 0, by show (0 : Int) < 65536; decide⟩
theorem joinS_data (m : List TokT) : (joinS (ahead m)).data.toList = joinB m := by simp [joinS, joinB]

set_option maxHeartbeats 1000000 in
theorem backLaw_ctr (g : GP) (hg : ∀ w, g.G w → LibG w) (s : ByteArray) (l : List TokT) (hs : s.size < 2 ^ 62) (hl : l.length < 2 ^ 62) (hn : NumOk l) : Ctr (ax g).E 4 [.str s, .d (.sl false 3 (l.map rowK))] [] (fun o => o = .ret (.bool true) []) := by
  refine Ctr.body (X := ax g) _ 60 [] [.tmp 4] Tryd.func4 rfl rfl rfl rfl (by decide +kernel) rfl rfl ?_
  conv => whnf
  refine CallP.det (awake4_ctr g hg) ?_
  conv => whnf
  repeat (first | (refine And.intro (by first | exact rfl | decide | exact Nat.le_of_ble_eq_true rfl | exact ⟨_, rfl⟩ | exact ⟨_, _, rfl⟩ | exact Nat.le_refl _ | exact Int.le_refl _ | omega | (simp only [List.length_map]; omega)) ?_; conv => whnf) | rw [getD_map _ _ _ _ (by assumption)])
  refine ifB_intro (fun h1 => ?_) (fun h1 => ?_)
  · rw [h1]
    conv => whnf
    refine ⟨⟨[], ?_⟩⟩
    conv => whnf
  · rw [h1]
    have h1 : s.size ≤ 500 := by first | (have h0 := of_decide_eq_true h1; omega) | (have h0 := of_decide_eq_false h1; omega) | (have h0 := h1; simp at h0; omega) | (have h0 := h1; simp at h0; exact h0)
    conv => whnf
    repeat (first | (refine And.intro (by first | exact rfl | decide | exact Nat.le_of_ble_eq_true rfl | exact ⟨_, rfl⟩ | exact ⟨_, _, rfl⟩ | exact Nat.le_refl _ | exact Int.le_refl _ | omega | (simp only [List.length_map]; omega)) ?_; conv => whnf) | rw [getD_map _ _ _ _ (by assumption)])
    refine ifB_intro (fun h2 => ?_) (fun h2 => ?_)
    · conv => whnf
      refine ⟨⟨[], ?_⟩⟩
      conv => whnf
    · have h2 : l.length ≤ 30 := by first | (have h0 := of_decide_eq_true h2; omega) | (have h0 := of_decide_eq_false h2; omega) | (have h0 := h2; simp at h0; omega) | (have h0 := h2; simp at h0; exact h0)
      conv => whnf
      refine LoopP.inv (X := ax g) (fun i : Nat => { f := [(0, .str s), (1, .d (.sl false 3 (l.map rowK))), (21, .d (.sl false 3 (l.map rowK))), (22, .i64 l.length), (23, .i64 i)], h := [] }) (fun i => i ≤ l.length ∧ ∀ t ∈ l.take i, t.s.size ≤ 100) (fun i => l.length - i) 0 ⟨by omega, by simp⟩ ⟨⟨rfl, rfl, rfl, AV.int_eq (by simp), rfl, trivial⟩, trivial⟩ fun i ⟨hi, hj⟩ => ?_
      conv => whnf
      refine ifB_intro (fun h3 => ?_) (fun h3 => ?_)
      · have h3 : i < l.length := by first | (have h0 := of_decide_eq_true h3; omega) | (have h0 := of_decide_eq_false h3; omega) | (have h0 := h3; simp at h0; omega) | (have h0 := h3; simp at h0; exact h0)
        conv => whnf
        repeat (first | (refine And.intro (by first | exact rfl | decide | exact Nat.le_of_ble_eq_true rfl | exact ⟨_, rfl⟩ | exact ⟨_, _, rfl⟩ | exact Nat.le_refl _ | exact Int.le_refl _ | omega | (simp only [List.length_map]; omega)) ?_; conv => whnf) | rw [getD_map _ _ _ _ (by assumption)])
        refine ifB_intro (fun h4 => ?_) (fun h4 => ?_)
        · conv => whnf
          refine ⟨⟨[], ?_⟩⟩
          conv => whnf
        · have h4 : decide ((100 : Int) < (l[i].s.size : Int)) = false := h4
          have h4 : l[i].s.size ≤ 100 := by first | (have h0 := of_decide_eq_true h4; omega) | (have h0 := of_decide_eq_false h4; omega) | (have h0 := h4; simp at h0; omega) | (have h0 := h4; simp at h0; exact h0)
          conv => whnf
          exact ⟨i + 1, ⟨by omega, fun t ht => by
            rw [List.take_succ_eq_append_getElem h3] at ht
            rcases List.mem_append.1 ht with ht | ht
            · exact hj t ht
            · rw [List.mem_singleton] at ht; subst ht; exact h4⟩, by omega, ⟨⟨rfl, rfl, rfl, rfl, AV.int_eq (i64_succ (by omega)), trivial⟩, trivial⟩⟩
      · have h3 : ¬ i < l.length := by first | (have h0 := of_decide_eq_true h3; omega) | (have h0 := of_decide_eq_false h3; omega) | (have h0 := h3; simp at h0; omega) | (have h0 := h3; simp at h0; exact h0)
        have hall : ∀ t ∈ l, t.s.size ≤ 100 := by
          have : l.take i = l := List.take_of_length_le (by omega)
          rwa [this] at hj
        have hwt : wt l ≤ 2 ^ 40 := by
          have := wt_le 100 l fun t ht => by
            unfold txtB
            split
            · have h5 := hn t ht
              have := dec_len5 t.n.toNat (by omega)
              omega
            · have := hall t ht
              rw [len_data]; exact this
          have h6 : l.length * 101 ≤ 30 * 101 := Nat.mul_le_mul_right _ h2
          omega
        conv => whnf
        refine CallP.det (lexjoin_ctr g hg l hwt (by omega) hn) ?_
        conv => whnf
        refine CallP.det (refjoin_ctr g l hwt (by omega) hn) ?_
        conv => whnf
        have hne : (!((joinS (ahead l)).data.toList == (joinS (ahead l)).data.toList)) = false := by simp
        refine ifB_intro (fun h => absurd h (by show ¬ (!((joinS (ahead l)).data.toList == (joinS (ahead l)).data.toList)) = true; rw [hne]; simp)) (fun h => ?_)
        conv => whnf
        refine CallP.det (tokV_ctr g hg s hs) ?_
        cases hA : tokensF vS s with
        | mk x e =>
          cases x with
          | none =>
            have he := tok_none (by omega) hA
            conv => whnf
            repeat (first | (refine And.intro (by first | exact rfl | decide | exact Nat.le_of_ble_eq_true rfl | exact ⟨_, rfl⟩ | exact ⟨_, _, rfl⟩ | exact Nat.le_refl _ | exact Int.le_refl _ | omega | (simp only [List.length_map]; omega)) ?_; conv => whnf) | rw [getD_map _ _ _ _ (by assumption)])
            refine ifB_intro (fun h => ?_) (fun h => absurd h (by simpa using he))
            conv => whnf
            refine ⟨⟨[], ?_⟩⟩
            conv => whnf
            rfl
          | some m =>
            obtain ⟨he, _, m', hm', hok, hwm, _⟩ := tok_some hA
            subst he
            have hb := back_law s (joinS (ahead m)) h1 m 0 hA (joinS_data m)
            have hnm : NumOk m := fun t ht => by
              rw [hm'] at ht
              rcases List.mem_append.1 ht with ht | ht
              · exact (hok t ht).num_ok
              · rw [List.mem_singleton] at ht; subst ht; exact ⟨by decide, by decide⟩
            have hwm2 : wt m ≤ 2 ^ 40 := by
              rw [hm', wt_app, wt_one]
              have : (txtB noTok).length = 0 := rfl
              omega
            have hlm : m.length < 2 ^ 40 := by have := wt_len m; have h7 : wt m ≤ 3001 := (by rw [hm', wt_app, wt_one]; have : (txtB noTok).length = 0 := rfl; omega); omega
            conv => whnf
            repeat (first | (refine And.intro (by first | exact rfl | decide | exact Nat.le_of_ble_eq_true rfl | exact ⟨_, rfl⟩ | exact ⟨_, _, rfl⟩ | exact Nat.le_refl _ | exact Int.le_refl _ | omega | (simp only [List.length_map]; omega)) ?_; conv => whnf) | rw [getD_map _ _ _ _ (by assumption)])
            conv => whnf
            refine CallP.det (lexjoin_ctr g hg m hwm2 hlm hnm) ?_
            conv => whnf
            refine CallP.det (tokV_ctr g hg (joinS (ahead m)) (by have := joinS_data m; rw [← len_data, this]; omega)) ?_
            rw [hb.2]
            conv => whnf
            repeat (first | (refine And.intro (by first | exact rfl | decide | exact Nat.le_of_ble_eq_true rfl | exact ⟨_, rfl⟩ | exact ⟨_, _, rfl⟩ | exact Nat.le_refl _ | exact Int.le_refl _ | omega | (simp only [List.length_map]; omega)) ?_; conv => whnf) | rw [getD_map _ _ _ _ (by assumption)])
            refine CallP.det (same_ctr g m m (by omega)) ?_
            rw [sameK_refl]
            conv => whnf
            refine ⟨⟨[], ?_⟩⟩
            conv => whnf
            rfl
end Go.Ax
