/- The law LexBack, walked. -/
import Derived.Test.YtjokajidcojlmaaDoorAxLw
namespace Go.Ax
open Go.Proofs Go.Lib
set_option maxRecDepth 10000

theorem wt_le (c : Nat) : ∀ (l : List TokT), (∀ t ∈ l, (txtB t).length ≤ c) → wt l ≤ l.length * (c + 1)
  | [], _ => by simp [wt]
  | t :: l, h => by
    have := wt_le c l fun x hx => h x (by simp [hx])
    have h1 := h t (by simp)
    rw [show t :: l = [t] ++ l from rfl, wt_app, wt_one, List.length_append, Nat.add_mul]
    simp; omega
theorem tok_none {s : ByteArray} {e : Int} (hs : s.size ≤ 4000) (h : tokensF vS s = (none, e)) : e ≠ 0 := by
  rw [tokensF_T s hs] at h
  split at h
  · injection h with _ h; omega
  · rcases tokT_ends _ (chunks s.data.toList) [] (Nat.le_refl _) with ⟨k, g⟩ | ⟨f, g, hf⟩
    · rw [g] at h; exact absurd h (by simp)
    · rw [g] at h; injection h with _ h; omega
theorem TokOk.num_ok {t : TokT} (h : TokOk t) : 0 ≤ t.n ∧ t.n < 65536 := by
  cases h with
  | num v hv => exact ⟨by show (0 : Int) ≤ (v : Int); omega, by show (v : Int) < 65536; omega⟩
  | _ => exact ⟨Int.le_refl 0, by show (0 : Int) < 65536; decide⟩
theorem joinS_data (m : List TokT) : (joinS (ahead m)).data.toList = joinB m := by simp [joinS, joinB]

set_option maxHeartbeats 1000000 in
theorem backLaw_ctr (g : GP) (hg : ∀ w, g.G w → LibG w) (s : ByteArray) (l : List TokT) (hs : s.size < 2 ^ 62) (hl : l.length < 2 ^ 62) (hn : NumOk l) : Ctr (ax g).E 4 [.str s, .d (.sl false 3 (l.map rowK))] [] (fun o => o = .ret (.bool true) []) := by
  refine Ctr.body (X := ax g) _ 60 [] [.tmp 4] Tryd.func4 rfl rfl rfl rfl (by decide +kernel) rfl rfl ?_
  conv => whnf
  refine CallP.det (awake4_ctr g hg) ?_
  conv => whnf
  repeat (first | (refine And.intro (by first | exact rfl | decide | exact Nat.le_of_ble_eq_true rfl | exact ⟨_, rfl⟩ | exact ⟨_, _, rfl⟩ | exact Nat.le_refl _ | exact Int.le_refl _ | omega | (simp only [List.length_map]; omega)) ?_; conv => whnf) | rw [getD_map _ _ _ _ (by assumption)])
  refine ifB_intro (fun h1 => ?_) (fun h1 => ?_)
  · rw [h1]
    conv => whnf
    refine ⟨⟨[], ?_⟩⟩
    conv => whnf
  · rw [h1]
    have h1 : s.size ≤ 500 := by first | (have h0 := of_decide_eq_true h1; omega) | (have h0 := of_decide_eq_false h1; omega) | (have h0 := h1; simp at h0; omega) | (have h0 := h1; simp at h0; exact h0)
    conv => whnf
    repeat (first | (refine And.intro (by first | exact rfl | decide | exact Nat.le_of_ble_eq_true rfl | exact ⟨_, rfl⟩ | exact ⟨_, _, rfl⟩ | exact Nat.le_refl _ | exact Int.le_refl _ | omega | (simp only [List.length_map]; omega)) ?_; conv => whnf) | rw [getD_map _ _ _ _ (by assumption)])
    refine ifB_intro (fun h2 => ?_) (fun h2 => ?_)
    · conv => whnf
      refine ⟨⟨[], ?_⟩⟩
      conv => whnf
    · have h2 : l.length ≤ 30 := by first | (have h0 := of_decide_eq_true h2; omega) | (have h0 := of_decide_eq_false h2; omega) | (have h0 := h2; simp at h0; omega) | (have h0 := h2; simp at h0; exact h0)
      conv => whnf
      refine LoopP.inv (X := ax g) (fun i : Nat => { f := [(0, .str s), (1, .d (.sl false 3 (l.map rowK))), (21, .d (.sl false 3 (l.map rowK))), (22, .i64 l.length), (23, .i64 i)], h := [] }) (fun i => i ≤ l.length ∧ ∀ t ∈ l.take i, t.s.size ≤ 100) (fun i => l.length - i) 0 ⟨by omega, by simp⟩ ⟨⟨rfl, rfl, rfl, AV.int_eq (by simp), rfl, trivial⟩, trivial⟩ fun i ⟨hi, hj⟩ => ?_
      conv => whnf
      refine ifB_intro (fun h3 => ?_) (fun h3 => ?_)
      · have h3 : i < l.length := by first | (have h0 := of_decide_eq_true h3; omega) | (have h0 := of_decide_eq_false h3; omega) | (have h0 := h3; simp at h0; omega) | (have h0 := h3; simp at h0; exact h0)
        conv => whnf
        repeat (first | (refine And.intro (by first | exact rfl | decide | exact Nat.le_of_ble_eq_true rfl | exact ⟨_, rfl⟩ | exact ⟨_, _, rfl⟩ | exact Nat.le_refl _ | exact Int.le_refl _ | omega | (simp only [List.length_map]; omega)) ?_; conv => whnf) | rw [getD_map _ _ _ _ (by assumption)])
        refine ifB_intro (fun h4 => ?_) (fun h4 => ?_)
        · conv => whnf
          refine ⟨⟨[], ?_⟩⟩
          conv => whnf
        · have h4 : decide ((100 : Int) < (l[i].s.size : Int)) = false := h4
          have h4 : l[i].s.size ≤ 100 := by first | (have h0 := of_decide_eq_true h4; omega) | (have h0 := of_decide_eq_false h4; omega) | (have h0 := h4; simp at h0; omega) | (have h0 := h4; simp at h0; exact h0)
          conv => whnf
          exact ⟨i + 1, ⟨by omega, fun t ht => by
            rw [List.take_succ_eq_append_getElem h3] at ht
            rcases List.mem_append.1 ht with ht | ht
            · exact hj t ht
            · rw [List.mem_singleton] at ht; subst ht; exact h4⟩, by omega, ⟨⟨rfl, rfl, rfl, rfl, AV.int_eq (i64_succ (by omega)), trivial⟩, trivial⟩⟩
      · have h3 : ¬ i < l.length := by first | (have h0 := of_decide_eq_true h3; omega) | (have h0 := of_decide_eq_false h3; omega) | (have h0 := h3; simp at h0; omega) | (have h0 := h3; simp at h0; exact h0)
        have hall : ∀ t ∈ l, t.s.size ≤ 100 := by
          have : l.take i = l := List.take_of_length_le (by omega)
          rwa [this] at hj
        have hwt : wt l ≤ 2 ^ 40 := by
          have := wt_le 100 l fun t ht => by
            unfold txtB
            split
            · have h5 := hn t ht
              have := dec_len5 t.n.toNat (by omega)
              omega
            · have := hall t ht
              rw [len_data]; exact this
          have h6 : l.length * 101 ≤ 30 * 101 := Nat.mul_le_mul_right _ h2
          omega
        conv => whnf
        refine CallP.det (lexjoin_ctr g hg l hwt (by omega) hn) ?_
        conv => whnf
        refine CallP.det (refjoin_ctr g l hwt (by omega) hn) ?_
        conv => whnf
        have hne : (!((joinS (ahead l)).data.toList == (joinS (ahead l)).data.toList)) = false := by simp
        refine ifB_intro (fun h => absurd h (by show ¬ (!((joinS (ahead l)).data.toList == (joinS (ahead l)).data.toList)) = true; rw [hne]; simp)) (fun h => ?_)
        conv => whnf
        refine CallP.det (tokV_ctr g hg s hs) ?_
        cases hA : tokensF vS s with
        | mk x e =>
          cases x with
          | none =>
            have he := tok_none (by omega) hA
            conv => whnf
            repeat (first | (refine And.intro (by first | exact rfl | decide | exact Nat.le_of_ble_eq_true rfl | exact ⟨_, rfl⟩ | exact ⟨_, _, rfl⟩ | exact Nat.le_refl _ | exact Int.le_refl _ | omega | (simp only [List.length_map]; omega)) ?_; conv => whnf) | rw [getD_map _ _ _ _ (by assumption)])
            refine ifB_intro (fun h => ?_) (fun h => absurd h (by simpa using he))
            conv => whnf
            refine ⟨⟨[], ?_⟩⟩
            conv => whnf
            rfl
          | some m =>
            obtain ⟨he, _, m', hm', hok, hwm, _⟩ := tok_some hA
            subst he
            have hb := back_law s (joinS (ahead m)) h1 m 0 hA (joinS_data m)
            have hnm : NumOk m := fun t ht => by
              rw [hm'] at ht
              rcases List.mem_append.1 ht with ht | ht
              · exact (hok t ht).num_ok
              · rw [List.mem_singleton] at ht; subst ht; exact ⟨by decide, by decide⟩
            have hwm2 : wt m ≤ 2 ^ 40 := by
              rw [hm', wt_app, wt_one]
              have : (txtB noTok).length = 0 := rfl
              omega
            have hlm : m.length < 2 ^ 40 := by have := wt_len m; have h7 : wt m ≤ 3001 := (by rw [hm', wt_app, wt_one]; have : (txtB noTok).length = 0 := rfl; omega); omega
            conv => whnf
            repeat (first | (refine And.intro (by first | exact rfl | decide | exact Nat.le_of_ble_eq_true rfl | exact ⟨_, rfl⟩ | exact ⟨_, _, rfl⟩ | exact Nat.le_refl _ | exact Int.le_refl _ | omega | (simp only [List.length_map]; omega)) ?_; conv => whnf) | rw [getD_map _ _ _ _ (by assumption)])
            conv => whnf
            refine CallP.det (lexjoin_ctr g hg m hwm2 hlm hnm) ?_
            conv => whnf
            refine CallP.det (tokV_ctr g hg (joinS (ahead m)) (by have := joinS_data m; rw [← len_data, this]; omega)) ?_
            rw [hb.2]
            conv => whnf
            repeat (first | (refine And.intro (by first | exact rfl | decide | exact Nat.le_of_ble_eq_true rfl | exact ⟨_, rfl⟩ | exact ⟨_, _, rfl⟩ | exact Nat.le_refl _ | exact Int.le_refl _ | omega | (simp only [List.length_map]; omega)) ?_; conv => whnf) | rw [getD_map _ _ _ _ (by assumption)])
            refine CallP.det (same_ctr g m m (by omega)) ?_
            rw [sameK_refl]
            conv => whnf
            refine ⟨⟨[], ?_⟩⟩
            conv => whnf
            rfl
end Go.Ax
