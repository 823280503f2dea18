/- What the card of this claim stands on, or the card itself: for every input, as the given row says. -/
import Derived.Test.YtdobclfcondfcaaGreatDoorBA07
import Derived.Test.YtdobclfcondfcaaGreatDoorBA14
import Derived.Test.YtdobclfcondfcaaGreatDoorBA15

namespace Go.Ax
open Go.Proofs
set_option maxRecDepth 10000
def blkF : Nat → List PairT → Nat → List PairT × Nat
  | 0, l, a => (l, a)
  | f + 1, l, a => if a + 20 ≤ l.length then blkF f (insF l a (a + 20)) (a + 20) else (l, a)
theorem blkF_len : ∀ f l a, a ≤ l.length → (blkF f l a).1.length = l.length ∧ (blkF f l a).2 ≤ l.length
  | 0, l, a, h => ⟨rfl, h⟩
  | f + 1, l, a, h => by
    rw [blkF]
    split
    · rename_i h2
      have := blkF_len f (insF l a (a + 20)) (a + 20) (by rw [insF_len]; exact h2)
      rw [insF_len] at this
      exact this
    · exact ⟨rfl, h⟩
def mrgF (s : Nat) : Nat → List PairT → Nat → List PairT × Nat
  | 0, l, a => (l, a)
  | f + 1, l, a => if a + 2 * s ≤ l.length then mrgF s f (symF (2 * s) l a (a + s) (a + 2 * s)) (a + 2 * s) else (l, a)
theorem mrgF_len (s : Nat) : ∀ f l a, a ≤ l.length → (mrgF s f l a).1.length = l.length ∧ (mrgF s f l a).2 ≤ l.length
  | 0, l, a, h => ⟨rfl, h⟩
  | f + 1, l, a, h => by
    rw [mrgF]
    split
    · rename_i h2
      have := mrgF_len s f (symF (2 * s) l a (a + s) (a + 2 * s)) (a + 2 * s) (by rw [symF_len]; exact h2)
      rw [symF_len] at this
      exact this
    · exact ⟨rfl, h⟩
def rndF (s : Nat) (l : List PairT) : List PairT :=
  let x := mrgF s l.length l 0
  if x.2 + s < l.length then symF (l.length - x.2) x.1 x.2 (x.2 + s) l.length else x.1
theorem rndF_len (s : Nat) (l : List PairT) : (rndF s l).length = l.length := by
  unfold rndF
  have := mrgF_len s l.length l 0 (Nat.zero_le _)
  dsimp only
  split
  · rw [symF_len]; exact this.1
  · exact this.1
def rndsF : Nat → Nat → List PairT → List PairT
  | 0, _, l => l
  | f + 1, s, l => if s < l.length then rndsF f (2 * s) (rndF s l) else l
theorem rndsF_len : ∀ f s l, (rndsF f s l).length = l.length
  | 0, s, l => rfl
  | f + 1, s, l => by
    rw [rndsF]
    split
    · rw [rndsF_len f, rndF_len]
    · rfl
def sortP (l : List PairT) : List PairT :=
  let x := blkF l.length l 0
  rndsF l.length 20 (insF x.1 x.2 l.length)
theorem sortP_len (l : List PairT) : (sortP l).length = l.length := by
  unfold sortP
  dsimp only
  rw [rndsF_len, insF_len]
  exact (blkF_len l.length l 0 (Nat.zero_le _)).1
theorem stableM_ctr (g : GP) (l : List PairT) (hl : l.length < 2 ^ 30) : Ctr (ax g).E 267 [mslP l, .i64 l.length, .clo (.func 244) [] []] [(9100, some (bufP l))] (fun o => o = .ret (.tup []) [(9100, some (bufP (sortP l)))]) := by
  refine Ctr.body (X := ax g) _ 63 [9100] [] Tryz.func267 rfl rfl rfl rfl (by decide +kernel) rfl rfl ?_
  conv => whnf
  repeat' (first | (refine And.intro easyA ?_; conv => whnf) | (refine ifB_intro (fun hA => ?_) (fun hA => ?_) <;> (try rw [hA]) <;> (conv => whnf) <;> (first | replace hA := nrmA hA | replace hA := nrmB hA | replace hA := nrmC hA | replace hA := nrmD hA | replace hA := nrmE hA | replace hA := nrmF hA | skip) <;> (try simp only [List.length_map, cond_true, cond_false, Bool.not_eq_true', Bool.not_eq_false', beq_iff_eq, beq_eq_false_iff_ne, ne_eq] at hA)) | (rw [getD_map _ _ _ _ (by assumption)]; conv => whnf))
  generalize hB : blkF l.length l 0 = B
  have hBl := blkF_len l.length l 0 (Nat.zero_le _)
  rw [hB] at hBl
  refine LoopP.inv (X := ax g) (fun x : List PairT × Nat => { f := [(0, mslP l), (1, .i64 l.length), (2, .clo (.func 244) [] []), (6, .i64 20), (7, .i64 x.2), (8, .i64 ((x.2 + 20 : Nat) : Int))], h := [(9100, some (bufP x.1))] }) (fun x => x.1.length = l.length ∧ x.2 ≤ l.length ∧ ∃ k, l.length - x.2 ≤ k ∧ blkF k x.1 x.2 = B) (fun x => l.length - x.2) (l, 0) ⟨rfl, Nat.zero_le _, l.length, Nat.le_refl _, hB⟩ ⟨⟨rfl, rfl, rfl, rfl, rfl, rfl, trivial⟩, ⟨fun o h => h, trivial⟩⟩ fun ⟨q, a⟩ ⟨hq, ha, k, hk, hR⟩ => ?_
  dsimp only at hq ha hk hR ⊢
  have hin : ∀ b, a ≤ b → b ≤ l.length → Ctr (ax g).E 278 [.msl 9100 l.length 0 l.length, .i64 a, .i64 b, .clo (.func 244) [] []] [(9100, some (bufP q))] (fun o => o = .ret (.tup []) [(9100, some (bufP (insF q a b)))]) := fun b h1 h2 => by
    have := inssort_ctr g q (by omega) a b h1 (by omega)
    unfold mslP at this
    rw [hq] at this
    exact this
  conv => whnf
  refine ifB_intro (fun h => ?_) (fun h => ?_)
  · have h : a + 20 ≤ l.length := by have h0 := of_decide_eq_true h; omega
    have hc := hin (a + 20) (by omega) h
    obtain ⟨k, rfl⟩ : ∃ m, k = m + 1 := ⟨k - 1, by omega⟩
    rw [blkF, if_pos (by omega)] at hR
    conv => whnf
    repeat' (first | (refine And.intro easyA ?_; conv => whnf) | (refine ifB_intro (fun hA => ?_) (fun hA => ?_) <;> (try rw [hA]) <;> (conv => whnf) <;> (first | replace hA := nrmA hA | replace hA := nrmB hA | replace hA := nrmC hA | replace hA := nrmD hA | replace hA := nrmE hA | replace hA := nrmF hA | skip) <;> (try simp only [List.length_map, cond_true, cond_false, Bool.not_eq_true', Bool.not_eq_false', beq_iff_eq, beq_eq_false_iff_ne, ne_eq] at hA)) | (refine CallP.upd rfl (hc) ?_; conv => whnf) | (refine CallD.upd rfl (hc) ?_; conv => whnf) | (rw [getD_map _ _ _ _ (by assumption)]; conv => whnf))
    exact ⟨(insF q a (a + 20), a + 20), ⟨by rw [insF_len]; exact hq, h, k, by show l.length - (a + 20) ≤ k; omega, hR⟩, by show l.length - (a + 20) < l.length - a; omega, ⟨⟨rfl, rfl, rfl, rfl, rfl, AV.int_eq (by rw [IntKind.wrap_i64]; omega), trivial⟩, ⟨fun o h => h, trivial⟩⟩⟩
  · have h : ¬ a + 20 ≤ l.length := by have h0 := of_decide_eq_false h; omega
    have hBq : (q, a) = B := by
      rw [← hR]
      cases k with
      | zero => rfl
      | succ k => rw [blkF, if_neg (by omega)]
    have hc := hin l.length ha (Nat.le_refl _)
    have hs : sortP l = rndsF l.length 20 (insF q a l.length) := by unfold sortP; rw [hB, ← hBq]
    rw [hs]
    clear hs hB hBl hR hBq hin
    have hil : (insF q a l.length).length = l.length := by rw [insF_len]; exact hq
    conv => whnf
    repeat' (first | (refine And.intro easyA ?_; conv => whnf) | (refine ifB_intro (fun hA => ?_) (fun hA => ?_) <;> (try rw [hA]) <;> (conv => whnf) <;> (first | replace hA := nrmA hA | replace hA := nrmB hA | replace hA := nrmC hA | replace hA := nrmD hA | replace hA := nrmE hA | replace hA := nrmF hA | skip) <;> (try simp only [List.length_map, cond_true, cond_false, Bool.not_eq_true', Bool.not_eq_false', beq_iff_eq, beq_eq_false_iff_ne, ne_eq] at hA)) | (refine CallP.upd rfl (hc) ?_; conv => whnf) | (refine CallD.upd rfl (hc) ?_; conv => whnf) | (rw [getD_map _ _ _ _ (by assumption)]; conv => whnf))
    generalize insF q a l.length = q0 at *
    generalize hS : rndsF l.length 20 q0 = S
    refine LoopP.inv (X := ax g) (fun x : List PairT × Nat => { f := [(0, mslP l), (1, .i64 l.length), (2, .clo (.func 244) [] []), (6, .i64 x.2)], h := [(9100, some (bufP x.1))] }) (fun x => x.1.length = l.length ∧ 20 ≤ x.2 ∧ x.2 < 2 ^ 33 ∧ ∃ k, l.length ≤ x.2 + k ∧ rndsF k x.2 x.1 = S) (fun x => 2 ^ 33 - x.2) (q0, 20) ⟨hil, Nat.le_refl _, by show 20 < 2 ^ 33; decide, l.length, by show l.length ≤ 20 + l.length; omega, hS⟩ ⟨⟨rfl, rfl, rfl, rfl, trivial⟩, ⟨fun o h => h, trivial⟩⟩ fun ⟨q, s⟩ ⟨hq, hs1, hs2, k, hk, hR⟩ => ?_
    dsimp only at hq hs1 hs2 hk hR ⊢
    conv => whnf
    refine ifB_intro (fun h3 => ?_) (fun h3 => ?_)
    · have h3 : s < l.length := by have h0 := of_decide_eq_true h3; omega
      obtain ⟨k, rfl⟩ : ∃ m, k = m + 1 := ⟨k - 1, by omega⟩
      rw [rndsF, if_pos (by omega)] at hR
      have e1 : IntKind.i64.wrap (2 * (s : Int)) = ((2 * s : Nat) : Int) := by rw [IntKind.wrap_i64]; omega
      have e1' : IntKind.i64.wrap ((s : Int) * 2) = ((2 * s : Nat) : Int) := by rw [IntKind.wrap_i64]; omega
      generalize hM : mrgF s q.length q 0 = M
      have hMl := mrgF_len s q.length q 0 (Nat.zero_le _)
      rw [hM] at hMl
      have hrd : rndF s q = if M.2 + s < q.length then symF (q.length - M.2) M.1 M.2 (M.2 + s) q.length else M.1 := by unfold rndF; rw [hM]
      conv => whnf
      refine LoopP.inv (X := ax g) (fun x : List PairT × Nat => { f := [(0, mslP l), (1, .i64 l.length), (2, .clo (.func 244) [] []), (6, .i64 s), (7, .i64 x.2), (8, .i64 ((x.2 + 2 * s : Nat) : Int))], h := [(9100, some (bufP x.1))] }) (fun x => x.1.length = l.length ∧ x.2 ≤ l.length ∧ ∃ k, l.length - x.2 ≤ k ∧ mrgF s k x.1 x.2 = M) (fun x => l.length - x.2) (q, 0) ⟨hq, Nat.zero_le _, q.length, by show l.length - 0 ≤ q.length; omega, hM⟩ ⟨⟨rfl, rfl, rfl, rfl, rfl, AV.int_eq (by rw [e1]; simp), trivial⟩, ⟨fun o h => h, trivial⟩⟩ fun ⟨q2, a⟩ ⟨hq2, ha, k2, hk2, hR2⟩ => ?_
      dsimp only at hq2 ha hk2 hR2 ⊢
      conv => whnf
      refine ifB_intro (fun h4 => ?_) (fun h4 => ?_)
      · have h4 : a + 2 * s ≤ l.length := by have h0 := of_decide_eq_true h4; omega
        obtain ⟨k2, rfl⟩ : ∃ m, k2 = m + 1 := ⟨k2 - 1, by omega⟩
        rw [mrgF, if_pos (by omega)] at hR2
        have hc := symmerge_ctr g (2 * s) q2 (by omega) a (a + s) (a + 2 * s) (by omega) (by omega) (by omega) (by omega)
        unfold mslP at hc
        rw [hq2] at hc
        have e2 := i64_addN (a := a) (b := s) (by omega)
        conv => whnf
        repeat' (first | (refine And.intro easyA ?_; conv => whnf) | (refine ifB_intro (fun hA => ?_) (fun hA => ?_) <;> (try rw [hA]) <;> (conv => whnf) <;> (first | replace hA := nrmA hA | replace hA := nrmB hA | replace hA := nrmC hA | replace hA := nrmD hA | replace hA := nrmE hA | replace hA := nrmF hA | skip) <;> (try simp only [List.length_map, cond_true, cond_false, Bool.not_eq_true', Bool.not_eq_false', beq_iff_eq, beq_eq_false_iff_ne, ne_eq] at hA)) | (rw [e2]; conv => whnf) | (refine CallP.upd rfl (hc) ?_; conv => whnf) | (refine CallD.upd rfl (hc) ?_; conv => whnf) | (rw [getD_map _ _ _ _ (by assumption)]; conv => whnf))
        exact ⟨(symF (2 * s) q2 a (a + s) (a + 2 * s), a + 2 * s), ⟨by rw [symF_len]; exact hq2, h4, k2, by show l.length - (a + 2 * s) ≤ k2; omega, hR2⟩, by show l.length - (a + 2 * s) < l.length - a; omega, ⟨⟨rfl, rfl, rfl, rfl, rfl, AV.int_eq (by rw [e1]; rw [IntKind.wrap_i64]; omega), trivial⟩, ⟨fun o h => h, trivial⟩⟩⟩
      · have h4 : ¬ a + 2 * s ≤ l.length := by have h0 := of_decide_eq_false h4; omega
        have hMq : (q2, a) = M := by
          rw [← hR2]
          cases k2 with
          | zero => rfl
          | succ k2 => rw [mrgF, if_neg (by omega)]
        subst hMq
        have e2 := i64_addN (a := a) (b := s) (by omega)
        dsimp only at hrd
        clear hM hMl hR2
        conv => whnf
        repeat' (first | (refine And.intro easyA ?_; conv => whnf) | (refine ifB_intro (fun hA => ?_) (fun hA => ?_) <;> (try rw [hA]) <;> (conv => whnf) <;> (first | replace hA := nrmA hA | replace hA := nrmB hA | replace hA := nrmC hA | replace hA := nrmD hA | replace hA := nrmE hA | replace hA := nrmF hA | skip) <;> (try simp only [List.length_map, cond_true, cond_false, Bool.not_eq_true', Bool.not_eq_false', beq_iff_eq, beq_eq_false_iff_ne, ne_eq] at hA)) | (rw [e2]; conv => whnf) | (rw [getD_map _ _ _ _ (by assumption)]; conv => whnf))
        · have h5 : a + s < l.length := by rename_i hA; omega
          rw [if_pos (by omega)] at hrd
          have hc := symmerge_ctr g (l.length - a) q2 (by omega) a (a + s) l.length (by omega) h5 (by omega) (Nat.le_refl _)
          unfold mslP at hc
          rw [hq2] at hc
          rw [hq] at hrd
          repeat' (first | (refine And.intro easyA ?_; conv => whnf) | (refine ifB_intro (fun hA => ?_) (fun hA => ?_) <;> (try rw [hA]) <;> (conv => whnf) <;> (first | replace hA := nrmA hA | replace hA := nrmB hA | replace hA := nrmC hA | replace hA := nrmD hA | replace hA := nrmE hA | replace hA := nrmF hA | skip) <;> (try simp only [List.length_map, cond_true, cond_false, Bool.not_eq_true', Bool.not_eq_false', beq_iff_eq, beq_eq_false_iff_ne, ne_eq] at hA)) | (refine CallP.upd rfl (hc) ?_; conv => whnf) | (refine CallD.upd rfl (hc) ?_; conv => whnf) | (rw [getD_map _ _ _ _ (by assumption)]; conv => whnf))
          exact ⟨(symF (l.length - a) q2 a (a + s) l.length, 2 * s), ⟨by rw [symF_len]; exact hq2, by show 20 ≤ 2 * s; omega, by show 2 * s < 2 ^ 33; omega, k, by show l.length ≤ 2 * s + k; omega, by rw [← hrd]; exact hR⟩, by show 2 ^ 33 - 2 * s < 2 ^ 33 - s; omega, ⟨⟨rfl, rfl, rfl, AV.int_eq e1', trivial⟩, ⟨fun o h => h, trivial⟩⟩⟩
        · have h5 : ¬ a + s < l.length := by rename_i hA; omega
          rw [if_neg (by omega)] at hrd
          exact ⟨(q2, 2 * s), ⟨hq2, by show 20 ≤ 2 * s; omega, by show 2 * s < 2 ^ 33; omega, k, by show l.length ≤ 2 * s + k; omega, by rw [← hrd]; exact hR⟩, by show 2 ^ 33 - 2 * s < 2 ^ 33 - s; omega, ⟨⟨rfl, rfl, rfl, AV.int_eq e1', trivial⟩, ⟨fun o h => h, trivial⟩⟩⟩
    · have h3 : ¬ s < l.length := by have h0 := of_decide_eq_false h3; omega
      have hq' : q = S := by
        rw [← hR]
        cases k with
        | zero => rfl
        | succ k => rw [rndsF, if_neg (by omega)]
      subst hq'
      conv => whnf
      refine ⟨⟨[(9100, some (bufP q))], ?_⟩⟩
      conv => whnf
      repeat' (first | (refine And.intro easyA ?_; conv => whnf) | (refine ifB_intro (fun hA => ?_) (fun hA => ?_) <;> (try rw [hA]) <;> (conv => whnf) <;> (first | replace hA := nrmA hA | replace hA := nrmB hA | replace hA := nrmC hA | replace hA := nrmD hA | replace hA := nrmE hA | replace hA := nrmF hA | skip) <;> (try simp only [List.length_map, cond_true, cond_false, Bool.not_eq_true', Bool.not_eq_false', beq_iff_eq, beq_eq_false_iff_ne, ne_eq] at hA)) | (refine And.intro ⟨fun o h => h, trivial⟩ ?_; conv => whnf) | (rw [getD_map _ _ _ _ (by assumption)]; conv => whnf))
theorem sortM_ctr (g : GP) (l : List PairT) (hl : l.length < 2 ^ 30) : Ctr (ax g).E 243 [mslP l, .clo (.func 244) [] []] [(9100, some (bufP l))] (fun o => o = .ret (.tup []) [(9100, some (bufP (sortP l)))]) := by
  have hs := stableM_ctr g l hl
  refine Ctr.body (X := ax g) _ 9 [9100] [] Tryz.func243 rfl rfl rfl rfl (by decide +kernel) rfl rfl ?_
  conv => whnf
  repeat' (first | (refine And.intro easyA ?_; conv => whnf) | (refine ifB_intro (fun hA => ?_) (fun hA => ?_) <;> (try rw [hA]) <;> (conv => whnf) <;> (first | replace hA := nrmA hA | replace hA := nrmB hA | replace hA := nrmC hA | replace hA := nrmD hA | replace hA := nrmE hA | replace hA := nrmF hA | skip) <;> (try simp only [List.length_map, cond_true, cond_false, Bool.not_eq_true', Bool.not_eq_false', beq_iff_eq, beq_eq_false_iff_ne, ne_eq] at hA)) | (refine And.intro (List.length_map _).symm ?_; conv => whnf) | (refine CallP.upd rfl (hs) ?_; conv => whnf) | (refine CallD.upd rfl (hs) ?_; conv => whnf) | (rw [getD_map _ _ _ _ (by assumption)]; conv => whnf))
  refine ⟨⟨[(9100, some (bufP (sortP l)))], ?_⟩⟩
  conv => whnf
  repeat' (first | (refine And.intro easyA ?_; conv => whnf) | (refine ifB_intro (fun hA => ?_) (fun hA => ?_) <;> (try rw [hA]) <;> (conv => whnf) <;> (first | replace hA := nrmA hA | replace hA := nrmB hA | replace hA := nrmC hA | replace hA := nrmD hA | replace hA := nrmE hA | replace hA := nrmF hA | skip) <;> (try simp only [List.length_map, cond_true, cond_false, Bool.not_eq_true', Bool.not_eq_false', beq_iff_eq, beq_eq_false_iff_ne, ne_eq] at hA)) | (refine And.intro ⟨fun o h => h, trivial⟩ ?_; conv => whnf) | (rw [getD_map _ _ _ _ (by assumption)]; conv => whnf))
end Go.Ax

namespace Go.Ax
open Go.Proofs
set_option maxRecDepth 10000
def phH (p : SP) : HL := (9002, some (.var [.ptr 9000 0])) :: spH p
theorem rule1_ctr (g : GP) (p : SP) : Ctr (ax g).E 211 [.ptr 9002 0] (phH p) (fun o => o = outP Failed (fun x : PairT × SP => .dagg (rowF x.1)) (fun x => phH x.2) (partS asB p)) := by
  refine Ctr.body (X := ax g) _ 4 [9002, 9000, 9001] [.cell 1 106] Tryz.func211 rfl rfl rfl rfl (by decide +kernel) rfl rfl ?_
  conv => whnf
  repeat' (first | (refine And.intro easyA ?_; conv => whnf) | (refine ifB_intro (fun hA => ?_) (fun hA => ?_) <;> (try rw [hA]) <;> (conv => whnf) <;> (first | replace hA := nrmA hA | replace hA := nrmB hA | replace hA := nrmC hA | replace hA := nrmD hA | replace hA := nrmE hA | replace hA := nrmF hA | skip) <;> (try simp only [List.length_map, cond_true, cond_false, Bool.not_eq_true', Bool.not_eq_false', beq_iff_eq, beq_eq_false_iff_ne, ne_eq] at hA)) | (refine CallP.may (part5_ctr g p asB (by decide)) (by (conv => whnf); repeat' first | exact trivial | refine And.intro (fun _ h => h) ?_) (fun _ => rfl) (fun hN => ?_) (fun xS hS => ?_) <;> (conv => whnf) <;> (try refine ⟨⟨[], trivial, rfl, ?_⟩⟩)) | (rw [getD_map _ _ _ _ (by assumption)]; conv => whnf))
  · rw [hN]; rfl
  · refine ⟨⟨phH xS.2, ?_⟩⟩
    conv => whnf
    repeat' (first | (refine And.intro easyA ?_; conv => whnf) | (refine ifB_intro (fun hA => ?_) (fun hA => ?_) <;> (try rw [hA]) <;> (conv => whnf) <;> (first | replace hA := nrmA hA | replace hA := nrmB hA | replace hA := nrmC hA | replace hA := nrmD hA | replace hA := nrmE hA | replace hA := nrmF hA | skip) <;> (try simp only [List.length_map, cond_true, cond_false, Bool.not_eq_true', Bool.not_eq_false', beq_iff_eq, beq_eq_false_iff_ne, ne_eq] at hA)) | (refine And.intro ⟨fun o h => h, fun o h => h, fun o h => h, trivial⟩ ?_; conv => whnf) | (rw [getD_map _ _ _ _ (by assumption)]; conv => whnf))
    rw [hS]; rfl
end Go.Ax

namespace Go.Ax
open Go.Proofs
set_option maxRecDepth 10000
theorem DrawP.joinSub {E : Env} {k : Kn} {id : Nat} {ops : Array Oper} {Q : APost} {s : St} (s1 s2 : St) (h : DrawP E k id ops (fun e s => match e with | .normal => s1.Le s | e => Q e s) s) (hs : Sub E k s2 s1) (hq : Q .normal s2) : DrawP E k id ops Q s :=
  ⟨fun c ok e1 e2 Im ρ a w S => wpIn_mono (h.ok c ok e1 e2 Im ρ a w S) fun e a w ⟨h1, Im, ρ, s, S, hQ⟩ => by
    cases e with
    | normal =>
      obtain ⟨Im', ρ', S'⟩ := hs c ok e1 e2 Im ρ a w (S.weak (fun t => LeF.at hQ.1 t) (fun r o => LeH.at hQ.2 r o))
      exact ⟨h1, Im', ρ', s2, S', hq⟩
    | _ => exact ⟨h1, Im, ρ, s, S, hQ⟩⟩
def riseH (l : List PairT) (p : SP) : HL := (9100, some (bufP l)) :: spH p
theorem riseM_ctr (g : GP) (p : SP) (l : List PairT) (hl : l.length < 2 ^ 30) : Ctr (ax g).E 212 [.ptr 9000 0, mslP l] (riseH l p) (fun o => o = .ret (mslP l) (riseH (sortP l) { p with twi := p.twi || dupS (sortP l) })) := by
  have hs := sortM_ctr g l hl
  have hsl := sortP_len l
  unfold mslP at hs ⊢
  generalize sortP l = q at *
  refine Ctr.body (X := ax g) _ 36 [9100, 9000, 9001] [.tmp 4] Tryz.func212 rfl rfl rfl rfl (by decide +kernel) rfl rfl ?_
  conv => whnf
  repeat' (first | (refine And.intro easyA ?_; conv => whnf) | (refine ifB_intro (fun hA => ?_) (fun hA => ?_) <;> (try rw [hA]) <;> (conv => whnf) <;> (first | replace hA := nrmA hA | replace hA := nrmB hA | replace hA := nrmC hA | replace hA := nrmD hA | replace hA := nrmE hA | replace hA := nrmF hA | skip) <;> (try simp only [List.length_map, cond_true, cond_false, Bool.not_eq_true', Bool.not_eq_false', beq_iff_eq, beq_eq_false_iff_ne, ne_eq] at hA)) | (refine CallP.upd rfl (hs) ?_; conv => whnf) | (refine CallD.upd rfl (hs) ?_; conv => whnf) | (rw [getD_map _ _ _ _ (by assumption)]; conv => whnf))
  refine LoopP.inv (X := ax g) (fun i : Nat => { f := [(0, .ptr 9000 0), (1, .msl 9100 l.length 0 l.length), (5, .i64 ((i + 1 : Nat) : Int))], h := riseH q { p with twi := p.twi || dupGo q i } }) (fun i => i = 0 ∨ i + 1 ≤ q.length) (fun i => q.length - i) 0 (.inl rfl) ⟨⟨rfl, rfl, rfl, trivial⟩, ⟨fun o h => h, fun o h => ?_, fun o h => h, trivial⟩⟩ fun i hi => ?_
  · rw [← h]; simp [objSP, dupGo]; rfl
  · have e3 : IntKind.i64.wrap (((i + 1 : Nat) : Int) - 1) = ((i : Nat) : Int) := by rw [IntKind.wrap_i64]; omega
    conv => whnf
    repeat' (first | (refine And.intro easyA ?_; conv => whnf) | (refine ifB_intro (fun hA => ?_) (fun hA => ?_) <;> (try rw [hA]) <;> (conv => whnf) <;> (first | replace hA := nrmA hA | replace hA := nrmB hA | replace hA := nrmC hA | replace hA := nrmD hA | replace hA := nrmE hA | replace hA := nrmF hA | skip) <;> (try simp only [List.length_map, cond_true, cond_false, Bool.not_eq_true', Bool.not_eq_false', beq_iff_eq, beq_eq_false_iff_ne, ne_eq] at hA)) | (rw [getD_map _ _ _ _ (by assumption)]; conv => whnf))
    · have hlt : i + 1 < q.length := by omega
      have hqm : (q.map rowF).length = q.length := List.length_map _
      have e1 := rows_getW q (i + 1) hlt
      have e2 := rows_getW q i (by omega)
      repeat' (first | (refine And.intro easyA ?_; conv => whnf) | (refine ifB_intro (fun hA => ?_) (fun hA => ?_) <;> (try rw [hA]) <;> (conv => whnf) <;> (first | replace hA := nrmA hA | replace hA := nrmB hA | replace hA := nrmC hA | replace hA := nrmD hA | replace hA := nrmE hA | replace hA := nrmF hA | skip) <;> (try simp only [] at hA)) | (refine DrawP.intro (X := ax g) (id := 5) B212_5 (by kernel_rfl) (by decide +kernel) ?_; conv => whnf) | (rw [e3]; conv => whnf) | (rw [e1]; conv => whnf) | (rw [e2]; conv => whnf) | (rw [getD_map _ _ _ _ (by assumption)]; conv => whnf))
      · have hk : (p.twi || dupGo q (i + 1)) = true := by rw [dupGo, ← Bool.or_assoc, hA]; rfl
        refine ⟨i + 1, .inr (by omega), by omega, ⟨⟨rfl, rfl, AV.int_eq (i64_succ (by omega)), trivial⟩, ⟨fun o h => h, fun o h => ?_, fun o h => h, trivial⟩⟩⟩
        rw [← h]; simp only [objSP, hk]; rfl
      · have hk : (p.twi || dupGo q (i + 1)) = dupAt q i := by rw [dupGo, ← Bool.or_assoc, hA]; rfl
        refine ⟨i + 1, .inr (by omega), by omega, ⟨⟨rfl, rfl, AV.int_eq (i64_succ (by omega)), trivial⟩, ⟨fun o h => h, fun o h => ?_, fun o h => h, trivial⟩⟩⟩
        rw [← h]; simp only [objSP, hk]; rfl
    · have hi2 : i = q.length - 1 := by omega
      have hd : dupS q = dupGo q i := by rw [dupS, hi2]
      rw [hd]
      refine ⟨⟨riseH q { p with twi := p.twi || dupGo q i }, ?_⟩⟩
      conv => whnf
      repeat' (first | (refine And.intro easyA ?_; conv => whnf) | (refine ifB_intro (fun hA => ?_) (fun hA => ?_) <;> (try rw [hA]) <;> (conv => whnf) <;> (first | replace hA := nrmA hA | replace hA := nrmB hA | replace hA := nrmC hA | replace hA := nrmD hA | replace hA := nrmE hA | replace hA := nrmF hA | skip) <;> (try simp only [List.length_map, cond_true, cond_false, Bool.not_eq_true', Bool.not_eq_false', beq_iff_eq, beq_eq_false_iff_ne, ne_eq] at hA)) | (refine And.intro ⟨fun o h => h, fun o h => h, fun o h => h, trivial⟩ ?_; conv => whnf) | (rw [getD_map _ _ _ _ (by assumption)]; conv => whnf))
theorem sortP_one (x : PairT) : sortP [x] = [x] := by
  unfold sortP
  simp [blkF, insF, insN, rndsF]
theorem rise_one (x : PairT) : Rise [x] := fun i hi => by simp at hi
theorem rise1_ctr (g : GP) (p : SP) (x : PairT) : Ctr (ax g).E 212 [.ptr 9000 0, .d (.sl false 2 ([x].map rowF))] (spH p) (fun o => o = .ret (.d (.sl false 2 ([x].map rowF))) (spH { p with twi := p.twi || dupS (sortP [x]) })) := by
  rw [sortP_one]; exact prise_ctr g p [x] (by simp) (rise_one x)
end Go.Ax

namespace Go.Ax
open Go.Proofs
set_option maxRecDepth 10000
theorem CallP.hlbN {E : Env} {k : Kn} {f : FuncId} {args : List AV} {s : St} {K : AV → HL → Prop} {KP : List PanicEntry → HL → Prop} {res : AV} {hin ho : HL} (h : Ctr E f args hin fun o => o = .ret res ho) (h1 : LeH hin s.h) (h2 : ho.all (fun p => (lkH p.1 hin).isSome || unmB k.anc p.1 s) = true)
    (hk : K res (ho ++ (killed hin ++ s.h))) : CallP E k f args s K KP :=
  ⟨hin, _, h, fun r o hr => LeH.at h1 r o hr, fun res' ho' e => by
    injection e with e1 e2; subst e1; subst e2
    refine ⟨fun r o hr => ?_, hk⟩
    obtain ⟨p, q1, q2⟩ := lkH_memb hr
    have := List.all_eq_true.1 h2 p q1
    rw [q2] at this
    rcases Bool.or_eq_true_iff.1 this with h | h
    · exact .inl (Option.isSome_iff_exists.1 h)
    · exact .inr h, fun ch' ho e => by simp at e⟩
theorem Ctr.loose2 {E : Env} {f : FuncId} {args : List AV} {hin : HL} {α : Type} {ch : List PanicEntry} {rx rx' : α → AV} {hx : α → HL} {sp : Option α} (h : Ctr E f args hin fun o => o = outP ch rx hx sp) (hc : ∀ x q, (rx' x).ment q = true → (rx x).ment q = true)
    (hle : ∀ (x : α) (w : World) (Im : Nat → Prop) (ρ : Nat → Option Loc) (v : Value), RA (hp w) Im ρ v (rx x) → RA (hp w) Im ρ v (rx' x)) : Ctr E f args hin fun o => o = outP ch rx' hx sp :=
  ⟨h.1, fun w Im ρ vs g1 g2 g3 g4 g5 g6 => (h.2 w Im ρ vs g1 g2 g3 g4 g5 g6).mono fun e w' he => by
    cases e with
    | returned v =>
      obtain ⟨res, ho', Im', ρ', h1, h2, h3, A⟩ := he
      cases hs : sp with
      | none => rw [hs] at h1; exact absurd h1 (by simp [outP])
      | some x =>
        rw [hs] at h1
        injection h1 with e1 e2; subst e1; subst e2
        exact ⟨rx' x, _, Im', ρ', rfl, hle _ _ _ _ _ h2, fun q hq => h3 q (hc x q hq), A⟩
    | panicked chn =>
      obtain ⟨ho', Im', ρ', h1, A⟩ := he
      exact ⟨ho', Im', ρ', by cases sp with | none => exact h1 | some x => exact absurd h1 (by simp [outP]), A⟩
    | outgrown => exact he⟩
def ampB : ByteArray := ⟨#[38]⟩
def lAV (r : Nat) (t : Bool) (l : List PairT) : AV := if l.length = 1 then .d (.sl t 2 (l.map rowF)) else .msl r l.length 0 l.length
def lH (r : Nat) (l : List PairT) : HL := if l.length = 1 then [] else [(r, some (bufP l))]
theorem lAV_one (r : Nat) (t : Bool) {l : List PairT} (h : l.length = 1) : lAV r t l = .d (.sl t 2 (l.map rowF)) := if_pos h
theorem lAV_more (r : Nat) (t : Bool) {l : List PairT} (h : ¬ l.length = 1) : lAV r t l = .msl r l.length 0 l.length := if_neg h
theorem lH_one (r : Nat) {l : List PairT} (h : l.length = 1) : lH r l = [] := if_pos h
theorem lH_more (r : Nat) {l : List PairT} (h : ¬ l.length = 1) : lH r l = [(r, some (bufP l))] := if_neg h
theorem plistM_ctr (g : GP) (sign : ByteArray) (hs : sign ≠ ⟨#[]⟩) (f : FuncId) (one : SP → Option (PairT × SP)) (hl : Less one) (N : Nat) (h1 : ∀ p : SP, p.l.length ≤ N → Ctr (ax g).E f [.ptr 9002 0] (phH p) (fun o => o = outP Failed (fun x : PairT × SP => .dagg (rowF x.1)) (fun x => phH x.2) (one p))) (p : SP) (hp : p.l.length ≤ N) (hN0 : N ≤ 100000) :
    Ctr (ax g).E 210 [.ptr 9000 0, .str sign, .clo (.func f) [] [.ptr 9002 0]] (phH p) (fun o => o = outP Failed (fun x : List PairT × SP => lAV 18 false x.1) (fun x => lH 18 x.1 ++ phH x.2) (listS sign one p)) := by
  refine Ctr.loose2 (rx := fun x : List PairT × SP => lAV 18 true x.1) ?_ (fun x q => by unfold lAV; split <;> exact id) fun x w Im ρ v H => by
    unfold lAV at H ⊢
    split at H
    · rename_i h
      rw [if_pos h]
      cases H with | d _ _ h => exact .d _ _ h.loose
    · rename_i h
      rw [if_neg h]; exact H
  have hc := h1 p hp
  refine Ctr.body (X := ax g) _ 20 [9002, 9000, 9001] [.tmp 6] Tryz.func210 rfl rfl rfl rfl (by decide +kernel) rfl rfl ?_
  conv => whnf
  repeat' (first | (refine And.intro easyA ?_; conv => whnf) | (refine ifB_intro (fun hA => ?_) (fun hA => ?_) <;> (try rw [hA]) <;> (conv => whnf) <;> (first | replace hA := nrmA hA | replace hA := nrmB hA | replace hA := nrmC hA | replace hA := nrmD hA | replace hA := nrmE hA | replace hA := nrmF hA | skip) <;> (try simp only [List.length_map, cond_true, cond_false, Bool.not_eq_true', Bool.not_eq_false', beq_iff_eq, beq_eq_false_iff_ne, ne_eq] at hA)) | (refine CallP.may (hc) (by (conv => whnf); repeat' first | exact trivial | refine And.intro (fun _ h => h) ?_) (fun _ => rfl) (fun hN => ?_) (fun xS hS => ?_) <;> (conv => whnf) <;> (try refine ⟨⟨[], trivial, rfl, ?_⟩⟩)) | (rw [getD_map _ _ _ _ (by assumption)]; conv => whnf))
  · rw [listS, hN]; rfl
  · obtain ⟨x0, q0⟩ := xS
    have h0 := hl p x0 q0 hS
    have hL : listS sign one p = listGo sign one (q0.l.length + 1) [x0] q0 := by rw [listS, hS]
    rw [hL]
    generalize hR0 : listGo sign one (q0.l.length + 1) [x0] q0 = R at hL
    refine LoopP.inv (X := ax g) (fun x : Bool × List PairT × SP => bif x.1 then { f := [(0, .ptr 9000 0), (1, .str sign), (2, .clo (.func f) [] [.ptr 9002 0]), (7, .msl 18 x.2.1.length 0 x.2.1.length)], h := (18, some (.buf 2 106 (x.2.1.map rowF))) :: phH x.2.2 } else { f := [(0, .ptr 9000 0), (1, .str sign), (2, .clo (.func f) [] [.ptr 9002 0]), (7, .d (.sl true 2 (x.2.1.map rowF)))], h := phH x.2.2 })
      (fun x => (x.1 = false → x.2.1.length = 1) ∧ (x.1 = true → 2 ≤ x.2.1.length) ∧ x.2.1.length + x.2.2.l.length ≤ N ∧ ∃ n, x.2.2.l.length < n ∧ listGo sign one n x.2.1 x.2.2 = R) (fun x => x.2.2.l.length) (false, [x0], q0) ⟨fun _ => rfl, fun h => by simp at h, by show 1 + q0.l.length ≤ N; omega, q0.l.length + 1, Nat.lt_succ_self _, hR0⟩ ⟨⟨rfl, rfl, rfl, rfl, trivial⟩, ⟨fun o h => h, fun o h => h, fun o h => h, trivial⟩⟩ fun x hx => ?_
    obtain ⟨b, acc, q⟩ := x
    obtain ⟨hpos, htwo, hq, n, hn, hR⟩ := hx
    replace hpos : b = false → acc.length = 1 := hpos
    replace htwo : b = true → 2 ≤ acc.length := htwo
    replace hq : acc.length + q.l.length ≤ N := hq
    replace hn : q.l.length < n := hn
    replace hR : listGo sign one n acc q = R := hR
    obtain ⟨n, rfl⟩ : ∃ m, n = m + 1 := ⟨n - 1, by omega⟩
    have ht := take_ctr g q sign hs
    have hlen := takeS_len (s := sign) (p := q)
    have hq2 : (takeS sign q).2.l.length ≤ N := by have := hlen.1; omega
    have ho := h1 (takeS sign q).2 hq2
    cases b with
    | false =>
      obtain ⟨a0, rfl⟩ := List.length_eq_one_iff.1 (hpos rfl)
      conv => whnf
      repeat' (first | (refine And.intro easyA ?_; conv => whnf) | (refine ifB_intro (fun hA => ?_) (fun hA => ?_) <;> (try rw [hA]) <;> (conv => whnf) <;> (first | replace hA := nrmA hA | replace hA := nrmB hA | replace hA := nrmC hA | replace hA := nrmD hA | replace hA := nrmE hA | replace hA := nrmF hA | skip) <;> (try simp only [List.length_map, cond_true, cond_false, Bool.not_eq_true', Bool.not_eq_false', beq_iff_eq, beq_eq_false_iff_ne, ne_eq] at hA)) | (refine CallP.hlb (ht) (by (conv => whnf); repeat' first | exact trivial | refine And.intro (fun _ h => h) ?_) rfl ?_; conv => whnf) | (refine CallD.hlb (ht) (by (conv => whnf); repeat' first | exact trivial | refine And.intro (fun _ h => h) ?_) ?_; conv => whnf) | (refine CallP.may (ho) (by (conv => whnf); repeat' first | exact trivial | refine And.intro (fun _ h => h) ?_) (fun _ => rfl) (fun hN => ?_) (fun xS hS => ?_) <;> (conv => whnf) <;> (try refine ⟨⟨[], trivial, rfl, ?_⟩⟩)) | (rw [getD_map _ _ _ _ (by assumption)]; conv => whnf))
      · rw [listGo_dies hA hN] at hR; subst hR; rfl
      · obtain ⟨y, r⟩ := xS
        have hr := hl _ _ _ hS
        simp only [List.length_cons, List.length_nil] at hq
        rw [listGo_more hA hS] at hR
        have hlen2 := hlen.2 hA
        repeat' (first | (refine And.intro easyA ?_; conv => whnf) | (refine ifB_intro (fun hA => ?_) (fun hA => ?_) <;> (try rw [hA]) <;> (conv => whnf) <;> (first | replace hA := nrmA hA | replace hA := nrmB hA | replace hA := nrmC hA | replace hA := nrmD hA | replace hA := nrmE hA | replace hA := nrmF hA | skip) <;> (try simp only [List.length_map, cond_true, cond_false, Bool.not_eq_true', Bool.not_eq_false', beq_iff_eq, beq_eq_false_iff_ne, ne_eq] at hA)) | (refine And.intro (by simp only [List.map_cons, List.map_nil, List.length_map, List.length_cons, List.length_nil]; omega) ?_; conv => whnf) | (rw [getD_map _ _ _ _ (by assumption)]; conv => whnf))
        refine ⟨(true, [a0] ++ [y], r), ⟨fun h => by simp at h, fun _ => by show 2 ≤ ([a0] ++ [y]).length; simp, by show ([a0] ++ [y]).length + r.l.length ≤ N; simp; omega, n, by show r.l.length < n; omega, hR⟩, by show r.l.length < q.l.length; omega, ⟨rfl, rfl, rfl, ?_, trivial⟩, ⟨fun o h => ?_, fun o h => h, fun o h => h, fun o h => h, trivial⟩⟩
        · exact msl_eq (by simp)
        · rw [← h]; exact congrArg (fun z => some (AObj.buf 2 106 z)) (by simp)
      · rw [listGo_done hA] at hR
        subst hR
        refine ⟨⟨phH (takeS sign q).2, ?_⟩⟩
        conv => whnf
        repeat' (first | (refine And.intro easyA ?_; conv => whnf) | (refine ifB_intro (fun hA => ?_) (fun hA => ?_) <;> (try rw [hA]) <;> (conv => whnf) <;> (first | replace hA := nrmA hA | replace hA := nrmB hA | replace hA := nrmC hA | replace hA := nrmD hA | replace hA := nrmE hA | replace hA := nrmF hA | skip) <;> (try simp only [List.length_map, cond_true, cond_false, Bool.not_eq_true', Bool.not_eq_false', beq_iff_eq, beq_eq_false_iff_ne, ne_eq] at hA)) | (refine And.intro ⟨fun o h => h, fun o h => h, fun o h => h, trivial⟩ ?_; conv => whnf) | (rw [getD_map _ _ _ _ (by assumption)]; conv => whnf))
        rfl
    | true =>
      have h2 := htwo rfl
      conv => whnf
      repeat' (first | (refine And.intro easyA ?_; conv => whnf) | (refine ifB_intro (fun hA => ?_) (fun hA => ?_) <;> (try rw [hA]) <;> (conv => whnf) <;> (first | replace hA := nrmA hA | replace hA := nrmB hA | replace hA := nrmC hA | replace hA := nrmD hA | replace hA := nrmE hA | replace hA := nrmF hA | skip) <;> (try simp only [List.length_map, cond_true, cond_false, Bool.not_eq_true', Bool.not_eq_false', beq_iff_eq, beq_eq_false_iff_ne, ne_eq] at hA)) | (refine CallP.hlb (ht) (by (conv => whnf); repeat' first | exact trivial | refine And.intro (fun _ h => h) ?_) rfl ?_; conv => whnf) | (refine CallD.hlb (ht) (by (conv => whnf); repeat' first | exact trivial | refine And.intro (fun _ h => h) ?_) ?_; conv => whnf) | (refine CallP.may (ho) (by (conv => whnf); repeat' first | exact trivial | refine And.intro (fun _ h => h) ?_) (fun _ => rfl) (fun hN => ?_) (fun xS hS => ?_) <;> (conv => whnf) <;> (try refine ⟨⟨[], trivial, rfl, ?_⟩⟩)) | (rw [getD_map _ _ _ _ (by assumption)]; conv => whnf))
      · rw [listGo_dies hA hN] at hR; subst hR; rfl
      · obtain ⟨y, r⟩ := xS
        have hr := hl _ _ _ hS
        rw [listGo_more hA hS] at hR
        have hlen2 := hlen.2 hA
        repeat' (first | (refine And.intro easyA ?_; conv => whnf) | (refine ifB_intro (fun hA => ?_) (fun hA => ?_) <;> (try rw [hA]) <;> (conv => whnf) <;> (first | replace hA := nrmA hA | replace hA := nrmB hA | replace hA := nrmC hA | replace hA := nrmD hA | replace hA := nrmE hA | replace hA := nrmF hA | skip) <;> (try simp only [List.length_map, cond_true, cond_false, Bool.not_eq_true', Bool.not_eq_false', beq_iff_eq, beq_eq_false_iff_ne, ne_eq] at hA)) | (refine And.intro (by first | exact (List.length_map ..).symm | (simp only [List.length_map, List.length_cons, List.length_nil]; omega)) ?_; conv => whnf) | (rw [getD_map _ _ _ _ (by assumption)]; conv => whnf))
        refine ⟨(true, acc ++ [y], r), ⟨fun h => by simp at h, fun _ => by show 2 ≤ (acc ++ [y]).length; simp; omega, by show (acc ++ [y]).length + r.l.length ≤ N; simp; omega, n, by show r.l.length < n; omega, hR⟩, by show r.l.length < q.l.length; omega, ⟨rfl, rfl, rfl, ?_, trivial⟩, ⟨fun o h => ?_, fun o h => h, fun o h => h, fun o h => h, trivial⟩⟩
        · exact msl_eq (by simp)
        · rw [← h]; exact congrArg (fun z => some (AObj.buf 2 106 z)) (by simp)
      · rw [listGo_done hA] at hR
        subst hR
        have e1 : lAV 18 true acc = .msl 18 acc.length 0 acc.length := lAV_more 18 true (by omega)
        have e2 : lH 18 acc = [(18, some (bufP acc))] := lH_more 18 (by omega)
        show RetP _ _ (fun o => o = AOut.ret (lAV 18 true acc) (lH 18 acc ++ phH (takeS sign q).2)) _
        rw [e1, e2]
        refine ⟨⟨(18, some (bufP acc)) :: phH (takeS sign q).2, ?_⟩⟩
        conv => whnf
        repeat' (first | (refine And.intro easyA ?_; conv => whnf) | (refine ifB_intro (fun hA => ?_) (fun hA => ?_) <;> (try rw [hA]) <;> (conv => whnf) <;> (first | replace hA := nrmA hA | replace hA := nrmB hA | replace hA := nrmC hA | replace hA := nrmD hA | replace hA := nrmE hA | replace hA := nrmF hA | skip) <;> (try simp only [List.length_map, cond_true, cond_false, Bool.not_eq_true', Bool.not_eq_false', beq_iff_eq, beq_eq_false_iff_ne, ne_eq] at hA)) | (refine And.intro ⟨fun o h => h, fun o h => h, fun o h => h, fun o h => h, trivial⟩ ?_; conv => whnf) | (rw [getD_map _ _ _ _ (by assumption)]; conv => whnf))
        rfl
theorem plistN_ctr (g : GP) (N : Nat) (hN0 : N ≤ 100000) (p : SP) (hp : p.l.length ≤ N) : Ctr (ax g).E 210 [.ptr 9000 0, .str ampB, .clo (.func 211) [] [.ptr 9002 0]] (phH p) (fun o => o = outP Failed (fun x : List PairT × SP => lAV 9101 false x.1) (fun x => lH 9101 x.1 ++ phH x.2) (listS ampB (partS asB) p)) :=
  (plistM_ctr g ampB (by decide) 211 (partS asB) (fun _ _ _ h => partS_len h) N (fun q _ => rule1_ctr g q) p hp hN0).swapG 18 9101
    (fun res ho h => by
      cases hs : listS ampB (partS asB) p with
      | none => rw [hs] at h; exact absurd h (by simp [outP])
      | some x =>
        rw [hs] at h; injection h with h1 h2; subst h1; subst h2
        unfold lAV lH
        by_cases hx : x.1.length = 1
        · simp only [outP, if_pos hx]; rfl
        · simp only [outP, if_neg hx]; rfl)
    (fun ch ho h => by
      cases hs : listS ampB (partS asB) p with
      | none => rw [hs] at h; injection h with h1 h2; subst h1; subst h2; rfl
      | some x => rw [hs] at h; exact absurd h (by simp [outP]))
def p1H (p : SP) : HL := (1, some (.var [.ptr 9000 0])) :: spH p
theorem plist1_ctr (g : GP) (N : Nat) (hN0 : N ≤ 100000) (p : SP) (hp : p.l.length ≤ N) : Ctr (ax g).E 210 [.ptr 9000 0, .str ampB, .clo (.func 211) [] [.ptr 1 0]] (p1H p) (fun o => o = outP Failed (fun x : List PairT × SP => lAV 9101 false x.1) (fun x => lH 9101 x.1 ++ p1H x.2) (listS ampB (partS asB) p)) :=
  (plistN_ctr g N hN0 p hp).swapG 1 9002
    (fun res ho h => by
      cases hs : listS ampB (partS asB) p with
      | none => rw [hs] at h; exact absurd h (by simp [outP])
      | some x =>
        rw [hs] at h; injection h with h1 h2; subst h1; subst h2
        unfold lAV lH
        by_cases hx : x.1.length = 1
        · simp only [outP, if_pos hx]; rfl
        · simp only [outP, if_neg hx]; rfl)
    (fun ch ho h => by
      cases hs : listS ampB (partS asB) p with
      | none => rw [hs] at h; injection h with h1 h2; subst h1; subst h2; rfl
      | some x => rw [hs] at h; exact absurd h (by simp [outP]))
end Go.Ax

namespace Go.Ax
open Go.Proofs
set_option maxRecDepth 10000
def arrB : ByteArray := ⟨#[61, 62]⟩
def dotC : ByteArray := ⟨#[46]⟩
def condS (p : SP) : Option ((Bool × PairT) × SP) :=
  if (peekS p).data.toList = [64] then (partS eqB p).bind fun x => some ((true, x.1), x.2)
  else (fieldS p).bind fun f => (mustS eqB f.2).bind fun q => (valueS q).bind fun v => some ((false, (f.1, v.1)), v.2)
def condsGo : Nat → List PairT → List PairT → SP → Option ((List PairT × List PairT) × SP)
  | 0, _, _, _ => none
  | n + 1, w, g, p => match condS p with
    | none => none
    | some ((b, x), q) => if (takeS ampB q).1 = true then condsGo n (bif b then w else w ++ [x]) (bif b then g ++ [x] else g) (takeS ampB q).2
      else some ((bif b then w else w ++ [x], bif b then g ++ [x] else g), (takeS ampB q).2)
def ruleS (p : SP) : Option (RuleT × SP) := (condsGo p.l.length [] [] p).bind fun x => (mustS arrB x.2).bind fun p2 => (listS ampB (partS asB) p2).bind fun y => (mustS dotC y.2).bind fun p4 =>
  some (⟨sortP x.1.1, sortP x.1.2, sortP y.1⟩, { p4 with twi := ((p4.twi || dupS (sortP x.1.1)) || dupS (sortP x.1.2)) || dupS (sortP y.1) })
def OkL (l : List PairT) : Prop := l.length < 20 ∧ Rise l
theorem condS_len {p : SP} {x : Bool × PairT} {q : SP} (h : condS p = some (x, q)) : q.l.length < p.l.length := by
  unfold condS at h
  split at h
  · simp only [Option.bind_eq_some_iff] at h
    obtain ⟨y, e1, e2⟩ := h
    injection e2 with e2; injection e2 with _ e2; subst e2
    exact partS_len e1
  · simp only [Option.bind_eq_some_iff] at h
    obtain ⟨y, e1, r, e2, v, e3, e4⟩ := h
    injection e4 with e4; injection e4 with _ e4; subst e4
    have := fieldS_len e1
    have := mustS_len e2
    have := valueS_len e3
    omega
theorem listGo_lenS {α : Type} {sign : ByteArray} {one : SP → Option (α × SP)} (h1 : Less one) : ∀ {n : Nat} {acc : List α} {p : SP} {x : List α} {q : SP}, listGo sign one n acc p = some (x, q) → x.length + q.l.length ≤ acc.length + p.l.length
  | 0, _, _, _, _, h => by simp [listGo] at h
  | n + 1, acc, p, x, q, h => by
    have ht := takeS_len (s := sign) (p := p)
    rw [listGo] at h
    split at h
    · split at h
      · simp at h
      · rename_i y r hr
        have h2 := h1 _ _ _ hr
        have h3 := listGo_lenS h1 h
        simp at h3
        omega
    · injection h with h; injection h with e1 e2; subst e1; subst e2
      omega
theorem listS_lenS {α : Type} {sign : ByteArray} {one : SP → Option (α × SP)} (h1 : Less one) {p : SP} {x : List α} {q : SP} (h : listS sign one p = some (x, q)) : x.length + q.l.length ≤ p.l.length := by
  unfold listS at h
  split at h
  · simp at h
  · rename_i y r hr
    have h2 := h1 _ _ _ hr
    have h3 := listGo_lenS h1 h
    simp at h3
    omega
set_option maxHeartbeats 4000000 in
theorem rule5_ctr (g : GP) (N : Nat) (hN0 : N ≤ 100000) (p : SP) (hp : p.l.length ≤ N) : Ctr (ax g).E 167 [.ptr 9000 0] (spH p) (fun o => o = outP Failed (fun x : RuleT × SP => .dagg (rowR x.1)) (fun x => spH x.2) (ruleS p)) := by
  refine Ctr.body (X := ax g) _ 56 [9000, 9001] [.cell 2 87] Tryz.func167 rfl rfl rfl rfl (by decide +kernel) rfl rfl ?_
  conv => whnf
  repeat' (first | (refine And.intro easyA ?_; conv => whnf) | (refine ifB_intro (fun hA => ?_) (fun hA => ?_) <;> (try rw [hA]) <;> (conv => whnf) <;> (first | replace hA := nrmA hA | replace hA := nrmB hA | replace hA := nrmC hA | replace hA := nrmD hA | replace hA := nrmE hA | replace hA := nrmF hA | skip) <;> (try simp only [List.length_map, cond_true, cond_false, Bool.not_eq_true', Bool.not_eq_false', beq_iff_eq, beq_eq_false_iff_ne, ne_eq] at hA)) | (rw [getD_map _ _ _ _ (by assumption)]; conv => whnf))
  refine LoopP.asVar 3 3 _ rfl ?_
  refine LoopP.ownCell 3 0 9003 2 106 _ rfl rfl rfl ?_
  refine LoopP.ownCell 3 1 9004 2 106 _ rfl rfl rfl ?_
  generalize hR : condsGo p.l.length [] [] p = R
  refine LoopP.inv (X := ax g) (fun x : Bool × List PairT × List PairT × SP => { f := [(1, .ptr 1 0), (2, .ptr 2 0), (3, .ptr 3 0), (4, .bool x.1)], h := (1, some (.var [.ptr 9000 0])) :: (2, some (.dvar 3 [.v (.slice none 0 0), .v (.slice none 0 0), .v (.slice none 0 0)])) :: (3, some (.var [.msl 9003 x.2.1.length 0 x.2.1.length, .msl 9004 x.2.2.1.length 0 x.2.2.1.length, .d (.v (.slice none 0 0))])) :: (9003, some (.buf 2 106 (x.2.1.map rowF))) :: (9004, some (.buf 2 106 (x.2.2.1.map rowF))) :: spH x.2.2.2 })
    (fun x => x.2.1.length + x.2.2.1.length + x.2.2.2.l.length ≤ N ∧ ((x.1 = true ∧ ∃ n, x.2.2.2.l.length ≤ n ∧ condsGo n x.2.1 x.2.2.1 x.2.2.2 = R) ∨ (x.1 = false ∧ some ((x.2.1, x.2.2.1), x.2.2.2) = R))) (fun x => x.2.2.2.l.length + (bif x.1 then 1 else 0)) (true, [], [], p) ⟨by simpa using hp, .inl ⟨rfl, p.l.length, Nat.le_refl _, hR⟩⟩ ⟨⟨rfl, rfl, rfl, rfl, trivial⟩, ⟨fun o h => h, fun o h => h, fun o h => h, fun o h => h, fun o h => h, fun o h => h, fun o h => h, trivial⟩⟩ fun x hx => ?_
  obtain ⟨more, w, gd, q⟩ := x
  obtain ⟨hq, hx⟩ := hx
  cases more with
  | false =>
    have hx : some ((w, gd), q) = R := hx.elim (fun h => absurd h.1 (by simp)) fun h => h.2
    have hm := must5_ctr g q arrB (by decide)
    replace hq : w.length + gd.length + q.l.length ≤ N := hq
    have hrw : ruleS p = (mustS arrB q).bind fun p2 => (listS ampB (partS asB) p2).bind fun y => (mustS dotC y.2).bind fun p4 => some (⟨sortP w, sortP gd, sortP y.1⟩, { p4 with twi := ((p4.twi || dupS (sortP w)) || dupS (sortP gd)) || dupS (sortP y.1) }) := by
      rw [ruleS, hR, ← hx]; rfl
    cases h2 : mustS arrB q with
    | none =>
      have hd := hm.none h2
      conv => whnf
      repeat' (first | (refine And.intro easyA ?_; conv => whnf) | (refine ifB_intro (fun hA => ?_) (fun hA => ?_) <;> (try rw [hA]) <;> (conv => whnf) <;> (first | replace hA := nrmA hA | replace hA := nrmB hA | replace hA := nrmC hA | replace hA := nrmD hA | replace hA := nrmE hA | replace hA := nrmF hA | skip) <;> (try simp only [List.length_map, cond_true, cond_false, Bool.not_eq_true', Bool.not_eq_false', beq_iff_eq, beq_eq_false_iff_ne, ne_eq] at hA)) | (refine CallP.dies (hd) (by (conv => whnf); repeat' first | exact trivial | refine And.intro (fun _ h => h) ?_) ?_; (conv => whnf); refine ⟨⟨[], trivial, rfl, ?_⟩⟩) | (rw [getD_map _ _ _ _ (by assumption)]; conv => whnf))
      rw [hrw, h2]; rfl
    | some xS =>
      have hm1 := hm.some h2
      have hxl := mustS_len h2
      have hpl := plist1_ctr g N hN0 xS (by omega)
      cases h3 : listS ampB (partS asB) xS with
      | none =>
        have hd := hpl.none h3
        conv => whnf
        repeat' (first | (refine And.intro easyA ?_; conv => whnf) | (refine ifB_intro (fun hA => ?_) (fun hA => ?_) <;> (try rw [hA]) <;> (conv => whnf) <;> (first | replace hA := nrmA hA | replace hA := nrmB hA | replace hA := nrmC hA | replace hA := nrmD hA | replace hA := nrmE hA | replace hA := nrmF hA | skip) <;> (try simp only [List.length_map, cond_true, cond_false, Bool.not_eq_true', Bool.not_eq_false', beq_iff_eq, beq_eq_false_iff_ne, ne_eq] at hA)) | (refine CallP.hlb (hm1) (by (conv => whnf); repeat' first | exact trivial | refine And.intro (fun _ h => h) ?_) rfl ?_; conv => whnf) | (refine CallD.hlb (hm1) (by (conv => whnf); repeat' first | exact trivial | refine And.intro (fun _ h => h) ?_) ?_; conv => whnf) | (refine CallP.dies (hd) (by (conv => whnf); repeat' first | exact trivial | refine And.intro (fun _ h => h) ?_) ?_; (conv => whnf); refine ⟨⟨[], trivial, rfl, ?_⟩⟩) | (rw [getD_map _ _ _ _ (by assumption)]; conv => whnf))
        rw [hrw, h2]; simp only [Option.bind_some, h3]; rfl
      | some y =>
        have hp1 := hpl.some h3
        have hyl : y.1.length ≤ N := by
          have h4 := listS_lenS (fun _ _ _ h => partS_len h) h3
          omega
        have hdot := must5_ctr g y.2 dotC (by decide)
        cases h4 : mustS dotC y.2 with
        | none =>
          have hd := hdot.none h4
          have hrn : ruleS p = none := by rw [hrw, h2]; simp only [Option.bind_some, h3, h4]; rfl
          rw [hrn]
          by_cases hy1 : y.1.length = 1
          · rw [lAV_one 9101 false hy1, lH_one 9101 hy1] at hp1
            conv => whnf
            repeat' (first | (refine And.intro easyA ?_; conv => whnf) | (refine ifB_intro (fun hA => ?_) (fun hA => ?_) <;> (try rw [hA]) <;> (conv => whnf) <;> (first | replace hA := nrmA hA | replace hA := nrmB hA | replace hA := nrmC hA | replace hA := nrmD hA | replace hA := nrmE hA | replace hA := nrmF hA | skip) <;> (try simp only [List.length_map, cond_true, cond_false, Bool.not_eq_true', Bool.not_eq_false', beq_iff_eq, beq_eq_false_iff_ne, ne_eq] at hA)) | (refine CallP.hlb (hm1) (by (conv => whnf); repeat' first | exact trivial | refine And.intro (fun _ h => h) ?_) rfl ?_; conv => whnf) | (refine CallD.hlb (hm1) (by (conv => whnf); repeat' first | exact trivial | refine And.intro (fun _ h => h) ?_) ?_; conv => whnf) | (refine CallP.hlb (hp1) (by (conv => whnf); repeat' first | exact trivial | refine And.intro (fun _ h => h) ?_) rfl ?_; conv => whnf) | (refine CallD.hlb (hp1) (by (conv => whnf); repeat' first | exact trivial | refine And.intro (fun _ h => h) ?_) ?_; conv => whnf) | (refine CallP.dies (hd) (by (conv => whnf); repeat' first | exact trivial | refine And.intro (fun _ h => h) ?_) ?_; (conv => whnf); refine ⟨⟨[], trivial, rfl, ?_⟩⟩) | (rw [getD_map _ _ _ _ (by assumption)]; conv => whnf))
            rfl
          · rw [lAV_more 9101 false hy1, lH_more 9101 hy1] at hp1
            conv => whnf
            repeat' (first | (refine And.intro easyA ?_; conv => whnf) | (refine ifB_intro (fun hA => ?_) (fun hA => ?_) <;> (try rw [hA]) <;> (conv => whnf) <;> (first | replace hA := nrmA hA | replace hA := nrmB hA | replace hA := nrmC hA | replace hA := nrmD hA | replace hA := nrmE hA | replace hA := nrmF hA | skip) <;> (try simp only [List.length_map, cond_true, cond_false, Bool.not_eq_true', Bool.not_eq_false', beq_iff_eq, beq_eq_false_iff_ne, ne_eq] at hA)) | (refine CallP.hlb (hm1) (by (conv => whnf); repeat' first | exact trivial | refine And.intro (fun _ h => h) ?_) rfl ?_; conv => whnf) | (refine CallD.hlb (hm1) (by (conv => whnf); repeat' first | exact trivial | refine And.intro (fun _ h => h) ?_) ?_; conv => whnf) | (refine CallP.hlbN hp1 (by (conv => whnf); repeat' first | exact trivial | refine And.intro (fun _ h => h) ?_) rfl ?_; conv => whnf) | (refine CallP.dies (hd) (by (conv => whnf); repeat' first | exact trivial | refine And.intro (fun _ h => h) ?_) ?_; (conv => whnf); refine ⟨⟨[], trivial, rfl, ?_⟩⟩) | (rw [getD_map _ _ _ _ (by assumption)]; conv => whnf))
            rfl
        | some xS' =>
          have hd := hdot.some h4
          have hsp : ruleS p = some (⟨sortP w, sortP gd, sortP y.1⟩, { xS' with twi := ((xS'.twi || dupS (sortP w)) || dupS (sortP gd)) || dupS (sortP y.1) }) := by
            rw [hrw, h2]; simp only [Option.bind_some, h3, h4]
          rw [hsp]
          have c1 := (riseM_ctr g xS' w (by omega)).swap 9100 9003
          have c2 := (riseM_ctr g { xS' with twi := xS'.twi || dupS (sortP w) } gd (by omega)).swap 9100 9004
          have w1 := sortP_len w
          have w2 := sortP_len gd
          have w3 := sortP_len y.1
          clear hrw hsp hm hpl hdot
          by_cases hy1 : y.1.length = 1
          · obtain ⟨y0, hy0⟩ := List.length_eq_one_iff.1 hy1
            have c3 := rise1_ctr g { xS' with twi := (xS'.twi || dupS (sortP w)) || dupS (sortP gd) } y0
            rw [← hy0] at c3
            have hso : sortP y.1 = y.1 := by rw [hy0, sortP_one]
            rw [lAV_one 9101 false hy1, lH_one 9101 hy1] at hp1
            conv => whnf
            repeat' (first | (refine And.intro easyA ?_; conv => whnf) | (refine ifB_intro (fun hA => ?_) (fun hA => ?_) <;> (try rw [hA]) <;> (conv => whnf) <;> (first | replace hA := nrmA hA | replace hA := nrmB hA | replace hA := nrmC hA | replace hA := nrmD hA | replace hA := nrmE hA | replace hA := nrmF hA | skip) <;> (try simp only [List.length_map, cond_true, cond_false, Bool.not_eq_true', Bool.not_eq_false', beq_iff_eq, beq_eq_false_iff_ne, ne_eq] at hA)) | (refine CallP.hlb (hm1) (by (conv => whnf); repeat' first | exact trivial | refine And.intro (fun _ h => h) ?_) rfl ?_; conv => whnf) | (refine CallD.hlb (hm1) (by (conv => whnf); repeat' first | exact trivial | refine And.intro (fun _ h => h) ?_) ?_; conv => whnf) | (refine CallP.hlb (hp1) (by (conv => whnf); repeat' first | exact trivial | refine And.intro (fun _ h => h) ?_) rfl ?_; conv => whnf) | (refine CallD.hlb (hp1) (by (conv => whnf); repeat' first | exact trivial | refine And.intro (fun _ h => h) ?_) ?_; conv => whnf) | (refine CallP.hlb (hd) (by (conv => whnf); repeat' first | exact trivial | refine And.intro (fun _ h => h) ?_) rfl ?_; conv => whnf) | (refine CallD.hlb (hd) (by (conv => whnf); repeat' first | exact trivial | refine And.intro (fun _ h => h) ?_) ?_; conv => whnf) | (rw [getD_map _ _ _ _ (by assumption)]; conv => whnf))
            have t1 : List.take w.length (List.drop 0 ((sortP w).map rowF)) = (sortP w).map rowF := by rw [List.drop_zero, List.take_of_length_le (by rw [List.length_map]; omega)]
            have t2 : List.take gd.length (List.drop 0 ((sortP gd).map rowF)) = (sortP gd).map rowF := by rw [List.drop_zero, List.take_of_length_le (by rw [List.length_map]; omega)]
            have t3 : List.take y.1.length (List.drop 0 ((sortP y.1).map rowF)) = (sortP y.1).map rowF := by rw [List.drop_zero, List.take_of_length_le (by rw [List.length_map]; omega)]
            refine DrawP.joinSub { f := [(2, .ptr 2 0), (3, .ptr 3 0)], h := (2, some (.dvar 3 [.v (.slice none 0 0), .v (.slice none 0 0), .v (.slice none 0 0)])) :: (3, some (.var [.msl 9003 w.length 0 w.length, .msl 9004 gd.length 0 gd.length, .d (.sl false 2 (y.1.map rowF))])) :: (9003, some (bufP (sortP w))) :: (9004, some (bufP (sortP gd))) :: spH { xS' with twi := ((xS'.twi || dupS (sortP w)) || dupS (sortP gd)) || dupS (sortP y.1) } } { f := [(2, .ptr 2 0), (3, .ptr 3 0)], h := (2, some (.dvar 3 [.v (.slice none 0 0), .v (.slice none 0 0), .v (.slice none 0 0)])) :: (3, some (.var [.d (.sl false 2 ((sortP w).map rowF)), .d (.sl false 2 ((sortP gd).map rowF)), .d (.sl false 2 ((sortP y.1).map rowF))])) :: spH { xS' with twi := ((xS'.twi || dupS (sortP w)) || dupS (sortP gd)) || dupS (sortP y.1) } } ?_ ?_ ?_
            · refine DrawP.intro (X := ax g) (id := 13) B167_13 (by kernel_rfl) (by decide +kernel) ?_
              conv => whnf
              repeat' (first | (refine And.intro easyA ?_; conv => whnf) | (refine ifB_intro (fun hA => ?_) (fun hA => ?_) <;> (try rw [hA]) <;> (conv => whnf) <;> (first | replace hA := nrmA hA | replace hA := nrmB hA | replace hA := nrmC hA | replace hA := nrmD hA | replace hA := nrmE hA | replace hA := nrmF hA | skip) <;> (try simp only [List.length_map, cond_true, cond_false, Bool.not_eq_true', Bool.not_eq_false', beq_iff_eq, beq_eq_false_iff_ne, ne_eq] at hA)) | (refine CallP.hlb (c1) (by (conv => whnf); repeat' first | exact trivial | refine And.intro (fun _ h => h) ?_) rfl ?_; conv => whnf) | (refine CallD.hlb (c1) (by (conv => whnf); repeat' first | exact trivial | refine And.intro (fun _ h => h) ?_) ?_; conv => whnf) | (refine CallP.hlb (c2) (by (conv => whnf); repeat' first | exact trivial | refine And.intro (fun _ h => h) ?_) rfl ?_; conv => whnf) | (refine CallD.hlb (c2) (by (conv => whnf); repeat' first | exact trivial | refine And.intro (fun _ h => h) ?_) ?_; conv => whnf) | (refine CallP.hlb (c3) (by (conv => whnf); repeat' first | exact trivial | refine And.intro (fun _ h => h) ?_) rfl ?_; conv => whnf) | (refine CallD.hlb (c3) (by (conv => whnf); repeat' first | exact trivial | refine And.intro (fun _ h => h) ?_) ?_; conv => whnf) | (rw [getD_map _ _ _ _ (by assumption)]; conv => whnf))
              exact ⟨⟨rfl, rfl, trivial⟩, ⟨fun o h => h, fun o h => h, fun o h => h, fun o h => h, fun o h => h, fun o h => h, trivial⟩⟩
            · refine Sub.trans ?_ (Sub.frzCell 3 0 9003 w.length 0 w.length 2 106 _ ((sortP w).map rowF) rfl rfl rfl (by decide) (by rw [List.length_map]; omega) (by omega))
              refine Sub.trans ?_ (Sub.frzCell 3 1 9004 gd.length 0 gd.length 2 106 _ ((sortP gd).map rowF) rfl rfl rfl (by decide) (by rw [List.length_map]; omega) (by omega))
              simp only [t1, t2]
              exact St.Le.sub ⟨⟨rfl, rfl, trivial⟩, ⟨fun o h => h, fun o h => by rw [hso] at h; exact h, fun o h => h, fun o h => h, trivial⟩⟩
            · conv => whnf
              repeat' (first | (refine And.intro easyA ?_; conv => whnf) | (refine ifB_intro (fun hA => ?_) (fun hA => ?_) <;> (try rw [hA]) <;> (conv => whnf) <;> (first | replace hA := nrmA hA | replace hA := nrmB hA | replace hA := nrmC hA | replace hA := nrmD hA | replace hA := nrmE hA | replace hA := nrmF hA | skip) <;> (try simp only [List.length_map, cond_true, cond_false, Bool.not_eq_true', Bool.not_eq_false', beq_iff_eq, beq_eq_false_iff_ne, ne_eq] at hA)) | (rw [getD_map _ _ _ _ (by assumption)]; conv => whnf))
              refine ⟨⟨spH { xS' with twi := ((xS'.twi || dupS (sortP w)) || dupS (sortP gd)) || dupS (sortP y.1) }, ?_⟩⟩
              conv => whnf
              repeat' (first | (refine And.intro easyA ?_; conv => whnf) | (refine ifB_intro (fun hA => ?_) (fun hA => ?_) <;> (try rw [hA]) <;> (conv => whnf) <;> (first | replace hA := nrmA hA | replace hA := nrmB hA | replace hA := nrmC hA | replace hA := nrmD hA | replace hA := nrmE hA | replace hA := nrmF hA | skip) <;> (try simp only [List.length_map, cond_true, cond_false, Bool.not_eq_true', Bool.not_eq_false', beq_iff_eq, beq_eq_false_iff_ne, ne_eq] at hA)) | (refine And.intro ⟨fun o h => h, fun o h => h, trivial⟩ ?_; conv => whnf) | (rw [getD_map _ _ _ _ (by assumption)]; conv => whnf))
              rfl
          · rw [lAV_more 9101 false hy1, lH_more 9101 hy1] at hp1
            have c3 := (riseM_ctr g { xS' with twi := (xS'.twi || dupS (sortP w)) || dupS (sortP gd) } y.1 (by omega)).swap 9100 9101
            conv => whnf
            repeat' (first | (refine And.intro easyA ?_; conv => whnf) | (refine ifB_intro (fun hA => ?_) (fun hA => ?_) <;> (try rw [hA]) <;> (conv => whnf) <;> (first | replace hA := nrmA hA | replace hA := nrmB hA | replace hA := nrmC hA | replace hA := nrmD hA | replace hA := nrmE hA | replace hA := nrmF hA | skip) <;> (try simp only [List.length_map, cond_true, cond_false, Bool.not_eq_true', Bool.not_eq_false', beq_iff_eq, beq_eq_false_iff_ne, ne_eq] at hA)) | (refine CallP.hlb (hm1) (by (conv => whnf); repeat' first | exact trivial | refine And.intro (fun _ h => h) ?_) rfl ?_; conv => whnf) | (refine CallD.hlb (hm1) (by (conv => whnf); repeat' first | exact trivial | refine And.intro (fun _ h => h) ?_) ?_; conv => whnf) | (refine CallP.hlbN hp1 (by (conv => whnf); repeat' first | exact trivial | refine And.intro (fun _ h => h) ?_) rfl ?_; conv => whnf) | (refine CallP.hlb (hd) (by (conv => whnf); repeat' first | exact trivial | refine And.intro (fun _ h => h) ?_) rfl ?_; conv => whnf) | (refine CallD.hlb (hd) (by (conv => whnf); repeat' first | exact trivial | refine And.intro (fun _ h => h) ?_) ?_; conv => whnf) | (rw [getD_map _ _ _ _ (by assumption)]; conv => whnf))
            have t1 : List.take w.length (List.drop 0 ((sortP w).map rowF)) = (sortP w).map rowF := by rw [List.drop_zero, List.take_of_length_le (by rw [List.length_map]; omega)]
            have t2 : List.take gd.length (List.drop 0 ((sortP gd).map rowF)) = (sortP gd).map rowF := by rw [List.drop_zero, List.take_of_length_le (by rw [List.length_map]; omega)]
            have t3 : List.take y.1.length (List.drop 0 ((sortP y.1).map rowF)) = (sortP y.1).map rowF := by rw [List.drop_zero, List.take_of_length_le (by rw [List.length_map]; omega)]
            refine DrawP.joinSub { f := [(2, .ptr 2 0), (3, .ptr 3 0)], h := (2, some (.dvar 3 [.v (.slice none 0 0), .v (.slice none 0 0), .v (.slice none 0 0)])) :: (3, some (.var [.msl 9003 w.length 0 w.length, .msl 9004 gd.length 0 gd.length, .msl 9101 y.1.length 0 y.1.length])) :: (9003, some (bufP (sortP w))) :: (9004, some (bufP (sortP gd))) :: (9101, some (bufP (sortP y.1))) :: spH { xS' with twi := ((xS'.twi || dupS (sortP w)) || dupS (sortP gd)) || dupS (sortP y.1) } } { f := [(2, .ptr 2 0), (3, .ptr 3 0)], h := (2, some (.dvar 3 [.v (.slice none 0 0), .v (.slice none 0 0), .v (.slice none 0 0)])) :: (3, some (.var [.d (.sl false 2 ((sortP w).map rowF)), .d (.sl false 2 ((sortP gd).map rowF)), .d (.sl false 2 ((sortP y.1).map rowF))])) :: spH { xS' with twi := ((xS'.twi || dupS (sortP w)) || dupS (sortP gd)) || dupS (sortP y.1) } } ?_ ?_ ?_
            · refine DrawP.intro (X := ax g) (id := 13) B167_13 (by kernel_rfl) (by decide +kernel) ?_
              conv => whnf
              repeat' (first | (refine And.intro easyA ?_; conv => whnf) | (refine ifB_intro (fun hA => ?_) (fun hA => ?_) <;> (try rw [hA]) <;> (conv => whnf) <;> (first | replace hA := nrmA hA | replace hA := nrmB hA | replace hA := nrmC hA | replace hA := nrmD hA | replace hA := nrmE hA | replace hA := nrmF hA | skip) <;> (try simp only [List.length_map, cond_true, cond_false, Bool.not_eq_true', Bool.not_eq_false', beq_iff_eq, beq_eq_false_iff_ne, ne_eq] at hA)) | (refine CallP.hlb (c1) (by (conv => whnf); repeat' first | exact trivial | refine And.intro (fun _ h => h) ?_) rfl ?_; conv => whnf) | (refine CallD.hlb (c1) (by (conv => whnf); repeat' first | exact trivial | refine And.intro (fun _ h => h) ?_) ?_; conv => whnf) | (refine CallP.hlb (c2) (by (conv => whnf); repeat' first | exact trivial | refine And.intro (fun _ h => h) ?_) rfl ?_; conv => whnf) | (refine CallD.hlb (c2) (by (conv => whnf); repeat' first | exact trivial | refine And.intro (fun _ h => h) ?_) ?_; conv => whnf) | (refine CallP.hlb (c3) (by (conv => whnf); repeat' first | exact trivial | refine And.intro (fun _ h => h) ?_) rfl ?_; conv => whnf) | (refine CallD.hlb (c3) (by (conv => whnf); repeat' first | exact trivial | refine And.intro (fun _ h => h) ?_) ?_; conv => whnf) | (rw [getD_map _ _ _ _ (by assumption)]; conv => whnf))
              exact ⟨⟨rfl, rfl, trivial⟩, ⟨fun o h => h, fun o h => h, fun o h => h, fun o h => h, fun o h => h, fun o h => h, fun o h => h, trivial⟩⟩
            · refine Sub.trans ?_ (Sub.frzCell 3 0 9003 w.length 0 w.length 2 106 _ ((sortP w).map rowF) rfl rfl rfl (by decide) (by rw [List.length_map]; omega) (by omega))
              refine Sub.trans ?_ (Sub.frzCell 3 1 9004 gd.length 0 gd.length 2 106 _ ((sortP gd).map rowF) rfl rfl rfl (by decide) (by rw [List.length_map]; omega) (by omega))
              refine Sub.trans ?_ (Sub.frzCell 3 2 9101 y.1.length 0 y.1.length 2 106 _ ((sortP y.1).map rowF) rfl rfl rfl (by decide) (by rw [List.length_map]; omega) (by omega))
              simp only [t1, t2, t3]
              exact St.Le.sub ⟨⟨rfl, rfl, trivial⟩, ⟨fun o h => h, fun o h => h, fun o h => h, fun o h => h, trivial⟩⟩
            · conv => whnf
              repeat' (first | (refine And.intro easyA ?_; conv => whnf) | (refine ifB_intro (fun hA => ?_) (fun hA => ?_) <;> (try rw [hA]) <;> (conv => whnf) <;> (first | replace hA := nrmA hA | replace hA := nrmB hA | replace hA := nrmC hA | replace hA := nrmD hA | replace hA := nrmE hA | replace hA := nrmF hA | skip) <;> (try simp only [List.length_map, cond_true, cond_false, Bool.not_eq_true', Bool.not_eq_false', beq_iff_eq, beq_eq_false_iff_ne, ne_eq] at hA)) | (rw [getD_map _ _ _ _ (by assumption)]; conv => whnf))
              refine ⟨⟨spH { xS' with twi := ((xS'.twi || dupS (sortP w)) || dupS (sortP gd)) || dupS (sortP y.1) }, ?_⟩⟩
              conv => whnf
              repeat' (first | (refine And.intro easyA ?_; conv => whnf) | (refine ifB_intro (fun hA => ?_) (fun hA => ?_) <;> (try rw [hA]) <;> (conv => whnf) <;> (first | replace hA := nrmA hA | replace hA := nrmB hA | replace hA := nrmC hA | replace hA := nrmD hA | replace hA := nrmE hA | replace hA := nrmF hA | skip) <;> (try simp only [List.length_map, cond_true, cond_false, Bool.not_eq_true', Bool.not_eq_false', beq_iff_eq, beq_eq_false_iff_ne, ne_eq] at hA)) | (refine And.intro ⟨fun o h => h, fun o h => h, trivial⟩ ?_; conv => whnf) | (rw [getD_map _ _ _ _ (by assumption)]; conv => whnf))
              rfl
  | true =>
    have hx : ∃ n, q.l.length ≤ n ∧ condsGo n w gd q = R := hx.elim (fun h => h.2) fun h => absurd h.1 (by simp)
    obtain ⟨n, hn, hR2⟩ := hx
    replace hq : w.length + gd.length + q.l.length ≤ N := hq
    have hpos : 0 < q.l.length := by
      obtain ⟨l, ok, ns, u, tw⟩ := q
      cases l with
      | nil => exact ok.not_nil.elim
      | cons t r => simp
    obtain ⟨m, rfl⟩ : ∃ m, n = m + 1 := ⟨n - 1, by omega⟩
    conv => whnf
    repeat' (first | (refine And.intro easyA ?_; conv => whnf) | (refine ifB_intro (fun hA => ?_) (fun hA => ?_) <;> (try rw [hA]) <;> (conv => whnf) <;> (first | replace hA := nrmA hA | replace hA := nrmB hA | replace hA := nrmC hA | replace hA := nrmD hA | replace hA := nrmE hA | replace hA := nrmF hA | skip) <;> (try simp only [ne_eq] at hA)) | (refine CallP.hlb (speek_ctr g q) (by (conv => whnf); repeat' first | exact trivial | refine And.intro (fun _ h => h) ?_) rfl ?_; conv => whnf) | (refine CallD.hlb (speek_ctr g q) (by (conv => whnf); repeat' first | exact trivial | refine And.intro (fun _ h => h) ?_) ?_; conv => whnf) | (rw [getD_map _ _ _ _ (by assumption)]; conv => whnf))
    · cases hP : partS eqB q with
      | none =>
        have hd := (part5_ctr g q eqB (by decide)).none hP
        have hR3 : R = none := by rw [← hR2, condsGo, condS, if_pos hA, hP]; rfl
        refine DrawP.any (X := ax g) (by decide +kernel) ?_
        conv => whnf
        repeat' (first | (refine And.intro easyA ?_; conv => whnf) | (refine ifB_intro (fun hA => ?_) (fun hA => ?_) <;> (try rw [hA]) <;> (conv => whnf) <;> (first | replace hA := nrmA hA | replace hA := nrmB hA | replace hA := nrmC hA | replace hA := nrmD hA | replace hA := nrmE hA | replace hA := nrmF hA | skip) <;> (try simp only [List.length_map, cond_true, cond_false, Bool.not_eq_true', Bool.not_eq_false', beq_iff_eq, beq_eq_false_iff_ne, ne_eq] at hA)) | (refine CallP.dies (hd) (by (conv => whnf); repeat' first | exact trivial | refine And.intro (fun _ h => h) ?_) ?_; (conv => whnf); refine ⟨⟨[], trivial, rfl, ?_⟩⟩) | (refine BothP.mk ?_ ?_ <;> conv => whnf) | (rw [getD_map _ _ _ _ (by assumption)]; conv => whnf))
        all_goals (rw [ruleS, hR, hR3]; rfl)
      | some y =>
        obtain ⟨x, r⟩ := y
        have hd := (part5_ctr g q eqB (by decide)).some hP
        have hcond : condS q = some ((true, x), r) := by rw [condS, if_pos hA, hP]; rfl
        have hrl := condS_len hcond
        have htl := takeS_len (s := ampB) (p := r)
        have ht := take_ctr g r ampB (by decide)
        refine DrawP.intro (X := ax g) (id := 6) B167_6 (by kernel_rfl) (by decide +kernel) ?_
        conv => whnf
        repeat' (first | (refine And.intro easyA ?_; conv => whnf) | (refine ifB_intro (fun hA => ?_) (fun hA => ?_) <;> (try rw [hA]) <;> (conv => whnf) <;> (first | replace hA := nrmA hA | replace hA := nrmB hA | replace hA := nrmC hA | replace hA := nrmD hA | replace hA := nrmE hA | replace hA := nrmF hA | skip) <;> (try simp only [List.length_map, cond_true, cond_false, Bool.not_eq_true', Bool.not_eq_false', beq_iff_eq, beq_eq_false_iff_ne, ne_eq] at hA)) | (refine CallP.hlb (hd) (by (conv => whnf); repeat' first | exact trivial | refine And.intro (fun _ h => h) ?_) rfl ?_; conv => whnf) | (refine CallD.hlb (hd) (by (conv => whnf); repeat' first | exact trivial | refine And.intro (fun _ h => h) ?_) ?_; conv => whnf) | (refine CallP.hlb (ht) (by (conv => whnf); repeat' first | exact trivial | refine And.intro (fun _ h => h) ?_) rfl ?_; conv => whnf) | (refine CallD.hlb (ht) (by (conv => whnf); repeat' first | exact trivial | refine And.intro (fun _ h => h) ?_) ?_; conv => whnf) | (refine And.intro (by first | exact (List.length_map ..).symm | (simp only [List.length_map, List.length_cons, List.length_nil]; omega)) ?_; conv => whnf) | (rw [getD_map _ _ _ _ (by assumption)]; conv => whnf))
        refine ⟨((takeS ampB r).1, w, gd ++ [x], (takeS ampB r).2), ⟨?_, ?_⟩, ?_, ⟨⟨rfl, rfl, rfl, rfl, trivial⟩, ⟨fun o h => h, fun o h => h, fun o h => ?_, fun o h => ?_, fun o h => ?_, fun o h => h, fun o h => h, trivial⟩⟩⟩
        · show (w).length + (gd ++ [x]).length + (takeS ampB r).2.l.length ≤ N
          simp only [List.length_append, List.length_cons, List.length_nil]; omega
        · rw [condsGo, hcond] at hR2
          dsimp only at hR2
          cases hm : (takeS ampB r).1 with
          | true => exact .inl ⟨rfl, m, by show (takeS ampB r).2.l.length ≤ m; omega, by rw [if_pos hm] at hR2; exact hR2⟩
          | false => exact .inr ⟨rfl, by rw [if_neg (by simp [hm])] at hR2; exact hR2⟩
        · show (takeS ampB r).2.l.length + (bif (takeS ampB r).1 then 1 else 0) < q.l.length + 1
          cases hm : (takeS ampB r).1 with
          | true => have := htl.2 hm; simp only [cond_true]; omega
          | false => simp only [cond_false]; omega
        · rw [← h]; first | rfl | (simp; rfl) | (simp only [List.length_append, List.length_map, List.length_cons, List.length_nil]; rfl)
        · rw [← h]; first | rfl | (simp; rfl)
        · rw [← h]; first | rfl | (simp; rfl)
    · have hdie : condS q = none → ruleS p = none := fun h => by rw [ruleS, hR, ← hR2, condsGo, h]; rfl
      repeat' (first | (refine And.intro easyA ?_; conv => whnf) | (refine ifB_intro (fun hA => ?_) (fun hA => ?_) <;> (try rw [hA]) <;> (conv => whnf) <;> (first | replace hA := nrmA hA | replace hA := nrmB hA | replace hA := nrmC hA | replace hA := nrmD hA | replace hA := nrmE hA | replace hA := nrmF hA | skip) <;> (try simp only [List.length_map, cond_true, cond_false, Bool.not_eq_true', Bool.not_eq_false', beq_iff_eq, beq_eq_false_iff_ne, ne_eq] at hA)) | (refine CallP.may (field5_ctr g q) (by (conv => whnf); repeat' first | exact trivial | refine And.intro (fun _ h => h) ?_) (fun _ => rfl) (fun hN => ?_) (fun xS hS => ?_) <;> (conv => whnf) <;> (try refine ⟨⟨[], trivial, rfl, ?_⟩⟩)) | (refine CallP.may (must5_ctr g xS.2 eqB (by decide)) (by (conv => whnf); repeat' first | exact trivial | refine And.intro (fun _ h => h) ?_) (fun _ => rfl) (fun hN => ?_) (fun xS hS => ?_) <;> (conv => whnf) <;> (try refine ⟨⟨[], trivial, rfl, ?_⟩⟩)) | (rw [getD_map _ _ _ _ (by assumption)]; conv => whnf))
      · rw [hdie (by rw [condS, if_neg hA, hN]; rfl)]; rfl
      · rw [hdie (by rw [condS, if_neg hA, hS]; simp only [Option.bind_some, hN]; rfl)]; rfl
      · rename_i f hf
        cases hP : valueS xS with
        | none =>
          have hd := (value_ctr g xS).none hP
          have hR3 : ruleS p = none := hdie (by rw [condS, if_neg hA, hf]; simp only [Option.bind_some, hS, hP]; rfl)
          refine DrawP.any (X := ax g) (by decide +kernel) ?_
          conv => whnf
          repeat' (first | (refine And.intro easyA ?_; conv => whnf) | (refine ifB_intro (fun hA => ?_) (fun hA => ?_) <;> (try rw [hA]) <;> (conv => whnf) <;> (first | replace hA := nrmA hA | replace hA := nrmB hA | replace hA := nrmC hA | replace hA := nrmD hA | replace hA := nrmE hA | replace hA := nrmF hA | skip) <;> (try simp only [List.length_map, cond_true, cond_false, Bool.not_eq_true', Bool.not_eq_false', beq_iff_eq, beq_eq_false_iff_ne, ne_eq] at hA)) | (refine CallP.dies (hd) (by (conv => whnf); repeat' first | exact trivial | refine And.intro (fun _ h => h) ?_) ?_; (conv => whnf); refine ⟨⟨[], trivial, rfl, ?_⟩⟩) | (refine BothP.mk ?_ ?_ <;> conv => whnf) | (rw [getD_map _ _ _ _ (by assumption)]; conv => whnf))
          all_goals (rw [hR3]; rfl)
        | some y =>
          obtain ⟨v, r⟩ := y
          have hd := (value_ctr g xS).some hP
          have hcond : condS q = some ((false, (f.1, v)), r) := by rw [condS, if_neg hA, hf]; simp only [Option.bind_some, hS, hP]
          have hrl := condS_len hcond
          have htl := takeS_len (s := ampB) (p := r)
          have ht := take_ctr g r ampB (by decide)
          refine DrawP.intro (X := ax g) (id := 9) B167_9 (by kernel_rfl) (by decide +kernel) ?_
          conv => whnf
          repeat' (first | (refine And.intro easyA ?_; conv => whnf) | (refine ifB_intro (fun hA => ?_) (fun hA => ?_) <;> (try rw [hA]) <;> (conv => whnf) <;> (first | replace hA := nrmA hA | replace hA := nrmB hA | replace hA := nrmC hA | replace hA := nrmD hA | replace hA := nrmE hA | replace hA := nrmF hA | skip) <;> (try simp only [List.length_map, cond_true, cond_false, Bool.not_eq_true', Bool.not_eq_false', beq_iff_eq, beq_eq_false_iff_ne, ne_eq] at hA)) | (refine CallP.hlb (hd) (by (conv => whnf); repeat' first | exact trivial | refine And.intro (fun _ h => h) ?_) rfl ?_; conv => whnf) | (refine CallD.hlb (hd) (by (conv => whnf); repeat' first | exact trivial | refine And.intro (fun _ h => h) ?_) ?_; conv => whnf) | (refine CallP.hlb (ht) (by (conv => whnf); repeat' first | exact trivial | refine And.intro (fun _ h => h) ?_) rfl ?_; conv => whnf) | (refine CallD.hlb (ht) (by (conv => whnf); repeat' first | exact trivial | refine And.intro (fun _ h => h) ?_) ?_; conv => whnf) | (refine And.intro (by first | exact (List.length_map ..).symm | (simp only [List.length_map, List.length_cons, List.length_nil]; omega)) ?_; conv => whnf) | (rw [getD_map _ _ _ _ (by assumption)]; conv => whnf))
          refine ⟨((takeS ampB r).1, w ++ [(f.1, v)], gd, (takeS ampB r).2), ⟨?_, ?_⟩, ?_, ⟨⟨rfl, rfl, rfl, rfl, trivial⟩, ⟨fun o h => h, fun o h => h, fun o h => ?_, fun o h => ?_, fun o h => ?_, fun o h => h, fun o h => h, trivial⟩⟩⟩
          · show (w ++ [(f.1, v)]).length + (gd).length + (takeS ampB r).2.l.length ≤ N
            simp only [List.length_append, List.length_cons, List.length_nil]; omega
          · rw [condsGo, hcond] at hR2
            dsimp only at hR2
            cases hm : (takeS ampB r).1 with
            | true => exact .inl ⟨rfl, m, by show (takeS ampB r).2.l.length ≤ m; omega, by rw [if_pos hm] at hR2; exact hR2⟩
            | false => exact .inr ⟨rfl, by rw [if_neg (by simp [hm])] at hR2; exact hR2⟩
          · show (takeS ampB r).2.l.length + (bif (takeS ampB r).1 then 1 else 0) < q.l.length + 1
            cases hm : (takeS ampB r).1 with
            | true => have := htl.2 hm; simp only [cond_true]; omega
            | false => simp only [cond_false]; omega
          · rw [← h]; first | rfl | (simp; rfl) | (simp only [List.length_append, List.length_map, List.length_cons, List.length_nil]; rfl)
          · rw [← h]; first | rfl | (simp; rfl)
          · rw [← h]; first | rfl | (simp; rfl)
end Go.Ax
