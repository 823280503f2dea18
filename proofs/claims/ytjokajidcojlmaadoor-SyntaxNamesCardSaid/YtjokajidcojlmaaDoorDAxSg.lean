import Derived.Test.YtjokajidcojlmaaDoorDAxSd
import Derived.Test.YtjokajidcojlmaaDoorDAxV

/- Pairs that are in order: sorting leaves them. -/
namespace Go.Ax
open Go.Proofs
set_option maxRecDepth 10000

def cmpI (a b : Int) : Int := if a < b then -1 else if b < a then 1 else 0
theorem isNaN_ctr (g : GP) (a : Int) : Ctr (ax g).E 226 [.i64 a] [] (fun o => o = .ret (.bool false) []) := by
  refine Ctr.body (X := ax g) _ 6 [] [.tmp 2] Tryd.func226 rfl rfl rfl rfl (by decide +kernel) rfl rfl ?_
  conv => whnf
  repeat' (first | (refine And.intro (by first | exact rfl | decide | exact Nat.le_of_ble_eq_true rfl | exact ⟨_, rfl⟩ | exact ⟨_, _, rfl⟩ | exact Nat.le_refl _ | exact Int.le_refl _ | omega | (simp only [List.length_map]; omega) | exact True.intro | (simp only [IntKind.wrap_i64, List.length_map]; omega) | (simp only [List.map_cons, List.map_nil, List.length_cons, Option.getD]; omega) | (simp only [bsz, ByteArray.size_append, List.size_toArray, List.length_cons, List.length_nil]; omega) | exact ⟨⟨_, _, rfl, rfl, Nat.le_of_ble_eq_true rfl⟩, trivial⟩ | exact ⟨⟨_, _, rfl, rfl, Nat.le_of_ble_eq_true rfl⟩, ⟨_, _, rfl, rfl, Nat.le_of_ble_eq_true rfl⟩, trivial⟩ | exact ⟨⟨_, _, rfl, rfl, Nat.le_of_ble_eq_true rfl⟩, ⟨_, _, rfl, rfl, Nat.le_of_ble_eq_true rfl⟩, ⟨_, _, rfl, rfl, Nat.le_of_ble_eq_true rfl⟩, trivial⟩) ?_; conv => whnf) | (refine ifB_intro (fun hA => ?_) (fun hA => ?_) <;> (try rw [hA]) <;> (conv => whnf) <;> (first | replace hA := of_decide_eq_true hA | replace hA := of_decide_eq_false hA | replace hA := eq_of_beq hA | replace hA := ne_of_beq_false hA | replace hA := bne_iff_ne.1 hA | replace hA := bne_eq_false_iff_eq.1 hA | skip) <;> (try simp only [List.length_map, cond_true, cond_false, Bool.not_eq_true', Bool.not_eq_false', beq_iff_eq, beq_eq_false_iff_ne, ne_eq] at hA)) | (rw [getD_map _ _ _ _ (by assumption)]; conv => whnf))
  all_goals (refine ⟨⟨[], ?_⟩⟩; (conv => whnf); first | rfl | simp_all)
theorem compare_ctr (g : GP) (a b : Int) : Ctr (ax g).E 218 [.i64 a, .i64 b] [] (fun o => o = .ret (.i64 (cmpI a b)) []) := by
  refine Ctr.body (X := ax g) _ 20 [] [.tmp 4] Tryd.func218 rfl rfl rfl rfl (by decide +kernel) rfl rfl ?_
  conv => whnf
  repeat' (first | (refine And.intro (by first | exact rfl | decide | exact Nat.le_of_ble_eq_true rfl | exact ⟨_, rfl⟩ | exact ⟨_, _, rfl⟩ | exact Nat.le_refl _ | exact Int.le_refl _ | omega | (simp only [List.length_map]; omega) | exact True.intro | (simp only [IntKind.wrap_i64, List.length_map]; omega) | (simp only [List.map_cons, List.map_nil, List.length_cons, Option.getD]; omega) | (simp only [bsz, ByteArray.size_append, List.size_toArray, List.length_cons, List.length_nil]; omega) | exact ⟨⟨_, _, rfl, rfl, Nat.le_of_ble_eq_true rfl⟩, trivial⟩ | exact ⟨⟨_, _, rfl, rfl, Nat.le_of_ble_eq_true rfl⟩, ⟨_, _, rfl, rfl, Nat.le_of_ble_eq_true rfl⟩, trivial⟩ | exact ⟨⟨_, _, rfl, rfl, Nat.le_of_ble_eq_true rfl⟩, ⟨_, _, rfl, rfl, Nat.le_of_ble_eq_true rfl⟩, ⟨_, _, rfl, rfl, Nat.le_of_ble_eq_true rfl⟩, trivial⟩) ?_; conv => whnf) | (refine ifB_intro (fun hA => ?_) (fun hA => ?_) <;> (try rw [hA]) <;> (conv => whnf) <;> (first | replace hA := of_decide_eq_true hA | replace hA := of_decide_eq_false hA | replace hA := eq_of_beq hA | replace hA := ne_of_beq_false hA | replace hA := bne_iff_ne.1 hA | replace hA := bne_eq_false_iff_eq.1 hA | skip) <;> (try simp only [List.length_map, cond_true, cond_false, Bool.not_eq_true', Bool.not_eq_false', beq_iff_eq, beq_eq_false_iff_ne, ne_eq] at hA)) | (refine CallP.det (isNaN_ctr g _) ?_; conv => whnf) | (refine CallD.det (isNaN_ctr g _) ?_; conv => whnf) | (rw [getD_map _ _ _ _ (by assumption)]; conv => whnf))
  all_goals (refine ⟨⟨[], ?_⟩⟩; (conv => whnf); simp_all [cmpI]; try omega)
theorem cmpF_ctr (g : GP) (a b : PairT) : Ctr (ax g).E 217 [.dagg (rowF a), .dagg (rowF b)] [] (fun o => o = .ret (.i64 (cmpI a.1 b.1)) []) := by
  refine Ctr.body (X := ax g) _ 10 [] [.tmp 4] Tryd.func217 rfl rfl rfl rfl (by decide +kernel) rfl rfl ?_
  conv => whnf
  repeat' (first | (refine And.intro (by first | exact rfl | decide | exact Nat.le_of_ble_eq_true rfl | exact ⟨_, rfl⟩ | exact ⟨_, _, rfl⟩ | exact Nat.le_refl _ | exact Int.le_refl _ | omega | (simp only [List.length_map]; omega) | exact True.intro | (simp only [IntKind.wrap_i64, List.length_map]; omega) | (simp only [List.map_cons, List.map_nil, List.length_cons, Option.getD]; omega) | (simp only [bsz, ByteArray.size_append, List.size_toArray, List.length_cons, List.length_nil]; omega) | exact ⟨⟨_, _, rfl, rfl, Nat.le_of_ble_eq_true rfl⟩, trivial⟩ | exact ⟨⟨_, _, rfl, rfl, Nat.le_of_ble_eq_true rfl⟩, ⟨_, _, rfl, rfl, Nat.le_of_ble_eq_true rfl⟩, trivial⟩ | exact ⟨⟨_, _, rfl, rfl, Nat.le_of_ble_eq_true rfl⟩, ⟨_, _, rfl, rfl, Nat.le_of_ble_eq_true rfl⟩, ⟨_, _, rfl, rfl, Nat.le_of_ble_eq_true rfl⟩, trivial⟩) ?_; conv => whnf) | (refine ifB_intro (fun hA => ?_) (fun hA => ?_) <;> (try rw [hA]) <;> (conv => whnf) <;> (first | replace hA := of_decide_eq_true hA | replace hA := of_decide_eq_false hA | replace hA := eq_of_beq hA | replace hA := ne_of_beq_false hA | replace hA := bne_iff_ne.1 hA | replace hA := bne_eq_false_iff_eq.1 hA | skip) <;> (try simp only [List.length_map, cond_true, cond_false, Bool.not_eq_true', Bool.not_eq_false', beq_iff_eq, beq_eq_false_iff_ne, ne_eq] at hA)) | (refine CallP.det (compare_ctr g _ _) ?_; conv => whnf) | (refine CallD.det (compare_ctr g _ _) ?_; conv => whnf) | (rw [getD_map _ _ _ _ (by assumption)]; conv => whnf))
  refine ⟨⟨[], ?_⟩⟩
  conv => whnf

/-- The pairs' fields don't fall. -/
def Rise (l : List PairT) : Prop := ∀ i, i + 1 < l.length → (l.getD i (0, 0)).1 ≤ (l.getD (i + 1) (0, 0)).1

theorem row_at {l : List PairT} {n : Nat} (k : Int) (h : n < l.length) (hk : k.toNat = n) : (l.map rowF).getD k.toNat [] = rowF (l.getD n (0, 0)) := by
  rw [hk]; simp [List.getD, h]

theorem isort_ctr (g : GP) (l : List PairT) (hl : l.length < 20) (hr : Rise l) : Ctr (ax g).E 229 [.d (.sl false 2 (l.map rowF)), .i64 0, .i64 l.length, .clo (.func 217) [] []] [] (fun o => o = .ret (.tup []) []) := by
  refine Ctr.body (X := ax g) _ 53 [] [] Tryd.func229 rfl rfl rfl rfl (by decide +kernel) rfl rfl ?_
  conv => whnf
  repeat' (first | (refine And.intro (by first | exact rfl | decide | exact Nat.le_of_ble_eq_true rfl | exact ⟨_, rfl⟩ | exact ⟨_, _, rfl⟩ | exact Nat.le_refl _ | exact Int.le_refl _ | omega | (simp only [List.length_map]; omega) | exact True.intro | (simp only [IntKind.wrap_i64, List.length_map]; omega) | (simp only [List.map_cons, List.map_nil, List.length_cons, Option.getD]; omega) | (simp only [bsz, ByteArray.size_append, List.size_toArray, List.length_cons, List.length_nil]; omega) | exact ⟨⟨_, _, rfl, rfl, Nat.le_of_ble_eq_true rfl⟩, trivial⟩ | exact ⟨⟨_, _, rfl, rfl, Nat.le_of_ble_eq_true rfl⟩, ⟨_, _, rfl, rfl, Nat.le_of_ble_eq_true rfl⟩, trivial⟩ | exact ⟨⟨_, _, rfl, rfl, Nat.le_of_ble_eq_true rfl⟩, ⟨_, _, rfl, rfl, Nat.le_of_ble_eq_true rfl⟩, ⟨_, _, rfl, rfl, Nat.le_of_ble_eq_true rfl⟩, trivial⟩) ?_; conv => whnf) | (refine ifB_intro (fun hA => ?_) (fun hA => ?_) <;> (try rw [hA]) <;> (conv => whnf) <;> (first | replace hA := of_decide_eq_true hA | replace hA := of_decide_eq_false hA | replace hA := eq_of_beq hA | replace hA := ne_of_beq_false hA | replace hA := bne_iff_ne.1 hA | replace hA := bne_eq_false_iff_eq.1 hA | skip) <;> (try simp only [List.length_map, cond_true, cond_false, Bool.not_eq_true', Bool.not_eq_false', beq_iff_eq, beq_eq_false_iff_ne, ne_eq] at hA)) | (rw [getD_map _ _ _ _ (by assumption)]; conv => whnf))
  refine LoopP.inv (X := ax g) (fun i : Nat => { f := [(0, .d (.sl false 2 (l.map rowF))), (1, .i64 0), (2, .i64 l.length), (3, .clo (.func 217) [] []), (8, .i64 ((i : Int) + 1))], h := [] }) (fun i => i ≤ l.length + 1) (fun i => l.length + 1 - i) 0 (by omega) ⟨⟨rfl, rfl, rfl, rfl, rfl, trivial⟩, trivial⟩ fun i hi => ?_
  conv => whnf
  repeat' (first | (refine And.intro (by first | exact rfl | decide | exact Nat.le_of_ble_eq_true rfl | exact ⟨_, rfl⟩ | exact ⟨_, _, rfl⟩ | exact Nat.le_refl _ | exact Int.le_refl _ | omega | (simp only [List.length_map]; omega) | exact True.intro | (simp only [IntKind.wrap_i64, List.length_map]; omega) | (simp only [List.map_cons, List.map_nil, List.length_cons, Option.getD]; omega) | (simp only [bsz, ByteArray.size_append, List.size_toArray, List.length_cons, List.length_nil]; omega) | exact ⟨⟨_, _, rfl, rfl, Nat.le_of_ble_eq_true rfl⟩, trivial⟩ | exact ⟨⟨_, _, rfl, rfl, Nat.le_of_ble_eq_true rfl⟩, ⟨_, _, rfl, rfl, Nat.le_of_ble_eq_true rfl⟩, trivial⟩ | exact ⟨⟨_, _, rfl, rfl, Nat.le_of_ble_eq_true rfl⟩, ⟨_, _, rfl, rfl, Nat.le_of_ble_eq_true rfl⟩, ⟨_, _, rfl, rfl, Nat.le_of_ble_eq_true rfl⟩, trivial⟩) ?_; conv => whnf) | (refine ifB_intro (fun hA => ?_) (fun hA => ?_) <;> (try rw [hA]) <;> (conv => whnf) <;> (first | replace hA := of_decide_eq_true hA | replace hA := of_decide_eq_false hA | replace hA := eq_of_beq hA | replace hA := ne_of_beq_false hA | replace hA := bne_iff_ne.1 hA | replace hA := bne_eq_false_iff_eq.1 hA | skip) <;> (try simp only [List.length_map, cond_true, cond_false, Bool.not_eq_true', Bool.not_eq_false', beq_iff_eq, beq_eq_false_iff_ne, ne_eq] at hA)) | (rw [getD_map _ _ _ _ (by assumption)]; conv => whnf))
  · have hlt : i + 1 < l.length := by omega
    have hle := hr i hlt
    have hc := cmpF_ctr g (l.getD (i + 1) (0, 0)) (l.getD i (0, 0))
    have hk : ¬ cmpI (l.getD (i + 1) (0, 0)).1 (l.getD i (0, 0)).1 < 0 := by unfold cmpI; split <;> (try split) <;> omega
    have e1 : (l.map rowF).getD ((i : Int) + 1).toNat [] = rowF (l.getD (i + 1) (0, 0)) := row_at _ hlt (by omega)
    have e2 : (l.map rowF).getD (IntKind.i64.wrap ((i : Int) + 1 - 1)).toNat [] = rowF (l.getD i (0, 0)) := row_at _ (by omega) (by rw [IntKind.wrap_i64]; omega)
    refine LoopP.rounds (X := ax g) 1 ?_
    conv => whnf
    repeat' (first | (refine And.intro (by first | exact rfl | decide | exact Nat.le_of_ble_eq_true rfl | exact ⟨_, rfl⟩ | exact ⟨_, _, rfl⟩ | exact Nat.le_refl _ | exact Int.le_refl _ | omega | (simp only [List.length_map]; omega) | exact True.intro | (simp only [IntKind.wrap_i64, List.length_map]; omega) | (simp only []; omega) | (simp only []; omega) | exact ⟨⟨_, _, rfl, rfl, Nat.le_of_ble_eq_true rfl⟩, trivial⟩ | exact ⟨⟨_, _, rfl, rfl, Nat.le_of_ble_eq_true rfl⟩, ⟨_, _, rfl, rfl, Nat.le_of_ble_eq_true rfl⟩, trivial⟩ | exact ⟨⟨_, _, rfl, rfl, Nat.le_of_ble_eq_true rfl⟩, ⟨_, _, rfl, rfl, Nat.le_of_ble_eq_true rfl⟩, ⟨_, _, rfl, rfl, Nat.le_of_ble_eq_true rfl⟩, trivial⟩) ?_; conv => whnf) | (refine ifB_intro (fun hA => ?_) (fun hA => ?_) <;> (try rw [hA]) <;> (conv => whnf) <;> (first | replace hA := of_decide_eq_true hA | replace hA := of_decide_eq_false hA | replace hA := eq_of_beq hA | replace hA := ne_of_beq_false hA | replace hA := bne_iff_ne.1 hA | replace hA := bne_eq_false_iff_eq.1 hA | skip) <;> (try simp only [List.length_map, cond_true, cond_false, Bool.not_eq_true', Bool.not_eq_false', beq_iff_eq, beq_eq_false_iff_ne, ne_eq] at hA)) | (refine DrawP.intro (X := ax g) (id := 4) B229_4 (by kernel_rfl) (by decide +kernel) ?_; conv => whnf) | (rw [e1]; conv => whnf) | (rw [e2]; conv => whnf) | (refine CallP.det (hc) ?_; conv => whnf) | (refine CallD.det (hc) ?_; conv => whnf) | (rw [getD_map _ _ _ _ (by assumption)]; conv => whnf))
    · exact absurd hA hk
    · refine ⟨i + 1, by omega, by omega, ⟨⟨rfl, rfl, rfl, rfl, AV.int_eq (by rw [IntKind.wrap_i64]; omega), trivial⟩, trivial⟩⟩
    · omega
  · refine ⟨⟨[], ?_⟩⟩
    conv => whnf

theorem stable_ctr (g : GP) (l : List PairT) (hl : l.length < 20) (hr : Rise l) : Ctr (ax g).E 225 [.d (.sl false 2 (l.map rowF)), .i64 l.length, .clo (.func 217) [] []] [] (fun o => o = .ret (.tup []) []) := by
  refine Ctr.body (X := ax g) _ 63 [] [] Tryd.func225 rfl rfl rfl rfl (by decide +kernel) rfl rfl ?_
  conv => whnf
  refine LoopP.rounds (X := ax g) 1 ?_
  conv => whnf
  repeat' (first | (refine And.intro (by first | exact rfl | decide | exact Nat.le_of_ble_eq_true rfl | exact ⟨_, rfl⟩ | exact ⟨_, _, rfl⟩ | exact Nat.le_refl _ | exact Int.le_refl _ | omega | (simp only [List.length_map]; omega) | exact True.intro | (simp only [IntKind.wrap_i64, List.length_map]; omega) | (simp only [List.map_cons, List.map_nil, List.length_cons, Option.getD]; omega) | (simp only [bsz, ByteArray.size_append, List.size_toArray, List.length_cons, List.length_nil]; omega) | exact ⟨⟨_, _, rfl, rfl, Nat.le_of_ble_eq_true rfl⟩, trivial⟩ | exact ⟨⟨_, _, rfl, rfl, Nat.le_of_ble_eq_true rfl⟩, ⟨_, _, rfl, rfl, Nat.le_of_ble_eq_true rfl⟩, trivial⟩ | exact ⟨⟨_, _, rfl, rfl, Nat.le_of_ble_eq_true rfl⟩, ⟨_, _, rfl, rfl, Nat.le_of_ble_eq_true rfl⟩, ⟨_, _, rfl, rfl, Nat.le_of_ble_eq_true rfl⟩, trivial⟩) ?_; conv => whnf) | (refine ifB_intro (fun hA => ?_) (fun hA => ?_) <;> (try rw [hA]) <;> (conv => whnf) <;> (first | replace hA := of_decide_eq_true hA | replace hA := of_decide_eq_false hA | replace hA := eq_of_beq hA | replace hA := ne_of_beq_false hA | replace hA := bne_iff_ne.1 hA | replace hA := bne_eq_false_iff_eq.1 hA | skip) <;> (try simp only [List.length_map, cond_true, cond_false, Bool.not_eq_true', Bool.not_eq_false', beq_iff_eq, beq_eq_false_iff_ne, ne_eq] at hA)) | (refine CallP.det (isort_ctr g l hl hr) ?_; conv => whnf) | (refine CallD.det (isort_ctr g l hl hr) ?_; conv => whnf) | (rw [getD_map _ _ _ _ (by assumption)]; conv => whnf))
  · omega
  · refine LoopP.rounds (X := ax g) 1 ?_
    conv => whnf
    repeat' (first | (refine And.intro (by first | exact rfl | decide | exact Nat.le_of_ble_eq_true rfl | exact ⟨_, rfl⟩ | exact ⟨_, _, rfl⟩ | exact Nat.le_refl _ | exact Int.le_refl _ | omega | (simp only [List.length_map]; omega) | exact True.intro | (simp only [IntKind.wrap_i64, List.length_map]; omega) | (simp only [List.map_cons, List.map_nil, List.length_cons, Option.getD]; omega) | (simp only [bsz, ByteArray.size_append, List.size_toArray, List.length_cons, List.length_nil]; omega) | exact ⟨⟨_, _, rfl, rfl, Nat.le_of_ble_eq_true rfl⟩, trivial⟩ | exact ⟨⟨_, _, rfl, rfl, Nat.le_of_ble_eq_true rfl⟩, ⟨_, _, rfl, rfl, Nat.le_of_ble_eq_true rfl⟩, trivial⟩ | exact ⟨⟨_, _, rfl, rfl, Nat.le_of_ble_eq_true rfl⟩, ⟨_, _, rfl, rfl, Nat.le_of_ble_eq_true rfl⟩, ⟨_, _, rfl, rfl, Nat.le_of_ble_eq_true rfl⟩, trivial⟩) ?_; conv => whnf) | (refine ifB_intro (fun hA => ?_) (fun hA => ?_) <;> (try rw [hA]) <;> (conv => whnf) <;> (first | replace hA := of_decide_eq_true hA | replace hA := of_decide_eq_false hA | replace hA := eq_of_beq hA | replace hA := ne_of_beq_false hA | replace hA := bne_iff_ne.1 hA | replace hA := bne_eq_false_iff_eq.1 hA | skip) <;> (try simp only [List.length_map, cond_true, cond_false, Bool.not_eq_true', Bool.not_eq_false', beq_iff_eq, beq_eq_false_iff_ne, ne_eq] at hA)) | (rw [getD_map _ _ _ _ (by assumption)]; conv => whnf))
    · omega
    · refine ⟨⟨[], ?_⟩⟩
      conv => whnf

theorem sort_ctr (g : GP) (l : List PairT) (hl : l.length < 20) (hr : Rise l) : Ctr (ax g).E 216 [.d (.sl false 2 (l.map rowF)), .clo (.func 217) [] []] [] (fun o => o = .ret (.tup []) []) := by
  have hs := stable_ctr g l hl hr
  refine Ctr.body (X := ax g) _ 9 [] [] Tryd.func216 rfl rfl rfl rfl (by decide +kernel) rfl rfl ?_
  conv => whnf
  refine CallP.arg (args' := [.d (.sl false 2 (l.map rowF)), .i64 l.length, .clo (.func 217) [] []]) (by simp) (CallP.det hs ?_)
  conv => whnf
  refine ⟨⟨[], ?_⟩⟩
  conv => whnf

/-- Two neighbours are the same. -/
def dupAt (l : List PairT) (i : Nat) : Bool := decide ((l.getD (i + 1) (0, 0)).1 = (l.getD i (0, 0)).1)
def dupGo (l : List PairT) : Nat → Bool
  | 0 => false
  | i + 1 => dupGo l i || dupAt l i
def dupS (l : List PairT) : Bool := dupGo l (l.length - 1)
theorem prise_ctr (g : GP) (p : SP) (l : List PairT) (hl : l.length < 20) (hr : Rise l) : Ctr (ax g).E 198 [.ptr 9000 0, .d (.sl false 2 (l.map rowF))] (spH p) (fun o => o = .ret (.d (.sl false 2 (l.map rowF))) (spH { p with twi := p.twi || dupS l })) := by
  refine Ctr.body (X := ax g) _ 36 [9000, 9001] [.tmp 4] Tryd.func198 rfl rfl rfl rfl (by decide +kernel) rfl rfl ?_
  conv => whnf
  repeat' (first | (refine And.intro (by first | exact rfl | decide | exact Nat.le_of_ble_eq_true rfl | exact ⟨_, rfl⟩ | exact ⟨_, _, rfl⟩ | exact Nat.le_refl _ | exact Int.le_refl _ | omega | (simp only [List.length_map]; omega) | exact True.intro | (simp only [IntKind.wrap_i64, List.length_map]; omega) | (simp only [List.map_cons, List.map_nil, List.length_cons, Option.getD]; omega) | (simp only [bsz, ByteArray.size_append, List.size_toArray, List.length_cons, List.length_nil]; omega) | exact ⟨⟨_, _, rfl, rfl, Nat.le_of_ble_eq_true rfl⟩, trivial⟩ | exact ⟨⟨_, _, rfl, rfl, Nat.le_of_ble_eq_true rfl⟩, ⟨_, _, rfl, rfl, Nat.le_of_ble_eq_true rfl⟩, trivial⟩ | exact ⟨⟨_, _, rfl, rfl, Nat.le_of_ble_eq_true rfl⟩, ⟨_, _, rfl, rfl, Nat.le_of_ble_eq_true rfl⟩, ⟨_, _, rfl, rfl, Nat.le_of_ble_eq_true rfl⟩, trivial⟩) ?_; conv => whnf) | (refine ifB_intro (fun hA => ?_) (fun hA => ?_) <;> (try rw [hA]) <;> (conv => whnf) <;> (first | replace hA := of_decide_eq_true hA | replace hA := of_decide_eq_false hA | replace hA := eq_of_beq hA | replace hA := ne_of_beq_false hA | replace hA := bne_iff_ne.1 hA | replace hA := bne_eq_false_iff_eq.1 hA | skip) <;> (try simp only [List.length_map, cond_true, cond_false, Bool.not_eq_true', Bool.not_eq_false', beq_iff_eq, beq_eq_false_iff_ne, ne_eq] at hA)) | (refine CallP.det (sort_ctr g l hl hr) ?_; conv => whnf) | (refine CallD.det (sort_ctr g l hl hr) ?_; conv => whnf) | (rw [getD_map _ _ _ _ (by assumption)]; conv => whnf))
  refine LoopP.inv (X := ax g) (fun i : Nat => { f := [(0, .ptr 9000 0), (1, .d (.sl false 2 (l.map rowF))), (5, .i64 ((i : Int) + 1))], h := spH { p with twi := p.twi || dupGo l i } }) (fun i => i = 0 ∨ i + 1 ≤ l.length) (fun i => l.length - i) 0 (.inl rfl) ⟨⟨rfl, rfl, rfl, trivial⟩, ⟨fun o h => ?_, fun o h => h, trivial⟩⟩ fun i hi => ?_
  · rw [← h]; simp [objSP, dupGo]; rfl
  · conv => whnf
    repeat' (first | (refine And.intro (by first | exact rfl | decide | exact Nat.le_of_ble_eq_true rfl | exact ⟨_, rfl⟩ | exact ⟨_, _, rfl⟩ | exact Nat.le_refl _ | exact Int.le_refl _ | omega | (simp only [List.length_map]; omega) | exact True.intro | (simp only [IntKind.wrap_i64, List.length_map]; omega) | (simp only [List.map_cons, List.map_nil, List.length_cons, Option.getD]; omega) | (simp only [bsz, ByteArray.size_append, List.size_toArray, List.length_cons, List.length_nil]; omega) | exact ⟨⟨_, _, rfl, rfl, Nat.le_of_ble_eq_true rfl⟩, trivial⟩ | exact ⟨⟨_, _, rfl, rfl, Nat.le_of_ble_eq_true rfl⟩, ⟨_, _, rfl, rfl, Nat.le_of_ble_eq_true rfl⟩, trivial⟩ | exact ⟨⟨_, _, rfl, rfl, Nat.le_of_ble_eq_true rfl⟩, ⟨_, _, rfl, rfl, Nat.le_of_ble_eq_true rfl⟩, ⟨_, _, rfl, rfl, Nat.le_of_ble_eq_true rfl⟩, trivial⟩) ?_; conv => whnf) | (refine ifB_intro (fun hA => ?_) (fun hA => ?_) <;> (try rw [hA]) <;> (conv => whnf) <;> (first | replace hA := of_decide_eq_true hA | replace hA := of_decide_eq_false hA | replace hA := eq_of_beq hA | replace hA := ne_of_beq_false hA | replace hA := bne_iff_ne.1 hA | replace hA := bne_eq_false_iff_eq.1 hA | skip) <;> (try simp only [List.length_map] at hA)) | (rw [getD_map _ _ _ _ (by assumption)]; conv => whnf))
    · have hlt : i + 1 < l.length := by omega
      have e1 : (l.map rowF).getD ((i : Int) + 1).toNat [] = rowF (l.getD (i + 1) (0, 0)) := row_at _ hlt (by omega)
      have e2 : (l.map rowF).getD (IntKind.i64.wrap ((i : Int) + 1 - 1)).toNat [] = rowF (l.getD i (0, 0)) := row_at _ (by omega) (by rw [IntKind.wrap_i64]; omega)
      repeat' (first | (refine And.intro (by first | exact rfl | decide | exact Nat.le_of_ble_eq_true rfl | exact ⟨_, rfl⟩ | exact ⟨_, _, rfl⟩ | exact Nat.le_refl _ | exact Int.le_refl _ | omega | (simp only [List.length_map]; omega) | exact True.intro | (simp only [IntKind.wrap_i64, List.length_map]; omega) | (simp only []; omega) | (simp only []; omega) | exact ⟨⟨_, _, rfl, rfl, Nat.le_of_ble_eq_true rfl⟩, trivial⟩ | exact ⟨⟨_, _, rfl, rfl, Nat.le_of_ble_eq_true rfl⟩, ⟨_, _, rfl, rfl, Nat.le_of_ble_eq_true rfl⟩, trivial⟩ | exact ⟨⟨_, _, rfl, rfl, Nat.le_of_ble_eq_true rfl⟩, ⟨_, _, rfl, rfl, Nat.le_of_ble_eq_true rfl⟩, ⟨_, _, rfl, rfl, Nat.le_of_ble_eq_true rfl⟩, trivial⟩) ?_; conv => whnf) | (refine ifB_intro (fun hA => ?_) (fun hA => ?_) <;> (try rw [hA]) <;> (conv => whnf) <;> (first | replace hA := of_decide_eq_true hA | replace hA := of_decide_eq_false hA | replace hA := eq_of_beq hA | replace hA := ne_of_beq_false hA | replace hA := bne_iff_ne.1 hA | replace hA := bne_eq_false_iff_eq.1 hA | skip) <;> (try simp only [] at hA)) | (refine DrawP.intro (X := ax g) (id := 5) B198_5 (by kernel_rfl) (by decide +kernel) ?_; conv => whnf) | (rw [e1]; conv => whnf) | (rw [e2]; conv => whnf) | (rw [getD_map _ _ _ _ (by assumption)]; conv => whnf))
      · have hk : (p.twi || dupGo l (i + 1)) = true := by rw [dupGo, ← Bool.or_assoc, hA]; rfl
        refine ⟨i + 1, .inr (by omega), by omega, ⟨⟨rfl, rfl, AV.int_eq (by rw [IntKind.wrap_i64]; omega), trivial⟩, ⟨fun o h => ?_, fun o h => h, trivial⟩⟩⟩
        rw [← h]; simp only [objSP, hk]; rfl
      · have hk : (p.twi || dupGo l (i + 1)) = dupAt l i := by rw [dupGo, ← Bool.or_assoc, hA]; rfl
        refine ⟨i + 1, .inr (by omega), by omega, ⟨⟨rfl, rfl, AV.int_eq (by rw [IntKind.wrap_i64]; omega), trivial⟩, ⟨fun o h => ?_, fun o h => h, trivial⟩⟩⟩
        rw [← h]; simp only [objSP, hk]; rfl
    · have hi2 : i = l.length - 1 := by omega
      have hd : dupS l = dupGo l i := by rw [dupS, hi2]
      rw [hd]
      refine ⟨⟨spH { p with twi := p.twi || dupGo l i }, ?_⟩⟩
      conv => whnf
      repeat' (first | (refine And.intro (by first | exact rfl | decide | exact Nat.le_of_ble_eq_true rfl | exact ⟨_, rfl⟩ | exact ⟨_, _, rfl⟩ | exact Nat.le_refl _ | exact Int.le_refl _ | omega | (simp only []; omega) | exact True.intro | (simp only []; omega) | (simp only []; omega) | (simp only []; omega) | exact ⟨⟨_, _, rfl, rfl, Nat.le_of_ble_eq_true rfl⟩, trivial⟩ | exact ⟨⟨_, _, rfl, rfl, Nat.le_of_ble_eq_true rfl⟩, ⟨_, _, rfl, rfl, Nat.le_of_ble_eq_true rfl⟩, trivial⟩ | exact ⟨⟨_, _, rfl, rfl, Nat.le_of_ble_eq_true rfl⟩, ⟨_, _, rfl, rfl, Nat.le_of_ble_eq_true rfl⟩, ⟨_, _, rfl, rfl, Nat.le_of_ble_eq_true rfl⟩, trivial⟩) ?_; conv => whnf) | (refine ifB_intro (fun hA => ?_) (fun hA => ?_) <;> (try rw [hA]) <;> (conv => whnf) <;> (first | replace hA := of_decide_eq_true hA | replace hA := of_decide_eq_false hA | replace hA := eq_of_beq hA | replace hA := ne_of_beq_false hA | replace hA := bne_iff_ne.1 hA | replace hA := bne_eq_false_iff_eq.1 hA | skip) <;> (try simp only [List.length_map, cond_true, cond_false, Bool.not_eq_true', Bool.not_eq_false', beq_iff_eq, beq_eq_false_iff_ne, ne_eq] at hA)) | (refine And.intro ⟨fun o h => h, fun o h => h, trivial⟩ ?_; conv => whnf) | (rw [getD_map _ _ _ _ (by assumption)]; conv => whnf))

end Go.Ax

/- syntax's parser: lists of pairs. -/
namespace Go.Ax
open Go.Proofs
set_option maxRecDepth 10000

/-- The parser, and a variable that holds where it lies. -/
def phH (p : SP) : HL := (9002, some (.var [.ptr 9000 0])) :: spH p

theorem rule1_ctr (g : GP) (p : SP) : Ctr (ax g).E 197 [.ptr 9002 0] (phH p) (fun o => o = outP Failed (fun x : PairT × SP => .dagg (rowF x.1)) (fun x => phH x.2) (partS asB p)) := by
  refine Ctr.body (X := ax g) _ 4 [9002, 9000, 9001] [.cell 1 122] Tryd.func197 rfl rfl rfl rfl (by decide +kernel) rfl rfl ?_
  conv => whnf
  repeat' (first | (refine And.intro (by first | exact rfl | decide | exact Nat.le_of_ble_eq_true rfl | exact ⟨_, rfl⟩ | exact ⟨_, _, rfl⟩ | exact Nat.le_refl _ | exact Int.le_refl _ | omega | (simp only [List.length_map]; omega) | exact True.intro | (simp only [IntKind.wrap_i64, List.length_map]; omega) | (simp only [List.map_cons, List.map_nil, List.length_cons, Option.getD]; omega) | (simp only [bsz, ByteArray.size_append, List.size_toArray, List.length_cons, List.length_nil]; omega) | exact ⟨⟨_, _, rfl, rfl, Nat.le_of_ble_eq_true rfl⟩, trivial⟩ | exact ⟨⟨_, _, rfl, rfl, Nat.le_of_ble_eq_true rfl⟩, ⟨_, _, rfl, rfl, Nat.le_of_ble_eq_true rfl⟩, trivial⟩ | exact ⟨⟨_, _, rfl, rfl, Nat.le_of_ble_eq_true rfl⟩, ⟨_, _, rfl, rfl, Nat.le_of_ble_eq_true rfl⟩, ⟨_, _, rfl, rfl, Nat.le_of_ble_eq_true rfl⟩, trivial⟩) ?_; conv => whnf) | (refine ifB_intro (fun hA => ?_) (fun hA => ?_) <;> (try rw [hA]) <;> (conv => whnf) <;> (first | replace hA := of_decide_eq_true hA | replace hA := of_decide_eq_false hA | replace hA := eq_of_beq hA | replace hA := ne_of_beq_false hA | replace hA := bne_iff_ne.1 hA | replace hA := bne_eq_false_iff_eq.1 hA | skip) <;> (try simp only [List.length_map, cond_true, cond_false, Bool.not_eq_true', Bool.not_eq_false', beq_iff_eq, beq_eq_false_iff_ne, ne_eq] at hA)) | (refine CallP.may (part5_ctr g p asB (by decide)) (by (conv => whnf); repeat' first | exact trivial | refine And.intro (fun _ h => h) ?_) (fun _ => rfl) (fun hN => ?_) (fun xS hS => ?_) <;> (conv => whnf) <;> (try refine ⟨⟨[], trivial, rfl, ?_⟩⟩)) | (rw [getD_map _ _ _ _ (by assumption)]; conv => whnf))
  · rw [hN]; rfl
  · refine ⟨⟨phH xS.2, ?_⟩⟩
    conv => whnf
    repeat' (first | (refine And.intro (by first | exact rfl | decide | exact Nat.le_of_ble_eq_true rfl | exact ⟨_, rfl⟩ | exact ⟨_, _, rfl⟩ | exact Nat.le_refl _ | exact Int.le_refl _ | omega | (simp only []; omega) | exact True.intro | (simp only []; omega) | (simp only [List.map_cons, List.map_nil, List.length_cons]; omega) | (simp only [List.length_cons, List.length_nil]; omega) | exact ⟨⟨_, _, rfl, rfl, Nat.le_of_ble_eq_true rfl⟩, trivial⟩ | exact ⟨⟨_, _, rfl, rfl, Nat.le_of_ble_eq_true rfl⟩, ⟨_, _, rfl, rfl, Nat.le_of_ble_eq_true rfl⟩, trivial⟩ | exact ⟨⟨_, _, rfl, rfl, Nat.le_of_ble_eq_true rfl⟩, ⟨_, _, rfl, rfl, Nat.le_of_ble_eq_true rfl⟩, ⟨_, _, rfl, rfl, Nat.le_of_ble_eq_true rfl⟩, trivial⟩) ?_; conv => whnf) | (refine ifB_intro (fun hA => ?_) (fun hA => ?_) <;> (try rw [hA]) <;> (conv => whnf) <;> (first | replace hA := of_decide_eq_true hA | replace hA := of_decide_eq_false hA | replace hA := eq_of_beq hA | replace hA := ne_of_beq_false hA | replace hA := bne_iff_ne.1 hA | replace hA := bne_eq_false_iff_eq.1 hA | skip) <;> (try simp only [List.length_map, cond_true, cond_false, Bool.not_eq_true', Bool.not_eq_false', beq_iff_eq, beq_eq_false_iff_ne, ne_eq] at hA)) | (refine And.intro ⟨fun o h => h, fun o h => h, fun o h => h, trivial⟩ ?_; conv => whnf) | (rw [getD_map _ _ _ _ (by assumption)]; conv => whnf))
    rw [hS]; rfl

theorem plistF_ctr (g : GP) (sign : ByteArray) (hs : sign ≠ ⟨#[]⟩) (f : FuncId) (one : SP → Option (PairT × SP)) (hl : Less one) (N : Nat) (h1 : ∀ p : SP, p.l.length ≤ N → Ctr (ax g).E f [.ptr 9002 0] (phH p) (fun o => o = outP Failed (fun x : PairT × SP => .dagg (rowF x.1)) (fun x => phH x.2) (one p))) (p : SP) (hp : p.l.length ≤ N) (hN0 : N ≤ 100000) :
    Ctr (ax g).E 196 [.ptr 9000 0, .str sign, .clo (.func f) [] [.ptr 9002 0]] (phH p) (fun o => o = outP Failed (fun x : List PairT × SP => .d (.sl false 2 (x.1.map rowF))) (fun x => phH x.2) (listS sign one p)) := by
  refine Ctr.loose (rx := fun x : List PairT × SP => .d (.sl true 2 (x.1.map rowF))) ?_ (fun x q => rfl) fun x w Im ρ v H => by
    cases H with | d _ _ h => exact .d _ _ h.loose
  have hc := h1 p hp
  refine Ctr.body (X := ax g) _ 20 [9002, 9000, 9001] [.tmp 6] Tryd.func196 rfl rfl rfl rfl (by decide +kernel) rfl rfl ?_
  conv => whnf
  repeat' (first | (refine And.intro (by first | exact rfl | decide | exact Nat.le_of_ble_eq_true rfl | exact ⟨_, rfl⟩ | exact ⟨_, _, rfl⟩ | exact Nat.le_refl _ | exact Int.le_refl _ | omega | (simp only [List.length_map]; omega) | exact True.intro | (simp only [IntKind.wrap_i64, List.length_map]; omega) | (simp only [List.map_cons, List.map_nil, List.length_cons, Option.getD]; omega) | (simp only [bsz, ByteArray.size_append, List.size_toArray, List.length_cons, List.length_nil]; omega) | exact ⟨⟨_, _, rfl, rfl, Nat.le_of_ble_eq_true rfl⟩, trivial⟩ | exact ⟨⟨_, _, rfl, rfl, Nat.le_of_ble_eq_true rfl⟩, ⟨_, _, rfl, rfl, Nat.le_of_ble_eq_true rfl⟩, trivial⟩ | exact ⟨⟨_, _, rfl, rfl, Nat.le_of_ble_eq_true rfl⟩, ⟨_, _, rfl, rfl, Nat.le_of_ble_eq_true rfl⟩, ⟨_, _, rfl, rfl, Nat.le_of_ble_eq_true rfl⟩, trivial⟩) ?_; conv => whnf) | (refine ifB_intro (fun hA => ?_) (fun hA => ?_) <;> (try rw [hA]) <;> (conv => whnf) <;> (first | replace hA := of_decide_eq_true hA | replace hA := of_decide_eq_false hA | replace hA := eq_of_beq hA | replace hA := ne_of_beq_false hA | replace hA := bne_iff_ne.1 hA | replace hA := bne_eq_false_iff_eq.1 hA | skip) <;> (try simp only [List.length_map, cond_true, cond_false, Bool.not_eq_true', Bool.not_eq_false', beq_iff_eq, beq_eq_false_iff_ne, ne_eq] at hA)) | (refine CallP.may (hc) (by (conv => whnf); repeat' first | exact trivial | refine And.intro (fun _ h => h) ?_) (fun _ => rfl) (fun hN => ?_) (fun xS hS => ?_) <;> (conv => whnf) <;> (try refine ⟨⟨[], trivial, rfl, ?_⟩⟩)) | (rw [getD_map _ _ _ _ (by assumption)]; conv => whnf))
  · exact .inl (by rw [listS, hN]; rfl)
  · obtain ⟨x0, q0⟩ := xS
    have h0 := hl p x0 q0 hS
    have hL : listS sign one p = listGo sign one (q0.l.length + 1) [x0] q0 := by rw [listS, hS]
    rw [hL]
    generalize hR0 : listGo sign one (q0.l.length + 1) [x0] q0 = R at hL
    refine LoopP.inv (X := ax g) (fun x : Bool × List PairT × SP => bif x.1 then { f := [(0, .ptr 9000 0), (1, .str sign), (2, .clo (.func f) [] [.ptr 9002 0]), (7, .msl 18 x.2.1.length 0 x.2.1.length)], h := (18, some (.buf 2 122 (x.2.1.map rowF))) :: phH x.2.2 } else { f := [(0, .ptr 9000 0), (1, .str sign), (2, .clo (.func f) [] [.ptr 9002 0]), (7, .d (.sl true 2 (x.2.1.map rowF)))], h := phH x.2.2 })
      (fun x => (x.1 = false → 0 < x.2.1.length) ∧ x.2.1.length + x.2.2.l.length ≤ N ∧ ∃ n, x.2.2.l.length < n ∧ listGo sign one n x.2.1 x.2.2 = R) (fun x => x.2.2.l.length) (false, [x0], q0) ⟨fun _ => Nat.one_pos, by show 1 + q0.l.length ≤ N; omega, q0.l.length + 1, Nat.lt_succ_self _, hR0⟩ ⟨⟨rfl, rfl, rfl, rfl, trivial⟩, ⟨fun o h => h, fun o h => h, fun o h => h, trivial⟩⟩ fun x hx => ?_
    obtain ⟨b, acc, q⟩ := x
    obtain ⟨hpos, hq, n, hn, hR⟩ := hx
    replace hpos : b = false → 0 < acc.length := hpos
    replace hq : acc.length + q.l.length ≤ N := hq
    replace hn : q.l.length < n := hn
    replace hR : listGo sign one n acc q = R := hR
    obtain ⟨n, rfl⟩ : ∃ m, n = m + 1 := ⟨n - 1, by omega⟩
    have ht := take_ctr g q sign hs
    have hlen := takeS_len (s := sign) (p := q)
    have hq2 : (takeS sign q).2.l.length ≤ N := by have := hlen.1; omega
    have ho := h1 (takeS sign q).2 hq2
    cases b with
    | false =>
      cases acc with
      | nil => exact absurd (hpos rfl) (by simp)
      | cons a0 acc =>
      conv => whnf
      repeat' (first | (refine And.intro (by first | exact rfl | decide | exact Nat.le_of_ble_eq_true rfl | exact ⟨_, rfl⟩ | exact ⟨_, _, rfl⟩ | exact Nat.le_refl _ | exact Int.le_refl _ | omega | (simp only [List.length_map]; omega) | exact True.intro | (simp only [List.length_map]; omega) | (simp only [List.map_cons, List.length_cons]; omega) | (simp only [List.length_cons, List.length_nil]; omega) | exact ⟨⟨_, _, rfl, rfl, Nat.le_of_ble_eq_true rfl⟩, trivial⟩ | exact ⟨⟨_, _, rfl, rfl, Nat.le_of_ble_eq_true rfl⟩, ⟨_, _, rfl, rfl, Nat.le_of_ble_eq_true rfl⟩, trivial⟩ | exact ⟨⟨_, _, rfl, rfl, Nat.le_of_ble_eq_true rfl⟩, ⟨_, _, rfl, rfl, Nat.le_of_ble_eq_true rfl⟩, ⟨_, _, rfl, rfl, Nat.le_of_ble_eq_true rfl⟩, trivial⟩) ?_; conv => whnf) | (refine ifB_intro (fun hA => ?_) (fun hA => ?_) <;> (try rw [hA]) <;> (conv => whnf) <;> (first | replace hA := of_decide_eq_true hA | replace hA := of_decide_eq_false hA | replace hA := eq_of_beq hA | replace hA := ne_of_beq_false hA | replace hA := bne_iff_ne.1 hA | replace hA := bne_eq_false_iff_eq.1 hA | skip) <;> (try simp only [List.length_map, cond_true, cond_false, Bool.not_eq_true', Bool.not_eq_false', beq_iff_eq, beq_eq_false_iff_ne, ne_eq] at hA)) | (refine CallP.hlb (ht) (by (conv => whnf); repeat' first | exact trivial | refine And.intro (fun _ h => h) ?_) rfl ?_; conv => whnf) | (refine CallD.hlb (ht) (by (conv => whnf); repeat' first | exact trivial | refine And.intro (fun _ h => h) ?_) ?_; conv => whnf) | (refine CallP.may (ho) (by (conv => whnf); repeat' first | exact trivial | refine And.intro (fun _ h => h) ?_) (fun _ => rfl) (fun hN => ?_) (fun xS hS => ?_) <;> (conv => whnf) <;> (try refine ⟨⟨[], trivial, rfl, ?_⟩⟩)) | (rw [getD_map _ _ _ _ (by assumption)]; conv => whnf))
      · rw [listGo_dies hA hN] at hR; subst hR; exact .inl rfl
      · obtain ⟨y, r⟩ := xS
        have hr := hl _ _ _ hS
        simp only [List.length_cons] at hq
        rw [listGo_more hA hS] at hR
        have hlen2 := hlen.2 hA
        repeat' (first | (refine And.intro (by first | exact rfl | decide | exact Nat.le_of_ble_eq_true rfl | exact ⟨_, rfl⟩ | exact ⟨_, _, rfl⟩ | exact Nat.le_refl _ | exact Int.le_refl _ | omega | (simp only [List.length_map]; omega) | exact True.intro | (simp only [List.length_map]; omega) | (simp only [List.map_cons, List.length_cons]; omega) | (simp only [List.length_cons, List.length_nil]; omega) | exact ⟨⟨_, _, rfl, rfl, Nat.le_of_ble_eq_true rfl⟩, trivial⟩ | exact ⟨⟨_, _, rfl, rfl, Nat.le_of_ble_eq_true rfl⟩, ⟨_, _, rfl, rfl, Nat.le_of_ble_eq_true rfl⟩, trivial⟩ | exact ⟨⟨_, _, rfl, rfl, Nat.le_of_ble_eq_true rfl⟩, ⟨_, _, rfl, rfl, Nat.le_of_ble_eq_true rfl⟩, ⟨_, _, rfl, rfl, Nat.le_of_ble_eq_true rfl⟩, trivial⟩) ?_; conv => whnf) | (refine ifB_intro (fun hA => ?_) (fun hA => ?_) <;> (try rw [hA]) <;> (conv => whnf) <;> (first | replace hA := of_decide_eq_true hA | replace hA := of_decide_eq_false hA | replace hA := eq_of_beq hA | replace hA := ne_of_beq_false hA | replace hA := bne_iff_ne.1 hA | replace hA := bne_eq_false_iff_eq.1 hA | skip) <;> (try simp only [List.length_map, cond_true, cond_false, Bool.not_eq_true', Bool.not_eq_false', beq_iff_eq, beq_eq_false_iff_ne, ne_eq] at hA)) | (refine And.intro (by simp only [List.map_cons, List.length_map, List.length_cons, List.length_nil]; omega) ?_; conv => whnf) | (rw [getD_map _ _ _ _ (by assumption)]; conv => whnf))
        refine ⟨(true, (a0 :: acc) ++ [y], r), ⟨fun h => by simp at h, by show ((a0 :: acc) ++ [y]).length + r.l.length ≤ N; simp; omega, n, by show r.l.length < n; omega, hR⟩, by show r.l.length < q.l.length; omega, ⟨rfl, rfl, rfl, ?_, trivial⟩, ⟨fun o h => ?_, fun o h => h, fun o h => h, fun o h => h, trivial⟩⟩
        · exact msl_eq (by simp)
        · rw [← h]; exact congrArg (fun z => some (AObj.buf 2 122 z)) (by simp)
      · rw [listGo_done hA] at hR
        subst hR
        refine ⟨⟨phH (takeS sign q).2, ?_⟩⟩
        conv => whnf
        repeat' (first | (refine And.intro (by first | exact rfl | decide | exact Nat.le_of_ble_eq_true rfl | exact ⟨_, rfl⟩ | exact ⟨_, _, rfl⟩ | exact Nat.le_refl _ | exact Int.le_refl _ | omega | (simp only []; omega) | exact True.intro | (simp only []; omega) | (simp only []; omega) | (simp only []; omega) | exact ⟨⟨_, _, rfl, rfl, Nat.le_of_ble_eq_true rfl⟩, trivial⟩ | exact ⟨⟨_, _, rfl, rfl, Nat.le_of_ble_eq_true rfl⟩, ⟨_, _, rfl, rfl, Nat.le_of_ble_eq_true rfl⟩, trivial⟩ | exact ⟨⟨_, _, rfl, rfl, Nat.le_of_ble_eq_true rfl⟩, ⟨_, _, rfl, rfl, Nat.le_of_ble_eq_true rfl⟩, ⟨_, _, rfl, rfl, Nat.le_of_ble_eq_true rfl⟩, trivial⟩) ?_; conv => whnf) | (refine ifB_intro (fun hA => ?_) (fun hA => ?_) <;> (try rw [hA]) <;> (conv => whnf) <;> (first | replace hA := of_decide_eq_true hA | replace hA := of_decide_eq_false hA | replace hA := eq_of_beq hA | replace hA := ne_of_beq_false hA | replace hA := bne_iff_ne.1 hA | replace hA := bne_eq_false_iff_eq.1 hA | skip) <;> (try simp only [List.length_map, cond_true, cond_false, Bool.not_eq_true', Bool.not_eq_false', beq_iff_eq, beq_eq_false_iff_ne, ne_eq] at hA)) | (refine And.intro ⟨fun o h => h, fun o h => h, fun o h => h, trivial⟩ ?_; conv => whnf) | (rw [getD_map _ _ _ _ (by assumption)]; conv => whnf))
        exact .inl rfl
    | true =>
      conv => whnf
      repeat' (first | (refine And.intro (by first | exact rfl | decide | exact Nat.le_of_ble_eq_true rfl | exact ⟨_, rfl⟩ | exact ⟨_, _, rfl⟩ | exact Nat.le_refl _ | exact Int.le_refl _ | omega | (simp only [List.length_map]; omega) | exact True.intro | (simp only [List.length_map]; omega) | (simp only []; omega) | (simp only []; omega) | exact ⟨⟨_, _, rfl, rfl, Nat.le_of_ble_eq_true rfl⟩, trivial⟩ | exact ⟨⟨_, _, rfl, rfl, Nat.le_of_ble_eq_true rfl⟩, ⟨_, _, rfl, rfl, Nat.le_of_ble_eq_true rfl⟩, trivial⟩ | exact ⟨⟨_, _, rfl, rfl, Nat.le_of_ble_eq_true rfl⟩, ⟨_, _, rfl, rfl, Nat.le_of_ble_eq_true rfl⟩, ⟨_, _, rfl, rfl, Nat.le_of_ble_eq_true rfl⟩, trivial⟩) ?_; conv => whnf) | (refine ifB_intro (fun hA => ?_) (fun hA => ?_) <;> (try rw [hA]) <;> (conv => whnf) <;> (first | replace hA := of_decide_eq_true hA | replace hA := of_decide_eq_false hA | replace hA := eq_of_beq hA | replace hA := ne_of_beq_false hA | replace hA := bne_iff_ne.1 hA | replace hA := bne_eq_false_iff_eq.1 hA | skip) <;> (try simp only [List.length_map, cond_true, cond_false, Bool.not_eq_true', Bool.not_eq_false', beq_iff_eq, beq_eq_false_iff_ne, ne_eq] at hA)) | (refine CallP.hlb (ht) (by (conv => whnf); repeat' first | exact trivial | refine And.intro (fun _ h => h) ?_) rfl ?_; conv => whnf) | (refine CallD.hlb (ht) (by (conv => whnf); repeat' first | exact trivial | refine And.intro (fun _ h => h) ?_) ?_; conv => whnf) | (refine CallP.may (ho) (by (conv => whnf); repeat' first | exact trivial | refine And.intro (fun _ h => h) ?_) (fun _ => rfl) (fun hN => ?_) (fun xS hS => ?_) <;> (conv => whnf) <;> (try refine ⟨⟨[], trivial, rfl, ?_⟩⟩)) | (rw [getD_map _ _ _ _ (by assumption)]; conv => whnf))
      · rw [listGo_dies hA hN] at hR; subst hR; exact .inl rfl
      · obtain ⟨y, r⟩ := xS
        have hr := hl _ _ _ hS
        rw [listGo_more hA hS] at hR
        have hlen2 := hlen.2 hA
        repeat' (first | (refine And.intro (by first | exact rfl | decide | exact Nat.le_of_ble_eq_true rfl | exact ⟨_, rfl⟩ | exact ⟨_, _, rfl⟩ | exact Nat.le_refl _ | exact Int.le_refl _ | omega | (simp only [List.length_map]; omega) | exact True.intro | (simp only [List.length_map]; omega) | (simp only [List.length_cons]; omega) | (simp only [List.length_cons, List.length_nil]; omega) | exact ⟨⟨_, _, rfl, rfl, Nat.le_of_ble_eq_true rfl⟩, trivial⟩ | exact ⟨⟨_, _, rfl, rfl, Nat.le_of_ble_eq_true rfl⟩, ⟨_, _, rfl, rfl, Nat.le_of_ble_eq_true rfl⟩, trivial⟩ | exact ⟨⟨_, _, rfl, rfl, Nat.le_of_ble_eq_true rfl⟩, ⟨_, _, rfl, rfl, Nat.le_of_ble_eq_true rfl⟩, ⟨_, _, rfl, rfl, Nat.le_of_ble_eq_true rfl⟩, trivial⟩) ?_; conv => whnf) | (refine ifB_intro (fun hA => ?_) (fun hA => ?_) <;> (try rw [hA]) <;> (conv => whnf) <;> (first | replace hA := of_decide_eq_true hA | replace hA := of_decide_eq_false hA | replace hA := eq_of_beq hA | replace hA := ne_of_beq_false hA | replace hA := bne_iff_ne.1 hA | replace hA := bne_eq_false_iff_eq.1 hA | skip) <;> (try simp only [List.length_map, cond_true, cond_false, Bool.not_eq_true', Bool.not_eq_false', beq_iff_eq, beq_eq_false_iff_ne, ne_eq] at hA)) | (refine And.intro (by first | exact (List.length_map ..).symm | (simp only [List.length_map, List.length_cons, List.length_nil]; omega)) ?_; conv => whnf) | (rw [getD_map _ _ _ _ (by assumption)]; conv => whnf))
        refine ⟨(true, acc ++ [y], r), ⟨fun h => by simp at h, by show (acc ++ [y]).length + r.l.length ≤ N; simp; omega, n, by show r.l.length < n; omega, hR⟩, by show r.l.length < q.l.length; omega, ⟨rfl, rfl, rfl, ?_, trivial⟩, ⟨fun o h => ?_, fun o h => h, fun o h => h, fun o h => h, trivial⟩⟩
        · exact msl_eq (by simp)
        · rw [← h]; exact congrArg (fun z => some (AObj.buf 2 122 z)) (by simp)
      · rw [listGo_done hA] at hR
        subst hR
        refine ⟨⟨phH (takeS sign q).2, ?_⟩⟩
        conv => whnf
        repeat' (first | (refine And.intro (by first | exact rfl | decide | exact Nat.le_of_ble_eq_true rfl | exact ⟨_, rfl⟩ | exact ⟨_, _, rfl⟩ | exact Nat.le_refl _ | exact Int.le_refl _ | omega | (simp only [List.length_map]; omega) | exact True.intro | (simp only [List.length_map]; omega) | (simp only []; omega) | (simp only []; omega) | exact ⟨⟨_, _, rfl, rfl, Nat.le_of_ble_eq_true rfl⟩, trivial⟩ | exact ⟨⟨_, _, rfl, rfl, Nat.le_of_ble_eq_true rfl⟩, ⟨_, _, rfl, rfl, Nat.le_of_ble_eq_true rfl⟩, trivial⟩ | exact ⟨⟨_, _, rfl, rfl, Nat.le_of_ble_eq_true rfl⟩, ⟨_, _, rfl, rfl, Nat.le_of_ble_eq_true rfl⟩, ⟨_, _, rfl, rfl, Nat.le_of_ble_eq_true rfl⟩, trivial⟩) ?_; conv => whnf) | (refine ifB_intro (fun hA => ?_) (fun hA => ?_) <;> (try rw [hA]) <;> (conv => whnf) <;> (first | replace hA := of_decide_eq_true hA | replace hA := of_decide_eq_false hA | replace hA := eq_of_beq hA | replace hA := ne_of_beq_false hA | replace hA := bne_iff_ne.1 hA | replace hA := bne_eq_false_iff_eq.1 hA | skip) <;> (try simp only [List.length_map, cond_true, cond_false, Bool.not_eq_true', Bool.not_eq_false', beq_iff_eq, beq_eq_false_iff_ne, ne_eq] at hA)) | (refine And.intro ⟨fun o h => h, fun o h => h, fun o h => h, trivial⟩ ?_; conv => whnf) | (rw [getD_map _ _ _ _ (by assumption)]; conv => whnf))
        repeat' (first | (refine And.intro (by first | exact rfl | decide | exact Nat.le_of_ble_eq_true rfl | exact ⟨_, rfl⟩ | exact ⟨_, _, rfl⟩ | exact Nat.le_refl _ | exact Int.le_refl _ | omega | (simp only [List.length_map]; omega) | exact True.intro | (simp only [List.length_map]; omega) | (simp only []; omega) | (simp only []; omega) | exact ⟨⟨_, _, rfl, rfl, Nat.le_of_ble_eq_true rfl⟩, trivial⟩ | exact ⟨⟨_, _, rfl, rfl, Nat.le_of_ble_eq_true rfl⟩, ⟨_, _, rfl, rfl, Nat.le_of_ble_eq_true rfl⟩, trivial⟩ | exact ⟨⟨_, _, rfl, rfl, Nat.le_of_ble_eq_true rfl⟩, ⟨_, _, rfl, rfl, Nat.le_of_ble_eq_true rfl⟩, ⟨_, _, rfl, rfl, Nat.le_of_ble_eq_true rfl⟩, trivial⟩) ?_; conv => whnf) | (refine ifB_intro (fun hA => ?_) (fun hA => ?_) <;> (try rw [hA]) <;> (conv => whnf) <;> (first | replace hA := of_decide_eq_true hA | replace hA := of_decide_eq_false hA | replace hA := eq_of_beq hA | replace hA := ne_of_beq_false hA | replace hA := bne_iff_ne.1 hA | replace hA := bne_eq_false_iff_eq.1 hA | skip) <;> (try simp only [List.length_map, cond_true, cond_false, Bool.not_eq_true', Bool.not_eq_false', beq_iff_eq, beq_eq_false_iff_ne, ne_eq] at hA)) | (refine And.intro (by first | exact (List.length_map ..).symm | (simp only [List.length_map, Nat.zero_add]; omega)) ?_; conv => whnf) | (rw [getD_map _ _ _ _ (by assumption)]; conv => whnf))
        refine .inr ?_
        show AOut.ret (.d (.sl false 2 (List.take acc.length (List.drop 0 (acc.map rowF))))) _ = _
        rw [List.drop_zero, List.take_of_length_le (by simp)]
        rfl

end Go.Ax

/- syntax's parser: a rule. -/
namespace Go.Ax
open Go.Proofs
set_option maxRecDepth 10000

def ampB : ByteArray := ⟨#[38]⟩
def arrB : ByteArray := ⟨#[61, 62]⟩
def dotC : ByteArray := ⟨#[46]⟩
/-- What a rule asks: of a part (true), or of a field. -/
def condS (p : SP) : Option ((Bool × PairT) × SP) :=
  if (peekS p).data.toList = [64] then (partS eqB p).bind fun x => some ((true, x.1), x.2)
  else (fieldS p).bind fun f => (mustS eqB f.2).bind fun q => (valueS q).bind fun v => some ((false, (f.1, v.1)), v.2)
def condsGo : Nat → List PairT → List PairT → SP → Option ((List PairT × List PairT) × SP)
  | 0, _, _, _ => none
  | n + 1, w, g, p => match condS p with
    | none => none
    | some ((b, x), q) => if (takeS ampB q).1 = true then condsGo n (bif b then w else w ++ [x]) (bif b then g ++ [x] else g) (takeS ampB q).2
      else some ((bif b then w else w ++ [x], bif b then g ++ [x] else g), (takeS ampB q).2)
def ruleS (p : SP) : Option (RuleT × SP) := (condsGo p.l.length [] [] p).bind fun x => (mustS arrB x.2).bind fun p2 => (listS ampB (partS asB) p2).bind fun y => (mustS dotC y.2).bind fun p4 =>
  some (⟨x.1.1, x.1.2, y.1⟩, { p4 with twi := ((p4.twi || dupS x.1.1) || dupS x.1.2) || dupS y.1 })
def OkL (l : List PairT) : Prop := l.length < 20 ∧ Rise l
def OkRu (r : RuleT) : Prop := OkL r.when ∧ OkL r.guard ∧ OkL r.thn
theorem condS_len {p : SP} {x : Bool × PairT} {q : SP} (h : condS p = some (x, q)) : q.l.length < p.l.length := by
  unfold condS at h
  split at h
  · simp only [Option.bind_eq_some_iff] at h
    obtain ⟨y, e1, e2⟩ := h
    injection e2 with e2; injection e2 with _ e2; subst e2
    exact partS_len e1
  · simp only [Option.bind_eq_some_iff] at h
    obtain ⟨y, e1, r, e2, v, e3, e4⟩ := h
    injection e4 with e4; injection e4 with _ e4; subst e4
    have := fieldS_len e1
    have := mustS_len e2
    have := valueS_len e3
    omega

def p1H (p : SP) : HL := (1, some (.var [.ptr 9000 0])) :: spH p
theorem plist1_ctr (g : GP) (N : Nat) (hN0 : N ≤ 100000) (p : SP) (hp : p.l.length ≤ N) : Ctr (ax g).E 196 [.ptr 9000 0, .str ampB, .clo (.func 197) [] [.ptr 1 0]] (p1H p) (fun o => o = outP Failed (fun x : List PairT × SP => .d (.sl false 2 (x.1.map rowF))) (fun x => p1H x.2) (listS ampB (partS asB) p)) :=
  (plistF_ctr g ampB (by decide) 197 (partS asB) (fun _ _ _ h => partS_len h) N (fun q _ => rule1_ctr g q) p hp hN0).swapG 1 9002
    (fun res ho h => by
      cases hs : listS ampB (partS asB) p with
      | none => rw [hs] at h; exact absurd h (by simp [outP])
      | some x => rw [hs] at h; injection h with h1 h2; subst h1; subst h2; rfl)
    (fun ch ho h => by
      cases hs : listS ampB (partS asB) p with
      | none => rw [hs] at h; injection h with h1 h2; subst h1; subst h2; rfl
      | some x => rw [hs] at h; exact absurd h (by simp [outP]))

theorem rule5_ctr (g : GP) (N : Nat) (hN0 : N ≤ 100000) (p : SP) (hp : p.l.length ≤ N) (hk : ∀ r q, ruleS p = some (r, q) → OkRu r) : Ctr (ax g).E 161 [.ptr 9000 0] (spH p) (fun o => o = outP Failed (fun x : RuleT × SP => .dagg (rowR x.1)) (fun x => spH x.2) (ruleS p)) := by
  refine Ctr.body (X := ax g) _ 56 [9000, 9001] [.cell 2 39] Tryd.func161 rfl rfl rfl rfl (by decide +kernel) rfl rfl ?_
  conv => whnf
  repeat' (first | (refine And.intro (by first | exact rfl | decide | exact Nat.le_of_ble_eq_true rfl | exact ⟨_, rfl⟩ | exact ⟨_, _, rfl⟩ | exact Nat.le_refl _ | exact Int.le_refl _ | omega | (simp only [List.length_map]; omega) | exact True.intro | (simp only [IntKind.wrap_i64, List.length_map]; omega) | (simp only [List.map_cons, List.map_nil, List.length_cons, Option.getD]; omega) | (simp only [bsz, ByteArray.size_append, List.size_toArray, List.length_cons, List.length_nil]; omega) | exact ⟨⟨_, _, rfl, rfl, Nat.le_of_ble_eq_true rfl⟩, trivial⟩ | exact ⟨⟨_, _, rfl, rfl, Nat.le_of_ble_eq_true rfl⟩, ⟨_, _, rfl, rfl, Nat.le_of_ble_eq_true rfl⟩, trivial⟩ | exact ⟨⟨_, _, rfl, rfl, Nat.le_of_ble_eq_true rfl⟩, ⟨_, _, rfl, rfl, Nat.le_of_ble_eq_true rfl⟩, ⟨_, _, rfl, rfl, Nat.le_of_ble_eq_true rfl⟩, trivial⟩) ?_; conv => whnf) | (refine ifB_intro (fun hA => ?_) (fun hA => ?_) <;> (try rw [hA]) <;> (conv => whnf) <;> (first | replace hA := of_decide_eq_true hA | replace hA := of_decide_eq_false hA | replace hA := eq_of_beq hA | replace hA := ne_of_beq_false hA | replace hA := bne_iff_ne.1 hA | replace hA := bne_eq_false_iff_eq.1 hA | skip) <;> (try simp only [List.length_map, cond_true, cond_false, Bool.not_eq_true', Bool.not_eq_false', beq_iff_eq, beq_eq_false_iff_ne, ne_eq] at hA)) | (rw [getD_map _ _ _ _ (by assumption)]; conv => whnf))
  refine LoopP.asVar 3 3 _ rfl ?_
  refine LoopP.ownCell 3 0 9003 2 122 _ rfl rfl rfl ?_
  refine LoopP.ownCell 3 1 9004 2 122 _ rfl rfl rfl ?_
  generalize hR : condsGo p.l.length [] [] p = R
  refine LoopP.inv (X := ax g) (fun x : Bool × List PairT × List PairT × SP => { f := [(1, .ptr 1 0), (2, .ptr 2 0), (3, .ptr 3 0), (4, .bool x.1)], h := (1, some (.var [.ptr 9000 0])) :: (2, some (.dvar 3 [.v (.slice none 0 0), .v (.slice none 0 0), .v (.slice none 0 0)])) :: (3, some (.var [.msl 9003 x.2.1.length 0 x.2.1.length, .msl 9004 x.2.2.1.length 0 x.2.2.1.length, .d (.v (.slice none 0 0))])) :: (9003, some (.buf 2 122 (x.2.1.map rowF))) :: (9004, some (.buf 2 122 (x.2.2.1.map rowF))) :: spH x.2.2.2 })
    (fun x => x.2.1.length + x.2.2.1.length + x.2.2.2.l.length ≤ N ∧ ((x.1 = true ∧ ∃ n, x.2.2.2.l.length ≤ n ∧ condsGo n x.2.1 x.2.2.1 x.2.2.2 = R) ∨ (x.1 = false ∧ some ((x.2.1, x.2.2.1), x.2.2.2) = R))) (fun x => x.2.2.2.l.length + (bif x.1 then 1 else 0)) (true, [], [], p) ⟨by simpa using hp, .inl ⟨rfl, p.l.length, Nat.le_refl _, hR⟩⟩ ⟨⟨rfl, rfl, rfl, rfl, trivial⟩, ⟨fun o h => h, fun o h => h, fun o h => h, fun o h => h, fun o h => h, fun o h => h, fun o h => h, trivial⟩⟩ fun x hx => ?_
  obtain ⟨more, w, gd, q⟩ := x
  obtain ⟨hq, hx⟩ := hx
  cases more with
  | false =>
    have hx : some ((w, gd), q) = R := hx.elim (fun h => absurd h.1 (by simp)) fun h => h.2
    have hm := must5_ctr g q arrB (by decide)
    replace hq : w.length + gd.length + q.l.length ≤ N := hq
    have hrw : ruleS p = (mustS arrB q).bind fun p2 => (listS ampB (partS asB) p2).bind fun y => (mustS dotC y.2).bind fun p4 => some (⟨w, gd, y.1⟩, { p4 with twi := ((p4.twi || dupS w) || dupS gd) || dupS y.1 }) := by
      rw [ruleS, hR, ← hx]; rfl
    conv => whnf
    repeat' (first | (refine And.intro (by first | exact rfl | decide | exact Nat.le_of_ble_eq_true rfl | exact ⟨_, rfl⟩ | exact ⟨_, _, rfl⟩ | exact Nat.le_refl _ | exact Int.le_refl _ | omega | (simp only [List.length_map]; omega) | exact True.intro | (simp only [IntKind.wrap_i64, List.length_map]; omega) | (simp only [List.map_cons, List.map_nil, List.length_cons, Option.getD]; omega) | (simp only [bsz, ByteArray.size_append, List.size_toArray, List.length_cons, List.length_nil]; omega) | exact ⟨⟨_, _, rfl, rfl, Nat.le_of_ble_eq_true rfl⟩, trivial⟩ | exact ⟨⟨_, _, rfl, rfl, Nat.le_of_ble_eq_true rfl⟩, ⟨_, _, rfl, rfl, Nat.le_of_ble_eq_true rfl⟩, trivial⟩ | exact ⟨⟨_, _, rfl, rfl, Nat.le_of_ble_eq_true rfl⟩, ⟨_, _, rfl, rfl, Nat.le_of_ble_eq_true rfl⟩, ⟨_, _, rfl, rfl, Nat.le_of_ble_eq_true rfl⟩, trivial⟩) ?_; conv => whnf) | (refine ifB_intro (fun hA => ?_) (fun hA => ?_) <;> (try rw [hA]) <;> (conv => whnf) <;> (first | replace hA := of_decide_eq_true hA | replace hA := of_decide_eq_false hA | replace hA := eq_of_beq hA | replace hA := ne_of_beq_false hA | replace hA := bne_iff_ne.1 hA | replace hA := bne_eq_false_iff_eq.1 hA | skip) <;> (try simp only [List.length_map, cond_true, cond_false, Bool.not_eq_true', Bool.not_eq_false', beq_iff_eq, beq_eq_false_iff_ne, ne_eq] at hA)) | (refine CallP.may (hm) (by (conv => whnf); repeat' first | exact trivial | refine And.intro (fun _ h => h) ?_) (fun _ => rfl) (fun hN => ?_) (fun xS hS => ?_) <;> (conv => whnf) <;> (try refine ⟨⟨[], trivial, rfl, ?_⟩⟩)) | (refine CallP.may (plist1_ctr g N hN0 xS (by have := mustS_len hS; omega)) (by (conv => whnf); repeat' first | exact trivial | refine And.intro (fun _ h => h) ?_) (fun _ => rfl) (fun hN => ?_) (fun xS hS => ?_) <;> (conv => whnf) <;> (try refine ⟨⟨[], trivial, rfl, ?_⟩⟩)) | (refine CallP.may (must5_ctr g xS.2 dotC (by decide)) (by (conv => whnf); repeat' first | exact trivial | refine And.intro (fun _ h => h) ?_) (fun _ => rfl) (fun hN => ?_) (fun xS hS => ?_) <;> (conv => whnf) <;> (try refine ⟨⟨[], trivial, rfl, ?_⟩⟩)) | (rw [getD_map _ _ _ _ (by assumption)]; conv => whnf))
    · rw [hrw, hN]; rfl
    · rw [hrw, hS]; simp only [Option.bind_some, hN]; rfl
    · rename_i p2 h2
      rw [hrw, h2]; simp only [Option.bind_some, hS, hN]; rfl
    · rename_i p2 h2 y h3
      refine DrawP.sub (Sub.frzCell 3 0 9003 w.length 0 w.length 2 122 _ (w.map rowF) rfl rfl rfl (by decide) (by simp) (Nat.le_of_eq (Nat.zero_add _))) ?_
      refine DrawP.sub (Sub.frzCell 3 1 9004 gd.length 0 gd.length 2 122 _ (gd.map rowF) rfl rfl rfl (by decide) (by simp) (Nat.le_of_eq (Nat.zero_add _))) ?_
      have hsp : ruleS p = some (⟨w, gd, y.1⟩, { xS with twi := ((xS.twi || dupS w) || dupS gd) || dupS y.1 }) := by
        rw [hrw, h2]; simp only [Option.bind_some, h3, hS]
      obtain ⟨⟨kw, rw1⟩, ⟨kg, rg⟩, ⟨kt, rt⟩⟩ := hk _ _ hsp
      replace kw : w.length < 20 := kw
      replace kg : gd.length < 20 := kg
      replace kt : y.1.length < 20 := kt
      rw [hsp]
      refine DrawP.intro (X := ax g) (id := 13) B161_13 (by kernel_rfl) (by decide +kernel) ?_
      conv => whnf
      have c1 := prise_ctr g xS w kw rw1
      have c2 := prise_ctr g { xS with twi := xS.twi || dupS w } gd kg rg
      have c3 := prise_ctr g { xS with twi := (xS.twi || dupS w) || dupS gd } y.1 kt rt
      have t1 : List.take w.length (List.drop 0 (w.map rowF)) = w.map rowF := by simp [← List.map_take]
      have t2 : List.take gd.length (List.drop 0 (gd.map rowF)) = gd.map rowF := by simp [← List.map_take]
      repeat' (first | (refine And.intro (by first | exact rfl | decide | exact Nat.le_of_ble_eq_true rfl | exact ⟨_, rfl⟩ | exact ⟨_, _, rfl⟩ | exact Nat.le_refl _ | exact Int.le_refl _ | omega | (simp only [List.length_map]; omega) | exact True.intro | (simp only [IntKind.wrap_i64, List.length_map]; omega) | (simp only [List.map_cons, List.map_nil, List.length_cons, Option.getD]; omega) | (simp only [bsz, ByteArray.size_append, List.size_toArray, List.length_cons, List.length_nil]; omega) | exact ⟨⟨_, _, rfl, rfl, Nat.le_of_ble_eq_true rfl⟩, trivial⟩ | exact ⟨⟨_, _, rfl, rfl, Nat.le_of_ble_eq_true rfl⟩, ⟨_, _, rfl, rfl, Nat.le_of_ble_eq_true rfl⟩, trivial⟩ | exact ⟨⟨_, _, rfl, rfl, Nat.le_of_ble_eq_true rfl⟩, ⟨_, _, rfl, rfl, Nat.le_of_ble_eq_true rfl⟩, ⟨_, _, rfl, rfl, Nat.le_of_ble_eq_true rfl⟩, trivial⟩) ?_; conv => whnf) | (refine ifB_intro (fun hA => ?_) (fun hA => ?_) <;> (try rw [hA]) <;> (conv => whnf) <;> (first | replace hA := of_decide_eq_true hA | replace hA := of_decide_eq_false hA | replace hA := eq_of_beq hA | replace hA := ne_of_beq_false hA | replace hA := bne_iff_ne.1 hA | replace hA := bne_eq_false_iff_eq.1 hA | skip) <;> (try simp only [List.length_map, cond_true, cond_false, Bool.not_eq_true', Bool.not_eq_false', beq_iff_eq, beq_eq_false_iff_ne, ne_eq] at hA)) | (refine CallP.hlb (c1) (by (conv => whnf); repeat' first | exact trivial | refine And.intro (fun _ h => h) ?_) rfl ?_; conv => whnf) | (refine CallD.hlb (c1) (by (conv => whnf); repeat' first | exact trivial | refine And.intro (fun _ h => h) ?_) ?_; conv => whnf) | (refine CallP.hlb (c2) (by (conv => whnf); repeat' first | exact trivial | refine And.intro (fun _ h => h) ?_) rfl ?_; conv => whnf) | (refine CallD.hlb (c2) (by (conv => whnf); repeat' first | exact trivial | refine And.intro (fun _ h => h) ?_) ?_; conv => whnf) | (refine CallP.hlb (c3) (by (conv => whnf); repeat' first | exact trivial | refine And.intro (fun _ h => h) ?_) rfl ?_; conv => whnf) | (refine CallD.hlb (c3) (by (conv => whnf); repeat' first | exact trivial | refine And.intro (fun _ h => h) ?_) ?_; conv => whnf) | (rw [t1]; conv => whnf) | (rw [t2]; conv => whnf) | (rw [getD_map _ _ _ _ (by assumption)]; conv => whnf))
      refine ⟨⟨spH { xS with twi := ((xS.twi || dupS w) || dupS gd) || dupS y.1 }, ?_⟩⟩
      conv => whnf
      repeat' (first | (refine And.intro (by first | exact rfl | decide | exact Nat.le_of_ble_eq_true rfl | exact ⟨_, rfl⟩ | exact ⟨_, _, rfl⟩ | exact Nat.le_refl _ | exact Int.le_refl _ | omega | (simp only []; omega) | exact True.intro | (simp only []; omega) | (simp only []; omega) | (simp only []; omega) | exact ⟨⟨_, _, rfl, rfl, Nat.le_of_ble_eq_true rfl⟩, trivial⟩ | exact ⟨⟨_, _, rfl, rfl, Nat.le_of_ble_eq_true rfl⟩, ⟨_, _, rfl, rfl, Nat.le_of_ble_eq_true rfl⟩, trivial⟩ | exact ⟨⟨_, _, rfl, rfl, Nat.le_of_ble_eq_true rfl⟩, ⟨_, _, rfl, rfl, Nat.le_of_ble_eq_true rfl⟩, ⟨_, _, rfl, rfl, Nat.le_of_ble_eq_true rfl⟩, trivial⟩) ?_; conv => whnf) | (refine ifB_intro (fun hA => ?_) (fun hA => ?_) <;> (try rw [hA]) <;> (conv => whnf) <;> (first | replace hA := of_decide_eq_true hA | replace hA := of_decide_eq_false hA | replace hA := eq_of_beq hA | replace hA := ne_of_beq_false hA | replace hA := bne_iff_ne.1 hA | replace hA := bne_eq_false_iff_eq.1 hA | skip) <;> (try simp only [List.length_map, cond_true, cond_false, Bool.not_eq_true', Bool.not_eq_false', beq_iff_eq, beq_eq_false_iff_ne, ne_eq] at hA)) | (refine And.intro ⟨fun o h => h, fun o h => h, trivial⟩ ?_; conv => whnf) | (rw [getD_map _ _ _ _ (by assumption)]; conv => whnf))
      rfl
  | true =>
    have hx : ∃ n, q.l.length ≤ n ∧ condsGo n w gd q = R := hx.elim (fun h => h.2) fun h => absurd h.1 (by simp)
    obtain ⟨n, hn, hR2⟩ := hx
    replace hq : w.length + gd.length + q.l.length ≤ N := hq
    have hpos : 0 < q.l.length := by
      obtain ⟨l, ok, ns, u, tw⟩ := q
      cases l with
      | nil => exact ok.not_nil.elim
      | cons t r => simp
    obtain ⟨m, rfl⟩ : ∃ m, n = m + 1 := ⟨n - 1, by omega⟩
    conv => whnf
    repeat' (first | (refine And.intro (by first | exact rfl | decide | exact Nat.le_of_ble_eq_true rfl | exact ⟨_, rfl⟩ | exact ⟨_, _, rfl⟩ | exact Nat.le_refl _ | exact Int.le_refl _ | omega | (simp only [List.length_map]; omega) | exact True.intro | (simp only [IntKind.wrap_i64, List.length_map]; omega) | (simp only [List.map_cons, List.map_nil, List.length_cons, Option.getD]; omega) | (simp only [bsz, ByteArray.size_append, List.size_toArray, List.length_cons, List.length_nil]; omega) | exact ⟨⟨_, _, rfl, rfl, Nat.le_of_ble_eq_true rfl⟩, trivial⟩ | exact ⟨⟨_, _, rfl, rfl, Nat.le_of_ble_eq_true rfl⟩, ⟨_, _, rfl, rfl, Nat.le_of_ble_eq_true rfl⟩, trivial⟩ | exact ⟨⟨_, _, rfl, rfl, Nat.le_of_ble_eq_true rfl⟩, ⟨_, _, rfl, rfl, Nat.le_of_ble_eq_true rfl⟩, ⟨_, _, rfl, rfl, Nat.le_of_ble_eq_true rfl⟩, trivial⟩) ?_; conv => whnf) | (refine ifB_intro (fun hA => ?_) (fun hA => ?_) <;> (try rw [hA]) <;> (conv => whnf) <;> (first | replace hA := of_decide_eq_true hA | replace hA := of_decide_eq_false hA | replace hA := eq_of_beq hA | replace hA := ne_of_beq_false hA | replace hA := bne_iff_ne.1 hA | replace hA := bne_eq_false_iff_eq.1 hA | skip) <;> (try simp only [ne_eq] at hA)) | (refine CallP.hlb (speek_ctr g q) (by (conv => whnf); repeat' first | exact trivial | refine And.intro (fun _ h => h) ?_) rfl ?_; conv => whnf) | (refine CallD.hlb (speek_ctr g q) (by (conv => whnf); repeat' first | exact trivial | refine And.intro (fun _ h => h) ?_) ?_; conv => whnf) | (rw [getD_map _ _ _ _ (by assumption)]; conv => whnf))
    · cases hP : partS eqB q with
      | none =>
        have hd := (part5_ctr g q eqB (by decide)).none hP
        have hR3 : R = none := by rw [← hR2, condsGo, condS, if_pos hA, hP]; rfl
        refine DrawP.any (X := ax g) (by decide +kernel) ?_
        conv => whnf
        repeat' (first | (refine And.intro (by first | exact rfl | decide | exact Nat.le_of_ble_eq_true rfl | exact ⟨_, rfl⟩ | exact ⟨_, _, rfl⟩ | exact Nat.le_refl _ | exact Int.le_refl _ | omega | (simp only [List.length_map]; omega) | exact True.intro | (simp only [IntKind.wrap_i64, List.length_map]; omega) | (simp only [List.map_cons, List.map_nil, List.length_cons, Option.getD]; omega) | (simp only [bsz, ByteArray.size_append, List.size_toArray, List.length_cons, List.length_nil]; omega) | exact ⟨⟨_, _, rfl, rfl, Nat.le_of_ble_eq_true rfl⟩, trivial⟩ | exact ⟨⟨_, _, rfl, rfl, Nat.le_of_ble_eq_true rfl⟩, ⟨_, _, rfl, rfl, Nat.le_of_ble_eq_true rfl⟩, trivial⟩ | exact ⟨⟨_, _, rfl, rfl, Nat.le_of_ble_eq_true rfl⟩, ⟨_, _, rfl, rfl, Nat.le_of_ble_eq_true rfl⟩, ⟨_, _, rfl, rfl, Nat.le_of_ble_eq_true rfl⟩, trivial⟩) ?_; conv => whnf) | (refine ifB_intro (fun hA => ?_) (fun hA => ?_) <;> (try rw [hA]) <;> (conv => whnf) <;> (first | replace hA := of_decide_eq_true hA | replace hA := of_decide_eq_false hA | replace hA := eq_of_beq hA | replace hA := ne_of_beq_false hA | replace hA := bne_iff_ne.1 hA | replace hA := bne_eq_false_iff_eq.1 hA | skip) <;> (try simp only [List.length_map, cond_true, cond_false, Bool.not_eq_true', Bool.not_eq_false', beq_iff_eq, beq_eq_false_iff_ne, ne_eq] at hA)) | (refine CallP.dies (hd) (by (conv => whnf); repeat' first | exact trivial | refine And.intro (fun _ h => h) ?_) ?_; (conv => whnf); refine ⟨⟨[], trivial, rfl, ?_⟩⟩) | (refine BothP.mk ?_ ?_ <;> conv => whnf) | (rw [getD_map _ _ _ _ (by assumption)]; conv => whnf))
        all_goals (rw [ruleS, hR, hR3]; rfl)
      | some y =>
        obtain ⟨x, r⟩ := y
        have hd := (part5_ctr g q eqB (by decide)).some hP
        have hcond : condS q = some ((true, x), r) := by rw [condS, if_pos hA, hP]; rfl
        have hrl := condS_len hcond
        have htl := takeS_len (s := ampB) (p := r)
        have ht := take_ctr g r ampB (by decide)
        refine DrawP.intro (X := ax g) (id := 6) B161_6 (by kernel_rfl) (by decide +kernel) ?_
        conv => whnf
        repeat' (first | (refine And.intro (by first | exact rfl | decide | exact Nat.le_of_ble_eq_true rfl | exact ⟨_, rfl⟩ | exact ⟨_, _, rfl⟩ | exact Nat.le_refl _ | exact Int.le_refl _ | omega | (simp only [List.length_map]; omega) | exact True.intro | (simp only [List.length_map]; omega) | (simp only [List.length_cons]; omega) | (simp only [List.length_cons, List.length_nil]; omega) | exact ⟨⟨_, _, rfl, rfl, Nat.le_of_ble_eq_true rfl⟩, trivial⟩ | exact ⟨⟨_, _, rfl, rfl, Nat.le_of_ble_eq_true rfl⟩, ⟨_, _, rfl, rfl, Nat.le_of_ble_eq_true rfl⟩, trivial⟩ | exact ⟨⟨_, _, rfl, rfl, Nat.le_of_ble_eq_true rfl⟩, ⟨_, _, rfl, rfl, Nat.le_of_ble_eq_true rfl⟩, ⟨_, _, rfl, rfl, Nat.le_of_ble_eq_true rfl⟩, trivial⟩) ?_; conv => whnf) | (refine ifB_intro (fun hA => ?_) (fun hA => ?_) <;> (try rw [hA]) <;> (conv => whnf) <;> (first | replace hA := of_decide_eq_true hA | replace hA := of_decide_eq_false hA | replace hA := eq_of_beq hA | replace hA := ne_of_beq_false hA | replace hA := bne_iff_ne.1 hA | replace hA := bne_eq_false_iff_eq.1 hA | skip) <;> (try simp only [List.length_map, cond_true, cond_false, Bool.not_eq_true', Bool.not_eq_false', beq_iff_eq, beq_eq_false_iff_ne, ne_eq] at hA)) | (refine CallP.hlb (hd) (by (conv => whnf); repeat' first | exact trivial | refine And.intro (fun _ h => h) ?_) rfl ?_; conv => whnf) | (refine CallD.hlb (hd) (by (conv => whnf); repeat' first | exact trivial | refine And.intro (fun _ h => h) ?_) ?_; conv => whnf) | (refine CallP.hlb (ht) (by (conv => whnf); repeat' first | exact trivial | refine And.intro (fun _ h => h) ?_) rfl ?_; conv => whnf) | (refine CallD.hlb (ht) (by (conv => whnf); repeat' first | exact trivial | refine And.intro (fun _ h => h) ?_) ?_; conv => whnf) | (refine And.intro (by first | exact (List.length_map ..).symm | (simp only [List.length_map, List.length_cons, List.length_nil]; omega)) ?_; conv => whnf) | (rw [getD_map _ _ _ _ (by assumption)]; conv => whnf))
        refine ⟨((takeS ampB r).1, w, gd ++ [x], (takeS ampB r).2), ⟨?_, ?_⟩, ?_, ⟨⟨rfl, rfl, rfl, rfl, trivial⟩, ⟨fun o h => h, fun o h => h, fun o h => ?_, fun o h => ?_, fun o h => ?_, fun o h => h, fun o h => h, trivial⟩⟩⟩
        · show (w).length + (gd ++ [x]).length + (takeS ampB r).2.l.length ≤ N
          simp only [List.length_append, List.length_cons, List.length_nil]; omega
        · rw [condsGo, hcond] at hR2
          dsimp only at hR2
          cases hm : (takeS ampB r).1 with
          | true => exact .inl ⟨rfl, m, by show (takeS ampB r).2.l.length ≤ m; omega, by rw [if_pos hm] at hR2; exact hR2⟩
          | false => exact .inr ⟨rfl, by rw [if_neg (by simp [hm])] at hR2; exact hR2⟩
        · show (takeS ampB r).2.l.length + (bif (takeS ampB r).1 then 1 else 0) < q.l.length + 1
          cases hm : (takeS ampB r).1 with
          | true => have := htl.2 hm; simp only [cond_true]; omega
          | false => simp only [cond_false]; omega
        · rw [← h]; first | rfl | (simp; rfl) | (simp only [List.length_append, List.length_map, List.length_cons, List.length_nil]; rfl)
        · rw [← h]; first | rfl | (simp; rfl)
        · rw [← h]; first | rfl | (simp; rfl)
    · have hdie : condS q = none → ruleS p = none := fun h => by rw [ruleS, hR, ← hR2, condsGo, h]; rfl
      repeat' (first | (refine And.intro (by first | exact rfl | decide | exact Nat.le_of_ble_eq_true rfl | exact ⟨_, rfl⟩ | exact ⟨_, _, rfl⟩ | exact Nat.le_refl _ | exact Int.le_refl _ | omega | (simp only [List.length_map]; omega) | exact True.intro | (simp only [IntKind.wrap_i64, List.length_map]; omega) | (simp only [List.map_cons, List.map_nil, List.length_cons, Option.getD]; omega) | (simp only [bsz, ByteArray.size_append, List.size_toArray, List.length_cons, List.length_nil]; omega) | exact ⟨⟨_, _, rfl, rfl, Nat.le_of_ble_eq_true rfl⟩, trivial⟩ | exact ⟨⟨_, _, rfl, rfl, Nat.le_of_ble_eq_true rfl⟩, ⟨_, _, rfl, rfl, Nat.le_of_ble_eq_true rfl⟩, trivial⟩ | exact ⟨⟨_, _, rfl, rfl, Nat.le_of_ble_eq_true rfl⟩, ⟨_, _, rfl, rfl, Nat.le_of_ble_eq_true rfl⟩, ⟨_, _, rfl, rfl, Nat.le_of_ble_eq_true rfl⟩, trivial⟩) ?_; conv => whnf) | (refine ifB_intro (fun hA => ?_) (fun hA => ?_) <;> (try rw [hA]) <;> (conv => whnf) <;> (first | replace hA := of_decide_eq_true hA | replace hA := of_decide_eq_false hA | replace hA := eq_of_beq hA | replace hA := ne_of_beq_false hA | replace hA := bne_iff_ne.1 hA | replace hA := bne_eq_false_iff_eq.1 hA | skip) <;> (try simp only [List.length_map, cond_true, cond_false, Bool.not_eq_true', Bool.not_eq_false', beq_iff_eq, beq_eq_false_iff_ne, ne_eq] at hA)) | (refine CallP.may (field5_ctr g q) (by (conv => whnf); repeat' first | exact trivial | refine And.intro (fun _ h => h) ?_) (fun _ => rfl) (fun hN => ?_) (fun xS hS => ?_) <;> (conv => whnf) <;> (try refine ⟨⟨[], trivial, rfl, ?_⟩⟩)) | (refine CallP.may (must5_ctr g xS.2 eqB (by decide)) (by (conv => whnf); repeat' first | exact trivial | refine And.intro (fun _ h => h) ?_) (fun _ => rfl) (fun hN => ?_) (fun xS hS => ?_) <;> (conv => whnf) <;> (try refine ⟨⟨[], trivial, rfl, ?_⟩⟩)) | (rw [getD_map _ _ _ _ (by assumption)]; conv => whnf))
      · rw [hdie (by rw [condS, if_neg hA, hN]; rfl)]; rfl
      · rw [hdie (by rw [condS, if_neg hA, hS]; simp only [Option.bind_some, hN]; rfl)]; rfl
      · rename_i f hf
        cases hP : valueS xS with
        | none =>
          have hd := (value_ctr g xS).none hP
          have hR3 : ruleS p = none := hdie (by rw [condS, if_neg hA, hf]; simp only [Option.bind_some, hS, hP]; rfl)
          refine DrawP.any (X := ax g) (by decide +kernel) ?_
          conv => whnf
          repeat' (first | (refine And.intro (by first | exact rfl | decide | exact Nat.le_of_ble_eq_true rfl | exact ⟨_, rfl⟩ | exact ⟨_, _, rfl⟩ | exact Nat.le_refl _ | exact Int.le_refl _ | omega | (simp only [List.length_map]; omega) | exact True.intro | (simp only [IntKind.wrap_i64, List.length_map]; omega) | (simp only [List.map_cons, List.map_nil, List.length_cons, Option.getD]; omega) | (simp only [bsz, ByteArray.size_append, List.size_toArray, List.length_cons, List.length_nil]; omega) | exact ⟨⟨_, _, rfl, rfl, Nat.le_of_ble_eq_true rfl⟩, trivial⟩ | exact ⟨⟨_, _, rfl, rfl, Nat.le_of_ble_eq_true rfl⟩, ⟨_, _, rfl, rfl, Nat.le_of_ble_eq_true rfl⟩, trivial⟩ | exact ⟨⟨_, _, rfl, rfl, Nat.le_of_ble_eq_true rfl⟩, ⟨_, _, rfl, rfl, Nat.le_of_ble_eq_true rfl⟩, ⟨_, _, rfl, rfl, Nat.le_of_ble_eq_true rfl⟩, trivial⟩) ?_; conv => whnf) | (refine ifB_intro (fun hA => ?_) (fun hA => ?_) <;> (try rw [hA]) <;> (conv => whnf) <;> (first | replace hA := of_decide_eq_true hA | replace hA := of_decide_eq_false hA | replace hA := eq_of_beq hA | replace hA := ne_of_beq_false hA | replace hA := bne_iff_ne.1 hA | replace hA := bne_eq_false_iff_eq.1 hA | skip) <;> (try simp only [List.length_map, cond_true, cond_false, Bool.not_eq_true', Bool.not_eq_false', beq_iff_eq, beq_eq_false_iff_ne, ne_eq] at hA)) | (refine CallP.dies (hd) (by (conv => whnf); repeat' first | exact trivial | refine And.intro (fun _ h => h) ?_) ?_; (conv => whnf); refine ⟨⟨[], trivial, rfl, ?_⟩⟩) | (refine BothP.mk ?_ ?_ <;> conv => whnf) | (rw [getD_map _ _ _ _ (by assumption)]; conv => whnf))
          all_goals (rw [hR3]; rfl)
        | some y =>
          obtain ⟨v, r⟩ := y
          have hd := (value_ctr g xS).some hP
          have hcond : condS q = some ((false, (f.1, v)), r) := by rw [condS, if_neg hA, hf]; simp only [Option.bind_some, hS, hP]
          have hrl := condS_len hcond
          have htl := takeS_len (s := ampB) (p := r)
          have ht := take_ctr g r ampB (by decide)
          refine DrawP.intro (X := ax g) (id := 9) B161_9 (by kernel_rfl) (by decide +kernel) ?_
          conv => whnf
          repeat' (first | (refine And.intro (by first | exact rfl | decide | exact Nat.le_of_ble_eq_true rfl | exact ⟨_, rfl⟩ | exact ⟨_, _, rfl⟩ | exact Nat.le_refl _ | exact Int.le_refl _ | omega | (simp only [List.length_map]; omega) | exact True.intro | (simp only [List.length_map]; omega) | (simp only [List.map_cons, List.map_nil, List.length_cons]; omega) | (simp only [List.length_cons, List.length_nil]; omega) | exact ⟨⟨_, _, rfl, rfl, Nat.le_of_ble_eq_true rfl⟩, trivial⟩ | exact ⟨⟨_, _, rfl, rfl, Nat.le_of_ble_eq_true rfl⟩, ⟨_, _, rfl, rfl, Nat.le_of_ble_eq_true rfl⟩, trivial⟩ | exact ⟨⟨_, _, rfl, rfl, Nat.le_of_ble_eq_true rfl⟩, ⟨_, _, rfl, rfl, Nat.le_of_ble_eq_true rfl⟩, ⟨_, _, rfl, rfl, Nat.le_of_ble_eq_true rfl⟩, trivial⟩) ?_; conv => whnf) | (refine ifB_intro (fun hA => ?_) (fun hA => ?_) <;> (try rw [hA]) <;> (conv => whnf) <;> (first | replace hA := of_decide_eq_true hA | replace hA := of_decide_eq_false hA | replace hA := eq_of_beq hA | replace hA := ne_of_beq_false hA | replace hA := bne_iff_ne.1 hA | replace hA := bne_eq_false_iff_eq.1 hA | skip) <;> (try simp only [List.length_map, cond_true, cond_false, Bool.not_eq_true', Bool.not_eq_false', beq_iff_eq, beq_eq_false_iff_ne, ne_eq] at hA)) | (refine CallP.hlb (hd) (by (conv => whnf); repeat' first | exact trivial | refine And.intro (fun _ h => h) ?_) rfl ?_; conv => whnf) | (refine CallD.hlb (hd) (by (conv => whnf); repeat' first | exact trivial | refine And.intro (fun _ h => h) ?_) ?_; conv => whnf) | (refine CallP.hlb (ht) (by (conv => whnf); repeat' first | exact trivial | refine And.intro (fun _ h => h) ?_) rfl ?_; conv => whnf) | (refine CallD.hlb (ht) (by (conv => whnf); repeat' first | exact trivial | refine And.intro (fun _ h => h) ?_) ?_; conv => whnf) | (refine And.intro (by first | exact (List.length_map ..).symm | (simp only [List.length_map, List.length_cons, List.length_nil]; omega)) ?_; conv => whnf) | (rw [getD_map _ _ _ _ (by assumption)]; conv => whnf))
          refine ⟨((takeS ampB r).1, w ++ [(f.1, v)], gd, (takeS ampB r).2), ⟨?_, ?_⟩, ?_, ⟨⟨rfl, rfl, rfl, rfl, trivial⟩, ⟨fun o h => h, fun o h => h, fun o h => ?_, fun o h => ?_, fun o h => ?_, fun o h => h, fun o h => h, trivial⟩⟩⟩
          · show (w ++ [(f.1, v)]).length + (gd).length + (takeS ampB r).2.l.length ≤ N
            simp only [List.length_append, List.length_cons, List.length_nil]; omega
          · rw [condsGo, hcond] at hR2
            dsimp only at hR2
            cases hm : (takeS ampB r).1 with
            | true => exact .inl ⟨rfl, m, by show (takeS ampB r).2.l.length ≤ m; omega, by rw [if_pos hm] at hR2; exact hR2⟩
            | false => exact .inr ⟨rfl, by rw [if_neg (by simp [hm])] at hR2; exact hR2⟩
          · show (takeS ampB r).2.l.length + (bif (takeS ampB r).1 then 1 else 0) < q.l.length + 1
            cases hm : (takeS ampB r).1 with
            | true => have := htl.2 hm; simp only [cond_true]; omega
            | false => simp only [cond_false]; omega
          · rw [← h]; first | rfl | (simp; rfl) | (simp only [List.length_append, List.length_map, List.length_cons, List.length_nil]; rfl)
          · rw [← h]; first | rfl | (simp; rfl)
          · rw [← h]; first | rfl | (simp; rfl)

end Go.Ax
