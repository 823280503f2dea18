/- What the card of this claim stands on, or the card itself: for every input, as the given row says. -/
import Derived.SizedLaws
import Derived.ChangeArms
import Derived.DataReads
import Derived.Recover
import Derived.Test.YtdobclfcondfcaaGreatDoorPA05
import Derived.Test.YtdobclfcondfcaaGreatDoorPA06
import Derived.Test.YtdobclfcondfcaaGreatDoorPA08
import Derived.Test.YtdobclfcondfcaaGreatDoorPA10
import Derived.Test.YtdobclfcondfcaaGreatDoorPA11

namespace Go.Ax
open Go.Proofs Go.RowKit Go.Shelf Go.Lib
set_option maxRecDepth 10000
theorem ris37_ctr (g : GP) (w : WordT) (q : List Nat) (hq : q.length = 8) (hh : w.has.length < 2 ^ 62) (hb : ∀ i, i < 8 → q.getD i 0 < 65536) : Ctr (ax g).E 70 [.dagg (rowWd w), .dagg (rowU q)] [] (fun o => o = .ret (.bool (isR w q)) []) := by
  have c2 := refhasp_ctr g q hq false w.has hh
  have b0 := hb 0 (by omega)
  have b1 := hb 1 (by omega)
  obtain ⟨q0, q1, q2, q3, q4, q5, q6, q7, rfl⟩ := eight hq
  obtain ⟨wm, wn, wsw, wpt, wh⟩ := w
  have hw0 : IntKind.i64.wrap (q0 : Int) = q0 := i64_wrap (by simp at b0; omega) (by simp at b0; omega)
  have hw1 : IntKind.i64.wrap (q1 : Int) = q1 := i64_wrap (by simp at b1; omega) (by simp at b1; omega)
  unfold isR
  dsimp only at c2 ⊢
  refine Ctr.body (X := ax g) _ 40 [] [.tmp 4] Tryz.func70 rfl rfl rfl rfl (by decide +kernel) rfl rfl ?_
  conv => whnf
  repeat' (first | (refine And.intro (by first | exact rfl | decide | exact Nat.le_of_ble_eq_true rfl | exact ⟨_, rfl⟩ | exact ⟨_, _, rfl⟩ | exact Nat.le_refl _ | exact Int.le_refl _ | omega | (simp only [List.length_map]; omega) | exact True.intro | (simp only [IntKind.wrap_i64, List.length_map]; omega) | (simp only [List.map_cons, List.map_nil, List.length_cons, Option.getD]; omega) | (simp only [bsz, ByteArray.size_append, List.size_toArray, List.length_cons, List.length_nil]; omega) | exact ⟨⟨_, _, rfl, rfl, Nat.le_of_ble_eq_true rfl⟩, trivial⟩ | exact ⟨⟨_, _, rfl, rfl, Nat.le_of_ble_eq_true rfl⟩, ⟨_, _, rfl, rfl, Nat.le_of_ble_eq_true rfl⟩, trivial⟩ | exact ⟨⟨_, _, rfl, rfl, Nat.le_of_ble_eq_true rfl⟩, ⟨_, _, rfl, rfl, Nat.le_of_ble_eq_true rfl⟩, ⟨_, _, rfl, rfl, Nat.le_of_ble_eq_true rfl⟩, trivial⟩) ?_; conv => whnf) | (refine ifB_intro (fun hA => ?_) (fun hA => ?_) <;> (try rw [hA]) <;> (conv => whnf) <;> (first | replace hA := of_decide_eq_true hA | replace hA := of_decide_eq_false hA | replace hA := eq_of_beq hA | replace hA := ne_of_beq_false hA | replace hA := bne_iff_ne.1 hA | replace hA := bne_eq_false_iff_eq.1 hA | skip) <;> (try simp only [] at hA)) | (erw [hw0]; conv => whnf) | (erw [hw1]; conv => whnf) | (refine CallP.det (c2) ?_; conv => whnf) | (refine CallD.det (c2) ?_; conv => whnf) | (rw [getD_map _ _ _ _ (by assumption)]; conv => whnf))
  all_goals
    refine ⟨⟨[], ?_⟩⟩
    conv => whnf
    clear c2 b0 b1 hb hq hh
    simp_all [bne]
def rowBo (b : Bool) : List D := [.v (.bool b)]
theorem marks_step {W : List WordT} {L : List (List Nat)} {i m : Nat} (hi : i < W.length) (hm : m ≤ L.length) : marksR W L (i + 1) m ↔ ∃ k, k ≤ L.length ∧ marksR W L i k ∧ (if W[i].many = true then k ≤ m else m = k + 1 ∧ ∃ h : k < L.length, fitsW W[i] L[k] = true) := by
  unfold marksR
  rw [show GlobW (W.take (i + 1)) (L.take m) ↔ _ from Glob.snoc_take hi hm]
  by_cases h : W[i].many = true
  · simp only [h, if_true]
    constructor
    · rintro ⟨_, j, h1, h2⟩; exact ⟨j, by omega, ⟨by omega, h2⟩, h1⟩
    · rintro ⟨k, h1, ⟨_, h2⟩, h3⟩; exact ⟨hm, k, h3, h2⟩
  · simp only [h, if_false, Bool.false_eq_true]
    constructor
    · rintro ⟨_, j, h1, h2, h3, h4⟩; exact ⟨j, by omega, ⟨by omega, h4⟩, h2, h1, h3⟩
    · rintro ⟨k, h1, ⟨_, h2⟩, h3, h4, h5⟩; exact ⟨hm, k, h4, h3, h5, h2⟩
structure MarkI (W : List WordT) (L : List (List Nat)) (i : Nat) (M : List Bool) : Prop where
  len : M.length = L.length + 1
  at' : ∀ m, m ≤ L.length → (M.getD m false = true ↔ marksR W L i m)
def stepM (w : WordT) (L : List (List Nat)) (k m : Nat) : Prop := if w.many = true then k ≤ m else m = k + 1 ∧ ∃ h : k < L.length, fitsW w L[k] = true
structure NextI (w : WordT) (L : List (List Nat)) (M : List Bool) (k : Nat) (N : List Bool) : Prop where
  len : N.length = L.length + 1
  at' : ∀ m, m ≤ L.length → (N.getD m false = true ↔ ∃ j, j < k ∧ M.getD j false = true ∧ stepM w L j m)
theorem NextI.zero (w : WordT) (L : List (List Nat)) (M : List Bool) : NextI w L M 0 (List.replicate (L.length + 1) false) := by
  refine ⟨by simp, fun m hm => ?_⟩
  simp [List.getD, List.getElem?_replicate]
  split <;> simp
theorem NextI.skip {w : WordT} {L : List (List Nat)} {M N : List Bool} {k : Nat} (h : NextI w L M k N) (hk : M.getD k false = false ∨ ∀ m, m ≤ L.length → ¬ stepM w L k m) : NextI w L M (k + 1) N := by
  refine ⟨h.len, fun m hm => (h.at' m hm).trans ?_⟩
  constructor
  · rintro ⟨j, h1, h2, h3⟩; exact ⟨j, by omega, h2, h3⟩
  · rintro ⟨j, h1, h2, h3⟩
    by_cases e : j = k
    · subst e
      rcases hk with hk | hk
      · rw [hk] at h2; simp at h2
      · exact absurd h3 (hk m hm)
    · exact ⟨j, by omega, h2, h3⟩
theorem getD_setB (N : List Bool) (a m : Nat) (ha : a < N.length) : (N.set a true).getD m false = (N.getD m false || decide (m = a)) := by
  simp only [List.getD, List.getElem?_set]
  by_cases e : a = m
  · subst e; simp [ha]
  · have : ¬ m = a := fun h => e h.symm
    simp [e, this]
theorem NextI.one {w : WordT} {L : List (List Nat)} {M N : List Bool} {k : Nat} (h : NextI w L M k N) (hk : k < L.length) (hM : M.getD k false = true) (hm : w.many = false) (hf : fitsW w L[k] = true) : NextI w L M (k + 1) (N.set (k + 1) true) := by
  refine ⟨by rw [List.length_set]; exact h.len, fun m hml => ?_⟩
  rw [getD_setB _ _ _ (by rw [h.len]; omega), Bool.or_eq_true, h.at' m hml, decide_eq_true_eq]
  constructor
  · rintro (⟨j, h1, h2, h3⟩ | e)
    · exact ⟨j, by omega, h2, h3⟩
    · exact ⟨k, by omega, hM, by unfold stepM; rw [if_neg (by rw [hm]; simp)]; exact ⟨e, hk, hf⟩⟩
  · rintro ⟨j, h1, h2, h3⟩
    by_cases e : j = k
    · subst e
      unfold stepM at h3
      rw [if_neg (by rw [hm]; simp)] at h3
      exact .inr h3.1
    · exact .inl ⟨j, by omega, h2, h3⟩
structure StarI (L : List (List Nat)) (N0 : List Bool) (k j : Nat) (N : List Bool) : Prop where
  len : N.length = L.length + 1
  at' : ∀ m, m ≤ L.length → (N.getD m false = true ↔ N0.getD m false = true ∨ (k ≤ m ∧ m < j))
theorem StarI.zero {L : List (List Nat)} {N0 : List Bool} {k : Nat} (h : N0.length = L.length + 1) : StarI L N0 k k N0 := ⟨h, fun m hm => ⟨.inl, fun h => by rcases h with h | h; exact h; omega⟩⟩
theorem StarI.next {L : List (List Nat)} {N0 N : List Bool} {k j : Nat} (h : StarI L N0 k j N) (hkj : k ≤ j) (hj : j ≤ L.length) : StarI L N0 k (j + 1) (N.set j true) := by
  refine ⟨by rw [List.length_set]; exact h.len, fun m hml => ?_⟩
  rw [getD_setB _ _ _ (by rw [h.len]; omega), Bool.or_eq_true, h.at' m hml, decide_eq_true_eq]
  constructor
  · rintro ((h | h) | h)
    · exact .inl h
    · exact .inr (by omega)
    · exact .inr (by omega)
  · rintro (h | h)
    · exact .inl (.inl h)
    · by_cases e : m = j
      · exact .inr e
      · exact .inl (.inr (by omega))
theorem NextI.star {w : WordT} {L : List (List Nat)} {M N N' : List Bool} {k : Nat} (h : NextI w L M k N) (hM : M.getD k false = true) (hm : w.many = true) (hs : StarI L N k (L.length + 1) N') : NextI w L M (k + 1) N' := by
  refine ⟨hs.len, fun m hml => ?_⟩
  rw [hs.at' m hml, h.at' m hml]
  constructor
  · rintro (⟨j, h1, h2, h3⟩ | e)
    · exact ⟨j, by omega, h2, h3⟩
    · exact ⟨k, by omega, hM, by unfold stepM; rw [if_pos hm]; exact e.1⟩
  · rintro ⟨j, h1, h2, h3⟩
    by_cases e : j = k
    · subst e
      unfold stepM at h3
      rw [if_pos hm] at h3
      exact .inr ⟨h3, by omega⟩
    · exact .inl ⟨j, by omega, h2, h3⟩
theorem MarkI.next {W : List WordT} {L : List (List Nat)} {M N : List Bool} {i : Nat} (hi : i < W.length) (h : MarkI W L i M) (hn : NextI W[i] L M (L.length + 1) N) : MarkI W L (i + 1) N := by
  refine ⟨hn.len, fun m hml => ?_⟩
  rw [hn.at' m hml, marks_step hi hml]
  constructor
  · rintro ⟨j, h1, h2, h3⟩; exact ⟨j, by omega, (h.at' j (by omega)).1 h2, h3⟩
  · rintro ⟨j, h1, h2, h3⟩; exact ⟨j, by omega, (h.at' j h1).2 h2, h3⟩
theorem MarkI.zero (W : List WordT) (L : List (List Nat)) : MarkI W L 0 (true :: List.replicate L.length false) := by
  refine ⟨by simp, fun m hm => ?_⟩
  rw [marks_zero W L m hm]
  cases m with
  | zero => simp
  | succ m => simp [List.getD, List.getElem?_replicate]; split <;> simp
theorem rmatch37_ctr (g : GP) (W : List WordT) (L : List (List Nat)) (bw : Bool) (hW : W.length < 2 ^ 40) (hL : L.length < 2 ^ 40) (hh : ∀ w ∈ W, w.has.length < 2 ^ 62) (hge : ∀ w ∈ W, -1 ≤ w.sw ∧ -1 ≤ w.pt) (hq : ∀ q ∈ L, OkK q) (r : Bool) (hr : r = true ↔ GlobW W L) :
    Ctr (ax g).E 24 [.d (.sl false 5 (W.map rowWd)), .d (.sl bw 8 (L.map rowU))] [] (fun o => o = .ret (.bool r) []) := by
  have hWm : (W.map rowWd).length = W.length := List.length_map _
  have hLm : (L.map rowU).length = L.length := List.length_map _
  have hw1 : IntKind.i64.wrap (((L.map rowU).length : Int) + 1) = ((L.length + 1 : Nat) : Int) := by rw [hLm]; exact i64_succ (by omega)
  have hrep : (List.replicate ((((L.length + 1 : Nat) : Int)).toNat) (rowBo false)) = (List.replicate (L.length + 1) false).map rowBo := by rw [List.map_replicate, Int.toNat_natCast]
  have hg : ∀ (N : List Bool) (a : Nat), a < N.length → List.set (N.map rowBo) (0 + ((a : Nat) : Int).toNat) (splice (List.getD (N.map rowBo) (0 + ((a : Nat) : Int).toNat) []) [D.v (.bool true)] 0) = (N.set a true).map rowBo := fun N a ha => by
    rw [getD_map0 rowBo N a [] ha, List.map_set, show 0 + ((a : Nat) : Int).toNat = a from by omega]; rfl
  refine Ctr.body (X := ax g) _ 77 [] [.tmp 4] Tryz.func24 rfl rfl rfl rfl (by decide +kernel) rfl rfl ?_
  conv => whnf
  repeat' (first | (refine And.intro (by first | exact rfl | decide | exact Nat.le_of_ble_eq_true rfl | exact ⟨_, rfl⟩ | exact ⟨_, _, rfl⟩ | exact Nat.le_refl _ | exact Int.le_refl _ | omega | (simp only [List.length_map]; omega) | exact True.intro | (simp only [IntKind.wrap_i64, List.length_map]; omega) | (simp only [List.map_cons, List.map_nil]; omega) | (simp only []; omega) | exact ⟨⟨_, _, rfl, rfl, Nat.le_of_ble_eq_true rfl⟩, trivial⟩ | exact ⟨⟨_, _, rfl, rfl, Nat.le_of_ble_eq_true rfl⟩, ⟨_, _, rfl, rfl, Nat.le_of_ble_eq_true rfl⟩, trivial⟩ | exact ⟨⟨_, _, rfl, rfl, Nat.le_of_ble_eq_true rfl⟩, ⟨_, _, rfl, rfl, Nat.le_of_ble_eq_true rfl⟩, ⟨_, _, rfl, rfl, Nat.le_of_ble_eq_true rfl⟩, trivial⟩) ?_; conv => whnf) | (refine ifB_intro (fun hA => ?_) (fun hA => ?_) <;> (try rw [hA]) <;> (conv => whnf) <;> (first | replace hA := of_decide_eq_true hA | replace hA := of_decide_eq_false hA | replace hA := eq_of_beq hA | replace hA := ne_of_beq_false hA | replace hA := bne_iff_ne.1 hA | replace hA := bne_eq_false_iff_eq.1 hA | skip) <;> (try simp only [List.length_map, cond_true, cond_false, Bool.not_eq_true', Bool.not_eq_false', beq_iff_eq, beq_eq_false_iff_ne, ne_eq] at hA)) | (rw [hw1]; conv => whnf) | (refine And.intro (List.length_replicate ..).symm ?_; conv => whnf) | (rw [getD_map _ _ _ _ (by assumption)]; conv => whnf))
  refine LoopP.frz 5 13 (L.length + 1) 0 (L.length + 1) 1 4 ((true :: List.replicate L.length false).map rowBo) rfl rfl ?_ (by simp) (by omega) ?_
  · have h0 := hg (List.replicate (L.length + 1) false) 0 (by simp)
    rw [List.map_replicate] at h0
    exact congrArg (fun z => some (AObj.buf 1 4 z)) h0
  refine LoopP.invS (X := ax g) (fun z : Nat × List Bool => { f := [(0, .d (.sl false 5 (W.map rowWd))), (1, .d (.sl bw 8 (L.map rowU))), (5, .d (.sl false 1 (z.2.map rowBo))), (6, .i64 z.1)], h := [] }) (fun z => z.1 ≤ W.length ∧ MarkI W L z.1 z.2) (fun z => W.length - z.1) (0, true :: List.replicate L.length false) ⟨Nat.zero_le _, .zero W L⟩ (St.Le.sub ⟨⟨rfl, rfl, ?_, rfl, trivial⟩, trivial⟩) fun ⟨i, M⟩ ⟨hi, hM⟩ => ?_
  · exact congrArg (fun z => AV.d (.sl false 1 z)) (show List.take (L.length + 1) (List.drop 0 ((true :: List.replicate L.length false).map rowBo)) = (true :: List.replicate L.length false).map rowBo from by rw [List.drop_zero, List.take_of_length_le (by simp)])
  dsimp only at hi hM ⊢
  have hMm : (M.map rowBo).length = M.length := List.length_map _
  have hMl := hM.len
  conv => whnf
  refine ifB_intro (fun h => ?_) (fun h => ?_)
  · have h : i < W.length := by have h0 := of_decide_eq_true h; rw [hWm] at h0; omega
    have hnx := fun N => MarkI.next (N := N) h hM
    have hgei := hge W[i] (List.getElem_mem h)
    have hhi := hh W[i] (List.getElem_mem h)
    generalize hwi : W[i] = w at *
    obtain ⟨wm, wn, wsw, wpt, wh⟩ := w
    dsimp only at hgei hhi
    conv => whnf
    repeat' (first | (refine And.intro (by first | exact rfl | decide | exact Nat.le_of_ble_eq_true rfl | exact ⟨_, rfl⟩ | exact ⟨_, _, rfl⟩ | exact Nat.le_refl _ | exact Int.le_refl _ | omega | (simp only [List.length_map]; omega) | exact True.intro | (simp only [IntKind.wrap_i64, List.length_map]; omega) | (simp only [List.map_cons, List.map_nil, List.length_cons, Option.getD]; omega) | (simp only [bsz, ByteArray.size_append, List.size_toArray, List.length_cons, List.length_nil]; omega) | exact ⟨⟨_, _, rfl, rfl, Nat.le_of_ble_eq_true rfl⟩, trivial⟩ | exact ⟨⟨_, _, rfl, rfl, Nat.le_of_ble_eq_true rfl⟩, ⟨_, _, rfl, rfl, Nat.le_of_ble_eq_true rfl⟩, trivial⟩ | exact ⟨⟨_, _, rfl, rfl, Nat.le_of_ble_eq_true rfl⟩, ⟨_, _, rfl, rfl, Nat.le_of_ble_eq_true rfl⟩, ⟨_, _, rfl, rfl, Nat.le_of_ble_eq_true rfl⟩, trivial⟩) ?_; conv => whnf) | (refine ifB_intro (fun hA => ?_) (fun hA => ?_) <;> (try rw [hA]) <;> (conv => whnf) <;> (first | replace hA := of_decide_eq_true hA | replace hA := of_decide_eq_false hA | replace hA := eq_of_beq hA | replace hA := ne_of_beq_false hA | replace hA := bne_iff_ne.1 hA | replace hA := bne_eq_false_iff_eq.1 hA | skip) <;> (try simp only [List.length_map, cond_true, cond_false, Bool.not_eq_true', Bool.not_eq_false', beq_iff_eq, beq_eq_false_iff_ne, ne_eq] at hA)) | (rw [hw1]; conv => whnf) | (rw [getD_map _ _ _ _ (by assumption)]; conv => whnf))
    refine LoopP.inv (X := ax g) (fun z : Nat × List Bool => { f := [(0, .d (.sl false 5 (W.map rowWd))), (1, .d (.sl bw 8 (L.map rowU))), (5, .d (.sl false 1 (M.map rowBo))), (6, .i64 i), (7, .msl 25 (L.length + 1) 0 (L.length + 1)), (8, .i64 z.1)], h := [(25, some (.buf 1 4 (z.2.map rowBo)))] }) (fun z => z.1 ≤ L.length + 1 ∧ NextI ⟨wm, wn, wsw, wpt, wh⟩ L M z.1 z.2) (fun z => L.length + 1 - z.1) (0, List.replicate (L.length + 1) false) ⟨Nat.zero_le _, .zero _ L M⟩ ⟨⟨rfl, rfl, rfl, rfl, rfl, rfl, trivial⟩, ⟨fun o h => by rw [← h, List.map_replicate]; rfl, trivial⟩⟩ fun ⟨k, N⟩ ⟨hk, hN⟩ => ?_
    dsimp only at hk hN ⊢
    have hNm : (N.map rowBo).length = L.length + 1 := by rw [List.length_map]; exact hN.len
    conv => whnf
    refine ifB_intro (fun h2 => ?_) (fun h2 => ?_)
    · have h2 : k ≤ L.length := by have h0 := of_decide_eq_true h2; rw [hLm] at h0; omega
      have hkM : k < M.length := by omega
      have hgd : M.getD k false = M[k] := by simp [List.getD, hkM]
      cases hMk : M[k] with
      | false =>
        rw [hMk] at hgd
        conv => whnf
        repeat' (first | (refine And.intro (by first | exact rfl | decide | exact Nat.le_of_ble_eq_true rfl | exact ⟨_, rfl⟩ | exact ⟨_, _, rfl⟩ | exact Nat.le_refl _ | exact Int.le_refl _ | omega | (simp only []; omega) | exact True.intro | (simp only []; omega) | (simp only []; omega) | (simp only []; omega) | exact ⟨⟨_, _, rfl, rfl, Nat.le_of_ble_eq_true rfl⟩, trivial⟩ | exact ⟨⟨_, _, rfl, rfl, Nat.le_of_ble_eq_true rfl⟩, ⟨_, _, rfl, rfl, Nat.le_of_ble_eq_true rfl⟩, trivial⟩ | exact ⟨⟨_, _, rfl, rfl, Nat.le_of_ble_eq_true rfl⟩, ⟨_, _, rfl, rfl, Nat.le_of_ble_eq_true rfl⟩, ⟨_, _, rfl, rfl, Nat.le_of_ble_eq_true rfl⟩, trivial⟩) ?_; conv => whnf) | (refine ifB_intro (fun hA => ?_) (fun hA => ?_) <;> (try rw [hA]) <;> (conv => whnf) <;> (first | replace hA := of_decide_eq_true hA | replace hA := of_decide_eq_false hA | replace hA := eq_of_beq hA | replace hA := ne_of_beq_false hA | replace hA := bne_iff_ne.1 hA | replace hA := bne_eq_false_iff_eq.1 hA | skip) <;> (try simp only [List.length_map, cond_true, cond_false, Bool.not_eq_true', Bool.not_eq_false', beq_iff_eq, beq_eq_false_iff_ne, ne_eq] at hA)) | (erw [getD_map rowBo M k [] hkM, hMk]; conv => whnf) | (rw [getD_map _ _ _ _ (by assumption)]; conv => whnf))
        exact ⟨(k + 1, N), ⟨by show k + 1 ≤ _; omega, hN.skip (.inl hgd)⟩, by show _ - (k + 1) < _ - k; omega, ⟨⟨rfl, rfl, rfl, rfl, rfl, AV.int_eq (i64_succ (by omega)), trivial⟩, ⟨fun o h => h, trivial⟩⟩⟩
      | true =>
        rw [hMk] at hgd
        cases wm with
        | true =>
          conv => whnf
          repeat' (first | (refine And.intro (by first | exact rfl | decide | exact Nat.le_of_ble_eq_true rfl | exact ⟨_, rfl⟩ | exact ⟨_, _, rfl⟩ | exact Nat.le_refl _ | exact Int.le_refl _ | omega | (simp only []; omega) | exact True.intro | (simp only []; omega) | (simp only []; omega) | (simp only []; omega) | exact ⟨⟨_, _, rfl, rfl, Nat.le_of_ble_eq_true rfl⟩, trivial⟩ | exact ⟨⟨_, _, rfl, rfl, Nat.le_of_ble_eq_true rfl⟩, ⟨_, _, rfl, rfl, Nat.le_of_ble_eq_true rfl⟩, trivial⟩ | exact ⟨⟨_, _, rfl, rfl, Nat.le_of_ble_eq_true rfl⟩, ⟨_, _, rfl, rfl, Nat.le_of_ble_eq_true rfl⟩, ⟨_, _, rfl, rfl, Nat.le_of_ble_eq_true rfl⟩, trivial⟩) ?_; conv => whnf) | (refine ifB_intro (fun hA => ?_) (fun hA => ?_) <;> (try rw [hA]) <;> (conv => whnf) <;> (first | replace hA := of_decide_eq_true hA | replace hA := of_decide_eq_false hA | replace hA := eq_of_beq hA | replace hA := ne_of_beq_false hA | replace hA := bne_iff_ne.1 hA | replace hA := bne_eq_false_iff_eq.1 hA | skip) <;> (try simp only [List.length_map, cond_true, cond_false, Bool.not_eq_true', Bool.not_eq_false', beq_iff_eq, beq_eq_false_iff_ne, ne_eq] at hA)) | (erw [getD_map rowBo M k [] hkM, hMk]; conv => whnf) | (erw [getD_map rowWd W i [] h, hwi]; conv => whnf) | (rw [getD_map _ _ _ _ (by assumption)]; conv => whnf))
          refine LoopP.inv (X := ax g) (fun z : Nat × List Bool => { f := [(0, .d (.sl false 5 (W.map rowWd))), (1, .d (.sl bw 8 (L.map rowU))), (5, .d (.sl false 1 (M.map rowBo))), (6, .i64 i), (7, .msl 25 (L.length + 1) 0 (L.length + 1)), (8, .i64 k), (9, .i64 z.1)], h := [(25, some (.buf 1 4 (z.2.map rowBo)))] }) (fun z => k ≤ z.1 ∧ z.1 ≤ L.length + 1 ∧ StarI L N k z.1 z.2) (fun z => L.length + 1 - z.1) (k, N) ⟨Nat.le_refl _, by show k ≤ _; omega, .zero hN.len⟩ ⟨⟨rfl, rfl, rfl, rfl, rfl, rfl, rfl, trivial⟩, ⟨fun o h => h, trivial⟩⟩ fun ⟨j, N'⟩ ⟨hkj, hj, hS⟩ => ?_
          dsimp only at hkj hj hS ⊢
          have hSm : (N'.map rowBo).length = L.length + 1 := by rw [List.length_map]; exact hS.len
          conv => whnf
          refine ifB_intro (fun h3 => ?_) (fun h3 => ?_)
          · have h3 : j ≤ L.length := by have h0 := of_decide_eq_true h3; rw [hLm] at h0; omega
            have hset := hg N' j (by rw [hS.len]; omega)
            conv => whnf
            repeat' (first | (refine And.intro (by first | exact rfl | decide | exact Nat.le_of_ble_eq_true rfl | exact ⟨_, rfl⟩ | exact ⟨_, _, rfl⟩ | exact Nat.le_refl _ | exact Int.le_refl _ | omega | (simp only [List.length_map]; omega) | exact True.intro | (simp only [IntKind.wrap_i64, List.length_map]; omega) | (simp only [List.map_cons, List.map_nil, List.length_cons, Option.getD]; omega) | (simp only [bsz, ByteArray.size_append, List.size_toArray, List.length_cons, List.length_nil]; omega) | exact ⟨⟨_, _, rfl, rfl, Nat.le_of_ble_eq_true rfl⟩, trivial⟩ | exact ⟨⟨_, _, rfl, rfl, Nat.le_of_ble_eq_true rfl⟩, ⟨_, _, rfl, rfl, Nat.le_of_ble_eq_true rfl⟩, trivial⟩ | exact ⟨⟨_, _, rfl, rfl, Nat.le_of_ble_eq_true rfl⟩, ⟨_, _, rfl, rfl, Nat.le_of_ble_eq_true rfl⟩, ⟨_, _, rfl, rfl, Nat.le_of_ble_eq_true rfl⟩, trivial⟩) ?_; conv => whnf) | (refine ifB_intro (fun hA => ?_) (fun hA => ?_) <;> (try rw [hA]) <;> (conv => whnf) <;> (first | replace hA := of_decide_eq_true hA | replace hA := of_decide_eq_false hA | replace hA := eq_of_beq hA | replace hA := ne_of_beq_false hA | replace hA := bne_iff_ne.1 hA | replace hA := bne_eq_false_iff_eq.1 hA | skip) <;> (try simp only [List.length_map, cond_true, cond_false, Bool.not_eq_true', Bool.not_eq_false', beq_iff_eq, beq_eq_false_iff_ne, ne_eq] at hA)) | (refine And.intro hSm.symm ?_; conv => whnf) | (rw [getD_map _ _ _ _ (by assumption)]; conv => whnf))
            exact ⟨(j + 1, N'.set j true), ⟨by show k ≤ j + 1; omega, by show j + 1 ≤ _; omega, hS.next hkj h3⟩, by show _ - (j + 1) < _ - j; omega, ⟨⟨rfl, rfl, rfl, rfl, rfl, rfl, AV.int_eq (i64_succ (by omega)), trivial⟩, ⟨fun o h => by rw [← h, ← hset]; rfl, trivial⟩⟩⟩
          · have h3 : j = L.length + 1 := by have h0 := of_decide_eq_false h3; rw [hLm] at h0; omega
            subst h3
            conv => whnf
            repeat' (first | (refine And.intro (by first | exact rfl | decide | exact Nat.le_of_ble_eq_true rfl | exact ⟨_, rfl⟩ | exact ⟨_, _, rfl⟩ | exact Nat.le_refl _ | exact Int.le_refl _ | omega | (simp only [List.length_map]; omega) | exact True.intro | (simp only [IntKind.wrap_i64, List.length_map]; omega) | (simp only [List.map_cons, List.map_nil, List.length_cons, Option.getD]; omega) | (simp only [bsz, ByteArray.size_append, List.size_toArray, List.length_cons, List.length_nil]; omega) | exact ⟨⟨_, _, rfl, rfl, Nat.le_of_ble_eq_true rfl⟩, trivial⟩ | exact ⟨⟨_, _, rfl, rfl, Nat.le_of_ble_eq_true rfl⟩, ⟨_, _, rfl, rfl, Nat.le_of_ble_eq_true rfl⟩, trivial⟩ | exact ⟨⟨_, _, rfl, rfl, Nat.le_of_ble_eq_true rfl⟩, ⟨_, _, rfl, rfl, Nat.le_of_ble_eq_true rfl⟩, ⟨_, _, rfl, rfl, Nat.le_of_ble_eq_true rfl⟩, trivial⟩) ?_; conv => whnf) | (refine ifB_intro (fun hA => ?_) (fun hA => ?_) <;> (try rw [hA]) <;> (conv => whnf) <;> (first | replace hA := of_decide_eq_true hA | replace hA := of_decide_eq_false hA | replace hA := eq_of_beq hA | replace hA := ne_of_beq_false hA | replace hA := bne_iff_ne.1 hA | replace hA := bne_eq_false_iff_eq.1 hA | skip) <;> (try simp only [List.length_map, cond_true, cond_false, Bool.not_eq_true', Bool.not_eq_false', beq_iff_eq, beq_eq_false_iff_ne, ne_eq] at hA)) | (rw [getD_map _ _ _ _ (by assumption)]; conv => whnf))
            exact ⟨(k + 1, N'), ⟨by show k + 1 ≤ _; omega, hN.star hgd rfl hS⟩, by show _ - (k + 1) < _ - k; omega, ⟨⟨rfl, rfl, rfl, rfl, rfl, AV.int_eq (i64_succ (by omega)), trivial⟩, ⟨fun o h => h, trivial⟩⟩⟩
        | false =>
          by_cases hkL : k < L.length
          · have hokq := hq L[k] (by simp)
            have hf := ris37_ctr g ⟨false, wn, wsw, wpt, wh⟩ L[k] hokq.1 hhi hokq.2
            rw [isR_eq hgei.1 hgei.2] at hf
            have hw2 : IntKind.i64.wrap ((k : Int) + 1) = ((k + 1 : Nat) : Int) := i64_succ (by omega)
            have hset := hg N (k + 1) (by rw [hN.len]; omega)
            have sone := hN.one hkL hgd rfl
            have sskip : fitsW ⟨false, wn, wsw, wpt, wh⟩ L[k] = false → NextI ⟨false, wn, wsw, wpt, wh⟩ L M (k + 1) N := fun hf => hN.skip (.inr fun m _ hs => by
              unfold stepM at hs
              rw [if_neg (by simp)] at hs
              obtain ⟨_, _, h3⟩ := hs
              rw [hf] at h3; simp at h3)
            generalize hqk : L[k] = q at *
            obtain ⟨q0, q1, q2, q3, q4, q5, q6, q7, rfl⟩ := eight hokq.1
            generalize hfv : fitsW ⟨false, wn, wsw, wpt, wh⟩ [q0, q1, q2, q3, q4, q5, q6, q7] = fv at *
            conv => whnf
            repeat' (first | (refine And.intro (by first | exact rfl | decide | exact Nat.le_of_ble_eq_true rfl | exact ⟨_, rfl⟩ | exact ⟨_, _, rfl⟩ | exact Nat.le_refl _ | exact Int.le_refl _ | omega | (simp only []; omega) | exact True.intro | (simp only []; omega) | (simp only []; omega) | (simp only []; omega) | exact ⟨⟨_, _, rfl, rfl, Nat.le_of_ble_eq_true rfl⟩, trivial⟩ | exact ⟨⟨_, _, rfl, rfl, Nat.le_of_ble_eq_true rfl⟩, ⟨_, _, rfl, rfl, Nat.le_of_ble_eq_true rfl⟩, trivial⟩ | exact ⟨⟨_, _, rfl, rfl, Nat.le_of_ble_eq_true rfl⟩, ⟨_, _, rfl, rfl, Nat.le_of_ble_eq_true rfl⟩, ⟨_, _, rfl, rfl, Nat.le_of_ble_eq_true rfl⟩, trivial⟩) ?_; conv => whnf) | (refine ifB_intro (fun hA => ?_) (fun hA => ?_) <;> (try rw [hA]) <;> (conv => whnf) <;> (first | replace hA := of_decide_eq_true hA | replace hA := of_decide_eq_false hA | replace hA := eq_of_beq hA | replace hA := ne_of_beq_false hA | replace hA := bne_iff_ne.1 hA | replace hA := bne_eq_false_iff_eq.1 hA | skip) <;> (try simp only [List.length_map, cond_true] at hA)) | (erw [getD_map rowBo M k [] hkM, hMk]; conv => whnf) | (refine DrawP.intro (X := ax g) (id := 16) B24_16 (by kernel_rfl) (by decide +kernel) ?_; conv => whnf) | (erw [getD_map rowWd W i [] h, hwi]; conv => whnf) | (exfalso; omega) | (erw [getD_map rowU L k [] hkL, hqk]; conv => whnf) | (refine CallP.det (hf) ?_; conv => whnf) | (refine CallD.det (hf) ?_; conv => whnf) | (rw [hw2]; conv => whnf) | (refine And.intro hNm.symm ?_; conv => whnf) | (rw [getD_map _ _ _ _ (by assumption)]; conv => whnf))
            · exact ⟨(k + 1, N.set (k + 1) true), ⟨by show k + 1 ≤ _; omega, sone (by assumption)⟩, by show _ - (k + 1) < _ - k; omega, ⟨⟨rfl, rfl, rfl, rfl, rfl, by first | exact rfl | exact AV.int_eq (i64_succ (by omega)), trivial⟩, ⟨fun o h => by rw [← h, ← hset]; rfl, trivial⟩⟩⟩
            · exact ⟨(k + 1, N), ⟨by show k + 1 ≤ _; omega, sskip (by assumption)⟩, by show _ - (k + 1) < _ - k; omega, ⟨⟨rfl, rfl, rfl, rfl, rfl, by first | exact rfl | exact AV.int_eq (i64_succ (by omega)), trivial⟩, ⟨fun o h => h, trivial⟩⟩⟩
          · have sskip : NextI ⟨false, wn, wsw, wpt, wh⟩ L M (k + 1) N := hN.skip (.inr fun m _ hs => by
              unfold stepM at hs
              rw [if_neg (by simp)] at hs
              obtain ⟨_, h3, _⟩ := hs
              exact hkL h3)
            conv => whnf
            repeat' (first | (refine And.intro (by first | exact rfl | decide | exact Nat.le_of_ble_eq_true rfl | exact ⟨_, rfl⟩ | exact ⟨_, _, rfl⟩ | exact Nat.le_refl _ | exact Int.le_refl _ | omega | (simp only []; omega) | exact True.intro | (simp only []; omega) | (simp only []; omega) | (simp only []; omega) | exact ⟨⟨_, _, rfl, rfl, Nat.le_of_ble_eq_true rfl⟩, trivial⟩ | exact ⟨⟨_, _, rfl, rfl, Nat.le_of_ble_eq_true rfl⟩, ⟨_, _, rfl, rfl, Nat.le_of_ble_eq_true rfl⟩, trivial⟩ | exact ⟨⟨_, _, rfl, rfl, Nat.le_of_ble_eq_true rfl⟩, ⟨_, _, rfl, rfl, Nat.le_of_ble_eq_true rfl⟩, ⟨_, _, rfl, rfl, Nat.le_of_ble_eq_true rfl⟩, trivial⟩) ?_; conv => whnf) | (refine ifB_intro (fun hA => ?_) (fun hA => ?_) <;> (try rw [hA]) <;> (conv => whnf) <;> (first | replace hA := of_decide_eq_true hA | replace hA := of_decide_eq_false hA | replace hA := eq_of_beq hA | replace hA := ne_of_beq_false hA | replace hA := bne_iff_ne.1 hA | replace hA := bne_eq_false_iff_eq.1 hA | skip) <;> (try simp only [List.length_map] at hA)) | (erw [getD_map rowBo M k [] hkM, hMk]; conv => whnf) | (refine DrawP.intro (X := ax g) (id := 16) B24_16 (by kernel_rfl) (by decide +kernel) ?_; conv => whnf) | (erw [getD_map rowWd W i [] h, hwi]; conv => whnf) | (exfalso; omega) | (rw [getD_map _ _ _ _ (by assumption)]; conv => whnf))
            exact ⟨(k + 1, N), ⟨by show k + 1 ≤ _; omega, sskip⟩, by show _ - (k + 1) < _ - k; omega, ⟨⟨rfl, rfl, rfl, rfl, rfl, AV.int_eq (i64_succ (by omega)), trivial⟩, ⟨fun o h => h, trivial⟩⟩⟩
    · have h2 : k = L.length + 1 := by have h0 := of_decide_eq_false h2; rw [hLm] at h0; omega
      subst h2
      conv => whnf
      repeat' (first | (refine And.intro (by first | exact rfl | decide | exact Nat.le_of_ble_eq_true rfl | exact ⟨_, rfl⟩ | exact ⟨_, _, rfl⟩ | exact Nat.le_refl _ | exact Int.le_refl _ | omega | (simp only [List.length_map]; omega) | exact True.intro | (simp only [IntKind.wrap_i64, List.length_map]; omega) | (simp only [List.map_cons, List.map_nil, List.length_cons, Option.getD]; omega) | (simp only [bsz, ByteArray.size_append, List.size_toArray, List.length_cons, List.length_nil]; omega) | exact ⟨⟨_, _, rfl, rfl, Nat.le_of_ble_eq_true rfl⟩, trivial⟩ | exact ⟨⟨_, _, rfl, rfl, Nat.le_of_ble_eq_true rfl⟩, ⟨_, _, rfl, rfl, Nat.le_of_ble_eq_true rfl⟩, trivial⟩ | exact ⟨⟨_, _, rfl, rfl, Nat.le_of_ble_eq_true rfl⟩, ⟨_, _, rfl, rfl, Nat.le_of_ble_eq_true rfl⟩, ⟨_, _, rfl, rfl, Nat.le_of_ble_eq_true rfl⟩, trivial⟩) ?_; conv => whnf) | (refine ifB_intro (fun hA => ?_) (fun hA => ?_) <;> (try rw [hA]) <;> (conv => whnf) <;> (first | replace hA := of_decide_eq_true hA | replace hA := of_decide_eq_false hA | replace hA := eq_of_beq hA | replace hA := ne_of_beq_false hA | replace hA := bne_iff_ne.1 hA | replace hA := bne_eq_false_iff_eq.1 hA | skip) <;> (try simp only [List.length_map, cond_true, cond_false, Bool.not_eq_true', Bool.not_eq_false', beq_iff_eq, beq_eq_false_iff_ne, ne_eq] at hA)) | (rw [getD_map _ _ _ _ (by assumption)]; conv => whnf))
      refine ⟨(i + 1, N), ⟨by show i + 1 ≤ _; omega, hnx N hN⟩, by show _ - (i + 1) < _ - i; omega, Sub.trans ?_ (Sub.frz 5 25 (L.length + 1) 0 (L.length + 1) 1 4 (N.map rowBo) rfl rfl rfl hNm.symm (by omega))⟩
      refine St.Le.sub ⟨⟨rfl, rfl, ?_, AV.int_eq (i64_succ (by omega)), trivial⟩, trivial⟩
      exact congrArg (fun z => AV.d (.sl false 1 z)) (show N.map rowBo = ((N.map rowBo).drop 0).take (L.length + 1) from by rw [List.drop_zero, List.take_of_length_le (by omega)]).symm
  · have h : i = W.length := by have h0 := of_decide_eq_false h; rw [hWm] at h0; omega
    subst h
    have hkM : L.length < M.length := by omega
    have hgd : M.getD L.length false = M[L.length] := by simp [List.getD, hkM]
    have hfin := (hM.at' L.length (Nat.le_refl _)).trans (marks_all W L)
    rw [hgd] at hfin
    have hrM : M[L.length] = r := by
      cases hb : M[L.length] <;> cases hr2 : r
      · rfl
      · rw [hb] at hfin; exact absurd (hfin.2 (hr.1 hr2)) (by simp)
      · rw [hb] at hfin; rw [hr2] at hr; exact absurd (hr.2 (hfin.1 rfl)) (by simp)
      · rfl
    conv => whnf
    repeat' (first | (refine And.intro (by first | exact rfl | decide | exact Nat.le_of_ble_eq_true rfl | exact ⟨_, rfl⟩ | exact ⟨_, _, rfl⟩ | exact Nat.le_refl _ | exact Int.le_refl _ | omega | (simp only [List.length_map]; omega) | exact True.intro | (simp only [List.length_map]; omega) | (simp only []; omega) | (simp only []; omega) | exact ⟨⟨_, _, rfl, rfl, Nat.le_of_ble_eq_true rfl⟩, trivial⟩ | exact ⟨⟨_, _, rfl, rfl, Nat.le_of_ble_eq_true rfl⟩, ⟨_, _, rfl, rfl, Nat.le_of_ble_eq_true rfl⟩, trivial⟩ | exact ⟨⟨_, _, rfl, rfl, Nat.le_of_ble_eq_true rfl⟩, ⟨_, _, rfl, rfl, Nat.le_of_ble_eq_true rfl⟩, ⟨_, _, rfl, rfl, Nat.le_of_ble_eq_true rfl⟩, trivial⟩) ?_; conv => whnf) | (refine ifB_intro (fun hA => ?_) (fun hA => ?_) <;> (try rw [hA]) <;> (conv => whnf) <;> (first | replace hA := of_decide_eq_true hA | replace hA := of_decide_eq_false hA | replace hA := eq_of_beq hA | replace hA := ne_of_beq_false hA | replace hA := bne_iff_ne.1 hA | replace hA := bne_eq_false_iff_eq.1 hA | skip) <;> (try simp only [List.length_map, cond_true, cond_false, Bool.not_eq_true', Bool.not_eq_false', beq_iff_eq, beq_eq_false_iff_ne, ne_eq] at hA)) | (rw [hLm]; conv => whnf) | (erw [getD_map rowBo M L.length [] hkM, hrM]; conv => whnf) | (rw [getD_map _ _ _ _ (by assumption)]; conv => whnf))
    refine ⟨⟨[], ?_⟩⟩
    conv => whnf
    first | done | rfl
end Go.Ax

namespace Go.Ax
open Go.Proofs Go.RowKit Go.Shelf Go.Lib
set_option maxRecDepth 10000
theorem rof37_ctr (g : GP) (b : Bool) (L : List (List Nat)) (ok : ∀ q ∈ L, OkK q) (hL : L.length ≤ 2 ^ 20) : Ctr (ax g).E 21 [.d (.sl b 8 (L.map rowU))] [] (fun o => o = .ret (.str (baL (ofL L))) []) := by
  have hLm : (L.map rowU).length = L.length := List.length_map _
  refine Ctr.body (X := ax g) _ 34 [] [.tmp 2] Tryz.func21 rfl rfl rfl rfl (by decide +kernel) rfl rfl ?_
  conv => whnf
  refine LoopP.inv (X := ax g) (fun i : Nat => { f := [(0, .d (.sl b 8 (L.map rowU))), (3, .str (baL (ofL (L.take i)))), (4, .i64 i)], h := [] }) (fun i => i ≤ L.length) (fun i => L.length - i) 0 (Nat.zero_le _) ⟨⟨rfl, rfl, rfl, trivial⟩, trivial⟩ fun i hi => ?_
  conv => whnf
  refine ifB_intro (fun h => ?_) (fun h => ?_)
  · have h : i < L.length := by have h0 := of_decide_eq_true h; rw [hLm] at h0; omega
    have hok := ok L[i] (by simp)
    have hpl := ofL_len (L := L.take i) fun q hq => ok q (List.mem_of_mem_take hq)
    rw [List.length_take] at hpl
    have hps := ba_size (ofL (L.take i))
    have ht := ofL_take L i h
    generalize hqi : L[i] = q at *
    have b0 := hok.2 0 (by omega)
    have b1 := hok.2 1 (by omega)
    have w0 : IntKind.i64.wrap ((q.getD 0 0 : Nat) : Int) = ((q.getD 0 0 : Nat) : Int) := i64_wrap (by omega) (by omega)
    have w1 : IntKind.i64.wrap ((q.getD 1 0 : Nat) : Int) = ((q.getD 1 0 : Nat) : Int) := i64_wrap (by omega) (by omega)
    have d0 := dec_len 4 (q.getD 0 0) (by omega)
    have d1 := dec_len 4 (q.getD 1 0) (by omega)
    have c0 := digits_ctr g (q.getD 0 0) (by omega)
    have c1 := digits_ctr g (q.getD 1 0) (by omega)
    have z0 : (digB (q.getD 0 0)).size ≤ 5 := d0
    have z1 : (digB (q.getD 1 0)).size ≤ 5 := d1
    have hw : baL (wordQ q) = (digB (q.getD 0 0) ++ ⟨#[58]⟩) ++ digB (q.getD 1 0) := by
      apply ByteArray.ext; simp [baL, wordQ, digB, ByteArray.data_append]
    have hS : i = 0 → ofL (L.take i) = [] := fun e => by rw [e]; rfl
    generalize ofL (L.take i) = S at *
    generalize hn0 : q.getD 0 0 = n0 at *
    generalize hn1 : q.getD 1 0 = n1 at *
    obtain ⟨q0, q1, q2, q3, q4, q5, q6, q7, rfl⟩ := eight hok.1
    have e0 : q0 = n0 := hn0
    have e1 : q1 = n1 := hn1
    subst e0; subst e1
    by_cases h0 : i = 0
    · rw [if_pos h0] at ht
      conv => whnf
      repeat' (first | (refine And.intro (by first | exact rfl | decide | exact Nat.le_of_ble_eq_true rfl | exact ⟨_, rfl⟩ | exact ⟨_, _, rfl⟩ | exact Nat.le_refl _ | exact Int.le_refl _ | omega | (simp only []; omega) | exact True.intro | (simp only []; omega) | (simp only []; omega) | (simp only [bsz, ByteArray.size_append, List.size_toArray, List.length_cons, List.length_nil]; omega) | exact ⟨⟨_, _, rfl, rfl, Nat.le_of_ble_eq_true rfl⟩, trivial⟩ | exact ⟨⟨_, _, rfl, rfl, Nat.le_of_ble_eq_true rfl⟩, ⟨_, _, rfl, rfl, Nat.le_of_ble_eq_true rfl⟩, trivial⟩ | exact ⟨⟨_, _, rfl, rfl, Nat.le_of_ble_eq_true rfl⟩, ⟨_, _, rfl, rfl, Nat.le_of_ble_eq_true rfl⟩, ⟨_, _, rfl, rfl, Nat.le_of_ble_eq_true rfl⟩, trivial⟩) ?_; conv => whnf) | (refine ifB_intro (fun hA => ?_) (fun hA => ?_) <;> (try rw [hA]) <;> (conv => whnf) <;> (first | replace hA := of_decide_eq_true hA | replace hA := of_decide_eq_false hA | replace hA := eq_of_beq hA | replace hA := ne_of_beq_false hA | replace hA := bne_iff_ne.1 hA | replace hA := bne_eq_false_iff_eq.1 hA | skip) <;> (try simp only [List.length_map, cond_true, cond_false, Bool.not_eq_true', Bool.not_eq_false', beq_iff_eq, beq_eq_false_iff_ne, ne_eq] at hA)) | (exfalso; omega) | (refine DrawP.intro (X := ax g) (id := 7) B21_7 (by kernel_rfl) (by decide +kernel) ?_; conv => whnf) | (erw [getD_map rowU L i [] h, hqi]; conv => whnf) | (rw [w0]; conv => whnf) | (rw [w1]; conv => whnf) | (refine CallP.det (c0) ?_; conv => whnf) | (refine CallD.det (c0) ?_; conv => whnf) | (refine CallP.det (c1) ?_; conv => whnf) | (refine CallD.det (c1) ?_; conv => whnf) | (rw [getD_map _ _ _ _ (by assumption)]; conv => whnf))
      refine ⟨i + 1, by omega, by omega, ⟨⟨rfl, ?_, AV.int_eq (i64_succ (by omega)), trivial⟩, trivial⟩⟩
      rw [ht, hw, hS h0]
      show AV.str (((baL [] ++ digB q0) ++ ⟨#[58]⟩) ++ digB q1) = AV.str _
      refine congrArg AV.str ?_
      apply ByteArray.ext; simp [baL, ByteArray.data_append]
    · rw [if_neg h0] at ht
      conv => whnf
      repeat' (first | (refine And.intro (by first | exact rfl | decide | exact Nat.le_of_ble_eq_true rfl | exact ⟨_, rfl⟩ | exact ⟨_, _, rfl⟩ | exact Nat.le_refl _ | exact Int.le_refl _ | omega | (simp only []; omega) | exact True.intro | (simp only []; omega) | (simp only []; omega) | (simp only [bsz, ByteArray.size_append, List.size_toArray, List.length_cons, List.length_nil]; omega) | exact ⟨⟨_, _, rfl, rfl, Nat.le_of_ble_eq_true rfl⟩, trivial⟩ | exact ⟨⟨_, _, rfl, rfl, Nat.le_of_ble_eq_true rfl⟩, ⟨_, _, rfl, rfl, Nat.le_of_ble_eq_true rfl⟩, trivial⟩ | exact ⟨⟨_, _, rfl, rfl, Nat.le_of_ble_eq_true rfl⟩, ⟨_, _, rfl, rfl, Nat.le_of_ble_eq_true rfl⟩, ⟨_, _, rfl, rfl, Nat.le_of_ble_eq_true rfl⟩, trivial⟩) ?_; conv => whnf) | (refine ifB_intro (fun hA => ?_) (fun hA => ?_) <;> (try rw [hA]) <;> (conv => whnf) <;> (first | replace hA := of_decide_eq_true hA | replace hA := of_decide_eq_false hA | replace hA := eq_of_beq hA | replace hA := ne_of_beq_false hA | replace hA := bne_iff_ne.1 hA | replace hA := bne_eq_false_iff_eq.1 hA | skip) <;> (try simp only [List.length_map, cond_true, cond_false, Bool.not_eq_true', Bool.not_eq_false', beq_iff_eq, beq_eq_false_iff_ne, ne_eq] at hA)) | (exfalso; omega) | (refine DrawP.intro (X := ax g) (id := 7) B21_7 (by kernel_rfl) (by decide +kernel) ?_; conv => whnf) | (erw [getD_map rowU L i [] h, hqi]; conv => whnf) | (rw [w0]; conv => whnf) | (rw [w1]; conv => whnf) | (refine CallP.det (c0) ?_; conv => whnf) | (refine CallD.det (c0) ?_; conv => whnf) | (refine CallP.det (c1) ?_; conv => whnf) | (refine CallD.det (c1) ?_; conv => whnf) | (rw [getD_map _ _ _ _ (by assumption)]; conv => whnf))
      refine ⟨i + 1, by omega, by omega, ⟨⟨rfl, ?_, AV.int_eq (i64_succ (by omega)), trivial⟩, trivial⟩⟩
      have e : baL (S ++ ([32] ++ wordQ [q0, q1, q2, q3, q4, q5, q6, q7])) = ((baL S ++ ⟨#[32]⟩) ++ baL (wordQ [q0, q1, q2, q3, q4, q5, q6, q7])) := by
        apply ByteArray.ext; simp [baL, ByteArray.data_append]
      rw [ht, e, hw]
      show AV.str ((((baL S ++ ⟨#[32]⟩) ++ digB q0) ++ ⟨#[58]⟩) ++ digB q1) = AV.str _
      refine congrArg AV.str ?_
      apply ByteArray.ext; simp [baL, ByteArray.data_append]
  · have h : i = L.length := by have h0 := of_decide_eq_false h; rw [hLm] at h0; omega
    subst h
    rw [List.take_length]
    conv => whnf
    refine ⟨⟨[], ?_⟩⟩
    conv => whnf
    first | done | rfl
theorem rreverse37_ctr (g : GP) (l : List UInt8) (hl : l.length < 2 ^ 30) : Ctr (ax g).E 25 [.str (baL l)] [] (fun o => o = .ret (.str (baL (turnL l))) []) := by
  have h1 := rtexts37_ctr g l (by omega)
  have hgl : glue (wordsL l) ≤ l.length + 1 := by have := glue_filter (fun x => !(x == [])) (splitL 32 l); rw [split_glue] at this; exact this
  unfold turnL
  generalize wordsL l = ws at *
  have hwm : (ws.map rowW).length = ws.length := List.length_map _
  have hfl : ∀ k, (flatS (ws.drop k).reverse).length ≤ l.length + 1 := fun k => by
    have e : (flatS (ws.drop k).reverse).length = glue (ws.drop k).reverse := by
      unfold flatS glue
      rw [List.length_flatMap]
      congr 1
      exact List.map_congr_left fun x _ => by simp
    rw [e, glue_rev]
    have : glue ws = glue (ws.take k) + glue (ws.drop k) := by rw [← glue_app, List.take_append_drop]
    omega
  have hlw : ∀ i (h : i < ws.length), ws[i].length ≤ l.length + 1 := fun i h => by
    have h2 := hfl i
    rw [flatS_step ws i h] at h2
    simp at h2; omega
  have hwl : ws.length ≤ l.length + 1 := by
    have : ∀ xs : List (List UInt8), xs.length ≤ glue xs := fun xs => by
      induction xs with
      | nil => simp [glue]
      | cons x r ih => rw [glue_cons]; simp; omega
    have := this ws; omega
  have hw1 : IntKind.i64.wrap (((ws.map rowW).length : Int) - 1) = (ws.length : Int) - 1 := by rw [hwm, IntKind.wrap_i64]; omega
  refine Ctr.body (X := ax g) _ 26 [] [.tmp 2] Tryz.func25 rfl rfl rfl rfl (by decide +kernel) rfl rfl ?_
  conv => whnf
  repeat' (first | (refine And.intro (by first | exact rfl | decide | exact Nat.le_of_ble_eq_true rfl | exact ⟨_, rfl⟩ | exact ⟨_, _, rfl⟩ | exact Nat.le_refl _ | exact Int.le_refl _ | omega | (simp only [List.length_map]; omega) | exact True.intro | (simp only [IntKind.wrap_i64, List.length_map]; omega) | (simp only [List.map_cons, List.map_nil, List.length_cons, Option.getD]; omega) | (simp only [bsz, ByteArray.size_append, List.size_toArray, List.length_cons, List.length_nil]; omega) | exact ⟨⟨_, _, rfl, rfl, Nat.le_of_ble_eq_true rfl⟩, trivial⟩ | exact ⟨⟨_, _, rfl, rfl, Nat.le_of_ble_eq_true rfl⟩, ⟨_, _, rfl, rfl, Nat.le_of_ble_eq_true rfl⟩, trivial⟩ | exact ⟨⟨_, _, rfl, rfl, Nat.le_of_ble_eq_true rfl⟩, ⟨_, _, rfl, rfl, Nat.le_of_ble_eq_true rfl⟩, ⟨_, _, rfl, rfl, Nat.le_of_ble_eq_true rfl⟩, trivial⟩) ?_; conv => whnf) | (refine ifB_intro (fun hA => ?_) (fun hA => ?_) <;> (try rw [hA]) <;> (conv => whnf) <;> (first | replace hA := of_decide_eq_true hA | replace hA := of_decide_eq_false hA | replace hA := eq_of_beq hA | replace hA := ne_of_beq_false hA | replace hA := bne_iff_ne.1 hA | replace hA := bne_eq_false_iff_eq.1 hA | skip) <;> (try simp only [List.length_map, cond_true, cond_false, Bool.not_eq_true', Bool.not_eq_false', beq_iff_eq, beq_eq_false_iff_ne, ne_eq] at hA)) | (refine CallP.det (h1) ?_; conv => whnf) | (refine CallD.det (h1) ?_; conv => whnf) | (rw [hw1]; conv => whnf) | (rw [getD_map _ _ _ _ (by assumption)]; conv => whnf))
  refine LoopP.inv (X := ax g) (fun k : Nat => { f := [(3, .d (.sl false 1 (ws.map rowW))), (4, .str (baL (if k = 0 then Lib.join ws.reverse [32] else flatS (ws.drop k).reverse))), (5, .i64 ((k : Int) - 1))], h := [] }) (fun k => k ≤ ws.length) (fun k => k) ws.length (Nat.le_refl _) ⟨⟨rfl, ?_, rfl, trivial⟩, trivial⟩ fun k hk => ?_
  · by_cases h0 : ws.length = 0
    · rw [if_pos h0, List.eq_nil_of_length_eq_zero h0]; rfl
    · rw [if_neg h0, List.drop_length]; rfl
  by_cases h0 : k = 0
  · subst h0
    conv => whnf
    repeat' (first | (refine And.intro (by first | exact rfl | decide | exact Nat.le_of_ble_eq_true rfl | exact ⟨_, rfl⟩ | exact ⟨_, _, rfl⟩ | exact Nat.le_refl _ | exact Int.le_refl _ | omega | (simp only [List.length_map]; omega) | exact True.intro | (simp only [IntKind.wrap_i64, List.length_map]; omega) | (simp only [List.map_cons, List.map_nil, List.length_cons, Option.getD]; omega) | (simp only [bsz, ByteArray.size_append, List.size_toArray, List.length_cons, List.length_nil]; omega) | exact ⟨⟨_, _, rfl, rfl, Nat.le_of_ble_eq_true rfl⟩, trivial⟩ | exact ⟨⟨_, _, rfl, rfl, Nat.le_of_ble_eq_true rfl⟩, ⟨_, _, rfl, rfl, Nat.le_of_ble_eq_true rfl⟩, trivial⟩ | exact ⟨⟨_, _, rfl, rfl, Nat.le_of_ble_eq_true rfl⟩, ⟨_, _, rfl, rfl, Nat.le_of_ble_eq_true rfl⟩, ⟨_, _, rfl, rfl, Nat.le_of_ble_eq_true rfl⟩, trivial⟩) ?_; conv => whnf) | (refine ifB_intro (fun hA => ?_) (fun hA => ?_) <;> (try rw [hA]) <;> (conv => whnf) <;> (first | replace hA := of_decide_eq_true hA | replace hA := of_decide_eq_false hA | replace hA := eq_of_beq hA | replace hA := ne_of_beq_false hA | replace hA := bne_iff_ne.1 hA | replace hA := bne_eq_false_iff_eq.1 hA | skip) <;> (try simp only [List.length_map, cond_true, cond_false, Bool.not_eq_true', Bool.not_eq_false', beq_iff_eq, beq_eq_false_iff_ne, ne_eq] at hA)) | (exfalso; omega) | (rw [getD_map _ _ _ _ (by assumption)]; conv => whnf))
    refine ⟨⟨[], ?_⟩⟩
    conv => whnf
    first | done | rfl
  · obtain ⟨i, rfl⟩ : ∃ i, k = i + 1 := ⟨k - 1, by omega⟩
    have hi : i < ws.length := by omega
    have hst := flatS_step ws i hi
    have hfi := hfl (i + 1)
    have hli := hlw i hi
    have hla := turn_last ws (by omega)
    rw [if_neg (by omega)]
    have hfs := ba_size (flatS (ws.drop (i + 1)).reverse)
    have his := ba_size ws[i]
    have hw2 : (((i + 1 : Nat) : Int) - 1) = (i : Int) := by omega
    have hw3 : IntKind.i64.wrap ((i : Int) - 1) = (i : Int) - 1 := by rw [IntKind.wrap_i64]; omega
    rw [hw2]
    by_cases h1 : i = 0
    · subst h1
      rw [show (0 : Nat) + 1 = 1 from rfl] at hfs hfi hst ⊢
      conv => whnf
      repeat' (first | (refine And.intro (by first | exact rfl | decide | exact Nat.le_of_ble_eq_true rfl | exact ⟨_, rfl⟩ | exact ⟨_, _, rfl⟩ | exact Nat.le_refl _ | exact Int.le_refl _ | omega | (simp only []; omega) | exact True.intro | (simp only []; omega) | (simp only []; omega) | (simp only []; omega) | exact ⟨⟨_, _, rfl, rfl, Nat.le_of_ble_eq_true rfl⟩, trivial⟩ | exact ⟨⟨_, _, rfl, rfl, Nat.le_of_ble_eq_true rfl⟩, ⟨_, _, rfl, rfl, Nat.le_of_ble_eq_true rfl⟩, trivial⟩ | exact ⟨⟨_, _, rfl, rfl, Nat.le_of_ble_eq_true rfl⟩, ⟨_, _, rfl, rfl, Nat.le_of_ble_eq_true rfl⟩, ⟨_, _, rfl, rfl, Nat.le_of_ble_eq_true rfl⟩, trivial⟩) ?_; conv => whnf) | (refine ifB_intro (fun hA => ?_) (fun hA => ?_) <;> (try rw [hA]) <;> (conv => whnf) <;> (first | replace hA := of_decide_eq_true hA | replace hA := of_decide_eq_false hA | replace hA := eq_of_beq hA | replace hA := ne_of_beq_false hA | replace hA := bne_iff_ne.1 hA | replace hA := bne_eq_false_iff_eq.1 hA | skip) <;> (try simp only [List.length_map, cond_true, cond_false, Bool.not_eq_true', Bool.not_eq_false', beq_iff_eq, beq_eq_false_iff_ne, ne_eq] at hA)) | (exfalso; omega) | (erw [getD_map rowW ws 0 [] hi]; conv => whnf) | (rw [getD_map _ _ _ _ (by assumption)]; conv => whnf))
      refine ⟨0, by omega, by omega, ⟨⟨rfl, ?_, ?_, trivial⟩, trivial⟩⟩
      · rw [if_pos rfl, hla]
        show AV.str (baL (flatS (ws.drop 1).reverse) ++ baL ws[0]) = AV.str _
        refine congrArg AV.str ?_
        apply ByteArray.ext; simp [baL, ByteArray.data_append]
      · exact AV.int_eq (by rw [IntKind.wrap_i64]; omega)
    · conv => whnf
      repeat' (first | (refine And.intro (by first | exact rfl | decide | exact Nat.le_of_ble_eq_true rfl | exact ⟨_, rfl⟩ | exact ⟨_, _, rfl⟩ | exact Nat.le_refl _ | exact Int.le_refl _ | omega | (simp only []; omega) | exact True.intro | (simp only []; omega) | (simp only []; omega) | (simp only [bsz, ByteArray.size_append, List.size_toArray, List.length_cons, List.length_nil]; omega) | exact ⟨⟨_, _, rfl, rfl, Nat.le_of_ble_eq_true rfl⟩, trivial⟩ | exact ⟨⟨_, _, rfl, rfl, Nat.le_of_ble_eq_true rfl⟩, ⟨_, _, rfl, rfl, Nat.le_of_ble_eq_true rfl⟩, trivial⟩ | exact ⟨⟨_, _, rfl, rfl, Nat.le_of_ble_eq_true rfl⟩, ⟨_, _, rfl, rfl, Nat.le_of_ble_eq_true rfl⟩, ⟨_, _, rfl, rfl, Nat.le_of_ble_eq_true rfl⟩, trivial⟩) ?_; conv => whnf) | (refine ifB_intro (fun hA => ?_) (fun hA => ?_) <;> (try rw [hA]) <;> (conv => whnf) <;> (first | replace hA := of_decide_eq_true hA | replace hA := of_decide_eq_false hA | replace hA := eq_of_beq hA | replace hA := ne_of_beq_false hA | replace hA := bne_iff_ne.1 hA | replace hA := bne_eq_false_iff_eq.1 hA | skip) <;> (try simp only [List.length_map, cond_true, cond_false, Bool.not_eq_true', Bool.not_eq_false', beq_iff_eq, beq_eq_false_iff_ne, ne_eq] at hA)) | (exfalso; omega) | (erw [getD_map rowW ws i [] hi]; conv => whnf) | (rw [getD_map _ _ _ _ (by assumption)]; conv => whnf))
      refine ⟨i, by omega, by omega, ⟨⟨rfl, ?_, ?_, trivial⟩, trivial⟩⟩
      · rw [if_neg h1, hst]
        show AV.str ((baL (flatS (ws.drop (i + 1)).reverse) ++ baL ws[i]) ++ ⟨#[32]⟩) = AV.str _
        refine congrArg AV.str ?_
        apply ByteArray.ext; simp [baL, ByteArray.data_append]
      · exact AV.int_eq hw3
end Go.Ax

namespace Go.Ax
open Go.Proofs Go.RowKit Go.Shelf Go.Lib
set_option maxRecDepth 10000
def revR (ws : List (List UInt8)) (i : Nat) : List (List UInt8) := (List.range ws.length).map fun m => if m < i ∨ ws.length ≤ m + i then ws.getD (ws.length - 1 - m) [] else ws.getD m []
theorem revR_len (ws : List (List UInt8)) (i : Nat) : (revR ws i).length = ws.length := by simp [revR]
theorem revR_get (ws : List (List UInt8)) (i m : Nat) (h : m < (revR ws i).length) : (revR ws i)[m] = if m < i ∨ ws.length ≤ m + i then ws.getD (ws.length - 1 - m) [] else ws.getD m [] := by simp [revR]
theorem revR_zero (ws : List (List UInt8)) : revR ws 0 = ws := by
  apply List.ext_getElem
  · exact revR_len ws 0
  · intro m h1 h2
    rw [revR_get, if_neg (by omega)]
    simp [List.getD, h2]
theorem revR_step (ws : List (List UInt8)) (i j : Nat) (hj : j = ws.length - 1 - i) (h : i < j) (h1 : i < (revR ws i).length) (h2 : j < (revR ws i).length) : ((revR ws i).set i (revR ws i)[j]).set j (revR ws i)[i] = revR ws (i + 1) := by
  rw [revR_len] at h1 h2
  apply List.ext_getElem
  · simp [revR_len]
  · intro m h3 h4
    rw [revR_get ws (i + 1), List.getElem_set, List.getElem_set]
    rw [revR_len] at h4
    by_cases e1 : j = m
    · subst e1
      rw [if_pos rfl, if_pos (.inr (by omega)), revR_get, if_neg (by omega)]
      congr 1; omega
    · rw [if_neg e1]
      by_cases e2 : i = m
      · subst e2
        rw [if_pos rfl, if_pos (.inl (by omega)), revR_get, if_neg (by omega)]
        congr 1
      · rw [if_neg e2, revR_get]
        by_cases e3 : m < i ∨ ws.length ≤ m + i
        · rw [if_pos e3, if_pos (by omega)]
        · rw [if_neg e3, if_neg (by omega)]
theorem revR_done (ws : List (List UInt8)) (i : Nat) (h : ¬ (i : Int) < (ws.length : Int) - 1 - i) (hi : i ≤ ws.length) : revR ws i = ws.reverse := by
  apply List.ext_getElem
  · simp [revR_len]
  · intro m h1 h2
    rw [revR_len] at h1
    rw [revR_get, List.getElem_reverse]
    have h3 : ws.length - 1 - m < ws.length := by omega
    by_cases e : m < i ∨ ws.length ≤ m + i
    · rw [if_pos e]; simp [List.getD, h3]
    · rw [if_neg e]
      have : m = ws.length - 1 - m := by omega
      simp only [List.getD, List.getElem?_eq_getElem h1, Option.getD_some]
      congr 1
theorem rowsZ_get (xs : List (List UInt8)) (Z : List (List D)) (a : Nat) (ha : a < xs.length) : List.getD (xs.map rowW ++ Z) (0 + ((a : Nat) : Int).toNat) [] = rowW xs[a] := by
  rw [show 0 + ((a : Nat) : Int).toNat = a from by omega, List.getD, List.getElem?_append_left (by simpa using ha), List.getElem?_map, List.getElem?_eq_getElem ha]; rfl
theorem rowsZ_put (xs : List (List UInt8)) (Z : List (List D)) (a : Nat) (x y : List UInt8) (ha : a < xs.length) : List.set (xs.map rowW ++ Z) (0 + ((a : Nat) : Int).toNat) (splice (rowW x) [D.v (.string (baL y))] 0) = (xs.set a y).map rowW ++ Z := by
  rw [show 0 + ((a : Nat) : Int).toNat = a from by omega, List.set_append_left _ _ (by simpa using ha), List.map_set]; rfl
theorem sreverse_ctr (g : GP) (n : Nat) (ws : List (List UInt8)) (Z : List (List D)) (hn : n = ws.length + Z.length) (hl : n < 2 ^ 62) : Ctr (ax g).E 69 [.msl 9400 n 0 ws.length] [(9400, some (.buf 1 9 (ws.map rowW ++ Z)))] (fun o => o = .ret (.tup []) [(9400, some (.buf 1 9 (ws.reverse.map rowW ++ Z)))]) := by
  have hw1 : IntKind.i64.wrap ((ws.length : Int) - 1) = (ws.length : Int) - 1 := by rw [IntKind.wrap_i64]; omega
  refine Ctr.body (X := ax g) _ 28 [9400] [] Tryz.func69 rfl rfl rfl rfl (by decide +kernel) rfl rfl ?_
  conv => whnf
  repeat' (first | (refine And.intro (by first | exact rfl | decide | exact Nat.le_of_ble_eq_true rfl | exact ⟨_, rfl⟩ | exact ⟨_, _, rfl⟩ | exact Nat.le_refl _ | exact Int.le_refl _ | omega | (simp only [List.length_map]; omega) | exact True.intro | (simp only [IntKind.wrap_i64, List.length_map]; omega) | (simp only [List.map_cons, List.map_nil, List.length_cons, Option.getD]; omega) | (simp only [bsz, ByteArray.size_append, List.size_toArray, List.length_cons, List.length_nil]; omega) | exact ⟨⟨_, _, rfl, rfl, Nat.le_of_ble_eq_true rfl⟩, trivial⟩ | exact ⟨⟨_, _, rfl, rfl, Nat.le_of_ble_eq_true rfl⟩, ⟨_, _, rfl, rfl, Nat.le_of_ble_eq_true rfl⟩, trivial⟩ | exact ⟨⟨_, _, rfl, rfl, Nat.le_of_ble_eq_true rfl⟩, ⟨_, _, rfl, rfl, Nat.le_of_ble_eq_true rfl⟩, ⟨_, _, rfl, rfl, Nat.le_of_ble_eq_true rfl⟩, trivial⟩) ?_; conv => whnf) | (refine ifB_intro (fun hA => ?_) (fun hA => ?_) <;> (try rw [hA]) <;> (conv => whnf) <;> (first | replace hA := of_decide_eq_true hA | replace hA := of_decide_eq_false hA | replace hA := eq_of_beq hA | replace hA := ne_of_beq_false hA | replace hA := bne_iff_ne.1 hA | replace hA := bne_eq_false_iff_eq.1 hA | skip) <;> (try simp only [List.length_map, cond_true, cond_false, Bool.not_eq_true', Bool.not_eq_false', beq_iff_eq, beq_eq_false_iff_ne, ne_eq] at hA)) | (rw [hw1]; conv => whnf) | (refine And.intro (by rw [List.length_append, List.length_map, hn]) ?_; conv => whnf) | (rw [getD_map _ _ _ _ (by assumption)]; conv => whnf))
  refine LoopP.inv (X := ax g) (fun i : Nat => { f := [(0, .msl 9400 n 0 ws.length), (2, .i64 i), (3, .i64 ((ws.length : Int) - 1 - i))], h := [(9400, some (.buf 1 9 ((revR ws i).map rowW ++ Z)))] }) (fun i => i ≤ ws.length) (fun i => ws.length - i) 0 (Nat.zero_le _) ⟨⟨rfl, rfl, AV.int_eq (by omega), trivial⟩, ⟨fun o h => by rw [← h, revR_zero]; rfl, trivial⟩⟩ fun i hi => ?_
  have hrl := revR_len ws i
  have hels : ((revR ws i).map rowW ++ Z).length = n := by rw [List.length_append, List.length_map, hrl, hn]
  conv => whnf
  refine ifB_intro (fun h => ?_) (fun h => ?_)
  · have h := of_decide_eq_true h
    obtain ⟨j, hj⟩ : ∃ j : Nat, (ws.length : Int) - 1 - i = j := ⟨ws.length - 1 - i, by omega⟩
    rw [hj] at h ⊢
    have hij : i < j := by omega
    have hjl : j < (revR ws i).length := by omega
    have hil : i < (revR ws i).length := by omega
    have hst := revR_step ws i j (by omega) hij hil hjl
    have g1 := rowsZ_get (revR ws i) Z j hjl
    have g2 := rowsZ_get (revR ws i) Z i hil
    have s1 := rowsZ_put (revR ws i) Z i (revR ws i)[i] (revR ws i)[j] hil
    have hjl2 : j < ((revR ws i).set i (revR ws i)[j]).length := by rw [List.length_set]; exact hjl
    have g3 := rowsZ_get ((revR ws i).set i (revR ws i)[j]) Z j hjl2
    have s2 := rowsZ_put ((revR ws i).set i (revR ws i)[j]) Z j (((revR ws i).set i (revR ws i)[j])[j]) (revR ws i)[i] hjl2
    have hels2 : (((revR ws i).set i (revR ws i)[j]).map rowW ++ Z).length = n := by rw [List.length_append, List.length_map, List.length_set, hrl, hn]
    rw [hst] at s2
    have hw2 : IntKind.i64.wrap ((j : Int) - 1) = (ws.length : Int) - 1 - ((i + 1 : Nat) : Int) := by rw [IntKind.wrap_i64]; omega
    conv => whnf
    repeat' (first | (refine And.intro (by first | exact rfl | decide | exact Nat.le_of_ble_eq_true rfl | exact ⟨_, rfl⟩ | exact ⟨_, _, rfl⟩ | exact Nat.le_refl _ | exact Int.le_refl _ | omega | (simp only []; omega) | exact True.intro | (simp only []; omega) | (simp only []; omega) | (simp only []; omega) | exact ⟨⟨_, _, rfl, rfl, Nat.le_of_ble_eq_true rfl⟩, trivial⟩ | exact ⟨⟨_, _, rfl, rfl, Nat.le_of_ble_eq_true rfl⟩, ⟨_, _, rfl, rfl, Nat.le_of_ble_eq_true rfl⟩, trivial⟩ | exact ⟨⟨_, _, rfl, rfl, Nat.le_of_ble_eq_true rfl⟩, ⟨_, _, rfl, rfl, Nat.le_of_ble_eq_true rfl⟩, ⟨_, _, rfl, rfl, Nat.le_of_ble_eq_true rfl⟩, trivial⟩) ?_; conv => whnf) | (refine ifB_intro (fun hA => ?_) (fun hA => ?_) <;> (try rw [hA]) <;> (conv => whnf) <;> (first | replace hA := of_decide_eq_true hA | replace hA := of_decide_eq_false hA | replace hA := eq_of_beq hA | replace hA := ne_of_beq_false hA | replace hA := bne_iff_ne.1 hA | replace hA := bne_eq_false_iff_eq.1 hA | skip) <;> (try simp only [List.length_map, cond_true, cond_false, Bool.not_eq_true', Bool.not_eq_false', beq_iff_eq, beq_eq_false_iff_ne, ne_eq] at hA)) | (refine DrawP.intro (X := ax g) (id := 3) B69_3 (by kernel_rfl) (by decide +kernel) ?_; conv => whnf) | (refine And.intro hels.symm ?_; conv => whnf) | (erw [g1]; conv => whnf) | (erw [g2]; conv => whnf) | (erw [s1]; conv => whnf) | (refine And.intro hels2.symm ?_; conv => whnf) | (erw [g3]; conv => whnf) | (erw [s2]; conv => whnf) | (rw [getD_map _ _ _ _ (by assumption)]; conv => whnf))
    exact ⟨i + 1, by omega, by omega, ⟨⟨rfl, AV.int_eq (i64_succ (by omega)), AV.int_eq hw2, trivial⟩, ⟨fun o h => by rw [← h]; rfl, trivial⟩⟩⟩
  · have h := of_decide_eq_false h
    have hd := revR_done ws i h hi
    conv => whnf
    refine ⟨⟨[(9400, some (.buf 1 9 (ws.reverse.map rowW ++ Z)))], ?_⟩⟩
    conv => whnf
    rw [hd]
    exact And.intro ⟨fun o h => h, trivial⟩ rfl
def turnV (l : List UInt8) : AV := match parseW l with
  | some _ => .tup [.str (baL (turnL l)), .i64 0]
  | none => .tup [.str ⟨#[]⟩, .i64 10]
theorem preverse37_ctr (g : GP) (he : ∀ w, g.G w → ErrG w) (l : List UInt8) (hl : l.length < 2 ^ 30) : Ctr (ax g).E 23 [.str (baL l)] [] (fun o => o = .ret (turnV l) []) := by
  have hs := ba_size l
  have c1 := right_ctr g he l hl
  have c2 := psplitO_ctr g (baL l) (by omega)
  rw [ba_toList] at c2
  unfold turnV
  cases hP : parseW l with
  | none =>
    rw [hP] at c1
    refine Ctr.body (X := ax g) _ 14 [] [.tmp 2, .tmp 3] Tryz.func23 rfl rfl rfl rfl (by decide +kernel) rfl rfl ?_
    conv => whnf
    repeat' (first | (refine And.intro (by first | exact rfl | decide | exact Nat.le_of_ble_eq_true rfl | exact ⟨_, rfl⟩ | exact ⟨_, _, rfl⟩ | exact Nat.le_refl _ | exact Int.le_refl _ | omega | (simp only [List.length_map]; omega) | exact True.intro | (simp only [IntKind.wrap_i64, List.length_map]; omega) | (simp only [List.map_cons, List.map_nil, List.length_cons, Option.getD]; omega) | (simp only [bsz, ByteArray.size_append, List.size_toArray, List.length_cons, List.length_nil]; omega) | exact ⟨⟨_, _, rfl, rfl, Nat.le_of_ble_eq_true rfl⟩, trivial⟩ | exact ⟨⟨_, _, rfl, rfl, Nat.le_of_ble_eq_true rfl⟩, ⟨_, _, rfl, rfl, Nat.le_of_ble_eq_true rfl⟩, trivial⟩ | exact ⟨⟨_, _, rfl, rfl, Nat.le_of_ble_eq_true rfl⟩, ⟨_, _, rfl, rfl, Nat.le_of_ble_eq_true rfl⟩, ⟨_, _, rfl, rfl, Nat.le_of_ble_eq_true rfl⟩, trivial⟩) ?_; conv => whnf) | (refine ifB_intro (fun hA => ?_) (fun hA => ?_) <;> (try rw [hA]) <;> (conv => whnf) <;> (first | replace hA := of_decide_eq_true hA | replace hA := of_decide_eq_false hA | replace hA := eq_of_beq hA | replace hA := ne_of_beq_false hA | replace hA := bne_iff_ne.1 hA | replace hA := bne_eq_false_iff_eq.1 hA | skip) <;> (try simp only [List.length_map, cond_true, cond_false, Bool.not_eq_true', Bool.not_eq_false', beq_iff_eq, beq_eq_false_iff_ne, ne_eq] at hA)) | (refine CallP.det (c1) ?_; conv => whnf) | (refine CallD.det (c1) ?_; conv => whnf) | (rw [getD_map _ _ _ _ (by assumption)]; conv => whnf))
    refine ⟨⟨[], ?_⟩⟩
    conv => whnf
    first | done | rfl
  | some W =>
    rw [hP] at c1
    have hsl := splitL_le 32 l
    have hkl : (wordsL l).length ≤ (splitL 32 l).length := kept_le _ _
    have htl := turn_len l
    unfold turnL at htl ⊢
    generalize splitL 32 l = S at *
    generalize wordsL l = ws at *
    have c3 := sreverse_ctr g S.length ws (List.replicate (S.length - ws.length) zeroS) (by rw [List.length_replicate]; omega) (by omega)
    have hgv : Ctr (ax g).E 65 ([.msl 9400 S.length 0 ws.length, .str ⟨#[32]⟩].map (frz 9400 1 (ws.reverse.map rowW ++ List.replicate (S.length - ws.length) zeroS))) [] (fun o => o = .ret (.str (baL (Lib.join ws.reverse [32]))) []) := by
      have e : (ws.reverse.map baL).map (·.data.toList) = ws.reverse := by
        rw [List.map_map]
        conv => rhs; rw [← List.map_id ws.reverse]
        exact List.map_congr_left fun z _ => by simp [baL]
      have h := join_ctr g false (ws.reverse.map baL) ⟨#[32]⟩ (by rw [List.length_map, List.length_reverse]; omega) (by rw [e]; show (Lib.join ws.reverse [32]).length ≤ _; omega)
      rw [e, List.map_map] at h
      have h1 : Nat.ble (0 + ws.length) (ws.reverse.map rowW ++ List.replicate (S.length - ws.length) zeroS).length = true := Nat.ble_eq_true_of_le (by simp)
      have h2 : Nat.beq S.length (ws.reverse.map rowW ++ List.replicate (S.length - ws.length) zeroS).length = true := by simp; omega
      have h3 : Nat.beq 9400 9400 = true := by decide
      have h4 : frz 9400 1 (ws.reverse.map rowW ++ List.replicate (S.length - ws.length) zeroS) (.msl 9400 S.length 0 ws.length) = .d (.sl false 1 (ws.reverse.map rowW)) := by
        show (match Nat.beq 9400 9400, Nat.beq S.length (ws.reverse.map rowW ++ List.replicate (S.length - ws.length) zeroS).length, Nat.ble (0 + ws.length) (ws.reverse.map rowW ++ List.replicate (S.length - ws.length) zeroS).length with
          | true, true, true => AV.d (.sl false 1 (List.take ws.length (List.drop 0 (ws.reverse.map rowW ++ List.replicate (S.length - ws.length) zeroS))))
          | _, _, _ => AV.msl 9400 S.length 0 ws.length) = _
        rw [h1, h2, h3]
        show AV.d (D.sl false 1 (List.take ws.length (List.drop 0 _))) = _
        rw [List.drop_zero, List.take_left' (by simp)]
      simp only [List.map_cons, List.map_nil, h4]
      exact h
    refine Ctr.body (X := ax g) _ 14 [] [.tmp 2, .tmp 3] Tryz.func23 rfl rfl rfl rfl (by decide +kernel) rfl rfl ?_
    conv => whnf
    repeat' (first | (refine And.intro (by first | exact rfl | decide | exact Nat.le_of_ble_eq_true rfl | exact ⟨_, rfl⟩ | exact ⟨_, _, rfl⟩ | exact Nat.le_refl _ | exact Int.le_refl _ | omega | (simp only [List.length_map]; omega) | exact True.intro | (simp only [IntKind.wrap_i64, List.length_map]; omega) | (simp only [List.map_cons, List.map_nil, List.length_cons, Option.getD]; omega) | (simp only [bsz, ByteArray.size_append, List.size_toArray, List.length_cons, List.length_nil]; omega) | exact ⟨⟨_, _, rfl, rfl, Nat.le_of_ble_eq_true rfl⟩, trivial⟩ | exact ⟨⟨_, _, rfl, rfl, Nat.le_of_ble_eq_true rfl⟩, ⟨_, _, rfl, rfl, Nat.le_of_ble_eq_true rfl⟩, trivial⟩ | exact ⟨⟨_, _, rfl, rfl, Nat.le_of_ble_eq_true rfl⟩, ⟨_, _, rfl, rfl, Nat.le_of_ble_eq_true rfl⟩, ⟨_, _, rfl, rfl, Nat.le_of_ble_eq_true rfl⟩, trivial⟩) ?_; conv => whnf) | (refine ifB_intro (fun hA => ?_) (fun hA => ?_) <;> (try rw [hA]) <;> (conv => whnf) <;> (first | replace hA := of_decide_eq_true hA | replace hA := of_decide_eq_false hA | replace hA := eq_of_beq hA | replace hA := ne_of_beq_false hA | replace hA := bne_iff_ne.1 hA | replace hA := bne_eq_false_iff_eq.1 hA | skip) <;> (try simp only [List.length_map, cond_true, cond_false, Bool.not_eq_true', Bool.not_eq_false', beq_iff_eq, beq_eq_false_iff_ne, ne_eq] at hA)) | (refine CallP.det (c1) ?_; conv => whnf) | (refine CallD.det (c1) ?_; conv => whnf) | (refine CallP.makes rfl c2 ?_; conv => whnf) | (refine CallP.upd rfl (c3) ?_; conv => whnf) | (refine CallD.upd rfl (c3) ?_; conv => whnf) | (rw [getD_map _ _ _ _ (by assumption)]; conv => whnf))
    refine CallP.arg (args' := [.msl 9400 S.length 0 ws.length, .str ⟨#[32]⟩]) rfl ?_
    refine CallP.give 9400 1 9 _ rfl hgv ?_
    conv => whnf
    refine ⟨⟨[], ?_⟩⟩
    conv => whnf
    first | done | rfl
end Go.Ax

namespace Go.Ax
open Go.Proofs Go.RowKit Go.Shelf Go.Lib
set_option maxRecDepth 10000
theorem glob_bool (W : List WordT) (L : List (List Nat)) : ∃ r : Bool, r = true ↔ GlobW W L := by
  by_cases h : GlobW W L
  · exact ⟨true, iff_of_true rfl h⟩
  · exact ⟨false, iff_of_false (by simp) h⟩
theorem patternTells_ctr (g : GP) (hp : ∀ w, g.G w → PowG w) (he : ∀ w, g.G w → ErrG w) (l : List UInt8) (L : List (List Nat)) (ok : ∀ q ∈ L, OkK q) (hL : L.length < 2 ^ 44) : Ctr (ax g).E 4 [.str (baL l), .d (.sl false 8 (L.map rowU))] [] (fun o => o = .ret (.bool true) []) := by
  have h0 := awake37_ctr g hp he
  have hs := ba_size l
  have hLm : (L.map rowU).length = L.length := List.length_map _
  by_cases h1 : l.length ≤ 300 ∧ L.length ≤ 40
  · obtain ⟨h300, h40⟩ := h1
    have c1 := rwords37_ctr g l (by omega)
    rw [parseR_eq] at c1
    have c2 := right_ctr g he l (by omega)
    have c3 := of37_ctr g hp false L ok (by omega)
    have c4 := rof37_ctr g false L ok (by omega)
    have c5 := preverse37_ctr g he l (by omega)
    have c7 := rreverse37_ctr g l (by omega)
    unfold turnV at c5
    cases hP : parseW l with
    | none =>
      rw [hP] at c1 c2 c5
      have c6 := matchN_ctr g he l (by omega) false L hP
      refine Ctr.body (X := ax g) _ 83 [] [.tmp 4] Tryz.func4 rfl rfl rfl rfl (by decide +kernel) rfl rfl ?_
      conv => whnf
      repeat' (first | (refine And.intro (by first | exact rfl | decide | exact Nat.le_of_ble_eq_true rfl | exact ⟨_, rfl⟩ | exact ⟨_, _, rfl⟩ | exact Nat.le_refl _ | exact Int.le_refl _ | omega | (simp only [List.length_map]; omega) | exact True.intro | (simp only [IntKind.wrap_i64, List.length_map]; omega) | (simp only [List.map_cons, List.map_nil, List.length_cons, Option.getD]; omega) | (simp only [bsz, ByteArray.size_append, List.size_toArray, List.length_cons, List.length_nil]; omega) | exact ⟨⟨_, _, rfl, rfl, Nat.le_of_ble_eq_true rfl⟩, trivial⟩ | exact ⟨⟨_, _, rfl, rfl, Nat.le_of_ble_eq_true rfl⟩, ⟨_, _, rfl, rfl, Nat.le_of_ble_eq_true rfl⟩, trivial⟩ | exact ⟨⟨_, _, rfl, rfl, Nat.le_of_ble_eq_true rfl⟩, ⟨_, _, rfl, rfl, Nat.le_of_ble_eq_true rfl⟩, ⟨_, _, rfl, rfl, Nat.le_of_ble_eq_true rfl⟩, trivial⟩) ?_; conv => whnf) | (refine ifB_intro (fun hA => ?_) (fun hA => ?_) <;> (try rw [hA]) <;> (conv => whnf) <;> (first | replace hA := of_decide_eq_true hA | replace hA := of_decide_eq_false hA | replace hA := eq_of_beq hA | replace hA := ne_of_beq_false hA | replace hA := bne_iff_ne.1 hA | replace hA := bne_eq_false_iff_eq.1 hA | skip) <;> (try simp only [List.length_map, ne_eq] at hA)) | (refine CallP.det (h0) ?_; conv => whnf) | (refine CallD.det (h0) ?_; conv => whnf) | (exfalso; omega) | (refine CallP.det (c1) ?_; conv => whnf) | (refine CallD.det (c1) ?_; conv => whnf) | (refine CallP.det (c2) ?_; conv => whnf) | (refine CallD.det (c2) ?_; conv => whnf) | (refine CallP.det (c3) ?_; conv => whnf) | (refine CallD.det (c3) ?_; conv => whnf) | (refine CallP.det (c4) ?_; conv => whnf) | (refine CallD.det (c4) ?_; conv => whnf) | (exact absurd trivial hA) | (refine CallP.det (c6) ?_; conv => whnf) | (refine CallD.det (c6) ?_; conv => whnf) | (refine CallP.det (c5) ?_; conv => whnf) | (refine CallD.det (c5) ?_; conv => whnf) | (rw [getD_map _ _ _ _ (by assumption)]; conv => whnf))
      refine ⟨⟨[], ?_⟩⟩
      conv => whnf
      first | done | rfl
    | some W =>
      rw [hP] at c1 c2 c5
      obtain ⟨r, hr⟩ := glob_bool W L
      obtain ⟨hWl, hWh⟩ := parse_small hP
      have c6 := matchL_ctr g he l (by omega) false L (by omega) ok W hP r hr
      have c8 := rmatch37_ctr g W L false (by omega) (by omega) hWh (parse_ge hP) ok r hr
      refine Ctr.body (X := ax g) _ 83 [] [.tmp 4] Tryz.func4 rfl rfl rfl rfl (by decide +kernel) rfl rfl ?_
      conv => whnf
      repeat' (first | (refine And.intro (by first | exact rfl | decide | exact Nat.le_of_ble_eq_true rfl | exact ⟨_, rfl⟩ | exact ⟨_, _, rfl⟩ | exact Nat.le_refl _ | exact Int.le_refl _ | omega | (simp only [List.length_map]; omega) | exact True.intro | (simp only [IntKind.wrap_i64, List.length_map]; omega) | (simp only [List.map_cons, List.map_nil, List.length_cons, Option.getD]; omega) | (simp only [bsz, ByteArray.size_append, List.size_toArray, List.length_cons, List.length_nil]; omega) | exact ⟨⟨_, _, rfl, rfl, Nat.le_of_ble_eq_true rfl⟩, trivial⟩ | exact ⟨⟨_, _, rfl, rfl, Nat.le_of_ble_eq_true rfl⟩, ⟨_, _, rfl, rfl, Nat.le_of_ble_eq_true rfl⟩, trivial⟩ | exact ⟨⟨_, _, rfl, rfl, Nat.le_of_ble_eq_true rfl⟩, ⟨_, _, rfl, rfl, Nat.le_of_ble_eq_true rfl⟩, ⟨_, _, rfl, rfl, Nat.le_of_ble_eq_true rfl⟩, trivial⟩) ?_; conv => whnf) | (refine ifB_intro (fun hA => ?_) (fun hA => ?_) <;> (try rw [hA]) <;> (conv => whnf) <;> (first | replace hA := of_decide_eq_true hA | replace hA := of_decide_eq_false hA | replace hA := eq_of_beq hA | replace hA := ne_of_beq_false hA | replace hA := bne_iff_ne.1 hA | replace hA := bne_eq_false_iff_eq.1 hA | skip) <;> (try simp only [List.length_map, ne_eq] at hA)) | (refine CallP.det (h0) ?_; conv => whnf) | (refine CallD.det (h0) ?_; conv => whnf) | (exfalso; omega) | (refine CallP.det (c1) ?_; conv => whnf) | (refine CallD.det (c1) ?_; conv => whnf) | (refine CallP.det (c2) ?_; conv => whnf) | (refine CallD.det (c2) ?_; conv => whnf) | (refine CallP.det (c3) ?_; conv => whnf) | (refine CallD.det (c3) ?_; conv => whnf) | (refine CallP.det (c4) ?_; conv => whnf) | (refine CallD.det (c4) ?_; conv => whnf) | (exact absurd trivial hA) | (refine CallP.det (c6) ?_; conv => whnf) | (refine CallD.det (c6) ?_; conv => whnf) | (refine CallP.det (c5) ?_; conv => whnf) | (refine CallD.det (c5) ?_; conv => whnf) | (refine CallP.det (c8) ?_; conv => whnf) | (refine CallD.det (c8) ?_; conv => whnf) | (refine CallP.det (c7) ?_; conv => whnf) | (refine CallD.det (c7) ?_; conv => whnf) | (rw [getD_map _ _ _ _ (by assumption)]; conv => whnf))
      refine ⟨⟨[], ?_⟩⟩
      conv => whnf
      first | done | (simp; done) | rfl
  · refine Ctr.body (X := ax g) _ 83 [] [.tmp 4] Tryz.func4 rfl rfl rfl rfl (by decide +kernel) rfl rfl ?_
    conv => whnf
    repeat' (first | (refine And.intro (by first | exact rfl | decide | exact Nat.le_of_ble_eq_true rfl | exact ⟨_, rfl⟩ | exact ⟨_, _, rfl⟩ | exact Nat.le_refl _ | exact Int.le_refl _ | omega | (simp only [List.length_map]; omega) | exact True.intro | (simp only [IntKind.wrap_i64, List.length_map]; omega) | (simp only [List.map_cons, List.map_nil, List.length_cons, Option.getD]; omega) | (simp only [bsz, ByteArray.size_append, List.size_toArray, List.length_cons, List.length_nil]; omega) | exact ⟨⟨_, _, rfl, rfl, Nat.le_of_ble_eq_true rfl⟩, trivial⟩ | exact ⟨⟨_, _, rfl, rfl, Nat.le_of_ble_eq_true rfl⟩, ⟨_, _, rfl, rfl, Nat.le_of_ble_eq_true rfl⟩, trivial⟩ | exact ⟨⟨_, _, rfl, rfl, Nat.le_of_ble_eq_true rfl⟩, ⟨_, _, rfl, rfl, Nat.le_of_ble_eq_true rfl⟩, ⟨_, _, rfl, rfl, Nat.le_of_ble_eq_true rfl⟩, trivial⟩) ?_; conv => whnf) | (refine ifB_intro (fun hA => ?_) (fun hA => ?_) <;> (try rw [hA]) <;> (conv => whnf) <;> (first | replace hA := of_decide_eq_true hA | replace hA := of_decide_eq_false hA | replace hA := eq_of_beq hA | replace hA := ne_of_beq_false hA | replace hA := bne_iff_ne.1 hA | replace hA := bne_eq_false_iff_eq.1 hA | skip) <;> (try simp only [List.length_map] at hA)) | (refine CallP.det (h0) ?_; conv => whnf) | (refine CallD.det (h0) ?_; conv => whnf) | (exfalso; omega) | (rw [getD_map _ _ _ _ (by assumption)]; conv => whnf))
    all_goals
      refine ⟨⟨[], ?_⟩⟩
      conv => whnf
      first | done | rfl
def backP (L : List (List Nat)) (i : Nat) : List (List Nat) := List.replicate (L.length - i) zeroP ++ (L.take i).reverse
theorem backP_zero (L : List (List Nat)) : backP L 0 = List.replicate L.length zeroP := by simp [backP]
theorem backP_len (L : List (List Nat)) (i : Nat) (h : i ≤ L.length) : (backP L i).length = L.length := by simp [backP]; omega
theorem backP_step (L : List (List Nat)) (i : Nat) (h : i < L.length) : (backP L i).set (L.length - 1 - i) L[i] = backP L (i + 1) := by
  unfold backP
  obtain ⟨m, hm⟩ : ∃ m, L.length - i = m + 1 := ⟨L.length - i - 1, by omega⟩
  rw [hm, show L.length - (i + 1) = m from by omega, show L.length - 1 - i = m from by omega, List.take_succ_eq_append_getElem h, List.reverse_append]
  rw [List.set_append_left _ _ (by simp)]
  have : (List.replicate (m + 1) zeroP).set m L[i] = List.replicate m zeroP ++ [L[i]] := by
    rw [List.replicate_succ', List.set_append_right _ _ (by simp)]
    simp
  rw [this]
  simp
theorem backP_done (L : List (List Nat)) : backP L L.length = L.reverse := by simp [backP]
theorem patternTurns_ctr (g : GP) (hp : ∀ w, g.G w → PowG w) (he : ∀ w, g.G w → ErrG w) (l : List UInt8) (L : List (List Nat)) (ok : ∀ q ∈ L, OkK q) (hL : L.length < 2 ^ 44) : Ctr (ax g).E 5 [.str (baL l), .d (.sl false 8 (L.map rowU))] [] (fun o => o = .ret (.bool true) []) := by
  have h0 := awake37_ctr g hp he
  have hs := ba_size l
  have hLm : (L.map rowU).length = L.length := List.length_map _
  by_cases h1 : l.length ≤ 200 ∧ L.length ≤ 40
  · obtain ⟨h200, h40⟩ := h1
    have c2 := right_ctr g he l (by omega)
    have c5 := preverse37_ctr g he l (by omega)
    unfold turnV at c5
    cases hP : parseW l with
    | none =>
      rw [hP] at c2 c5
      refine Ctr.body (X := ax g) _ 104 [] [.tmp 4] Tryz.func5 rfl rfl rfl rfl (by decide +kernel) rfl rfl ?_
      conv => whnf
      repeat' (first | (refine And.intro (by first | exact rfl | decide | exact Nat.le_of_ble_eq_true rfl | exact ⟨_, rfl⟩ | exact ⟨_, _, rfl⟩ | exact Nat.le_refl _ | exact Int.le_refl _ | omega | (simp only [List.length_map]; omega) | exact True.intro | (simp only [IntKind.wrap_i64, List.length_map]; omega) | (simp only [List.map_cons, List.map_nil, List.length_cons, Option.getD]; omega) | (simp only [bsz, ByteArray.size_append, List.size_toArray, List.length_cons, List.length_nil]; omega) | exact ⟨⟨_, _, rfl, rfl, Nat.le_of_ble_eq_true rfl⟩, trivial⟩ | exact ⟨⟨_, _, rfl, rfl, Nat.le_of_ble_eq_true rfl⟩, ⟨_, _, rfl, rfl, Nat.le_of_ble_eq_true rfl⟩, trivial⟩ | exact ⟨⟨_, _, rfl, rfl, Nat.le_of_ble_eq_true rfl⟩, ⟨_, _, rfl, rfl, Nat.le_of_ble_eq_true rfl⟩, ⟨_, _, rfl, rfl, Nat.le_of_ble_eq_true rfl⟩, trivial⟩) ?_; conv => whnf) | (refine ifB_intro (fun hA => ?_) (fun hA => ?_) <;> (try rw [hA]) <;> (conv => whnf) <;> (first | replace hA := of_decide_eq_true hA | replace hA := of_decide_eq_false hA | replace hA := eq_of_beq hA | replace hA := ne_of_beq_false hA | replace hA := bne_iff_ne.1 hA | replace hA := bne_eq_false_iff_eq.1 hA | skip) <;> (try simp only [List.length_map] at hA)) | (refine CallP.det (h0) ?_; conv => whnf) | (refine CallD.det (h0) ?_; conv => whnf) | (exfalso; omega) | (refine CallP.det (c5) ?_; conv => whnf) | (refine CallD.det (c5) ?_; conv => whnf) | (refine CallP.det (c2) ?_; conv => whnf) | (refine CallD.det (c2) ?_; conv => whnf) | (rw [getD_map _ _ _ _ (by assumption)]; conv => whnf))
      refine ⟨⟨[], ?_⟩⟩
      conv => whnf
      first | done | rfl
    | some W =>
      rw [hP] at c2 c5
      obtain ⟨r, hr⟩ := glob_bool W L
      have t1 := turn_len l
      have hP2 := turn_parse hP
      have hP3 := turn_twice hP
      have t2 := turn_len (turnL l)
      have okr : ∀ q ∈ L.reverse, OkK q := fun q hq => ok q (List.mem_reverse.1 hq)
      have c6 := matchL_ctr g he l (by omega) false L (by omega) ok W hP r hr
      have c7 := matchL_ctr g he (turnL l) (by omega) false L.reverse (by rw [List.length_reverse]; omega) okr W.reverse hP2 r (hr.trans turn_law.symm)
      have c8 := preverse37_ctr g he (turnL l) (by omega)
      unfold turnV at c8
      rw [hP2] at c8
      have c9 := matchL_ctr g he (turnL (turnL l)) (by omega) false L (by omega) ok W hP3 r hr
      refine Ctr.body (X := ax g) _ 104 [] [.tmp 4] Tryz.func5 rfl rfl rfl rfl (by decide +kernel) rfl rfl ?_
      conv => whnf
      repeat' (first | (refine And.intro (by first | exact rfl | decide | exact Nat.le_of_ble_eq_true rfl | exact ⟨_, rfl⟩ | exact ⟨_, _, rfl⟩ | exact Nat.le_refl _ | exact Int.le_refl _ | omega | (simp only [List.length_map]; omega) | exact True.intro | (simp only [IntKind.wrap_i64, List.length_map]; omega) | (simp only [List.map_cons, List.map_nil, List.length_cons, Option.getD]; omega) | (simp only [bsz, ByteArray.size_append, List.size_toArray, List.length_cons, List.length_nil]; omega) | exact ⟨⟨_, _, rfl, rfl, Nat.le_of_ble_eq_true rfl⟩, trivial⟩ | exact ⟨⟨_, _, rfl, rfl, Nat.le_of_ble_eq_true rfl⟩, ⟨_, _, rfl, rfl, Nat.le_of_ble_eq_true rfl⟩, trivial⟩ | exact ⟨⟨_, _, rfl, rfl, Nat.le_of_ble_eq_true rfl⟩, ⟨_, _, rfl, rfl, Nat.le_of_ble_eq_true rfl⟩, ⟨_, _, rfl, rfl, Nat.le_of_ble_eq_true rfl⟩, trivial⟩) ?_; conv => whnf) | (refine ifB_intro (fun hA => ?_) (fun hA => ?_) <;> (try rw [hA]) <;> (conv => whnf) <;> (first | replace hA := of_decide_eq_true hA | replace hA := of_decide_eq_false hA | replace hA := eq_of_beq hA | replace hA := ne_of_beq_false hA | replace hA := bne_iff_ne.1 hA | replace hA := bne_eq_false_iff_eq.1 hA | skip) <;> (try simp only [List.length_map] at hA)) | (refine CallP.det (h0) ?_; conv => whnf) | (refine CallD.det (h0) ?_; conv => whnf) | (exfalso; omega) | (refine CallP.det (c5) ?_; conv => whnf) | (refine CallD.det (c5) ?_; conv => whnf) | (rw [getD_map _ _ _ _ (by assumption)]; conv => whnf))
      refine LoopP.inv (X := ax g) (fun i : Nat => { f := [(0, .str (baL l)), (1, .d (.sl false 8 (L.map rowU))), (5, .str (baL (turnL l))), (6, .i64 0), (7, .msl 40 L.length 0 L.length), (41, .d (.sl false 8 (L.map rowU))), (42, .i64 L.length), (43, .i64 i)], h := [(40, some (.buf 8 56 ((backP L i).map rowU)))] }) (fun i => i ≤ L.length) (fun i => L.length - i) 0 (Nat.zero_le _) ⟨⟨rfl, rfl, rfl, rfl, ?_, rfl, AV.int_eq (by rw [hLm]), rfl, trivial⟩, ⟨fun o h => ?_, trivial⟩⟩ fun i hi => ?_
      · exact msl_eq (by rw [hLm, Int.toNat_natCast])
      · rw [← h, backP_zero, List.map_replicate]
        show some (AObj.buf 8 56 (List.replicate (((L.map rowU).length : Int)).toNat _)) = _
        rw [hLm, Int.toNat_natCast]; rfl
      have hbl : ((backP L i).map rowU).length = L.length := by rw [List.length_map, backP_len L i hi]
      conv => whnf
      refine ifB_intro (fun h => ?_) (fun h => ?_)
      · have h : i < L.length := by have h0 := of_decide_eq_true h; omega
        have hok := ok L[i] (by simp)
        have hst := backP_step L i h
        have hw1 : IntKind.i64.wrap (IntKind.i64.wrap (((L.map rowU).length : Int) - 1) - (i : Int)) = ((L.length - 1 - i : Nat) : Int) := by rw [hLm, IntKind.wrap_i64, IntKind.wrap_i64]; omega
        have hw2 : IntKind.i64.wrap (((L.map rowU).length : Int) - 1) = ((L.length - 1 : Nat) : Int) := by rw [hLm, IntKind.wrap_i64]; omega
        have hw3 : IntKind.i64.wrap (((L.length - 1 : Nat) : Int) - (i : Int)) = ((L.length - 1 - i : Nat) : Int) := by rw [IntKind.wrap_i64]; omega
        have hput : List.set ((backP L i).map rowU) (0 + ((L.length - 1 - i : Nat) : Int).toNat) (rowU L[i]) = (backP L (i + 1)).map rowU := by
          rw [← hst, List.map_set, show 0 + ((L.length - 1 - i : Nat) : Int).toNat = L.length - 1 - i from by omega]
        have hz : List.getD ((backP L i).map rowU) (0 + ((L.length - 1 - i : Nat) : Int).toNat) [] = rowU zeroP := by
          rw [show 0 + ((L.length - 1 - i : Nat) : Int).toNat = L.length - 1 - i from by omega, List.getD, List.getElem?_map]
          unfold backP
          rw [List.getElem?_append_left (by simp; omega), List.getElem?_replicate, if_pos (by omega)]; rfl
        generalize hqi : L[i] = q at *
        obtain ⟨q0, q1, q2, q3, q4, q5, q6, q7, rfl⟩ := eight hok.1
        conv => whnf
        repeat' (first | (refine And.intro (by first | exact rfl | decide | exact Nat.le_of_ble_eq_true rfl | exact ⟨_, rfl⟩ | exact ⟨_, _, rfl⟩ | exact Nat.le_refl _ | exact Int.le_refl _ | omega | (simp only []; omega) | exact True.intro | (simp only []; omega) | (simp only []; omega) | (simp only []; omega) | exact ⟨⟨_, _, rfl, rfl, Nat.le_of_ble_eq_true rfl⟩, trivial⟩ | exact ⟨⟨_, _, rfl, rfl, Nat.le_of_ble_eq_true rfl⟩, ⟨_, _, rfl, rfl, Nat.le_of_ble_eq_true rfl⟩, trivial⟩ | exact ⟨⟨_, _, rfl, rfl, Nat.le_of_ble_eq_true rfl⟩, ⟨_, _, rfl, rfl, Nat.le_of_ble_eq_true rfl⟩, ⟨_, _, rfl, rfl, Nat.le_of_ble_eq_true rfl⟩, trivial⟩) ?_; conv => whnf) | (refine ifB_intro (fun hA => ?_) (fun hA => ?_) <;> (try rw [hA]) <;> (conv => whnf) <;> (first | replace hA := of_decide_eq_true hA | replace hA := of_decide_eq_false hA | replace hA := eq_of_beq hA | replace hA := ne_of_beq_false hA | replace hA := bne_iff_ne.1 hA | replace hA := bne_eq_false_iff_eq.1 hA | skip) <;> (try simp only [List.length_map, cond_true, cond_false, Bool.not_eq_true', Bool.not_eq_false', beq_iff_eq, beq_eq_false_iff_ne, ne_eq] at hA)) | (erw [getD_map rowU L i [] h, hqi]; conv => whnf) | (rw [hw2]; conv => whnf) | (rw [hw3]; conv => whnf) | (refine And.intro hbl.symm ?_; conv => whnf) | (rw [getD_map _ _ _ _ (by assumption)]; conv => whnf))
        refine ⟨i + 1, by omega, by omega, ⟨⟨rfl, rfl, rfl, rfl, rfl, rfl, rfl, AV.int_eq (i64_succ (by omega)), trivial⟩, ⟨fun o h => ?_, trivial⟩⟩⟩
        rw [← h, ← hput]
        show some (AObj.buf 8 56 (List.set ((backP L i).map rowU) (0 + ((L.length - 1 - i : Nat) : Int).toNat) (splice (List.getD ((backP L i).map rowU) (0 + ((L.length - 1 - i : Nat) : Int).toNat) []) _ 0))) = _
        rw [hz]
        rfl
      · have h : i = L.length := by have h0 := of_decide_eq_false h; omega
        subst h
        rw [backP_done] at hbl ⊢
        have hgv : Ctr (ax g).E 22 ([.str (baL (turnL l)), .msl 40 L.length 0 L.length].map (frz 40 8 (L.reverse.map rowU))) [] (fun o => o = .ret (.tup [.bool r, .i64 0]) []) := by
          have e : frz 40 8 (L.reverse.map rowU) (.msl 40 L.length 0 L.length) = .d (.sl false 8 (L.reverse.map rowU)) := frzE 40 8 L.length (L.reverse.map rowU) (by simp)
          show Ctr _ _ [.str (baL (turnL l)), frz 40 8 (L.reverse.map rowU) (.msl 40 L.length 0 L.length)] _ _
          rw [e]; exact c7
        cases r
        all_goals
          conv => whnf
          repeat' (first | (refine And.intro (by first | exact rfl | decide | exact Nat.le_of_ble_eq_true rfl | exact ⟨_, rfl⟩ | exact ⟨_, _, rfl⟩ | exact Nat.le_refl _ | exact Int.le_refl _ | omega | (simp only [List.length_map]; omega) | exact True.intro | (simp only [IntKind.wrap_i64, List.length_map]; omega) | (simp only [List.map_cons, List.map_nil, List.length_cons, Option.getD]; omega) | (simp only [bsz, ByteArray.size_append, List.size_toArray, List.length_cons, List.length_nil]; omega) | exact ⟨⟨_, _, rfl, rfl, Nat.le_of_ble_eq_true rfl⟩, trivial⟩ | exact ⟨⟨_, _, rfl, rfl, Nat.le_of_ble_eq_true rfl⟩, ⟨_, _, rfl, rfl, Nat.le_of_ble_eq_true rfl⟩, trivial⟩ | exact ⟨⟨_, _, rfl, rfl, Nat.le_of_ble_eq_true rfl⟩, ⟨_, _, rfl, rfl, Nat.le_of_ble_eq_true rfl⟩, ⟨_, _, rfl, rfl, Nat.le_of_ble_eq_true rfl⟩, trivial⟩) ?_; conv => whnf) | (refine ifB_intro (fun hA => ?_) (fun hA => ?_) <;> (try rw [hA]) <;> (conv => whnf) <;> (first | replace hA := of_decide_eq_true hA | replace hA := of_decide_eq_false hA | replace hA := eq_of_beq hA | replace hA := ne_of_beq_false hA | replace hA := bne_iff_ne.1 hA | replace hA := bne_eq_false_iff_eq.1 hA | skip) <;> (try simp only [List.length_map, cond_true, cond_false, Bool.not_eq_true', Bool.not_eq_false', beq_iff_eq, beq_eq_false_iff_ne, ne_eq] at hA)) | (refine CallP.det (c6) ?_; conv => whnf) | (refine CallD.det (c6) ?_; conv => whnf) | (rw [getD_map _ _ _ _ (by assumption)]; conv => whnf))
          refine CallP.arg (args' := [.str (baL (turnL l)), .msl 40 L.length 0 L.length]) rfl ?_
          refine CallP.give 40 8 56 _ rfl hgv ?_
          conv => whnf
          repeat' (first | (refine And.intro (by first | exact rfl | decide | exact Nat.le_of_ble_eq_true rfl | exact ⟨_, rfl⟩ | exact ⟨_, _, rfl⟩ | exact Nat.le_refl _ | exact Int.le_refl _ | omega | (simp only [List.length_map]; omega) | exact True.intro | (simp only [IntKind.wrap_i64, List.length_map]; omega) | (simp only [List.map_cons, List.map_nil, List.length_cons, Option.getD]; omega) | (simp only [bsz, ByteArray.size_append, List.size_toArray, List.length_cons, List.length_nil]; omega) | exact ⟨⟨_, _, rfl, rfl, Nat.le_of_ble_eq_true rfl⟩, trivial⟩ | exact ⟨⟨_, _, rfl, rfl, Nat.le_of_ble_eq_true rfl⟩, ⟨_, _, rfl, rfl, Nat.le_of_ble_eq_true rfl⟩, trivial⟩ | exact ⟨⟨_, _, rfl, rfl, Nat.le_of_ble_eq_true rfl⟩, ⟨_, _, rfl, rfl, Nat.le_of_ble_eq_true rfl⟩, ⟨_, _, rfl, rfl, Nat.le_of_ble_eq_true rfl⟩, trivial⟩) ?_; conv => whnf) | (refine ifB_intro (fun hA => ?_) (fun hA => ?_) <;> (try rw [hA]) <;> (conv => whnf) <;> (first | replace hA := of_decide_eq_true hA | replace hA := of_decide_eq_false hA | replace hA := eq_of_beq hA | replace hA := ne_of_beq_false hA | replace hA := bne_iff_ne.1 hA | replace hA := bne_eq_false_iff_eq.1 hA | skip) <;> (try simp only [List.length_map, cond_true, cond_false, Bool.not_eq_true', Bool.not_eq_false', beq_iff_eq, beq_eq_false_iff_ne, ne_eq] at hA)) | (refine CallP.det (c8) ?_; conv => whnf) | (refine CallD.det (c8) ?_; conv => whnf) | (refine CallP.det (c9) ?_; conv => whnf) | (refine CallD.det (c9) ?_; conv => whnf) | (rw [getD_map _ _ _ _ (by assumption)]; conv => whnf))
          refine ⟨⟨[], ?_⟩⟩
          conv => whnf
          first | done | rfl
  · refine Ctr.body (X := ax g) _ 104 [] [.tmp 4] Tryz.func5 rfl rfl rfl rfl (by decide +kernel) rfl rfl ?_
    conv => whnf
    repeat' (first | (refine And.intro (by first | exact rfl | decide | exact Nat.le_of_ble_eq_true rfl | exact ⟨_, rfl⟩ | exact ⟨_, _, rfl⟩ | exact Nat.le_refl _ | exact Int.le_refl _ | omega | (simp only [List.length_map]; omega) | exact True.intro | (simp only [IntKind.wrap_i64, List.length_map]; omega) | (simp only [List.map_cons, List.map_nil, List.length_cons, Option.getD]; omega) | (simp only [bsz, ByteArray.size_append, List.size_toArray, List.length_cons, List.length_nil]; omega) | exact ⟨⟨_, _, rfl, rfl, Nat.le_of_ble_eq_true rfl⟩, trivial⟩ | exact ⟨⟨_, _, rfl, rfl, Nat.le_of_ble_eq_true rfl⟩, ⟨_, _, rfl, rfl, Nat.le_of_ble_eq_true rfl⟩, trivial⟩ | exact ⟨⟨_, _, rfl, rfl, Nat.le_of_ble_eq_true rfl⟩, ⟨_, _, rfl, rfl, Nat.le_of_ble_eq_true rfl⟩, ⟨_, _, rfl, rfl, Nat.le_of_ble_eq_true rfl⟩, trivial⟩) ?_; conv => whnf) | (refine ifB_intro (fun hA => ?_) (fun hA => ?_) <;> (try rw [hA]) <;> (conv => whnf) <;> (first | replace hA := of_decide_eq_true hA | replace hA := of_decide_eq_false hA | replace hA := eq_of_beq hA | replace hA := ne_of_beq_false hA | replace hA := bne_iff_ne.1 hA | replace hA := bne_eq_false_iff_eq.1 hA | skip) <;> (try simp only [List.length_map] at hA)) | (refine CallP.det (h0) ?_; conv => whnf) | (refine CallD.det (h0) ?_; conv => whnf) | (exfalso; omega) | (rw [getD_map _ _ _ _ (by assumption)]; conv => whnf))
    all_goals
      refine ⟨⟨[], ?_⟩⟩
      conv => whnf
      first | done | rfl
end Go.Ax

namespace Go.Ax
open Go.Proofs Go.RowKit Go.Shelf Go.Lib Go.ChangeShapes
inductive Sh where
  | int (k : IntKind)
  | bool
  | str
  | sl (bytes : Nat) (es : List Sh)
def rep {α : Type} (l : List α) : Nat → List α
  | 0 => []
  | n + 1 => l ++ rep l n
def shFs (P : Program) (go : TypeId → Option (List Sh)) : List Field → Nat → Option (List Sh)
  | [], _ => some []
  | f :: r, off => if f.offset = off then (go f.type).bind fun es => if es.length = P.cellsOf f.type then (shFs P go r (off + es.length)).map (es ++ ·) else none else none
def shOf (P : Program) : Nat → TypeId → Option (List Sh)
  | 0, _ => none
  | f + 1, t => match P.underlying t with
    | some .bool => some [.bool]
    | some (.int k) => some [.int k]
    | some .string => some [.str]
    | some (.slice e) => (shOf P f e).bind fun es => if es.length = P.cellsOf e ∧ 0 < es.length then some [.sl (P.bytesOf e) es] else none
    | some (.struct fs) => (shFs P (shOf P f) fs.toList 0).bind fun es => if es.length = P.cellsOf t then some es else none
    | some (.array n e) => (shOf P f e).bind fun es => if es.length = P.cellsOf e ∧ n * es.length = P.cellsOf t then some (rep es n) else none
    | _ => none
inductive Fit : Sh → D → Prop
  | int (k : IntKind) (n : Int) (h : (Lit.int k n).wf = true) : Fit (.int k) (.v (.int k n))
  | bool (b : Bool) : Fit .bool (.v (.bool b))
  | str (s : ByteArray) (h : s.size ≤ reachBytes) : Fit .str (.v (.string s))
  | sl (bytes : Nat) (es : List Sh) (els : List (List D)) (hlen : els.length * bytes ≤ reachBytes) (hel : ∀ el ∈ els, el.length = es.length) (hf : ∀ el ∈ els, ∀ (i : Nat) (s : Sh) (x : D), es[i]? = some s → el[i]? = some x → Fit s x) : Fit (.sl bytes es) (.sl false es.length els)
def CV (W : World) (cs : List Value) (shs : List Sh) : Prop := ∃ ds : List D, ds.length = shs.length ∧ cs.length = shs.length ∧ ∀ (i : Nat) (v : Value) (x : D) (s : Sh), cs[i]? = some v → ds[i]? = some x → shs[i]? = some s → RD (hp W) (fun b => b < W.heap.size) v x ∧ Fit s x
theorem CV.nil (W : World) : CV W [] [] := ⟨[], rfl, rfl, fun i v x s h => by simp at h⟩
theorem CV.one {W : World} {v : Value} {x : D} {s : Sh} (h1 : RD (hp W) (fun b => b < W.heap.size) v x) (h2 : Fit s x) : CV W [v] [s] := ⟨[x], rfl, rfl, fun i v' x' s' e1 e2 e3 => by
  cases i with
  | zero => simp at e1 e2 e3; subst e1; subst e2; subst e3; exact ⟨h1, h2⟩
  | succ i => simp at e1⟩
theorem CV.append {W : World} {c1 c2 : List Value} {s1 s2 : List Sh} (h1 : CV W c1 s1) (h2 : CV W c2 s2) : CV W (c1 ++ c2) (s1 ++ s2) := by
  obtain ⟨d1, a1, b1, g1⟩ := h1
  obtain ⟨d2, a2, b2, g2⟩ := h2
  refine ⟨d1 ++ d2, by simp [a1, a2], by simp [b1, b2], fun i v x s e1 e2 e3 => ?_⟩
  rcases Nat.lt_or_ge i s1.length with h | h
  · rw [List.getElem?_append_left (by omega)] at e1 e2 e3
    exact g1 i v x s e1 e2 e3
  · rw [List.getElem?_append_right (by omega)] at e1 e2 e3
    rw [b1] at e1; rw [a1] at e2
    exact g2 _ v x s e1 e2 e3
theorem data_len (s : ByteArray) : s.data.toList.length = s.size := by rw [Array.length_toList]; rfl
theorem weights_mem_all {H : Type} {P : Program} {e : TypeId} : ∀ {ds : List (DataW H)} {j : Nat} {d : DataW H}, ds[j]? = some d → ∀ n ∈ d.weights P e, n ∈ DataW.weightsAll P e ds
  | [], _, _, hd, _, _ => by simp at hd
  | d0 :: ds, 0, d, hd, n, hn => by
    simp at hd; subst hd
    simp only [DataW.weightsAll, List.mem_append]; exact .inl hn
  | d0 :: ds, j + 1, d, hd, n, hn => by
    simp only [List.getElem?_cons_succ] at hd
    simp only [DataW.weightsAll, List.mem_append]; exact .inr (weights_mem_all hd n hn)
section
variable {H : Type} {enc : TypeId × Value → H} {P : Program} {W : World} {sp : Nat → Bool} {held : Bool}
theorem cv_fields {n : Nat} {go : TypeId → Option (List Sh)} {cs : List Value} (ih : ∀ (t : TypeId) (c : List Value) (x : DataW H × List MemPlace) (shs : List Sh), DataW.trod enc P W 0 sp held n t c = some x → (∀ m ∈ x.1.weights P t, m ≤ reachBytes) → go t = some shs → CV W c shs) :
    ∀ (fl : List Field) (off : Nat) (es : List Sh), shFs P go fl off = some es → (∀ f ∈ fl, ∃ y, DataW.trod enc P W 0 sp held n f.type ((cs.drop f.offset).take (P.cellsOf f.type)) = some y ∧ ∀ m ∈ y.1.weights P f.type, m ≤ reachBytes) → CV W ((cs.drop off).take es.length) es
  | [], off, es, h, _ => by
    simp only [shFs] at h; injection h with h; subst h
    simpa using CV.nil W
  | f :: r, off, es, h, hf => by
    simp only [shFs] at h
    split at h
    · rename_i ho
      cases hg : go f.type with
      | none => rw [hg] at h; simp at h
      | some e1 =>
        rw [hg, Option.bind_some] at h
        split at h
        · rename_i hl
          cases hr : shFs P go r (off + e1.length) with
          | none => rw [hr] at h; simp at h
          | some e2 =>
            rw [hr, Option.map_some] at h
            injection h with h; subst h
            obtain ⟨y, hy, hw⟩ := hf f (by simp)
            have c1 := ih f.type _ y e1 hy hw hg
            rw [ho, ← hl] at c1
            have c2 := cv_fields ih r (off + e1.length) e2 hr fun f' h' => hf f' (by simp [h'])
            have := c1.append c2
            rw [List.length_append, List.take_add, List.drop_drop]
            exact this
        · exact absurd h (by simp)
    · exact absurd h (by simp)
theorem cv_rep {c : Nat} {es : List Sh} {cs : List Value} (hes : es.length = c) : ∀ (k off : Nat), (∀ i, i < k → CV W ((cs.drop ((off + i) * c)).take c) es) → CV W ((cs.drop (off * c)).take (k * c)) (rep es k)
  | 0, off, _ => by simpa [rep] using CV.nil W
  | k + 1, off, h => by
    have h0 := h 0 (by omega)
    rw [Nat.add_zero] at h0
    have h1 := cv_rep hes k (off + 1) fun i hi => by
      have := h (i + 1) (by omega)
      rwa [show off + (i + 1) = off + 1 + i by omega] at this
    rw [rep, show (k + 1) * c = c + k * c by rw [Nat.succ_mul, Nat.add_comm], List.take_add, List.drop_drop, show off * c + c = (off + 1) * c by rw [Nat.succ_mul]]
    exact h0.append h1
theorem cell_heap {w : World} {a : Addr} {v : Value} (h : w.cell? a = some v) : a.spot = none ∧ ∃ cs t fz, w.heap[a.block]? = some (.cells cs t fz) ∧ cs[a.off]? = some v := by
  unfold World.cell? at h
  split at h
  · rename_i c t fz hb
    split at h
    · exact absurd h (by simp)
    · rename_i hs
      exact ⟨by simpa using hs, c, t, fz, hb, h⟩
  · exact absurd h (by simp)
theorem add_block (a : Addr) (n : Nat) : (a.add n).block = a.block := by unfold Addr.add; split <;> rfl
theorem add_off (a : Addr) (n : Nat) : (a.add n).off = a.off + n := by unfold Addr.add; split <;> simp_all
theorem conv : ∀ (fuel : Nat) (t : TypeId) (cs : List Value) (x : DataW H × List MemPlace) (f2 : Nat) (shs : List Sh), DataW.trod enc P W 0 sp held fuel t cs = some x → (∀ m ∈ x.1.weights P t, m ≤ reachBytes) → shOf P f2 t = some shs → CV W cs shs
  | 0, t, cs, x, f2, shs, h, _, _ => by simp [DataW.trod] at h
  | fuel + 1, t, cs, x, 0, shs, h, _, hs => by simp [shOf] at hs
  | fuel + 1, t, cs, x, f2 + 1, shs, h, hw, hs => by
    simp only [shOf] at hs
    split at hs
    · rename_i hu
      injection hs with hs; subst hs
      obtain ⟨b, rfl, rfl⟩ := DataW.trod_bool hu h
      exact CV.one (.v _ rfl) (.bool b)
    · rename_i k hu
      injection hs with hs; subst hs
      obtain ⟨n, rfl, rfl, hwf⟩ := DataW.trod_int hu h
      exact CV.one (.v _ rfl) (.int k n hwf)
    · rename_i hu
      injection hs with hs; subst hs
      obtain ⟨s, rfl, rfl, hsz⟩ := DataW.trod_string hu h
      exact CV.one (.v _ rfl) (.str s (by have := hw s.data.toList.length (by simp [DataW.weights]); rw [data_len] at this; exact this))
    · rename_i e hu
      cases hg : shOf P f2 e with
      | none => rw [hg] at hs; simp at hs
      | some es =>
        rw [hg, Option.bind_some] at hs
        split at hs
        · rename_i hl
          obtain ⟨hl, hpos⟩ := hl
          injection hs with hs; subst hs
          rcases DataW.trod_slice hu h with ⟨rfl, rfl⟩ | ⟨a, len, cap, elems, rest, n, hn, rfl, rfl, _, hlc, _, hlen, hel, _, _⟩
          · exact CV.one (.nil false es.length none 0 (by simp)) (.sl _ es [] (by simp) (by simp) (by simp))
          · injection hn with hn; subst hn
            have hwt : len * P.bytesOf e ≤ reachBytes := by
              have := hw ((elems.length + rest.length) * P.bytesOf e) (by simp [DataW.weights, hu])
              exact Nat.le_trans (Nat.mul_le_mul_right _ (by omega)) this
            have hch : ∀ i : Fin len, ∃ ce : List Value, W.cells? 0 (a.add (i.val * P.cellsOf e)) (P.cellsOf e) = some ce ∧ CV W ce es := fun i => by
              have h1 := hel i.val i.isLt
              have hi : i.val < elems.length := by rw [hlen]; exact i.isLt
              rw [List.getElem?_eq_getElem hi] at h1
              cases hc : W.cells? 0 (a.add (i.val * P.cellsOf e)) (P.cellsOf e) with
              | none => rw [hc] at h1; simp at h1
              | some ce =>
                rw [hc, Option.bind_some] at h1
                refine ⟨ce, rfl, conv fuel e ce _ f2 es h1 (fun m hm => hw m ?_) hg⟩
                have hj : (elems.map (·.1))[i.val]? = some (elems[i.val]).1 := by simp [hi]
                have := weights_mem_all (P := P) (e := e) hj m hm
                simp only [DataW.weights, hu, List.mem_cons, List.mem_append]
                exact .inr (.inl this)
            have key : ∀ i : Fin len, ∃ ds : List D, ds.length = es.length ∧ ∀ (j : Nat) (x : D), ds[j]? = some x → ∃ v, W.cell? ((a.add (i.val * P.cellsOf e)).add j) = some v ∧ RD (hp W) (fun b => b < W.heap.size) v x ∧ ∀ s, es[j]? = some s → Fit s x := fun i => by
              obtain ⟨ce, hc, ds, g1, g2, g3⟩ := hch i
              obtain ⟨_, hcl, hcc⟩ := World.cells?_some hc
              refine ⟨ds, g1, fun j x hx => ?_⟩
              have hj : j < ds.length := (List.getElem?_eq_some_iff.1 hx).1
              have hjc : ce[j]? = some (ce[j]'(by omega)) := List.getElem?_eq_getElem (by omega)
              have hjs : es[j]? = some (es[j]'(by omega)) := List.getElem?_eq_getElem (by omega)
              obtain ⟨r1, r2⟩ := g3 j _ x _ hjc hx hjs
              exact ⟨_, by rw [hcc j (by omega), hjc], r1, fun s hs => by rw [hjs] at hs; injection hs with hs; subst hs; exact r2⟩
            let els : List (List D) := List.ofFn fun i : Fin len => Classical.choose (key i)
            have hlenE : els.length = len := by simp [els]
            have hat : ∀ (i : Nat) (el : List D), els[i]? = some el → ∃ hi : i < len, el = Classical.choose (key ⟨i, hi⟩) := fun i el he => by
              have hi : i < els.length := (List.getElem?_eq_some_iff.1 he).1
              have hi' : i < len := by rw [← hlenE]; exact hi
              refine ⟨hi', ?_⟩
              rw [List.getElem?_eq_getElem hi] at he
              injection he with he
              rw [← he]; simp [els]
            have hmem : ∀ el ∈ els, ∃ i : Fin len, el = Classical.choose (key i) := fun el he => by
              obtain ⟨i, hi⟩ := List.getElem?_of_mem he
              obtain ⟨h1, h2⟩ := hat i el hi
              exact ⟨⟨i, h1⟩, h2⟩
            have hfit : Fit (.sl (P.bytesOf e) es) (.sl false es.length els) := .sl _ es els (by rw [hlenE]; exact hwt) (fun el he => by obtain ⟨i, rfl⟩ := hmem el he; exact (Classical.choose_spec (key i)).1) fun el he j s x h1 h2 => by
              obtain ⟨i, rfl⟩ := hmem el he
              obtain ⟨v, _, _, h5⟩ := (Classical.choose_spec (key i)).2 j x h2
              exact h5 s h1
            refine CV.one ?_ hfit
            rcases Nat.eq_zero_or_pos len with h0 | h0
            · subst h0
              have : els = [] := List.eq_nil_of_length_eq_zero hlenE
              rw [this]
              exact .nil false es.length _ cap (by simp)
            · have hcell : ∀ (i : Nat) (hi : i < len) (j : Nat) (x : D), (Classical.choose (key ⟨i, hi⟩))[j]? = some x → ∃ v cs t fz, W.heap[a.block]? = some (.cells cs t fz) ∧ cs[a.off + (i * es.length + j)]? = some v ∧ RD (hp W) (fun b => b < W.heap.size) v x := fun i hi j x hx => by
                obtain ⟨v, hv, hr, _⟩ := (Classical.choose_spec (key ⟨i, hi⟩)).2 j x hx
                obtain ⟨_, cs, t', fz, q2, q3⟩ := cell_heap hv
                rw [add_block, add_block] at q2
                rw [add_off, add_off, ← hl] at q3
                exact ⟨v, cs, t', fz, q2, by rwa [Nat.add_assoc] at q3, hr⟩
              have hx0 : ∃ x, (Classical.choose (key ⟨0, h0⟩))[0]? = some x := ⟨_, List.getElem?_eq_getElem (by rw [(Classical.choose_spec (key ⟨0, h0⟩)).1]; exact hpos)⟩
              obtain ⟨x0, hx0⟩ := hx0
              have hspot : a.spot = none := by
                obtain ⟨v, hv, _⟩ := (Classical.choose_spec (key ⟨0, h0⟩)).2 0 x0 hx0
                have := (cell_heap hv).1
                simpa [Addr.add] using this
              have hblk : a.block < W.heap.size := by
                obtain ⟨v, cs, t', fz, q2, _⟩ := hcell 0 h0 0 x0 hx0
                exact (Array.getElem?_eq_some_iff.1 q2).1
              obtain ⟨ab, ao, asp⟩ := a
              simp only at hspot
              subst hspot
              let f : Nat → Nat → Value := fun i j => ((W.heap[ab]?).bind fun o => match o with
                | .cells cs _ _ => cs[ao + (i * es.length + j)]?
                | _ => none).getD undef
              have hfv : ∀ (i j : Nat) (v : Value) (cs : Array Value) (t' : TypeId) (fz : Nat × Nat), W.heap[ab]? = some (.cells cs t' fz) → cs[ao + (i * es.length + j)]? = some v → f i j = v := fun i j v cs t' fz q2 q3 => by
                simp only [f, q2, Option.bind_some, q3, Option.getD_some]
              have := RD.sl (h := hp W) (Im := fun b => b < W.heap.size) false es.length els ab ao cap f (fun el he => by obtain ⟨i, rfl⟩ := hmem el he; exact (Classical.choose_spec (key i)).1) hblk (by rw [hlenE]; exact hlc) (by simp) (fun i j el x h1 h2 => by
                  obtain ⟨hi, rfl⟩ := hat i el h1
                  obtain ⟨v, cs, t', fz, q2, q3, q4⟩ := hcell i hi j x h2
                  exact ⟨cs, t', fz, q2, by rw [hfv i j v cs t' fz q2 q3]; exact q3⟩) (fun i j el x h1 h2 => by
                  obtain ⟨hi, rfl⟩ := hat i el h1
                  obtain ⟨v, cs, t', fz, q2, q3, q4⟩ := hcell i hi j x h2
                  rw [hfv i j v cs t' fz q2 q3]; exact q4)
              rw [hlenE] at this
              exact this
        · exact absurd hs (by simp)
    · rename_i fs hu
      cases hg : shFs P (shOf P f2) fs.toList 0 with
      | none => rw [hg] at hs; simp at hs
      | some es =>
        rw [hg, Option.bind_some] at hs
        split at hs
        · rename_i hl
          injection hs with hs; subst hs
          obtain ⟨xs, n, hn, rfl, hcl, hxl, hx⟩ := DataW.trod_struct hu h
          injection hn with hn; subst hn
          have := cv_fields (cs := cs) (fun t c x shs h1 h2 h3 => conv fuel t c x f2 shs h1 h2 h3) fs.toList 0 es hg fun f hf => by
            obtain ⟨i, hi⟩ := List.getElem?_of_mem hf
            have hi' : fs[i]? = some f := by simpa using hi
            have h1 := hx i f hi'
            have hlt : i < xs.length := by rw [hxl]; exact (Array.getElem?_eq_some_iff.1 hi').1
            rw [List.getElem?_eq_getElem hlt] at h1
            refine ⟨_, h1, fun m hm => hw m ?_⟩
            simp only [DataW.weights, hu]
            exact DataW.weights_mem_each (j := i) (t := f.type) (d := xs[i].1) (by simp [hi']) (by simp [hlt]) m hm
          rw [List.drop_zero, List.take_of_length_le (by omega)] at this
          exact this
        · exact absurd hs (by simp)
    · rename_i n e hu
      cases hg : shOf P f2 e with
      | none => rw [hg] at hs; simp at hs
      | some es =>
        rw [hg, Option.bind_some] at hs
        split at hs
        · rename_i hl
          injection hs with hs; subst hs
          obtain ⟨xs, k, hn, rfl, hcl, hxl, hx⟩ := DataW.trod_array hu h
          injection hn with hn; subst hn
          have := cv_rep (W := W) (cs := cs) hl.1 n 0 fun i hi => by
            have h1 := hx i hi
            have hlt : i < xs.length := by rw [hxl]; exact hi
            rw [List.getElem?_eq_getElem hlt] at h1
            rw [Nat.zero_add]
            refine conv fuel e _ _ f2 es h1 (fun m hm => hw m ?_) hg
            simp only [DataW.weights, hu]
            exact weights_mem_all (j := i) (d := xs[i].1) (by simp [hlt]) m hm
          rw [Nat.zero_mul, List.drop_zero, List.take_of_length_le (by rw [hcl, ← hl.2, hl.1]; exact Nat.le_refl _)] at this
          exact this
        · exact absurd hs (by simp)
    · exact absurd hs (by simp)
theorem cv_slice {r : Reach} {b0 : Nat} {t e : TypeId} {v : Value} {d : DataW H} {ps : List MemPlace} {f2 b : Nat} {es : List Sh} (ht : P.underlying t = some (.slice e)) (hval : Value.okWide P W r b0 t v) (h : DataW.Trod enc P W 0 sp held t v d ps) (hw : ∀ m ∈ d.weights P t, m ≤ reachBytes) (hs : shOf P f2 t = some [.sl b es]) :
    v.oneCell' = true ∧ ∃ els, RD (hp W) (fun b => b < W.heap.size) v (.sl false es.length els) ∧ Fit (.sl b es) (.sl false es.length els) := by
  obtain ⟨a, n, c, rfl⟩ := WideShapes.okWide_slice ht hval
  obtain ⟨fuel, hf⟩ := h
  obtain ⟨ds, h1, h2, h3⟩ := conv fuel t _ _ f2 _ hf hw hs
  have hd : ds[0]? = some (ds[0]'(by rw [h1]; simp)) := List.getElem?_eq_getElem _
  obtain ⟨g1, g2⟩ := h3 0 _ _ (.sl b es) rfl hd rfl
  refine ⟨rfl, ?_⟩
  generalize ds[0]'(by rw [h1]; simp) = x at g1 g2
  cases g2 with
  | sl _ _ els q1 q2 q3 => exact ⟨els, g1, .sl _ _ els q1 q2 q3⟩
theorem rows_of {α : Type} (row : α → List D) (p : α → Prop) : ∀ {els : List (List D)}, (∀ el ∈ els, ∃ a, el = row a ∧ p a) → ∃ l : List α, els = l.map row ∧ ∀ a ∈ l, p a
  | [], _ => ⟨[], rfl, by simp⟩
  | el :: els, h => by
    obtain ⟨a, ha, hp⟩ := h el (by simp)
    obtain ⟨l, hl, hq⟩ := rows_of row p (els := els) fun e he => h e (by simp [he])
    exact ⟨a :: l, by rw [ha, hl]; rfl, fun x hx => by rcases List.mem_cons.1 hx with rfl | hx; exact hp; exact hq x hx⟩
end
theorem fit_u16 {x : D} (h : Fit (.int .u16) x) : ∃ n : Int, x = .u16 n ∧ 0 ≤ n ∧ n < 65536 := by
  cases h with
  | int _ k hk => exact ⟨k, rfl, by simp [Lit.wf, IntKind.min, IntKind.max, IntKind.bits, IntKind.signed] at hk; omega⟩
end Go.Ax

namespace Go.Ax
open Go.Proofs Go.RowKit Go.Shelf Go.Lib Go.ChangeShapes
theorem u16s_of : ∀ {ds : List D}, (∀ x ∈ ds, Fit (.int .u16) x) → ∃ p : List Nat, ds = rowU p ∧ ∀ n ∈ p, n < 65536
  | [], _ => ⟨[], rfl, by simp⟩
  | x :: ds, h => by
    obtain ⟨n, rfl, h1, h2⟩ := fit_u16 (h x (by simp))
    obtain ⟨p, rfl, hp⟩ := u16s_of (ds := ds) fun y hy => h y (List.mem_cons_of_mem _ hy)
    obtain ⟨m, rfl⟩ := Int.eq_ofNat_of_zero_le h1
    refine ⟨m :: p, rfl, fun k hk => ?_⟩
    rcases List.mem_cons.1 hk with rfl | hk
    · omega
    · exact hp k hk
theorem packet_of {ds : List D} (hl : ds.length = 8) (hf : ∀ (i : Nat) (x : D) (s : Sh), ds[i]? = some x → (List.replicate 8 (Sh.int .u16))[i]? = some s → Fit s x) : ∃ p, ds = rowU p ∧ OkK p := by
  obtain ⟨p, rfl, hp⟩ := u16s_of (ds := ds) fun x hx => by
    obtain ⟨i, hi⟩ := List.getElem?_of_mem hx
    have h8 : i < 8 := by have := (List.getElem?_eq_some_iff.1 hi).1; omega
    exact hf i x (.int .u16) hi (by rw [List.getElem?_replicate, if_pos h8])
  rw [rowU_len] at hl
  exact ⟨p, rfl, hl, fun i hi => by
    have : i < p.length := by omega
    simpa [List.getD, this] using hp p[i] (List.getElem_mem this)⟩
end Go.Ax

namespace Go.Ax
open Go.Proofs Go.RowKit Go.Shelf Go.Lib Go.ChangeShapes
theorem packets_of {b : Nat} {x : D} (h : Fit (.sl b (List.replicate 8 (.int .u16))) x) : ∃ l : List (List Nat), x = .sl false 8 (l.map rowU) ∧ (∀ q ∈ l, OkK q) ∧ l.length * b ≤ reachBytes := by
  cases h with
  | sl _ _ e0 a0 b0 c0 =>
    obtain ⟨l0, r0, q0⟩ := rows_of rowU OkK (els := e0) fun el he => by
      obtain ⟨p, hp, ok⟩ := packet_of (ds := el) (by rw [b0 el he]; simp) fun i y s h1 h2 => c0 el he i s y h2 h1
      exact ⟨p, hp, ok⟩
    subst r0
    exact ⟨l0, rfl, q0, by simpa using a0⟩
end Go.Ax
