/- What the card of this claim stands on, or the card itself: for every input, as the given row says. -/
import Derived.Test.YtjcgfiidbpailaaDoorQA07
import Derived.Test.YtjcgfiidbpailaaDoorQA09

namespace Go.Ax
open Go.Proofs Go.RowKit Go.Shelf Go.Lib
set_option maxRecDepth 10000
structure WordT where
  many : Bool
  not : Bool
  sw : Int
  pt : Int
  has : List (Int × Int)
def rowWd (w : WordT) : List D := [.v (.bool w.many), .v (.bool w.not), .i64 w.sw, .i64 w.pt, .sl false 2 (w.has.map rowPr)]
def testsGo : List (List UInt8) → List (Int × Int) → List (Int × Int) × Bool
  | [], acc => (acc, true)
  | p :: r, acc => if (testP p).2 = true then testsGo r (acc ++ [(testP p).1]) else (acc, false)
def bareW (l : List UInt8) : List UInt8 := Lib.trimPrefix l [33]
def negW (l : List UInt8) : Bool := Lib.hasPrefix l [33]
def partsW (l : List UInt8) : List (List UInt8) := splitL 46 (bareW l)
def atW (l : List UInt8) : List UInt8 × List UInt8 × Bool := cutL 58 ((partsW l).headD [])
def headOk (l : List UInt8) : Bool := (atW l).2.2 && (placeP (atW l).1).2 && (placeP (atW l).2.1).2 && decide ((partsW l).length ≤ 7)
def readW (l : List UInt8) : WordT × Bool :=
  if l = [46, 46] then (⟨true, false, 0, 0, []⟩, true)
  else if headOk l = true then (⟨false, negW l, (placeP (atW l).1).1, (placeP (atW l).2.1).1, (testsGo (partsW l).tail []).1⟩, (testsGo (partsW l).tail []).2)
  else (⟨false, negW l, (placeP (atW l).1).1, (placeP (atW l).2.1).1, []⟩, false)
theorem Ctr.tup1 {E : Env} {f : FuncId} {args : List AV} {hin : HL} {b : Bool} {xs : List D} (h : Ctr E f args hin fun o => ∃ r, (∀ (w : World) (Im : Nat → Prop) (ρ : Nat → Option Loc) (v : Value), RA (hp w) Im ρ v r → RA (hp w) Im ρ v (.dagg xs)) ∧ o = .ret (.tup [r, .bool b]) []) : Ctr E f args hin fun o => o = .ret (.tup [.dagg xs, .bool b]) [] :=
  h.re fun o ⟨r, h1, h2⟩ => ⟨_, .tup [.dagg xs, .bool b], h2, fun w Im ρ v H => by
    cases H with
    | tup cs _ hl hr =>
      refine .tup cs _ hl fun i u x e1 e2 => ?_
      match i with
      | 0 => simp at e2; subst e2; exact h1 _ _ _ _ (hr 0 u r e1 rfl)
      | 1 => simp at e2; subst e2; exact hr 1 u _ e1 rfl
      | n + 2 => simp at e2, fun q => rfl, rfl⟩
theorem RA.dagg_le' {xs ys : List D} (h : DLes xs ys) : ∀ (w : World) (Im : Nat → Prop) (ρ : Nat → Option Loc) (v : Value), RA (hp w) Im ρ v (.dagg xs) → RA (hp w) Im ρ v (.dagg ys) := fun _ _ _ _ H => H.dagg_le h
theorem RA.agg_dagg {xs : List AV} {ys : List D} (h : xs = ys.map .d) : ∀ (w : World) (Im : Nat → Prop) (ρ : Nat → Option Loc) (v : Value), RA (hp w) Im ρ v (.agg xs) → RA (hp w) Im ρ v (.dagg ys) := fun _ _ _ _ H => by subst h; exact H.dagg_of
theorem trimPrefix_len (l p : List UInt8) : (Lib.trimPrefix l p).length ≤ l.length := by
  unfold Lib.trimPrefix
  split
  · simp
  · exact Nat.le_refl _
theorem nil_le (a b c d : D) : DLes [a, b, c, d, .v (.slice Option.none 0 0)] [a, b, c, d, .sl false 2 []] := ⟨.inl rfl, .inl rfl, .inl rfl, .inl rfl, .inr (.inl ⟨rfl, _, _, rfl⟩), trivial⟩
theorem read37_ctr (g : GP) (he : ∀ w, g.G w → ErrG w) (l : List UInt8) (hl : l.length < 2 ^ 30) : Ctr (ax g).E 70 [.str (baL l)] [] fun o => o = .ret (.tup [.dagg (rowWd (readW l).1), .bool (readW l).2]) [] := by
  refine Ctr.tup1 ?_
  have hs := ba_size l
  by_cases h0 : l = [46, 46]
  · have hr : readW l = (⟨true, false, 0, 0, []⟩, true) := by unfold readW; rw [if_pos h0]
    rw [hr]
    subst h0
    refine Ctr.body (X := ax g) _ 84 [] [.cell 2 135, .tmp 3] Tryd.func70 rfl rfl rfl rfl (by decide +kernel) rfl rfl ?_
    conv => whnf
    repeat' (first | (refine And.intro (by first | exact rfl | decide | exact Nat.le_of_ble_eq_true rfl | exact ⟨_, rfl⟩ | exact ⟨_, _, rfl⟩ | exact Nat.le_refl _ | exact Int.le_refl _ | omega | (simp only []; omega) | exact True.intro | (simp only []; omega) | (simp only [List.length_cons]; omega) | (simp only [List.length_cons, List.length_nil]; omega) | exact ⟨⟨_, _, rfl, rfl, Nat.le_of_ble_eq_true rfl⟩, trivial⟩ | exact ⟨⟨_, _, rfl, rfl, Nat.le_of_ble_eq_true rfl⟩, ⟨_, _, rfl, rfl, Nat.le_of_ble_eq_true rfl⟩, trivial⟩ | exact ⟨⟨_, _, rfl, rfl, Nat.le_of_ble_eq_true rfl⟩, ⟨_, _, rfl, rfl, Nat.le_of_ble_eq_true rfl⟩, ⟨_, _, rfl, rfl, Nat.le_of_ble_eq_true rfl⟩, trivial⟩) ?_; conv => whnf) | (refine ifB_intro (fun hA => ?_) (fun hA => ?_) <;> (try rw [hA]) <;> (conv => whnf) <;> (first | replace hA := of_decide_eq_true hA | replace hA := of_decide_eq_false hA | replace hA := eq_of_beq hA | replace hA := ne_of_beq_false hA | replace hA := bne_iff_ne.1 hA | replace hA := bne_eq_false_iff_eq.1 hA | skip) <;> (try simp only [List.length_map, cond_true, cond_false, Bool.not_eq_true', Bool.not_eq_false', beq_iff_eq, beq_eq_false_iff_ne, ne_eq] at hA)) | (rw [getD_map _ _ _ _ (by assumption)]; conv => whnf))
    refine ⟨⟨[], ?_⟩⟩
    conv => whnf
    repeat' (first | (refine And.intro (by first | exact rfl | decide | exact Nat.le_of_ble_eq_true rfl | exact ⟨_, rfl⟩ | exact ⟨_, _, rfl⟩ | exact Nat.le_refl _ | exact Int.le_refl _ | omega | (simp only [List.length_map]; omega) | exact True.intro | (simp only [IntKind.wrap_i64, List.length_map]; omega) | (simp only [List.map_cons, List.map_nil, List.length_cons, Option.getD]; omega) | (simp only [bsz, ByteArray.size_append, List.size_toArray, List.length_cons, List.length_nil]; omega) | exact ⟨⟨_, _, rfl, rfl, Nat.le_of_ble_eq_true rfl⟩, trivial⟩ | exact ⟨⟨_, _, rfl, rfl, Nat.le_of_ble_eq_true rfl⟩, ⟨_, _, rfl, rfl, Nat.le_of_ble_eq_true rfl⟩, trivial⟩ | exact ⟨⟨_, _, rfl, rfl, Nat.le_of_ble_eq_true rfl⟩, ⟨_, _, rfl, rfl, Nat.le_of_ble_eq_true rfl⟩, ⟨_, _, rfl, rfl, Nat.le_of_ble_eq_true rfl⟩, trivial⟩) ?_; conv => whnf) | (refine ifB_intro (fun hA => ?_) (fun hA => ?_) <;> (try rw [hA]) <;> (conv => whnf) <;> (first | replace hA := of_decide_eq_true hA | replace hA := of_decide_eq_false hA | replace hA := eq_of_beq hA | replace hA := ne_of_beq_false hA | replace hA := bne_iff_ne.1 hA | replace hA := bne_eq_false_iff_eq.1 hA | skip) <;> (try simp only [List.length_map, cond_true, cond_false, Bool.not_eq_true', Bool.not_eq_false', beq_iff_eq, beq_eq_false_iff_ne, ne_eq] at hA)) | (rw [getD_map _ _ _ _ (by assumption)]; conv => whnf))
    exact ⟨_, RA.dagg_le' (nil_le _ _ _ _), rfl⟩
  · have hbl : (bareW l).length ≤ l.length := trimPrefix_len l [33]
    have hne : 0 < (partsW l).length := by
      rcases Nat.eq_zero_or_pos (partsW l).length with h | h
      · exact absurd (List.eq_nil_of_length_eq_zero h) (splitL_ne 46 _)
      · exact h
    have hps : ∀ p ∈ partsW l, p.length ≤ l.length := fun p hp => Nat.le_trans (split_len 46 _ p hp) hbl
    have hpn : (partsW l).length ≤ l.length + 1 := Nat.le_trans (splitL_le 46 _) (by omega)
    have c1 := cutPrefix_ctr g (baL l) ⟨#[33]⟩
    rw [ba_toList] at c1
    have c2 := ssplit_ctr g (baL (bareW l)) 46 (by rw [ba_size]; omega)
    rw [ba_toList] at c2
    obtain ⟨a1, a2⟩ := cutL_len 58 ((partsW l).headD [])
    have hhd : ((partsW l).headD []).length ≤ l.length := by
      cases hq : partsW l with
      | nil => simp
      | cons x r => exact hps x (by rw [hq]; simp)
    have c3 := cut_ctr g (baL ((partsW l).headD [])) 58 (by rw [ba_size]; omega)
    rw [ba_toList, cutV_eq] at c3
    have c4 := place37_ctr g he (atW l).1 (by unfold atW; omega)
    have c5 := place37_ctr g he (atW l).2.1 (by unfold atW; omega)
    have hr : readW l = if headOk l = true then (⟨false, negW l, (placeP (atW l).1).1, (placeP (atW l).2.1).1, (testsGo (partsW l).tail []).1⟩, (testsGo (partsW l).tail []).2) else (⟨false, negW l, (placeP (atW l).1).1, (placeP (atW l).2.1).1, []⟩, false) := by unfold readW; rw [if_neg h0]
    rw [hr]
    unfold headOk
    change Ctr _ _ [.str (baL (bareW l)), .str ⟨#[46]⟩] _ (fun o => o = .ret (.msl 9400 (partsW l).length 0 (partsW l).length) [(9400, some (.buf 1 9 ((partsW l).map rowW)))]) at c2
    change Ctr _ _ _ _ (fun o => o = .ret (.tup [.str (baL (atW l).1), .str (baL (atW l).2.1), .bool (atW l).2.2]) []) at c3
    change Ctr _ _ _ _ (fun o => o = .ret (.tup [.str (baL (bareW l)), .bool (negW l)]) []) at c1
    clear hr
    generalize atW l = A at *
    generalize hP : partsW l = P at *
    generalize negW l = neg at *
    generalize bareW l = B at *
    obtain ⟨x, y, two⟩ := A
    dsimp only at *
    obtain ⟨p0, ps, rfl⟩ : ∃ p0 ps, P = p0 :: ps := by
      cases P with
      | nil => simp at hne
      | cons p0 ps => exact ⟨p0, ps, rfl⟩
    refine Ctr.body (X := ax g) _ 84 [] [.cell 2 135, .tmp 3] Tryd.func70 rfl rfl rfl rfl (by decide +kernel) rfl rfl ?_
    conv => whnf
    have hlen : ((p0 :: ps).map rowW).length = (p0 :: ps).length := List.length_map _
    repeat' (first | (refine And.intro (by first | exact rfl | decide | exact Nat.le_of_ble_eq_true rfl | exact ⟨_, rfl⟩ | exact ⟨_, _, rfl⟩ | exact Nat.le_refl _ | exact Int.le_refl _ | omega | (simp only [List.length_map]; omega) | exact True.intro | (simp only [List.length_map]; omega) | (simp only [List.map_cons, List.length_cons, Option.getD]; omega) | (simp only [List.length_cons, List.length_nil]; omega) | exact ⟨⟨_, _, rfl, rfl, Nat.le_of_ble_eq_true rfl⟩, trivial⟩ | exact ⟨⟨_, _, rfl, rfl, Nat.le_of_ble_eq_true rfl⟩, ⟨_, _, rfl, rfl, Nat.le_of_ble_eq_true rfl⟩, trivial⟩ | exact ⟨⟨_, _, rfl, rfl, Nat.le_of_ble_eq_true rfl⟩, ⟨_, _, rfl, rfl, Nat.le_of_ble_eq_true rfl⟩, ⟨_, _, rfl, rfl, Nat.le_of_ble_eq_true rfl⟩, trivial⟩) ?_; conv => whnf) | (refine ifB_intro (fun hA => ?_) (fun hA => ?_) <;> (try rw [hA]) <;> (conv => whnf) <;> (first | replace hA := of_decide_eq_true hA | replace hA := of_decide_eq_false hA | replace hA := eq_of_beq hA | replace hA := ne_of_beq_false hA | replace hA := bne_iff_ne.1 hA | replace hA := bne_eq_false_iff_eq.1 hA | skip) <;> (try simp only [cond_false, Bool.not_eq_true', Bool.not_eq_false', ne_eq] at hA)) | (rw [ba_toList] at hA; exact absurd hA h0) | (refine CallP.det (c1) ?_; conv => whnf) | (refine CallD.det (c1) ?_; conv => whnf) | (refine CallP.makes rfl c2 ?_; conv => whnf) | (refine CallP.det (c3) ?_; conv => whnf) | (refine CallD.det (c3) ?_; conv => whnf) | (refine CallP.det (c4) ?_; conv => whnf) | (refine CallD.det (c4) ?_; conv => whnf) | (refine CallP.det (c5) ?_; conv => whnf) | (refine CallD.det (c5) ?_; conv => whnf) | (rw [hlen]; conv => whnf) | (rw [getD_map _ _ _ _ (by assumption)]; conv => whnf))
    iterate 4
      · have hc : ¬ ((two && (placeP x).2 && (placeP y).2 && decide ((p0 :: ps).length ≤ 7)) = true) := by
          simp only [Bool.and_eq_true, decide_eq_true_eq]
          rintro ⟨⟨⟨q1, q2⟩, q3⟩, q4⟩
          first | omega | (simp_all; done)
        rw [if_neg hc]
        refine ⟨⟨[], ?_⟩⟩
        conv => whnf
        repeat' (first | (refine And.intro (by first | exact rfl | decide | exact Nat.le_of_ble_eq_true rfl | exact ⟨_, rfl⟩ | exact ⟨_, _, rfl⟩ | exact Nat.le_refl _ | exact Int.le_refl _ | omega | (simp only [List.length_map]; omega) | exact True.intro | (simp only [IntKind.wrap_i64, List.length_map]; omega) | (simp only [List.map_cons, List.map_nil, List.length_cons, Option.getD]; omega) | (simp only [bsz, ByteArray.size_append, List.size_toArray, List.length_cons, List.length_nil]; omega) | exact ⟨⟨_, _, rfl, rfl, Nat.le_of_ble_eq_true rfl⟩, trivial⟩ | exact ⟨⟨_, _, rfl, rfl, Nat.le_of_ble_eq_true rfl⟩, ⟨_, _, rfl, rfl, Nat.le_of_ble_eq_true rfl⟩, trivial⟩ | exact ⟨⟨_, _, rfl, rfl, Nat.le_of_ble_eq_true rfl⟩, ⟨_, _, rfl, rfl, Nat.le_of_ble_eq_true rfl⟩, ⟨_, _, rfl, rfl, Nat.le_of_ble_eq_true rfl⟩, trivial⟩) ?_; conv => whnf) | (refine ifB_intro (fun hA => ?_) (fun hA => ?_) <;> (try rw [hA]) <;> (conv => whnf) <;> (first | replace hA := of_decide_eq_true hA | replace hA := of_decide_eq_false hA | replace hA := eq_of_beq hA | replace hA := ne_of_beq_false hA | replace hA := bne_iff_ne.1 hA | replace hA := bne_eq_false_iff_eq.1 hA | skip) <;> (try simp only [List.length_map, cond_true, cond_false, Bool.not_eq_true', Bool.not_eq_false', beq_iff_eq, beq_eq_false_iff_ne, ne_eq] at hA)) | (rw [getD_map _ _ _ _ (by assumption)]; conv => whnf))
        exact ⟨_, RA.dagg_le' (nil_le _ _ _ _), rfl⟩
    · have hc : (two && (placeP x).2 && (placeP y).2 && decide ((p0 :: ps).length ≤ 7)) = true := by
        simp only [Bool.and_eq_true, decide_eq_true_eq]
        refine ⟨⟨⟨?_, ?_⟩, ?_⟩, by omega⟩ <;> simp_all
      rw [if_pos hc]
      refine LoopP.asVar 2 5 _ rfl ?_
      refine LoopP.ownCell 2 4 9500 2 29 _ rfl rfl rfl ?_
      refine LoopP.inv (X := ax g) (fun z : Nat × List (Int × Int) => { f := [(2, .ptr 2 0), (3, .bool false), (62, .msl 9400 (p0 :: ps).length 1 ps.length), (63, .i64 ps.length), (64, .i64 z.1)], h := [(2, some (.var [.bool false, .bool neg, .i64 (placeP x).1, .i64 (placeP y).1, .msl 9500 z.2.length 0 z.2.length])), (9500, some (.buf 2 29 (z.2.map rowPr))), (9400, some (.buf 1 9 ((p0 :: ps).map rowW)))] }) (fun z => z.1 ≤ ps.length ∧ z.2.length ≤ z.1 ∧ testsGo ps [] = testsGo (ps.drop z.1) z.2) (fun z => ps.length - z.1) (0, []) ⟨Nat.zero_le _, Nat.le_refl _, rfl⟩ ⟨⟨rfl, rfl, rfl, rfl, rfl, trivial⟩, ⟨fun o h => h, fun o h => h, fun o h => h, trivial⟩⟩ fun ⟨i, acc⟩ ⟨hi, hac, hI⟩ => ?_
      dsimp only at hi hac hI ⊢
      have hlp : ((p0 :: ps).map rowW).length = (p0 :: ps).length := List.length_map _
      conv => whnf
      refine ifB_intro (fun h => ?_) (fun h => ?_)
      · have h : i < ps.length := by have h0 := of_decide_eq_true h; omega
        have hge : ((p0 :: ps).map rowW).getD (1 + ((i : Nat) : Int).toNat) [] = rowW ps[i] := by
          rw [show 1 + ((i : Nat) : Int).toNat = i + 1 from by omega, List.map_cons, List.getD_cons_succ]
          simp [List.getD, h]
        have hpl := hps ps[i] (by simp)
        have ct := test37_ctr g he ps[i] (by omega)
        have hst : testsGo (ps.drop i) acc = if (testP ps[i]).2 = true then testsGo (ps.drop (i + 1)) (acc ++ [(testP ps[i]).1]) else (acc, false) := by
          rw [List.drop_eq_getElem_cons h, testsGo]
        have hal : (acc.map rowPr).length = acc.length := List.length_map _
        generalize testP ps[i] = T at *
        obtain ⟨⟨tf, tn⟩, tb⟩ := T
        dsimp only at ct hst
        conv => whnf
        have hpc : (p0 :: ps).length = ps.length + 1 := rfl
        repeat' (first | (refine And.intro (by first | exact rfl | decide | exact Nat.le_of_ble_eq_true rfl | exact ⟨_, rfl⟩ | exact ⟨_, _, rfl⟩ | exact Nat.le_refl _ | exact Int.le_refl _ | omega | (simp only [List.length_map]; omega) | exact True.intro | (simp only [List.length_map]; omega) | (simp only [List.map_cons, List.length_cons]; omega) | (simp only [List.length_cons, List.length_nil]; omega) | exact ⟨⟨_, _, rfl, rfl, Nat.le_of_ble_eq_true rfl⟩, trivial⟩ | exact ⟨⟨_, _, rfl, rfl, Nat.le_of_ble_eq_true rfl⟩, ⟨_, _, rfl, rfl, Nat.le_of_ble_eq_true rfl⟩, trivial⟩ | exact ⟨⟨_, _, rfl, rfl, Nat.le_of_ble_eq_true rfl⟩, ⟨_, _, rfl, rfl, Nat.le_of_ble_eq_true rfl⟩, ⟨_, _, rfl, rfl, Nat.le_of_ble_eq_true rfl⟩, trivial⟩) ?_; conv => whnf) | (refine ifB_intro (fun hA => ?_) (fun hA => ?_) <;> (try rw [hA]) <;> (conv => whnf) <;> (first | replace hA := of_decide_eq_true hA | replace hA := of_decide_eq_false hA | replace hA := eq_of_beq hA | replace hA := ne_of_beq_false hA | replace hA := bne_iff_ne.1 hA | replace hA := bne_eq_false_iff_eq.1 hA | skip) <;> (try simp only [Bool.not_eq_true', Bool.not_eq_false'] at hA)) | (erw [hge]; conv => whnf) | (rw [hlp]; conv => whnf) | (refine CallP.det (ct) ?_; conv => whnf) | (refine CallD.det (ct) ?_; conv => whnf) | (refine And.intro hal.symm ?_; conv => whnf) | (refine And.intro (by show ((acc.map rowPr).length + 1) * 16 ≤ 140737488355328; rw [hal]; omega) ?_; conv => whnf) | (rw [getD_map _ _ _ _ (by assumption)]; conv => whnf))
        · have ht : testsGo (p0 :: ps).tail [] = (acc, false) := by
            show testsGo ps [] = _
            rw [hI, hst, if_neg (by simp_all)]
          rw [ht]
          refine ⟨⟨[], ?_⟩⟩
          conv => whnf
          repeat' (first | (refine And.intro (by first | exact rfl | decide | exact Nat.le_of_ble_eq_true rfl | exact ⟨_, rfl⟩ | exact ⟨_, _, rfl⟩ | exact Nat.le_refl _ | exact Int.le_refl _ | omega | (simp only [List.length_map]; omega) | exact True.intro | (simp only [IntKind.wrap_i64, List.length_map]; omega) | (simp only [List.map_cons, List.map_nil, List.length_cons, Option.getD]; omega) | (simp only [bsz, ByteArray.size_append, List.size_toArray, List.length_cons, List.length_nil]; omega) | exact ⟨⟨_, _, rfl, rfl, Nat.le_of_ble_eq_true rfl⟩, trivial⟩ | exact ⟨⟨_, _, rfl, rfl, Nat.le_of_ble_eq_true rfl⟩, ⟨_, _, rfl, rfl, Nat.le_of_ble_eq_true rfl⟩, trivial⟩ | exact ⟨⟨_, _, rfl, rfl, Nat.le_of_ble_eq_true rfl⟩, ⟨_, _, rfl, rfl, Nat.le_of_ble_eq_true rfl⟩, ⟨_, _, rfl, rfl, Nat.le_of_ble_eq_true rfl⟩, trivial⟩) ?_; conv => whnf) | (refine ifB_intro (fun hA => ?_) (fun hA => ?_) <;> (try rw [hA]) <;> (conv => whnf) <;> (first | replace hA := of_decide_eq_true hA | replace hA := of_decide_eq_false hA | replace hA := eq_of_beq hA | replace hA := ne_of_beq_false hA | replace hA := bne_iff_ne.1 hA | replace hA := bne_eq_false_iff_eq.1 hA | skip) <;> (try simp only [List.length_map, cond_true, cond_false, Bool.not_eq_true', Bool.not_eq_false', beq_iff_eq, beq_eq_false_iff_ne, ne_eq] at hA)) | (refine And.intro hal.symm ?_; conv => whnf) | (rw [getD_map _ _ _ _ (by assumption)]; conv => whnf))
          refine ⟨.agg [.bool false, .bool neg, .i64 (placeP x).1, .i64 (placeP y).1, .d (.sl false 2 (((acc.map rowPr).drop 0).take acc.length))], RA.agg_dagg ?_, rfl⟩
          rw [List.drop_zero, List.take_of_length_le (by rw [hal]; exact Nat.le_refl _)]
          rfl
        · rw [if_pos (by simp_all)] at hst
          refine ⟨(i + 1, acc ++ [(tf, tn)]), ⟨by show i + 1 ≤ _; omega, by show (acc ++ [(tf, tn)]).length ≤ i + 1; rw [List.length_append, List.length_singleton]; omega, by show _ = testsGo (ps.drop (i + 1)) (acc ++ [(tf, tn)]); rw [hI, hst]⟩, by show ps.length - (i + 1) < _; omega, ⟨⟨rfl, rfl, rfl, rfl, AV.int_eq (i64_succ (by omega)), trivial⟩, ⟨fun o h => ?_, fun o h => ?_, fun o h => h, trivial⟩⟩⟩
          · rw [← h]
            show some (AObj.var [.bool false, .bool neg, .i64 (placeP x).1, .i64 (placeP y).1, .msl 9500 ((acc.map rowPr).length + 1) 0 ((acc.map rowPr).length + 1)]) = some (AObj.var [.bool false, .bool neg, .i64 (placeP x).1, .i64 (placeP y).1, .msl 9500 (acc ++ [(tf, tn)]).length 0 (acc ++ [(tf, tn)]).length])
            rw [hal, List.length_append]
            rfl
          · rw [← h, List.map_append]; rfl
      · have h : i = ps.length := by have h0 := of_decide_eq_false h; omega
        subst h
        rw [List.drop_length, testsGo] at hI
        have hal : (acc.map rowPr).length = acc.length := List.length_map _
        have ht : testsGo (p0 :: ps).tail [] = (acc, true) := hI
        rw [ht]
        conv => whnf
        repeat' (first | (refine And.intro (by first | exact rfl | decide | exact Nat.le_of_ble_eq_true rfl | exact ⟨_, rfl⟩ | exact ⟨_, _, rfl⟩ | exact Nat.le_refl _ | exact Int.le_refl _ | omega | (simp only [List.length_map]; omega) | exact True.intro | (simp only [IntKind.wrap_i64, List.length_map]; omega) | (simp only [List.map_cons, List.map_nil, List.length_cons, Option.getD]; omega) | (simp only [bsz, ByteArray.size_append, List.size_toArray, List.length_cons, List.length_nil]; omega) | exact ⟨⟨_, _, rfl, rfl, Nat.le_of_ble_eq_true rfl⟩, trivial⟩ | exact ⟨⟨_, _, rfl, rfl, Nat.le_of_ble_eq_true rfl⟩, ⟨_, _, rfl, rfl, Nat.le_of_ble_eq_true rfl⟩, trivial⟩ | exact ⟨⟨_, _, rfl, rfl, Nat.le_of_ble_eq_true rfl⟩, ⟨_, _, rfl, rfl, Nat.le_of_ble_eq_true rfl⟩, ⟨_, _, rfl, rfl, Nat.le_of_ble_eq_true rfl⟩, trivial⟩) ?_; conv => whnf) | (refine ifB_intro (fun hA => ?_) (fun hA => ?_) <;> (try rw [hA]) <;> (conv => whnf) <;> (first | replace hA := of_decide_eq_true hA | replace hA := of_decide_eq_false hA | replace hA := eq_of_beq hA | replace hA := ne_of_beq_false hA | replace hA := bne_iff_ne.1 hA | replace hA := bne_eq_false_iff_eq.1 hA | skip) <;> (try simp only [List.length_map, cond_true, cond_false, Bool.not_eq_true', Bool.not_eq_false', beq_iff_eq, beq_eq_false_iff_ne, ne_eq] at hA)) | (rw [getD_map _ _ _ _ (by assumption)]; conv => whnf))
        refine ⟨⟨[], ?_⟩⟩
        conv => whnf
        repeat' (first | (refine And.intro (by first | exact rfl | decide | exact Nat.le_of_ble_eq_true rfl | exact ⟨_, rfl⟩ | exact ⟨_, _, rfl⟩ | exact Nat.le_refl _ | exact Int.le_refl _ | omega | (simp only [List.length_map]; omega) | exact True.intro | (simp only [IntKind.wrap_i64, List.length_map]; omega) | (simp only [List.map_cons, List.map_nil, List.length_cons, Option.getD]; omega) | (simp only [bsz, ByteArray.size_append, List.size_toArray, List.length_cons, List.length_nil]; omega) | exact ⟨⟨_, _, rfl, rfl, Nat.le_of_ble_eq_true rfl⟩, trivial⟩ | exact ⟨⟨_, _, rfl, rfl, Nat.le_of_ble_eq_true rfl⟩, ⟨_, _, rfl, rfl, Nat.le_of_ble_eq_true rfl⟩, trivial⟩ | exact ⟨⟨_, _, rfl, rfl, Nat.le_of_ble_eq_true rfl⟩, ⟨_, _, rfl, rfl, Nat.le_of_ble_eq_true rfl⟩, ⟨_, _, rfl, rfl, Nat.le_of_ble_eq_true rfl⟩, trivial⟩) ?_; conv => whnf) | (refine ifB_intro (fun hA => ?_) (fun hA => ?_) <;> (try rw [hA]) <;> (conv => whnf) <;> (first | replace hA := of_decide_eq_true hA | replace hA := of_decide_eq_false hA | replace hA := eq_of_beq hA | replace hA := ne_of_beq_false hA | replace hA := bne_iff_ne.1 hA | replace hA := bne_eq_false_iff_eq.1 hA | skip) <;> (try simp only [List.length_map, cond_true, cond_false, Bool.not_eq_true', Bool.not_eq_false', beq_iff_eq, beq_eq_false_iff_ne, ne_eq] at hA)) | (refine And.intro hal.symm ?_; conv => whnf) | (rw [getD_map _ _ _ _ (by assumption)]; conv => whnf))
        refine ⟨.agg [.bool false, .bool neg, .i64 (placeP x).1, .i64 (placeP y).1, .d (.sl false 2 (((acc.map rowPr).drop 0).take acc.length))], RA.agg_dagg ?_, rfl⟩
        rw [List.drop_zero, List.take_of_length_le (by rw [hal]; exact Nat.le_refl _)]
        rfl
def parseW (l : List UInt8) : Option (List WordT) := if 200 < l.length ∨ 30 < (wordsL l).length ∨ (wordsL l).all (fun x => (readW x).2) = false then none else some ((wordsL l).map fun x => (readW x).1)
def parseV (o : Option (List WordT)) : AV := match o with
  | some w => .tup [.d (.sl false 5 (w.map rowWd)), .bool true]
  | none => .tup [.d (.v (.slice none 0 0)), .bool false]
theorem words_len {l x : List UInt8} (h : x ∈ wordsL l) : x.length ≤ l.length := split_len 32 l x (List.mem_filter.1 h).1
theorem parse37_ctr (g : GP) (he : ∀ w, g.G w → ErrG w) (l : List UInt8) (hl : l.length < 2 ^ 30) : Ctr (ax g).E 42 [.str (baL l)] [] fun o => o = .ret (parseV (parseW l)) [] := by
  have hs := ba_size l
  have h1 := psplit_ctr g (baL l) (by omega)
  rw [ba_toList] at h1
  have hwl := fun x (h : x ∈ wordsL l) => words_len h
  unfold parseW
  generalize wordsL l = ws at *
  have hwm : (ws.map rowW).length = ws.length := List.length_map _
  refine Ctr.body (X := ax g) _ 39 [] [.tmp 2, .tmp 3] Tryd.func42 rfl rfl rfl rfl (by decide +kernel) rfl rfl ?_
  conv => whnf
  repeat' (first | (refine And.intro (by first | exact rfl | decide | exact Nat.le_of_ble_eq_true rfl | exact ⟨_, rfl⟩ | exact ⟨_, _, rfl⟩ | exact Nat.le_refl _ | exact Int.le_refl _ | omega | (simp only [List.length_map]; omega) | exact True.intro | (simp only [IntKind.wrap_i64, List.length_map]; omega) | (simp only [List.map_cons, List.map_nil, List.length_cons, Option.getD]; omega) | (simp only [bsz, ByteArray.size_append, List.size_toArray, List.length_cons, List.length_nil]; omega) | exact ⟨⟨_, _, rfl, rfl, Nat.le_of_ble_eq_true rfl⟩, trivial⟩ | exact ⟨⟨_, _, rfl, rfl, Nat.le_of_ble_eq_true rfl⟩, ⟨_, _, rfl, rfl, Nat.le_of_ble_eq_true rfl⟩, trivial⟩ | exact ⟨⟨_, _, rfl, rfl, Nat.le_of_ble_eq_true rfl⟩, ⟨_, _, rfl, rfl, Nat.le_of_ble_eq_true rfl⟩, ⟨_, _, rfl, rfl, Nat.le_of_ble_eq_true rfl⟩, trivial⟩) ?_; conv => whnf) | (refine ifB_intro (fun hA => ?_) (fun hA => ?_) <;> (try rw [hA]) <;> (conv => whnf) <;> (first | replace hA := of_decide_eq_true hA | replace hA := of_decide_eq_false hA | replace hA := eq_of_beq hA | replace hA := ne_of_beq_false hA | replace hA := bne_iff_ne.1 hA | replace hA := bne_eq_false_iff_eq.1 hA | skip) <;> (try simp only [List.length_map] at hA)) | (refine CallP.det (h1) ?_; conv => whnf) | (refine CallD.det (h1) ?_; conv => whnf) | (rw [getD_map _ _ _ _ (by assumption)]; conv => whnf))
  · rw [if_pos (.inl (by omega))]
    refine ⟨⟨[], ?_⟩⟩
    conv => whnf
    rfl
  · rw [if_pos (.inr (.inl (by omega)))]
    refine ⟨⟨[], ?_⟩⟩
    conv => whnf
    rfl
  · refine LoopP.own 5 9501 5 135 rfl rfl rfl ?_
    refine LoopP.inv (X := ax g) (fun i : Nat => { f := [(2, .d (.v (.slice none 0 0))), (3, .bool false), (5, .msl 9501 i 0 i), (20, .d (.sl false 1 (ws.map rowW))), (21, .i64 ws.length), (22, .i64 i)], h := [(9501, some (.buf 5 135 ((ws.take i).map fun x => rowWd (readW x).1)))] }) (fun i => i ≤ ws.length ∧ (ws.take i).all (fun x => (readW x).2) = true) (fun i => ws.length - i) 0 ⟨Nat.zero_le _, rfl⟩ ⟨⟨rfl, rfl, rfl, rfl, AV.int_eq (by rw [hwm]), rfl, trivial⟩, ⟨fun o h => h, trivial⟩⟩ fun i ⟨hi, hI⟩ => ?_
    have hbl : ((ws.take i).map fun x => rowWd (readW x).1).length = i := by rw [List.length_map, List.length_take]; omega
    conv => whnf
    refine ifB_intro (fun h => ?_) (fun h => ?_)
    · have h : i < ws.length := by have h0 := of_decide_eq_true h; omega
      have hc := read37_ctr g he ws[i] (by have := hwl ws[i] (by simp); omega)
      have ht : ws.take (i + 1) = ws.take i ++ [ws[i]] := List.take_succ_eq_append_getElem h
      have hbad : (readW ws[i]).2 = false → ws.all (fun x => (readW x).2) = false := fun hb => by
        rw [Bool.eq_false_iff]; intro ha
        have := List.all_eq_true.1 ha ws[i] (by simp)
        rw [hb] at this; simp at this
      have hmx0 : (ws.take (i + 1)).map (fun x => rowWd (readW x).1) = (ws.take i).map (fun x => rowWd (readW x).1) ++ [rowWd (readW ws[i]).1] := by rw [ht, List.map_append]; rfl
      generalize hrw : readW ws[i] = R at *
      obtain ⟨⟨wm, wn, wsw, wpt, wh⟩, ok⟩ := R
      dsimp only at hc hbad
      conv => whnf
      repeat' (first | (refine And.intro (by first | exact rfl | decide | exact Nat.le_of_ble_eq_true rfl | exact ⟨_, rfl⟩ | exact ⟨_, _, rfl⟩ | exact Nat.le_refl _ | exact Int.le_refl _ | omega | (simp only [List.length_map]; omega) | exact True.intro | (simp only [List.length_map]; omega) | (simp only [List.length_cons]; omega) | (simp only [List.length_cons, List.length_nil]; omega) | exact ⟨⟨_, _, rfl, rfl, Nat.le_of_ble_eq_true rfl⟩, trivial⟩ | exact ⟨⟨_, _, rfl, rfl, Nat.le_of_ble_eq_true rfl⟩, ⟨_, _, rfl, rfl, Nat.le_of_ble_eq_true rfl⟩, trivial⟩ | exact ⟨⟨_, _, rfl, rfl, Nat.le_of_ble_eq_true rfl⟩, ⟨_, _, rfl, rfl, Nat.le_of_ble_eq_true rfl⟩, ⟨_, _, rfl, rfl, Nat.le_of_ble_eq_true rfl⟩, trivial⟩) ?_; conv => whnf) | (refine ifB_intro (fun hA => ?_) (fun hA => ?_) <;> (try rw [hA]) <;> (conv => whnf) <;> (first | replace hA := of_decide_eq_true hA | replace hA := of_decide_eq_false hA | replace hA := eq_of_beq hA | replace hA := ne_of_beq_false hA | replace hA := bne_iff_ne.1 hA | replace hA := bne_eq_false_iff_eq.1 hA | skip) <;> (try simp only [Bool.not_eq_true', Bool.not_eq_false'] at hA)) | (rw [getD_map rowW ws i [] h]; conv => whnf) | (refine CallP.det (hc) ?_; conv => whnf) | (refine CallD.det (hc) ?_; conv => whnf) | (refine And.intro hbl.symm ?_; conv => whnf) | (refine And.intro (by show (List.length _ + 1) * 48 ≤ 140737488355328; rw [hbl]; omega) ?_; conv => whnf) | (rw [getD_map _ _ _ _ (by assumption)]; conv => whnf))
      · rw [if_pos (.inr (.inr (hbad (by simp_all))))]
        refine ⟨⟨[], ?_⟩⟩
        conv => whnf
        rfl
      · refine ⟨i + 1, ⟨by omega, by rw [ht, List.all_append, hI, List.all_cons, List.all_nil, hrw]; simp_all⟩, by omega, ⟨⟨rfl, rfl, msl_eq (show List.length _ + 1 = i + 1 by rw [hbl]), rfl, rfl, AV.int_eq (i64_succ (by omega)), trivial⟩, ⟨fun o h => by rw [← h, hmx0]; rfl, trivial⟩⟩⟩
    · have h : i = ws.length := by have h0 := of_decide_eq_false h; omega
      subst h
      rw [List.take_length] at hI hbl ⊢
      have hmm : (ws.map fun x => rowWd (readW x).1) = (ws.map fun x => (readW x).1).map rowWd := by rw [List.map_map]; rfl
      conv => whnf
      rw [if_neg (by intro h; rcases h with h | h | h; omega; omega; rw [hI] at h; simp at h)]
      repeat' (first | (refine And.intro (by first | exact rfl | decide | exact Nat.le_of_ble_eq_true rfl | exact ⟨_, rfl⟩ | exact ⟨_, _, rfl⟩ | exact Nat.le_refl _ | exact Int.le_refl _ | omega | (simp only [List.length_map]; omega) | exact True.intro | (simp only [IntKind.wrap_i64, List.length_map]; omega) | (simp only [List.map_cons, List.map_nil, List.length_cons, Option.getD]; omega) | (simp only [bsz, ByteArray.size_append, List.size_toArray, List.length_cons, List.length_nil]; omega) | exact ⟨⟨_, _, rfl, rfl, Nat.le_of_ble_eq_true rfl⟩, trivial⟩ | exact ⟨⟨_, _, rfl, rfl, Nat.le_of_ble_eq_true rfl⟩, ⟨_, _, rfl, rfl, Nat.le_of_ble_eq_true rfl⟩, trivial⟩ | exact ⟨⟨_, _, rfl, rfl, Nat.le_of_ble_eq_true rfl⟩, ⟨_, _, rfl, rfl, Nat.le_of_ble_eq_true rfl⟩, ⟨_, _, rfl, rfl, Nat.le_of_ble_eq_true rfl⟩, trivial⟩) ?_; conv => whnf) | (refine ifB_intro (fun hA => ?_) (fun hA => ?_) <;> (try rw [hA]) <;> (conv => whnf) <;> (first | replace hA := of_decide_eq_true hA | replace hA := of_decide_eq_false hA | replace hA := eq_of_beq hA | replace hA := ne_of_beq_false hA | replace hA := bne_iff_ne.1 hA | replace hA := bne_eq_false_iff_eq.1 hA | skip) <;> (try simp only [List.length_map, cond_true, cond_false, Bool.not_eq_true', Bool.not_eq_false', beq_iff_eq, beq_eq_false_iff_ne, ne_eq] at hA)) | (rw [getD_map _ _ _ _ (by assumption)]; conv => whnf))
      refine ⟨⟨[], ?_⟩⟩
      conv => whnf
      repeat' (first | (refine And.intro (by first | exact rfl | decide | exact Nat.le_of_ble_eq_true rfl | exact ⟨_, rfl⟩ | exact ⟨_, _, rfl⟩ | exact Nat.le_refl _ | exact Int.le_refl _ | omega | (simp only [List.length_map]; omega) | exact True.intro | (simp only [IntKind.wrap_i64, List.length_map]; omega) | (simp only [List.map_cons, List.map_nil, List.length_cons, Option.getD]; omega) | (simp only [bsz, ByteArray.size_append, List.size_toArray, List.length_cons, List.length_nil]; omega) | exact ⟨⟨_, _, rfl, rfl, Nat.le_of_ble_eq_true rfl⟩, trivial⟩ | exact ⟨⟨_, _, rfl, rfl, Nat.le_of_ble_eq_true rfl⟩, ⟨_, _, rfl, rfl, Nat.le_of_ble_eq_true rfl⟩, trivial⟩ | exact ⟨⟨_, _, rfl, rfl, Nat.le_of_ble_eq_true rfl⟩, ⟨_, _, rfl, rfl, Nat.le_of_ble_eq_true rfl⟩, ⟨_, _, rfl, rfl, Nat.le_of_ble_eq_true rfl⟩, trivial⟩) ?_; conv => whnf) | (refine ifB_intro (fun hA => ?_) (fun hA => ?_) <;> (try rw [hA]) <;> (conv => whnf) <;> (first | replace hA := of_decide_eq_true hA | replace hA := of_decide_eq_false hA | replace hA := eq_of_beq hA | replace hA := ne_of_beq_false hA | replace hA := bne_iff_ne.1 hA | replace hA := bne_eq_false_iff_eq.1 hA | skip) <;> (try simp only [List.length_map, cond_true, cond_false, Bool.not_eq_true', Bool.not_eq_false', beq_iff_eq, beq_eq_false_iff_ne, ne_eq] at hA)) | (refine And.intro hbl.symm ?_; conv => whnf) | (rw [getD_map _ _ _ _ (by assumption)]; conv => whnf))
      rw [List.drop_zero, List.take_of_length_le (by rw [hbl]; exact Nat.le_refl _), hmm]
      rfl
end Go.Ax

namespace Go.Ax
open Go.Proofs Go.RowKit Go.Shelf Go.Lib
set_option maxRecDepth 10000
def fitsW (w : WordT) (q : List Nat) : Bool := ((decide (w.sw = -1) || decide (((q.getD 0 0 : Nat) : Int) = w.sw)) && (decide (w.pt = -1) || decide (((q.getD 1 0 : Nat) : Int) = w.pt)) && hasF q w.has) != w.not
theorem fits37_ctr (g : GP) (w : WordT) (q : List Nat) (hq : q.length = 8) (hh : w.has.length < 2 ^ 62) (hb : ∀ i, i < 8 → q.getD i 0 < 65536) : Ctr (ax g).E 71 [.dagg (rowWd w), .dagg (rowU q)] [] (fun o => o = .ret (.bool (fitsW w q)) []) := by
  have c1 := pat_ctr g q hq
  have c2 := phas_ctr g q hq false w.has hh
  have b0 := hb 0 (by omega)
  have b1 := hb 1 (by omega)
  obtain ⟨q0, q1, q2, q3, q4, q5, q6, q7, rfl⟩ := eight hq
  obtain ⟨wm, wn, wsw, wpt, wh⟩ := w
  have hw0 : IntKind.i64.wrap ((([q0, q1, q2, q3, q4, q5, q6, q7].getD 0 0 : Nat)) : Int) = (([q0, q1, q2, q3, q4, q5, q6, q7].getD 0 0 : Nat) : Int) := i64_wrap (by omega) (by omega)
  have hw1 : IntKind.i64.wrap ((([q0, q1, q2, q3, q4, q5, q6, q7].getD 1 0 : Nat)) : Int) = (([q0, q1, q2, q3, q4, q5, q6, q7].getD 1 0 : Nat) : Int) := i64_wrap (by omega) (by omega)
  unfold fitsW
  dsimp only at c2 ⊢
  refine Ctr.body (X := ax g) _ 43 [] [.tmp 4] Tryd.func71 rfl rfl rfl rfl (by decide +kernel) rfl rfl ?_
  conv => whnf
  repeat' (first | (refine And.intro (by first | exact rfl | decide | exact Nat.le_of_ble_eq_true rfl | exact ⟨_, rfl⟩ | exact ⟨_, _, rfl⟩ | exact Nat.le_refl _ | exact Int.le_refl _ | omega | (simp only [List.length_map]; omega) | exact True.intro | (simp only [IntKind.wrap_i64, List.length_map]; omega) | (simp only [List.map_cons, List.map_nil, List.length_cons, Option.getD]; omega) | (simp only [bsz, ByteArray.size_append, List.size_toArray, List.length_cons, List.length_nil]; omega) | exact ⟨⟨_, _, rfl, rfl, Nat.le_of_ble_eq_true rfl⟩, trivial⟩ | exact ⟨⟨_, _, rfl, rfl, Nat.le_of_ble_eq_true rfl⟩, ⟨_, _, rfl, rfl, Nat.le_of_ble_eq_true rfl⟩, trivial⟩ | exact ⟨⟨_, _, rfl, rfl, Nat.le_of_ble_eq_true rfl⟩, ⟨_, _, rfl, rfl, Nat.le_of_ble_eq_true rfl⟩, ⟨_, _, rfl, rfl, Nat.le_of_ble_eq_true rfl⟩, trivial⟩) ?_; conv => whnf) | (refine ifB_intro (fun hA => ?_) (fun hA => ?_) <;> (try rw [hA]) <;> (conv => whnf) <;> (first | replace hA := of_decide_eq_true hA | replace hA := of_decide_eq_false hA | replace hA := eq_of_beq hA | replace hA := ne_of_beq_false hA | replace hA := bne_iff_ne.1 hA | replace hA := bne_eq_false_iff_eq.1 hA | skip) <;> (try simp only [] at hA)) | (refine CallP.det (c1) ?_; conv => whnf) | (refine CallD.det (c1) ?_; conv => whnf) | (rw [hw0]; conv => whnf) | (rw [hw1]; conv => whnf) | (refine DrawP.intro (X := ax g) (id := 3) B71_3 (by kernel_rfl) (by decide +kernel) ?_; conv => whnf) | (refine CallP.det (c2) ?_; conv => whnf) | (refine CallD.det (c2) ?_; conv => whnf) | (rw [getD_map _ _ _ _ (by assumption)]; conv => whnf))
  all_goals
    refine ⟨⟨[], ?_⟩⟩
    conv => whnf
    have e0 : IntKind.i64.wrap (q0 : Int) = q0 := hw0
    have e1 : IntKind.i64.wrap (q1 : Int) = q1 := hw1
    clear c1 c2 hw0 hw1 b0 b1 hb hq hh
    simp_all [bne]
theorem lex3 {A A' F F' K K' N : Nat} (hA : A' + 1 ≤ A) (hF : F' < N) (hK : K' < N) : (A' * N + F') * N + K' < (A * N + F) * N + K := by
  have h1 : A' * N + F' + 1 ≤ A * N + F := by
    have := Nat.mul_le_mul_right N hA
    rw [Nat.succ_mul] at this; omega
  have h2 := Nat.mul_le_mul_right N h1
  rw [Nat.succ_mul] at h2; omega
theorem lex2 {A F F' K K' N : Nat} (hF : F' + 1 ≤ F) (hK : K' < N) : (A * N + F') * N + K' < (A * N + F) * N + K := by
  have h2 := Nat.mul_le_mul_right N (show A * N + F' + 1 ≤ A * N + F by omega)
  rw [Nat.succ_mul] at h2; omega
def backI (o : Option (Nat × Nat)) : Int := match o with | some (b, _) => (b : Int) | none => -1
def fromI (o : Option (Nat × Nat)) : Int := match o with | some (_, f) => (f : Int) | none => 0
def muG (W L : Nat) (k : Nat) (o : Option (Nat × Nat)) : Nat := match o with
  | none => ((W + 1) * (L + 2) + (L + 1)) * (L + 2) + (L - k)
  | some (b, f) => ((W - b) * (L + 2) + (L - f)) * (L + 2) + (L - k)
theorem match37_ctr (g : GP) (W : List WordT) (L : List (List Nat)) (bw : Bool) (hW : W.length < 2 ^ 40) (hL : L.length < 2 ^ 44) (hh : ∀ w ∈ W, w.has.length < 2 ^ 62) (hq : ∀ q ∈ L, OkK q) (r : Bool) (hr : r = true ↔ Glob (·.many) fitsW W L) :
    Ctr (ax g).E 43 [.d (.sl false 5 (W.map rowWd)), .d (.sl bw 8 (L.map rowU))] [] (fun o => o = .ret (.bool r) []) := by
  have hWm : (W.map rowWd).length = W.length := List.length_map _
  have hLm : (L.map rowU).length = L.length := List.length_map _
  refine Ctr.body (X := ax g) _ 74 [] [.tmp 4] Tryd.func43 rfl rfl rfl rfl (by decide +kernel) rfl rfl ?_
  conv => whnf
  repeat' (first | (refine And.intro (by first | exact rfl | decide | exact Nat.le_of_ble_eq_true rfl | exact ⟨_, rfl⟩ | exact ⟨_, _, rfl⟩ | exact Nat.le_refl _ | exact Int.le_refl _ | omega | (simp only [List.length_map]; omega) | exact True.intro | (simp only [IntKind.wrap_i64, List.length_map]; omega) | (simp only [List.map_cons, List.map_nil, List.length_cons, Option.getD]; omega) | (simp only [bsz, ByteArray.size_append, List.size_toArray, List.length_cons, List.length_nil]; omega) | exact ⟨⟨_, _, rfl, rfl, Nat.le_of_ble_eq_true rfl⟩, trivial⟩ | exact ⟨⟨_, _, rfl, rfl, Nat.le_of_ble_eq_true rfl⟩, ⟨_, _, rfl, rfl, Nat.le_of_ble_eq_true rfl⟩, trivial⟩ | exact ⟨⟨_, _, rfl, rfl, Nat.le_of_ble_eq_true rfl⟩, ⟨_, _, rfl, rfl, Nat.le_of_ble_eq_true rfl⟩, ⟨_, _, rfl, rfl, Nat.le_of_ble_eq_true rfl⟩, trivial⟩) ?_; conv => whnf) | (refine ifB_intro (fun hA => ?_) (fun hA => ?_) <;> (try rw [hA]) <;> (conv => whnf) <;> (first | replace hA := of_decide_eq_true hA | replace hA := of_decide_eq_false hA | replace hA := eq_of_beq hA | replace hA := ne_of_beq_false hA | replace hA := bne_iff_ne.1 hA | replace hA := bne_eq_false_iff_eq.1 hA | skip) <;> (try simp only [List.length_map, cond_true, cond_false, Bool.not_eq_true', Bool.not_eq_false', beq_iff_eq, beq_eq_false_iff_ne, ne_eq] at hA)) | (rw [getD_map _ _ _ _ (by assumption)]; conv => whnf))
  refine LoopP.inv (X := ax g) (fun z : Nat × Nat × Option (Nat × Nat) => { f := [(0, .d (.sl false 5 (W.map rowWd))), (1, .d (.sl bw 8 (L.map rowU))), (4, .bool false), (5, .i64 z.1), (6, .i64 z.2.1), (7, .i64 (backI z.2.2)), (8, .i64 (fromI z.2.2))], h := [] }) (fun z => Greedy (·.many) fitsW W L z.1 z.2.1 z.2.2) (fun z => muG W.length L.length z.2.1 z.2.2) (0, 0, none) (.start W L) ⟨⟨rfl, rfl, rfl, rfl, rfl, rfl, rfl, trivial⟩, trivial⟩ fun ⟨i, k, o⟩ hG => ?_
  dsimp only at hG ⊢
  obtain ⟨hi, hk⟩ := hG.bnd
  rcases o with _ | ⟨b, f⟩
  · have hw1 : IntKind.i64.wrap (fromI (none : Option (Nat × Nat)) + 1) = 1 := by decide
    conv => whnf
    refine ifB_intro (fun h => ?_) (fun h => ?_)
    · have h : k < L.length := by have h0 := of_decide_eq_true h; rw [hLm] at h0; omega
      have hokq := hq L[k] (by simp)
      by_cases hiW : i < W.length
      · have hf := fits37_ctr g W[i] L[k] hokq.1 (hh W[i] (by simp)) hokq.2
        have s1 := hG.star hiW
        have s2 := hG.next hiW h
        have s3 := hG.no h
        generalize hwi : W[i] = w at *
        generalize hqk : L[k] = q at *
        obtain ⟨q0, q1, q2, q3, q4, q5, q6, q7, rfl⟩ := eight hokq.1
        obtain ⟨wm, wn, wsw, wpt, wh⟩ := w
        dsimp only at s1 s2
        generalize hfv : fitsW ⟨wm, wn, wsw, wpt, wh⟩ [q0, q1, q2, q3, q4, q5, q6, q7] = fv at *
        conv => whnf
        repeat' (first | (refine And.intro (by first | exact rfl | decide | exact Nat.le_of_ble_eq_true rfl | exact ⟨_, rfl⟩ | exact ⟨_, _, rfl⟩ | exact Nat.le_refl _ | exact Int.le_refl _ | omega | (simp only []; omega) | exact True.intro | (simp only []; omega) | (simp only []; omega) | (simp only []; omega) | exact ⟨⟨_, _, rfl, rfl, Nat.le_of_ble_eq_true rfl⟩, trivial⟩ | exact ⟨⟨_, _, rfl, rfl, Nat.le_of_ble_eq_true rfl⟩, ⟨_, _, rfl, rfl, Nat.le_of_ble_eq_true rfl⟩, trivial⟩ | exact ⟨⟨_, _, rfl, rfl, Nat.le_of_ble_eq_true rfl⟩, ⟨_, _, rfl, rfl, Nat.le_of_ble_eq_true rfl⟩, ⟨_, _, rfl, rfl, Nat.le_of_ble_eq_true rfl⟩, trivial⟩) ?_; conv => whnf) | (refine ifB_intro (fun hA => ?_) (fun hA => ?_) <;> (try rw [hA]) <;> (conv => whnf) <;> (first | replace hA := of_decide_eq_true hA | replace hA := of_decide_eq_false hA | replace hA := eq_of_beq hA | replace hA := ne_of_beq_false hA | replace hA := bne_iff_ne.1 hA | replace hA := bne_eq_false_iff_eq.1 hA | skip) <;> (try simp only [List.length_map, cond_true] at hA)) | (erw [getD_map rowWd W i [] hiW, hwi]; conv => whnf) | (exfalso; omega) | (refine DrawP.intro (X := ax g) (id := 8) B43_8 (by kernel_rfl) (by decide +kernel) ?_; conv => whnf) | (erw [getD_map rowU L k [] h, hqk]; conv => whnf) | (refine CallP.det (hf) ?_; conv => whnf) | (refine CallD.det (hf) ?_; conv => whnf) | (rw [hw1]; conv => whnf) | (rw [getD_map _ _ _ _ (by assumption)]; conv => whnf))
        · refine ⟨(i + 1, k, some (i, k)), s1 (by assumption), ?_, ⟨⟨rfl, rfl, rfl, AV.int_eq (i64_succ (by omega)), rfl, rfl, rfl, trivial⟩, trivial⟩⟩
          exact lex3 (by omega) (by omega) (by omega)
        · refine ⟨(i + 1, k + 1, none), s2 (by assumption) (by assumption), ?_, ⟨⟨rfl, rfl, rfl, AV.int_eq (i64_succ (by omega)), AV.int_eq (i64_succ (by omega)), rfl, rfl, trivial⟩, trivial⟩⟩
          exact Nat.add_lt_add_left (show L.length - (k + 1) < L.length - k by omega) _
        · have hr2 : r = false := by
            cases r
            · rfl
            · exact absurd (hr.1 rfl) (s3 fun hi => by rw [hwi]; exact ⟨by assumption, by rw [hfv]; assumption⟩)
          refine ⟨⟨[], ?_⟩⟩
          conv => whnf
          rw [hr2]
      · have s3 := hG.no h fun hi => absurd hi hiW
        conv => whnf
        repeat' (first | (refine And.intro (by first | exact rfl | decide | exact Nat.le_of_ble_eq_true rfl | exact ⟨_, rfl⟩ | exact ⟨_, _, rfl⟩ | exact Nat.le_refl _ | exact Int.le_refl _ | omega | (simp only [List.length_map]; omega) | exact True.intro | (simp only [IntKind.wrap_i64, List.length_map]; omega) | (simp only [List.map_cons, List.map_nil, List.length_cons, Option.getD]; omega) | (simp only [bsz, ByteArray.size_append, List.size_toArray, List.length_cons, List.length_nil]; omega) | exact ⟨⟨_, _, rfl, rfl, Nat.le_of_ble_eq_true rfl⟩, trivial⟩ | exact ⟨⟨_, _, rfl, rfl, Nat.le_of_ble_eq_true rfl⟩, ⟨_, _, rfl, rfl, Nat.le_of_ble_eq_true rfl⟩, trivial⟩ | exact ⟨⟨_, _, rfl, rfl, Nat.le_of_ble_eq_true rfl⟩, ⟨_, _, rfl, rfl, Nat.le_of_ble_eq_true rfl⟩, ⟨_, _, rfl, rfl, Nat.le_of_ble_eq_true rfl⟩, trivial⟩) ?_; conv => whnf) | (refine ifB_intro (fun hA => ?_) (fun hA => ?_) <;> (try rw [hA]) <;> (conv => whnf) <;> (first | replace hA := of_decide_eq_true hA | replace hA := of_decide_eq_false hA | replace hA := eq_of_beq hA | replace hA := ne_of_beq_false hA | replace hA := bne_iff_ne.1 hA | replace hA := bne_eq_false_iff_eq.1 hA | skip) <;> (try simp only [List.length_map] at hA)) | (exfalso; omega) | (refine DrawP.intro (X := ax g) (id := 8) B43_8 (by kernel_rfl) (by decide +kernel) ?_; conv => whnf) | (rw [hw1]; conv => whnf) | (rw [getD_map _ _ _ _ (by assumption)]; conv => whnf))
        have hr2 : r = false := by
          cases r
          · rfl
          · exact absurd (hr.1 rfl) s3
        refine ⟨⟨[], ?_⟩⟩
        conv => whnf
        rw [hr2]
    · have h : k = L.length := by have h0 := of_decide_eq_false h; rw [hLm] at h0; omega
      subst h
      have hE := hr.trans (hG.done.trans Glob.empty)
      conv => whnf
      refine LoopP.inv (X := ax g) (fun j : Nat => { f := [(0, .d (.sl false 5 (W.map rowWd))), (5, .i64 j)], h := [] }) (fun j => j ≤ W.length ∧ (r = true ↔ ∀ w ∈ W.drop j, w.many = true)) (fun j => W.length - j) i ⟨hi, hE⟩ ⟨⟨rfl, rfl, trivial⟩, trivial⟩ fun j ⟨hj, hJ⟩ => ?_
      conv => whnf
      by_cases hjW : j < W.length
      · have hd := List.drop_eq_getElem_cons hjW
        generalize hwj : W[j] = w at *
        obtain ⟨wm, wn, wsw, wpt, wh⟩ := w
        repeat' (first | (refine And.intro (by first | exact rfl | decide | exact Nat.le_of_ble_eq_true rfl | exact ⟨_, rfl⟩ | exact ⟨_, _, rfl⟩ | exact Nat.le_refl _ | exact Int.le_refl _ | omega | (simp only []; omega) | exact True.intro | (simp only []; omega) | (simp only []; omega) | (simp only []; omega) | exact ⟨⟨_, _, rfl, rfl, Nat.le_of_ble_eq_true rfl⟩, trivial⟩ | exact ⟨⟨_, _, rfl, rfl, Nat.le_of_ble_eq_true rfl⟩, ⟨_, _, rfl, rfl, Nat.le_of_ble_eq_true rfl⟩, trivial⟩ | exact ⟨⟨_, _, rfl, rfl, Nat.le_of_ble_eq_true rfl⟩, ⟨_, _, rfl, rfl, Nat.le_of_ble_eq_true rfl⟩, ⟨_, _, rfl, rfl, Nat.le_of_ble_eq_true rfl⟩, trivial⟩) ?_; conv => whnf) | (refine ifB_intro (fun hA => ?_) (fun hA => ?_) <;> (try rw [hA]) <;> (conv => whnf) <;> (first | replace hA := of_decide_eq_true hA | replace hA := of_decide_eq_false hA | replace hA := eq_of_beq hA | replace hA := ne_of_beq_false hA | replace hA := bne_iff_ne.1 hA | replace hA := bne_eq_false_iff_eq.1 hA | skip) <;> (try simp only [List.length_map, cond_true] at hA)) | (erw [getD_map rowWd W j [] hjW, hwj]; conv => whnf) | (exfalso; omega) | (rw [getD_map _ _ _ _ (by assumption)]; conv => whnf))
        · refine ⟨j + 1, ⟨by omega, by rw [hJ, hd]; simp_all⟩, by omega, ⟨⟨rfl, AV.int_eq (i64_succ (by omega)), trivial⟩, trivial⟩⟩
        · have hr2 : r = false := by
            cases r
            · rfl
            · have := hJ.1 rfl _ (by rw [hd]; exact List.mem_cons_self ..)
              simp_all
          refine ⟨⟨[], ?_⟩⟩
          conv => whnf
          rw [hr2, hWm]
          simp; omega
      · have hr2 : r = true := hJ.2 (by rw [List.drop_eq_nil_of_le (by omega)]; simp)
        repeat' (first | (refine And.intro (by first | exact rfl | decide | exact Nat.le_of_ble_eq_true rfl | exact ⟨_, rfl⟩ | exact ⟨_, _, rfl⟩ | exact Nat.le_refl _ | exact Int.le_refl _ | omega | (simp only [List.length_map]; omega) | exact True.intro | (simp only [IntKind.wrap_i64, List.length_map]; omega) | (simp only [List.map_cons, List.map_nil, List.length_cons, Option.getD]; omega) | (simp only [bsz, ByteArray.size_append, List.size_toArray, List.length_cons, List.length_nil]; omega) | exact ⟨⟨_, _, rfl, rfl, Nat.le_of_ble_eq_true rfl⟩, trivial⟩ | exact ⟨⟨_, _, rfl, rfl, Nat.le_of_ble_eq_true rfl⟩, ⟨_, _, rfl, rfl, Nat.le_of_ble_eq_true rfl⟩, trivial⟩ | exact ⟨⟨_, _, rfl, rfl, Nat.le_of_ble_eq_true rfl⟩, ⟨_, _, rfl, rfl, Nat.le_of_ble_eq_true rfl⟩, ⟨_, _, rfl, rfl, Nat.le_of_ble_eq_true rfl⟩, trivial⟩) ?_; conv => whnf) | (refine ifB_intro (fun hA => ?_) (fun hA => ?_) <;> (try rw [hA]) <;> (conv => whnf) <;> (first | replace hA := of_decide_eq_true hA | replace hA := of_decide_eq_false hA | replace hA := eq_of_beq hA | replace hA := ne_of_beq_false hA | replace hA := bne_iff_ne.1 hA | replace hA := bne_eq_false_iff_eq.1 hA | skip) <;> (try simp only [List.length_map] at hA)) | (exfalso; omega) | (rw [getD_map _ _ _ _ (by assumption)]; conv => whnf))
        refine ⟨⟨[], ?_⟩⟩
        conv => whnf
        rw [hr2, hWm]
        simp; omega
  · obtain ⟨hbi, hfk, hik⟩ := hG.back
    have hw1 : IntKind.i64.wrap (fromI (some (b, f)) + 1) = ((f + 1 : Nat) : Int) := i64_succ (by omega)
    conv => whnf
    refine ifB_intro (fun h => ?_) (fun h => ?_)
    · have h : k < L.length := by have h0 := of_decide_eq_true h; rw [hLm] at h0; omega
      have hokq := hq L[k] (by simp)
      by_cases hiW : i < W.length
      · have hf := fits37_ctr g W[i] L[k] hokq.1 (hh W[i] (by simp)) hokq.2
        have s1 := hG.star hiW
        have s2 := hG.next hiW h
        have s3 := hG.again h
        generalize hwi : W[i] = w at *
        generalize hqk : L[k] = q at *
        obtain ⟨q0, q1, q2, q3, q4, q5, q6, q7, rfl⟩ := eight hokq.1
        obtain ⟨wm, wn, wsw, wpt, wh⟩ := w
        dsimp only at s1 s2
        generalize hfv : fitsW ⟨wm, wn, wsw, wpt, wh⟩ [q0, q1, q2, q3, q4, q5, q6, q7] = fv at *
        conv => whnf
        repeat' (first | (refine And.intro (by first | exact rfl | decide | exact Nat.le_of_ble_eq_true rfl | exact ⟨_, rfl⟩ | exact ⟨_, _, rfl⟩ | exact Nat.le_refl _ | exact Int.le_refl _ | omega | (simp only []; omega) | exact True.intro | (simp only []; omega) | (simp only []; omega) | (simp only []; omega) | exact ⟨⟨_, _, rfl, rfl, Nat.le_of_ble_eq_true rfl⟩, trivial⟩ | exact ⟨⟨_, _, rfl, rfl, Nat.le_of_ble_eq_true rfl⟩, ⟨_, _, rfl, rfl, Nat.le_of_ble_eq_true rfl⟩, trivial⟩ | exact ⟨⟨_, _, rfl, rfl, Nat.le_of_ble_eq_true rfl⟩, ⟨_, _, rfl, rfl, Nat.le_of_ble_eq_true rfl⟩, ⟨_, _, rfl, rfl, Nat.le_of_ble_eq_true rfl⟩, trivial⟩) ?_; conv => whnf) | (refine ifB_intro (fun hA => ?_) (fun hA => ?_) <;> (try rw [hA]) <;> (conv => whnf) <;> (first | replace hA := of_decide_eq_true hA | replace hA := of_decide_eq_false hA | replace hA := eq_of_beq hA | replace hA := ne_of_beq_false hA | replace hA := bne_iff_ne.1 hA | replace hA := bne_eq_false_iff_eq.1 hA | skip) <;> (try simp only [List.length_map, cond_true] at hA)) | (erw [getD_map rowWd W i [] hiW, hwi]; conv => whnf) | (exfalso; omega) | (refine DrawP.intro (X := ax g) (id := 8) B43_8 (by kernel_rfl) (by decide +kernel) ?_; conv => whnf) | (erw [getD_map rowU L k [] h, hqk]; conv => whnf) | (refine CallP.det (hf) ?_; conv => whnf) | (refine CallD.det (hf) ?_; conv => whnf) | (rw [hw1]; conv => whnf) | (rw [getD_map _ _ _ _ (by assumption)]; conv => whnf))
        · refine ⟨(i + 1, k, some (i, k)), s1 (by assumption), ?_, ⟨⟨rfl, rfl, rfl, AV.int_eq (i64_succ (by omega)), rfl, rfl, rfl, trivial⟩, trivial⟩⟩
          exact lex3 (by omega) (by omega) (by omega)
        · refine ⟨(i + 1, k + 1, some (b, f)), s2 (by assumption) (by assumption), ?_, ⟨⟨rfl, rfl, rfl, AV.int_eq (i64_succ (by omega)), AV.int_eq (i64_succ (by omega)), rfl, rfl, trivial⟩, trivial⟩⟩
          exact Nat.add_lt_add_left (show L.length - (k + 1) < L.length - k by omega) _
        · refine ⟨(b + 1, f + 1, some (b, f + 1)), s3 fun hi => by rw [hwi]; exact ⟨by assumption, by rw [hfv]; assumption⟩, ?_, ⟨⟨rfl, rfl, rfl, AV.int_eq (i64_succ (by omega)), rfl, rfl, rfl, trivial⟩, trivial⟩⟩
          exact lex2 (by omega) (by omega)
      · have s3 := hG.again h fun hi => absurd hi hiW
        conv => whnf
        repeat' (first | (refine And.intro (by first | exact rfl | decide | exact Nat.le_of_ble_eq_true rfl | exact ⟨_, rfl⟩ | exact ⟨_, _, rfl⟩ | exact Nat.le_refl _ | exact Int.le_refl _ | omega | (simp only [List.length_map]; omega) | exact True.intro | (simp only [IntKind.wrap_i64, List.length_map]; omega) | (simp only [List.map_cons, List.map_nil, List.length_cons, Option.getD]; omega) | (simp only [bsz, ByteArray.size_append, List.size_toArray, List.length_cons, List.length_nil]; omega) | exact ⟨⟨_, _, rfl, rfl, Nat.le_of_ble_eq_true rfl⟩, trivial⟩ | exact ⟨⟨_, _, rfl, rfl, Nat.le_of_ble_eq_true rfl⟩, ⟨_, _, rfl, rfl, Nat.le_of_ble_eq_true rfl⟩, trivial⟩ | exact ⟨⟨_, _, rfl, rfl, Nat.le_of_ble_eq_true rfl⟩, ⟨_, _, rfl, rfl, Nat.le_of_ble_eq_true rfl⟩, ⟨_, _, rfl, rfl, Nat.le_of_ble_eq_true rfl⟩, trivial⟩) ?_; conv => whnf) | (refine ifB_intro (fun hA => ?_) (fun hA => ?_) <;> (try rw [hA]) <;> (conv => whnf) <;> (first | replace hA := of_decide_eq_true hA | replace hA := of_decide_eq_false hA | replace hA := eq_of_beq hA | replace hA := ne_of_beq_false hA | replace hA := bne_iff_ne.1 hA | replace hA := bne_eq_false_iff_eq.1 hA | skip) <;> (try simp only [List.length_map] at hA)) | (exfalso; omega) | (refine DrawP.intro (X := ax g) (id := 8) B43_8 (by kernel_rfl) (by decide +kernel) ?_; conv => whnf) | (rw [hw1]; conv => whnf) | (rw [getD_map _ _ _ _ (by assumption)]; conv => whnf))
        · refine ⟨(b + 1, f + 1, some (b, f + 1)), s3, ?_, ⟨⟨rfl, rfl, rfl, AV.int_eq (i64_succ (by omega)), rfl, rfl, rfl, trivial⟩, trivial⟩⟩
          exact lex2 (by omega) (by omega)
    · have h : k = L.length := by have h0 := of_decide_eq_false h; rw [hLm] at h0; omega
      subst h
      have hE := hr.trans (hG.done.trans Glob.empty)
      conv => whnf
      refine LoopP.inv (X := ax g) (fun j : Nat => { f := [(0, .d (.sl false 5 (W.map rowWd))), (5, .i64 j)], h := [] }) (fun j => j ≤ W.length ∧ (r = true ↔ ∀ w ∈ W.drop j, w.many = true)) (fun j => W.length - j) i ⟨hi, hE⟩ ⟨⟨rfl, rfl, trivial⟩, trivial⟩ fun j ⟨hj, hJ⟩ => ?_
      conv => whnf
      by_cases hjW : j < W.length
      · have hd := List.drop_eq_getElem_cons hjW
        generalize hwj : W[j] = w at *
        obtain ⟨wm, wn, wsw, wpt, wh⟩ := w
        repeat' (first | (refine And.intro (by first | exact rfl | decide | exact Nat.le_of_ble_eq_true rfl | exact ⟨_, rfl⟩ | exact ⟨_, _, rfl⟩ | exact Nat.le_refl _ | exact Int.le_refl _ | omega | (simp only []; omega) | exact True.intro | (simp only []; omega) | (simp only []; omega) | (simp only []; omega) | exact ⟨⟨_, _, rfl, rfl, Nat.le_of_ble_eq_true rfl⟩, trivial⟩ | exact ⟨⟨_, _, rfl, rfl, Nat.le_of_ble_eq_true rfl⟩, ⟨_, _, rfl, rfl, Nat.le_of_ble_eq_true rfl⟩, trivial⟩ | exact ⟨⟨_, _, rfl, rfl, Nat.le_of_ble_eq_true rfl⟩, ⟨_, _, rfl, rfl, Nat.le_of_ble_eq_true rfl⟩, ⟨_, _, rfl, rfl, Nat.le_of_ble_eq_true rfl⟩, trivial⟩) ?_; conv => whnf) | (refine ifB_intro (fun hA => ?_) (fun hA => ?_) <;> (try rw [hA]) <;> (conv => whnf) <;> (first | replace hA := of_decide_eq_true hA | replace hA := of_decide_eq_false hA | replace hA := eq_of_beq hA | replace hA := ne_of_beq_false hA | replace hA := bne_iff_ne.1 hA | replace hA := bne_eq_false_iff_eq.1 hA | skip) <;> (try simp only [List.length_map, cond_true] at hA)) | (erw [getD_map rowWd W j [] hjW, hwj]; conv => whnf) | (exfalso; omega) | (rw [getD_map _ _ _ _ (by assumption)]; conv => whnf))
        · refine ⟨j + 1, ⟨by omega, by rw [hJ, hd]; simp_all⟩, by omega, ⟨⟨rfl, AV.int_eq (i64_succ (by omega)), trivial⟩, trivial⟩⟩
        · have hr2 : r = false := by
            cases r
            · rfl
            · have := hJ.1 rfl _ (by rw [hd]; exact List.mem_cons_self ..)
              simp_all
          refine ⟨⟨[], ?_⟩⟩
          conv => whnf
          rw [hr2, hWm]
          simp; omega
      · have hr2 : r = true := hJ.2 (by rw [List.drop_eq_nil_of_le (by omega)]; simp)
        repeat' (first | (refine And.intro (by first | exact rfl | decide | exact Nat.le_of_ble_eq_true rfl | exact ⟨_, rfl⟩ | exact ⟨_, _, rfl⟩ | exact Nat.le_refl _ | exact Int.le_refl _ | omega | (simp only [List.length_map]; omega) | exact True.intro | (simp only [IntKind.wrap_i64, List.length_map]; omega) | (simp only [List.map_cons, List.map_nil, List.length_cons, Option.getD]; omega) | (simp only [bsz, ByteArray.size_append, List.size_toArray, List.length_cons, List.length_nil]; omega) | exact ⟨⟨_, _, rfl, rfl, Nat.le_of_ble_eq_true rfl⟩, trivial⟩ | exact ⟨⟨_, _, rfl, rfl, Nat.le_of_ble_eq_true rfl⟩, ⟨_, _, rfl, rfl, Nat.le_of_ble_eq_true rfl⟩, trivial⟩ | exact ⟨⟨_, _, rfl, rfl, Nat.le_of_ble_eq_true rfl⟩, ⟨_, _, rfl, rfl, Nat.le_of_ble_eq_true rfl⟩, ⟨_, _, rfl, rfl, Nat.le_of_ble_eq_true rfl⟩, trivial⟩) ?_; conv => whnf) | (refine ifB_intro (fun hA => ?_) (fun hA => ?_) <;> (try rw [hA]) <;> (conv => whnf) <;> (first | replace hA := of_decide_eq_true hA | replace hA := of_decide_eq_false hA | replace hA := eq_of_beq hA | replace hA := ne_of_beq_false hA | replace hA := bne_iff_ne.1 hA | replace hA := bne_eq_false_iff_eq.1 hA | skip) <;> (try simp only [List.length_map] at hA)) | (exfalso; omega) | (rw [getD_map _ _ _ _ (by assumption)]; conv => whnf))
        refine ⟨⟨[], ?_⟩⟩
        conv => whnf
        rw [hr2, hWm]
        simp; omega
end Go.Ax

namespace Go.Ax
open Go.Proofs Go.RowKit Go.Shelf Go.Lib
set_option maxRecDepth 10000
def wordQ (q : List Nat) : List UInt8 := Lib.decDigits (q.getD 0 0) ++ 58 :: Lib.decDigits (q.getD 1 0)
def ofL (L : List (List Nat)) : List UInt8 := Lib.join (L.map wordQ) [32]
theorem wordQ_len {q : List Nat} (ok : OkK q) : (wordQ q).length ≤ 11 := by
  have h0 := dec_len 4 (q.getD 0 0) (by have := ok.2 0 (by omega); omega)
  have h1 := dec_len 4 (q.getD 1 0) (by have := ok.2 1 (by omega); omega)
  rw [wordQ, List.length_append, List.length_cons]; omega
theorem ofL_len {L : List (List Nat)} (ok : ∀ q ∈ L, OkK q) : (ofL L).length ≤ 12 * L.length := by
  have := joinW_bound (L.map wordQ) 11 fun x hx => by
    obtain ⟨q, hq, rfl⟩ := List.mem_map.1 hx
    exact wordQ_len (ok q hq)
  rw [List.length_map] at this
  exact this
theorem ofjoin_give (g : GP) (L : List (List Nat)) (ok : ∀ q ∈ L, OkK q) (hL : L.length ≤ 2 ^ 20) : Ctr (ax g).E 41 ([.msl 9502 L.length 0 L.length, .str ⟨#[32]⟩].map (frz 9502 1 ((L.map wordQ).map rowW))) [] (fun o => o = .ret (.str (baL (ofL L))) []) := by
  have e : ((L.map wordQ).map baL).map (·.data.toList) = L.map wordQ := by
    rw [List.map_map]
    conv => rhs; rw [← List.map_id (L.map wordQ)]
    exact List.map_congr_left fun z _ => by simp [baL]
  have hb := ofL_len ok
  have h := join_ctr g false ((L.map wordQ).map baL) ⟨#[32]⟩ (by rw [List.length_map, List.length_map]; omega) (by rw [e]; show (ofL L).length ≤ _; omega)
  rw [e] at h
  simp only [List.map_cons, List.map_nil, frzE 9502 1 L.length ((L.map wordQ).map rowW) (by simp)]
  rw [List.map_map] at h
  exact h
theorem of37_ctr (g : GP) (hp : ∀ w, g.G w → PowG w) (b : Bool) (L : List (List Nat)) (ok : ∀ q ∈ L, OkK q) (hL : L.length ≤ 2 ^ 20) : Ctr (ax g).E 23 [.d (.sl b 8 (L.map rowU))] [] (fun o => o = .ret (.str (baL (ofL L))) []) := by
  have hLm : (L.map rowU).length = L.length := List.length_map _
  refine Ctr.body (X := ax g) _ 31 [] [.tmp 2] Tryd.func23 rfl rfl rfl rfl (by decide +kernel) rfl rfl ?_
  conv => whnf
  repeat' (first | (refine And.intro (by first | exact rfl | decide | exact Nat.le_of_ble_eq_true rfl | exact ⟨_, rfl⟩ | exact ⟨_, _, rfl⟩ | exact Nat.le_refl _ | exact Int.le_refl _ | omega | (simp only [List.length_map]; omega) | exact True.intro | (simp only [IntKind.wrap_i64, List.length_map]; omega) | (simp only [List.map_cons, List.map_nil, List.length_cons, Option.getD]; omega) | (simp only [bsz, ByteArray.size_append, List.size_toArray, List.length_cons, List.length_nil]; omega) | exact ⟨⟨_, _, rfl, rfl, Nat.le_of_ble_eq_true rfl⟩, trivial⟩ | exact ⟨⟨_, _, rfl, rfl, Nat.le_of_ble_eq_true rfl⟩, ⟨_, _, rfl, rfl, Nat.le_of_ble_eq_true rfl⟩, trivial⟩ | exact ⟨⟨_, _, rfl, rfl, Nat.le_of_ble_eq_true rfl⟩, ⟨_, _, rfl, rfl, Nat.le_of_ble_eq_true rfl⟩, ⟨_, _, rfl, rfl, Nat.le_of_ble_eq_true rfl⟩, trivial⟩) ?_; conv => whnf) | (refine ifB_intro (fun hA => ?_) (fun hA => ?_) <;> (try rw [hA]) <;> (conv => whnf) <;> (first | replace hA := of_decide_eq_true hA | replace hA := of_decide_eq_false hA | replace hA := eq_of_beq hA | replace hA := ne_of_beq_false hA | replace hA := bne_iff_ne.1 hA | replace hA := bne_eq_false_iff_eq.1 hA | skip) <;> (try simp only [List.length_map, cond_true, cond_false, Bool.not_eq_true', Bool.not_eq_false', beq_iff_eq, beq_eq_false_iff_ne, ne_eq] at hA)) | (rw [getD_map _ _ _ _ (by assumption)]; conv => whnf))
  refine LoopP.own 3 9502 1 9 rfl rfl rfl ?_
  refine LoopP.inv (X := ax g) (fun i : Nat => { f := [(3, .msl 9502 i 0 i), (7, .d (.sl b 8 (L.map rowU))), (8, .i64 L.length), (9, .i64 i)], h := [(9502, some (.buf 1 9 (((L.take i).map wordQ).map rowW)))] }) (fun i => i ≤ L.length) (fun i => L.length - i) 0 (Nat.zero_le _) ⟨⟨rfl, rfl, AV.int_eq (by rw [hLm]), rfl, trivial⟩, ⟨fun o h => h, trivial⟩⟩ fun i hi => ?_
  have hbl : (((L.take i).map wordQ).map rowW).length = i := by rw [List.length_map, List.length_map, List.length_take]; omega
  conv => whnf
  refine ifB_intro (fun h => ?_) (fun h => ?_)
  · have h : i < L.length := by have h0 := of_decide_eq_true h; omega
    have hok := ok L[i] (by simp)
    have ht : ((L.take (i + 1)).map wordQ).map rowW = ((L.take i).map wordQ).map rowW ++ [rowW (wordQ L[i])] := by
      rw [List.take_succ_eq_append_getElem h, List.map_append, List.map_append]; rfl
    have hwl := wordQ_len hok
    generalize hqi : L[i] = q at *
    have hat := pat_ctr g q hok.1
    have b0 := hok.2 0 (by omega)
    have b1 := hok.2 1 (by omega)
    have i0 := itoa_ctr g hp (q.getD 0 0) (by omega)
    have i1 := itoa_ctr g hp (q.getD 1 0) (by omega)
    have w0 : IntKind.i64.wrap ((q.getD 0 0 : Nat) : Int) = ((q.getD 0 0 : Nat) : Int) := i64_wrap (by omega) (by omega)
    have w1 : IntKind.i64.wrap ((q.getD 1 0 : Nat) : Int) = ((q.getD 1 0 : Nat) : Int) := i64_wrap (by omega) (by omega)
    have d0 := dec_len 4 (q.getD 0 0) (by omega)
    have d1 := dec_len 4 (q.getD 1 0) (by omega)
    have hstr : ((⟨(Lib.decDigits (q.getD 0 0)).toArray⟩ : ByteArray) ++ ⟨#[58]⟩) ++ (⟨(Lib.decDigits (q.getD 1 0)).toArray⟩ : ByteArray) = baL (wordQ q) := by
      apply ByteArray.ext; simp [baL, wordQ, ByteArray.data_append]
    generalize hq0 : q.getD 0 0 = n0 at *
    generalize hq1 : q.getD 1 0 = n1 at *
    obtain ⟨q0, q1, q2, q3, q4, q5, q6, q7, rfl⟩ := eight hok.1
    conv => whnf
    repeat' (first | (refine And.intro (by first | exact rfl | decide | exact Nat.le_of_ble_eq_true rfl | exact ⟨_, rfl⟩ | exact ⟨_, _, rfl⟩ | exact Nat.le_refl _ | exact Int.le_refl _ | omega | (simp only [List.length_map]; omega) | exact True.intro | (simp only [List.length_map]; omega) | (simp only [List.length_cons]; omega) | (simp only [bsz, ByteArray.size_append, List.size_toArray, List.length_cons, List.length_nil]; omega) | exact ⟨⟨_, _, rfl, rfl, Nat.le_of_ble_eq_true rfl⟩, trivial⟩ | exact ⟨⟨_, _, rfl, rfl, Nat.le_of_ble_eq_true rfl⟩, ⟨_, _, rfl, rfl, Nat.le_of_ble_eq_true rfl⟩, trivial⟩ | exact ⟨⟨_, _, rfl, rfl, Nat.le_of_ble_eq_true rfl⟩, ⟨_, _, rfl, rfl, Nat.le_of_ble_eq_true rfl⟩, ⟨_, _, rfl, rfl, Nat.le_of_ble_eq_true rfl⟩, trivial⟩) ?_; conv => whnf) | (refine ifB_intro (fun hA => ?_) (fun hA => ?_) <;> (try rw [hA]) <;> (conv => whnf) <;> (first | replace hA := of_decide_eq_true hA | replace hA := of_decide_eq_false hA | replace hA := eq_of_beq hA | replace hA := ne_of_beq_false hA | replace hA := bne_iff_ne.1 hA | replace hA := bne_eq_false_iff_eq.1 hA | skip) <;> (try simp only [List.length_map, cond_true, cond_false, Bool.not_eq_true', Bool.not_eq_false', beq_iff_eq, beq_eq_false_iff_ne, ne_eq] at hA)) | (erw [getD_map rowU L i [] h, hqi]; conv => whnf) | (refine CallP.det (hat) ?_; conv => whnf) | (refine CallD.det (hat) ?_; conv => whnf) | (refine DrawP.intro (X := ax g) (id := 6) B23_6 (by kernel_rfl) (by decide +kernel) ?_; conv => whnf) | (rw [w0]; conv => whnf) | (rw [w1]; conv => whnf) | (refine CallP.det (i0) ?_; conv => whnf) | (refine CallD.det (i0) ?_; conv => whnf) | (refine CallP.det (i1) ?_; conv => whnf) | (refine CallD.det (i1) ?_; conv => whnf) | (refine And.intro hbl.symm ?_; conv => whnf) | (refine And.intro (by show (List.length _ + 1) * 16 ≤ 140737488355328; rw [hbl]; omega) ?_; conv => whnf) | (rw [getD_map _ _ _ _ (by assumption)]; conv => whnf))
    have hrow : rowW (wordQ [q0, q1, q2, q3, q4, q5, q6, q7]) = [.v (.string (((⟨(Lib.decDigits n0).toArray⟩ : ByteArray) ++ ⟨#[58]⟩) ++ (⟨(Lib.decDigits n1).toArray⟩ : ByteArray)))] := by rw [hstr]; rfl
    exact ⟨i + 1, by omega, by omega, ⟨⟨msl_eq (show List.length _ + 1 = i + 1 by rw [hbl]), rfl, rfl, AV.int_eq (i64_succ (by omega)), trivial⟩, ⟨fun o h => by rw [← h, ht, hrow]; rfl, trivial⟩⟩⟩
  · have h : i = L.length := by have h0 := of_decide_eq_false h; omega
    subst h
    rw [List.take_length]
    conv => whnf
    refine CallP.arg (args' := [.msl 9502 L.length 0 L.length, .str ⟨#[32]⟩]) rfl ?_
    refine CallP.give 9502 1 9 ((L.map wordQ).map rowW) rfl (ofjoin_give g L ok hL) ?_
    conv => whnf
    refine ⟨⟨[], ?_⟩⟩
    conv => whnf
theorem testsGo_len : ∀ (l : List (List UInt8)) (acc : List (Int × Int)), (testsGo l acc).1.length ≤ acc.length + l.length
  | [], acc => by simp [testsGo]
  | p :: r, acc => by
    rw [testsGo]
    split
    · have := testsGo_len r (acc ++ [(testP p).1])
      simp at this ⊢; omega
    · simp
theorem readW_has (l : List UInt8) : (readW l).1.has.length ≤ l.length + 1 := by
  unfold readW
  have h1 := trimPrefix_len l [33]
  have h2 : (partsW l).length ≤ l.length + 1 := Nat.le_trans (splitL_le 46 _) (by unfold bareW; omega)
  split
  · simp
  · split
    · have := testsGo_len (partsW l).tail []
      simp at this ⊢; omega
    · simp
theorem parse_small {l : List UInt8} {W : List WordT} (h : parseW l = some W) : W.length ≤ 30 ∧ ∀ w ∈ W, w.has.length < 2 ^ 62 := by
  unfold parseW at h
  split at h
  · simp at h
  · rename_i hn
    injection h with h; subst h
    refine ⟨by rw [List.length_map]; omega, fun w hw => ?_⟩
    obtain ⟨x, hx, rfl⟩ := List.mem_map.1 hw
    have h1 := readW_has x
    have h2 := words_len hx
    omega
theorem matchL_ctr (g : GP) (he : ∀ w, g.G w → ErrG w) (l : List UInt8) (hl : l.length < 2 ^ 30) (bw : Bool) (L : List (List Nat)) (hL : L.length < 2 ^ 44) (hq : ∀ q ∈ L, OkK q) (W : List WordT) (hP : parseW l = some W) (r : Bool) (hr : r = true ↔ Glob (·.many) fitsW W L) :
    Ctr (ax g).E 24 [.str (baL l), .d (.sl bw 8 (L.map rowU))] [] (fun o => o = .ret (.tup [.bool r, .i64 0]) []) := by
  have h1 := parse37_ctr g he l hl
  rw [hP, parseV] at h1
  obtain ⟨hW, hh⟩ := parse_small hP
  have h2 := match37_ctr g W L bw (by omega) hL hh hq r hr
  refine Ctr.body (X := ax g) _ 18 [] [.tmp 4, .tmp 5] Tryd.func24 rfl rfl rfl rfl (by decide +kernel) rfl rfl ?_
  conv => whnf
  repeat' (first | (refine And.intro (by first | exact rfl | decide | exact Nat.le_of_ble_eq_true rfl | exact ⟨_, rfl⟩ | exact ⟨_, _, rfl⟩ | exact Nat.le_refl _ | exact Int.le_refl _ | omega | (simp only [List.length_map]; omega) | exact True.intro | (simp only [IntKind.wrap_i64, List.length_map]; omega) | (simp only [List.map_cons, List.map_nil, List.length_cons, Option.getD]; omega) | (simp only [bsz, ByteArray.size_append, List.size_toArray, List.length_cons, List.length_nil]; omega) | exact ⟨⟨_, _, rfl, rfl, Nat.le_of_ble_eq_true rfl⟩, trivial⟩ | exact ⟨⟨_, _, rfl, rfl, Nat.le_of_ble_eq_true rfl⟩, ⟨_, _, rfl, rfl, Nat.le_of_ble_eq_true rfl⟩, trivial⟩ | exact ⟨⟨_, _, rfl, rfl, Nat.le_of_ble_eq_true rfl⟩, ⟨_, _, rfl, rfl, Nat.le_of_ble_eq_true rfl⟩, ⟨_, _, rfl, rfl, Nat.le_of_ble_eq_true rfl⟩, trivial⟩) ?_; conv => whnf) | (refine ifB_intro (fun hA => ?_) (fun hA => ?_) <;> (try rw [hA]) <;> (conv => whnf) <;> (first | replace hA := of_decide_eq_true hA | replace hA := of_decide_eq_false hA | replace hA := eq_of_beq hA | replace hA := ne_of_beq_false hA | replace hA := bne_iff_ne.1 hA | replace hA := bne_eq_false_iff_eq.1 hA | skip) <;> (try simp only [List.length_map, cond_true, cond_false, Bool.not_eq_true', Bool.not_eq_false', beq_iff_eq, beq_eq_false_iff_ne, ne_eq] at hA)) | (refine CallP.det (h1) ?_; conv => whnf) | (refine CallD.det (h1) ?_; conv => whnf) | (refine CallP.det (h2) ?_; conv => whnf) | (refine CallD.det (h2) ?_; conv => whnf) | (rw [getD_map _ _ _ _ (by assumption)]; conv => whnf))
  refine ⟨⟨[], ?_⟩⟩
  conv => whnf
theorem right_ctr (g : GP) (he : ∀ w, g.G w → ErrG w) (l : List UInt8) (hl : l.length < 2 ^ 30) : Ctr (ax g).E 39 [.str (baL l)] [] (fun o => o = .ret (.bool (parseW l).isSome) []) := by
  have h1 := parse37_ctr g he l hl
  cases hP : parseW l with
  | none =>
    rw [hP, parseV] at h1
    refine Ctr.body (X := ax g) _ 11 [] [.tmp 2] Tryd.func39 rfl rfl rfl rfl (by decide +kernel) rfl rfl ?_
    conv => whnf
    repeat' (first | (refine And.intro (by first | exact rfl | decide | exact Nat.le_of_ble_eq_true rfl | exact ⟨_, rfl⟩ | exact ⟨_, _, rfl⟩ | exact Nat.le_refl _ | exact Int.le_refl _ | omega | (simp only [List.length_map]; omega) | exact True.intro | (simp only [IntKind.wrap_i64, List.length_map]; omega) | (simp only [List.map_cons, List.map_nil, List.length_cons, Option.getD]; omega) | (simp only [bsz, ByteArray.size_append, List.size_toArray, List.length_cons, List.length_nil]; omega) | exact ⟨⟨_, _, rfl, rfl, Nat.le_of_ble_eq_true rfl⟩, trivial⟩ | exact ⟨⟨_, _, rfl, rfl, Nat.le_of_ble_eq_true rfl⟩, ⟨_, _, rfl, rfl, Nat.le_of_ble_eq_true rfl⟩, trivial⟩ | exact ⟨⟨_, _, rfl, rfl, Nat.le_of_ble_eq_true rfl⟩, ⟨_, _, rfl, rfl, Nat.le_of_ble_eq_true rfl⟩, ⟨_, _, rfl, rfl, Nat.le_of_ble_eq_true rfl⟩, trivial⟩) ?_; conv => whnf) | (refine ifB_intro (fun hA => ?_) (fun hA => ?_) <;> (try rw [hA]) <;> (conv => whnf) <;> (first | replace hA := of_decide_eq_true hA | replace hA := of_decide_eq_false hA | replace hA := eq_of_beq hA | replace hA := ne_of_beq_false hA | replace hA := bne_iff_ne.1 hA | replace hA := bne_eq_false_iff_eq.1 hA | skip) <;> (try simp only [List.length_map, cond_true, cond_false, Bool.not_eq_true', Bool.not_eq_false', beq_iff_eq, beq_eq_false_iff_ne, ne_eq] at hA)) | (refine CallP.det (h1) ?_; conv => whnf) | (refine CallD.det (h1) ?_; conv => whnf) | (rw [getD_map _ _ _ _ (by assumption)]; conv => whnf))
    refine ⟨⟨[], ?_⟩⟩
    conv => whnf
    rfl
  | some W =>
    rw [hP, parseV] at h1
    refine Ctr.body (X := ax g) _ 11 [] [.tmp 2] Tryd.func39 rfl rfl rfl rfl (by decide +kernel) rfl rfl ?_
    conv => whnf
    repeat' (first | (refine And.intro (by first | exact rfl | decide | exact Nat.le_of_ble_eq_true rfl | exact ⟨_, rfl⟩ | exact ⟨_, _, rfl⟩ | exact Nat.le_refl _ | exact Int.le_refl _ | omega | (simp only [List.length_map]; omega) | exact True.intro | (simp only [IntKind.wrap_i64, List.length_map]; omega) | (simp only [List.map_cons, List.map_nil, List.length_cons, Option.getD]; omega) | (simp only [bsz, ByteArray.size_append, List.size_toArray, List.length_cons, List.length_nil]; omega) | exact ⟨⟨_, _, rfl, rfl, Nat.le_of_ble_eq_true rfl⟩, trivial⟩ | exact ⟨⟨_, _, rfl, rfl, Nat.le_of_ble_eq_true rfl⟩, ⟨_, _, rfl, rfl, Nat.le_of_ble_eq_true rfl⟩, trivial⟩ | exact ⟨⟨_, _, rfl, rfl, Nat.le_of_ble_eq_true rfl⟩, ⟨_, _, rfl, rfl, Nat.le_of_ble_eq_true rfl⟩, ⟨_, _, rfl, rfl, Nat.le_of_ble_eq_true rfl⟩, trivial⟩) ?_; conv => whnf) | (refine ifB_intro (fun hA => ?_) (fun hA => ?_) <;> (try rw [hA]) <;> (conv => whnf) <;> (first | replace hA := of_decide_eq_true hA | replace hA := of_decide_eq_false hA | replace hA := eq_of_beq hA | replace hA := ne_of_beq_false hA | replace hA := bne_iff_ne.1 hA | replace hA := bne_eq_false_iff_eq.1 hA | skip) <;> (try simp only [List.length_map, cond_true, cond_false, Bool.not_eq_true', Bool.not_eq_false', beq_iff_eq, beq_eq_false_iff_ne, ne_eq] at hA)) | (refine CallP.det (h1) ?_; conv => whnf) | (refine CallD.det (h1) ?_; conv => whnf) | (rw [getD_map _ _ _ _ (by assumption)]; conv => whnf))
    refine ⟨⟨[], ?_⟩⟩
    conv => whnf
    rfl
end Go.Ax

namespace Go.Ax
open Go.Proofs Go.Lib
set_option maxRecDepth 10000
theorem split_cat (c : UInt8) : ∀ (a b : List UInt8), splitL c (a ++ c :: b) = splitL c a ++ splitL c b
  | [], b => by simp [splitL]
  | x :: a, b => by
    have ih := split_cat c a b
    rw [List.cons_append, splitL, splitL, ih]
    by_cases h : c = x
    · rw [if_pos h, if_pos h]; rfl
    · rw [if_neg h, if_neg h]
      cases hs : splitL c a with
      | nil => exact absurd hs (splitL_ne c a)
      | cons q qs => rfl
theorem words_cat (a b : List UInt8) : wordsL (a ++ 32 :: b) = wordsL a ++ wordsL b := by
  unfold wordsL keptS
  rw [split_cat, List.filter_append]
theorem words_one {x : List UInt8} (h1 : x.all (· != 32) = true) (h2 : x ≠ []) : wordsL x = [x] := by
  unfold wordsL keptS
  rw [split_one 32 x h1]
  simp [h2]
theorem words_join : ∀ (xs : List (List UInt8)), (∀ x ∈ xs, x.all (· != 32) = true ∧ x ≠ []) → wordsL (Lib.join xs [32]) = xs
  | [], _ => rfl
  | [x], h => by rw [Lib.join_one]; exact words_one (h x (by simp)).1 (h x (by simp)).2
  | x :: y :: r, h => by
    have e : Lib.join (x :: y :: r) [32] = x ++ 32 :: Lib.join (y :: r) [32] := by simp [Lib.join, List.intercalate]
    rw [e, words_cat, words_one (h x (by simp)).1 (h x (by simp)).2, words_join (y :: r) fun z hz => h z (by simp at hz ⊢; exact .inr hz)]
    rfl
theorem dec_all (n : Nat) : (Lib.decDigits n).all isD = true ∧ valD 0 (Lib.decDigits n) = n ∧ 1 ≤ (Lib.decDigits n).length := dec_facts n
theorem isD_not {l : List UInt8} (h : l.all isD = true) {c : UInt8} (hc : isD c = false) : l.all (· != c) = true := by
  rw [List.all_eq_true] at h ⊢
  intro x hx
  have := h x hx
  rw [bne_iff_ne]
  intro e
  rw [e, hc] at this
  simp at this
theorem dec_cons (n : Nat) : ∃ c r, Lib.decDigits n = c :: r ∧ isD c = true := by
  obtain ⟨h1, _, h3⟩ := dec_all n
  cases h : Lib.decDigits n with
  | nil => rw [h] at h3; simp at h3
  | cons c r => rw [h] at h1; simp only [List.all_cons, Bool.and_eq_true] at h1; exact ⟨c, r, rfl, h1.1⟩
theorem wordQ_not {q : List Nat} {c : UInt8} (hc : isD c = false) (h58 : c ≠ 58) : (wordQ q).all (· != c) = true := by
  rw [wordQ, List.all_append, List.all_cons, isD_not (dec_all _).1 hc, isD_not (dec_all _).1 hc]
  simp; exact fun e => h58 e.symm
theorem wordQ_ne (q : List Nat) : wordQ q ≠ [] := by
  rw [wordQ]; simp
theorem numP_dec {n : Nat} (h : n < 65536) : numP (Lib.decDigits n) = ((n : Int), true) := by
  obtain ⟨h1, h2, h3⟩ := dec_all n
  have h4 := dec_len 4 n (by omega)
  unfold numP
  rw [if_neg (by rintro (h | h | h); omega; omega; rw [h1] at h; simp at h), h2]
  simp; omega
theorem placeP_dec {n : Nat} (h : n < 65536) : placeP (Lib.decDigits n) = ((n : Int), true) := by
  unfold placeP
  rw [if_neg, numP_dec h]
  intro e
  obtain ⟨c, r, h1, h2⟩ := dec_cons n
  rw [e] at h1
  injection h1 with h1 _
  subst h1
  exact absurd h2 (by decide)
theorem index_cat {c : UInt8} : ∀ {a : List UInt8} {b : List UInt8}, a.all (· != c) = true → Lib.indexByte (a ++ c :: b) c = (a.length : Int) := fun {a b} h => by
  rcases index_one c (a ++ c :: b) with ⟨_, h2⟩ | ⟨n, h1, h2, h3⟩
  · rw [split_app c a b h] at h2
    injection h2 with _ h2
    exact absurd h2 (splitL_ne c b)
  · rw [Go.Lib.index_one] at h1
    rw [split_app c a b h] at h3
    injection h3 with h3 _
    rw [h1]
    have : a.length = min n (a ++ c :: b).length := by rw [← List.length_take, ← h3]
    congr 1; omega
theorem cutL_cat {c : UInt8} {a b : List UInt8} (h : a.all (· != c) = true) : cutL c (a ++ c :: b) = (a, b, true) := by
  unfold cutL
  rw [index_cat h, if_neg (by omega), Int.toNat_natCast, List.take_left' rfl]
  simp
def exactW (q : List Nat) : WordT := ⟨false, false, ((q.getD 0 0 : Nat) : Int), ((q.getD 1 0 : Nat) : Int), []⟩
def starW : WordT := ⟨true, false, 0, 0, []⟩
def anyW : WordT := ⟨false, false, -1, -1, []⟩
theorem read_star : readW [46, 46] = (starW, true) := rfl
theorem read_any : readW [42, 58, 42] = (anyW, true) := by kernel_rfl
theorem read_exact {q : List Nat} (ok : OkK q) : readW (wordQ q) = (exactW q, true) := by
  obtain ⟨c, r, hc, hd⟩ := dec_cons (q.getD 0 0)
  have hw : wordQ q = c :: (r ++ 58 :: Lib.decDigits (q.getD 1 0)) := by rw [wordQ, hc]; rfl
  have h33 : c ≠ 33 := fun e => by rw [e] at hd; exact absurd hd (by decide)
  have h46 : c ≠ 46 := fun e => by rw [e] at hd; exact absurd hd (by decide)
  have hp : negW (wordQ q) = false := by
    unfold negW; rw [hw]
    simp [Lib.hasPrefix, List.isPrefixOf, Ne.symm h33]
  have hb : bareW (wordQ q) = wordQ q := by
    unfold bareW Lib.trimPrefix
    unfold negW at hp
    rw [hp]; rfl
  have hpa : partsW (wordQ q) = [wordQ q] := by
    unfold partsW; rw [hb]
    exact split_one 46 _ (wordQ_not (by decide) (by decide))
  have hat : atW (wordQ q) = (Lib.decDigits (q.getD 0 0), Lib.decDigits (q.getD 1 0), true) := by
    unfold atW; rw [hpa]
    exact cutL_cat (isD_not (dec_all _).1 (by decide))
  have hok : headOk (wordQ q) = true := by
    unfold headOk
    rw [hat, hpa, placeP_dec (ok.2 0 (by omega)), placeP_dec (ok.2 1 (by omega))]; rfl
  unfold readW
  rw [if_neg (by rw [hw]; intro e; injection e with e _; exact h46 e), if_pos hok, hat, hpa, hp, placeP_dec (ok.2 0 (by omega)), placeP_dec (ok.2 1 (by omega))]
  rfl
theorem words_of {L : List (List Nat)} : wordsL (ofL L) = L.map wordQ := words_join _ fun x hx => by
  obtain ⟨q, hq, rfl⟩ := List.mem_map.1 hx
  exact ⟨wordQ_not (by decide) (by decide), wordQ_ne q⟩
theorem parse_of {l : List UInt8} {xs : List (List UInt8)} {W : List WordT} (hx : wordsL l = xs) (hl : l.length ≤ 200) (h30 : xs.length ≤ 30) (h : xs.map readW = W.map fun w => (w, true)) : parseW l = some W := by
  unfold parseW
  rw [hx]
  have h1 : xs.map (fun x => (readW x).1) = W := by
    have := congrArg (List.map Prod.fst) h
    simpa [List.map_map, Function.comp_def] using this
  have h2 : xs.all (fun x => (readW x).2) = true := by
    have := congrArg (List.map Prod.snd) h
    simp only [List.map_map, Function.comp_def] at this
    rw [List.all_eq_true]
    intro x hxm
    have h3 : (readW x).2 ∈ W.map fun _ => true := by rw [← this]; exact List.mem_map.2 ⟨x, hxm, rfl⟩
    simp at h3; exact h3.2
  rw [if_neg (by rintro (h | h | h); omega; omega; rw [h2] at h; simp at h), h1]
theorem fits_exact (q : List Nat) : fitsW (exactW q) q = true := by
  simp [fitsW, exactW, hasF]
abbrev GlobW := Glob (·.many) fitsW
theorem glob_exact : ∀ L : List (List Nat), GlobW (L.map exactW) L
  | [] => .nil
  | q :: L => .one rfl (fits_exact q) (glob_exact L)
theorem glob_len {W : List WordT} {L : List (List Nat)} (h : GlobW W L) (hm : ∀ w ∈ W, w.many = false) : W.length = L.length := by
  have h2 : GlobW (W ++ []) L := by rwa [List.append_nil]
  obtain ⟨p, r, rfl, h3, h4⟩ := Glob.ones W hm h2
  rw [Glob.nil_iff] at h4
  subst h4
  simp [h3]
theorem exact_one {L : List (List Nat)} : ∀ w ∈ L.map exactW, w.many = false := fun w hw => by
  obtain ⟨q, _, rfl⟩ := List.mem_map.1 hw; rfl
def betW : List (List Nat) → List WordT
  | [] => [starW]
  | q :: L => starW :: exactW q :: betW L
theorem glob_bet : ∀ L : List (List Nat), GlobW (betW L) L
  | [] => .star [] rfl .nil
  | q :: L => .star [] rfl (.one rfl (fits_exact q) (glob_bet L))
theorem glob_star (L : List (List Nat)) : GlobW [starW] L := by
  have h : GlobW [starW] (L ++ []) := .star L rfl .nil
  rwa [List.append_nil] at h
end Go.Ax

namespace Go.Ax
open Go.Proofs Go.Lib
set_option maxRecDepth 10000
def aT1 : List UInt8 := [46, 46, 32, 50, 58, 42, 32, 46, 46]
def aT2 : List UInt8 := [49, 58, 49, 46, 100, 115, 116, 61, 51, 32, 33, 50, 58, 42]
def aQ1 : List (List Nat) := [[1, 1, 0, 0, 0, 0, 0, 0], [2, 5, 0, 0, 0, 0, 0, 0], [3, 1, 0, 0, 0, 0, 0, 0]]
def aQ2 : List (List Nat) := [[1, 1, 0, 3, 0, 0, 0, 0], [2, 5, 0, 0, 0, 0, 0, 0]]
def aQ3 : List (List Nat) := [[1, 2, 0, 0, 0, 0, 0, 0], [3, 4, 0, 0, 0, 0, 0, 0]]
def aW2 : List WordT := [⟨false, false, 1, 1, [(3, 3)]⟩, ⟨false, true, 2, -1, []⟩]
theorem aP1 : parseW aT1 = some [starW, ⟨false, false, 2, -1, []⟩, starW] := by kernel_rfl
theorem aP2 : parseW aT2 = some aW2 := by kernel_rfl
theorem aP3 : parseW [46, 46] = some [starW] := by kernel_rfl
theorem aP4 : parseW [120] = none := by kernel_rfl
theorem ok_of {l : List (List Nat)} (h : (l.all fun q => decide (q.length = 8) && (List.range 8).all fun i => decide (q.getD i 0 < 65536)) = true) : ∀ q ∈ l, OkK q := fun q hq => by
  have h1 := List.all_eq_true.1 h q hq
  rw [Bool.and_eq_true, decide_eq_true_eq, List.all_eq_true] at h1
  exact ⟨h1.1, fun i hi => by simpa using h1.2 i (List.mem_range.2 hi)⟩
theorem aG1 : GlobW [starW, ⟨false, false, 2, -1, []⟩, starW] aQ1 :=
  .star [[1, 1, 0, 0, 0, 0, 0, 0]] rfl (.one rfl (by decide) (.star [[3, 1, 0, 0, 0, 0, 0, 0]] rfl .nil))
theorem aG2 : ¬ GlobW aW2 aQ2 := fun h => by
  obtain ⟨q, r, e, _, h2⟩ := (Glob.one_iff (by rfl)).1 h
  injection e with _ e
  subst e
  obtain ⟨q, r, e, h3, _⟩ := (Glob.one_iff (by rfl)).1 h2
  injection e with e _
  subst e
  exact absurd h3 (by decide)
theorem aO : ofL aQ3 = [49, 58, 50, 32, 51, 58, 52] := by
  simp [ofL, aQ3, wordQ, Lib.decDigits_one, Lib.join, List.intercalate]
theorem awake37_ctr (g : GP) (hp : ∀ w, g.G w → PowG w) (he : ∀ w, g.G w → ErrG w) : Ctr (ax g).E 22 [] [] (fun o => o = .ret (.bool true) []) := by
  have c1 := matchL_ctr g he aT1 (by decide) true aQ1 (by decide) (ok_of (by decide)) _ aP1 true (iff_of_true rfl aG1)
  have c2 := matchL_ctr g he aT2 (by decide) true aQ2 (by decide) (ok_of (by decide)) _ aP2 false (iff_of_false (by simp) aG2)
  have c3 := right_ctr g he [46, 46] (by decide)
  rw [aP3] at c3
  have c4 := right_ctr g he [120] (by decide)
  rw [aP4] at c4
  have c5 := of37_ctr g hp true aQ3 (ok_of (by decide)) (by decide)
  rw [aO] at c5
  refine Ctr.body (X := ax g) _ 47 [] [.tmp 0] Tryd.func22 rfl rfl rfl rfl (by decide +kernel) rfl rfl ?_
  conv => whnf
  repeat' (first | (refine And.intro (by first | exact rfl | decide | exact Nat.le_of_ble_eq_true rfl | exact ⟨_, rfl⟩ | exact ⟨_, _, rfl⟩ | exact Nat.le_refl _ | exact Int.le_refl _ | omega | (simp only []; omega) | exact True.intro | (simp only []; omega) | (simp only [List.length_cons]; omega) | (simp only [List.length_cons, List.length_nil]; omega) | exact ⟨⟨_, _, rfl, rfl, Nat.le_of_ble_eq_true rfl⟩, trivial⟩ | exact ⟨⟨_, _, rfl, rfl, Nat.le_of_ble_eq_true rfl⟩, ⟨_, _, rfl, rfl, Nat.le_of_ble_eq_true rfl⟩, trivial⟩ | exact ⟨⟨_, _, rfl, rfl, Nat.le_of_ble_eq_true rfl⟩, ⟨_, _, rfl, rfl, Nat.le_of_ble_eq_true rfl⟩, ⟨_, _, rfl, rfl, Nat.le_of_ble_eq_true rfl⟩, trivial⟩) ?_; conv => whnf) | (refine ifB_intro (fun hA => ?_) (fun hA => ?_) <;> (try rw [hA]) <;> (conv => whnf) <;> (first | replace hA := of_decide_eq_true hA | replace hA := of_decide_eq_false hA | replace hA := eq_of_beq hA | replace hA := ne_of_beq_false hA | replace hA := bne_iff_ne.1 hA | replace hA := bne_eq_false_iff_eq.1 hA | skip) <;> (try simp only [List.length_map, cond_true, cond_false, Bool.not_eq_true', Bool.not_eq_false', beq_iff_eq, beq_eq_false_iff_ne, ne_eq] at hA)) | (refine CallP.det (c1) ?_; conv => whnf) | (refine CallD.det (c1) ?_; conv => whnf) | (refine CallP.det (c2) ?_; conv => whnf) | (refine CallD.det (c2) ?_; conv => whnf) | (refine CallP.det (c3) ?_; conv => whnf) | (refine CallD.det (c3) ?_; conv => whnf) | (refine CallP.det (c4) ?_; conv => whnf) | (refine CallD.det (c4) ?_; conv => whnf) | (refine CallP.det (c5) ?_; conv => whnf) | (refine CallD.det (c5) ?_; conv => whnf) | (refine And.intro ⟨⟨_, _, rfl, rfl, Nat.le_of_ble_eq_true rfl⟩, ⟨_, _, rfl, rfl, Nat.le_of_ble_eq_true rfl⟩, ⟨_, _, rfl, rfl, Nat.le_of_ble_eq_true rfl⟩, ⟨_, _, rfl, rfl, Nat.le_of_ble_eq_true rfl⟩, trivial⟩ ?_; conv => whnf) | (rw [getD_map _ _ _ _ (by assumption)]; conv => whnf))
  refine ⟨⟨[], ?_⟩⟩
  conv => whnf
  rfl
def betB (a : List UInt8) (q : List Nat) : List UInt8 := a ++ 32 :: (wordQ q ++ 32 :: [46, 46])
def betT (L : List (List Nat)) : List UInt8 := L.foldl betB [46, 46]
def texts5 (L : List (List Nat)) : List (List UInt8) := [ofL L, [46, 46, 32] ++ ofL L, ofL L ++ [32, 46, 46], betT L, [46, 46]]
theorem words_word (q : List Nat) : wordsL (wordQ q) = [wordQ q] := words_one (wordQ_not (by decide) (by decide)) (wordQ_ne q)
theorem words_star : wordsL [46, 46] = [[46, 46]] := rfl
theorem words_bet : ∀ (L : List (List Nat)) (a : List UInt8), wordsL (L.foldl betB a) = wordsL a ++ L.flatMap fun q => [wordQ q, [46, 46]]
  | [], a => by simp
  | q :: L, a => by
    rw [List.foldl_cons, words_bet L, betB, words_cat, words_cat, words_word, words_star]
    simp
theorem bet_len : ∀ (L : List (List Nat)) (a : List UInt8), (∀ q ∈ L, OkK q) → (L.foldl betB a).length ≤ a.length + 15 * L.length
  | [], a, _ => by simp
  | q :: L, a, ok => by
    have h1 := bet_len L (betB a q) fun x hx => ok x (by simp [hx])
    have h2 := wordQ_len (ok q (by simp))
    rw [List.foldl_cons]
    have h3 : (betB a q).length ≤ a.length + 15 := by simp [betB]; omega
    simp; omega
theorem map_read {L : List (List Nat)} (ok : ∀ q ∈ L, OkK q) : (L.map wordQ).map readW = (L.map exactW).map fun w => (w, true) := by
  rw [List.map_map, List.map_map]
  exact List.map_congr_left fun q hq => read_exact (ok q hq)
theorem bet_read : ∀ {L : List (List Nat)}, (∀ q ∈ L, OkK q) → ([46, 46] :: L.flatMap fun q => [wordQ q, [46, 46]]).map readW = (betW L).map fun w => (w, true)
  | [], _ => rfl
  | q :: L, ok => by
    have ih := bet_read (L := L) fun x hx => ok x (by simp [hx])
    rw [List.map_cons] at ih
    rw [show (betW (q :: L)).map (fun w => (w, true)) = (starW, true) :: (exactW q, true) :: (betW L).map (fun w => (w, true)) from rfl, ← ih]
    simp [read_exact (ok q (by simp)), read_star]
theorem bet_wlen : ∀ L : List (List Nat), (L.flatMap fun q => [wordQ q, [46, 46]]).length = 2 * L.length
  | [] => rfl
  | q :: L => by rw [List.flatMap_cons, List.length_append, bet_wlen L]; simp; omega
theorem parse_ofL {L : List (List Nat)} (ok : ∀ q ∈ L, OkK q) (h : L.length ≤ 10) : parseW (ofL L) = some (L.map exactW) :=
  parse_of words_of (by have := ofL_len ok; omega) (by rw [List.length_map]; omega) (map_read ok)
theorem texts_ok {L : List (List Nat)} (ok : ∀ q ∈ L, OkK q) (h : L.length ≤ 10) : ∀ t ∈ texts5 L, ∃ W, parseW t = some W ∧ GlobW W L := by
  have hl := ofL_len ok
  intro t ht
  simp only [texts5, List.mem_cons, List.not_mem_nil, or_false] at ht
  rcases ht with rfl | rfl | rfl | rfl | rfl
  · exact ⟨_, parse_ofL ok h, glob_exact L⟩
  · refine ⟨starW :: L.map exactW, parse_of (xs := [46, 46] :: L.map wordQ) ?_ (by simp; omega) (by simp; omega) ?_, .star [] rfl (glob_exact L)⟩
    · have := words_cat [46, 46] (ofL L)
      rw [words_of, words_star] at this
      exact this
    · rw [List.map_cons, map_read ok, read_star]; rfl
  · refine ⟨L.map exactW ++ [starW], parse_of (xs := L.map wordQ ++ [[46, 46]]) ?_ (by simp; omega) (by simp; omega) ?_, ?_⟩
    · have := words_cat (ofL L) [46, 46]
      rw [words_of, words_star] at this
      exact this
    · rw [List.map_append, map_read ok, List.map_append, List.map_cons, read_star]; rfl
    · have h2 := Glob.append (glob_exact L) (glob_star [])
      rwa [List.append_nil] at h2
  · have hb := bet_len L [46, 46] ok
    refine ⟨betW L, parse_of (xs := [46, 46] :: L.flatMap fun q => [wordQ q, [46, 46]]) ?_ (by unfold betT; simp at hb ⊢; omega) (by rw [List.length_cons, bet_wlen]; omega) (bet_read ok), glob_bet L⟩
    rw [betT, words_bet, words_star]; rfl
  · exact ⟨_, aP3, glob_star L⟩
theorem texts_len {L : List (List Nat)} (ok : ∀ q ∈ L, OkK q) (h : L.length ≤ 10) : ∀ t ∈ texts5 L, t.length < 2 ^ 30 := by
  have hl := ofL_len ok
  have hb := bet_len L [46, 46] ok
  intro t ht
  simp only [texts5, List.mem_cons, List.not_mem_nil, or_false] at ht
  rcases ht with rfl | rfl | rfl | rfl | rfl
  · omega
  · simp; omega
  · simp; omega
  · unfold betT; simp at hb ⊢; omega
  · decide
theorem less_no {L : List (List Nat)} (h : L ≠ []) : ¬ GlobW (L.tail.map exactW) L := fun g => by
  have := glob_len g exact_one
  cases L with
  | nil => exact h rfl
  | cons q L => simp at this
theorem more_parse {L : List (List Nat)} (ok : ∀ q ∈ L, OkK q) (h : L.length ≤ 10) : parseW (ofL L ++ [32, 42, 58, 42]) = some (L.map exactW ++ [anyW]) := by
  have hl := ofL_len ok
  refine parse_of (xs := L.map wordQ ++ [[42, 58, 42]]) ?_ (by simp; omega) (by simp; omega) ?_
  · have := words_cat (ofL L) [42, 58, 42]
    rw [words_of, show wordsL [42, 58, 42] = [[42, 58, 42]] from rfl] at this
    exact this
  · rw [List.map_append, map_read ok, List.map_append, List.map_cons, read_any]; rfl
theorem more_no {L : List (List Nat)} : ¬ GlobW (L.map exactW ++ [anyW]) L := fun g => by
  have := glob_len g fun w hw => by
    rcases List.mem_append.1 hw with hw | hw
    · exact exact_one w hw
    · simp at hw; subst hw; rfl
  simp at this
def lastUp (L : List (List Nat)) : List (List Nat) := L.set (L.length - 1) ((L.getD (L.length - 1) []).set 0 (((L.getD (L.length - 1) []).getD 0 0 + 1) % 65536))
theorem lastUp_snoc (I : List (List Nat)) (q : List Nat) : lastUp (I ++ [q]) = I ++ [q.set 0 ((q.getD 0 0 + 1) % 65536)] := by
  have e : (I ++ [q]).length - 1 = I.length := by simp
  unfold lastUp
  rw [e]
  simp [List.getD]
theorem up_ok {q : List Nat} (ok : OkK q) : OkK (q.set 0 ((q.getD 0 0 + 1) % 65536)) := by
  refine ⟨by simpa using ok.1, fun i hi => ?_⟩
  rcases Nat.eq_zero_or_pos i with h | h
  · subst h
    have : 0 < q.length := by rw [ok.1]; omega
    simp [List.getD, this]; omega
  · have := ok.2 i hi
    simpa [List.getD, List.getElem?_set, show ¬ 0 = i by omega] using this
theorem lastUp_ok {L : List (List Nat)} (ok : ∀ q ∈ L, OkK q) (h : L ≠ []) : (∀ q ∈ lastUp L, OkK q) ∧ ¬ GlobW ((lastUp L).map exactW) L := by
  obtain ⟨I, q, rfl⟩ : ∃ I q, L = I ++ [q] := ⟨L.dropLast, L.getLast h, (List.dropLast_concat_getLast h).symm⟩
  rw [lastUp_snoc]
  have okq := ok q (by simp)
  refine ⟨fun x hx => ?_, fun g => ?_⟩
  · rcases List.mem_append.1 hx with hx | hx
    · exact ok x (by simp [hx])
    · simp at hx; subst hx; simpa using up_ok okq
  · rw [List.map_append, List.map_cons, List.map_nil] at g
    have g := Glob.snoc.1 g
    rw [if_neg (by simp [exactW])] at g
    obtain ⟨x, p, e, hf, _⟩ := g
    have hp : p = q := by
      have := congrArg (fun l => l.getLast?) e
      simp at this; exact this.symm
    subst hp
    have h0 := okq.2 0 (by omega)
    have hl : 0 < p.length := by rw [okq.1]; omega
    simp [fitsW, exactW, hasF, List.getD, hl] at hf
    simp [List.getD, hl] at h0
    omega
end Go.Ax
