/- What the card of this claim stands on, or the card itself: for every input, as the given row says. -/
import Derived.Test.YtdobclfcondfcaaGreatDoorPA07
import Derived.Test.YtdobclfcondfcaaGreatDoorPA09

namespace Go.Ax
open Go.Proofs Go.RowKit Go.Shelf Go.Lib
set_option maxRecDepth 10000
structure WordT where
  many : Bool
  not : Bool
  sw : Int
  pt : Int
  has : List (Int × Int)
def rowWd (w : WordT) : List D := [.v (.bool w.many), .v (.bool w.not), .i64 w.sw, .i64 w.pt, .sl false 2 (w.has.map rowPr)]
def testsGo : List (List UInt8) → List (Int × Int) → List (Int × Int) × Bool
  | [], acc => (acc, true)
  | p :: r, acc => if (testP p).2 = true then testsGo r (acc ++ [(testP p).1]) else (acc, false)
def bareW (l : List UInt8) : List UInt8 := Lib.trimPrefix l [33]
def negW (l : List UInt8) : Bool := Lib.hasPrefix l [33]
def partsW (l : List UInt8) : List (List UInt8) := splitL 46 (bareW l)
def atW (l : List UInt8) : List UInt8 × List UInt8 × Bool := cutL 58 ((partsW l).headD [])
def headOk (l : List UInt8) : Bool := (atW l).2.2 && (placeP (atW l).1).2 && (placeP (atW l).2.1).2 && decide ((partsW l).length ≤ 7)
def readW (l : List UInt8) : WordT × Bool :=
  if l = [46, 46] then (⟨true, false, 0, 0, []⟩, true)
  else if headOk l = true then (⟨false, negW l, (placeP (atW l).1).1, (placeP (atW l).2.1).1, (testsGo (partsW l).tail []).1⟩, (testsGo (partsW l).tail []).2)
  else (⟨false, negW l, (placeP (atW l).1).1, (placeP (atW l).2.1).1, []⟩, false)
theorem Ctr.tup1 {E : Env} {f : FuncId} {args : List AV} {hin : HL} {b : Bool} {xs : List D} (h : Ctr E f args hin fun o => ∃ r, (∀ (w : World) (Im : Nat → Prop) (ρ : Nat → Option Loc) (v : Value), RA (hp w) Im ρ v r → RA (hp w) Im ρ v (.dagg xs)) ∧ o = .ret (.tup [r, .bool b]) []) : Ctr E f args hin fun o => o = .ret (.tup [.dagg xs, .bool b]) [] :=
  h.re fun o ⟨r, h1, h2⟩ => ⟨_, .tup [.dagg xs, .bool b], h2, fun w Im ρ v H => by
    cases H with
    | tup cs _ hl hr =>
      refine .tup cs _ hl fun i u x e1 e2 => ?_
      match i with
      | 0 => simp at e2; subst e2; exact h1 _ _ _ _ (hr 0 u r e1 rfl)
      | 1 => simp at e2; subst e2; exact hr 1 u _ e1 rfl
      | n + 2 => simp at e2, fun q => rfl, rfl⟩
theorem RA.dagg_le' {xs ys : List D} (h : DLes xs ys) : ∀ (w : World) (Im : Nat → Prop) (ρ : Nat → Option Loc) (v : Value), RA (hp w) Im ρ v (.dagg xs) → RA (hp w) Im ρ v (.dagg ys) := fun _ _ _ _ H => H.dagg_le h
theorem RA.agg_dagg {xs : List AV} {ys : List D} (h : xs = ys.map .d) : ∀ (w : World) (Im : Nat → Prop) (ρ : Nat → Option Loc) (v : Value), RA (hp w) Im ρ v (.agg xs) → RA (hp w) Im ρ v (.dagg ys) := fun _ _ _ _ H => by subst h; exact H.dagg_of
theorem trimPrefix_len (l p : List UInt8) : (Lib.trimPrefix l p).length ≤ l.length := by
  unfold Lib.trimPrefix
  split
  · simp
  · exact Nat.le_refl _
theorem nil_le (a b c d : D) : DLes [a, b, c, d, .v (.slice Option.none 0 0)] [a, b, c, d, .sl false 2 []] := ⟨.inl rfl, .inl rfl, .inl rfl, .inl rfl, .inr (.inl ⟨rfl, _, _, rfl⟩), trivial⟩
theorem read37_ctr (g : GP) (he : ∀ w, g.G w → ErrG w) (l : List UInt8) (hl : l.length < 2 ^ 30) : Ctr (ax g).E 122 [.str (baL l)] [] fun o => o = .ret (.tup [.dagg (rowWd (readW l).1), .bool (readW l).2]) [] := by
  refine Ctr.tup1 ?_
  have hs := ba_size l
  by_cases h0 : l = [46, 46]
  · have hr : readW l = (⟨true, false, 0, 0, []⟩, true) := by unfold readW; rw [if_pos h0]
    rw [hr]
    subst h0
    refine Ctr.body (X := ax g) _ 84 [] [.cell 2 186, .tmp 3] Tryz.func122 rfl rfl rfl rfl (by decide +kernel) rfl rfl ?_
    conv => whnf
    repeat' (first | (refine And.intro (by first | exact rfl | decide | exact Nat.le_of_ble_eq_true rfl | exact ⟨_, rfl⟩ | exact ⟨_, _, rfl⟩ | exact Nat.le_refl _ | exact Int.le_refl _ | omega | (simp only []; omega) | exact True.intro | (simp only []; omega) | (simp only [List.length_cons]; omega) | (simp only [List.length_cons, List.length_nil]; omega) | exact ⟨⟨_, _, rfl, rfl, Nat.le_of_ble_eq_true rfl⟩, trivial⟩ | exact ⟨⟨_, _, rfl, rfl, Nat.le_of_ble_eq_true rfl⟩, ⟨_, _, rfl, rfl, Nat.le_of_ble_eq_true rfl⟩, trivial⟩ | exact ⟨⟨_, _, rfl, rfl, Nat.le_of_ble_eq_true rfl⟩, ⟨_, _, rfl, rfl, Nat.le_of_ble_eq_true rfl⟩, ⟨_, _, rfl, rfl, Nat.le_of_ble_eq_true rfl⟩, trivial⟩) ?_; conv => whnf) | (refine ifB_intro (fun hA => ?_) (fun hA => ?_) <;> (try rw [hA]) <;> (conv => whnf) <;> (first | replace hA := of_decide_eq_true hA | replace hA := of_decide_eq_false hA | replace hA := eq_of_beq hA | replace hA := ne_of_beq_false hA | replace hA := bne_iff_ne.1 hA | replace hA := bne_eq_false_iff_eq.1 hA | skip) <;> (try simp only [List.length_map, cond_true, cond_false, Bool.not_eq_true', Bool.not_eq_false', beq_iff_eq, beq_eq_false_iff_ne, ne_eq] at hA)) | (rw [getD_map _ _ _ _ (by assumption)]; conv => whnf))
    refine ⟨⟨[], ?_⟩⟩
    conv => whnf
    repeat' (first | (refine And.intro (by first | exact rfl | decide | exact Nat.le_of_ble_eq_true rfl | exact ⟨_, rfl⟩ | exact ⟨_, _, rfl⟩ | exact Nat.le_refl _ | exact Int.le_refl _ | omega | (simp only [List.length_map]; omega) | exact True.intro | (simp only [IntKind.wrap_i64, List.length_map]; omega) | (simp only [List.map_cons, List.map_nil, List.length_cons, Option.getD]; omega) | (simp only [bsz, ByteArray.size_append, List.size_toArray, List.length_cons, List.length_nil]; omega) | exact ⟨⟨_, _, rfl, rfl, Nat.le_of_ble_eq_true rfl⟩, trivial⟩ | exact ⟨⟨_, _, rfl, rfl, Nat.le_of_ble_eq_true rfl⟩, ⟨_, _, rfl, rfl, Nat.le_of_ble_eq_true rfl⟩, trivial⟩ | exact ⟨⟨_, _, rfl, rfl, Nat.le_of_ble_eq_true rfl⟩, ⟨_, _, rfl, rfl, Nat.le_of_ble_eq_true rfl⟩, ⟨_, _, rfl, rfl, Nat.le_of_ble_eq_true rfl⟩, trivial⟩) ?_; conv => whnf) | (refine ifB_intro (fun hA => ?_) (fun hA => ?_) <;> (try rw [hA]) <;> (conv => whnf) <;> (first | replace hA := of_decide_eq_true hA | replace hA := of_decide_eq_false hA | replace hA := eq_of_beq hA | replace hA := ne_of_beq_false hA | replace hA := bne_iff_ne.1 hA | replace hA := bne_eq_false_iff_eq.1 hA | skip) <;> (try simp only [List.length_map, cond_true, cond_false, Bool.not_eq_true', Bool.not_eq_false', beq_iff_eq, beq_eq_false_iff_ne, ne_eq] at hA)) | (rw [getD_map _ _ _ _ (by assumption)]; conv => whnf))
    exact ⟨_, RA.dagg_le' (nil_le _ _ _ _), rfl⟩
  · have hbl : (bareW l).length ≤ l.length := trimPrefix_len l [33]
    have hne : 0 < (partsW l).length := by
      rcases Nat.eq_zero_or_pos (partsW l).length with h | h
      · exact absurd (List.eq_nil_of_length_eq_zero h) (splitL_ne 46 _)
      · exact h
    have hps : ∀ p ∈ partsW l, p.length ≤ l.length := fun p hp => Nat.le_trans (split_len 46 _ p hp) hbl
    have hpn : (partsW l).length ≤ l.length + 1 := Nat.le_trans (splitL_le 46 _) (by omega)
    have c1 := cutPrefix_ctr g (baL l) ⟨#[33]⟩
    rw [ba_toList] at c1
    have c2 := ssplit_ctr g (baL (bareW l)) 46 (by rw [ba_size]; omega)
    rw [ba_toList] at c2
    obtain ⟨a1, a2⟩ := cutL_len 58 ((partsW l).headD [])
    have hhd : ((partsW l).headD []).length ≤ l.length := by
      cases hq : partsW l with
      | nil => simp
      | cons x r => exact hps x (by rw [hq]; simp)
    have c3 := cut_ctr g (baL ((partsW l).headD [])) 58 (by rw [ba_size]; omega)
    rw [ba_toList, cutV_eq] at c3
    have c4 := place37_ctr g he (atW l).1 (by unfold atW; omega)
    have c5 := place37_ctr g he (atW l).2.1 (by unfold atW; omega)
    have hr : readW l = if headOk l = true then (⟨false, negW l, (placeP (atW l).1).1, (placeP (atW l).2.1).1, (testsGo (partsW l).tail []).1⟩, (testsGo (partsW l).tail []).2) else (⟨false, negW l, (placeP (atW l).1).1, (placeP (atW l).2.1).1, []⟩, false) := by unfold readW; rw [if_neg h0]
    rw [hr]
    unfold headOk
    change Ctr _ _ [.str (baL (bareW l)), .str ⟨#[46]⟩] _ (fun o => o = .ret (.msl 9400 (partsW l).length 0 (partsW l).length) [(9400, some (.buf 1 9 ((partsW l).map rowW)))]) at c2
    change Ctr _ _ _ _ (fun o => o = .ret (.tup [.str (baL (atW l).1), .str (baL (atW l).2.1), .bool (atW l).2.2]) []) at c3
    change Ctr _ _ _ _ (fun o => o = .ret (.tup [.str (baL (bareW l)), .bool (negW l)]) []) at c1
    clear hr
    generalize atW l = A at *
    generalize hP : partsW l = P at *
    generalize negW l = neg at *
    generalize bareW l = B at *
    obtain ⟨x, y, two⟩ := A
    dsimp only at *
    obtain ⟨p0, ps, rfl⟩ : ∃ p0 ps, P = p0 :: ps := by
      cases P with
      | nil => simp at hne
      | cons p0 ps => exact ⟨p0, ps, rfl⟩
    refine Ctr.body (X := ax g) _ 84 [] [.cell 2 186, .tmp 3] Tryz.func122 rfl rfl rfl rfl (by decide +kernel) rfl rfl ?_
    conv => whnf
    have hlen : ((p0 :: ps).map rowW).length = (p0 :: ps).length := List.length_map _
    repeat' (first | (refine And.intro (by first | exact rfl | decide | exact Nat.le_of_ble_eq_true rfl | exact ⟨_, rfl⟩ | exact ⟨_, _, rfl⟩ | exact Nat.le_refl _ | exact Int.le_refl _ | omega | (simp only [List.length_map]; omega) | exact True.intro | (simp only [List.length_map]; omega) | (simp only [List.map_cons, List.length_cons, Option.getD]; omega) | (simp only [List.length_cons, List.length_nil]; omega) | exact ⟨⟨_, _, rfl, rfl, Nat.le_of_ble_eq_true rfl⟩, trivial⟩ | exact ⟨⟨_, _, rfl, rfl, Nat.le_of_ble_eq_true rfl⟩, ⟨_, _, rfl, rfl, Nat.le_of_ble_eq_true rfl⟩, trivial⟩ | exact ⟨⟨_, _, rfl, rfl, Nat.le_of_ble_eq_true rfl⟩, ⟨_, _, rfl, rfl, Nat.le_of_ble_eq_true rfl⟩, ⟨_, _, rfl, rfl, Nat.le_of_ble_eq_true rfl⟩, trivial⟩) ?_; conv => whnf) | (refine ifB_intro (fun hA => ?_) (fun hA => ?_) <;> (try rw [hA]) <;> (conv => whnf) <;> (first | replace hA := of_decide_eq_true hA | replace hA := of_decide_eq_false hA | replace hA := eq_of_beq hA | replace hA := ne_of_beq_false hA | replace hA := bne_iff_ne.1 hA | replace hA := bne_eq_false_iff_eq.1 hA | skip) <;> (try simp only [cond_false, Bool.not_eq_true', Bool.not_eq_false', ne_eq] at hA)) | (rw [ba_toList] at hA; exact absurd hA h0) | (refine CallP.det (c1) ?_; conv => whnf) | (refine CallD.det (c1) ?_; conv => whnf) | (refine CallP.makes rfl c2 ?_; conv => whnf) | (refine CallP.det (c3) ?_; conv => whnf) | (refine CallD.det (c3) ?_; conv => whnf) | (refine CallP.det (c4) ?_; conv => whnf) | (refine CallD.det (c4) ?_; conv => whnf) | (refine CallP.det (c5) ?_; conv => whnf) | (refine CallD.det (c5) ?_; conv => whnf) | (rw [hlen]; conv => whnf) | (rw [getD_map _ _ _ _ (by assumption)]; conv => whnf))
    iterate 4
      · have hc : ¬ ((two && (placeP x).2 && (placeP y).2 && decide ((p0 :: ps).length ≤ 7)) = true) := by
          simp only [Bool.and_eq_true, decide_eq_true_eq]
          rintro ⟨⟨⟨q1, q2⟩, q3⟩, q4⟩
          first | omega | (simp_all; done)
        rw [if_neg hc]
        refine ⟨⟨[], ?_⟩⟩
        conv => whnf
        repeat' (first | (refine And.intro (by first | exact rfl | decide | exact Nat.le_of_ble_eq_true rfl | exact ⟨_, rfl⟩ | exact ⟨_, _, rfl⟩ | exact Nat.le_refl _ | exact Int.le_refl _ | omega | (simp only [List.length_map]; omega) | exact True.intro | (simp only [IntKind.wrap_i64, List.length_map]; omega) | (simp only [List.map_cons, List.map_nil, List.length_cons, Option.getD]; omega) | (simp only [bsz, ByteArray.size_append, List.size_toArray, List.length_cons, List.length_nil]; omega) | exact ⟨⟨_, _, rfl, rfl, Nat.le_of_ble_eq_true rfl⟩, trivial⟩ | exact ⟨⟨_, _, rfl, rfl, Nat.le_of_ble_eq_true rfl⟩, ⟨_, _, rfl, rfl, Nat.le_of_ble_eq_true rfl⟩, trivial⟩ | exact ⟨⟨_, _, rfl, rfl, Nat.le_of_ble_eq_true rfl⟩, ⟨_, _, rfl, rfl, Nat.le_of_ble_eq_true rfl⟩, ⟨_, _, rfl, rfl, Nat.le_of_ble_eq_true rfl⟩, trivial⟩) ?_; conv => whnf) | (refine ifB_intro (fun hA => ?_) (fun hA => ?_) <;> (try rw [hA]) <;> (conv => whnf) <;> (first | replace hA := of_decide_eq_true hA | replace hA := of_decide_eq_false hA | replace hA := eq_of_beq hA | replace hA := ne_of_beq_false hA | replace hA := bne_iff_ne.1 hA | replace hA := bne_eq_false_iff_eq.1 hA | skip) <;> (try simp only [List.length_map, cond_true, cond_false, Bool.not_eq_true', Bool.not_eq_false', beq_iff_eq, beq_eq_false_iff_ne, ne_eq] at hA)) | (rw [getD_map _ _ _ _ (by assumption)]; conv => whnf))
        exact ⟨_, RA.dagg_le' (nil_le _ _ _ _), rfl⟩
    · have hc : (two && (placeP x).2 && (placeP y).2 && decide ((p0 :: ps).length ≤ 7)) = true := by
        simp only [Bool.and_eq_true, decide_eq_true_eq]
        refine ⟨⟨⟨?_, ?_⟩, ?_⟩, by omega⟩ <;> simp_all
      rw [if_pos hc]
      refine LoopP.asVar 2 5 _ rfl ?_
      refine LoopP.ownCell 2 4 9500 2 106 _ rfl rfl rfl ?_
      refine LoopP.inv (X := ax g) (fun z : Nat × List (Int × Int) => { f := [(2, .ptr 2 0), (3, .bool false), (62, .msl 9400 (p0 :: ps).length 1 ps.length), (63, .i64 ps.length), (64, .i64 z.1)], h := [(2, some (.var [.bool false, .bool neg, .i64 (placeP x).1, .i64 (placeP y).1, .msl 9500 z.2.length 0 z.2.length])), (9500, some (.buf 2 106 (z.2.map rowPr))), (9400, some (.buf 1 9 ((p0 :: ps).map rowW)))] }) (fun z => z.1 ≤ ps.length ∧ z.2.length ≤ z.1 ∧ testsGo ps [] = testsGo (ps.drop z.1) z.2) (fun z => ps.length - z.1) (0, []) ⟨Nat.zero_le _, Nat.le_refl _, rfl⟩ ⟨⟨rfl, rfl, rfl, rfl, rfl, trivial⟩, ⟨fun o h => h, fun o h => h, fun o h => h, trivial⟩⟩ fun ⟨i, acc⟩ ⟨hi, hac, hI⟩ => ?_
      dsimp only at hi hac hI ⊢
      have hlp : ((p0 :: ps).map rowW).length = (p0 :: ps).length := List.length_map _
      conv => whnf
      refine ifB_intro (fun h => ?_) (fun h => ?_)
      · have h : i < ps.length := by have h0 := of_decide_eq_true h; omega
        have hge : ((p0 :: ps).map rowW).getD (1 + ((i : Nat) : Int).toNat) [] = rowW ps[i] := by
          rw [show 1 + ((i : Nat) : Int).toNat = i + 1 from by omega, List.map_cons, List.getD_cons_succ]
          simp [List.getD, h]
        have hpl := hps ps[i] (by simp)
        have ct := test37_ctr g he ps[i] (by omega)
        have hst : testsGo (ps.drop i) acc = if (testP ps[i]).2 = true then testsGo (ps.drop (i + 1)) (acc ++ [(testP ps[i]).1]) else (acc, false) := by
          rw [List.drop_eq_getElem_cons h, testsGo]
        have hal : (acc.map rowPr).length = acc.length := List.length_map _
        generalize testP ps[i] = T at *
        obtain ⟨⟨tf, tn⟩, tb⟩ := T
        dsimp only at ct hst
        conv => whnf
        have hpc : (p0 :: ps).length = ps.length + 1 := rfl
        repeat' (first | (refine And.intro (by first | exact rfl | decide | exact Nat.le_of_ble_eq_true rfl | exact ⟨_, rfl⟩ | exact ⟨_, _, rfl⟩ | exact Nat.le_refl _ | exact Int.le_refl _ | omega | (simp only [List.length_map]; omega) | exact True.intro | (simp only [List.length_map]; omega) | (simp only [List.map_cons, List.length_cons]; omega) | (simp only [List.length_cons, List.length_nil]; omega) | exact ⟨⟨_, _, rfl, rfl, Nat.le_of_ble_eq_true rfl⟩, trivial⟩ | exact ⟨⟨_, _, rfl, rfl, Nat.le_of_ble_eq_true rfl⟩, ⟨_, _, rfl, rfl, Nat.le_of_ble_eq_true rfl⟩, trivial⟩ | exact ⟨⟨_, _, rfl, rfl, Nat.le_of_ble_eq_true rfl⟩, ⟨_, _, rfl, rfl, Nat.le_of_ble_eq_true rfl⟩, ⟨_, _, rfl, rfl, Nat.le_of_ble_eq_true rfl⟩, trivial⟩) ?_; conv => whnf) | (refine ifB_intro (fun hA => ?_) (fun hA => ?_) <;> (try rw [hA]) <;> (conv => whnf) <;> (first | replace hA := of_decide_eq_true hA | replace hA := of_decide_eq_false hA | replace hA := eq_of_beq hA | replace hA := ne_of_beq_false hA | replace hA := bne_iff_ne.1 hA | replace hA := bne_eq_false_iff_eq.1 hA | skip) <;> (try simp only [Bool.not_eq_true', Bool.not_eq_false'] at hA)) | (erw [hge]; conv => whnf) | (rw [hlp]; conv => whnf) | (refine CallP.det (ct) ?_; conv => whnf) | (refine CallD.det (ct) ?_; conv => whnf) | (refine And.intro hal.symm ?_; conv => whnf) | (refine And.intro (by show ((acc.map rowPr).length + 1) * 16 ≤ 140737488355328; rw [hal]; omega) ?_; conv => whnf) | (rw [getD_map _ _ _ _ (by assumption)]; conv => whnf))
        · have ht : testsGo (p0 :: ps).tail [] = (acc, false) := by
            show testsGo ps [] = _
            rw [hI, hst, if_neg (by simp_all)]
          rw [ht]
          refine ⟨⟨[], ?_⟩⟩
          conv => whnf
          repeat' (first | (refine And.intro (by first | exact rfl | decide | exact Nat.le_of_ble_eq_true rfl | exact ⟨_, rfl⟩ | exact ⟨_, _, rfl⟩ | exact Nat.le_refl _ | exact Int.le_refl _ | omega | (simp only [List.length_map]; omega) | exact True.intro | (simp only [IntKind.wrap_i64, List.length_map]; omega) | (simp only [List.map_cons, List.map_nil, List.length_cons, Option.getD]; omega) | (simp only [bsz, ByteArray.size_append, List.size_toArray, List.length_cons, List.length_nil]; omega) | exact ⟨⟨_, _, rfl, rfl, Nat.le_of_ble_eq_true rfl⟩, trivial⟩ | exact ⟨⟨_, _, rfl, rfl, Nat.le_of_ble_eq_true rfl⟩, ⟨_, _, rfl, rfl, Nat.le_of_ble_eq_true rfl⟩, trivial⟩ | exact ⟨⟨_, _, rfl, rfl, Nat.le_of_ble_eq_true rfl⟩, ⟨_, _, rfl, rfl, Nat.le_of_ble_eq_true rfl⟩, ⟨_, _, rfl, rfl, Nat.le_of_ble_eq_true rfl⟩, trivial⟩) ?_; conv => whnf) | (refine ifB_intro (fun hA => ?_) (fun hA => ?_) <;> (try rw [hA]) <;> (conv => whnf) <;> (first | replace hA := of_decide_eq_true hA | replace hA := of_decide_eq_false hA | replace hA := eq_of_beq hA | replace hA := ne_of_beq_false hA | replace hA := bne_iff_ne.1 hA | replace hA := bne_eq_false_iff_eq.1 hA | skip) <;> (try simp only [List.length_map, cond_true, cond_false, Bool.not_eq_true', Bool.not_eq_false', beq_iff_eq, beq_eq_false_iff_ne, ne_eq] at hA)) | (refine And.intro hal.symm ?_; conv => whnf) | (rw [getD_map _ _ _ _ (by assumption)]; conv => whnf))
          refine ⟨.agg [.bool false, .bool neg, .i64 (placeP x).1, .i64 (placeP y).1, .d (.sl false 2 (((acc.map rowPr).drop 0).take acc.length))], RA.agg_dagg ?_, rfl⟩
          rw [List.drop_zero, List.take_of_length_le (by rw [hal]; exact Nat.le_refl _)]
          rfl
        · rw [if_pos (by simp_all)] at hst
          refine ⟨(i + 1, acc ++ [(tf, tn)]), ⟨by show i + 1 ≤ _; omega, by show (acc ++ [(tf, tn)]).length ≤ i + 1; rw [List.length_append, List.length_singleton]; omega, by show _ = testsGo (ps.drop (i + 1)) (acc ++ [(tf, tn)]); rw [hI, hst]⟩, by show ps.length - (i + 1) < _; omega, ⟨⟨rfl, rfl, rfl, rfl, AV.int_eq (i64_succ (by omega)), trivial⟩, ⟨fun o h => ?_, fun o h => ?_, fun o h => h, trivial⟩⟩⟩
          · rw [← h]
            show some (AObj.var [.bool false, .bool neg, .i64 (placeP x).1, .i64 (placeP y).1, .msl 9500 ((acc.map rowPr).length + 1) 0 ((acc.map rowPr).length + 1)]) = some (AObj.var [.bool false, .bool neg, .i64 (placeP x).1, .i64 (placeP y).1, .msl 9500 (acc ++ [(tf, tn)]).length 0 (acc ++ [(tf, tn)]).length])
            rw [hal, List.length_append]
            rfl
          · rw [← h, List.map_append]; rfl
      · have h : i = ps.length := by have h0 := of_decide_eq_false h; omega
        subst h
        rw [List.drop_length, testsGo] at hI
        have hal : (acc.map rowPr).length = acc.length := List.length_map _
        have ht : testsGo (p0 :: ps).tail [] = (acc, true) := hI
        rw [ht]
        conv => whnf
        repeat' (first | (refine And.intro (by first | exact rfl | decide | exact Nat.le_of_ble_eq_true rfl | exact ⟨_, rfl⟩ | exact ⟨_, _, rfl⟩ | exact Nat.le_refl _ | exact Int.le_refl _ | omega | (simp only [List.length_map]; omega) | exact True.intro | (simp only [IntKind.wrap_i64, List.length_map]; omega) | (simp only [List.map_cons, List.map_nil, List.length_cons, Option.getD]; omega) | (simp only [bsz, ByteArray.size_append, List.size_toArray, List.length_cons, List.length_nil]; omega) | exact ⟨⟨_, _, rfl, rfl, Nat.le_of_ble_eq_true rfl⟩, trivial⟩ | exact ⟨⟨_, _, rfl, rfl, Nat.le_of_ble_eq_true rfl⟩, ⟨_, _, rfl, rfl, Nat.le_of_ble_eq_true rfl⟩, trivial⟩ | exact ⟨⟨_, _, rfl, rfl, Nat.le_of_ble_eq_true rfl⟩, ⟨_, _, rfl, rfl, Nat.le_of_ble_eq_true rfl⟩, ⟨_, _, rfl, rfl, Nat.le_of_ble_eq_true rfl⟩, trivial⟩) ?_; conv => whnf) | (refine ifB_intro (fun hA => ?_) (fun hA => ?_) <;> (try rw [hA]) <;> (conv => whnf) <;> (first | replace hA := of_decide_eq_true hA | replace hA := of_decide_eq_false hA | replace hA := eq_of_beq hA | replace hA := ne_of_beq_false hA | replace hA := bne_iff_ne.1 hA | replace hA := bne_eq_false_iff_eq.1 hA | skip) <;> (try simp only [List.length_map, cond_true, cond_false, Bool.not_eq_true', Bool.not_eq_false', beq_iff_eq, beq_eq_false_iff_ne, ne_eq] at hA)) | (rw [getD_map _ _ _ _ (by assumption)]; conv => whnf))
        refine ⟨⟨[], ?_⟩⟩
        conv => whnf
        repeat' (first | (refine And.intro (by first | exact rfl | decide | exact Nat.le_of_ble_eq_true rfl | exact ⟨_, rfl⟩ | exact ⟨_, _, rfl⟩ | exact Nat.le_refl _ | exact Int.le_refl _ | omega | (simp only [List.length_map]; omega) | exact True.intro | (simp only [IntKind.wrap_i64, List.length_map]; omega) | (simp only [List.map_cons, List.map_nil, List.length_cons, Option.getD]; omega) | (simp only [bsz, ByteArray.size_append, List.size_toArray, List.length_cons, List.length_nil]; omega) | exact ⟨⟨_, _, rfl, rfl, Nat.le_of_ble_eq_true rfl⟩, trivial⟩ | exact ⟨⟨_, _, rfl, rfl, Nat.le_of_ble_eq_true rfl⟩, ⟨_, _, rfl, rfl, Nat.le_of_ble_eq_true rfl⟩, trivial⟩ | exact ⟨⟨_, _, rfl, rfl, Nat.le_of_ble_eq_true rfl⟩, ⟨_, _, rfl, rfl, Nat.le_of_ble_eq_true rfl⟩, ⟨_, _, rfl, rfl, Nat.le_of_ble_eq_true rfl⟩, trivial⟩) ?_; conv => whnf) | (refine ifB_intro (fun hA => ?_) (fun hA => ?_) <;> (try rw [hA]) <;> (conv => whnf) <;> (first | replace hA := of_decide_eq_true hA | replace hA := of_decide_eq_false hA | replace hA := eq_of_beq hA | replace hA := ne_of_beq_false hA | replace hA := bne_iff_ne.1 hA | replace hA := bne_eq_false_iff_eq.1 hA | skip) <;> (try simp only [List.length_map, cond_true, cond_false, Bool.not_eq_true', Bool.not_eq_false', beq_iff_eq, beq_eq_false_iff_ne, ne_eq] at hA)) | (refine And.intro hal.symm ?_; conv => whnf) | (rw [getD_map _ _ _ _ (by assumption)]; conv => whnf))
        refine ⟨.agg [.bool false, .bool neg, .i64 (placeP x).1, .i64 (placeP y).1, .d (.sl false 2 (((acc.map rowPr).drop 0).take acc.length))], RA.agg_dagg ?_, rfl⟩
        rw [List.drop_zero, List.take_of_length_le (by rw [hal]; exact Nat.le_refl _)]
        rfl
def parseW (l : List UInt8) : Option (List WordT) := if 200 < l.length ∨ 30 < (wordsL l).length ∨ (wordsL l).all (fun x => (readW x).2) = false then none else some ((wordsL l).map fun x => (readW x).1)
def parseV (o : Option (List WordT)) : AV := match o with
  | some w => .tup [.d (.sl false 5 (w.map rowWd)), .bool true]
  | none => .tup [.d (.v (.slice none 0 0)), .bool false]
theorem words_len {l x : List UInt8} (h : x ∈ wordsL l) : x.length ≤ l.length := split_len 32 l x (List.mem_filter.1 h).1
theorem parse37_ctr (g : GP) (he : ∀ w, g.G w → ErrG w) (l : List UInt8) (hl : l.length < 2 ^ 30) : Ctr (ax g).E 62 [.str (baL l)] [] fun o => o = .ret (parseV (parseW l)) [] := by
  have hs := ba_size l
  have h1 := psplit_ctr g (baL l) (by omega)
  rw [ba_toList] at h1
  have hwl := fun x (h : x ∈ wordsL l) => words_len h
  unfold parseW
  generalize wordsL l = ws at *
  have hwm : (ws.map rowW).length = ws.length := List.length_map _
  refine Ctr.body (X := ax g) _ 39 [] [.tmp 2, .tmp 3] Tryz.func62 rfl rfl rfl rfl (by decide +kernel) rfl rfl ?_
  conv => whnf
  repeat' (first | (refine And.intro (by first | exact rfl | decide | exact Nat.le_of_ble_eq_true rfl | exact ⟨_, rfl⟩ | exact ⟨_, _, rfl⟩ | exact Nat.le_refl _ | exact Int.le_refl _ | omega | (simp only [List.length_map]; omega) | exact True.intro | (simp only [IntKind.wrap_i64, List.length_map]; omega) | (simp only [List.map_cons, List.map_nil, List.length_cons, Option.getD]; omega) | (simp only [bsz, ByteArray.size_append, List.size_toArray, List.length_cons, List.length_nil]; omega) | exact ⟨⟨_, _, rfl, rfl, Nat.le_of_ble_eq_true rfl⟩, trivial⟩ | exact ⟨⟨_, _, rfl, rfl, Nat.le_of_ble_eq_true rfl⟩, ⟨_, _, rfl, rfl, Nat.le_of_ble_eq_true rfl⟩, trivial⟩ | exact ⟨⟨_, _, rfl, rfl, Nat.le_of_ble_eq_true rfl⟩, ⟨_, _, rfl, rfl, Nat.le_of_ble_eq_true rfl⟩, ⟨_, _, rfl, rfl, Nat.le_of_ble_eq_true rfl⟩, trivial⟩) ?_; conv => whnf) | (refine ifB_intro (fun hA => ?_) (fun hA => ?_) <;> (try rw [hA]) <;> (conv => whnf) <;> (first | replace hA := of_decide_eq_true hA | replace hA := of_decide_eq_false hA | replace hA := eq_of_beq hA | replace hA := ne_of_beq_false hA | replace hA := bne_iff_ne.1 hA | replace hA := bne_eq_false_iff_eq.1 hA | skip) <;> (try simp only [List.length_map] at hA)) | (refine CallP.det (h1) ?_; conv => whnf) | (refine CallD.det (h1) ?_; conv => whnf) | (rw [getD_map _ _ _ _ (by assumption)]; conv => whnf))
  · rw [if_pos (.inl (by omega))]
    refine ⟨⟨[], ?_⟩⟩
    conv => whnf
    rfl
  · rw [if_pos (.inr (.inl (by omega)))]
    refine ⟨⟨[], ?_⟩⟩
    conv => whnf
    rfl
  · refine LoopP.own 5 9501 5 186 rfl rfl rfl ?_
    refine LoopP.inv (X := ax g) (fun i : Nat => { f := [(2, .d (.v (.slice none 0 0))), (3, .bool false), (5, .msl 9501 i 0 i), (20, .d (.sl false 1 (ws.map rowW))), (21, .i64 ws.length), (22, .i64 i)], h := [(9501, some (.buf 5 186 ((ws.take i).map fun x => rowWd (readW x).1)))] }) (fun i => i ≤ ws.length ∧ (ws.take i).all (fun x => (readW x).2) = true) (fun i => ws.length - i) 0 ⟨Nat.zero_le _, rfl⟩ ⟨⟨rfl, rfl, rfl, rfl, AV.int_eq (by rw [hwm]), rfl, trivial⟩, ⟨fun o h => h, trivial⟩⟩ fun i ⟨hi, hI⟩ => ?_
    have hbl : ((ws.take i).map fun x => rowWd (readW x).1).length = i := by rw [List.length_map, List.length_take]; omega
    conv => whnf
    refine ifB_intro (fun h => ?_) (fun h => ?_)
    · have h : i < ws.length := by have h0 := of_decide_eq_true h; omega
      have hc := read37_ctr g he ws[i] (by have := hwl ws[i] (by simp); omega)
      have ht : ws.take (i + 1) = ws.take i ++ [ws[i]] := List.take_succ_eq_append_getElem h
      have hbad : (readW ws[i]).2 = false → ws.all (fun x => (readW x).2) = false := fun hb => by
        rw [Bool.eq_false_iff]; intro ha
        have := List.all_eq_true.1 ha ws[i] (by simp)
        rw [hb] at this; simp at this
      have hmx0 : (ws.take (i + 1)).map (fun x => rowWd (readW x).1) = (ws.take i).map (fun x => rowWd (readW x).1) ++ [rowWd (readW ws[i]).1] := by rw [ht, List.map_append]; rfl
      generalize hrw : readW ws[i] = R at *
      obtain ⟨⟨wm, wn, wsw, wpt, wh⟩, ok⟩ := R
      dsimp only at hc hbad
      conv => whnf
      repeat' (first | (refine And.intro (by first | exact rfl | decide | exact Nat.le_of_ble_eq_true rfl | exact ⟨_, rfl⟩ | exact ⟨_, _, rfl⟩ | exact Nat.le_refl _ | exact Int.le_refl _ | omega | (simp only [List.length_map]; omega) | exact True.intro | (simp only [List.length_map]; omega) | (simp only [List.length_cons]; omega) | (simp only [List.length_cons, List.length_nil]; omega) | exact ⟨⟨_, _, rfl, rfl, Nat.le_of_ble_eq_true rfl⟩, trivial⟩ | exact ⟨⟨_, _, rfl, rfl, Nat.le_of_ble_eq_true rfl⟩, ⟨_, _, rfl, rfl, Nat.le_of_ble_eq_true rfl⟩, trivial⟩ | exact ⟨⟨_, _, rfl, rfl, Nat.le_of_ble_eq_true rfl⟩, ⟨_, _, rfl, rfl, Nat.le_of_ble_eq_true rfl⟩, ⟨_, _, rfl, rfl, Nat.le_of_ble_eq_true rfl⟩, trivial⟩) ?_; conv => whnf) | (refine ifB_intro (fun hA => ?_) (fun hA => ?_) <;> (try rw [hA]) <;> (conv => whnf) <;> (first | replace hA := of_decide_eq_true hA | replace hA := of_decide_eq_false hA | replace hA := eq_of_beq hA | replace hA := ne_of_beq_false hA | replace hA := bne_iff_ne.1 hA | replace hA := bne_eq_false_iff_eq.1 hA | skip) <;> (try simp only [Bool.not_eq_true', Bool.not_eq_false'] at hA)) | (rw [getD_map rowW ws i [] h]; conv => whnf) | (refine CallP.det (hc) ?_; conv => whnf) | (refine CallD.det (hc) ?_; conv => whnf) | (refine And.intro hbl.symm ?_; conv => whnf) | (refine And.intro (by show (List.length _ + 1) * 48 ≤ 140737488355328; rw [hbl]; omega) ?_; conv => whnf) | (rw [getD_map _ _ _ _ (by assumption)]; conv => whnf))
      · rw [if_pos (.inr (.inr (hbad (by simp_all))))]
        refine ⟨⟨[], ?_⟩⟩
        conv => whnf
        rfl
      · refine ⟨i + 1, ⟨by omega, by rw [ht, List.all_append, hI, List.all_cons, List.all_nil, hrw]; simp_all⟩, by omega, ⟨⟨rfl, rfl, msl_eq (show List.length _ + 1 = i + 1 by rw [hbl]), rfl, rfl, AV.int_eq (i64_succ (by omega)), trivial⟩, ⟨fun o h => by rw [← h, hmx0]; rfl, trivial⟩⟩⟩
    · have h : i = ws.length := by have h0 := of_decide_eq_false h; omega
      subst h
      rw [List.take_length] at hI hbl ⊢
      have hmm : (ws.map fun x => rowWd (readW x).1) = (ws.map fun x => (readW x).1).map rowWd := by rw [List.map_map]; rfl
      conv => whnf
      rw [if_neg (by intro h; rcases h with h | h | h; omega; omega; rw [hI] at h; simp at h)]
      repeat' (first | (refine And.intro (by first | exact rfl | decide | exact Nat.le_of_ble_eq_true rfl | exact ⟨_, rfl⟩ | exact ⟨_, _, rfl⟩ | exact Nat.le_refl _ | exact Int.le_refl _ | omega | (simp only [List.length_map]; omega) | exact True.intro | (simp only [IntKind.wrap_i64, List.length_map]; omega) | (simp only [List.map_cons, List.map_nil, List.length_cons, Option.getD]; omega) | (simp only [bsz, ByteArray.size_append, List.size_toArray, List.length_cons, List.length_nil]; omega) | exact ⟨⟨_, _, rfl, rfl, Nat.le_of_ble_eq_true rfl⟩, trivial⟩ | exact ⟨⟨_, _, rfl, rfl, Nat.le_of_ble_eq_true rfl⟩, ⟨_, _, rfl, rfl, Nat.le_of_ble_eq_true rfl⟩, trivial⟩ | exact ⟨⟨_, _, rfl, rfl, Nat.le_of_ble_eq_true rfl⟩, ⟨_, _, rfl, rfl, Nat.le_of_ble_eq_true rfl⟩, ⟨_, _, rfl, rfl, Nat.le_of_ble_eq_true rfl⟩, trivial⟩) ?_; conv => whnf) | (refine ifB_intro (fun hA => ?_) (fun hA => ?_) <;> (try rw [hA]) <;> (conv => whnf) <;> (first | replace hA := of_decide_eq_true hA | replace hA := of_decide_eq_false hA | replace hA := eq_of_beq hA | replace hA := ne_of_beq_false hA | replace hA := bne_iff_ne.1 hA | replace hA := bne_eq_false_iff_eq.1 hA | skip) <;> (try simp only [List.length_map, cond_true, cond_false, Bool.not_eq_true', Bool.not_eq_false', beq_iff_eq, beq_eq_false_iff_ne, ne_eq] at hA)) | (rw [getD_map _ _ _ _ (by assumption)]; conv => whnf))
      refine ⟨⟨[], ?_⟩⟩
      conv => whnf
      repeat' (first | (refine And.intro (by first | exact rfl | decide | exact Nat.le_of_ble_eq_true rfl | exact ⟨_, rfl⟩ | exact ⟨_, _, rfl⟩ | exact Nat.le_refl _ | exact Int.le_refl _ | omega | (simp only [List.length_map]; omega) | exact True.intro | (simp only [IntKind.wrap_i64, List.length_map]; omega) | (simp only [List.map_cons, List.map_nil, List.length_cons, Option.getD]; omega) | (simp only [bsz, ByteArray.size_append, List.size_toArray, List.length_cons, List.length_nil]; omega) | exact ⟨⟨_, _, rfl, rfl, Nat.le_of_ble_eq_true rfl⟩, trivial⟩ | exact ⟨⟨_, _, rfl, rfl, Nat.le_of_ble_eq_true rfl⟩, ⟨_, _, rfl, rfl, Nat.le_of_ble_eq_true rfl⟩, trivial⟩ | exact ⟨⟨_, _, rfl, rfl, Nat.le_of_ble_eq_true rfl⟩, ⟨_, _, rfl, rfl, Nat.le_of_ble_eq_true rfl⟩, ⟨_, _, rfl, rfl, Nat.le_of_ble_eq_true rfl⟩, trivial⟩) ?_; conv => whnf) | (refine ifB_intro (fun hA => ?_) (fun hA => ?_) <;> (try rw [hA]) <;> (conv => whnf) <;> (first | replace hA := of_decide_eq_true hA | replace hA := of_decide_eq_false hA | replace hA := eq_of_beq hA | replace hA := ne_of_beq_false hA | replace hA := bne_iff_ne.1 hA | replace hA := bne_eq_false_iff_eq.1 hA | skip) <;> (try simp only [List.length_map, cond_true, cond_false, Bool.not_eq_true', Bool.not_eq_false', beq_iff_eq, beq_eq_false_iff_ne, ne_eq] at hA)) | (refine And.intro hbl.symm ?_; conv => whnf) | (rw [getD_map _ _ _ _ (by assumption)]; conv => whnf))
      rw [List.drop_zero, List.take_of_length_le (by rw [hbl]; exact Nat.le_refl _), hmm]
      rfl
end Go.Ax

namespace Go.Ax
open Go.Proofs Go.RowKit Go.Shelf Go.Lib
set_option maxRecDepth 10000
def fitsW (w : WordT) (q : List Nat) : Bool := ((decide (w.sw = -1) || decide (((q.getD 0 0 : Nat) : Int) = w.sw)) && (decide (w.pt = -1) || decide (((q.getD 1 0 : Nat) : Int) = w.pt)) && hasF q w.has) != w.not
theorem fits37_ctr (g : GP) (w : WordT) (q : List Nat) (hq : q.length = 8) (hh : w.has.length < 2 ^ 62) (hb : ∀ i, i < 8 → q.getD i 0 < 65536) : Ctr (ax g).E 125 [.dagg (rowWd w), .dagg (rowU q)] [] (fun o => o = .ret (.bool (fitsW w q)) []) := by
  have c1 := pat_ctr g q hq
  have c2 := phas_ctr g q hq false w.has hh
  have b0 := hb 0 (by omega)
  have b1 := hb 1 (by omega)
  obtain ⟨q0, q1, q2, q3, q4, q5, q6, q7, rfl⟩ := eight hq
  obtain ⟨wm, wn, wsw, wpt, wh⟩ := w
  have hw0 : IntKind.i64.wrap ((([q0, q1, q2, q3, q4, q5, q6, q7].getD 0 0 : Nat)) : Int) = (([q0, q1, q2, q3, q4, q5, q6, q7].getD 0 0 : Nat) : Int) := i64_wrap (by omega) (by omega)
  have hw1 : IntKind.i64.wrap ((([q0, q1, q2, q3, q4, q5, q6, q7].getD 1 0 : Nat)) : Int) = (([q0, q1, q2, q3, q4, q5, q6, q7].getD 1 0 : Nat) : Int) := i64_wrap (by omega) (by omega)
  unfold fitsW
  dsimp only at c2 ⊢
  refine Ctr.body (X := ax g) _ 43 [] [.tmp 4] Tryz.func125 rfl rfl rfl rfl (by decide +kernel) rfl rfl ?_
  conv => whnf
  repeat' (first | (refine And.intro (by first | exact rfl | decide | exact Nat.le_of_ble_eq_true rfl | exact ⟨_, rfl⟩ | exact ⟨_, _, rfl⟩ | exact Nat.le_refl _ | exact Int.le_refl _ | omega | (simp only [List.length_map]; omega) | exact True.intro | (simp only [IntKind.wrap_i64, List.length_map]; omega) | (simp only [List.map_cons, List.map_nil, List.length_cons, Option.getD]; omega) | (simp only [bsz, ByteArray.size_append, List.size_toArray, List.length_cons, List.length_nil]; omega) | exact ⟨⟨_, _, rfl, rfl, Nat.le_of_ble_eq_true rfl⟩, trivial⟩ | exact ⟨⟨_, _, rfl, rfl, Nat.le_of_ble_eq_true rfl⟩, ⟨_, _, rfl, rfl, Nat.le_of_ble_eq_true rfl⟩, trivial⟩ | exact ⟨⟨_, _, rfl, rfl, Nat.le_of_ble_eq_true rfl⟩, ⟨_, _, rfl, rfl, Nat.le_of_ble_eq_true rfl⟩, ⟨_, _, rfl, rfl, Nat.le_of_ble_eq_true rfl⟩, trivial⟩) ?_; conv => whnf) | (refine ifB_intro (fun hA => ?_) (fun hA => ?_) <;> (try rw [hA]) <;> (conv => whnf) <;> (first | replace hA := of_decide_eq_true hA | replace hA := of_decide_eq_false hA | replace hA := eq_of_beq hA | replace hA := ne_of_beq_false hA | replace hA := bne_iff_ne.1 hA | replace hA := bne_eq_false_iff_eq.1 hA | skip) <;> (try simp only [] at hA)) | (refine CallP.det (c1) ?_; conv => whnf) | (refine CallD.det (c1) ?_; conv => whnf) | (rw [hw0]; conv => whnf) | (rw [hw1]; conv => whnf) | (refine DrawP.intro (X := ax g) (id := 3) B125_3 (by kernel_rfl) (by decide +kernel) ?_; conv => whnf) | (refine CallP.det (c2) ?_; conv => whnf) | (refine CallD.det (c2) ?_; conv => whnf) | (rw [getD_map _ _ _ _ (by assumption)]; conv => whnf))
  all_goals
    refine ⟨⟨[], ?_⟩⟩
    conv => whnf
    have e0 : IntKind.i64.wrap (q0 : Int) = q0 := hw0
    have e1 : IntKind.i64.wrap (q1 : Int) = q1 := hw1
    clear c1 c2 hw0 hw1 b0 b1 hb hq hh
    simp_all [bne]
theorem lex3 {A A' F F' K K' N : Nat} (hA : A' + 1 ≤ A) (hF : F' < N) (hK : K' < N) : (A' * N + F') * N + K' < (A * N + F) * N + K := by
  have h1 : A' * N + F' + 1 ≤ A * N + F := by
    have := Nat.mul_le_mul_right N hA
    rw [Nat.succ_mul] at this; omega
  have h2 := Nat.mul_le_mul_right N h1
  rw [Nat.succ_mul] at h2; omega
theorem lex2 {A F F' K K' N : Nat} (hF : F' + 1 ≤ F) (hK : K' < N) : (A * N + F') * N + K' < (A * N + F) * N + K := by
  have h2 := Nat.mul_le_mul_right N (show A * N + F' + 1 ≤ A * N + F by omega)
  rw [Nat.succ_mul] at h2; omega
def backI (o : Option (Nat × Nat)) : Int := match o with | some (b, _) => (b : Int) | none => -1
def fromI (o : Option (Nat × Nat)) : Int := match o with | some (_, f) => (f : Int) | none => 0
def muG (W L : Nat) (k : Nat) (o : Option (Nat × Nat)) : Nat := match o with
  | none => ((W + 1) * (L + 2) + (L + 1)) * (L + 2) + (L - k)
  | some (b, f) => ((W - b) * (L + 2) + (L - f)) * (L + 2) + (L - k)
theorem match37_ctr (g : GP) (W : List WordT) (L : List (List Nat)) (bw : Bool) (hW : W.length < 2 ^ 40) (hL : L.length < 2 ^ 44) (hh : ∀ w ∈ W, w.has.length < 2 ^ 62) (hq : ∀ q ∈ L, OkK q) (r : Bool) (hr : r = true ↔ Glob (·.many) fitsW W L) :
    Ctr (ax g).E 67 [.d (.sl false 5 (W.map rowWd)), .d (.sl bw 8 (L.map rowU))] [] (fun o => o = .ret (.bool r) []) := by
  have hWm : (W.map rowWd).length = W.length := List.length_map _
  have hLm : (L.map rowU).length = L.length := List.length_map _
  refine Ctr.body (X := ax g) _ 74 [] [.tmp 4] Tryz.func67 rfl rfl rfl rfl (by decide +kernel) rfl rfl ?_
  conv => whnf
  repeat' (first | (refine And.intro (by first | exact rfl | decide | exact Nat.le_of_ble_eq_true rfl | exact ⟨_, rfl⟩ | exact ⟨_, _, rfl⟩ | exact Nat.le_refl _ | exact Int.le_refl _ | omega | (simp only [List.length_map]; omega) | exact True.intro | (simp only [IntKind.wrap_i64, List.length_map]; omega) | (simp only [List.map_cons, List.map_nil, List.length_cons, Option.getD]; omega) | (simp only [bsz, ByteArray.size_append, List.size_toArray, List.length_cons, List.length_nil]; omega) | exact ⟨⟨_, _, rfl, rfl, Nat.le_of_ble_eq_true rfl⟩, trivial⟩ | exact ⟨⟨_, _, rfl, rfl, Nat.le_of_ble_eq_true rfl⟩, ⟨_, _, rfl, rfl, Nat.le_of_ble_eq_true rfl⟩, trivial⟩ | exact ⟨⟨_, _, rfl, rfl, Nat.le_of_ble_eq_true rfl⟩, ⟨_, _, rfl, rfl, Nat.le_of_ble_eq_true rfl⟩, ⟨_, _, rfl, rfl, Nat.le_of_ble_eq_true rfl⟩, trivial⟩) ?_; conv => whnf) | (refine ifB_intro (fun hA => ?_) (fun hA => ?_) <;> (try rw [hA]) <;> (conv => whnf) <;> (first | replace hA := of_decide_eq_true hA | replace hA := of_decide_eq_false hA | replace hA := eq_of_beq hA | replace hA := ne_of_beq_false hA | replace hA := bne_iff_ne.1 hA | replace hA := bne_eq_false_iff_eq.1 hA | skip) <;> (try simp only [List.length_map, cond_true, cond_false, Bool.not_eq_true', Bool.not_eq_false', beq_iff_eq, beq_eq_false_iff_ne, ne_eq] at hA)) | (rw [getD_map _ _ _ _ (by assumption)]; conv => whnf))
  refine LoopP.inv (X := ax g) (fun z : Nat × Nat × Option (Nat × Nat) => { f := [(0, .d (.sl false 5 (W.map rowWd))), (1, .d (.sl bw 8 (L.map rowU))), (4, .bool false), (5, .i64 z.1), (6, .i64 z.2.1), (7, .i64 (backI z.2.2)), (8, .i64 (fromI z.2.2))], h := [] }) (fun z => Greedy (·.many) fitsW W L z.1 z.2.1 z.2.2) (fun z => muG W.length L.length z.2.1 z.2.2) (0, 0, none) (.start W L) ⟨⟨rfl, rfl, rfl, rfl, rfl, rfl, rfl, trivial⟩, trivial⟩ fun ⟨i, k, o⟩ hG => ?_
  dsimp only at hG ⊢
  obtain ⟨hi, hk⟩ := hG.bnd
  rcases o with _ | ⟨b, f⟩
  · have hw1 : IntKind.i64.wrap (fromI (none : Option (Nat × Nat)) + 1) = 1 := by decide
    conv => whnf
    refine ifB_intro (fun h => ?_) (fun h => ?_)
    · have h : k < L.length := by have h0 := of_decide_eq_true h; rw [hLm] at h0; omega
      have hokq := hq L[k] (by simp)
      by_cases hiW : i < W.length
      · have hf := fits37_ctr g W[i] L[k] hokq.1 (hh W[i] (by simp)) hokq.2
        have s1 := hG.star hiW
        have s2 := hG.next hiW h
        have s3 := hG.no h
        generalize hwi : W[i] = w at *
        generalize hqk : L[k] = q at *
        obtain ⟨q0, q1, q2, q3, q4, q5, q6, q7, rfl⟩ := eight hokq.1
        obtain ⟨wm, wn, wsw, wpt, wh⟩ := w
        dsimp only at s1 s2
        generalize hfv : fitsW ⟨wm, wn, wsw, wpt, wh⟩ [q0, q1, q2, q3, q4, q5, q6, q7] = fv at *
        conv => whnf
        repeat' (first | (refine And.intro (by first | exact rfl | decide | exact Nat.le_of_ble_eq_true rfl | exact ⟨_, rfl⟩ | exact ⟨_, _, rfl⟩ | exact Nat.le_refl _ | exact Int.le_refl _ | omega | (simp only []; omega) | exact True.intro | (simp only []; omega) | (simp only []; omega) | (simp only []; omega) | exact ⟨⟨_, _, rfl, rfl, Nat.le_of_ble_eq_true rfl⟩, trivial⟩ | exact ⟨⟨_, _, rfl, rfl, Nat.le_of_ble_eq_true rfl⟩, ⟨_, _, rfl, rfl, Nat.le_of_ble_eq_true rfl⟩, trivial⟩ | exact ⟨⟨_, _, rfl, rfl, Nat.le_of_ble_eq_true rfl⟩, ⟨_, _, rfl, rfl, Nat.le_of_ble_eq_true rfl⟩, ⟨_, _, rfl, rfl, Nat.le_of_ble_eq_true rfl⟩, trivial⟩) ?_; conv => whnf) | (refine ifB_intro (fun hA => ?_) (fun hA => ?_) <;> (try rw [hA]) <;> (conv => whnf) <;> (first | replace hA := of_decide_eq_true hA | replace hA := of_decide_eq_false hA | replace hA := eq_of_beq hA | replace hA := ne_of_beq_false hA | replace hA := bne_iff_ne.1 hA | replace hA := bne_eq_false_iff_eq.1 hA | skip) <;> (try simp only [List.length_map, cond_true] at hA)) | (erw [getD_map rowWd W i [] hiW, hwi]; conv => whnf) | (exfalso; omega) | (refine DrawP.intro (X := ax g) (id := 8) B67_8 (by kernel_rfl) (by decide +kernel) ?_; conv => whnf) | (erw [getD_map rowU L k [] h, hqk]; conv => whnf) | (refine CallP.det (hf) ?_; conv => whnf) | (refine CallD.det (hf) ?_; conv => whnf) | (rw [hw1]; conv => whnf) | (rw [getD_map _ _ _ _ (by assumption)]; conv => whnf))
        · refine ⟨(i + 1, k, some (i, k)), s1 (by assumption), ?_, ⟨⟨rfl, rfl, rfl, AV.int_eq (i64_succ (by omega)), rfl, rfl, rfl, trivial⟩, trivial⟩⟩
          exact lex3 (by omega) (by omega) (by omega)
        · refine ⟨(i + 1, k + 1, none), s2 (by assumption) (by assumption), ?_, ⟨⟨rfl, rfl, rfl, AV.int_eq (i64_succ (by omega)), AV.int_eq (i64_succ (by omega)), rfl, rfl, trivial⟩, trivial⟩⟩
          exact Nat.add_lt_add_left (show L.length - (k + 1) < L.length - k by omega) _
        · have hr2 : r = false := by
            cases r
            · rfl
            · exact absurd (hr.1 rfl) (s3 fun hi => by rw [hwi]; exact ⟨by assumption, by rw [hfv]; assumption⟩)
          refine ⟨⟨[], ?_⟩⟩
          conv => whnf
          rw [hr2]
      · have s3 := hG.no h fun hi => absurd hi hiW
        conv => whnf
        repeat' (first | (refine And.intro (by first | exact rfl | decide | exact Nat.le_of_ble_eq_true rfl | exact ⟨_, rfl⟩ | exact ⟨_, _, rfl⟩ | exact Nat.le_refl _ | exact Int.le_refl _ | omega | (simp only [List.length_map]; omega) | exact True.intro | (simp only [IntKind.wrap_i64, List.length_map]; omega) | (simp only [List.map_cons, List.map_nil, List.length_cons, Option.getD]; omega) | (simp only [bsz, ByteArray.size_append, List.size_toArray, List.length_cons, List.length_nil]; omega) | exact ⟨⟨_, _, rfl, rfl, Nat.le_of_ble_eq_true rfl⟩, trivial⟩ | exact ⟨⟨_, _, rfl, rfl, Nat.le_of_ble_eq_true rfl⟩, ⟨_, _, rfl, rfl, Nat.le_of_ble_eq_true rfl⟩, trivial⟩ | exact ⟨⟨_, _, rfl, rfl, Nat.le_of_ble_eq_true rfl⟩, ⟨_, _, rfl, rfl, Nat.le_of_ble_eq_true rfl⟩, ⟨_, _, rfl, rfl, Nat.le_of_ble_eq_true rfl⟩, trivial⟩) ?_; conv => whnf) | (refine ifB_intro (fun hA => ?_) (fun hA => ?_) <;> (try rw [hA]) <;> (conv => whnf) <;> (first | replace hA := of_decide_eq_true hA | replace hA := of_decide_eq_false hA | replace hA := eq_of_beq hA | replace hA := ne_of_beq_false hA | replace hA := bne_iff_ne.1 hA | replace hA := bne_eq_false_iff_eq.1 hA | skip) <;> (try simp only [List.length_map] at hA)) | (exfalso; omega) | (refine DrawP.intro (X := ax g) (id := 8) B67_8 (by kernel_rfl) (by decide +kernel) ?_; conv => whnf) | (rw [hw1]; conv => whnf) | (rw [getD_map _ _ _ _ (by assumption)]; conv => whnf))
        have hr2 : r = false := by
          cases r
          · rfl
          · exact absurd (hr.1 rfl) s3
        refine ⟨⟨[], ?_⟩⟩
        conv => whnf
        rw [hr2]
    · have h : k = L.length := by have h0 := of_decide_eq_false h; rw [hLm] at h0; omega
      subst h
      have hE := hr.trans (hG.done.trans Glob.empty)
      conv => whnf
      refine LoopP.inv (X := ax g) (fun j : Nat => { f := [(0, .d (.sl false 5 (W.map rowWd))), (5, .i64 j)], h := [] }) (fun j => j ≤ W.length ∧ (r = true ↔ ∀ w ∈ W.drop j, w.many = true)) (fun j => W.length - j) i ⟨hi, hE⟩ ⟨⟨rfl, rfl, trivial⟩, trivial⟩ fun j ⟨hj, hJ⟩ => ?_
      conv => whnf
      by_cases hjW : j < W.length
      · have hd := List.drop_eq_getElem_cons hjW
        generalize hwj : W[j] = w at *
        obtain ⟨wm, wn, wsw, wpt, wh⟩ := w
        repeat' (first | (refine And.intro (by first | exact rfl | decide | exact Nat.le_of_ble_eq_true rfl | exact ⟨_, rfl⟩ | exact ⟨_, _, rfl⟩ | exact Nat.le_refl _ | exact Int.le_refl _ | omega | (simp only []; omega) | exact True.intro | (simp only []; omega) | (simp only []; omega) | (simp only []; omega) | exact ⟨⟨_, _, rfl, rfl, Nat.le_of_ble_eq_true rfl⟩, trivial⟩ | exact ⟨⟨_, _, rfl, rfl, Nat.le_of_ble_eq_true rfl⟩, ⟨_, _, rfl, rfl, Nat.le_of_ble_eq_true rfl⟩, trivial⟩ | exact ⟨⟨_, _, rfl, rfl, Nat.le_of_ble_eq_true rfl⟩, ⟨_, _, rfl, rfl, Nat.le_of_ble_eq_true rfl⟩, ⟨_, _, rfl, rfl, Nat.le_of_ble_eq_true rfl⟩, trivial⟩) ?_; conv => whnf) | (refine ifB_intro (fun hA => ?_) (fun hA => ?_) <;> (try rw [hA]) <;> (conv => whnf) <;> (first | replace hA := of_decide_eq_true hA | replace hA := of_decide_eq_false hA | replace hA := eq_of_beq hA | replace hA := ne_of_beq_false hA | replace hA := bne_iff_ne.1 hA | replace hA := bne_eq_false_iff_eq.1 hA | skip) <;> (try simp only [List.length_map, cond_true] at hA)) | (erw [getD_map rowWd W j [] hjW, hwj]; conv => whnf) | (exfalso; omega) | (rw [getD_map _ _ _ _ (by assumption)]; conv => whnf))
        · refine ⟨j + 1, ⟨by omega, by rw [hJ, hd]; simp_all⟩, by omega, ⟨⟨rfl, AV.int_eq (i64_succ (by omega)), trivial⟩, trivial⟩⟩
        · have hr2 : r = false := by
            cases r
            · rfl
            · have := hJ.1 rfl _ (by rw [hd]; exact List.mem_cons_self ..)
              simp_all
          refine ⟨⟨[], ?_⟩⟩
          conv => whnf
          rw [hr2, hWm]
          simp; omega
      · have hr2 : r = true := hJ.2 (by rw [List.drop_eq_nil_of_le (by omega)]; simp)
        repeat' (first | (refine And.intro (by first | exact rfl | decide | exact Nat.le_of_ble_eq_true rfl | exact ⟨_, rfl⟩ | exact ⟨_, _, rfl⟩ | exact Nat.le_refl _ | exact Int.le_refl _ | omega | (simp only [List.length_map]; omega) | exact True.intro | (simp only [IntKind.wrap_i64, List.length_map]; omega) | (simp only [List.map_cons, List.map_nil, List.length_cons, Option.getD]; omega) | (simp only [bsz, ByteArray.size_append, List.size_toArray, List.length_cons, List.length_nil]; omega) | exact ⟨⟨_, _, rfl, rfl, Nat.le_of_ble_eq_true rfl⟩, trivial⟩ | exact ⟨⟨_, _, rfl, rfl, Nat.le_of_ble_eq_true rfl⟩, ⟨_, _, rfl, rfl, Nat.le_of_ble_eq_true rfl⟩, trivial⟩ | exact ⟨⟨_, _, rfl, rfl, Nat.le_of_ble_eq_true rfl⟩, ⟨_, _, rfl, rfl, Nat.le_of_ble_eq_true rfl⟩, ⟨_, _, rfl, rfl, Nat.le_of_ble_eq_true rfl⟩, trivial⟩) ?_; conv => whnf) | (refine ifB_intro (fun hA => ?_) (fun hA => ?_) <;> (try rw [hA]) <;> (conv => whnf) <;> (first | replace hA := of_decide_eq_true hA | replace hA := of_decide_eq_false hA | replace hA := eq_of_beq hA | replace hA := ne_of_beq_false hA | replace hA := bne_iff_ne.1 hA | replace hA := bne_eq_false_iff_eq.1 hA | skip) <;> (try simp only [List.length_map] at hA)) | (exfalso; omega) | (rw [getD_map _ _ _ _ (by assumption)]; conv => whnf))
        refine ⟨⟨[], ?_⟩⟩
        conv => whnf
        rw [hr2, hWm]
        simp; omega
  · obtain ⟨hbi, hfk, hik⟩ := hG.back
    have hw1 : IntKind.i64.wrap (fromI (some (b, f)) + 1) = ((f + 1 : Nat) : Int) := i64_succ (by omega)
    conv => whnf
    refine ifB_intro (fun h => ?_) (fun h => ?_)
    · have h : k < L.length := by have h0 := of_decide_eq_true h; rw [hLm] at h0; omega
      have hokq := hq L[k] (by simp)
      by_cases hiW : i < W.length
      · have hf := fits37_ctr g W[i] L[k] hokq.1 (hh W[i] (by simp)) hokq.2
        have s1 := hG.star hiW
        have s2 := hG.next hiW h
        have s3 := hG.again h
        generalize hwi : W[i] = w at *
        generalize hqk : L[k] = q at *
        obtain ⟨q0, q1, q2, q3, q4, q5, q6, q7, rfl⟩ := eight hokq.1
        obtain ⟨wm, wn, wsw, wpt, wh⟩ := w
        dsimp only at s1 s2
        generalize hfv : fitsW ⟨wm, wn, wsw, wpt, wh⟩ [q0, q1, q2, q3, q4, q5, q6, q7] = fv at *
        conv => whnf
        repeat' (first | (refine And.intro (by first | exact rfl | decide | exact Nat.le_of_ble_eq_true rfl | exact ⟨_, rfl⟩ | exact ⟨_, _, rfl⟩ | exact Nat.le_refl _ | exact Int.le_refl _ | omega | (simp only []; omega) | exact True.intro | (simp only []; omega) | (simp only []; omega) | (simp only []; omega) | exact ⟨⟨_, _, rfl, rfl, Nat.le_of_ble_eq_true rfl⟩, trivial⟩ | exact ⟨⟨_, _, rfl, rfl, Nat.le_of_ble_eq_true rfl⟩, ⟨_, _, rfl, rfl, Nat.le_of_ble_eq_true rfl⟩, trivial⟩ | exact ⟨⟨_, _, rfl, rfl, Nat.le_of_ble_eq_true rfl⟩, ⟨_, _, rfl, rfl, Nat.le_of_ble_eq_true rfl⟩, ⟨_, _, rfl, rfl, Nat.le_of_ble_eq_true rfl⟩, trivial⟩) ?_; conv => whnf) | (refine ifB_intro (fun hA => ?_) (fun hA => ?_) <;> (try rw [hA]) <;> (conv => whnf) <;> (first | replace hA := of_decide_eq_true hA | replace hA := of_decide_eq_false hA | replace hA := eq_of_beq hA | replace hA := ne_of_beq_false hA | replace hA := bne_iff_ne.1 hA | replace hA := bne_eq_false_iff_eq.1 hA | skip) <;> (try simp only [List.length_map, cond_true] at hA)) | (erw [getD_map rowWd W i [] hiW, hwi]; conv => whnf) | (exfalso; omega) | (refine DrawP.intro (X := ax g) (id := 8) B67_8 (by kernel_rfl) (by decide +kernel) ?_; conv => whnf) | (erw [getD_map rowU L k [] h, hqk]; conv => whnf) | (refine CallP.det (hf) ?_; conv => whnf) | (refine CallD.det (hf) ?_; conv => whnf) | (rw [hw1]; conv => whnf) | (rw [getD_map _ _ _ _ (by assumption)]; conv => whnf))
        · refine ⟨(i + 1, k, some (i, k)), s1 (by assumption), ?_, ⟨⟨rfl, rfl, rfl, AV.int_eq (i64_succ (by omega)), rfl, rfl, rfl, trivial⟩, trivial⟩⟩
          exact lex3 (by omega) (by omega) (by omega)
        · refine ⟨(i + 1, k + 1, some (b, f)), s2 (by assumption) (by assumption), ?_, ⟨⟨rfl, rfl, rfl, AV.int_eq (i64_succ (by omega)), AV.int_eq (i64_succ (by omega)), rfl, rfl, trivial⟩, trivial⟩⟩
          exact Nat.add_lt_add_left (show L.length - (k + 1) < L.length - k by omega) _
        · refine ⟨(b + 1, f + 1, some (b, f + 1)), s3 fun hi => by rw [hwi]; exact ⟨by assumption, by rw [hfv]; assumption⟩, ?_, ⟨⟨rfl, rfl, rfl, AV.int_eq (i64_succ (by omega)), rfl, rfl, rfl, trivial⟩, trivial⟩⟩
          exact lex2 (by omega) (by omega)
      · have s3 := hG.again h fun hi => absurd hi hiW
        conv => whnf
        repeat' (first | (refine And.intro (by first | exact rfl | decide | exact Nat.le_of_ble_eq_true rfl | exact ⟨_, rfl⟩ | exact ⟨_, _, rfl⟩ | exact Nat.le_refl _ | exact Int.le_refl _ | omega | (simp only [List.length_map]; omega) | exact True.intro | (simp only [IntKind.wrap_i64, List.length_map]; omega) | (simp only [List.map_cons, List.map_nil, List.length_cons, Option.getD]; omega) | (simp only [bsz, ByteArray.size_append, List.size_toArray, List.length_cons, List.length_nil]; omega) | exact ⟨⟨_, _, rfl, rfl, Nat.le_of_ble_eq_true rfl⟩, trivial⟩ | exact ⟨⟨_, _, rfl, rfl, Nat.le_of_ble_eq_true rfl⟩, ⟨_, _, rfl, rfl, Nat.le_of_ble_eq_true rfl⟩, trivial⟩ | exact ⟨⟨_, _, rfl, rfl, Nat.le_of_ble_eq_true rfl⟩, ⟨_, _, rfl, rfl, Nat.le_of_ble_eq_true rfl⟩, ⟨_, _, rfl, rfl, Nat.le_of_ble_eq_true rfl⟩, trivial⟩) ?_; conv => whnf) | (refine ifB_intro (fun hA => ?_) (fun hA => ?_) <;> (try rw [hA]) <;> (conv => whnf) <;> (first | replace hA := of_decide_eq_true hA | replace hA := of_decide_eq_false hA | replace hA := eq_of_beq hA | replace hA := ne_of_beq_false hA | replace hA := bne_iff_ne.1 hA | replace hA := bne_eq_false_iff_eq.1 hA | skip) <;> (try simp only [List.length_map] at hA)) | (exfalso; omega) | (refine DrawP.intro (X := ax g) (id := 8) B67_8 (by kernel_rfl) (by decide +kernel) ?_; conv => whnf) | (rw [hw1]; conv => whnf) | (rw [getD_map _ _ _ _ (by assumption)]; conv => whnf))
        · refine ⟨(b + 1, f + 1, some (b, f + 1)), s3, ?_, ⟨⟨rfl, rfl, rfl, AV.int_eq (i64_succ (by omega)), rfl, rfl, rfl, trivial⟩, trivial⟩⟩
          exact lex2 (by omega) (by omega)
    · have h : k = L.length := by have h0 := of_decide_eq_false h; rw [hLm] at h0; omega
      subst h
      have hE := hr.trans (hG.done.trans Glob.empty)
      conv => whnf
      refine LoopP.inv (X := ax g) (fun j : Nat => { f := [(0, .d (.sl false 5 (W.map rowWd))), (5, .i64 j)], h := [] }) (fun j => j ≤ W.length ∧ (r = true ↔ ∀ w ∈ W.drop j, w.many = true)) (fun j => W.length - j) i ⟨hi, hE⟩ ⟨⟨rfl, rfl, trivial⟩, trivial⟩ fun j ⟨hj, hJ⟩ => ?_
      conv => whnf
      by_cases hjW : j < W.length
      · have hd := List.drop_eq_getElem_cons hjW
        generalize hwj : W[j] = w at *
        obtain ⟨wm, wn, wsw, wpt, wh⟩ := w
        repeat' (first | (refine And.intro (by first | exact rfl | decide | exact Nat.le_of_ble_eq_true rfl | exact ⟨_, rfl⟩ | exact ⟨_, _, rfl⟩ | exact Nat.le_refl _ | exact Int.le_refl _ | omega | (simp only []; omega) | exact True.intro | (simp only []; omega) | (simp only []; omega) | (simp only []; omega) | exact ⟨⟨_, _, rfl, rfl, Nat.le_of_ble_eq_true rfl⟩, trivial⟩ | exact ⟨⟨_, _, rfl, rfl, Nat.le_of_ble_eq_true rfl⟩, ⟨_, _, rfl, rfl, Nat.le_of_ble_eq_true rfl⟩, trivial⟩ | exact ⟨⟨_, _, rfl, rfl, Nat.le_of_ble_eq_true rfl⟩, ⟨_, _, rfl, rfl, Nat.le_of_ble_eq_true rfl⟩, ⟨_, _, rfl, rfl, Nat.le_of_ble_eq_true rfl⟩, trivial⟩) ?_; conv => whnf) | (refine ifB_intro (fun hA => ?_) (fun hA => ?_) <;> (try rw [hA]) <;> (conv => whnf) <;> (first | replace hA := of_decide_eq_true hA | replace hA := of_decide_eq_false hA | replace hA := eq_of_beq hA | replace hA := ne_of_beq_false hA | replace hA := bne_iff_ne.1 hA | replace hA := bne_eq_false_iff_eq.1 hA | skip) <;> (try simp only [List.length_map, cond_true] at hA)) | (erw [getD_map rowWd W j [] hjW, hwj]; conv => whnf) | (exfalso; omega) | (rw [getD_map _ _ _ _ (by assumption)]; conv => whnf))
        · refine ⟨j + 1, ⟨by omega, by rw [hJ, hd]; simp_all⟩, by omega, ⟨⟨rfl, AV.int_eq (i64_succ (by omega)), trivial⟩, trivial⟩⟩
        · have hr2 : r = false := by
            cases r
            · rfl
            · have := hJ.1 rfl _ (by rw [hd]; exact List.mem_cons_self ..)
              simp_all
          refine ⟨⟨[], ?_⟩⟩
          conv => whnf
          rw [hr2, hWm]
          simp; omega
      · have hr2 : r = true := hJ.2 (by rw [List.drop_eq_nil_of_le (by omega)]; simp)
        repeat' (first | (refine And.intro (by first | exact rfl | decide | exact Nat.le_of_ble_eq_true rfl | exact ⟨_, rfl⟩ | exact ⟨_, _, rfl⟩ | exact Nat.le_refl _ | exact Int.le_refl _ | omega | (simp only [List.length_map]; omega) | exact True.intro | (simp only [IntKind.wrap_i64, List.length_map]; omega) | (simp only [List.map_cons, List.map_nil, List.length_cons, Option.getD]; omega) | (simp only [bsz, ByteArray.size_append, List.size_toArray, List.length_cons, List.length_nil]; omega) | exact ⟨⟨_, _, rfl, rfl, Nat.le_of_ble_eq_true rfl⟩, trivial⟩ | exact ⟨⟨_, _, rfl, rfl, Nat.le_of_ble_eq_true rfl⟩, ⟨_, _, rfl, rfl, Nat.le_of_ble_eq_true rfl⟩, trivial⟩ | exact ⟨⟨_, _, rfl, rfl, Nat.le_of_ble_eq_true rfl⟩, ⟨_, _, rfl, rfl, Nat.le_of_ble_eq_true rfl⟩, ⟨_, _, rfl, rfl, Nat.le_of_ble_eq_true rfl⟩, trivial⟩) ?_; conv => whnf) | (refine ifB_intro (fun hA => ?_) (fun hA => ?_) <;> (try rw [hA]) <;> (conv => whnf) <;> (first | replace hA := of_decide_eq_true hA | replace hA := of_decide_eq_false hA | replace hA := eq_of_beq hA | replace hA := ne_of_beq_false hA | replace hA := bne_iff_ne.1 hA | replace hA := bne_eq_false_iff_eq.1 hA | skip) <;> (try simp only [List.length_map] at hA)) | (exfalso; omega) | (rw [getD_map _ _ _ _ (by assumption)]; conv => whnf))
        refine ⟨⟨[], ?_⟩⟩
        conv => whnf
        rw [hr2, hWm]
        simp; omega
end Go.Ax

namespace Go.Ax
open Go.Proofs Go.RowKit Go.Shelf Go.Lib
set_option maxRecDepth 10000
def wordQ (q : List Nat) : List UInt8 := Lib.decDigits (q.getD 0 0) ++ 58 :: Lib.decDigits (q.getD 1 0)
def ofL (L : List (List Nat)) : List UInt8 := Lib.join (L.map wordQ) [32]
theorem wordQ_len {q : List Nat} (ok : OkK q) : (wordQ q).length ≤ 11 := by
  have h0 := dec_len 4 (q.getD 0 0) (by have := ok.2 0 (by omega); omega)
  have h1 := dec_len 4 (q.getD 1 0) (by have := ok.2 1 (by omega); omega)
  rw [wordQ, List.length_append, List.length_cons]; omega
theorem ofL_len {L : List (List Nat)} (ok : ∀ q ∈ L, OkK q) : (ofL L).length ≤ 12 * L.length := by
  have := joinW_bound (L.map wordQ) 11 fun x hx => by
    obtain ⟨q, hq, rfl⟩ := List.mem_map.1 hx
    exact wordQ_len (ok q hq)
  rw [List.length_map] at this
  exact this
theorem ofjoin_give (g : GP) (L : List (List Nat)) (ok : ∀ q ∈ L, OkK q) (hL : L.length ≤ 2 ^ 20) : Ctr (ax g).E 65 ([.msl 9502 L.length 0 L.length, .str ⟨#[32]⟩].map (frz 9502 1 ((L.map wordQ).map rowW))) [] (fun o => o = .ret (.str (baL (ofL L))) []) := by
  have e : ((L.map wordQ).map baL).map (·.data.toList) = L.map wordQ := by
    rw [List.map_map]
    conv => rhs; rw [← List.map_id (L.map wordQ)]
    exact List.map_congr_left fun z _ => by simp [baL]
  have hb := ofL_len ok
  have h := join_ctr g false ((L.map wordQ).map baL) ⟨#[32]⟩ (by rw [List.length_map, List.length_map]; omega) (by rw [e]; show (ofL L).length ≤ _; omega)
  rw [e] at h
  simp only [List.map_cons, List.map_nil, frzE 9502 1 L.length ((L.map wordQ).map rowW) (by simp)]
  rw [List.map_map] at h
  exact h
theorem of37_ctr (g : GP) (hp : ∀ w, g.G w → PowG w) (b : Bool) (L : List (List Nat)) (ok : ∀ q ∈ L, OkK q) (hL : L.length ≤ 2 ^ 20) : Ctr (ax g).E 20 [.d (.sl b 8 (L.map rowU))] [] (fun o => o = .ret (.str (baL (ofL L))) []) := by
  have hLm : (L.map rowU).length = L.length := List.length_map _
  refine Ctr.body (X := ax g) _ 31 [] [.tmp 2] Tryz.func20 rfl rfl rfl rfl (by decide +kernel) rfl rfl ?_
  conv => whnf
  repeat' (first | (refine And.intro (by first | exact rfl | decide | exact Nat.le_of_ble_eq_true rfl | exact ⟨_, rfl⟩ | exact ⟨_, _, rfl⟩ | exact Nat.le_refl _ | exact Int.le_refl _ | omega | (simp only [List.length_map]; omega) | exact True.intro | (simp only [IntKind.wrap_i64, List.length_map]; omega) | (simp only [List.map_cons, List.map_nil, List.length_cons, Option.getD]; omega) | (simp only [bsz, ByteArray.size_append, List.size_toArray, List.length_cons, List.length_nil]; omega) | exact ⟨⟨_, _, rfl, rfl, Nat.le_of_ble_eq_true rfl⟩, trivial⟩ | exact ⟨⟨_, _, rfl, rfl, Nat.le_of_ble_eq_true rfl⟩, ⟨_, _, rfl, rfl, Nat.le_of_ble_eq_true rfl⟩, trivial⟩ | exact ⟨⟨_, _, rfl, rfl, Nat.le_of_ble_eq_true rfl⟩, ⟨_, _, rfl, rfl, Nat.le_of_ble_eq_true rfl⟩, ⟨_, _, rfl, rfl, Nat.le_of_ble_eq_true rfl⟩, trivial⟩) ?_; conv => whnf) | (refine ifB_intro (fun hA => ?_) (fun hA => ?_) <;> (try rw [hA]) <;> (conv => whnf) <;> (first | replace hA := of_decide_eq_true hA | replace hA := of_decide_eq_false hA | replace hA := eq_of_beq hA | replace hA := ne_of_beq_false hA | replace hA := bne_iff_ne.1 hA | replace hA := bne_eq_false_iff_eq.1 hA | skip) <;> (try simp only [List.length_map, cond_true, cond_false, Bool.not_eq_true', Bool.not_eq_false', beq_iff_eq, beq_eq_false_iff_ne, ne_eq] at hA)) | (rw [getD_map _ _ _ _ (by assumption)]; conv => whnf))
  refine LoopP.own 3 9502 1 9 rfl rfl rfl ?_
  refine LoopP.inv (X := ax g) (fun i : Nat => { f := [(3, .msl 9502 i 0 i), (7, .d (.sl b 8 (L.map rowU))), (8, .i64 L.length), (9, .i64 i)], h := [(9502, some (.buf 1 9 (((L.take i).map wordQ).map rowW)))] }) (fun i => i ≤ L.length) (fun i => L.length - i) 0 (Nat.zero_le _) ⟨⟨rfl, rfl, AV.int_eq (by rw [hLm]), rfl, trivial⟩, ⟨fun o h => h, trivial⟩⟩ fun i hi => ?_
  have hbl : (((L.take i).map wordQ).map rowW).length = i := by rw [List.length_map, List.length_map, List.length_take]; omega
  conv => whnf
  refine ifB_intro (fun h => ?_) (fun h => ?_)
  · have h : i < L.length := by have h0 := of_decide_eq_true h; omega
    have hok := ok L[i] (by simp)
    have ht : ((L.take (i + 1)).map wordQ).map rowW = ((L.take i).map wordQ).map rowW ++ [rowW (wordQ L[i])] := by
      rw [List.take_succ_eq_append_getElem h, List.map_append, List.map_append]; rfl
    have hwl := wordQ_len hok
    generalize hqi : L[i] = q at *
    have hat := pat_ctr g q hok.1
    have b0 := hok.2 0 (by omega)
    have b1 := hok.2 1 (by omega)
    have i0 := itoa_ctr g hp (q.getD 0 0) (by omega)
    have i1 := itoa_ctr g hp (q.getD 1 0) (by omega)
    have w0 : IntKind.i64.wrap ((q.getD 0 0 : Nat) : Int) = ((q.getD 0 0 : Nat) : Int) := i64_wrap (by omega) (by omega)
    have w1 : IntKind.i64.wrap ((q.getD 1 0 : Nat) : Int) = ((q.getD 1 0 : Nat) : Int) := i64_wrap (by omega) (by omega)
    have d0 := dec_len 4 (q.getD 0 0) (by omega)
    have d1 := dec_len 4 (q.getD 1 0) (by omega)
    have hstr : ((⟨(Lib.decDigits (q.getD 0 0)).toArray⟩ : ByteArray) ++ ⟨#[58]⟩) ++ (⟨(Lib.decDigits (q.getD 1 0)).toArray⟩ : ByteArray) = baL (wordQ q) := by
      apply ByteArray.ext; simp [baL, wordQ, ByteArray.data_append]
    generalize hq0 : q.getD 0 0 = n0 at *
    generalize hq1 : q.getD 1 0 = n1 at *
    obtain ⟨q0, q1, q2, q3, q4, q5, q6, q7, rfl⟩ := eight hok.1
    conv => whnf
    repeat' (first | (refine And.intro (by first | exact rfl | decide | exact Nat.le_of_ble_eq_true rfl | exact ⟨_, rfl⟩ | exact ⟨_, _, rfl⟩ | exact Nat.le_refl _ | exact Int.le_refl _ | omega | (simp only [List.length_map]; omega) | exact True.intro | (simp only [List.length_map]; omega) | (simp only [List.length_cons]; omega) | (simp only [bsz, ByteArray.size_append, List.size_toArray, List.length_cons, List.length_nil]; omega) | exact ⟨⟨_, _, rfl, rfl, Nat.le_of_ble_eq_true rfl⟩, trivial⟩ | exact ⟨⟨_, _, rfl, rfl, Nat.le_of_ble_eq_true rfl⟩, ⟨_, _, rfl, rfl, Nat.le_of_ble_eq_true rfl⟩, trivial⟩ | exact ⟨⟨_, _, rfl, rfl, Nat.le_of_ble_eq_true rfl⟩, ⟨_, _, rfl, rfl, Nat.le_of_ble_eq_true rfl⟩, ⟨_, _, rfl, rfl, Nat.le_of_ble_eq_true rfl⟩, trivial⟩) ?_; conv => whnf) | (refine ifB_intro (fun hA => ?_) (fun hA => ?_) <;> (try rw [hA]) <;> (conv => whnf) <;> (first | replace hA := of_decide_eq_true hA | replace hA := of_decide_eq_false hA | replace hA := eq_of_beq hA | replace hA := ne_of_beq_false hA | replace hA := bne_iff_ne.1 hA | replace hA := bne_eq_false_iff_eq.1 hA | skip) <;> (try simp only [List.length_map, cond_true, cond_false, Bool.not_eq_true', Bool.not_eq_false', beq_iff_eq, beq_eq_false_iff_ne, ne_eq] at hA)) | (erw [getD_map rowU L i [] h, hqi]; conv => whnf) | (refine CallP.det (hat) ?_; conv => whnf) | (refine CallD.det (hat) ?_; conv => whnf) | (refine DrawP.intro (X := ax g) (id := 6) B20_6 (by kernel_rfl) (by decide +kernel) ?_; conv => whnf) | (rw [w0]; conv => whnf) | (rw [w1]; conv => whnf) | (refine CallP.det (i0) ?_; conv => whnf) | (refine CallD.det (i0) ?_; conv => whnf) | (refine CallP.det (i1) ?_; conv => whnf) | (refine CallD.det (i1) ?_; conv => whnf) | (refine And.intro hbl.symm ?_; conv => whnf) | (refine And.intro (by show (List.length _ + 1) * 16 ≤ 140737488355328; rw [hbl]; omega) ?_; conv => whnf) | (rw [getD_map _ _ _ _ (by assumption)]; conv => whnf))
    have hrow : rowW (wordQ [q0, q1, q2, q3, q4, q5, q6, q7]) = [.v (.string (((⟨(Lib.decDigits n0).toArray⟩ : ByteArray) ++ ⟨#[58]⟩) ++ (⟨(Lib.decDigits n1).toArray⟩ : ByteArray)))] := by rw [hstr]; rfl
    exact ⟨i + 1, by omega, by omega, ⟨⟨msl_eq (show List.length _ + 1 = i + 1 by rw [hbl]), rfl, rfl, AV.int_eq (i64_succ (by omega)), trivial⟩, ⟨fun o h => by rw [← h, ht, hrow]; rfl, trivial⟩⟩⟩
  · have h : i = L.length := by have h0 := of_decide_eq_false h; omega
    subst h
    rw [List.take_length]
    conv => whnf
    refine CallP.arg (args' := [.msl 9502 L.length 0 L.length, .str ⟨#[32]⟩]) rfl ?_
    refine CallP.give 9502 1 9 ((L.map wordQ).map rowW) rfl (ofjoin_give g L ok hL) ?_
    conv => whnf
    refine ⟨⟨[], ?_⟩⟩
    conv => whnf
theorem testsGo_len : ∀ (l : List (List UInt8)) (acc : List (Int × Int)), (testsGo l acc).1.length ≤ acc.length + l.length
  | [], acc => by simp [testsGo]
  | p :: r, acc => by
    rw [testsGo]
    split
    · have := testsGo_len r (acc ++ [(testP p).1])
      simp at this ⊢; omega
    · simp
theorem readW_has (l : List UInt8) : (readW l).1.has.length ≤ l.length + 1 := by
  unfold readW
  have h1 := trimPrefix_len l [33]
  have h2 : (partsW l).length ≤ l.length + 1 := Nat.le_trans (splitL_le 46 _) (by unfold bareW; omega)
  split
  · simp
  · split
    · have := testsGo_len (partsW l).tail []
      simp at this ⊢; omega
    · simp
theorem parse_small {l : List UInt8} {W : List WordT} (h : parseW l = some W) : W.length ≤ 30 ∧ ∀ w ∈ W, w.has.length < 2 ^ 62 := by
  unfold parseW at h
  split at h
  · simp at h
  · rename_i hn
    injection h with h; subst h
    refine ⟨by rw [List.length_map]; omega, fun w hw => ?_⟩
    obtain ⟨x, hx, rfl⟩ := List.mem_map.1 hw
    have h1 := readW_has x
    have h2 := words_len hx
    omega
theorem matchL_ctr (g : GP) (he : ∀ w, g.G w → ErrG w) (l : List UInt8) (hl : l.length < 2 ^ 30) (bw : Bool) (L : List (List Nat)) (hL : L.length < 2 ^ 44) (hq : ∀ q ∈ L, OkK q) (W : List WordT) (hP : parseW l = some W) (r : Bool) (hr : r = true ↔ Glob (·.many) fitsW W L) :
    Ctr (ax g).E 22 [.str (baL l), .d (.sl bw 8 (L.map rowU))] [] (fun o => o = .ret (.tup [.bool r, .i64 0]) []) := by
  have h1 := parse37_ctr g he l hl
  rw [hP, parseV] at h1
  obtain ⟨hW, hh⟩ := parse_small hP
  have h2 := match37_ctr g W L bw (by omega) hL hh hq r hr
  refine Ctr.body (X := ax g) _ 18 [] [.tmp 4, .tmp 5] Tryz.func22 rfl rfl rfl rfl (by decide +kernel) rfl rfl ?_
  conv => whnf
  repeat' (first | (refine And.intro (by first | exact rfl | decide | exact Nat.le_of_ble_eq_true rfl | exact ⟨_, rfl⟩ | exact ⟨_, _, rfl⟩ | exact Nat.le_refl _ | exact Int.le_refl _ | omega | (simp only [List.length_map]; omega) | exact True.intro | (simp only [IntKind.wrap_i64, List.length_map]; omega) | (simp only [List.map_cons, List.map_nil, List.length_cons, Option.getD]; omega) | (simp only [bsz, ByteArray.size_append, List.size_toArray, List.length_cons, List.length_nil]; omega) | exact ⟨⟨_, _, rfl, rfl, Nat.le_of_ble_eq_true rfl⟩, trivial⟩ | exact ⟨⟨_, _, rfl, rfl, Nat.le_of_ble_eq_true rfl⟩, ⟨_, _, rfl, rfl, Nat.le_of_ble_eq_true rfl⟩, trivial⟩ | exact ⟨⟨_, _, rfl, rfl, Nat.le_of_ble_eq_true rfl⟩, ⟨_, _, rfl, rfl, Nat.le_of_ble_eq_true rfl⟩, ⟨_, _, rfl, rfl, Nat.le_of_ble_eq_true rfl⟩, trivial⟩) ?_; conv => whnf) | (refine ifB_intro (fun hA => ?_) (fun hA => ?_) <;> (try rw [hA]) <;> (conv => whnf) <;> (first | replace hA := of_decide_eq_true hA | replace hA := of_decide_eq_false hA | replace hA := eq_of_beq hA | replace hA := ne_of_beq_false hA | replace hA := bne_iff_ne.1 hA | replace hA := bne_eq_false_iff_eq.1 hA | skip) <;> (try simp only [List.length_map, cond_true, cond_false, Bool.not_eq_true', Bool.not_eq_false', beq_iff_eq, beq_eq_false_iff_ne, ne_eq] at hA)) | (refine CallP.det (h1) ?_; conv => whnf) | (refine CallD.det (h1) ?_; conv => whnf) | (refine CallP.det (h2) ?_; conv => whnf) | (refine CallD.det (h2) ?_; conv => whnf) | (rw [getD_map _ _ _ _ (by assumption)]; conv => whnf))
  refine ⟨⟨[], ?_⟩⟩
  conv => whnf
theorem matchN_ctr (g : GP) (he : ∀ w, g.G w → ErrG w) (l : List UInt8) (hl : l.length < 2 ^ 30) (bw : Bool) (L : List (List Nat)) (hP : parseW l = none) :
    Ctr (ax g).E 22 [.str (baL l), .d (.sl bw 8 (L.map rowU))] [] (fun o => o = .ret (.tup [.bool false, .i64 10]) []) := by
  have h1 := parse37_ctr g he l hl
  rw [hP, parseV] at h1
  refine Ctr.body (X := ax g) _ 18 [] [.tmp 4, .tmp 5] Tryz.func22 rfl rfl rfl rfl (by decide +kernel) rfl rfl ?_
  conv => whnf
  repeat' (first | (refine And.intro (by first | exact rfl | decide | exact Nat.le_of_ble_eq_true rfl | exact ⟨_, rfl⟩ | exact ⟨_, _, rfl⟩ | exact Nat.le_refl _ | exact Int.le_refl _ | omega | (simp only [List.length_map]; omega) | exact True.intro | (simp only [IntKind.wrap_i64, List.length_map]; omega) | (simp only [List.map_cons, List.map_nil, List.length_cons, Option.getD]; omega) | (simp only [bsz, ByteArray.size_append, List.size_toArray, List.length_cons, List.length_nil]; omega) | exact ⟨⟨_, _, rfl, rfl, Nat.le_of_ble_eq_true rfl⟩, trivial⟩ | exact ⟨⟨_, _, rfl, rfl, Nat.le_of_ble_eq_true rfl⟩, ⟨_, _, rfl, rfl, Nat.le_of_ble_eq_true rfl⟩, trivial⟩ | exact ⟨⟨_, _, rfl, rfl, Nat.le_of_ble_eq_true rfl⟩, ⟨_, _, rfl, rfl, Nat.le_of_ble_eq_true rfl⟩, ⟨_, _, rfl, rfl, Nat.le_of_ble_eq_true rfl⟩, trivial⟩) ?_; conv => whnf) | (refine ifB_intro (fun hA => ?_) (fun hA => ?_) <;> (try rw [hA]) <;> (conv => whnf) <;> (first | replace hA := of_decide_eq_true hA | replace hA := of_decide_eq_false hA | replace hA := eq_of_beq hA | replace hA := ne_of_beq_false hA | replace hA := bne_iff_ne.1 hA | replace hA := bne_eq_false_iff_eq.1 hA | skip) <;> (try simp only [List.length_map, cond_true, cond_false, Bool.not_eq_true', Bool.not_eq_false', beq_iff_eq, beq_eq_false_iff_ne, ne_eq] at hA)) | (refine CallP.det (h1) ?_; conv => whnf) | (refine CallD.det (h1) ?_; conv => whnf) | (rw [getD_map _ _ _ _ (by assumption)]; conv => whnf))
  refine ⟨⟨[], ?_⟩⟩
  conv => whnf
theorem right_ctr (g : GP) (he : ∀ w, g.G w → ErrG w) (l : List UInt8) (hl : l.length < 2 ^ 30) : Ctr (ax g).E 19 [.str (baL l)] [] (fun o => o = .ret (.bool (parseW l).isSome) []) := by
  have h1 := parse37_ctr g he l hl
  cases hP : parseW l with
  | none =>
    rw [hP, parseV] at h1
    refine Ctr.body (X := ax g) _ 11 [] [.tmp 2] Tryz.func19 rfl rfl rfl rfl (by decide +kernel) rfl rfl ?_
    conv => whnf
    repeat' (first | (refine And.intro (by first | exact rfl | decide | exact Nat.le_of_ble_eq_true rfl | exact ⟨_, rfl⟩ | exact ⟨_, _, rfl⟩ | exact Nat.le_refl _ | exact Int.le_refl _ | omega | (simp only [List.length_map]; omega) | exact True.intro | (simp only [IntKind.wrap_i64, List.length_map]; omega) | (simp only [List.map_cons, List.map_nil, List.length_cons, Option.getD]; omega) | (simp only [bsz, ByteArray.size_append, List.size_toArray, List.length_cons, List.length_nil]; omega) | exact ⟨⟨_, _, rfl, rfl, Nat.le_of_ble_eq_true rfl⟩, trivial⟩ | exact ⟨⟨_, _, rfl, rfl, Nat.le_of_ble_eq_true rfl⟩, ⟨_, _, rfl, rfl, Nat.le_of_ble_eq_true rfl⟩, trivial⟩ | exact ⟨⟨_, _, rfl, rfl, Nat.le_of_ble_eq_true rfl⟩, ⟨_, _, rfl, rfl, Nat.le_of_ble_eq_true rfl⟩, ⟨_, _, rfl, rfl, Nat.le_of_ble_eq_true rfl⟩, trivial⟩) ?_; conv => whnf) | (refine ifB_intro (fun hA => ?_) (fun hA => ?_) <;> (try rw [hA]) <;> (conv => whnf) <;> (first | replace hA := of_decide_eq_true hA | replace hA := of_decide_eq_false hA | replace hA := eq_of_beq hA | replace hA := ne_of_beq_false hA | replace hA := bne_iff_ne.1 hA | replace hA := bne_eq_false_iff_eq.1 hA | skip) <;> (try simp only [List.length_map, cond_true, cond_false, Bool.not_eq_true', Bool.not_eq_false', beq_iff_eq, beq_eq_false_iff_ne, ne_eq] at hA)) | (refine CallP.det (h1) ?_; conv => whnf) | (refine CallD.det (h1) ?_; conv => whnf) | (rw [getD_map _ _ _ _ (by assumption)]; conv => whnf))
    refine ⟨⟨[], ?_⟩⟩
    conv => whnf
    rfl
  | some W =>
    rw [hP, parseV] at h1
    refine Ctr.body (X := ax g) _ 11 [] [.tmp 2] Tryz.func19 rfl rfl rfl rfl (by decide +kernel) rfl rfl ?_
    conv => whnf
    repeat' (first | (refine And.intro (by first | exact rfl | decide | exact Nat.le_of_ble_eq_true rfl | exact ⟨_, rfl⟩ | exact ⟨_, _, rfl⟩ | exact Nat.le_refl _ | exact Int.le_refl _ | omega | (simp only [List.length_map]; omega) | exact True.intro | (simp only [IntKind.wrap_i64, List.length_map]; omega) | (simp only [List.map_cons, List.map_nil, List.length_cons, Option.getD]; omega) | (simp only [bsz, ByteArray.size_append, List.size_toArray, List.length_cons, List.length_nil]; omega) | exact ⟨⟨_, _, rfl, rfl, Nat.le_of_ble_eq_true rfl⟩, trivial⟩ | exact ⟨⟨_, _, rfl, rfl, Nat.le_of_ble_eq_true rfl⟩, ⟨_, _, rfl, rfl, Nat.le_of_ble_eq_true rfl⟩, trivial⟩ | exact ⟨⟨_, _, rfl, rfl, Nat.le_of_ble_eq_true rfl⟩, ⟨_, _, rfl, rfl, Nat.le_of_ble_eq_true rfl⟩, ⟨_, _, rfl, rfl, Nat.le_of_ble_eq_true rfl⟩, trivial⟩) ?_; conv => whnf) | (refine ifB_intro (fun hA => ?_) (fun hA => ?_) <;> (try rw [hA]) <;> (conv => whnf) <;> (first | replace hA := of_decide_eq_true hA | replace hA := of_decide_eq_false hA | replace hA := eq_of_beq hA | replace hA := ne_of_beq_false hA | replace hA := bne_iff_ne.1 hA | replace hA := bne_eq_false_iff_eq.1 hA | skip) <;> (try simp only [List.length_map, cond_true, cond_false, Bool.not_eq_true', Bool.not_eq_false', beq_iff_eq, beq_eq_false_iff_ne, ne_eq] at hA)) | (refine CallP.det (h1) ?_; conv => whnf) | (refine CallD.det (h1) ?_; conv => whnf) | (rw [getD_map _ _ _ _ (by assumption)]; conv => whnf))
    refine ⟨⟨[], ?_⟩⟩
    conv => whnf
    rfl
end Go.Ax

namespace Go.Ax
open Go.Proofs Go.Lib
set_option maxRecDepth 10000
theorem split_cat (c : UInt8) : ∀ (a b : List UInt8), splitL c (a ++ c :: b) = splitL c a ++ splitL c b
  | [], b => by simp [splitL]
  | x :: a, b => by
    have ih := split_cat c a b
    rw [List.cons_append, splitL, splitL, ih]
    by_cases h : c = x
    · rw [if_pos h, if_pos h]; rfl
    · rw [if_neg h, if_neg h]
      cases hs : splitL c a with
      | nil => exact absurd hs (splitL_ne c a)
      | cons q qs => rfl
theorem words_cat (a b : List UInt8) : wordsL (a ++ 32 :: b) = wordsL a ++ wordsL b := by
  unfold wordsL keptS
  rw [split_cat, List.filter_append]
theorem words_one {x : List UInt8} (h1 : x.all (· != 32) = true) (h2 : x ≠ []) : wordsL x = [x] := by
  unfold wordsL keptS
  rw [split_one 32 x h1]
  simp [h2]
theorem words_join : ∀ (xs : List (List UInt8)), (∀ x ∈ xs, x.all (· != 32) = true ∧ x ≠ []) → wordsL (Lib.join xs [32]) = xs
  | [], _ => rfl
  | [x], h => by rw [Lib.join_one]; exact words_one (h x (by simp)).1 (h x (by simp)).2
  | x :: y :: r, h => by
    have e : Lib.join (x :: y :: r) [32] = x ++ 32 :: Lib.join (y :: r) [32] := by simp [Lib.join, List.intercalate]
    rw [e, words_cat, words_one (h x (by simp)).1 (h x (by simp)).2, words_join (y :: r) fun z hz => h z (by simp at hz ⊢; exact .inr hz)]
    rfl
theorem index_cat {c : UInt8} : ∀ {a : List UInt8} {b : List UInt8}, a.all (· != c) = true → Lib.indexByte (a ++ c :: b) c = (a.length : Int) := fun {a b} h => by
  rcases index_one c (a ++ c :: b) with ⟨_, h2⟩ | ⟨n, h1, h2, h3⟩
  · rw [split_app c a b h] at h2
    injection h2 with _ h2
    exact absurd h2 (splitL_ne c b)
  · rw [Go.Lib.index_one] at h1
    rw [split_app c a b h] at h3
    injection h3 with h3 _
    rw [h1]
    have : a.length = min n (a ++ c :: b).length := by rw [← List.length_take, ← h3]
    congr 1; omega
theorem cutL_cat {c : UInt8} {a b : List UInt8} (h : a.all (· != c) = true) : cutL c (a ++ c :: b) = (a, b, true) := by
  unfold cutL
  rw [index_cat h, if_neg (by omega), Int.toNat_natCast, List.take_left' rfl]
  simp
def starW : WordT := ⟨true, false, 0, 0, []⟩
theorem parse_of {l : List UInt8} {xs : List (List UInt8)} {W : List WordT} (hx : wordsL l = xs) (hl : l.length ≤ 200) (h30 : xs.length ≤ 30) (h : xs.map readW = W.map fun w => (w, true)) : parseW l = some W := by
  unfold parseW
  rw [hx]
  have h1 : xs.map (fun x => (readW x).1) = W := by
    have := congrArg (List.map Prod.fst) h
    simpa [List.map_map, Function.comp_def] using this
  have h2 : xs.all (fun x => (readW x).2) = true := by
    have := congrArg (List.map Prod.snd) h
    simp only [List.map_map, Function.comp_def] at this
    rw [List.all_eq_true]
    intro x hxm
    have h3 : (readW x).2 ∈ W.map fun _ => true := by rw [← this]; exact List.mem_map.2 ⟨x, hxm, rfl⟩
    simp at h3; exact h3.2
  rw [if_neg (by rintro (h | h | h); omega; omega; rw [h2] at h; simp at h), h1]
abbrev GlobW := Glob (·.many) fitsW
end Go.Ax

namespace Go.Ax
open Go.Proofs Go.Lib
set_option maxRecDepth 10000
def aT1 : List UInt8 := [46, 46, 32, 50, 58, 42, 32, 46, 46]
def aT2 : List UInt8 := [49, 58, 49, 46, 100, 115, 116, 61, 51, 32, 33, 50, 58, 42]
def aQ1 : List (List Nat) := [[1, 1, 0, 0, 0, 0, 0, 0], [2, 5, 0, 0, 0, 0, 0, 0], [3, 1, 0, 0, 0, 0, 0, 0]]
def aQ2 : List (List Nat) := [[1, 1, 0, 3, 0, 0, 0, 0], [2, 5, 0, 0, 0, 0, 0, 0]]
def aQ3 : List (List Nat) := [[1, 2, 0, 0, 0, 0, 0, 0], [3, 4, 0, 0, 0, 0, 0, 0]]
def aW2 : List WordT := [⟨false, false, 1, 1, [(3, 3)]⟩, ⟨false, true, 2, -1, []⟩]
theorem aP1 : parseW aT1 = some [starW, ⟨false, false, 2, -1, []⟩, starW] := by kernel_rfl
theorem aP2 : parseW aT2 = some aW2 := by kernel_rfl
theorem aP3 : parseW [46, 46] = some [starW] := by kernel_rfl
theorem aP4 : parseW [120] = none := by kernel_rfl
theorem ok_of {l : List (List Nat)} (h : (l.all fun q => decide (q.length = 8) && (List.range 8).all fun i => decide (q.getD i 0 < 65536)) = true) : ∀ q ∈ l, OkK q := fun q hq => by
  have h1 := List.all_eq_true.1 h q hq
  rw [Bool.and_eq_true, decide_eq_true_eq, List.all_eq_true] at h1
  exact ⟨h1.1, fun i hi => by simpa using h1.2 i (List.mem_range.2 hi)⟩
theorem aG1 : GlobW [starW, ⟨false, false, 2, -1, []⟩, starW] aQ1 :=
  .star [[1, 1, 0, 0, 0, 0, 0, 0]] rfl (.one rfl (by decide) (.star [[3, 1, 0, 0, 0, 0, 0, 0]] rfl .nil))
theorem aG2 : ¬ GlobW aW2 aQ2 := fun h => by
  obtain ⟨q, r, e, _, h2⟩ := (Glob.one_iff (by rfl)).1 h
  injection e with _ e
  subst e
  obtain ⟨q, r, e, h3, _⟩ := (Glob.one_iff (by rfl)).1 h2
  injection e with e _
  subst e
  exact absurd h3 (by decide)
theorem aO : ofL aQ3 = [49, 58, 50, 32, 51, 58, 52] := by
  simp [ofL, aQ3, wordQ, Lib.decDigits_one, Lib.join, List.intercalate]
theorem awake37_ctr (g : GP) (hp : ∀ w, g.G w → PowG w) (he : ∀ w, g.G w → ErrG w) : Ctr (ax g).E 17 [] [] (fun o => o = .ret (.bool true) []) := by
  have c1 := matchL_ctr g he aT1 (by decide) true aQ1 (by decide) (ok_of (by decide)) _ aP1 true (iff_of_true rfl aG1)
  have c2 := matchL_ctr g he aT2 (by decide) true aQ2 (by decide) (ok_of (by decide)) _ aP2 false (iff_of_false (by simp) aG2)
  have c3 := right_ctr g he [46, 46] (by decide)
  rw [aP3] at c3
  have c4 := right_ctr g he [120] (by decide)
  rw [aP4] at c4
  have c5 := of37_ctr g hp true aQ3 (ok_of (by decide)) (by decide)
  rw [aO] at c5
  refine Ctr.body (X := ax g) _ 47 [] [.tmp 0] Tryz.func17 rfl rfl rfl rfl (by decide +kernel) rfl rfl ?_
  conv => whnf
  repeat' (first | (refine And.intro (by first | exact rfl | decide | exact Nat.le_of_ble_eq_true rfl | exact ⟨_, rfl⟩ | exact ⟨_, _, rfl⟩ | exact Nat.le_refl _ | exact Int.le_refl _ | omega | (simp only []; omega) | exact True.intro | (simp only []; omega) | (simp only [List.length_cons]; omega) | (simp only [List.length_cons, List.length_nil]; omega) | exact ⟨⟨_, _, rfl, rfl, Nat.le_of_ble_eq_true rfl⟩, trivial⟩ | exact ⟨⟨_, _, rfl, rfl, Nat.le_of_ble_eq_true rfl⟩, ⟨_, _, rfl, rfl, Nat.le_of_ble_eq_true rfl⟩, trivial⟩ | exact ⟨⟨_, _, rfl, rfl, Nat.le_of_ble_eq_true rfl⟩, ⟨_, _, rfl, rfl, Nat.le_of_ble_eq_true rfl⟩, ⟨_, _, rfl, rfl, Nat.le_of_ble_eq_true rfl⟩, trivial⟩) ?_; conv => whnf) | (refine ifB_intro (fun hA => ?_) (fun hA => ?_) <;> (try rw [hA]) <;> (conv => whnf) <;> (first | replace hA := of_decide_eq_true hA | replace hA := of_decide_eq_false hA | replace hA := eq_of_beq hA | replace hA := ne_of_beq_false hA | replace hA := bne_iff_ne.1 hA | replace hA := bne_eq_false_iff_eq.1 hA | skip) <;> (try simp only [List.length_map, cond_true, cond_false, Bool.not_eq_true', Bool.not_eq_false', beq_iff_eq, beq_eq_false_iff_ne, ne_eq] at hA)) | (refine CallP.det (c1) ?_; conv => whnf) | (refine CallD.det (c1) ?_; conv => whnf) | (refine CallP.det (c2) ?_; conv => whnf) | (refine CallD.det (c2) ?_; conv => whnf) | (refine CallP.det (c3) ?_; conv => whnf) | (refine CallD.det (c3) ?_; conv => whnf) | (refine CallP.det (c4) ?_; conv => whnf) | (refine CallD.det (c4) ?_; conv => whnf) | (refine CallP.det (c5) ?_; conv => whnf) | (refine CallD.det (c5) ?_; conv => whnf) | (refine And.intro ⟨⟨_, _, rfl, rfl, Nat.le_of_ble_eq_true rfl⟩, ⟨_, _, rfl, rfl, Nat.le_of_ble_eq_true rfl⟩, ⟨_, _, rfl, rfl, Nat.le_of_ble_eq_true rfl⟩, ⟨_, _, rfl, rfl, Nat.le_of_ble_eq_true rfl⟩, trivial⟩ ?_; conv => whnf) | (rw [getD_map _ _ _ _ (by assumption)]; conv => whnf))
  refine ⟨⟨[], ?_⟩⟩
  conv => whnf
  rfl
end Go.Ax

namespace Go.Ax
open Go.Proofs Go.Lib
set_option maxRecDepth 10000
def turnL (l : List UInt8) : List UInt8 := Lib.join (wordsL l).reverse [32]
theorem split_free (c : UInt8) : ∀ (l : List UInt8), ∀ x ∈ splitL c l, x.all (· != c) = true
  | [], x, hx => by simp [splitL] at hx; subst hx; rfl
  | y :: r, x, hx => by
    have ih := split_free c r
    rw [splitL] at hx
    by_cases h : c = y
    · rw [if_pos h] at hx
      rcases List.mem_cons.1 hx with rfl | hx
      · rfl
      · exact ih x hx
    · rw [if_neg h] at hx
      cases hs : splitL c r with
      | nil => exact absurd hs (splitL_ne c r)
      | cons q qs =>
        rw [hs] at hx ih
        rcases List.mem_cons.1 hx with rfl | hx
        · rw [List.all_cons, ih q (by simp)]
          simp; exact fun e => h e.symm
        · exact ih x (List.mem_cons_of_mem _ hx)
theorem words_fine (l : List UInt8) : ∀ x ∈ wordsL l, x.all (· != 32) = true ∧ x ≠ [] := fun x hx => by
  obtain ⟨h1, h2⟩ := List.mem_filter.1 hx
  exact ⟨split_free 32 l x h1, by simpa using h2⟩
theorem turn_words (l : List UInt8) : wordsL (turnL l) = (wordsL l).reverse := words_join _ fun x hx => words_fine l x (List.mem_reverse.1 hx)
def glue (xs : List (List UInt8)) : Nat := (xs.map fun x => x.length + 1).sum
theorem glue_cons (x : List UInt8) (r : List (List UInt8)) : glue (x :: r) = x.length + 1 + glue r := by simp [glue]
theorem glue_app (a b : List (List UInt8)) : glue (a ++ b) = glue a + glue b := by simp [glue]
theorem glue_rev : ∀ xs : List (List UInt8), glue xs.reverse = glue xs
  | [] => rfl
  | x :: r => by rw [List.reverse_cons, glue_app, glue_rev r, glue_cons, glue_cons]; simp [glue]; omega
theorem join_glue : ∀ xs : List (List UInt8), (Lib.join xs [32]).length + 1 ≤ glue xs + 1 ∧ (xs ≠ [] → (Lib.join xs [32]).length + 1 = glue xs)
  | [] => ⟨by simp [Lib.join, glue], fun h => absurd rfl h⟩
  | [x] => by rw [Lib.join_one, glue_cons]; simp [glue]
  | x :: y :: r => by
    have ih := (join_glue (y :: r)).2 (by simp)
    have e : Lib.join (x :: y :: r) [32] = x ++ 32 :: Lib.join (y :: r) [32] := by simp [Lib.join, List.intercalate]
    rw [e, glue_cons]
    simp only [List.length_append, List.length_cons] at ih ⊢
    exact ⟨by omega, fun _ => by omega⟩
theorem split_glue (c : UInt8) : ∀ l : List UInt8, glue (splitL c l) = l.length + 1
  | [] => rfl
  | y :: r => by
    have ih := split_glue c r
    rw [splitL]
    by_cases h : c = y
    · rw [if_pos h, glue_cons, ih]; simp; omega
    · rw [if_neg h]
      cases hs : splitL c r with
      | nil => exact absurd hs (splitL_ne c r)
      | cons q qs =>
        rw [hs, glue_cons] at ih
        show glue ((y :: q) :: qs) = _
        rw [glue_cons]; simp only [List.length_cons]; omega
theorem glue_filter (p : List UInt8 → Bool) : ∀ xs : List (List UInt8), glue (xs.filter p) ≤ glue xs
  | [] => Nat.le_refl _
  | x :: r => by
    have ih := glue_filter p r
    rw [List.filter_cons, glue_cons]
    split
    · rw [glue_cons]; omega
    · omega
theorem turn_len (l : List UInt8) : (turnL l).length ≤ l.length := by
  have h1 := split_glue 32 l
  have h2 : glue (wordsL l) ≤ glue (splitL 32 l) := glue_filter _ _
  have h3 := glue_rev (wordsL l)
  by_cases h : (wordsL l).reverse = []
  · rw [turnL, h]; simp [Lib.join]
  · have := (join_glue _).2 h
    rw [turnL]; omega
theorem turn_parse {l : List UInt8} {W : List WordT} (h : parseW l = some W) : parseW (turnL l) = some W.reverse := by
  unfold parseW at h
  split at h
  · simp at h
  · rename_i hn
    injection h with h
    have hl := turn_len l
    refine parse_of (turn_words l) (by omega) (by rw [List.length_reverse]; omega) ?_
    rw [← h, List.map_reverse, List.map_reverse, List.map_map]
    congr 1
    refine List.map_congr_left fun x hx => ?_
    have h2 : (wordsL l).all (fun x => (readW x).2) = true := by
      cases hb : (wordsL l).all (fun x => (readW x).2) with
      | true => rfl
      | false => exact absurd (.inr (.inr hb)) hn
    have := List.all_eq_true.1 h2 x hx
    show readW x = ((readW x).1, true)
    rw [← this]
theorem turn_twice {l : List UInt8} {W : List WordT} (h : parseW l = some W) : parseW (turnL (turnL l)) = some W := by
  have := turn_parse (turn_parse h)
  rwa [List.reverse_reverse] at this
theorem turn_law {W : List WordT} {L : List (List Nat)} : GlobW W.reverse L.reverse ↔ GlobW W L := Glob.rev_iff
def placeN (l : List UInt8) : Int := if l = [42] then -1 else numN l
def placeY (l : List UInt8) : Bool := decide (l = [42]) || decide (0 ≤ numN l)
def fieldN (l : List UInt8) : Int := match fieldK l with | some i => (i : Int) | none => -1
def testR (l : List UInt8) : Bool := (cutL 61 l).2.2 && decide (2 ≤ fieldN (cutL 61 l).1) && decide (0 ≤ numN (cutL 61 l).2.1)
def pairR (l : List UInt8) : Int × Int := (fieldN (cutL 61 l).1, IntKind.u16.wrap (numN (cutL 61 l).2.1))
def testsR : List (List UInt8) → List (Int × Int) → List (Int × Int) × Bool
  | [], acc => (acc, true)
  | p :: r, acc => if testR p = true then testsR r (acc ++ [pairR p]) else (acc, false)
def headR (l : List UInt8) : Bool := (atW l).2.2 && placeY (atW l).1 && placeY (atW l).2.1 && decide ((partsW l).length ≤ 7)
def wordR (l : List UInt8) : WordT × Bool :=
  if l = [46, 46] then (⟨true, false, 0, 0, []⟩, true)
  else if headR l = true then (⟨false, negW l, placeN (atW l).1, placeN (atW l).2.1, (testsR (partsW l).tail []).1⟩, (testsR (partsW l).tail []).2)
  else (⟨false, negW l, 0, 0, []⟩, false)
theorem numN_P (l : List UInt8) : (numP l).2 = decide (0 ≤ numN l) ∧ ((numP l).2 = true → (numP l).1 = numN l) := by
  obtain ⟨h1, h2⟩ := numP_numK l
  unfold numN
  cases h : numK l with
  | none => rw [h] at h1; rw [h1]; exact ⟨by simp, fun h => by simp at h⟩
  | some n => rw [h] at h1; rw [h1]; exact ⟨by simp, fun _ => h2 n h⟩
theorem placeN_P (l : List UInt8) : (placeP l).2 = placeY l ∧ (placeY l = true → (placeP l).1 = placeN l) := by
  unfold placeP placeY placeN
  by_cases h : l = [42]
  · rw [if_pos h, if_pos h]; exact ⟨by simp [h], fun _ => rfl⟩
  · rw [if_neg h, if_neg h]
    obtain ⟨h1, h2⟩ := numN_P l
    simp only [h, decide_false, Bool.false_or]
    exact ⟨h1, fun e => h2 (by rw [h1]; exact e)⟩
theorem testR_P (l : List UInt8) : (testP l).2 = testR l ∧ (testR l = true → (testP l).1 = pairR l) := by
  obtain ⟨h1, h2⟩ := numN_P (cutL 61 l).2.1
  have hf : ((fieldK (cutL 61 l).1).isSome && decide ((2 : Int) ≤ (((fieldK (cutL 61 l).1).getD 0 : Nat) : Int))) = decide (2 ≤ fieldN (cutL 61 l).1) := by
    unfold fieldN
    cases h : fieldK (cutL 61 l).1 <;> simp
  have e : (testP l).2 = testR l := by
    show ((cutL 61 l).2.2 && (fieldK (cutL 61 l).1).isSome && (numP (cutL 61 l).2.1).2 && decide ((2 : Int) ≤ ((fieldK (cutL 61 l).1).getD 0 : Nat))) = _
    unfold testR
    rw [← hf, ← h1]
    cases (cutL 61 l).2.2 <;> cases (fieldK (cutL 61 l).1).isSome <;> cases (numP (cutL 61 l).2.1).2 <;> simp
  refine ⟨e, fun h => ?_⟩
  unfold testR at h
  simp only [Bool.and_eq_true, decide_eq_true_eq] at h
  obtain ⟨⟨_, hF⟩, hN⟩ := h
  have hn := h2 (by rw [h1]; exact decide_eq_true hN)
  show ((((fieldK (cutL 61 l).1).getD 0 : Nat) : Int), IntKind.u16.wrap (numP (cutL 61 l).2.1).1) = pairR l
  unfold pairR
  rw [hn]
  unfold fieldN at hF ⊢
  cases h : fieldK (cutL 61 l).1 with
  | none => rw [h] at hF; simp at hF
  | some i => rfl
theorem tests_P : ∀ (l : List (List UInt8)) (acc : List (Int × Int)), testsGo l acc = testsR l acc
  | [], _ => rfl
  | p :: r, acc => by
    obtain ⟨h1, h2⟩ := testR_P p
    rw [testsGo, testsR, h1]
    by_cases h : testR p = true
    · rw [if_pos h, if_pos h, h2 h]; exact tests_P r _
    · rw [if_neg h, if_neg h]
theorem head_P (l : List UInt8) : headOk l = headR l := by
  unfold headOk headR
  rw [(placeN_P (atW l).1).1, (placeN_P (atW l).2.1).1]
theorem wordR_eq (l : List UInt8) : (wordR l).2 = (readW l).2 ∧ ((wordR l).2 = true → wordR l = readW l) := by
  unfold wordR readW
  by_cases h : l = [46, 46]
  · rw [if_pos h, if_pos h]; exact ⟨rfl, fun _ => rfl⟩
  · rw [if_neg h, if_neg h, head_P]
    by_cases hh : headR l = true
    · rw [if_pos hh, if_pos hh, tests_P]
      refine ⟨rfl, fun _ => ?_⟩
      unfold headR at hh
      simp only [Bool.and_eq_true] at hh
      rw [(placeN_P _).2 hh.1.1.2, (placeN_P _).2 hh.1.2]
    · rw [if_neg hh, if_neg hh]; exact ⟨rfl, fun h => by simp at h⟩
def parseR (l : List UInt8) : Option (List WordT) := if 200 < l.length ∨ 30 < (wordsL l).length ∨ (wordsL l).all (fun x => (wordR x).2) = false then none else some ((wordsL l).map fun x => (wordR x).1)
theorem parseR_eq (l : List UInt8) : parseR l = parseW l := by
  unfold parseR parseW
  have e : (wordsL l).all (fun x => (wordR x).2) = (wordsL l).all (fun x => (readW x).2) := by
    congr 1; funext x; exact (wordR_eq x).1
  rw [e]
  split
  · rfl
  · rename_i hn
    have h2 : (wordsL l).all (fun x => (readW x).2) = true := by
      cases hb : (wordsL l).all (fun x => (readW x).2) with
      | true => rfl
      | false => exact absurd (.inr (.inr hb)) hn
    congr 1
    refine List.map_congr_left fun x hx => ?_
    have := List.all_eq_true.1 h2 x hx
    rw [(wordR_eq x).2 ((wordR_eq x).1.trans this)]
def isR (w : WordT) (q : List Nat) : Bool := ((decide (w.sw < 0) || decide (((q.getD 0 0 : Nat) : Int) = w.sw)) && (decide (w.pt < 0) || decide (((q.getD 1 0 : Nat) : Int) = w.pt)) && hasF q w.has) != w.not
theorem placeN_ge (l : List UInt8) : -1 ≤ placeN l := by
  unfold placeN numN
  split
  · omega
  · split <;> omega
theorem isR_eq {w : WordT} (h1 : -1 ≤ w.sw) (h2 : -1 ≤ w.pt) (q : List Nat) : isR w q = fitsW w q := by
  unfold isR fitsW
  have e1 : decide (w.sw < 0) = decide (w.sw = -1) := by rw [decide_eq_decide]; omega
  have e2 : decide (w.pt < 0) = decide (w.pt = -1) := by rw [decide_eq_decide]; omega
  rw [e1, e2]
theorem wordR_ge (l : List UInt8) : -1 ≤ (wordR l).1.sw ∧ -1 ≤ (wordR l).1.pt := by
  unfold wordR
  split
  · exact ⟨by decide, by decide⟩
  · split
    · exact ⟨placeN_ge _, placeN_ge _⟩
    · exact ⟨by show (-1 : Int) ≤ 0; omega, by show (-1 : Int) ≤ 0; omega⟩
theorem parse_ge {l : List UInt8} {W : List WordT} (h : parseW l = some W) : ∀ w ∈ W, -1 ≤ w.sw ∧ -1 ≤ w.pt := fun w hw => by
  rw [← parseR_eq] at h
  unfold parseR at h
  split at h
  · simp at h
  · injection h with h
    subst h
    obtain ⟨x, _, rfl⟩ := List.mem_map.1 hw
    exact wordR_ge x
def marksR (W : List WordT) (L : List (List Nat)) (i k : Nat) : Prop := k ≤ L.length ∧ GlobW (W.take i) (L.take k)
theorem marks_zero (W : List WordT) (L : List (List Nat)) (k : Nat) (h : k ≤ L.length) : marksR W L 0 k ↔ k = 0 := by
  unfold marksR
  rw [List.take_zero, show GlobW [] (L.take k) ↔ L.take k = [] from Glob.nil_iff]
  refine ⟨fun ⟨_, e⟩ => ?_, fun e => ⟨h, by subst e; rfl⟩⟩
  have : (L.take k).length = 0 := by rw [e]; rfl
  rw [List.length_take] at this
  omega
theorem marks_all (W : List WordT) (L : List (List Nat)) : marksR W L W.length L.length ↔ GlobW W L := by
  unfold marksR
  rw [List.take_length, List.take_length]
  exact ⟨fun h => h.2, fun h => ⟨Nat.le_refl _, h⟩⟩
end Go.Ax

namespace Go.Ax
open Go.Proofs Go.Lib
set_option maxRecDepth 10000
theorem join_cat (sep : List UInt8) : ∀ (xs : List (List UInt8)) (x : List UInt8), xs ≠ [] → Lib.join (xs ++ [x]) sep = Lib.join xs sep ++ (sep ++ x)
  | [], _, h => absurd rfl h
  | [a], x, _ => by simp [Lib.join, List.intercalate]
  | a :: b :: r, x, _ => by
    have ih := join_cat sep (b :: r) x (by simp)
    have e : ∀ (p q : List UInt8) (t : List (List UInt8)), Lib.join (p :: q :: t) sep = p ++ (sep ++ Lib.join (q :: t) sep) := fun p q t => by simp [Lib.join, List.intercalate]
    rw [List.cons_append, List.cons_append, e, ← List.cons_append, ih, e]
    simp [List.append_assoc]
theorem ofL_snoc (L : List (List Nat)) (q : List Nat) : ofL (L ++ [q]) = if L = [] then wordQ q else ofL L ++ ([32] ++ wordQ q) := by
  unfold ofL
  by_cases h : L = []
  · subst h; rw [if_pos rfl]; simp [Lib.join_one]
  · rw [if_neg h, List.map_append]
    exact join_cat [32] _ _ (by simpa using h)
theorem ofL_take (L : List (List Nat)) (i : Nat) (h : i < L.length) : ofL (L.take (i + 1)) = if i = 0 then wordQ L[i] else ofL (L.take i) ++ ([32] ++ wordQ L[i]) := by
  rw [List.take_succ_eq_append_getElem h, ofL_snoc]
  by_cases h0 : i = 0
  · subst h0; simp
  · rw [if_neg h0, if_neg]
    intro e
    have : (L.take i).length = 0 := by rw [e]; rfl
    rw [List.length_take] at this; omega
def flatS (xs : List (List UInt8)) : List UInt8 := xs.flatMap fun x => x ++ [32]
theorem join_flatS : ∀ (ys : List (List UInt8)) (x : List UInt8), Lib.join (ys ++ [x]) [32] = flatS ys ++ x
  | [], x => by simp [Lib.join, List.intercalate, flatS]
  | y :: r, x => by
    have ih := join_flatS r x
    obtain ⟨z, t, e⟩ : ∃ z t, r ++ [x] = z :: t := by cases r <;> exact ⟨_, _, rfl⟩
    have h : Lib.join (y :: z :: t) [32] = y ++ ([32] ++ Lib.join (z :: t) [32]) := by simp [Lib.join, List.intercalate]
    rw [List.cons_append, e, h, ← e, ih]
    simp [flatS, List.append_assoc]
theorem flatS_step (xs : List (List UInt8)) (k : Nat) (h : k < xs.length) : flatS (xs.drop k).reverse = flatS (xs.drop (k + 1)).reverse ++ (xs[k] ++ [32]) := by
  rw [List.drop_eq_getElem_cons h, List.reverse_cons]
  simp [flatS]
theorem turn_last (xs : List (List UInt8)) (h : 0 < xs.length) : Lib.join xs.reverse [32] = flatS (xs.drop 1).reverse ++ xs[0] := by
  cases xs with
  | nil => simp at h
  | cons x r => rw [List.reverse_cons, join_flatS]; rfl
end Go.Ax
