/- What the card of this claim stands on, or the card itself: for every input, as the given row says. -/
import Derived.Lib.IndexBytes
import Derived.Recover
import Derived.Test.YtjcgfiidbpailaaDoorPA05
import Derived.Test.YtjcgfiidbpailaaDoorPA06
import Derived.Test.YtjcgfiidbpailaaDoorPA07
import Derived.Test.YtjcgfiidbpailaaDoorPA08
import Derived.Test.YtjcgfiidbpailaaDoorPA09

namespace Go.Ax
open Go.Proofs
set_option maxRecDepth 10000
def rowPr (p : Int × Int) : List D := [.i64 p.1, .u16 p.2]
def okF (p : List Nat) (x : Int × Int) : Bool := isK x.1 && decide (((p.getD x.1.toNat 0 : Nat) : Int) = x.2)
theorem hasF_all (p : List Nat) (l : List (Int × Int)) : hasF p l = l.all (okF p) := rfl
theorem bne_dec (a b : Int) : (a != b) = !decide (a = b) := by
  by_cases h : a = b <;> simp [h, bne]
theorem has1_ctr (g : GP) (p : List Nat) (hp : p.length = 8) (x : Int × Int) : Ctr (ax g).E 28 [.dagg (rowPr x), .ptr 9000 0] [(9000, some (.dvar 8 (rowU p)))] (fun o => o = .ret (.bool (!okF p x)) [(9000, some (.dvar 8 (rowU p)))]) := by
  obtain ⟨f, n⟩ := x
  have hi := is_any g f
  unfold okF
  dsimp only
  refine Ctr.body (X := ax g) _ 17 [9000] [.tmp 3] Tryd.func28 rfl rfl rfl rfl (by decide +kernel) rfl rfl ?_
  conv => whnf
  cases hk : isK f with
  | false =>
    rw [hk] at hi
    repeat' (first | (refine And.intro (by first | exact rfl | decide | exact Nat.le_of_ble_eq_true rfl | exact ⟨_, rfl⟩ | exact ⟨_, _, rfl⟩ | exact Nat.le_refl _ | exact Int.le_refl _ | omega | (simp only [List.length_map]; omega) | exact True.intro | (simp only [IntKind.wrap_i64, List.length_map]; omega) | (simp only [List.map_cons, List.map_nil, List.length_cons, Option.getD]; omega) | (simp only [bsz, ByteArray.size_append, List.size_toArray, List.length_cons, List.length_nil]; omega) | exact ⟨⟨_, _, rfl, rfl, Nat.le_of_ble_eq_true rfl⟩, trivial⟩ | exact ⟨⟨_, _, rfl, rfl, Nat.le_of_ble_eq_true rfl⟩, ⟨_, _, rfl, rfl, Nat.le_of_ble_eq_true rfl⟩, trivial⟩ | exact ⟨⟨_, _, rfl, rfl, Nat.le_of_ble_eq_true rfl⟩, ⟨_, _, rfl, rfl, Nat.le_of_ble_eq_true rfl⟩, ⟨_, _, rfl, rfl, Nat.le_of_ble_eq_true rfl⟩, trivial⟩) ?_; conv => whnf) | (refine ifB_intro (fun hA => ?_) (fun hA => ?_) <;> (try rw [hA]) <;> (conv => whnf) <;> (first | replace hA := of_decide_eq_true hA | replace hA := of_decide_eq_false hA | replace hA := eq_of_beq hA | replace hA := ne_of_beq_false hA | replace hA := bne_iff_ne.1 hA | replace hA := bne_eq_false_iff_eq.1 hA | skip) <;> (try simp only [List.length_map, cond_true, cond_false, Bool.not_eq_true', Bool.not_eq_false', beq_iff_eq, beq_eq_false_iff_ne, ne_eq] at hA)) | (refine CallP.det (hi) ?_; conv => whnf) | (refine CallD.det (hi) ?_; conv => whnf) | (refine DrawP.intro (X := ax g) (id := 1) B28_1 (by kernel_rfl) (by decide +kernel) ?_; conv => whnf) | (rw [getD_map _ _ _ _ (by assumption)]; conv => whnf))
    refine ⟨⟨[(9000, some (.dvar 8 (rowU p)))], ?_⟩⟩
    conv => whnf
    exact And.intro ⟨fun o h => h, trivial⟩ rfl
  | true =>
    rw [hk] at hi
    obtain ⟨i, rfl, h8⟩ := isK_nat hk
    have hg := rowU_get p i (by omega)
    have hg0 : (rowU p).getD (0 + ((i : Nat) : Int).toNat * 1) (.v undef) = .v (.int .u16 ((p.getD i 0 : Nat) : Int)) := by rw [← hg]; congr 1; omega
    have hl : (rowU p).length = 8 := by rw [rowU_len]; exact hp
    repeat' (first | (refine And.intro (by first | exact rfl | decide | exact Nat.le_of_ble_eq_true rfl | exact ⟨_, rfl⟩ | exact ⟨_, _, rfl⟩ | exact Nat.le_refl _ | exact Int.le_refl _ | omega | (simp only []; omega) | exact True.intro | (simp only []; omega) | (simp only []; omega) | (simp only []; omega) | exact ⟨⟨_, _, rfl, rfl, Nat.le_of_ble_eq_true rfl⟩, trivial⟩ | exact ⟨⟨_, _, rfl, rfl, Nat.le_of_ble_eq_true rfl⟩, ⟨_, _, rfl, rfl, Nat.le_of_ble_eq_true rfl⟩, trivial⟩ | exact ⟨⟨_, _, rfl, rfl, Nat.le_of_ble_eq_true rfl⟩, ⟨_, _, rfl, rfl, Nat.le_of_ble_eq_true rfl⟩, ⟨_, _, rfl, rfl, Nat.le_of_ble_eq_true rfl⟩, trivial⟩) ?_; conv => whnf) | (refine ifB_intro (fun hA => ?_) (fun hA => ?_) <;> (try rw [hA]) <;> (conv => whnf) <;> (first | replace hA := of_decide_eq_true hA | replace hA := of_decide_eq_false hA | replace hA := eq_of_beq hA | replace hA := ne_of_beq_false hA | replace hA := bne_iff_ne.1 hA | replace hA := bne_eq_false_iff_eq.1 hA | skip) <;> (try simp only [List.length_map, cond_true, cond_false, Bool.not_eq_true', Bool.not_eq_false', beq_iff_eq, beq_eq_false_iff_ne, ne_eq] at hA)) | (refine CallP.det (hi) ?_; conv => whnf) | (refine CallD.det (hi) ?_; conv => whnf) | (refine DrawP.intro (X := ax g) (id := 1) B28_1 (by kernel_rfl) (by decide +kernel) ?_; conv => whnf) | (refine And.intro (show 0 + ((i : Nat) : Int).toNat * 1 + 1 ≤ (rowU p).length by omega) ?_; conv => whnf) | (erw [hg0]; conv => whnf) | (rw [getD_map _ _ _ _ (by assumption)]; conv => whnf))
    refine ⟨⟨[(9000, some (.dvar 8 (rowU p)))], ?_⟩⟩
    conv => whnf
    refine And.intro ⟨fun o h => h, trivial⟩ ?_
    rw [Int.toNat_natCast, bne_dec]; rfl
def findR (q : Int × Int → Bool) : List (Int × Int) → Nat → Int
  | [], _ => -1
  | p :: l, i => if q p then i else findR q l (i + 1)
theorem findR_drop (q : Int × Int → Bool) (l : List (Int × Int)) (i : Nat) (h : i < l.length) : findR q (l.drop i) i = if q l[i] then (i : Int) else findR q (l.drop (i + 1)) (i + 1) := by
  rw [List.drop_eq_getElem_cons h]; rfl
theorem findR_iff (q : Int × Int → Bool) : ∀ (l : List (Int × Int)) (i : Nat), 0 ≤ findR q l i ↔ l.any q = true
  | [], i => by simp [findR]
  | p :: l, i => by
    show (0 ≤ if q p = true then (i : Int) else findR q l (i + 1)) ↔ _
    by_cases h : q p = true
    · rw [if_pos h]; simp [h]
    · rw [if_neg h, findR_iff q l (i + 1)]; simp [h]
theorem findR_any (q : Int × Int → Bool) (l : List (Int × Int)) (i : Nat) : decide (0 ≤ findR q l i) = l.any q := by
  rw [Bool.eq_iff_iff, decide_eq_true_iff]; exact findR_iff q l i
theorem indexR_ctr (g : GP) (fn n : Nat) (cs : List D) (q : Int × Int → Bool) (b : Bool) (l : List (Int × Int)) (hl : l.length < 2 ^ 62) (hq : ∀ x ∈ l, Ctr (ax g).E fn [.dagg (rowPr x), .ptr 9000 0] [(9000, some (.dvar n cs))] (fun o => o = .ret (.bool (q x)) [(9000, some (.dvar n cs))])) : Ctr (ax g).E 47 [.d (.sl b 2 (l.map rowPr)), .clo (.func fn) [] [.ptr 9000 0]] [(9000, some (.dvar n cs))] (fun o => o = .ret (.i64 (findR q l 0)) [(9000, some (.dvar n cs))]) := by
  refine Ctr.body (X := ax g) _ 19 [9000] [.tmp 4] Tryd.func47 rfl rfl rfl rfl (by decide +kernel) rfl rfl ?_
  conv => whnf
  repeat (refine And.intro (by first | exact rfl | decide | exact Nat.le_of_ble_eq_true rfl | exact ⟨_, rfl⟩ | exact ⟨_, _, rfl⟩ | exact Nat.le_refl _ | exact Int.le_refl _ | omega | (simp only [List.length_map]; omega)) ?_; conv => whnf)
  refine LoopP.inv (X := ax g) (fun i : Nat => { f := [(0, .d (.sl b 2 (l.map rowPr))), (1, .clo (.func fn) [] [.ptr 9000 0]), (4, .i64 0), (7, .i64 l.length), (8, .i64 i)], h := [(9000, some (.dvar n cs))] }) (fun i => i ≤ l.length ∧ findR q l 0 = findR q (l.drop i) i) (fun i => l.length - i) 0 ⟨Nat.zero_le _, rfl⟩ ⟨⟨rfl, rfl, rfl, AV.int_eq (by simp), rfl, trivial⟩, ⟨fun o h => h, trivial⟩⟩ fun i ⟨hi, he⟩ => ?_
  conv => whnf
  refine ifB_intro (fun h2 => ?_) (fun h2 => ?_)
  · have hlt : i < l.length := by simpa using h2
    have hd := findR_drop q l i hlt
    have hc := hq l[i] (List.getElem_mem hlt)
    conv => whnf
    repeat (refine And.intro (by first | exact rfl | decide | exact Nat.le_of_ble_eq_true rfl | exact ⟨_, rfl⟩ | exact ⟨_, _, rfl⟩ | exact Nat.le_refl _ | exact Int.le_refl _ | omega | (simp only [List.length_map]; omega)) ?_; conv => whnf)
    rw [getD_map rowPr l i [] hlt]
    generalize l[i] = x at hd hc
    obtain ⟨x1, x2⟩ := x
    conv => whnf
    repeat (refine And.intro (by first | exact rfl | decide | exact Nat.le_of_ble_eq_true rfl | exact ⟨_, rfl⟩ | exact ⟨_, _, rfl⟩ | exact Nat.le_refl _ | exact Int.le_refl _ | omega | (simp only [List.length_map]; omega)) ?_; conv => whnf)
    refine CallP.upd rfl hc ?_
    conv => whnf
    refine ifB_intro (fun h3 => ?_) (fun h3 => ?_)
    · have h3 : q (x1, x2) = true := h3
      rw [h3, if_pos rfl] at hd
      conv => whnf
      refine ⟨⟨[(9000, some (.dvar n cs))], ?_⟩⟩
      conv => whnf
      refine And.intro ⟨fun o h => h, trivial⟩ ?_
      conv => whnf
      rw [he, hd]
    · have h3 : q (x1, x2) = false := h3
      rw [h3] at hd
      conv => whnf
      exact ⟨i + 1, ⟨by omega, by rw [he, hd]; rfl⟩, by omega, ⟨⟨rfl, rfl, rfl, rfl, AV.int_eq (i64_succ (by omega)), trivial⟩, ⟨fun o h => h, trivial⟩⟩⟩
  · have hge : l.length ≤ i := by simpa using h2
    conv => whnf
    refine ⟨⟨[(9000, some (.dvar n cs))], ?_⟩⟩
    conv => whnf
    refine And.intro ⟨fun o h => h, trivial⟩ ?_
    conv => whnf
    rw [he, List.drop_eq_nil_of_le hge]; rfl
theorem contR_ctr (g : GP) (fn n : Nat) (cs : List D) (q : Int × Int → Bool) (b : Bool) (l : List (Int × Int)) (hl : l.length < 2 ^ 62) (hq : ∀ x ∈ l, Ctr (ax g).E fn [.dagg (rowPr x), .ptr 9000 0] [(9000, some (.dvar n cs))] (fun o => o = .ret (.bool (q x)) [(9000, some (.dvar n cs))])) : Ctr (ax g).E 27 [.d (.sl b 2 (l.map rowPr)), .clo (.func fn) [] [.ptr 9000 0]] [(9000, some (.dvar n cs))] (fun o => o = .ret (.bool (l.any q)) [(9000, some (.dvar n cs))]) := by
  refine Ctr.body (X := ax g) _ 9 [9000] [.tmp 4] Tryd.func27 rfl rfl rfl rfl (by decide +kernel) rfl rfl ?_
  conv => whnf
  repeat (refine And.intro (by first | exact rfl | decide | exact Nat.le_of_ble_eq_true rfl | exact ⟨_, rfl⟩ | exact ⟨_, _, rfl⟩ | exact Nat.le_refl _ | exact Int.le_refl _ | omega | (simp only [List.length_map]; omega)) ?_; conv => whnf)
  refine CallP.upd rfl (indexR_ctr g fn n cs q b l hl hq) ?_
  conv => whnf
  refine ⟨⟨[(9000, some (.dvar n cs))], ?_⟩⟩
  conv => whnf
  refine And.intro ⟨fun o h => h, trivial⟩ ?_
  conv => whnf
  rw [← findR_any q l 0]
theorem phas_ctr (g : GP) (p : List Nat) (hp : p.length = 8) (b : Bool) (l : List (Int × Int)) (hl : l.length < 2 ^ 62) : Ctr (ax g).E 9 [.dagg (rowU p), .d (.sl b 2 (l.map rowPr))] [] (fun o => o = .ret (.bool (hasF p l)) []) := by
  have hc := (contR_ctr g 28 8 (rowU p) (fun x => !okF p x) b l hl fun x _ => has1_ctr g p hp x).swap 2 9000
  have e : (!l.any fun x => !okF p x) = hasF p l := by
    rw [hasF_all, List.all_eq_not_any_not]
  obtain ⟨a0, a1, a2, a3, a4, a5, a6, a7, rfl⟩ := eight hp
  refine Ctr.body (X := ax g) _ 9 [] [.tmp 4] Tryd.func9 rfl rfl rfl rfl (by decide +kernel) rfl rfl ?_
  conv => whnf
  repeat' (first | (refine And.intro (by first | exact rfl | decide | exact Nat.le_of_ble_eq_true rfl | exact ⟨_, rfl⟩ | exact ⟨_, _, rfl⟩ | exact Nat.le_refl _ | exact Int.le_refl _ | omega | (simp only [List.length_map]; omega) | exact True.intro | (simp only [IntKind.wrap_i64, List.length_map]; omega) | (simp only [List.map_cons, List.map_nil, List.length_cons, Option.getD]; omega) | (simp only [bsz, ByteArray.size_append, List.size_toArray, List.length_cons, List.length_nil]; omega) | exact ⟨⟨_, _, rfl, rfl, Nat.le_of_ble_eq_true rfl⟩, trivial⟩ | exact ⟨⟨_, _, rfl, rfl, Nat.le_of_ble_eq_true rfl⟩, ⟨_, _, rfl, rfl, Nat.le_of_ble_eq_true rfl⟩, trivial⟩ | exact ⟨⟨_, _, rfl, rfl, Nat.le_of_ble_eq_true rfl⟩, ⟨_, _, rfl, rfl, Nat.le_of_ble_eq_true rfl⟩, ⟨_, _, rfl, rfl, Nat.le_of_ble_eq_true rfl⟩, trivial⟩) ?_; conv => whnf) | (refine ifB_intro (fun hA => ?_) (fun hA => ?_) <;> (try rw [hA]) <;> (conv => whnf) <;> (first | replace hA := of_decide_eq_true hA | replace hA := of_decide_eq_false hA | replace hA := eq_of_beq hA | replace hA := ne_of_beq_false hA | replace hA := bne_iff_ne.1 hA | replace hA := bne_eq_false_iff_eq.1 hA | skip) <;> (try simp only [List.length_map, cond_true, cond_false, Bool.not_eq_true', Bool.not_eq_false', beq_iff_eq, beq_eq_false_iff_ne, ne_eq] at hA)) | (refine CallP.upd rfl (hc) ?_; conv => whnf) | (refine CallD.upd rfl (hc) ?_; conv => whnf) | (rw [getD_map _ _ _ _ (by assumption)]; conv => whnf))
  refine ⟨⟨[], ?_⟩⟩
  conv => whnf
  rw [← e]
theorem pdo_ctr (g : GP) (p : List Nat) (hp : p.length = 8) (b : Bool) (l : List (Int × Int)) (hl : l.length < 2 ^ 62) (hu : ∀ x ∈ l, 0 ≤ x.2) : Ctr (ax g).E 8 [.dagg (rowU p), .d (.sl b 2 (l.map rowPr))] [] (fun o => o = .ret (.dagg (rowU (doF p l))) []) := by
  obtain ⟨p0, p1, p2, p3, p4, p5, p6, p7, rfl⟩ := eight hp
  refine Ctr.body (X := ax g) _ 21 [] [.cell 4 24] Tryd.func8 rfl rfl rfl rfl (by decide +kernel) rfl rfl ?_
  conv => whnf
  repeat' (first | (refine And.intro (by first | exact rfl | decide | exact Nat.le_of_ble_eq_true rfl | exact ⟨_, rfl⟩ | exact ⟨_, _, rfl⟩ | exact Nat.le_refl _ | exact Int.le_refl _ | omega | (simp only [List.length_map]; omega) | exact True.intro | (simp only [IntKind.wrap_i64, List.length_map]; omega) | (simp only [List.map_cons, List.map_nil, List.length_cons, Option.getD]; omega) | (simp only [bsz, ByteArray.size_append, List.size_toArray, List.length_cons, List.length_nil]; omega) | exact ⟨⟨_, _, rfl, rfl, Nat.le_of_ble_eq_true rfl⟩, trivial⟩ | exact ⟨⟨_, _, rfl, rfl, Nat.le_of_ble_eq_true rfl⟩, ⟨_, _, rfl, rfl, Nat.le_of_ble_eq_true rfl⟩, trivial⟩ | exact ⟨⟨_, _, rfl, rfl, Nat.le_of_ble_eq_true rfl⟩, ⟨_, _, rfl, rfl, Nat.le_of_ble_eq_true rfl⟩, ⟨_, _, rfl, rfl, Nat.le_of_ble_eq_true rfl⟩, trivial⟩) ?_; conv => whnf) | (refine ifB_intro (fun hA => ?_) (fun hA => ?_) <;> (try rw [hA]) <;> (conv => whnf) <;> (first | replace hA := of_decide_eq_true hA | replace hA := of_decide_eq_false hA | replace hA := eq_of_beq hA | replace hA := ne_of_beq_false hA | replace hA := bne_iff_ne.1 hA | replace hA := bne_eq_false_iff_eq.1 hA | skip) <;> (try simp only [List.length_map, cond_true, cond_false, Bool.not_eq_true', Bool.not_eq_false', beq_iff_eq, beq_eq_false_iff_ne, ne_eq] at hA)) | (rw [getD_map _ _ _ _ (by assumption)]; conv => whnf))
  refine LoopP.inv (X := ax g) (fun i : Nat => { f := [(2, .ptr 2 0), (4, .ptr 4 0), (7, .d (.sl b 2 (l.map rowPr))), (8, .i64 l.length), (9, .i64 i)], h := [(2, some (.dvar 8 (rowU (doF [p0, p1, p2, p3, p4, p5, p6, p7] (l.take i))))), (4, some (.dvar 8 (rowU zeroP)))] }) (fun i => i ≤ l.length) (fun i => l.length - i) 0 (Nat.zero_le _) ⟨⟨rfl, rfl, rfl, AV.int_eq (by simp), rfl, trivial⟩, ⟨fun o h => h, fun o h => h, trivial⟩⟩ fun i hi => ?_
  conv => whnf
  refine ifB_intro (fun h2 => ?_) (fun h2 => ?_)
  · have hlt : i < l.length := by simpa using h2
    have hx := hu l[i] (List.getElem_mem hlt)
    have hst : doF [p0, p1, p2, p3, p4, p5, p6, p7] (l.take (i + 1)) = withI (doF [p0, p1, p2, p3, p4, p5, p6, p7] (l.take i)) l[i].1 l[i].2.toNat := by
      rw [List.take_succ_eq_append_getElem hlt, doF, List.foldl_append]; rfl
    have hq : (doF [p0, p1, p2, p3, p4, p5, p6, p7] (l.take i)).length = 8 := by rw [doF_len]; exact hp
    have hc := pwith_any g (doF [p0, p1, p2, p3, p4, p5, p6, p7] (l.take i)) hq l[i].1 l[i].2.toNat
    have hct := rowU_cut _ hq
    have hq2 : (withI (doF [p0, p1, p2, p3, p4, p5, p6, p7] (l.take i)) l[i].1 l[i].2.toNat).length = 8 := by rw [withI_len]; exact hq
    rw [Int.toNat_of_nonneg hx] at hc
    conv => whnf
    repeat (refine And.intro (by first | exact rfl | decide | exact Nat.le_of_ble_eq_true rfl | exact ⟨_, rfl⟩ | exact ⟨_, _, rfl⟩ | exact Nat.le_refl _ | exact Int.le_refl _ | omega | (simp only [List.length_map]; omega)) ?_; conv => whnf)
    rw [getD_map rowPr l i [] hlt]
    generalize hxx : l[i] = x at hst hc hx hq2
    obtain ⟨x1, x2⟩ := x
    dsimp only at hst hc hx hq2
    generalize doF [p0, p1, p2, p3, p4, p5, p6, p7] (l.take i) = q at *
    obtain ⟨a0, a1, a2, a3, a4, a5, a6, a7, rfl⟩ := eight hq
    generalize withI [a0, a1, a2, a3, a4, a5, a6, a7] x1 x2.toNat = r at *
    obtain ⟨b0, b1, b2, b3, b4, b5, b6, b7, rfl⟩ := eight hq2
    conv => whnf
    repeat' (first | (refine And.intro (by first | exact rfl | decide | exact Nat.le_of_ble_eq_true rfl | exact ⟨_, rfl⟩ | exact ⟨_, _, rfl⟩ | exact Nat.le_refl _ | exact Int.le_refl _ | omega | (simp only [List.length_map]; omega) | exact True.intro | (simp only [IntKind.wrap_i64, List.length_map]; omega) | (simp only [List.map_cons, List.map_nil, List.length_cons, Option.getD]; omega) | (simp only [bsz, ByteArray.size_append, List.size_toArray, List.length_cons, List.length_nil]; omega) | exact ⟨⟨_, _, rfl, rfl, Nat.le_of_ble_eq_true rfl⟩, trivial⟩ | exact ⟨⟨_, _, rfl, rfl, Nat.le_of_ble_eq_true rfl⟩, ⟨_, _, rfl, rfl, Nat.le_of_ble_eq_true rfl⟩, trivial⟩ | exact ⟨⟨_, _, rfl, rfl, Nat.le_of_ble_eq_true rfl⟩, ⟨_, _, rfl, rfl, Nat.le_of_ble_eq_true rfl⟩, ⟨_, _, rfl, rfl, Nat.le_of_ble_eq_true rfl⟩, trivial⟩) ?_; conv => whnf) | (refine ifB_intro (fun hA => ?_) (fun hA => ?_) <;> (try rw [hA]) <;> (conv => whnf) <;> (first | replace hA := of_decide_eq_true hA | replace hA := of_decide_eq_false hA | replace hA := eq_of_beq hA | replace hA := ne_of_beq_false hA | replace hA := bne_iff_ne.1 hA | replace hA := bne_eq_false_iff_eq.1 hA | skip) <;> (try simp only [List.length_map, cond_true, cond_false, Bool.not_eq_true', Bool.not_eq_false', beq_iff_eq, beq_eq_false_iff_ne, ne_eq] at hA)) | (refine CallP.det (hc) ?_; conv => whnf) | (refine CallD.det (hc) ?_; conv => whnf) | (rw [getD_map _ _ _ _ (by assumption)]; conv => whnf))
    exact ⟨i + 1, by omega, by omega, ⟨⟨rfl, rfl, rfl, rfl, AV.int_eq (i64_succ (by omega)), trivial⟩, ⟨fun o h => by rw [← h, hst]; rfl, fun o h => h, trivial⟩⟩⟩
  · have hge : i = l.length := by have : l.length ≤ i := by simpa using h2
                                  omega
    subst hge
    rw [List.take_length]
    have hq : (doF [p0, p1, p2, p3, p4, p5, p6, p7] l).length = 8 := by rw [doF_len]; exact hp
    generalize doF [p0, p1, p2, p3, p4, p5, p6, p7] l = r at *
    obtain ⟨b0, b1, b2, b3, b4, b5, b6, b7, rfl⟩ := eight hq
    conv => whnf
    repeat' (first | (refine And.intro (by first | exact rfl | decide | exact Nat.le_of_ble_eq_true rfl | exact ⟨_, rfl⟩ | exact ⟨_, _, rfl⟩ | exact Nat.le_refl _ | exact Int.le_refl _ | omega | (simp only [List.length_map]; omega) | exact True.intro | (simp only [IntKind.wrap_i64, List.length_map]; omega) | (simp only [List.map_cons, List.map_nil, List.length_cons, Option.getD]; omega) | (simp only [bsz, ByteArray.size_append, List.size_toArray, List.length_cons, List.length_nil]; omega) | exact ⟨⟨_, _, rfl, rfl, Nat.le_of_ble_eq_true rfl⟩, trivial⟩ | exact ⟨⟨_, _, rfl, rfl, Nat.le_of_ble_eq_true rfl⟩, ⟨_, _, rfl, rfl, Nat.le_of_ble_eq_true rfl⟩, trivial⟩ | exact ⟨⟨_, _, rfl, rfl, Nat.le_of_ble_eq_true rfl⟩, ⟨_, _, rfl, rfl, Nat.le_of_ble_eq_true rfl⟩, ⟨_, _, rfl, rfl, Nat.le_of_ble_eq_true rfl⟩, trivial⟩) ?_; conv => whnf) | (refine ifB_intro (fun hA => ?_) (fun hA => ?_) <;> (try rw [hA]) <;> (conv => whnf) <;> (first | replace hA := of_decide_eq_true hA | replace hA := of_decide_eq_false hA | replace hA := eq_of_beq hA | replace hA := ne_of_beq_false hA | replace hA := bne_iff_ne.1 hA | replace hA := bne_eq_false_iff_eq.1 hA | skip) <;> (try simp only [List.length_map, cond_true, cond_false, Bool.not_eq_true', Bool.not_eq_false', beq_iff_eq, beq_eq_false_iff_ne, ne_eq] at hA)) | (rw [getD_map _ _ _ _ (by assumption)]; conv => whnf))
    refine ⟨⟨[], ?_⟩⟩
    conv => whnf
    repeat' (first | (refine And.intro (by first | exact rfl | decide | exact Nat.le_of_ble_eq_true rfl | exact ⟨_, rfl⟩ | exact ⟨_, _, rfl⟩ | exact Nat.le_refl _ | exact Int.le_refl _ | omega | (simp only [List.length_map]; omega) | exact True.intro | (simp only [IntKind.wrap_i64, List.length_map]; omega) | (simp only [List.map_cons, List.map_nil, List.length_cons, Option.getD]; omega) | (simp only [bsz, ByteArray.size_append, List.size_toArray, List.length_cons, List.length_nil]; omega) | exact ⟨⟨_, _, rfl, rfl, Nat.le_of_ble_eq_true rfl⟩, trivial⟩ | exact ⟨⟨_, _, rfl, rfl, Nat.le_of_ble_eq_true rfl⟩, ⟨_, _, rfl, rfl, Nat.le_of_ble_eq_true rfl⟩, trivial⟩ | exact ⟨⟨_, _, rfl, rfl, Nat.le_of_ble_eq_true rfl⟩, ⟨_, _, rfl, rfl, Nat.le_of_ble_eq_true rfl⟩, ⟨_, _, rfl, rfl, Nat.le_of_ble_eq_true rfl⟩, trivial⟩) ?_; conv => whnf) | (refine ifB_intro (fun hA => ?_) (fun hA => ?_) <;> (try rw [hA]) <;> (conv => whnf) <;> (first | replace hA := of_decide_eq_true hA | replace hA := of_decide_eq_false hA | replace hA := eq_of_beq hA | replace hA := ne_of_beq_false hA | replace hA := bne_iff_ne.1 hA | replace hA := bne_eq_false_iff_eq.1 hA | skip) <;> (try simp only [List.length_map, cond_true, cond_false, Bool.not_eq_true', Bool.not_eq_false', beq_iff_eq, beq_eq_false_iff_ne, ne_eq] at hA)) | (rw [getD_map _ _ _ _ (by assumption)]; conv => whnf))
    rfl
theorem pat_ctr (g : GP) (p : List Nat) (hp : p.length = 8) : Ctr (ax g).E 13 [.dagg (rowU p)] [] (fun o => o = .ret (.dagg [.u16 (p.getD 0 0 : Nat), .u16 (p.getD 1 0 : Nat)]) []) := by
  obtain ⟨a0, a1, a2, a3, a4, a5, a6, a7, rfl⟩ := eight hp
  refine Ctr.body (X := ax g) _ 8 [] [.cell 2 40] Tryd.func13 rfl rfl rfl rfl (by decide +kernel) rfl rfl ?_
  conv => whnf
  repeat' (first | (refine And.intro (by first | exact rfl | decide | exact Nat.le_of_ble_eq_true rfl | exact ⟨_, rfl⟩ | exact ⟨_, _, rfl⟩ | exact Nat.le_refl _ | exact Int.le_refl _ | omega | (simp only []; omega) | exact True.intro | (simp only []; omega) | (simp only [List.length_cons]; omega) | (simp only [List.length_cons, List.length_nil]; omega) | exact ⟨⟨_, _, rfl, rfl, Nat.le_of_ble_eq_true rfl⟩, trivial⟩ | exact ⟨⟨_, _, rfl, rfl, Nat.le_of_ble_eq_true rfl⟩, ⟨_, _, rfl, rfl, Nat.le_of_ble_eq_true rfl⟩, trivial⟩ | exact ⟨⟨_, _, rfl, rfl, Nat.le_of_ble_eq_true rfl⟩, ⟨_, _, rfl, rfl, Nat.le_of_ble_eq_true rfl⟩, ⟨_, _, rfl, rfl, Nat.le_of_ble_eq_true rfl⟩, trivial⟩) ?_; conv => whnf) | (refine ifB_intro (fun hA => ?_) (fun hA => ?_) <;> (try rw [hA]) <;> (conv => whnf) <;> (first | replace hA := of_decide_eq_true hA | replace hA := of_decide_eq_false hA | replace hA := eq_of_beq hA | replace hA := ne_of_beq_false hA | replace hA := bne_iff_ne.1 hA | replace hA := bne_eq_false_iff_eq.1 hA | skip) <;> (try simp only [List.length_map, cond_true, cond_false, Bool.not_eq_true', Bool.not_eq_false', beq_iff_eq, beq_eq_false_iff_ne, ne_eq] at hA)) | (rw [getD_map _ _ _ _ (by assumption)]; conv => whnf))
  refine ⟨⟨[], ?_⟩⟩
  conv => whnf
  repeat' (first | (refine And.intro (by first | exact rfl | decide | exact Nat.le_of_ble_eq_true rfl | exact ⟨_, rfl⟩ | exact ⟨_, _, rfl⟩ | exact Nat.le_refl _ | exact Int.le_refl _ | omega | (simp only [List.length_map]; omega) | exact True.intro | (simp only [IntKind.wrap_i64, List.length_map]; omega) | (simp only [List.map_cons, List.map_nil, List.length_cons, Option.getD]; omega) | (simp only [bsz, ByteArray.size_append, List.size_toArray, List.length_cons, List.length_nil]; omega) | exact ⟨⟨_, _, rfl, rfl, Nat.le_of_ble_eq_true rfl⟩, trivial⟩ | exact ⟨⟨_, _, rfl, rfl, Nat.le_of_ble_eq_true rfl⟩, ⟨_, _, rfl, rfl, Nat.le_of_ble_eq_true rfl⟩, trivial⟩ | exact ⟨⟨_, _, rfl, rfl, Nat.le_of_ble_eq_true rfl⟩, ⟨_, _, rfl, rfl, Nat.le_of_ble_eq_true rfl⟩, ⟨_, _, rfl, rfl, Nat.le_of_ble_eq_true rfl⟩, trivial⟩) ?_; conv => whnf) | (refine ifB_intro (fun hA => ?_) (fun hA => ?_) <;> (try rw [hA]) <;> (conv => whnf) <;> (first | replace hA := of_decide_eq_true hA | replace hA := of_decide_eq_false hA | replace hA := eq_of_beq hA | replace hA := ne_of_beq_false hA | replace hA := bne_iff_ne.1 hA | replace hA := bne_eq_false_iff_eq.1 hA | skip) <;> (try simp only [List.length_map, cond_true, cond_false, Bool.not_eq_true', Bool.not_eq_false', beq_iff_eq, beq_eq_false_iff_ne, ne_eq] at hA)) | (rw [getD_map _ _ _ _ (by assumption)]; conv => whnf))
  rfl
theorem pto_ctr (g : GP) (p : List Nat) (hp : p.length = 8) (a b : Nat) : Ctr (ax g).E 14 [.dagg (rowU p), .dagg [.u16 a, .u16 b]] [] (fun o => o = .ret (.dagg (rowU ((p.set 0 a).set 1 b))) []) := by
  obtain ⟨a0, a1, a2, a3, a4, a5, a6, a7, rfl⟩ := eight hp
  refine Ctr.body (X := ax g) _ 12 [] [.cell 4 24] Tryd.func14 rfl rfl rfl rfl (by decide +kernel) rfl rfl ?_
  conv => whnf
  repeat' (first | (refine And.intro (by first | exact rfl | decide | exact Nat.le_of_ble_eq_true rfl | exact ⟨_, rfl⟩ | exact ⟨_, _, rfl⟩ | exact Nat.le_refl _ | exact Int.le_refl _ | omega | (simp only [List.length_map]; omega) | exact True.intro | (simp only [IntKind.wrap_i64, List.length_map]; omega) | (simp only [List.map_cons, List.map_nil, List.length_cons, Option.getD]; omega) | (simp only [bsz, ByteArray.size_append, List.size_toArray, List.length_cons, List.length_nil]; omega) | exact ⟨⟨_, _, rfl, rfl, Nat.le_of_ble_eq_true rfl⟩, trivial⟩ | exact ⟨⟨_, _, rfl, rfl, Nat.le_of_ble_eq_true rfl⟩, ⟨_, _, rfl, rfl, Nat.le_of_ble_eq_true rfl⟩, trivial⟩ | exact ⟨⟨_, _, rfl, rfl, Nat.le_of_ble_eq_true rfl⟩, ⟨_, _, rfl, rfl, Nat.le_of_ble_eq_true rfl⟩, ⟨_, _, rfl, rfl, Nat.le_of_ble_eq_true rfl⟩, trivial⟩) ?_; conv => whnf) | (refine ifB_intro (fun hA => ?_) (fun hA => ?_) <;> (try rw [hA]) <;> (conv => whnf) <;> (first | replace hA := of_decide_eq_true hA | replace hA := of_decide_eq_false hA | replace hA := eq_of_beq hA | replace hA := ne_of_beq_false hA | replace hA := bne_iff_ne.1 hA | replace hA := bne_eq_false_iff_eq.1 hA | skip) <;> (try simp only [List.length_map, cond_true, cond_false, Bool.not_eq_true', Bool.not_eq_false', beq_iff_eq, beq_eq_false_iff_ne, ne_eq] at hA)) | (refine DrawP.intro (X := ax g) (id := 1) B14_1 (by kernel_rfl) (by decide +kernel) ?_; conv => whnf) | (rw [getD_map _ _ _ _ (by assumption)]; conv => whnf))
  refine ⟨⟨[], ?_⟩⟩
  conv => whnf
  repeat' (first | (refine And.intro (by first | exact rfl | decide | exact Nat.le_of_ble_eq_true rfl | exact ⟨_, rfl⟩ | exact ⟨_, _, rfl⟩ | exact Nat.le_refl _ | exact Int.le_refl _ | omega | (simp only [List.length_map]; omega) | exact True.intro | (simp only [IntKind.wrap_i64, List.length_map]; omega) | (simp only [List.map_cons, List.map_nil, List.length_cons, Option.getD]; omega) | (simp only [bsz, ByteArray.size_append, List.size_toArray, List.length_cons, List.length_nil]; omega) | exact ⟨⟨_, _, rfl, rfl, Nat.le_of_ble_eq_true rfl⟩, trivial⟩ | exact ⟨⟨_, _, rfl, rfl, Nat.le_of_ble_eq_true rfl⟩, ⟨_, _, rfl, rfl, Nat.le_of_ble_eq_true rfl⟩, trivial⟩ | exact ⟨⟨_, _, rfl, rfl, Nat.le_of_ble_eq_true rfl⟩, ⟨_, _, rfl, rfl, Nat.le_of_ble_eq_true rfl⟩, ⟨_, _, rfl, rfl, Nat.le_of_ble_eq_true rfl⟩, trivial⟩) ?_; conv => whnf) | (refine ifB_intro (fun hA => ?_) (fun hA => ?_) <;> (try rw [hA]) <;> (conv => whnf) <;> (first | replace hA := of_decide_eq_true hA | replace hA := of_decide_eq_false hA | replace hA := eq_of_beq hA | replace hA := ne_of_beq_false hA | replace hA := bne_iff_ne.1 hA | replace hA := bne_eq_false_iff_eq.1 hA | skip) <;> (try simp only [List.length_map, cond_true, cond_false, Bool.not_eq_true', Bool.not_eq_false', beq_iff_eq, beq_eq_false_iff_ne, ne_eq] at hA)) | (rw [getD_map _ _ _ _ (by assumption)]; conv => whnf))
  rfl
theorem refwithp_ctr (g : GP) (p : List Nat) (hp : p.length = 8) (f : Int) (n : Nat) : Ctr (ax g).E 16 [.dagg (rowU p), .i64 f, .d (.v (.int .u16 n))] [] (fun o => o = .ret (.dagg (rowU (withI p f n))) []) := by
  by_cases h : isK f = true
  · obtain ⟨i, rfl, hi⟩ := isK_nat h
    have hl : (rowU p).length = 8 := by rw [rowU_len]; exact hp
    have hs : splice (rowU p) [D.v (.int .u16 (n : Int))] (0 + ((i : Nat) : Int).toNat * 1) = rowU (p.set i n) := by
      rw [show 0 + ((i : Nat) : Int).toNat * 1 = i from by omega, splice_one _ _ _ (by omega), rowU, rowU, List.map_set]; rfl
    have hct := rowU_cut (p.set i n) (by simpa using hp)
    rw [withI, if_pos h]
    have e : (i : Int).toNat = i := by omega
    rw [e]
    obtain ⟨a0, a1, a2, a3, a4, a5, a6, a7, rfl⟩ := eight hp
    refine Ctr.body (X := ax g) _ 17 [] [.cell 6 24] Tryd.func16 rfl rfl rfl rfl (by decide +kernel) rfl rfl ?_
    conv => whnf
    have hl2 : 0 + 8 ≤ (splice (rowU [a0, a1, a2, a3, a4, a5, a6, a7]) [D.v (.int .u16 (n : Int))] (0 + ((i : Nat) : Int).toNat * 1)).length := by rw [hs, rowU_len]; simp
    have hl3 : (cut 0 8 (splice (rowU [a0, a1, a2, a3, a4, a5, a6, a7]) [D.v (.int .u16 (n : Int))] (0 + ((i : Nat) : Int).toNat * 1))).length = 8 := by rw [hs, hct, rowU_len]; simp
    repeat' (first | (refine And.intro (by first | exact rfl | decide | exact Nat.le_of_ble_eq_true rfl | exact ⟨_, rfl⟩ | exact ⟨_, _, rfl⟩ | exact Nat.le_refl _ | exact Int.le_refl _ | omega | (simp only []; omega) | exact True.intro | (simp only [IntKind.wrap_i64, List.length_map]; omega) | (simp only [List.map_cons, List.map_nil, List.length_cons, Option.getD]; omega) | (simp only [bsz, ByteArray.size_append, List.size_toArray, List.length_cons, List.length_nil]; omega) | exact ⟨⟨_, _, rfl, rfl, Nat.le_of_ble_eq_true rfl⟩, trivial⟩ | exact ⟨⟨_, _, rfl, rfl, Nat.le_of_ble_eq_true rfl⟩, ⟨_, _, rfl, rfl, Nat.le_of_ble_eq_true rfl⟩, trivial⟩ | exact ⟨⟨_, _, rfl, rfl, Nat.le_of_ble_eq_true rfl⟩, ⟨_, _, rfl, rfl, Nat.le_of_ble_eq_true rfl⟩, ⟨_, _, rfl, rfl, Nat.le_of_ble_eq_true rfl⟩, trivial⟩) ?_; conv => whnf) | (refine ifB_intro (fun hA => ?_) (fun hA => ?_) <;> (try rw [hA]) <;> (conv => whnf) <;> (first | replace hA := of_decide_eq_true hA | replace hA := of_decide_eq_false hA | replace hA := eq_of_beq hA | replace hA := ne_of_beq_false hA | replace hA := bne_iff_ne.1 hA | replace hA := bne_eq_false_iff_eq.1 hA | skip) <;> (try simp only [List.length_map, cond_true, cond_false, Bool.not_eq_true', Bool.not_eq_false', beq_iff_eq, beq_eq_false_iff_ne, ne_eq] at hA)) | (exfalso; omega) | (refine And.intro (show 0 + ((i : Nat) : Int).toNat * 1 + 1 ≤ 8 by omega) ?_; conv => whnf) | (refine And.intro hl2 ?_; conv => whnf) | (refine And.intro hl3 ?_; conv => whnf) | (rw [getD_map _ _ _ _ (by assumption)]; conv => whnf))
    refine ⟨⟨[], ?_⟩⟩
    conv => whnf
    repeat' (first | (refine And.intro (by first | exact rfl | decide | exact Nat.le_of_ble_eq_true rfl | exact ⟨_, rfl⟩ | exact ⟨_, _, rfl⟩ | exact Nat.le_refl _ | exact Int.le_refl _ | omega | (simp only []; omega) | exact True.intro | (simp only [IntKind.wrap_i64, List.length_map]; omega) | (simp only [List.map_cons, List.map_nil, List.length_cons, Option.getD]; omega) | (simp only [bsz, ByteArray.size_append, List.size_toArray, List.length_cons, List.length_nil]; omega) | exact ⟨⟨_, _, rfl, rfl, Nat.le_of_ble_eq_true rfl⟩, trivial⟩ | exact ⟨⟨_, _, rfl, rfl, Nat.le_of_ble_eq_true rfl⟩, ⟨_, _, rfl, rfl, Nat.le_of_ble_eq_true rfl⟩, trivial⟩ | exact ⟨⟨_, _, rfl, rfl, Nat.le_of_ble_eq_true rfl⟩, ⟨_, _, rfl, rfl, Nat.le_of_ble_eq_true rfl⟩, ⟨_, _, rfl, rfl, Nat.le_of_ble_eq_true rfl⟩, trivial⟩) ?_; conv => whnf) | (refine ifB_intro (fun hA => ?_) (fun hA => ?_) <;> (try rw [hA]) <;> (conv => whnf) <;> (first | replace hA := of_decide_eq_true hA | replace hA := of_decide_eq_false hA | replace hA := eq_of_beq hA | replace hA := ne_of_beq_false hA | replace hA := bne_iff_ne.1 hA | replace hA := bne_eq_false_iff_eq.1 hA | skip) <;> (try simp only [List.length_map, cond_true, cond_false, Bool.not_eq_true', Bool.not_eq_false', beq_iff_eq, beq_eq_false_iff_ne, ne_eq] at hA)) | (refine And.intro (show 0 + 8 ≤ _ from by rw [hl3]) ?_; conv => whnf) | (rw [getD_map _ _ _ _ (by assumption)]; conv => whnf))
    show AOut.ret (.dagg (cut 0 8 (cut 0 8 (splice (rowU [a0, a1, a2, a3, a4, a5, a6, a7]) [D.v (.int .u16 (n : Int))] (0 + ((i : Nat) : Int).toNat * 1))))) [] = _
    rw [hs, hct, hct]
  · rw [withI, if_neg h]
    have hct := rowU_cut p hp
    obtain ⟨a0, a1, a2, a3, a4, a5, a6, a7, rfl⟩ := eight hp
    have h : ¬ (0 ≤ f ∧ f < 8) := fun e => h (by simp [isK]; omega)
    refine Ctr.body (X := ax g) _ 17 [] [.cell 6 24] Tryd.func16 rfl rfl rfl rfl (by decide +kernel) rfl rfl ?_
    conv => whnf
    repeat' (first | (refine And.intro (by first | exact rfl | decide | exact Nat.le_of_ble_eq_true rfl | exact ⟨_, rfl⟩ | exact ⟨_, _, rfl⟩ | exact Nat.le_refl _ | exact Int.le_refl _ | omega | (simp only [List.length_map]; omega) | exact True.intro | (simp only [IntKind.wrap_i64, List.length_map]; omega) | (simp only [List.map_cons, List.map_nil, List.length_cons, Option.getD]; omega) | (simp only [bsz, ByteArray.size_append, List.size_toArray, List.length_cons, List.length_nil]; omega) | exact ⟨⟨_, _, rfl, rfl, Nat.le_of_ble_eq_true rfl⟩, trivial⟩ | exact ⟨⟨_, _, rfl, rfl, Nat.le_of_ble_eq_true rfl⟩, ⟨_, _, rfl, rfl, Nat.le_of_ble_eq_true rfl⟩, trivial⟩ | exact ⟨⟨_, _, rfl, rfl, Nat.le_of_ble_eq_true rfl⟩, ⟨_, _, rfl, rfl, Nat.le_of_ble_eq_true rfl⟩, ⟨_, _, rfl, rfl, Nat.le_of_ble_eq_true rfl⟩, trivial⟩) ?_; conv => whnf) | (refine ifB_intro (fun hA => ?_) (fun hA => ?_) <;> (try rw [hA]) <;> (conv => whnf) <;> (first | replace hA := of_decide_eq_true hA | replace hA := of_decide_eq_false hA | replace hA := eq_of_beq hA | replace hA := ne_of_beq_false hA | replace hA := bne_iff_ne.1 hA | replace hA := bne_eq_false_iff_eq.1 hA | skip) <;> (try simp only [List.length_map, cond_true, cond_false, Bool.not_eq_true', Bool.not_eq_false', beq_iff_eq, beq_eq_false_iff_ne, ne_eq] at hA)) | (exfalso; omega) | (rw [getD_map _ _ _ _ (by assumption)]; conv => whnf))
    all_goals
      refine ⟨⟨[], ?_⟩⟩
      conv => whnf
      repeat' (first | (refine And.intro (by first | exact rfl | decide | exact Nat.le_of_ble_eq_true rfl | exact ⟨_, rfl⟩ | exact ⟨_, _, rfl⟩ | exact Nat.le_refl _ | exact Int.le_refl _ | omega | (simp only [List.length_map]; omega) | exact True.intro | (simp only [IntKind.wrap_i64, List.length_map]; omega) | (simp only [List.map_cons, List.map_nil, List.length_cons, Option.getD]; omega) | (simp only [bsz, ByteArray.size_append, List.size_toArray, List.length_cons, List.length_nil]; omega) | exact ⟨⟨_, _, rfl, rfl, Nat.le_of_ble_eq_true rfl⟩, trivial⟩ | exact ⟨⟨_, _, rfl, rfl, Nat.le_of_ble_eq_true rfl⟩, ⟨_, _, rfl, rfl, Nat.le_of_ble_eq_true rfl⟩, trivial⟩ | exact ⟨⟨_, _, rfl, rfl, Nat.le_of_ble_eq_true rfl⟩, ⟨_, _, rfl, rfl, Nat.le_of_ble_eq_true rfl⟩, ⟨_, _, rfl, rfl, Nat.le_of_ble_eq_true rfl⟩, trivial⟩) ?_; conv => whnf) | (refine ifB_intro (fun hA => ?_) (fun hA => ?_) <;> (try rw [hA]) <;> (conv => whnf) <;> (first | replace hA := of_decide_eq_true hA | replace hA := of_decide_eq_false hA | replace hA := eq_of_beq hA | replace hA := ne_of_beq_false hA | replace hA := bne_iff_ne.1 hA | replace hA := bne_eq_false_iff_eq.1 hA | skip) <;> (try simp only [List.length_map, cond_true, cond_false, Bool.not_eq_true', Bool.not_eq_false', beq_iff_eq, beq_eq_false_iff_ne, ne_eq] at hA)) | (rw [getD_map _ _ _ _ (by assumption)]; conv => whnf))
      rfl
theorem refdo_ctr (g : GP) (p : List Nat) (hp : p.length = 8) (b : Bool) (l : List (Int × Int)) (hl : l.length < 2 ^ 62) (hu : ∀ x ∈ l, 0 ≤ x.2) : Ctr (ax g).E 18 [.dagg (rowU p), .d (.sl b 2 (l.map rowPr))] [] (fun o => o = .ret (.dagg (rowU (doF p l))) []) := by
  obtain ⟨p0, p1, p2, p3, p4, p5, p6, p7, rfl⟩ := eight hp
  refine Ctr.body (X := ax g) _ 25 [] [.cell 4 24] Tryd.func18 rfl rfl rfl rfl (by decide +kernel) rfl rfl ?_
  conv => whnf
  repeat' (first | (refine And.intro (by first | exact rfl | decide | exact Nat.le_of_ble_eq_true rfl | exact ⟨_, rfl⟩ | exact ⟨_, _, rfl⟩ | exact Nat.le_refl _ | exact Int.le_refl _ | omega | (simp only [List.length_map]; omega) | exact True.intro | (simp only [IntKind.wrap_i64, List.length_map]; omega) | (simp only [List.map_cons, List.map_nil, List.length_cons, Option.getD]; omega) | (simp only [bsz, ByteArray.size_append, List.size_toArray, List.length_cons, List.length_nil]; omega) | exact ⟨⟨_, _, rfl, rfl, Nat.le_of_ble_eq_true rfl⟩, trivial⟩ | exact ⟨⟨_, _, rfl, rfl, Nat.le_of_ble_eq_true rfl⟩, ⟨_, _, rfl, rfl, Nat.le_of_ble_eq_true rfl⟩, trivial⟩ | exact ⟨⟨_, _, rfl, rfl, Nat.le_of_ble_eq_true rfl⟩, ⟨_, _, rfl, rfl, Nat.le_of_ble_eq_true rfl⟩, ⟨_, _, rfl, rfl, Nat.le_of_ble_eq_true rfl⟩, trivial⟩) ?_; conv => whnf) | (refine ifB_intro (fun hA => ?_) (fun hA => ?_) <;> (try rw [hA]) <;> (conv => whnf) <;> (first | replace hA := of_decide_eq_true hA | replace hA := of_decide_eq_false hA | replace hA := eq_of_beq hA | replace hA := ne_of_beq_false hA | replace hA := bne_iff_ne.1 hA | replace hA := bne_eq_false_iff_eq.1 hA | skip) <;> (try simp only [List.length_map, cond_true, cond_false, Bool.not_eq_true', Bool.not_eq_false', beq_iff_eq, beq_eq_false_iff_ne, ne_eq] at hA)) | (rw [getD_map _ _ _ _ (by assumption)]; conv => whnf))
  refine LoopP.inv (X := ax g) (fun i : Nat => { f := [(1, .d (.sl b 2 (l.map rowPr))), (2, .ptr 2 0), (4, .ptr 4 0), (5, .i64 i)], h := [(2, some (.dvar 8 (rowU (doF [p0, p1, p2, p3, p4, p5, p6, p7] (l.take i))))), (4, some (.dvar 8 (rowU zeroP)))] }) (fun i => i ≤ l.length) (fun i => l.length - i) 0 (Nat.zero_le _) ⟨⟨rfl, rfl, rfl, rfl, trivial⟩, ⟨fun o h => h, fun o h => h, trivial⟩⟩ fun i hi => ?_
  conv => whnf
  refine ifB_intro (fun h2 => ?_) (fun h2 => ?_)
  · have hlt : i < l.length := by
      have h0 := of_decide_eq_true h2
      rw [List.length_map] at h0
      omega
    have hx := hu l[i] (List.getElem_mem hlt)
    have hst : doF [p0, p1, p2, p3, p4, p5, p6, p7] (l.take (i + 1)) = withI (doF [p0, p1, p2, p3, p4, p5, p6, p7] (l.take i)) l[i].1 l[i].2.toNat := by
      rw [List.take_succ_eq_append_getElem hlt, doF, List.foldl_append]; rfl
    have hq : (doF [p0, p1, p2, p3, p4, p5, p6, p7] (l.take i)).length = 8 := by rw [doF_len]; exact hp
    have hc := refwithp_ctr g (doF [p0, p1, p2, p3, p4, p5, p6, p7] (l.take i)) hq l[i].1 l[i].2.toNat
    have hq2 : (withI (doF [p0, p1, p2, p3, p4, p5, p6, p7] (l.take i)) l[i].1 l[i].2.toNat).length = 8 := by rw [withI_len]; exact hq
    rw [Int.toNat_of_nonneg hx] at hc
    have hrow : rowPr l[i] = [.i64 l[i].1, .u16 l[i].2] := rfl
    generalize doF [p0, p1, p2, p3, p4, p5, p6, p7] (l.take i) = q at *
    obtain ⟨a0, a1, a2, a3, a4, a5, a6, a7, rfl⟩ := eight hq
    generalize withI [a0, a1, a2, a3, a4, a5, a6, a7] l[i].1 l[i].2.toNat = r at *
    obtain ⟨b0, b1, b2, b3, b4, b5, b6, b7, rfl⟩ := eight hq2
    conv => whnf
    repeat' (first | (refine And.intro (by first | exact rfl | decide | exact Nat.le_of_ble_eq_true rfl | exact ⟨_, rfl⟩ | exact ⟨_, _, rfl⟩ | exact Nat.le_refl _ | exact Int.le_refl _ | omega | (simp only [List.length_map]; omega) | exact True.intro | (simp only []; omega) | (simp only []; omega) | (simp only []; omega) | exact ⟨⟨_, _, rfl, rfl, Nat.le_of_ble_eq_true rfl⟩, trivial⟩ | exact ⟨⟨_, _, rfl, rfl, Nat.le_of_ble_eq_true rfl⟩, ⟨_, _, rfl, rfl, Nat.le_of_ble_eq_true rfl⟩, trivial⟩ | exact ⟨⟨_, _, rfl, rfl, Nat.le_of_ble_eq_true rfl⟩, ⟨_, _, rfl, rfl, Nat.le_of_ble_eq_true rfl⟩, ⟨_, _, rfl, rfl, Nat.le_of_ble_eq_true rfl⟩, trivial⟩) ?_; conv => whnf) | (refine ifB_intro (fun hA => ?_) (fun hA => ?_) <;> (try rw [hA]) <;> (conv => whnf) <;> (first | replace hA := of_decide_eq_true hA | replace hA := of_decide_eq_false hA | replace hA := eq_of_beq hA | replace hA := ne_of_beq_false hA | replace hA := bne_iff_ne.1 hA | replace hA := bne_eq_false_iff_eq.1 hA | skip) <;> (try simp only [List.length_map, cond_true, cond_false, Bool.not_eq_true', Bool.not_eq_false', beq_iff_eq, beq_eq_false_iff_ne, ne_eq] at hA)) | (refine CallP.det (hc) ?_; conv => whnf) | (refine CallD.det (hc) ?_; conv => whnf) | (refine DrawP.intro (X := ax g) (id := 4) B18_4 (by kernel_rfl) (by decide +kernel) ?_; conv => whnf) | (rw [hrow]; conv => whnf) | (rw [getD_map _ _ _ _ (by assumption)]; conv => whnf))
    exact ⟨i + 1, by omega, by omega, ⟨⟨rfl, rfl, rfl, AV.int_eq (i64_succ (by omega)), trivial⟩, ⟨fun o h => by rw [← h, hst]; rfl, fun o h => h, trivial⟩⟩⟩
  · have hge : i = l.length := by
      have h0 := of_decide_eq_false h2
      rw [List.length_map] at h0
      omega
    subst hge
    rw [List.take_length]
    have hq : (doF [p0, p1, p2, p3, p4, p5, p6, p7] l).length = 8 := by rw [doF_len]; exact hp
    generalize doF [p0, p1, p2, p3, p4, p5, p6, p7] l = r at *
    obtain ⟨b0, b1, b2, b3, b4, b5, b6, b7, rfl⟩ := eight hq
    conv => whnf
    repeat' (first | (refine And.intro (by first | exact rfl | decide | exact Nat.le_of_ble_eq_true rfl | exact ⟨_, rfl⟩ | exact ⟨_, _, rfl⟩ | exact Nat.le_refl _ | exact Int.le_refl _ | omega | (simp only [List.length_map]; omega) | exact True.intro | (simp only [IntKind.wrap_i64, List.length_map]; omega) | (simp only [List.map_cons, List.map_nil, List.length_cons, Option.getD]; omega) | (simp only [bsz, ByteArray.size_append, List.size_toArray, List.length_cons, List.length_nil]; omega) | exact ⟨⟨_, _, rfl, rfl, Nat.le_of_ble_eq_true rfl⟩, trivial⟩ | exact ⟨⟨_, _, rfl, rfl, Nat.le_of_ble_eq_true rfl⟩, ⟨_, _, rfl, rfl, Nat.le_of_ble_eq_true rfl⟩, trivial⟩ | exact ⟨⟨_, _, rfl, rfl, Nat.le_of_ble_eq_true rfl⟩, ⟨_, _, rfl, rfl, Nat.le_of_ble_eq_true rfl⟩, ⟨_, _, rfl, rfl, Nat.le_of_ble_eq_true rfl⟩, trivial⟩) ?_; conv => whnf) | (refine ifB_intro (fun hA => ?_) (fun hA => ?_) <;> (try rw [hA]) <;> (conv => whnf) <;> (first | replace hA := of_decide_eq_true hA | replace hA := of_decide_eq_false hA | replace hA := eq_of_beq hA | replace hA := ne_of_beq_false hA | replace hA := bne_iff_ne.1 hA | replace hA := bne_eq_false_iff_eq.1 hA | skip) <;> (try simp only [List.length_map, cond_true, cond_false, Bool.not_eq_true', Bool.not_eq_false', beq_iff_eq, beq_eq_false_iff_ne, ne_eq] at hA)) | (rw [getD_map _ _ _ _ (by assumption)]; conv => whnf))
    refine ⟨⟨[], ?_⟩⟩
    conv => whnf
    repeat' (first | (refine And.intro (by first | exact rfl | decide | exact Nat.le_of_ble_eq_true rfl | exact ⟨_, rfl⟩ | exact ⟨_, _, rfl⟩ | exact Nat.le_refl _ | exact Int.le_refl _ | omega | (simp only [List.length_map]; omega) | exact True.intro | (simp only [IntKind.wrap_i64, List.length_map]; omega) | (simp only [List.map_cons, List.map_nil, List.length_cons, Option.getD]; omega) | (simp only [bsz, ByteArray.size_append, List.size_toArray, List.length_cons, List.length_nil]; omega) | exact ⟨⟨_, _, rfl, rfl, Nat.le_of_ble_eq_true rfl⟩, trivial⟩ | exact ⟨⟨_, _, rfl, rfl, Nat.le_of_ble_eq_true rfl⟩, ⟨_, _, rfl, rfl, Nat.le_of_ble_eq_true rfl⟩, trivial⟩ | exact ⟨⟨_, _, rfl, rfl, Nat.le_of_ble_eq_true rfl⟩, ⟨_, _, rfl, rfl, Nat.le_of_ble_eq_true rfl⟩, ⟨_, _, rfl, rfl, Nat.le_of_ble_eq_true rfl⟩, trivial⟩) ?_; conv => whnf) | (refine ifB_intro (fun hA => ?_) (fun hA => ?_) <;> (try rw [hA]) <;> (conv => whnf) <;> (first | replace hA := of_decide_eq_true hA | replace hA := of_decide_eq_false hA | replace hA := eq_of_beq hA | replace hA := ne_of_beq_false hA | replace hA := bne_iff_ne.1 hA | replace hA := bne_eq_false_iff_eq.1 hA | skip) <;> (try simp only [List.length_map, cond_true, cond_false, Bool.not_eq_true', Bool.not_eq_false', beq_iff_eq, beq_eq_false_iff_ne, ne_eq] at hA)) | (rw [getD_map _ _ _ _ (by assumption)]; conv => whnf))
    rfl
theorem refhasp_ctr (g : GP) (p : List Nat) (hp : p.length = 8) (b : Bool) (l : List (Int × Int)) (hl : l.length < 2 ^ 62) : Ctr (ax g).E 17 [.dagg (rowU p), .d (.sl b 2 (l.map rowPr))] [] (fun o => o = .ret (.bool (hasF p l)) []) := by
  have h8 : (rowU p).length = 8 := by rw [rowU_len]; exact hp
  obtain ⟨p0, p1, p2, p3, p4, p5, p6, p7, rfl⟩ := eight hp
  refine Ctr.body (X := ax g) _ 41 [] [.tmp 4] Tryd.func17 rfl rfl rfl rfl (by decide +kernel) rfl rfl ?_
  conv => whnf
  repeat' (first | (refine And.intro (by first | exact rfl | decide | exact Nat.le_of_ble_eq_true rfl | exact ⟨_, rfl⟩ | exact ⟨_, _, rfl⟩ | exact Nat.le_refl _ | exact Int.le_refl _ | omega | (simp only [List.length_map]; omega) | exact True.intro | (simp only [IntKind.wrap_i64, List.length_map]; omega) | (simp only [List.map_cons, List.map_nil, List.length_cons, Option.getD]; omega) | (simp only [bsz, ByteArray.size_append, List.size_toArray, List.length_cons, List.length_nil]; omega) | exact ⟨⟨_, _, rfl, rfl, Nat.le_of_ble_eq_true rfl⟩, trivial⟩ | exact ⟨⟨_, _, rfl, rfl, Nat.le_of_ble_eq_true rfl⟩, ⟨_, _, rfl, rfl, Nat.le_of_ble_eq_true rfl⟩, trivial⟩ | exact ⟨⟨_, _, rfl, rfl, Nat.le_of_ble_eq_true rfl⟩, ⟨_, _, rfl, rfl, Nat.le_of_ble_eq_true rfl⟩, ⟨_, _, rfl, rfl, Nat.le_of_ble_eq_true rfl⟩, trivial⟩) ?_; conv => whnf) | (refine ifB_intro (fun hA => ?_) (fun hA => ?_) <;> (try rw [hA]) <;> (conv => whnf) <;> (first | replace hA := of_decide_eq_true hA | replace hA := of_decide_eq_false hA | replace hA := eq_of_beq hA | replace hA := ne_of_beq_false hA | replace hA := bne_iff_ne.1 hA | replace hA := bne_eq_false_iff_eq.1 hA | skip) <;> (try simp only [List.length_map, cond_true, cond_false, Bool.not_eq_true', Bool.not_eq_false', beq_iff_eq, beq_eq_false_iff_ne, ne_eq] at hA)) | (rw [getD_map _ _ _ _ (by assumption)]; conv => whnf))
  refine LoopP.inv (X := ax g) (fun i : Nat => { f := [(1, .d (.sl b 2 (l.map rowPr))), (2, .ptr 2 0), (4, .bool false), (5, .i64 i)], h := [(2, some (.dvar 8 (rowU [p0, p1, p2, p3, p4, p5, p6, p7])))] }) (fun i => i ≤ l.length ∧ hasF [p0, p1, p2, p3, p4, p5, p6, p7] l = hasF [p0, p1, p2, p3, p4, p5, p6, p7] (l.drop i)) (fun i => l.length - i) 0 ⟨Nat.zero_le _, rfl⟩ ⟨⟨rfl, rfl, rfl, rfl, trivial⟩, ⟨fun o h => h, trivial⟩⟩ fun i ⟨hi, he⟩ => ?_
  conv => whnf
  refine ifB_intro (fun h2 => ?_) (fun h2 => ?_)
  · have hlt : i < l.length := by
      have h0 := of_decide_eq_true h2
      rw [List.length_map] at h0
      omega
    have hst : hasF [p0, p1, p2, p3, p4, p5, p6, p7] (l.drop i) = (okF [p0, p1, p2, p3, p4, p5, p6, p7] l[i] && hasF [p0, p1, p2, p3, p4, p5, p6, p7] (l.drop (i + 1))) := by
      rw [List.drop_eq_getElem_cons hlt]; rfl
    have hrow : rowPr l[i] = [.i64 l[i].1, .u16 l[i].2] := rfl
    cases hk : isK l[i].1 with
    | false =>
      have ho : okF [p0, p1, p2, p3, p4, p5, p6, p7] l[i] = false := by unfold okF; rw [hk]; rfl
      rw [ho, Bool.false_and] at hst
      have hk2 : ¬ (0 ≤ l[i].1 ∧ l[i].1 < 8) := fun e => by simp [isK] at hk; omega
      conv => whnf
      repeat' (first | (refine And.intro (by first | exact rfl | decide | exact Nat.le_of_ble_eq_true rfl | exact ⟨_, rfl⟩ | exact ⟨_, _, rfl⟩ | exact Nat.le_refl _ | exact Int.le_refl _ | omega | (simp only [List.length_map]; omega) | exact True.intro | (simp only []; omega) | (simp only []; omega) | (simp only []; omega) | exact ⟨⟨_, _, rfl, rfl, Nat.le_of_ble_eq_true rfl⟩, trivial⟩ | exact ⟨⟨_, _, rfl, rfl, Nat.le_of_ble_eq_true rfl⟩, ⟨_, _, rfl, rfl, Nat.le_of_ble_eq_true rfl⟩, trivial⟩ | exact ⟨⟨_, _, rfl, rfl, Nat.le_of_ble_eq_true rfl⟩, ⟨_, _, rfl, rfl, Nat.le_of_ble_eq_true rfl⟩, ⟨_, _, rfl, rfl, Nat.le_of_ble_eq_true rfl⟩, trivial⟩) ?_; conv => whnf) | (refine ifB_intro (fun hA => ?_) (fun hA => ?_) <;> (try rw [hA]) <;> (conv => whnf) <;> (first | replace hA := of_decide_eq_true hA | replace hA := of_decide_eq_false hA | replace hA := eq_of_beq hA | replace hA := ne_of_beq_false hA | replace hA := bne_iff_ne.1 hA | replace hA := bne_eq_false_iff_eq.1 hA | skip) <;> (try simp only [List.length_map, cond_true, cond_false, Bool.not_eq_true', Bool.not_eq_false', beq_iff_eq, beq_eq_false_iff_ne, ne_eq] at hA)) | (refine DrawP.intro (X := ax g) (id := 4) B17_4 (by kernel_rfl) (by decide +kernel) ?_; conv => whnf) | (rw [hrow]; conv => whnf) | (exfalso; omega) | (rw [getD_map _ _ _ _ (by assumption)]; conv => whnf))
      all_goals
        refine ⟨⟨[], ?_⟩⟩
        conv => whnf
        rw [he, hst]
    | true =>
      obtain ⟨j, hj, hj8⟩ := isK_nat hk
      have ho : okF [p0, p1, p2, p3, p4, p5, p6, p7] l[i] = decide ((([p0, p1, p2, p3, p4, p5, p6, p7].getD j 0 : Nat) : Int) = l[i].2) := by unfold okF; rw [hk, hj]; rfl
      rw [ho] at hst
      have hg0 : (rowU [p0, p1, p2, p3, p4, p5, p6, p7]).getD (0 + l[i].1.toNat * 1) (.v undef) = .v (.int .u16 (([p0, p1, p2, p3, p4, p5, p6, p7].getD j 0 : Nat) : Int)) := by rw [← rowU_get [p0, p1, p2, p3, p4, p5, p6, p7] j (by simpa using hj8)]; congr 1; omega
      rw [hj] at hrow
      conv => whnf
      repeat' (first | (refine And.intro (by first | exact rfl | decide | exact Nat.le_of_ble_eq_true rfl | exact ⟨_, rfl⟩ | exact ⟨_, _, rfl⟩ | exact Nat.le_refl _ | exact Int.le_refl _ | omega | (simp only [List.length_map]; omega) | exact True.intro | (simp only []; omega) | (simp only []; omega) | (simp only []; omega) | exact ⟨⟨_, _, rfl, rfl, Nat.le_of_ble_eq_true rfl⟩, trivial⟩ | exact ⟨⟨_, _, rfl, rfl, Nat.le_of_ble_eq_true rfl⟩, ⟨_, _, rfl, rfl, Nat.le_of_ble_eq_true rfl⟩, trivial⟩ | exact ⟨⟨_, _, rfl, rfl, Nat.le_of_ble_eq_true rfl⟩, ⟨_, _, rfl, rfl, Nat.le_of_ble_eq_true rfl⟩, ⟨_, _, rfl, rfl, Nat.le_of_ble_eq_true rfl⟩, trivial⟩) ?_; conv => whnf) | (refine ifB_intro (fun hA => ?_) (fun hA => ?_) <;> (try rw [hA]) <;> (conv => whnf) <;> (first | replace hA := of_decide_eq_true hA | replace hA := of_decide_eq_false hA | replace hA := eq_of_beq hA | replace hA := ne_of_beq_false hA | replace hA := bne_iff_ne.1 hA | replace hA := bne_eq_false_iff_eq.1 hA | skip) <;> (try simp only [ne_eq] at hA)) | (refine DrawP.intro (X := ax g) (id := 4) B17_4 (by kernel_rfl) (by decide +kernel) ?_; conv => whnf) | (rw [hrow]; conv => whnf) | (exfalso; omega) | (refine And.intro (show 0 + ((j : Nat) : Int).toNat * 1 + 1 ≤ (rowU [p0, p1, p2, p3, p4, p5, p6, p7]).length by omega) ?_; conv => whnf) | (erw [hg0]; conv => whnf) | (rw [getD_map _ _ _ _ (by assumption)]; conv => whnf))
      · refine ⟨⟨[], ?_⟩⟩
        conv => whnf
        rw [he, hst, decide_eq_false hA]; rfl
      · rw [decide_eq_true (by omega), Bool.true_and] at hst
        exact ⟨i + 1, ⟨by omega, by rw [he, hst]⟩, by omega, ⟨⟨rfl, rfl, rfl, AV.int_eq (i64_succ (by omega)), trivial⟩, ⟨fun o h => h, trivial⟩⟩⟩
  · have hge : i = l.length := by
      have h0 := of_decide_eq_false h2
      rw [List.length_map] at h0
      omega
    subst hge
    rw [List.drop_length] at he
    conv => whnf
    refine ⟨⟨[], ?_⟩⟩
    conv => whnf
    rw [he]; rfl
end Go.Ax

namespace Go.Ax
open Go.Proofs Go.RowKit Go.Shelf Go.Lib
set_option maxRecDepth 10000
def stepK (s : List Nat × List Nat) : List UInt8 → Option (List Nat × List Nat)
  | [] => some s
  | c :: w => match wordK (c :: w) with
    | none => none
    | some (i, n) => if s.2.contains i then none else some (s.1.set i n, s.2 ++ [i])
def runK : List (List UInt8) → List Nat × List Nat → Option (List Nat × List Nat)
  | [], s => some s
  | x :: r, s => match stepK s x with
    | none => none
    | some s' => runK r s'
theorem readK_run : ∀ (l : List (List UInt8)) (s : List Nat × List Nat), readK l s.1 s.2 = (runK l s).map Prod.fst
  | [], s => rfl
  | [] :: r, s => by rw [readK, runK, stepK]; exact readK_run r s
  | (c :: w) :: r, s => by
    rw [readK, runK, stepK]
    cases h : wordK (c :: w) with
    | none => rfl
    | some x =>
      obtain ⟨i, n⟩ := x
      dsimp only
      by_cases hc : s.2.contains i = true
      · rw [if_pos hc, if_pos hc]; rfl
      · rw [if_neg hc, if_neg hc]; exact readK_run r (s.1.set i n, s.2 ++ [i])
theorem runK_app : ∀ (a b : List (List UInt8)) (s : List Nat × List Nat), runK (a ++ b) s = (runK a s).bind (runK b)
  | [], b, s => rfl
  | x :: r, b, s => by
    rw [List.cons_append, runK, runK]
    cases stepK s x with
    | none => rfl
    | some s' => exact runK_app r b s'
theorem runK_snoc (a : List (List UInt8)) (x : List UInt8) (s : List Nat × List Nat) : runK (a ++ [x]) s = (runK a s).bind fun s' => stepK s' x := by
  rw [runK_app]
  cases runK a s with
  | none => rfl
  | some s' =>
    show runK [x] s' = stepK s' x
    rw [runK]
    cases stepK s' x <;> rfl
structure StOk (s : List Nat × List Nat) : Prop where
  len : s.1.length = 8
  lt : ∀ i, i < 8 → s.1.getD i 0 < 65536
  nd : s.2.Nodup
  seen : ∀ i ∈ s.2, i < 8
theorem StOk.step {s t : List Nat × List Nat} {x : List UInt8} (h : StOk s) (e : stepK s x = some t) : StOk t := by
  cases x with
  | nil => rw [stepK] at e; injection e with e; subst e; exact h
  | cons c w =>
    rw [stepK] at e
    split at e
    · simp at e
    · rename_i i n hw
      split at e
      · simp at e
      · rename_i hc
        injection e with e
        subst e
        obtain ⟨h1, h2⟩ := wordK_lt hw
        refine ⟨by simp [h.len], fun j hj => ?_, ?_, fun j hj => ?_⟩
        · by_cases hij : i = j
          · subst hij
            have : i < s.1.length := by rw [h.len]; exact h1
            simpa [List.getD, List.getElem?_set, this] using h2
          · have := h.lt j hj
            simpa [List.getD, List.getElem?_set, hij] using this
        · rw [List.nodup_append]
          refine ⟨h.nd, by simp, fun a ha b hb => ?_⟩
          simp only [List.mem_singleton] at hb
          subst hb
          intro e
          subst e
          exact hc (by simpa using ha)
        · rcases List.mem_append.1 hj with hj | hj
          · exact h.seen j hj
          · simp at hj; omega
theorem StOk.run : ∀ {l : List (List UInt8)} {s t : List Nat × List Nat}, StOk s → runK l s = some t → StOk t
  | [], s, t, h, e => by rw [runK] at e; injection e with e; subst e; exact h
  | x :: r, s, t, h, e => by
    rw [runK] at e
    split at e
    · simp at e
    · rename_i s' hs
      exact (h.step hs).run e
theorem stOk0 : StOk (zeroP, []) := ⟨rfl, by decide, by simp, by simp⟩
theorem readP_run (t : List UInt8) : readP t = (runK (splitL 32 t) (zeroP, [])).map Prod.fst := readK_run _ (zeroP, [])
theorem run_bad {pre post : List (List UInt8)} {x : List UInt8} {s s' : List Nat × List Nat} (h : runK pre s = some s') (hx : stepK s' x = none) : runK (pre ++ x :: post) s = none := by
  rw [runK_app, h]
  show runK (x :: post) s' = none
  rw [runK, hx]
theorem split_all (c : UInt8) : ∀ l : List UInt8, splitL c l = [l] → l.all (· != c) = true
  | [], _ => rfl
  | b :: r, h => by
    rw [splitL] at h
    split at h
    · simp at h
    · rename_i hc
      have ih := split_all c r
      split at h
      · rename_i h0; exact absurd h0 (splitL_ne c r)
      · rename_i q qs hq
        simp only [List.cons.injEq, true_and] at h
        obtain ⟨rfl, rfl⟩ := h
        rw [List.all_cons, ih hq, Bool.and_true, bne_iff_ne]
        exact fun e => hc e.symm
theorem word_cut (w : List UInt8) : (Lib.indexByte w 61 = -1 → wordK w = none) ∧ (∀ n : Nat, Lib.indexByte w 61 = n → wordK w = match fieldK (w.take n), numK (w.drop (n + 1)) with
    | some i, some m => some (i, m)
    | _, _ => none) := by
  have key := index_one 61 w
  rw [Go.Lib.index_one] at key
  constructor
  · intro h
    rcases key with ⟨_, h2⟩ | ⟨n, h1, _, _⟩
    · unfold wordK; rw [h2]
    · rw [h] at h1; omega
  · intro n h
    rcases key with ⟨h1, _⟩ | ⟨m, h1, h2, h3⟩
    · rw [h] at h1; omega
    · obtain rfl : n = m := by rw [h] at h1; omega
      unfold wordK
      rw [h3]
      by_cases hd : (w.drop (n + 1)).all (· != 61) = true
      · rw [split_one 61 _ hd]
        dsimp only
        cases fieldK (w.take n) <;> cases numK (w.drop (n + 1)) <;> rfl
      · have hn : numK (w.drop (n + 1)) = none := by
          unfold numK
          rw [if_pos]
          refine .inr (.inr (.inl ?_))
          rw [Bool.eq_false_iff]
          intro ha
          apply hd
          have := isD_ne ha
          rw [List.all_eq_true] at this ⊢
          intro c hc
          have := this c hc
          simp only [Bool.and_eq_true] at this
          exact this.1
        rw [hn]
        have h4 : ∃ a b r, splitL 61 (w.drop (n + 1)) = a :: b :: r := by
          have h5 := index_one 61 (w.drop (n + 1))
          rcases h5 with ⟨_, h6⟩ | ⟨m, _, h7, h8⟩
          · exfalso
            apply hd
            exact split_all 61 _ h6
          · obtain ⟨b, r, hb⟩ := List.exists_cons_of_ne_nil (splitL_ne 61 ((w.drop (n + 1)).drop (m + 1)))
            exact ⟨_, b, r, by rw [h8, hb]⟩
        obtain ⟨a, b, r, h5⟩ := h4
        rw [h5]
        cases fieldK (w.take n) <;> rfl
def entI (i : Nat) : List D × D := ([.i64 i], .v (.bool true))
theorem mfind_int (i : Nat) : ∀ (l : List Nat) (k : Nat), mfind [.int .i64] [.i64 i] (l.map entI) k = if l.contains i then some (k + l.idxOf i) else none
  | [], k => rfl
  | e :: r, k => by
    have ih := mfind_int i r (k + 1)
    have he : eqAll [.int .i64] [.i64 i] (entI e).1 0 = decide (i = e) := by
      simp [eqAll, scEq, entI, D.int]
      rw [Bool.eq_iff_iff, beq_iff_eq, decide_eq_true_iff]
      omega
    rw [List.map_cons, mfind, he, ih]
    by_cases h : i = e
    · subst h; simp
    · have h' : ¬ e = i := fun x => h x.symm
      simp only [decide_eq_false h]
      have hc : (e :: r).contains i = r.contains i := by simp [h]
      rw [hc]
      split
      · rw [List.idxOf_cons, beq_eq_false_iff_ne.2 h']
        show some _ = some (k + (List.idxOf i r + 1))
        congr 1; omega
      · rfl
theorem mget_int (l : List Nat) (i : Nat) : mget [.int .i64] [.i64 i] (.v (.bool false)) (l.map entI) = .v (.bool (l.contains i)) := by
  unfold mget
  rw [mfind_int]
  by_cases h : l.contains i = true
  · rw [if_pos h]
    have hm : i ∈ l := by simpa using h
    have hl : l.idxOf i < l.length := List.idxOf_lt_length_of_mem hm
    simp [List.getD, hl, entI]
    exact hm
  · rw [if_neg h, Bool.eq_false_iff.2 h]
theorem mput_int (l : List Nat) (i : Nat) (h : l.contains i = false) : mput [.int .i64] [.i64 i] (.v (.bool true)) (l.map entI) = (l ++ [i]).map entI := by
  unfold mput
  rw [mfind_int, if_neg (by rw [h]; simp)]
  simp [entI]
theorem keyOk_int (i : Nat) : KeyOk [.int .i64] [.i64 i] := ⟨rfl, ⟨_, rfl⟩, trivial⟩
theorem keysOk_int (l : List Nat) : KeysOk [.int .i64] (l.map entI) := fun e he => by
  obtain ⟨x, _, rfl⟩ := List.mem_map.1 he
  exact ⟨rfl, ⟨_, rfl⟩, trivial⟩
theorem hasGet_int (l : List Nat) (i : Nat) : has .bool 0 (mget [.int .i64] [.i64 i] (.v (.bool false)) (l.map entI)) := ⟨_, mget_int l i⟩
end Go.Ax

namespace Go.Ax
open Go.Proofs
set_option maxRecDepth 10000
theorem index165 (g : GP) (c : UInt8) (s : ByteArray) : Ctr (ax g).E 103 [.str s, .str ⟨#[c]⟩] [] (fun o => o = .ret (.i64 (Lib.index s.data.toList [c])) []) := by
  rw [Go.Lib.index_one]
  exact index1_ctr g s c
theorem split_len (c : UInt8) : ∀ l : List UInt8, ∀ p ∈ splitL c l, p.length ≤ l.length
  | [], p, h => by simp [splitL] at h; subst h; simp
  | b :: r, p, h => by
    rw [splitL] at h
    have ih := split_len c r
    split at h
    · rcases List.mem_cons.1 h with rfl | h
      · simp
      · have := ih p h; simp; omega
    · split at h
      · simp at h; subst h; simp
      · rename_i q qs hq
        rw [hq] at ih
        rcases List.mem_cons.1 h with rfl | h
        · have := ih q (by simp); simp; omega
        · have := ih p (by simp [h]); simp; omega
end Go.Ax

namespace Go.Ax
open Go.Proofs Go.RowKit Go.Shelf Go.Lib
set_option maxRecDepth 10000
def readPV (r : Option (List Nat)) : AV := .tup [.dagg (rowU (r.getD zeroP)), .bool r.isSome]
def invR (s : List Nat × List Nat) : HL := [(2, some (.dvar 8 (rowU zeroP))), (3, some (.dvar 1 [.v (.bool false)])), (4, some (.dvar 8 (rowU s.1))), (5, some (.var [.mp 14])), (14, some (.map false (s.2.map entI)))]
theorem cutV_none {c : UInt8} {l : List UInt8} (h : Lib.indexByte l c = -1) : cutV c l = .tup [.str (baL l), .str ⟨#[]⟩, .bool false] := by unfold cutV; rw [if_pos h]
theorem cutV_some {c : UInt8} {l : List UInt8} {n : Nat} (h : Lib.indexByte l c = n) : cutV c l = .tup [.str (baL (l.take n)), .str (baL (l.drop (n + 1))), .bool true] := by
  unfold cutV; rw [if_neg (by rw [h]; omega), h]; rfl
theorem indexByte_cases (c : UInt8) (l : List UInt8) : Lib.indexByte l c = -1 ∨ ∃ n : Nat, Lib.indexByte l c = n ∧ n < l.length := by
  have := index_one c l
  rw [Go.Lib.index_one] at this
  rcases this with ⟨h, _⟩ | ⟨n, h, h2, _⟩
  · exact .inl h
  · exact .inr ⟨n, h, h2⟩
theorem rowU_set (p : List Nat) (hp : p.length = 8) (i : Nat) (h : i < 8) (n : Nat) : splice (rowU p) [D.v (.int .u16 (n : Int))] (0 + ((i : Nat) : Int).toNat * 1) = rowU (p.set i n) := by
  rw [show 0 + ((i : Nat) : Int).toNat * 1 = i from by omega, splice_one _ _ _ (by rw [rowU_len]; omega), rowU, rowU, List.map_set]; rfl
theorem numW_some {l : List UInt8} {m : Nat} (h : numK l = some m) : numW l = m := by
  unfold numK at h
  split at h
  · simp at h
  · rename_i hc
    injection h with h
    subst h
    unfold numW
    have h1 : ¬ (l.length < 1 ∨ 5 < l.length ∨ l.all isD = false) := fun h => by
      rcases h with h | h | h
      · exact hc (.inl h)
      · exact hc (.inr (.inl h))
      · exact hc (.inr (.inr (.inl h)))
    have h2 : ¬ 65535 < valD 0 l := fun h => hc (.inr (.inr (.inr h)))
    rw [if_neg h1, if_neg h2]
theorem readp_ctr (g : GP) (he : ∀ w, g.G w → ErrG w) (t : List UInt8) (ht : t.length ≤ 100000) : Ctr (ax g).E 25 [.str (baL t)] [] (fun o => o = .ret (readPV (readP t)) []) := by
  have hts := ba_size t
  refine Ctr.bodyT (X := ax g) _ 58 [] [.cell 2 24, .cell 3 4] Tryd.func25 rfl rfl rfl rfl (by decide +kernel) rfl rfl ?_
  conv => whnf
  repeat' (first | (refine And.intro (by first | exact rfl | decide | exact Nat.le_of_ble_eq_true rfl | exact ⟨_, rfl⟩ | exact ⟨_, _, rfl⟩ | exact Nat.le_refl _ | exact Int.le_refl _ | omega | (simp only [List.length_map]; omega) | exact True.intro | (simp only [IntKind.wrap_i64, List.length_map]; omega) | (simp only [List.map_cons, List.map_nil, List.length_cons, Option.getD]; omega) | (simp only [bsz, ByteArray.size_append, List.size_toArray, List.length_cons, List.length_nil]; omega) | exact ⟨⟨_, _, rfl, rfl, Nat.le_of_ble_eq_true rfl⟩, trivial⟩ | exact ⟨⟨_, _, rfl, rfl, Nat.le_of_ble_eq_true rfl⟩, ⟨_, _, rfl, rfl, Nat.le_of_ble_eq_true rfl⟩, trivial⟩ | exact ⟨⟨_, _, rfl, rfl, Nat.le_of_ble_eq_true rfl⟩, ⟨_, _, rfl, rfl, Nat.le_of_ble_eq_true rfl⟩, ⟨_, _, rfl, rfl, Nat.le_of_ble_eq_true rfl⟩, trivial⟩) ?_; conv => whnf) | (refine ifB_intro (fun hA => ?_) (fun hA => ?_) <;> (try rw [hA]) <;> (conv => whnf) <;> (first | replace hA := of_decide_eq_true hA | replace hA := of_decide_eq_false hA | replace hA := eq_of_beq hA | replace hA := ne_of_beq_false hA | replace hA := bne_iff_ne.1 hA | replace hA := bne_eq_false_iff_eq.1 hA | skip) <;> (try simp only [List.length_map, cond_true, cond_false, Bool.not_eq_true', Bool.not_eq_false', beq_iff_eq, beq_eq_false_iff_ne, ne_eq] at hA)) | (rw [getD_map _ _ _ _ (by assumption)]; conv => whnf))
  refine CallP.makesL rfl (split_ctr g (baL t) 32) ?_
  conv => whnf
  have hit : IterC (ax g).E 102 [.ptr 9104 0, .ptr 9103 0, .ptr 9105 0] (boxH (baL t) 32) (fun l : List UInt8 => Value.string (baL l)) (splitL 32 t) := by
    have := split_iter g 32 (index165 g 32) (baL t) (by omega)
    rwa [ba_toList] at this
  refine OtherP.rangeI (X := ax g) (boxH (baL t) 32) (splitL 32 t) (fun pre => invR ((runK pre (zeroP, [])).getD (zeroP, []))) (fun pre => ∃ s, runK pre (zeroP, []) = some s) [2, 3, 4, 5, 14] [(0, .str (baL t)), (2, .ptr 2 0), (3, .ptr 3 0), (4, .ptr 4 0), (5, .ptr 5 0)] rfl rfl rfl rfl hit rfl ⟨fun o h => h, fun o h => h, fun o h => h, trivial⟩ ⟨_, rfl⟩ ⟨fun o h => h, fun o h => h, fun o h => h, fun o h => h, fun o h => h, trivial⟩ rfl ⟨rfl, rfl, rfl, rfl, rfl, trivial⟩ rfl rfl rfl (fun _ => rfl) (fun pre x post hx hI => ?_) (fun hI => ?_)
  · obtain ⟨s, hs⟩ := hI
    have hok := stOk0.run hs
    have hm : x ∈ splitL 32 t := by rw [hx]; simp
    have hlen := split_len 32 t x hm
    have hsn := runK_snoc pre x (zeroP, [])
    rw [hs] at hsn ⊢
    have hbad : stepK s x = none → readP t = none := fun h => by
      rw [readP_run, hx, run_bad hs h]; rfl
    have hsn : runK (pre ++ [x]) (zeroP, []) = stepK s x := hsn
    rw [hsn]
    obtain ⟨p, seen⟩ := s
    have hp8 : (rowU p).length = 8 := by rw [rowU_len]; exact hok.len
    cases x with
    | nil =>
      conv => whnf
      repeat' (first | (refine And.intro (by first | exact rfl | decide | exact Nat.le_of_ble_eq_true rfl | exact ⟨_, rfl⟩ | exact ⟨_, _, rfl⟩ | exact Nat.le_refl _ | exact Int.le_refl _ | omega | (simp only []; omega) | exact True.intro | (simp only []; omega) | (simp only [Option.getD]; omega) | (simp only []; omega) | exact ⟨⟨_, _, rfl, rfl, Nat.le_of_ble_eq_true rfl⟩, trivial⟩ | exact ⟨⟨_, _, rfl, rfl, Nat.le_of_ble_eq_true rfl⟩, ⟨_, _, rfl, rfl, Nat.le_of_ble_eq_true rfl⟩, trivial⟩ | exact ⟨⟨_, _, rfl, rfl, Nat.le_of_ble_eq_true rfl⟩, ⟨_, _, rfl, rfl, Nat.le_of_ble_eq_true rfl⟩, ⟨_, _, rfl, rfl, Nat.le_of_ble_eq_true rfl⟩, trivial⟩) ?_; conv => whnf) | (refine ifB_intro (fun hA => ?_) (fun hA => ?_) <;> (try rw [hA]) <;> (conv => whnf) <;> (first | replace hA := of_decide_eq_true hA | replace hA := of_decide_eq_false hA | replace hA := eq_of_beq hA | replace hA := ne_of_beq_false hA | replace hA := bne_iff_ne.1 hA | replace hA := bne_eq_false_iff_eq.1 hA | skip) <;> (try simp only [List.length_map, cond_true, cond_false, Bool.not_eq_true', Bool.not_eq_false', beq_iff_eq, beq_eq_false_iff_ne, ne_eq] at hA)) | (rw [getD_map _ _ _ _ (by assumption)]; conv => whnf))
      exact ⟨fun o h => h, fun o h => h, fun o h => h, fun o h => h, fun o h => h, trivial⟩
    | cons c w =>
      have hcut := cut_ctr g (baL (c :: w)) 61 (by rw [ba_size]; omega)
      rw [ba_toList] at hcut
      have hfe : (baL (c :: w)).data.toList = c :: w := ba_toList _
      have hst : stepK (p, seen) (c :: w) = match wordK (c :: w) with
        | none => none
        | some (i, n) => if seen.contains i then none else some (p.set i n, seen ++ [i]) := rfl
      generalize hxx : c :: w = x at *
      have hne : x ≠ [] := by rw [← hxx]; simp
      rcases indexByte_cases 61 x with h | ⟨n, h, hn⟩
      · rw [cutV_none h] at hcut
        have hw := (word_cut x).1 h
        rw [hw] at hst
        have hb := hbad hst
        have hf := field_ctr g (baL x)
        have hnum := number_ctr g he [] (by simp)
        conv => whnf
        repeat' (first | (refine And.intro (by first | exact rfl | decide | exact Nat.le_of_ble_eq_true rfl | exact ⟨_, rfl⟩ | exact ⟨_, _, rfl⟩ | exact Nat.le_refl _ | exact Int.le_refl _ | omega | (simp only []; omega) | exact True.intro | (simp only [IntKind.wrap_i64, List.length_map]; omega) | (simp only [List.map_cons, List.map_nil, List.length_cons, Option.getD]; omega) | (simp only [bsz, ByteArray.size_append, List.size_toArray, List.length_cons, List.length_nil]; omega) | exact ⟨⟨_, _, rfl, rfl, Nat.le_of_ble_eq_true rfl⟩, trivial⟩ | exact ⟨⟨_, _, rfl, rfl, Nat.le_of_ble_eq_true rfl⟩, ⟨_, _, rfl, rfl, Nat.le_of_ble_eq_true rfl⟩, trivial⟩ | exact ⟨⟨_, _, rfl, rfl, Nat.le_of_ble_eq_true rfl⟩, ⟨_, _, rfl, rfl, Nat.le_of_ble_eq_true rfl⟩, ⟨_, _, rfl, rfl, Nat.le_of_ble_eq_true rfl⟩, trivial⟩) ?_; conv => whnf) | (refine ifB_intro (fun hA => ?_) (fun hA => ?_) <;> (try rw [hA]) <;> (conv => whnf) <;> (first | replace hA := of_decide_eq_true hA | replace hA := of_decide_eq_false hA | replace hA := eq_of_beq hA | replace hA := ne_of_beq_false hA | replace hA := bne_iff_ne.1 hA | replace hA := bne_eq_false_iff_eq.1 hA | skip) <;> (try simp only [ne_eq] at hA)) | (refine CallP.det (hcut) ?_; conv => whnf) | (refine CallD.det (hcut) ?_; conv => whnf) | (refine CallP.det (hf) ?_; conv => whnf) | (refine CallD.det (hf) ?_; conv => whnf) | (refine CallP.det (hnum) ?_; conv => whnf) | (refine CallD.det (hnum) ?_; conv => whnf) | (rw [getD_map _ _ _ _ (by assumption)]; conv => whnf))
        · rw [ba_toList] at hA; exact absurd hA hne
        · refine ⟨⟨[], ?_⟩⟩
          conv => whnf
          repeat' (first | (refine And.intro (by first | exact rfl | decide | exact Nat.le_of_ble_eq_true rfl | exact ⟨_, rfl⟩ | exact ⟨_, _, rfl⟩ | exact Nat.le_refl _ | exact Int.le_refl _ | omega | (simp only [List.length_map]; omega) | exact True.intro | (simp only [IntKind.wrap_i64, List.length_map]; omega) | (simp only [List.map_cons, List.map_nil, List.length_cons, Option.getD]; omega) | (simp only [bsz, ByteArray.size_append, List.size_toArray, List.length_cons, List.length_nil]; omega) | exact ⟨⟨_, _, rfl, rfl, Nat.le_of_ble_eq_true rfl⟩, trivial⟩ | exact ⟨⟨_, _, rfl, rfl, Nat.le_of_ble_eq_true rfl⟩, ⟨_, _, rfl, rfl, Nat.le_of_ble_eq_true rfl⟩, trivial⟩ | exact ⟨⟨_, _, rfl, rfl, Nat.le_of_ble_eq_true rfl⟩, ⟨_, _, rfl, rfl, Nat.le_of_ble_eq_true rfl⟩, ⟨_, _, rfl, rfl, Nat.le_of_ble_eq_true rfl⟩, trivial⟩) ?_; conv => whnf) | (refine ifB_intro (fun hA => ?_) (fun hA => ?_) <;> (try rw [hA]) <;> (conv => whnf) <;> (first | replace hA := of_decide_eq_true hA | replace hA := of_decide_eq_false hA | replace hA := eq_of_beq hA | replace hA := ne_of_beq_false hA | replace hA := bne_iff_ne.1 hA | replace hA := bne_eq_false_iff_eq.1 hA | skip) <;> (try simp only [List.length_map, cond_true, cond_false, Bool.not_eq_true', Bool.not_eq_false', beq_iff_eq, beq_eq_false_iff_ne, ne_eq] at hA)) | (rw [getD_map _ _ _ _ (by assumption)]; conv => whnf))
          rw [hb]; rfl
      · rw [cutV_some h] at hcut
        have hw := (word_cut x).2 n h
        have hf := field_ctr g (baL (x.take n))
        have hnum := number_ctr g he (x.drop (n + 1)) (by rw [List.length_drop]; omega)
        rw [ba_toList] at hf
        cases hfk : fieldK (x.take n) with
        | none =>
          rw [hfk] at hf hw
          rw [hw] at hst
          have hb := hbad hst
          conv => whnf
          repeat' (first | (refine And.intro (by first | exact rfl | decide | exact Nat.le_of_ble_eq_true rfl | exact ⟨_, rfl⟩ | exact ⟨_, _, rfl⟩ | exact Nat.le_refl _ | exact Int.le_refl _ | omega | (simp only []; omega) | exact True.intro | (simp only [IntKind.wrap_i64, List.length_map]; omega) | (simp only [List.map_cons, List.map_nil, List.length_cons, Option.getD]; omega) | (simp only [bsz, ByteArray.size_append, List.size_toArray, List.length_cons, List.length_nil]; omega) | exact ⟨⟨_, _, rfl, rfl, Nat.le_of_ble_eq_true rfl⟩, trivial⟩ | exact ⟨⟨_, _, rfl, rfl, Nat.le_of_ble_eq_true rfl⟩, ⟨_, _, rfl, rfl, Nat.le_of_ble_eq_true rfl⟩, trivial⟩ | exact ⟨⟨_, _, rfl, rfl, Nat.le_of_ble_eq_true rfl⟩, ⟨_, _, rfl, rfl, Nat.le_of_ble_eq_true rfl⟩, ⟨_, _, rfl, rfl, Nat.le_of_ble_eq_true rfl⟩, trivial⟩) ?_; conv => whnf) | (refine ifB_intro (fun hA => ?_) (fun hA => ?_) <;> (try rw [hA]) <;> (conv => whnf) <;> (first | replace hA := of_decide_eq_true hA | replace hA := of_decide_eq_false hA | replace hA := eq_of_beq hA | replace hA := ne_of_beq_false hA | replace hA := bne_iff_ne.1 hA | replace hA := bne_eq_false_iff_eq.1 hA | skip) <;> (try simp only [ne_eq] at hA)) | (refine CallP.det (hcut) ?_; conv => whnf) | (refine CallD.det (hcut) ?_; conv => whnf) | (refine CallP.det (hf) ?_; conv => whnf) | (refine CallD.det (hf) ?_; conv => whnf) | (refine CallP.det (hnum) ?_; conv => whnf) | (refine CallD.det (hnum) ?_; conv => whnf) | (rw [getD_map _ _ _ _ (by assumption)]; conv => whnf))
          · rw [ba_toList] at hA; exact absurd hA hne
          · refine ⟨⟨[], ?_⟩⟩
            conv => whnf
            repeat' (first | (refine And.intro (by first | exact rfl | decide | exact Nat.le_of_ble_eq_true rfl | exact ⟨_, rfl⟩ | exact ⟨_, _, rfl⟩ | exact Nat.le_refl _ | exact Int.le_refl _ | omega | (simp only [List.length_map]; omega) | exact True.intro | (simp only [IntKind.wrap_i64, List.length_map]; omega) | (simp only [List.map_cons, List.map_nil, List.length_cons, Option.getD]; omega) | (simp only [bsz, ByteArray.size_append, List.size_toArray, List.length_cons, List.length_nil]; omega) | exact ⟨⟨_, _, rfl, rfl, Nat.le_of_ble_eq_true rfl⟩, trivial⟩ | exact ⟨⟨_, _, rfl, rfl, Nat.le_of_ble_eq_true rfl⟩, ⟨_, _, rfl, rfl, Nat.le_of_ble_eq_true rfl⟩, trivial⟩ | exact ⟨⟨_, _, rfl, rfl, Nat.le_of_ble_eq_true rfl⟩, ⟨_, _, rfl, rfl, Nat.le_of_ble_eq_true rfl⟩, ⟨_, _, rfl, rfl, Nat.le_of_ble_eq_true rfl⟩, trivial⟩) ?_; conv => whnf) | (refine ifB_intro (fun hA => ?_) (fun hA => ?_) <;> (try rw [hA]) <;> (conv => whnf) <;> (first | replace hA := of_decide_eq_true hA | replace hA := of_decide_eq_false hA | replace hA := eq_of_beq hA | replace hA := ne_of_beq_false hA | replace hA := bne_iff_ne.1 hA | replace hA := bne_eq_false_iff_eq.1 hA | skip) <;> (try simp only [List.length_map, cond_true, cond_false, Bool.not_eq_true', Bool.not_eq_false', beq_iff_eq, beq_eq_false_iff_ne, ne_eq] at hA)) | (rw [getD_map _ _ _ _ (by assumption)]; conv => whnf))
            rw [hb]; rfl
        | some i =>
          rw [hfk] at hf hw
          cases hnk : numK (x.drop (n + 1)) with
          | none =>
            rw [hnk] at hnum hw
            rw [hw] at hst
            have hb := hbad hst
            conv => whnf
            repeat' (first | (refine And.intro (by first | exact rfl | decide | exact Nat.le_of_ble_eq_true rfl | exact ⟨_, rfl⟩ | exact ⟨_, _, rfl⟩ | exact Nat.le_refl _ | exact Int.le_refl _ | omega | (simp only []; omega) | exact True.intro | (simp only [IntKind.wrap_i64, List.length_map]; omega) | (simp only [List.map_cons, List.map_nil, List.length_cons, Option.getD]; omega) | (simp only [bsz, ByteArray.size_append, List.size_toArray, List.length_cons, List.length_nil]; omega) | exact ⟨⟨_, _, rfl, rfl, Nat.le_of_ble_eq_true rfl⟩, trivial⟩ | exact ⟨⟨_, _, rfl, rfl, Nat.le_of_ble_eq_true rfl⟩, ⟨_, _, rfl, rfl, Nat.le_of_ble_eq_true rfl⟩, trivial⟩ | exact ⟨⟨_, _, rfl, rfl, Nat.le_of_ble_eq_true rfl⟩, ⟨_, _, rfl, rfl, Nat.le_of_ble_eq_true rfl⟩, ⟨_, _, rfl, rfl, Nat.le_of_ble_eq_true rfl⟩, trivial⟩) ?_; conv => whnf) | (refine ifB_intro (fun hA => ?_) (fun hA => ?_) <;> (try rw [hA]) <;> (conv => whnf) <;> (first | replace hA := of_decide_eq_true hA | replace hA := of_decide_eq_false hA | replace hA := eq_of_beq hA | replace hA := ne_of_beq_false hA | replace hA := bne_iff_ne.1 hA | replace hA := bne_eq_false_iff_eq.1 hA | skip) <;> (try simp only [ne_eq] at hA)) | (refine CallP.det (hcut) ?_; conv => whnf) | (refine CallD.det (hcut) ?_; conv => whnf) | (refine CallP.det (hf) ?_; conv => whnf) | (refine CallD.det (hf) ?_; conv => whnf) | (refine CallP.det (hnum) ?_; conv => whnf) | (refine CallD.det (hnum) ?_; conv => whnf) | (rw [getD_map _ _ _ _ (by assumption)]; conv => whnf))
            · rw [ba_toList] at hA; exact absurd hA hne
            · refine ⟨⟨[], ?_⟩⟩
              conv => whnf
              repeat' (first | (refine And.intro (by first | exact rfl | decide | exact Nat.le_of_ble_eq_true rfl | exact ⟨_, rfl⟩ | exact ⟨_, _, rfl⟩ | exact Nat.le_refl _ | exact Int.le_refl _ | omega | (simp only [List.length_map]; omega) | exact True.intro | (simp only [IntKind.wrap_i64, List.length_map]; omega) | (simp only [List.map_cons, List.map_nil, List.length_cons, Option.getD]; omega) | (simp only [bsz, ByteArray.size_append, List.size_toArray, List.length_cons, List.length_nil]; omega) | exact ⟨⟨_, _, rfl, rfl, Nat.le_of_ble_eq_true rfl⟩, trivial⟩ | exact ⟨⟨_, _, rfl, rfl, Nat.le_of_ble_eq_true rfl⟩, ⟨_, _, rfl, rfl, Nat.le_of_ble_eq_true rfl⟩, trivial⟩ | exact ⟨⟨_, _, rfl, rfl, Nat.le_of_ble_eq_true rfl⟩, ⟨_, _, rfl, rfl, Nat.le_of_ble_eq_true rfl⟩, ⟨_, _, rfl, rfl, Nat.le_of_ble_eq_true rfl⟩, trivial⟩) ?_; conv => whnf) | (refine ifB_intro (fun hA => ?_) (fun hA => ?_) <;> (try rw [hA]) <;> (conv => whnf) <;> (first | replace hA := of_decide_eq_true hA | replace hA := of_decide_eq_false hA | replace hA := eq_of_beq hA | replace hA := ne_of_beq_false hA | replace hA := bne_iff_ne.1 hA | replace hA := bne_eq_false_iff_eq.1 hA | skip) <;> (try simp only [List.length_map, cond_true, cond_false, Bool.not_eq_true', Bool.not_eq_false', beq_iff_eq, beq_eq_false_iff_ne, ne_eq] at hA)) | (rw [getD_map _ _ _ _ (by assumption)]; conv => whnf))
              rw [hb]; rfl
          | some m =>
            rw [hnk] at hnum hw
            rw [hw] at hst
            have hi8 := fieldK_lt hfk
            rw [numW_some hnk] at hnum
            conv => whnf
            repeat' (first | (refine And.intro (by first | exact rfl | decide | exact Nat.le_of_ble_eq_true rfl | exact ⟨_, rfl⟩ | exact ⟨_, _, rfl⟩ | exact Nat.le_refl _ | exact Int.le_refl _ | omega | (simp only []; omega) | exact True.intro | (simp only []; omega) | (simp only [Option.getD]; omega) | (simp only []; omega) | exact ⟨⟨_, _, rfl, rfl, Nat.le_of_ble_eq_true rfl⟩, trivial⟩ | exact ⟨⟨_, _, rfl, rfl, Nat.le_of_ble_eq_true rfl⟩, ⟨_, _, rfl, rfl, Nat.le_of_ble_eq_true rfl⟩, trivial⟩ | exact ⟨⟨_, _, rfl, rfl, Nat.le_of_ble_eq_true rfl⟩, ⟨_, _, rfl, rfl, Nat.le_of_ble_eq_true rfl⟩, ⟨_, _, rfl, rfl, Nat.le_of_ble_eq_true rfl⟩, trivial⟩) ?_; conv => whnf) | (refine ifB_intro (fun hA => ?_) (fun hA => ?_) <;> (try rw [hA]) <;> (conv => whnf) <;> (first | replace hA := of_decide_eq_true hA | replace hA := of_decide_eq_false hA | replace hA := eq_of_beq hA | replace hA := ne_of_beq_false hA | replace hA := bne_iff_ne.1 hA | replace hA := bne_eq_false_iff_eq.1 hA | skip) <;> (try simp only [ne_eq] at hA)) | (refine CallP.det (hcut) ?_; conv => whnf) | (refine CallD.det (hcut) ?_; conv => whnf) | (refine CallP.det (hf) ?_; conv => whnf) | (refine CallD.det (hf) ?_; conv => whnf) | (refine CallP.det (hnum) ?_; conv => whnf) | (refine CallD.det (hnum) ?_; conv => whnf) | (refine And.intro (keyOk_int _) ?_; conv => whnf) | (refine And.intro (keysOk_int _) ?_; conv => whnf) | (refine And.intro (hasGet_int _ _) ?_; conv => whnf) | (rw [getD_map _ _ _ _ (by assumption)]; conv => whnf))
            · rw [ba_toList] at hA; exact absurd hA hne
            · have hA : (mget [.int .i64] [.i64 i] (.v (.bool false)) (seen.map entI)).bool = true := hA
              rw [mget_int] at hA
              have hA : seen.contains i = true := hA
              have hb := hbad (by rw [hst]; exact if_pos hA)
              refine ⟨⟨[], ?_⟩⟩
              conv => whnf
              repeat' (first | (refine And.intro (by first | exact rfl | decide | exact Nat.le_of_ble_eq_true rfl | exact ⟨_, rfl⟩ | exact ⟨_, _, rfl⟩ | exact Nat.le_refl _ | exact Int.le_refl _ | omega | (simp only [List.length_map]; omega) | exact True.intro | (simp only [IntKind.wrap_i64, List.length_map]; omega) | (simp only [List.map_cons, List.map_nil, List.length_cons, Option.getD]; omega) | (simp only [bsz, ByteArray.size_append, List.size_toArray, List.length_cons, List.length_nil]; omega) | exact ⟨⟨_, _, rfl, rfl, Nat.le_of_ble_eq_true rfl⟩, trivial⟩ | exact ⟨⟨_, _, rfl, rfl, Nat.le_of_ble_eq_true rfl⟩, ⟨_, _, rfl, rfl, Nat.le_of_ble_eq_true rfl⟩, trivial⟩ | exact ⟨⟨_, _, rfl, rfl, Nat.le_of_ble_eq_true rfl⟩, ⟨_, _, rfl, rfl, Nat.le_of_ble_eq_true rfl⟩, ⟨_, _, rfl, rfl, Nat.le_of_ble_eq_true rfl⟩, trivial⟩) ?_; conv => whnf) | (refine ifB_intro (fun hA => ?_) (fun hA => ?_) <;> (try rw [hA]) <;> (conv => whnf) <;> (first | replace hA := of_decide_eq_true hA | replace hA := of_decide_eq_false hA | replace hA := eq_of_beq hA | replace hA := ne_of_beq_false hA | replace hA := bne_iff_ne.1 hA | replace hA := bne_eq_false_iff_eq.1 hA | skip) <;> (try simp only [List.length_map, cond_true, cond_false, Bool.not_eq_true', Bool.not_eq_false', beq_iff_eq, beq_eq_false_iff_ne, ne_eq] at hA)) | (rw [getD_map _ _ _ _ (by assumption)]; conv => whnf))
              rw [hb]; rfl
            · have hA : (mget [.int .i64] [.i64 i] (.v (.bool false)) (seen.map entI)).bool = false := hA
              rw [mget_int] at hA
              have hA : seen.contains i = false := hA
              have e : stepK (p, seen) x = some (p.set i m, seen ++ [i]) := by rw [hst]; exact if_neg (by rw [hA]; simp)
              rw [e]
              refine ⟨⟨_, rfl⟩, fun o h => h, fun o h => h, fun o h => ?_, fun o h => h, fun o h => ?_, trivial⟩
              · rw [← h]; exact congrArg (fun z => some (AObj.dvar 8 z)) (rowU_set p hok.len i hi8 m)
              · rw [← h]; exact congrArg (fun z => some (AObj.map false z)) (mput_int seen i hA)
  · obtain ⟨s, hs⟩ := hI
    have hok := stOk0.run hs
    have hr : readP t = some s.1 := by rw [readP_run, hs]; rfl
    rw [hs]
    obtain ⟨p, seen⟩ := s
    have h8 := hok.len
    dsimp only at h8 hr
    clear hs hok
    obtain ⟨a0, a1, a2, a3, a4, a5, a6, a7, rfl⟩ := eight h8
    conv => whnf
    repeat' (first | (refine And.intro (by first | exact rfl | decide | exact Nat.le_of_ble_eq_true rfl | exact ⟨_, rfl⟩ | exact ⟨_, _, rfl⟩ | exact Nat.le_refl _ | exact Int.le_refl _ | omega | (simp only [List.length_map]; omega) | exact True.intro | (simp only [IntKind.wrap_i64, List.length_map]; omega) | (simp only [List.map_cons, List.map_nil, List.length_cons, Option.getD]; omega) | (simp only [bsz, ByteArray.size_append, List.size_toArray, List.length_cons, List.length_nil]; omega) | exact ⟨⟨_, _, rfl, rfl, Nat.le_of_ble_eq_true rfl⟩, trivial⟩ | exact ⟨⟨_, _, rfl, rfl, Nat.le_of_ble_eq_true rfl⟩, ⟨_, _, rfl, rfl, Nat.le_of_ble_eq_true rfl⟩, trivial⟩ | exact ⟨⟨_, _, rfl, rfl, Nat.le_of_ble_eq_true rfl⟩, ⟨_, _, rfl, rfl, Nat.le_of_ble_eq_true rfl⟩, ⟨_, _, rfl, rfl, Nat.le_of_ble_eq_true rfl⟩, trivial⟩) ?_; conv => whnf) | (refine ifB_intro (fun hA => ?_) (fun hA => ?_) <;> (try rw [hA]) <;> (conv => whnf) <;> (first | replace hA := of_decide_eq_true hA | replace hA := of_decide_eq_false hA | replace hA := eq_of_beq hA | replace hA := ne_of_beq_false hA | replace hA := bne_iff_ne.1 hA | replace hA := bne_eq_false_iff_eq.1 hA | skip) <;> (try simp only [List.length_map, cond_true, cond_false, Bool.not_eq_true', Bool.not_eq_false', beq_iff_eq, beq_eq_false_iff_ne, ne_eq] at hA)) | (rw [getD_map _ _ _ _ (by assumption)]; conv => whnf))
    refine ⟨⟨[], ?_⟩⟩
    conv => whnf
    repeat' (first | (refine And.intro (by first | exact rfl | decide | exact Nat.le_of_ble_eq_true rfl | exact ⟨_, rfl⟩ | exact ⟨_, _, rfl⟩ | exact Nat.le_refl _ | exact Int.le_refl _ | omega | (simp only [List.length_map]; omega) | exact True.intro | (simp only [IntKind.wrap_i64, List.length_map]; omega) | (simp only [List.map_cons, List.map_nil, List.length_cons, Option.getD]; omega) | (simp only [bsz, ByteArray.size_append, List.size_toArray, List.length_cons, List.length_nil]; omega) | exact ⟨⟨_, _, rfl, rfl, Nat.le_of_ble_eq_true rfl⟩, trivial⟩ | exact ⟨⟨_, _, rfl, rfl, Nat.le_of_ble_eq_true rfl⟩, ⟨_, _, rfl, rfl, Nat.le_of_ble_eq_true rfl⟩, trivial⟩ | exact ⟨⟨_, _, rfl, rfl, Nat.le_of_ble_eq_true rfl⟩, ⟨_, _, rfl, rfl, Nat.le_of_ble_eq_true rfl⟩, ⟨_, _, rfl, rfl, Nat.le_of_ble_eq_true rfl⟩, trivial⟩) ?_; conv => whnf) | (refine ifB_intro (fun hA => ?_) (fun hA => ?_) <;> (try rw [hA]) <;> (conv => whnf) <;> (first | replace hA := of_decide_eq_true hA | replace hA := of_decide_eq_false hA | replace hA := eq_of_beq hA | replace hA := ne_of_beq_false hA | replace hA := bne_iff_ne.1 hA | replace hA := bne_eq_false_iff_eq.1 hA | skip) <;> (try simp only [List.length_map, cond_true, cond_false, Bool.not_eq_true', Bool.not_eq_false', beq_iff_eq, beq_eq_false_iff_ne, ne_eq] at hA)) | (rw [getD_map _ _ _ _ (by assumption)]; conv => whnf))
    rw [hr]; rfl
end Go.Ax

namespace Go.Ax
open Go.Proofs Go.RowKit Go.Shelf Go.Lib
set_option maxRecDepth 10000
theorem readPV_some (p : List Nat) : readPV (some p) = .tup [.dagg (rowU p), .bool true] := rfl
theorem awake1_ctr (g : GP) (hp : ∀ w, g.G w → PowG w) (he : ∀ w, g.G w → ErrG w) : Ctr (ax g).E 7 [] [] (fun o => o = .ret (.bool true) []) := by
  have h1 := pwith_ctr g zeroP rfl 0 (by omega) 1
  have h2 := pwith_ctr g (zeroP.set 0 1) rfl 3 (by omega) 7
  have h3 := readp_ctr g he [100, 115, 116, 61, 55, 32, 32, 115, 119, 61, 49] (by decide)
  rw [show readP [100, 115, 116, 61, 55, 32, 32, 115, 119, 61, 49] = some ((zeroP.set 0 1).set 3 7) from by decide +kernel, readPV_some] at h3
  have h4 := field_ctr g (baL [100, 115, 116])
  rw [ba_toList, show fieldK [100, 115, 116] = some 3 from by decide +kernel] at h4
  have h5 := pname_ctr g 3 (by omega)
  have h6 := ptext_ctr g hp ((zeroP.set 0 1).set 3 7) ⟨rfl, by decide⟩
  rw [show textP ((zeroP.set 0 1).set 3 7) = [115, 119, 61, 49, 32, 112, 116, 61, 48, 32, 100, 115, 116, 61, 55] from by decide +kernel] at h6
  refine Ctr.body (X := ax g) _ 39 [] [.tmp 0] Tryd.func7 rfl rfl rfl rfl (by decide +kernel) rfl rfl ?_
  conv => whnf
  repeat' (first | (refine And.intro (by first | exact rfl | decide | exact Nat.le_of_ble_eq_true rfl | exact ⟨_, rfl⟩ | exact ⟨_, _, rfl⟩ | exact Nat.le_refl _ | exact Int.le_refl _ | omega | (simp only []; omega) | exact True.intro | (simp only [IntKind.wrap_i64, List.length_map]; omega) | (simp only [List.map_cons, List.map_nil, List.length_cons, Option.getD]; omega) | (simp only [bsz, ByteArray.size_append, List.size_toArray, List.length_cons, List.length_nil]; omega) | exact ⟨⟨_, _, rfl, rfl, Nat.le_of_ble_eq_true rfl⟩, trivial⟩ | exact ⟨⟨_, _, rfl, rfl, Nat.le_of_ble_eq_true rfl⟩, ⟨_, _, rfl, rfl, Nat.le_of_ble_eq_true rfl⟩, trivial⟩ | exact ⟨⟨_, _, rfl, rfl, Nat.le_of_ble_eq_true rfl⟩, ⟨_, _, rfl, rfl, Nat.le_of_ble_eq_true rfl⟩, ⟨_, _, rfl, rfl, Nat.le_of_ble_eq_true rfl⟩, trivial⟩) ?_; conv => whnf) | (refine ifB_intro (fun hA => ?_) (fun hA => ?_) <;> (try rw [hA]) <;> (conv => whnf) <;> (first | replace hA := of_decide_eq_true hA | replace hA := of_decide_eq_false hA | replace hA := eq_of_beq hA | replace hA := ne_of_beq_false hA | replace hA := bne_iff_ne.1 hA | replace hA := bne_eq_false_iff_eq.1 hA | skip) <;> (try simp only [List.length_map, cond_true, cond_false, Bool.not_eq_true', Bool.not_eq_false', beq_iff_eq, beq_eq_false_iff_ne, ne_eq] at hA)) | (refine CallP.det (h1) ?_; conv => whnf) | (refine CallD.det (h1) ?_; conv => whnf) | (refine CallP.det (h2) ?_; conv => whnf) | (refine CallD.det (h2) ?_; conv => whnf) | (refine CallP.det (h3) ?_; conv => whnf) | (refine CallD.det (h3) ?_; conv => whnf) | (refine CallP.det (h4) ?_; conv => whnf) | (refine CallD.det (h4) ?_; conv => whnf) | (refine CallP.det (h5) ?_; conv => whnf) | (refine CallD.det (h5) ?_; conv => whnf) | (refine CallP.det (h6) ?_; conv => whnf) | (refine CallD.det (h6) ?_; conv => whnf) | (rw [getD_map _ _ _ _ (by assumption)]; conv => whnf))
  refine ⟨⟨[], ?_⟩⟩
  conv => whnf
  rfl
theorem eqU8 (a0 a1 a2 a3 a4 a5 a6 a7 : Nat) : eqAll [.int .u16, .int .u16, .int .u16, .int .u16, .int .u16, .int .u16, .int .u16, .int .u16] (cut 0 8 (rowU [a0, a1, a2, a3, a4, a5, a6, a7])) (cut 0 8 (rowU [a0, a1, a2, a3, a4, a5, a6, a7])) 0 = true := by
  simp [eqAll, cut, rowU, cellU, scEq, List.getD]
end Go.Ax
