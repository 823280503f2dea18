/- What the card of this claim stands on, or the card itself: for every input, as the given row says. -/
import Derived.SizedLaws
import Derived.ChangeArms
import Derived.DataReads
import Derived.Test.YtjcgfiidbpailaaDoorQA08
import Derived.Test.YtjcgfiidbpailaaDoorQA10

namespace Go.Ax
open Go.Proofs Go.Lib
set_option maxRecDepth 10000
theorem of_give (g : GP) (hp : ∀ w, g.G w → PowG w) (r : Nat) (L : List (List Nat)) (ok : ∀ q ∈ L, OkK q) (hL : L.length ≤ 2 ^ 20) : Ctr (ax g).E 23 ([.msl r L.length 0 L.length].map (frz r 8 (L.map rowU))) [] (fun o => o = .ret (.str (baL (ofL L))) []) := by
  simp only [List.map_cons, List.map_nil, frzE r 8 L.length (L.map rowU) (by simp)]
  exact of37_ctr g hp false L ok hL
theorem patternOf_ctr (g : GP) (hp : ∀ w, g.G w → PowG w) (he : ∀ w, g.G w → ErrG w) (L : List (List Nat)) (ok : ∀ q ∈ L, OkK q) (hL : L.length < 2 ^ 44) : Ctr (ax g).E 6 [.d (.sl false 8 (L.map rowU))] [] (fun o => o = .ret (.bool true) []) := by
  have h0 := awake37_ctr g hp he
  have hLm : (L.map rowU).length = L.length := List.length_map _
  by_cases h10 : L.length ≤ 10
  · have c1 := of37_ctr g hp false L ok (by omega)
    have hol := ofL_len ok
    have hos := ba_size (ofL L)
    refine Ctr.body (X := ax g) _ 124 [] [.tmp 2] Tryd.func6 rfl rfl rfl rfl (by decide +kernel) rfl rfl ?_
    conv => whnf
    repeat' (first | (refine And.intro (by first | exact rfl | decide | exact Nat.le_of_ble_eq_true rfl | exact ⟨_, rfl⟩ | exact ⟨_, _, rfl⟩ | exact Nat.le_refl _ | exact Int.le_refl _ | omega | (simp only [List.length_map]; omega) | exact True.intro | (simp only [IntKind.wrap_i64, List.length_map]; omega) | (simp only [List.map_cons, List.map_nil, List.length_cons, Option.getD]; omega) | (simp only [bsz, ByteArray.size_append, List.size_toArray, List.length_cons, List.length_nil]; omega) | exact ⟨⟨_, _, rfl, rfl, Nat.le_of_ble_eq_true rfl⟩, trivial⟩ | exact ⟨⟨_, _, rfl, rfl, Nat.le_of_ble_eq_true rfl⟩, ⟨_, _, rfl, rfl, Nat.le_of_ble_eq_true rfl⟩, trivial⟩ | exact ⟨⟨_, _, rfl, rfl, Nat.le_of_ble_eq_true rfl⟩, ⟨_, _, rfl, rfl, Nat.le_of_ble_eq_true rfl⟩, ⟨_, _, rfl, rfl, Nat.le_of_ble_eq_true rfl⟩, trivial⟩) ?_; conv => whnf) | (refine ifB_intro (fun hA => ?_) (fun hA => ?_) <;> (try rw [hA]) <;> (conv => whnf) <;> (first | replace hA := of_decide_eq_true hA | replace hA := of_decide_eq_false hA | replace hA := eq_of_beq hA | replace hA := ne_of_beq_false hA | replace hA := bne_iff_ne.1 hA | replace hA := bne_eq_false_iff_eq.1 hA | skip) <;> (try simp only [List.length_map] at hA)) | (refine CallP.det (h0) ?_; conv => whnf) | (refine CallD.det (h0) ?_; conv => whnf) | (exfalso; omega) | (refine CallP.det (c1) ?_; conv => whnf) | (refine CallD.det (c1) ?_; conv => whnf) | (rw [getD_map _ _ _ _ (by assumption)]; conv => whnf))
    refine LoopP.inv (X := ax g) (fun i : Nat => { f := [(0, .d (.sl false 8 (L.map rowU))), (2, .bool false), (3, .str (baL (ofL L))), (4, .str (baL ((L.take i).foldl betB [46, 46]))), (25, .d (.sl false 8 (L.map rowU))), (26, .i64 L.length), (27, .i64 i)], h := [] }) (fun i => i ≤ L.length) (fun i => L.length - i) 0 (Nat.zero_le _) ⟨⟨rfl, rfl, rfl, rfl, rfl, AV.int_eq (by rw [hLm]), rfl, trivial⟩, trivial⟩ fun i hi => ?_
    conv => whnf
    refine ifB_intro (fun h => ?_) (fun h => ?_)
    · have h : i < L.length := by have h0 := of_decide_eq_true h; omega
      have hok := ok L[i] (by simp)
      have hbl := bet_len (L.take i) [46, 46] fun q hq => ok q (List.mem_of_mem_take hq)
      have ht : (L.take (i + 1)).foldl betB [46, 46] = betB ((L.take i).foldl betB [46, 46]) L[i] := by
        rw [List.take_succ_eq_append_getElem h, List.foldl_append]; rfl
      have hwl := wordQ_len hok
      generalize hqi : L[i] = q at *
      have c2 := of37_ctr g hp true [q] (by simpa using hok) (by simp)
      rw [show ofL [q] = wordQ q from Lib.join_one _ _] at c2
      rw [List.length_take] at hbl
      generalize hB : (L.take i).foldl betB [46, 46] = B at *
      have hBs := ba_size B
      have hws := ba_size (wordQ q)
      have hstr : baL B ++ ((⟨#[32]⟩ ++ baL (wordQ q)) ++ ⟨#[32, 46, 46]⟩ : ByteArray) = baL (betB B q) := by
        apply ByteArray.ext; simp [baL, betB, ByteArray.data_append]
      obtain ⟨q0, q1, q2, q3, q4, q5, q6, q7, rfl⟩ := eight hok.1
      simp only [List.length_cons, List.length_nil] at hbl
      conv => whnf
      repeat' (first | (refine And.intro (by first | exact rfl | decide | exact Nat.le_of_ble_eq_true rfl | exact ⟨_, rfl⟩ | exact ⟨_, _, rfl⟩ | exact Nat.le_refl _ | exact Int.le_refl _ | omega | (simp only []; omega) | exact True.intro | (simp only []; omega) | (simp only []; omega) | (simp only [bsz, ByteArray.size_append, List.size_toArray, List.length_cons, List.length_nil]; omega) | exact ⟨⟨_, _, rfl, rfl, Nat.le_of_ble_eq_true rfl⟩, trivial⟩ | exact ⟨⟨_, _, rfl, rfl, Nat.le_of_ble_eq_true rfl⟩, ⟨_, _, rfl, rfl, Nat.le_of_ble_eq_true rfl⟩, trivial⟩ | exact ⟨⟨_, _, rfl, rfl, Nat.le_of_ble_eq_true rfl⟩, ⟨_, _, rfl, rfl, Nat.le_of_ble_eq_true rfl⟩, ⟨_, _, rfl, rfl, Nat.le_of_ble_eq_true rfl⟩, trivial⟩) ?_; conv => whnf) | (refine ifB_intro (fun hA => ?_) (fun hA => ?_) <;> (try rw [hA]) <;> (conv => whnf) <;> (first | replace hA := of_decide_eq_true hA | replace hA := of_decide_eq_false hA | replace hA := eq_of_beq hA | replace hA := ne_of_beq_false hA | replace hA := bne_iff_ne.1 hA | replace hA := bne_eq_false_iff_eq.1 hA | skip) <;> (try simp only [List.length_map, cond_true, cond_false, Bool.not_eq_true', Bool.not_eq_false', beq_iff_eq, beq_eq_false_iff_ne, ne_eq] at hA)) | (erw [getD_map rowU L i [] h, hqi]; conv => whnf) | (refine CallP.det (c2) ?_; conv => whnf) | (refine CallD.det (c2) ?_; conv => whnf) | (refine And.intro (by simp only [ByteArray.size_append, bsz, List.size_toArray, List.length_cons, List.length_nil]; omega) ?_; conv => whnf) | (rw [getD_map _ _ _ _ (by assumption)]; conv => whnf))
      exact ⟨i + 1, by omega, by omega, ⟨⟨rfl, rfl, rfl, by rw [ht, ← hstr]; rfl, rfl, rfl, AV.int_eq (i64_succ (by omega)), trivial⟩, trivial⟩⟩
    · have h : i = L.length := by have h0 := of_decide_eq_false h; omega
      subst h
      rw [List.take_length]
      conv => whnf
      repeat' (first | (refine And.intro (by first | exact rfl | decide | exact Nat.le_of_ble_eq_true rfl | exact ⟨_, rfl⟩ | exact ⟨_, _, rfl⟩ | exact Nat.le_refl _ | exact Int.le_refl _ | omega | (simp only [List.length_map]; omega) | exact True.intro | (simp only [IntKind.wrap_i64, List.length_map]; omega) | (simp only [List.map_cons, List.map_nil, List.length_cons, Option.getD]; omega) | (simp only [bsz, List.size_toArray, List.length_cons, List.length_nil]; omega) | exact ⟨⟨_, _, rfl, rfl, Nat.le_of_ble_eq_true rfl⟩, trivial⟩ | exact ⟨⟨_, _, rfl, rfl, Nat.le_of_ble_eq_true rfl⟩, ⟨_, _, rfl, rfl, Nat.le_of_ble_eq_true rfl⟩, trivial⟩ | exact ⟨⟨_, _, rfl, rfl, Nat.le_of_ble_eq_true rfl⟩, ⟨_, _, rfl, rfl, Nat.le_of_ble_eq_true rfl⟩, ⟨_, _, rfl, rfl, Nat.le_of_ble_eq_true rfl⟩, trivial⟩) ?_; conv => whnf) | (refine ifB_intro (fun hA => ?_) (fun hA => ?_) <;> (try rw [hA]) <;> (conv => whnf) <;> (first | replace hA := of_decide_eq_true hA | replace hA := of_decide_eq_false hA | replace hA := eq_of_beq hA | replace hA := ne_of_beq_false hA | replace hA := bne_iff_ne.1 hA | replace hA := bne_eq_false_iff_eq.1 hA | skip) <;> (try simp only [List.length_map, cond_true, cond_false, Bool.not_eq_true', Bool.not_eq_false', beq_iff_eq, beq_eq_false_iff_ne, ne_eq] at hA)) | (refine And.intro (by simp only [ByteArray.size_append, bsz, List.size_toArray, List.length_cons, List.length_nil]; omega) ?_; conv => whnf) | (rw [getD_map _ _ _ _ (by assumption)]; conv => whnf))
      have hE1 : (⟨#[46, 46, 32]⟩ : ByteArray) ++ baL (ofL L) = baL ([46, 46, 32] ++ ofL L) := by apply ByteArray.ext; simp [baL, ByteArray.data_append]
      have hE2 : baL (ofL L) ++ (⟨#[32, 46, 46]⟩ : ByteArray) = baL (ofL L ++ [32, 46, 46]) := by apply ByteArray.ext; simp [baL, ByteArray.data_append]
      have hE3 : baL (ofL L) ++ (⟨#[32, 42, 58, 42]⟩ : ByteArray) = baL (ofL L ++ [32, 42, 58, 42]) := by apply ByteArray.ext; simp [baL, ByteArray.data_append]
      have hT := texts_ok ok h10
      have hTl := texts_len ok h10
      have hT5 : (texts5 L).length = 5 := rfl
      have hTE : [[D.v (.string (baL (ofL L)))], [.v (.string (⟨#[46, 46, 32]⟩ ++ baL (ofL L)))], [.v (.string (baL (ofL L) ++ ⟨#[32, 46, 46]⟩))], [.v (.string (baL (L.foldl betB [46, 46])))], [.v (.string ⟨#[46, 46]⟩)]] = (texts5 L).map rowW := by
        rw [hE1, hE2]; rfl
      generalize texts5 L = T at *
      refine LoopP.inv (X := ax g) (fun i : Nat => { f := [(0, .d (.sl false 8 (L.map rowU))), (2, .bool false), (3, .str (baL (ofL L))), (45, .d (.sl true 1 (T.map rowW))), (46, .i64 5), (47, .i64 i)], h := [] }) (fun i => i ≤ 5) (fun i => 5 - i) 0 (Nat.zero_le _) ⟨⟨rfl, rfl, rfl, by rw [← hTE]; rfl, rfl, rfl, trivial⟩, trivial⟩ fun i hi => ?_
      conv => whnf
      refine ifB_intro (fun h => ?_) (fun h => ?_)
      · have h : i < T.length := by have h0 := of_decide_eq_true h; omega
        obtain ⟨W, hP, hGl⟩ := hT T[i] (by simp)
        have cm := matchL_ctr g he T[i] (hTl T[i] (by simp)) false L hL ok W hP true (iff_of_true rfl hGl)
        conv => whnf
        repeat' (first | (refine And.intro (by first | exact rfl | decide | exact Nat.le_of_ble_eq_true rfl | exact ⟨_, rfl⟩ | exact ⟨_, _, rfl⟩ | exact Nat.le_refl _ | exact Int.le_refl _ | omega | (simp only [List.length_map]; omega) | exact True.intro | (simp only []; omega) | (simp only []; omega) | (simp only []; omega) | exact ⟨⟨_, _, rfl, rfl, Nat.le_of_ble_eq_true rfl⟩, trivial⟩ | exact ⟨⟨_, _, rfl, rfl, Nat.le_of_ble_eq_true rfl⟩, ⟨_, _, rfl, rfl, Nat.le_of_ble_eq_true rfl⟩, trivial⟩ | exact ⟨⟨_, _, rfl, rfl, Nat.le_of_ble_eq_true rfl⟩, ⟨_, _, rfl, rfl, Nat.le_of_ble_eq_true rfl⟩, ⟨_, _, rfl, rfl, Nat.le_of_ble_eq_true rfl⟩, trivial⟩) ?_; conv => whnf) | (refine ifB_intro (fun hA => ?_) (fun hA => ?_) <;> (try rw [hA]) <;> (conv => whnf) <;> (first | replace hA := of_decide_eq_true hA | replace hA := of_decide_eq_false hA | replace hA := eq_of_beq hA | replace hA := ne_of_beq_false hA | replace hA := bne_iff_ne.1 hA | replace hA := bne_eq_false_iff_eq.1 hA | skip) <;> (try simp only [List.length_map, cond_true, cond_false, Bool.not_eq_true', Bool.not_eq_false', beq_iff_eq, beq_eq_false_iff_ne, ne_eq] at hA)) | (rw [getD_map rowW T i [] h]; conv => whnf) | (refine CallP.det (cm) ?_; conv => whnf) | (refine CallD.det (cm) ?_; conv => whnf) | (rw [getD_map _ _ _ _ (by assumption)]; conv => whnf))
        exact ⟨i + 1, by omega, by omega, ⟨⟨rfl, rfl, rfl, rfl, rfl, AV.int_eq (i64_succ (by omega)), trivial⟩, trivial⟩⟩
      · have h : i = 5 := by have h0 := of_decide_eq_false h; omega
        subst h
        cases hLc : L with
        | nil =>
          subst hLc
          conv => whnf
          repeat' (first | (refine And.intro (by first | exact rfl | decide | exact Nat.le_of_ble_eq_true rfl | exact ⟨_, rfl⟩ | exact ⟨_, _, rfl⟩ | exact Nat.le_refl _ | exact Int.le_refl _ | omega | (simp only [List.length_map]; omega) | exact True.intro | (simp only [IntKind.wrap_i64, List.length_map]; omega) | (simp only [List.map_cons, List.map_nil, List.length_cons, Option.getD]; omega) | (simp only [bsz, ByteArray.size_append, List.size_toArray, List.length_cons, List.length_nil]; omega) | exact ⟨⟨_, _, rfl, rfl, Nat.le_of_ble_eq_true rfl⟩, trivial⟩ | exact ⟨⟨_, _, rfl, rfl, Nat.le_of_ble_eq_true rfl⟩, ⟨_, _, rfl, rfl, Nat.le_of_ble_eq_true rfl⟩, trivial⟩ | exact ⟨⟨_, _, rfl, rfl, Nat.le_of_ble_eq_true rfl⟩, ⟨_, _, rfl, rfl, Nat.le_of_ble_eq_true rfl⟩, ⟨_, _, rfl, rfl, Nat.le_of_ble_eq_true rfl⟩, trivial⟩) ?_; conv => whnf) | (refine ifB_intro (fun hA => ?_) (fun hA => ?_) <;> (try rw [hA]) <;> (conv => whnf) <;> (first | replace hA := of_decide_eq_true hA | replace hA := of_decide_eq_false hA | replace hA := eq_of_beq hA | replace hA := ne_of_beq_false hA | replace hA := bne_iff_ne.1 hA | replace hA := bne_eq_false_iff_eq.1 hA | skip) <;> (try simp only [List.length_map, cond_true, cond_false, Bool.not_eq_true', Bool.not_eq_false', beq_iff_eq, beq_eq_false_iff_ne, ne_eq] at hA)) | (rw [getD_map _ _ _ _ (by assumption)]; conv => whnf))
          refine ⟨⟨[], ?_⟩⟩
          conv => whnf
        | cons x r =>
          have hne : L ≠ [] := by rw [hLc]; simp
          rw [← hLc]
          have hpos : 0 < L.length := List.length_pos_iff.2 hne
          have hdrop : List.take (((L.map rowU).length : Int).toNat - (1 : Int).toNat) (List.drop (1 : Int).toNat (L.map rowU)) = L.tail.map rowU := by
            rw [show (1 : Int).toNat = 1 from rfl, ← List.map_drop, List.drop_one, List.take_of_length_le (by simp)]
          have okt : ∀ q ∈ L.tail, OkK q := fun q hq => ok q (List.mem_of_mem_tail hq)
          have hlt : L.tail.length ≤ 10 := by rw [List.length_tail]; omega
          have d1 := of37_ctr g hp false L.tail okt (by omega)
          have d2 := matchL_ctr g he (ofL L.tail) (by have := ofL_len okt; omega) false L hL ok _ (parse_ofL okt hlt) false (iff_of_false (by simp) (less_no hne))
          obtain ⟨ok2, no2⟩ := lastUp_ok ok hne
          have hll : (lastUp L).length = L.length := by unfold lastUp; rw [List.length_set]
          have d3 := matchL_ctr g he (ofL (lastUp L)) (by have := ofL_len ok2; omega) false L hL ok _ (parse_ofL ok2 (by omega)) false (iff_of_false (by simp) no2)
          have d4 := matchL_ctr g he (ofL L ++ [32, 42, 58, 42]) (by simp; omega) false L hL ok _ (more_parse ok h10) false (iff_of_false (by simp) more_no)
          have hw : IntKind.i64.wrap (((L.map rowU).length : Int) - 1) = ((L.length - 1 : Nat) : Int) := by rw [hLm, IntKind.wrap_i64]; omega
          have hlt1 : L.length - 1 < L.length := by omega
          have okq := ok L[L.length - 1] (by simp)
          have hup : (lastUp L).map rowU = (L.map rowU).set (L.length - 1) (rowU (L[L.length - 1].set 0 ((L[L.length - 1].getD 0 0 + 1) % 65536))) := by
            unfold lastUp
            rw [List.map_set, List.getD, List.getElem?_eq_getElem hlt1]; rfl
          generalize hqi : L[L.length - 1] = q at *
          obtain ⟨q0, q1, q2, q3, q4, q5, q6, q7, rfl⟩ := eight okq.1
          have hw16 : IntKind.u16.wrap ((q0 : Int) + 1) = (((q0 + 1) % 65536 : Nat) : Int) := by rw [IntKind.wrap_u16]; omega
          conv => whnf
          repeat' (first | (refine And.intro (by first | exact rfl | decide | exact Nat.le_of_ble_eq_true rfl | exact ⟨_, rfl⟩ | exact ⟨_, _, rfl⟩ | exact Nat.le_refl _ | exact Int.le_refl _ | omega | (simp only [List.length_map]; omega) | exact True.intro | (simp only [IntKind.wrap_i64, List.length_map]; omega) | (simp only [Option.getD]; omega) | (simp only []; omega) | exact ⟨⟨_, _, rfl, rfl, Nat.le_of_ble_eq_true rfl⟩, trivial⟩ | exact ⟨⟨_, _, rfl, rfl, Nat.le_of_ble_eq_true rfl⟩, ⟨_, _, rfl, rfl, Nat.le_of_ble_eq_true rfl⟩, trivial⟩ | exact ⟨⟨_, _, rfl, rfl, Nat.le_of_ble_eq_true rfl⟩, ⟨_, _, rfl, rfl, Nat.le_of_ble_eq_true rfl⟩, ⟨_, _, rfl, rfl, Nat.le_of_ble_eq_true rfl⟩, trivial⟩) ?_; conv => whnf) | (refine ifB_intro (fun hA => ?_) (fun hA => ?_) <;> (try rw [hA]) <;> (conv => whnf) <;> (first | replace hA := of_decide_eq_true hA | replace hA := of_decide_eq_false hA | replace hA := eq_of_beq hA | replace hA := ne_of_beq_false hA | replace hA := bne_iff_ne.1 hA | replace hA := bne_eq_false_iff_eq.1 hA | skip) <;> (try simp only [List.length_map] at hA)) | (exfalso; omega) | (erw [hdrop]; conv => whnf) | (refine CallP.det (d1) ?_; conv => whnf) | (refine CallD.det (d1) ?_; conv => whnf) | (refine CallP.det (d2) ?_; conv => whnf) | (refine CallD.det (d2) ?_; conv => whnf) | (refine DrawP.intro (X := ax g) (id := 23) B6_23 (by kernel_rfl) (by decide +kernel) ?_; conv => whnf) | (rw [hw]; conv => whnf) | (erw [getD_map0 rowU L (L.length - 1) [] hlt1, hqi]; conv => whnf) | (rw [hw16]; conv => whnf) | (rw [getD_map _ _ _ _ (by assumption)]; conv => whnf))
          have hgl := of_give g hp 77 (lastUp L) ok2 (by omega)
          refine CallP.arg (args' := [.msl 77 (lastUp L).length 0 (lastUp L).length]) (by rw [hLm, hll]) ?_
          refine CallP.give 77 8 24 ((lastUp L).map rowU) ?_ hgl ?_
          · show some (AObj.buf 8 24 (List.set (L.map rowU) (0 + ((L.length - 1 : Nat) : Int).toNat) (splice (rowU [q0, q1, q2, q3, q4, q5, q6, q7]) [D.v (.int .u16 (((q0 + 1) % 65536 : Nat) : Int))] 0))) = _
            rw [show 0 + ((L.length - 1 : Nat) : Int).toNat = L.length - 1 from by omega, hup]
            rfl
          · conv => whnf
            repeat' (first | (refine And.intro (by first | exact rfl | decide | exact Nat.le_of_ble_eq_true rfl | exact ⟨_, rfl⟩ | exact ⟨_, _, rfl⟩ | exact Nat.le_refl _ | exact Int.le_refl _ | omega | (simp only [List.length_map]; omega) | exact True.intro | (simp only [IntKind.wrap_i64, List.length_map]; omega) | (simp only [List.map_cons, List.map_nil, List.length_cons, Option.getD]; omega) | (simp only [bsz, List.size_toArray, List.length_cons, List.length_nil]; omega) | exact ⟨⟨_, _, rfl, rfl, Nat.le_of_ble_eq_true rfl⟩, trivial⟩ | exact ⟨⟨_, _, rfl, rfl, Nat.le_of_ble_eq_true rfl⟩, ⟨_, _, rfl, rfl, Nat.le_of_ble_eq_true rfl⟩, trivial⟩ | exact ⟨⟨_, _, rfl, rfl, Nat.le_of_ble_eq_true rfl⟩, ⟨_, _, rfl, rfl, Nat.le_of_ble_eq_true rfl⟩, ⟨_, _, rfl, rfl, Nat.le_of_ble_eq_true rfl⟩, trivial⟩) ?_; conv => whnf) | (refine ifB_intro (fun hA => ?_) (fun hA => ?_) <;> (try rw [hA]) <;> (conv => whnf) <;> (first | replace hA := of_decide_eq_true hA | replace hA := of_decide_eq_false hA | replace hA := eq_of_beq hA | replace hA := ne_of_beq_false hA | replace hA := bne_iff_ne.1 hA | replace hA := bne_eq_false_iff_eq.1 hA | skip) <;> (try simp only [List.length_map, cond_true, cond_false, Bool.not_eq_true', Bool.not_eq_false', beq_iff_eq, beq_eq_false_iff_ne, ne_eq] at hA)) | (refine CallP.det (d3) ?_; conv => whnf) | (refine CallD.det (d3) ?_; conv => whnf) | (erw [hE3]; conv => whnf) | (refine CallP.det (d4) ?_; conv => whnf) | (refine CallD.det (d4) ?_; conv => whnf) | (refine And.intro (by simp only [ByteArray.size_append, bsz, List.size_toArray, List.length_cons, List.length_nil]; omega) ?_; conv => whnf) | (rw [getD_map _ _ _ _ (by assumption)]; conv => whnf))
            refine ⟨⟨[], ?_⟩⟩
            conv => whnf
            rfl
  · refine Ctr.body (X := ax g) _ 124 [] [.tmp 2] Tryd.func6 rfl rfl rfl rfl (by decide +kernel) rfl rfl ?_
    conv => whnf
    repeat' (first | (refine And.intro (by first | exact rfl | decide | exact Nat.le_of_ble_eq_true rfl | exact ⟨_, rfl⟩ | exact ⟨_, _, rfl⟩ | exact Nat.le_refl _ | exact Int.le_refl _ | omega | (simp only [List.length_map]; omega) | exact True.intro | (simp only [IntKind.wrap_i64, List.length_map]; omega) | (simp only [List.map_cons, List.map_nil, List.length_cons, Option.getD]; omega) | (simp only [bsz, ByteArray.size_append, List.size_toArray, List.length_cons, List.length_nil]; omega) | exact ⟨⟨_, _, rfl, rfl, Nat.le_of_ble_eq_true rfl⟩, trivial⟩ | exact ⟨⟨_, _, rfl, rfl, Nat.le_of_ble_eq_true rfl⟩, ⟨_, _, rfl, rfl, Nat.le_of_ble_eq_true rfl⟩, trivial⟩ | exact ⟨⟨_, _, rfl, rfl, Nat.le_of_ble_eq_true rfl⟩, ⟨_, _, rfl, rfl, Nat.le_of_ble_eq_true rfl⟩, ⟨_, _, rfl, rfl, Nat.le_of_ble_eq_true rfl⟩, trivial⟩) ?_; conv => whnf) | (refine ifB_intro (fun hA => ?_) (fun hA => ?_) <;> (try rw [hA]) <;> (conv => whnf) <;> (first | replace hA := of_decide_eq_true hA | replace hA := of_decide_eq_false hA | replace hA := eq_of_beq hA | replace hA := ne_of_beq_false hA | replace hA := bne_iff_ne.1 hA | replace hA := bne_eq_false_iff_eq.1 hA | skip) <;> (try simp only [List.length_map] at hA)) | (refine CallP.det (h0) ?_; conv => whnf) | (refine CallD.det (h0) ?_; conv => whnf) | (exfalso; omega) | (rw [getD_map _ _ _ _ (by assumption)]; conv => whnf))
    refine ⟨⟨[], ?_⟩⟩
    conv => whnf
end Go.Ax

namespace Go.Ax
open Go.Proofs Go.RowKit Go.Shelf Go.Lib Go.ChangeShapes
inductive Sh where
  | int (k : IntKind)
  | bool
  | str
  | sl (bytes : Nat) (es : List Sh)
def rep {α : Type} (l : List α) : Nat → List α
  | 0 => []
  | n + 1 => l ++ rep l n
def shFs (P : Program) (go : TypeId → Option (List Sh)) : List Field → Nat → Option (List Sh)
  | [], _ => some []
  | f :: r, off => if f.offset = off then (go f.type).bind fun es => if es.length = P.cellsOf f.type then (shFs P go r (off + es.length)).map (es ++ ·) else none else none
def shOf (P : Program) : Nat → TypeId → Option (List Sh)
  | 0, _ => none
  | f + 1, t => match P.underlying t with
    | some .bool => some [.bool]
    | some (.int k) => some [.int k]
    | some .string => some [.str]
    | some (.slice e) => (shOf P f e).bind fun es => if es.length = P.cellsOf e ∧ 0 < es.length then some [.sl (P.bytesOf e) es] else none
    | some (.struct fs) => (shFs P (shOf P f) fs.toList 0).bind fun es => if es.length = P.cellsOf t then some es else none
    | some (.array n e) => (shOf P f e).bind fun es => if es.length = P.cellsOf e ∧ n * es.length = P.cellsOf t then some (rep es n) else none
    | _ => none
inductive Fit : Sh → D → Prop
  | int (k : IntKind) (n : Int) (h : (Lit.int k n).wf = true) : Fit (.int k) (.v (.int k n))
  | bool (b : Bool) : Fit .bool (.v (.bool b))
  | str (s : ByteArray) (h : s.size ≤ reachBytes) : Fit .str (.v (.string s))
  | sl (bytes : Nat) (es : List Sh) (els : List (List D)) (hlen : els.length * bytes ≤ reachBytes) (hel : ∀ el ∈ els, el.length = es.length) (hf : ∀ el ∈ els, ∀ (i : Nat) (s : Sh) (x : D), es[i]? = some s → el[i]? = some x → Fit s x) : Fit (.sl bytes es) (.sl false es.length els)
def CV (W : World) (cs : List Value) (shs : List Sh) : Prop := ∃ ds : List D, ds.length = shs.length ∧ cs.length = shs.length ∧ ∀ (i : Nat) (v : Value) (x : D) (s : Sh), cs[i]? = some v → ds[i]? = some x → shs[i]? = some s → RD (hp W) (fun b => b < W.heap.size) v x ∧ Fit s x
theorem CV.nil (W : World) : CV W [] [] := ⟨[], rfl, rfl, fun i v x s h => by simp at h⟩
theorem CV.one {W : World} {v : Value} {x : D} {s : Sh} (h1 : RD (hp W) (fun b => b < W.heap.size) v x) (h2 : Fit s x) : CV W [v] [s] := ⟨[x], rfl, rfl, fun i v' x' s' e1 e2 e3 => by
  cases i with
  | zero => simp at e1 e2 e3; subst e1; subst e2; subst e3; exact ⟨h1, h2⟩
  | succ i => simp at e1⟩
theorem CV.append {W : World} {c1 c2 : List Value} {s1 s2 : List Sh} (h1 : CV W c1 s1) (h2 : CV W c2 s2) : CV W (c1 ++ c2) (s1 ++ s2) := by
  obtain ⟨d1, a1, b1, g1⟩ := h1
  obtain ⟨d2, a2, b2, g2⟩ := h2
  refine ⟨d1 ++ d2, by simp [a1, a2], by simp [b1, b2], fun i v x s e1 e2 e3 => ?_⟩
  rcases Nat.lt_or_ge i s1.length with h | h
  · rw [List.getElem?_append_left (by omega)] at e1 e2 e3
    exact g1 i v x s e1 e2 e3
  · rw [List.getElem?_append_right (by omega)] at e1 e2 e3
    rw [b1] at e1; rw [a1] at e2
    exact g2 _ v x s e1 e2 e3
theorem data_len (s : ByteArray) : s.data.toList.length = s.size := by rw [Array.length_toList]; rfl
theorem weights_mem_all {H : Type} {P : Program} {e : TypeId} : ∀ {ds : List (DataW H)} {j : Nat} {d : DataW H}, ds[j]? = some d → ∀ n ∈ d.weights P e, n ∈ DataW.weightsAll P e ds
  | [], _, _, hd, _, _ => by simp at hd
  | d0 :: ds, 0, d, hd, n, hn => by
    simp at hd; subst hd
    simp only [DataW.weightsAll, List.mem_append]; exact .inl hn
  | d0 :: ds, j + 1, d, hd, n, hn => by
    simp only [List.getElem?_cons_succ] at hd
    simp only [DataW.weightsAll, List.mem_append]; exact .inr (weights_mem_all hd n hn)
section
variable {H : Type} {enc : TypeId × Value → H} {P : Program} {W : World} {sp : Nat → Bool} {held : Bool}
theorem cv_fields {n : Nat} {go : TypeId → Option (List Sh)} {cs : List Value} (ih : ∀ (t : TypeId) (c : List Value) (x : DataW H × List MemPlace) (shs : List Sh), DataW.trod enc P W 0 sp held n t c = some x → (∀ m ∈ x.1.weights P t, m ≤ reachBytes) → go t = some shs → CV W c shs) :
    ∀ (fl : List Field) (off : Nat) (es : List Sh), shFs P go fl off = some es → (∀ f ∈ fl, ∃ y, DataW.trod enc P W 0 sp held n f.type ((cs.drop f.offset).take (P.cellsOf f.type)) = some y ∧ ∀ m ∈ y.1.weights P f.type, m ≤ reachBytes) → CV W ((cs.drop off).take es.length) es
  | [], off, es, h, _ => by
    simp only [shFs] at h; injection h with h; subst h
    simpa using CV.nil W
  | f :: r, off, es, h, hf => by
    simp only [shFs] at h
    split at h
    · rename_i ho
      cases hg : go f.type with
      | none => rw [hg] at h; simp at h
      | some e1 =>
        rw [hg, Option.bind_some] at h
        split at h
        · rename_i hl
          cases hr : shFs P go r (off + e1.length) with
          | none => rw [hr] at h; simp at h
          | some e2 =>
            rw [hr, Option.map_some] at h
            injection h with h; subst h
            obtain ⟨y, hy, hw⟩ := hf f (by simp)
            have c1 := ih f.type _ y e1 hy hw hg
            rw [ho, ← hl] at c1
            have c2 := cv_fields ih r (off + e1.length) e2 hr fun f' h' => hf f' (by simp [h'])
            have := c1.append c2
            rw [List.length_append, List.take_add, List.drop_drop]
            exact this
        · exact absurd h (by simp)
    · exact absurd h (by simp)
theorem cv_rep {c : Nat} {es : List Sh} {cs : List Value} (hes : es.length = c) : ∀ (k off : Nat), (∀ i, i < k → CV W ((cs.drop ((off + i) * c)).take c) es) → CV W ((cs.drop (off * c)).take (k * c)) (rep es k)
  | 0, off, _ => by simpa [rep] using CV.nil W
  | k + 1, off, h => by
    have h0 := h 0 (by omega)
    rw [Nat.add_zero] at h0
    have h1 := cv_rep hes k (off + 1) fun i hi => by
      have := h (i + 1) (by omega)
      rwa [show off + (i + 1) = off + 1 + i by omega] at this
    rw [rep, show (k + 1) * c = c + k * c by rw [Nat.succ_mul, Nat.add_comm], List.take_add, List.drop_drop, show off * c + c = (off + 1) * c by rw [Nat.succ_mul]]
    exact h0.append h1
theorem cell_heap {w : World} {a : Addr} {v : Value} (h : w.cell? a = some v) : a.spot = none ∧ ∃ cs t fz, w.heap[a.block]? = some (.cells cs t fz) ∧ cs[a.off]? = some v := by
  unfold World.cell? at h
  split at h
  · rename_i c t fz hb
    split at h
    · exact absurd h (by simp)
    · rename_i hs
      exact ⟨by simpa using hs, c, t, fz, hb, h⟩
  · exact absurd h (by simp)
theorem add_block (a : Addr) (n : Nat) : (a.add n).block = a.block := by unfold Addr.add; split <;> rfl
theorem add_off (a : Addr) (n : Nat) : (a.add n).off = a.off + n := by unfold Addr.add; split <;> simp_all
theorem conv : ∀ (fuel : Nat) (t : TypeId) (cs : List Value) (x : DataW H × List MemPlace) (f2 : Nat) (shs : List Sh), DataW.trod enc P W 0 sp held fuel t cs = some x → (∀ m ∈ x.1.weights P t, m ≤ reachBytes) → shOf P f2 t = some shs → CV W cs shs
  | 0, t, cs, x, f2, shs, h, _, _ => by simp [DataW.trod] at h
  | fuel + 1, t, cs, x, 0, shs, h, _, hs => by simp [shOf] at hs
  | fuel + 1, t, cs, x, f2 + 1, shs, h, hw, hs => by
    simp only [shOf] at hs
    split at hs
    · rename_i hu
      injection hs with hs; subst hs
      obtain ⟨b, rfl, rfl⟩ := DataW.trod_bool hu h
      exact CV.one (.v _ rfl) (.bool b)
    · rename_i k hu
      injection hs with hs; subst hs
      obtain ⟨n, rfl, rfl, hwf⟩ := DataW.trod_int hu h
      exact CV.one (.v _ rfl) (.int k n hwf)
    · rename_i hu
      injection hs with hs; subst hs
      obtain ⟨s, rfl, rfl, hsz⟩ := DataW.trod_string hu h
      exact CV.one (.v _ rfl) (.str s (by have := hw s.data.toList.length (by simp [DataW.weights]); rw [data_len] at this; exact this))
    · rename_i e hu
      cases hg : shOf P f2 e with
      | none => rw [hg] at hs; simp at hs
      | some es =>
        rw [hg, Option.bind_some] at hs
        split at hs
        · rename_i hl
          obtain ⟨hl, hpos⟩ := hl
          injection hs with hs; subst hs
          rcases DataW.trod_slice hu h with ⟨rfl, rfl⟩ | ⟨a, len, cap, elems, rest, n, hn, rfl, rfl, _, hlc, _, hlen, hel, _, _⟩
          · exact CV.one (.nil false es.length none 0 (by simp)) (.sl _ es [] (by simp) (by simp) (by simp))
          · injection hn with hn; subst hn
            have hwt : len * P.bytesOf e ≤ reachBytes := by
              have := hw ((elems.length + rest.length) * P.bytesOf e) (by simp [DataW.weights, hu])
              exact Nat.le_trans (Nat.mul_le_mul_right _ (by omega)) this
            have hch : ∀ i : Fin len, ∃ ce : List Value, W.cells? 0 (a.add (i.val * P.cellsOf e)) (P.cellsOf e) = some ce ∧ CV W ce es := fun i => by
              have h1 := hel i.val i.isLt
              have hi : i.val < elems.length := by rw [hlen]; exact i.isLt
              rw [List.getElem?_eq_getElem hi] at h1
              cases hc : W.cells? 0 (a.add (i.val * P.cellsOf e)) (P.cellsOf e) with
              | none => rw [hc] at h1; simp at h1
              | some ce =>
                rw [hc, Option.bind_some] at h1
                refine ⟨ce, rfl, conv fuel e ce _ f2 es h1 (fun m hm => hw m ?_) hg⟩
                have hj : (elems.map (·.1))[i.val]? = some (elems[i.val]).1 := by simp [hi]
                have := weights_mem_all (P := P) (e := e) hj m hm
                simp only [DataW.weights, hu, List.mem_cons, List.mem_append]
                exact .inr (.inl this)
            have key : ∀ i : Fin len, ∃ ds : List D, ds.length = es.length ∧ ∀ (j : Nat) (x : D), ds[j]? = some x → ∃ v, W.cell? ((a.add (i.val * P.cellsOf e)).add j) = some v ∧ RD (hp W) (fun b => b < W.heap.size) v x ∧ ∀ s, es[j]? = some s → Fit s x := fun i => by
              obtain ⟨ce, hc, ds, g1, g2, g3⟩ := hch i
              obtain ⟨_, hcl, hcc⟩ := World.cells?_some hc
              refine ⟨ds, g1, fun j x hx => ?_⟩
              have hj : j < ds.length := (List.getElem?_eq_some_iff.1 hx).1
              have hjc : ce[j]? = some (ce[j]'(by omega)) := List.getElem?_eq_getElem (by omega)
              have hjs : es[j]? = some (es[j]'(by omega)) := List.getElem?_eq_getElem (by omega)
              obtain ⟨r1, r2⟩ := g3 j _ x _ hjc hx hjs
              exact ⟨_, by rw [hcc j (by omega), hjc], r1, fun s hs => by rw [hjs] at hs; injection hs with hs; subst hs; exact r2⟩
            let els : List (List D) := List.ofFn fun i : Fin len => Classical.choose (key i)
            have hlenE : els.length = len := by simp [els]
            have hat : ∀ (i : Nat) (el : List D), els[i]? = some el → ∃ hi : i < len, el = Classical.choose (key ⟨i, hi⟩) := fun i el he => by
              have hi : i < els.length := (List.getElem?_eq_some_iff.1 he).1
              have hi' : i < len := by rw [← hlenE]; exact hi
              refine ⟨hi', ?_⟩
              rw [List.getElem?_eq_getElem hi] at he
              injection he with he
              rw [← he]; simp [els]
            have hmem : ∀ el ∈ els, ∃ i : Fin len, el = Classical.choose (key i) := fun el he => by
              obtain ⟨i, hi⟩ := List.getElem?_of_mem he
              obtain ⟨h1, h2⟩ := hat i el hi
              exact ⟨⟨i, h1⟩, h2⟩
            have hfit : Fit (.sl (P.bytesOf e) es) (.sl false es.length els) := .sl _ es els (by rw [hlenE]; exact hwt) (fun el he => by obtain ⟨i, rfl⟩ := hmem el he; exact (Classical.choose_spec (key i)).1) fun el he j s x h1 h2 => by
              obtain ⟨i, rfl⟩ := hmem el he
              obtain ⟨v, _, _, h5⟩ := (Classical.choose_spec (key i)).2 j x h2
              exact h5 s h1
            refine CV.one ?_ hfit
            rcases Nat.eq_zero_or_pos len with h0 | h0
            · subst h0
              have : els = [] := List.eq_nil_of_length_eq_zero hlenE
              rw [this]
              exact .nil false es.length _ cap (by simp)
            · have hcell : ∀ (i : Nat) (hi : i < len) (j : Nat) (x : D), (Classical.choose (key ⟨i, hi⟩))[j]? = some x → ∃ v cs t fz, W.heap[a.block]? = some (.cells cs t fz) ∧ cs[a.off + (i * es.length + j)]? = some v ∧ RD (hp W) (fun b => b < W.heap.size) v x := fun i hi j x hx => by
                obtain ⟨v, hv, hr, _⟩ := (Classical.choose_spec (key ⟨i, hi⟩)).2 j x hx
                obtain ⟨_, cs, t', fz, q2, q3⟩ := cell_heap hv
                rw [add_block, add_block] at q2
                rw [add_off, add_off, ← hl] at q3
                exact ⟨v, cs, t', fz, q2, by rwa [Nat.add_assoc] at q3, hr⟩
              have hx0 : ∃ x, (Classical.choose (key ⟨0, h0⟩))[0]? = some x := ⟨_, List.getElem?_eq_getElem (by rw [(Classical.choose_spec (key ⟨0, h0⟩)).1]; exact hpos)⟩
              obtain ⟨x0, hx0⟩ := hx0
              have hspot : a.spot = none := by
                obtain ⟨v, hv, _⟩ := (Classical.choose_spec (key ⟨0, h0⟩)).2 0 x0 hx0
                have := (cell_heap hv).1
                simpa [Addr.add] using this
              have hblk : a.block < W.heap.size := by
                obtain ⟨v, cs, t', fz, q2, _⟩ := hcell 0 h0 0 x0 hx0
                exact (Array.getElem?_eq_some_iff.1 q2).1
              obtain ⟨ab, ao, asp⟩ := a
              simp only at hspot
              subst hspot
              let f : Nat → Nat → Value := fun i j => ((W.heap[ab]?).bind fun o => match o with
                | .cells cs _ _ => cs[ao + (i * es.length + j)]?
                | _ => none).getD undef
              have hfv : ∀ (i j : Nat) (v : Value) (cs : Array Value) (t' : TypeId) (fz : Nat × Nat), W.heap[ab]? = some (.cells cs t' fz) → cs[ao + (i * es.length + j)]? = some v → f i j = v := fun i j v cs t' fz q2 q3 => by
                simp only [f, q2, Option.bind_some, q3, Option.getD_some]
              have := RD.sl (h := hp W) (Im := fun b => b < W.heap.size) false es.length els ab ao cap f (fun el he => by obtain ⟨i, rfl⟩ := hmem el he; exact (Classical.choose_spec (key i)).1) hblk (by rw [hlenE]; exact hlc) (by simp) (fun i j el x h1 h2 => by
                  obtain ⟨hi, rfl⟩ := hat i el h1
                  obtain ⟨v, cs, t', fz, q2, q3, q4⟩ := hcell i hi j x h2
                  exact ⟨cs, t', fz, q2, by rw [hfv i j v cs t' fz q2 q3]; exact q3⟩) (fun i j el x h1 h2 => by
                  obtain ⟨hi, rfl⟩ := hat i el h1
                  obtain ⟨v, cs, t', fz, q2, q3, q4⟩ := hcell i hi j x h2
                  rw [hfv i j v cs t' fz q2 q3]; exact q4)
              rw [hlenE] at this
              exact this
        · exact absurd hs (by simp)
    · rename_i fs hu
      cases hg : shFs P (shOf P f2) fs.toList 0 with
      | none => rw [hg] at hs; simp at hs
      | some es =>
        rw [hg, Option.bind_some] at hs
        split at hs
        · rename_i hl
          injection hs with hs; subst hs
          obtain ⟨xs, n, hn, rfl, hcl, hxl, hx⟩ := DataW.trod_struct hu h
          injection hn with hn; subst hn
          have := cv_fields (cs := cs) (fun t c x shs h1 h2 h3 => conv fuel t c x f2 shs h1 h2 h3) fs.toList 0 es hg fun f hf => by
            obtain ⟨i, hi⟩ := List.getElem?_of_mem hf
            have hi' : fs[i]? = some f := by simpa using hi
            have h1 := hx i f hi'
            have hlt : i < xs.length := by rw [hxl]; exact (Array.getElem?_eq_some_iff.1 hi').1
            rw [List.getElem?_eq_getElem hlt] at h1
            refine ⟨_, h1, fun m hm => hw m ?_⟩
            simp only [DataW.weights, hu]
            exact DataW.weights_mem_each (j := i) (t := f.type) (d := xs[i].1) (by simp [hi']) (by simp [hlt]) m hm
          rw [List.drop_zero, List.take_of_length_le (by omega)] at this
          exact this
        · exact absurd hs (by simp)
    · rename_i n e hu
      cases hg : shOf P f2 e with
      | none => rw [hg] at hs; simp at hs
      | some es =>
        rw [hg, Option.bind_some] at hs
        split at hs
        · rename_i hl
          injection hs with hs; subst hs
          obtain ⟨xs, k, hn, rfl, hcl, hxl, hx⟩ := DataW.trod_array hu h
          injection hn with hn; subst hn
          have := cv_rep (W := W) (cs := cs) hl.1 n 0 fun i hi => by
            have h1 := hx i hi
            have hlt : i < xs.length := by rw [hxl]; exact hi
            rw [List.getElem?_eq_getElem hlt] at h1
            rw [Nat.zero_add]
            refine conv fuel e _ _ f2 es h1 (fun m hm => hw m ?_) hg
            simp only [DataW.weights, hu]
            exact weights_mem_all (j := i) (d := xs[i].1) (by simp [hlt]) m hm
          rw [Nat.zero_mul, List.drop_zero, List.take_of_length_le (by rw [hcl, ← hl.2, hl.1]; exact Nat.le_refl _)] at this
          exact this
        · exact absurd hs (by simp)
    · exact absurd hs (by simp)
theorem cv_slice {r : Reach} {b0 : Nat} {t e : TypeId} {v : Value} {d : DataW H} {ps : List MemPlace} {f2 b : Nat} {es : List Sh} (ht : P.underlying t = some (.slice e)) (hval : Value.okWide P W r b0 t v) (h : DataW.Trod enc P W 0 sp held t v d ps) (hw : ∀ m ∈ d.weights P t, m ≤ reachBytes) (hs : shOf P f2 t = some [.sl b es]) :
    v.oneCell' = true ∧ ∃ els, RD (hp W) (fun b => b < W.heap.size) v (.sl false es.length els) ∧ Fit (.sl b es) (.sl false es.length els) := by
  obtain ⟨a, n, c, rfl⟩ := WideShapes.okWide_slice ht hval
  obtain ⟨fuel, hf⟩ := h
  obtain ⟨ds, h1, h2, h3⟩ := conv fuel t _ _ f2 _ hf hw hs
  have hd : ds[0]? = some (ds[0]'(by rw [h1]; simp)) := List.getElem?_eq_getElem _
  obtain ⟨g1, g2⟩ := h3 0 _ _ (.sl b es) rfl hd rfl
  refine ⟨rfl, ?_⟩
  generalize ds[0]'(by rw [h1]; simp) = x at g1 g2
  cases g2 with
  | sl _ _ els q1 q2 q3 => exact ⟨els, g1, .sl _ _ els q1 q2 q3⟩
theorem rows_of {α : Type} (row : α → List D) (p : α → Prop) : ∀ {els : List (List D)}, (∀ el ∈ els, ∃ a, el = row a ∧ p a) → ∃ l : List α, els = l.map row ∧ ∀ a ∈ l, p a
  | [], _ => ⟨[], rfl, by simp⟩
  | el :: els, h => by
    obtain ⟨a, ha, hp⟩ := h el (by simp)
    obtain ⟨l, hl, hq⟩ := rows_of row p (els := els) fun e he => h e (by simp [he])
    exact ⟨a :: l, by rw [ha, hl]; rfl, fun x hx => by rcases List.mem_cons.1 hx with rfl | hx; exact hp; exact hq x hx⟩
end
theorem fit_u16 {x : D} (h : Fit (.int .u16) x) : ∃ n : Int, x = .u16 n ∧ 0 ≤ n ∧ n < 65536 := by
  cases h with
  | int _ k hk => exact ⟨k, rfl, by simp [Lit.wf, IntKind.min, IntKind.max, IntKind.bits, IntKind.signed] at hk; omega⟩
end Go.Ax

namespace Go.Ax
open Go.Proofs Go.RowKit Go.Shelf Go.Lib Go.ChangeShapes
theorem u16s_of : ∀ {ds : List D}, (∀ x ∈ ds, Fit (.int .u16) x) → ∃ p : List Nat, ds = rowU p ∧ ∀ n ∈ p, n < 65536
  | [], _ => ⟨[], rfl, by simp⟩
  | x :: ds, h => by
    obtain ⟨n, rfl, h1, h2⟩ := fit_u16 (h x (by simp))
    obtain ⟨p, rfl, hp⟩ := u16s_of (ds := ds) fun y hy => h y (List.mem_cons_of_mem _ hy)
    obtain ⟨m, rfl⟩ := Int.eq_ofNat_of_zero_le h1
    refine ⟨m :: p, rfl, fun k hk => ?_⟩
    rcases List.mem_cons.1 hk with rfl | hk
    · omega
    · exact hp k hk
theorem packet_of {ds : List D} (hl : ds.length = 8) (hf : ∀ (i : Nat) (x : D) (s : Sh), ds[i]? = some x → (List.replicate 8 (Sh.int .u16))[i]? = some s → Fit s x) : ∃ p, ds = rowU p ∧ OkK p := by
  obtain ⟨p, rfl, hp⟩ := u16s_of (ds := ds) fun x hx => by
    obtain ⟨i, hi⟩ := List.getElem?_of_mem hx
    have h8 : i < 8 := by have := (List.getElem?_eq_some_iff.1 hi).1; omega
    exact hf i x (.int .u16) hi (by rw [List.getElem?_replicate, if_pos h8])
  rw [rowU_len] at hl
  exact ⟨p, rfl, hl, fun i hi => by
    have : i < p.length := by omega
    simpa [List.getD, this] using hp p[i] (List.getElem_mem this)⟩
end Go.Ax

namespace Go.Ax
open Go.Proofs Go.RowKit Go.Shelf Go.Lib Go.ChangeShapes
theorem packets_of {b : Nat} {x : D} (h : Fit (.sl b (List.replicate 8 (.int .u16))) x) : ∃ l : List (List Nat), x = .sl false 8 (l.map rowU) ∧ (∀ q ∈ l, OkK q) ∧ l.length * b ≤ reachBytes := by
  cases h with
  | sl _ _ e0 a0 b0 c0 =>
    obtain ⟨l0, r0, q0⟩ := rows_of rowU OkK (els := e0) fun el he => by
      obtain ⟨p, hp, ok⟩ := packet_of (ds := el) (by rw [b0 el he]; simp) fun i y s h1 h2 => c0 el he i s y h2 h1
      exact ⟨p, hp, ok⟩
    subst r0
    exact ⟨l0, rfl, q0, by simpa using a0⟩
end Go.Ax
