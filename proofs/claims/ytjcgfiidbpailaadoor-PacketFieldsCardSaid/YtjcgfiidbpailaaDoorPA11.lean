/- What the card of this claim stands on, or the card itself: for every input, as the given row says. -/
import Derived.Test.YtjcgfiidbpailaaDoorPA08
import Derived.Test.YtjcgfiidbpailaaDoorPA10

namespace Go.Ax
open Go.Proofs
set_option maxRecDepth 10000
theorem rowU2 (a b : Nat) : rowU [a, b] = [.u16 a, .u16 b] := rfl
theorem own_len (a : List Nat) : (ownF a).length = 8 := by simp [ownF]
theorem own_take (a : List Nat) (i : Nat) (h : i < 8) : (ownF a).take (i + 1) = (ownF a).take i ++ [((i : Int), ((a.getD i 0 : Nat) : Int))] := by
  rw [List.take_succ_eq_append_getElem (by rw [own_len]; exact h)]
  simp [ownF]
theorem eqU8' {p : List Nat} (h : p.length = 8) : eqAll [.int .u16, .int .u16, .int .u16, .int .u16, .int .u16, .int .u16, .int .u16, .int .u16] (cut 0 8 (rowU p)) (cut 0 8 (rowU p)) 0 = true := by
  obtain ⟨a0, a1, a2, a3, a4, a5, a6, a7, rfl⟩ := eight h
  exact eqU8 ..
theorem Ctr.nil2 {E : Env} {f : FuncId} {x : AV} {t : Bool} {sz : Nat} {post : AOut → Prop} (h : Ctr E f [x, .d (.sl t sz [])] [] post) : Ctr E f [x, .d (.v (.slice Option.none 0 0))] [] post :=
  h.le rfl fun w Im ρ i v y z h1 h2 H => by
    match i with
    | 0 => simp at h1 h2; subst h1; subst h2; exact H
    | 1 =>
      simp at h1 h2; subst h1; subst h2
      cases H with
      | d _ _ hd => exact .d _ _ (hd.le (.inr (.inl ⟨rfl, t, sz, rfl⟩)))
    | n + 2 => simp at h1
theorem phas_own (g : GP) (a : List Nat) (ha : a.length = 8) : Ctr (ax g).E 9 ([.dagg (rowU a), .msl 905 8 0 8].map (frz 905 2 ((ownF a).map rowPr))) [] (fun o => o = .ret (.bool true) []) := by
  have h := phas_ctr g a ha false (ownF a) (by rw [own_len]; decide)
  rw [has_own] at h
  simp only [List.map_cons, List.map_nil, frzE 905 2 8 ((ownF a).map rowPr) (by rw [List.length_map, own_len])]
  exact h
theorem packetHas_ctr (g : GP) (hp : ∀ w, g.G w → PowG w) (he : ∀ w, g.G w → ErrG w) (p : List Nat) (ok : p.length = 8) (f n0 n1 : Nat) (hf : f < 256) :
    Ctr (ax g).E 3 [.dagg (rowU p), .d (.v (.int .u8 f)), .dagg (rowU [n0, n1])] [] (fun o => o = .ret (.bool true) []) := by
  have h0 := awake1_ctr g hp he
  rw [rowU2]
  by_cases h7 : f < 8
  · obtain ⟨_, q2, q3, q4, q5, q6⟩ := has_law ok h7 n0 n1
    have hdo := pdo_ctr g p ok true [((f : Int), (n0 : Int)), ((f : Int), (n1 : Int))] (by simp) (by intro x hx; simp at hx; rcases hx with rfl | rfl <;> simp)
    have hwi := pwith_any g p ok (f : Int) n1
    have hal : (doF p [((f : Int), (n0 : Int)), ((f : Int), (n1 : Int))]).length = 8 := by rw [doF_len]; exact ok
    rw [← q5] at hwi
    generalize doF p [((f : Int), (n0 : Int)), ((f : Int), (n1 : Int))] = a at *
    have c1 := phas_ctr g a hal true [((f : Int), (n1 : Int))] (by simp)
    have c0 := phas_ctr g a hal true [((f : Int), (n0 : Int))] (by simp)
    have c8 := phas_ctr g a hal true [(8, 0)] (by simp)
    have cn := (pdo_ctr g a hal true [] (by simp) (by simp)).nil2
    have cg := phas_own g a hal
    rw [q2] at c1
    rw [q3] at c0
    rw [q4] at c8
    rw [q6] at cn
    have hw : IntKind.i64.wrap (f : Int) = f := i64_wrap (by omega) (by omega)
    clear q2 q3 q4 q5 q6
    obtain ⟨p0, p1, p2, p3, p4, p5, p6, p7, rfl⟩ := eight ok
    have heq := eqU8' hal
    have hget := rowU_get a
    obtain ⟨a0, a1, a2, a3, a4, a5, a6, a7, rfl⟩ := eight hal
    refine Ctr.body (X := ax g) _ 90 [] [.tmp 6] Tryd.func3 rfl rfl rfl rfl (by decide +kernel) rfl rfl ?_
    conv => whnf
    repeat' (first | (refine And.intro (by first | exact rfl | decide | exact Nat.le_of_ble_eq_true rfl | exact ⟨_, rfl⟩ | exact ⟨_, _, rfl⟩ | exact Nat.le_refl _ | exact Int.le_refl _ | omega | (simp only []; omega) | exact True.intro | (simp only [IntKind.wrap_i64]; omega) | (simp only [List.length_cons]; omega) | (simp only [List.length_cons, List.length_nil]; omega) | exact ⟨⟨_, _, rfl, rfl, Nat.le_of_ble_eq_true rfl⟩, trivial⟩ | exact ⟨⟨_, _, rfl, rfl, Nat.le_of_ble_eq_true rfl⟩, ⟨_, _, rfl, rfl, Nat.le_of_ble_eq_true rfl⟩, trivial⟩ | exact ⟨⟨_, _, rfl, rfl, Nat.le_of_ble_eq_true rfl⟩, ⟨_, _, rfl, rfl, Nat.le_of_ble_eq_true rfl⟩, ⟨_, _, rfl, rfl, Nat.le_of_ble_eq_true rfl⟩, trivial⟩) ?_; conv => whnf) | (refine ifB_intro (fun hA => ?_) (fun hA => ?_) <;> (try rw [hA]) <;> (conv => whnf) <;> (first | replace hA := of_decide_eq_true hA | replace hA := of_decide_eq_false hA | replace hA := eq_of_beq hA | replace hA := ne_of_beq_false hA | replace hA := bne_iff_ne.1 hA | replace hA := bne_eq_false_iff_eq.1 hA | skip) <;> (try simp only [List.length_map, cond_true, cond_false, Bool.not_eq_true', Bool.not_eq_false', beq_iff_eq, beq_eq_false_iff_ne, ne_eq] at hA)) | (refine CallP.det (h0) ?_; conv => whnf) | (refine CallD.det (h0) ?_; conv => whnf) | (exfalso; omega) | (rw [hw]; conv => whnf) | (refine CallP.det (hdo) ?_; conv => whnf) | (refine CallD.det (hdo) ?_; conv => whnf) | (rw [getD_map _ _ _ _ (by assumption)]; conv => whnf))
    refine LoopP.own 9 905 2 29 rfl rfl rfl ?_
    refine LoopP.inv (X := ax g) (fun i : Nat => { f := [(3, .ptr 3 0), (5, .ptr 5 0), (8, .ptr 8 0), (6, .bool false), (7, .i64 f), (9, .msl 905 i 0 i), (29, .dagg (rowU [a0, a1, a2, a3, a4, a5, a6, a7])), (30, .i64 i)], h := [(905, some (.buf 2 29 (((ownF [a0, a1, a2, a3, a4, a5, a6, a7]).take i).map rowPr))), (3, some (.dvar 8 (rowU [p0, p1, p2, p3, p4, p5, p6, p7]))), (5, some (.dvar 2 [.u16 n0, .u16 n1])), (8, some (.dvar 8 (rowU [a0, a1, a2, a3, a4, a5, a6, a7])))] }) (fun i => i ≤ 8) (fun i => 8 - i) 0 (Nat.zero_le _) ⟨⟨rfl, rfl, rfl, rfl, rfl, rfl, rfl, rfl, trivial⟩, ⟨fun o h => h, fun o h => h, fun o h => h, fun o h => h, trivial⟩⟩ fun i hi => ?_
    conv => whnf
    refine ifB_intro (fun h => ?_) (fun h => ?_)
    · have h : i < 8 := by first | (have h0 := of_decide_eq_true h; omega) | (have h0 := of_decide_eq_false h; omega) | (have h0 := h; simp at h0; omega) | (have h0 := h; simp at h0; exact h0)
      have hg := hget i (by simpa using h)
      have ht := own_take [a0, a1, a2, a3, a4, a5, a6, a7] i h
      have hlen : (((ownF [a0, a1, a2, a3, a4, a5, a6, a7]).take i).map rowPr).length = i := by rw [List.length_map, List.length_take, own_len]; omega
      conv => whnf
      repeat' (first | (refine And.intro (by first | exact rfl | decide | exact Nat.le_of_ble_eq_true rfl | exact ⟨_, rfl⟩ | exact ⟨_, _, rfl⟩ | exact Nat.le_refl _ | exact Int.le_refl _ | omega | (simp only [List.length_map]; omega) | exact True.intro | (simp only [List.length_map]; omega) | (simp only [List.map_cons, List.map_nil, List.length_cons]; omega) | (simp only [List.length_cons, List.length_nil]; omega) | exact ⟨⟨_, _, rfl, rfl, Nat.le_of_ble_eq_true rfl⟩, trivial⟩ | exact ⟨⟨_, _, rfl, rfl, Nat.le_of_ble_eq_true rfl⟩, ⟨_, _, rfl, rfl, Nat.le_of_ble_eq_true rfl⟩, trivial⟩ | exact ⟨⟨_, _, rfl, rfl, Nat.le_of_ble_eq_true rfl⟩, ⟨_, _, rfl, rfl, Nat.le_of_ble_eq_true rfl⟩, ⟨_, _, rfl, rfl, Nat.le_of_ble_eq_true rfl⟩, trivial⟩) ?_; conv => whnf) | (refine ifB_intro (fun hA => ?_) (fun hA => ?_) <;> (try rw [hA]) <;> (conv => whnf) <;> (first | replace hA := of_decide_eq_true hA | replace hA := of_decide_eq_false hA | replace hA := eq_of_beq hA | replace hA := ne_of_beq_false hA | replace hA := bne_iff_ne.1 hA | replace hA := bne_eq_false_iff_eq.1 hA | skip) <;> (try simp only [List.length_map, cond_true, cond_false, Bool.not_eq_true', Bool.not_eq_false', beq_iff_eq, beq_eq_false_iff_ne, ne_eq] at hA)) | (refine And.intro (show ((i : Int)).toNat < 8 by omega) ?_; conv => whnf) | (erw [hg]; conv => whnf) | (refine And.intro hlen.symm ?_; conv => whnf) | (refine And.intro (by show (_ + 1) * 16 ≤ 140737488355328; rw [hlen]; omega) ?_; conv => whnf) | (rw [getD_map _ _ _ _ (by assumption)]; conv => whnf))
      exact ⟨i + 1, by omega, by omega, ⟨⟨rfl, rfl, rfl, rfl, rfl, msl_eq (show (List.map rowPr _).length + 1 = i + 1 by rw [hlen]), rfl, AV.int_eq (i64_succ (by omega)), trivial⟩, ⟨fun o h => by rw [← h, ht, List.map_append]; rfl, fun o h => h, fun o h => h, fun o h => h, trivial⟩⟩⟩
    · have h : ¬ i < 8 := by first | (have h0 := of_decide_eq_true h; omega) | (have h0 := of_decide_eq_false h; omega) | (have h0 := h; simp at h0; omega) | (have h0 := h; simp at h0; exact h0)
      have : i = 8 := by omega
      subst this
      conv => whnf
      rw [show (ownF [a0, a1, a2, a3, a4, a5, a6, a7]).take 8 = ownF [a0, a1, a2, a3, a4, a5, a6, a7] from List.take_of_length_le (by rw [own_len]; exact Nat.le_refl _)]
      repeat' (first | (refine And.intro (by first | exact rfl | decide | exact Nat.le_of_ble_eq_true rfl | exact ⟨_, rfl⟩ | exact ⟨_, _, rfl⟩ | exact Nat.le_refl _ | exact Int.le_refl _ | omega | (simp only []; omega) | exact True.intro | (simp only []; omega) | (simp only [List.length_cons]; omega) | (simp only [List.length_cons, List.length_nil]; omega) | exact ⟨⟨_, _, rfl, rfl, Nat.le_of_ble_eq_true rfl⟩, trivial⟩ | exact ⟨⟨_, _, rfl, rfl, Nat.le_of_ble_eq_true rfl⟩, ⟨_, _, rfl, rfl, Nat.le_of_ble_eq_true rfl⟩, trivial⟩ | exact ⟨⟨_, _, rfl, rfl, Nat.le_of_ble_eq_true rfl⟩, ⟨_, _, rfl, rfl, Nat.le_of_ble_eq_true rfl⟩, ⟨_, _, rfl, rfl, Nat.le_of_ble_eq_true rfl⟩, trivial⟩) ?_; conv => whnf) | (refine ifB_intro (fun hA => ?_) (fun hA => ?_) <;> (try rw [hA]) <;> (conv => whnf) <;> (first | replace hA := of_decide_eq_true hA | replace hA := of_decide_eq_false hA | replace hA := eq_of_beq hA | replace hA := ne_of_beq_false hA | replace hA := bne_iff_ne.1 hA | replace hA := bne_eq_false_iff_eq.1 hA | skip) <;> (try simp only [cond_true] at hA)) | (refine DrawP.intro (X := ax g) (id := 13) B3_13 (by kernel_rfl) (by decide +kernel) ?_; conv => whnf) | (refine CallD.give 905 2 29 _ rfl cg ?_; conv => whnf) | (refine CallP.det (c1) ?_; conv => whnf) | (refine CallD.det (c1) ?_; conv => whnf) | (refine CallP.det (c0) ?_; conv => whnf) | (refine CallD.det (c0) ?_; conv => whnf) | (refine CallP.det (c8) ?_; conv => whnf) | (refine CallD.det (c8) ?_; conv => whnf) | (refine CallP.det (hwi) ?_; conv => whnf) | (refine CallD.det (hwi) ?_; conv => whnf) | (refine CallP.det (cn) ?_; conv => whnf) | (refine CallD.det (cn) ?_; conv => whnf) | (exact absurd heq hA) | (rw [getD_map _ _ _ _ (by assumption)]; conv => whnf))
      · refine ⟨⟨[], ?_⟩⟩
        conv => whnf
        exact congrArg (fun b => AOut.ret (AV.bool b) []) heq
      · exact Bool.noConfusion (heq.symm.trans hA)
      · refine absurd ?_ hA
        by_cases e : n0 = n1
        · subst e; simp
        · have e2 : ((n0 : Int) == (n1 : Int)) = false := by simp; omega
          rw [e2]; simp [e]
  · refine Ctr.body (X := ax g) _ 90 [] [.tmp 6] Tryd.func3 rfl rfl rfl rfl (by decide +kernel) rfl rfl ?_
    conv => whnf
    repeat' (first | (refine And.intro (by first | exact rfl | decide | exact Nat.le_of_ble_eq_true rfl | exact ⟨_, rfl⟩ | exact ⟨_, _, rfl⟩ | exact Nat.le_refl _ | exact Int.le_refl _ | omega | (simp only [List.length_map]; omega) | exact True.intro | (simp only [IntKind.wrap_i64, List.length_map]; omega) | (simp only [List.map_cons, List.map_nil, List.length_cons, Option.getD]; omega) | (simp only [bsz, ByteArray.size_append, List.size_toArray, List.length_cons, List.length_nil]; omega) | exact ⟨⟨_, _, rfl, rfl, Nat.le_of_ble_eq_true rfl⟩, trivial⟩ | exact ⟨⟨_, _, rfl, rfl, Nat.le_of_ble_eq_true rfl⟩, ⟨_, _, rfl, rfl, Nat.le_of_ble_eq_true rfl⟩, trivial⟩ | exact ⟨⟨_, _, rfl, rfl, Nat.le_of_ble_eq_true rfl⟩, ⟨_, _, rfl, rfl, Nat.le_of_ble_eq_true rfl⟩, ⟨_, _, rfl, rfl, Nat.le_of_ble_eq_true rfl⟩, trivial⟩) ?_; conv => whnf) | (refine ifB_intro (fun hA => ?_) (fun hA => ?_) <;> (try rw [hA]) <;> (conv => whnf) <;> (first | replace hA := of_decide_eq_true hA | replace hA := of_decide_eq_false hA | replace hA := eq_of_beq hA | replace hA := ne_of_beq_false hA | replace hA := bne_iff_ne.1 hA | replace hA := bne_eq_false_iff_eq.1 hA | skip) <;> (try simp only [List.length_map, cond_true, cond_false, Bool.not_eq_true', Bool.not_eq_false', beq_iff_eq, beq_eq_false_iff_ne, ne_eq] at hA)) | (refine CallP.det (h0) ?_; conv => whnf) | (refine CallD.det (h0) ?_; conv => whnf) | (exfalso; omega) | (rw [getD_map _ _ _ _ (by assumption)]; conv => whnf))
    refine ⟨⟨[], ?_⟩⟩
    conv => whnf
set_option maxHeartbeats 2000000 in
theorem packetFields_ctr (g : GP) (hp : ∀ w, g.G w → PowG w) (he : ∀ w, g.G w → ErrG w) (p : List Nat) (ok : p.length = 8) (f : Int) (b : Bool) (l : List (Int × Int)) (hl : l.length < 2 ^ 62) (hu : ∀ x ∈ l, 0 ≤ x.2) :
    Ctr (ax g).E 4 [.dagg (rowU p), .i64 f, .d (.sl b 2 (l.map rowPr))] [] (fun o => o = .ret (.bool true) []) := by
  have h0 := awake1_ctr g hp he
  by_cases h20 : l.length ≤ 20
  · have hw1 : IntKind.u16.wrap (l.length : Int) = l.length := by rw [IntKind.wrap_u16]; omega
    have hw2 : IntKind.u16.wrap ((l.length : Int) * 7) = ((l.length * 7 : Nat) : Int) := by rw [IntKind.wrap_u16]; omega
    have hw3 : IntKind.u16.wrap (((l.length * 7 : Nat) : Int) + 1) = ((l.length * 7 + 1 : Nat) : Int) := by rw [IntKind.wrap_u16]; omega
    have c1 := pat_ctr g p ok
    have c2 := pto_ctr g p ok (l.length * 7) (l.length * 7 + 1)
    have c3 := pname_any g f
    have c4 := pwith_any g p ok f (l.length * 7)
    have c5 := refwithp_ctr g p ok f (l.length * 7)
    have c6 := phas_ctr g p ok b l hl
    have c7 := refhasp_ctr g p ok b l hl
    have c8 := pdo_ctr g p ok b l hl hu
    have c9 := refdo_ctr g p ok b l hl hu
    have d1 := refwithp_ctr g p ok 0 (l.length * 7)
    have d2 := refwithp_ctr g (withI p 0 (l.length * 7)) (by rw [withI_len]; exact ok) 1 (l.length * 7 + 1)
    rw [show withI p 0 (l.length * 7) = p.set 0 (l.length * 7) from rfl] at d1 d2
    rw [show withI (p.set 0 (l.length * 7)) 1 (l.length * 7 + 1) = (p.set 0 (l.length * 7)).set 1 (l.length * 7 + 1) from rfl] at d2
    have n1 := names_ctr g
    have e4 := eqU8' (p := withI p f (l.length * 7)) (by rw [withI_len]; exact ok)
    have e8 := eqU8' (p := doF p l) (by rw [doF_len]; exact ok)
    have e2 := eqU8' (p := (p.set 0 (l.length * 7)).set 1 (l.length * 7 + 1)) (by simpa using ok)
    have hdl : (doF p l).length = 8 := by rw [doF_len]; exact ok
    have hwl : (withI p f (l.length * 7)).length = 8 := by rw [withI_len]; exact ok
    obtain ⟨p0, p1, p2, p3, p4, p5, p6, p7, rfl⟩ := eight ok
    generalize doF [p0, p1, p2, p3, p4, p5, p6, p7] l = q at *
    generalize withI [p0, p1, p2, p3, p4, p5, p6, p7] f (l.length * 7) = r at *
    obtain ⟨q0, q1, q2, q3, q4, q5, q6, q7, rfl⟩ := eight hdl
    obtain ⟨r0, r1, r2, r3, r4, r5, r6, r7, rfl⟩ := eight hwl
    by_cases hk : isK f = true
    · obtain ⟨i, rfl, h8⟩ := isK_nat hk
      have hn : nameI (i : Int) = nameF i := by rw [nameI, if_pos hk, Int.toNat_natCast]
      have f1 := field_ctr g (baL (nameF i))
      rw [ba_toList, (name_facts i h8).2] at f1
      rw [hn] at c3
      have hnl : i < nameL.length := h8
      have hni : nameF i = nameL[i] := by unfold nameF; rw [List.getD, List.getElem?_eq_getElem hnl]; rfl
      rw [hni] at c3 f1
      refine Ctr.body (X := ax g) _ 109 [] [.tmp 6] Tryd.func4 rfl rfl rfl rfl (by decide +kernel) rfl rfl ?_
      conv => whnf
      repeat' (first | (refine And.intro (by first | exact rfl | decide | exact Nat.le_of_ble_eq_true rfl | exact ⟨_, rfl⟩ | exact ⟨_, _, rfl⟩ | exact Nat.le_refl _ | exact Int.le_refl _ | omega | (simp only [List.length_map]; omega) | exact True.intro | (simp only [List.length_map]; omega) | (simp only [List.length_cons]; omega) | (simp only [List.length_cons, List.length_nil]; omega) | exact ⟨⟨_, _, rfl, rfl, Nat.le_of_ble_eq_true rfl⟩, trivial⟩ | exact ⟨⟨_, _, rfl, rfl, Nat.le_of_ble_eq_true rfl⟩, ⟨_, _, rfl, rfl, Nat.le_of_ble_eq_true rfl⟩, trivial⟩ | exact ⟨⟨_, _, rfl, rfl, Nat.le_of_ble_eq_true rfl⟩, ⟨_, _, rfl, rfl, Nat.le_of_ble_eq_true rfl⟩, ⟨_, _, rfl, rfl, Nat.le_of_ble_eq_true rfl⟩, trivial⟩) ?_; conv => whnf) | (refine ifB_intro (fun hA => ?_) (fun hA => ?_) <;> (try rw [hA]) <;> (conv => whnf) <;> (first | replace hA := of_decide_eq_true hA | replace hA := of_decide_eq_false hA | replace hA := eq_of_beq hA | replace hA := ne_of_beq_false hA | replace hA := bne_iff_ne.1 hA | replace hA := bne_eq_false_iff_eq.1 hA | skip) <;> (try simp only [List.length_map, cond_true, ne_eq] at hA)) | (refine CallP.det (h0) ?_; conv => whnf) | (refine CallD.det (h0) ?_; conv => whnf) | (exfalso; omega) | (refine CallP.det (n1) ?_; conv => whnf) | (refine CallD.det (n1) ?_; conv => whnf) | (rw [getD_map rowW nameL i [] hnl]; conv => whnf) | (refine CallP.det (f1) ?_; conv => whnf) | (refine CallD.det (f1) ?_; conv => whnf) | (refine CallP.det (c1) ?_; conv => whnf) | (refine CallD.det (c1) ?_; conv => whnf) | (rw [List.length_map, hw1]; conv => whnf) | (rw [hw2]; conv => whnf) | (rw [hw3]; conv => whnf) | (refine CallP.det (c2) ?_; conv => whnf) | (refine CallD.det (c2) ?_; conv => whnf) | (exact absurd rfl hA) | (refine DrawP.intro (X := ax g) (id := 14) B4_14 (by kernel_rfl) (by decide +kernel) ?_; conv => whnf) | (refine CallP.det (c3) ?_; conv => whnf) | (refine CallD.det (c3) ?_; conv => whnf) | (refine CallP.det (c4) ?_; conv => whnf) | (refine CallD.det (c4) ?_; conv => whnf) | (refine CallP.det (c5) ?_; conv => whnf) | (refine CallD.det (c5) ?_; conv => whnf) | (refine CallP.det (c6) ?_; conv => whnf) | (refine CallD.det (c6) ?_; conv => whnf) | (refine CallP.det (c7) ?_; conv => whnf) | (refine CallD.det (c7) ?_; conv => whnf) | (refine CallP.det (c8) ?_; conv => whnf) | (refine CallD.det (c8) ?_; conv => whnf) | (refine CallP.det (c9) ?_; conv => whnf) | (refine CallD.det (c9) ?_; conv => whnf) | (refine CallP.det (d1) ?_; conv => whnf) | (refine CallD.det (d1) ?_; conv => whnf) | (refine CallP.det (d2) ?_; conv => whnf) | (refine CallD.det (d2) ?_; conv => whnf) | (exact Bool.noConfusion (e4.symm.trans hA)) | (exact Bool.noConfusion (e8.symm.trans hA)) | (exact absurd e4 hA) | (exact absurd e8 hA) | (exact absurd trivial hA) | (rw [getD_map _ _ _ _ (by assumption)]; conv => whnf))
      all_goals
        refine ⟨⟨[], ?_⟩⟩
        conv => whnf
        exact congrArg (fun b => AOut.ret (AV.bool b) []) e2
    · have hn : nameI f = [] := by rw [nameI, if_neg hk]
      rw [hn] at c3
      have hk2 : ¬ (0 ≤ f ∧ f < 8) := fun e => hk (by simp [isK]; omega)
      refine Ctr.body (X := ax g) _ 109 [] [.tmp 6] Tryd.func4 rfl rfl rfl rfl (by decide +kernel) rfl rfl ?_
      conv => whnf
      repeat' (first | (refine And.intro (by first | exact rfl | decide | exact Nat.le_of_ble_eq_true rfl | exact ⟨_, rfl⟩ | exact ⟨_, _, rfl⟩ | exact Nat.le_refl _ | exact Int.le_refl _ | omega | (simp only [List.length_map]; omega) | exact True.intro | (simp only [List.length_map]; omega) | (simp only [List.length_cons]; omega) | (simp only [List.length_cons, List.length_nil]; omega) | exact ⟨⟨_, _, rfl, rfl, Nat.le_of_ble_eq_true rfl⟩, trivial⟩ | exact ⟨⟨_, _, rfl, rfl, Nat.le_of_ble_eq_true rfl⟩, ⟨_, _, rfl, rfl, Nat.le_of_ble_eq_true rfl⟩, trivial⟩ | exact ⟨⟨_, _, rfl, rfl, Nat.le_of_ble_eq_true rfl⟩, ⟨_, _, rfl, rfl, Nat.le_of_ble_eq_true rfl⟩, ⟨_, _, rfl, rfl, Nat.le_of_ble_eq_true rfl⟩, trivial⟩) ?_; conv => whnf) | (refine ifB_intro (fun hA => ?_) (fun hA => ?_) <;> (try rw [hA]) <;> (conv => whnf) <;> (first | replace hA := of_decide_eq_true hA | replace hA := of_decide_eq_false hA | replace hA := eq_of_beq hA | replace hA := ne_of_beq_false hA | replace hA := bne_iff_ne.1 hA | replace hA := bne_eq_false_iff_eq.1 hA | skip) <;> (try simp only [List.length_map, cond_true] at hA)) | (refine CallP.det (h0) ?_; conv => whnf) | (refine CallD.det (h0) ?_; conv => whnf) | (exfalso; omega) | (refine CallP.det (c1) ?_; conv => whnf) | (refine CallD.det (c1) ?_; conv => whnf) | (rw [List.length_map, hw1]; conv => whnf) | (rw [hw2]; conv => whnf) | (rw [hw3]; conv => whnf) | (refine CallP.det (c2) ?_; conv => whnf) | (refine CallD.det (c2) ?_; conv => whnf) | (exact absurd rfl hA) | (refine DrawP.intro (X := ax g) (id := 14) B4_14 (by kernel_rfl) (by decide +kernel) ?_; conv => whnf) | (refine CallP.det (c3) ?_; conv => whnf) | (refine CallD.det (c3) ?_; conv => whnf) | (refine CallP.det (c4) ?_; conv => whnf) | (refine CallD.det (c4) ?_; conv => whnf) | (refine CallP.det (c5) ?_; conv => whnf) | (refine CallD.det (c5) ?_; conv => whnf) | (refine CallP.det (c6) ?_; conv => whnf) | (refine CallD.det (c6) ?_; conv => whnf) | (refine CallP.det (c7) ?_; conv => whnf) | (refine CallD.det (c7) ?_; conv => whnf) | (refine CallP.det (c8) ?_; conv => whnf) | (refine CallD.det (c8) ?_; conv => whnf) | (refine CallP.det (c9) ?_; conv => whnf) | (refine CallD.det (c9) ?_; conv => whnf) | (refine CallP.det (d1) ?_; conv => whnf) | (refine CallD.det (d1) ?_; conv => whnf) | (refine CallP.det (d2) ?_; conv => whnf) | (refine CallD.det (d2) ?_; conv => whnf) | (exact Bool.noConfusion (e4.symm.trans hA)) | (exact Bool.noConfusion (e8.symm.trans hA)) | (exact absurd e4 hA) | (exact absurd e8 hA) | (exact absurd trivial hA) | (rw [getD_map _ _ _ _ (by assumption)]; conv => whnf))
      all_goals
        refine ⟨⟨[], ?_⟩⟩
        conv => whnf
        exact congrArg (fun b => AOut.ret (AV.bool b) []) e2
  · refine Ctr.body (X := ax g) _ 109 [] [.tmp 6] Tryd.func4 rfl rfl rfl rfl (by decide +kernel) rfl rfl ?_
    conv => whnf
    repeat' (first | (refine And.intro (by first | exact rfl | decide | exact Nat.le_of_ble_eq_true rfl | exact ⟨_, rfl⟩ | exact ⟨_, _, rfl⟩ | exact Nat.le_refl _ | exact Int.le_refl _ | omega | (simp only [List.length_map]; omega) | exact True.intro | (simp only [IntKind.wrap_i64, List.length_map]; omega) | (simp only [List.map_cons, List.map_nil, List.length_cons, Option.getD]; omega) | (simp only [bsz, ByteArray.size_append, List.size_toArray, List.length_cons, List.length_nil]; omega) | exact ⟨⟨_, _, rfl, rfl, Nat.le_of_ble_eq_true rfl⟩, trivial⟩ | exact ⟨⟨_, _, rfl, rfl, Nat.le_of_ble_eq_true rfl⟩, ⟨_, _, rfl, rfl, Nat.le_of_ble_eq_true rfl⟩, trivial⟩ | exact ⟨⟨_, _, rfl, rfl, Nat.le_of_ble_eq_true rfl⟩, ⟨_, _, rfl, rfl, Nat.le_of_ble_eq_true rfl⟩, ⟨_, _, rfl, rfl, Nat.le_of_ble_eq_true rfl⟩, trivial⟩) ?_; conv => whnf) | (refine ifB_intro (fun hA => ?_) (fun hA => ?_) <;> (try rw [hA]) <;> (conv => whnf) <;> (first | replace hA := of_decide_eq_true hA | replace hA := of_decide_eq_false hA | replace hA := eq_of_beq hA | replace hA := ne_of_beq_false hA | replace hA := bne_iff_ne.1 hA | replace hA := bne_eq_false_iff_eq.1 hA | skip) <;> (try simp only [List.length_map] at hA)) | (refine CallP.det (h0) ?_; conv => whnf) | (refine CallD.det (h0) ?_; conv => whnf) | (exfalso; omega) | (rw [getD_map _ _ _ _ (by assumption)]; conv => whnf))
    refine ⟨⟨[], ?_⟩⟩
    conv => whnf
end Go.Ax

namespace Go.Ax
open Go.Proofs Go.RowKit Go.Shelf Go.Lib Go.ChangeShapes
theorem fit_i64' {x : D} (h : Fit (.int .i64) x) : ∃ n : Int, x = .i64 n ∧ -9223372036854775808 ≤ n ∧ n < 9223372036854775808 := by
  cases h with
  | int _ k hk => exact ⟨k, rfl, by simp [Lit.wf, IntKind.min, IntKind.max, IntKind.bits, IntKind.signed] at hk; omega⟩
theorem pairsR_of {x : D} (h : Fit (.sl 16 [.int .i64, .int .u16]) x) : ∃ l : List (Int × Int), x = .sl false 2 (l.map rowPr) ∧ (∀ p ∈ l, 0 ≤ p.2 ∧ p.2 < 65536) ∧ l.length < 2 ^ 62 := by
  have hrb := reachBytes_lt
  cases h with
  | sl _ _ e0 a0 b0 c0 =>
    obtain ⟨l0, r0, q0⟩ := rows_of rowPr (fun p => 0 ≤ p.2 ∧ p.2 < 65536) (els := e0) fun el he => by
      match el, b0 el he with
      | [u, v], _ =>
        obtain ⟨n, rfl, _⟩ := fit_i64' (c0 _ he 0 _ _ rfl rfl)
        obtain ⟨m, rfl, hm⟩ := fit_u16 (c0 _ he 1 _ _ rfl rfl)
        exact ⟨(n, m), rfl, hm⟩
    subst r0
    have a0 : l0.length * 16 ≤ reachBytes := by simpa using a0
    exact ⟨l0, rfl, q0, by omega⟩
theorem two_of {ds : List D} (hl : ds.length = 2) (hf : ∀ (i : Nat) (x : D) (s : Sh), ds[i]? = some x → (List.replicate 2 (Sh.int .u16))[i]? = some s → Fit s x) : ∃ a b : Nat, ds = rowU [a, b] := by
  obtain ⟨p, rfl, hp⟩ := u16s_of (ds := ds) fun x hx => by
    obtain ⟨i, hi⟩ := List.getElem?_of_mem hx
    have h2 : i < 2 := by have := (List.getElem?_eq_some_iff.1 hi).1; omega
    exact hf i x (.int .u16) hi (by rw [List.getElem?_replicate, if_pos h2])
  rw [rowU_len] at hl
  match p, hl with
  | [a, b], _ => exact ⟨a, b, rfl⟩
end Go.Ax
