import Derived.Test.YtjokajidcojlmaaDoorCAxPz
import Derived.Test.YtjokajidcojlmaaDoorCAxPi

/- ShowTells, walked. -/
namespace Go.Ax
open Go.Proofs Go.Lib
set_option maxRecDepth 10000

def aP1 : PolT := .mk 2 3 2 []
def aP2 : PolT := .mk 5 1 1 []
def aP : PolT := .mk 6 0 0 [aP1, aP2]
def aG : ProgT := ⟨[0], aP, []⟩
def aRow : List D := [.i64 6, .i64 0, .u16 0, .sl true 4 [zrow 2 3 2, zrow 5 1 1]]
theorem aRow_le : RowL aRow (rowP4 aP) :=
  .cons (.refl _) (.cons (.refl _) (.cons (.refl _) (.cons (RowsL.dl ((RowsL.one (push_row 2 3 2)).app (RowsL.one (push_row 5 1 1)))) (.refl []))))
theorem dig1 {n : Nat} (h : n < 10) : digB n = ⟨#[UInt8.ofNat (48 + n)]⟩ := by rw [digB, decDigits_one h]
theorem aP_form : formP 1 aP = true := by simp [aP, aP1, aP2, formP, formsN]
theorem aP_text : polB aP = ⟨#[100, 115, 116, 61, 50, 32, 59, 32, 112, 116, 58, 61, 49]⟩ := by
  have h1 : digB (1 : Int).toNat = ⟨#[49]⟩ := by rw [show (1 : Int).toNat = 1 from rfl, digB, decDigits_one (by decide)]; rfl
  have h2 : digB (2 : Int).toNat = ⟨#[50]⟩ := by rw [show (2 : Int).toNat = 2 from rfl, digB, decDigits_one (by decide)]; rfl
  simp only [aP, aP1, aP2, polB, kidsB, headB, h1, h2, bareB, PolT.op]
  first | kernel_rfl | decide +kernel
theorem aP_size : sizeP aP = 3 := by simp [aP, aP1, aP2, sizeP, sizesP]
theorem aP_depth : depthP aP = 2 := by simp [aP, aP1, aP2, depthP, depthsP]
theorem aP_ok : okPol aP := by simp [aP, aP1, aP2, okPol, okPols]
theorem aP_form4 : formP 4 aP = true := by simp [aP, aP1, aP2, formP, formsN]
theorem aG_check : checkP aG = 0 := by
  rw [check_at aG ⟨by decide, by decide, by show sizeP aP ≤ 300; rw [aP_size]; decide, by show depthP aP ≤ 20; rw [aP_depth]; decide, by decide⟩ aP_form]
  rfl
theorem aP_check : checkP (polG aP) = 0 := by
  rw [check_at (polG aP) ⟨by decide, by decide, by show sizeP aP ≤ 300; rw [aP_size]; decide, by show depthP aP ≤ 20; rw [aP_depth]; decide, by decide⟩ aP_form4]
  rfl
def aText : ByteArray := ⟨#[105, 110, 105, 116, 32, 48, 32, 46, 10, 112, 111, 108, 105, 99, 121, 32, 100, 115, 116, 61, 50, 32, 59, 32, 112, 116, 58, 61, 49, 32, 46, 10]⟩
theorem aG_text : showGF aG = aText := by
  have h0 : digB (0 : Int).toNat = ⟨#[48]⟩ := by rw [show (0 : Int).toNat = 0 from rfl, digB, decDigits_one (by decide)]; rfl
  rw [showGF, if_pos aG_check]
  simp only [progB, headG, aG, aP_text, swB, h0, List.foldl_cons, List.foldl_nil]
  first | kernel_rfl | decide +kernel
theorem awake6_ctr (g : GP) (hg : ∀ w, g.G w → PowG w) : Ctr (ax g).E 15 [] [] (fun o => o = .ret (.bool true) []) := by
  have c1 := (showpol_ctr g hg aP aP_ok (by rw [aP_size]; decide)).leR aRow_le
  rw [showPF, if_pos aP_check, aP_text] at c1
  have c2 := (showprog_ctr g hg aG ⟨by decide, by decide, aP_ok, by show sizeP aP ≤ _; rw [aP_size]; decide, by simp [aG], by decide⟩).leR (xs := [.sl true 1 [[.u16 0]], .i64 6, .i64 0, .u16 0, .sl true 4 [zrow 2 3 2, zrow 5 1 1], .v (.slice none 0 0)])
    (.cons (RowsL.dl (RowsL.one (.refl _))) (.cons (.refl _) (.cons (.refl _) (.cons (.refl _) (.cons (RowsL.dl ((RowsL.one (push_row 2 3 2)).app (RowsL.one (push_row 5 1 1)))) (.cons (.nil false 3) (.refl [])))))))
  rw [aG_text] at c2
  refine Ctr.body (X := ax g) _ 17 [] [.tmp 0] Tryd.func15 rfl rfl rfl rfl (by decide +kernel) rfl rfl ?_
  conv => whnf
  repeat' (first | (refine And.intro (by first | exact rfl | decide | exact Nat.le_of_ble_eq_true rfl | exact ⟨_, rfl⟩ | exact ⟨_, _, rfl⟩ | exact Nat.le_refl _ | exact Int.le_refl _ | omega | (simp only [List.length_map]; omega) | exact True.intro | (simp only [IntKind.wrap_i64, List.length_map]; omega) | (simp only [bsz, ByteArray.size_append, List.size_toArray, List.length_cons, List.length_nil]; omega) | exact ⟨⟨_, _, rfl, rfl, Nat.le_of_ble_eq_true rfl⟩, trivial⟩ | exact ⟨⟨_, _, rfl, rfl, Nat.le_of_ble_eq_true rfl⟩, ⟨_, _, rfl, rfl, Nat.le_of_ble_eq_true rfl⟩, trivial⟩ | exact ⟨⟨_, _, rfl, rfl, Nat.le_of_ble_eq_true rfl⟩, ⟨_, _, rfl, rfl, Nat.le_of_ble_eq_true rfl⟩, ⟨_, _, rfl, rfl, Nat.le_of_ble_eq_true rfl⟩, trivial⟩) ?_; conv => whnf) | (refine ifB_intro (fun hA => ?_) (fun hA => ?_) <;> (try rw [hA]) <;> (conv => whnf) <;> (first | replace hA := of_decide_eq_true hA | replace hA := of_decide_eq_false hA | replace hA := eq_of_beq hA | replace hA := ne_of_beq_false hA | skip) <;> (try simp only [List.length_map, cond_true, cond_false, Bool.not_eq_true', Bool.not_eq_false', beq_iff_eq, beq_eq_false_iff_ne, ne_eq] at hA)) | (refine CallP.det (c1) ?_; conv => whnf) | (refine CallD.det (c1) ?_; conv => whnf) | (refine CallP.det (c2) ?_; conv => whnf) | (refine CallD.det (c2) ?_; conv => whnf) | (rw [getD_map _ _ _ _ (by assumption)]; conv => whnf))
  refine ⟨⟨[], ?_⟩⟩
  conv => whnf
  kernel_rfl

theorem fewF_at {l : List RuleT} (h : fewF l = true) : l.length ≤ 30 ∧ ∀ r ∈ l, r.when.length ≤ 10 ∧ r.guard.length ≤ 10 ∧ r.thn.length ≤ 10 := by
  simp [fewF, fewR] at h
  exact ⟨h.1, fun r hr => by have := h.2 r hr; omega⟩
/-- What the arguments are by their types. -/
structure TypS (init : List Int) (l : List StepT) (rules : List RuleT) : Prop where
  init : ∀ n ∈ init, 0 ≤ n ∧ n < 65536
  l : ∀ x ∈ l, OkSt x
  when : ∀ r ∈ rules, ∀ p ∈ r.when, 0 ≤ p.2 ∧ p.2 < 65536
  guard : ∀ r ∈ rules, ∀ p ∈ r.guard, 0 ≤ p.2 ∧ p.2 < 65536
  thn : ∀ r ∈ rules, ∀ p ∈ r.thn, 0 ≤ p.2 ∧ p.2 < 65536
theorem top_ok {l : List StepT} (h : ∀ x ∈ l, OkSt x) (h60 : l.length ≤ 60) (hne : pileF l ≠ []) : okPol (topP (pileF l)) ∧ sizeP (topP (pileF l)) ≤ 60 := by
  obtain ⟨h1, h2⟩ := fold_pile l [] (by simp [okPols]) h
  have h3 : 0 < (pileF l).length := List.length_pos_iff.2 hne
  have h4 : (pileF l).length - 1 < (pileF l).length := by omega
  have hm : topP (pileF l) ∈ pileF l := by rw [topP, List.getD, List.getElem?_eq_getElem h4]; exact List.getElem_mem h4
  refine ⟨okPols_mem h1 hm, ?_⟩
  have h5 := sizesP_mem hm
  simp only [sizesP] at h2
  rw [pileF] at h5 ⊢; omega

theorem showTells_ctr (g : GP) (hg : ∀ w, g.G w → PowG w) (init : List Int) (l : List StepT) (rules : List RuleT) (ht : TypS init l rules) (h1 : init.length < 2 ^ 62) (h2 : l.length < 2 ^ 62) (h3 : rules.length < 2 ^ 62) :
    Ctr (ax g).E 3 [.d (.sl false 1 (init.map rowS)), .d (.sl false 4 (l.map rowSt)), .d (.sl false 3 (rules.map rowR))] [] (fun o => o = .ret (.bool true) []) := by
  refine Ctr.body (X := ax g) _ 59 [] [.tmp 6] Tryd.func3 rfl rfl rfl rfl (by decide +kernel) rfl rfl ?_
  conv => whnf
  repeat' (first | (refine And.intro (by first | exact rfl | decide | exact Nat.le_of_ble_eq_true rfl | exact ⟨_, rfl⟩ | exact ⟨_, _, rfl⟩ | exact Nat.le_refl _ | exact Int.le_refl _ | omega | (simp only [List.length_map]; omega) | exact True.intro | (simp only [IntKind.wrap_i64, List.length_map]; omega) | (simp only [bsz, ByteArray.size_append, List.size_toArray, List.length_cons, List.length_nil]; omega) | exact ⟨⟨_, _, rfl, rfl, Nat.le_of_ble_eq_true rfl⟩, trivial⟩ | exact ⟨⟨_, _, rfl, rfl, Nat.le_of_ble_eq_true rfl⟩, ⟨_, _, rfl, rfl, Nat.le_of_ble_eq_true rfl⟩, trivial⟩ | exact ⟨⟨_, _, rfl, rfl, Nat.le_of_ble_eq_true rfl⟩, ⟨_, _, rfl, rfl, Nat.le_of_ble_eq_true rfl⟩, ⟨_, _, rfl, rfl, Nat.le_of_ble_eq_true rfl⟩, trivial⟩) ?_; conv => whnf) | (refine ifB_intro (fun hA => ?_) (fun hA => ?_) <;> (try rw [hA]) <;> (conv => whnf) <;> (first | replace hA := of_decide_eq_true hA | replace hA := of_decide_eq_false hA | replace hA := eq_of_beq hA | replace hA := ne_of_beq_false hA | skip) <;> (try simp only [List.length_map, cond_true, cond_false, Bool.not_eq_true', Bool.not_eq_false', beq_iff_eq, beq_eq_false_iff_ne, ne_eq] at hA)) | (refine CallP.det (awake6_ctr g hg) ?_; conv => whnf) | (refine CallD.det (awake6_ctr g hg) ?_; conv => whnf) | (rw [getD_map _ _ _ _ (by assumption)]; conv => whnf))
  · have hp := (pile_ctr g l h2 ht.l).re (post' := fun o => o = .ret (.tup [.dagg zeroP, .bool false]) [] ∨ (l.length ≤ 60 ∧ pileF l ≠ [] ∧ o = .ret (.tup [.dagg (rowP4 (topP (pileF l))), .bool true]) [])) fun o ho => by
      rcases ho with ⟨_, rfl⟩ | ⟨_, _, rfl⟩ | ⟨h60, hne, r, hr, rfl⟩
      · exact ⟨_, _, rfl, fun _ _ _ _ H => H, fun q => rfl, .inl rfl⟩
      · exact ⟨_, _, rfl, fun _ _ _ _ H => H, fun q => rfl, .inl rfl⟩
      · refine ⟨_, .tup [.dagg (rowP4 (topP (pileF l))), .bool true], rfl, fun w Im ρ v H => ?_, fun q => rfl, .inr ⟨h60, hne, rfl⟩⟩
        cases H with
        | tup cs _ hl hr2 =>
          refine .tup cs _ hl fun i v x e1 e2 => ?_
          match i with
          | 0 =>
            simp at e2; subst e2
            exact (hr2 0 v (.dagg r) e1 rfl).dagg_dl hr
          | 1 =>
            simp at e2; subst e2
            exact hr2 1 v _ e1 rfl
          | n + 2 => simp at e2
    refine CallP.cases hp fun o ho => ?_
    rcases ho with rfl | ⟨h60, hne, rfl⟩
    · refine ⟨_, rfl, ?_⟩
      conv => whnf
      repeat' (first | (refine And.intro (by first | exact rfl | decide | exact Nat.le_of_ble_eq_true rfl | exact ⟨_, rfl⟩ | exact ⟨_, _, rfl⟩ | exact Nat.le_refl _ | exact Int.le_refl _ | omega | (simp only [List.length_map]; omega) | exact True.intro | (simp only [IntKind.wrap_i64, List.length_map]; omega) | (simp only [bsz, ByteArray.size_append, List.size_toArray, List.length_cons, List.length_nil]; omega) | exact ⟨⟨_, _, rfl, rfl, Nat.le_of_ble_eq_true rfl⟩, trivial⟩ | exact ⟨⟨_, _, rfl, rfl, Nat.le_of_ble_eq_true rfl⟩, ⟨_, _, rfl, rfl, Nat.le_of_ble_eq_true rfl⟩, trivial⟩ | exact ⟨⟨_, _, rfl, rfl, Nat.le_of_ble_eq_true rfl⟩, ⟨_, _, rfl, rfl, Nat.le_of_ble_eq_true rfl⟩, ⟨_, _, rfl, rfl, Nat.le_of_ble_eq_true rfl⟩, trivial⟩) ?_; conv => whnf) | (refine ifB_intro (fun hA => ?_) (fun hA => ?_) <;> (try rw [hA]) <;> (conv => whnf) <;> (first | replace hA := of_decide_eq_true hA | replace hA := of_decide_eq_false hA | replace hA := eq_of_beq hA | replace hA := ne_of_beq_false hA | skip) <;> (try simp only [List.length_map, cond_true, cond_false, Bool.not_eq_true', Bool.not_eq_false', beq_iff_eq, beq_eq_false_iff_ne, ne_eq] at hA)) | (rw [getD_map _ _ _ _ (by assumption)]; conv => whnf))
      all_goals (refine ⟨⟨[], ?_⟩⟩; (conv => whnf))
    · refine ⟨_, rfl, ?_⟩
      obtain ⟨t1, t2⟩ := top_ok ht.l h60 hne
      generalize topP (pileF l) = p at t1 t2
      conv => whnf
      repeat' (first | (refine And.intro (by first | exact rfl | decide | exact Nat.le_of_ble_eq_true rfl | exact ⟨_, rfl⟩ | exact ⟨_, _, rfl⟩ | exact Nat.le_refl _ | exact Int.le_refl _ | omega | (simp only [List.length_map]; omega) | exact True.intro | (simp only [IntKind.wrap_i64, List.length_map]; omega) | (simp only [bsz, ByteArray.size_append, List.size_toArray, List.length_cons, List.length_nil]; omega) | exact ⟨⟨_, _, rfl, rfl, Nat.le_of_ble_eq_true rfl⟩, trivial⟩ | exact ⟨⟨_, _, rfl, rfl, Nat.le_of_ble_eq_true rfl⟩, ⟨_, _, rfl, rfl, Nat.le_of_ble_eq_true rfl⟩, trivial⟩ | exact ⟨⟨_, _, rfl, rfl, Nat.le_of_ble_eq_true rfl⟩, ⟨_, _, rfl, rfl, Nat.le_of_ble_eq_true rfl⟩, ⟨_, _, rfl, rfl, Nat.le_of_ble_eq_true rfl⟩, trivial⟩) ?_; conv => whnf) | (refine ifB_intro (fun hA => ?_) (fun hA => ?_) <;> (try rw [hA]) <;> (conv => whnf) <;> (first | replace hA := of_decide_eq_true hA | replace hA := of_decide_eq_false hA | replace hA := eq_of_beq hA | replace hA := ne_of_beq_false hA | skip) <;> (try simp only [List.length_map, cond_true, cond_false, Bool.not_eq_true', Bool.not_eq_false', beq_iff_eq, beq_eq_false_iff_ne, ne_eq] at hA)) | (refine CallP.det (few_ctr g rules (by omega)) ?_; conv => whnf) | (refine CallD.det (few_ctr g rules (by omega)) ?_; conv => whnf) | (rw [getD_map _ _ _ _ (by assumption)]; conv => whnf))
      · refine ⟨⟨[], ?_⟩⟩
        conv => whnf
      · refine ⟨⟨[], ?_⟩⟩
        conv => whnf
      · obtain ⟨f1, f2⟩ := fewF_at hA
        have hty : ∀ r ∈ rules, TypR r := fun r hr => ⟨ht.when r hr, ht.guard r hr, ht.thn r hr, by have := f2 r hr; omega, by have := f2 r hr; omega, by have := f2 r hr; omega⟩
        have hg6 : OkG ⟨init, p, rules⟩ := ⟨ht.init, by show init.length ≤ _; omega, t1, by show sizeP p ≤ _; omega, hty, by show rules.length ≤ _; omega⟩
        repeat' (first | (refine And.intro (by first | exact rfl | decide | exact Nat.le_of_ble_eq_true rfl | exact ⟨_, rfl⟩ | exact ⟨_, _, rfl⟩ | exact Nat.le_refl _ | exact Int.le_refl _ | omega | (simp only [List.length_map]; omega) | exact True.intro | (simp only [IntKind.wrap_i64, List.length_map]; omega) | (simp only [bsz, ByteArray.size_append, List.size_toArray, List.length_cons, List.length_nil]; omega) | exact ⟨⟨_, _, rfl, rfl, Nat.le_of_ble_eq_true rfl⟩, trivial⟩ | exact ⟨⟨_, _, rfl, rfl, Nat.le_of_ble_eq_true rfl⟩, ⟨_, _, rfl, rfl, Nat.le_of_ble_eq_true rfl⟩, trivial⟩ | exact ⟨⟨_, _, rfl, rfl, Nat.le_of_ble_eq_true rfl⟩, ⟨_, _, rfl, rfl, Nat.le_of_ble_eq_true rfl⟩, ⟨_, _, rfl, rfl, Nat.le_of_ble_eq_true rfl⟩, trivial⟩) ?_; conv => whnf) | (refine ifB_intro (fun hA => ?_) (fun hA => ?_) <;> (try rw [hA]) <;> (conv => whnf) <;> (first | replace hA := of_decide_eq_true hA | replace hA := of_decide_eq_false hA | replace hA := eq_of_beq hA | replace hA := ne_of_beq_false hA | skip) <;> (try simp only [List.length_map, cond_true, cond_false, Bool.not_eq_true', Bool.not_eq_false', beq_iff_eq, beq_eq_false_iff_ne, ne_eq] at hA)) | (refine DrawP.intro (X := ax g) (id := 7) B3_7 (by kernel_rfl) (by decide +kernel) ?_; conv => whnf) | (refine CallP.det (showpol_ctr g hg p t1 (by omega)) ?_; conv => whnf) | (refine CallD.det (showpol_ctr g hg p t1 (by omega)) ?_; conv => whnf) | (refine CallP.det (rshowpol_ctr g p t1 (by omega)) ?_; conv => whnf) | (refine CallD.det (rshowpol_ctr g p t1 (by omega)) ?_; conv => whnf) | (refine CallP.det (showprog_ctr g hg ⟨init, p, rules⟩ hg6) ?_; conv => whnf) | (refine CallD.det (showprog_ctr g hg ⟨init, p, rules⟩ hg6) ?_; conv => whnf) | (refine CallP.det (rshowprog_ctr g ⟨init, p, rules⟩ hg6) ?_; conv => whnf) | (refine CallD.det (rshowprog_ctr g ⟨init, p, rules⟩ hg6) ?_; conv => whnf) | (rw [getD_map _ _ _ _ (by assumption)]; conv => whnf))
        all_goals try (exfalso; simp at hA; done)
        refine LoopP.inv (X := ax g) (fun i : Nat => { f := [(6, .bool false), (47, .d (.sl false 3 (rules.map rowR))), (48, .i64 rules.length), (49, .i64 i)], h := [] }) (fun i => i ≤ rules.length) (fun i => rules.length - i) 0 (Nat.zero_le _) ⟨⟨rfl, rfl, AV.int_eq (len_int _ _), rfl, trivial⟩, trivial⟩ fun i hi => ?_
        by_cases hlt : i < rules.length
        · have hr := hty _ (List.getElem_mem hlt)
          conv => whnf
          refine ifB_true (decide_eq_true (by omega)) ?_
          conv => whnf
          repeat' (first | (refine And.intro (by first | exact rfl | decide | exact Nat.le_of_ble_eq_true rfl | exact ⟨_, rfl⟩ | exact ⟨_, _, rfl⟩ | exact Nat.le_refl _ | exact Int.le_refl _ | omega | (simp only [List.length_map]; omega) | exact True.intro | (simp only [IntKind.wrap_i64, List.length_map]; omega) | (simp only [bsz, ByteArray.size_append, List.size_toArray, List.length_cons, List.length_nil]; omega) | exact ⟨⟨_, _, rfl, rfl, Nat.le_of_ble_eq_true rfl⟩, trivial⟩ | exact ⟨⟨_, _, rfl, rfl, Nat.le_of_ble_eq_true rfl⟩, ⟨_, _, rfl, rfl, Nat.le_of_ble_eq_true rfl⟩, trivial⟩ | exact ⟨⟨_, _, rfl, rfl, Nat.le_of_ble_eq_true rfl⟩, ⟨_, _, rfl, rfl, Nat.le_of_ble_eq_true rfl⟩, ⟨_, _, rfl, rfl, Nat.le_of_ble_eq_true rfl⟩, trivial⟩) ?_; conv => whnf) | (refine ifB_intro (fun hA => ?_) (fun hA => ?_) <;> (try rw [hA]) <;> (conv => whnf) <;> (first | replace hA := of_decide_eq_true hA | replace hA := of_decide_eq_false hA | replace hA := eq_of_beq hA | replace hA := ne_of_beq_false hA | skip) <;> (try simp only [List.length_map, cond_true, cond_false, Bool.not_eq_true', Bool.not_eq_false', beq_iff_eq, beq_eq_false_iff_ne, ne_eq] at hA)) | (rw [getD_map rowR rules i [] hlt]; conv => whnf) | (refine DrawP.intro (X := ax g) (id := 12) B3_12 (by kernel_rfl) (by decide +kernel) ?_; conv => whnf) | (refine CallP.det (showrule_ctr g hg _ hr) ?_; conv => whnf) | (refine CallD.det (showrule_ctr g hg _ hr) ?_; conv => whnf) | (refine CallP.det (rshowrule_ctr g _ hr) ?_; conv => whnf) | (refine CallD.det (rshowrule_ctr g _ hr) ?_; conv => whnf) | (rw [getD_map _ _ _ _ (by assumption)]; conv => whnf))
          all_goals try (exfalso; simp at hA; done)
          exact ⟨i + 1, by omega, by omega, ⟨⟨rfl, rfl, rfl, AV.int_eq (i64_succ (by omega)), trivial⟩, trivial⟩⟩
        · conv => whnf
          refine ifB_false (decide_eq_false (by omega)) ?_
          conv => whnf
          refine ⟨⟨[], ?_⟩⟩
          conv => whnf
end Go.Ax
