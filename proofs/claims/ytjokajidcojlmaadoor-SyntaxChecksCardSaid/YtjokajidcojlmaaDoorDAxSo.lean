import Derived.Test.YtjokajidcojlmaaDoorDAxSk
import Derived.Test.YtjokajidcojlmaaDoorDAxPi

/- SyntaxChecks, walked. -/
namespace Go.Ax
open Go.Proofs Go.Lib
set_option maxRecDepth 10000

/-- What is known of a call's results may be told in other words. -/
theorem Ctr.seen {E : Env} {f : FuncId} {args : List AV} {hin : HL} {P : AV → Prop} {res' : AV} (h : Ctr E f args hin fun o => ∃ res, P res ∧ o = .ret res []) (hm : ∀ r, res'.ment r = false) (hr : ∀ h Im ρ v res, P res → RA h Im ρ v res → RA h Im ρ v res') : Ctr E f args hin fun o => o = .ret res' [] :=
  ⟨h.1, fun w Im ρ vs g1 g2 g3 g4 g5 g6 => (h.2 w Im ρ vs g1 g2 g3 g4 g5 g6).mono fun e w' he => by
    cases e with
    | returned v =>
      obtain ⟨res, ho, Im', ρ', ⟨res0, hP, hpost⟩, h2, h3, h4⟩ := he
      injection hpost with e1 e2; subst e1; subst e2
      exact ⟨res', [], Im', ρ', rfl, hr _ _ _ _ _ hP h2, fun r hr => by rw [hm r] at hr; exact absurd hr (by simp), h4⟩
    | panicked ch => obtain ⟨ho, Im', ρ', ⟨res0, _, hpost⟩, _⟩ := he; exact absurd hpost (by simp)
    | outgrown => exact he⟩

theorem pile_no (g : GP) (l : List StepT) (hl : l.length < 2 ^ 62) (ho : ∀ x ∈ l, OkSt x) (h : 60 < l.length ∨ pileF l = []) : Ctr (ax g).E 16 [.d (.sl false 4 (l.map rowSt))] [] (fun o => o = .ret (.tup [.dagg zeroP, .bool false]) []) :=
  (pile_ctr g l hl ho).mono fun o ho => by
    rcases ho with ⟨_, e⟩ | ⟨_, _, e⟩ | ⟨h1, h2, _⟩
    · exact e
    · exact e
    · rcases h with h | h
      · omega
      · exact absurd h h2
theorem pile_top (g : GP) (l : List StepT) (hl : l.length < 2 ^ 62) (ho : ∀ x ∈ l, OkSt x) (h1 : l.length ≤ 60) (h2 : pileF l ≠ []) : Ctr (ax g).E 16 [.d (.sl false 4 (l.map rowSt))] [] (fun o => o = .ret (.tup [.dagg (rowP4 (topP (pileF l))), .bool true]) []) := by
  refine Ctr.seen (P := fun res => ∃ r, RowL r (rowP4 (topP (pileF l))) ∧ res = .tup [.dagg r, .bool true]) ((pile_ctr g l hl ho).mono fun o ho => ?_) (fun _ => rfl) fun h Im ρ v res ⟨r, hr, e⟩ H => ?_
  · rcases ho with ⟨h, _⟩ | ⟨_, h, _⟩ | ⟨_, _, r, hr, e⟩
    · omega
    · exact absurd h h2
    · exact ⟨_, ⟨r, hr, rfl⟩, e⟩
  · subst e
    cases H with
    | tup cs _ hc hh =>
      refine .tup cs _ (by simpa using hc) fun i v x e1 e2 => ?_
      match i with
      | 0 => simp at e2; subst e2; exact (hh 0 v _ e1 rfl).dagg_dl hr
      | 1 => simp at e2; subst e2; exact hh 1 v _ e1 rfl
      | n + 2 => simp at e2

theorem top_ok {l : List StepT} (h1 : l.length ≤ 60) (h2 : pileF l ≠ []) (ho : ∀ x ∈ l, OkSt x) : okPol (topP (pileF l)) ∧ sizeP (topP (pileF l)) ≤ 60 := by
  obtain ⟨a, b⟩ := fold_pile l [] trivial ho
  have hlt : (pileF l).length - 1 < (pileF l).length := by have := List.length_pos_iff.2 h2; omega
  have hm : topP (pileF l) ∈ pileF l := by simp [topP, List.getD, hlt]
  have hs : ∀ (m : List PolT) (p : PolT), p ∈ m → sizeP p ≤ sizesP m := fun m => by
    induction m with
    | nil => intro p hp; simp at hp
    | cons q m ih =>
      intro p hp
      rcases List.mem_cons.1 hp with rfl | hp
      · simp [sizesP]
      · have := ih p hp; simp only [sizesP]; omega
  have := hs _ _ hm
  have b' : sizesP (pileF l) ≤ sizesP [] + l.length := b
  simp only [sizesP] at b'
  exact ⟨okPols_mem a hm, by omega⟩

theorem checksLaw_ctr (g : GP) (hg : ∀ w, g.G w → LibG w) (init : List Int) (l : List StepT) (rules : List RuleT) (hi : init.length < 2 ^ 62) (hl : l.length < 2 ^ 62) (ho : ∀ x ∈ l, OkSt x) (hr : rules.length < 2 ^ 62) (hrs : ∀ r ∈ rules, SmallR r) :
    Ctr (ax g).E 8 [.d (.sl false 1 (init.map rowS)), .d (.sl false 4 (l.map rowSt)), .d (.sl false 3 (rules.map rowR))] [] (fun o => o = .ret (.bool true) []) := by
  have ha := awake5_ctr g hg
  have hf := few_ctr g rules hr
  by_cases h : 60 < l.length ∨ pileF l = []
  · have hp := pile_no g l hl ho h
    refine Ctr.body (X := ax g) _ 59 [] [.tmp 6] Tryd.func8 rfl rfl rfl rfl (by decide +kernel) rfl rfl ?_
    conv => whnf
    repeat' (first | (refine And.intro (by first | exact rfl | decide | exact Nat.le_of_ble_eq_true rfl | exact ⟨_, rfl⟩ | exact ⟨_, _, rfl⟩ | exact Nat.le_refl _ | exact Int.le_refl _ | omega | (simp only [List.length_map]; omega) | exact True.intro | (simp only [IntKind.wrap_i64, List.length_map]; omega) | (simp only [List.map_cons, List.map_nil, List.length_cons, Option.getD]; omega) | (simp only [bsz, ByteArray.size_append, List.size_toArray, List.length_cons, List.length_nil]; omega) | exact ⟨⟨_, _, rfl, rfl, Nat.le_of_ble_eq_true rfl⟩, trivial⟩ | exact ⟨⟨_, _, rfl, rfl, Nat.le_of_ble_eq_true rfl⟩, ⟨_, _, rfl, rfl, Nat.le_of_ble_eq_true rfl⟩, trivial⟩ | exact ⟨⟨_, _, rfl, rfl, Nat.le_of_ble_eq_true rfl⟩, ⟨_, _, rfl, rfl, Nat.le_of_ble_eq_true rfl⟩, ⟨_, _, rfl, rfl, Nat.le_of_ble_eq_true rfl⟩, trivial⟩) ?_; conv => whnf) | (refine ifB_intro (fun hA => ?_) (fun hA => ?_) <;> (try rw [hA]) <;> (conv => whnf) <;> (first | replace hA := of_decide_eq_true hA | replace hA := of_decide_eq_false hA | replace hA := eq_of_beq hA | replace hA := ne_of_beq_false hA | replace hA := bne_iff_ne.1 hA | replace hA := bne_eq_false_iff_eq.1 hA | skip) <;> (try simp only [List.length_map, cond_true, cond_false, Bool.not_eq_true', Bool.not_eq_false', beq_iff_eq, beq_eq_false_iff_ne, ne_eq] at hA)) | (refine CallP.det (ha) ?_; conv => whnf) | (refine CallD.det (ha) ?_; conv => whnf) | (refine CallP.det (hp) ?_; conv => whnf) | (refine CallD.det (hp) ?_; conv => whnf) | (rw [getD_map _ _ _ _ (by assumption)]; conv => whnf))
    all_goals first
      | (exfalso; simp_all; done)
      | (refine ⟨⟨[], ?_⟩⟩; (conv => whnf); done)
      | (refine ⟨⟨[], ?_⟩⟩; (conv => whnf); rfl)
      | (refine ⟨⟨[], ?_⟩⟩; (conv => whnf); simp; done)
  · have h1 : l.length ≤ 60 := Nat.le_of_not_lt fun h' => h (.inl h')
    have h2 : pileF l ≠ [] := fun h' => h (.inr h')
    have hp := pile_top g l hl ho h1 h2
    obtain ⟨hok, hsz⟩ := top_ok h1 h2 ho
    generalize hq : topP (pileF l) = q at hp hok hsz
    have hsm : SmallG ⟨init, q, rules⟩ := ⟨hi, by show sizeP q < 2 ^ 62; omega, hr, hrs⟩
    have hs62 : sizeP q < 2 ^ 62 := by omega
    have c1 := check5_ctr g _ hsm
    have c2 := rcheck5_ctr g _ hsm
    have c3 := pred_ctr' g q hs62
    have c4 := rpred_ctr g _ q (Nat.le_refl _) hs62
    have c5 := depth_ctr' g q hs62
    have c6 := rdepth_ctr g _ q (Nat.le_refl _) hs62
    have c7 := size_ctr' g q hs62
    have c8 := rsize_ctr g _ q (Nat.le_refl _) hs62
    refine Ctr.body (X := ax g) _ 59 [] [.tmp 6] Tryd.func8 rfl rfl rfl rfl (by decide +kernel) rfl rfl ?_
    conv => whnf
    repeat' (first | (refine And.intro (by first | exact rfl | decide | exact Nat.le_of_ble_eq_true rfl | exact ⟨_, rfl⟩ | exact ⟨_, _, rfl⟩ | exact Nat.le_refl _ | exact Int.le_refl _ | omega | (simp only []; omega) | exact True.intro | (simp only []; omega) | (simp only [List.length_cons]; omega) | (simp only [List.length_cons, List.length_nil]; omega) | exact ⟨⟨_, _, rfl, rfl, Nat.le_of_ble_eq_true rfl⟩, trivial⟩ | exact ⟨⟨_, _, rfl, rfl, Nat.le_of_ble_eq_true rfl⟩, ⟨_, _, rfl, rfl, Nat.le_of_ble_eq_true rfl⟩, trivial⟩ | exact ⟨⟨_, _, rfl, rfl, Nat.le_of_ble_eq_true rfl⟩, ⟨_, _, rfl, rfl, Nat.le_of_ble_eq_true rfl⟩, ⟨_, _, rfl, rfl, Nat.le_of_ble_eq_true rfl⟩, trivial⟩) ?_; conv => whnf) | (refine ifB_intro (fun hA => ?_) (fun hA => ?_) <;> (try rw [hA]) <;> (conv => whnf) <;> (first | replace hA := of_decide_eq_true hA | replace hA := of_decide_eq_false hA | replace hA := eq_of_beq hA | replace hA := ne_of_beq_false hA | replace hA := bne_iff_ne.1 hA | replace hA := bne_eq_false_iff_eq.1 hA | skip) <;> (try simp only [List.length_map, cond_false, Bool.not_eq_true', Bool.not_eq_false'] at hA)) | (refine CallP.det (ha) ?_; conv => whnf) | (refine CallD.det (ha) ?_; conv => whnf) | (refine CallP.det (hp) ?_; conv => whnf) | (refine CallD.det (hp) ?_; conv => whnf) | (refine CallP.det (hf) ?_; conv => whnf) | (refine CallD.det (hf) ?_; conv => whnf) | (refine DrawP.intro (X := ax g) (id := 7) B8_7 (by kernel_rfl) (by decide +kernel) ?_; conv => whnf) | (refine CallP.det (c1) ?_; conv => whnf) | (refine CallD.det (c1) ?_; conv => whnf) | (refine CallP.det (c2) ?_; conv => whnf) | (refine CallD.det (c2) ?_; conv => whnf) | (refine CallP.det (c3) ?_; conv => whnf) | (refine CallD.det (c3) ?_; conv => whnf) | (refine CallP.det (c4) ?_; conv => whnf) | (refine CallD.det (c4) ?_; conv => whnf) | (refine CallP.det (c5) ?_; conv => whnf) | (refine CallD.det (c5) ?_; conv => whnf) | (refine CallP.det (c6) ?_; conv => whnf) | (refine CallD.det (c6) ?_; conv => whnf) | (refine CallP.det (c7) ?_; conv => whnf) | (refine CallD.det (c7) ?_; conv => whnf) | (refine CallP.det (c8) ?_; conv => whnf) | (refine CallD.det (c8) ?_; conv => whnf) | (rw [getD_map _ _ _ _ (by assumption)]; conv => whnf))
    all_goals first
      | (exfalso; simp_all; done)
      | (refine ⟨⟨[], ?_⟩⟩; (conv => whnf); done)
      | (refine ⟨⟨[], ?_⟩⟩; (conv => whnf); rfl)
      | (refine ⟨⟨[], ?_⟩⟩; (conv => whnf); simp; done)

end Go.Ax
