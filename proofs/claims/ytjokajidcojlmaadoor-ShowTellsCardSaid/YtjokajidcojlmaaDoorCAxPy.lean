import Derived.Test.YtjokajidcojlmaaDoorCAxPx

/- Policies', rules' and programs' texts, with the look whether they are well formed. -/
namespace Go.Ax
open Go.Proofs
set_option maxRecDepth 10000

structure TypR (r : RuleT) : Prop where
  when : ∀ p ∈ r.when, 0 ≤ p.2 ∧ p.2 < 65536
  guard : ∀ p ∈ r.guard, 0 ≤ p.2 ∧ p.2 < 65536
  thn : ∀ p ∈ r.thn, 0 ≤ p.2 ∧ p.2 < 65536
  lw : r.when.length ≤ 2 ^ 20
  lg : r.guard.length ≤ 2 ^ 20
  lt : r.thn.length ≤ 2 ^ 20
structure OkG (x : ProgT) : Prop where
  init : ∀ n ∈ x.init, 0 ≤ n ∧ n < 65536
  il : x.init.length ≤ 2 ^ 20
  pol : okPol x.pol
  ps : sizeP x.pol ≤ 2 ^ 20
  rules : ∀ r ∈ x.rules, TypR r
  rl : x.rules.length ≤ 2 ^ 20
theorem OkG.small {x : ProgT} (h : OkG x) : SmallG x :=
  ⟨by have := h.il; omega, by have := h.ps; omega, by have := h.rl; omega, fun r hr => ⟨by have := (h.rules r hr).lw; omega, by have := (h.rules r hr).lg; omega, by have := (h.rules r hr).lt; omega⟩⟩
theorem risesF_at {b : Int} {l : List PairT} (h : risesF b l = true) {p : PairT} (hp : p ∈ l) : 0 ≤ p.1 ∧ p.1 < b := by
  obtain ⟨i, hi, rfl⟩ := List.mem_iff_getElem.1 hp
  have := alln_at h hi
  simp [risesAt, List.getD, hi] at this
  omega
theorem risesF_le {a b : Int} {l : List PairT} (h : risesF a l = true) (hab : a ≤ b) : risesF b l = true := by
  refine alln_true fun j hj => ?_
  have := alln_at h hj
  simp [risesAt] at this ⊢
  omega
theorem ruleOk_split {k : Int} {r : RuleT} (h : ruleOk k r = true) : risesF 8 r.when = true ∧ risesF k r.guard = true ∧ risesF k r.thn = true := by
  simp [ruleOk] at h
  exact ⟨h.1.1.1.2, h.1.1.2, h.1.2⟩
theorem ruleOk_le {k b : Int} {r : RuleT} (h : ruleOk k r = true) (hk : k ≤ b) : ruleOk b r = true := by
  obtain ⟨h1, h2, h3⟩ := ruleOk_split h
  have h4 := risesF_le h2 hk
  have h5 := risesF_le h3 hk
  rw [ruleOk, h1, h2, h3] at h
  rw [ruleOk, h1, h4, h5]; exact h
theorem OkR.of {k : Int} {r : RuleT} (hk : k ≤ 60000) (ht : TypR r) (h : ruleOk k r = true) : OkR r := by
  obtain ⟨h1, h2, h3⟩ := ruleOk_split h
  exact ⟨fun p hp => ⟨by have := risesF_at h1 hp; omega, ht.when p hp⟩, fun p hp => ⟨by have := risesF_at h2 hp; omega, ht.guard p hp⟩, fun p hp => ⟨by have := risesF_at h3 hp; omega, ht.thn p hp⟩, ht.lw, ht.lg, ht.lt⟩

/-- What a program that is well formed is. -/
theorem check_zero {x : ProgT} (h : checkP x = 0) : (1 ≤ x.init.length ∧ x.init.length ≤ 4) ∧ sizeP x.pol ≤ 300 ∧ formP x.init.length x.pol = true ∧ ∀ r ∈ x.rules, ruleOk x.init.length r = true := by
  unfold checkP at h
  split at h
  · exact absurd h (by decide)
  · split at h
    · exact absurd h (by decide)
    · rename_i h1 h2
      split at h
      · rename_i h3
        exact ⟨by omega, by omega, by simpa using h2, List.all_eq_true.1 h3⟩
      · exact absurd h (by decide)

def dropT : PolT := .mk 0 0 0 []
def polG (p : PolT) : ProgT := ⟨[0, 0, 0, 0], p, []⟩
def ruleG (r : RuleT) : ProgT := ⟨[0, 0, 0, 0], dropT, [r]⟩
theorem okPolG {p : PolT} (h : okPol p) (hs : sizeP p ≤ 2 ^ 20) : OkG (polG p) :=
  ⟨by simp [polG], by simp [polG], h, hs, by simp [polG], by simp [polG]⟩
theorem okRuleG {r : RuleT} (h : TypR r) : OkG (ruleG r) :=
  ⟨by simp [ruleG], by simp [ruleG], by simp [ruleG, dropT, okPol, okPols], by simp [ruleG, dropT, sizeP, sizesP], by simp [ruleG]; exact h, by simp [ruleG]⟩
def showPF (p : PolT) : ByteArray := if checkP (polG p) = 0 then polB p else ⟨#[]⟩
def showRF (r : RuleT) : ByteArray := if checkP (ruleG r) = 0 then lineB r else ⟨#[]⟩

theorem showpol_ctr (g : GP) (hg : ∀ w, g.G w → PowG w) (p : PolT) (ho : okPol p) (hs : sizeP p ≤ 2 ^ 20) : Ctr (ax g).E 18 [.dagg (rowP4 p)] [] (fun o => o = .ret (.str (showPF p)) []) := by
  have hc := (check5_ctr g (polG p) (okPolG ho hs).small).le1 (xs := [.sl false 1 zero4, .i64 p.op, .i64 p.f, .u16 p.n, .sl false 4 (p.kids.map rowO4), .v (.slice none 0 0)]) ⟨.inl rfl, .inl rfl, .inl rfl, .inl rfl, .inl rfl, .inr (.inl ⟨rfl, false, 3, rfl⟩), trivial⟩
  refine Ctr.body (X := ax g) _ 13 [] [.tmp 2] Tryd.func18 rfl rfl rfl rfl (by decide +kernel) rfl rfl ?_
  conv => whnf
  repeat' (first | (refine And.intro (by first | exact rfl | decide | exact Nat.le_of_ble_eq_true rfl | exact ⟨_, rfl⟩ | exact ⟨_, _, rfl⟩ | exact Nat.le_refl _ | exact Int.le_refl _ | omega | (simp only [List.length_map]; omega) | exact True.intro | (simp only [IntKind.wrap_i64, List.length_map]; omega) | (simp only [bsz, ByteArray.size_append, List.size_toArray, List.length_cons, List.length_nil]; omega) | exact ⟨⟨_, _, rfl, rfl, Nat.le_of_ble_eq_true rfl⟩, trivial⟩ | exact ⟨⟨_, _, rfl, rfl, Nat.le_of_ble_eq_true rfl⟩, ⟨_, _, rfl, rfl, Nat.le_of_ble_eq_true rfl⟩, trivial⟩ | exact ⟨⟨_, _, rfl, rfl, Nat.le_of_ble_eq_true rfl⟩, ⟨_, _, rfl, rfl, Nat.le_of_ble_eq_true rfl⟩, ⟨_, _, rfl, rfl, Nat.le_of_ble_eq_true rfl⟩, trivial⟩) ?_; conv => whnf) | (refine ifB_intro (fun hA => ?_) (fun hA => ?_) <;> (try rw [hA]) <;> (conv => whnf) <;> (first | replace hA := of_decide_eq_true hA | replace hA := of_decide_eq_false hA | replace hA := eq_of_beq hA | replace hA := ne_of_beq_false hA | skip) <;> (try simp only [List.length_map, cond_true, cond_false, Bool.not_eq_true', Bool.not_eq_false', beq_iff_eq, beq_eq_false_iff_ne, ne_eq] at hA)) | (refine CallP.det (any_ctr g _ _ _ _ _ _) ?_; conv => whnf) | (refine CallD.det (any_ctr g _ _ _ _ _ _) ?_; conv => whnf) | (refine CallP.det (hc) ?_; conv => whnf) | (refine CallD.det (hc) ?_; conv => whnf) | (rw [getD_map _ _ _ _ (by assumption)]; conv => whnf))
  · refine ⟨⟨[], ?_⟩⟩
    conv => whnf
    rw [showPF, if_neg (by simpa using hA)]
  · have hz : checkP (polG p) = 0 := by simpa using hA
    obtain ⟨_, h300, hf, _⟩ := check_zero hz
    have hp := pol_ctr g hg _ (by simp [polG]) _ p (Nat.le_refl _) ho hf ⟨#[]⟩ (by simp [bsz]; omega)
    rw [nilb] at hp
    have hp2 := (Ctr.fromNew bldT110 hp).swap 9000 3
    repeat' (first | (refine And.intro (by first | exact rfl | decide | exact Nat.le_of_ble_eq_true rfl | exact ⟨_, rfl⟩ | exact ⟨_, _, rfl⟩ | exact Nat.le_refl _ | exact Int.le_refl _ | omega | (simp only [List.length_map]; omega) | exact True.intro | (simp only [IntKind.wrap_i64, List.length_map]; omega) | (simp only [bsz, ByteArray.size_append, List.size_toArray, List.length_cons, List.length_nil]; omega) | exact ⟨⟨_, _, rfl, rfl, Nat.le_of_ble_eq_true rfl⟩, trivial⟩ | exact ⟨⟨_, _, rfl, rfl, Nat.le_of_ble_eq_true rfl⟩, ⟨_, _, rfl, rfl, Nat.le_of_ble_eq_true rfl⟩, trivial⟩ | exact ⟨⟨_, _, rfl, rfl, Nat.le_of_ble_eq_true rfl⟩, ⟨_, _, rfl, rfl, Nat.le_of_ble_eq_true rfl⟩, ⟨_, _, rfl, rfl, Nat.le_of_ble_eq_true rfl⟩, trivial⟩) ?_; conv => whnf) | (refine ifB_intro (fun hA => ?_) (fun hA => ?_) <;> (try rw [hA]) <;> (conv => whnf) <;> (first | replace hA := of_decide_eq_true hA | replace hA := of_decide_eq_false hA | replace hA := eq_of_beq hA | replace hA := ne_of_beq_false hA | skip) <;> (try simp only [List.length_map, cond_true, cond_false, Bool.not_eq_true', Bool.not_eq_false', beq_iff_eq, beq_eq_false_iff_ne, ne_eq] at hA)) | (refine CallP.upd rfl (hp2) ?_; conv => whnf) | (refine CallD.upd rfl (hp2) ?_; conv => whnf) | (rw [getD_map _ _ _ _ (by assumption)]; conv => whnf))
    refine CallP.ends rfl (string3 g _) ?_
    conv => whnf
    repeat' (first | (refine And.intro (by first | exact rfl | decide | exact Nat.le_of_ble_eq_true rfl | exact ⟨_, rfl⟩ | exact ⟨_, _, rfl⟩ | exact Nat.le_refl _ | exact Int.le_refl _ | omega | (simp only [List.length_map]; omega) | exact True.intro | (simp only [IntKind.wrap_i64, List.length_map]; omega) | (simp only [bsz, ByteArray.size_append, List.size_toArray, List.length_cons, List.length_nil]; omega) | exact ⟨⟨_, _, rfl, rfl, Nat.le_of_ble_eq_true rfl⟩, trivial⟩ | exact ⟨⟨_, _, rfl, rfl, Nat.le_of_ble_eq_true rfl⟩, ⟨_, _, rfl, rfl, Nat.le_of_ble_eq_true rfl⟩, trivial⟩ | exact ⟨⟨_, _, rfl, rfl, Nat.le_of_ble_eq_true rfl⟩, ⟨_, _, rfl, rfl, Nat.le_of_ble_eq_true rfl⟩, ⟨_, _, rfl, rfl, Nat.le_of_ble_eq_true rfl⟩, trivial⟩) ?_; conv => whnf) | (refine ifB_intro (fun hA => ?_) (fun hA => ?_) <;> (try rw [hA]) <;> (conv => whnf) <;> (first | replace hA := of_decide_eq_true hA | replace hA := of_decide_eq_false hA | replace hA := eq_of_beq hA | replace hA := ne_of_beq_false hA | skip) <;> (try simp only [List.length_map, cond_true, cond_false, Bool.not_eq_true', Bool.not_eq_false', beq_iff_eq, beq_eq_false_iff_ne, ne_eq] at hA)) | (rw [getD_map _ _ _ _ (by assumption)]; conv => whnf))
    refine ⟨⟨[], ?_⟩⟩
    conv => whnf
    rw [showPF, if_pos hz]

theorem rshowpol_ctr (g : GP) (p : PolT) (ho : okPol p) (hs : sizeP p ≤ 2 ^ 20) : Ctr (ax g).E 19 [.dagg (rowP4 p)] [] (fun o => o = .ret (.str (showPF p)) []) := by
  have hc := (rcheck5_ctr g (polG p) (okPolG ho hs).small).le1 (xs := [.sl false 1 zero4, .i64 p.op, .i64 p.f, .u16 p.n, .sl false 4 (p.kids.map rowO4), .v (.slice none 0 0)]) ⟨.inl rfl, .inl rfl, .inl rfl, .inl rfl, .inl rfl, .inr (.inl ⟨rfl, false, 3, rfl⟩), trivial⟩
  refine Ctr.body (X := ax g) _ 10 [] [.tmp 2] Tryd.func19 rfl rfl rfl rfl (by decide +kernel) rfl rfl ?_
  conv => whnf
  repeat' (first | (refine And.intro (by first | exact rfl | decide | exact Nat.le_of_ble_eq_true rfl | exact ⟨_, rfl⟩ | exact ⟨_, _, rfl⟩ | exact Nat.le_refl _ | exact Int.le_refl _ | omega | (simp only [List.length_map]; omega) | exact True.intro | (simp only [IntKind.wrap_i64, List.length_map]; omega) | (simp only [bsz, ByteArray.size_append, List.size_toArray, List.length_cons, List.length_nil]; omega) | exact ⟨⟨_, _, rfl, rfl, Nat.le_of_ble_eq_true rfl⟩, trivial⟩ | exact ⟨⟨_, _, rfl, rfl, Nat.le_of_ble_eq_true rfl⟩, ⟨_, _, rfl, rfl, Nat.le_of_ble_eq_true rfl⟩, trivial⟩ | exact ⟨⟨_, _, rfl, rfl, Nat.le_of_ble_eq_true rfl⟩, ⟨_, _, rfl, rfl, Nat.le_of_ble_eq_true rfl⟩, ⟨_, _, rfl, rfl, Nat.le_of_ble_eq_true rfl⟩, trivial⟩) ?_; conv => whnf) | (refine ifB_intro (fun hA => ?_) (fun hA => ?_) <;> (try rw [hA]) <;> (conv => whnf) <;> (first | replace hA := of_decide_eq_true hA | replace hA := of_decide_eq_false hA | replace hA := eq_of_beq hA | replace hA := ne_of_beq_false hA | skip) <;> (try simp only [List.length_map, cond_true, cond_false, Bool.not_eq_true', Bool.not_eq_false', beq_iff_eq, beq_eq_false_iff_ne, ne_eq] at hA)) | (refine DrawP.intro (X := ax g) (id := 1) B19_1 (by kernel_rfl) (by decide +kernel) ?_; conv => whnf) | (refine CallP.det (hc) ?_; conv => whnf) | (refine CallD.det (hc) ?_; conv => whnf) | (rw [getD_map _ _ _ _ (by assumption)]; conv => whnf))
  · refine ⟨⟨[], ?_⟩⟩
    conv => whnf
    rw [showPF, if_neg (by simpa using hA)]
  · have hz : checkP (polG p) = 0 := by simpa using hA
    obtain ⟨_, h300, hf, _⟩ := check_zero hz
    have hp := rtext_ctr g _ (by simp [polG]) _ p (Nat.le_refl _) (by omega) ho hf
    repeat' (first | (refine And.intro (by first | exact rfl | decide | exact Nat.le_of_ble_eq_true rfl | exact ⟨_, rfl⟩ | exact ⟨_, _, rfl⟩ | exact Nat.le_refl _ | exact Int.le_refl _ | omega | (simp only [List.length_map]; omega) | exact True.intro | (simp only [IntKind.wrap_i64, List.length_map]; omega) | (simp only [bsz, ByteArray.size_append, List.size_toArray, List.length_cons, List.length_nil]; omega) | exact ⟨⟨_, _, rfl, rfl, Nat.le_of_ble_eq_true rfl⟩, trivial⟩ | exact ⟨⟨_, _, rfl, rfl, Nat.le_of_ble_eq_true rfl⟩, ⟨_, _, rfl, rfl, Nat.le_of_ble_eq_true rfl⟩, trivial⟩ | exact ⟨⟨_, _, rfl, rfl, Nat.le_of_ble_eq_true rfl⟩, ⟨_, _, rfl, rfl, Nat.le_of_ble_eq_true rfl⟩, ⟨_, _, rfl, rfl, Nat.le_of_ble_eq_true rfl⟩, trivial⟩) ?_; conv => whnf) | (refine ifB_intro (fun hA => ?_) (fun hA => ?_) <;> (try rw [hA]) <;> (conv => whnf) <;> (first | replace hA := of_decide_eq_true hA | replace hA := of_decide_eq_false hA | replace hA := eq_of_beq hA | replace hA := ne_of_beq_false hA | skip) <;> (try simp only [List.length_map, cond_true, cond_false, Bool.not_eq_true', Bool.not_eq_false', beq_iff_eq, beq_eq_false_iff_ne, ne_eq] at hA)) | (refine CallP.det (hp) ?_; conv => whnf) | (refine CallD.det (hp) ?_; conv => whnf) | (rw [getD_map _ _ _ _ (by assumption)]; conv => whnf))
    refine ⟨⟨[], ?_⟩⟩
    conv => whnf
    rw [showPF, if_pos hz]

theorem showrule_ctr (g : GP) (hg : ∀ w, g.G w → PowG w) (r : RuleT) (ho : TypR r) : Ctr (ax g).E 22 [.dagg (rowR r)] [] (fun o => o = .ret (.str (showRF r)) []) := by
  have hc := (check5_ctr g (ruleG r) (okRuleG ho).small).le1 (xs := [.sl false 1 zero4, .i64 0, .i64 0, .u16 0, .v (.slice none 0 0), .sl true 3 [rowR r]]) ⟨.inl rfl, .inl rfl, .inl rfl, .inl rfl, .inr (.inl ⟨rfl, false, 4, rfl⟩), .inr (.inr ⟨true, 3, _, rfl, rfl⟩), trivial⟩
  refine Ctr.body (X := ax g) _ 11 [] [.tmp 2] Tryd.func22 rfl rfl rfl rfl (by decide +kernel) rfl rfl ?_
  conv => whnf
  repeat' (first | (refine And.intro (by first | exact rfl | decide | exact Nat.le_of_ble_eq_true rfl | exact ⟨_, rfl⟩ | exact ⟨_, _, rfl⟩ | exact Nat.le_refl _ | exact Int.le_refl _ | omega | (simp only [List.length_map]; omega) | exact True.intro | (simp only [IntKind.wrap_i64, List.length_map]; omega) | (simp only [bsz, ByteArray.size_append, List.size_toArray, List.length_cons, List.length_nil]; omega) | exact ⟨⟨_, _, rfl, rfl, Nat.le_of_ble_eq_true rfl⟩, trivial⟩ | exact ⟨⟨_, _, rfl, rfl, Nat.le_of_ble_eq_true rfl⟩, ⟨_, _, rfl, rfl, Nat.le_of_ble_eq_true rfl⟩, trivial⟩ | exact ⟨⟨_, _, rfl, rfl, Nat.le_of_ble_eq_true rfl⟩, ⟨_, _, rfl, rfl, Nat.le_of_ble_eq_true rfl⟩, ⟨_, _, rfl, rfl, Nat.le_of_ble_eq_true rfl⟩, trivial⟩) ?_; conv => whnf) | (refine ifB_intro (fun hA => ?_) (fun hA => ?_) <;> (try rw [hA]) <;> (conv => whnf) <;> (first | replace hA := of_decide_eq_true hA | replace hA := of_decide_eq_false hA | replace hA := eq_of_beq hA | replace hA := ne_of_beq_false hA | skip) <;> (try simp only [List.length_map, cond_true, cond_false, Bool.not_eq_true', Bool.not_eq_false', beq_iff_eq, beq_eq_false_iff_ne, ne_eq] at hA)) | (refine CallP.det (any_ctr g _ _ _ _ _ _) ?_; conv => whnf) | (refine CallD.det (any_ctr g _ _ _ _ _ _) ?_; conv => whnf) | (refine CallP.det (hc) ?_; conv => whnf) | (refine CallD.det (hc) ?_; conv => whnf) | (rw [getD_map _ _ _ _ (by assumption)]; conv => whnf))
  · refine ⟨⟨[], ?_⟩⟩
    conv => whnf
    rw [showRF, if_neg (by simpa using hA)]
  · have hz : checkP (ruleG r) = 0 := by simpa using hA
    obtain ⟨_, _, _, hr⟩ := check_zero hz
    have hp := line_ctr g hg r (.of (by simp [ruleG]) ho (hr r (by simp [ruleG])))
    repeat' (first | (refine And.intro (by first | exact rfl | decide | exact Nat.le_of_ble_eq_true rfl | exact ⟨_, rfl⟩ | exact ⟨_, _, rfl⟩ | exact Nat.le_refl _ | exact Int.le_refl _ | omega | (simp only [List.length_map]; omega) | exact True.intro | (simp only [IntKind.wrap_i64, List.length_map]; omega) | (simp only [bsz, ByteArray.size_append, List.size_toArray, List.length_cons, List.length_nil]; omega) | exact ⟨⟨_, _, rfl, rfl, Nat.le_of_ble_eq_true rfl⟩, trivial⟩ | exact ⟨⟨_, _, rfl, rfl, Nat.le_of_ble_eq_true rfl⟩, ⟨_, _, rfl, rfl, Nat.le_of_ble_eq_true rfl⟩, trivial⟩ | exact ⟨⟨_, _, rfl, rfl, Nat.le_of_ble_eq_true rfl⟩, ⟨_, _, rfl, rfl, Nat.le_of_ble_eq_true rfl⟩, ⟨_, _, rfl, rfl, Nat.le_of_ble_eq_true rfl⟩, trivial⟩) ?_; conv => whnf) | (refine ifB_intro (fun hA => ?_) (fun hA => ?_) <;> (try rw [hA]) <;> (conv => whnf) <;> (first | replace hA := of_decide_eq_true hA | replace hA := of_decide_eq_false hA | replace hA := eq_of_beq hA | replace hA := ne_of_beq_false hA | skip) <;> (try simp only [List.length_map, cond_true, cond_false, Bool.not_eq_true', Bool.not_eq_false', beq_iff_eq, beq_eq_false_iff_ne, ne_eq] at hA)) | (refine CallP.det (hp) ?_; conv => whnf) | (refine CallD.det (hp) ?_; conv => whnf) | (rw [getD_map _ _ _ _ (by assumption)]; conv => whnf))
    refine ⟨⟨[], ?_⟩⟩
    conv => whnf
    rw [showRF, if_pos hz]
end Go.Ax
