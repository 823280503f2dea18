import Derived.Test.YtjokajidcojlmaaDoorEAxEh

/- Sets of events: awake, and the three laws. -/
namespace Go.Ax
open Go.Proofs
set_option maxRecDepth 10000

theorem numE_dec (s : BitVec 64) : numE (lstZ s) = (lstZ s).map fun z => dec2 z.toNat := by
  unfold numE
  apply List.map_congr_left
  intro z hz
  obtain ⟨h0, h1⟩ := lstZ_mem hz
  exact dec2_eq (by omega)
def wakeS : BitVec 64 := ofB [3, 0, 63]
def wakeT : ByteArray := ⟨#[123, 48, 44, 51, 44, 54, 51, 125]⟩
theorem wake_text : textE wakeS = wakeT := by
  unfold textE joinE
  rw [numE_dec]
  decide +kernel
theorem wake_facts : (lstB wakeS).length = 3 ∧ hasB wakeS 3 = true := by decide +kernel
theorem awake2_ctr (g : GP) (hd : ∀ w, g.G w → DebT w) (hp : ∀ w, g.G w → PowG w) (he : ∀ w, g.G w → ErrG w) : Ctr (ax g).E 47 [] [] (fun o => o = .ret (.bool true) []) := by
  have h1 := of_ctr g true [3, 0, 63] (by decide)
  rw [show ofB [3, 0, 63] = wakeS from rfl] at h1
  have h2 := read_set_ctr g hd hp he wakeT (by decide)
  rw [show readE wakeT = some wakeS from by rw [← wake_text]; exact readE_text _] at h2
  have h3 := len_ctr g wakeS
  have h4 := has_ctr g wakeS 3
  have h5 := text_ctr g hd hp wakeS
  rw [wake_facts.1] at h3
  rw [wake_facts.2] at h4
  rw [wake_text] at h5
  generalize wakeS = a at *
  refine Ctr.body (X := ax g) _ 30 [] [.tmp 0] Tryd.func47 rfl rfl rfl rfl (by decide +kernel) rfl rfl ?_
  conv => whnf
  repeat' (first | (refine And.intro (by first | exact rfl | decide | exact Nat.le_of_ble_eq_true rfl | exact ⟨_, rfl⟩ | exact ⟨_, _, rfl⟩ | exact Nat.le_refl _ | exact Int.le_refl _ | omega | (simp only [List.length_map]; omega) | exact True.intro | (simp only [IntKind.wrap_i64, List.length_map]; omega) | (simp only [List.map_cons, List.map_nil, List.length_cons, Option.getD]; omega) | (simp only [bsz, ByteArray.size_append, List.size_toArray, List.length_cons, List.length_nil]; omega) | exact ⟨⟨_, _, rfl, rfl, Nat.le_of_ble_eq_true rfl⟩, trivial⟩ | exact ⟨⟨_, _, rfl, rfl, Nat.le_of_ble_eq_true rfl⟩, ⟨_, _, rfl, rfl, Nat.le_of_ble_eq_true rfl⟩, trivial⟩ | exact ⟨⟨_, _, rfl, rfl, Nat.le_of_ble_eq_true rfl⟩, ⟨_, _, rfl, rfl, Nat.le_of_ble_eq_true rfl⟩, ⟨_, _, rfl, rfl, Nat.le_of_ble_eq_true rfl⟩, trivial⟩) ?_; conv => whnf) | (refine ifB_intro (fun hA => ?_) (fun hA => ?_) <;> (try rw [hA]) <;> (conv => whnf) <;> (first | replace hA := of_decide_eq_true hA | replace hA := of_decide_eq_false hA | replace hA := eq_of_beq hA | replace hA := ne_of_beq_false hA | replace hA := bne_iff_ne.1 hA | replace hA := bne_eq_false_iff_eq.1 hA | skip) <;> (try simp only [List.length_map, cond_true, cond_false, Bool.not_eq_true', Bool.not_eq_false', beq_iff_eq, beq_eq_false_iff_ne, ne_eq] at hA)) | (refine CallP.det (h1) ?_; conv => whnf) | (refine CallD.det (h1) ?_; conv => whnf) | (refine CallP.det (h2) ?_; conv => whnf) | (refine CallD.det (h2) ?_; conv => whnf) | (refine CallP.det (h3) ?_; conv => whnf) | (refine CallD.det (h3) ?_; conv => whnf) | (refine CallP.det (h4) ?_; conv => whnf) | (refine CallD.det (h4) ?_; conv => whnf) | (refine CallP.det (h5) ?_; conv => whnf) | (refine CallD.det (h5) ?_; conv => whnf) | (exact absurd rfl hA) | (rw [getD_map _ _ _ _ (by assumption)]; conv => whnf))
  refine ⟨⟨[], ?_⟩⟩
  conv => whnf
  rfl

theorem in_ctr' (g : GP) (a b : BitVec 64) (v : Bool) (h : inB a b = v) : Ctr (ax g).E 63 [.u64 a, .u64 b] [] (fun o => o = .ret (.bool v) []) := h ▸ in_ctr g a b
/-- EventsIn. -/
theorem eventsIn_ctr (g : GP) (hd : ∀ w, g.G w → DebT w) (hp : ∀ w, g.G w → PowG w) (he : ∀ w, g.G w → ErrG w) (a b : BitVec 64) : Ctr (ax g).E 13 [.u64 a, .u64 b] [] (fun o => o = .ret (.bool true) []) := by
  have h0 := awake2_ctr g hd hp he
  have h1 := in_ctr g a b
  have h2 := in_ctr g b a
  have h3 := refin_ctr g a b
  have e1 : inB (a &&& b) a = true := (inB_iff _ _).2 fun i _ h => by rw [BitVec.getLsbD_and] at h; simp at h; exact h.1
  have e2 : inB a (a ||| b) = true := (inB_iff _ _).2 fun i _ h => by rw [BitVec.getLsbD_or, h]; rfl
  have e3 : inB 0#64 a = true := (inB_iff _ _).2 fun i _ h => by simp at h
  have h4 := in_ctr' g (a &&& b) a true e1
  have h5 := in_ctr' g a (a ||| b) true e2
  have h6 := in_ctr' g 0#64 a true e3
  have l1 := len_ctr g a
  have l2 := len_ctr g b
  have l3 := len_ctr g (a ||| b)
  have l4 := len_ctr g (a &&& b)
  have hl := lstB_and_or a b
  have b1 := lstB_len a
  have b2 := lstB_len b
  have b3 := lstB_len (a ||| b)
  have b4 := lstB_len (a &&& b)
  have hab : (inB a b && inB b a) = ((a.toNat : Int) == b.toNat) := by
    rw [Bool.eq_iff_iff, beq_iff_eq, Bool.and_eq_true, inB_iff, inB_iff]
    constructor
    · rintro ⟨h1, h2⟩
      have : a = b := BitVec.eq_of_getLsbD_eq fun i hi => by
        rw [Bool.eq_iff_iff]
        exact ⟨h1 i hi, h2 i hi⟩
      rw [this]
    · intro h
      have : a = b := BitVec.eq_of_toNat_eq (by omega)
      subst this
      exact ⟨fun _ _ h => h, fun _ _ h => h⟩
  generalize inB a b = x1 at *
  generalize inB b a = x2 at *
  have ea := u64_and a b
  have eo := u64_or a b
  refine Ctr.body (X := ax g) _ 65 [] [.tmp 4] Tryd.func13 rfl rfl rfl rfl (by decide +kernel) rfl rfl ?_
  conv => whnf
  repeat' (first | (refine And.intro (by first | exact rfl | decide | exact Nat.le_of_ble_eq_true rfl | exact ⟨_, rfl⟩ | exact ⟨_, _, rfl⟩ | exact Nat.le_refl _ | exact Int.le_refl _ | omega | (simp only [List.length_map]; omega) | exact True.intro | (simp only [IntKind.wrap_i64, List.length_map]; omega) | (simp only [List.map_cons, List.map_nil, List.length_cons, Option.getD]; omega) | (simp only [bsz, ByteArray.size_append, List.size_toArray, List.length_cons, List.length_nil]; omega) | exact ⟨⟨_, _, rfl, rfl, Nat.le_of_ble_eq_true rfl⟩, trivial⟩ | exact ⟨⟨_, _, rfl, rfl, Nat.le_of_ble_eq_true rfl⟩, ⟨_, _, rfl, rfl, Nat.le_of_ble_eq_true rfl⟩, trivial⟩ | exact ⟨⟨_, _, rfl, rfl, Nat.le_of_ble_eq_true rfl⟩, ⟨_, _, rfl, rfl, Nat.le_of_ble_eq_true rfl⟩, ⟨_, _, rfl, rfl, Nat.le_of_ble_eq_true rfl⟩, trivial⟩) ?_; conv => whnf) | (refine ifB_intro (fun hA => ?_) (fun hA => ?_) <;> (try rw [hA]) <;> (conv => whnf) <;> (first | replace hA := of_decide_eq_true hA | replace hA := of_decide_eq_false hA | replace hA := eq_of_beq hA | replace hA := ne_of_beq_false hA | replace hA := bne_iff_ne.1 hA | replace hA := bne_eq_false_iff_eq.1 hA | skip) <;> (try simp only [cond_true] at hA)) | (refine CallP.det (h0) ?_; conv => whnf) | (refine CallD.det (h0) ?_; conv => whnf) | (refine CallP.det (h1) ?_; conv => whnf) | (refine CallD.det (h1) ?_; conv => whnf) | (refine CallP.det (h2) ?_; conv => whnf) | (refine CallD.det (h2) ?_; conv => whnf) | (refine CallP.det (h3) ?_; conv => whnf) | (refine CallD.det (h3) ?_; conv => whnf) | (refine CallP.det (h4) ?_; conv => whnf) | (refine CallD.det (h4) ?_; conv => whnf) | (refine CallP.det (h5) ?_; conv => whnf) | (refine CallD.det (h5) ?_; conv => whnf) | (refine CallP.det (h6) ?_; conv => whnf) | (refine CallD.det (h6) ?_; conv => whnf) | (rw [ea]) | (rw [eo]) | (refine CallP.det (l1) ?_; conv => whnf) | (refine CallD.det (l1) ?_; conv => whnf) | (refine CallP.det (l2) ?_; conv => whnf) | (refine CallD.det (l2) ?_; conv => whnf) | (refine CallP.det (l3) ?_; conv => whnf) | (refine CallD.det (l3) ?_; conv => whnf) | (refine CallP.det (l4) ?_; conv => whnf) | (refine CallD.det (l4) ?_; conv => whnf) | (exact absurd rfl hA) | (exact absurd trivial hA) | (exfalso; clear h0 h1 h2 h3 h4 h5 h6 l1 l2 l3 l4; simp_all; done) | (rw [getD_map _ _ _ _ (by assumption)]; conv => whnf))
  all_goals
    refine ⟨⟨[], ?_⟩⟩
    conv => whnf
    rw [show ((lstB a).length : Int) + ((lstB b).length : Int) = ((lstB (a ||| b)).length : Int) + ((lstB (a &&& b)).length : Int) from by omega]
    simp

theorem textE_size (s : BitVec 64) : (textE s).size ≤ 4162 := by
  have := joinE_bound (lstZ s) (fun z hz => (lstZ_mem hz).2) (by rw [lstZ_len]; exact lstB_len s)
  unfold textE
  rw [ByteArray.size_append, ByteArray.size_append]
  show 1 + (joinE (lstZ s)).length + 1 ≤ _
  omega
/-- EventsText. -/
theorem eventsText_ctr (g : GP) (hd : ∀ w, g.G w → DebT w) (hp : ∀ w, g.G w → PowG w) (he : ∀ w, g.G w → ErrG w) (a : BitVec 64) (t : ByteArray) (ht : t.size < 2 ^ 62) : Ctr (ax g).E 12 [.u64 a, .str t] [] (fun o => o = .ret (.bool true) []) := by
  have h0 := awake2_ctr g hd hp he
  refine Ctr.body (X := ax g) _ 56 [] [.tmp 4] Tryd.func12 rfl rfl rfl rfl (by decide +kernel) rfl rfl ?_
  conv => whnf
  repeat' (first | (refine And.intro (by first | exact rfl | decide | exact Nat.le_of_ble_eq_true rfl | exact ⟨_, rfl⟩ | exact ⟨_, _, rfl⟩ | exact Nat.le_refl _ | exact Int.le_refl _ | omega | (simp only [List.length_map]; omega) | exact True.intro | (simp only [IntKind.wrap_i64, List.length_map]; omega) | (simp only [List.map_cons, List.map_nil, List.length_cons, Option.getD]; omega) | (simp only [bsz, ByteArray.size_append, List.size_toArray, List.length_cons, List.length_nil]; omega) | exact ⟨⟨_, _, rfl, rfl, Nat.le_of_ble_eq_true rfl⟩, trivial⟩ | exact ⟨⟨_, _, rfl, rfl, Nat.le_of_ble_eq_true rfl⟩, ⟨_, _, rfl, rfl, Nat.le_of_ble_eq_true rfl⟩, trivial⟩ | exact ⟨⟨_, _, rfl, rfl, Nat.le_of_ble_eq_true rfl⟩, ⟨_, _, rfl, rfl, Nat.le_of_ble_eq_true rfl⟩, ⟨_, _, rfl, rfl, Nat.le_of_ble_eq_true rfl⟩, trivial⟩) ?_; conv => whnf) | (refine ifB_intro (fun hA => ?_) (fun hA => ?_) <;> (try rw [hA]) <;> (conv => whnf) <;> (first | replace hA := of_decide_eq_true hA | replace hA := of_decide_eq_false hA | replace hA := eq_of_beq hA | replace hA := ne_of_beq_false hA | replace hA := bne_iff_ne.1 hA | replace hA := bne_eq_false_iff_eq.1 hA | skip) <;> (try simp only [List.length_map, cond_true, cond_false, Bool.not_eq_true', Bool.not_eq_false', beq_iff_eq, beq_eq_false_iff_ne, ne_eq] at hA)) | (refine CallP.det (h0) ?_; conv => whnf) | (refine CallD.det (h0) ?_; conv => whnf) | (rw [getD_map _ _ _ _ (by assumption)]; conv => whnf))
  · refine ⟨⟨[], ?_⟩⟩
    conv => whnf
  · have ht : t.size ≤ 200 := by omega
    have h1 := text_ctr g hd hp a
    have h2 := read_set_ctr g hd hp he (textE a) (by have := textE_size a; omega)
    rw [readE_text] at h2
    have h3 := read_set_ctr g hd hp he t (by omega)
    have h4 := reftext_ctr g a
    cases hr : readE t with
    | none =>
      rw [hr] at h3
      repeat' (first | (refine And.intro (by first | exact rfl | decide | exact Nat.le_of_ble_eq_true rfl | exact ⟨_, rfl⟩ | exact ⟨_, _, rfl⟩ | exact Nat.le_refl _ | exact Int.le_refl _ | omega | (simp only [List.length_map]; omega) | exact True.intro | (simp only [IntKind.wrap_i64, List.length_map]; omega) | (simp only [List.map_cons, List.map_nil, List.length_cons, Option.getD]; omega) | (simp only [bsz, ByteArray.size_append, List.size_toArray, List.length_cons, List.length_nil]; omega) | exact ⟨⟨_, _, rfl, rfl, Nat.le_of_ble_eq_true rfl⟩, trivial⟩ | exact ⟨⟨_, _, rfl, rfl, Nat.le_of_ble_eq_true rfl⟩, ⟨_, _, rfl, rfl, Nat.le_of_ble_eq_true rfl⟩, trivial⟩ | exact ⟨⟨_, _, rfl, rfl, Nat.le_of_ble_eq_true rfl⟩, ⟨_, _, rfl, rfl, Nat.le_of_ble_eq_true rfl⟩, ⟨_, _, rfl, rfl, Nat.le_of_ble_eq_true rfl⟩, trivial⟩) ?_; conv => whnf) | (refine ifB_intro (fun hA => ?_) (fun hA => ?_) <;> (try rw [hA]) <;> (conv => whnf) <;> (first | replace hA := of_decide_eq_true hA | replace hA := of_decide_eq_false hA | replace hA := eq_of_beq hA | replace hA := ne_of_beq_false hA | replace hA := bne_iff_ne.1 hA | replace hA := bne_eq_false_iff_eq.1 hA | skip) <;> (try simp only [ne_eq] at hA)) | (refine CallP.det (h1) ?_; conv => whnf) | (refine CallD.det (h1) ?_; conv => whnf) | (refine CallP.det (h2) ?_; conv => whnf) | (refine CallD.det (h2) ?_; conv => whnf) | (refine CallP.det (h3) ?_; conv => whnf) | (refine CallD.det (h3) ?_; conv => whnf) | (refine CallP.det (h4) ?_; conv => whnf) | (refine CallD.det (h4) ?_; conv => whnf) | (exact absurd rfl hA) | (exact absurd trivial hA) | (rw [getD_map _ _ _ _ (by assumption)]; conv => whnf))
      all_goals
        refine ⟨⟨[], ?_⟩⟩
        conv => whnf
        rfl
    | some b =>
      rw [hr] at h3
      have h5 := reftext_ctr g b
      rw [readE_some hr] at h5
      repeat' (first | (refine And.intro (by first | exact rfl | decide | exact Nat.le_of_ble_eq_true rfl | exact ⟨_, rfl⟩ | exact ⟨_, _, rfl⟩ | exact Nat.le_refl _ | exact Int.le_refl _ | omega | (simp only [List.length_map]; omega) | exact True.intro | (simp only [IntKind.wrap_i64, List.length_map]; omega) | (simp only [List.map_cons, List.map_nil, List.length_cons, Option.getD]; omega) | (simp only [bsz, ByteArray.size_append, List.size_toArray, List.length_cons, List.length_nil]; omega) | exact ⟨⟨_, _, rfl, rfl, Nat.le_of_ble_eq_true rfl⟩, trivial⟩ | exact ⟨⟨_, _, rfl, rfl, Nat.le_of_ble_eq_true rfl⟩, ⟨_, _, rfl, rfl, Nat.le_of_ble_eq_true rfl⟩, trivial⟩ | exact ⟨⟨_, _, rfl, rfl, Nat.le_of_ble_eq_true rfl⟩, ⟨_, _, rfl, rfl, Nat.le_of_ble_eq_true rfl⟩, ⟨_, _, rfl, rfl, Nat.le_of_ble_eq_true rfl⟩, trivial⟩) ?_; conv => whnf) | (refine ifB_intro (fun hA => ?_) (fun hA => ?_) <;> (try rw [hA]) <;> (conv => whnf) <;> (first | replace hA := of_decide_eq_true hA | replace hA := of_decide_eq_false hA | replace hA := eq_of_beq hA | replace hA := ne_of_beq_false hA | replace hA := bne_iff_ne.1 hA | replace hA := bne_eq_false_iff_eq.1 hA | skip) <;> (try simp only [ne_eq] at hA)) | (refine CallP.det (h1) ?_; conv => whnf) | (refine CallD.det (h1) ?_; conv => whnf) | (refine CallP.det (h2) ?_; conv => whnf) | (refine CallD.det (h2) ?_; conv => whnf) | (refine CallP.det (h3) ?_; conv => whnf) | (refine CallD.det (h3) ?_; conv => whnf) | (refine CallP.det (h4) ?_; conv => whnf) | (refine CallD.det (h4) ?_; conv => whnf) | (refine CallP.det (h5) ?_; conv => whnf) | (refine CallD.det (h5) ?_; conv => whnf) | (exact absurd rfl hA) | (exact absurd trivial hA) | (rw [getD_map _ _ _ _ (by assumption)]; conv => whnf))
      all_goals
        refine ⟨⟨[], ?_⟩⟩
        conv => whnf
        rfl

/-- EventsSets. -/
theorem eventsSets_ctr (g : GP) (hd : ∀ w, g.G w → DebT w) (hp : ∀ w, g.G w → PowG w) (he : ∀ w, g.G w → ErrG w) (s : BitVec 64) (e : Int) (b : Bool) (l : List Int) (hl : l.length < 2 ^ 62) : Ctr (ax g).E 11 [.u64 s, .i64 e, .d (.sl b 1 (l.map rowZ))] [] (fun o => o = .ret (.bool true) []) := by
  have h0 := awake2_ctr g hd hp he
  have h1 := list_ctr g hd s
  have h2 := reflist_ctr g s
  have h3 := len_ctr g s
  have hlen : (lstZ s).length ≤ 64 := by rw [lstZ_len]; exact lstB_len s
  have h4 := of_ctr g false (lstZ s) (by omega)
  rw [of_lst] at h4
  rw [← lstZ_len] at h3
  refine Ctr.body (X := ax g) _ 113 [] [.tmp 6] Tryd.func11 rfl rfl rfl rfl (by decide +kernel) rfl rfl ?_
  conv => whnf
  repeat' (first | (refine And.intro (by first | exact rfl | decide | exact Nat.le_of_ble_eq_true rfl | exact ⟨_, rfl⟩ | exact ⟨_, _, rfl⟩ | exact Nat.le_refl _ | exact Int.le_refl _ | omega | (simp only [List.length_map]; omega) | exact True.intro | (simp only [IntKind.wrap_i64, List.length_map]; omega) | (simp only [List.map_cons, List.map_nil, List.length_cons, Option.getD]; omega) | (simp only [bsz, ByteArray.size_append, List.size_toArray, List.length_cons, List.length_nil]; omega) | exact ⟨⟨_, _, rfl, rfl, Nat.le_of_ble_eq_true rfl⟩, trivial⟩ | exact ⟨⟨_, _, rfl, rfl, Nat.le_of_ble_eq_true rfl⟩, ⟨_, _, rfl, rfl, Nat.le_of_ble_eq_true rfl⟩, trivial⟩ | exact ⟨⟨_, _, rfl, rfl, Nat.le_of_ble_eq_true rfl⟩, ⟨_, _, rfl, rfl, Nat.le_of_ble_eq_true rfl⟩, ⟨_, _, rfl, rfl, Nat.le_of_ble_eq_true rfl⟩, trivial⟩) ?_; conv => whnf) | (refine ifB_intro (fun hA => ?_) (fun hA => ?_) <;> (try rw [hA]) <;> (conv => whnf) <;> (first | replace hA := of_decide_eq_true hA | replace hA := of_decide_eq_false hA | replace hA := eq_of_beq hA | replace hA := ne_of_beq_false hA | replace hA := bne_iff_ne.1 hA | replace hA := bne_eq_false_iff_eq.1 hA | skip) <;> (try simp only [List.length_map] at hA)) | (refine CallP.det (h0) ?_; conv => whnf) | (refine CallD.det (h0) ?_; conv => whnf) | (rw [getD_map _ _ _ _ (by assumption)]; conv => whnf))
  · refine ⟨⟨[], ?_⟩⟩
    conv => whnf
  · have h5 := first_ctr g hd s
    have e1 : ((s.toNat : Int) != 0) = (s != 0#64) := u64_bne s 0#64
    have h6 := has_ctr g s e
    have h7 := refhas_ctr g s e
    have h8 := with_ctr g s e
    have h9 := refwith_ctr g s e
    have h10 := without_ctr g s e
    have h11 := refwithout_ctr g s e
    have h12 := of_ctr g b l hl
    have h13 := refof_ctr g b l hl
    repeat' (first | (refine And.intro (by first | exact rfl | decide | exact Nat.le_of_ble_eq_true rfl | exact ⟨_, rfl⟩ | exact ⟨_, _, rfl⟩ | exact Nat.le_refl _ | exact Int.le_refl _ | omega | (simp only [List.length_map]; omega) | exact True.intro | (simp only [IntKind.wrap_i64, List.length_map]; omega) | (simp only [List.map_cons, List.map_nil, List.length_cons, Option.getD]; omega) | (simp only [bsz, ByteArray.size_append, List.size_toArray, List.length_cons, List.length_nil]; omega) | exact ⟨⟨_, _, rfl, rfl, Nat.le_of_ble_eq_true rfl⟩, trivial⟩ | exact ⟨⟨_, _, rfl, rfl, Nat.le_of_ble_eq_true rfl⟩, ⟨_, _, rfl, rfl, Nat.le_of_ble_eq_true rfl⟩, trivial⟩ | exact ⟨⟨_, _, rfl, rfl, Nat.le_of_ble_eq_true rfl⟩, ⟨_, _, rfl, rfl, Nat.le_of_ble_eq_true rfl⟩, ⟨_, _, rfl, rfl, Nat.le_of_ble_eq_true rfl⟩, trivial⟩) ?_; conv => whnf) | (refine ifB_intro (fun hA => ?_) (fun hA => ?_) <;> (try rw [hA]) <;> (conv => whnf) <;> (first | replace hA := of_decide_eq_true hA | replace hA := of_decide_eq_false hA | replace hA := eq_of_beq hA | replace hA := ne_of_beq_false hA | replace hA := bne_iff_ne.1 hA | replace hA := bne_eq_false_iff_eq.1 hA | skip) <;> (try simp only [List.length_map, ne_eq] at hA)) | (refine CallP.det (h1) ?_; conv => whnf) | (refine CallD.det (h1) ?_; conv => whnf) | (refine CallP.det (h2) ?_; conv => whnf) | (refine CallD.det (h2) ?_; conv => whnf) | (refine CallP.det (h3) ?_; conv => whnf) | (refine CallD.det (h3) ?_; conv => whnf) | (refine CallP.det (h4) ?_; conv => whnf) | (refine CallD.det (h4) ?_; conv => whnf) | (exfalso; simp at hA; done) | (rw [getD_map _ _ _ _ (by assumption)]; conv => whnf))
    refine LoopP.inv (X := ax g) (fun i : Nat => { f := [(0, .u64 s), (1, .i64 e), (2, .d (.sl b 1 (l.map rowZ))), (6, .bool false), (7, .d (.sl false 1 ((lstZ s).map rowZ))), (8, .d (.sl false 1 ((lstZ s).map rowZ))), (40, .i64 (lstZ s).length), (41, .i64 i)], h := [] }) (fun i => i ≤ (lstZ s).length) (fun i => (lstZ s).length - i) 0 (Nat.zero_le _) ⟨⟨rfl, rfl, rfl, rfl, rfl, rfl, AV.int_eq (by simp), rfl, trivial⟩, trivial⟩ fun i hi => ?_
    conv => whnf
    refine ifB_intro (fun h => ?_) (fun h => ?_)
    · have h : i < (lstZ s).length := by first | (have h0 := of_decide_eq_true h; omega) | (have h0 := of_decide_eq_false h; omega) | (have h0 := h; simp at h0; omega) | (have h0 := h; simp at h0; exact h0)
      conv => whnf
      repeat' (first | (refine And.intro (by first | exact rfl | decide | exact Nat.le_of_ble_eq_true rfl | exact ⟨_, rfl⟩ | exact ⟨_, _, rfl⟩ | exact Nat.le_refl _ | exact Int.le_refl _ | omega | (simp only [List.length_map]; omega) | exact True.intro | (simp only []; omega) | (simp only []; omega) | (simp only []; omega) | exact ⟨⟨_, _, rfl, rfl, Nat.le_of_ble_eq_true rfl⟩, trivial⟩ | exact ⟨⟨_, _, rfl, rfl, Nat.le_of_ble_eq_true rfl⟩, ⟨_, _, rfl, rfl, Nat.le_of_ble_eq_true rfl⟩, trivial⟩ | exact ⟨⟨_, _, rfl, rfl, Nat.le_of_ble_eq_true rfl⟩, ⟨_, _, rfl, rfl, Nat.le_of_ble_eq_true rfl⟩, ⟨_, _, rfl, rfl, Nat.le_of_ble_eq_true rfl⟩, trivial⟩) ?_; conv => whnf) | (refine ifB_intro (fun hA => ?_) (fun hA => ?_) <;> (try rw [hA]) <;> (conv => whnf) <;> (first | replace hA := of_decide_eq_true hA | replace hA := of_decide_eq_false hA | replace hA := eq_of_beq hA | replace hA := ne_of_beq_false hA | replace hA := bne_iff_ne.1 hA | replace hA := bne_eq_false_iff_eq.1 hA | skip) <;> (try simp only [ne_eq] at hA)) | (refine DrawP.intro (X := ax g) (id := 12) B11_12 (by kernel_rfl) (by decide +kernel) ?_; conv => whnf) | (exfalso; simp at hA; done) | (rw [getD_map _ _ _ _ (by assumption)]; conv => whnf))
      exact ⟨i + 1, by omega, by omega, ⟨⟨rfl, rfl, rfl, rfl, rfl, rfl, rfl, AV.int_eq (i64_succ (by omega)), trivial⟩, trivial⟩⟩
    · conv => whnf
      by_cases hz : s = 0#64
      · have e2 : (s != 0#64) = false := by simpa using hz
        have hn : (s.toNat : Int) = 0 := by subst hz; rfl
        have hf0 : firstZ s = 0 := by unfold firstZ; rw [if_pos hz]
        rw [e2] at h5 e1
        repeat' (first | (refine And.intro (by first | exact rfl | decide | exact Nat.le_of_ble_eq_true rfl | exact ⟨_, rfl⟩ | exact ⟨_, _, rfl⟩ | exact Nat.le_refl _ | exact Int.le_refl _ | omega | (simp only [List.length_map]; omega) | exact True.intro | (simp only [IntKind.wrap_i64, List.length_map]; omega) | (simp only [List.map_cons, List.map_nil, List.length_cons, Option.getD]; omega) | (simp only [bsz, ByteArray.size_append, List.size_toArray, List.length_cons, List.length_nil]; omega) | exact ⟨⟨_, _, rfl, rfl, Nat.le_of_ble_eq_true rfl⟩, trivial⟩ | exact ⟨⟨_, _, rfl, rfl, Nat.le_of_ble_eq_true rfl⟩, ⟨_, _, rfl, rfl, Nat.le_of_ble_eq_true rfl⟩, trivial⟩ | exact ⟨⟨_, _, rfl, rfl, Nat.le_of_ble_eq_true rfl⟩, ⟨_, _, rfl, rfl, Nat.le_of_ble_eq_true rfl⟩, ⟨_, _, rfl, rfl, Nat.le_of_ble_eq_true rfl⟩, trivial⟩) ?_; conv => whnf) | (refine ifB_intro (fun hA => ?_) (fun hA => ?_) <;> (try rw [hA]) <;> (conv => whnf) <;> (first | replace hA := of_decide_eq_true hA | replace hA := of_decide_eq_false hA | replace hA := eq_of_beq hA | replace hA := ne_of_beq_false hA | replace hA := bne_iff_ne.1 hA | replace hA := bne_eq_false_iff_eq.1 hA | skip) <;> (try simp only [ne_eq] at hA)) | (refine CallP.det (h5) ?_; conv => whnf) | (refine CallD.det (h5) ?_; conv => whnf) | (refine CallP.det (h6) ?_; conv => whnf) | (refine CallD.det (h6) ?_; conv => whnf) | (refine CallP.det (h7) ?_; conv => whnf) | (refine CallD.det (h7) ?_; conv => whnf) | (refine CallP.det (h8) ?_; conv => whnf) | (refine CallD.det (h8) ?_; conv => whnf) | (refine CallP.det (h9) ?_; conv => whnf) | (refine CallD.det (h9) ?_; conv => whnf) | (refine CallP.det (h10) ?_; conv => whnf) | (refine CallD.det (h10) ?_; conv => whnf) | (refine CallP.det (h11) ?_; conv => whnf) | (refine CallD.det (h11) ?_; conv => whnf) | (refine CallP.det (h12) ?_; conv => whnf) | (refine CallD.det (h12) ?_; conv => whnf) | (refine CallP.det (h13) ?_; conv => whnf) | (refine CallD.det (h13) ?_; conv => whnf) | (exact absurd e1.symm hA) | (exfalso; omega) | (exfalso; simp at hA; done) | (rw [getD_map _ _ _ _ (by assumption)]; conv => whnf))
        refine ⟨⟨[], ?_⟩⟩
        conv => whnf
        simp
      · obtain ⟨hf, _⟩ := lstZ_first s hz
        have e2 : (s != 0#64) = true := by simpa using hz
        have hn : (s.toNat : Int) ≠ 0 := fun h => hz (BitVec.eq_of_toNat_eq (by simpa using h))
        rw [e2] at h5 e1
        rw [hf]
        repeat' (first | (refine And.intro (by first | exact rfl | decide | exact Nat.le_of_ble_eq_true rfl | exact ⟨_, rfl⟩ | exact ⟨_, _, rfl⟩ | exact Nat.le_refl _ | exact Int.le_refl _ | omega | (simp only [List.length_map]; omega) | exact True.intro | (simp only [List.length_map]; omega) | (simp only [List.map_cons, List.length_cons]; omega) | (simp only [bsz, ByteArray.size_append, List.size_toArray, List.length_cons, List.length_nil]; omega) | exact ⟨⟨_, _, rfl, rfl, Nat.le_of_ble_eq_true rfl⟩, trivial⟩ | exact ⟨⟨_, _, rfl, rfl, Nat.le_of_ble_eq_true rfl⟩, ⟨_, _, rfl, rfl, Nat.le_of_ble_eq_true rfl⟩, trivial⟩ | exact ⟨⟨_, _, rfl, rfl, Nat.le_of_ble_eq_true rfl⟩, ⟨_, _, rfl, rfl, Nat.le_of_ble_eq_true rfl⟩, ⟨_, _, rfl, rfl, Nat.le_of_ble_eq_true rfl⟩, trivial⟩) ?_; conv => whnf) | (refine ifB_intro (fun hA => ?_) (fun hA => ?_) <;> (try rw [hA]) <;> (conv => whnf) <;> (first | replace hA := of_decide_eq_true hA | replace hA := of_decide_eq_false hA | replace hA := eq_of_beq hA | replace hA := ne_of_beq_false hA | replace hA := bne_iff_ne.1 hA | replace hA := bne_eq_false_iff_eq.1 hA | skip) <;> (try simp only [ne_eq] at hA)) | (refine CallP.det (h5) ?_; conv => whnf) | (refine CallD.det (h5) ?_; conv => whnf) | (refine And.intro (show (0 : Int) < (((firstZ s :: lstZ (withoutB s (firstZ s))).map rowZ).length : Int) by simp; omega) ?_; conv => whnf) | (refine CallP.det (h6) ?_; conv => whnf) | (refine CallD.det (h6) ?_; conv => whnf) | (refine CallP.det (h7) ?_; conv => whnf) | (refine CallD.det (h7) ?_; conv => whnf) | (refine CallP.det (h8) ?_; conv => whnf) | (refine CallD.det (h8) ?_; conv => whnf) | (refine CallP.det (h9) ?_; conv => whnf) | (refine CallD.det (h9) ?_; conv => whnf) | (refine CallP.det (h10) ?_; conv => whnf) | (refine CallD.det (h10) ?_; conv => whnf) | (refine CallP.det (h11) ?_; conv => whnf) | (refine CallD.det (h11) ?_; conv => whnf) | (refine CallP.det (h12) ?_; conv => whnf) | (refine CallD.det (h12) ?_; conv => whnf) | (refine CallP.det (h13) ?_; conv => whnf) | (refine CallD.det (h13) ?_; conv => whnf) | (exact absurd e1.symm hA) | (exfalso; omega) | (exfalso; simp at hA; done) | (rw [getD_map _ _ _ _ (by assumption)]; conv => whnf))
        refine ⟨⟨[], ?_⟩⟩
        conv => whnf
        simp
end Go.Ax
