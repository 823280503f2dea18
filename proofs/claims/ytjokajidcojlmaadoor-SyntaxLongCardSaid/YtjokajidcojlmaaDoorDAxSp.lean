import Derived.Test.YtjokajidcojlmaaDoorDAxSk
import Derived.Test.YtjokajidcojlmaaDoorDAxPi

/- SyntaxLong, walked. -/
namespace Go.Ax
open Go.Proofs Go.Lib
set_option maxRecDepth 10000

/-- A loop is left by one way; what is known there is told otherwise. -/
theorem LoopP.leave {E : Env} {k : Kn} {body : Code} {Q : APost} {s : St} (id : Nat) (s1 s2 : St) (h : LoopP E k body (fun e s => match e with | .exit i => i = id ∧ s1.Le s | _ => False) s) (hs : Sub E k s2 s1) (hq : Q (.exit id) s2) : LoopP E k body Q s :=
  ⟨fun c ok hn ha Im ρ a w S => wpIn_mono (h.ok c ok hn ha Im ρ a w S) fun e a' w' ⟨hne, Im', ρ', s', S', hQ⟩ => by
    cases e with
    | exit i =>
      obtain ⟨rfl, hle⟩ := hQ
      obtain ⟨Im2, ρ2, S3⟩ := hs c ok hn ha Im' ρ' a' w' (S'.weak (fun t => LeF.at hle.1 t) fun r o => LeH.at hle.2 r o)
      exact ⟨hne, Im2, ρ2, s2, S3, hq⟩
    | _ => exact hQ.elim⟩

theorem Sub.comp {E : Env} {k : Kn} {s1 s2 s3 : St} (h1 : Sub E k s2 s1) (h2 : Sub E k s3 s2) : Sub E k s3 s1 := fun c ok hn ha Im ρ a w S => by
  obtain ⟨Im1, ρ1, S1⟩ := h1 c ok hn ha Im ρ a w S
  exact h2 c ok hn ha Im1 ρ1 a w S1

def opN : Nat → Int
  | 0 => 1
  | _ + 1 => 4
def kidsN : Nat → D
  | 0 => .v (.slice none 0 0)
  | n + 1 => .sl true 4 [[.i64 (opN n), .i64 0, .u16 0, kidsN n]]
abbrev notR (n : Nat) : List D := [.i64 (opN n), .i64 0, .u16 0, kidsN n]
def nots : Nat → PolT
  | 0 => .mk 1 0 0 []
  | n + 1 => .mk 4 0 0 [nots n]
theorem notR_ok : ∀ n, RowL (notR n) (rowO4 (nots n))
  | 0 => push_row 1 0 0
  | n + 1 => not_row (notR_ok n)
def idsP (n : Nat) : PolT := .mk 6 0 0 (List.replicate n (.mk 1 0 0 []))

theorem nots_size : ∀ n, sizeP (nots n) = n + 1
  | 0 => by simp [nots, sizeP, sizesP]
  | n + 1 => by rw [nots, sizeP, sizesP, sizesP, nots_size n]; omega
theorem nots_depth : ∀ n, depthP (nots n) = n + 1
  | 0 => by simp [nots, depthP_at, PolT.kids, depthsP]
  | n + 1 => by
    rw [depthP_at]
    show depthsP [nots n] 0 + 1 = _
    simp [depthsP, nots_depth n]
theorem nots_pred (n : Nat) : predP (nots n) = true := by
  cases n <;> simp [nots, predP_at, PolT.op]
theorem nots_form : ∀ n, formP 1 (nots n) = true
  | 0 => by decide +kernel
  | n + 1 => by
    rw [formP_at]
    simp [nots, PolT.op, PolT.kids, PolT.f, PolT.n, predsN, formsN, nots_pred n, nots_form n]
theorem nots_check (n : Nat) : checkP ⟨[0], nots n, []⟩ = if n < 20 then 0 else 2 := by
  have h1 := nots_size n
  have h2 := nots_depth n
  have h3 := nots_form n
  unfold checkP
  simp only [h1, h2]
  by_cases h : n < 20
  · rw [if_neg (by simp; omega), if_neg (by simp; exact h3), if_pos h]; rfl
  · rw [if_pos (by simp; omega), if_neg h]

theorem ids_size : ∀ n, sizesP (List.replicate n (PolT.mk 1 0 0 [])) = n
  | 0 => rfl
  | n + 1 => by rw [List.replicate_succ, sizesP, ids_size n]; simp [sizeP, sizesP]; omega
theorem ids_depth : ∀ (n d : Nat), depthsP (List.replicate (n + 1) (PolT.mk 1 0 0 [])) d = max d 1
  | 0, d => by simp [depthsP, depthP]
  | n + 1, d => by rw [List.replicate_succ, depthsP, ids_depth n]; simp [depthP, depthsP]
theorem ids_forms : ∀ n, formsN 1 (List.replicate n (PolT.mk 1 0 0 [])) = false
  | 0 => by simp [formsN]
  | n + 1 => by
    rw [List.replicate_succ, formsN, ids_forms n]
    have : formP 1 (.mk 1 0 0 []) = true := by decide +kernel
    rw [this]; rfl
theorem ids_check (n : Nat) (h2 : 2 ≤ n) : checkP ⟨[0], idsP n, []⟩ = if n < 300 then 0 else 2 := by
  have h1 : sizeP (idsP n) = n + 1 := by rw [idsP, sizeP, ids_size]; omega
  have h3 : depthP (idsP n) = 2 := by
    obtain ⟨m, rfl⟩ : ∃ m, n = m + 1 := ⟨n - 1, by omega⟩
    rw [idsP, depthP, ids_depth]; rfl
  have h4 : formP 1 (idsP n) = true := by
    rw [formP_at]
    simp [idsP, PolT.op, PolT.kids, PolT.f, PolT.n, ids_forms n, h2]
  unfold checkP
  simp only [h1, h3]
  by_cases h : n < 300
  · rw [if_neg (by simp; omega), if_neg (by simp; exact h4), if_pos h]; rfl
  · rw [if_pos (by simp; omega), if_neg h]

abbrev idR : List D := zrow 1 0 0
theorem ids_rows (n : Nat) : RowsL (List.replicate n idR) ((List.replicate n (PolT.mk 1 0 0 [])).map rowO4) := by
  refine ⟨by simp, fun i x y h1 h2 => ?_⟩
  simp [List.getElem?_replicate] at h1 h2
  obtain ⟨_, rfl⟩ := h1
  obtain ⟨_, rfl⟩ := h2
  exact push_row 1 0 0

theorem checkN_ctr (g : GP) (n : Nat) (hn : n ≤ 256) : Ctr (ax g).E 37 [.dagg (.sl true 1 [[.u16 0]] :: (notR n ++ [.v (.slice none 0 0)]))] [] (fun o => o = .ret (.i64 (if n < 20 then 0 else 2)) []) := by
  rw [← nots_check n]
  refine (check5_ctr g ⟨[0], nots n, []⟩ ⟨by show 1 < _; omega, by show sizeP (nots n) < _; rw [nots_size]; omega, by show 0 < _; omega, by simp⟩).leR ?_
  have h := notR_ok n
  rw [rowO4_at] at h
  refine .cons (RowsL.dl ⟨rfl, fun i x y h1 h2 => ?_⟩) ?_
  · cases i with
    | zero => simp at h1 h2; subst h1; subst h2; exact .refl _
    | succ i => simp at h1
  · exact ⟨rfl, fun j x y h1 h2 => by
      match j with
      | 0 => exact h.2 0 x y h1 h2
      | 1 => exact h.2 1 x y h1 h2
      | 2 => exact h.2 2 x y h1 h2
      | 3 => exact h.2 3 x y h1 h2
      | 4 => simp at h1; subst h1; simp [] at h2; subst h2; exact .nil _ _
      | j + 5 => simp at h1⟩
theorem checkI_ctr (g : GP) (n : Nat) (h2 : 2 ≤ n) (hn : n ≤ 400) : Ctr (ax g).E 37 [.dagg [.sl true 1 [[.u16 0]], .i64 6, .i64 0, .u16 0, .sl false 4 (List.replicate n idR), .v (.slice none 0 0)]] [] (fun o => o = .ret (.i64 (if n < 300 then 0 else 2)) []) := by
  rw [← ids_check n h2]
  refine (check5_ctr g ⟨[0], idsP n, []⟩ ⟨by show 1 < _; omega, by show sizeP (idsP n) < _; rw [idsP, sizeP, ids_size]; omega, by show 0 < _; omega, by simp⟩).leR ?_
  refine .cons (RowsL.dl ⟨rfl, fun i x y h1 h2 => ?_⟩) ?_
  · cases i with
    | zero => simp at h1 h2; subst h1; subst h2; exact .refl _
    | succ i => simp at h1
  · exact .cons (.refl _) (.cons (.refl _) (.cons (.refl _) (.cons (ids_rows n).dl (.cons (.nil _ _) (.refl [])))))

theorem u8_succ {i : Nat} (h : i < 255) : IntKind.u8.wrap ((i : Int) + 1) = ((i + 1 : Nat) : Int) := by
  simp [IntKind.wrap, IntKind.bits, IntKind.signed]; omega
theorem u16_succ {i : Nat} (h : i < 65535) : IntKind.u16.wrap ((i : Int) + 1) = ((i + 1 : Nat) : Int) := by
  simp [IntKind.wrap, IntKind.bits, IntKind.signed]; omega

theorem longLaw_ctr (g : GP) (hg : ∀ w, g.G w → LibG w) (deep wide : Nat) (h1 : deep < 256) (h2 : wide < 65536) :
    Ctr (ax g).E 9 [.d (.v (.int .u8 deep)), .d (.u16 wide)] [] (fun o => o = .ret (.bool true) []) := by
  have ha := awake5_ctr g hg
  refine Ctr.body (X := ax g) _ 74 [] [.tmp 4] Tryd.func9 rfl rfl rfl rfl (by decide +kernel) rfl rfl ?_
  conv => whnf
  repeat' (first | (refine And.intro (by first | exact rfl | decide | exact Nat.le_of_ble_eq_true rfl | exact ⟨_, rfl⟩ | exact ⟨_, _, rfl⟩ | exact Nat.le_refl _ | exact Int.le_refl _ | omega | (simp only []; omega) | exact True.intro | (simp only []; omega) | (simp only [List.length_cons]; omega) | (simp only [List.length_cons, List.length_nil]; omega) | exact ⟨⟨_, _, rfl, rfl, Nat.le_of_ble_eq_true rfl⟩, trivial⟩ | exact ⟨⟨_, _, rfl, rfl, Nat.le_of_ble_eq_true rfl⟩, ⟨_, _, rfl, rfl, Nat.le_of_ble_eq_true rfl⟩, trivial⟩ | exact ⟨⟨_, _, rfl, rfl, Nat.le_of_ble_eq_true rfl⟩, ⟨_, _, rfl, rfl, Nat.le_of_ble_eq_true rfl⟩, ⟨_, _, rfl, rfl, Nat.le_of_ble_eq_true rfl⟩, trivial⟩) ?_; conv => whnf) | (refine ifB_intro (fun hA => ?_) (fun hA => ?_) <;> (try rw [hA]) <;> (conv => whnf) <;> (first | replace hA := of_decide_eq_true hA | replace hA := of_decide_eq_false hA | replace hA := eq_of_beq hA | replace hA := ne_of_beq_false hA | replace hA := bne_iff_ne.1 hA | replace hA := bne_eq_false_iff_eq.1 hA | skip) <;> (try simp only [List.length_map, cond_true, cond_false, Bool.not_eq_true', Bool.not_eq_false', beq_iff_eq, beq_eq_false_iff_ne, ne_eq] at hA)) | (refine CallP.det (ha) ?_; conv => whnf) | (refine CallD.det (ha) ?_; conv => whnf) | (rw [getD_map _ _ _ _ (by assumption)]; conv => whnf))
  all_goals first
    | (refine ⟨⟨[], ?_⟩⟩; (conv => whnf); done)
    | (refine ⟨⟨[], ?_⟩⟩; (conv => whnf); rfl)
    | skip
  have hd : deep ≤ 40 := by omega
  have hw : 2 ≤ wide ∧ wide ≤ 400 := by omega
  refine LoopP.inv (X := ax g) (fun i : Nat => { f := [(0, .d (.v (.int .u8 deep))), (1, .d (.u16 wide)), (4, .bool false), (5, .ptr 5 0), (22, .d (.v (.int .u8 deep))), (23, .d (.v (.int .u8 i)))], h := [(5, some (.dvar 4 (notR i)))] }) (fun i => i ≤ deep) (fun i => deep - i) 0 (Nat.zero_le _) ⟨⟨rfl, rfl, rfl, rfl, rfl, rfl, trivial⟩, ⟨fun o h => h, trivial⟩⟩ fun i hi => ?_
  conv => whnf
  repeat' (first | (refine And.intro (by first | exact rfl | decide | exact Nat.le_of_ble_eq_true rfl | exact ⟨_, rfl⟩ | exact ⟨_, _, rfl⟩ | exact Nat.le_refl _ | exact Int.le_refl _ | omega | (simp only []; omega) | exact True.intro | (simp only []; omega) | (simp only [List.length_cons]; omega) | (simp only [List.length_cons, List.length_nil]; omega) | exact ⟨⟨_, _, rfl, rfl, Nat.le_of_ble_eq_true rfl⟩, trivial⟩ | exact ⟨⟨_, _, rfl, rfl, Nat.le_of_ble_eq_true rfl⟩, ⟨_, _, rfl, rfl, Nat.le_of_ble_eq_true rfl⟩, trivial⟩ | exact ⟨⟨_, _, rfl, rfl, Nat.le_of_ble_eq_true rfl⟩, ⟨_, _, rfl, rfl, Nat.le_of_ble_eq_true rfl⟩, ⟨_, _, rfl, rfl, Nat.le_of_ble_eq_true rfl⟩, trivial⟩) ?_; conv => whnf) | (refine ifB_intro (fun hA => ?_) (fun hA => ?_) <;> (try rw [hA]) <;> (conv => whnf) <;> (first | replace hA := of_decide_eq_true hA | replace hA := of_decide_eq_false hA | replace hA := eq_of_beq hA | replace hA := ne_of_beq_false hA | replace hA := bne_iff_ne.1 hA | replace hA := bne_eq_false_iff_eq.1 hA | skip) <;> (try simp only [List.length_map, cond_true, cond_false, Bool.not_eq_true', Bool.not_eq_false', beq_iff_eq, beq_eq_false_iff_ne, ne_eq] at hA)) | (rw [getD_map _ _ _ _ (by assumption)]; conv => whnf))
  · exact ⟨i + 1, by omega, by omega, ⟨⟨rfl, rfl, rfl, rfl, rfl, by rw [u8_succ (by omega)]; rfl, trivial⟩, ⟨fun o h => h, trivial⟩⟩⟩
  · have hie : i = deep := by omega
    subst hie
    refine LoopP.own 6 6000 4 29 rfl rfl rfl ?_
    refine LoopP.leave 2 { f := [(0, .d (.v (.int .u8 i))), (1, .d (.u16 wide)), (4, .bool false), (5, .ptr 5 0), (6, .msl 6000 wide 0 wide)], h := [(6000, some (.buf 4 29 (List.replicate wide idR))), (5, some (.dvar 4 (notR i)))] }
      { f := [(0, .d (.v (.int .u8 i))), (1, .d (.u16 wide)), (4, .bool false), (5, .ptr 5 0), (6, .d (.sl false 4 (List.replicate wide idR)))], h := [(5, some (.dvar 4 (notR i)))] } ?_ ((Sub.frz 6 6000 wide 0 wide 4 29 (List.replicate wide idR) rfl rfl rfl (by simp) (by omega)).comp (St.Le.sub ⟨⟨rfl, rfl, rfl, rfl, ?_, trivial⟩, ⟨fun o h => h, trivial⟩⟩)) ?_
    · refine LoopP.inv (X := ax g) (fun j : Nat => { f := [(0, .d (.v (.int .u8 i))), (1, .d (.u16 wide)), (4, .bool false), (5, .ptr 5 0), (6, .msl 6000 (List.replicate j idR).length 0 (List.replicate j idR).length), (29, .d (.u16 wide)), (30, .d (.u16 j))], h := [(6000, some (.buf 4 29 (List.replicate j idR))), (5, some (.dvar 4 (notR i)))] }) (fun j => j ≤ wide) (fun j => wide - j) 0 (Nat.zero_le _) ⟨⟨rfl, rfl, rfl, rfl, rfl, rfl, rfl, trivial⟩, ⟨fun o h => h, fun o h => h, trivial⟩⟩ fun j hj => ?_
      conv => whnf
      repeat' (first | (refine And.intro (by first | exact rfl | decide | exact Nat.le_of_ble_eq_true rfl | exact ⟨_, rfl⟩ | exact ⟨_, _, rfl⟩ | exact Nat.le_refl _ | exact Int.le_refl _ | omega | (simp only []; omega) | exact True.intro | (simp only []; omega) | (simp only [List.map_cons, List.map_nil, List.length_cons]; omega) | (simp only [List.length_cons, List.length_nil]; omega) | exact ⟨⟨_, _, rfl, rfl, Nat.le_of_ble_eq_true rfl⟩, trivial⟩ | exact ⟨⟨_, _, rfl, rfl, Nat.le_of_ble_eq_true rfl⟩, ⟨_, _, rfl, rfl, Nat.le_of_ble_eq_true rfl⟩, trivial⟩ | exact ⟨⟨_, _, rfl, rfl, Nat.le_of_ble_eq_true rfl⟩, ⟨_, _, rfl, rfl, Nat.le_of_ble_eq_true rfl⟩, ⟨_, _, rfl, rfl, Nat.le_of_ble_eq_true rfl⟩, trivial⟩) ?_; conv => whnf) | (refine ifB_intro (fun hA => ?_) (fun hA => ?_) <;> (try rw [hA]) <;> (conv => whnf) <;> (first | replace hA := of_decide_eq_true hA | replace hA := of_decide_eq_false hA | replace hA := eq_of_beq hA | replace hA := ne_of_beq_false hA | replace hA := bne_iff_ne.1 hA | replace hA := bne_eq_false_iff_eq.1 hA | skip) <;> (try simp only [List.length_map, cond_true, cond_false, Bool.not_eq_true', Bool.not_eq_false', beq_iff_eq, beq_eq_false_iff_ne, ne_eq] at hA)) | (refine And.intro (show ((List.replicate j idR).length + 1) * 48 ≤ 140737488355328 by simp; omega) ?_; conv => whnf) | (rw [getD_map _ _ _ _ (by assumption)]; conv => whnf))
      · exact ⟨j + 1, by omega, by omega, ⟨⟨rfl, rfl, rfl, rfl, msl_eq (by simp), rfl, by rw [u16_succ (by omega)]; rfl, trivial⟩, ⟨fun o h => by rw [← h, List.replicate_succ']; rfl, fun o h => h, trivial⟩⟩⟩
      · have : j = wide := by omega
        subst this
        exact ⟨⟨rfl, rfl, rfl, rfl, msl_eq (by simp), trivial⟩, ⟨fun o h => h, fun o h => h, trivial⟩⟩
    · rw [List.drop_zero, List.take_of_length_le (by simp)]; rfl
    · have c1 := checkN_ctr g i (by omega)
      have c2 := checkI_ctr g wide hw.1 hw.2
      have hd1 : decide ((i : Int) < 20) = decide (i < 20) := by rw [decide_eq_decide]; omega
      have hd2 : decide ((wide : Int) < 300) = decide (wide < 300) := by rw [decide_eq_decide]; omega
      conv => whnf
      repeat' (first | (refine And.intro (by first | exact rfl | decide | exact Nat.le_of_ble_eq_true rfl | exact ⟨_, rfl⟩ | exact ⟨_, _, rfl⟩ | exact Nat.le_refl _ | exact Int.le_refl _ | omega | (simp only []; omega) | exact True.intro | (simp only []; omega) | (simp only [List.map_cons, List.map_nil, List.length_cons]; omega) | (simp only [List.length_cons, List.length_nil]; omega) | exact ⟨⟨_, _, rfl, rfl, Nat.le_of_ble_eq_true rfl⟩, trivial⟩ | exact ⟨⟨_, _, rfl, rfl, Nat.le_of_ble_eq_true rfl⟩, ⟨_, _, rfl, rfl, Nat.le_of_ble_eq_true rfl⟩, trivial⟩ | exact ⟨⟨_, _, rfl, rfl, Nat.le_of_ble_eq_true rfl⟩, ⟨_, _, rfl, rfl, Nat.le_of_ble_eq_true rfl⟩, ⟨_, _, rfl, rfl, Nat.le_of_ble_eq_true rfl⟩, trivial⟩) ?_; conv => whnf) | (refine ifB_intro (fun hA => ?_) (fun hA => ?_) <;> (try rw [hA]) <;> (conv => whnf) <;> (first | replace hA := of_decide_eq_true hA | replace hA := of_decide_eq_false hA | replace hA := eq_of_beq hA | replace hA := ne_of_beq_false hA | replace hA := bne_iff_ne.1 hA | replace hA := bne_eq_false_iff_eq.1 hA | skip) <;> (try simp only [List.length_map, cond_true, cond_false, Bool.not_eq_true', Bool.not_eq_false', beq_iff_eq, beq_eq_false_iff_ne, ne_eq] at hA)) | (refine CallP.det (c1) ?_; conv => whnf) | (refine CallD.det (c1) ?_; conv => whnf) | (refine CallP.det (c2) ?_; conv => whnf) | (refine CallD.det (c2) ?_; conv => whnf) | (rw [getD_map _ _ _ _ (by assumption)]; conv => whnf))
      all_goals first
        | (refine ⟨⟨[], ?_⟩⟩; (conv => whnf); done)
        | (exfalso; clear ha c1 c2; simp only [hd1, hd2] at *; by_cases q1 : i < 20 <;> by_cases q2 : wide < 300 <;> simp_all; done)
        | (refine ⟨⟨[], ?_⟩⟩; (conv => whnf); rfl)
        | (refine ⟨⟨[], ?_⟩⟩; (conv => whnf); simp; done)
        | (refine ⟨⟨[], ?_⟩⟩; (conv => whnf); clear ha c1 c2; by_cases q1 : i < 20 <;> by_cases q2 : wide < 300 <;> simp_all; done)

end Go.Ax
