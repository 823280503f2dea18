import Derived.Test.YtjokajidcojlmaaDoorCAxPs
import Derived.Test.YtjokajidcojlmaaDoorCAxTt

/- Names and numbers as texts. -/
namespace Go.Ax
open Go.Proofs
set_option maxRecDepth 10000

def zero4 : List (List D) := [[.u16 0], [.u16 0], [.u16 0], [.u16 0]]
theorem any_ctr (g : GP) (a : D) (b c d : D) (e f : D) : Ctr (ax g).E 72 [.dagg [a, b, c, d, e, f]] [] (fun o => o = .ret (.dagg [.sl false 1 zero4, b, c, d, e, f]) []) := by
  refine Ctr.body (X := ax g) _ 6 [] [.cell 2 34] Tryd.func72 rfl rfl rfl rfl (by decide +kernel) rfl rfl ?_
  conv => whnf
  repeat' (first | (refine And.intro (by first | exact rfl | decide | exact Nat.le_of_ble_eq_true rfl | exact ⟨_, rfl⟩ | exact ⟨_, _, rfl⟩ | exact Nat.le_refl _ | exact Int.le_refl _ | omega | (simp only [List.length_map]; omega) | exact True.intro | (simp only [IntKind.wrap_i64, List.length_map]; omega) | (simp only [bsz, ByteArray.size_append, List.size_toArray, List.length_cons, List.length_nil]; omega) | exact ⟨⟨_, _, rfl, rfl, Nat.le_of_ble_eq_true rfl⟩, trivial⟩ | exact ⟨⟨_, _, rfl, rfl, Nat.le_of_ble_eq_true rfl⟩, ⟨_, _, rfl, rfl, Nat.le_of_ble_eq_true rfl⟩, trivial⟩ | exact ⟨⟨_, _, rfl, rfl, Nat.le_of_ble_eq_true rfl⟩, ⟨_, _, rfl, rfl, Nat.le_of_ble_eq_true rfl⟩, ⟨_, _, rfl, rfl, Nat.le_of_ble_eq_true rfl⟩, trivial⟩) ?_; conv => whnf) | (refine ifB_intro (fun hA => ?_) (fun hA => ?_) <;> (try rw [hA]) <;> (conv => whnf) <;> (first | replace hA := of_decide_eq_true hA | replace hA := of_decide_eq_false hA | replace hA := eq_of_beq hA | replace hA := ne_of_beq_false hA | skip) <;> (try simp only [List.length_map, cond_true, cond_false, Bool.not_eq_true', Bool.not_eq_false', beq_iff_eq, beq_eq_false_iff_ne, ne_eq] at hA)) | (rw [getD_map _ _ _ _ (by assumption)]; conv => whnf))
  refine ⟨⟨[], ?_⟩⟩
  conv => whnf
  repeat' (first | (refine And.intro (by first | exact rfl | decide | exact Nat.le_of_ble_eq_true rfl | exact ⟨_, rfl⟩ | exact ⟨_, _, rfl⟩ | exact Nat.le_refl _ | exact Int.le_refl _ | omega | (simp only [List.length_map]; omega) | exact True.intro | (simp only [IntKind.wrap_i64, List.length_map]; omega) | (simp only [bsz, ByteArray.size_append, List.size_toArray, List.length_cons, List.length_nil]; omega) | exact ⟨⟨_, _, rfl, rfl, Nat.le_of_ble_eq_true rfl⟩, trivial⟩ | exact ⟨⟨_, _, rfl, rfl, Nat.le_of_ble_eq_true rfl⟩, ⟨_, _, rfl, rfl, Nat.le_of_ble_eq_true rfl⟩, trivial⟩ | exact ⟨⟨_, _, rfl, rfl, Nat.le_of_ble_eq_true rfl⟩, ⟨_, _, rfl, rfl, Nat.le_of_ble_eq_true rfl⟩, ⟨_, _, rfl, rfl, Nat.le_of_ble_eq_true rfl⟩, trivial⟩) ?_; conv => whnf) | (refine ifB_intro (fun hA => ?_) (fun hA => ?_) <;> (try rw [hA]) <;> (conv => whnf) <;> (first | replace hA := of_decide_eq_true hA | replace hA := of_decide_eq_false hA | replace hA := eq_of_beq hA | replace hA := ne_of_beq_false hA | skip) <;> (try simp only [List.length_map, cond_true, cond_false, Bool.not_eq_true', Bool.not_eq_false', beq_iff_eq, beq_eq_false_iff_ne, ne_eq] at hA)) | (rw [getD_map _ _ _ _ (by assumption)]; conv => whnf))
  rfl
def nameF (f : Int) : ByteArray :=
  if f = 0 then ⟨#[115, 119]⟩ else if f = 1 then ⟨#[112, 116]⟩ else if f = 2 then ⟨#[115, 114, 99]⟩ else if f = 3 then ⟨#[100, 115, 116]⟩
  else if f = 4 then ⟨#[116, 121, 112]⟩ else if f = 5 then ⟨#[115, 118, 99]⟩ else if f = 6 then ⟨#[118, 105, 100]⟩ else if f = 7 then ⟨#[111, 112, 116]⟩ else ⟨#[]⟩
theorem name_ctr (g : GP) (f : Int) : Ctr (ax g).E 113 [.i64 f] [] (fun o => o = .ret (.str (nameF f)) []) := by
  refine Ctr.body (X := ax g) _ 20 [] [.tmp 2] Tryd.func113 rfl rfl rfl rfl (by decide +kernel) rfl rfl ?_
  conv => whnf
  repeat' (first | (refine And.intro (by first | exact rfl | decide | exact Nat.le_of_ble_eq_true rfl | exact ⟨_, rfl⟩ | exact ⟨_, _, rfl⟩ | exact Nat.le_refl _ | exact Int.le_refl _ | omega | (simp only [List.length_map]; omega) | exact True.intro | (simp only [IntKind.wrap_i64, List.length_map]; omega) | (simp only [bsz, ByteArray.size_append, List.size_toArray, List.length_cons, List.length_nil]; omega) | exact ⟨⟨_, _, rfl, rfl, Nat.le_of_ble_eq_true rfl⟩, trivial⟩ | exact ⟨⟨_, _, rfl, rfl, Nat.le_of_ble_eq_true rfl⟩, ⟨_, _, rfl, rfl, Nat.le_of_ble_eq_true rfl⟩, trivial⟩ | exact ⟨⟨_, _, rfl, rfl, Nat.le_of_ble_eq_true rfl⟩, ⟨_, _, rfl, rfl, Nat.le_of_ble_eq_true rfl⟩, ⟨_, _, rfl, rfl, Nat.le_of_ble_eq_true rfl⟩, trivial⟩) ?_; conv => whnf) | (refine ifB_intro (fun hA => ?_) (fun hA => ?_) <;> (try rw [hA]) <;> (conv => whnf) <;> (first | replace hA := of_decide_eq_true hA | replace hA := of_decide_eq_false hA | replace hA := eq_of_beq hA | replace hA := ne_of_beq_false hA | skip) <;> (try simp only [List.length_map, cond_true, cond_false, Bool.not_eq_true', Bool.not_eq_false', beq_iff_eq, beq_eq_false_iff_ne, ne_eq] at hA)) | (rw [getD_map _ _ _ _ (by assumption)]; conv => whnf))
  all_goals (refine ⟨⟨[], ?_⟩⟩; (conv => whnf); simp_all [nameF])
theorem digits6_ctr (g : GP) (hg : ∀ w, g.G w → PowG w) (n : Int) (h : 0 ≤ n ∧ n < 65536) : Ctr (ax g).E 77 [.d (.v (.int .u16 n))] [] (fun o => o = .ret (.str (digB n.toNat)) []) := by
  refine Ctr.body (X := ax g) _ 6 [] [.tmp 2] Tryd.func77 rfl rfl rfl rfl (by decide +kernel) rfl rfl ?_
  conv => whnf
  rw [i64_conv h.1 h.2]
  repeat' (first | (refine And.intro (by first | exact rfl | decide | exact Nat.le_of_ble_eq_true rfl | exact ⟨_, rfl⟩ | exact ⟨_, _, rfl⟩ | exact Nat.le_refl _ | exact Int.le_refl _ | omega | (simp only [List.length_map]; omega) | exact True.intro | (simp only [IntKind.wrap_i64, List.length_map]; omega) | (simp only [bsz, ByteArray.size_append, List.size_toArray, List.length_cons, List.length_nil]; omega) | exact ⟨⟨_, _, rfl, rfl, Nat.le_of_ble_eq_true rfl⟩, trivial⟩ | exact ⟨⟨_, _, rfl, rfl, Nat.le_of_ble_eq_true rfl⟩, ⟨_, _, rfl, rfl, Nat.le_of_ble_eq_true rfl⟩, trivial⟩ | exact ⟨⟨_, _, rfl, rfl, Nat.le_of_ble_eq_true rfl⟩, ⟨_, _, rfl, rfl, Nat.le_of_ble_eq_true rfl⟩, ⟨_, _, rfl, rfl, Nat.le_of_ble_eq_true rfl⟩, trivial⟩) ?_; conv => whnf) | (refine ifB_intro (fun hA => ?_) (fun hA => ?_) <;> (try rw [hA]) <;> (conv => whnf) <;> (first | replace hA := of_decide_eq_true hA | replace hA := of_decide_eq_false hA | replace hA := eq_of_beq hA | replace hA := ne_of_beq_false hA | skip) <;> (try simp only [List.length_map, cond_true, cond_false, Bool.not_eq_true', Bool.not_eq_false', beq_iff_eq, beq_eq_false_iff_ne, ne_eq] at hA)) | (refine CallP.det (itoa_ctr g hg _ (by omega)) ?_; conv => whnf) | (refine CallD.det (itoa_ctr g hg _ (by omega)) ?_; conv => whnf) | (rw [getD_map _ _ _ _ (by assumption)]; conv => whnf))
  refine ⟨⟨[], ?_⟩⟩
  conv => whnf
  rfl
/-- A number of 64 bits as it is told: none that is less than nothing is. -/
theorem itoaI_ctr (g : GP) (hg : ∀ w, g.G w → PowG w) (n : Int) (h : 0 ≤ n ∧ n < 65536) : Ctr (ax g).E 84 [.i64 n] [] (fun o => o = .ret (.str (digB n.toNat)) []) := by
  have := itoa_ctr g hg n.toNat (by omega)
  rw [show ((n.toNat : Nat) : Int) = n by omega] at this
  exact this
def partB (f : Int) (sign : ByteArray) (n : Int) : ByteArray := ((⟨#[64]⟩ ++ digB f.toNat) ++ sign) ++ digB n.toNat
theorem digI_len {n : Int} (h : n < 65536) : (digB n.toNat).size ≤ 5 := digB_len (by omega)
theorem part_ctr (g : GP) (hg : ∀ w, g.G w → PowG w) (f : Int) (sign : ByteArray) (n : Int) (hf : 0 ≤ f ∧ f < 65536) (h : 0 ≤ n ∧ n < 65536) (hs : sign.size ≤ 10) : Ctr (ax g).E 118 [.i64 f, .str sign, .d (.v (.int .u16 n))] [] (fun o => o = .ret (.str (partB f sign n)) []) := by
  refine Ctr.body (X := ax g) _ 15 [] [.tmp 6] Tryd.func118 rfl rfl rfl rfl (by decide +kernel) rfl rfl ?_
  conv => whnf
  have h1 := digI_len hf.2
  have h2 := digI_len h.2
  repeat' (first | (refine And.intro (by first | exact rfl | decide | exact Nat.le_of_ble_eq_true rfl | exact ⟨_, rfl⟩ | exact ⟨_, _, rfl⟩ | exact Nat.le_refl _ | exact Int.le_refl _ | omega | (simp only [List.length_map]; omega) | exact True.intro | (simp only [IntKind.wrap_i64, List.length_map]; omega) | (simp only [bsz, ByteArray.size_append, List.size_toArray, List.length_cons, List.length_nil]; omega) | exact ⟨⟨_, _, rfl, rfl, Nat.le_of_ble_eq_true rfl⟩, trivial⟩ | exact ⟨⟨_, _, rfl, rfl, Nat.le_of_ble_eq_true rfl⟩, ⟨_, _, rfl, rfl, Nat.le_of_ble_eq_true rfl⟩, trivial⟩ | exact ⟨⟨_, _, rfl, rfl, Nat.le_of_ble_eq_true rfl⟩, ⟨_, _, rfl, rfl, Nat.le_of_ble_eq_true rfl⟩, ⟨_, _, rfl, rfl, Nat.le_of_ble_eq_true rfl⟩, trivial⟩) ?_; conv => whnf) | (refine ifB_intro (fun hA => ?_) (fun hA => ?_) <;> (try rw [hA]) <;> (conv => whnf) <;> (first | replace hA := of_decide_eq_true hA | replace hA := of_decide_eq_false hA | replace hA := eq_of_beq hA | replace hA := ne_of_beq_false hA | skip) <;> (try simp only [List.length_map, cond_true, cond_false, Bool.not_eq_true', Bool.not_eq_false', beq_iff_eq, beq_eq_false_iff_ne, ne_eq] at hA)) | (refine CallP.det (itoaI_ctr g hg f hf) ?_; conv => whnf) | (refine CallD.det (itoaI_ctr g hg f hf) ?_; conv => whnf) | (refine CallP.det (digits6_ctr g hg n h) ?_; conv => whnf) | (refine CallD.det (digits6_ctr g hg n h) ?_; conv => whnf) | (rw [getD_map _ _ _ _ (by assumption)]; conv => whnf))
  refine ⟨⟨[], ?_⟩⟩
  conv => whnf
  rfl
end Go.Ax
