import Derived.Test.YtjokajidcojlmaaDoorBAxTp

/- The laws of layer 13, walked. -/
namespace Go.Ax
open Go.Proofs Go.Lib
set_option maxRecDepth 10000

def text0 : ByteArray := ⟨#[115, 119, 105, 116, 99, 104, 32, 49, 32, 50, 32, 46, 32, 108, 105, 110, 107, 32, 49, 58, 50, 32, 45, 32, 50, 58, 50, 32, 46, 32, 104, 111, 115, 116, 32, 49, 58, 49, 32, 46]⟩
def topo0 : TopoT := ⟨[1, 2], [((1, 2), (2, 2))], [(1, 1)]⟩
theorem parse0 : parseF text0 = (some topo0, 0) := by
  kernel_rfl

theorem text0_eq : textF topo0 = ⟨#[115, 119, 105, 116, 99, 104, 32, 49, 32, 50, 32, 46, 10, 108, 105, 110, 107, 32, 49, 58, 50, 32, 45, 32, 50, 58, 50, 32, 46, 10, 104, 111, 115, 116, 32, 49, 58, 49, 32, 46, 10]⟩ := by
  have h1 : digB (1 : Int).toNat = ⟨#[49]⟩ := by rw [show (1 : Int).toNat = 1 from rfl, digB, decDigits_one (by decide)]; rfl
  have h2 : digB (2 : Int).toNat = ⟨#[50]⟩ := by rw [show (2 : Int).toNat = 2 from rfl, digB, decDigits_one (by decide)]; rfl
  simp only [textF, topo0, swT, swB, lnB, hoB, sayB, List.foldl_cons, List.foldl_nil, List.length_cons, List.length_nil, h1, h2]
  first | kernel_rfl | decide +kernel

theorem awake13_ctr (g : GP) (hg : ∀ w, g.G w → LibG w) (hp : ∀ w, g.G w → PowG w) : Ctr (ax g).E 29 [] [] (fun o => o = .ret (.bool true) []) := by
  refine Ctr.body (X := ax g) _ 41 [] [.tmp 0] Tryd.func29 rfl rfl rfl rfl (by decide +kernel) rfl rfl ?_
  conv => whnf
  refine CallP.det (parse_ctr g hg text0 (by decide)) ?_
  rw [parse0]
  conv => whnf
  repeat (refine And.intro (by first | exact rfl | decide | exact Nat.le_of_ble_eq_true rfl | exact ⟨_, rfl⟩ | exact ⟨_, _, rfl⟩ | exact Nat.le_refl _ | exact Int.le_refl _ | omega | (simp only [List.length_map]; omega)) ?_; conv => whnf)
  refine And.intro ⟨⟨_, _, rfl, rfl, Nat.le_of_ble_eq_true rfl⟩, ⟨_, _, rfl, rfl, Nat.le_of_ble_eq_true rfl⟩, trivial⟩ ?_
  conv => whnf
  repeat (refine And.intro (by first | exact rfl | decide | exact Nat.le_of_ble_eq_true rfl | exact ⟨_, rfl⟩ | exact ⟨_, _, rfl⟩ | exact Nat.le_refl _ | exact Int.le_refl _ | omega | (simp only [List.length_map]; omega)) ?_; conv => whnf)
  refine CallP.det (other_ctr g topo0 (2, 2) (by decide)) ?_
  conv => whnf
  repeat (refine And.intro (by first | exact rfl | decide | exact Nat.le_of_ble_eq_true rfl | exact ⟨_, rfl⟩ | exact ⟨_, _, rfl⟩ | exact Nat.le_refl _ | exact Int.le_refl _ | omega | (simp only [List.length_map]; omega)) ?_; conv => whnf)
  refine And.intro ⟨⟨_, _, rfl, rfl, Nat.le_of_ble_eq_true rfl⟩, ⟨_, _, rfl, rfl, Nat.le_of_ble_eq_true rfl⟩, trivial⟩ ?_
  conv => whnf
  repeat (refine And.intro (by first | exact rfl | decide | exact Nat.le_of_ble_eq_true rfl | exact ⟨_, rfl⟩ | exact ⟨_, _, rfl⟩ | exact Nat.le_refl _ | exact Int.le_refl _ | omega | (simp only [List.length_map]; omega)) ?_; conv => whnf)
  refine And.intro ⟨⟨_, _, rfl, rfl, Nat.le_of_ble_eq_true rfl⟩, ⟨_, _, rfl, rfl, Nat.le_of_ble_eq_true rfl⟩, trivial⟩ ?_
  conv => whnf
  repeat (refine And.intro (by first | exact rfl | decide | exact Nat.le_of_ble_eq_true rfl | exact ⟨_, rfl⟩ | exact ⟨_, _, rfl⟩ | exact Nat.le_refl _ | exact Int.le_refl _ | omega | (simp only [List.length_map]; omega)) ?_; conv => whnf)
  refine CallP.det (host_ctr g topo0 (1, 1) (by decide)) ?_
  conv => whnf
  repeat (refine And.intro (by first | exact rfl | decide | exact Nat.le_of_ble_eq_true rfl | exact ⟨_, rfl⟩ | exact ⟨_, _, rfl⟩ | exact Nat.le_refl _ | exact Int.le_refl _ | omega | (simp only [List.length_map]; omega)) ?_; conv => whnf)
  refine CallP.det (text_ctr g hp topo0 ⟨by decide, by decide, by decide⟩ ⟨by decide, by decide, by decide⟩) ?_
  rw [text0_eq]
  conv => whnf
  repeat (refine And.intro (by first | exact rfl | decide | exact Nat.le_of_ble_eq_true rfl | exact ⟨_, rfl⟩ | exact ⟨_, _, rfl⟩ | exact Nat.le_refl _ | exact Int.le_refl _ | omega | (simp only [List.length_map]; omega)) ?_; conv => whnf)
  refine ⟨⟨[], ?_⟩⟩
  conv => whnf
  kernel_rfl
end Go.Ax
