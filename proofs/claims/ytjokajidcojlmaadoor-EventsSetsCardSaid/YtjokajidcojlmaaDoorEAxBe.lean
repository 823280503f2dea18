import Derived.Test.YtjokajidcojlmaaDoorEAxBw
import Derived.Test.YtjokajidcojlmaaDoorEAxEe
import Derived.Stop.LaidErr

/- What the rows' lists give of the variables of errors. -/
namespace Go.Ax
open Go.Proofs Go.RowKit Go.Shelf Go.Lib Go.ChangeShapes Go.Proofs.YtjokajidcojlmaaDoor
set_option maxRecDepth 100000

theorem gES : Tryd.prog.globalNamed "strconv.ErrSyntax" = some 5 := by kernel_rfl
theorem gER : Tryd.prog.globalNamed "strconv.ErrRange" = some 6 := by kernel_rfl
theorem starE : "*" ++ "errors.errorString" = "*errors.errorString" := by decide
theorem rowE (u : TypeId) (h : Tryd.prog.typeName? 3 u = some "*errors.errorString") : u = 261 :=
  typeName_ptr_named (nm := "errors.errorString") (by rw [starE]; kernel_rfl) (by kernel_rfl) (by decide) u (by rw [starE]; exact h)
theorem var_old {W w : World} (h : Old W w) {n : String} {cs : Array Value} (hv : W.var? Tryd.prog n = some cs) : w.var? Tryd.prog n = some cs := by
  unfold World.var? at hv ⊢
  cases hg : Tryd.prog.globalNamed n with
  | none => rw [hg] at hv; simp at hv
  | some g =>
    rw [hg] at hv
    simp only [Option.bind_some] at hv ⊢
    have hlt : g < W.heap.size := by
      rcases Nat.lt_or_ge g W.heap.size with h' | h'
      · exact h'
      · simp [Array.getElem?_eq_none h'] at hv
    rw [h.block g hlt]; exact hv
theorem ErrG.old {W w : World} (h : Old W w) (hl : ErrG W) : ErrG w where
  syn := let ⟨tp, p, hv⟩ := hl.syn; ⟨tp, p, var_old h hv⟩
  rng := let ⟨tp, p, hv⟩ := hl.rng; ⟨tp, p, var_old h hv⟩
/-- Out of a list whose tails begin with them. -/
theorem errG_of {W : World} {r : List (String × DataW Unit)} (h : laidMet Tryd.prog (("strconv.ErrRange", Rows.laid_strconv_ErrRange) :: ("strconv.ErrSyntax", Rows.laid_strconv_ErrSyntax) :: r) W) : ErrG W where
  rng := by
    obtain ⟨a, s, hv, _⟩ := laid_sentinel h gER (by kernel_rfl : (Tryd.prog.globals[6]?).map (·.type) = some 114) Tryd.underlying114 rowE Tryd.underlying261 Tryd.underlying263 rfl rfl Tryd.underlying9 (by kernel_rfl) (by kernel_rfl)
    exact ⟨_, _, hv⟩
  syn := by
    obtain ⟨a, s, hv, _⟩ := laid_sentinel h.tail gES (by kernel_rfl : (Tryd.prog.globals[5]?).map (·.type) = some 114) Tryd.underlying114 rowE Tryd.underlying261 Tryd.underlying263 rfl rfl Tryd.underlying9 (by kernel_rfl) (by kernel_rfl)
    exact ⟨_, _, hv⟩
end Go.Ax
