import Derived.Test.YtjokajidcojlmaaDoorEAxCv
import Derived.Test.YtjokajidcojlmaaDoorEAxEd

/- Lists of numbers that are handed in, as data. -/
namespace Go.Ax
open Go.Proofs Go.RowKit Go.Shelf Go.Lib Go.ChangeShapes

theorem zs_of {b : Nat} {x : D} (h : Fit (.sl b [.int .i64]) x) : ∃ l : List Int, x = .sl false 1 (l.map rowZ) ∧ l.length * b ≤ reachBytes := by
  cases h with
  | sl _ _ e0 a0 b0 c0 =>
    obtain ⟨l0, r0, q0⟩ := rows_of rowZ (fun _ => True) (els := e0) fun el he => by
      match el, b0 el he with
      | [u], _ =>
        cases c0 _ he 0 _ _ rfl rfl with
        | int _ n hn => exact ⟨n, rfl, trivial⟩
    subst r0
    exact ⟨l0, rfl, by simpa using a0⟩
end Go.Ax
