import Derived.Test.YtjokajidcojlmaaDoorDAxCv
import Derived.Test.YtjokajidcojlmaaDoorDAxSo

/- Rules that are handed in, as data, their lists of any length that a machine holds. -/
namespace Go.Ax
open Go.Proofs Go.RowKit Go.Shelf Go.Lib Go.ChangeShapes

theorem fit_i64 {x : D} (h : Fit (.int .i64) x) : ∃ n : Int, x = .i64 n ∧ -9223372036854775808 ≤ n ∧ n < 9223372036854775808 := by
  cases h with
  | int _ k hk => exact ⟨k, rfl, by simp [Lit.wf, IntKind.min, IntKind.max, IntKind.bits, IntKind.signed] at hk; omega⟩
theorem fit_u8 {x : D} (h : Fit (.int .u8) x) : ∃ n : Int, x = .v (.int .u8 n) ∧ 0 ≤ n ∧ n < 256 := by
  cases h with
  | int _ k hk => exact ⟨k, rfl, by simp [Lit.wf, IntKind.min, IntKind.max, IntKind.bits, IntKind.signed] at hk; omega⟩
theorem nums_of {b : Nat} {x : D} (h : Fit (.sl b [.int .u16]) x) : ∃ l : List Int, x = .sl false 1 (l.map rowS) ∧ (∀ n ∈ l, 0 ≤ n ∧ n < 65536) ∧ l.length * b ≤ reachBytes := by
  cases h with
  | sl _ _ e0 a0 b0 c0 =>
    obtain ⟨l0, r0, q0⟩ := rows_of rowS (fun n => 0 ≤ n ∧ n < 65536) (els := e0) fun el he => by
      match el, b0 el he with
      | [u], _ =>
        obtain ⟨n, rfl, hn⟩ := fit_u16 (c0 _ he 0 _ _ rfl rfl)
        exact ⟨n, rfl, hn⟩
    subst r0
    exact ⟨l0, rfl, q0, by simpa using a0⟩
theorem steps_of {b : Nat} {x : D} (h : Fit (.sl b [.int .i64, .int .i64, .int .u16, .int .u8]) x) : ∃ l : List StepT, x = .sl false 4 (l.map rowSt) ∧ (∀ r ∈ l, OkSt r) ∧ l.length * b ≤ reachBytes := by
  cases h with
  | sl _ _ e0 a0 b0 c0 =>
    obtain ⟨l0, r0, q0⟩ := rows_of rowSt OkSt (els := e0) fun el he => by
      match el, b0 el he with
      | [u, v, w, z], _ =>
        obtain ⟨n0, rfl, _⟩ := fit_i64 (c0 _ he 0 _ _ rfl rfl)
        obtain ⟨n1, rfl, _⟩ := fit_i64 (c0 _ he 1 _ _ rfl rfl)
        obtain ⟨n2, rfl, h2⟩ := fit_u16 (c0 _ he 2 _ _ rfl rfl)
        obtain ⟨n3, rfl, h3⟩ := fit_u8 (c0 _ he 3 _ _ rfl rfl)
        exact ⟨⟨n0, n1, n2, n3⟩, rfl, h2, h3⟩
    subst r0
    exact ⟨l0, rfl, q0, by simpa using a0⟩
theorem pairsS_of {x : D} (h : Fit (.sl 16 [.int .i64, .int .u16]) x) : ∃ l : List PairT, x = .sl false 2 (l.map rowF) ∧ l.length < 2 ^ 62 := by
  have hrb := reachBytes_lt
  cases h with
  | sl _ _ e0 a0 b0 c0 =>
    obtain ⟨l0, r0, q0⟩ := rows_of rowF (fun _ => True) (els := e0) fun el he => by
      match el, b0 el he with
      | [u, v], _ =>
        obtain ⟨n, rfl, _⟩ := fit_i64 (c0 _ he 0 _ _ rfl rfl)
        obtain ⟨m, rfl, hm⟩ := fit_u16 (c0 _ he 1 _ _ rfl rfl)
        exact ⟨(n, m), rfl, trivial⟩
    subst r0
    have a0 : l0.length * 16 ≤ reachBytes := by simpa using a0
    exact ⟨l0, rfl, by omega⟩
theorem rulesS_of {b : Nat} {x : D} (h : Fit (.sl b [.sl 16 [.int .i64, .int .u16], .sl 16 [.int .i64, .int .u16], .sl 16 [.int .i64, .int .u16]]) x) : ∃ l : List RuleT, x = .sl false 3 (l.map rowR) ∧ (∀ r ∈ l, SmallR r) ∧ l.length * b ≤ reachBytes := by
  cases h with
  | sl _ _ e0 a0 b0 c0 =>
    obtain ⟨l0, r0, q0⟩ := rows_of rowR SmallR (els := e0) fun el he => by
      match el, b0 el he with
      | [u, v, w], _ =>
        obtain ⟨l1, rfl, h1⟩ := pairsS_of (c0 _ he 0 _ _ rfl rfl)
        obtain ⟨l2, rfl, h2⟩ := pairsS_of (c0 _ he 1 _ _ rfl rfl)
        obtain ⟨l3, rfl, h3⟩ := pairsS_of (c0 _ he 2 _ _ rfl rfl)
        exact ⟨⟨l1, l2, l3⟩, rfl, h1, h2, h3⟩
    subst r0
    exact ⟨l0, rfl, q0, by simpa using a0⟩
end Go.Ax
