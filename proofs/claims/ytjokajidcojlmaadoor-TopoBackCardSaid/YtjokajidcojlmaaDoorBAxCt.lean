import Derived.Test.YtjokajidcojlmaaDoorBAxCv
import Derived.Test.YtjokajidcojlmaaDoorBAxTt

/- A topology that is handed in, as data. -/
namespace Go.Ax
open Go.Proofs Go.RowKit Go.Shelf Go.Lib Go.ChangeShapes

theorem fit_u16 {x : D} (h : Fit (.int .u16) x) : ∃ n : Int, x = .u16 n ∧ 0 ≤ n ∧ n < 65536 := by
  cases h with
  | int _ k hk => exact ⟨k, rfl, by simp [Lit.wf, IntKind.min, IntKind.max, IntKind.bits, IntKind.signed] at hk; omega⟩
theorem row_u16 {es : List Sh} {el : List D} (h1 : el.length = es.length) (h2 : ∀ s ∈ es, s = .int .u16) (h3 : ∀ (i : Nat) (s : Sh) (x : D), es[i]? = some s → el[i]? = some x → Fit s x) {i : Nat} {x : D} (hx : el[i]? = some x) : ∃ n : Int, x = .u16 n ∧ 0 ≤ n ∧ n < 65536 := by
  have hi : i < es.length := by rw [← h1]; exact (List.getElem?_eq_some_iff.1 hx).1
  have := h3 i _ x (List.getElem?_eq_getElem hi) hx
  rw [h2 _ (List.getElem_mem hi)] at this
  exact fit_u16 this
theorem topo_of {dd : List D} (hlen : dd.length = 3) (hfit : ∀ (i : Nat) (x : D) (s : Sh), dd[i]? = some x → [Sh.sl 2 [.int .u16], .sl 8 [.int .u16, .int .u16, .int .u16, .int .u16], .sl 4 [.int .u16, .int .u16]][i]? = some s → Fit s x) :
    ∃ t, dd = rowT t ∧ OkT t ∧ t.sw.length < 2 ^ 62 := by
  match dd, hlen with
  | [x, y, z], _ =>
    have f0 := hfit 0 x _ rfl rfl
    have f1 := hfit 1 y _ rfl rfl
    have f2 := hfit 2 z _ rfl rfl
    cases f0 with
    | sl _ _ e0 a0 b0 c0 =>
      cases f1 with
      | sl _ _ e1 a1 b1 c1 =>
        cases f2 with
        | sl _ _ e2 a2 b2 c2 =>
          obtain ⟨l0, r0, q0⟩ := rows_of rowS (fun n => 0 ≤ n ∧ n < 65536) (els := e0) fun el he => by
            match el, b0 el he with
            | [u], _ =>
              obtain ⟨n, rfl, hn⟩ := row_u16 (b0 _ he) (by simp) (c0 _ he) (i := 0) rfl
              exact ⟨n, rfl, hn⟩
          obtain ⟨l1, r1, q1⟩ := rows_of rowL (fun l => OkP l.1 ∧ OkP l.2) (els := e1) fun el he => by
            match el, b1 el he with
            | [u0, u1, u2, u3], _ =>
              obtain ⟨n0, rfl, h0⟩ := row_u16 (b1 _ he) (by simp) (c1 _ he) (i := 0) rfl
              obtain ⟨n1, rfl, h1⟩ := row_u16 (b1 _ he) (by simp) (c1 _ he) (i := 1) rfl
              obtain ⟨n2, rfl, h2⟩ := row_u16 (b1 _ he) (by simp) (c1 _ he) (i := 2) rfl
              obtain ⟨n3, rfl, h3⟩ := row_u16 (b1 _ he) (by simp) (c1 _ he) (i := 3) rfl
              exact ⟨((n0, n1), (n2, n3)), rfl, ⟨h0.1, h0.2, h1.1, h1.2⟩, ⟨h2.1, h2.2, h3.1, h3.2⟩⟩
          obtain ⟨l2, r2, q2⟩ := rows_of rowP OkP (els := e2) fun el he => by
            match el, b2 el he with
            | [u0, u1], _ =>
              obtain ⟨n0, rfl, h0⟩ := row_u16 (b2 _ he) (by simp) (c2 _ he) (i := 0) rfl
              obtain ⟨n1, rfl, h1⟩ := row_u16 (b2 _ he) (by simp) (c2 _ he) (i := 1) rfl
              exact ⟨(n0, n1), rfl, h0.1, h0.2, h1.1, h1.2⟩
          subst r0; subst r1; subst r2
          refine ⟨⟨l0, l1, l2⟩, rfl, ⟨q0, q1, q2⟩, ?_⟩
          have := reachBytes_lt
          rw [List.length_map] at a0
          show l0.length < _
          omega
end Go.Ax
