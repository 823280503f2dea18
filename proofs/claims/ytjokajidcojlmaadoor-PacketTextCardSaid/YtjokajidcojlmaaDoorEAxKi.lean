import Derived.Test.YtjokajidcojlmaaDoorEAxCv
import Derived.Test.YtjokajidcojlmaaDoorEAxKa

/- Packets that are handed in: eight numbers. -/
namespace Go.Ax
open Go.Proofs Go.RowKit Go.Shelf Go.Lib Go.ChangeShapes

/-- An array that is handed in. -/
theorem cv_array {H : Type} {enc : TypeId × Value → H} {P : Program} {W : World} {sp : Nat → Bool} {held : Bool} {r : Reach} {b0 : Nat} {t e : TypeId} {n : Nat} {v : Value} {d : DataW H} {ps : List MemPlace} {f2 : Nat} {es : List Sh} (ht : P.underlying t = some (.array n e)) (hval : Value.okWide P W r b0 t v) (h : DataW.Trod enc P W 0 sp held t v d ps) (hw : ∀ m ∈ d.weights P t, m ≤ reachBytes) (hs : shOf P f2 t = some es) (ρ : Nat → Option Loc) :
    ∃ ds : List D, ds.length = es.length ∧ RA (hp W) (fun b => b < W.heap.size) ρ v (.dagg ds) ∧ ∀ (i : Nat) (x : D) (s : Sh), ds[i]? = some x → es[i]? = some s → Fit s x := by
  obtain ⟨cs, rfl, hc⟩ : ∃ cs, v = .agg cs ∧ cs.size = P.cellsOf t := by
    simp only [Value.okWide, ht] at hval
    obtain ⟨cs, h1, h2, _⟩ := hval
    exact ⟨cs, h1, h2⟩
  obtain ⟨fuel, hf⟩ := h
  obtain ⟨ds, h1, h2, h3⟩ := conv fuel t _ _ f2 _ hf hw hs
  have h2 : cs.toList.length = es.length := h2
  refine ⟨ds, h1, .dagg _ _ (by rw [h1, ← h2]; simp) fun i v x e1 e2 => ?_, fun i x s e1 e2 => ?_⟩
  · have hi : i < ds.length := (List.getElem?_eq_some_iff.1 e2).1
    exact (h3 i v x (es[i]'(by omega)) (by show cs.toList[i]? = some v; simpa using e1) e2 (List.getElem?_eq_getElem _)).1
  · have hi : i < ds.length := (List.getElem?_eq_some_iff.1 e1).1
    exact (h3 i (cs.toList[i]'(by omega)) x s (List.getElem?_eq_getElem (l := cs.toList) (by omega)) e1 e2).2

/-- Cells that are numbers of 16 bits. -/
theorem u16s_of : ∀ {ds : List D}, (∀ x ∈ ds, Fit (.int .u16) x) → ∃ p : List Nat, ds = rowU p ∧ ∀ n ∈ p, n < 65536
  | [], _ => ⟨[], rfl, by simp⟩
  | x :: ds, h => by
    obtain ⟨n, rfl, h1, h2⟩ := fit_u16 (h x (by simp))
    obtain ⟨p, rfl, hp⟩ := u16s_of (ds := ds) fun y hy => h y (List.mem_cons_of_mem _ hy)
    obtain ⟨m, rfl⟩ := Int.eq_ofNat_of_zero_le h1
    refine ⟨m :: p, rfl, fun k hk => ?_⟩
    rcases List.mem_cons.1 hk with rfl | hk
    · omega
    · exact hp k hk
theorem packet_of {ds : List D} (hl : ds.length = 8) (hf : ∀ (i : Nat) (x : D) (s : Sh), ds[i]? = some x → (List.replicate 8 (Sh.int .u16))[i]? = some s → Fit s x) : ∃ p, ds = rowU p ∧ OkK p := by
  obtain ⟨p, rfl, hp⟩ := u16s_of (ds := ds) fun x hx => by
    obtain ⟨i, hi⟩ := List.getElem?_of_mem hx
    have h8 : i < 8 := by have := (List.getElem?_eq_some_iff.1 hi).1; omega
    exact hf i x (.int .u16) hi (by rw [List.getElem?_replicate, if_pos h8])
  rw [rowU_len] at hl
  exact ⟨p, rfl, hl, fun i hi => by
    have : i < p.length := by omega
    simpa [List.getD, this] using hp p[i] (List.getElem_mem this)⟩
end Go.Ax
