import Derived.Test.YtjokajidcojlmaaDoorEAxLib
import Derived.Test.YtjokajidcojlmaaDoorRows
import Derived.Test.YtjokajidcojlmaaDoorCards
import Derived.Test.YtjokajidcojlmaaDoorTie
import Derived.WalkKit
import Derived.ProofKit
import Derived.OpenShut
import Derived.Carry
import Derived.ChangeMaps
import Derived.Deep.DeepHandedRow
import Derived.Deep.DeepWitnessRowRef
import Derived.Lib.LaidU8
import Derived.Lib.LaidRTab
import Derived.Lib.LaidIn
import Derived.Lib.LaidTab
import Derived.Lib.SmallJoins
import Derived.PinnedBridge

/- From a contract to a row: the world at the call's beginning; what the rows list; a witness; a law's row. -/
namespace Go.Ax
open Go.Proofs Go.RowKit Go.Shelf Go.Lib Go.ChangeShapes

/-! ### the world at the call's beginning -/
abbrev DebG (w : World) : Prop := Lib.TabIs Tryd.prog w "math/bits.deBruijn64tab" .u8 Tryd.deB
theorem gD : Tryd.prog.globalNamed "math/bits.deBruijn64tab" = some 2 := by kernel_rfl

/-- All old blocks are as they were. -/
structure Old (W w : World) : Prop where
  os : w.os = W.os
  block : ∀ b, b < W.heap.size → w.heap[b]? = W.heap[b]?
theorem Old.below {W w : World} (h : Old W w) : Below W.heap.size W { w with tape := W.tape, output := W.output } := by
  refine ⟨h.os, rfl, rfl, ?_, h.block⟩
  show W.heap.size ≤ w.heap.size
  rcases Nat.eq_zero_or_pos W.heap.size with h0 | h0
  · omega
  · have h1 := h.block (W.heap.size - 1) (by omega)
    rw [Array.getElem?_eq_getElem (by omega : W.heap.size - 1 < W.heap.size)] at h1
    obtain ⟨h2, _⟩ := Array.getElem?_eq_some_iff.1 h1
    omega
theorem tabIs_old {W w : World} (h : Old W w) {n : String} {k : IntKind} {zs : List Int} {g : Nat} (hg : Tryd.prog.globalNamed n = some g) (ht : Lib.TabIs Tryd.prog W n k zs) : Lib.TabIs Tryd.prog w n k zs :=
  by have h1 := Go.Joins.tab_stays hg ht h.below (Nat.le_refl _); exact h1
theorem LibG.old {W w : World} (h : Old W w) (hl : LibG W) : LibG w where
  utf8 := by have h1 := Utf8Tabs_below hl.utf8 h.below; exact h1
  props := tabIs_old h (by kernel_rfl : Tryd.prog.globalNamed "unicode.properties" = some 3) hl.props
  letter := by have h1 := RVar_below hl.letter h.below; exact h1
theorem PowG.old {W w : World} (h : Old W w) (hl : PowG W) : PowG w := tabIs_old h (by kernel_rfl : Tryd.prog.globalNamed "internal/strconv.uint64pow10" = some 8) hl
theorem deb_cells {w : World} (h : DebG w) : ∃ ms t fz, w.heap[2]? = some (.cells ms t fz) ∧ ∀ (j : Nat) (x : D), (Tryd.deB.map fun n => D.v (.int .u8 n))[j]? = some x → ∃ v, ms[j]? = some v ∧ x = .v v ∧ v.oneCell' = true := by
  have hc := fun i hi => h.cell gD i hi
  have h0 := hc 0 (by decide)
  unfold World.cell? at h0
  cases hb : w.heap[2]? with
  | none => simp [hb] at h0
  | some o =>
    cases o with
    | cells ms t fz =>
      refine ⟨ms, t, fz, rfl, fun j x hx => ?_⟩
      simp only [List.getElem?_map, Option.map_eq_some_iff] at hx
      obtain ⟨n, hn, rfl⟩ := hx
      have hj : j < Tryd.deB.length := (List.getElem?_eq_some_iff.1 hn).1
      have h1 := hc j hj
      refine ⟨.int .u8 n, ?_, rfl, rfl⟩
      unfold World.cell? at h1
      simp only [hb] at h1
      have h2 : ms[j]? = some (.int .u8 (Tryd.deB.getD j 0)) := h1
      rw [h2]
      simp [List.getD, hn]
    | _ => simp [hb] at h0

theorem glOk_of {W : World} (h : DebG W) (hs : 2 < W.heap.size) : GlOk W.heap.size Tryd.gl W := fun p hp => by
  simp only [Tryd.gl, List.mem_singleton] at hp
  subst hp
  exact ⟨hs, deb_cells h⟩
theorem deb_size {W : World} (h : DebG W) : 2 < W.heap.size := by
  obtain ⟨ms, t, fz, h1, _⟩ := deb_cells h
  exact (Array.getElem?_eq_some_iff.1 h1).1
theorem DebG.old {W w : World} (h : Old W w) (hl : DebG W) : DebG w := tabIs_old h gD hl

/-- What is known of a call's worlds: the blocks that it began with are as they were. -/
def gpOf (W : World) (h : DebG W) : GP where
  ng := W.heap.size
  gl := Tryd.gl
  G := Old W
  glOk := fun w hw p hp => by
    obtain ⟨h1, ms, t, fz, h2, h3⟩ := glOk_of h (deb_size h) p hp
    exact ⟨h1, ms, t, fz, by rw [hw.block _ h1]; exact h2, h3⟩
  Gst := fun w w' ho hb hw => ⟨ho.trans hw.os, fun b h => (hb b h).trans (hw.block b h)⟩

/-- The same, where no table is read. -/
def gp0 (W : World) : GP where
  ng := W.heap.size
  gl := []
  G := Old W
  glOk := fun w hw p hp => by simp at hp
  Gst := fun w w' ho hb hw => ⟨ho.trans hw.os, fun b h => (hb b h).trans (hw.block b h)⟩

theorem Old.refl (W : World) : Old W W := ⟨rfl, fun _ _ => rfl⟩

/-- A contract, met from outside: all that was there is immutable. -/
theorem calls_of_ctr' {W : World} {g : GP} (e1 : g.ng = W.heap.size) (e2 : g.G = Old W) {f : FuncId} {args : List AV} {v : Value} (hC : Ctr (ax g).E f args [] (fun o => o = .ret (.d (.v v)) [])) (vs : Array Value) (hsz : vs.size = args.length)
    (hra : ∀ (i : Nat) (v : Value) (x : AV), vs[i]? = some v → args[i]? = some x → RA (hp W) (fun b => b < W.heap.size) (fun _ => none) v x) :
    Calls Tryd.prog f vs W fun e w' => e = .returned v ∧ Below W.heap.size W w' := by
  refine (hC.2 W (fun b => b < W.heap.size) (fun _ => none) vs (by show g.G W; rw [e2]; exact Old.refl W) (fun b hb => hb) (fun b hb => by rw [← e1]; exact hb) hsz hra ⟨fun r o h => by simp [lkH] at h, fun r r' o o' l l' h => by simp [lkH] at h⟩).mono fun e w' he => ?_
  cases e with
  | returned u =>
    obtain ⟨res, ho, Im', ρ', h1, h2, h3, A⟩ := he
    injection h1 with e1 e2
    subst e1
    refine ⟨by rw [h2.v], ⟨A.grows.os, A.grows.tape, A.grows.output, A.grows.size, fun b hb => A.grows.block b hb fun ⟨r, o, l, hr, _⟩ => by simp [lkH] at hr⟩⟩
  | panicked ch => obtain ⟨ho, Im', ρ', h1, _⟩ := he; exact absurd h1 (by simp)
  | outgrown => exact he.elim

theorem calls_of_ctr {W : World} {h : DebG W} {f : FuncId} {args : List AV} {v : Value} (hC : Ctr (ax (gpOf W h)).E f args [] (fun o => o = .ret (.d (.v v)) [])) (vs : Array Value) (hsz : vs.size = args.length)
    (hra : ∀ (i : Nat) (v : Value) (x : AV), vs[i]? = some v → args[i]? = some x → RA (hp W) (fun b => b < W.heap.size) (fun _ => none) v x) :
    Calls Tryd.prog f vs W fun e w' => e = .returned v ∧ Below W.heap.size W w' := calls_of_ctr' rfl rfl hC vs hsz hra
theorem calls_of_ctr0 {W : World} {f : FuncId} {args : List AV} {v : Value} (hC : Ctr (ax (gp0 W)).E f args [] (fun o => o = .ret (.d (.v v)) [])) (vs : Array Value) (hsz : vs.size = args.length)
    (hra : ∀ (i : Nat) (v : Value) (x : AV), vs[i]? = some v → args[i]? = some x → RA (hp W) (fun b => b < W.heap.size) (fun _ => none) v x) :
    Calls Tryd.prog f vs W fun e w' => e = .returned v ∧ Below W.heap.size W w' := calls_of_ctr' rfl rfl hC vs hsz hra

/-- What was read is read again. -/
theorem trodAll_stays {H : Type} {enc : TypeId × Value → H} {P : Program} (hl : laidOutB P = true) {W W' : World} (hb : Below W.heap.size W W') {sp : Nat → Bool} : ∀ {ts : List TypeId} {vs : List Value} {ds : List (DataW H)} {ps : List MemPlace},
    (ts.all fun t => P.readableRec t && decide (t < P.types.size)) = true → DataW.TrodAll enc P W 0 (fun _ => true) true ts vs ds ps → (∀ x ∈ ps, x.block < W.heap.size) → (∀ x ∈ ps, sp x.block = true) → DataW.TrodAll enc P W' 0 sp true ts vs ds ps
  | [], vs, ds, ps, _, h, _, _ => by
    obtain ⟨rfl, rfl, rfl⟩ := trodAll_nil h
    exact trodAll_mk0
  | t :: ts, vs, ds, ps, hr, h, hlt, hsp => by
    obtain ⟨v, vs', d, ds', p, q, rfl, rfl, rfl, h1, h2⟩ := trodAll_cons h
    simp only [List.all_cons, Bool.and_eq_true, decide_eq_true_eq] at hr
    refine trodAll_cons_mk (WideElems.Trod_stays hl hr.1.1 hr.1.2 h1 (fun x hx => hb.same (hlt x (by simp [hx]))) (fun x hx => hsp x (by simp [hx]))) (trodAll_stays hl hb (by simpa using hr.2) h2 (fun x hx => hlt x (by simp [hx])) (fun x hx => hsp x (by simp [hx])))
end Go.Ax
