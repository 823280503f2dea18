/- Abstract execution, part Sh: contracts off the shelf. -/
import Derived.Test.YtjokajidcojlmaaDoorAxSw
import Derived.Below
namespace Go.Ax
open Go.RowKit

theorem after_below {w w' : World} {Im : Nat → Prop} {ρ : Nat → Option Loc} (hIm : ∀ b, Im b → b < w.heap.size) (h : Below w.heap.size w w') : After w Im ρ [] w' Im (fun _ => none) [] where
  grows := ⟨h.size, h.os, h.tape, h.output, fun b hb _ => h.block b hb⟩
  im := fun b hb => hb
  imn := fun b hb => ⟨Nat.lt_of_lt_of_le (hIm b hb) h.size, .inl hb⟩
  rel := ⟨fun r o hr => by simp [lkH] at hr, fun r r' o o' l l' hr => by simp [lkH] at hr⟩
  anc := fun r o hr => by simp [lkH] at hr
  cl := fun r o hr => by simp [lkH] at hr

/-- What single values come to. -/
def vals (xs : List Value) : List AV := xs.map fun x => .d (.v x)

theorem args_vals {h : Nat → Option Obj} {Im : Nat → Prop} {ρ : Nat → Option Loc} {vs : Array Value} {xs : List Value} (hsz : vs.size = (vals xs).length) (hra : ∀ (i : Nat) (v : Value) (x : AV), vs[i]? = some v → (vals xs)[i]? = some x → RA h Im ρ v x) : vs = xs.toArray := by
  have hl : vs.size = xs.length := by rw [hsz]; simp [vals]
  apply Array.ext (by simpa using hl)
  intro i h1 h2
  have hx : (vals xs)[i]? = some (.d (.v xs[i])) := by simp [vals, List.getElem?_eq_getElem (show i < xs.length by omega)]
  have := hra i vs[i] _ (Array.getElem?_eq_getElem h1) hx
  simpa using this.v

/-- A library function that hands back a single value. -/
theorem Ctr.ofVal {E : Env} {f : FuncId} {xs : List Value} {v : Value} (hb : Bodied E.P f) (hv : v.oneCell' = true) (h : ∀ w, E.G w → Calls E.P f xs.toArray w fun e w' => e = .returned v ∧ Below w.heap.size w w') : Ctr E f (vals xs) [] fun o => o = .ret (.d (.v v)) [] := by
  refine ⟨hb, fun w Im ρ vs hG hIm hgl hsz hra hrel => ?_⟩
  rw [args_vals hsz hra]
  refine (h w hG).mono fun e w' ⟨he, hB⟩ => ?_
  subst he
  exact ⟨_, [], Im, _, rfl, RA.intv v hv, fun r hr => by simp [AV.ment] at hr, after_below hIm hB⟩

/-- .. several of them. -/
theorem Ctr.ofVals {E : Env} {f : FuncId} {xs ys : List Value} (hb : Bodied E.P f) (hv : ∀ y ∈ ys, y.oneCell' = true) (h : ∀ w, E.G w → Calls E.P f xs.toArray w fun e w' => e = .returned (.tuple ys.toArray) ∧ Below w.heap.size w w') : Ctr E f (vals xs) [] fun o => o = .ret (.tup (vals ys)) [] := by
  refine ⟨hb, fun w Im ρ vs hG hIm hgl hsz hra hrel => ?_⟩
  rw [args_vals hsz hra]
  refine (h w hG).mono fun e w' ⟨he, hB⟩ => ?_
  subst he
  refine ⟨_, [], Im, _, rfl, .tup _ _ (by simp [vals]) fun i v x h1 h2 => ?_, fun r hr => ?_, after_below hIm hB⟩
  · simp only [vals, List.getElem?_map, Option.map_eq_some_iff] at h2
    obtain ⟨y, hy, rfl⟩ := h2
    have : y = v := by simpa [hy] using h1
    subst this
    exact RA.intv _ (hv _ (List.mem_of_getElem? hy))
  · have : ∀ l : List Value, AV.ment.mentL r (vals l) = false := fun l => by
      induction l with
      | nil => rfl
      | cons y l ih => simpa [vals, AV.ment.mentL, AV.ment] using ih
    simp only [AV.ment, this] at hr
    exact absurd hr (by simp)

end Go.Ax
