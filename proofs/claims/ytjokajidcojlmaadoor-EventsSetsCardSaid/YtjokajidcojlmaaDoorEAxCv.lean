import Derived.Test.YtjokajidcojlmaaDoorEAxBr
import Derived.SizedLaws
import Derived.ChangeArms
import Derived.DataReads

/- Arguments that read as data are data of the abstract execution: cells by kinds. -/
namespace Go.Ax
open Go.Proofs Go.RowKit Go.Shelf Go.Lib Go.ChangeShapes

/-- What a cell is: a number, a bool, a text, a slice of elements of so many bytes. -/
inductive Sh where
  | int (k : IntKind)
  | bool
  | str
  | sl (bytes : Nat) (es : List Sh)

def rep {α : Type} (l : List α) : Nat → List α
  | 0 => []
  | n + 1 => l ++ rep l n
theorem rep_len {α : Type} (l : List α) : ∀ n, (rep l n).length = n * l.length
  | 0 => by simp [rep]
  | n + 1 => by rw [rep, List.length_append, rep_len l n, Nat.succ_mul, Nat.add_comm]
def shFs (P : Program) (go : TypeId → Option (List Sh)) : List Field → Nat → Option (List Sh)
  | [], _ => some []
  | f :: r, off => if f.offset = off then (go f.type).bind fun es => if es.length = P.cellsOf f.type then (shFs P go r (off + es.length)).map (es ++ ·) else none else none
def shOf (P : Program) : Nat → TypeId → Option (List Sh)
  | 0, _ => none
  | f + 1, t => match P.underlying t with
    | some .bool => some [.bool]
    | some (.int k) => some [.int k]
    | some .string => some [.str]
    | some (.slice e) => (shOf P f e).bind fun es => if es.length = P.cellsOf e ∧ 0 < es.length then some [.sl (P.bytesOf e) es] else none
    | some (.struct fs) => (shFs P (shOf P f) fs.toList 0).bind fun es => if es.length = P.cellsOf t then some es else none
    | some (.array n e) => (shOf P f e).bind fun es => if es.length = P.cellsOf e ∧ n * es.length = P.cellsOf t then some (rep es n) else none
    | _ => none

inductive Fit : Sh → D → Prop
  | int (k : IntKind) (n : Int) (h : (Lit.int k n).wf = true) : Fit (.int k) (.v (.int k n))
  | bool (b : Bool) : Fit .bool (.v (.bool b))
  | str (s : ByteArray) (h : s.size ≤ reachBytes) : Fit .str (.v (.string s))
  | sl (bytes : Nat) (es : List Sh) (els : List (List D)) (hlen : els.length * bytes ≤ reachBytes) (hel : ∀ el ∈ els, el.length = es.length) (hf : ∀ el ∈ els, ∀ (i : Nat) (s : Sh) (x : D), es[i]? = some s → el[i]? = some x → Fit s x) : Fit (.sl bytes es) (.sl false es.length els)

/-- Cells that are data of these kinds. -/
def CV (W : World) (cs : List Value) (shs : List Sh) : Prop := ∃ ds : List D, ds.length = shs.length ∧ cs.length = shs.length ∧ ∀ (i : Nat) (v : Value) (x : D) (s : Sh), cs[i]? = some v → ds[i]? = some x → shs[i]? = some s → RD (hp W) (fun b => b < W.heap.size) v x ∧ Fit s x

theorem CV.nil (W : World) : CV W [] [] := ⟨[], rfl, rfl, fun i v x s h => by simp at h⟩
theorem CV.one {W : World} {v : Value} {x : D} {s : Sh} (h1 : RD (hp W) (fun b => b < W.heap.size) v x) (h2 : Fit s x) : CV W [v] [s] := ⟨[x], rfl, rfl, fun i v' x' s' e1 e2 e3 => by
  cases i with
  | zero => simp at e1 e2 e3; subst e1; subst e2; subst e3; exact ⟨h1, h2⟩
  | succ i => simp at e1⟩
theorem CV.append {W : World} {c1 c2 : List Value} {s1 s2 : List Sh} (h1 : CV W c1 s1) (h2 : CV W c2 s2) : CV W (c1 ++ c2) (s1 ++ s2) := by
  obtain ⟨d1, a1, b1, g1⟩ := h1
  obtain ⟨d2, a2, b2, g2⟩ := h2
  refine ⟨d1 ++ d2, by simp [a1, a2], by simp [b1, b2], fun i v x s e1 e2 e3 => ?_⟩
  rcases Nat.lt_or_ge i s1.length with h | h
  · rw [List.getElem?_append_left (by omega)] at e1 e2 e3
    exact g1 i v x s e1 e2 e3
  · rw [List.getElem?_append_right (by omega)] at e1 e2 e3
    rw [b1] at e1; rw [a1] at e2
    exact g2 _ v x s e1 e2 e3

theorem data_len (s : ByteArray) : s.data.toList.length = s.size := by rw [Array.length_toList]; rfl
theorem weights_mem_all {H : Type} {P : Program} {e : TypeId} : ∀ {ds : List (DataW H)} {j : Nat} {d : DataW H}, ds[j]? = some d → ∀ n ∈ d.weights P e, n ∈ DataW.weightsAll P e ds
  | [], _, _, hd, _, _ => by simp at hd
  | d0 :: ds, 0, d, hd, n, hn => by
    simp at hd; subst hd
    simp only [DataW.weightsAll, List.mem_append]; exact .inl hn
  | d0 :: ds, j + 1, d, hd, n, hn => by
    simp only [List.getElem?_cons_succ] at hd
    simp only [DataW.weightsAll, List.mem_append]; exact .inr (weights_mem_all hd n hn)

section
variable {H : Type} {enc : TypeId × Value → H} {P : Program} {W : World} {sp : Nat → Bool} {held : Bool}

theorem cv_fields {n : Nat} {go : TypeId → Option (List Sh)} {cs : List Value} (ih : ∀ (t : TypeId) (c : List Value) (x : DataW H × List MemPlace) (shs : List Sh), DataW.trod enc P W 0 sp held n t c = some x → (∀ m ∈ x.1.weights P t, m ≤ reachBytes) → go t = some shs → CV W c shs) :
    ∀ (fl : List Field) (off : Nat) (es : List Sh), shFs P go fl off = some es → (∀ f ∈ fl, ∃ y, DataW.trod enc P W 0 sp held n f.type ((cs.drop f.offset).take (P.cellsOf f.type)) = some y ∧ ∀ m ∈ y.1.weights P f.type, m ≤ reachBytes) → CV W ((cs.drop off).take es.length) es
  | [], off, es, h, _ => by
    simp only [shFs] at h; injection h with h; subst h
    simpa using CV.nil W
  | f :: r, off, es, h, hf => by
    simp only [shFs] at h
    split at h
    · rename_i ho
      cases hg : go f.type with
      | none => rw [hg] at h; simp at h
      | some e1 =>
        rw [hg, Option.bind_some] at h
        split at h
        · rename_i hl
          cases hr : shFs P go r (off + e1.length) with
          | none => rw [hr] at h; simp at h
          | some e2 =>
            rw [hr, Option.map_some] at h
            injection h with h; subst h
            obtain ⟨y, hy, hw⟩ := hf f (by simp)
            have c1 := ih f.type _ y e1 hy hw hg
            rw [ho, ← hl] at c1
            have c2 := cv_fields ih r (off + e1.length) e2 hr fun f' h' => hf f' (by simp [h'])
            have := c1.append c2
            rw [List.length_append, List.take_add, List.drop_drop]
            exact this
        · exact absurd h (by simp)
    · exact absurd h (by simp)

theorem cv_rep {c : Nat} {es : List Sh} {cs : List Value} (hes : es.length = c) : ∀ (k off : Nat), (∀ i, i < k → CV W ((cs.drop ((off + i) * c)).take c) es) → CV W ((cs.drop (off * c)).take (k * c)) (rep es k)
  | 0, off, _ => by simpa [rep] using CV.nil W
  | k + 1, off, h => by
    have h0 := h 0 (by omega)
    rw [Nat.add_zero] at h0
    have h1 := cv_rep hes k (off + 1) fun i hi => by
      have := h (i + 1) (by omega)
      rwa [show off + (i + 1) = off + 1 + i by omega] at this
    rw [rep, show (k + 1) * c = c + k * c by rw [Nat.succ_mul, Nat.add_comm], List.take_add, List.drop_drop, show off * c + c = (off + 1) * c by rw [Nat.succ_mul]]
    exact h0.append h1

theorem cell_heap {w : World} {a : Addr} {v : Value} (h : w.cell? a = some v) : a.spot = none ∧ ∃ cs t fz, w.heap[a.block]? = some (.cells cs t fz) ∧ cs[a.off]? = some v := by
  unfold World.cell? at h
  split at h
  · rename_i c t fz hb
    split at h
    · exact absurd h (by simp)
    · rename_i hs
      exact ⟨by simpa using hs, c, t, fz, hb, h⟩
  · exact absurd h (by simp)
theorem add_block (a : Addr) (n : Nat) : (a.add n).block = a.block := by unfold Addr.add; split <;> rfl
theorem add_off (a : Addr) (n : Nat) : (a.add n).off = a.off + n := by unfold Addr.add; split <;> simp_all
theorem add_spot {a : Addr} (h : a.spot = none) (n : Nat) : (a.add n).spot = none := by unfold Addr.add; split <;> simp_all

/-- What reads as data is data of its kinds. -/
theorem conv : ∀ (fuel : Nat) (t : TypeId) (cs : List Value) (x : DataW H × List MemPlace) (f2 : Nat) (shs : List Sh), DataW.trod enc P W 0 sp held fuel t cs = some x → (∀ m ∈ x.1.weights P t, m ≤ reachBytes) → shOf P f2 t = some shs → CV W cs shs
  | 0, t, cs, x, f2, shs, h, _, _ => by simp [DataW.trod] at h
  | fuel + 1, t, cs, x, 0, shs, h, _, hs => by simp [shOf] at hs
  | fuel + 1, t, cs, x, f2 + 1, shs, h, hw, hs => by
    simp only [shOf] at hs
    split at hs
    · rename_i hu
      injection hs with hs; subst hs
      obtain ⟨b, rfl, rfl⟩ := DataW.trod_bool hu h
      exact CV.one (.v _ rfl) (.bool b)
    · rename_i k hu
      injection hs with hs; subst hs
      obtain ⟨n, rfl, rfl, hwf⟩ := DataW.trod_int hu h
      exact CV.one (.v _ rfl) (.int k n hwf)
    · rename_i hu
      injection hs with hs; subst hs
      obtain ⟨s, rfl, rfl, hsz⟩ := DataW.trod_string hu h
      exact CV.one (.v _ rfl) (.str s (by have := hw s.data.toList.length (by simp [DataW.weights]); rw [data_len] at this; exact this))
    · rename_i e hu
      cases hg : shOf P f2 e with
      | none => rw [hg] at hs; simp at hs
      | some es =>
        rw [hg, Option.bind_some] at hs
        split at hs
        · rename_i hl
          obtain ⟨hl, hpos⟩ := hl
          injection hs with hs; subst hs
          rcases DataW.trod_slice hu h with ⟨rfl, rfl⟩ | ⟨a, len, cap, elems, rest, n, hn, rfl, rfl, _, hlc, _, hlen, hel, _, _⟩
          · exact CV.one (.nil false es.length none 0 (by simp)) (.sl _ es [] (by simp) (by simp) (by simp))
          · injection hn with hn; subst hn
            have hwt : len * P.bytesOf e ≤ reachBytes := by
              have := hw ((elems.length + rest.length) * P.bytesOf e) (by simp [DataW.weights, hu])
              exact Nat.le_trans (Nat.mul_le_mul_right _ (by omega)) this
            have hch : ∀ i : Fin len, ∃ ce : List Value, W.cells? 0 (a.add (i.val * P.cellsOf e)) (P.cellsOf e) = some ce ∧ CV W ce es := fun i => by
              have h1 := hel i.val i.isLt
              have hi : i.val < elems.length := by rw [hlen]; exact i.isLt
              rw [List.getElem?_eq_getElem hi] at h1
              cases hc : W.cells? 0 (a.add (i.val * P.cellsOf e)) (P.cellsOf e) with
              | none => rw [hc] at h1; simp at h1
              | some ce =>
                rw [hc, Option.bind_some] at h1
                refine ⟨ce, rfl, conv fuel e ce _ f2 es h1 (fun m hm => hw m ?_) hg⟩
                have hj : (elems.map (·.1))[i.val]? = some (elems[i.val]).1 := by simp [hi]
                have := weights_mem_all (P := P) (e := e) hj m hm
                simp only [DataW.weights, hu, List.mem_cons, List.mem_append]
                exact .inr (.inl this)
            have key : ∀ i : Fin len, ∃ ds : List D, ds.length = es.length ∧ ∀ (j : Nat) (x : D), ds[j]? = some x → ∃ v, W.cell? ((a.add (i.val * P.cellsOf e)).add j) = some v ∧ RD (hp W) (fun b => b < W.heap.size) v x ∧ ∀ s, es[j]? = some s → Fit s x := fun i => by
              obtain ⟨ce, hc, ds, g1, g2, g3⟩ := hch i
              obtain ⟨_, hcl, hcc⟩ := World.cells?_some hc
              refine ⟨ds, g1, fun j x hx => ?_⟩
              have hj : j < ds.length := (List.getElem?_eq_some_iff.1 hx).1
              have hjc : ce[j]? = some (ce[j]'(by omega)) := List.getElem?_eq_getElem (by omega)
              have hjs : es[j]? = some (es[j]'(by omega)) := List.getElem?_eq_getElem (by omega)
              obtain ⟨r1, r2⟩ := g3 j _ x _ hjc hx hjs
              exact ⟨_, by rw [hcc j (by omega), hjc], r1, fun s hs => by rw [hjs] at hs; injection hs with hs; subst hs; exact r2⟩
            let els : List (List D) := List.ofFn fun i : Fin len => Classical.choose (key i)
            have hlenE : els.length = len := by simp [els]
            have hat : ∀ (i : Nat) (el : List D), els[i]? = some el → ∃ hi : i < len, el = Classical.choose (key ⟨i, hi⟩) := fun i el he => by
              have hi : i < els.length := (List.getElem?_eq_some_iff.1 he).1
              have hi' : i < len := by rw [← hlenE]; exact hi
              refine ⟨hi', ?_⟩
              rw [List.getElem?_eq_getElem hi] at he
              injection he with he
              rw [← he]; simp [els]
            have hmem : ∀ el ∈ els, ∃ i : Fin len, el = Classical.choose (key i) := fun el he => by
              obtain ⟨i, hi⟩ := List.getElem?_of_mem he
              obtain ⟨h1, h2⟩ := hat i el hi
              exact ⟨⟨i, h1⟩, h2⟩
            have hfit : Fit (.sl (P.bytesOf e) es) (.sl false es.length els) := .sl _ es els (by rw [hlenE]; exact hwt) (fun el he => by obtain ⟨i, rfl⟩ := hmem el he; exact (Classical.choose_spec (key i)).1) fun el he j s x h1 h2 => by
              obtain ⟨i, rfl⟩ := hmem el he
              obtain ⟨v, _, _, h5⟩ := (Classical.choose_spec (key i)).2 j x h2
              exact h5 s h1
            refine CV.one ?_ hfit
            rcases Nat.eq_zero_or_pos len with h0 | h0
            · subst h0
              have : els = [] := List.eq_nil_of_length_eq_zero hlenE
              rw [this]
              exact .nil false es.length _ cap (by simp)
            · have hcell : ∀ (i : Nat) (hi : i < len) (j : Nat) (x : D), (Classical.choose (key ⟨i, hi⟩))[j]? = some x → ∃ v cs t fz, W.heap[a.block]? = some (.cells cs t fz) ∧ cs[a.off + (i * es.length + j)]? = some v ∧ RD (hp W) (fun b => b < W.heap.size) v x := fun i hi j x hx => by
                obtain ⟨v, hv, hr, _⟩ := (Classical.choose_spec (key ⟨i, hi⟩)).2 j x hx
                obtain ⟨_, cs, t', fz, q2, q3⟩ := cell_heap hv
                rw [add_block, add_block] at q2
                rw [add_off, add_off, ← hl] at q3
                exact ⟨v, cs, t', fz, q2, by rwa [Nat.add_assoc] at q3, hr⟩
              have hx0 : ∃ x, (Classical.choose (key ⟨0, h0⟩))[0]? = some x := ⟨_, List.getElem?_eq_getElem (by rw [(Classical.choose_spec (key ⟨0, h0⟩)).1]; exact hpos)⟩
              obtain ⟨x0, hx0⟩ := hx0
              have hspot : a.spot = none := by
                obtain ⟨v, hv, _⟩ := (Classical.choose_spec (key ⟨0, h0⟩)).2 0 x0 hx0
                have := (cell_heap hv).1
                simpa [Addr.add] using this
              have hblk : a.block < W.heap.size := by
                obtain ⟨v, cs, t', fz, q2, _⟩ := hcell 0 h0 0 x0 hx0
                exact (Array.getElem?_eq_some_iff.1 q2).1
              obtain ⟨ab, ao, asp⟩ := a
              simp only at hspot
              subst hspot
              let f : Nat → Nat → Value := fun i j => ((W.heap[ab]?).bind fun o => match o with
                | .cells cs _ _ => cs[ao + (i * es.length + j)]?
                | _ => none).getD undef
              have hfv : ∀ (i j : Nat) (v : Value) (cs : Array Value) (t' : TypeId) (fz : Nat × Nat), W.heap[ab]? = some (.cells cs t' fz) → cs[ao + (i * es.length + j)]? = some v → f i j = v := fun i j v cs t' fz q2 q3 => by
                simp only [f, q2, Option.bind_some, q3, Option.getD_some]
              have := RD.sl (h := hp W) (Im := fun b => b < W.heap.size) false es.length els ab ao cap f (fun el he => by obtain ⟨i, rfl⟩ := hmem el he; exact (Classical.choose_spec (key i)).1) hblk (by rw [hlenE]; exact hlc) (by simp) (fun i j el x h1 h2 => by
                  obtain ⟨hi, rfl⟩ := hat i el h1
                  obtain ⟨v, cs, t', fz, q2, q3, q4⟩ := hcell i hi j x h2
                  exact ⟨cs, t', fz, q2, by rw [hfv i j v cs t' fz q2 q3]; exact q3⟩) (fun i j el x h1 h2 => by
                  obtain ⟨hi, rfl⟩ := hat i el h1
                  obtain ⟨v, cs, t', fz, q2, q3, q4⟩ := hcell i hi j x h2
                  rw [hfv i j v cs t' fz q2 q3]; exact q4)
              rw [hlenE] at this
              exact this
        · exact absurd hs (by simp)
    · rename_i fs hu
      cases hg : shFs P (shOf P f2) fs.toList 0 with
      | none => rw [hg] at hs; simp at hs
      | some es =>
        rw [hg, Option.bind_some] at hs
        split at hs
        · rename_i hl
          injection hs with hs; subst hs
          obtain ⟨xs, n, hn, rfl, hcl, hxl, hx⟩ := DataW.trod_struct hu h
          injection hn with hn; subst hn
          have := cv_fields (cs := cs) (fun t c x shs h1 h2 h3 => conv fuel t c x f2 shs h1 h2 h3) fs.toList 0 es hg fun f hf => by
            obtain ⟨i, hi⟩ := List.getElem?_of_mem hf
            have hi' : fs[i]? = some f := by simpa using hi
            have h1 := hx i f hi'
            have hlt : i < xs.length := by rw [hxl]; exact (Array.getElem?_eq_some_iff.1 hi').1
            rw [List.getElem?_eq_getElem hlt] at h1
            refine ⟨_, h1, fun m hm => hw m ?_⟩
            simp only [DataW.weights, hu]
            exact DataW.weights_mem_each (j := i) (t := f.type) (d := xs[i].1) (by simp [hi']) (by simp [hlt]) m hm
          rw [List.drop_zero, List.take_of_length_le (by omega)] at this
          exact this
        · exact absurd hs (by simp)
    · rename_i n e hu
      cases hg : shOf P f2 e with
      | none => rw [hg] at hs; simp at hs
      | some es =>
        rw [hg, Option.bind_some] at hs
        split at hs
        · rename_i hl
          injection hs with hs; subst hs
          obtain ⟨xs, k, hn, rfl, hcl, hxl, hx⟩ := DataW.trod_array hu h
          injection hn with hn; subst hn
          have := cv_rep (W := W) (cs := cs) hl.1 n 0 fun i hi => by
            have h1 := hx i hi
            have hlt : i < xs.length := by rw [hxl]; exact hi
            rw [List.getElem?_eq_getElem hlt] at h1
            rw [Nat.zero_add]
            refine conv fuel e _ _ f2 es h1 (fun m hm => hw m ?_) hg
            simp only [DataW.weights, hu]
            exact weights_mem_all (j := i) (d := xs[i].1) (by simp [hlt]) m hm
          rw [Nat.zero_mul, List.drop_zero, List.take_of_length_le (by rw [hcl, ← hl.2, hl.1]; exact Nat.le_refl _)] at this
          exact this
        · exact absurd hs (by simp)
    · exact absurd hs (by simp)

/-- A slice that is handed in. -/
theorem cv_slice {r : Reach} {b0 : Nat} {t e : TypeId} {v : Value} {d : DataW H} {ps : List MemPlace} {f2 b : Nat} {es : List Sh} (ht : P.underlying t = some (.slice e)) (hval : Value.okWide P W r b0 t v) (h : DataW.Trod enc P W 0 sp held t v d ps) (hw : ∀ m ∈ d.weights P t, m ≤ reachBytes) (hs : shOf P f2 t = some [.sl b es]) :
    v.oneCell' = true ∧ ∃ els, RD (hp W) (fun b => b < W.heap.size) v (.sl false es.length els) ∧ Fit (.sl b es) (.sl false es.length els) := by
  obtain ⟨a, n, c, rfl⟩ := WideShapes.okWide_slice ht hval
  obtain ⟨fuel, hf⟩ := h
  obtain ⟨ds, h1, h2, h3⟩ := conv fuel t _ _ f2 _ hf hw hs
  have hd : ds[0]? = some (ds[0]'(by rw [h1]; simp)) := List.getElem?_eq_getElem _
  obtain ⟨g1, g2⟩ := h3 0 _ _ (.sl b es) rfl hd rfl
  refine ⟨rfl, ?_⟩
  generalize ds[0]'(by rw [h1]; simp) = x at g1 g2
  cases g2 with
  | sl _ _ els q1 q2 q3 => exact ⟨els, g1, .sl _ _ els q1 q2 q3⟩

/-- A struct that is handed in. -/
theorem cv_struct {r : Reach} {b0 : Nat} {t : TypeId} {fs : Array Field} {v : Value} {d : DataW H} {ps : List MemPlace} {f2 : Nat} {es : List Sh} (ht : P.underlying t = some (.struct fs)) (hval : Value.okWide P W r b0 t v) (h : DataW.Trod enc P W 0 sp held t v d ps) (hw : ∀ m ∈ d.weights P t, m ≤ reachBytes) (hs : shOf P f2 t = some es) (ρ : Nat → Option Loc) :
    ∃ ds : List D, ds.length = es.length ∧ RA (hp W) (fun b => b < W.heap.size) ρ v (.dagg ds) ∧ ∀ (i : Nat) (x : D) (s : Sh), ds[i]? = some x → es[i]? = some s → Fit s x := by
  obtain ⟨cs, rfl, hc⟩ := WideShapes.okWide_struct ht hval
  obtain ⟨fuel, hf⟩ := h
  obtain ⟨ds, h1, h2, h3⟩ := conv fuel t _ _ f2 _ hf hw hs
  have h2 : cs.toList.length = es.length := h2
  refine ⟨ds, h1, .dagg _ _ (by rw [h1, ← h2]; simp) fun i v x e1 e2 => ?_, fun i x s e1 e2 => ?_⟩
  · have hi : i < ds.length := (List.getElem?_eq_some_iff.1 e2).1
    exact (h3 i v x (es[i]'(by omega)) (by show cs.toList[i]? = some v; simpa using e1) e2 (List.getElem?_eq_getElem _)).1
  · have hi : i < ds.length := (List.getElem?_eq_some_iff.1 e1).1
    exact (h3 i (cs.toList[i]'(by omega)) x s (List.getElem?_eq_getElem (l := cs.toList) (by omega)) e1 e2).2

/-- Elements that are rows of a kind. -/
theorem rows_of {α : Type} (row : α → List D) (p : α → Prop) : ∀ {els : List (List D)}, (∀ el ∈ els, ∃ a, el = row a ∧ p a) → ∃ l : List α, els = l.map row ∧ ∀ a ∈ l, p a
  | [], _ => ⟨[], rfl, by simp⟩
  | el :: els, h => by
    obtain ⟨a, ha, hp⟩ := h el (by simp)
    obtain ⟨l, hl, hq⟩ := rows_of row p (els := els) fun e he => h e (by simp [he])
    exact ⟨a :: l, by rw [ha, hl]; rfl, fun x hx => by rcases List.mem_cons.1 hx with rfl | hx; exact hp; exact hq x hx⟩
end
theorem fit_u16 {x : D} (h : Fit (.int .u16) x) : ∃ n : Int, x = .u16 n ∧ 0 ≤ n ∧ n < 65536 := by
  cases h with
  | int _ k hk => exact ⟨k, rfl, by simp [Lit.wf, IntKind.min, IntKind.max, IntKind.bits, IntKind.signed] at hk; omega⟩
end Go.Ax
