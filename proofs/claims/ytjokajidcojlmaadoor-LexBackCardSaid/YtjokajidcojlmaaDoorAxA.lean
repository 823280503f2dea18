/- Abstract execution, part A: abstract values, abstract objects, and how a machine's world bears them. Over any program. -/
import Derived.Orders
import Derived.Tactics
import Derived.Laws.Rows
import Derived.Laws.CopyRow
import Derived.Laws.AppendOwn
namespace Go.Ax

/-- Immutable data: a machine value as it is, or a slice whose elements' cells are told. -/
inductive D where
  | v (x : Value)
  | sl (tight : Bool) (sz : Nat) (els : List (List D))
  deriving Inhabited

/-- What is known of a value in a slot. -/
inductive AV where
  | junk
  | d (x : D)
  | dagg (cs : List D)
  | agg (cs : List AV)
  | tup (vs : List AV)
  | ptr (r off : Nat)
  | ep (cs : List D)
  | msl (r n off len : Nat)
  | mptr (r n i j : Nat)
  | mp (r : Nat)
  | clo (fn : Fn) (first caps : List AV)
  | ifc (t : TypeId) (x : AV)
  deriving Inhabited

structure Loc where
  blk : Option Nat
  isBuf : Bool := false
  cap : Nat := 0
  len : Nat := 0
  sz : Nat := 0
  more : List Nat := []
  ad0 : Option Addr := none

def Loc.fp (l : Loc) : List Nat := l.blk.toList ++ l.more
def Loc.addr (l : Loc) : Option Addr := match l.blk with
  | some b => some ⟨b, 0, none⟩
  | none => l.ad0
/-- The machine's slice over a piece of a buffer. -/
def Loc.sub (l : Loc) (off len : Nat) : Value := .slice (if l.cap = off then l.addr else l.addr.map (·.add (off * l.sz))) len (l.cap - off)

inductive AObj where
  | var (cs : List AV)
  | dvar (n : Nat) (cs : List D)
  | buf (sz : Nat) (elem : TypeId) (els : List (List D))
  | map (agg : Bool) (es : List (List D × D))
  | siter (s : ByteArray) (pos : Nat)
  | ext (R : Loc → (Nat → Option Obj) → Prop)
  | tvar (t : TypeId) (cs : List D)

/-- A value reads as immutable data: all cells that it leads to lie in blocks of Im. -/
inductive RD (h : Nat → Option Obj) (Im : Nat → Prop) : Value → D → Prop
  | v (x : Value) (h1 : x.oneCell' = true) : RD h Im x (.v x)
  | nil (tight : Bool) (sz : Nat) (a : Option Addr) (cap : Nat) (ht : tight = true → cap = 0) : RD h Im (.slice a 0 cap) (.sl tight sz [])
  | sl (tight : Bool) (sz : Nat) (els : List (List D)) (b o cap : Nat) (f : Nat → Nat → Value) (hs : ∀ el ∈ els, el.length = sz) (hb : Im b) (hle : els.length ≤ cap)
      (ht : tight = true → cap = els.length)
      (hc : ∀ i j el x, els[i]? = some el → el[j]? = some x → ∃ cs t fz, h b = some (.cells cs t fz) ∧ cs[o + (i * sz + j)]? = some (f i j))
      (hr : ∀ i j el x, els[i]? = some el → el[j]? = some x → RD h Im (f i j) x) :
      RD h Im (.slice (some ⟨b, o, none⟩) els.length cap) (.sl tight sz els)

inductive RA (h : Nat → Option Obj) (Im : Nat → Prop) (ρ : Nat → Option Loc) : Value → AV → Prop
  | junk (x : Value) : RA h Im ρ x .junk
  | d (x : Value) (y : D) (hd : RD h Im x y) : RA h Im ρ x (.d y)
  | dagg (cs : Array Value) (l : List D) (hl : cs.size = l.length) (hr : ∀ (i : Nat) (v : Value) (x : D), cs[i]? = some v → l[i]? = some x → RD h Im v x) : RA h Im ρ (.agg cs) (.dagg l)
  | agg (cs : Array Value) (l : List AV) (hl : cs.size = l.length) (hr : ∀ (i : Nat) (v : Value) (x : AV), cs[i]? = some v → l[i]? = some x → RA h Im ρ v x) : RA h Im ρ (.agg cs) (.agg l)
  | tup (cs : Array Value) (l : List AV) (hl : cs.size = l.length) (hr : ∀ (i : Nat) (v : Value) (x : AV), cs[i]? = some v → l[i]? = some x → RA h Im ρ v x) : RA h Im ρ (.tuple cs) (.tup l)
  | ptr (x : Value) (r off : Nat) (h1 : x.oneCell' = true) (hp : ∀ l, ρ r = some l → l.isBuf = false ∧ ∃ b, l.blk = some b ∧ x = .pointer (some ⟨b, off, none⟩)) : RA h Im ρ x (.ptr r off)
  | ep (b o : Nat) (cs : List D) (f : Nat → Value) (hb : Im b)
      (hc : ∀ j x, cs[j]? = some x → ∃ ms t fz, h b = some (.cells ms t fz) ∧ ms[o + j]? = some (f j)) (hr : ∀ j x, cs[j]? = some x → RD h Im (f j) x) :
      RA h Im ρ (.pointer (some ⟨b, o, none⟩)) (.ep cs)
  | msl (x : Value) (r n off len : Nat) (h1 : x.oneCell' = true) (hp : ∀ l, ρ r = some l → n ≤ l.len ∧ (n = l.len → x = l.sub off len)) : RA h Im ρ x (.msl r n off len)
  | mptr (x : Value) (r n i j : Nat) (h1 : x.oneCell' = true) (hp : ∀ l, ρ r = some l → n ≤ l.len ∧ (n = l.len → ∃ b, l.blk = some b ∧ x = .pointer (some ⟨b, i * l.sz + j, none⟩))) : RA h Im ρ x (.mptr r n i j)
  | mp (x : Value) (r : Nat) (h1 : x.oneCell' = true) (hp : ∀ l, ρ r = some l → l.isBuf = false ∧ ∃ b, l.blk = some b ∧ x = .map (some b)) : RA h Im ρ x (.mp r)
  | clo (fn : Fn) (fs cs : Array Value) (lf lc : List AV) (hf : fs.size = lf.length) (hc : cs.size = lc.length) (hrf : ∀ (i : Nat) (v : Value) (x : AV), fs[i]? = some v → lf[i]? = some x → RA h Im ρ v x)
      (hrc : ∀ (i : Nat) (v : Value) (x : AV), cs[i]? = some v → lc[i]? = some x → RA h Im ρ v x) : RA h Im ρ (.func fn fs cs) (.clo fn lf lc)
  | ifc (t : TypeId) (x : Value) (y : AV) (hx : RA h Im ρ x y) : RA h Im ρ (.iface t x) (.ifc t y)

/-- A block of cells that a variable is. -/
def OwnCells (h : Nat → Option Obj) (l : Loc) (n : Nat) (R : Nat → Value → Prop) : Prop :=
  ∃ b ms t, l.blk = some b ∧ h b = some (.cells ms t (0, 0)) ∧ ms.size = n ∧ ∀ i v, ms[i]? = some v → R i v

/-- A map's key: its cells, in one or bare. -/
def KeyR (h : Nat → Option Obj) (Im : Nat → Prop) (agg : Bool) (v : Value) (x : List D) : Prop := match agg with
  | true => ∃ cs, v = .agg cs ∧ cs.size = x.length ∧ ∀ (j : Nat) (u : Value) (y : D), cs[j]? = some u → x[j]? = some y → RD h Im u y
  | false => ∃ y, x = [y] ∧ RD h Im v y

def RO (h : Nat → Option Obj) (Im : Nat → Prop) (ρ : Nat → Option Loc) (l : Loc) : AObj → Prop
  | .var cs => l.isBuf = false ∧ l.more = [] ∧ OwnCells h l cs.length fun i v => ∀ x, cs[i]? = some x → RA h Im ρ v x ∧ v.oneCell' = true
  | .dvar n cs => l.isBuf = false ∧ l.more = [] ∧ cs.length = n ∧ OwnCells h l n fun i v => ∀ x, cs[i]? = some x → RD h Im v x
  | .buf sz elem els => l.isBuf = true ∧ l.more = [] ∧ l.sz = sz ∧ l.len = els.length ∧ (∀ el ∈ els, el.length = sz) ∧
      ((l.blk = none ∧ els = [] ∧ l.cap = 0) ∨
       ∃ b ms, l.blk = some b ∧ h b = some (.cells ms elem (0, 0)) ∧ els.length ≤ l.cap ∧ l.cap ≤ maxLen ∧ ms.size = l.cap * sz ∧
        ∀ i j el x, els[i]? = some el → el[j]? = some x → ∃ v, ms[i * sz + j]? = some v ∧ RD h Im v x)
  | .map agg es => l.isBuf = false ∧ l.more = [] ∧ ∃ b ms k, l.blk = some b ∧ h b = some (.map ms k) ∧ ms.size = es.length ∧
      ∀ (i : Nat) (e : MapEntry) (x : List D × D), ms[i]? = some e → es[i]? = some x → RD h Im e.val x.2 ∧ KeyR h Im agg e.key x.1
  | .siter s pos => l.isBuf = false ∧ l.more = [] ∧ ∃ b, l.blk = some b ∧ h b = some (.stringIter s pos)
  | .tvar t cs => l.isBuf = false ∧ l.more = [] ∧ ∃ b ms, l.blk = some b ∧ h b = some (.cells ms t (0, 0)) ∧ ms.size = cs.length ∧ ∀ (i : Nat) (v : Value) (x : D), ms[i]? = some v → cs[i]? = some x → RD h Im v x
  | .ext R => l.isBuf = false ∧ (∃ b, l.blk = some b) ∧ (∀ h h' : Nat → Option Obj, (∀ b ∈ l.fp, h' b = h b) → R l h → R l h') ∧ R l h

/-- Does a value name an object? -/
def AV.ment (r : Nat) : AV → Bool
  | .ptr q _ | .msl q _ _ _ | .mptr q _ _ _ | .mp q => Nat.beq q r
  | .agg cs | .tup cs => mentL cs
  | .clo _ f c => mentL f || mentL c
  | .ifc _ x => x.ment r
  | _ => false
where
  mentL : List AV → Bool
  | [] => false
  | x :: xs => x.ment r || mentL xs

def AObj.ment (r : Nat) : AObj → Bool
  | .var cs => AV.ment.mentL r cs
  | _ => false

/-! ### Stability -/
theorem RD.one {h : Nat → Option Obj} {Im : Nat → Prop} {v : Value} {x : D} (H : RD h Im v x) : v.oneCell' = true := by
  cases H <;> first | assumption | rfl

theorem RD.mono {h h' : Nat → Option Obj} {Im Im' : Nat → Prop} (hI : ∀ b, Im b → Im' b) (hh : ∀ b, Im b → h' b = h b) {v : Value} {x : D} (H : RD h Im v x) : RD h' Im' v x := by
  induction H with
  | v x h1 => exact .v x h1
  | nil t sz a cap ht => exact .nil t sz a cap ht
  | sl t sz els b o cap f hs hb hle ht hc hr ih => exact .sl t sz els b o cap f hs (hI b hb) hle ht (fun i j el x h1 h2 => by rw [hh b hb]; exact hc i j el x h1 h2) ih

theorem AV.mentL_of {r : Nat} : ∀ {cs : List AV} {i : Nat} {x : AV}, cs[i]? = some x → x.ment r = true → AV.ment.mentL r cs = true
  | [], i, x, h, _ => by simp at h
  | y :: ys, 0, x, h, hx => by simp at h; subst h; simp [AV.ment.mentL, hx]
  | y :: ys, i + 1, x, h, hx => by
    have := AV.mentL_of (cs := ys) (i := i) (by simpa using h) hx
    simp [AV.ment.mentL, this]

def LocStep (l l' : Loc) : Prop := l' = l ∨ (l.isBuf = true ∧ l'.isBuf = true ∧ l.len < l'.len)

theorem LocStep.trans {l l1 l2 : Loc} (h : LocStep l l1) (k : LocStep l1 l2) : LocStep l l2 := by
  rcases h with rfl | ⟨h1, h2, h3⟩
  · exact k
  · rcases k with rfl | ⟨k1, k2, k3⟩
    · exact .inr ⟨h1, h2, h3⟩
    · exact .inr ⟨h1, k2, by omega⟩

theorem RA.mono {h h' : Nat → Option Obj} {Im Im' : Nat → Prop} {ρ ρ' : Nat → Option Loc} (hI : ∀ b, Im b → Im' b) (hh : ∀ b, Im b → h' b = h b) {v : Value} {x : AV} (H : RA h Im ρ v x) :
    (∀ r, x.ment r = true → ∀ l', ρ' r = some l' → ∃ l, ρ r = some l ∧ LocStep l l') → RA h' Im' ρ' v x := by
  induction H with
  | junk x => exact fun _ => .junk x
  | d x y hd => exact fun _ => .d x y (hd.mono hI hh)
  | dagg cs l hl hr => exact fun _ => .dagg cs l hl fun i v x h1 h2 => (hr i v x h1 h2).mono hI hh
  | agg cs l hl hr ih => exact fun hm => .agg cs l hl fun i v x h1 h2 => ih i v x h1 h2 fun r hx => hm r (by simpa [AV.ment] using AV.mentL_of h2 hx)
  | tup cs l hl hr ih => exact fun hm => .tup cs l hl fun i v x h1 h2 => ih i v x h1 h2 fun r hx => hm r (by simpa [AV.ment] using AV.mentL_of h2 hx)
  | ptr x r off h0 hp =>
    intro hm
    refine .ptr x r off h0 fun l' hl' => ?_
    obtain ⟨l, hl, hst⟩ := hm r (by simp [AV.ment]) l' hl'
    obtain ⟨h1, h2⟩ := hp l hl
    rcases hst with rfl | ⟨h3, _⟩
    · exact ⟨h1, h2⟩
    · rw [h1] at h3; exact absurd h3 (by simp)
  | ep b o cs f hb hc hr => exact fun _ => .ep b o cs f (hI b hb) (fun j x h1 => by rw [hh b hb]; exact hc j x h1) fun j x h1 => (hr j x h1).mono hI hh
  | msl x r n off len h0 hp =>
    intro hm
    refine .msl x r n off len h0 fun l' hl' => ?_
    obtain ⟨l, hl, hst⟩ := hm r (by simp [AV.ment]) l' hl'
    obtain ⟨h1, h2⟩ := hp l hl
    rcases hst with rfl | ⟨_, _, h3⟩
    · exact ⟨h1, h2⟩
    · exact ⟨by omega, fun e => by omega⟩
  | mptr x r n i j h0 hp =>
    intro hm
    refine .mptr x r n i j h0 fun l' hl' => ?_
    obtain ⟨l, hl, hst⟩ := hm r (by simp [AV.ment]) l' hl'
    obtain ⟨h1, h2⟩ := hp l hl
    rcases hst with rfl | ⟨_, _, h3⟩
    · exact ⟨h1, h2⟩
    · exact ⟨by omega, fun e => by omega⟩
  | mp x r h0 hp =>
    intro hm
    refine .mp x r h0 fun l' hl' => ?_
    obtain ⟨l, hl, hst⟩ := hm r (by simp [AV.ment]) l' hl'
    obtain ⟨h1, h2⟩ := hp l hl
    rcases hst with rfl | ⟨h3, _⟩
    · exact ⟨h1, h2⟩
    · rw [h1] at h3; exact absurd h3 (by simp)
  | clo fn fs cs lf lc hf hc hrf hrc ihf ihc =>
    intro hm
    refine .clo fn fs cs lf lc hf hc (fun i v x h1 h2 => ihf i v x h1 h2 fun r hx => hm r ?_) (fun i v x h1 h2 => ihc i v x h1 h2 fun r hx => hm r ?_)
    · simp [AV.ment, AV.mentL_of h2 hx]
    · simp [AV.ment, AV.mentL_of h2 hx]
  | ifc t x y hx ih => exact fun hm => .ifc t x y (ih fun r hx => hm r (by simpa [AV.ment] using hx))

theorem OwnCells.mono {h h' : Nat → Option Obj} {l : Loc} {n : Nat} {R R' : Nat → Value → Prop} (hh : ∀ b ∈ l.fp, h' b = h b) (hR : ∀ i v, R i v → R' i v) (H : OwnCells h l n R) : OwnCells h' l n R' := by
  obtain ⟨b, ms, t, h1, h2, h3, h4⟩ := H
  exact ⟨b, ms, t, h1, by rw [hh b (by simp [Loc.fp, h1])]; exact h2, h3, fun i v hv => hR _ _ (h4 i v hv)⟩

theorem KeyR.mono {h h' : Nat → Option Obj} {Im Im' : Nat → Prop} (hI : ∀ b, Im b → Im' b) (hh : ∀ b, Im b → h' b = h b) {agg : Bool} {v : Value} {x : List D} (H : KeyR h Im agg v x) : KeyR h' Im' agg v x := by
  cases agg with
  | true => obtain ⟨cs, h1, h2, h3⟩ := H; exact ⟨cs, h1, h2, fun j u y e1 e2 => (h3 j u y e1 e2).mono hI hh⟩
  | false => obtain ⟨y, h1, h2⟩ := H; exact ⟨y, h1, h2.mono hI hh⟩

theorem RO.mono {h h' : Nat → Option Obj} {Im Im' : Nat → Prop} {ρ ρ' : Nat → Option Loc} {l : Loc} (hI : ∀ b, Im b → Im' b) (hh : ∀ b, Im b → h' b = h b) (hl : ∀ b ∈ l.fp, h' b = h b) {o : AObj}
    (hm : ∀ r, o.ment r = true → ∀ l', ρ' r = some l' → ∃ l, ρ r = some l ∧ LocStep l l') (H : RO h Im ρ l o) : RO h' Im' ρ' l o := by
  cases o with
  | var cs => exact ⟨H.1, H.2.1, H.2.2.mono hl fun i v hv x hx => ⟨(hv x hx).1.mono hI hh fun r hr => hm r (by simpa [AObj.ment] using AV.mentL_of hx hr), (hv x hx).2⟩⟩
  | dvar n cs => exact ⟨H.1, H.2.1, H.2.2.1, H.2.2.2.mono hl fun i v hv x hx => (hv x hx).mono hI hh⟩
  | buf sz elem els =>
    obtain ⟨h0, h1, h2, h3, h4, h5⟩ := H
    refine ⟨h0, h1, h2, h3, h4, ?_⟩
    rcases h5 with h5 | ⟨b, ms, g1, g2, g3, g4, g5, g6⟩
    · exact .inl h5
    · refine .inr ⟨b, ms, g1, by rw [hl b (by simp [Loc.fp, g1])]; exact g2, g3, g4, g5, fun i j el x e1 e2 => ?_⟩
      obtain ⟨v, k1, k2⟩ := g6 i j el x e1 e2
      exact ⟨v, k1, k2.mono hI hh⟩
  | map agg es =>
    obtain ⟨h0, h1, b, ms, k, g1, g2, g3, g4⟩ := H
    refine ⟨h0, h1, b, ms, k, g1, by rw [hl b (by simp [Loc.fp, g1])]; exact g2, g3, fun i e x e1 e2 => ?_⟩
    obtain ⟨k1, k2⟩ := g4 i e x e1 e2
    exact ⟨k1.mono hI hh, k2.mono hI hh⟩
  | siter s pos =>
    obtain ⟨h0, h1, b, g1, g2⟩ := H
    exact ⟨h0, h1, b, g1, by rw [hl b (by simp [Loc.fp, g1])]; exact g2⟩
  | ext R => exact ⟨H.1, H.2.1, H.2.2.1, H.2.2.1 _ _ hl H.2.2.2⟩
  | tvar t cs =>
    obtain ⟨h0, h1, b, ms, g1, g2, g3, g4⟩ := H
    exact ⟨h0, h1, b, ms, g1, by rw [hl b (by simp [Loc.fp, g1])]; exact g2, g3, fun i v x e1 e2 => (g4 i v x e1 e2).mono hI hh⟩

end Go.Ax
