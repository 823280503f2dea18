/- What the card of this claim stands on, or the card itself: for every input, as the given row says. -/
import Derived.Orders
import Derived.Tactics
import Derived.Laws.Rows
import Derived.Laws.CopyRow
import Derived.Laws.AppendOwn
import Derived.TacticsIn
import Derived.OrdersIn
import Derived.RangeFuncLeaves
import Derived.Laws.Strings
import Derived.Laws.Append

namespace Go.Ax
theorem nrmA {p : Prop} [Decidable p] (h : decide p = true) : p := of_decide_eq_true h
theorem nrmB {p : Prop} [Decidable p] (h : decide p = false) : ¬ p := of_decide_eq_false h
theorem nrmC {α : Type} [BEq α] [LawfulBEq α] {a b : α} (h : (a == b) = true) : a = b := eq_of_beq h
theorem nrmD {α : Type} [BEq α] [LawfulBEq α] {a b : α} (h : (a == b) = false) : a ≠ b := ne_of_beq_false h
theorem nrmE {α : Type} [BEq α] [LawfulBEq α] {a b : α} (h : (a != b) = true) : a ≠ b := bne_iff_ne.1 h
theorem nrmF {α : Type} [BEq α] [LawfulBEq α] {a b : α} (h : (a != b) = false) : a = b := bne_eq_false_iff_eq.1 h
theorem easyA {p : Prop} (h : p := by first | exact rfl | decide | exact Nat.le_of_ble_eq_true rfl | exact ⟨_, rfl⟩ | exact ⟨_, _, rfl⟩ | exact Nat.le_refl _ | exact Int.le_refl _ | omega | (simp only [List.length_map]; omega) | exact True.intro | (simp only [IntKind.wrap_i64, List.length_map]; omega) | (simp only [List.map_cons, List.map_nil, List.length_cons, Option.getD]; omega) | (simp only [bsz, ByteArray.size_append, List.size_toArray, List.length_cons, List.length_nil]; omega) | exact ⟨⟨_, _, rfl, rfl, Nat.le_of_ble_eq_true rfl⟩, trivial⟩ | exact ⟨⟨_, _, rfl, rfl, Nat.le_of_ble_eq_true rfl⟩, ⟨_, _, rfl, rfl, Nat.le_of_ble_eq_true rfl⟩, trivial⟩ | exact ⟨⟨_, _, rfl, rfl, Nat.le_of_ble_eq_true rfl⟩, ⟨_, _, rfl, rfl, Nat.le_of_ble_eq_true rfl⟩, ⟨_, _, rfl, rfl, Nat.le_of_ble_eq_true rfl⟩, trivial⟩) : p := h
theorem easyE {p : Prop} (h : p := by first | exact rfl | decide | exact Nat.le_of_ble_eq_true rfl | exact ⟨_, rfl⟩ | exact ⟨_, _, rfl⟩ | exact Nat.le_refl _ | exact Int.le_refl _ | omega | (simp only [List.length_map]; omega)) : p := h
inductive D where
  | v (x : Value)
  | sl (tight : Bool) (sz : Nat) (els : List (List D))
  deriving Inhabited
inductive AV where
  | junk
  | d (x : D)
  | dagg (cs : List D)
  | agg (cs : List AV)
  | tup (vs : List AV)
  | ptr (r off : Nat)
  | ep (cs : List D)
  | msl (r n off len : Nat)
  | mptr (r n i j : Nat)
  | mp (r : Nat)
  | clo (fn : Fn) (first caps : List AV)
  | ifc (t : TypeId) (x : AV)
  deriving Inhabited
structure Loc where
  blk : Option Nat
  isBuf : Bool := false
  cap : Nat := 0
  len : Nat := 0
  sz : Nat := 0
  more : List Nat := []
  ad0 : Option Addr := none
def Loc.fp (l : Loc) : List Nat := l.blk.toList ++ l.more
def Loc.addr (l : Loc) : Option Addr := match l.blk with
  | some b => some ⟨b, 0, none⟩
  | none => l.ad0
def Loc.sub (l : Loc) (off len : Nat) : Value := .slice (if l.cap = off then l.addr else l.addr.map (·.add (off * l.sz))) len (l.cap - off)
inductive AObj where
  | var (cs : List AV)
  | dvar (n : Nat) (cs : List D)
  | buf (sz : Nat) (elem : TypeId) (els : List (List D))
  | map (agg : Bool) (es : List (List D × D))
  | siter (s : ByteArray) (pos : Nat)
  | ext (R : Loc → (Nat → Option Obj) → Prop)
  | gst (K : Nat → Prop) (h0 : Nat → Option Obj) (R : Loc → (Nat → Option Obj) → Prop)
  | tvar (t : TypeId) (cs : List D)
  | lbuf (elem : TypeId) (els : List (List D)) (x : AV)
  | extI (R : Loc → (Nat → Option Obj) → (Nat → Prop) → Prop)
inductive RD (h : Nat → Option Obj) (Im : Nat → Prop) : Value → D → Prop
  | v (x : Value) (h1 : x.oneCell' = true) : RD h Im x (.v x)
  | nil (tight : Bool) (sz : Nat) (a : Option Addr) (cap : Nat) (ht : tight = true → cap = 0) : RD h Im (.slice a 0 cap) (.sl tight sz [])
  | sl (tight : Bool) (sz : Nat) (els : List (List D)) (b o cap : Nat) (f : Nat → Nat → Value) (hs : ∀ el ∈ els, el.length = sz) (hb : Im b) (hle : els.length ≤ cap)
      (ht : tight = true → cap = els.length)
      (hc : ∀ i j el x, els[i]? = some el → el[j]? = some x → ∃ cs t fz, h b = some (.cells cs t fz) ∧ cs[o + (i * sz + j)]? = some (f i j))
      (hr : ∀ i j el x, els[i]? = some el → el[j]? = some x → RD h Im (f i j) x) :
      RD h Im (.slice (some ⟨b, o, none⟩) els.length cap) (.sl tight sz els)
inductive RA (h : Nat → Option Obj) (Im : Nat → Prop) (ρ : Nat → Option Loc) : Value → AV → Prop
  | junk (x : Value) : RA h Im ρ x .junk
  | d (x : Value) (y : D) (hd : RD h Im x y) : RA h Im ρ x (.d y)
  | dagg (cs : Array Value) (l : List D) (hl : cs.size = l.length) (hr : ∀ (i : Nat) (v : Value) (x : D), cs[i]? = some v → l[i]? = some x → RD h Im v x) : RA h Im ρ (.agg cs) (.dagg l)
  | agg (cs : Array Value) (l : List AV) (hl : cs.size = l.length) (hr : ∀ (i : Nat) (v : Value) (x : AV), cs[i]? = some v → l[i]? = some x → RA h Im ρ v x) : RA h Im ρ (.agg cs) (.agg l)
  | tup (cs : Array Value) (l : List AV) (hl : cs.size = l.length) (hr : ∀ (i : Nat) (v : Value) (x : AV), cs[i]? = some v → l[i]? = some x → RA h Im ρ v x) : RA h Im ρ (.tuple cs) (.tup l)
  | ptr (x : Value) (r off : Nat) (h1 : x.oneCell' = true) (hp : ∀ l, ρ r = some l → l.isBuf = false ∧ ∃ b, l.blk = some b ∧ x = .pointer (some ⟨b, off, none⟩)) : RA h Im ρ x (.ptr r off)
  | ep (b o : Nat) (cs : List D) (f : Nat → Value) (hb : Im b)
      (hc : ∀ j x, cs[j]? = some x → ∃ ms t fz, h b = some (.cells ms t fz) ∧ ms[o + j]? = some (f j)) (hr : ∀ j x, cs[j]? = some x → RD h Im (f j) x) :
      RA h Im ρ (.pointer (some ⟨b, o, none⟩)) (.ep cs)
  | msl (x : Value) (r n off len : Nat) (h1 : x.oneCell' = true) (hp : ∀ l, ρ r = some l → n ≤ l.len ∧ (n = l.len → x = l.sub off len)) : RA h Im ρ x (.msl r n off len)
  | mptr (x : Value) (r n i j : Nat) (h1 : x.oneCell' = true) (hp : ∀ l, ρ r = some l → n ≤ l.len ∧ (n = l.len → ∃ b, l.blk = some b ∧ x = .pointer (some ⟨b, i * l.sz + j, none⟩))) : RA h Im ρ x (.mptr r n i j)
  | mp (x : Value) (r : Nat) (h1 : x.oneCell' = true) (hp : ∀ l, ρ r = some l → l.isBuf = false ∧ ∃ b, l.blk = some b ∧ x = .map (some b)) : RA h Im ρ x (.mp r)
  | clo (fn : Fn) (fs cs : Array Value) (lf lc : List AV) (hf : fs.size = lf.length) (hc : cs.size = lc.length) (hrf : ∀ (i : Nat) (v : Value) (x : AV), fs[i]? = some v → lf[i]? = some x → RA h Im ρ v x)
      (hrc : ∀ (i : Nat) (v : Value) (x : AV), cs[i]? = some v → lc[i]? = some x → RA h Im ρ v x) : RA h Im ρ (.func fn fs cs) (.clo fn lf lc)
  | ifc (t : TypeId) (x : Value) (y : AV) (hx : RA h Im ρ x y) : RA h Im ρ (.iface t x) (.ifc t y)
def OwnCells (h : Nat → Option Obj) (l : Loc) (n : Nat) (R : Nat → Value → Prop) : Prop :=
  ∃ b ms t, l.blk = some b ∧ h b = some (.cells ms t (0, 0)) ∧ ms.size = n ∧ ∀ i v, ms[i]? = some v → R i v
def KeyR (h : Nat → Option Obj) (Im : Nat → Prop) (agg : Bool) (v : Value) (x : List D) : Prop := match agg with
  | true => ∃ cs, v = .agg cs ∧ cs.size = x.length ∧ ∀ (j : Nat) (u : Value) (y : D), cs[j]? = some u → x[j]? = some y → RD h Im u y
  | false => ∃ y, x = [y] ∧ RD h Im v y
def StabI (R : Loc → (Nat → Option Obj) → (Nat → Prop) → Prop) (l : Loc) : Prop := ∀ (h h' : Nat → Option Obj) (Im Im' : Nat → Prop), (∀ b, Im b → Im' b) → (∀ b, Im b → ∀ cs t fz, h b = some (.cells cs t fz) ↔ h' b = some (.cells cs t fz)) → (∀ b ∈ l.fp, h' b = h b) → R l h Im → R l h' Im'
def RO (h : Nat → Option Obj) (Im : Nat → Prop) (ρ : Nat → Option Loc) (l : Loc) : AObj → Prop
  | .var cs => l.isBuf = false ∧ l.more = [] ∧ OwnCells h l cs.length fun i v => ∀ x, cs[i]? = some x → RA h Im ρ v x ∧ v.oneCell' = true
  | .dvar n cs => l.isBuf = false ∧ l.more = [] ∧ cs.length = n ∧ OwnCells h l n fun i v => ∀ x, cs[i]? = some x → RD h Im v x
  | .buf sz elem els => l.isBuf = true ∧ l.more = [] ∧ l.sz = sz ∧ l.len = els.length ∧ (∀ el ∈ els, el.length = sz) ∧
      ((l.blk = none ∧ els = [] ∧ l.cap = 0) ∨
       ∃ b ms, l.blk = some b ∧ h b = some (.cells ms elem (0, 0)) ∧ els.length ≤ l.cap ∧ l.cap ≤ maxLen ∧ ms.size = l.cap * sz ∧
        ∀ i j el x, els[i]? = some el → el[j]? = some x → ∃ v, ms[i * sz + j]? = some v ∧ RD h Im v x)
  | .map agg es => l.isBuf = false ∧ l.more = [] ∧ ∃ b ms k, l.blk = some b ∧ h b = some (.map ms k) ∧ ms.size = es.length ∧
      ∀ (i : Nat) (e : MapEntry) (x : List D × D), ms[i]? = some e → es[i]? = some x → RD h Im e.val x.2 ∧ KeyR h Im agg e.key x.1
  | .siter s pos => l.isBuf = false ∧ l.more = [] ∧ ∃ b, l.blk = some b ∧ h b = some (.stringIter s pos)
  | .extI R => l.isBuf = false ∧ StabI R l ∧ R l h Im
  | .tvar t cs => l.isBuf = false ∧ l.more = [] ∧ ∃ b ms, l.blk = some b ∧ h b = some (.cells ms t (0, 0)) ∧ ms.size = cs.length ∧ ∀ (i : Nat) (v : Value) (x : D), ms[i]? = some v → cs[i]? = some x → RD h Im v x
  | .ext R => l.isBuf = false ∧ (∃ b, l.blk = some b) ∧ (∀ h h' : Nat → Option Obj, (∀ b ∈ l.fp, h' b = h b) → R l h → R l h') ∧ R l h
  | .gst K h0 R => l.isBuf = false ∧ (∃ b, l.blk = some b) ∧ (∀ b, K b → Im b ∧ ∀ cs t fz, h0 b = some (.cells cs t fz) ↔ h b = some (.cells cs t fz)) ∧ (∀ h h' : Nat → Option Obj, (∀ b ∈ l.fp, h' b = h b) → R l h → R l h') ∧ R l h

  | .lbuf elem els x => l.isBuf = true ∧ l.more = [] ∧ l.sz = 1 ∧ l.len = els.length + 1 ∧ (∀ el ∈ els, el.length = 1) ∧
      ∃ b ms, l.blk = some b ∧ h b = some (.cells ms elem (0, 0)) ∧ els.length + 1 ≤ l.cap ∧ l.cap ≤ maxLen ∧ ms.size = l.cap ∧
        (∀ i j el y, els[i]? = some el → el[j]? = some y → ∃ v, ms[i * 1 + j]? = some v ∧ RD h Im v y) ∧ ∃ v, ms[els.length]? = some v ∧ RA h Im ρ v x ∧ v.oneCell' = true
def AV.ment (r : Nat) : AV → Bool
  | .ptr q _ | .msl q _ _ _ | .mptr q _ _ _ | .mp q => Nat.beq q r
  | .agg cs | .tup cs => mentL cs
  | .clo _ f c => mentL f || mentL c
  | .ifc _ x => x.ment r
  | _ => false
where
  mentL : List AV → Bool
  | [] => false
  | x :: xs => x.ment r || mentL xs
def AObj.ment (r : Nat) : AObj → Bool
  | .var cs => AV.ment.mentL r cs
  | .lbuf _ _ x => x.ment r
  | _ => false
theorem RD.one {h : Nat → Option Obj} {Im : Nat → Prop} {v : Value} {x : D} (H : RD h Im v x) : v.oneCell' = true := by
  cases H <;> first | assumption | rfl
theorem RD.mono {h h' : Nat → Option Obj} {Im Im' : Nat → Prop} (hI : ∀ b, Im b → Im' b) (hh : ∀ b, Im b → h' b = h b) {v : Value} {x : D} (H : RD h Im v x) : RD h' Im' v x := by
  induction H with
  | v x h1 => exact .v x h1
  | nil t sz a cap ht => exact .nil t sz a cap ht
  | sl t sz els b o cap f hs hb hle ht hc hr ih => exact .sl t sz els b o cap f hs (hI b hb) hle ht (fun i j el x h1 h2 => by rw [hh b hb]; exact hc i j el x h1 h2) ih
theorem AV.mentL_of {r : Nat} : ∀ {cs : List AV} {i : Nat} {x : AV}, cs[i]? = some x → x.ment r = true → AV.ment.mentL r cs = true
  | [], i, x, h, _ => by simp at h
  | y :: ys, 0, x, h, hx => by simp at h; subst h; simp [AV.ment.mentL, hx]
  | y :: ys, i + 1, x, h, hx => by
    have := AV.mentL_of (cs := ys) (i := i) (by simpa using h) hx
    simp [AV.ment.mentL, this]
def LocStep (l l' : Loc) : Prop := l' = l ∨ (l.isBuf = true ∧ l'.isBuf = true ∧ l.len < l'.len) ∨ (l.isBuf = false ∧ ∃ m, l' = { l with more := m })
theorem LocStep.trans {l l1 l2 : Loc} (h : LocStep l l1) (k : LocStep l1 l2) : LocStep l l2 := by
  rcases h with rfl | ⟨h1, h2, h3⟩ | ⟨h1, m, rfl⟩
  · exact k
  · rcases k with rfl | ⟨k1, k2, k3⟩ | ⟨k1, _⟩
    · exact .inr (.inl ⟨h1, h2, h3⟩)
    · exact .inr (.inl ⟨h1, k2, by omega⟩)
    · rw [h2] at k1; exact absurd k1 (by simp)
  · rcases k with rfl | ⟨k1, k2, k3⟩ | ⟨k1, m', rfl⟩
    · exact .inr (.inr ⟨h1, m, rfl⟩)
    · have k1 : l.isBuf = true := k1
      rw [h1] at k1; exact absurd k1 (by simp)
    · exact .inr (.inr ⟨h1, m', rfl⟩)
theorem RA.mono {h h' : Nat → Option Obj} {Im Im' : Nat → Prop} {ρ ρ' : Nat → Option Loc} (hI : ∀ b, Im b → Im' b) (hh : ∀ b, Im b → h' b = h b) {v : Value} {x : AV} (H : RA h Im ρ v x) :
    (∀ r, x.ment r = true → ∀ l', ρ' r = some l' → ∃ l, ρ r = some l ∧ LocStep l l') → RA h' Im' ρ' v x := by
  induction H with
  | junk x => exact fun _ => .junk x
  | d x y hd => exact fun _ => .d x y (hd.mono hI hh)
  | dagg cs l hl hr => exact fun _ => .dagg cs l hl fun i v x h1 h2 => (hr i v x h1 h2).mono hI hh
  | agg cs l hl hr ih => exact fun hm => .agg cs l hl fun i v x h1 h2 => ih i v x h1 h2 fun r hx => hm r (by simpa [AV.ment] using AV.mentL_of h2 hx)
  | tup cs l hl hr ih => exact fun hm => .tup cs l hl fun i v x h1 h2 => ih i v x h1 h2 fun r hx => hm r (by simpa [AV.ment] using AV.mentL_of h2 hx)
  | ptr x r off h0 hp =>
    intro hm
    refine .ptr x r off h0 fun l' hl' => ?_
    obtain ⟨l, hl, hst⟩ := hm r (by simp [AV.ment]) l' hl'
    obtain ⟨h1, h2⟩ := hp l hl
    rcases hst with rfl | ⟨h3, _⟩ | ⟨_, m, rfl⟩
    · exact ⟨h1, h2⟩
    · rw [h1] at h3; exact absurd h3 (by simp)
    · exact ⟨h1, h2⟩
  | ep b o cs f hb hc hr => exact fun _ => .ep b o cs f (hI b hb) (fun j x h1 => by rw [hh b hb]; exact hc j x h1) fun j x h1 => (hr j x h1).mono hI hh
  | msl x r n off len h0 hp =>
    intro hm
    refine .msl x r n off len h0 fun l' hl' => ?_
    obtain ⟨l, hl, hst⟩ := hm r (by simp [AV.ment]) l' hl'
    obtain ⟨h1, h2⟩ := hp l hl
    rcases hst with rfl | ⟨_, _, h3⟩ | ⟨_, m, rfl⟩
    · exact ⟨h1, h2⟩
    · exact ⟨by omega, fun e => by omega⟩
    · exact ⟨h1, h2⟩
  | mptr x r n i j h0 hp =>
    intro hm
    refine .mptr x r n i j h0 fun l' hl' => ?_
    obtain ⟨l, hl, hst⟩ := hm r (by simp [AV.ment]) l' hl'
    obtain ⟨h1, h2⟩ := hp l hl
    rcases hst with rfl | ⟨_, _, h3⟩ | ⟨_, m, rfl⟩
    · exact ⟨h1, h2⟩
    · exact ⟨by omega, fun e => by omega⟩
    · exact ⟨h1, h2⟩
  | mp x r h0 hp =>
    intro hm
    refine .mp x r h0 fun l' hl' => ?_
    obtain ⟨l, hl, hst⟩ := hm r (by simp [AV.ment]) l' hl'
    obtain ⟨h1, h2⟩ := hp l hl
    rcases hst with rfl | ⟨h3, _⟩ | ⟨_, m, rfl⟩
    · exact ⟨h1, h2⟩
    · rw [h1] at h3; exact absurd h3 (by simp)
    · exact ⟨h1, h2⟩
  | clo fn fs cs lf lc hf hc hrf hrc ihf ihc =>
    intro hm
    refine .clo fn fs cs lf lc hf hc (fun i v x h1 h2 => ihf i v x h1 h2 fun r hx => hm r ?_) (fun i v x h1 h2 => ihc i v x h1 h2 fun r hx => hm r ?_)
    · simp [AV.ment, AV.mentL_of h2 hx]
    · simp [AV.ment, AV.mentL_of h2 hx]
  | ifc t x y hx ih => exact fun hm => .ifc t x y (ih fun r hx => hm r (by simpa [AV.ment] using hx))
theorem OwnCells.mono {h h' : Nat → Option Obj} {l : Loc} {n : Nat} {R R' : Nat → Value → Prop} (hh : ∀ b ∈ l.fp, h' b = h b) (hR : ∀ i v, R i v → R' i v) (H : OwnCells h l n R) : OwnCells h' l n R' := by
  obtain ⟨b, ms, t, h1, h2, h3, h4⟩ := H
  exact ⟨b, ms, t, h1, by rw [hh b (by simp [Loc.fp, h1])]; exact h2, h3, fun i v hv => hR _ _ (h4 i v hv)⟩
theorem KeyR.mono {h h' : Nat → Option Obj} {Im Im' : Nat → Prop} (hI : ∀ b, Im b → Im' b) (hh : ∀ b, Im b → h' b = h b) {agg : Bool} {v : Value} {x : List D} (H : KeyR h Im agg v x) : KeyR h' Im' agg v x := by
  cases agg with
  | true => obtain ⟨cs, h1, h2, h3⟩ := H; exact ⟨cs, h1, h2, fun j u y e1 e2 => (h3 j u y e1 e2).mono hI hh⟩
  | false => obtain ⟨y, h1, h2⟩ := H; exact ⟨y, h1, h2.mono hI hh⟩
theorem RO.mono {h h' : Nat → Option Obj} {Im Im' : Nat → Prop} {ρ ρ' : Nat → Option Loc} {l : Loc} (hI : ∀ b, Im b → Im' b) (hh : ∀ b, Im b → h' b = h b) (hl : ∀ b ∈ l.fp, h' b = h b) {o : AObj}
    (hm : ∀ r, o.ment r = true → ∀ l', ρ' r = some l' → ∃ l, ρ r = some l ∧ LocStep l l') (H : RO h Im ρ l o) : RO h' Im' ρ' l o := by
  cases o with
  | var cs => exact ⟨H.1, H.2.1, H.2.2.mono hl fun i v hv x hx => ⟨(hv x hx).1.mono hI hh fun r hr => hm r (by simpa [AObj.ment] using AV.mentL_of hx hr), (hv x hx).2⟩⟩
  | dvar n cs => exact ⟨H.1, H.2.1, H.2.2.1, H.2.2.2.mono hl fun i v hv x hx => (hv x hx).mono hI hh⟩
  | buf sz elem els =>
    obtain ⟨h0, h1, h2, h3, h4, h5⟩ := H
    refine ⟨h0, h1, h2, h3, h4, ?_⟩
    rcases h5 with h5 | ⟨b, ms, g1, g2, g3, g4, g5, g6⟩
    · exact .inl h5
    · refine .inr ⟨b, ms, g1, by rw [hl b (by simp [Loc.fp, g1])]; exact g2, g3, g4, g5, fun i j el x e1 e2 => ?_⟩
      obtain ⟨v, k1, k2⟩ := g6 i j el x e1 e2
      exact ⟨v, k1, k2.mono hI hh⟩
  | lbuf elem els x =>
    obtain ⟨h0, h1, h2, h3, h4, b, ms, g1, g2, g3, g4, g5, g6, v, g7, g8, g9⟩ := H
    exact ⟨h0, h1, h2, h3, h4, b, ms, g1, by rw [hl b (by simp [Loc.fp, g1])]; exact g2, g3, g4, g5, fun i j el y e1 e2 => by
      obtain ⟨u, k1, k2⟩ := g6 i j el y e1 e2
      exact ⟨u, k1, k2.mono hI hh⟩, v, g7, g8.mono hI hh (fun r hr => hm r (by simpa [AObj.ment] using hr)), g9⟩
  | map agg es =>
    obtain ⟨h0, h1, b, ms, k, g1, g2, g3, g4⟩ := H
    refine ⟨h0, h1, b, ms, k, g1, by rw [hl b (by simp [Loc.fp, g1])]; exact g2, g3, fun i e x e1 e2 => ?_⟩
    obtain ⟨k1, k2⟩ := g4 i e x e1 e2
    exact ⟨k1.mono hI hh, k2.mono hI hh⟩
  | siter s pos =>
    obtain ⟨h0, h1, b, g1, g2⟩ := H
    exact ⟨h0, h1, b, g1, by rw [hl b (by simp [Loc.fp, g1])]; exact g2⟩
  | ext R => exact ⟨H.1, H.2.1, H.2.2.1, H.2.2.1 _ _ hl H.2.2.2⟩
  | extI R => exact ⟨H.1, H.2.1, H.2.1 _ _ _ _ hI (fun b hb cs t fz => by rw [hh b hb]) hl H.2.2⟩
  | gst K h0 R => exact ⟨H.1, H.2.1, fun b hb => ⟨hI b (H.2.2.1 b hb).1, fun cs t fz => by rw [hh b (H.2.2.1 b hb).1]; exact (H.2.2.1 b hb).2 cs t fz⟩, H.2.2.2.1, H.2.2.2.1 _ _ hl H.2.2.2.2⟩
  | tvar t cs =>
    obtain ⟨h0, h1, b, ms, g1, g2, g3, g4⟩ := H
    exact ⟨h0, h1, b, ms, g1, by rw [hl b (by simp [Loc.fp, g1])]; exact g2, g3, fun i v x e1 e2 => (g4 i v x e1 e2).mono hI hh⟩
end Go.Ax

namespace Go.Ax
def upd {α : Type} (f : Nat → α) (k : Nat) (v : α) : Nat → α := fun i => if i = k then v else f i
@[simp] theorem upd_same {α : Type} (f : Nat → α) (k : Nat) (v : α) : upd f k v k = v := by simp [upd]
theorem upd_ne {α : Type} (f : Nat → α) {k i : Nat} (v : α) (h : i ≠ k) : upd f k v i = f i := by simp [upd, h]
def GlOk (ng : Nat) (gl : List (Nat × List D)) (w : World) : Prop := ∀ p ∈ gl, p.1 < ng ∧ ∃ ms t fz, w.heap[p.1]? = some (.cells ms t fz) ∧ ∀ (j : Nat) (x : D), p.2[j]? = some x → ∃ v, ms[j]? = some v ∧ x = .v v ∧ v.oneCell' = true
structure Env where
  P : Program
  ng : Nat
  G : World → Prop
  gl : List (Nat × List D)
  glOk : ∀ w, G w → GlOk ng gl w
  Gst : ∀ w w' : World, w'.os = w.os → (∀ b, b < ng → w'.heap[b]? = w.heap[b]?) → G w → G w'
  mixed : P.follows .mixedOrders = true
structure Cx where
  w0 : World
  fp : Nat → Prop
  Im0 : Nat → Prop
  nt : Nat
  anc : List Nat
  ρ0 : Nat → Option Loc
  defs : List Deferred := []
  rnd : Option Nat := none
  marks : Bool := true
abbrev Cx.fence (c : Cx) : Fence := { Fence.wide with round := c.rnd }
def TOP : Nat := 77777777
abbrev hp (w : World) : Nat → Option Obj := fun b => w.heap[b]?
structure Cx.Ok (E : Env) (c : Cx) : Prop where
  im : ∀ b, c.Im0 b → b < c.w0.heap.size ∧ ¬ c.fp b
  gl : ∀ b, b < E.ng → c.Im0 b
  G : E.G c.w0
  top : TOP ∈ c.anc → c.rnd = none ∧ c.marks = true
def Marks (n0 : Nat) (mk : Bool) (Im : Nat → Prop) (h : Nat → Option Obj) (ds ds0 : List Deferred) : Prop :=
  ∃ ms : List Nat, ds = ms.map (fun D => { target := .collected D, args := #[] }) ++ ds0 ∧ (ms ≠ [] → mk = true) ∧ ms.Nodup ∧ ∀ D ∈ ms, n0 ≤ D ∧ Im D ∧ h D = some (.deferred (some []))
theorem Marks.none {n0 : Nat} {mk : Bool} {Im : Nat → Prop} {h : Nat → Option Obj} {ds : List Deferred} : Marks n0 mk Im h ds ds := ⟨[], rfl, by simp, by simp, by simp⟩
theorem Marks.mono {n0 : Nat} {mk : Bool} {Im Im' : Nat → Prop} {h h' : Nat → Option Obj} {ds ds0 : List Deferred} (H : Marks n0 mk Im h ds ds0) (hI : ∀ b, Im b → Im' b) (hh : ∀ b, Im b → h' b = h b) : Marks n0 mk Im' h' ds ds0 := by
  obtain ⟨ms, h1, h2, h3, h4⟩ := H
  exact ⟨ms, h1, h2, h3, fun D hD => ⟨(h4 D hD).1, hI D (h4 D hD).2.1, by rw [hh D (h4 D hD).2.1]; exact (h4 D hD).2.2⟩⟩
theorem Marks.only {n0 : Nat} {mk : Bool} {Im : Nat → Prop} {h : Nat → Option Obj} {ds ds0 : List Deferred} (H : Marks n0 mk Im h ds ds0) (hd : mk = false) : ds = ds0 := by
  obtain ⟨ms, h1, h2, _⟩ := H
  cases ms with
  | nil => exact h1
  | cons x r => exact absurd (h2 (by simp)) (by simp [hd])
structure Sim (c : Cx) (Im : Nat → Prop) (ρ : Nat → Option Loc) (F : Nat → AV) (H : Nat → Option AObj) (a : Act) (w : World) : Prop where
  defs : Marks c.w0.heap.size c.marks Im (hp w) a.defers c.defs
  nt : a.tmps.size = c.nt
  fr : ∀ t, t < c.nt → RA (hp w) Im ρ (a.tmps.getD t undef) (F t)
  obj : ∀ r o, H r = some o → ∃ l, ρ r = some l ∧ RO (hp w) Im ρ l o ∧ ∀ b ∈ l.fp, b < w.heap.size ∧ ¬ Im b ∧ (c.w0.heap.size ≤ b ∨ c.fp b)
  dis : ∀ r r' o o' l l', H r = some o → H r' = some o' → r ≠ r' → ρ r = some l → ρ r' = some l' → ∀ b ∈ l.fp, b ∉ l'.fp
  imn : ∀ b, Im b → b < w.heap.size ∧ (c.Im0 b ∨ c.w0.heap.size ≤ b ∨ c.fp b)
  im0 : ∀ b, c.Im0 b → Im b
  os : w.os = c.w0.os
  tape : w.tape = c.w0.tape
  output : w.output = c.w0.output
  size : c.w0.heap.size ≤ w.heap.size
  kept : ∀ b, b < c.w0.heap.size → ¬ c.fp b → w.heap[b]? = c.w0.heap[b]?
  anc : ∀ r ∈ c.anc, ∀ l', ρ r = some l' → ∃ l, c.ρ0 r = some l ∧ LocStep l l'
variable {c : Cx} {Im : Nat → Prop} {ρ : Nat → Option Loc} {F : Nat → AV} {H : Nat → Option AObj} {a : Act} {w : World}
structure Unm (c : Cx) (r : Nat) (F : Nat → AV) (H : Nat → Option AObj) : Prop where
  anc : r ∉ c.anc
  fr : ∀ t, (F t).ment r = false
  obj : ∀ q o, H q = some o → o.ment r = false
  none : H r = none
theorem getD_set (a : Act) (d t : Nat) (v : Value) (hd : d < a.tmps.size) : ((a.put (some d) v).tmps.getD t undef) = if t = d then v else a.tmps.getD t undef := by
  simp only [Act.put, Array.getD_eq_getD_getElem?, Array.getElem?_setIfInBounds]
  by_cases h : d = t
  · subst h; simp [hd]
  · simp [h, Ne.symm h]
theorem Sim.put (S : Sim c Im ρ F H a w) {d : Nat} {v : Value} {x : AV} (hd : d < c.nt) (hx : RA (hp w) Im ρ v x) : Sim c Im ρ (upd F d x) H (a.put (some d) v) w where
  defs := S.defs
  nt := by simp [Act.put, S.nt]
  fr := fun t ht => by
    rw [getD_set a d t v (by rw [S.nt]; exact hd)]
    by_cases h : t = d
    · subst h; simpa using hx
    · rw [if_neg h, upd_ne _ _ h]; exact S.fr t ht
  obj := S.obj
  dis := S.dis
  imn := S.imn
  im0 := S.im0
  os := S.os
  tape := S.tape
  output := S.output
  size := S.size
  kept := S.kept
  anc := S.anc
theorem Sim.noMark (S : Sim c Im ρ F H a w) (h : a.defers = c.defs) : Sim { c with marks := false } Im ρ F H a w where
  defs := by rw [h]; exact .none
  nt := S.nt
  fr := S.fr
  obj := S.obj
  dis := S.dis
  imn := S.imn
  im0 := S.im0
  os := S.os
  tape := S.tape
  output := S.output
  size := S.size
  kept := S.kept
  anc := S.anc
theorem Sim.world (S : Sim c Im ρ F H a w) {w' : World} (hh : w'.heap = w.heap) (ho : w'.os = w.os) (ht : w'.tape = w.tape) (hu : w'.output = w.output) : Sim c Im ρ F H a w' where
  defs := by rw [show hp w' = hp w from by funext b; simp only [hp, hh]]; exact S.defs
  nt := S.nt
  fr := by rw [show hp w' = hp w from by funext b; simp only [hp, hh]]; exact S.fr
  obj := by rw [show hp w' = hp w from by funext b; simp only [hp, hh], hh]; exact S.obj
  dis := S.dis
  imn := by simpa only [hh] using S.imn
  im0 := S.im0
  os := ho.trans S.os
  tape := ht.trans S.tape
  output := hu.trans S.output
  size := by rw [hh]; exact S.size
  kept := by simpa only [hh] using S.kept
  anc := S.anc
theorem Sim.weak (S : Sim c Im ρ F H a w) {F' : Nat → AV} {H' : Nat → Option AObj} (hF : ∀ t, F' t = .junk ∨ F' t = F t) (hH : ∀ r o, H' r = some o → H r = some o) : Sim c Im ρ F' H' a w where
  defs := S.defs
  nt := S.nt
  fr := fun t ht => by rcases hF t with h | h <;> rw [h]; exact .junk _; exact S.fr t ht
  obj := fun r o h => S.obj r o (hH r o h)
  dis := fun r r' o o' l l' h h' => S.dis r r' o o' l l' (hH r o h) (hH r' o' h')
  imn := S.imn
  im0 := S.im0
  os := S.os
  tape := S.tape
  output := S.output
  size := S.size
  kept := S.kept
  anc := S.anc
structure Grows (w w' : World) (T : Nat → Prop) : Prop where
  size : w.heap.size ≤ w'.heap.size
  os : w'.os = w.os
  tape : w'.tape = w.tape
  output : w'.output = w.output
  block : ∀ b, b < w.heap.size → ¬ T b → w'.heap[b]? = w.heap[b]?
theorem Grows.refl (w : World) (T : Nat → Prop) : Grows w w T := ⟨Nat.le_refl _, rfl, rfl, rfl, fun _ _ _ => rfl⟩
theorem Grows.alloc (w : World) (o : Obj) : Grows w (w.alloc o) fun _ => False := ⟨by simp, rfl, rfl, rfl, fun b hb _ => heap_alloc_old w o b hb⟩
theorem Grows.drew (w : World) (T : Nat → Prop) : Grows w w.drew T := ⟨Nat.le_refl _, rfl, rfl, rfl, fun _ _ _ => rfl⟩
theorem Sim.new (S : Sim c Im ρ F H a w) {w' : World} {r : Nat} {l : Loc} {o : AObj} (hg : Grows w w' fun _ => False) (hu : Unm c r F H) (hl : ∀ b ∈ l.fp, w.heap.size ≤ b ∧ b < w'.heap.size)
    (ho : RO (hp w') Im (upd ρ r (some l)) l o) : Sim c Im (upd ρ r (some l)) F (upd H r (some o)) a w' := by
  have hI : ∀ b, Im b → hp w' b = hp w b := fun b hb => hg.block b (S.imn b hb).1 (fun h => h)
  refine { defs := S.defs.mono (fun _ h => h) hI, nt := S.nt, fr := fun t ht => ?_, obj := fun q o' hq => ?_, dis := fun q q' o1 o2 l1 l2 h1 h2 hne e1 e2 b hb hb' => ?_, imn := fun b hb => ⟨Nat.lt_of_lt_of_le (S.imn b hb).1 hg.size, (S.imn b hb).2⟩, im0 := S.im0, os := hg.os.trans S.os, tape := hg.tape.trans S.tape, output := hg.output.trans S.output, size := Nat.le_trans S.size hg.size, kept := fun b hb hf => (hg.block b (Nat.lt_of_lt_of_le hb S.size) (fun h => h)).trans (S.kept b hb hf), anc := fun q hq l' hl' => S.anc q hq l' (by rw [upd_ne _ _ (fun e => by subst e; exact absurd hq hu.anc)] at hl'; exact hl') }
  · refine (S.fr t ht).mono (fun _ h => h) hI fun q hq l' hl' => ?_
    have hne : q ≠ r := fun e => by subst e; rw [hu.fr t] at hq; exact absurd hq (by simp)
    rw [upd_ne _ _ hne] at hl'
    exact ⟨l', hl', .inl rfl⟩
  · by_cases he : q = r
    · subst he
      rw [upd_same] at hq
      injection hq with hq
      subst hq
      refine ⟨l, upd_same .., ho, fun b hb => ?_⟩
      have h1 := hl b hb
      have h2 := S.size
      exact ⟨h1.2, fun h => by have := (S.imn b h).1; omega, .inl (by omega)⟩
    · rw [upd_ne _ _ he] at hq
      obtain ⟨l1, h1, h2, h3⟩ := S.obj q o' hq
      refine ⟨l1, by rw [upd_ne _ _ he]; exact h1, h2.mono (fun _ h => h) hI (fun b hb => hg.block b (h3 b hb).1 (fun h => h)) (fun q' hq' l' hl' => ?_), fun b hb => ⟨Nat.lt_of_lt_of_le (h3 b hb).1 hg.size, (h3 b hb).2⟩⟩
      have hne : q' ≠ r := fun e => by subst e; rw [hu.obj q o' hq] at hq'; exact absurd hq' (by simp)
      rw [upd_ne _ _ hne] at hl'
      exact ⟨l', hl', .inl rfl⟩
  · by_cases he : q = r
    · subst he
      rw [upd_same] at e1
      injection e1 with e1
      subst e1
      rw [upd_ne _ _ (Ne.symm hne)] at h2 e2
      obtain ⟨l3, h3, _, h4⟩ := S.obj q' o2 h2
      rw [h3] at e2; injection e2 with e2; subst e2
      have := (h4 b hb').1
      have := (hl b hb).1
      omega
    · rw [upd_ne _ _ he] at h1 e1
      by_cases he' : q' = r
      · subst he'
        rw [upd_same] at e2
        injection e2 with e2
        subst e2
        obtain ⟨l3, h3, _, h4⟩ := S.obj q o1 h1
        rw [h3] at e1; injection e1 with e1; subst e1
        have := (h4 b hb).1
        have := (hl b hb').1
        omega
      · rw [upd_ne _ _ he'] at h2 e2
        exact S.dis q q' o1 o2 l1 l2 h1 h2 hne e1 e2 b hb hb'
theorem Sim.chg (S : Sim c Im ρ F H a w) {w' : World} {r : Nat} {l l' : Loc} {o o' : AObj} (hr : H r = some o) (hl : ρ r = some l) (hg : Grows w w' fun b => b ∈ l.fp) (hst : LocStep l l')
    (hl' : ∀ b ∈ l'.fp, b ∈ l.fp ∨ (w.heap.size ≤ b ∧ b < w'.heap.size)) (ho : RO (hp w') Im (upd ρ r (some l')) l' o') : Sim c Im (upd ρ r (some l')) F (upd H r (some o')) a w' := by
  obtain ⟨l0, h0, _, hown⟩ := S.obj r o hr
  rw [hl] at h0; injection h0 with h0; subst h0
  have hI : ∀ b, Im b → hp w' b = hp w b := fun b hb => hg.block b (S.imn b hb).1 fun h => (hown b h).2.1 hb
  have hρ : ∀ q l1, upd ρ r (some l') q = some l1 → ∃ l2, ρ q = some l2 ∧ LocStep l2 l1 := fun q l1 h => by
    by_cases he : q = r
    · subst he; rw [upd_same] at h; injection h with h; subst h; exact ⟨l, hl, hst⟩
    · rw [upd_ne _ _ he] at h; exact ⟨l1, h, .inl rfl⟩
  have hfp : ∀ b ∈ l'.fp, b < w'.heap.size ∧ ¬ Im b ∧ (c.w0.heap.size ≤ b ∨ c.fp b) := fun b hb => by
    rcases hl' b hb with h | h
    · exact ⟨Nat.lt_of_lt_of_le (hown b h).1 hg.size, (hown b h).2⟩
    · have := S.size
      exact ⟨h.2, fun hi => by have := (S.imn b hi).1; omega, .inl (by omega)⟩
  refine { defs := S.defs.mono (fun _ h => h) hI, nt := S.nt, fr := fun t ht => ?_, obj := fun q o1 hq => ?_, dis := fun q q' o1 o2 l1 l2 h1 h2 hne e1 e2 b hb hb' => ?_, imn := fun b hb => ⟨Nat.lt_of_lt_of_le (S.imn b hb).1 hg.size, (S.imn b hb).2⟩, im0 := S.im0, os := hg.os.trans S.os, tape := hg.tape.trans S.tape, output := hg.output.trans S.output, size := Nat.le_trans S.size hg.size, kept := fun b hb hf => ?_, anc := fun q hq l1 h => let ⟨l2, h2, h3⟩ := hρ q l1 h; let ⟨l3, h4, h5⟩ := S.anc q hq l2 h2; ⟨l3, h4, h5.trans h3⟩ }
  · exact (S.fr t ht).mono (fun _ h => h) hI fun q _ l1 h => hρ q l1 h
  · by_cases he : q = r
    · subst he
      rw [upd_same] at hq; injection hq with hq; subst hq
      exact ⟨l', upd_same .., ho, hfp⟩
    · rw [upd_ne _ _ he] at hq
      obtain ⟨l1, h1, h2, h3⟩ := S.obj q o1 hq
      exact ⟨l1, by rw [upd_ne _ _ he]; exact h1, h2.mono (fun _ h => h) hI (fun b hb => hg.block b (h3 b hb).1 fun h => S.dis q r o1 o l1 l hq hr he h1 hl b hb h) fun q' _ l2 h => hρ q' l2 h,
        fun b hb => ⟨Nat.lt_of_lt_of_le (h3 b hb).1 hg.size, (h3 b hb).2⟩⟩
  · have key : ∀ q o1 l1, H q = some o1 → ρ q = some l1 → q ≠ r → ∀ b ∈ l1.fp, b ∉ l'.fp := fun q o1 l1 hq e hne b hb hb' => by
      obtain ⟨l3, h3, _, h4⟩ := S.obj q o1 hq
      rw [e] at h3; injection h3 with h3; subst h3
      rcases hl' b hb' with h | h
      · exact S.dis q r o1 o l1 l hq hr hne e hl b hb h
      · have := (h4 b hb).1; omega
    by_cases he : q = r
    · subst he
      rw [upd_same] at e1; injection e1 with e1; subst e1
      rw [upd_ne _ _ (Ne.symm hne)] at h2 e2
      exact key q' o2 l2 h2 e2 (Ne.symm hne) b hb' hb
    · rw [upd_ne _ _ he] at h1 e1
      by_cases he' : q' = r
      · subst he'
        rw [upd_same] at e2; injection e2 with e2; subst e2
        exact key q o1 l1 h1 e1 hne b hb hb'
      · rw [upd_ne _ _ he'] at h2 e2
        exact S.dis q q' o1 o2 l1 l2 h1 h2 hne e1 e2 b hb hb'
  · by_cases hbl : b ∈ l.fp
    · rcases (hown b hbl).2.2 with h | h
      · omega
      · exact absurd h hf
    · exact (hg.block b (Nat.lt_of_lt_of_le hb S.size) hbl).trans (S.kept b hb hf)
theorem Sim.freeze (S : Sim c Im ρ F H a w) {r : Nat} {l : Loc} {o : AObj} (hr : H r = some o) (hl : ρ r = some l) : Sim c (fun b => Im b ∨ b ∈ l.fp) (upd ρ r none) F (upd H r none) a w := by
  obtain ⟨l0, h0, _, hown⟩ := S.obj r o hr
  rw [hl] at h0; injection h0 with h0; subst h0
  have hρ : ∀ q l1, upd ρ r none q = some l1 → ∃ l2, ρ q = some l2 ∧ LocStep l2 l1 := fun q l1 h => by
    by_cases he : q = r
    · subst he; rw [upd_same] at h; exact absurd h (by simp)
    · rw [upd_ne _ _ he] at h; exact ⟨l1, h, .inl rfl⟩
  have hH : ∀ q o1, upd H r none q = some o1 → q ≠ r ∧ H q = some o1 := fun q o1 h => by
    by_cases he : q = r
    · subst he; rw [upd_same] at h; exact absurd h (by simp)
    · rw [upd_ne _ _ he] at h; exact ⟨he, h⟩
  refine { defs := S.defs.mono (fun _ h => .inl h) (fun _ _ => rfl), nt := S.nt, fr := fun t ht => ?_, obj := fun q o1 hq => ?_, dis := fun q q' o1 o2 l1 l2 h1 h2 hne e1 e2 b hb hb' => ?_, imn := fun b hb => ?_, im0 := fun b hb => .inl (S.im0 b hb), os := S.os, tape := S.tape, output := S.output, size := S.size, kept := S.kept, anc := fun q hq l1 h => let ⟨l2, h2, h3⟩ := hρ q l1 h; let ⟨l3, h4, h5⟩ := S.anc q hq l2 h2; ⟨l3, h4, h5.trans h3⟩ }
  · exact (S.fr t ht).mono (fun _ h => .inl h) (fun _ _ => rfl) fun q _ l1 h => hρ q l1 h
  · obtain ⟨he, hq⟩ := hH q o1 hq
    obtain ⟨l1, h1, h2, h3⟩ := S.obj q o1 hq
    refine ⟨l1, by rw [upd_ne _ _ he]; exact h1, h2.mono (fun _ h => .inl h) (fun _ _ => rfl) (fun _ _ => rfl) (fun q' _ l2 h => hρ q' l2 h), fun b hb => ⟨(h3 b hb).1, fun h => ?_, (h3 b hb).2.2⟩⟩
    rcases h with h | h
    · exact (h3 b hb).2.1 h
    · exact S.dis q r o1 o l1 l hq hr he h1 hl b hb h
  · obtain ⟨he, h1⟩ := hH q o1 h1
    obtain ⟨he', h2⟩ := hH q' o2 h2
    rw [upd_ne _ _ he] at e1
    rw [upd_ne _ _ he'] at e2
    exact S.dis q q' o1 o2 l1 l2 h1 h2 hne e1 e2 b hb hb'
  · rcases hb with hb | hb
    · exact S.imn b hb
    · exact ⟨(hown b hb).1, .inr (hown b hb).2.2⟩
theorem Sim.born (S : Sim c Im ρ F H a w) {w' : World} {B : Nat → Prop} (hg : Grows w w' fun _ => False) (hB : ∀ b, B b → w.heap.size ≤ b ∧ b < w'.heap.size) : Sim c (fun b => Im b ∨ B b) ρ F H a w' := by
  have hI : ∀ b, Im b → hp w' b = hp w b := fun b hb => hg.block b (S.imn b hb).1 (fun h => h)
  have hρ : ∀ q l1, ρ q = some l1 → ∃ l2, ρ q = some l2 ∧ LocStep l2 l1 := fun q l1 h => ⟨l1, h, .inl rfl⟩
  refine { defs := S.defs.mono (fun _ h => .inl h) hI, nt := S.nt, fr := fun t ht => (S.fr t ht).mono (fun _ h => .inl h) hI fun q _ l1 h => hρ q l1 h, obj := fun q o1 hq => ?_, dis := S.dis, imn := fun b hb => ?_, im0 := fun b hb => .inl (S.im0 b hb), os := hg.os.trans S.os, tape := hg.tape.trans S.tape, output := hg.output.trans S.output, size := Nat.le_trans S.size hg.size, kept := fun b hb hf => (hg.block b (Nat.lt_of_lt_of_le hb S.size) (fun h => h)).trans (S.kept b hb hf), anc := S.anc }
  · obtain ⟨l1, h1, h2, h3⟩ := S.obj q o1 hq
    refine ⟨l1, h1, h2.mono (fun _ h => .inl h) hI (fun b hb => hg.block b (h3 b hb).1 (fun h => h)) (fun q' _ l2 h => hρ q' l2 h), fun b hb => ⟨Nat.lt_of_lt_of_le (h3 b hb).1 hg.size, fun h => ?_, (h3 b hb).2.2⟩⟩
    rcases h with h | h
    · exact (h3 b hb).2.1 h
    · have := (hB b h).1; have := (h3 b hb).1; omega
  · rcases hb with hb | hb
    · exact ⟨Nat.lt_of_lt_of_le (S.imn b hb).1 hg.size, (S.imn b hb).2⟩
    · have := hB b hb; have := S.size
      exact ⟨by omega, .inr (.inl (by omega))⟩
end Go.Ax

namespace Go.Ax
def lk (t : Nat) : List (Nat × AV) → AV
  | [] => .junk
  | (k, v) :: r => match Nat.beq k t with
    | true => v
    | false => lk t r
def lkH (t : Nat) : List (Nat × Option AObj) → Option AObj
  | [] => none
  | (k, v) :: r => match Nat.beq k t with
    | true => v
    | false => lkH t r
structure St where
  f : List (Nat × AV)
  h : List (Nat × Option AObj)
abbrev St.F (s : St) : Nat → AV := fun t => lk t s.f
abbrev St.H (s : St) : Nat → Option AObj := fun t => lkH t s.h
theorem lk_cons (k : Nat) (v : AV) (r : List (Nat × AV)) : (fun t => lk t ((k, v) :: r)) = upd (fun t => lk t r) k v := by
  funext t
  by_cases h : t = k
  · subst h; simp [lk, upd]
  · have : Nat.beq k t = false := by
      cases hb : Nat.beq k t with
      | false => rfl
      | true => exact absurd (Nat.eq_of_beq_eq_true hb).symm h
    simp [lk, upd, h, this]
theorem lkH_cons (k : Nat) (v : Option AObj) (r : List (Nat × Option AObj)) : (fun t => lkH t ((k, v) :: r)) = upd (fun t => lkH t r) k v := by
  funext t
  by_cases h : t = k
  · subst h; simp [lkH, upd]
  · have : Nat.beq k t = false := by
      cases hb : Nat.beq k t with
      | false => rfl
      | true => exact absurd (Nat.eq_of_beq_eq_true hb).symm h
    simp [lkH, upd, h, this]
def LeF : List (Nat × AV) → List (Nat × AV) → Prop
  | [], _ => True
  | (t, v) :: r, f => lk t f = v ∧ LeF r f
def LeH : List (Nat × Option AObj) → List (Nat × Option AObj) → Prop
  | [], _ => True
  | (t, v) :: r, f => (∀ o, v = some o → lkH t f = some o) ∧ LeH r f
def St.Le (s' s : St) : Prop := LeF s'.f s.f ∧ LeH s'.h s.h
theorem LeF.at : ∀ {f' f : List (Nat × AV)}, LeF f' f → ∀ t, lk t f' = .junk ∨ lk t f' = lk t f
  | [], _, _, t => .inl rfl
  | (k, v) :: r, f, h, t => by
    by_cases e : Nat.beq k t = true
    · have := Nat.eq_of_beq_eq_true e; subst this
      right; simp only [lk, e]; exact h.1.symm
    · have : Nat.beq k t = false := Bool.eq_false_iff.2 e
      simp only [lk, this]; exact LeF.at h.2 t
theorem LeH.at : ∀ {f' f : List (Nat × Option AObj)}, LeH f' f → ∀ t o, lkH t f' = some o → lkH t f = some o
  | [], _, _, t, o, h => by simp [lkH] at h
  | (k, v) :: r, f, h, t, o, ho => by
    by_cases e : Nat.beq k t = true
    · have := Nat.eq_of_beq_eq_true e; subst this
      simp only [lkH, e] at ho; exact h.1 o ho
    · have : Nat.beq k t = false := Bool.eq_false_iff.2 e
      simp only [lkH, this] at ho; exact LeH.at h.2 t o ho
abbrev APost := Exit → St → Prop
def Lift (c : Cx) (Q : APost) : Exit → Act → World → Prop := fun e a w => e ≠ .outgrown ∧ ∃ Im ρ s, Sim c Im ρ s.F s.H a w ∧ Q e s
structure Kn where
  nt : Nat
  anc : List Nat
def AWp (E : Env) (k : Kn) (code : Code) (Q : APost) (s : St) : Prop := ∀ c : Cx, c.Ok E → c.nt = k.nt → c.anc = k.anc → ∀ Im ρ a w, Sim c Im ρ s.F s.H a w → code.wpIn c.fence 0 E.P (Lift c Q) a w
def thenP (K : St → Prop) (Q : APost) : APost
  | .normal, s => K s
  | e, s => Q e s
def blockP (id : Nat) (Q : APost) : APost
  | .exit i, s => match Nat.beq i id with
    | true => Q .normal s
    | false => Q (.exit i) s
  | e, s => Q e s
variable {E : Env} {k : Kn} {c : Cx} {Q : APost} {s : St}
theorem AWp.mono {code : Code} {Q' : APost} (h : AWp E k code Q s) (hq : ∀ e s, Q e s → Q' e s) : AWp E k code Q' s := fun c ok e1 e2 Im ρ a w S =>
  wpIn_mono (h c ok e1 e2 Im ρ a w S) fun e _ _ ⟨h1, Im, ρ, s, S, hQ⟩ => ⟨h1, Im, ρ, s, S, hq e s hQ⟩
theorem AWp.skip (h : Q .normal s) : AWp E k .skip Q s := fun _ _ _ _ Im ρ a w S => wpIn_skip ⟨by simp, Im, ρ, s, S, h⟩
theorem AWp.exit {id : Nat} (h : Q (.exit id) s) : AWp E k (.exit id) Q s := fun _ _ _ _ Im ρ a w S => wpIn_exit ⟨by simp, Im, ρ, s, S, h⟩
theorem AWp.ret (h : Q .ret s) : AWp E k .ret Q s := fun _ _ _ _ Im ρ a w S => wpIn_ret ⟨by simp, Im, ρ, s, S, h⟩
theorem AWp.seq {x y : Code} (h : AWp E k x (thenP (AWp E k y Q) Q) s) : AWp E k (.seq x y) Q s := fun c ok e1 e2 Im ρ a w S =>
  wpIn_seq (wpIn_mono (h c ok e1 e2 Im ρ a w S) fun e a w ⟨h1, Im, ρ, s, S, hQ⟩ => by
    cases e with
    | normal => exact hQ c ok e1 e2 Im ρ a w S
    | outgrown => exact absurd rfl h1
    | exit id => exact ⟨h1, Im, ρ, s, S, hQ⟩
    | goto l => exact ⟨h1, Im, ρ, s, S, hQ⟩
    | ret => exact ⟨h1, Im, ρ, s, S, hQ⟩
    | panic ch => exact ⟨h1, Im, ρ, s, S, hQ⟩)
theorem AWp.block {id : Nat} {x : Code} (h : AWp E k x (blockP id Q) s) : AWp E k (.block id x) Q s := fun c ok e1 e2 Im ρ a w S =>
  wpIn_block (wpIn_mono (h c ok e1 e2 Im ρ a w S) fun e a w ⟨h1, Im, ρ, s, S, hQ⟩ => by
    cases e with
    | normal => exact ⟨h1, Im, ρ, s, S, hQ⟩
    | outgrown => exact absurd rfl h1
    | exit i =>
      simp only [Exit.inBlock]
      by_cases e : i = id
      · subst e
        rw [if_pos rfl]
        have : Nat.beq i i = true := by simp
        simp only [blockP, this] at hQ
        exact ⟨by simp, Im, ρ, s, S, hQ⟩
      · rw [if_neg e]
        have : Nat.beq i id = false := by
          cases hb : Nat.beq i id with
          | false => rfl
          | true => exact absurd (Nat.eq_of_beq_eq_true hb) e
        simp only [blockP, this] at hQ
        exact ⟨by simp, Im, ρ, s, S, hQ⟩
    | goto l => exact ⟨h1, Im, ρ, s, S, hQ⟩
    | ret => exact ⟨h1, Im, ρ, s, S, hQ⟩
    | panic ch => exact ⟨h1, Im, ρ, s, S, hQ⟩)
theorem AWp.weak {code : Code} {s' : St} (hl : s'.Le s) (h : AWp E k code Q s') : AWp E k code Q s := fun c ok e1 e2 Im ρ a w S =>
  h c ok e1 e2 Im ρ a w (S.weak (fun t => LeF.at hl.1 t) (fun r o => LeH.at hl.2 r o))
theorem RD.bool {h : Nat → Option Obj} {Im : Nat → Prop} {v x : Value} (H : RD h Im v (.v x)) : v = x := by cases H; rfl
theorem RA.v {h : Nat → Option Obj} {Im : Nat → Prop} {ρ : Nat → Option Loc} {v x : Value} (H : RA h Im ρ v (.d (.v x))) : v = x := by
  cases H with | d _ _ hd => exact hd.bool
def evO (s : St) : Operand → AV
  | .tmp t => lk t s.f
  | .const v => .d (.v v)
  | .func f => .clo (.func f) [] []
  | .global _ => .junk
def okO : Operand → Bool
  | .const v => v.oneCell'
  | _ => true
theorem Sim.ev {Im : Nat → Prop} {ρ : Nat → Option Loc} {a : Act} {w : World} {F : Nat → AV} {H : Nat → Option AObj} (S : Sim c Im ρ F H a w) {x : Operand} (hs : ∀ t, x = .tmp t → t < c.nt ∧ lk t s.f = F t) (hx : okO x = true) : RA (hp w) Im ρ (a.eval x) (evO s x) := by
  cases x with
  | tmp t =>
    obtain ⟨h1, h2⟩ := hs t rfl
    simp only [evO, h2]; exact S.fr t h1
  | const v => exact .d _ _ (.v v hx)
  | func f => exact .clo _ _ _ _ _ rfl rfl (by simp) (by simp)
  | global g => exact .junk _
def inN (n : Nat) : Operand → Bool
  | .tmp t => Nat.blt t n
  | x => okO x
theorem AWp.cond {t : Nat} {x y : Code} {b : Bool} (ht : t < k.nt) (hb : lk t s.f = .d (.v (.bool b))) (h1 : b = true → AWp E k x Q s) (h2 : b = false → AWp E k y Q s) : AWp E k (.cond (.tmp t) x y) Q s := fun c ok e1 e2 Im ρ a w S => by
  have hv : a.eval (.tmp t) = .bool b := by
    have := S.fr t (e1 ▸ ht)
    simp only [St.F] at this
    rw [hb] at this
    exact this.v
  cases b with
  | true => exact wpIn_cond_true hv (h1 rfl c ok e1 e2 Im ρ a w S)
  | false => exact wpIn_cond_false hv (h2 rfl c ok e1 e2 Im ρ a w S)
theorem least {p : Nat → Prop} (h : ∃ n, p n) : ∃ n, p n ∧ ∀ m, p m → n ≤ m := by
  obtain ⟨n, hn⟩ := h
  induction n using Nat.strongRecOn with
  | _ n ih =>
    by_cases hx : ∃ m, m < n ∧ p m
    · obtain ⟨m, hm, hp⟩ := hx; exact ih m hm hp
    · exact ⟨n, hn, fun m hp => Nat.le_of_not_lt fun hlt => hx ⟨m, hlt, hp⟩⟩
theorem AWp.loop {σ : Type} {body : Code} (st : σ → St) (μ : σ → Nat) (s0 : σ) (h0 : (st s0).Le s)
    (round : ∀ x, AWp E k body (thenP (fun s' => ∃ x', μ x' < μ x ∧ (st x').Le s') Q) (st x)) : AWp E k (.loop body) Q s := fun c ok e1 e2 Im ρ a w S => by
  classical
  let good : Act → World → σ → Prop := fun a w x => ∃ Im ρ, Sim c Im ρ (st x).F (st x).H a w
  let m : Act → World → Nat := fun a w => if h : ∃ n x, good a w x ∧ μ x = n then Classical.choose (least h) else 0
  refine wpIn_loop (fun a w => ∃ x, good a w x) m ⟨s0, Im, ρ, S.weak (fun t => LeF.at h0.1 t) (fun r o => LeH.at h0.2 r o)⟩ ?_
  intro a w hI
  have hex : ∃ n x, good a w x ∧ μ x = n := let ⟨x, hx⟩ := hI; ⟨μ x, x, hx, rfl⟩
  have hm : m a w = Classical.choose (least hex) := dif_pos hex
  obtain ⟨x, ⟨Im, ρ, S⟩, hx⟩ := (Classical.choose_spec (least hex)).1
  refine wpIn_mono (round x c ok e1 e2 Im ρ a w S) fun e a' w' ⟨h1, Im', ρ', s', S', hQ⟩ => ?_
  cases e with
  | normal =>
    obtain ⟨x', hlt, hle⟩ := hQ
    have hg : good a' w' x' := ⟨Im', ρ', S'.weak (fun t => LeF.at hle.1 t) (fun r o => LeH.at hle.2 r o)⟩
    refine ⟨⟨x', hg⟩, ?_⟩
    have hex' : ∃ n x, good a' w' x ∧ μ x = n := ⟨μ x', x', hg, rfl⟩
    have h2 : m a' w' = Classical.choose (least hex') := dif_pos hex'
    rw [h2, hm, ← hx]
    exact Nat.lt_of_le_of_lt ((Classical.choose_spec (least hex')).2 _ ⟨x', hg, rfl⟩) hlt
  | outgrown => exact absurd rfl h1
  | exit id => exact ⟨h1, Im', ρ', s', S', hQ⟩
  | goto l => exact ⟨h1, Im', ρ', s', S', hQ⟩
  | ret => exact ⟨h1, Im', ρ', s', S', hQ⟩
  | panic ch => exact ⟨h1, Im', ρ', s', S', hQ⟩
end Go.Ax

namespace Go.Ax
abbrev HL := List (Nat × Option AObj)
inductive AOut where
  | ret (res : AV) (h : HL)
  | pan (chain : List PanicEntry) (h : HL)
def TIn (ρ : Nat → Option Loc) (hin : HL) (b : Nat) : Prop := ∃ r o l, lkH r hin = some o ∧ ρ r = some l ∧ b ∈ l.fp
structure HRel (w : World) (Im : Nat → Prop) (ρ : Nat → Option Loc) (h : HL) (A : Nat → Prop) : Prop where
  obj : ∀ r o, lkH r h = some o → ∃ l, ρ r = some l ∧ RO (hp w) Im ρ l o ∧ ∀ b ∈ l.fp, b < w.heap.size ∧ ¬ Im b ∧ A b
  dis : ∀ r r' o o' l l', lkH r h = some o → lkH r' h = some o' → r ≠ r' → ρ r = some l → ρ r' = some l' → ∀ b ∈ l.fp, b ∉ l'.fp
def Closed (ho : HL) (x : AV) : Prop := ∀ r, x.ment r = true → (lkH r ho).isSome = true
def ClosedO (ho : HL) (x : AObj) : Prop := ∀ r, x.ment r = true → (lkH r ho).isSome = true
structure After (w : World) (Im : Nat → Prop) (ρ : Nat → Option Loc) (hin : HL) (w' : World) (Im' : Nat → Prop) (ρ' : Nat → Option Loc) (ho : HL) : Prop where
  grows : Grows w w' (TIn ρ hin)
  im : ∀ b, Im b → Im' b
  imn : ∀ b, Im' b → b < w'.heap.size ∧ (Im b ∨ w.heap.size ≤ b ∨ TIn ρ hin b)
  rel : HRel w' Im' ρ' ho (fun b => w.heap.size ≤ b ∨ TIn ρ hin b)
  anc : ∀ r o, lkH r hin = some o → ∀ l', ρ' r = some l' → ∃ l, ρ r = some l ∧ LocStep l l'
  cl : ∀ r o, lkH r ho = some o → ClosedO ho o
def Ends (post : AOut → Prop) (w : World) (Im : Nat → Prop) (ρ : Nat → Option Loc) (hin : HL) : Ending → World → Prop
  | .returned v, w' => ∃ res ho Im' ρ', post (.ret res ho) ∧ RA (hp w') Im' ρ' v res ∧ Closed ho res ∧ After w Im ρ hin w' Im' ρ' ho
  | .panicked ch, w' => ∃ ho Im' ρ', post (.pan ch ho) ∧ After w Im ρ hin w' Im' ρ' ho
  | .outgrown, _ => False
def Bodied (P : Program) (f : FuncId) : Prop := ∃ fn, P.funcs[f]? = some fn ∧ fn.body.isNone = false ∧ (fn.name == "runtime.NumGoroutine") = false
theorem run_callFunc {P : Program} {w : World} {f : FuncId} (h : Bodied P f) (args : Array Value) : (callFunc f args).run P w = .ok (.enter f args) w := by
  obtain ⟨fn, h1, h2, h3⟩ := h
  have h4 : fn.name ≠ "runtime.NumGoroutine" := by simpa using h3
  have h5 : fn.body ≠ none := by intro e; rw [e] at h2; simp at h2
  simp [callFunc, h1, h4, h5]
def Ctr (E : Env) (f : FuncId) (args : List AV) (hin : HL) (post : AOut → Prop) : Prop :=
  Bodied E.P f ∧ ∀ (w : World) (Im : Nat → Prop) (ρ : Nat → Option Loc) (vs : Array Value), E.G w → (∀ b, Im b → b < w.heap.size) → (∀ b, b < E.ng → Im b) → vs.size = args.length →
    (∀ (i : Nat) (v : Value) (x : AV), vs[i]? = some v → args[i]? = some x → RA (hp w) Im ρ v x) → HRel w Im ρ hin (fun _ => True) →
    Calls E.P f vs w (Ends post w Im ρ hin)
theorem Ctr.mono {E : Env} {f : FuncId} {args : List AV} {hin : HL} {post post' : AOut → Prop} (h : Ctr E f args hin post) (hp : ∀ o, post o → post' o) : Ctr E f args hin post' :=
  ⟨h.1, fun w Im ρ vs g1 g2 g3 g4 g5 g6 => (h.2 w Im ρ vs g1 g2 g3 g4 g5 g6).mono fun e w' he => by
    cases e with
    | returned v => obtain ⟨res, ho, Im', ρ', h1, h2⟩ := he; exact ⟨res, ho, Im', ρ', hp _ h1, h2⟩
    | panicked ch => obtain ⟨ho, Im', ρ', h1, h2⟩ := he; exact ⟨ho, Im', ρ', hp _ h1, h2⟩
    | outgrown => exact he⟩
def killed (hin : HL) : HL := hin.map fun p => (p.1, none)
theorem lkH_append (r : Nat) : ∀ (a b : HL), (∀ p ∈ a, p.1 ≠ r) → lkH r (a ++ b) = lkH r b
  | [], b, _ => rfl
  | (k, v) :: a, b, h => by
    have : Nat.beq k r = false := by
      cases hb : Nat.beq k r with
      | false => rfl
      | true => exact absurd (Nat.eq_of_beq_eq_true hb) (h (k, v) (by simp))
    simp only [List.cons_append, lkH, this]
    exact lkH_append r a b fun p hp => h p (by simp [hp])
theorem lkH_left (r : Nat) : ∀ (a b : HL), (∃ p ∈ a, p.1 = r) → lkH r (a ++ b) = lkH r a
  | [], b, h => by simp at h
  | (k, v) :: a, b, h => by
    by_cases e : k = r
    · subst e; simp [lkH]
    · have : Nat.beq k r = false := by
        cases hb : Nat.beq k r with
        | false => rfl
        | true => exact absurd (Nat.eq_of_beq_eq_true hb) e
      simp only [List.cons_append, lkH, this]
      refine lkH_left r a b ?_
      obtain ⟨p, hp, hr⟩ := h
      rcases List.mem_cons.1 hp with rfl | hp
      · exact absurd hr e
      · exact ⟨p, hp, hr⟩
theorem lkH_mem {r : Nat} : ∀ {a : HL} {o : AObj}, lkH r a = some o → ∃ p ∈ a, p.1 = r
  | [], o, h => by simp [lkH] at h
  | (k, v) :: a, o, h => by
    by_cases e : Nat.beq k r = true
    · exact ⟨(k, v), by simp, Nat.eq_of_beq_eq_true e⟩
    · have : Nat.beq k r = false := Bool.eq_false_iff.2 e
      simp only [lkH, this] at h
      obtain ⟨p, hp, hr⟩ := lkH_mem h
      exact ⟨p, by simp [hp], hr⟩
theorem lkH_killed {r : Nat} : ∀ {a : HL}, lkH r (killed a) = none
  | [] => rfl
  | (k, v) :: a => by
    by_cases e : Nat.beq k r = true
    · simp [killed, lkH, e]
    · have : Nat.beq k r = false := Bool.eq_false_iff.2 e
      simp only [killed, List.map_cons, lkH, this]
      exact lkH_killed
def St.back (s : St) (hin ho : HL) : HL := ho ++ (killed hin ++ s.h)
theorem St.back_some {s : St} {hin ho : HL} {r : Nat} {o : AObj} (h : lkH r (s.back hin ho) = some o) : lkH r ho = some o ∨ (lkH r ho = none ∧ (∀ p ∈ ho, p.1 ≠ r) ∧ (∀ p ∈ hin, p.1 ≠ r) ∧ lkH r s.h = some o) := by
  unfold St.back at h
  by_cases e : ∃ p ∈ ho, p.1 = r
  · rw [lkH_left r _ _ e] at h; exact .inl h
  · have e1 : ∀ p ∈ ho, p.1 ≠ r := fun p hp hr => e ⟨p, hp, hr⟩
    rw [lkH_append r _ _ e1] at h
    by_cases e2 : ∃ p ∈ killed hin, p.1 = r
    · rw [lkH_left r _ _ e2, lkH_killed] at h; exact absurd h (by simp)
    · have e3 : ∀ p ∈ killed hin, p.1 ≠ r := fun p hp hr => e2 ⟨p, hp, hr⟩
      rw [lkH_append r _ _ e3] at h
      refine .inr ⟨?_, e1, fun p hp hr => e2 ⟨(p.1, none), by simp only [killed, List.mem_map]; exact ⟨p, hp, rfl⟩, hr⟩, h⟩
      cases h4 : lkH r ho with
      | none => rfl
      | some o4 => obtain ⟨p, hp, hr⟩ := lkH_mem h4; exact absurd hr (e1 p hp)
def backρ (ρ ρ' : Nat → Option Loc) (hin ho : HL) (r : Nat) : Option Loc :=
  if (lkH r ho).isSome then ρ' r else if (lkH r hin).isSome then none else ρ r
theorem Sim.call {c : Cx} {Im : Nat → Prop} {ρ : Nat → Option Loc} {s : St} {a : Act} {w : World} (S : Sim c Im ρ s.F s.H a w) {hin ho : HL} (hh : ∀ r o, lkH r hin = some o → lkH r s.h = some o)
    {w' : World} {Im' : Nat → Prop} {ρ' : Nat → Option Loc} (A : After w Im ρ hin w' Im' ρ' ho) (hn : ∀ r o, lkH r ho = some o → (∃ o', lkH r hin = some o') ∨ Unm c r s.F s.H) :
    Sim c Im' (backρ ρ ρ' hin ho) s.F (fun r => lkH r (s.back hin ho)) a w' := by
  have hT : ∀ b, TIn ρ hin b → b < w.heap.size ∧ ¬ Im b ∧ (c.w0.heap.size ≤ b ∨ c.fp b) := fun b ⟨r, o, l, h1, h2, h3⟩ => by
    obtain ⟨l', h4, _, h5⟩ := S.obj r o (hh r o h1)
    rw [h2] at h4; injection h4 with h4; subst h4
    exact h5 b h3
  have hI : ∀ b, Im b → hp w' b = hp w b := fun b hb => A.grows.block b (S.imn b hb).1 fun h => (hT b h).2.1 hb
  have hρ1 : ∀ r o, lkH r ho = some o → backρ ρ ρ' hin ho r = ρ' r := fun r o h => by simp [backρ, h]
  have hρ : ∀ r, (Unm c r s.F s.H → False) → ∀ l', backρ ρ ρ' hin ho r = some l' → ∃ l, ρ r = some l ∧ LocStep l l' := fun r hu l' hl' => by
    unfold backρ at hl'
    cases h1 : lkH r ho with
    | some o =>
      simp only [h1, Option.isSome_some, if_true] at hl'
      rcases hn r o h1 with ⟨o', h2⟩ | h2
      · exact A.anc r o' h2 l' hl'
      · exact (hu h2).elim
    | none =>
      simp only [h1, Option.isSome_none, Bool.false_eq_true, if_false] at hl'
      cases h2 : lkH r hin with
      | some o => simp [h2] at hl'
      | none => simp only [h2, Option.isSome_none, Bool.false_eq_true, if_false] at hl'; exact ⟨l', hl', .inl rfl⟩
  have hob : ∀ r o, lkH r (s.back hin ho) = some o → lkH r ho = none → lkH r s.h = some o ∧ backρ ρ ρ' hin ho r = ρ r ∧ lkH r hin = none := fun r o h h1 => by
    rcases St.back_some h with h2 | ⟨_, _, h3, h4⟩
    · rw [h1] at h2; exact absurd h2 (by simp)
    · have h5 : lkH r hin = none := by
        cases h6 : lkH r hin with
        | none => rfl
        | some o6 => obtain ⟨p, hp, hr⟩ := lkH_mem h6; exact absurd hr (h3 p hp)
      exact ⟨h4, by simp [backρ, h1, h5], h5⟩
  have hin' : ∀ r o, lkH r (s.back hin ho) = some o → ∀ o1, lkH r ho = some o1 → o = o1 := fun r o h o1 h1 => by
    rcases St.back_some h with h2 | ⟨h2, _⟩
    · rw [h1] at h2; exact (Option.some.inj h2).symm
    · rw [h1] at h2; exact absurd h2 (by simp)
  have hfar : ∀ r o l, lkH r s.h = some o → lkH r hin = none → ρ r = some l → ∀ b ∈ l.fp, b < w.heap.size ∧ ¬ TIn ρ hin b := fun r o l h1 h2 h3 b hb => by
    obtain ⟨l0, h4, _, h5⟩ := S.obj r o h1
    rw [h3] at h4; injection h4 with h4; subst h4
    refine ⟨(h5 b hb).1, fun ⟨r', o', l', g1, g2, g3⟩ => ?_⟩
    have hne : r ≠ r' := fun e => by subst e; rw [h2] at g1; exact absurd g1 (by simp)
    exact S.dis r r' o o' l l' h1 (hh r' o' g1) hne h3 g2 b hb g3
  refine { defs := S.defs.mono A.im hI, nt := S.nt, fr := fun t ht => ?_, obj := fun r o hr => ?_, dis := fun r r' o o' l l' h1 h2 hne g1 g2 b hb hb' => ?_, imn := fun b hb => ?_, im0 := fun b hb => A.im b (S.im0 b hb), os := A.grows.os.trans S.os, tape := A.grows.tape.trans S.tape, output := A.grows.output.trans S.output, size := Nat.le_trans S.size A.grows.size, kept := fun b hb hf => ?_, anc := fun r hr l' hl' => ?_ }
  · refine (S.fr t ht).mono A.im hI fun r hr l' hl' => hρ r (fun hu => ?_) l' hl'
    rw [hu.fr t] at hr; exact absurd hr (by simp)
  · cases h1 : lkH r ho with
    | some o1 =>
      have := hin' r o hr o1 h1; subst this
      obtain ⟨l, g1, g2, g3⟩ := A.rel.obj r o h1
      refine ⟨l, by rw [hρ1 r o h1]; exact g1, g2.mono (fun _ h => h) (fun _ _ => rfl) (fun _ _ => rfl) (fun q hq l' hl' => ?_), fun b hb => ⟨(g3 b hb).1, (g3 b hb).2.1, ?_⟩⟩
      · have := A.cl r o h1 q hq
        simp only [backρ, this, if_true] at hl'
        exact ⟨l', hl', .inl rfl⟩
      · rcases (g3 b hb).2.2 with h | h
        · exact .inl (Nat.le_trans S.size h)
        · exact (hT b h).2.2
    | none =>
      obtain ⟨h2, h3, h4⟩ := hob r o hr h1
      obtain ⟨l, g1, g2, g3⟩ := S.obj r o h2
      refine ⟨l, by rw [h3]; exact g1, g2.mono A.im hI (fun b hb => A.grows.block b (g3 b hb).1 (hfar r o l h2 h4 g1 b hb).2) (fun q hq l' hl' => hρ q (fun hu => ?_) l' hl'), fun b hb => ⟨Nat.lt_of_lt_of_le (g3 b hb).1 A.grows.size, fun hi => ?_, (g3 b hb).2.2⟩⟩
      · rw [hu.obj r o h2] at hq; exact absurd hq (by simp)
      · rcases (A.imn b hi).2 with h | h | h
        · exact (g3 b hb).2.1 h
        · have := (g3 b hb).1; omega
        · exact (hfar r o l h2 h4 g1 b hb).2 h
  · cases e1 : lkH r ho with
    | some o1 =>
      have := hin' r o h1 o1 e1; subst this
      rw [hρ1 r o e1] at g1
      cases e2 : lkH r' ho with
      | some o2 =>
        have := hin' r' o' h2 o2 e2; subst this
        rw [hρ1 r' o' e2] at g2
        exact A.rel.dis r r' o o' l l' e1 e2 hne g1 g2 b hb hb'
      | none =>
        obtain ⟨k1, k2, k3⟩ := hob r' o' h2 e2
        rw [k2] at g2
        obtain ⟨l3, m1, _, m3⟩ := A.rel.obj r o e1
        rw [g1] at m1; injection m1 with m1; subst m1
        have := hfar r' o' l' k1 k3 g2 b hb'
        rcases (m3 b hb).2.2 with h | h
        · omega
        · exact this.2 h
    | none =>
      obtain ⟨j1, j2, j3⟩ := hob r o h1 e1
      rw [j2] at g1
      cases e2 : lkH r' ho with
      | some o2 =>
        have := hin' r' o' h2 o2 e2; subst this
        rw [hρ1 r' o' e2] at g2
        obtain ⟨l3, m1, _, m3⟩ := A.rel.obj r' o' e2
        rw [g2] at m1; injection m1 with m1; subst m1
        have := hfar r o l j1 j3 g1 b hb
        rcases (m3 b hb').2.2 with h | h
        · omega
        · exact this.2 h
      | none =>
        obtain ⟨k1, k2, k3⟩ := hob r' o' h2 e2
        rw [k2] at g2
        exact S.dis r r' o o' l l' j1 k1 hne g1 g2 b hb hb'
  · refine ⟨(A.imn b hb).1, ?_⟩
    rcases (A.imn b hb).2 with h | h | h
    · exact (S.imn b h).2
    · exact .inr (.inl (Nat.le_trans S.size h))
    · exact .inr (hT b h).2.2
  · refine (A.grows.block b (Nat.lt_of_lt_of_le hb S.size) fun h => ?_).trans (S.kept b hb hf)
    rcases (hT b h).2.2 with h | h
    · omega
    · exact hf h
  · obtain ⟨l, h1, h2⟩ := hρ r (fun hu => hu.anc hr) l' hl'
    obtain ⟨l0, h3, h4⟩ := S.anc r hr l h1
    exact ⟨l0, h3, h4.trans h2⟩
theorem Closed.back {w' : World} {Im' : Nat → Prop} {ρ ρ' : Nat → Option Loc} {hin ho : HL} {v : Value} {x : AV} (hc : Closed ho x) (h : RA (hp w') Im' ρ' v x) : RA (hp w') Im' (backρ ρ ρ' hin ho) v x :=
  h.mono (fun _ h => h) (fun _ _ => rfl) fun r hr l' hl' => by
    have := hc r hr
    simp only [backρ, this, if_true] at hl'
    exact ⟨l', hl', .inl rfl⟩
theorem Sim.hrel {c : Cx} {Im : Nat → Prop} {ρ : Nat → Option Loc} {s : St} {a : Act} {w : World} (S : Sim c Im ρ s.F s.H a w) {hin : HL} (hh : ∀ r o, lkH r hin = some o → lkH r s.h = some o) : HRel w Im ρ hin (fun _ => True) where
  obj := fun r o h => by
    obtain ⟨l, h1, h2, h3⟩ := S.obj r o (hh r o h)
    exact ⟨l, h1, h2, fun b hb => ⟨(h3 b hb).1, (h3 b hb).2.1, trivial⟩⟩
  dis := fun r r' o o' l l' h h' => S.dis r r' o o' l l' (hh r o h) (hh r' o' h')
theorem Sim.G {E : Env} {c : Cx} {Im : Nat → Prop} {ρ : Nat → Option Loc} {F : Nat → AV} {H : Nat → Option AObj} {a : Act} {w : World} (S : Sim c Im ρ F H a w) (ok : c.Ok E) : E.G w :=
  E.Gst c.w0 w S.os (fun b hb => S.kept b (ok.im b (ok.gl b hb)).1 (ok.im b (ok.gl b hb)).2) ok.G
end Go.Ax

namespace Go.Ax
inductive TK where
  | int (k : IntKind) | bool | str | ptr (e : TypeId) | slice (e : TypeId) | array (n : Nat) (e : TypeId) | struct (fs : List (Nat × TypeId)) | map (k e : TypeId) | func | iface | other
structure TI where
  k : TK
  size : Nat
  bytes : Nat
  zero : List Value
  fl : List TK
def kindOf : TypeDesc → TK
  | .int k => .int k
  | .bool => .bool
  | .string => .str
  | .pointer e => .ptr e
  | .slice e => .slice e
  | .array n e => .array n e
  | .struct fs => .struct (fs.toList.map fun f => (f.offset, f.type))
  | .map k e => .map k e
  | .func .. => .func
  | .interface _ => .iface
  | _ => .other
def tiOf0 (P : Program) (t : TypeId) : Option TI :=
  match P.info? t, P.underlying t with
  | some i, some d => match i.zero with
    | some z => some { k := kindOf d, size := i.size, bytes := i.bytes, zero := z.cells.toList, fl := [] }
    | none => none
  | _, _ => none
def flatFs (go : TypeId → Option (List TK)) : Nat → List Field → Option (List TK)
  | _, [] => some []
  | off, f :: fs => match f.name != "_", Nat.beq f.offset off, go f.type with
    | true, true, some l => match flatFs go (off + l.length) fs with
      | some r => some (l ++ r)
      | none => none
    | _, _, _ => none
def flatL (P : Program) : Nat → TypeId → Option (List TK)
  | 0, _ => none
  | d + 1, t => match tiOf0 P t, P.underlying t with
    | some i, some (.int k) => match Nat.beq i.size 1 with
      | true => some [.int k]
      | false => none
    | some i, some .bool => match Nat.beq i.size 1 with
      | true => some [.bool]
      | false => none
    | some i, some .string => match Nat.beq i.size 1 with
      | true => some [.str]
      | false => none
    | some i, some (.struct fs) => match P.stoodInHeld t, flatFs (flatL P d) 0 fs.toList with
      | false, some l => match Nat.beq i.size l.length with
        | true => some l
        | false => none
      | _, _ => none
    | some i, some (.array n e) => match flatL P d e, tiOf0 P e with
      | some l, some ei => match Nat.beq ei.size l.length, Nat.beq i.size (n * l.length) with
        | true, true => some (List.replicate n l).flatten
        | _, _ => none
      | _, _ => none
    | _, _ => none
def bareZero (P : Program) (t : TypeId) : Bool := match P.info? t, P.underlying t with
  | _, some (.struct _) | _, some (.array _ _) => true
  | some i, _ => match i.zero with
    | some (.agg _) => false
    | _ => true
  | _, _ => false
def flOf (P : Program) (t : TypeId) : List TK := match flatL P 12 t, P.eqGuardType P.depth t, bareZero P t with
  | some l, false, true => l
  | _, _, _ => []
def tiOf (P : Program) (t : TypeId) : Option TI := match tiOf0 P t with
  | some i => some { i with fl := flOf P t }
  | none => none
def TK.agg : TK → Bool
  | .struct _ | .array _ _ => true
  | _ => false
theorem tiOf0_spec {P : Program} {t : TypeId} {i : TI} (h : tiOf0 P t = some i) : ∃ f d z, P.info? t = some f ∧ P.underlying t = some d ∧ f.zero = some z ∧ i = { k := kindOf d, size := f.size, bytes := f.bytes, zero := z.cells.toList, fl := [] } := by
  unfold tiOf0 at h
  split at h
  · rename_i f d h1 h2
    split at h
    · rename_i z h3
      exact ⟨f, d, z, h1, h2, h3, (Option.some.inj h).symm⟩
    · simp at h
  · simp at h
theorem tiOf_spec {P : Program} {t : TypeId} {i : TI} (h : tiOf P t = some i) : ∃ f d z, P.info? t = some f ∧ P.underlying t = some d ∧ f.zero = some z ∧ i = { k := kindOf d, size := f.size, bytes := f.bytes, zero := z.cells.toList, fl := flOf P t } := by
  unfold tiOf at h
  split at h
  · rename_i i0 h0
    obtain ⟨f, d, z, h1, h2, h3, rfl⟩ := tiOf0_spec h0
    exact ⟨f, d, z, h1, h2, h3, (Option.some.inj h).symm⟩
  · simp at h
theorem tiOf_of0 {P : Program} {t : TypeId} {i : TI} (h : tiOf0 P t = some i) : tiOf P t = some { i with fl := flOf P t } := by simp [tiOf, h]
def lkT (t : Nat) : List (Nat × TI) → Option TI
  | [] => none
  | (k, v) :: r => match Nat.beq k t with
    | true => some v
    | false => lkT t r
def TabOk (P : Program) (tab : List (Nat × TI)) : Prop := tab.map (fun p => tiOf P p.1) = tab.map fun p => some p.2
theorem TabOk.at {P : Program} : ∀ {tab : List (Nat × TI)}, TabOk P tab → ∀ {t : Nat} {i : TI}, lkT t tab = some i → tiOf P t = some i
  | [], _, t, i, h => by simp [lkT] at h
  | (k, v) :: r, ht, t, i, h => by
    unfold TabOk at ht
    simp only [List.map_cons, List.cons.injEq] at ht
    by_cases e : Nat.beq k t = true
    · have := Nat.eq_of_beq_eq_true e; subst this
      simp only [lkT, e] at h
      rw [← h]; exact ht.1
    · have : Nat.beq k t = false := Bool.eq_false_iff.2 e
      simp only [lkT, this] at h
      exact TabOk.at (tab := r) ht.2 h
def D.int : D → Int
  | .v (.int _ n) => n
  | _ => 0
def D.bool : D → Bool
  | .v (.bool b) => b
  | _ => false
def D.str : D → ByteArray
  | .v (.string s) => s
  | _ => .empty
def D.els : D → List (List D)
  | .sl _ _ e => e
  | _ => []
def force (k : TK) (sz : Nat) (x : D) : D := match k with
  | .int i => .v (.int i x.int)
  | .bool => .v (.bool x.bool)
  | .str => .v (.string x.str)
  | .slice _ => .sl false sz x.els
  | _ => x
def forceS (k : TK) (sz : Nat) (x : D) : D := match x with
  | .v (.int j n) => match k with
    | .int i => .v (.int i n)
    | k => force k sz (.v (.int j n))
  | .v (.bool b) => match k with
    | .bool => .v (.bool b)
    | k => force k sz (.v (.bool b))
  | .v (.string b) => match k with
    | .str => .v (.string b)
    | k => force k sz (.v (.string b))
  | .sl t z e => match k with
    | .slice _ => .sl false sz e
    | k => force k sz (.sl t z e)
  | x => force k sz x
theorem forceS_eq (k : TK) (sz : Nat) (x : D) : forceS k sz x = force k sz x := by
  unfold forceS
  split <;> first | rfl | (split <;> rfl)
def has (k : TK) (sz : Nat) (x : D) : Prop := match k with
  | .int i => ∃ n, x = .v (.int i n)
  | .bool => ∃ b, x = .v (.bool b)
  | .str => ∃ s, x = .v (.string s)
  | .slice _ => ∃ t e, x = .sl t sz e
  | _ => True
theorem RD.loose {h : Nat → Option Obj} {Im : Nat → Prop} {v : Value} {t : Bool} {sz : Nat} {e : List (List D)} (H : RD h Im v (.sl t sz e)) : RD h Im v (.sl false sz e) := by
  cases H with
  | nil _ _ a cap ht => exact .nil false sz a cap (by simp)
  | sl _ _ _ b o cap f hs hb hle ht hc hr => exact .sl false sz e b o cap f hs hb hle (by simp) hc hr
theorem RD.force {h : Nat → Option Obj} {Im : Nat → Prop} {v : Value} {k : TK} {sz : Nat} {x : D} (hk : has k sz x) (H : RD h Im v x) : RD h Im v (force k sz x) := by
  cases k <;> simp only [has] at hk <;> simp only [Ax.force] <;> first | exact H | skip
  · obtain ⟨n, rfl⟩ := hk; exact H
  · obtain ⟨n, rfl⟩ := hk; exact H
  · obtain ⟨n, rfl⟩ := hk; exact H
  · obtain ⟨t, e, rfl⟩ := hk; exact H.loose
structure Eff where
  val : AV
  rh : Option (Nat × AObj) := none
  wh : Option (Nat × Option AObj) := none
  new : Option Nat := none
  cond : List Prop := []
def AllL : List Prop → Prop
  | [] => True
  | p :: l => p ∧ AllL l
def updO (H : Nat → Option AObj) : Option (Nat × Option AObj) → Nat → Option AObj
  | none => H
  | some (r, o) => upd H r o
def opTmps (op : Op) : List Nat := op.operands.toList.filterMap fun | .tmp t => some t | _ => none
def OpOk (E : Env) (k : Kn) (op : Op) (ty : TypeId) (s : St) (e : Eff) : Prop :=
  ∀ (c : Cx) (Im : Nat → Prop) (ρ : Nat → Option Loc) (F : Nat → AV) (H : Nat → Option AObj) (a : Act) (w : World) (o : Oper), c.Ok E → c.nt = k.nt → c.anc = k.anc → Sim c Im ρ F H a w → o.op = op → o.type = ty →
    (∀ t ∈ opTmps op, lk t s.f = F t) → (∀ r x, e.rh = some (r, x) → H r = some x) → (∀ r, e.new = some r → Unm c r F H) → AllL e.cond →
    ∃ v w', ((execOp a.eval o).run E.P w = .ok (.value v) w' ∨ ((execOp a.eval o).run E.P w = .ok .skip w' ∧ v = undef)) ∧ ∃ Im' ρ', Sim c Im' ρ' F (updO H e.wh) a w' ∧ RA (hp w') Im' ρ' v e.val
def opIn (n : Nat) (op : Op) : Bool := op.operands.toList.all (inN n)
theorem inN_spec {n : Nat} {x : Operand} (h : inN n x = true) : okO x = true ∧ ∀ t, x = .tmp t → t < n := by
  cases x with
  | tmp t => exact ⟨rfl, fun t' e => by injection e with e; subst e; simpa [inN] using h⟩
  | const v => exact ⟨h, fun t e => by cases e⟩
  | global g => exact ⟨rfl, fun t e => by cases e⟩
  | func f => exact ⟨rfl, fun t e => by cases e⟩
theorem opIn_ev {k : Kn} {op : Op} {s : St} {c : Cx} {Im : Nat → Prop} {ρ : Nat → Option Loc} {F : Nat → AV} {H : Nat → Option AObj} {a : Act} {w : World} (S : Sim c Im ρ F H a w) (hn : c.nt = k.nt) (hi : opIn k.nt op = true)
    (hF : ∀ t ∈ opTmps op, lk t s.f = F t) {x : Operand} (hx : x ∈ op.operands.toList) : RA (hp w) Im ρ (a.eval x) (evO s x) := by
  have h := inN_spec (List.all_eq_true.1 hi x hx)
  refine S.ev (fun t e => ⟨hn ▸ h.2 t e, hF t ?_⟩) h.1
  subst e
  exact List.mem_filterMap.2 ⟨_, hx, rfl⟩
section ops
variable {E : Env} {k : Kn} {ty : TypeId} {s : St}
theorem OpOk.pure {op : Op} {x : AV} (cond : List Prop) (rh : Option (Nat × AObj)) (h : AllL cond → ∀ (c : Cx) (Im : Nat → Prop) (ρ : Nat → Option Loc) (F : Nat → AV) (H : Nat → Option AObj) (a : Act) (w : World) (o : Oper), c.Ok E → c.nt = k.nt → Sim c Im ρ F H a w → o.op = op → o.type = ty →
    (∀ t ∈ opTmps op, lk t s.f = F t) → (∀ r x, rh = some (r, x) → H r = some x) → ∃ v, (execOp a.eval o).run E.P w = .ok (.value v) w ∧ RA (hp w) Im ρ v x) : OpOk E k op ty s { val := x, rh, cond } :=
  fun c Im ρ F H a w o ok hn _ S ho hty hF hr _ hc => let ⟨v, h1, h2⟩ := h hc c Im ρ F H a w o ok hn S ho hty hF hr; ⟨v, w, .inl h1, Im, ρ, S, h2⟩
def OpPure (E : Env) (k : Kn) (op : Op) (ty : TypeId) (s : St) (e : Eff) : Prop := e.wh = none ∧ e.new = none ∧
  ∀ (c : Cx) (Im : Nat → Prop) (ρ : Nat → Option Loc) (F : Nat → AV) (H : Nat → Option AObj) (a : Act) (w : World) (o : Oper), c.Ok E → c.nt = k.nt → Sim c Im ρ F H a w → o.op = op → o.type = ty →
    (∀ t ∈ opTmps op, lk t s.f = F t) → (∀ r x, e.rh = some (r, x) → H r = some x) → AllL e.cond → ∃ v, (execOp a.eval o).run E.P w = .ok (.value v) w ∧ RA (hp w) Im ρ v e.val
theorem OpPure.ok {op : Op} {e : Eff} (h : OpPure E k op ty s e) : OpOk E k op ty s e := by
  intro c Im ρ F H a w o ok hn _ S ho hty hF hr _ hc
  obtain ⟨v, h1, h2⟩ := h.2.2 c Im ρ F H a w o ok hn S ho hty hF hr hc
  exact ⟨v, w, .inl h1, Im, ρ, by rw [h.1]; exact S, h2⟩
theorem OpPure.mk' {op : Op} {x : AV} (cond : List Prop) (rh : Option (Nat × AObj)) (h : AllL cond → ∀ (c : Cx) (Im : Nat → Prop) (ρ : Nat → Option Loc) (F : Nat → AV) (H : Nat → Option AObj) (a : Act) (w : World) (o : Oper), c.Ok E → c.nt = k.nt → Sim c Im ρ F H a w → o.op = op → o.type = ty →
    (∀ t ∈ opTmps op, lk t s.f = F t) → (∀ r x, rh = some (r, x) → H r = some x) → ∃ v, (execOp a.eval o).run E.P w = .ok (.value v) w ∧ RA (hp w) Im ρ v x) : OpPure E k op ty s { val := x, rh, cond } :=
  ⟨rfl, rfl, fun c Im ρ F H a w o ok hn S ho hty hF hr hc => h hc c Im ρ F H a w o ok hn S ho hty hF hr⟩
theorem OpPure.cond {op : Op} {e : Eff} {cond : List Prop} (h : OpPure E k op ty s e) (hc : AllL cond → AllL e.cond) : OpPure E k op ty s { e with cond } :=
  ⟨h.1, h.2.1, fun c Im ρ F H a w o g1 g2 g3 g4 g5 g6 g7 g8 => h.2.2 c Im ρ F H a w o g1 g2 g3 g4 g5 g6 g7 (hc g8)⟩
theorem ok_move {x : Operand} (hi : inN k.nt x = true) : OpOk E k (.move x) ty s { val := evO s x } :=
  .pure [] none fun _ c Im ρ F H a w o _ hn S ho _ hF _ => ⟨a.eval x, by simp [execOp, ho], opIn_ev S hn (by simpa [opIn, Op.operands] using hi) hF (by simp [Op.operands])⟩
theorem ok_assign {x : Operand} (hi : inN k.nt x = true) : OpOk E k (.assign x) ty s { val := evO s x } :=
  .pure [] none fun _ c Im ρ F H a w o _ hn S ho _ hF _ => ⟨a.eval x, by simp [execOp, ho], opIn_ev S hn (by simpa [opIn, Op.operands] using hi) hF (by simp [Op.operands])⟩
theorem RA.intv {h : Nat → Option Obj} {Im : Nat → Prop} {ρ : Nat → Option Loc} (x : Value) (h1 : x.oneCell' = true) : RA h Im ρ x (.d (.v x)) := .d _ _ (.v x h1)
theorem ok_pick {c0 x y : Operand} {b : Bool} {r : AV} (hi : opIn k.nt (.pick c0 x y) = true) (hc : evO s c0 = .d (.v (.bool b))) (hr : r = if b then evO s x else evO s y) : OpOk E k (.pick c0 x y) ty s { val := r } :=
  .pure [] none fun _ c Im ρ F H a w o _ hn S ho _ hF _ => by
    have h1 := opIn_ev (x := c0) S hn hi hF (by simp [Op.operands])
    have h2 := opIn_ev (x := x) S hn hi hF (by simp [Op.operands])
    have h3 := opIn_ev (x := y) S hn hi hF (by simp [Op.operands])
    rw [hc] at h1
    subst hr
    refine ⟨if b then a.eval x else a.eval y, by simp [execOp, ho, h1.v, asBool], ?_⟩
    cases b
    · simpa using h3
    · simpa using h2
theorem ok_not {x : Operand} {b : Bool} {xt : TypeId} (hi : opIn k.nt (.unOp .not xt x) = true) (hc : evO s x = .d (.v (.bool b))) : OpOk E k (.unOp .not xt x) ty s { val := .d (.v (.bool (!b))) } :=
  .pure [] none fun _ c Im ρ F H a w o _ hn S ho _ hF _ => by
    have h1 := opIn_ev (x := x) S hn hi hF (by simp [Op.operands])
    rw [hc] at h1
    exact ⟨.bool (!b), by simp [execOp, ho, h1.v, Op.unary], RA.intv _ rfl⟩
def intOp (op : BinOp) (k : IntKind) (a b : Int) : Option (Value × List Prop) := match op with
  | .add => some (.int k (k.wrap (a + b)), [])
  | .sub => some (.int k (k.wrap (a - b)), [])
  | .mul => some (.int k (k.wrap (a * b)), [])
  | .quo => some (.int k (k.wrap (a.tdiv b)), [b ≠ 0])
  | .rem => some (.int k (a.tmod b), [b ≠ 0])
  | .and => some (.int k (k.wrap (BitVec.ofInt k.bits a &&& BitVec.ofInt k.bits b).toNat), [])
  | .or => some (.int k (k.wrap (BitVec.ofInt k.bits a ||| BitVec.ofInt k.bits b).toNat), [])
  | .xor => some (.int k (k.wrap (BitVec.ofInt k.bits a ^^^ BitVec.ofInt k.bits b).toNat), [])
  | .andNot => some (.int k (k.wrap (BitVec.ofInt k.bits a &&& ~~~BitVec.ofInt k.bits b).toNat), [])
  | .eql => some (.bool (a == b), [])
  | .neq => some (.bool (a != b), [])
  | .lss => some (.bool (decide (a < b)), [])
  | .leq => some (.bool (decide (a ≤ b)), [])
  | .gtr => some (.bool (decide (b < a)), [])
  | .geq => some (.bool (decide (b ≤ a)), [])
  | _ => none
theorem intOp_run {P : Program} {w : World} {op : BinOp} {xt : TypeId} {i : IntKind} {x y : Int} {v : Value} {cs : List Prop} (h : intOp op i x y = some (v, cs)) (hc : AllL cs) : (binOp op xt (.int i x) (.int i y)).run P w = .ok v w ∧ v.oneCell' = true := by
  cases op <;> simp only [intOp] at h <;> cases h
  all_goals simp only [AllL] at hc
  all_goals simp [binOp, Op.intArith, Op.intCmp, Op.intBits, Op.intDiv, Value.oneCell', GT.gt, GE.ge, hc]
theorem ok_int {op : BinOp} {xt yt : TypeId} {x y : Operand} {i j : IntKind} {m n : Int} {v : Value} {cs : List Prop} (hi : opIn k.nt (.binOp op xt x y yt) = true) (hx : evO s x = .d (.v (.int i m))) (hy : evO s y = .d (.v (.int j n)))
    (hij : i = j) (h : intOp op i m n = some (v, cs)) : OpOk E k (.binOp op xt x y yt) ty s { val := .d (.v v), cond := cs } := by
  subst hij
  refine .pure cs none fun hc c Im ρ F H a w o _ hn S ho _ hF _ => ?_
  have h1 := opIn_ev (x := x) S hn hi hF (by simp [Op.operands])
  have h2 := opIn_ev (x := y) S hn hi hF (by simp [Op.operands])
  rw [hx] at h1
  rw [hy] at h2
  obtain ⟨h3, h4⟩ := intOp_run (P := E.P) (w := w) (xt := xt) h hc
  refine ⟨v, ?_, RA.intv _ h4⟩
  have hg : (eqGuard op xt x y (.int i m) (.int i n)).run E.P w = .ok () w := by
    unfold eqGuard
    split <;> simp
  simp [execOp, ho, h1.v, h2.v, hg, h3]
def shOp (op : BinOp) (k : IntKind) (a b : Int) : Option (Value × List Prop) := match op with
  | .shl => some (.int k (k.wrap (a * 2 ^ (min b.toNat k.bits))), [0 ≤ b])
  | .shr => some (.int k (a.fdiv (2 ^ (min b.toNat k.bits))), [0 ≤ b])
  | _ => none
theorem ok_shift {op : BinOp} {xt yt : TypeId} {x y : Operand} {i j : IntKind} {m n : Int} {v : Value} {cs : List Prop} (hi : opIn k.nt (.binOp op xt x y yt) = true) (hx : evO s x = .d (.v (.int i m))) (hy : evO s y = .d (.v (.int j n)))
    (h : shOp op i m n = some (v, cs)) : OpOk E k (.binOp op xt x y yt) ty s { val := .d (.v v), cond := cs } := by
  refine .pure cs none fun hc c Im ρ F H a w o _ hn S ho _ hF _ => ?_
  have h1 := opIn_ev (x := x) S hn hi hF (by simp [Op.operands])
  have h2 := opIn_ev (x := y) S hn hi hF (by simp [Op.operands])
  rw [hx] at h1
  rw [hy] at h2
  cases op <;> simp only [shOp] at h <;> cases h
  all_goals
    simp only [AllL] at hc
    have hb : ¬ n < 0 := by omega
    exact ⟨_, by simp [execOp, ho, h1.v, h2.v, eqGuard, binOp, Op.shift, hb], RA.intv _ rfl⟩
def strOp (op : BinOp) (a b : ByteArray) : Option (Value × List Prop) := match op with
  | .add => some (.string (a ++ b), [a.size + b.size ≤ 9223372036854775807])
  | .eql => some (.bool (a.data.toList == b.data.toList), [])
  | .neq => some (.bool (!(a.data.toList == b.data.toList)), [])
  | .lss => some (.bool (Op.bytesLess a.data.toList b.data.toList), [])
  | .leq => some (.bool (Op.bytesLess a.data.toList b.data.toList || a.data.toList == b.data.toList), [])
  | .gtr => some (.bool (!(Op.bytesLess a.data.toList b.data.toList || a.data.toList == b.data.toList)), [])
  | .geq => some (.bool (!(Op.bytesLess a.data.toList b.data.toList)), [])
  | _ => none
theorem ok_str {op : BinOp} {xt yt : TypeId} {x y : Operand} {m n : ByteArray} {v : Value} {cs : List Prop} (hi : opIn k.nt (.binOp op xt x y yt) = true) (hx : evO s x = .d (.v (.string m))) (hy : evO s y = .d (.v (.string n)))
    (h : strOp op m n = some (v, cs)) : OpOk E k (.binOp op xt x y yt) ty s { val := .d (.v v), cond := cs } := by
  refine .pure cs none fun hc c Im ρ F H a w o _ hn S ho _ hF _ => ?_
  have h1 := opIn_ev (x := x) S hn hi hF (by simp [Op.operands])
  have h2 := opIn_ev (x := y) S hn hi hF (by simp [Op.operands])
  rw [hx] at h1
  rw [hy] at h2
  have hg : (eqGuard op xt x y (.string m) (.string n)).run E.P w = .ok () w := by
    unfold eqGuard
    split <;> simp
  cases op <;> simp only [strOp] at h <;> cases h
  all_goals
    simp only [AllL] at hc
  case add =>
    have hb := hc.1
    exact ⟨_, by simp [execOp, ho, h1.v, h2.v, hg, binOp, Op.stringOp]; omega, RA.intv _ rfl⟩
  all_goals exact ⟨_, by simp [execOp, ho, h1.v, h2.v, hg, binOp, Op.stringOp, ByteArray.toList_eq], RA.intv _ rfl⟩
theorem run_equalIn_bool {P : Program} {w : World} (d : Nat) {t : TypeId} {a b : Bool} (hu : P.underlying t = some .bool) : (Op.equalIn (d + 1) t (.bool a) (.bool b)).run P w = .ok (a == b) w := by
  simp [Op.equalIn, run_underlying hu]
theorem run_equal_bool {P : Program} {w : World} {t : TypeId} {a b : Bool} (hu : P.underlying t = some .bool) : (Op.equal t (.bool a) (.bool b)).run P w = .ok (a == b) w := run_equalIn_bool 9999 hu
theorem ok_booleq {op : BinOp} {xt yt : TypeId} {x y : Operand} {m n r : Bool} (hi : opIn k.nt (.binOp op xt x y yt) = true) (hx : evO s x = .d (.v (.bool m))) (hy : evO s y = .d (.v (.bool n)))
    (hu : E.P.underlying xt = some .bool) (h : (op = .eql ∧ r = (m == n)) ∨ (op = .neq ∧ r = !(m == n))) : OpOk E k (.binOp op xt x y yt) ty s { val := .d (.v (.bool r)) } := by
  refine .pure [] none fun hc c Im ρ F H a w o _ hn S ho _ hF _ => ?_
  have h1 := opIn_ev (x := x) S hn hi hF (by simp [Op.operands])
  have h2 := opIn_ev (x := y) S hn hi hF (by simp [Op.operands])
  rw [hx] at h1
  rw [hy] at h2
  have hq := run_equal_bool (w := w) (a := m) (b := n) hu
  refine ⟨.bool r, ?_, RA.intv _ rfl⟩
  rcases h with ⟨rfl, rfl⟩ | ⟨rfl, rfl⟩
  · simp [execOp, ho, h1.v, h2.v, eqGuard, binOp, hq]
  · simp [execOp, ho, h1.v, h2.v, eqGuard, binOp, hq]
end ops
end Go.Ax

namespace Go.Ax
theorem add_zero_spot (b o j : Nat) : (⟨b, o, none⟩ : Addr).add j = ⟨b, o + j, none⟩ := by unfold Addr.add; split <;> simp_all
theorem run_isAgg {P : Program} {w : World} {t : TypeId} {i : TI} (h : tiOf P t = some i) : (isAgg t).run P w = .ok i.k.agg w := by
  obtain ⟨f, d, z, h1, h2, h3, rfl⟩ := tiOf_spec h
  unfold isAgg
  rw [Sem.run_bind, run_underlying h2 w]
  cases d <;> simp [kindOf, TK.agg]
theorem run_sizeOf {P : Program} {w : World} {t : TypeId} {i : TI} (h : tiOf P t = some i) : (sizeOf t).run P w = .ok i.size w := by
  obtain ⟨f, d, z, h1, h2, h3, rfl⟩ := tiOf_spec h
  simp [sizeOf, typeInfo, h1]
theorem run_loadVar_of {P : Program} {w : World} {t : TypeId} {i : TI} (hi : tiOf P t = some i) (h1 : i.k.agg = false → i.size = 1) (b off : Nat) (f : Nat → Value) (hc : ∀ j, j < i.size → w.cell? ⟨b, off + j, none⟩ = some (f j)) :
    (loadVar t ⟨b, off, none⟩).run P w = .ok (if i.k.agg then .agg ((List.range i.size).map f).toArray else f 0) w := by
  unfold loadVar
  rw [Sem.run_bind, run_isAgg hi]
  simp only [Result.andThen_ok]
  cases ha : i.k.agg with
  | true =>
    simp only [if_true, Sem.run_bind, run_sizeOf hi, Result.andThen_ok]
    rw [run_loadCells w ⟨b, off, none⟩ i.size f (fun j hj => by rw [add_zero_spot]; exact hc j hj)]
    simp
  | false =>
    have := hc 0 (by rw [h1 ha]; omega)
    simp only [Nat.add_zero] at this
    simp [this]
theorem cell_hp {w : World} {b j : Nat} {cs : Array Value} {t : TypeId} {fz : Nat × Nat} {v : Value} (h : hp w b = some (.cells cs t fz)) (hv : cs[j]? = some v) : w.cell? ⟨b, j, none⟩ = some v := by
  rw [cell_of_row w b j cs t fz h]; exact hv
def cut (off n : Nat) (cs : List D) : List D := (cs.drop off).take n
theorem cut_get {off n j : Nat} {cs : List D} (hj : j < n) : (cut off n cs)[j]? = cs[off + j]? := by
  simp [cut, hj, List.getElem?_drop]
theorem cut_length {off n : Nat} {cs : List D} (h : off + n ≤ cs.length) : (cut off n cs).length = n := by simp [cut]; omega
def loadD (i : TI) (esz : Nat) (cs : List D) (off : Nat) : AV := if i.k.agg then .dagg (cut off i.size cs) else .d (forceS i.k esz (cs.getD off (.v undef)))
theorem loadD_ok {P : Program} {w : World} {Im : Nat → Prop} {ρ : Nat → Option Loc} {t : TypeId} {i : TI} (hi : tiOf P t = some i) (h1 : i.k.agg = false → i.size = 1) {esz : Nat} {cs : List D} {off b o : Nat} (hl : off + i.size ≤ cs.length)
    (hk : i.k.agg = false → has i.k esz (cs.getD off (.v undef))) (hr : ∀ j x, off ≤ j → j < off + i.size → cs[j]? = some x → ∃ v, w.cell? ⟨b, o + j, none⟩ = some v ∧ RD (hp w) Im v x) :
    ∃ v, (loadVar t ⟨b, o + off, none⟩).run P w = .ok v w ∧ RA (hp w) Im ρ v (loadD i esz cs off) := by
  have hex : ∀ j, j < i.size → ∃ v, w.cell? ⟨b, o + off + j, none⟩ = some v ∧ RD (hp w) Im v (cs.getD (off + j) (.v undef)) := fun j hj => by
    obtain ⟨v, h2, h3⟩ := hr (off + j) (cs.getD (off + j) (.v undef)) (by omega) (by omega) (by simp [List.getD, List.getElem?_eq_getElem (show off + j < cs.length by omega)])
    exact ⟨v, by rw [Nat.add_assoc]; exact h2, h3⟩
  let f : Nat → Value := fun j => if h : j < i.size then Classical.choose (hex j h) else undef
  have hf : ∀ j, (h : j < i.size) → w.cell? ⟨b, o + off + j, none⟩ = some (f j) ∧ RD (hp w) Im (f j) (cs.getD (off + j) (.v undef)) := fun j h => by
    have := Classical.choose_spec (hex j h)
    simp only [f, h, dif_pos]; exact this
  refine ⟨_, run_loadVar_of hi h1 b (o + off) f (fun j hj => (hf j hj).1), ?_⟩
  unfold loadD
  cases ha : i.k.agg with
  | true =>
    simp only [if_true]
    refine .dagg _ _ (by simp [cut_length hl]) fun j v x hv hx => ?_
    have hj : j < i.size := by
      have := (List.getElem?_eq_some_iff.1 hx).1
      rwa [cut_length hl] at this
    have e1 : v = f j := by simpa [hj] using hv.symm
    have e2 : x = cs.getD (off + j) (.v undef) := by
      rw [cut_get hj] at hx
      simp [List.getD, hx]
    rw [e1, e2]; exact (hf j hj).2
  | false =>
    simp only [Bool.false_eq_true, if_false, forceS_eq]
    have := (hf 0 (by rw [h1 ha]; omega)).2
    exact .d _ _ (this.force (hk ha))
def allD : List AV → Option (List D)
  | [] => some []
  | .d x :: r => match allD r with
    | some l => some (x :: l)
    | none => none
  | _ :: _ => none
def mkAgg (l : List AV) : AV := match allD l with
  | some l' => .dagg l'
  | none => .agg l
theorem allD_spec : ∀ {l : List AV} {l' : List D}, allD l = some l' → l = l'.map AV.d
  | [], l', h => by simp [allD] at h; subst h; rfl
  | x :: r, l', h => by
    cases x <;> simp only [allD] at h <;> try (cases h; done)
    cases hr : allD r with
    | none => simp [hr] at h
    | some l => simp [hr] at h; subst h; simp [allD_spec hr]
theorem RA.d_inv {h : Nat → Option Obj} {Im : Nat → Prop} {ρ : Nat → Option Loc} {v : Value} {x : D} (H : RA h Im ρ v (.d x)) : RD h Im v x := by cases H; assumption
theorem RA.mkAgg {h : Nat → Option Obj} {Im : Nat → Prop} {ρ : Nat → Option Loc} {cs : Array Value} {l : List AV} (H : RA h Im ρ (.agg cs) (.agg l)) : RA h Im ρ (.agg cs) (mkAgg l) := by
  unfold Ax.mkAgg
  split
  · rename_i l' he
    have := allD_spec he
    subst this
    cases H with
    | agg _ _ hl hr =>
      refine .dagg cs l' (by simpa using hl) fun i v x h1 h2 => (hr i v (.d x) h1 ?_).d_inv
      simp [h2]
  · exact H
def loadA (i : TI) (cs : List AV) (off : Nat) : AV := if i.k.agg then mkAgg ((cs.drop off).take i.size) else cs.getD off .junk
theorem loadA_ok {P : Program} {w : World} {Im : Nat → Prop} {ρ : Nat → Option Loc} {t : TypeId} {i : TI} (hi : tiOf P t = some i) (h1 : i.k.agg = false → i.size = 1) {cs : List AV} {off b : Nat} (hl : off + i.size ≤ cs.length)
    (hr : ∀ (j : Nat) (x : AV), cs[j]? = some x → ∃ v, w.cell? ⟨b, j, none⟩ = some v ∧ RA (hp w) Im ρ v x) : ∃ v, (loadVar t ⟨b, off, none⟩).run P w = .ok v w ∧ RA (hp w) Im ρ v (loadA i cs off) := by
  have hex : ∀ j, j < i.size → ∃ v, w.cell? ⟨b, off + j, none⟩ = some v ∧ RA (hp w) Im ρ v (cs.getD (off + j) .junk) := fun j hj =>
    hr (off + j) (cs.getD (off + j) .junk) (by simp [List.getD, List.getElem?_eq_getElem (show off + j < cs.length by omega)])
  let f : Nat → Value := fun j => if h : j < i.size then Classical.choose (hex j h) else undef
  have hf : ∀ j, (h : j < i.size) → w.cell? ⟨b, off + j, none⟩ = some (f j) ∧ RA (hp w) Im ρ (f j) (cs.getD (off + j) .junk) := fun j h => by
    have := Classical.choose_spec (hex j h)
    simp only [f, h, dif_pos]; exact this
  refine ⟨_, run_loadVar_of hi h1 b off f (fun j hj => (hf j hj).1), ?_⟩
  unfold loadA
  cases ha : i.k.agg with
  | true =>
    simp only [if_true]
    refine RA.mkAgg (.agg _ _ (by simp; omega) fun j v x hv hx => ?_)
    have hj : j < i.size := by
      have := (List.getElem?_eq_some_iff.1 hx).1
      simp at this; omega
    have e1 : v = f j := by simpa [hj] using hv.symm
    have e2 : x = cs.getD (off + j) .junk := by
      rw [List.getElem?_take, if_pos hj, List.getElem?_drop] at hx
      simp [List.getD, hx]
    rw [e1, e2]; exact (hf j hj).2
  | false =>
    simp only [Bool.false_eq_true, if_false]
    exact (hf 0 (by rw [h1 ha]; omega)).2
section ops
variable {E : Env} {k : Kn} {ty : TypeId} {s : St}
theorem exec_load {P : Program} {a : Act} {w : World} {o : Oper} {t : TypeId} {x : Operand} {ad : Addr} {v : Value} (ho : o.op = .load t x) (hx : a.eval x = .pointer (some ad)) (h : (loadVar t ad).run P w = .ok v w) :
    (execOp a.eval o).run P w = .ok (.value v) w := by simp [execOp, ho, hx, Instr.loadAt, Instr.sureAddr, h]
theorem ok_load_ep {t : TypeId} {x : Operand} {i : TI} {esz : Nat} {cs : List D} (hi : opIn k.nt (.load t x) = true) (ht : tiOf E.P t = some i) (h1 : i.k.agg = false → i.size = 1) (hx : evO s x = .ep cs) :
    OpPure E k (.load t x) ty s { val := loadD i esz cs 0, cond := [i.size ≤ cs.length, i.k.agg = false → has i.k esz (cs.getD 0 (.v undef))] } :=
  .mk' _ none fun hc c Im ρ F H a w o _ hn S ho _ hF _ => by
    have h2 := opIn_ev (x := x) S hn hi hF (by simp [Op.operands])
    rw [hx] at h2
    generalize hv : a.eval x = v at h2
    cases h2 with
    | ep b o' _ f hb hcs hr =>
      obtain ⟨v, g1, g2⟩ := loadD_ok (ρ := ρ) (w := w) (Im := Im) (b := b) (o := o') (cs := cs) (off := 0) (esz := esz) ht h1 (by have := hc.1; omega) hc.2.1 (fun j x _ _ hj => by
        obtain ⟨ms, t', fz, e1, e2⟩ := hcs j x hj
        exact ⟨f j, cell_hp e1 e2, hr j x hj⟩)
      exact ⟨v, exec_load ho hv (by simpa using g1), g2⟩
theorem ok_load_dvar {t : TypeId} {x : Operand} {i : TI} {esz r off nn : Nat} {cs : List D} (hi : opIn k.nt (.load t x) = true) (ht : tiOf E.P t = some i) (h1 : i.k.agg = false → i.size = 1) (hx : evO s x = .ptr r off) :
    OpPure E k (.load t x) ty s { val := loadD i esz cs off, rh := some (r, .dvar nn cs), cond := [off + i.size ≤ cs.length, i.k.agg = false → has i.k esz (cs.getD off (.v undef))] } :=
  .mk' _ _ fun hc c Im ρ F H a w o _ hn S ho _ hF hH => by
    have h2 := opIn_ev (x := x) S hn hi hF (by simp [Op.operands])
    rw [hx] at h2
    generalize hv : a.eval x = v at h2
    cases h2 with
    | ptr _ _ _ _ hp =>
      obtain ⟨l, hl, hro, _⟩ := S.obj r _ (hH r _ rfl)
      obtain ⟨_, b, hb, rfl⟩ := hp l hl
      obtain ⟨_, _, hcl, b', ms, t', hb', hm, hsz, hcell⟩ := hro
      rw [hb] at hb'; injection hb' with hb'; subst hb'
      obtain ⟨v, g1, g2⟩ := loadD_ok (ρ := ρ) (w := w) (Im := Im) (b := b) (o := 0) (cs := cs) (off := off) (esz := esz) ht h1 hc.1 hc.2.1 (fun j x _ _ hj => by
        have hjl : j < ms.size := by rw [hsz, ← hcl]; exact (List.getElem?_eq_some_iff.1 hj).1
        exact ⟨ms[j], by rw [Nat.zero_add]; exact cell_hp hm (by simp [hjl]), hcell j ms[j] (by simp [hjl]) x hj⟩)
      exact ⟨v, exec_load ho hv (by simpa using g1), g2⟩
theorem ok_load_var {t : TypeId} {x : Operand} {i : TI} {r off : Nat} {cs : List AV} (hi : opIn k.nt (.load t x) = true) (ht : tiOf E.P t = some i) (h1 : i.k.agg = false → i.size = 1) (hx : evO s x = .ptr r off) (hl : off + i.size ≤ cs.length) :
    OpPure E k (.load t x) ty s { val := loadA i cs off, rh := some (r, .var cs) } :=
  .mk' _ _ fun hc c Im ρ F H a w o _ hn S ho _ hF hH => by
    have h2 := opIn_ev (x := x) S hn hi hF (by simp [Op.operands])
    rw [hx] at h2
    generalize hv : a.eval x = v at h2
    cases h2 with
    | ptr _ _ _ _ hp =>
      obtain ⟨l, hl', hro, _⟩ := S.obj r _ (hH r _ rfl)
      obtain ⟨_, b, hb, rfl⟩ := hp l hl'
      obtain ⟨_, _, b', ms, t', hb', hm, hsz, hcell⟩ := hro
      rw [hb] at hb'; injection hb' with hb'; subst hb'
      obtain ⟨v, g1, g2⟩ := loadA_ok (ρ := ρ) (w := w) (Im := Im) (b := b) (cs := cs) (off := off) ht h1 hl (fun j x hj => by
        have hjl : j < ms.size := by rw [hsz]; exact (List.getElem?_eq_some_iff.1 hj).1
        exact ⟨ms[j], cell_hp hm (by simp [hjl]), (hcell j ms[j] (by simp [hjl]) x hj).1⟩)
      exact ⟨v, exec_load ho hv g1, g2⟩
theorem ok_load_mptr {t : TypeId} {x : Operand} {i : TI} {esz r n q j0 sz : Nat} {el : TypeId} {els : List (List D)} (hi : opIn k.nt (.load t x) = true) (ht : tiOf E.P t = some i) (h1 : i.k.agg = false → i.size = 1) (hx : evO s x = .mptr r n q j0) :
    OpPure E k (.load t x) ty s { val := loadD i esz (els.getD q []) j0, rh := some (r, .buf sz el els), cond := [n = els.length, q < els.length, j0 + i.size ≤ (els.getD q []).length, i.k.agg = false → has i.k esz ((els.getD q []).getD j0 (.v undef))] } :=
  .mk' _ _ fun hc c Im ρ F H a w o _ hn S ho _ hF hH => by
    have h2 := opIn_ev (x := x) S hn hi hF (by simp [Op.operands])
    rw [hx] at h2
    generalize hv : a.eval x = v at h2
    obtain ⟨c1, c2, c3, c4, _⟩ := hc
    cases h2 with
    | mptr _ _ _ _ _ _ hp =>
      obtain ⟨l, hl', hro, _⟩ := S.obj r _ (hH r _ rfl)
      obtain ⟨_, _, hsz, hlen, _, hown⟩ := hro
      obtain ⟨b, hb, rfl⟩ := (hp l hl').2 (by omega)
      rcases hown with ⟨h0, _⟩ | ⟨b', ms, hb', hm, _, _, _, hcell⟩
      · rw [hb] at h0; exact absurd h0 (by simp)
      · rw [hb] at hb'; injection hb' with hb'; subst hb'
        have hel : els[q]? = some (els.getD q []) := by simp [List.getD, List.getElem?_eq_getElem c2]
        obtain ⟨v, g1, g2⟩ := loadD_ok (ρ := ρ) (w := w) (Im := Im) (b := b) (o := q * sz) (cs := els.getD q []) (off := j0) (esz := esz) ht h1 c3 c4 (fun j x _ _ hj => by
          obtain ⟨v, e1, e2⟩ := hcell q j _ x hel hj
          exact ⟨v, cell_hp hm e1, e2⟩)
        exact ⟨v, exec_load ho hv (by rw [hsz]; exact g1), g2⟩
theorem ok_nilCheck_ptr {x : Operand} {r off : Nat} {ob : AObj} (hi : opIn k.nt (.nilCheck x) = true) (hx : evO s x = .ptr r off) : OpOk E k (.nilCheck x) ty s { val := .ptr r off, rh := some (r, ob) } :=
  .pure [] _ fun _ c Im ρ F H a w o _ hn S ho _ hF hH => by
    have h2 := opIn_ev (x := x) S hn hi hF (by simp [Op.operands])
    rw [hx] at h2
    refine ⟨a.eval x, ?_, h2⟩
    generalize hv : a.eval x = v at h2 ⊢
    cases h2 with
    | ptr _ _ _ _ hp =>
      obtain ⟨l, hl', _⟩ := S.obj r _ (hH r _ rfl)
      obtain ⟨_, b, _, rfl⟩ := hp l hl'
      simp [execOp, ho, hv]
theorem ok_nilCheck_ep {x : Operand} {cs : List D} (hi : opIn k.nt (.nilCheck x) = true) (hx : evO s x = .ep cs) : OpOk E k (.nilCheck x) ty s { val := .ep cs } :=
  .pure [] none fun _ c Im ρ F H a w o _ hn S ho _ hF hH => by
    have h2 := opIn_ev (x := x) S hn hi hF (by simp [Op.operands])
    rw [hx] at h2
    refine ⟨a.eval x, ?_, h2⟩
    generalize hv : a.eval x = v at h2 ⊢
    cases h2 with
    | ep b o' _ f hb hcs hr => simp [execOp, ho, hv]
theorem ok_nilCheck_clo {x : Operand} {f : FuncId} {fs cs : List AV} (hi : opIn k.nt (.nilCheck x) = true) (hx : evO s x = .clo (.func f) fs cs) : OpOk E k (.nilCheck x) ty s { val := .clo (.func f) fs cs } :=
  .pure [] none fun _ c Im ρ F H a w o _ hn S ho _ hF hH => by
    have h2 := opIn_ev (x := x) S hn hi hF (by simp [Op.operands])
    rw [hx] at h2
    refine ⟨a.eval x, ?_, h2⟩
    generalize hv : a.eval x = v at h2 ⊢
    cases h2 with
    | clo => simp [execOp, ho, hv]
theorem ep_drop {h : Nat → Option Obj} {Im : Nat → Prop} {ρ : Nat → Option Loc} {b o n : Nat} {cs : List D} {v : Value} (hv : v = .pointer (some ⟨b, o, none⟩)) (H : RA h Im ρ v (.ep cs)) : RA h Im ρ (.pointer (some ⟨b, o + n, none⟩)) (.ep (cs.drop n)) := by
  subst hv
  cases H with
  | ep _ _ _ f hb hcs hr =>
    refine .ep b (o + n) _ (fun j => f (n + j)) hb (fun j x hj => ?_) (fun j x hj => ?_)
    · rw [List.getElem?_drop] at hj
      obtain ⟨ms, t, fz, e1, e2⟩ := hcs _ x hj
      exact ⟨ms, t, fz, e1, by rw [Nat.add_assoc]; exact e2⟩
    · rw [List.getElem?_drop] at hj
      exact hr _ x hj
def fieldOff (i : TI) (f : Nat) : Option (Nat × TypeId) := match i.k with
  | .struct fs => fs[f]?
  | _ => none
theorem run_fieldAt {P : Program} {w : World} {t : TypeId} {i : TI} {f off : Nat} {ft : TypeId} {fi : TI} (hi : tiOf P t = some i) (hf : fieldOff i f = some (off, ft)) (hfi : tiOf P ft = some fi) (hs : fi.size ≠ 0) (ad : Addr) :
    (Instr.fieldAt t (.pointer (some ad)) f).run P w = .ok (.pointer (some (ad.add off))) w := by
  obtain ⟨inf, d, z, h1, h2, h3, rfl⟩ := tiOf_spec hi
  cases d <;> simp only [kindOf, fieldOff] at hf <;> try (cases hf; done)
  rename_i fs
  simp only [List.getElem?_map, Option.map_eq_some_iff] at hf
  obtain ⟨fd, hfd, he⟩ := hf
  simp only [Prod.mk.injEq] at he
  obtain ⟨rfl, rfl⟩ := he
  have hfd' : fs[f]? = some fd := by simpa using hfd
  simp [Instr.fieldAt, run_underlying h2, hfd', Instr.sureAddr, fieldPlace, run_sizeOf hfi, hs]
theorem ok_fieldAddr_ptr {t : TypeId} {x : Operand} {i fi : TI} {f off r q : Nat} {ft : TypeId} {ob : AObj} (hi : opIn k.nt (.fieldAddr t x f) = true) (ht : tiOf E.P t = some i) (hf : fieldOff i f = some (off, ft)) (hfi : tiOf E.P ft = some fi) (hs : fi.size ≠ 0)
    (hx : evO s x = .ptr r q) : OpOk E k (.fieldAddr t x f) ty s { val := .ptr r (q + off), rh := some (r, ob) } :=
  .pure [] _ fun _ c Im ρ F H a w o _ hn S ho _ hF hH => by
    have h2 := opIn_ev (x := x) S hn hi hF (by simp [Op.operands])
    rw [hx] at h2
    generalize hv : a.eval x = v at h2
    cases h2 with
    | ptr _ _ _ _ hp =>
      obtain ⟨l, hl', _⟩ := S.obj r _ (hH r _ rfl)
      obtain ⟨h5, b, h6, rfl⟩ := hp l hl'
      refine ⟨.pointer (some ⟨b, q + off, none⟩), ?_, .ptr _ _ _ rfl fun l1 hl1 => ?_⟩
      · simp [execOp, ho, hv, run_fieldAt ht hf hfi hs, add_zero_spot]
      · rw [hl'] at hl1; injection hl1 with hl1; subst hl1
        exact ⟨h5, b, h6, rfl⟩
theorem ok_fieldAddr_ep {t : TypeId} {x : Operand} {i fi : TI} {f off : Nat} {ft : TypeId} {cs : List D} (hi : opIn k.nt (.fieldAddr t x f) = true) (ht : tiOf E.P t = some i) (hf : fieldOff i f = some (off, ft)) (hfi : tiOf E.P ft = some fi) (hs : fi.size ≠ 0)
    (hx : evO s x = .ep cs) : OpOk E k (.fieldAddr t x f) ty s { val := .ep (cs.drop off) } :=
  .pure [] none fun _ c Im ρ F H a w o _ hn S ho _ hF hH => by
    have h2 := opIn_ev (x := x) S hn hi hF (by simp [Op.operands])
    rw [hx] at h2
    generalize hv : a.eval x = v at h2
    cases h2 with
    | ep b o' _ g hb hcs hr =>
      exact ⟨.pointer (some ⟨b, o' + off, none⟩), by simp [execOp, ho, hv, run_fieldAt ht hf hfi hs, add_zero_spot], ep_drop rfl (.ep b o' cs g hb hcs hr)⟩
theorem ok_fieldAddr_mptr {t : TypeId} {x : Operand} {i fi : TI} {f off r n q j sz : Nat} {ft el : TypeId} {els : List (List D)} (hi : opIn k.nt (.fieldAddr t x f) = true) (ht : tiOf E.P t = some i) (hf : fieldOff i f = some (off, ft)) (hfi : tiOf E.P ft = some fi) (hs : fi.size ≠ 0)
    (hx : evO s x = .mptr r n q j) : OpOk E k (.fieldAddr t x f) ty s { val := .mptr r n q (j + off), rh := some (r, .buf sz el els), cond := [n = els.length] } :=
  .pure _ _ fun hc c Im ρ F H a w o _ hn S ho _ hF hH => by
    have h2 := opIn_ev (x := x) S hn hi hF (by simp [Op.operands])
    rw [hx] at h2
    generalize hv : a.eval x = v at h2
    cases h2 with
    | mptr _ _ _ _ _ _ hp =>
      obtain ⟨l, hl', hro, _⟩ := S.obj r _ (hH r _ rfl)
      have hlen := hro.2.2.2.1
      obtain ⟨b, h6, rfl⟩ := (hp l hl').2 (by have := hc.1; omega)
      refine ⟨.pointer (some ⟨b, q * l.sz + (j + off), none⟩), ?_, .mptr _ _ _ _ _ rfl fun l1 hl1 => ?_⟩
      · simp [execOp, ho, hv, run_fieldAt ht hf hfi hs, add_zero_spot, Nat.add_assoc]
      · rw [hl'] at hl1; injection hl1 with hl1; subst hl1
        exact ⟨(hp l hl').1, fun _ => ⟨b, h6, rfl⟩⟩
end ops
end Go.Ax
