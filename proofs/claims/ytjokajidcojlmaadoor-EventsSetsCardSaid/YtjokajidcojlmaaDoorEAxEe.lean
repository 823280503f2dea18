import Derived.Test.YtjokajidcojlmaaDoorEAxEd
import Derived.Test.YtjokajidcojlmaaDoorEAxLib
import Derived.Test.YtjokajidcojlmaaDoorEAxShee
import Derived.Lib.SmallJoins

/- Library functions of the sets of events, by the shelf's contracts: strings.Index, CutSuffix, strconv.Atoi, bits.TrailingZeros64. -/
namespace Go.Ax
open Go.Proofs Go.RowKit Go.Shelf Go.Lib
set_option maxRecDepth 10000

/-- A function that lays blocks and no more, and hands back what leads to no cell that is asked for. -/
theorem Ctr.ofAny {E : Env} {f : FuncId} {xs : List Value} {x : AV} (hb : Bodied E.P f) (hm : ∀ r, x.ment r = false) (h : ∀ w, E.G w → Calls E.P f xs.toArray w fun e w' => ∃ v, e = .returned v ∧ (∀ h Im ρ, RA h Im ρ v x) ∧ Below w.heap.size w w') : Ctr E f (vals xs) [] fun o => o = .ret x [] := by
  refine ⟨hb, fun w Im ρ vs hG hIm hgl hsz hra hrel => ?_⟩
  rw [args_vals hsz hra]
  refine (h w hG).mono fun e w' ⟨v, he, hr, hB⟩ => ?_
  subst he
  exact ⟨_, [], Im, _, rfl, hr _ _ _, fun r h => by rw [hm r] at h; exact absurd h (by simp), after_below hIm hB⟩

theorem index1_ctr (g : GP) (s : ByteArray) (c : UInt8) : Ctr (ax g).E 165 [.str s, .str ⟨#[c]⟩] [] fun o => o = .ret (.i64 (Lib.indexByte s.data.toList c)) [] :=
  Ctr.ofVal (E := (ax g).E) (f := 165) (xs := [.string s, .string ⟨#[c]⟩]) ⟨_, Tryd.func165, rfl, by decide +kernel⟩ rfl fun w _ => (Tryd.strings_Index_one s c w).mono fun e w' ⟨h1, h2⟩ => ⟨h1, by rw [h2]; exact Below.refl _ _⟩
theorem cutSuffix_ctr (g : GP) (s p : ByteArray) (hs : s.size < 2 ^ 62) : Ctr (ax g).E 109 [.str s, .str p] [] fun o => o = .ret (.tup [.str ⟨(Lib.trimSuffix s.data.toList p.data.toList).toArray⟩, .bool (Lib.hasSuffix s.data.toList p.data.toList)]) [] :=
  Ctr.ofVals (E := (ax g).E) (f := 109) (xs := [.string s, .string p]) (ys := [.string _, .bool _]) ⟨_, Tryd.func109, rfl, by decide +kernel⟩ (by simp [Value.oneCell']) fun w _ => (Tryd.strings_CutSuffix s p w (by omega)).mono fun e w' ⟨h1, h2⟩ => ⟨h1, by rw [h2]; exact Below.refl _ _⟩

/-- The variables of errors. -/
structure ErrG (w : World) : Prop where
  syn : ∃ tp p, w.var? Tryd.prog "strconv.ErrSyntax" = some #[.iface tp p]
  rng : ∃ tp p, w.var? Tryd.prog "strconv.ErrRange" = some #[.iface tp p]
theorem atoi_cases (l : List UInt8) : (∃ v, Lib.atoiAll l = .ok v) ∨ ((∀ v, Lib.atoiAll l ≠ .ok v) ∧ Lib.atoiAll l ≠ .range) ∨ Lib.atoiAll l = .range := by
  cases Lib.atoiAll l <;> simp
def atoiV (l : List UInt8) : AV := match Lib.atoiAll l with
  | .ok v => .tup [.i64 v, .d (.v .nilIface)]
  | _ => .tup [.junk, .ifc 210 .junk]
theorem atoiV_bad {l : List UInt8} (h : ∀ v, Lib.atoiAll l ≠ .ok v) : atoiV l = .tup [.junk, .ifc 210 .junk] := by
  unfold atoiV
  cases hx : Lib.atoiAll l <;> first | rfl | exact absurd hx (h _)
theorem atoiV_ok {l : List UInt8} {v : Int} (h : Lib.atoiAll l = .ok v) : atoiV l = .tup [.i64 v, .d (.v .nilIface)] := by unfold atoiV; rw [h]
theorem RA.tup2 {h : Nat → Option Obj} {Im : Nat → Prop} {ρ : Nat → Option Loc} {a b : Value} {x y : AV} (h1 : RA h Im ρ a x) (h2 : RA h Im ρ b y) : RA h Im ρ (.tuple #[a, b]) (.tup [x, y]) :=
  .tup _ _ rfl fun i v z e1 e2 => by
    match i, e1, e2 with
    | 0, e1, e2 => simp at e1 e2; subst e1; subst e2; exact h1
    | 1, e1, e2 => simp at e1 e2; subst e1; subst e2; exact h2
    | i + 2, e1, _ => simp at e1
theorem atoi_ctr (g : GP) (hg : ∀ w, g.G w → ErrG w) (s : ByteArray) (hs : s.size ≤ 281474976710656) : Ctr (ax g).E 111 [.str s] [] fun o => o = .ret (atoiV s.data.toList) [] := by
  have hb : Bodied (ax g).E.P 111 := ⟨_, Tryd.func111, rfl, by decide +kernel⟩
  rcases atoi_cases s.data.toList with ⟨v, h⟩ | ⟨h, h'⟩ | h
  · rw [atoiV_ok h]
    refine Ctr.ofAny (xs := [.string s]) hb (fun r => rfl) fun w hG => (Tryd.strconv_Atoi_ok s (by omega) v h w).mono fun e w' ⟨h1, h2⟩ => ⟨_, h1, fun h Im ρ => .tup2 (.d _ _ (.v _ rfl)) (.d _ _ (.v _ rfl)), ?_⟩
    rcases h2 with h2 | ⟨t, h2⟩
    · rw [h2]; exact Below.refl _ _
    · rw [h2]; exact Go.Joins.below_bytesWorld _ _ _ _ (Nat.le_refl _)
  · rw [atoiV_bad h]
    refine Ctr.ofAny (xs := [.string s]) hb (fun r => rfl) fun w hG => ?_
    obtain ⟨tp, p, hv⟩ := (hg w hG).syn
    exact (Tryd.strconv_Atoi_syntax_var s hs h h' tp p w hv).mono fun e w' ⟨N, h1, _, _, h2⟩ => ⟨_, h1, fun h Im ρ => .tup2 (.junk _) (.ifc _ _ _ (.junk _)), h2⟩
  · rw [atoiV_bad (by rw [h]; intro v hv; cases hv)]
    refine Ctr.ofAny (xs := [.string s]) hb (fun r => rfl) fun w hG => ?_
    obtain ⟨tp, p, hv⟩ := (hg w hG).rng
    exact (Tryd.strconv_Atoi_range_var s hs h tp p w hv).mono fun e w' ⟨N, h1, _, _, h2⟩ => ⟨_, h1, fun h Im ρ => .tup2 (.junk _) (.ifc _ _ _ (.junk _)), h2⟩

theorem gDeb : Tryd.prog.globalNamed "math/bits.deBruijn64tab" = some 2 := by kernel_rfl
theorem tz_ctr (g : GP) (hg : ∀ w, g.G w → Lib.TabIs Tryd.prog w "math/bits.deBruijn64tab" .u8 Tryd.deB) (s : BitVec 64) : Ctr (ax g).E 107 [.u64 s] [] (fun o => o = .ret (.i64 (Lib.ctz 64 s.toNat : Nat)) []) :=
  Ctr.ofVal (E := (ax g).E) (f := 107) (xs := [.int .u64 s.toNat]) ⟨_, Tryd.func107, rfl, by decide +kernel⟩ rfl fun w hG => (Tryd.bits_TrailingZeros64 s.toNat s.isLt w fun _ j hj => by
    have h1 := (hg w hG).cell gDeb j hj
    have h2 : ∀ j, j < 64 → Tryd.deB.getD j 0 = ((Lib.deBruijn64tab.getD j 0 : Nat) : Int) := by decide +kernel
    rw [h1, h2 j hj]).mono fun e w' ⟨h1, h2⟩ => ⟨h1, by rw [h2]; exact Below.refl _ _⟩
end Go.Ax
