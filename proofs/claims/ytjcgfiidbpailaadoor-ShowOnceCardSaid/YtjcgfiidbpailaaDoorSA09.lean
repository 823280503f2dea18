/- What the card of this claim stands on, or the card itself: for every input, as the given row says. -/
import Derived.Below
import Derived.Shelf.Strings.Builder1
import Derived.Shelf.Strings.Builder2
import Derived.Shelf.Strings.OnBuilder
import Derived.Shelf.Small.Utf8
import Derived.Shelf.Small.Strs
import Derived.Shelf.Small.Wraps
import Derived.Shelf.Strings.BuilderF
import Derived.Shelf.Strings.BuilderK
import Derived.Shelf.Utf8.RuneCount
import Derived.Shelf.Strconv.Atoi
import Derived.Shelf.Strconv.Itoa0
import Derived.Shelf.Strconv.Itoa1
import Derived.Shelf.LaysM
import Derived.Shelf.Strconv.Itoa2
import Derived.Shelf.Strconv.Itoa3
import Derived.Shelf.Strconv.AtoiErrFast
import Derived.Shelf.Strconv.ParseIntEmpty
import Derived.Shelf.Strconv.AtoiFail
import Derived.Shelf.Strconv.Clone
import Derived.Shelf.Strconv.SyntaxError
import Derived.Shelf.LaysC
import Derived.Shelf.Strconv.ToError
import Derived.Shelf.Strconv.Lower
import Derived.Shelf.Strconv.ParseUint10
import Derived.Shelf.Strconv.ParseUint10Empty
import Derived.Shelf.Strconv.ParseUint10Any
import Derived.Shelf.Strconv.ParseInt10
import Derived.Shelf.Strconv.AtoiLong
import Derived.Shelf.Strconv.AtoiInnerAll
import Derived.Shelf.Strconv.RangeError
import Derived.Shelf.Strconv.ToErrorRange
import Derived.Shelf.Strconv.AtoiAll
import Derived.Shelf.Strconv.ErrVarAll
import Derived.Ground.MpProg
import Derived.Shelf.Pu.ParseUintPublic10
import Derived.Shelf.Pu.ErrVarParseUint
import Derived.Shelf.Strings.Search1
import Derived.Shelf.Strings.Search2
import Derived.Shelf.Strings.Search3
import Derived.Shelf.Strings.Cut
import Derived.Shelf.Strings.Count
import Derived.Shelf.Strings.Shaped
import Derived.Shelf.Strings.Prefix
import Derived.Shelf.Unicode.Props
import Derived.Shelf.Unicode.PropsLaid
import Derived.Shelf.Unicode.Decode
import Derived.Shelf.Strings.Runes
import Derived.Shelf.Strings.RuneCount
import Derived.Shelf.Strings.AsciiSet
import Derived.Shelf.Unicode.DecodeSlow
import Derived.Shelf.Unicode.DecodeAny
import Derived.Shelf.Unicode.Is16White
import Derived.Shelf.Unicode.IsSpaceAny
import Derived.Shelf.Unicode.DecodeLast
import Derived.Shelf.Unicode.Is16Any
import Derived.Shelf.Unicode.Is32Any
import Derived.Shelf.Unicode.ExclAny
import Derived.Shelf.Unicode.PredsAny
import Derived.Shelf.Unicode.PredsPay
import Derived.Shelf.Unicode.ValidAny
import Derived.Test.YtjcgfiidbpailaaDoorProg
import Derived.Test.YtjcgfiidbpailaaDoorRows
import Derived.Test.YtjcgfiidbpailaaDoorCards
import Derived.Test.YtjcgfiidbpailaaDoorTie
import Derived.WalkKit
import Derived.ProofKit
import Derived.OpenShut
import Derived.Carry
import Derived.ChangeMaps
import Derived.Deep.DeepHandedRow
import Derived.Deep.DeepWitnessRowRef
import Derived.Lib.LaidU8
import Derived.Lib.LaidRTab
import Derived.Lib.LaidIn
import Derived.Lib.LaidTab
import Derived.Lib.SmallJoins
import Derived.PinnedBridge
import Derived.Shelf.Unicode.DecodeLastEight
import Derived.Lib.RuneCount
import Derived.Test.YtjcgfiidbpailaaDoorSA06
import Derived.Test.YtjcgfiidbpailaaDoorSA07
import Derived.Test.YtjcgfiidbpailaaDoorSA08
namespace Go.Ax
open Go.RowKit
theorem after_below {w w' : World} {Im : Nat → Prop} {ρ : Nat → Option Loc} (hIm : ∀ b, Im b → b < w.heap.size) (h : Below w.heap.size w w') : After w Im ρ [] w' Im (fun _ => none) [] where
  grows := ⟨h.size, h.os, h.tape, h.output, fun b hb _ => h.block b hb⟩
  im := fun b hb => hb
  imn := fun b hb => ⟨Nat.lt_of_lt_of_le (hIm b hb) h.size, .inl hb⟩
  rel := ⟨fun r o hr => by simp [lkH] at hr, fun r r' o o' l l' hr => by simp [lkH] at hr⟩
  anc := fun r o hr => by simp [lkH] at hr
  cl := fun r o hr => by simp [lkH] at hr
def vals (xs : List Value) : List AV := xs.map fun x => .d (.v x)
theorem args_vals {h : Nat → Option Obj} {Im : Nat → Prop} {ρ : Nat → Option Loc} {vs : Array Value} {xs : List Value} (hsz : vs.size = (vals xs).length) (hra : ∀ (i : Nat) (v : Value) (x : AV), vs[i]? = some v → (vals xs)[i]? = some x → RA h Im ρ v x) : vs = xs.toArray := by
  have hl : vs.size = xs.length := by rw [hsz]; simp [vals]
  apply Array.ext (by simpa using hl)
  intro i h1 h2
  have hx : (vals xs)[i]? = some (.d (.v xs[i])) := by simp [vals, List.getElem?_eq_getElem (show i < xs.length by omega)]
  have := hra i vs[i] _ (Array.getElem?_eq_getElem h1) hx
  simpa using this.v
theorem Ctr.ofVal {E : Env} {f : FuncId} {xs : List Value} {v : Value} (hb : Bodied E.P f) (hv : v.oneCell' = true) (h : ∀ w, E.G w → Calls E.P f xs.toArray w fun e w' => e = .returned v ∧ Below w.heap.size w w') : Ctr E f (vals xs) [] fun o => o = .ret (.d (.v v)) [] := by
  refine ⟨hb, fun w Im ρ vs hG hIm hgl hsz hra hrel => ?_⟩
  rw [args_vals hsz hra]
  refine (h w hG).mono fun e w' ⟨he, hB⟩ => ?_
  subst he
  exact ⟨_, [], Im, _, rfl, RA.intv v hv, fun r hr => by simp [AV.ment] at hr, after_below hIm hB⟩
theorem Ctr.ofVals {E : Env} {f : FuncId} {xs ys : List Value} (hb : Bodied E.P f) (hv : ∀ y ∈ ys, y.oneCell' = true) (h : ∀ w, E.G w → Calls E.P f xs.toArray w fun e w' => e = .returned (.tuple ys.toArray) ∧ Below w.heap.size w w') : Ctr E f (vals xs) [] fun o => o = .ret (.tup (vals ys)) [] := by
  refine ⟨hb, fun w Im ρ vs hG hIm hgl hsz hra hrel => ?_⟩
  rw [args_vals hsz hra]
  refine (h w hG).mono fun e w' ⟨he, hB⟩ => ?_
  subst he
  refine ⟨_, [], Im, _, rfl, .tup _ _ (by simp [vals]) fun i v x h1 h2 => ?_, fun r hr => ?_, after_below hIm hB⟩
  · simp only [vals, List.getElem?_map, Option.map_eq_some_iff] at h2
    obtain ⟨y, hy, rfl⟩ := h2
    have : y = v := by simpa [hy] using h1
    subst this
    exact RA.intv _ (hv _ (List.mem_of_getElem? hy))
  · have : ∀ l : List Value, AV.ment.mentL r (vals l) = false := fun l => by
      induction l with
      | nil => rfl
      | cons y l ih => simpa [vals, AV.ment.mentL, AV.ment] using ih
    simp only [AV.ment, this] at hr
    exact absurd hr (by simp)
end Go.Ax
namespace Go.Proofs
open Go.Shelf
def Tryd.lays156_ren : Go.Shelf.Ren := ⟨fun | 156 => 41 | 165 => 68 | 166 => 34 | 169 => 38 | 240 => 63 | 241 => 95 | 276 => 93 | 277 => 134 | n => n, fun | 31 => 35 | 9 => 9 | 3 => 3 | 4 => 4 | 0 => 0 | 20 => 20 | 72 => 83 | 76 => 88 | 70 => 80 | 37 => 81 | 75 => 87 | 127 => 131 | 164 => 158 | 5 => 5 | 80 => 95 | n => n, fun | n => n⟩
theorem Tryd.lays156 : Go.Proofs.Lays.n156 Tryd.prog Tryd.lays156_ren := {
  mixed := by kernel_rfl
  f156 := Tryd.func41.trans (congrArg some (by kernel_rfl))
  f165 := Tryd.func68.trans (congrArg some (by kernel_rfl))
  f166 := Tryd.func34.trans (congrArg some (by kernel_rfl))
  f169 := Tryd.func38.trans (congrArg some (by kernel_rfl))
  f240 := Tryd.func63.trans (congrArg some (by kernel_rfl))
  f241 := Tryd.func95.trans (congrArg some (by kernel_rfl))
  f276 := Tryd.func93.trans (congrArg some (by kernel_rfl))
  f277 := Tryd.func134.trans (congrArg some (by kernel_rfl))
  t0 := Tryd.underlying0
  a0 := Tryd.isAgg0
  z0 := Tryd.sizeOf0
  v0 := Tryd.zeroValue0
  t3 := Tryd.underlying3
  a3 := Tryd.isAgg3
  z3 := Tryd.sizeOf3
  v3 := Tryd.zeroValue3
  t4 := Tryd.underlying4
  a4 := Tryd.isAgg4
  z4 := Tryd.sizeOf4
  v4 := Tryd.zeroValue4
  t9 := Tryd.underlying9
  a9 := Tryd.isAgg9
  z9 := Tryd.sizeOf9
  v9 := Tryd.zeroValue9
  t20 := Tryd.underlying20
  a20 := Tryd.isAgg20
  z20 := Tryd.sizeOf20
  v20 := Tryd.zeroValue20
  t31 := Tryd.underlying35
  a31 := Tryd.isAgg35
  z31 := Tryd.sizeOf35
  v31 := Tryd.zeroValue35
  t37 := Tryd.underlying81
  a37 := Tryd.isAgg81
  z37 := Tryd.sizeOf81
  v37 := Tryd.zeroValue81
  t70 := Tryd.underlying80
  a70 := Tryd.isAgg80
  z70 := Tryd.sizeOf80
  v70 := Tryd.zeroValue80
  t72 := Tryd.underlying83
  a72 := Tryd.isAgg83
  z72 := Tryd.sizeOf83
  v72 := Tryd.zeroValue83
  t75 := Tryd.underlying87
  a75 := Tryd.isAgg87
  z75 := Tryd.sizeOf87
  v75 := Tryd.zeroValue87
  t76 := Tryd.underlying88
  a76 := Tryd.isAgg88
  z76 := Tryd.sizeOf88
  v76 := Tryd.zeroValue88
  t127 := Tryd.underlying131
  a127 := Tryd.isAgg131
  z127 := Tryd.sizeOf131
  v127 := Tryd.zeroValue131
  t164 := Tryd.underlying158
  a164 := Tryd.isAgg158
  z164 := Tryd.sizeOf158
  v164 := Tryd.zeroValue158 }
theorem Tryd.Builder_Extra_156 : Builder.Extra Tryd.prog Tryd.lays156_ren := {
  sizeBuilder := by kernel_rfl
  liesBuilder := by kernel_rfl
  t5 := Tryd.underlying5
  a5 := Tryd.isAgg5
  z5 := Tryd.sizeOf5
  v5 := Tryd.zeroValue5
  infoByte := by kernel_rfl
  cellsByte := by kernel_rfl
  sizeByte := by kernel_rfl
  neB5 := by decide }
def Tryd.lays171_ren : Go.Shelf.Ren := ⟨fun | 171 => 40 | 243 => 67 | 246 => 94 | 283 => 130 | 284 => 131 | 285 => 132 | 286 => 133 | 129 => 159 | 317 => 158 | 318 => 160 | 319 => 161 | 320 => 162 | 337 => 175 | 338 => 176 | n => n, fun | 3 => 3 | 9 => 9 | 2 => 2 | 4 => 4 | 171 => 188 | 0 => 0 | 53 => 141 | 37 => 81 | 5 => 5 | 173 => 191 | 212 => 219 | 51 => 176 | 20 => 20 | 213 => 220 | 46 => 149 | 232 => 239 | 233 => 240 | n => n, fun | 17 => 5 | 18 => 8 | 19 => 9 | n => n⟩
def Tryd.lays195_ren : Go.Shelf.Ren := ⟨fun | 195 => 80 | n => n, fun | 9 => 9 | 3 => 3 | 0 => 0 | 4 => 4 | n => n, fun | n => n⟩
theorem Tryd.lays195 : Go.Proofs.Lays.n195 Tryd.prog Tryd.lays195_ren := {
  mixed := by kernel_rfl
  f195 := Tryd.func80.trans (congrArg some (by kernel_rfl))
  t0 := Tryd.underlying0
  a0 := Tryd.isAgg0
  z0 := Tryd.sizeOf0
  v0 := Tryd.zeroValue0
  t3 := Tryd.underlying3
  a3 := Tryd.isAgg3
  z3 := Tryd.sizeOf3
  v3 := Tryd.zeroValue3
  t4 := Tryd.underlying4
  a4 := Tryd.isAgg4
  z4 := Tryd.sizeOf4
  v4 := Tryd.zeroValue4
  t9 := Tryd.underlying9
  a9 := Tryd.isAgg9
  z9 := Tryd.sizeOf9
  v9 := Tryd.zeroValue9 }
def Tryd.lays197_ren : Go.Shelf.Ren := ⟨fun | 197 => 50 | 260 => 77 | n => n, fun | 9 => 9 | 21 => 21 | 3 => 3 | 4 => 4 | 5 => 5 | 105 => 111 | 119 => 145 | 0 => 0 | 46 => 149 | 139 => 148 | 138 => 147 | n => n, fun | 3 => 0 | 4 => 1 | n => n⟩
theorem Tryd.lays197 : Go.Proofs.Lays.n197 Tryd.prog Tryd.lays197_ren := {
  mixed := by kernel_rfl
  f197 := Tryd.func50.trans (congrArg some (by kernel_rfl))
  f260 := Tryd.func77.trans (congrArg some (by kernel_rfl))
  t0 := Tryd.underlying0
  a0 := Tryd.isAgg0
  z0 := Tryd.sizeOf0
  v0 := Tryd.zeroValue0
  t3 := Tryd.underlying3
  a3 := Tryd.isAgg3
  z3 := Tryd.sizeOf3
  v3 := Tryd.zeroValue3
  t4 := Tryd.underlying4
  a4 := Tryd.isAgg4
  z4 := Tryd.sizeOf4
  v4 := Tryd.zeroValue4
  t5 := Tryd.underlying5
  a5 := Tryd.isAgg5
  z5 := Tryd.sizeOf5
  v5 := Tryd.zeroValue5
  t9 := Tryd.underlying9
  a9 := Tryd.isAgg9
  z9 := Tryd.sizeOf9
  v9 := Tryd.zeroValue9
  t21 := Tryd.underlying21
  a21 := Tryd.isAgg21
  z21 := Tryd.sizeOf21
  v21 := Tryd.zeroValue21
  t46 := Tryd.underlying149
  a46 := Tryd.isAgg149
  z46 := Tryd.sizeOf149
  v46 := Tryd.zeroValue149
  t105 := Tryd.underlying111
  a105 := Tryd.isAgg111
  z105 := Tryd.sizeOf111
  v105 := Tryd.zeroValue111
  t119 := Tryd.underlying145
  a119 := Tryd.isAgg145
  z119 := Tryd.sizeOf145
  t138 := Tryd.underlying147
  a138 := Tryd.isAgg147
  z138 := Tryd.sizeOf147
  v138 := Tryd.zeroValue147
  t139 := Tryd.underlying148
  a139 := Tryd.isAgg148
  z139 := Tryd.sizeOf148
  v139 := Tryd.zeroValue148
  g3 := by kernel_rfl
  g4 := by kernel_rfl }
def Tryd.lays200_ren : Go.Shelf.Ren := ⟨fun | 200 => 78 | 261 => 114 | 311 => 152 | 312 => 153 | n => n, fun | 21 => 21 | 4 => 4 | 51 => 176 | 5 => 5 | 119 => 145 | 0 => 0 | 141 => 178 | 196 => 208 | 193 => 205 | 3 => 3 | 198 => 210 | 49 => 22 | 194 => 206 | 201 => 213 | 226 => 230 | 46 => 149 | 227 => 231 | n => n, fun | 7 => 2 | 8 => 3 | n => n⟩
theorem Tryd.lays200 : Go.Proofs.Lays.n200 Tryd.prog Tryd.lays200_ren := {
  mixed := by kernel_rfl
  f200 := Tryd.func78.trans (congrArg some (by kernel_rfl))
  f261 := Tryd.func114.trans (congrArg some (by kernel_rfl))
  f311 := Tryd.func152.trans (congrArg some (by kernel_rfl))
  f312 := Tryd.func153.trans (congrArg some (by kernel_rfl))
  t0 := Tryd.underlying0
  a0 := Tryd.isAgg0
  z0 := Tryd.sizeOf0
  v0 := Tryd.zeroValue0
  t3 := Tryd.underlying3
  a3 := Tryd.isAgg3
  z3 := Tryd.sizeOf3
  v3 := Tryd.zeroValue3
  t4 := Tryd.underlying4
  a4 := Tryd.isAgg4
  z4 := Tryd.sizeOf4
  v4 := Tryd.zeroValue4
  t5 := Tryd.underlying5
  a5 := Tryd.isAgg5
  z5 := Tryd.sizeOf5
  v5 := Tryd.zeroValue5
  t21 := Tryd.underlying21
  a21 := Tryd.isAgg21
  z21 := Tryd.sizeOf21
  v21 := Tryd.zeroValue21
  t46 := Tryd.underlying149
  a46 := Tryd.isAgg149
  z46 := Tryd.sizeOf149
  v46 := Tryd.zeroValue149
  t49 := Tryd.underlying22
  a49 := Tryd.isAgg22
  z49 := Tryd.sizeOf22
  v49 := Tryd.zeroValue22
  t51 := Tryd.underlying176
  a51 := Tryd.isAgg176
  z51 := Tryd.sizeOf176
  v51 := Tryd.zeroValue176
  t119 := Tryd.underlying145
  a119 := Tryd.isAgg145
  z119 := Tryd.sizeOf145
  t141 := Tryd.underlying178
  a141 := Tryd.isAgg178
  z141 := Tryd.sizeOf178
  v141 := Tryd.zeroValue178
  t193 := Tryd.underlying205
  a193 := Tryd.isAgg205
  z193 := Tryd.sizeOf205
  v193 := Tryd.zeroValue205
  t194 := Tryd.underlying206
  a194 := Tryd.isAgg206
  z194 := Tryd.sizeOf206
  v194 := Tryd.zeroValue206
  t196 := Tryd.underlying208
  a196 := Tryd.isAgg208
  z196 := Tryd.sizeOf208
  v196 := Tryd.zeroValue208
  t198 := Tryd.underlying210
  a198 := Tryd.isAgg210
  z198 := Tryd.sizeOf210
  v198 := Tryd.zeroValue210
  t201 := Tryd.underlying213
  a201 := Tryd.isAgg213
  z201 := Tryd.sizeOf213
  v201 := Tryd.zeroValue213
  t226 := Tryd.underlying230
  a226 := Tryd.isAgg230
  z226 := Tryd.sizeOf230
  v226 := Tryd.zeroValue230
  t227 := Tryd.underlying231
  a227 := Tryd.isAgg231
  z227 := Tryd.sizeOf231
  v227 := Tryd.zeroValue231
  g7 := by kernel_rfl
  g8 := by kernel_rfl }
def Tryd.lays99_ren : Go.Shelf.Ren := ⟨fun | 99 => 82 | 206 => 115 | n => n, fun | 9 => 9 | 4 => 4 | 3 => 3 | n => n, fun | n => n⟩
theorem Tryd.lays99 : Go.Proofs.Lays.n99 Tryd.prog Tryd.lays99_ren := {
  mixed := by kernel_rfl
  f99 := Tryd.func82.trans (congrArg some (by kernel_rfl))
  f206 := Tryd.func115.trans (congrArg some (by kernel_rfl))
  t3 := Tryd.underlying3
  a3 := Tryd.isAgg3
  z3 := Tryd.sizeOf3
  v3 := Tryd.zeroValue3
  t4 := Tryd.underlying4
  a4 := Tryd.isAgg4
  z4 := Tryd.sizeOf4
  v4 := Tryd.zeroValue4
  t9 := Tryd.underlying9
  a9 := Tryd.isAgg9
  z9 := Tryd.sizeOf9
  v9 := Tryd.zeroValue9 }
def Tryd.laysM171_ren : Go.Shelf.Ren := ⟨fun | 171 => 40 | 243 => 67 | 246 => 94 | 283 => 130 | 284 => 131 | 285 => 132 | 286 => 133 | 129 => 159 | 317 => 158 | 318 => 160 | 319 => 161 | 320 => 162 | 337 => 175 | 338 => 176 | n => n, fun | 3 => 3 | 9 => 9 | 2 => 2 | 4 => 4 | 171 => 188 | 0 => 0 | 53 => 141 | 37 => 81 | 5 => 5 | 173 => 191 | 212 => 219 | 51 => 176 | 20 => 20 | 213 => 220 | 46 => 149 | 232 => 239 | 233 => 240 | n => n, fun | 17 => 5 | 18 => 8 | 19 => 9 | n => n⟩
theorem Tryd.laysM171 : Go.Proofs.LaysM.n171 Tryd.prog Tryd.laysM171_ren := {
  mixed := by kernel_rfl
  f129 := Tryd.func159.trans (congrArg some (by kernel_rfl))
  f171 := Tryd.func40.trans (congrArg some (by kernel_rfl))
  f243 := Tryd.func67.trans (congrArg some (by kernel_rfl))
  f246 := Tryd.func94.trans (congrArg some (by kernel_rfl))
  f283 := Tryd.func130.trans (congrArg some (by kernel_rfl))
  f284 := Tryd.func131.trans (congrArg some (by kernel_rfl))
  f285 := Tryd.func132.trans (congrArg some (by kernel_rfl))
  f286 := Tryd.func133.trans (congrArg some (by kernel_rfl))
  f317 := Tryd.func158.trans (congrArg some (by kernel_rfl))
  f318 := Tryd.func160.trans (congrArg some (by kernel_rfl))
  f319 := Tryd.func161.trans (congrArg some (by kernel_rfl))
  f320 := Tryd.func162.trans (congrArg some (by kernel_rfl))
  f337 := Tryd.func175.trans (congrArg some (by kernel_rfl))
  f338 := Tryd.func176.trans (congrArg some (by kernel_rfl))
  t0 := Tryd.underlying0
  a0 := Tryd.isAgg0
  z0 := Tryd.sizeOf0
  v0 := Tryd.zeroValue0
  t2 := Tryd.underlying2
  a2 := Tryd.isAgg2
  z2 := Tryd.sizeOf2
  v2 := Tryd.zeroValue2
  t3 := Tryd.underlying3
  a3 := Tryd.isAgg3
  z3 := Tryd.sizeOf3
  v3 := Tryd.zeroValue3
  t4 := Tryd.underlying4
  a4 := Tryd.isAgg4
  z4 := Tryd.sizeOf4
  v4 := Tryd.zeroValue4
  t5 := Tryd.underlying5
  a5 := Tryd.isAgg5
  z5 := Tryd.sizeOf5
  v5 := Tryd.zeroValue5
  t9 := Tryd.underlying9
  a9 := Tryd.isAgg9
  z9 := Tryd.sizeOf9
  v9 := Tryd.zeroValue9
  t20 := Tryd.underlying20
  a20 := Tryd.isAgg20
  z20 := Tryd.sizeOf20
  v20 := Tryd.zeroValue20
  t37 := Tryd.underlying81
  a37 := Tryd.isAgg81
  z37 := Tryd.sizeOf81
  v37 := Tryd.zeroValue81
  t46 := Tryd.underlying149
  a46 := Tryd.isAgg149
  z46 := Tryd.sizeOf149
  v46 := Tryd.zeroValue149
  t51 := Tryd.underlying176
  a51 := Tryd.isAgg176
  z51 := Tryd.sizeOf176
  v51 := Tryd.zeroValue176
  t53 := Tryd.underlying141
  a53 := Tryd.isAgg141
  z53 := Tryd.sizeOf141
  v53 := Tryd.zeroValue141
  t171 := Tryd.underlying188
  a171 := Tryd.isAgg188
  z171 := Tryd.sizeOf188
  v171 := Tryd.zeroValue188
  t173 := Tryd.underlying191
  a173 := Tryd.isAgg191
  z173 := Tryd.sizeOf191
  v173 := Tryd.zeroValue191
  t212 := Tryd.underlying219
  a212 := Tryd.isAgg219
  z212 := Tryd.sizeOf219
  v212 := Tryd.zeroValue219
  t213 := Tryd.underlying220
  a213 := Tryd.isAgg220
  z213 := Tryd.sizeOf220
  t232 := Tryd.underlying239
  a232 := Tryd.isAgg239
  z232 := Tryd.sizeOf239
  v232 := Tryd.zeroValue239
  t233 := Tryd.underlying240
  a233 := Tryd.isAgg240
  z233 := Tryd.sizeOf240
  v233 := Tryd.zeroValue240
  g17 := by kernel_rfl
  g18 := by kernel_rfl
  g19 := by kernel_rfl
  i0 := by kernel_rfl
  i2 := by kernel_rfl
  i3 := by kernel_rfl
  i4 := by kernel_rfl
  i5 := by kernel_rfl
  i9 := by kernel_rfl
  i20 := by kernel_rfl
  i37 := by kernel_rfl
  i46 := by kernel_rfl
  i51 := by kernel_rfl
  i53 := by kernel_rfl
  i171 := by kernel_rfl
  i173 := by kernel_rfl
  i212 := by kernel_rfl
  i232 := by kernel_rfl
  i233 := by kernel_rfl
  m17 := by kernel_rfl
  m18 := by kernel_rfl
  m19 := by kernel_rfl }
open Go.RowKit in
theorem Tryd.strings_Join_none (a : Option Addr) (c : Nat) (sep : ByteArray) (w : World) :
    Calls Tryd.prog 41 #[.slice a 0 c, .string sep] w fun e w' => e = .returned (.string ⟨#[]⟩) ∧ w' = w := Any.strings_Join_none Tryd.lays156 Tryd.Builder_Extra_156 a c sep w
open Go.RowKit in
theorem Tryd.strings_Join (bk o c : Nat) (xs : List ByteArray) (sep : ByteArray) (w : World) (hcells : ∀ (j : Nat) x, xs[j]? = some x → w.cell? ⟨bk, o + j, none⟩ = some (.string x)) (hbk : bk < w.heap.size) (hN : xs.length ≤ 140737488355328) (hcap : xs.length ≤ c) (hlen : (Lib.join (xs.map (·.data.toList)) sep.data.toList).length ≤ 140737488355328) :
    Calls Tryd.prog 41 #[.slice (some ⟨bk, o, none⟩) xs.length c, .string sep] w fun e w' => e = .returned (.string ⟨(Lib.join (xs.map (·.data.toList)) sep.data.toList).toArray⟩) ∧ Below w.heap.size w w' := Any.strings_Join Tryd.lays156 Tryd.Builder_Extra_156 bk o c xs sep w hcells hbk hN hcap hlen
open Go.RowKit in
theorem Tryd.utf8_RuneCountInString (s : ByteArray) (w : World) (hs : s.size < 9223372036854775807) :
    Calls Tryd.prog 80 #[.string s] w fun e w' => e = .returned (.int .i64 (Lib.runeCount s)) ∧ ∃ pos, w' = w.iter s pos := Any.utf8_RuneCountInString Tryd.lays195 s w hs
open Go.RowKit Go.Sort Go.Lib in
theorem Tryd.strconv_Itoa (n : Int) (h0 : -9223372036854775808 ≤ n) (h1 : n ≤ 9223372036854775807) (w : World) (htab : Lib.TabIs Tryd.prog w "internal/strconv.uint64pow10" .u64 Lib.pow10Tab) :
    Calls Tryd.prog 40 #[.int .i64 n] w fun e w' => e = .returned (.string ⟨(Lib.itoa n).toArray⟩) ∧ ∃ k os, w' = grow (w.drewN k) os := Any.strconv_Itoa Tryd.laysM171 n h0 h1 w htab
open Go.RowKit Go.Lib in
theorem Tryd.strings_HasPrefix (s p : ByteArray) (w : World) :
    Calls Tryd.prog 82 #[.string s, .string p] w fun e w' => e = .returned (.bool (Lib.hasPrefix s.data.toList p.data.toList)) ∧ w' = w := Any.strings_HasPrefix Tryd.lays99 s p w
open Go.RowKit Go.Lib in
theorem Tryd.utf8_DecodeRuneInString (s : ByteArray) (w : World) (hT : Lib.Utf8Tabs 0 1 w) :
    Calls Tryd.prog 50 #[.string s] w fun e w' => e = .returned (.tuple #[.int .i32 (Lib.decodeGo s).1, .int .i64 (Lib.decodeGo s).2]) ∧ Below w.heap.size w w' := Any.utf8_DecodeRuneInString Tryd.lays197 s w hT
open Go.RowKit Go.Lib in
theorem Tryd.unicode_IsLetter_all (r : Int) (w : World) (hlo : -2147483648 ≤ r) (hhi : r ≤ 2147483647) (htab : Lib.TabIs Tryd.prog w "unicode.properties" .u8 Lib.propertiesTab) (hV : RVar 3 letterT w) :
    Calls Tryd.prog 78 #[.int .i32 r] w fun e w' => e = .returned (.bool (isLetterU r)) ∧ Below w.heap.size w w' := Any.unicode_IsLetter_all Tryd.lays200 (by kernel_rfl) r w hlo hhi htab hV
def Tryd.laysValid_ren : Go.Shelf.Ren := ⟨fun | 196 => 49 | 259 => 76 | n => n, fun | 9 => 9 | 4 => 4 | 3 => 3 | 5 => 5 | 12 => 12 | 119 => 145 | 0 => 0 | 46 => 149 | 139 => 148 | 138 => 147 | 53 => 141 | n => n, fun | 3 => 0 | 4 => 1 | n => n⟩
theorem Tryd.laysValid : Go.Proofs.Lays.n196 Tryd.prog Tryd.laysValid_ren := {
  mixed := by kernel_rfl
  f196 := Tryd.func49.trans (congrArg some (by kernel_rfl))
  f259 := Tryd.func76.trans (congrArg some (by kernel_rfl))
  t0 := Tryd.underlying0
  a0 := Tryd.isAgg0
  z0 := Tryd.sizeOf0
  v0 := Tryd.zeroValue0
  t3 := Tryd.underlying3
  a3 := Tryd.isAgg3
  z3 := Tryd.sizeOf3
  v3 := Tryd.zeroValue3
  t4 := Tryd.underlying4
  a4 := Tryd.isAgg4
  z4 := Tryd.sizeOf4
  v4 := Tryd.zeroValue4
  t5 := Tryd.underlying5
  a5 := Tryd.isAgg5
  z5 := Tryd.sizeOf5
  v5 := Tryd.zeroValue5
  t9 := Tryd.underlying9
  a9 := Tryd.isAgg9
  z9 := Tryd.sizeOf9
  v9 := Tryd.zeroValue9
  t12 := Tryd.underlying12
  a12 := Tryd.isAgg12
  z12 := Tryd.sizeOf12
  v12 := Tryd.zeroValue12
  t46 := Tryd.underlying149
  a46 := Tryd.isAgg149
  z46 := Tryd.sizeOf149
  v46 := Tryd.zeroValue149
  t53 := Tryd.underlying141
  a53 := Tryd.isAgg141
  z53 := Tryd.sizeOf141
  v53 := Tryd.zeroValue141
  t119 := Tryd.underlying145
  a119 := Tryd.isAgg145
  z119 := Tryd.sizeOf145
  t138 := Tryd.underlying147
  a138 := Tryd.isAgg147
  z138 := Tryd.sizeOf147
  v138 := Tryd.zeroValue147
  t139 := Tryd.underlying148
  a139 := Tryd.isAgg148
  z139 := Tryd.sizeOf148
  v139 := Tryd.zeroValue148
  g3 := by kernel_rfl
  g4 := by kernel_rfl }
open Go.RowKit Go.Lib in
theorem Tryd.utf8_ValidString (s : ByteArray) (w : World) (hs : s.size ≤ 9223372036854775807) (hT : Lib.Utf8Tabs 0 1 w) :
    Calls Tryd.prog 49 #[.string s] w fun e w' => e = .returned (.bool (Lib.validD s.data.toList)) ∧ Below w.heap.size w w' := Any.utf8_ValidString Tryd.laysValid s w hs hT
end Go.Proofs
namespace Go.Ax
open Go.Proofs Go.RowKit Go.Shelf Go.Lib Go.Sort
structure LibG (w : World) : Prop where
  utf8 : Lib.Utf8Tabs 0 1 w
  props : Lib.TabIs Tryd.prog w "unicode.properties" .u8 Lib.propertiesTab
  letter : RVar 3 letterT w
theorem below_grown0 (w : World) (k : Nat) (os : Array Obj) : Below w.heap.size w (grow (w.drewN k) os) := by
  have h := below_drewNv (Below.refl w.heap.size w) k
  have hh : ∀ k, (w.drewN k).heap = w.heap := fun k => by
    induction k with
    | zero => rfl
    | succ k ih => exact ih
  refine ⟨h.os, h.tape, h.output, ?_, fun b hb => ?_⟩
  · show w.heap.size ≤ ((w.drewN k).heap ++ os).size
    rw [hh]; simp
  · show ((w.drewN k).heap ++ os)[b]? = w.heap[b]?
    rw [hh, Array.getElem?_append_left hb]
abbrev PowG (w : World) : Prop := Lib.TabIs Tryd.prog w "internal/strconv.uint64pow10" .u64 Lib.pow10Tab
theorem itoa_ctr (g : GP) (hg : ∀ w, g.G w → PowG w) (i : Nat) (hi : i < 2 ^ 62) : Ctr (ax g).E 40 [.d (.v (.int .i64 i))] [] fun o => o = .ret (.d (.v (.string ⟨(Lib.decDigits i).toArray⟩))) [] :=
  Ctr.ofVal (E := (ax g).E) (f := 40) (xs := [.int .i64 i]) ⟨_, Tryd.func40, rfl, by decide +kernel⟩ rfl fun w hG => (Tryd.strconv_Itoa i (by omega) (by omega) w (hg w hG)).mono fun e w' ⟨h1, k, os, h2⟩ => ⟨by rw [h1, Lib.itoa_nonneg], by rw [h2]; exact below_grown0 w k os⟩
theorem valid_ctr (g : GP) (hg : ∀ w, g.G w → LibG w) (s : ByteArray) (hs : s.size < 2 ^ 62) : Ctr (ax g).E 49 [.d (.v (.string s))] [] fun o => o = .ret (.d (.v (.bool (Lib.validD s.data.toList)))) [] :=
  Ctr.ofVal (E := (ax g).E) (f := 49) (xs := [.string s]) ⟨_, Tryd.func49, rfl, by decide +kernel⟩ rfl fun w hG => Tryd.utf8_ValidString s w (by omega) (hg w hG).utf8
theorem hasPrefix_ctr (g : GP) (s p : ByteArray) : Ctr (ax g).E 82 [.d (.v (.string s)), .d (.v (.string p))] [] fun o => o = .ret (.d (.v (.bool (Lib.hasPrefix s.data.toList p.data.toList)))) [] :=
  Ctr.ofVal (E := (ax g).E) (f := 82) (xs := [.string s, .string p]) ⟨_, Tryd.func82, rfl, by decide +kernel⟩ rfl fun w _ => (Tryd.strings_HasPrefix s p w).mono fun e w' ⟨h1, h2⟩ => ⟨h1, by rw [h2]; exact Below.refl _ _⟩
theorem decode_ctr (g : GP) (hg : ∀ w, g.G w → LibG w) (s : ByteArray) : Ctr (ax g).E 50 [.d (.v (.string s))] [] fun o => o = .ret (.tup [.d (.v (.int .i32 (Lib.decodeGo s).1)), .d (.v (.int .i64 (Lib.decodeGo s).2))]) [] :=
  Ctr.ofVals (E := (ax g).E) (f := 50) (xs := [.string s]) (ys := [.int .i32 _, .int .i64 _]) ⟨_, Tryd.func50, rfl, by decide +kernel⟩ (by simp [Value.oneCell']) fun w hG => Tryd.utf8_DecodeRuneInString s w (hg w hG).utf8
theorem isLetter_ctr (g : GP) (hg : ∀ w, g.G w → LibG w) (r : Int) (hlo : -2147483648 ≤ r) (hhi : r ≤ 2147483647) : Ctr (ax g).E 78 [.d (.v (.int .i32 r))] [] fun o => o = .ret (.d (.v (.bool (isLetterU r)))) [] :=
  Ctr.ofVal (E := (ax g).E) (f := 78) (xs := [.int .i32 r]) ⟨_, Tryd.func78, rfl, by decide +kernel⟩ rfl fun w hG => Tryd.unicode_IsLetter_all r w hlo hhi (hg w hG).props (hg w hG).letter
theorem runeCount_ctr (g : GP) (s : ByteArray) (hs : s.size < 9223372036854775807) : Ctr (ax g).E 80 [.d (.v (.string s))] [] fun o => o = .ret (.d (.v (.int .i64 (Lib.runeCount s)))) [] :=
  Ctr.ofVal (E := (ax g).E) (f := 80) (xs := [.string s]) ⟨_, Tryd.func80, rfl, by decide +kernel⟩ rfl fun w _ => (Tryd.utf8_RuneCountInString s w hs).mono fun e w' ⟨h1, pos, h2⟩ => ⟨h1, by rw [h2]; exact (Below.refl _ w).alloc (Nat.le_refl _) _⟩
end Go.Ax
namespace Go.Ax
open Go.Proofs Go.RowKit Go.Shelf Go.Lib Go.ChangeShapes
abbrev DebG (w : World) : Prop := Lib.TabIs Tryd.prog w "math/bits.deBruijn64tab" .u8 Tryd.deB
theorem gD : Tryd.prog.globalNamed "math/bits.deBruijn64tab" = some 9 := by kernel_rfl
structure Old (W w : World) : Prop where
  os : w.os = W.os
  block : ∀ b, b < W.heap.size → w.heap[b]? = W.heap[b]?
theorem Old.below {W w : World} (h : Old W w) : Below W.heap.size W { w with tape := W.tape, output := W.output } := by
  refine ⟨h.os, rfl, rfl, ?_, h.block⟩
  show W.heap.size ≤ w.heap.size
  rcases Nat.eq_zero_or_pos W.heap.size with h0 | h0
  · omega
  · have h1 := h.block (W.heap.size - 1) (by omega)
    rw [Array.getElem?_eq_getElem (by omega : W.heap.size - 1 < W.heap.size)] at h1
    obtain ⟨h2, _⟩ := Array.getElem?_eq_some_iff.1 h1
    omega
theorem tabIs_old {W w : World} (h : Old W w) {n : String} {k : IntKind} {zs : List Int} {g : Nat} (hg : Tryd.prog.globalNamed n = some g) (ht : Lib.TabIs Tryd.prog W n k zs) : Lib.TabIs Tryd.prog w n k zs :=
  by have h1 := Go.Joins.tab_stays hg ht h.below (Nat.le_refl _); exact h1
theorem LibG.old {W w : World} (h : Old W w) (hl : LibG W) : LibG w where
  utf8 := by have h1 := Utf8Tabs_below hl.utf8 h.below; exact h1
  props := tabIs_old h (by kernel_rfl : Tryd.prog.globalNamed "unicode.properties" = some 2) hl.props
  letter := by have h1 := RVar_below hl.letter h.below; exact h1
theorem PowG.old {W w : World} (h : Old W w) (hl : PowG W) : PowG w := tabIs_old h (by kernel_rfl : Tryd.prog.globalNamed "internal/strconv.uint64pow10" = some 5) hl
theorem deb_cells {w : World} (h : DebG w) : ∃ ms t fz, w.heap[9]? = some (.cells ms t fz) ∧ ∀ (j : Nat) (x : D), (Tryd.deB.map fun n => D.v (.int .u8 n))[j]? = some x → ∃ v, ms[j]? = some v ∧ x = .v v ∧ v.oneCell' = true := by
  have hc := fun i hi => h.cell gD i hi
  have h0 := hc 0 (by decide)
  unfold World.cell? at h0
  cases hb : w.heap[9]? with
  | none => simp [hb] at h0
  | some o =>
    cases o with
    | cells ms t fz =>
      refine ⟨ms, t, fz, rfl, fun j x hx => ?_⟩
      simp only [List.getElem?_map, Option.map_eq_some_iff] at hx
      obtain ⟨n, hn, rfl⟩ := hx
      have hj : j < Tryd.deB.length := (List.getElem?_eq_some_iff.1 hn).1
      have h1 := hc j hj
      refine ⟨.int .u8 n, ?_, rfl, rfl⟩
      unfold World.cell? at h1
      simp only [hb] at h1
      have h2 : ms[j]? = some (.int .u8 (Tryd.deB.getD j 0)) := h1
      rw [h2]
      simp [List.getD, hn]
    | _ => simp [hb] at h0
theorem glOk_of {W : World} (h : DebG W) (hs : 9 < W.heap.size) : GlOk W.heap.size Tryd.gl W := fun p hp => by
  simp only [Tryd.gl, List.mem_singleton] at hp
  subst hp
  exact ⟨hs, deb_cells h⟩
theorem deb_size {W : World} (h : DebG W) : 9 < W.heap.size := by
  obtain ⟨ms, t, fz, h1, _⟩ := deb_cells h
  exact (Array.getElem?_eq_some_iff.1 h1).1
def gpOf (W : World) (h : DebG W) : GP where
  ng := W.heap.size
  gl := Tryd.gl
  G := Old W
  glOk := fun w hw p hp => by
    obtain ⟨h1, ms, t, fz, h2, h3⟩ := glOk_of h (deb_size h) p hp
    exact ⟨h1, ms, t, fz, by rw [hw.block _ h1]; exact h2, h3⟩
  Gst := fun w w' ho hb hw => ⟨ho.trans hw.os, fun b h => (hb b h).trans (hw.block b h)⟩
def gp0 (W : World) : GP where
  ng := W.heap.size
  gl := []
  G := Old W
  glOk := fun w hw p hp => by simp at hp
  Gst := fun w w' ho hb hw => ⟨ho.trans hw.os, fun b h => (hb b h).trans (hw.block b h)⟩
theorem Old.refl (W : World) : Old W W := ⟨rfl, fun _ _ => rfl⟩
theorem calls_of_ctr' {W : World} {g : GP} (e1 : g.ng = W.heap.size) (e2 : g.G = Old W) {f : FuncId} {args : List AV} {v : Value} (hC : Ctr (ax g).E f args [] (fun o => o = .ret (.d (.v v)) [])) (vs : Array Value) (hsz : vs.size = args.length)
    (hra : ∀ (i : Nat) (v : Value) (x : AV), vs[i]? = some v → args[i]? = some x → RA (hp W) (fun b => b < W.heap.size) (fun _ => none) v x) :
    Calls Tryd.prog f vs W fun e w' => e = .returned v ∧ Below W.heap.size W w' := by
  refine (hC.2 W (fun b => b < W.heap.size) (fun _ => none) vs (by show g.G W; rw [e2]; exact Old.refl W) (fun b hb => hb) (fun b hb => by rw [← e1]; exact hb) hsz hra ⟨fun r o h => by simp [lkH] at h, fun r r' o o' l l' h => by simp [lkH] at h⟩).mono fun e w' he => ?_
  cases e with
  | returned u =>
    obtain ⟨res, ho, Im', ρ', h1, h2, h3, A⟩ := he
    injection h1 with e1 e2
    subst e1
    refine ⟨by rw [h2.v], ⟨A.grows.os, A.grows.tape, A.grows.output, A.grows.size, fun b hb => A.grows.block b hb fun ⟨r, o, l, hr, _⟩ => by simp [lkH] at hr⟩⟩
  | panicked ch => obtain ⟨ho, Im', ρ', h1, _⟩ := he; exact absurd h1 (by simp)
  | outgrown => exact he.elim
theorem calls_of_ctr0 {W : World} {f : FuncId} {args : List AV} {v : Value} (hC : Ctr (ax (gp0 W)).E f args [] (fun o => o = .ret (.d (.v v)) [])) (vs : Array Value) (hsz : vs.size = args.length)
    (hra : ∀ (i : Nat) (v : Value) (x : AV), vs[i]? = some v → args[i]? = some x → RA (hp W) (fun b => b < W.heap.size) (fun _ => none) v x) :
    Calls Tryd.prog f vs W fun e w' => e = .returned v ∧ Below W.heap.size W w' := calls_of_ctr' rfl rfl hC vs hsz hra
theorem trodAll_stays {H : Type} {enc : TypeId × Value → H} {P : Program} (hl : laidOutB P = true) {W W' : World} (hb : Below W.heap.size W W') {sp : Nat → Bool} : ∀ {ts : List TypeId} {vs : List Value} {ds : List (DataW H)} {ps : List MemPlace},
    (ts.all fun t => P.readableRec t && decide (t < P.types.size)) = true → DataW.TrodAll enc P W 0 (fun _ => true) true ts vs ds ps → (∀ x ∈ ps, x.block < W.heap.size) → (∀ x ∈ ps, sp x.block = true) → DataW.TrodAll enc P W' 0 sp true ts vs ds ps
  | [], vs, ds, ps, _, h, _, _ => by
    obtain ⟨rfl, rfl, rfl⟩ := trodAll_nil h
    exact trodAll_mk0
  | t :: ts, vs, ds, ps, hr, h, hlt, hsp => by
    obtain ⟨v, vs', d, ds', p, q, rfl, rfl, rfl, h1, h2⟩ := trodAll_cons h
    simp only [List.all_cons, Bool.and_eq_true, decide_eq_true_eq] at hr
    refine trodAll_cons_mk (WideElems.Trod_stays hl hr.1.1 hr.1.2 h1 (fun x hx => hb.same (hlt x (by simp [hx]))) (fun x hx => hsp x (by simp [hx]))) (trodAll_stays hl hb (by simpa using hr.2) h2 (fun x hx => hlt x (by simp [hx])) (fun x hx => hsp x (by simp [hx])))
end Go.Ax
namespace Go.Ax
open Go.Proofs Go.RowKit Go.Shelf Go.Lib Go.ChangeShapes Go.Proofs.YtjcgfiidbpailaaDoor
set_option maxRecDepth 100000
theorem tabIs_of_reads {P : Program} {W : World} {name : String} {k : IntKind} {zs : List Int} {g : Nat} {t e : TypeId} {n : Nat}
    (hg : P.globalNamed name = some g) (hty : (P.globals[g]?).map (·.type) = some t) (ht : P.underlying t = some (.array n e)) (he : P.underlying e = some (.int k)) (hce : P.cellsOf e = 1) (hct : P.cellsOf t = n)
    (h : VarReads P W name (tabData k zs)) : TabIs P W name k zs := by
  obtain ⟨g', t', cs, fuel, p, hg', ht', hvar, hd⟩ := h
  obtain rfl := Option.some.inj (hg.symm.trans hg')
  obtain rfl := Option.some.inj (hty.symm.trans ht')
  unfold TabIs
  rw [hvar, ← cells_of_tab ht he hce hct hd]
theorem andT {a b : Bool} (ha : a = true) (hb : b = true) : (a && b) = true := by rw [ha, hb]; rfl
theorem laidOut : laidOutB Tryd.prog = true := by kernel_rfl
theorem own : ownKnob Tryd.prog.godebug = none := by kernel_rfl
theorem xL : RExtra Tryd.prog Tryd.lays200_ren := ⟨by kernel_rfl, by kernel_rfl, by kernel_rfl, by kernel_rfl, by kernel_rfl, by kernel_rfl, by kernel_rfl, by kernel_rfl⟩
theorem xU : U8Extra Tryd.prog Tryd.lays197_ren := ⟨by kernel_rfl, by kernel_rfl, by kernel_rfl, by kernel_rfl, by kernel_rfl, by kernel_rfl, by kernel_rfl⟩
theorem powG_of {W : World} (h : VarReads Tryd.prog W "internal/strconv.uint64pow10" Rows.laid_internal_strconv_uint64pow10) : PowG W :=
  tabIs_of_reads (k := .u64) (zs := Lib.pow10Tab) (g := 5) (by kernel_rfl) (t := 219) (by kernel_rfl) Tryd.underlying219 Tryd.underlying141 (by kernel_rfl) (by kernel_rfl) h
theorem propG_of {W : World} (h : VarReads Tryd.prog W "unicode.properties" Rows.laid_unicode_properties) : Lib.TabIs Tryd.prog W "unicode.properties" .u8 Lib.propertiesTab :=
  tabIs_of_reads (k := .u8) (zs := Lib.propertiesTab) (g := 2) (by kernel_rfl) (t := 145) (by kernel_rfl) Tryd.underlying145 Tryd.underlying5 (by kernel_rfl) (by kernel_rfl) h
theorem letterG_of {W : World} (h : VarReads Tryd.prog W "unicode.Letter" Rows.laid_unicode_Letter) : RVar 3 letterT W :=
  rvar_of_reads { Tryd.lays200 with } xL (by kernel_rfl) (by kernel_rfl) (by rw [← Pinned.letter_eq]; exact h)
theorem utf8G_of {W : World} (h : VarReads Tryd.prog W "unicode/utf8.first" Rows.laid_unicode_utf8_first) (h' : VarReads Tryd.prog W "unicode/utf8.acceptRanges" Rows.laid_unicode_utf8_acceptRanges) : Lib.Utf8Tabs 0 1 W :=
  utf8Tabs_of_reads { Tryd.lays197 with } xU (by rw [← Pinned.utf8First_eq]; exact h) h'
noncomputable abbrev N0 : Nat := (World.settled Tryd.prog default).heap.size
noncomputable def laidWorld (os : Os) : World :=
  let N := (World.settled Tryd.prog os).heap.size
  let ρ := Tryd.lays200_ren
  let w0 := World.holding Tryd.prog os ⟨#[
    .cells (rgCells .u16 letterT.r16) (ρ.t 198), .cells (rgCells .u32 letterT.r32) (ρ.t 201),
    .cells #[.slice (some ⟨N, 0, none⟩) letterT.r16.size letterT.r16.size, .slice (some ⟨N + 1, 0, none⟩) letterT.r32.size letterT.r32.size, .int .i64 letterT.off] (ρ.t 196),
    .cells #[.string ⟨#[105, 110, 118, 97, 108, 105, 100, 32, 115, 121, 110, 116, 97, 120]⟩] 236, .cells #[.string ⟨#[118, 97, 108, 117, 101, 32, 111, 117, 116, 32, 111, 102, 32, 114, 97, 110, 103, 101]⟩] 236], #[], []⟩
  let put (h : Array Obj) (g : Nat) (cs : Array Value) : Array Obj := h.modify g fun
    | .cells _ t frozen => .cells cs t frozen
    | o => o
  let h1 := put w0.heap 2 (Lib.propertiesTab.map fun z => Value.int .u8 z).toArray
  let h2 := put h1 3 #[.pointer (some ⟨N + 2, 0, none⟩)]
  let h3 := put h2 0 (Lib.firstTab.map fun z => Value.int .u8 z).toArray
  let h4 := put h3 1 ((List.range 16).flatMap fun i => [Value.int .u8 (Lib.accLo i), Value.int .u8 (Lib.accHi i)]).toArray
  let h5 := put h4 9 (Tryd.deB.map fun z => Value.int .u8 z).toArray
  let h6 := put h5 5 (Lib.pow10Tab.map fun z => Value.int .u64 z).toArray
  let h7 := put h6 8 ([0, 1, 28, 2, 29, 14, 24, 3, 30, 22, 20, 15, 25, 17, 4, 8, 31, 27, 13, 23, 21, 19, 16, 7, 26, 12, 18, 6, 11, 5, 10, 9].map fun z => Value.int .u8 z).toArray
  let h8 := put h7 6 #[.iface 234 (.pointer (some ⟨N + 3, 0, none⟩))]
  let h9 := put h8 7 #[.iface 234 (.pointer (some ⟨N + 4, 0, none⟩))]
  { w0 with heap := h9 }
noncomputable abbrev memOf (os : Os) (args : Array Value) : World := ((laidWorld os).forCall (fun _ _ => 0) ⟨#[], args, []⟩).memory
theorem pieceB (os : Os) (args : Array Value) : LaidIn Tryd.prog (memOf os args) [("math/bits.deBruijn32tab", Rows.laid_math_bits_deBruijn32tab), ("math/bits.deBruijn64tab", Rows.laid_math_bits_deBruijn64tab), ("internal/strconv.uint64pow10", Rows.laid_internal_strconv_uint64pow10)] [8, 9, 5] :=
  LaidIn.of_run [8, 9, 5] 8 (by kernel_rfl) (by kernel_rfl) (by kernel_rfl) (by kernel_rfl)
theorem pieceU (os : Os) (args : Array Value) : LaidIn Tryd.prog (memOf os args) [("unicode/utf8.acceptRanges", Rows.laid_unicode_utf8_acceptRanges), ("unicode.properties", Rows.laid_unicode_properties)] [1, 2] :=
  LaidIn.of_run [1, 2] 8 (by kernel_rfl) (by kernel_rfl) (by kernel_rfl) (by kernel_rfl)
theorem pieceF (os : Os) (args : Array Value) : LaidIn Tryd.prog (memOf os args) [("unicode/utf8.first", Rows.laid_unicode_utf8_first)] [0] :=
  LaidIn.of_run [0] 8 (by kernel_rfl) (by kernel_rfl) (by kernel_rfl) (by kernel_rfl)
theorem pieceL (os : Os) (args : Array Value) : LaidIn Tryd.prog (memOf os args) [("unicode.Letter", Lib.rtabData letterT)] [3, N0 + 2, N0, N0 + 1] :=
  laidIn_rtab (ρ := Tryd.lays200_ren) { Tryd.lays200 with } xL (by kernel_rfl) (by kernel_rfl) letterT (N0 + 2) N0 (N0 + 1) (Tryd.lays200_ren.t 198) (Tryd.lays200_ren.t 201)
    (by kernel_rfl) (by kernel_rfl) (by kernel_rfl) (by kernel_rfl) (by kernel_rfl) (of_decide_eq_true (by kernel_rfl)) (of_decide_eq_true (by kernel_rfl)) (of_decide_eq_true (by kernel_rfl))
theorem pieceL' (os : Os) (args : Array Value) : LaidIn Tryd.prog (memOf os args) [("unicode.Letter", Rows.laid_unicode_Letter)] [3, N0 + 2, N0, N0 + 1] := by
  have h := pieceL os args
  rw [← Pinned.letter_eq] at h
  exact h
theorem laidIn7 (os : Os) (args : Array Value) : LaidIn Tryd.prog (memOf os args) [("math/bits.deBruijn32tab", Rows.laid_math_bits_deBruijn32tab), ("math/bits.deBruijn64tab", Rows.laid_math_bits_deBruijn64tab), ("internal/strconv.uint64pow10", Rows.laid_internal_strconv_uint64pow10), ("unicode/utf8.acceptRanges", Rows.laid_unicode_utf8_acceptRanges), ("unicode.properties", Rows.laid_unicode_properties), ("unicode.Letter", Rows.laid_unicode_Letter), ("unicode/utf8.first", Rows.laid_unicode_utf8_first)] ([8, 9, 5] ++ ([1, 2] ++ ([3, N0 + 2, N0, N0 + 1] ++ [0]))) :=
  (pieceB os args).append ((pieceU os args).append ((pieceL' os args).append (pieceF os args) (by kernel_rfl)) (by kernel_rfl)) (by kernel_rfl)
theorem post_law {H : Type} {enc : TypeId × Value → H} {fn : Func} {s : ChangeSpec} (hv : s.vars = []) (hres : fn.resultTypes = #[4]) (hro : (fn.params.toList.all fun t => Tryd.prog.readableRec t && decide (t < Tryd.prog.types.size)) = true)
    {W W' : World} {args : Array Value} {ds gs : List (DataW H)} {before : List MemPlace} (hW : DataW.Whole enc Tryd.prog fn.params.toList s.vars false W args.toList ds gs before)
    (hfn : s.fn H (ds ++ gs) = { results := [.lit (.bool true)], args := ds }) (hb : Below W.heap.size W W') : s.post enc Tryd.prog fn false true false false W args (.bool true) W' := by
  have hW' := hW
  obtain ⟨p, q, hA, hV, rfl, _, _⟩ := hW
  rw [hv] at hV
  obtain ⟨rfl, rfl⟩ := trodVars_none hV
  have hlt : ∀ x ∈ p ++ [], x.block < W.heap.size := fun x hx => by simpa using hW'.lt x hx
  refine ⟨ds, [], p ++ [], [], p, [], hW', ?_, ?_, ?_, hb.frame _, fun h => by cases h⟩
  · rw [hfn, hres]; exact trodAll_mk1 (shut_bool Tryd.underlying4 _)
  · rw [hfn]; exact trodAll_stays laidOut hb hro hA (fun x hx => hlt x (by simp [hx])) (fun x hx => by simpa using hlt x (by simp [hx]))
  · rw [hfn, hv]; exact rfl
end Go.Ax
namespace Go.Ax
open Go.Proofs Go.Lib
set_option maxRecDepth 10000
def classF (c : Int) : Int :=
  if c = 32 ∨ c = 9 ∨ c = 10 ∨ c = 13 then 0 else if c = 35 then 1 else if c = 95 then 4 else
  if c = 40 ∨ c = 41 ∨ c = 59 ∨ c = 43 ∨ c = 33 ∨ c = 61 ∨ c = 64 ∨ c = 46 ∨ c = 38 ∨ c = 58 ∨ c = 45 then 5 else
  if 48 ≤ c ∧ c ≤ 57 then 3 else if isLetterU c then 2 else 6
theorem class_ctr (g : GP) (hg : ∀ w, g.G w → LibG w) (c : Int) (hlo : -2147483648 ≤ c) (hhi : c ≤ 2147483647) : Ctr (ax g).E 51 [.d (.v (.int .i32 c))] [] (fun o => o = .ret (.i64 (classF c)) []) := by
  by_cases hs : c = 32 ∨ c = 9 ∨ c = 10 ∨ c = 13 ∨ c = 35 ∨ c = 95 ∨ c = 40 ∨ c = 41 ∨ c = 59 ∨ c = 43 ∨ c = 33 ∨ c = 61 ∨ c = 64 ∨ c = 46 ∨ c = 38 ∨ c = 58 ∨ c = 45
  · rcases hs with rfl | rfl | rfl | rfl | rfl | rfl | rfl | rfl | rfl | rfl | rfl | rfl | rfl | rfl | rfl | rfl | rfl <;>
    · refine Ctr.body (X := ax g) _ 35 [] [.tmp 2] Tryd.func51 rfl rfl rfl rfl (by decide +kernel) rfl rfl ?_
      conv => whnf
      refine ⟨⟨[], ?_⟩⟩
      conv => whnf
      rfl
  · simp only [not_or] at hs
    obtain ⟨h1, h2, h3, h4, h5, h6, h7, h8, h9, h10, h11, h12, h13, h14, h15, h16, h17⟩ := hs
    have hc : classF c = if 48 ≤ c ∧ c ≤ 57 then 3 else if isLetterU c then 2 else 6 := by simp [classF, *]
    refine Ctr.body (X := ax g) _ 35 [] [.tmp 2] Tryd.func51 rfl rfl rfl rfl (by decide +kernel) rfl rfl ?_
    conv => whnf
    repeat (refine ifB_intro (fun h => absurd (of_decide_eq_true h) (by assumption)) (fun _ => ?_); conv => whnf)
    refine ifB_intro (fun h => ?_) (fun h => ?_)
    · rw [h]
      have h : 48 ≤ c := of_decide_eq_true h
      conv => whnf
      refine ifB_intro (fun h' => ?_) (fun h' => ?_)
      · have h' : c ≤ 57 := of_decide_eq_true h'
        conv => whnf
        refine ⟨⟨[], ?_⟩⟩
        conv => whnf
        rw [hc, if_pos ⟨h, h'⟩]
      · have h' : ¬ c ≤ 57 := of_decide_eq_false h'
        conv => whnf
        refine CallP.det (isLetter_ctr g hg c hlo hhi) ?_
        conv => whnf
        rw [if_neg (fun hh => h' hh.2)] at hc
        refine ifB_intro (fun h2 => ?_) (fun h2 => ?_)
        · conv => whnf
          refine ⟨⟨[], ?_⟩⟩
          conv => whnf
          rw [hc, h2]; rfl
        · conv => whnf
          refine ⟨⟨[], ?_⟩⟩
          conv => whnf
          rw [hc, h2]; rfl
    · rw [h]
      have h : ¬ 48 ≤ c := of_decide_eq_false h
      conv => whnf
      refine CallP.det (isLetter_ctr g hg c hlo hhi) ?_
      conv => whnf
      rw [if_neg (fun hh => h hh.1)] at hc
      refine ifB_intro (fun h2 => ?_) (fun h2 => ?_)
      · conv => whnf
        refine ⟨⟨[], ?_⟩⟩
        conv => whnf
        rw [hc, h2]; rfl
      · conv => whnf
        refine ⟨⟨[], ?_⟩⟩
        conv => whnf
        rw [hc, h2]; rfl
def withinF (c : Int) : Bool := classF c == 2 || (classF c == 3 || classF c == 4)
theorem within_ctr (g : GP) (hg : ∀ w, g.G w → LibG w) (c : Int) (hlo : -2147483648 ≤ c) (hhi : c ≤ 2147483647) : Ctr (ax g).E 79 [.d (.v (.int .i32 c))] [] (fun o => o = .ret (.bool (withinF c)) []) := by
  refine Ctr.body (X := ax g) _ 16 [] [.tmp 2] Tryd.func79 rfl rfl rfl rfl (by decide +kernel) rfl rfl ?_
  conv => whnf
  refine CallP.det (class_ctr g hg c hlo hhi) ?_
  conv => whnf
  refine ifB_intro (fun h => ?_) (fun h => ?_)
  · rw [h]
    conv => whnf
    refine ⟨⟨[], ?_⟩⟩
    conv => whnf
    have h : (classF c == 2) = true := h
    rw [withinF, h]; rfl
  · rw [h]
    conv => whnf
    have h : (classF c == 2) = false := h
    refine ifB_intro (fun h2 => ?_) (fun h2 => ?_)
    · rw [h2]
      conv => whnf
      have h2 : (classF c == 3) = true := h2
      refine ⟨⟨[], ?_⟩⟩
      conv => whnf
      rw [withinF, h, h2]; rfl
    · rw [h2]
      conv => whnf
      have h2 : (classF c == 3) = false := h2
      refine ⟨⟨[], ?_⟩⟩
      conv => whnf
      rw [withinF, h, h2]; rfl
theorem runeW_pos (s : ByteArray) (pos : Nat) (h : pos < s.size) : 1 ≤ runeW s pos := by
  by_cases ha : (s[pos]'h).toNat < 128
  · have := decode_ascii s pos h ha
    simp [runeW, this]
  · exact (decode_high s pos h (by omega)).2
theorem runeAt_le (s : ByteArray) (pos : Nat) : runeAt s pos ≤ 2147483647 := decode_le s pos
def runF (p : Int → Bool) (s : ByteArray) : Nat → Nat → Nat
  | 0, _ => s.size
  | fuel + 1, pos => if pos < s.size then (if p (runeAt s pos) then runF p s fuel (pos + runeW s pos) else pos) else s.size
theorem run_ctr (g : GP) (s : ByteArray) (fn : Nat) (p : Int → Bool) (hp : ∀ c : Nat, c ≤ 2147483647 → Ctr (ax g).E fn [.d (.v (.int .i32 c))] [] (fun o => o = .ret (.bool (p c)) [])) : Ctr (ax g).E 52 [.str s, .clo (.func fn) [] []] [] (fun o => o = .ret (.i64 (runF p s s.size 0)) []) := by
  refine Ctr.body (X := ax g) _ 20 [] [.tmp 4] Tryd.func52 rfl rfl rfl rfl (by decide +kernel) rfl rfl ?_
  conv => whnf
  refine LoopP.inv (X := ax g) (fun pos : Nat => { f := [(0, .str s), (1, .clo (.func fn) [] []), (8, .ptr 8 0)], h := [(8, some (.siter s pos))] }) (fun pos => ∃ fuel, s.size ≤ pos + fuel ∧ runF p s s.size 0 = runF p s fuel pos) (fun pos => s.size - pos) 0 ⟨s.size, by omega, rfl⟩ ⟨⟨rfl, rfl, rfl, trivial⟩, ⟨fun o h => h, trivial⟩⟩ fun pos ⟨fuel, hf, he⟩ => ?_
  conv => whnf
  refine ifB_intro (fun h => ?_) (fun h => ?_)
  · have hlt : pos < s.size := by simpa using h
    conv => whnf
    have hw := runeW_pos s pos hlt
    refine CallP.det (hp (runeAt s pos) (runeAt_le s pos)) ?_
    conv => whnf
    cases fuel with
    | zero => omega
    | succ fuel =>
      simp only [runF, if_pos hlt] at he
      refine ifB_intro (fun h2 => ?_) (fun h2 => ?_)
      · have h2 : (!p (runeAt s pos)) = true := h2
        rw [Bool.not_eq_true'] at h2
        conv => whnf
        refine ⟨⟨[], ?_⟩⟩
        conv => whnf
        rw [he, h2]; rfl
      · have h2 : (!p (runeAt s pos)) = false := h2
        rw [Bool.not_eq_false'] at h2
        conv => whnf
        rw [h2, if_pos rfl] at he
        exact ⟨pos + runeW s pos, ⟨fuel, by omega, he⟩, by omega, ⟨⟨rfl, rfl, rfl, trivial⟩, ⟨fun o h => h, trivial⟩⟩⟩
  · have hge : s.size ≤ pos := by simpa using h
    conv => whnf
    refine ⟨⟨[], ?_⟩⟩
    conv => whnf
    have : runF p s fuel pos = s.size := by cases fuel <;> simp [runF]; omega
    rw [he, this]
structure TokT where
  kind : Int
  s : ByteArray
  n : Int
def rowK (t : TokT) : List D := [.i64 t.kind, .v (.string t.s), .u16 t.n]
def noTok : TokT := ⟨0, ⟨#[]⟩, 0⟩
structure PieceT where
  t : TokT
  n : Int
  e : Int
def PieceT.av (p : PieceT) : AV := .tup [.dagg (rowK p.t), .i64 p.n, .i64 p.e]
def isDigit (c : Int) : Bool := classF c == 3
theorem digit_ctr (g : GP) (hg : ∀ w, g.G w → LibG w) (c : Int) (hlo : -2147483648 ≤ c) (hhi : c ≤ 2147483647) : Ctr (ax g).E 81 [.d (.v (.int .i32 c))] [] (fun o => o = .ret (.bool (isDigit c)) []) := by
  refine Ctr.body (X := ax g) _ 6 [] [.tmp 2] Tryd.func81 rfl rfl rfl rfl (by decide +kernel) rfl rfl ?_
  conv => whnf
  refine CallP.det (class_ctr g hg c hlo hhi) ?_
  conv => whnf
  refine ⟨⟨[], ?_⟩⟩
  conv => whnf
  rfl
theorem notEol_ctr (g : GP) (c : Int) : Ctr (ax g).E 53 [.d (.v (.int .i32 c))] [] (fun o => o = .ret (.bool (c != 10)) []) := by
  refine Ctr.body (X := ax g) _ 5 [] [.tmp 2] Tryd.func53 rfl rfl rfl rfl (by decide +kernel) rfl rfl ?_
  conv => whnf
  refine ⟨⟨[], ?_⟩⟩
  conv => whnf
theorem runF_le (p : Int → Bool) (s : ByteArray) : ∀ (fuel pos : Nat), pos ≤ s.size → runF p s fuel pos ≤ s.size
  | 0, pos, _ => Nat.le_refl _
  | fuel + 1, pos, h => by
    simp only [runF]
    split
    · split
      · by_cases hw : pos + runeW s pos ≤ s.size
        · exact runF_le p s fuel _ hw
        · cases fuel with
          | zero => exact Nat.le_refl _
          | succ f => simp only [runF]; rw [if_neg (by omega)]; exact Nat.le_refl _
      · exact h
    · exact Nat.le_refl _
def markN (s : ByteArray) : Int := if Lib.hasPrefix s.data.toList [58, 61] || Lib.hasPrefix s.data.toList [61, 62] then 2 else 1
def markF (s : ByteArray) : PieceT := ⟨⟨3, s.extract 0 (markN s).toNat, 0⟩, markN s, 0⟩
theorem mark_ctr (g : GP) (s : ByteArray) (h1 : 0 < s.size) : Ctr (ax g).E 56 [.str s] [] (fun o => o = .ret (markF s).av []) := by
  have hpre : ∀ a b : UInt8, Lib.hasPrefix s.data.toList [a, b] = true → 2 ≤ s.size := fun a b h => by
    have : [a, b].length ≤ s.data.toList.length := (List.isPrefixOf_iff_prefix.1 h).length_le
    simpa using this
  refine Ctr.body (X := ax g) _ 17 [] [.cell 2 114, .tmp 3, .tmp 4] Tryd.func56 rfl rfl rfl rfl (by decide +kernel) rfl rfl ?_
  conv => whnf
  refine CallP.det (hasPrefix_ctr g s ⟨#[58, 61]⟩) ?_
  conv => whnf
  refine ifB_intro (fun h => ?_) (fun h => ?_)
  · rw [h]
    have h : Lib.hasPrefix s.data.toList [58, 61] = true := h
    have hm : markN s = 2 := by simp [markN, h]
    have := hpre _ _ h
    conv => whnf
    refine And.intro (Int.le_refl 0) ?_
    refine And.intro (show (0 : Int) ≤ 2 by decide) ?_
    refine And.intro (show (2 : Int) ≤ s.size by omega) ?_
    conv => whnf
    refine And.intro ⟨⟨_, _, rfl, rfl, Nat.le_of_ble_eq_true rfl⟩, ⟨_, _, rfl, rfl, Nat.le_of_ble_eq_true rfl⟩, trivial⟩ ?_
    conv => whnf
    refine And.intro rfl ?_
    conv => whnf
    refine ⟨⟨[], ?_⟩⟩
    conv => whnf
    repeat (refine And.intro (by first | exact rfl | decide | exact Nat.le_of_ble_eq_true rfl | exact ⟨_, rfl⟩ | exact ⟨_, _, rfl⟩) ?_; conv => whnf)
    rw [PieceT.av, markF, hm]; rfl
  · rw [h]
    have h : Lib.hasPrefix s.data.toList [58, 61] = false := h
    conv => whnf
    refine CallP.det (hasPrefix_ctr g s ⟨#[61, 62]⟩) ?_
    conv => whnf
    refine ifB_intro (fun h2 => ?_) (fun h2 => ?_)
    · have h2 : Lib.hasPrefix s.data.toList [61, 62] = true := h2
      have hm : markN s = 2 := by simp [markN, h2]
      have := hpre _ _ h2
      conv => whnf
      refine And.intro (Int.le_refl 0) ?_
      refine And.intro (show (0 : Int) ≤ 2 by decide) ?_
      refine And.intro (show (2 : Int) ≤ s.size by omega) ?_
      conv => whnf
      refine And.intro ⟨⟨_, _, rfl, rfl, Nat.le_of_ble_eq_true rfl⟩, ⟨_, _, rfl, rfl, Nat.le_of_ble_eq_true rfl⟩, trivial⟩ ?_
      conv => whnf
      refine And.intro rfl ?_
      conv => whnf
      refine ⟨⟨[], ?_⟩⟩
      conv => whnf
      repeat (refine And.intro (by first | exact rfl | decide | exact Nat.le_of_ble_eq_true rfl | exact ⟨_, rfl⟩ | exact ⟨_, _, rfl⟩) ?_; conv => whnf)
      rw [PieceT.av, markF, hm]; rfl
    · have h2 : Lib.hasPrefix s.data.toList [61, 62] = false := h2
      have hm : markN s = 1 := by simp [markN, h, h2]
      conv => whnf
      refine And.intro (Int.le_refl 0) ?_
      refine And.intro (show (0 : Int) ≤ 1 by decide) ?_
      refine And.intro (show (1 : Int) ≤ s.size by omega) ?_
      conv => whnf
      refine And.intro ⟨⟨_, _, rfl, rfl, Nat.le_of_ble_eq_true rfl⟩, ⟨_, _, rfl, rfl, Nat.le_of_ble_eq_true rfl⟩, trivial⟩ ?_
      conv => whnf
      refine And.intro rfl ?_
      conv => whnf
      refine ⟨⟨[], ?_⟩⟩
      conv => whnf
      repeat (refine And.intro (by first | exact rfl | decide | exact Nat.le_of_ble_eq_true rfl | exact ⟨_, rfl⟩ | exact ⟨_, _, rfl⟩) ?_; conv => whnf)
      rw [PieceT.av, markF, hm]; rfl
def errP (e : Int) : PieceT := ⟨noTok, 0, e⟩
def wordF (s : ByteArray) : PieceT :=
  if 20 < Lib.runeCount (s.extract 0 (runF withinF s s.size 0)) then errP 2 else ⟨⟨1, s.extract 0 (runF withinF s s.size 0), 0⟩, runF withinF s s.size 0, 0⟩
theorem word_ctr (g : GP) (hg : ∀ w, g.G w → LibG w) (s : ByteArray) (hs : s.size < 2 ^ 62) : Ctr (ax g).E 54 [.str s] [] (fun o => o = .ret (wordF s).av []) := by
  have hle := runF_le withinF s s.size 0 (Nat.zero_le _)
  refine Ctr.body (X := ax g) _ 19 [] [.cell 2 114, .tmp 3, .tmp 4] Tryd.func54 rfl rfl rfl rfl (by decide +kernel) rfl rfl ?_
  conv => whnf
  refine CallP.det (run_ctr g s 79 withinF (fun c hc => within_ctr g hg c (by omega) (by omega))) ?_
  conv => whnf
  generalize hn : runF withinF s s.size 0 = n at hle
  refine And.intro (Int.le_refl 0) ?_
  refine And.intro (show (0 : Int) ≤ (n : Int) by omega) ?_
  refine And.intro (show (n : Int) ≤ s.size by omega) ?_
  conv => whnf
  refine CallP.det (runeCount_ctr g (s.extract 0 n) (by simp; omega)) ?_
  conv => whnf
  refine ifB_intro (fun h => ?_) (fun h => ?_)
  · have h : 20 < Lib.runeCount (s.extract 0 n) := Int.ofNat_lt.1 (of_decide_eq_true h)
    conv => whnf
    refine And.intro trivial ?_
    conv => whnf
    refine And.intro rfl ?_
    conv => whnf
    refine ⟨⟨[], ?_⟩⟩
    conv => whnf
    repeat (refine And.intro (by first | exact rfl | decide | exact Nat.le_of_ble_eq_true rfl | exact ⟨_, rfl⟩ | exact ⟨_, _, rfl⟩) ?_; conv => whnf)
    rw [wordF, hn, if_pos h]; rfl
  · have h : ¬ 20 < Lib.runeCount (s.extract 0 n) := fun hh => of_decide_eq_false h (show (20 : Int) < (Lib.runeCount (s.extract 0 n) : Int) by omega)
    conv => whnf
    refine And.intro (Int.le_refl 0) ?_
    refine And.intro (show (0 : Int) ≤ (n : Int) by omega) ?_
    refine And.intro (show (n : Int) ≤ s.size by omega) ?_
    conv => whnf
    refine And.intro ⟨⟨_, _, rfl, rfl, Nat.le_of_ble_eq_true rfl⟩, ⟨_, _, rfl, rfl, Nat.le_of_ble_eq_true rfl⟩, trivial⟩ ?_
    conv => whnf
    refine And.intro rfl ?_
    conv => whnf
    refine ⟨⟨[], ?_⟩⟩
    conv => whnf
    repeat (refine And.intro (by first | exact rfl | decide | exact Nat.le_of_ble_eq_true rfl | exact ⟨_, rfl⟩ | exact ⟨_, _, rfl⟩) ?_; conv => whnf)
    rw [wordF, hn, if_neg h]; rfl
theorem isDigit_iff {c : Int} (h : isDigit c = true) : 48 ≤ c ∧ c ≤ 57 := by
  have h : classF c = 3 := by simpa [isDigit] using h
  unfold classF at h
  split at h
  · omega
  split at h
  · omega
  split at h
  · omega
  split at h
  · omega
  split at h
  · assumption
  split at h <;> omega
theorem rune_ascii {s : ByteArray} {pos : Nat} (h : pos < s.size) (ha : (s[pos]'h).toNat < 128) : runeAt s pos = (s[pos]'h).toNat ∧ runeW s pos = 1 := by
  have := decode_ascii s pos h ha
  simp [runeAt, runeW, this]
def DigAll (s : ByteArray) (a b : Nat) : Prop := ∀ j, a ≤ j → j < b → ∃ h : j < s.size, 48 ≤ (s[j]'h).toNat ∧ (s[j]'h).toNat ≤ 57
theorem runF_digit (s : ByteArray) : ∀ (fuel pos : Nat), s.size ≤ pos + fuel → pos ≤ s.size → pos ≤ runF isDigit s fuel pos ∧ DigAll s pos (runF isDigit s fuel pos)
  | 0, pos, h1, h2 => ⟨by simp only [runF]; exact h2, fun j h3 h4 => by simp only [runF] at h4; omega⟩
  | fuel + 1, pos, h1, h2 => by
    simp only [runF]
    by_cases hlt : pos < s.size
    · rw [if_pos hlt]
      by_cases hd : isDigit (runeAt s pos) = true
      · rw [if_pos hd]
        obtain ⟨g1, g2⟩ := isDigit_iff hd
        have ha : (s[pos]'hlt).toNat < 128 := by
          rcases Nat.lt_or_ge (s[pos]'hlt).toNat 128 with h | h
          · exact h
          · have := (decode_high s pos hlt h).1
            have e : runeAt s pos = (Utf8.decode s pos).1 := rfl
            omega
        obtain ⟨r1, r2⟩ := rune_ascii hlt ha
        rw [r2]
        obtain ⟨i1, i2⟩ := runF_digit s fuel (pos + 1) (by omega) (by omega)
        refine ⟨by omega, fun j h3 h4 => ?_⟩
        by_cases hj : j = pos
        · subst hj; exact ⟨hlt, by omega, by omega⟩
        · exact i2 j (by omega) h4
      · rw [if_neg hd]
        exact ⟨Nat.le_refl _, fun j h3 h4 => by omega⟩
    · rw [if_neg hlt]
      exact ⟨h2, fun j h3 h4 => by omega⟩
def numGo (d : ByteArray) : Nat → Nat → Int → Option Int
  | 0, _, v => some v
  | f + 1, pos, v => if 65535 < 10 * v + (byteAt d pos - 48) then none else numGo d f (pos + 1) (10 * v + (byteAt d pos - 48))
def numberF (s : ByteArray) : PieceT :=
  if (runF isDigit s s.size 0 < s.size) ∧ withinF (Lib.decodeGo (s.extract (runF isDigit s s.size 0) s.size)).1 = true then errP 10 else
  match numGo (s.extract 0 (runF isDigit s s.size 0)) (runF isDigit s s.size 0) 0 0 with
  | none => errP 2
  | some v => ⟨⟨2, ⟨#[]⟩, v⟩, runF isDigit s s.size 0, 0⟩
theorem i32_wrap {n : Int} (h0 : -2147483648 ≤ n) (h1 : n < 2147483648) : IntKind.i32.wrap n = n := by rw [IntKind.wrap_i32]; omega
theorem u16_wrap {n : Int} (h0 : 0 ≤ n) (h1 : n < 65536) : IntKind.u16.wrap n = n := by rw [IntKind.wrap_u16]; omega
theorem number_ctr (g : GP) (hg : ∀ w, g.G w → LibG w) (s : ByteArray) (hs : s.size < 2 ^ 62) : Ctr (ax g).E 55 [.str s] [] (fun o => o = .ret (numberF s).av []) := by
  have hle := runF_le isDigit s s.size 0 (Nat.zero_le _)
  have hdig := (runF_digit s s.size 0 (by omega) (Nat.zero_le _)).2
  refine Ctr.body (X := ax g) _ 49 [] [.cell 2 114, .tmp 3, .tmp 4] Tryd.func55 rfl rfl rfl rfl (by decide +kernel) rfl rfl ?_
  conv => whnf
  refine CallP.det (run_ctr g s 81 isDigit (fun c hc => digit_ctr g hg c (by omega) (by omega))) ?_
  conv => whnf
  have hF : numberF s = numberF s := rfl
  conv at hF => rhs; unfold numberF
  generalize hn : runF isDigit s s.size 0 = n at hle hdig hF
  refine And.intro (show (0 : Int) ≤ (n : Int) by omega) ?_
  refine And.intro (show (n : Int) ≤ s.size by omega) ?_
  refine And.intro (Int.le_refl _) ?_
  conv => whnf
  refine CallP.det (decode_ctr g hg (s.extract n s.size)) ?_
  conv => whnf
  have hr : ((Lib.decodeGo (s.extract n s.size)).1 : Int) ≤ 2147483647 := by
    have : (Lib.decodeGo (s.extract n s.size)).1 ≤ 2147483647 := by
      unfold Lib.decodeGo
      split
      · decide
      · exact decode_le _ 0
    omega
  -- the digits' loop and what follows
  have hby : ∀ j, j < n → ∃ h : j < (s.extract 0 n).size, 48 ≤ ((s.extract 0 n)[j]'h).toNat ∧ ((s.extract 0 n)[j]'h).toNat ≤ 57 := fun j hj => by
    obtain ⟨h1, h2, h3⟩ := hdig j (Nat.zero_le _) hj
    have hsz : j < (s.extract 0 n).size := by simp; omega
    refine ⟨hsz, ?_⟩
    have : (s.extract 0 n)[j]'hsz = s[j]'h1 := by simp [ByteArray.getElem_extract]
    rw [this]; exact ⟨h2, h3⟩
  have hdz : (s.extract 0 n).size = n := by simp; omega
  refine ifB_intro (fun h => ?_) (fun h => ?_)
  · rw [h]
    have h : n < s.size := Int.ofNat_lt.1 (of_decide_eq_true h)
    conv => whnf
    refine CallP.det (within_ctr g hg _ (by omega) hr) ?_
    conv => whnf
    refine ifB_intro (fun h2 => ?_) (fun h2 => ?_)
    · have h2 : withinF (Lib.decodeGo (s.extract n s.size)).1 = true := h2
      rw [if_pos ⟨h, h2⟩] at hF
      conv => whnf
      refine And.intro trivial ?_
      conv => whnf
      refine And.intro rfl ?_
      conv => whnf
      refine ⟨⟨[], ?_⟩⟩
      conv => whnf
      repeat (refine And.intro (by first | exact rfl | decide | exact Nat.le_of_ble_eq_true rfl | exact ⟨_, rfl⟩ | exact ⟨_, _, rfl⟩) ?_; conv => whnf)
      rw [hF]; rfl
    · have h2 : withinF (Lib.decodeGo (s.extract n s.size)).1 = false := h2
      rw [if_neg (fun hh => by rw [h2] at hh; simp at hh)] at hF
      conv => whnf
      refine And.intro (Int.le_refl 0) ?_
      refine And.intro (show (0 : Int) ≤ (n : Int) by omega) ?_
      refine And.intro (show (n : Int) ≤ s.size by omega) ?_
      conv => whnf
      refine LoopP.inv (X := ax g) (fun x : Nat × Int => { f := [(0, .str s), (2, .ptr 2 0), (3, .i64 0), (4, .i64 0), (5, .i64 n), (8, .i64 x.2), (32, .ptr 32 0)], h := [(32, some (.siter (s.extract 0 n) x.1)), (2, some (.dvar 3 (rowK noTok)))] }) (fun x => x.1 ≤ n ∧ 0 ≤ x.2 ∧ x.2 ≤ 65535 ∧ numGo (s.extract 0 n) n 0 0 = numGo (s.extract 0 n) (n - x.1) x.1 x.2) (fun x => n - x.1) (0, 0) ⟨Nat.zero_le _, by simp, by simp, rfl⟩ ⟨⟨rfl, rfl, rfl, rfl, rfl, rfl, rfl, trivial⟩, ⟨fun o h => h, fun o h => h, trivial⟩⟩ fun ⟨pos, v⟩ ⟨hp, hv0, hv1, he⟩ => ?_
      have hp : pos ≤ n := hp
      have hv0 : 0 ≤ v := hv0
      have hv1 : v ≤ 65535 := hv1
      have he : numGo (s.extract 0 n) n 0 0 = numGo (s.extract 0 n) (n - pos) pos v := he
      conv => whnf
      refine ifB_intro (fun h5 => ?_) (fun h5 => ?_)
      · have hlt : pos < n := by
          have h5 : pos < (s.extract 0 n).size := of_decide_eq_true h5
          omega
        obtain ⟨hz, hb1, hb2⟩ := hby pos hlt
        obtain ⟨ha1, ha2⟩ := rune_ascii hz (by omega)
        have hbt : byteAt (s.extract 0 n) pos = (((s.extract 0 n)[pos]'hz).toNat : Int) := by
          simp only [byteAt, Int.toNat_natCast]; rw [dif_pos hz]
        conv => whnf
        have hstep : IntKind.i64.wrap (IntKind.i64.wrap (10 * v) + IntKind.i64.wrap (IntKind.i32.wrap ((runeAt (s.extract 0 n) pos : Int) - 48))) = 10 * v + (byteAt (s.extract 0 n) pos - 48) := by
          rw [ha1, hbt, i32_wrap (by omega) (by omega), i64_wrap (n := 10 * v) (by omega) (by omega), i64_wrap (n := (((s.extract 0 n)[pos]'hz).toNat : Int) - 48) (by omega) (by omega), i64_wrap (by omega) (by omega)]
        have hnp : n - pos = (n - (pos + 1)) + 1 := by omega
        rw [hnp, numGo] at he
        refine ifB_intro (fun h6 => ?_) (fun h6 => ?_)
        · have h6 : 65535 < 10 * v + (byteAt (s.extract 0 n) pos - 48) := by
            have h6 := of_decide_eq_true h6
            rw [← hstep]; exact h6
          rw [if_pos h6] at he
          rw [he] at hF
          conv => whnf
          refine And.intro trivial ?_
          conv => whnf
          refine And.intro rfl ?_
          conv => whnf
          refine ⟨⟨[], ?_⟩⟩
          conv => whnf
          repeat (refine And.intro (by first | exact rfl | decide | exact Nat.le_of_ble_eq_true rfl | exact ⟨_, rfl⟩ | exact ⟨_, _, rfl⟩) ?_; conv => whnf)
          rw [hF]; rfl
        · have h6 : ¬ 65535 < 10 * v + (byteAt (s.extract 0 n) pos - 48) := by
            have h6 := of_decide_eq_false h6
            rw [← hstep]; exact h6
          rw [if_neg h6] at he
          conv => whnf
          exact ⟨(pos + 1, 10 * v + (byteAt (s.extract 0 n) pos - 48)), ⟨hlt, by show 0 ≤ 10 * v + (byteAt (s.extract 0 n) pos - 48); rw [hbt]; omega, by show 10 * v + (byteAt (s.extract 0 n) pos - 48) ≤ 65535; omega, he⟩, by show n - (pos + 1) < n - pos; omega, ⟨⟨rfl, rfl, rfl, rfl, rfl, AV.int_eq hstep, rfl, trivial⟩, ⟨fun o h => by show some (AObj.siter (s.extract 0 n) (pos + runeW (s.extract 0 n) pos)) = some o; rw [ha2]; exact h, fun o h => h, trivial⟩⟩⟩
      · have hpn : pos = n := by
          have h5 : ¬ pos < (s.extract 0 n).size := of_decide_eq_false h5
          omega
        subst hpn
        rw [Nat.sub_self, numGo] at he
        rw [he] at hF
        conv => whnf
        refine And.intro ⟨⟨_, _, rfl, rfl, Nat.le_of_ble_eq_true rfl⟩, ⟨_, _, rfl, rfl, Nat.le_of_ble_eq_true rfl⟩, trivial⟩ ?_
        conv => whnf
        refine And.intro rfl ?_
        conv => whnf
        refine ⟨⟨[], ?_⟩⟩
        conv => whnf
        repeat (refine And.intro (by first | exact rfl | decide | exact Nat.le_of_ble_eq_true rfl | exact ⟨_, rfl⟩ | exact ⟨_, _, rfl⟩) ?_; conv => whnf)
        rw [hF]
        show AOut.ret (.tup [.dagg [.i64 2, .v (.string ⟨#[]⟩), .u16 (IntKind.u16.wrap v)], _, _]) [] = _
        rw [u16_wrap hv0 (by omega)]; rfl
  · rw [h]
    have h : ¬ n < s.size := fun hh => of_decide_eq_false h (Int.ofNat_lt.2 hh)
    rw [if_neg (fun hh => h hh.1)] at hF
    · conv => whnf
      refine And.intro (Int.le_refl 0) ?_
      refine And.intro (show (0 : Int) ≤ (n : Int) by omega) ?_
      refine And.intro (show (n : Int) ≤ s.size by omega) ?_
      conv => whnf
      refine LoopP.inv (X := ax g) (fun x : Nat × Int => { f := [(0, .str s), (2, .ptr 2 0), (3, .i64 0), (4, .i64 0), (5, .i64 n), (8, .i64 x.2), (32, .ptr 32 0)], h := [(32, some (.siter (s.extract 0 n) x.1)), (2, some (.dvar 3 (rowK noTok)))] }) (fun x => x.1 ≤ n ∧ 0 ≤ x.2 ∧ x.2 ≤ 65535 ∧ numGo (s.extract 0 n) n 0 0 = numGo (s.extract 0 n) (n - x.1) x.1 x.2) (fun x => n - x.1) (0, 0) ⟨Nat.zero_le _, by simp, by simp, rfl⟩ ⟨⟨rfl, rfl, rfl, rfl, rfl, rfl, rfl, trivial⟩, ⟨fun o h => h, fun o h => h, trivial⟩⟩ fun ⟨pos, v⟩ ⟨hp, hv0, hv1, he⟩ => ?_
      have hp : pos ≤ n := hp
      have hv0 : 0 ≤ v := hv0
      have hv1 : v ≤ 65535 := hv1
      have he : numGo (s.extract 0 n) n 0 0 = numGo (s.extract 0 n) (n - pos) pos v := he
      conv => whnf
      refine ifB_intro (fun h5 => ?_) (fun h5 => ?_)
      · have hlt : pos < n := by
          have h5 : pos < (s.extract 0 n).size := of_decide_eq_true h5
          omega
        obtain ⟨hz, hb1, hb2⟩ := hby pos hlt
        obtain ⟨ha1, ha2⟩ := rune_ascii hz (by omega)
        have hbt : byteAt (s.extract 0 n) pos = (((s.extract 0 n)[pos]'hz).toNat : Int) := by
          simp only [byteAt, Int.toNat_natCast]; rw [dif_pos hz]
        conv => whnf
        have hstep : IntKind.i64.wrap (IntKind.i64.wrap (10 * v) + IntKind.i64.wrap (IntKind.i32.wrap ((runeAt (s.extract 0 n) pos : Int) - 48))) = 10 * v + (byteAt (s.extract 0 n) pos - 48) := by
          rw [ha1, hbt, i32_wrap (by omega) (by omega), i64_wrap (n := 10 * v) (by omega) (by omega), i64_wrap (n := (((s.extract 0 n)[pos]'hz).toNat : Int) - 48) (by omega) (by omega), i64_wrap (by omega) (by omega)]
        have hnp : n - pos = (n - (pos + 1)) + 1 := by omega
        rw [hnp, numGo] at he
        refine ifB_intro (fun h6 => ?_) (fun h6 => ?_)
        · have h6 : 65535 < 10 * v + (byteAt (s.extract 0 n) pos - 48) := by
            have h6 := of_decide_eq_true h6
            rw [← hstep]; exact h6
          rw [if_pos h6] at he
          rw [he] at hF
          conv => whnf
          refine And.intro trivial ?_
          conv => whnf
          refine And.intro rfl ?_
          conv => whnf
          refine ⟨⟨[], ?_⟩⟩
          conv => whnf
          repeat (refine And.intro (by first | exact rfl | decide | exact Nat.le_of_ble_eq_true rfl | exact ⟨_, rfl⟩ | exact ⟨_, _, rfl⟩) ?_; conv => whnf)
          rw [hF]; rfl
        · have h6 : ¬ 65535 < 10 * v + (byteAt (s.extract 0 n) pos - 48) := by
            have h6 := of_decide_eq_false h6
            rw [← hstep]; exact h6
          rw [if_neg h6] at he
          conv => whnf
          exact ⟨(pos + 1, 10 * v + (byteAt (s.extract 0 n) pos - 48)), ⟨hlt, by show 0 ≤ 10 * v + (byteAt (s.extract 0 n) pos - 48); rw [hbt]; omega, by show 10 * v + (byteAt (s.extract 0 n) pos - 48) ≤ 65535; omega, he⟩, by show n - (pos + 1) < n - pos; omega, ⟨⟨rfl, rfl, rfl, rfl, rfl, AV.int_eq hstep, rfl, trivial⟩, ⟨fun o h => by show some (AObj.siter (s.extract 0 n) (pos + runeW (s.extract 0 n) pos)) = some o; rw [ha2]; exact h, fun o h => h, trivial⟩⟩⟩
      · have hpn : pos = n := by
          have h5 : ¬ pos < (s.extract 0 n).size := of_decide_eq_false h5
          omega
        subst hpn
        rw [Nat.sub_self, numGo] at he
        rw [he] at hF
        conv => whnf
        refine And.intro ⟨⟨_, _, rfl, rfl, Nat.le_of_ble_eq_true rfl⟩, ⟨_, _, rfl, rfl, Nat.le_of_ble_eq_true rfl⟩, trivial⟩ ?_
        conv => whnf
        refine And.intro rfl ?_
        conv => whnf
        refine ⟨⟨[], ?_⟩⟩
        conv => whnf
        repeat (refine And.intro (by first | exact rfl | decide | exact Nat.le_of_ble_eq_true rfl | exact ⟨_, rfl⟩ | exact ⟨_, _, rfl⟩) ?_; conv => whnf)
        rw [hF]
        show AOut.ret (.tup [.dagg [.i64 2, .v (.string ⟨#[]⟩), .u16 (IntKind.u16.wrap v)], _, _]) [] = _
        rw [u16_wrap hv0 (by omega)]; rfl
end Go.Ax
namespace Go.Ax
open Go.Proofs Go.Lib
set_option maxRecDepth 10000
def stepF (s : ByteArray) : PieceT :=
  let k := classF (Lib.decodeGo s).1
  if k = 2 then wordF s else if k = 3 then numberF s else if k = 5 then markF s else errP 10
def tokGo : Nat → ByteArray → List TokT → Option (List TokT) × Int
  | 0, _, _ => (none, 0)
  | f + 1, s, acc => if s.size = 0 then (some (acc ++ [noTok]), 0) else
    if classF (Lib.decodeGo s).1 = 0 then tokGo f (s.extract (Lib.decodeGo s).2 s.size) acc else
    if classF (Lib.decodeGo s).1 = 1 then tokGo f (s.extract (runF (· != 10) s s.size 0) s.size) acc else
    if (stepF s).e ≠ 0 then (none, (stepF s).e) else tokGo f (s.extract (stepF s).n.toNat s.size) (acc ++ [(stepF s).t])
def tokensF (V : ByteArray → Bool) (s : ByteArray) : Option (List TokT) × Int :=
  if 4000 < s.size then (none, 2) else if V s = false then (none, 10) else tokGo (s.size + 1) s []
def tokAV : Option (List TokT) × Int → AV
  | (some l, e) => .tup [.d (.sl false 3 (l.map rowK)), .i64 e]
  | (none, e) => .tup [.d (.v (.slice none 0 0)), .i64 e]
theorem runF_ge (p : Int → Bool) (s : ByteArray) : ∀ (f pos : Nat), min pos s.size ≤ runF p s f pos
  | 0, pos => by simp only [runF]; omega
  | f + 1, pos => by
    simp only [runF]
    split
    · split
      · have := runF_ge p s f (pos + runeW s pos)
        omega
      · omega
    · omega
theorem runF_pos (p : Int → Bool) (s : ByteArray) (h : 0 < s.size) (hp : p (runeAt s 0) = true) : 1 ≤ runF p s s.size 0 := by
  obtain ⟨f, hf⟩ : ∃ f, s.size = f + 1 := ⟨s.size - 1, by omega⟩
  conv => rhs; arg 3; rw [hf]
  simp only [runF, if_pos h, hp, if_true, Nat.zero_add]
  have := runF_ge p s f (runeW s 0)
  have := runeW_pos s 0 h
  omega
theorem decodeGo_rune {s : ByteArray} (h : 0 < s.size) : (Lib.decodeGo s).1 = runeAt s 0 ∧ (Lib.decodeGo s).2 = runeW s 0 := by
  unfold Lib.decodeGo
  rw [if_neg (by omega)]; exact ⟨rfl, rfl⟩
theorem stepF_n {s : ByteArray} (h : 0 < s.size) (he : (stepF s).e = 0) : 1 ≤ (stepF s).n ∧ (stepF s).n ≤ s.size := by
  obtain ⟨r1, _⟩ := decodeGo_rune h
  unfold stepF at he ⊢
  simp only at he ⊢
  split at he
  · rename_i hc
    rw [if_pos hc]
    unfold wordF at he ⊢
    split at he
    · simp [errP] at he
    · rename_i hr
      rw [if_neg hr]
      have h1 := runF_pos withinF s h (by rw [← r1, withinF, hc]; rfl)
      have h2 := runF_le withinF s s.size 0 (Nat.zero_le _)
      simp only; omega
  · rename_i hc2
    split at he
    · rename_i hc
      rw [if_neg hc2, if_pos hc]
      unfold numberF at he ⊢
      split at he
      · simp [errP] at he
      · rename_i hr
        rw [if_neg hr]
        split at he
        · simp [errP] at he
        · rename_i v hv
          have h1 := runF_pos isDigit s h (by rw [← r1, isDigit, hc]; rfl)
          have h2 := runF_le isDigit s s.size 0 (Nat.zero_le _)
          simp only; omega
    · rename_i hc3
      split at he
      · rename_i hc
        rw [if_neg hc2, if_neg hc3, if_pos hc]
        simp only [markF, markN]
        split
        · rename_i hh
          have : ∀ a b : UInt8, Lib.hasPrefix s.data.toList [a, b] = true → 2 ≤ s.size := fun a b h => by
            have : [a, b].length ≤ s.data.toList.length := (List.isPrefixOf_iff_prefix.1 h).length_le
            simpa using this
          rw [Bool.or_eq_true] at hh
          have := hh.elim (this _ _) (this _ _)
          omega
        · omega
      · simp [errP] at he
set_option maxHeartbeats 1000000 in
theorem tokens_ctr (g : GP) (hg : ∀ w, g.G w → LibG w) (V : ByteArray → Bool) (hV : ∀ s : ByteArray, s.size ≤ 4000 → Ctr (ax g).E 49 [.str s] [] (fun o => o = .ret (.bool (V s)) [])) (s : ByteArray) (hs : s.size < 2 ^ 62) : Ctr (ax g).E 31 [.str s] [] (fun o => o = .ret (tokAV (tokensF V s)) []) := by
  refine Ctr.body (X := ax g) _ 76 [] [.tmp 2, .tmp 3] Tryd.func31 rfl rfl rfl rfl (by decide +kernel) rfl rfl ?_
  conv => whnf
  refine ifB_intro (fun h => ?_) (fun h => ?_)
  · have h : 4000 < s.size := Int.ofNat_lt.1 (of_decide_eq_true h)
    conv => whnf
    refine ⟨⟨[], ?_⟩⟩
    conv => whnf
    rw [tokensF, if_pos h]; rfl
  · have h : ¬ 4000 < s.size := fun hh => of_decide_eq_false h (Int.ofNat_lt.2 hh)
    conv => whnf
    refine CallP.det (hV s (by omega)) ?_
    conv => whnf
    refine ifB_intro (fun h2 => ?_) (fun h2 => ?_)
    · have h2 : (!V s) = true := h2
      rw [Bool.not_eq_true'] at h2
      conv => whnf
      refine ⟨⟨[], ?_⟩⟩
      conv => whnf
      rw [tokensF, if_neg h, if_pos h2]; rfl
    · have h2 : (!V s) = false := h2
      rw [Bool.not_eq_false'] at h2
      have hT : tokensF V s = tokGo (s.size + 1) s [] := by rw [tokensF, if_neg h, if_neg (by rw [h2]; simp)]
      conv => whnf
      refine LoopP.own 4 68 3 114 rfl rfl rfl ?_
      refine LoopP.inv (X := ax g) (fun x : ByteArray × List TokT => { f := [(0, .str x.1), (4, .msl 68 x.2.length 0 x.2.length)], h := [(68, some (.buf 3 114 (x.2.map rowK)))] }) (fun x => x.2.length + x.1.size ≤ 4000 ∧ ∃ f, x.1.size < f ∧ tokensF V s = tokGo f x.1 x.2) (fun x => x.1.size) (s, []) ⟨by simp; omega, s.size + 1, by simp, hT⟩ ⟨⟨rfl, rfl, trivial⟩, ⟨fun o h => h, trivial⟩⟩ fun ⟨u, acc⟩ ⟨hsz, f, hf, he⟩ => ?_
      have hsz : acc.length + u.size ≤ 4000 := hsz
      have he : tokensF V s = tokGo f u acc := he
      have hf : u.size < f := hf
      conv => whnf
      refine ifB_intro (fun h3 => ?_) (fun h3 => ?_)
      · have hne : 0 < u.size := by
          rcases Nat.eq_zero_or_pos u.size with hz | hz
          · exfalso
            have : u = ⟨#[]⟩ := by
              obtain ⟨a⟩ := u
              have : a = #[] := Array.eq_empty_of_size_eq_zero hz
              rw [this]
            subst this
            have h3 : (!((⟨#[]⟩ : ByteArray).data.toList == (⟨#[]⟩ : ByteArray).data.toList)) = true := h3
            simp at h3
          · exact hz
        obtain ⟨f', rfl⟩ : ∃ f', f = f' + 1 := ⟨f - 1, by omega⟩
        rw [tokGo, if_neg (by omega)] at he
        obtain ⟨r1, r2⟩ := decodeGo_rune hne
        have hw := runeW_pos u 0 hne
        have hwle := decodeGo_le_size u
        have hrl := runeAt_le u 0
        conv => whnf
        refine CallP.det (decode_ctr g hg u) ?_
        conv => whnf
        refine CallP.det (class_ctr g hg _ (by omega) (by omega)) ?_
        conv => whnf
        refine ifB_intro (fun h4 => ?_) (fun h4 => ?_)
        · have h4 : classF (Lib.decodeGo u).1 = 0 := by simpa using h4
          rw [if_pos h4] at he
          conv => whnf
          refine And.intro (show (0 : Int) ≤ ((Lib.decodeGo u).2 : Int) by omega) ?_
          refine And.intro (show ((Lib.decodeGo u).2 : Int) ≤ u.size by omega) ?_
          refine And.intro (Int.le_refl _) ?_
          conv => whnf
          exact ⟨(u.extract (Lib.decodeGo u).2 u.size, acc), ⟨by show acc.length + (u.extract (Lib.decodeGo u).2 u.size).size ≤ 4000; simp; omega, f', by show (u.extract (Lib.decodeGo u).2 u.size).size < f'; simp; omega, he⟩, by show (u.extract (Lib.decodeGo u).2 u.size).size < u.size; simp; omega, ⟨⟨rfl, rfl, trivial⟩, ⟨fun o h => h, trivial⟩⟩⟩
        · have h4 : ¬ classF (Lib.decodeGo u).1 = 0 := by simpa using h4
          rw [if_neg h4] at he
          conv => whnf
          refine ifB_intro (fun h5 => ?_) (fun h5 => ?_)
          · have h5 : classF (Lib.decodeGo u).1 = 1 := by simpa using h5
            rw [if_pos h5] at he
            conv => whnf
            refine CallP.det (run_ctr g u 53 (· != 10) (fun c _ => notEol_ctr g c)) ?_
            conv => whnf
            have hr1 : 1 ≤ runF (· != 10) u u.size 0 := runF_pos _ u hne (by
              have hc : classF (runeAt u 0) = 1 := by rw [← r1]; exact h5
              by_cases h10 : (runeAt u 0 : Int) = 10
              · rw [h10] at hc; exact absurd hc (by decide)
              · simpa using h10)
            have hr2 := runF_le (· != 10) u u.size 0 (Nat.zero_le _)
            generalize hN : runF (· != 10) u u.size 0 = N at hr1 hr2 he
            refine And.intro (show (0 : Int) ≤ (N : Int) by omega) ?_
            refine And.intro (show (N : Int) ≤ u.size by omega) ?_
            refine And.intro (Int.le_refl _) ?_
            conv => whnf
            exact ⟨(u.extract N u.size, acc), ⟨by show acc.length + (u.extract N u.size).size ≤ 4000; simp; omega, f', by show (u.extract N u.size).size < f'; simp; omega, he⟩, by show (u.extract N u.size).size < u.size; simp; omega, ⟨⟨rfl, rfl, trivial⟩, ⟨fun o h => h, trivial⟩⟩⟩
          · have h5 : ¬ classF (Lib.decodeGo u).1 = 1 := by simpa using h5
            rw [if_neg h5] at he
            conv => whnf
            refine ifB_intro (fun h6 => ?_) (fun h6 => ?_)
            · have h6 : classF (Lib.decodeGo u).1 = 2 := by simpa using h6
              conv => whnf
              refine CallP.det (word_ctr g hg u (by omega)) ?_
              conv => whnf
              refine And.intro rfl ?_
              conv => whnf
              have hst : stepF u = wordF u := by simp only [stepF, h6, if_true]
              rw [hst] at he
              refine ifB_intro (fun h7 => ?_) (fun h7 => ?_)
              · have h7 : (wordF u).e ≠ 0 := by simpa using h7
                rw [if_pos h7] at he
                conv => whnf
                refine ⟨⟨[], ?_⟩⟩
                conv => whnf
                rw [he]; rfl
              · have h7 : (wordF u).e = 0 := by simpa using h7
                rw [if_neg (by simp [h7])] at he
                have hnn := stepF_n hne (by rw [hst]; exact h7)
                rw [hst] at hnn
                conv => whnf
                refine DrawP.intro (X := ax g) B31_24 (by kernel_rfl) (by decide +kernel) ?_
                conv => whnf
                repeat (refine And.intro (by first | exact rfl | decide | exact Nat.le_of_ble_eq_true rfl | exact ⟨_, rfl⟩ | exact ⟨_, _, rfl⟩) ?_; conv => whnf)
                refine And.intro (List.length_map ..).symm ?_
                refine And.intro rfl ?_
                refine And.intro (by show ((acc.map rowK).length + 1) * 32 ≤ 140737488355328; simp; omega) ?_
                conv => whnf
                refine And.intro (show (0 : Int) ≤ (wordF u).n by omega) ?_
                refine And.intro (show (wordF u).n ≤ u.size by omega) ?_
                refine And.intro (Int.le_refl _) ?_
                conv => whnf
                exact ⟨(u.extract (wordF u).n.toNat u.size, acc ++ [(wordF u).t]), ⟨by show (acc ++ [(wordF u).t]).length + (u.extract (wordF u).n.toNat u.size).size ≤ 4000; simp; omega, f', by show (u.extract (wordF u).n.toNat u.size).size < f'; simp; omega, he⟩, by show (u.extract (wordF u).n.toNat u.size).size < u.size; simp; omega, ⟨⟨rfl, msl_eq (by simp), trivial⟩, ⟨fun o h => by rw [List.map_append] at h; exact h, trivial⟩⟩⟩
            · have h6 : ¬ classF (Lib.decodeGo u).1 = 2 := by simpa using h6
              conv => whnf
              refine ifB_intro (fun h8 => ?_) (fun h8 => ?_)
              · have h8 : classF (Lib.decodeGo u).1 = 3 := by simpa using h8
                conv => whnf
                refine CallP.det (number_ctr g hg u (by omega)) ?_
                conv => whnf
                refine And.intro rfl ?_
                conv => whnf
                have hst : stepF u = numberF u := by simp only [stepF]; rw [if_neg h6, if_pos h8]
                rw [hst] at he
                refine ifB_intro (fun h7 => ?_) (fun h7 => ?_)
                · have h7 : (numberF u).e ≠ 0 := by simpa using h7
                  rw [if_pos h7] at he
                  conv => whnf
                  refine ⟨⟨[], ?_⟩⟩
                  conv => whnf
                  rw [he]; rfl
                · have h7 : (numberF u).e = 0 := by simpa using h7
                  rw [if_neg (by simp [h7])] at he
                  have hnn := stepF_n hne (by rw [hst]; exact h7)
                  rw [hst] at hnn
                  conv => whnf
                  refine DrawP.intro (X := ax g) B31_24 (by kernel_rfl) (by decide +kernel) ?_
                  conv => whnf
                  repeat (refine And.intro (by first | exact rfl | decide | exact Nat.le_of_ble_eq_true rfl | exact ⟨_, rfl⟩ | exact ⟨_, _, rfl⟩) ?_; conv => whnf)
                  refine And.intro (List.length_map ..).symm ?_
                  refine And.intro rfl ?_
                  refine And.intro (by show ((acc.map rowK).length + 1) * 32 ≤ 140737488355328; simp; omega) ?_
                  conv => whnf
                  refine And.intro (show (0 : Int) ≤ (numberF u).n by omega) ?_
                  refine And.intro (show (numberF u).n ≤ u.size by omega) ?_
                  refine And.intro (Int.le_refl _) ?_
                  conv => whnf
                  exact ⟨(u.extract (numberF u).n.toNat u.size, acc ++ [(numberF u).t]), ⟨by show (acc ++ [(numberF u).t]).length + (u.extract (numberF u).n.toNat u.size).size ≤ 4000; simp; omega, f', by show (u.extract (numberF u).n.toNat u.size).size < f'; simp; omega, he⟩, by show (u.extract (numberF u).n.toNat u.size).size < u.size; simp; omega, ⟨⟨rfl, msl_eq (by simp), trivial⟩, ⟨fun o h => by rw [List.map_append] at h; exact h, trivial⟩⟩⟩
              · have h8 : ¬ classF (Lib.decodeGo u).1 = 3 := by simpa using h8
                conv => whnf
                refine ifB_intro (fun h9 => ?_) (fun h9 => ?_)
                · have h9 : classF (Lib.decodeGo u).1 = 5 := by simpa using h9
                  conv => whnf
                  refine CallP.det (mark_ctr g u hne) ?_
                  conv => whnf
                  refine And.intro rfl ?_
                  conv => whnf
                  have hst : stepF u = markF u := by simp only [stepF]; rw [if_neg h6, if_neg h8, if_pos h9]
                  rw [hst] at he
                  have h7 : (markF u).e = 0 := rfl
                  rw [if_neg (by simp [h7])] at he
                  have hnn := stepF_n hne (by rw [hst]; exact h7)
                  rw [hst] at hnn
                  refine DrawP.intro (X := ax g) B31_24 (by kernel_rfl) (by decide +kernel) ?_
                  conv => whnf
                  repeat (refine And.intro (by first | exact rfl | decide | exact Nat.le_of_ble_eq_true rfl | exact ⟨_, rfl⟩ | exact ⟨_, _, rfl⟩) ?_; conv => whnf)
                  refine And.intro (List.length_map ..).symm ?_
                  refine And.intro rfl ?_
                  refine And.intro (by show ((acc.map rowK).length + 1) * 32 ≤ 140737488355328; simp; omega) ?_
                  conv => whnf
                  refine And.intro (show (0 : Int) ≤ (markF u).n by omega) ?_
                  refine And.intro (show (markF u).n ≤ u.size by omega) ?_
                  refine And.intro (Int.le_refl _) ?_
                  conv => whnf
                  exact ⟨(u.extract (markF u).n.toNat u.size, acc ++ [(markF u).t]), ⟨by show (acc ++ [(markF u).t]).length + (u.extract (markF u).n.toNat u.size).size ≤ 4000; simp; omega, f', by show (u.extract (markF u).n.toNat u.size).size < f'; simp; omega, he⟩, by show (u.extract (markF u).n.toNat u.size).size < u.size; simp; omega, ⟨⟨rfl, msl_eq (by simp), trivial⟩, ⟨fun o h => by rw [List.map_append] at h; exact h, trivial⟩⟩⟩
                · have h9 : ¬ classF (Lib.decodeGo u).1 = 5 := by simpa using h9
                  have hst : stepF u = errP 10 := by simp only [stepF]; rw [if_neg h6, if_neg h8, if_neg h9]
                  rw [hst, if_pos (by decide)] at he
                  conv => whnf
                  refine ⟨⟨[], ?_⟩⟩
                  conv => whnf
                  rw [he]; rfl
      · have hz : u.size = 0 := by
          rcases Nat.eq_zero_or_pos u.size with hz | hz
          · exact hz
          · exfalso
            have h3 : (!(u.data.toList == (⟨#[]⟩ : ByteArray).data.toList)) = false := h3
            rw [Bool.not_eq_false', beq_iff_eq] at h3
            have : u.data.size = 0 := by rw [← Array.length_toList, h3]; rfl
            have : u.size = u.data.size := rfl
            omega
        obtain ⟨f', rfl⟩ : ∃ f', f = f' + 1 := ⟨f - 1, by omega⟩
        rw [tokGo, if_pos hz] at he
        conv => whnf
        refine And.intro ⟨⟨_, _, rfl, rfl, Nat.le_of_ble_eq_true rfl⟩, trivial⟩ ?_
        conv => whnf
        refine And.intro rfl ?_
        conv => whnf
        refine And.intro (List.length_map ..).symm ?_
        refine And.intro rfl ?_
        refine And.intro (by show ((acc.map rowK).length + 1) * 32 ≤ 140737488355328; simp; omega) ?_
        conv => whnf
        refine ⟨⟨[], ?_⟩⟩
        conv => whnf
        refine And.intro (by simp) ?_
        refine And.intro (by show 0 + ((acc.map rowK).length + 1) ≤ _; simp) ?_
        conv => whnf
        rw [he]
        show AOut.ret (.tup [.d (.sl false 3 (List.take ((acc.map rowK).length + 1) (List.drop 0 (acc.map rowK ++ [rowK noTok])))), .i64 0]) [] = AOut.ret (.tup [.d (.sl false 3 ((acc ++ [noTok]).map rowK)), .i64 0]) []
        rw [List.drop_zero, List.take_of_length_le (by simp), List.map_append]; rfl
end Go.Ax
namespace Go.Ax
open Go.Lib
set_option maxRecDepth 10000
def wB (c : Ch) : Bool := withinF c.1
def dB (c : Ch) : Bool := isDigit c.1
def nB (c : Ch) : Bool := (c.1 : Int) != 10
def numC : List Ch → Int → Option Int
  | [], v => some v
  | c :: r, v => if 65535 < 10 * v + ((c.1 : Int) - 48) then none else numC r (10 * v + ((c.1 : Int) - 48))
def sign2 : List Ch → Bool
  | a :: b :: _ => (a.1 == 58 && b.1 == 61) || (a.1 == 61 && b.1 == 62)
  | _ => false
def headW : List Ch → Bool
  | [] => false
  | c :: _ => wB c
def baOf (cs : List Ch) : ByteArray := ⟨(flat cs).toArray⟩
inductive StepR where
  | err (e : Int)
  | tok (t : TokT) (r : List Ch)
def stepC (cs : List Ch) : StepR :=
  match cs with
  | [] => .err 10
  | c :: _ =>
    if classF c.1 = 2 then (if 20 < (cs.takeWhile wB).length then .err 2 else .tok ⟨1, baOf (cs.takeWhile wB), 0⟩ (cs.dropWhile wB))
    else if classF c.1 = 3 then (if headW (cs.dropWhile dB) then .err 10 else match numC (cs.takeWhile dB) 0 with
      | none => .err 2
      | some v => .tok ⟨2, ⟨#[]⟩, v⟩ (cs.dropWhile dB))
    else if classF c.1 = 5 then (if sign2 cs then .tok ⟨3, baOf (cs.take 2), 0⟩ (cs.drop 2) else .tok ⟨3, baOf (cs.take 1), 0⟩ (cs.drop 1))
    else .err 10
def tokC : Nat → List Ch → List TokT → Option (List TokT) × Int
  | 0, _, _ => (none, 0)
  | _ + 1, [], acc => (some (acc ++ [noTok]), 0)
  | f + 1, c :: r, acc => if classF c.1 = 0 then tokC f r acc else if classF c.1 = 1 then tokC f ((c :: r).dropWhile nB) acc else
    match stepC (c :: r) with
    | .err e => (none, e)
    | .tok t r' => tokC f r' (acc ++ [t])
theorem runeAt_drop (s : ByteArray) (pos : Nat) : runeAt s pos = (decodeL (s.data.toList.drop pos)).1 ∧ runeW s pos = (decodeL (s.data.toList.drop pos)).2 := by
  rw [decodeL_drop]; exact ⟨rfl, rfl⟩
theorem len_data (s : ByteArray) : s.data.toList.length = s.size := by rw [Array.length_toList]; rfl
theorem flat_nil : flat [] = [] := rfl
theorem runF_chunks (p : Int → Bool) (s : ByteArray) : ∀ (f pos : Nat), s.size ≤ pos + f → pos ≤ s.size → runF p s f pos = pos + (flat ((chunks (s.data.toList.drop pos)).takeWhile fun c => p c.1)).length
  | 0, pos, h1, h2 => by
    have : s.data.toList.drop pos = [] := List.drop_eq_nil_of_le (by rw [len_data]; omega)
    rw [this]; simp only [runF, chunks_nil, List.takeWhile_nil, flat_nil, List.length_nil]; omega
  | f + 1, pos, h1, h2 => by
    simp only [runF]
    by_cases hlt : pos < s.size
    · rw [if_pos hlt]
      have hne : s.data.toList.drop pos ≠ [] := fun e => by
        have : (s.data.toList.drop pos).length = 0 := by rw [e]; rfl
        rw [List.length_drop, len_data] at this; omega
      have hw := decodeL_width (s.data.toList.drop pos)
      have hle := decodeL_le _ hne
      rw [List.length_drop, len_data] at hle
      obtain ⟨r1, r2⟩ := runeAt_drop s pos
      rw [r1, r2, chunks_step hne, List.takeWhile_cons]
      by_cases hp : p ((decodeL (s.data.toList.drop pos)).1 : Int) = true
      · rw [if_pos hp, if_pos hp, flat_cons, List.length_append, runF_chunks p s f _ (by omega) (by omega), List.drop_drop, List.length_take, List.length_drop, len_data]
        omega
      · rw [if_neg hp, if_neg hp]; rfl
    · rw [if_neg hlt]
      have : s.data.toList.drop pos = [] := List.drop_eq_nil_of_le (by rw [len_data]; omega)
      rw [this]; simp only [chunks_nil, List.takeWhile_nil, flat_nil, List.length_nil]; omega
theorem data_take (s : ByteArray) (n : Nat) : (s.extract 0 n).data.toList = s.data.toList.take n := by
  simp [ByteArray.data_extract]
theorem data_drop (s : ByteArray) (n : Nat) : (s.extract n s.size).data.toList = s.data.toList.drop n := by
  simp only [ByteArray.data_extract, Array.toList_extract]
  rw [List.extract_eq_take_drop]
  exact List.take_of_length_le (by rw [List.length_drop, len_data]; omega)
theorem ba_data (s : ByteArray) (l : List UInt8) (h : s.data.toList = l) : s = ⟨l.toArray⟩ := by
  subst h; obtain ⟨a⟩ := s; simp
theorem split_chunks (p : Ch → Bool) (l : List UInt8) : l.take (flat ((chunks l).takeWhile p)).length = flat ((chunks l).takeWhile p) ∧ l.drop (flat ((chunks l).takeWhile p)).length = flat ((chunks l).dropWhile p) ∧ GoodC ((chunks l).takeWhile p) ∧ GoodC ((chunks l).dropWhile p) := by
  have e : l = flat ((chunks l).takeWhile p) ++ flat ((chunks l).dropWhile p) := by
    rw [← flat_append, List.takeWhile_append_dropWhile, flat_chunks]
  have hg := good_chunks l
  rw [← List.takeWhile_append_dropWhile (p := p) (l := chunks l)] at hg
  refine ⟨?_, ?_, hg.pre, hg.suf⟩
  · conv => lhs; arg 2; rw [e]
    exact List.take_left
  · conv => lhs; arg 2; rw [e]
    exact List.drop_left
theorem runeCountFrom_chunks (s : ByteArray) : ∀ (f pos : Nat), s.size ≤ pos + f → runeCountFrom s f pos = (chunks (s.data.toList.drop pos)).length
  | 0, pos, h => by
    have : s.data.toList.drop pos = [] := List.drop_eq_nil_of_le (by rw [len_data]; omega)
    rw [this]; rfl
  | f + 1, pos, h => by
    unfold runeCountFrom
    by_cases hlt : pos < s.size
    · have hne : s.data.toList.drop pos ≠ [] := fun e => by
        have : (s.data.toList.drop pos).length = 0 := by rw [e]; rfl
        rw [List.length_drop, len_data] at this; omega
      have hw := decodeL_width (s.data.toList.drop pos)
      rw [if_pos hlt, ← decodeL_drop, runeCountFrom_chunks s f _ (by omega), chunks_step hne, List.length_cons, List.drop_drop]
      omega
    · have : s.data.toList.drop pos = [] := List.drop_eq_nil_of_le (by rw [len_data]; omega)
      rw [if_neg hlt, this]; rfl
theorem runeCount_chunks (s : ByteArray) : runeCount s = (chunks s.data.toList).length := by
  have := runeCountFrom_chunks s s.size 0 (by omega)
  rw [List.drop_zero] at this
  exact this
theorem decodeL_high {b : UInt8} {t : List UInt8} (h : 128 ≤ b.toNat) : 128 ≤ (decodeL (b :: t)).1 := by
  have := (decode_high ⟨(b :: t).toArray⟩ 0 (by simp [ByteArray.size]) (by show 128 ≤ b.toNat; exact h)).1
  exact this
theorem GoodC.low {c : Ch} {cs : List Ch} (h : GoodC (c :: cs)) (hc : c.1 < 128) : ∃ b : UInt8, c.2 = [b] ∧ b.toNat = c.1 := by
  obtain ⟨h1, _, h3⟩ := h.ne
  obtain ⟨n, l⟩ := c
  cases l with
  | nil => exact absurd rfl h1
  | cons b t =>
    have h3 : decodeL (b :: (t ++ flat cs)) = (n, (b :: t).length) := h3
    by_cases hb : b.toNat < 128
    · rw [decodeL_ascii b _ hb] at h3
      injection h3 with e1 e2
      have : t = [] := by cases t with
        | nil => rfl
        | cons x t => simp at e2
      subst this
      exact ⟨b, rfl, e1⟩
    · have := decodeL_high (b := b) (t := t ++ flat cs) (by omega)
      rw [h3] at this
      have hc : n < 128 := hc
      have : 128 ≤ n := this
      omega
theorem GoodC.byte {c : Ch} {cs : List Ch} (h : GoodC (c :: cs)) {b : UInt8} {t : List UInt8} (hb : flat (c :: cs) = b :: t) (hl : b.toNat < 128) : c.1 = b.toNat := by
  unfold GoodC at h
  rw [hb, chunks_low hl] at h
  injection h with h1 _
  rw [← h1]
theorem classF_low {c : Int} (h : classF c = 5 ∨ classF c = 3 ∨ classF c = 0 ∨ classF c = 1) : 0 ≤ c ∧ c < 128 := by
  unfold classF at h
  repeat' split at h
  all_goals omega
theorem numGo_chunks (d : ByteArray) : ∀ (cs : List Ch) (pos : Nat) (v : Int), (∀ c ∈ cs, ∃ b : UInt8, c.2 = [b] ∧ b.toNat = c.1) → d.data.toList.drop pos = flat cs → numGo d cs.length pos v = numC cs v
  | [], pos, v, _, _ => rfl
  | c :: cs, pos, v, h, hd => by
    obtain ⟨b, h1, h2⟩ := h c (by simp)
    rw [flat_cons, h1] at hd
    have hlt : pos < d.data.toList.length := by
      rcases Nat.lt_or_ge pos d.data.toList.length with hh | hh
      · exact hh
      · rw [List.drop_eq_nil_of_le hh] at hd; simp at hd
    rw [List.drop_eq_getElem_cons hlt] at hd
    injection hd with e1 e2
    have hlt' : pos < d.size := by rw [← len_data]; exact hlt
    have hb : byteAt d pos = (c.1 : Int) := by
      simp only [byteAt, Int.toNat_natCast]
      rw [dif_pos hlt']
      have : d[pos]'hlt' = b := by rw [← e1]; rfl
      rw [this, h2]
    simp only [List.length_cons, numGo, numC, hb]
    rw [numGo_chunks d cs (pos + 1) _ (fun c hc => h c (by simp [hc])) e2]
theorem flat_one {cs : List Ch} (h : ∀ c ∈ cs, ∃ b : UInt8, c.2 = [b] ∧ b.toNat = c.1) : (flat cs).length = cs.length := by
  induction cs with
  | nil => rfl
  | cons c cs ih =>
    obtain ⟨b, h1, _⟩ := h c (by simp)
    rw [flat_cons, List.length_append, ih fun c hc => h c (by simp [hc]), h1, List.length_cons]; simp; omega
theorem GoodC.lows {cs : List Ch} (h : GoodC cs) (hc : ∀ c ∈ cs, c.1 < 128) : ∀ c ∈ cs, ∃ b : UInt8, c.2 = [b] ∧ b.toNat = c.1 := by
  induction cs with
  | nil => exact fun c hc => by simp at hc
  | cons d cs ih =>
    intro c hm
    rcases List.mem_cons.1 hm with rfl | hm
    · exact h.low (hc _ (by simp))
    · exact ih h.tail (fun c hc' => hc c (by simp [hc'])) c hm
theorem takeWhile_all {α : Type} (p : α → Bool) (l : List α) : ∀ c ∈ l.takeWhile p, p c = true := by
  induction l with
  | nil => exact fun c h => by simp at h
  | cons x l ih =>
    intro c h
    rw [List.takeWhile_cons] at h
    split at h
    · rename_i hx
      rcases List.mem_cons.1 h with rfl | h
      · exact hx
      · exact ih c h
    · simp at h
theorem hasPrefix2 (x y : UInt8) (l : List UInt8) : Lib.hasPrefix l [x, y] = (match l with
    | a :: b :: _ => x == a && y == b
    | _ => false) := by
  unfold Lib.hasPrefix
  match l with
  | [] => rfl
  | [a] => simp [List.isPrefixOf]
  | a :: b :: t => simp [List.isPrefixOf]
theorem beq_u8 (a b : UInt8) : (a == b) = (a.toNat == b.toNat) := by
  rw [Bool.eq_iff_iff, beq_iff_eq, beq_iff_eq]; exact ⟨fun h => by rw [h], fun h => UInt8.toNat_inj.1 h⟩
theorem sign2_bytes {c : Ch} {r : List Ch} (h : GoodC (c :: r)) (hc : c.1 < 128) : sign2 (c :: r) = (Lib.hasPrefix (flat (c :: r)) [58, 61] || Lib.hasPrefix (flat (c :: r)) [61, 62]) := by
  obtain ⟨b, h1, h2⟩ := h.low hc
  rw [hasPrefix2, hasPrefix2, flat_cons, h1]
  cases r with
  | nil => rfl
  | cons d r =>
    obtain ⟨g1, g2, g3⟩ := h.tail.ne
    obtain ⟨n, dl⟩ := d
    cases dl with
    | nil => exact absurd rfl g1
    | cons x t =>
      rw [flat_cons]
      simp only [List.cons_append, List.nil_append, sign2]
      have e1 : (c.1 == 58) = ((58 : UInt8) == b) := by rw [← h2, beq_u8, Bool.beq_comm]; rfl
      have e2 : (c.1 == 61) = ((61 : UInt8) == b) := by rw [← h2, beq_u8, Bool.beq_comm]; rfl
      have key : ∀ k : UInt8, k.toNat < 128 → (n == k.toNat) = (k == x) := fun k hk => by
        rw [beq_u8]
        by_cases hx : x.toNat < 128
        · have := h.tail.byte (b := x) (t := t ++ flat r) (by rw [flat_cons]; rfl) hx
          have : n = x.toNat := this
          rw [this, Bool.beq_comm]
        · have := decodeL_high (b := x) (t := t ++ flat r) (by omega)
          have g3 : decodeL (x :: (t ++ flat r)) = (n, _) := g3
          rw [g3] at this
          have : 128 ≤ n := this
          rw [Bool.eq_iff_iff, beq_iff_eq, beq_iff_eq]; omega
      have e3 := key 61 (by decide)
      have e4 := key 62 (by decide)
      rw [e1, e2]
      have e3 : (n == 61) = ((61 : UInt8) == x) := e3
      have e4 : (n == 62) = ((62 : UInt8) == x) := e4
      rw [e3, e4]
theorem GoodC.take_flat {A B : List Ch} : (flat (A ++ B)).take (flat A).length = flat A ∧ (flat (A ++ B)).drop (flat A).length = flat B := by
  rw [flat_append]; exact ⟨List.take_left, List.drop_left⟩
theorem sign2_low {c d : Ch} {r : List Ch} (h : sign2 (c :: d :: r) = true) : d.1 < 128 := by
  simp only [sign2, Bool.or_eq_true, Bool.and_eq_true, beq_iff_eq] at h; omega
theorem sign2_two {c : Ch} {r : List Ch} (h : sign2 (c :: r) = true) : ∃ d r', r = d :: r' := by
  cases r with
  | nil => simp [sign2] at h
  | cons d r => exact ⟨_, _, rfl⟩
theorem step_eq (s : ByteArray) (c : Ch) (r : List Ch) (hcs : chunks s.data.toList = c :: r) :
    match stepC (c :: r) with
    | .err e => (stepF s).e = e ∧ e ≠ 0
    | .tok t r' => (stepF s).e = 0 ∧ (stepF s).t = t ∧ chunks (s.extract (stepF s).n.toNat s.size).data.toList = r' := by
  have hg : GoodC (c :: r) := by rw [← hcs]; exact good_chunks _
  have hfl : flat (c :: r) = s.data.toList := by rw [← hcs, flat_chunks]
  have hne : s.data.toList ≠ [] := fun e => by rw [e, chunks_nil] at hcs; simp at hcs
  have hsz : 0 < s.size := by rw [← len_data]; exact List.length_pos_iff.2 hne
  have hd1 : (Lib.decodeGo s).1 = c.1 := by
    rw [(decodeGo_rune hsz).1, (runeAt_drop s 0).1, List.drop_zero]
    rw [chunks_step hne] at hcs
    injection hcs with h1 _
    rw [← h1]
  unfold stepF stepC
  simp only [hd1]
  by_cases h2 : classF c.1 = 2
  · rw [if_pos h2, if_pos h2]
    obtain ⟨k1, k2, k3, k4⟩ := split_chunks wB s.data.toList
    rw [hcs] at k1 k2 k3 k4
    have hn : runF withinF s s.size 0 = (flat ((c :: r).takeWhile wB)).length := by
      rw [runF_chunks withinF s s.size 0 (by omega) (by omega), List.drop_zero, hcs, Nat.zero_add]; rfl
    have hrc : runeCount (s.extract 0 (flat ((c :: r).takeWhile wB)).length) = ((c :: r).takeWhile wB).length := by
      rw [runeCount_chunks, data_take, k1, k3]
    unfold wordF
    rw [hn, hrc]
    by_cases h20 : 20 < ((c :: r).takeWhile wB).length
    · rw [if_pos h20, if_pos h20]; exact ⟨rfl, by decide⟩
    · rw [if_neg h20, if_neg h20]
      refine ⟨rfl, ?_, ?_⟩
      · show TokT.mk 1 (s.extract 0 _) 0 = TokT.mk 1 (baOf _) 0
        rw [ba_data (s.extract 0 (flat ((c :: r).takeWhile wB)).length) (flat ((c :: r).takeWhile wB)) (by rw [data_take, k1])]; rfl
      · show chunks (s.extract ((flat ((c :: r).takeWhile wB)).length : Int).toNat s.size).data.toList = _
        rw [Int.toNat_natCast, data_drop, k2, k4]
  · rw [if_neg h2, if_neg h2]
    by_cases h3 : classF c.1 = 3
    · rw [if_pos h3, if_pos h3]
      obtain ⟨k1, k2, k3, k4⟩ := split_chunks dB s.data.toList
      rw [hcs] at k1 k2 k3 k4
      have hn : runF isDigit s s.size 0 = (flat ((c :: r).takeWhile dB)).length := by
        rw [runF_chunks isDigit s s.size 0 (by omega) (by omega), List.drop_zero, hcs, Nat.zero_add]; rfl
      have hlow : ∀ c' ∈ (c :: r).takeWhile dB, c'.1 < 128 := fun c' hc' => by
        have := isDigit_iff (takeWhile_all dB _ c' hc'); omega
      have hlows := k3.lows hlow
      have hlen := flat_one hlows
      have hsplit : (flat ((c :: r).takeWhile dB)).length + (flat ((c :: r).dropWhile dB)).length = s.size := by
        rw [← List.length_append, ← flat_append, List.takeWhile_append_dropWhile, hfl, len_data]
      have hcond : ((flat ((c :: r).takeWhile dB)).length < s.size ∧ withinF (Lib.decodeGo (s.extract (flat ((c :: r).takeWhile dB)).length s.size)).1 = true) ↔ headW ((c :: r).dropWhile dB) = true := by
        cases hdw : (c :: r).dropWhile dB with
        | nil =>
          rw [hdw] at hsplit
          simp only [flat_nil, List.length_nil] at hsplit
          simp only [headW, Bool.false_eq_true, iff_false]
          exact fun h => by omega
        | cons d r' =>
          rw [hdw] at k2 k4 hsplit
          have hdz : 0 < (s.extract (flat ((c :: r).takeWhile dB)).length s.size).size := by
            rw [← len_data, data_drop, k2]
            exact List.length_pos_iff.2 (fun e => by unfold GoodC at k4; rw [e, chunks_nil] at k4; simp at k4)
          have e1 : (Lib.decodeGo (s.extract (flat ((c :: r).takeWhile dB)).length s.size)).1 = d.1 := by
            rw [(decodeGo_rune hdz).1, (runeAt_drop _ 0).1, List.drop_zero, data_drop, k2]
            have hne2 : flat (d :: r') ≠ [] := fun e => by unfold GoodC at k4; rw [e, chunks_nil] at k4; simp at k4
            unfold GoodC at k4
            rw [chunks_step hne2] at k4
            injection k4 with h1 _
            exact congrArg Prod.fst h1
          rw [e1]
          simp only [headW, wB]
          refine ⟨fun h => h.2, fun h => ⟨?_, h⟩⟩
          have : 0 < (flat (d :: r')).length := List.length_pos_iff.2 (fun e => by unfold GoodC at k4; rw [e, chunks_nil] at k4; simp at k4)
          omega
      unfold numberF
      rw [hn]
      by_cases hw : headW ((c :: r).dropWhile dB) = true
      · rw [if_pos hw, if_pos (hcond.2 hw)]; exact ⟨rfl, by decide⟩
      · rw [if_neg hw, if_neg (fun h => hw (hcond.1 h))]
        have hnum : numGo (s.extract 0 (flat ((c :: r).takeWhile dB)).length) (flat ((c :: r).takeWhile dB)).length 0 0 = numC ((c :: r).takeWhile dB) 0 := by
          conv => lhs; arg 2; rw [hlen]
          exact numGo_chunks _ _ 0 0 hlows (by rw [List.drop_zero, data_take, k1])
        rw [hnum]
        cases numC ((c :: r).takeWhile dB) 0 with
        | none => exact ⟨rfl, by decide⟩
        | some v =>
          refine ⟨rfl, rfl, ?_⟩
          show chunks (s.extract ((flat ((c :: r).takeWhile dB)).length : Int).toNat s.size).data.toList = _
          rw [Int.toNat_natCast, data_drop, k2, k4]
    · rw [if_neg h3, if_neg h3]
      by_cases h5 : classF c.1 = 5
      · rw [if_pos h5, if_pos h5]
        have hlow : c.1 < 128 := by have := classF_low (.inl h5); omega
        obtain ⟨b, hb1, hb2⟩ := hg.low hlow
        have hs2 := sign2_bytes hg hlow
        rw [hfl] at hs2
        unfold markF markN
        rw [← hs2]
        have fin : ∀ A B : List Ch, c :: r = A ++ B → ((flat A).length : Int) = (if sign2 (c :: r) = true then 2 else 1) → TokT.mk 3 (s.extract 0 (if sign2 (c :: r) = true then (2 : Int) else 1).toNat) 0 = ⟨3, baOf A, 0⟩ ∧ chunks (s.extract (if sign2 (c :: r) = true then (2 : Int) else 1).toNat s.size).data.toList = B := by
          intro A B hAB hl
          rw [← hl, Int.toNat_natCast]
          have e1 := GoodC.take_flat (A := A) (B := B)
          rw [← hAB, hfl] at e1
          refine ⟨?_, ?_⟩
          · rw [ba_data (s.extract 0 (flat A).length) (flat A) (by rw [data_take, e1.1])]; rfl
          · rw [data_drop, e1.2]
            rw [hAB] at hg
            exact hg.suf
        by_cases hs : sign2 (c :: r) = true
        · obtain ⟨d, r', hr⟩ := sign2_two hs
          subst hr
          obtain ⟨b2, hb3, _⟩ := hg.tail.low (sign2_low hs)
          have := fin [c, d] r' rfl (by rw [if_pos hs, flat_cons, flat_cons, hb1, hb3]; rfl)
          rw [if_pos hs]
          rw [if_pos hs] at this ⊢
          exact ⟨rfl, this⟩
        · have := fin [c] r rfl (by rw [if_neg hs, flat_cons, hb1]; rfl)
          rw [if_neg hs]
          rw [if_neg hs] at this ⊢
          exact ⟨rfl, this⟩
      · rw [if_neg h5, if_neg h5]; exact ⟨rfl, by decide⟩
theorem ba_size0 {s : ByteArray} (h : s.size = 0) : s.data.toList = [] := List.eq_nil_of_length_eq_zero (by rw [len_data, h])
theorem tok_eq : ∀ (f : Nat) (s : ByteArray) (acc : List TokT), tokGo f s acc = tokC f (chunks s.data.toList) acc
  | 0, s, acc => by simp only [tokGo, tokC]
  | f + 1, s, acc => by
    by_cases hz : s.size = 0
    · rw [tokGo, if_pos hz, ba_size0 hz, chunks_nil]; rfl
    · have hsz : 0 < s.size := by omega
      have hne : s.data.toList ≠ [] := fun e => by have := len_data s; rw [e] at this; simp at this; omega
      cases hcs : chunks s.data.toList with
      | nil => exact absurd hcs (chunks_ne hne)
      | cons c r =>
        have hst := chunks_step hne
        rw [hcs] at hst
        injection hst with hc hr
        have hd1 : (Lib.decodeGo s).1 = c.1 := by
          rw [(decodeGo_rune hsz).1, (runeAt_drop s 0).1, List.drop_zero, hc]
        have hd2 : (Lib.decodeGo s).2 = (decodeL s.data.toList).2 := by
          rw [(decodeGo_rune hsz).2, (runeAt_drop s 0).2, List.drop_zero]
        rw [tokGo, if_neg hz, tokC, hd1]
        by_cases h0 : classF c.1 = 0
        · rw [if_pos h0, if_pos h0, tok_eq f, hd2, data_drop, hr]
        · rw [if_neg h0, if_neg h0]
          by_cases h1 : classF c.1 = 1
          · rw [if_pos h1, if_pos h1, tok_eq f]
            obtain ⟨k1, k2, k3, k4⟩ := split_chunks nB s.data.toList
            rw [hcs] at k1 k2 k3 k4
            have hn : runF (· != 10) s s.size 0 = (flat ((c :: r).takeWhile nB)).length := by
              rw [runF_chunks _ s s.size 0 (by omega) (by omega), List.drop_zero, hcs, Nat.zero_add]; rfl
            rw [hn, data_drop, k2, k4]
          · rw [if_neg h1, if_neg h1]
            have hs := step_eq s c r hcs
            cases hst : stepC (c :: r) with
            | err e =>
              rw [hst] at hs
              obtain ⟨e1, e2⟩ := hs
              rw [if_pos (by rw [e1]; exact e2), e1]
            | tok t r' =>
              rw [hst] at hs
              obtain ⟨e1, e2, e3⟩ := hs
              rw [if_neg (by rw [e1]; simp), tok_eq f, e2, e3]
end Go.Ax
