/- What the card of this claim stands on, or the card itself: for every input, as the given row says. -/
import Derived.Below
import Derived.Shelf.Strings.Builder1
import Derived.Shelf.Strings.Builder2
import Derived.Shelf.Strings.OnBuilder
import Derived.Shelf.Small.Utf8
import Derived.Shelf.Small.Bits
import Derived.Shelf.Small.Strs
import Derived.Shelf.Small.Wraps
import Derived.Shelf.Strings.BuilderF
import Derived.Shelf.Strings.BuilderK
import Derived.Shelf.Utf8.RuneCount
import Derived.Shelf.Strconv.Atoi
import Derived.Shelf.Strconv.Itoa0
import Derived.Shelf.Strconv.Itoa1
import Derived.Shelf.LaysM
import Derived.Shelf.Strconv.Itoa2
import Derived.Shelf.Strconv.Itoa3
import Derived.Shelf.Strconv.AtoiErrFast
import Derived.Shelf.Strconv.ParseIntEmpty
import Derived.Shelf.Strconv.AtoiFail
import Derived.Shelf.Strconv.Clone
import Derived.Shelf.Strconv.SyntaxError
import Derived.Shelf.LaysC
import Derived.Shelf.Strconv.ToError
import Derived.Shelf.Strconv.Lower
import Derived.Shelf.Strconv.ParseUint10
import Derived.Shelf.Strconv.ParseUint10Empty
import Derived.Shelf.Strconv.ParseUint10Any
import Derived.Shelf.Strconv.ParseInt10
import Derived.Shelf.Strconv.AtoiLong
import Derived.Shelf.Strconv.AtoiInnerAll
import Derived.Shelf.Strconv.RangeError
import Derived.Shelf.Strconv.ToErrorRange
import Derived.Shelf.Strconv.AtoiAll
import Derived.Shelf.Strconv.ErrVarAll
import Derived.Ground.MpProg
import Derived.Shelf.Pu.ParseUintPublic10
import Derived.Shelf.Pu.ErrVarParseUint
import Derived.Shelf.Strings.Search1
import Derived.Shelf.Strings.Search2
import Derived.Shelf.Strings.Search3
import Derived.Shelf.Strings.Cut
import Derived.Shelf.Strings.Count
import Derived.Shelf.Strings.Shaped
import Derived.Shelf.Strings.Prefix
import Derived.Shelf.Unicode.Props
import Derived.Shelf.Unicode.PropsLaid
import Derived.Shelf.Unicode.Decode
import Derived.Shelf.Strings.Runes
import Derived.Shelf.Strings.RuneCount
import Derived.Shelf.Strings.AsciiSet
import Derived.Shelf.Unicode.DecodeSlow
import Derived.Shelf.Unicode.DecodeAny
import Derived.Shelf.Unicode.Is16White
import Derived.Shelf.Unicode.IsSpaceAny
import Derived.Shelf.Unicode.DecodeLast
import Derived.Shelf.Unicode.Is16Any
import Derived.Shelf.Unicode.Is32Any
import Derived.Shelf.Unicode.ExclAny
import Derived.Shelf.Unicode.PredsAny
import Derived.Shelf.Unicode.PredsPay
import Derived.Shelf.Unicode.ValidAny
import Derived.Test.YtdobclfcondfcaaGreatDoorProg
import Derived.Test.YtdobclfcondfcaaGreatDoorRows
import Derived.Test.YtdobclfcondfcaaGreatDoorCards
import Derived.Test.YtdobclfcondfcaaGreatDoorTie
import Derived.WalkKit
import Derived.ProofKit
import Derived.OpenShut
import Derived.Carry
import Derived.ChangeMaps
import Derived.Deep.DeepHandedRow
import Derived.Deep.DeepWitnessRowRef
import Derived.Lib.LaidU8
import Derived.Lib.LaidRTab
import Derived.Lib.LaidIn
import Derived.Lib.LaidTab
import Derived.Lib.SmallJoins
import Derived.PinnedBridge
import Derived.SizedLaws
import Derived.ChangeArms
import Derived.DataReads
import Derived.Lib.Builder
import Derived.Test.YtdobclfcondfcaaGreatDoorBA06
import Derived.Test.YtdobclfcondfcaaGreatDoorBA07

namespace Go.Ax
open Go.RowKit
theorem after_below {w w' : World} {Im : Nat → Prop} {ρ : Nat → Option Loc} (hIm : ∀ b, Im b → b < w.heap.size) (h : Below w.heap.size w w') : After w Im ρ [] w' Im (fun _ => none) [] where
  grows := ⟨h.size, h.os, h.tape, h.output, fun b hb _ => h.block b hb⟩
  im := fun b hb => hb
  imn := fun b hb => ⟨Nat.lt_of_lt_of_le (hIm b hb) h.size, .inl hb⟩
  rel := ⟨fun r o hr => by simp [lkH] at hr, fun r r' o o' l l' hr => by simp [lkH] at hr⟩
  anc := fun r o hr => by simp [lkH] at hr
  cl := fun r o hr => by simp [lkH] at hr
def vals (xs : List Value) : List AV := xs.map fun x => .d (.v x)
theorem args_vals {h : Nat → Option Obj} {Im : Nat → Prop} {ρ : Nat → Option Loc} {vs : Array Value} {xs : List Value} (hsz : vs.size = (vals xs).length) (hra : ∀ (i : Nat) (v : Value) (x : AV), vs[i]? = some v → (vals xs)[i]? = some x → RA h Im ρ v x) : vs = xs.toArray := by
  have hl : vs.size = xs.length := by rw [hsz]; simp [vals]
  apply Array.ext (by simpa using hl)
  intro i h1 h2
  have hx : (vals xs)[i]? = some (.d (.v xs[i])) := by simp [vals, List.getElem?_eq_getElem (show i < xs.length by omega)]
  have := hra i vs[i] _ (Array.getElem?_eq_getElem h1) hx
  simpa using this.v
theorem Ctr.ofVal {E : Env} {f : FuncId} {xs : List Value} {v : Value} (hb : Bodied E.P f) (hv : v.oneCell' = true) (h : ∀ w, E.G w → Calls E.P f xs.toArray w fun e w' => e = .returned v ∧ Below w.heap.size w w') : Ctr E f (vals xs) [] fun o => o = .ret (.d (.v v)) [] := by
  refine ⟨hb, fun w Im ρ vs hG hIm hgl hsz hra hrel => ?_⟩
  rw [args_vals hsz hra]
  refine (h w hG).mono fun e w' ⟨he, hB⟩ => ?_
  subst he
  exact ⟨_, [], Im, _, rfl, RA.intv v hv, fun r hr => by simp [AV.ment] at hr, after_below hIm hB⟩
theorem Ctr.ofVals {E : Env} {f : FuncId} {xs ys : List Value} (hb : Bodied E.P f) (hv : ∀ y ∈ ys, y.oneCell' = true) (h : ∀ w, E.G w → Calls E.P f xs.toArray w fun e w' => e = .returned (.tuple ys.toArray) ∧ Below w.heap.size w w') : Ctr E f (vals xs) [] fun o => o = .ret (.tup (vals ys)) [] := by
  refine ⟨hb, fun w Im ρ vs hG hIm hgl hsz hra hrel => ?_⟩
  rw [args_vals hsz hra]
  refine (h w hG).mono fun e w' ⟨he, hB⟩ => ?_
  subst he
  refine ⟨_, [], Im, _, rfl, .tup _ _ (by simp [vals]) fun i v x h1 h2 => ?_, fun r hr => ?_, after_below hIm hB⟩
  · simp only [vals, List.getElem?_map, Option.map_eq_some_iff] at h2
    obtain ⟨y, hy, rfl⟩ := h2
    have : y = v := by simpa [hy] using h1
    subst this
    exact RA.intv _ (hv _ (List.mem_of_getElem? hy))
  · have : ∀ l : List Value, AV.ment.mentL r (vals l) = false := fun l => by
      induction l with
      | nil => rfl
      | cons y l ih => simpa [vals, AV.ment.mentL, AV.ment] using ih
    simp only [AV.ment, this] at hr
    exact absurd hr (by simp)
end Go.Ax

namespace Go.Proofs
open Go.Shelf
def Tryz.lays156_ren : Go.Shelf.Ren := ⟨fun | 156 => 65 | 165 => 124 | 166 => 47 | 169 => 51 | 240 => 105 | 241 => 173 | 276 => 154 | 277 => 219 | n => n, fun | 31 => 119 | 9 => 9 | 3 => 3 | 4 => 4 | 0 => 0 | 20 => 20 | 72 => 92 | 76 => 97 | 70 => 89 | 37 => 90 | 75 => 96 | 127 => 168 | 164 => 218 | 5 => 5 | 80 => 102 | n => n, fun | n => n⟩
theorem Tryz.lays156 : Go.Proofs.Lays.n156 Tryz.prog Tryz.lays156_ren := {
  mixed := by kernel_rfl
  f156 := Tryz.func65.trans (congrArg some (by kernel_rfl))
  f165 := Tryz.func124.trans (congrArg some (by kernel_rfl))
  f166 := Tryz.func47.trans (congrArg some (by kernel_rfl))
  f169 := Tryz.func51.trans (congrArg some (by kernel_rfl))
  f240 := Tryz.func105.trans (congrArg some (by kernel_rfl))
  f241 := Tryz.func173.trans (congrArg some (by kernel_rfl))
  f276 := Tryz.func154.trans (congrArg some (by kernel_rfl))
  f277 := Tryz.func219.trans (congrArg some (by kernel_rfl))
  t0 := Tryz.underlying0
  a0 := Tryz.isAgg0
  z0 := Tryz.sizeOf0
  v0 := Tryz.zeroValue0
  t3 := Tryz.underlying3
  a3 := Tryz.isAgg3
  z3 := Tryz.sizeOf3
  v3 := Tryz.zeroValue3
  t4 := Tryz.underlying4
  a4 := Tryz.isAgg4
  z4 := Tryz.sizeOf4
  v4 := Tryz.zeroValue4
  t9 := Tryz.underlying9
  a9 := Tryz.isAgg9
  z9 := Tryz.sizeOf9
  v9 := Tryz.zeroValue9
  t20 := Tryz.underlying20
  a20 := Tryz.isAgg20
  z20 := Tryz.sizeOf20
  v20 := Tryz.zeroValue20
  t31 := Tryz.underlying119
  a31 := Tryz.isAgg119
  z31 := Tryz.sizeOf119
  v31 := Tryz.zeroValue119
  t37 := Tryz.underlying90
  a37 := Tryz.isAgg90
  z37 := Tryz.sizeOf90
  v37 := Tryz.zeroValue90
  t70 := Tryz.underlying89
  a70 := Tryz.isAgg89
  z70 := Tryz.sizeOf89
  v70 := Tryz.zeroValue89
  t72 := Tryz.underlying92
  a72 := Tryz.isAgg92
  z72 := Tryz.sizeOf92
  v72 := Tryz.zeroValue92
  t75 := Tryz.underlying96
  a75 := Tryz.isAgg96
  z75 := Tryz.sizeOf96
  v75 := Tryz.zeroValue96
  t76 := Tryz.underlying97
  a76 := Tryz.isAgg97
  z76 := Tryz.sizeOf97
  v76 := Tryz.zeroValue97
  t127 := Tryz.underlying168
  a127 := Tryz.isAgg168
  z127 := Tryz.sizeOf168
  v127 := Tryz.zeroValue168
  t164 := Tryz.underlying218
  a164 := Tryz.isAgg218
  z164 := Tryz.sizeOf218
  v164 := Tryz.zeroValue218 }
theorem Tryz.Builder_Extra_156 : Builder.Extra Tryz.prog Tryz.lays156_ren := {
  sizeBuilder := by kernel_rfl
  liesBuilder := by kernel_rfl
  t5 := Tryz.underlying5
  a5 := Tryz.isAgg5
  z5 := Tryz.sizeOf5
  v5 := Tryz.zeroValue5
  infoByte := by kernel_rfl
  cellsByte := by kernel_rfl
  sizeByte := by kernel_rfl
  neB5 := by decide }
def Tryz.lays171_ren : Go.Shelf.Ren := ⟨fun | 171 => 64 | 243 => 123 | 246 => 172 | 283 => 215 | 284 => 216 | 285 => 217 | 286 => 218 | 129 => 196 | 317 => 246 | 318 => 247 | 319 => 248 | 320 => 249 | 337 => 269 | 338 => 270 | n => n, fun | 3 => 3 | 9 => 9 | 2 => 2 | 4 => 4 | 171 => 266 | 0 => 0 | 53 => 243 | 37 => 90 | 5 => 5 | 173 => 268 | 212 => 303 | 51 => 254 | 20 => 20 | 213 => 304 | 46 => 215 | 232 => 329 | 233 => 330 | n => n, fun | 17 => 4 | 18 => 8 | 19 => 9 | n => n⟩
def Tryz.lays195_ren : Go.Shelf.Ren := ⟨fun | 195 => 159 | n => n, fun | 9 => 9 | 3 => 3 | 0 => 0 | 4 => 4 | n => n, fun | n => n⟩
theorem Tryz.lays195 : Go.Proofs.Lays.n195 Tryz.prog Tryz.lays195_ren := {
  mixed := by kernel_rfl
  f195 := Tryz.func159.trans (congrArg some (by kernel_rfl))
  t0 := Tryz.underlying0
  a0 := Tryz.isAgg0
  z0 := Tryz.sizeOf0
  v0 := Tryz.zeroValue0
  t3 := Tryz.underlying3
  a3 := Tryz.isAgg3
  z3 := Tryz.sizeOf3
  v3 := Tryz.zeroValue3
  t4 := Tryz.underlying4
  a4 := Tryz.isAgg4
  z4 := Tryz.sizeOf4
  v4 := Tryz.zeroValue4
  t9 := Tryz.underlying9
  a9 := Tryz.isAgg9
  z9 := Tryz.sizeOf9
  v9 := Tryz.zeroValue9 }
def Tryz.lays197_ren : Go.Shelf.Ren := ⟨fun | 197 => 110 | 260 => 156 | n => n, fun | 9 => 9 | 21 => 21 | 3 => 3 | 4 => 4 | 5 => 5 | 105 => 170 | 119 => 221 | 0 => 0 | 46 => 215 | 139 => 224 | 138 => 223 | n => n, fun | 3 => 0 | 4 => 1 | n => n⟩
theorem Tryz.lays197 : Go.Proofs.Lays.n197 Tryz.prog Tryz.lays197_ren := {
  mixed := by kernel_rfl
  f197 := Tryz.func110.trans (congrArg some (by kernel_rfl))
  f260 := Tryz.func156.trans (congrArg some (by kernel_rfl))
  t0 := Tryz.underlying0
  a0 := Tryz.isAgg0
  z0 := Tryz.sizeOf0
  v0 := Tryz.zeroValue0
  t3 := Tryz.underlying3
  a3 := Tryz.isAgg3
  z3 := Tryz.sizeOf3
  v3 := Tryz.zeroValue3
  t4 := Tryz.underlying4
  a4 := Tryz.isAgg4
  z4 := Tryz.sizeOf4
  v4 := Tryz.zeroValue4
  t5 := Tryz.underlying5
  a5 := Tryz.isAgg5
  z5 := Tryz.sizeOf5
  v5 := Tryz.zeroValue5
  t9 := Tryz.underlying9
  a9 := Tryz.isAgg9
  z9 := Tryz.sizeOf9
  v9 := Tryz.zeroValue9
  t21 := Tryz.underlying21
  a21 := Tryz.isAgg21
  z21 := Tryz.sizeOf21
  v21 := Tryz.zeroValue21
  t46 := Tryz.underlying215
  a46 := Tryz.isAgg215
  z46 := Tryz.sizeOf215
  v46 := Tryz.zeroValue215
  t105 := Tryz.underlying170
  a105 := Tryz.isAgg170
  z105 := Tryz.sizeOf170
  v105 := Tryz.zeroValue170
  t119 := Tryz.underlying221
  a119 := Tryz.isAgg221
  z119 := Tryz.sizeOf221
  t138 := Tryz.underlying223
  a138 := Tryz.isAgg223
  z138 := Tryz.sizeOf223
  v138 := Tryz.zeroValue223
  t139 := Tryz.underlying224
  a139 := Tryz.isAgg224
  z139 := Tryz.sizeOf224
  v139 := Tryz.zeroValue224
  g3 := by kernel_rfl
  g4 := by kernel_rfl }
def Tryz.lays200_ren : Go.Shelf.Ren := ⟨fun | 200 => 157 | 261 => 199 | 311 => 240 | 312 => 241 | n => n, fun | 21 => 21 | 4 => 4 | 51 => 254 | 5 => 5 | 119 => 221 | 0 => 0 | 141 => 258 | 196 => 291 | 193 => 288 | 3 => 3 | 198 => 293 | 49 => 26 | 194 => 289 | 201 => 296 | 226 => 316 | 46 => 215 | 227 => 317 | n => n, fun | 7 => 2 | 8 => 3 | n => n⟩
theorem Tryz.lays200 : Go.Proofs.Lays.n200 Tryz.prog Tryz.lays200_ren := {
  mixed := by kernel_rfl
  f200 := Tryz.func157.trans (congrArg some (by kernel_rfl))
  f261 := Tryz.func199.trans (congrArg some (by kernel_rfl))
  f311 := Tryz.func240.trans (congrArg some (by kernel_rfl))
  f312 := Tryz.func241.trans (congrArg some (by kernel_rfl))
  t0 := Tryz.underlying0
  a0 := Tryz.isAgg0
  z0 := Tryz.sizeOf0
  v0 := Tryz.zeroValue0
  t3 := Tryz.underlying3
  a3 := Tryz.isAgg3
  z3 := Tryz.sizeOf3
  v3 := Tryz.zeroValue3
  t4 := Tryz.underlying4
  a4 := Tryz.isAgg4
  z4 := Tryz.sizeOf4
  v4 := Tryz.zeroValue4
  t5 := Tryz.underlying5
  a5 := Tryz.isAgg5
  z5 := Tryz.sizeOf5
  v5 := Tryz.zeroValue5
  t21 := Tryz.underlying21
  a21 := Tryz.isAgg21
  z21 := Tryz.sizeOf21
  v21 := Tryz.zeroValue21
  t46 := Tryz.underlying215
  a46 := Tryz.isAgg215
  z46 := Tryz.sizeOf215
  v46 := Tryz.zeroValue215
  t49 := Tryz.underlying26
  a49 := Tryz.isAgg26
  z49 := Tryz.sizeOf26
  v49 := Tryz.zeroValue26
  t51 := Tryz.underlying254
  a51 := Tryz.isAgg254
  z51 := Tryz.sizeOf254
  v51 := Tryz.zeroValue254
  t119 := Tryz.underlying221
  a119 := Tryz.isAgg221
  z119 := Tryz.sizeOf221
  t141 := Tryz.underlying258
  a141 := Tryz.isAgg258
  z141 := Tryz.sizeOf258
  v141 := Tryz.zeroValue258
  t193 := Tryz.underlying288
  a193 := Tryz.isAgg288
  z193 := Tryz.sizeOf288
  v193 := Tryz.zeroValue288
  t194 := Tryz.underlying289
  a194 := Tryz.isAgg289
  z194 := Tryz.sizeOf289
  v194 := Tryz.zeroValue289
  t196 := Tryz.underlying291
  a196 := Tryz.isAgg291
  z196 := Tryz.sizeOf291
  v196 := Tryz.zeroValue291
  t198 := Tryz.underlying293
  a198 := Tryz.isAgg293
  z198 := Tryz.sizeOf293
  v198 := Tryz.zeroValue293
  t201 := Tryz.underlying296
  a201 := Tryz.isAgg296
  z201 := Tryz.sizeOf296
  v201 := Tryz.zeroValue296
  t226 := Tryz.underlying316
  a226 := Tryz.isAgg316
  z226 := Tryz.sizeOf316
  v226 := Tryz.zeroValue316
  t227 := Tryz.underlying317
  a227 := Tryz.isAgg317
  z227 := Tryz.sizeOf317
  v227 := Tryz.zeroValue317
  g7 := by kernel_rfl
  g8 := by kernel_rfl }
def Tryz.lays99_ren : Go.Shelf.Ren := ⟨fun | 99 => 161 | 206 => 200 | n => n, fun | 9 => 9 | 4 => 4 | 3 => 3 | n => n, fun | n => n⟩
theorem Tryz.lays99 : Go.Proofs.Lays.n99 Tryz.prog Tryz.lays99_ren := {
  mixed := by kernel_rfl
  f99 := Tryz.func161.trans (congrArg some (by kernel_rfl))
  f206 := Tryz.func200.trans (congrArg some (by kernel_rfl))
  t3 := Tryz.underlying3
  a3 := Tryz.isAgg3
  z3 := Tryz.sizeOf3
  v3 := Tryz.zeroValue3
  t4 := Tryz.underlying4
  a4 := Tryz.isAgg4
  z4 := Tryz.sizeOf4
  v4 := Tryz.zeroValue4
  t9 := Tryz.underlying9
  a9 := Tryz.isAgg9
  z9 := Tryz.sizeOf9
  v9 := Tryz.zeroValue9 }
def Tryz.laysM171_ren : Go.Shelf.Ren := ⟨fun | 171 => 64 | 243 => 123 | 246 => 172 | 283 => 215 | 284 => 216 | 285 => 217 | 286 => 218 | 129 => 196 | 317 => 246 | 318 => 247 | 319 => 248 | 320 => 249 | 337 => 269 | 338 => 270 | n => n, fun | 3 => 3 | 9 => 9 | 2 => 2 | 4 => 4 | 171 => 266 | 0 => 0 | 53 => 243 | 37 => 90 | 5 => 5 | 173 => 268 | 212 => 303 | 51 => 254 | 20 => 20 | 213 => 304 | 46 => 215 | 232 => 329 | 233 => 330 | n => n, fun | 17 => 4 | 18 => 8 | 19 => 9 | n => n⟩
theorem Tryz.laysM171 : Go.Proofs.LaysM.n171 Tryz.prog Tryz.laysM171_ren := {
  mixed := by kernel_rfl
  f129 := Tryz.func196.trans (congrArg some (by kernel_rfl))
  f171 := Tryz.func64.trans (congrArg some (by kernel_rfl))
  f243 := Tryz.func123.trans (congrArg some (by kernel_rfl))
  f246 := Tryz.func172.trans (congrArg some (by kernel_rfl))
  f283 := Tryz.func215.trans (congrArg some (by kernel_rfl))
  f284 := Tryz.func216.trans (congrArg some (by kernel_rfl))
  f285 := Tryz.func217.trans (congrArg some (by kernel_rfl))
  f286 := Tryz.func218.trans (congrArg some (by kernel_rfl))
  f317 := Tryz.func246.trans (congrArg some (by kernel_rfl))
  f318 := Tryz.func247.trans (congrArg some (by kernel_rfl))
  f319 := Tryz.func248.trans (congrArg some (by kernel_rfl))
  f320 := Tryz.func249.trans (congrArg some (by kernel_rfl))
  f337 := Tryz.func269.trans (congrArg some (by kernel_rfl))
  f338 := Tryz.func270.trans (congrArg some (by kernel_rfl))
  t0 := Tryz.underlying0
  a0 := Tryz.isAgg0
  z0 := Tryz.sizeOf0
  v0 := Tryz.zeroValue0
  t2 := Tryz.underlying2
  a2 := Tryz.isAgg2
  z2 := Tryz.sizeOf2
  v2 := Tryz.zeroValue2
  t3 := Tryz.underlying3
  a3 := Tryz.isAgg3
  z3 := Tryz.sizeOf3
  v3 := Tryz.zeroValue3
  t4 := Tryz.underlying4
  a4 := Tryz.isAgg4
  z4 := Tryz.sizeOf4
  v4 := Tryz.zeroValue4
  t5 := Tryz.underlying5
  a5 := Tryz.isAgg5
  z5 := Tryz.sizeOf5
  v5 := Tryz.zeroValue5
  t9 := Tryz.underlying9
  a9 := Tryz.isAgg9
  z9 := Tryz.sizeOf9
  v9 := Tryz.zeroValue9
  t20 := Tryz.underlying20
  a20 := Tryz.isAgg20
  z20 := Tryz.sizeOf20
  v20 := Tryz.zeroValue20
  t37 := Tryz.underlying90
  a37 := Tryz.isAgg90
  z37 := Tryz.sizeOf90
  v37 := Tryz.zeroValue90
  t46 := Tryz.underlying215
  a46 := Tryz.isAgg215
  z46 := Tryz.sizeOf215
  v46 := Tryz.zeroValue215
  t51 := Tryz.underlying254
  a51 := Tryz.isAgg254
  z51 := Tryz.sizeOf254
  v51 := Tryz.zeroValue254
  t53 := Tryz.underlying243
  a53 := Tryz.isAgg243
  z53 := Tryz.sizeOf243
  v53 := Tryz.zeroValue243
  t171 := Tryz.underlying266
  a171 := Tryz.isAgg266
  z171 := Tryz.sizeOf266
  v171 := Tryz.zeroValue266
  t173 := Tryz.underlying268
  a173 := Tryz.isAgg268
  z173 := Tryz.sizeOf268
  v173 := Tryz.zeroValue268
  t212 := Tryz.underlying303
  a212 := Tryz.isAgg303
  z212 := Tryz.sizeOf303
  v212 := Tryz.zeroValue303
  t213 := Tryz.underlying304
  a213 := Tryz.isAgg304
  z213 := Tryz.sizeOf304
  t232 := Tryz.underlying329
  a232 := Tryz.isAgg329
  z232 := Tryz.sizeOf329
  v232 := Tryz.zeroValue329
  t233 := Tryz.underlying330
  a233 := Tryz.isAgg330
  z233 := Tryz.sizeOf330
  v233 := Tryz.zeroValue330
  g17 := by kernel_rfl
  g18 := by kernel_rfl
  g19 := by kernel_rfl
  i0 := by kernel_rfl
  i2 := by kernel_rfl
  i3 := by kernel_rfl
  i4 := by kernel_rfl
  i5 := by kernel_rfl
  i9 := by kernel_rfl
  i20 := by kernel_rfl
  i37 := by kernel_rfl
  i46 := by kernel_rfl
  i51 := by kernel_rfl
  i53 := by kernel_rfl
  i171 := by kernel_rfl
  i173 := by kernel_rfl
  i212 := by kernel_rfl
  i232 := by kernel_rfl
  i233 := by kernel_rfl
  m17 := by kernel_rfl
  m18 := by kernel_rfl
  m19 := by kernel_rfl }
open Go.RowKit in
theorem Tryz.strings_Join_none (a : Option Addr) (c : Nat) (sep : ByteArray) (w : World) :
    Calls Tryz.prog 65 #[.slice a 0 c, .string sep] w fun e w' => e = .returned (.string ⟨#[]⟩) ∧ w' = w := Any.strings_Join_none Tryz.lays156 Tryz.Builder_Extra_156 a c sep w
open Go.RowKit in
theorem Tryz.strings_Join (bk o c : Nat) (xs : List ByteArray) (sep : ByteArray) (w : World) (hcells : ∀ (j : Nat) x, xs[j]? = some x → w.cell? ⟨bk, o + j, none⟩ = some (.string x)) (hbk : bk < w.heap.size) (hN : xs.length ≤ 140737488355328) (hcap : xs.length ≤ c) (hlen : (Lib.join (xs.map (·.data.toList)) sep.data.toList).length ≤ 140737488355328) :
    Calls Tryz.prog 65 #[.slice (some ⟨bk, o, none⟩) xs.length c, .string sep] w fun e w' => e = .returned (.string ⟨(Lib.join (xs.map (·.data.toList)) sep.data.toList).toArray⟩) ∧ Below w.heap.size w w' := Any.strings_Join Tryz.lays156 Tryz.Builder_Extra_156 bk o c xs sep w hcells hbk hN hcap hlen
open Go.RowKit in
theorem Tryz.utf8_RuneCountInString (s : ByteArray) (w : World) (hs : s.size < 9223372036854775807) :
    Calls Tryz.prog 159 #[.string s] w fun e w' => e = .returned (.int .i64 (Lib.runeCount s)) ∧ ∃ pos, w' = w.iter s pos := Any.utf8_RuneCountInString Tryz.lays195 s w hs
open Go.RowKit Go.Sort Go.Lib in
theorem Tryz.strconv_Itoa (n : Int) (h0 : -9223372036854775808 ≤ n) (h1 : n ≤ 9223372036854775807) (w : World) (htab : Lib.TabIs Tryz.prog w "internal/strconv.uint64pow10" .u64 Lib.pow10Tab) :
    Calls Tryz.prog 64 #[.int .i64 n] w fun e w' => e = .returned (.string ⟨(Lib.itoa n).toArray⟩) ∧ ∃ k os, w' = grow (w.drewN k) os := Any.strconv_Itoa Tryz.laysM171 n h0 h1 w htab
open Go.RowKit Go.Lib in
theorem Tryz.strings_HasPrefix (s p : ByteArray) (w : World) :
    Calls Tryz.prog 161 #[.string s, .string p] w fun e w' => e = .returned (.bool (Lib.hasPrefix s.data.toList p.data.toList)) ∧ w' = w := Any.strings_HasPrefix Tryz.lays99 s p w
open Go.RowKit Go.Lib in
theorem Tryz.utf8_DecodeRuneInString (s : ByteArray) (w : World) (hT : Lib.Utf8Tabs 0 1 w) :
    Calls Tryz.prog 110 #[.string s] w fun e w' => e = .returned (.tuple #[.int .i32 (Lib.decodeGo s).1, .int .i64 (Lib.decodeGo s).2]) ∧ Below w.heap.size w w' := Any.utf8_DecodeRuneInString Tryz.lays197 s w hT
open Go.RowKit Go.Lib in
theorem Tryz.unicode_IsLetter_all (r : Int) (w : World) (hlo : -2147483648 ≤ r) (hhi : r ≤ 2147483647) (htab : Lib.TabIs Tryz.prog w "unicode.properties" .u8 Lib.propertiesTab) (hV : RVar 3 letterT w) :
    Calls Tryz.prog 157 #[.int .i32 r] w fun e w' => e = .returned (.bool (isLetterU r)) ∧ Below w.heap.size w w' := Any.unicode_IsLetter_all Tryz.lays200 (by kernel_rfl) r w hlo hhi htab hV
def Tryz.laysValid_ren : Go.Shelf.Ren := ⟨fun | 196 => 109 | 259 => 155 | n => n, fun | 9 => 9 | 4 => 4 | 3 => 3 | 5 => 5 | 12 => 12 | 119 => 221 | 0 => 0 | 46 => 215 | 139 => 224 | 138 => 223 | 53 => 243 | n => n, fun | 3 => 0 | 4 => 1 | n => n⟩
theorem Tryz.laysValid : Go.Proofs.Lays.n196 Tryz.prog Tryz.laysValid_ren := {
  mixed := by kernel_rfl
  f196 := Tryz.func109.trans (congrArg some (by kernel_rfl))
  f259 := Tryz.func155.trans (congrArg some (by kernel_rfl))
  t0 := Tryz.underlying0
  a0 := Tryz.isAgg0
  z0 := Tryz.sizeOf0
  v0 := Tryz.zeroValue0
  t3 := Tryz.underlying3
  a3 := Tryz.isAgg3
  z3 := Tryz.sizeOf3
  v3 := Tryz.zeroValue3
  t4 := Tryz.underlying4
  a4 := Tryz.isAgg4
  z4 := Tryz.sizeOf4
  v4 := Tryz.zeroValue4
  t5 := Tryz.underlying5
  a5 := Tryz.isAgg5
  z5 := Tryz.sizeOf5
  v5 := Tryz.zeroValue5
  t9 := Tryz.underlying9
  a9 := Tryz.isAgg9
  z9 := Tryz.sizeOf9
  v9 := Tryz.zeroValue9
  t12 := Tryz.underlying12
  a12 := Tryz.isAgg12
  z12 := Tryz.sizeOf12
  v12 := Tryz.zeroValue12
  t46 := Tryz.underlying215
  a46 := Tryz.isAgg215
  z46 := Tryz.sizeOf215
  v46 := Tryz.zeroValue215
  t53 := Tryz.underlying243
  a53 := Tryz.isAgg243
  z53 := Tryz.sizeOf243
  v53 := Tryz.zeroValue243
  t119 := Tryz.underlying221
  a119 := Tryz.isAgg221
  z119 := Tryz.sizeOf221
  t138 := Tryz.underlying223
  a138 := Tryz.isAgg223
  z138 := Tryz.sizeOf223
  v138 := Tryz.zeroValue223
  t139 := Tryz.underlying224
  a139 := Tryz.isAgg224
  z139 := Tryz.sizeOf224
  v139 := Tryz.zeroValue224
  g3 := by kernel_rfl
  g4 := by kernel_rfl }
open Go.RowKit Go.Lib in
theorem Tryz.utf8_ValidString (s : ByteArray) (w : World) (hs : s.size ≤ 9223372036854775807) (hT : Lib.Utf8Tabs 0 1 w) :
    Calls Tryz.prog 109 #[.string s] w fun e w' => e = .returned (.bool (Lib.validD s.data.toList)) ∧ Below w.heap.size w w' := Any.utf8_ValidString Tryz.laysValid s w hs hT
end Go.Proofs

namespace Go.Ax
open Go.Proofs Go.RowKit Go.Shelf Go.Lib Go.Sort
structure LibG (w : World) : Prop where
  utf8 : Lib.Utf8Tabs 0 1 w
  props : Lib.TabIs Tryz.prog w "unicode.properties" .u8 Lib.propertiesTab
  letter : RVar 3 letterT w
theorem below_grown0 (w : World) (k : Nat) (os : Array Obj) : Below w.heap.size w (grow (w.drewN k) os) := by
  have h := below_drewNv (Below.refl w.heap.size w) k
  have hh : ∀ k, (w.drewN k).heap = w.heap := fun k => by
    induction k with
    | zero => rfl
    | succ k ih => exact ih
  refine ⟨h.os, h.tape, h.output, ?_, fun b hb => ?_⟩
  · show w.heap.size ≤ ((w.drewN k).heap ++ os).size
    rw [hh]; simp
  · show ((w.drewN k).heap ++ os)[b]? = w.heap[b]?
    rw [hh, Array.getElem?_append_left hb]
abbrev PowG (w : World) : Prop := Lib.TabIs Tryz.prog w "internal/strconv.uint64pow10" .u64 Lib.pow10Tab
theorem itoa_ctr (g : GP) (hg : ∀ w, g.G w → PowG w) (i : Nat) (hi : i < 2 ^ 62) : Ctr (ax g).E 64 [.d (.v (.int .i64 i))] [] fun o => o = .ret (.d (.v (.string ⟨(Lib.decDigits i).toArray⟩))) [] :=
  Ctr.ofVal (E := (ax g).E) (f := 64) (xs := [.int .i64 i]) ⟨_, Tryz.func64, rfl, by decide +kernel⟩ rfl fun w hG => (Tryz.strconv_Itoa i (by omega) (by omega) w (hg w hG)).mono fun e w' ⟨h1, k, os, h2⟩ => ⟨by rw [h1, Lib.itoa_nonneg], by rw [h2]; exact below_grown0 w k os⟩
theorem valid_ctr (g : GP) (hg : ∀ w, g.G w → LibG w) (s : ByteArray) (hs : s.size < 2 ^ 62) : Ctr (ax g).E 109 [.d (.v (.string s))] [] fun o => o = .ret (.d (.v (.bool (Lib.validD s.data.toList)))) [] :=
  Ctr.ofVal (E := (ax g).E) (f := 109) (xs := [.string s]) ⟨_, Tryz.func109, rfl, by decide +kernel⟩ rfl fun w hG => Tryz.utf8_ValidString s w (by omega) (hg w hG).utf8
theorem hasPrefix_ctr (g : GP) (s p : ByteArray) : Ctr (ax g).E 161 [.d (.v (.string s)), .d (.v (.string p))] [] fun o => o = .ret (.d (.v (.bool (Lib.hasPrefix s.data.toList p.data.toList)))) [] :=
  Ctr.ofVal (E := (ax g).E) (f := 161) (xs := [.string s, .string p]) ⟨_, Tryz.func161, rfl, by decide +kernel⟩ rfl fun w _ => (Tryz.strings_HasPrefix s p w).mono fun e w' ⟨h1, h2⟩ => ⟨h1, by rw [h2]; exact Below.refl _ _⟩
theorem decode_ctr (g : GP) (hg : ∀ w, g.G w → LibG w) (s : ByteArray) : Ctr (ax g).E 110 [.d (.v (.string s))] [] fun o => o = .ret (.tup [.d (.v (.int .i32 (Lib.decodeGo s).1)), .d (.v (.int .i64 (Lib.decodeGo s).2))]) [] :=
  Ctr.ofVals (E := (ax g).E) (f := 110) (xs := [.string s]) (ys := [.int .i32 _, .int .i64 _]) ⟨_, Tryz.func110, rfl, by decide +kernel⟩ (by simp [Value.oneCell']) fun w hG => Tryz.utf8_DecodeRuneInString s w (hg w hG).utf8
theorem isLetter_ctr (g : GP) (hg : ∀ w, g.G w → LibG w) (r : Int) (hlo : -2147483648 ≤ r) (hhi : r ≤ 2147483647) : Ctr (ax g).E 157 [.d (.v (.int .i32 r))] [] fun o => o = .ret (.d (.v (.bool (isLetterU r)))) [] :=
  Ctr.ofVal (E := (ax g).E) (f := 157) (xs := [.int .i32 r]) ⟨_, Tryz.func157, rfl, by decide +kernel⟩ rfl fun w hG => Tryz.unicode_IsLetter_all r w hlo hhi (hg w hG).props (hg w hG).letter
theorem runeCount_ctr (g : GP) (s : ByteArray) (hs : s.size < 9223372036854775807) : Ctr (ax g).E 159 [.d (.v (.string s))] [] fun o => o = .ret (.d (.v (.int .i64 (Lib.runeCount s)))) [] :=
  Ctr.ofVal (E := (ax g).E) (f := 159) (xs := [.string s]) ⟨_, Tryz.func159, rfl, by decide +kernel⟩ rfl fun w _ => (Tryz.utf8_RuneCountInString s w hs).mono fun e w' ⟨h1, pos, h2⟩ => ⟨h1, by rw [h2]; exact (Below.refl _ w).alloc (Nat.le_refl _) _⟩
end Go.Ax

namespace Go.Ax
open Go.Proofs Go.RowKit Go.Shelf Go.Lib Go.ChangeShapes
abbrev DebG (w : World) : Prop := Lib.TabIs Tryz.prog w "math/bits.deBruijn64tab" .u8 Tryz.deB
theorem gD : Tryz.prog.globalNamed "math/bits.deBruijn64tab" = some 9 := by kernel_rfl
structure Old (W w : World) : Prop where
  os : w.os = W.os
  block : ∀ b, b < W.heap.size → w.heap[b]? = W.heap[b]?
theorem Old.below {W w : World} (h : Old W w) : Below W.heap.size W { w with tape := W.tape, output := W.output } := by
  refine ⟨h.os, rfl, rfl, ?_, h.block⟩
  show W.heap.size ≤ w.heap.size
  rcases Nat.eq_zero_or_pos W.heap.size with h0 | h0
  · omega
  · have h1 := h.block (W.heap.size - 1) (by omega)
    rw [Array.getElem?_eq_getElem (by omega : W.heap.size - 1 < W.heap.size)] at h1
    obtain ⟨h2, _⟩ := Array.getElem?_eq_some_iff.1 h1
    omega
theorem tabIs_old {W w : World} (h : Old W w) {n : String} {k : IntKind} {zs : List Int} {g : Nat} (hg : Tryz.prog.globalNamed n = some g) (ht : Lib.TabIs Tryz.prog W n k zs) : Lib.TabIs Tryz.prog w n k zs :=
  by have h1 := Go.Joins.tab_stays hg ht h.below (Nat.le_refl _); exact h1
theorem LibG.old {W w : World} (h : Old W w) (hl : LibG W) : LibG w where
  utf8 := by have h1 := Utf8Tabs_below hl.utf8 h.below; exact h1
  props := tabIs_old h (by kernel_rfl : Tryz.prog.globalNamed "unicode.properties" = some 2) hl.props
  letter := by have h1 := RVar_below hl.letter h.below; exact h1
theorem PowG.old {W w : World} (h : Old W w) (hl : PowG W) : PowG w := tabIs_old h (by kernel_rfl : Tryz.prog.globalNamed "internal/strconv.uint64pow10" = some 4) hl
theorem deb_cells {w : World} (h : DebG w) : ∃ ms t fz, w.heap[9]? = some (.cells ms t fz) ∧ ∀ (j : Nat) (x : D), (Tryz.deB.map fun n => D.v (.int .u8 n))[j]? = some x → ∃ v, ms[j]? = some v ∧ x = .v v ∧ v.oneCell' = true := by
  have hc := fun i hi => h.cell gD i hi
  have h0 := hc 0 (by decide)
  unfold World.cell? at h0
  cases hb : w.heap[9]? with
  | none => simp [hb] at h0
  | some o =>
    cases o with
    | cells ms t fz =>
      refine ⟨ms, t, fz, rfl, fun j x hx => ?_⟩
      simp only [List.getElem?_map, Option.map_eq_some_iff] at hx
      obtain ⟨n, hn, rfl⟩ := hx
      have hj : j < Tryz.deB.length := (List.getElem?_eq_some_iff.1 hn).1
      have h1 := hc j hj
      refine ⟨.int .u8 n, ?_, rfl, rfl⟩
      unfold World.cell? at h1
      simp only [hb] at h1
      have h2 : ms[j]? = some (.int .u8 (Tryz.deB.getD j 0)) := h1
      rw [h2]
      simp [List.getD, hn]
    | _ => simp [hb] at h0
theorem glOk_of {W : World} (h : DebG W) (hs : 9 < W.heap.size) : GlOk W.heap.size Tryz.gl W := fun p hp => by
  simp only [Tryz.gl, List.mem_singleton] at hp
  subst hp
  exact ⟨hs, deb_cells h⟩
theorem deb_size {W : World} (h : DebG W) : 9 < W.heap.size := by
  obtain ⟨ms, t, fz, h1, _⟩ := deb_cells h
  exact (Array.getElem?_eq_some_iff.1 h1).1
def gpOf (W : World) (h : DebG W) : GP where
  ng := W.heap.size
  gl := Tryz.gl
  G := Old W
  glOk := fun w hw p hp => by
    obtain ⟨h1, ms, t, fz, h2, h3⟩ := glOk_of h (deb_size h) p hp
    exact ⟨h1, ms, t, fz, by rw [hw.block _ h1]; exact h2, h3⟩
  Gst := fun w w' ho hb hw => ⟨ho.trans hw.os, fun b h => (hb b h).trans (hw.block b h)⟩
def gp0 (W : World) : GP where
  ng := W.heap.size
  gl := []
  G := Old W
  glOk := fun w hw p hp => by simp at hp
  Gst := fun w w' ho hb hw => ⟨ho.trans hw.os, fun b h => (hb b h).trans (hw.block b h)⟩
theorem Old.refl (W : World) : Old W W := ⟨rfl, fun _ _ => rfl⟩
theorem calls_of_ctr' {W : World} {g : GP} (e1 : g.ng = W.heap.size) (e2 : g.G = Old W) {f : FuncId} {args : List AV} {v : Value} (hC : Ctr (ax g).E f args [] (fun o => o = .ret (.d (.v v)) [])) (vs : Array Value) (hsz : vs.size = args.length)
    (hra : ∀ (i : Nat) (v : Value) (x : AV), vs[i]? = some v → args[i]? = some x → RA (hp W) (fun b => b < W.heap.size) (fun _ => none) v x) :
    Calls Tryz.prog f vs W fun e w' => e = .returned v ∧ Below W.heap.size W w' := by
  refine (hC.2 W (fun b => b < W.heap.size) (fun _ => none) vs (by show g.G W; rw [e2]; exact Old.refl W) (fun b hb => hb) (fun b hb => by rw [← e1]; exact hb) hsz hra ⟨fun r o h => by simp [lkH] at h, fun r r' o o' l l' h => by simp [lkH] at h⟩).mono fun e w' he => ?_
  cases e with
  | returned u =>
    obtain ⟨res, ho, Im', ρ', h1, h2, h3, A⟩ := he
    injection h1 with e1 e2
    subst e1
    refine ⟨by rw [h2.v], ⟨A.grows.os, A.grows.tape, A.grows.output, A.grows.size, fun b hb => A.grows.block b hb fun ⟨r, o, l, hr, _⟩ => by simp [lkH] at hr⟩⟩
  | panicked ch => obtain ⟨ho, Im', ρ', h1, _⟩ := he; exact absurd h1 (by simp)
  | outgrown => exact he.elim
theorem calls_of_ctr0 {W : World} {f : FuncId} {args : List AV} {v : Value} (hC : Ctr (ax (gp0 W)).E f args [] (fun o => o = .ret (.d (.v v)) [])) (vs : Array Value) (hsz : vs.size = args.length)
    (hra : ∀ (i : Nat) (v : Value) (x : AV), vs[i]? = some v → args[i]? = some x → RA (hp W) (fun b => b < W.heap.size) (fun _ => none) v x) :
    Calls Tryz.prog f vs W fun e w' => e = .returned v ∧ Below W.heap.size W w' := calls_of_ctr' rfl rfl hC vs hsz hra
theorem trodAll_stays {H : Type} {enc : TypeId × Value → H} {P : Program} (hl : laidOutB P = true) {W W' : World} (hb : Below W.heap.size W W') {sp : Nat → Bool} : ∀ {ts : List TypeId} {vs : List Value} {ds : List (DataW H)} {ps : List MemPlace},
    (ts.all fun t => P.readableRec t && decide (t < P.types.size)) = true → DataW.TrodAll enc P W 0 (fun _ => true) true ts vs ds ps → (∀ x ∈ ps, x.block < W.heap.size) → (∀ x ∈ ps, sp x.block = true) → DataW.TrodAll enc P W' 0 sp true ts vs ds ps
  | [], vs, ds, ps, _, h, _, _ => by
    obtain ⟨rfl, rfl, rfl⟩ := trodAll_nil h
    exact trodAll_mk0
  | t :: ts, vs, ds, ps, hr, h, hlt, hsp => by
    obtain ⟨v, vs', d, ds', p, q, rfl, rfl, rfl, h1, h2⟩ := trodAll_cons h
    simp only [List.all_cons, Bool.and_eq_true, decide_eq_true_eq] at hr
    refine trodAll_cons_mk (WideElems.Trod_stays hl hr.1.1 hr.1.2 h1 (fun x hx => hb.same (hlt x (by simp [hx]))) (fun x hx => hsp x (by simp [hx]))) (trodAll_stays hl hb (by simpa using hr.2) h2 (fun x hx => hlt x (by simp [hx])) (fun x hx => hsp x (by simp [hx])))
end Go.Ax

namespace Go.Ax
open Go.Proofs Go.RowKit Go.Shelf Go.Lib Go.ChangeShapes Go.Proofs.YtdobclfcondfcaaGreatDoor
set_option maxRecDepth 100000
theorem tabIs_of_reads {P : Program} {W : World} {name : String} {k : IntKind} {zs : List Int} {g : Nat} {t e : TypeId} {n : Nat}
    (hg : P.globalNamed name = some g) (hty : (P.globals[g]?).map (·.type) = some t) (ht : P.underlying t = some (.array n e)) (he : P.underlying e = some (.int k)) (hce : P.cellsOf e = 1) (hct : P.cellsOf t = n)
    (h : VarReads P W name (tabData k zs)) : TabIs P W name k zs := by
  obtain ⟨g', t', cs, fuel, p, hg', ht', hvar, hd⟩ := h
  obtain rfl := Option.some.inj (hg.symm.trans hg')
  obtain rfl := Option.some.inj (hty.symm.trans ht')
  unfold TabIs
  rw [hvar, ← cells_of_tab ht he hce hct hd]
theorem andT {a b : Bool} (ha : a = true) (hb : b = true) : (a && b) = true := by rw [ha, hb]; rfl
theorem laidOut : laidOutB Tryz.prog = true := by kernel_rfl
theorem own : ownKnob Tryz.prog.godebug = none := by kernel_rfl
theorem xL : RExtra Tryz.prog Tryz.lays200_ren := ⟨by kernel_rfl, by kernel_rfl, by kernel_rfl, by kernel_rfl, by kernel_rfl, by kernel_rfl, by kernel_rfl, by kernel_rfl⟩
theorem xU : U8Extra Tryz.prog Tryz.lays197_ren := ⟨by kernel_rfl, by kernel_rfl, by kernel_rfl, by kernel_rfl, by kernel_rfl, by kernel_rfl, by kernel_rfl⟩
theorem powG_of {W : World} (h : VarReads Tryz.prog W "internal/strconv.uint64pow10" Rows.laid_internal_strconv_uint64pow10) : PowG W :=
  tabIs_of_reads (k := .u64) (zs := Lib.pow10Tab) (g := 4) (by kernel_rfl) (t := 303) (by kernel_rfl) Tryz.underlying303 Tryz.underlying243 (by kernel_rfl) (by kernel_rfl) h
theorem propG_of {W : World} (h : VarReads Tryz.prog W "unicode.properties" Rows.laid_unicode_properties) : Lib.TabIs Tryz.prog W "unicode.properties" .u8 Lib.propertiesTab :=
  tabIs_of_reads (k := .u8) (zs := Lib.propertiesTab) (g := 2) (by kernel_rfl) (t := 221) (by kernel_rfl) Tryz.underlying221 Tryz.underlying5 (by kernel_rfl) (by kernel_rfl) h
theorem letterG_of {W : World} (h : VarReads Tryz.prog W "unicode.Letter" Rows.laid_unicode_Letter) : RVar 3 letterT W :=
  rvar_of_reads { Tryz.lays200 with } xL (by kernel_rfl) (by kernel_rfl) (by rw [← Pinned.letter_eq]; exact h)
theorem utf8G_of {W : World} (h : VarReads Tryz.prog W "unicode/utf8.first" Rows.laid_unicode_utf8_first) (h' : VarReads Tryz.prog W "unicode/utf8.acceptRanges" Rows.laid_unicode_utf8_acceptRanges) : Lib.Utf8Tabs 0 1 W :=
  utf8Tabs_of_reads { Tryz.lays197 with } xU (by rw [← Pinned.utf8First_eq]; exact h) h'
noncomputable abbrev N0 : Nat := (World.settled Tryz.prog default).heap.size
noncomputable def laidWorld (os : Os) : World :=
  let N := (World.settled Tryz.prog os).heap.size
  let ρ := Tryz.lays200_ren
  let w0 := World.holding Tryz.prog os ⟨#[
    .cells (rgCells .u16 letterT.r16) (ρ.t 198), .cells (rgCells .u32 letterT.r32) (ρ.t 201),
    .cells #[.slice (some ⟨N, 0, none⟩) letterT.r16.size letterT.r16.size, .slice (some ⟨N + 1, 0, none⟩) letterT.r32.size letterT.r32.size, .int .i64 letterT.off] (ρ.t 196),
    .cells #[.string ⟨#[105, 110, 118, 97, 108, 105, 100, 32, 115, 121, 110, 116, 97, 120]⟩] 333, .cells #[.string ⟨#[118, 97, 108, 117, 101, 32, 111, 117, 116, 32, 111, 102, 32, 114, 97, 110, 103, 101]⟩] 333], #[], []⟩
  let put (h : Array Obj) (g : Nat) (cs : Array Value) : Array Obj := h.modify g fun
    | .cells _ t frozen => .cells cs t frozen
    | o => o
  let h1 := put w0.heap 2 (Lib.propertiesTab.map fun z => Value.int .u8 z).toArray
  let h2 := put h1 3 #[.pointer (some ⟨N + 2, 0, none⟩)]
  let h3 := put h2 0 (Lib.firstTab.map fun z => Value.int .u8 z).toArray
  let h4 := put h3 1 ((List.range 16).flatMap fun i => [Value.int .u8 (Lib.accLo i), Value.int .u8 (Lib.accHi i)]).toArray
  let h5 := put h4 9 (Tryz.deB.map fun z => Value.int .u8 z).toArray
  let h6 := put h5 4 (Lib.pow10Tab.map fun z => Value.int .u64 z).toArray
  let h7 := put h6 8 ([0, 1, 28, 2, 29, 14, 24, 3, 30, 22, 20, 15, 25, 17, 4, 8, 31, 27, 13, 23, 21, 19, 16, 7, 26, 12, 18, 6, 11, 5, 10, 9].map fun z => Value.int .u8 z).toArray
  let h8 := put h7 6 #[.iface 331 (.pointer (some ⟨N + 3, 0, none⟩))]
  let h9 := put h8 7 #[.iface 331 (.pointer (some ⟨N + 4, 0, none⟩))]
  { w0 with heap := h9 }
noncomputable abbrev memOf (os : Os) (args : Array Value) : World := ((laidWorld os).forCall (fun _ _ => 0) ⟨#[], args, []⟩).memory
theorem pieceB (os : Os) (args : Array Value) : LaidIn Tryz.prog (memOf os args) [("math/bits.deBruijn32tab", Rows.laid_math_bits_deBruijn32tab), ("math/bits.deBruijn64tab", Rows.laid_math_bits_deBruijn64tab), ("internal/strconv.uint64pow10", Rows.laid_internal_strconv_uint64pow10)] [8, 9, 4] :=
  LaidIn.of_run [8, 9, 4] 8 (by kernel_rfl) (by kernel_rfl) (by kernel_rfl) (by kernel_rfl)
theorem pieceU (os : Os) (args : Array Value) : LaidIn Tryz.prog (memOf os args) [("unicode/utf8.acceptRanges", Rows.laid_unicode_utf8_acceptRanges), ("unicode.properties", Rows.laid_unicode_properties)] [1, 2] :=
  LaidIn.of_run [1, 2] 8 (by kernel_rfl) (by kernel_rfl) (by kernel_rfl) (by kernel_rfl)
theorem pieceF (os : Os) (args : Array Value) : LaidIn Tryz.prog (memOf os args) [("unicode/utf8.first", Rows.laid_unicode_utf8_first)] [0] :=
  LaidIn.of_run [0] 8 (by kernel_rfl) (by kernel_rfl) (by kernel_rfl) (by kernel_rfl)
theorem pieceL (os : Os) (args : Array Value) : LaidIn Tryz.prog (memOf os args) [("unicode.Letter", Lib.rtabData letterT)] [3, N0 + 2, N0, N0 + 1] :=
  laidIn_rtab (ρ := Tryz.lays200_ren) { Tryz.lays200 with } xL (by kernel_rfl) (by kernel_rfl) letterT (N0 + 2) N0 (N0 + 1) (Tryz.lays200_ren.t 198) (Tryz.lays200_ren.t 201)
    (by kernel_rfl) (by kernel_rfl) (by kernel_rfl) (by kernel_rfl) (by kernel_rfl) (of_decide_eq_true (by kernel_rfl)) (of_decide_eq_true (by kernel_rfl)) (of_decide_eq_true (by kernel_rfl))
theorem pieceL' (os : Os) (args : Array Value) : LaidIn Tryz.prog (memOf os args) [("unicode.Letter", Rows.laid_unicode_Letter)] [3, N0 + 2, N0, N0 + 1] := by
  have h := pieceL os args
  rw [← Pinned.letter_eq] at h
  exact h
theorem laidIn7 (os : Os) (args : Array Value) : LaidIn Tryz.prog (memOf os args) [("math/bits.deBruijn32tab", Rows.laid_math_bits_deBruijn32tab), ("math/bits.deBruijn64tab", Rows.laid_math_bits_deBruijn64tab), ("internal/strconv.uint64pow10", Rows.laid_internal_strconv_uint64pow10), ("unicode/utf8.acceptRanges", Rows.laid_unicode_utf8_acceptRanges), ("unicode.properties", Rows.laid_unicode_properties), ("unicode.Letter", Rows.laid_unicode_Letter), ("unicode/utf8.first", Rows.laid_unicode_utf8_first)] ([8, 9, 4] ++ ([1, 2] ++ ([3, N0 + 2, N0, N0 + 1] ++ [0]))) :=
  (pieceB os args).append ((pieceU os args).append ((pieceL' os args).append (pieceF os args) (by kernel_rfl)) (by kernel_rfl)) (by kernel_rfl)
theorem post_law {H : Type} {enc : TypeId × Value → H} {fn : Func} {s : ChangeSpec} (hv : s.vars = []) (hres : fn.resultTypes = #[4]) (hro : (fn.params.toList.all fun t => Tryz.prog.readableRec t && decide (t < Tryz.prog.types.size)) = true)
    {W W' : World} {args : Array Value} {ds gs : List (DataW H)} {before : List MemPlace} (hW : DataW.Whole enc Tryz.prog fn.params.toList s.vars false W args.toList ds gs before)
    (hfn : s.fn H (ds ++ gs) = { results := [.lit (.bool true)], args := ds }) (hb : Below W.heap.size W W') : s.post enc Tryz.prog fn false true false false W args (.bool true) W' := by
  have hW' := hW
  obtain ⟨p, q, hA, hV, rfl, _, _⟩ := hW
  rw [hv] at hV
  obtain ⟨rfl, rfl⟩ := trodVars_none hV
  have hlt : ∀ x ∈ p ++ [], x.block < W.heap.size := fun x hx => by simpa using hW'.lt x hx
  refine ⟨ds, [], p ++ [], [], p, [], hW', ?_, ?_, ?_, hb.frame _, fun h => by cases h⟩
  · rw [hfn, hres]; exact trodAll_mk1 (shut_bool Tryz.underlying4 _)
  · rw [hfn]; exact trodAll_stays laidOut hb hro hA (fun x hx => hlt x (by simp [hx])) (fun x hx => by simpa using hlt x (by simp [hx]))
  · rw [hfn, hv]; exact rfl
end Go.Ax

namespace Go.Ax
open Go.Proofs Go.RowKit Go.Shelf Go.Lib Go.ChangeShapes
inductive Sh where
  | int (k : IntKind)
  | bool
  | str
  | sl (bytes : Nat) (es : List Sh)
def rep {α : Type} (l : List α) : Nat → List α
  | 0 => []
  | n + 1 => l ++ rep l n
def shFs (P : Program) (go : TypeId → Option (List Sh)) : List Field → Nat → Option (List Sh)
  | [], _ => some []
  | f :: r, off => if f.offset = off then (go f.type).bind fun es => if es.length = P.cellsOf f.type then (shFs P go r (off + es.length)).map (es ++ ·) else none else none
def shOf (P : Program) : Nat → TypeId → Option (List Sh)
  | 0, _ => none
  | f + 1, t => match P.underlying t with
    | some .bool => some [.bool]
    | some (.int k) => some [.int k]
    | some .string => some [.str]
    | some (.slice e) => (shOf P f e).bind fun es => if es.length = P.cellsOf e ∧ 0 < es.length then some [.sl (P.bytesOf e) es] else none
    | some (.struct fs) => (shFs P (shOf P f) fs.toList 0).bind fun es => if es.length = P.cellsOf t then some es else none
    | some (.array n e) => (shOf P f e).bind fun es => if es.length = P.cellsOf e ∧ n * es.length = P.cellsOf t then some (rep es n) else none
    | _ => none
inductive Fit : Sh → D → Prop
  | int (k : IntKind) (n : Int) (h : (Lit.int k n).wf = true) : Fit (.int k) (.v (.int k n))
  | bool (b : Bool) : Fit .bool (.v (.bool b))
  | str (s : ByteArray) (h : s.size ≤ reachBytes) : Fit .str (.v (.string s))
  | sl (bytes : Nat) (es : List Sh) (els : List (List D)) (hlen : els.length * bytes ≤ reachBytes) (hel : ∀ el ∈ els, el.length = es.length) (hf : ∀ el ∈ els, ∀ (i : Nat) (s : Sh) (x : D), es[i]? = some s → el[i]? = some x → Fit s x) : Fit (.sl bytes es) (.sl false es.length els)
def CV (W : World) (cs : List Value) (shs : List Sh) : Prop := ∃ ds : List D, ds.length = shs.length ∧ cs.length = shs.length ∧ ∀ (i : Nat) (v : Value) (x : D) (s : Sh), cs[i]? = some v → ds[i]? = some x → shs[i]? = some s → RD (hp W) (fun b => b < W.heap.size) v x ∧ Fit s x
theorem CV.nil (W : World) : CV W [] [] := ⟨[], rfl, rfl, fun i v x s h => by simp at h⟩
theorem CV.one {W : World} {v : Value} {x : D} {s : Sh} (h1 : RD (hp W) (fun b => b < W.heap.size) v x) (h2 : Fit s x) : CV W [v] [s] := ⟨[x], rfl, rfl, fun i v' x' s' e1 e2 e3 => by
  cases i with
  | zero => simp at e1 e2 e3; subst e1; subst e2; subst e3; exact ⟨h1, h2⟩
  | succ i => simp at e1⟩
theorem CV.append {W : World} {c1 c2 : List Value} {s1 s2 : List Sh} (h1 : CV W c1 s1) (h2 : CV W c2 s2) : CV W (c1 ++ c2) (s1 ++ s2) := by
  obtain ⟨d1, a1, b1, g1⟩ := h1
  obtain ⟨d2, a2, b2, g2⟩ := h2
  refine ⟨d1 ++ d2, by simp [a1, a2], by simp [b1, b2], fun i v x s e1 e2 e3 => ?_⟩
  rcases Nat.lt_or_ge i s1.length with h | h
  · rw [List.getElem?_append_left (by omega)] at e1 e2 e3
    exact g1 i v x s e1 e2 e3
  · rw [List.getElem?_append_right (by omega)] at e1 e2 e3
    rw [b1] at e1; rw [a1] at e2
    exact g2 _ v x s e1 e2 e3
theorem data_len (s : ByteArray) : s.data.toList.length = s.size := by rw [Array.length_toList]; rfl
theorem weights_mem_all {H : Type} {P : Program} {e : TypeId} : ∀ {ds : List (DataW H)} {j : Nat} {d : DataW H}, ds[j]? = some d → ∀ n ∈ d.weights P e, n ∈ DataW.weightsAll P e ds
  | [], _, _, hd, _, _ => by simp at hd
  | d0 :: ds, 0, d, hd, n, hn => by
    simp at hd; subst hd
    simp only [DataW.weightsAll, List.mem_append]; exact .inl hn
  | d0 :: ds, j + 1, d, hd, n, hn => by
    simp only [List.getElem?_cons_succ] at hd
    simp only [DataW.weightsAll, List.mem_append]; exact .inr (weights_mem_all hd n hn)
section
variable {H : Type} {enc : TypeId × Value → H} {P : Program} {W : World} {sp : Nat → Bool} {held : Bool}
theorem cv_fields {n : Nat} {go : TypeId → Option (List Sh)} {cs : List Value} (ih : ∀ (t : TypeId) (c : List Value) (x : DataW H × List MemPlace) (shs : List Sh), DataW.trod enc P W 0 sp held n t c = some x → (∀ m ∈ x.1.weights P t, m ≤ reachBytes) → go t = some shs → CV W c shs) :
    ∀ (fl : List Field) (off : Nat) (es : List Sh), shFs P go fl off = some es → (∀ f ∈ fl, ∃ y, DataW.trod enc P W 0 sp held n f.type ((cs.drop f.offset).take (P.cellsOf f.type)) = some y ∧ ∀ m ∈ y.1.weights P f.type, m ≤ reachBytes) → CV W ((cs.drop off).take es.length) es
  | [], off, es, h, _ => by
    simp only [shFs] at h; injection h with h; subst h
    simpa using CV.nil W
  | f :: r, off, es, h, hf => by
    simp only [shFs] at h
    split at h
    · rename_i ho
      cases hg : go f.type with
      | none => rw [hg] at h; simp at h
      | some e1 =>
        rw [hg, Option.bind_some] at h
        split at h
        · rename_i hl
          cases hr : shFs P go r (off + e1.length) with
          | none => rw [hr] at h; simp at h
          | some e2 =>
            rw [hr, Option.map_some] at h
            injection h with h; subst h
            obtain ⟨y, hy, hw⟩ := hf f (by simp)
            have c1 := ih f.type _ y e1 hy hw hg
            rw [ho, ← hl] at c1
            have c2 := cv_fields ih r (off + e1.length) e2 hr fun f' h' => hf f' (by simp [h'])
            have := c1.append c2
            rw [List.length_append, List.take_add, List.drop_drop]
            exact this
        · exact absurd h (by simp)
    · exact absurd h (by simp)
theorem cv_rep {c : Nat} {es : List Sh} {cs : List Value} (hes : es.length = c) : ∀ (k off : Nat), (∀ i, i < k → CV W ((cs.drop ((off + i) * c)).take c) es) → CV W ((cs.drop (off * c)).take (k * c)) (rep es k)
  | 0, off, _ => by simpa [rep] using CV.nil W
  | k + 1, off, h => by
    have h0 := h 0 (by omega)
    rw [Nat.add_zero] at h0
    have h1 := cv_rep hes k (off + 1) fun i hi => by
      have := h (i + 1) (by omega)
      rwa [show off + (i + 1) = off + 1 + i by omega] at this
    rw [rep, show (k + 1) * c = c + k * c by rw [Nat.succ_mul, Nat.add_comm], List.take_add, List.drop_drop, show off * c + c = (off + 1) * c by rw [Nat.succ_mul]]
    exact h0.append h1
theorem cell_heap {w : World} {a : Addr} {v : Value} (h : w.cell? a = some v) : a.spot = none ∧ ∃ cs t fz, w.heap[a.block]? = some (.cells cs t fz) ∧ cs[a.off]? = some v := by
  unfold World.cell? at h
  split at h
  · rename_i c t fz hb
    split at h
    · exact absurd h (by simp)
    · rename_i hs
      exact ⟨by simpa using hs, c, t, fz, hb, h⟩
  · exact absurd h (by simp)
theorem add_block (a : Addr) (n : Nat) : (a.add n).block = a.block := by unfold Addr.add; split <;> rfl
theorem add_off (a : Addr) (n : Nat) : (a.add n).off = a.off + n := by unfold Addr.add; split <;> simp_all
theorem conv : ∀ (fuel : Nat) (t : TypeId) (cs : List Value) (x : DataW H × List MemPlace) (f2 : Nat) (shs : List Sh), DataW.trod enc P W 0 sp held fuel t cs = some x → (∀ m ∈ x.1.weights P t, m ≤ reachBytes) → shOf P f2 t = some shs → CV W cs shs
  | 0, t, cs, x, f2, shs, h, _, _ => by simp [DataW.trod] at h
  | fuel + 1, t, cs, x, 0, shs, h, _, hs => by simp [shOf] at hs
  | fuel + 1, t, cs, x, f2 + 1, shs, h, hw, hs => by
    simp only [shOf] at hs
    split at hs
    · rename_i hu
      injection hs with hs; subst hs
      obtain ⟨b, rfl, rfl⟩ := DataW.trod_bool hu h
      exact CV.one (.v _ rfl) (.bool b)
    · rename_i k hu
      injection hs with hs; subst hs
      obtain ⟨n, rfl, rfl, hwf⟩ := DataW.trod_int hu h
      exact CV.one (.v _ rfl) (.int k n hwf)
    · rename_i hu
      injection hs with hs; subst hs
      obtain ⟨s, rfl, rfl, hsz⟩ := DataW.trod_string hu h
      exact CV.one (.v _ rfl) (.str s (by have := hw s.data.toList.length (by simp [DataW.weights]); rw [data_len] at this; exact this))
    · rename_i e hu
      cases hg : shOf P f2 e with
      | none => rw [hg] at hs; simp at hs
      | some es =>
        rw [hg, Option.bind_some] at hs
        split at hs
        · rename_i hl
          obtain ⟨hl, hpos⟩ := hl
          injection hs with hs; subst hs
          rcases DataW.trod_slice hu h with ⟨rfl, rfl⟩ | ⟨a, len, cap, elems, rest, n, hn, rfl, rfl, _, hlc, _, hlen, hel, _, _⟩
          · exact CV.one (.nil false es.length none 0 (by simp)) (.sl _ es [] (by simp) (by simp) (by simp))
          · injection hn with hn; subst hn
            have hwt : len * P.bytesOf e ≤ reachBytes := by
              have := hw ((elems.length + rest.length) * P.bytesOf e) (by simp [DataW.weights, hu])
              exact Nat.le_trans (Nat.mul_le_mul_right _ (by omega)) this
            have hch : ∀ i : Fin len, ∃ ce : List Value, W.cells? 0 (a.add (i.val * P.cellsOf e)) (P.cellsOf e) = some ce ∧ CV W ce es := fun i => by
              have h1 := hel i.val i.isLt
              have hi : i.val < elems.length := by rw [hlen]; exact i.isLt
              rw [List.getElem?_eq_getElem hi] at h1
              cases hc : W.cells? 0 (a.add (i.val * P.cellsOf e)) (P.cellsOf e) with
              | none => rw [hc] at h1; simp at h1
              | some ce =>
                rw [hc, Option.bind_some] at h1
                refine ⟨ce, rfl, conv fuel e ce _ f2 es h1 (fun m hm => hw m ?_) hg⟩
                have hj : (elems.map (·.1))[i.val]? = some (elems[i.val]).1 := by simp [hi]
                have := weights_mem_all (P := P) (e := e) hj m hm
                simp only [DataW.weights, hu, List.mem_cons, List.mem_append]
                exact .inr (.inl this)
            have key : ∀ i : Fin len, ∃ ds : List D, ds.length = es.length ∧ ∀ (j : Nat) (x : D), ds[j]? = some x → ∃ v, W.cell? ((a.add (i.val * P.cellsOf e)).add j) = some v ∧ RD (hp W) (fun b => b < W.heap.size) v x ∧ ∀ s, es[j]? = some s → Fit s x := fun i => by
              obtain ⟨ce, hc, ds, g1, g2, g3⟩ := hch i
              obtain ⟨_, hcl, hcc⟩ := World.cells?_some hc
              refine ⟨ds, g1, fun j x hx => ?_⟩
              have hj : j < ds.length := (List.getElem?_eq_some_iff.1 hx).1
              have hjc : ce[j]? = some (ce[j]'(by omega)) := List.getElem?_eq_getElem (by omega)
              have hjs : es[j]? = some (es[j]'(by omega)) := List.getElem?_eq_getElem (by omega)
              obtain ⟨r1, r2⟩ := g3 j _ x _ hjc hx hjs
              exact ⟨_, by rw [hcc j (by omega), hjc], r1, fun s hs => by rw [hjs] at hs; injection hs with hs; subst hs; exact r2⟩
            let els : List (List D) := List.ofFn fun i : Fin len => Classical.choose (key i)
            have hlenE : els.length = len := by simp [els]
            have hat : ∀ (i : Nat) (el : List D), els[i]? = some el → ∃ hi : i < len, el = Classical.choose (key ⟨i, hi⟩) := fun i el he => by
              have hi : i < els.length := (List.getElem?_eq_some_iff.1 he).1
              have hi' : i < len := by rw [← hlenE]; exact hi
              refine ⟨hi', ?_⟩
              rw [List.getElem?_eq_getElem hi] at he
              injection he with he
              rw [← he]; simp [els]
            have hmem : ∀ el ∈ els, ∃ i : Fin len, el = Classical.choose (key i) := fun el he => by
              obtain ⟨i, hi⟩ := List.getElem?_of_mem he
              obtain ⟨h1, h2⟩ := hat i el hi
              exact ⟨⟨i, h1⟩, h2⟩
            have hfit : Fit (.sl (P.bytesOf e) es) (.sl false es.length els) := .sl _ es els (by rw [hlenE]; exact hwt) (fun el he => by obtain ⟨i, rfl⟩ := hmem el he; exact (Classical.choose_spec (key i)).1) fun el he j s x h1 h2 => by
              obtain ⟨i, rfl⟩ := hmem el he
              obtain ⟨v, _, _, h5⟩ := (Classical.choose_spec (key i)).2 j x h2
              exact h5 s h1
            refine CV.one ?_ hfit
            rcases Nat.eq_zero_or_pos len with h0 | h0
            · subst h0
              have : els = [] := List.eq_nil_of_length_eq_zero hlenE
              rw [this]
              exact .nil false es.length _ cap (by simp)
            · have hcell : ∀ (i : Nat) (hi : i < len) (j : Nat) (x : D), (Classical.choose (key ⟨i, hi⟩))[j]? = some x → ∃ v cs t fz, W.heap[a.block]? = some (.cells cs t fz) ∧ cs[a.off + (i * es.length + j)]? = some v ∧ RD (hp W) (fun b => b < W.heap.size) v x := fun i hi j x hx => by
                obtain ⟨v, hv, hr, _⟩ := (Classical.choose_spec (key ⟨i, hi⟩)).2 j x hx
                obtain ⟨_, cs, t', fz, q2, q3⟩ := cell_heap hv
                rw [add_block, add_block] at q2
                rw [add_off, add_off, ← hl] at q3
                exact ⟨v, cs, t', fz, q2, by rwa [Nat.add_assoc] at q3, hr⟩
              have hx0 : ∃ x, (Classical.choose (key ⟨0, h0⟩))[0]? = some x := ⟨_, List.getElem?_eq_getElem (by rw [(Classical.choose_spec (key ⟨0, h0⟩)).1]; exact hpos)⟩
              obtain ⟨x0, hx0⟩ := hx0
              have hspot : a.spot = none := by
                obtain ⟨v, hv, _⟩ := (Classical.choose_spec (key ⟨0, h0⟩)).2 0 x0 hx0
                have := (cell_heap hv).1
                simpa [Addr.add] using this
              have hblk : a.block < W.heap.size := by
                obtain ⟨v, cs, t', fz, q2, _⟩ := hcell 0 h0 0 x0 hx0
                exact (Array.getElem?_eq_some_iff.1 q2).1
              obtain ⟨ab, ao, asp⟩ := a
              simp only at hspot
              subst hspot
              let f : Nat → Nat → Value := fun i j => ((W.heap[ab]?).bind fun o => match o with
                | .cells cs _ _ => cs[ao + (i * es.length + j)]?
                | _ => none).getD undef
              have hfv : ∀ (i j : Nat) (v : Value) (cs : Array Value) (t' : TypeId) (fz : Nat × Nat), W.heap[ab]? = some (.cells cs t' fz) → cs[ao + (i * es.length + j)]? = some v → f i j = v := fun i j v cs t' fz q2 q3 => by
                simp only [f, q2, Option.bind_some, q3, Option.getD_some]
              have := RD.sl (h := hp W) (Im := fun b => b < W.heap.size) false es.length els ab ao cap f (fun el he => by obtain ⟨i, rfl⟩ := hmem el he; exact (Classical.choose_spec (key i)).1) hblk (by rw [hlenE]; exact hlc) (by simp) (fun i j el x h1 h2 => by
                  obtain ⟨hi, rfl⟩ := hat i el h1
                  obtain ⟨v, cs, t', fz, q2, q3, q4⟩ := hcell i hi j x h2
                  exact ⟨cs, t', fz, q2, by rw [hfv i j v cs t' fz q2 q3]; exact q3⟩) (fun i j el x h1 h2 => by
                  obtain ⟨hi, rfl⟩ := hat i el h1
                  obtain ⟨v, cs, t', fz, q2, q3, q4⟩ := hcell i hi j x h2
                  rw [hfv i j v cs t' fz q2 q3]; exact q4)
              rw [hlenE] at this
              exact this
        · exact absurd hs (by simp)
    · rename_i fs hu
      cases hg : shFs P (shOf P f2) fs.toList 0 with
      | none => rw [hg] at hs; simp at hs
      | some es =>
        rw [hg, Option.bind_some] at hs
        split at hs
        · rename_i hl
          injection hs with hs; subst hs
          obtain ⟨xs, n, hn, rfl, hcl, hxl, hx⟩ := DataW.trod_struct hu h
          injection hn with hn; subst hn
          have := cv_fields (cs := cs) (fun t c x shs h1 h2 h3 => conv fuel t c x f2 shs h1 h2 h3) fs.toList 0 es hg fun f hf => by
            obtain ⟨i, hi⟩ := List.getElem?_of_mem hf
            have hi' : fs[i]? = some f := by simpa using hi
            have h1 := hx i f hi'
            have hlt : i < xs.length := by rw [hxl]; exact (Array.getElem?_eq_some_iff.1 hi').1
            rw [List.getElem?_eq_getElem hlt] at h1
            refine ⟨_, h1, fun m hm => hw m ?_⟩
            simp only [DataW.weights, hu]
            exact DataW.weights_mem_each (j := i) (t := f.type) (d := xs[i].1) (by simp [hi']) (by simp [hlt]) m hm
          rw [List.drop_zero, List.take_of_length_le (by omega)] at this
          exact this
        · exact absurd hs (by simp)
    · rename_i n e hu
      cases hg : shOf P f2 e with
      | none => rw [hg] at hs; simp at hs
      | some es =>
        rw [hg, Option.bind_some] at hs
        split at hs
        · rename_i hl
          injection hs with hs; subst hs
          obtain ⟨xs, k, hn, rfl, hcl, hxl, hx⟩ := DataW.trod_array hu h
          injection hn with hn; subst hn
          have := cv_rep (W := W) (cs := cs) hl.1 n 0 fun i hi => by
            have h1 := hx i hi
            have hlt : i < xs.length := by rw [hxl]; exact hi
            rw [List.getElem?_eq_getElem hlt] at h1
            rw [Nat.zero_add]
            refine conv fuel e _ _ f2 es h1 (fun m hm => hw m ?_) hg
            simp only [DataW.weights, hu]
            exact weights_mem_all (j := i) (d := xs[i].1) (by simp [hlt]) m hm
          rw [Nat.zero_mul, List.drop_zero, List.take_of_length_le (by rw [hcl, ← hl.2, hl.1]; exact Nat.le_refl _)] at this
          exact this
        · exact absurd hs (by simp)
    · exact absurd hs (by simp)
theorem cv_slice {r : Reach} {b0 : Nat} {t e : TypeId} {v : Value} {d : DataW H} {ps : List MemPlace} {f2 b : Nat} {es : List Sh} (ht : P.underlying t = some (.slice e)) (hval : Value.okWide P W r b0 t v) (h : DataW.Trod enc P W 0 sp held t v d ps) (hw : ∀ m ∈ d.weights P t, m ≤ reachBytes) (hs : shOf P f2 t = some [.sl b es]) :
    v.oneCell' = true ∧ ∃ els, RD (hp W) (fun b => b < W.heap.size) v (.sl false es.length els) ∧ Fit (.sl b es) (.sl false es.length els) := by
  obtain ⟨a, n, c, rfl⟩ := WideShapes.okWide_slice ht hval
  obtain ⟨fuel, hf⟩ := h
  obtain ⟨ds, h1, h2, h3⟩ := conv fuel t _ _ f2 _ hf hw hs
  have hd : ds[0]? = some (ds[0]'(by rw [h1]; simp)) := List.getElem?_eq_getElem _
  obtain ⟨g1, g2⟩ := h3 0 _ _ (.sl b es) rfl hd rfl
  refine ⟨rfl, ?_⟩
  generalize ds[0]'(by rw [h1]; simp) = x at g1 g2
  cases g2 with
  | sl _ _ els q1 q2 q3 => exact ⟨els, g1, .sl _ _ els q1 q2 q3⟩
theorem rows_of {α : Type} (row : α → List D) (p : α → Prop) : ∀ {els : List (List D)}, (∀ el ∈ els, ∃ a, el = row a ∧ p a) → ∃ l : List α, els = l.map row ∧ ∀ a ∈ l, p a
  | [], _ => ⟨[], rfl, by simp⟩
  | el :: els, h => by
    obtain ⟨a, ha, hp⟩ := h el (by simp)
    obtain ⟨l, hl, hq⟩ := rows_of row p (els := els) fun e he => h e (by simp [he])
    exact ⟨a :: l, by rw [ha, hl]; rfl, fun x hx => by rcases List.mem_cons.1 hx with rfl | hx; exact hp; exact hq x hx⟩
end
theorem fit_u16 {x : D} (h : Fit (.int .u16) x) : ∃ n : Int, x = .u16 n ∧ 0 ≤ n ∧ n < 65536 := by
  cases h with
  | int _ k hk => exact ⟨k, rfl, by simp [Lit.wf, IntKind.min, IntKind.max, IntKind.bits, IntKind.signed] at hk; omega⟩
end Go.Ax

namespace Go.Ax
open Go.Proofs Go.RowKit Go.Shelf
theorem infoB : ∃ j, Tryz.prog.info? 92 = some j ∧ j.size = 2 := by
  have h : (Tryz.prog.info? 92).map (·.size) = some 2 := by kernel_rfl
  obtain ⟨j, hj, hs⟩ := Option.map_eq_some_iff.1 h
  exact ⟨j, hj, hs⟩
set_option maxHeartbeats 1000000 in
set_option maxRecDepth 100000 in
theorem copyCheck_used (b : Nat) (w : World) (h0 : w.cell? ⟨b, 0, none⟩ = some (.pointer (some ⟨b, 0, none⟩))) :
    Calls Tryz.prog 105 #[.pointer (some ⟨b, 0, none⟩)] w fun e w' => e = .returned (.tuple #[]) ∧ w' = w := by
  obtain ⟨j, hj, _⟩ := infoB
  go_enter Tryz.func105, Tryz.ntmps105
  go_wp2
  rw [Lib.run_neq_ptr_same w _ Tryz.underlying89 hj]
  go_wp2
  go_end0
  exact ⟨rfl, rfl⟩
set_option maxHeartbeats 1000000 in
set_option maxRecDepth 100000 in
theorem copyCheck_fresh (T : TypeId) (hT : liesAt Tryz.prog Tryz.prog.depth T (2 / Tryz.prog.cellsOf T) 0 92 1 = true) (b : Nat) (w : World) (h0 : w.cell? ⟨b, 0, none⟩ = some (.pointer none)) (hsh : w.shape? b = some (T, 2)) (hfz : w.frozen? ⟨b, 0, none⟩ = false) :
    Calls Tryz.prog 105 #[.pointer (some ⟨b, 0, none⟩)] w fun e w' => e = .returned (.tuple #[]) ∧ w' = w.setCell ⟨b, 0, none⟩ (.pointer (some ⟨b, 0, none⟩)) := by
  obtain ⟨j, hj, hjs⟩ := infoB
  go_enter Tryz.func105, Tryz.ntmps105
  go_wp2
  rw [Lib.run_to_unsafe w ⟨b, 0, none⟩ Tryz.underlying89 Tryz.underlying218 hj (by rw [hjs]; decide) hsh (Nat.zero_lt_succ 1)]
  simp only [Result.andThen]
  rw [Oper.upon_value]
  go_wp2
  rw [run_callFunc_extern Tryz.func154 (by kernel_rfl) (by kernel_rfl) (by kernel_rfl) (e := Extern.AbiNoEscape.same) (by kernel_rfl)]
  rw [Lib.run_noEscape]
  simp only [Result.andThen]
  rw [Oper.upon_value]
  go_wp2
  rw [Lib.run_from_unsafe w ⟨b, 0, none⟩ Tryz.underlying218 Tryz.underlying89 hj hsh hT]
  simp only [Result.andThen]
  rw [Oper.upon_value]
  go_wp2
  go_end0
  exact ⟨rfl, rfl⟩
end Go.Ax

namespace Go.Ax
open Go.Proofs Go.RowKit Go.Shelf
set_option maxRecDepth 10000
def zB : List D := [.v (.pointer none), .v (.slice none 0 0)]
theorem lkH_two {q r1 r2 : Nat} {o1 o2 o : AObj} (h : lkH q [(r1, some o1), (r2, some o2)] = some o) : (q = r1 ∧ o = o1) ∨ (q = r2 ∧ o = o2) := by
  simp only [lkH] at h
  split at h
  · rename_i hb; injection h with h; exact .inl ⟨(Nat.eq_of_beq_eq_true hb).symm, h.symm⟩
  · split at h
    · rename_i hb; injection h with h; exact .inr ⟨(Nat.eq_of_beq_eq_true hb).symm, h.symm⟩
    · simp at h
theorem lkH_one {q r1 : Nat} {o1 o : AObj} (h : lkH q [(r1, some o1)] = some o) : q = r1 ∧ o = o1 := by
  simp only [lkH] at h
  split at h
  · rename_i hb; injection h with h; exact ⟨(Nat.eq_of_beq_eq_true hb).symm, h.symm⟩
  · simp at h
theorem after_same {w : World} {Im : Nat → Prop} {ρ : Nat → Option Loc} {hin : HL} (hIm : ∀ b, Im b → b < w.heap.size) (hrel : HRel w Im ρ hin (fun _ => True)) (hcl : ∀ r o, lkH r hin = some o → ClosedO hin o) : After w Im ρ hin w Im ρ hin where
  grows := Grows.refl w _
  im := fun b hb => hb
  imn := fun b hb => ⟨hIm b hb, .inl hb⟩
  rel := ⟨fun r o hr => let ⟨l, h1, h2, h3⟩ := hrel.obj r o hr; ⟨l, h1, h2, fun b hb => ⟨(h3 b hb).1, (h3 b hb).2.1, .inr ⟨r, o, l, hr, h1, hb⟩⟩⟩, hrel.dis⟩
  anc := fun r o hr l' hl' => ⟨l', hl', .inl rfl⟩
  cl := hcl
theorem ra_tup0 {h : Nat → Option Obj} {Im : Nat → Prop} {ρ : Nat → Option Loc} : RA h Im ρ (.tuple #[]) (.tup []) := .tup _ _ rfl (by simp)
theorem ra_arg0 {h : Nat → Option Obj} {Im : Nat → Prop} {ρ : Nat → Option Loc} {vs : Array Value} {args : List AV} (hsz : vs.size = args.length) (hra : ∀ (i : Nat) (v : Value) (x : AV), vs[i]? = some v → args[i]? = some x → RA h Im ρ v x) {i : Nat} {x : AV} (hx : args[i]? = some x) : ∃ v, vs[i]? = some v ∧ RA h Im ρ v x := by
  have hi : i < vs.size := by rw [hsz]; exact (List.getElem?_eq_some_iff.1 hx).1
  exact ⟨vs[i], Array.getElem?_eq_getElem hi, hra i _ x (Array.getElem?_eq_getElem hi) hx⟩
abbrev bvar (n : Nat) : AObj := .var [.ptr 9000 0, .msl 9001 n 0 n]
theorem checkUsed_ctr (g : GP) (n : Nat) (els : List (List D)) : Ctr (ax g).E 105 [.ptr 9000 0] [(9000, some (bvar n)), (9001, some (.buf 1 5 els))] (fun o => o = .ret (.tup []) [(9000, some (bvar n)), (9001, some (.buf 1 5 els))]) := by
  refine ⟨⟨_, Tryz.func105, rfl, by decide +kernel⟩, fun w Im ρ vs hG hIm hgl hsz hra hrel => ?_⟩
  obtain ⟨l, hl, hro, _⟩ := hrel.obj 9000 (bvar n) rfl
  obtain ⟨v, hv, hr⟩ := ra_arg0 hsz hra (i := 0) rfl
  obtain ⟨h1, h2, b, ms, t, h3, h4, h5, h6⟩ := hro
  have hvp : v = .pointer (some ⟨b, 0, none⟩) := by
    cases hr with
    | ptr _ _ _ _ hp =>
      obtain ⟨_, b', q1, q2⟩ := hp l hl
      rw [h3] at q1; injection q1 with q1; subst q1; exact q2
  have hvs : vs = #[.pointer (some ⟨b, 0, none⟩)] := by
    apply Array.ext (by simpa using hsz)
    intro i i1 i2
    simp at i2; subst i2
    rw [Array.getElem?_eq_getElem i1] at hv
    injection hv with hv; rw [hv, hvp]; rfl
  have hm0 : ms[0]? = some (.pointer (some ⟨b, 0, none⟩)) := by
    have h5 : ms.size = 2 := h5
    obtain ⟨u, hu⟩ : ∃ u, ms[0]? = some u := ⟨_, Array.getElem?_eq_getElem (by omega)⟩
    obtain ⟨r1, _⟩ := h6 0 u hu (.ptr 9000 0) rfl
    rw [hu]
    cases r1 with
    | ptr _ _ _ _ hp =>
      obtain ⟨_, b', q1, q2⟩ := hp l hl
      rw [h3] at q1; injection q1 with q1; subst q1; rw [q2]
  have hc : w.cell? ⟨b, 0, none⟩ = some (.pointer (some ⟨b, 0, none⟩)) := by rw [Lib.cell_of_heap h4]; exact hm0
  rw [hvs]
  refine (copyCheck_used b w hc).mono fun e w' ⟨he, hw⟩ => ?_
  subst he; subst hw
  refine ⟨_, _, Im, ρ, rfl, ra_tup0, fun r hr => by simp [AV.ment, AV.ment.mentL] at hr, after_same hIm hrel fun r o hr => ?_⟩
  rcases lkH_two hr with ⟨rfl, rfl⟩ | ⟨rfl, rfl⟩
  · intro q hq
    simp [AObj.ment, AV.ment.mentL, AV.ment] at hq
    rcases hq with rfl | rfl <;> rfl
  · intro q hq; simp [AObj.ment] at hq
def BldT (T : TypeId) : Prop := liesAt Tryz.prog Tryz.prog.depth T (2 / Tryz.prog.cellsOf T) 0 92 1 = true
theorem bldT110 : BldT 94 := by unfold BldT; kernel_rfl
theorem checkFresh_ctr (g : GP) (T : TypeId) (hT : BldT T) : Ctr (ax g).E 105 [.ptr 9000 0] [(9000, some (.tvar T zB))] (fun o => o = .ret (.tup []) [(9000, some (bvar 0)), (9001, some (.buf 1 5 []))]) := by
  refine ⟨⟨_, Tryz.func105, rfl, by decide +kernel⟩, fun w Im ρ vs hG hIm hgl hsz hra hrel => ?_⟩
  obtain ⟨l, hl, hro, hown⟩ := hrel.obj 9000 (.tvar T zB) rfl
  obtain ⟨v, hv, hr⟩ := ra_arg0 hsz hra (i := 0) rfl
  obtain ⟨h1, h2, b, ms, h3, h4, h5, h6⟩ := hro
  have hvp : v = .pointer (some ⟨b, 0, none⟩) := by
    cases hr with
    | ptr _ _ _ _ hp =>
      obtain ⟨_, b', q1, q2⟩ := hp l hl
      rw [h3] at q1; injection q1 with q1; subst q1; exact q2
  have hvs : vs = #[.pointer (some ⟨b, 0, none⟩)] := by
    apply Array.ext (by simpa using hsz)
    intro i i1 i2
    simp at i2; subst i2
    rw [Array.getElem?_eq_getElem i1] at hv
    injection hv with hv; rw [hv, hvp]; rfl
  have h5 : ms.size = 2 := h5
  have hm0 : ms[0]? = some (.pointer none) := by
    have h0 : 0 < ms.size := by omega
    have := (h6 0 ms[0] _ (Array.getElem?_eq_getElem h0) rfl).bool
    rw [Array.getElem?_eq_getElem h0, this]
  have hm1 : ms[1]? = some (.slice none 0 0) := by
    have h0 : 1 < ms.size := by omega
    have := (h6 1 ms[1] _ (Array.getElem?_eq_getElem h0) rfl).bool
    rw [Array.getElem?_eq_getElem h0, this]
  have hb : b < w.heap.size := (Array.getElem?_eq_some_iff.1 h4).1
  have hc : w.cell? ⟨b, 0, none⟩ = some (.pointer none) := by rw [Lib.cell_of_heap h4]; exact hm0
  have hsh : w.shape? b = some (T, 2) := by
    have h4' : w.heap[b]? = some (.cells ms T (0, 0)) := h4
    simp [World.shape?, h4', h5]
  have hfz : w.frozen? ⟨b, 0, none⟩ = false := by
    have h4' : w.heap[b]? = some (.cells ms T (0, 0)) := h4
    simp [World.frozen?, h4']
  rw [hvs]
  refine (copyCheck_fresh T hT b w hc hsh hfz).mono fun e w' ⟨he, hw⟩ => ?_
  subst he
  have hset : w'.heap[b]? = some (.cells (ms.setIfInBounds 0 (.pointer (some ⟨b, 0, none⟩))) T (0, 0)) := by
    have h4' : w.heap[b]? = some (.cells ms T (0, 0)) := h4
    subst hw
    simp [World.setCell, Array.getElem?_modify, h4']
  have hoth : ∀ k, k ≠ b → w'.heap[k]? = w.heap[k]? := fun k hk => by
    subst hw; exact Below.heap_setCell w ⟨b, 0, none⟩ _ k hk
  have hws : w'.heap.size = w.heap.size := by subst hw; simp [World.setCell]
  have hwo : w'.os = w.os ∧ w'.tape = w.tape ∧ w'.output = w.output := by subst hw; exact ⟨rfl, rfl, rfl⟩
  clear hw
  have hbT : TIn ρ [(9000, some (.tvar T zB))] b := ⟨9000, _, l, rfl, hl, by simp [Loc.fp, h3]⟩
  have hlfp : l.fp = [b] := by simp [Loc.fp, h3, h2]
  let lb : Loc := { blk := none, isBuf := true, sz := 1 }
  have e1 : upd ρ 9001 (some lb) 9000 = some l := by rw [upd_ne _ _ (by decide)]; exact hl
  have e2 : upd ρ 9001 (some lb) 9001 = some lb := upd_same ..
  refine ⟨.tup [], _, Im, upd ρ 9001 (some lb), rfl, ra_tup0, fun r hr => by simp [AV.ment, AV.ment.mentL] at hr, ?_⟩
  refine ⟨⟨by omega, hwo.1, hwo.2.1, hwo.2.2, fun k hk hn => hoth k fun h => hn (by subst h; exact hbT)⟩, fun k hk => hk, fun k hk => ⟨by rw [hws]; exact hIm k hk, .inl hk⟩, ⟨fun r o hr => ?_, fun r r' o o' l1 l2 q1 q2 hne p1 p2 k hk hk' => ?_⟩, fun r o hr l' hl' => ?_, fun r o hr => ?_⟩
  · rcases lkH_two hr with ⟨rfl, rfl⟩ | ⟨rfl, rfl⟩
    · refine ⟨l, e1, ⟨h1, h2, b, _, T, h3, hset, by simp [h5], fun i u hu x hx => ?_⟩, fun k hk => ?_⟩
      · match i, hx with
        | 0, hx =>
          have hu : u = .pointer (some ⟨b, 0, none⟩) := by
            have : 0 < ms.size := by omega
            simpa [Array.getElem?_setIfInBounds, this] using hu.symm
          simp at hx; subst hx; subst hu
          exact ⟨.ptr _ _ _ rfl fun l' hl' => by rw [e1] at hl'; injection hl' with hl'; subst hl'; exact ⟨h1, b, h3, rfl⟩, rfl⟩
        | 1, hx =>
          have hu : u = .slice none 0 0 := by
            rw [Array.getElem?_setIfInBounds_ne (by decide), hm1] at hu
            injection hu with hu; exact hu.symm
          simp at hx; subst hx; subst hu
          exact ⟨.msl _ _ _ _ _ rfl fun l' hl' => by rw [e2] at hl'; injection hl' with hl'; subst hl'; exact ⟨by simp [lb], fun _ => rfl⟩, rfl⟩
        | n + 2, hx => simp at hx
      · rw [hlfp] at hk; simp at hk; subst hk
        exact ⟨by omega, (hown k (by rw [hlfp]; simp)).2.1, .inr hbT⟩
    · exact ⟨lb, e2, ⟨rfl, rfl, rfl, rfl, by simp, .inl ⟨rfl, rfl, rfl⟩⟩, by simp [lb, Loc.fp]⟩
  · rcases lkH_two q1 with ⟨rfl, rfl⟩ | ⟨rfl, rfl⟩
    · rcases lkH_two q2 with ⟨rfl, rfl⟩ | ⟨rfl, rfl⟩
      · exact hne rfl
      · rw [e2] at p2; injection p2 with p2; subst p2; simp [lb, Loc.fp] at hk'
    · rw [e2] at p1; injection p1 with p1; subst p1; simp [lb, Loc.fp] at hk
  · obtain ⟨rfl, rfl⟩ := lkH_one hr
    rw [e1] at hl'; injection hl' with hl'; subst hl'
    exact ⟨l, hl, .inl rfl⟩
  · rcases lkH_two hr with ⟨rfl, rfl⟩ | ⟨rfl, rfl⟩
    · intro q hq
      simp [AObj.ment, AV.ment.mentL, AV.ment] at hq
      rcases hq with rfl | rfl <;> rfl
    · intro q hq; simp [AObj.ment] at hq
end Go.Ax

namespace Go.Ax
open Go.Proofs Go.RowKit Go.Shelf
set_option maxRecDepth 10000
theorem CallP.two {E : Env} {k : Kn} {f : FuncId} {args : List AV} {s : St} {K : AV → HL → Prop} {KP : List PanicEntry → HL → Prop} {res : AV} {r1 r2 : Nat} {o1 o2 o1' o2' : AObj} (h1 : lkH r1 s.h = some o1) (h2 : lkH r2 s.h = some o2)
    (h : Ctr E f args [(r1, some o1), (r2, some o2)] fun o => o = .ret res [(r1, some o1'), (r2, some o2')]) (hk : K res ((r1, some o1') :: (r2, some o2') :: (r1, none) :: (r2, none) :: s.h)) : CallP E k f args s K KP :=
  ⟨_, _, h, fun r o hr => by rcases lkH_two hr with ⟨rfl, rfl⟩ | ⟨rfl, rfl⟩; exact h1; exact h2, fun res' ho e => by
    injection e with e1 e2; subst e1; subst e2
    refine ⟨fun r o hr => .inl ?_, hk⟩
    rcases lkH_two hr with ⟨rfl, rfl⟩ | ⟨rfl, rfl⟩
    · exact ⟨o1, by simp [lkH]⟩
    · by_cases hr : r1 = r
      · subst hr; exact ⟨o1, by simp [lkH]⟩
      · have : Nat.beq r1 r = false := by
          cases hb : Nat.beq r1 r with
          | false => rfl
          | true => exact absurd (Nat.eq_of_beq_eq_true hb) hr
        exact ⟨o2, by simp [lkH, this]⟩, fun ch ho e => by simp at e⟩
theorem CallP.oneTwo {E : Env} {k : Kn} {f : FuncId} {args : List AV} {s : St} {K : AV → HL → Prop} {KP : List PanicEntry → HL → Prop} {res : AV} {r1 r2 : Nat} {o1 o1' o2' : AObj} (h1 : lkH r1 s.h = some o1) (h2 : unmB k.anc r2 s = true)
    (h : Ctr E f args [(r1, some o1)] fun o => o = .ret res [(r1, some o1'), (r2, some o2')]) (hk : K res ((r1, some o1') :: (r2, some o2') :: (r1, none) :: s.h)) : CallP E k f args s K KP :=
  ⟨_, _, h, fun r o hr => by obtain ⟨rfl, rfl⟩ := lkH_one hr; exact h1, fun res' ho e => by
    injection e with e1 e2; subst e1; subst e2
    refine ⟨fun r o hr => ?_, hk⟩
    rcases lkH_two hr with ⟨rfl, rfl⟩ | ⟨rfl, rfl⟩
    · exact .inl ⟨o1, by simp [lkH]⟩
    · exact .inr h2, fun ch ho e => by simp at e⟩
theorem bsRow_app (a b : ByteArray) : bsRow (a ++ b) = bsRow a ++ bsRow b := by simp [bsRow, ByteArray.data_append]
abbrev bbuf (bs : ByteArray) : AObj := .buf 1 5 (bsRow bs)
theorem writeUsed_ctr (g : GP) (bs s : ByteArray) (hs : bs.size + s.size ≤ 140737488355328) : Ctr (ax g).E 47 [.ptr 9000 0, .str s] [(9000, some (bvar bs.size)), (9001, some (bbuf bs))] (fun o => o = .ret (.tup [.i64 s.size, .d (.v .nilIface)]) [(9000, some (bvar (bs ++ s).size)), (9001, some (bbuf (bs ++ s)))]) := by
  refine Ctr.body (X := ax g) _ 19 [9000, 9001] [.tmp 4, .tmp 5] Tryz.func47 rfl rfl rfl rfl (by decide +kernel) rfl rfl ?_
  conv => whnf
  refine CallP.two rfl rfl (checkUsed_ctr g bs.size (bsRow bs)) ?_
  conv => whnf
  refine And.intro rfl ?_
  refine And.intro (bsRow_len bs).symm ?_
  refine And.intro (by rw [bsRow_len]; exact hs) ?_
  conv => whnf
  refine ⟨⟨[(9000, some (bvar (bs ++ s).size)), (9001, some (bbuf (bs ++ s)))], ?_⟩⟩
  conv => whnf
  refine And.intro ⟨fun o h => ?_, fun o h => ?_, trivial⟩ ?_
  · rw [← h]
    show some (AObj.var [.ptr 9000 0, .msl 9001 ((bsRow bs).length + s.size) 0 ((bsRow bs).length + s.size)]) = some (bvar (bs ++ s).size)
    rw [bsRow_len, ByteArray.size_append]
  · rw [← h]
    show some (AObj.buf 1 5 (bsRow bs ++ bsRow s)) = some (bbuf (bs ++ s))
    rw [← bsRow_app]
  · rfl
theorem writeFresh_ctr (g : GP) (T : TypeId) (hT : BldT T) (s : ByteArray) (hs : s.size ≤ 140737488355328) : Ctr (ax g).E 47 [.ptr 9000 0, .str s] [(9000, some (.tvar T zB))] (fun o => o = .ret (.tup [.i64 s.size, .d (.v .nilIface)]) [(9000, some (bvar s.size)), (9001, some (bbuf s))]) := by
  refine Ctr.body (X := ax g) _ 19 [9000] [.tmp 4, .tmp 5] Tryz.func47 rfl rfl rfl rfl (by decide +kernel) rfl rfl ?_
  conv => whnf
  refine CallP.oneTwo rfl rfl (checkFresh_ctr g T hT) ?_
  conv => whnf
  refine And.intro rfl ?_
  refine And.intro rfl ?_
  refine And.intro (by show 0 + s.size ≤ _; omega) ?_
  conv => whnf
  refine ⟨⟨[(9000, some (bvar s.size)), (9001, some (bbuf s))], ?_⟩⟩
  conv => whnf
  refine And.intro ⟨fun o h => ?_, fun o h => h, trivial⟩ ?_
  · rw [← h]
    show some (AObj.var [.ptr 9000 0, .msl 9001 (0 + s.size) 0 (0 + s.size)]) = some (bvar s.size)
    rw [Nat.zero_add]
  · rfl
def oneB (b : UInt8) : ByteArray := ⟨#[b]⟩
theorem byteUsed_ctr (g : GP) (bs : ByteArray) (b : UInt8) (hs : bs.size + 1 ≤ 140737488355328) : Ctr (ax g).E 74 [.ptr 9000 0, .d (.v (.int .u8 b.toNat))] [(9000, some (bvar bs.size)), (9001, some (bbuf bs))] (fun o => o = .ret (.d (.v .nilIface)) [(9000, some (bvar (bs ++ oneB b).size)), (9001, some (bbuf (bs ++ oneB b)))]) := by
  refine Ctr.body (X := ax g) _ 17 [9000, 9001] [.tmp 4] Tryz.func74 rfl rfl rfl rfl (by decide +kernel) rfl rfl ?_
  conv => whnf
  refine CallP.two rfl rfl (checkUsed_ctr g bs.size (bsRow bs)) ?_
  conv => whnf
  repeat (refine And.intro easyE ?_; conv => whnf)
  refine And.intro (bsRow_len bs).symm ?_
  refine And.intro rfl ?_
  refine And.intro (by show ((bsRow bs).length + 1) * 1 ≤ _; rw [bsRow_len]; omega) ?_
  conv => whnf
  refine ⟨⟨[(9000, some (bvar (bs ++ oneB b).size)), (9001, some (bbuf (bs ++ oneB b)))], ?_⟩⟩
  conv => whnf
  refine And.intro ⟨fun o h => ?_, fun o h => ?_, trivial⟩ ?_
  · rw [← h]
    show some (AObj.var [.ptr 9000 0, .msl 9001 ((bsRow bs).length + 1) 0 ((bsRow bs).length + 1)]) = some (bvar (bs ++ oneB b).size)
    rw [bsRow_len, ByteArray.size_append]; rfl
  · rw [← h]
    show some (AObj.buf 1 5 (bsRow bs ++ bsRow (oneB b))) = some (bbuf (bs ++ oneB b))
    rw [← bsRow_app]
  · rfl
theorem byteFresh_ctr (g : GP) (T : TypeId) (hT : BldT T) (b : UInt8) : Ctr (ax g).E 74 [.ptr 9000 0, .d (.v (.int .u8 b.toNat))] [(9000, some (.tvar T zB))] (fun o => o = .ret (.d (.v .nilIface)) [(9000, some (bvar (oneB b).size)), (9001, some (bbuf (oneB b)))]) := by
  refine Ctr.body (X := ax g) _ 17 [9000] [.tmp 4] Tryz.func74 rfl rfl rfl rfl (by decide +kernel) rfl rfl ?_
  conv => whnf
  refine CallP.oneTwo rfl rfl (checkFresh_ctr g T hT) ?_
  conv => whnf
  repeat (refine And.intro easyE ?_; conv => whnf)
  refine ⟨⟨[(9000, some (bvar (oneB b).size)), (9001, some (bbuf (oneB b)))], ?_⟩⟩
  conv => whnf
  refine And.intro ⟨fun o h => h, fun o h => h, trivial⟩ ?_
  rfl
set_option maxHeartbeats 2000000 in
set_option maxRecDepth 100000 in
theorem string_used (b g cap : Nat) (p : Value) (cur : Array Value) (T : TypeId) (l : List UInt8) (w : World) (hb : w.heap[b]? = some (.cells #[p, .slice (some ⟨g, 0, none⟩) l.length cap] T (0, 0))) (hg : w.heap[g]? = some (.cells cur 5 (0, 0)))
    (hcell : ∀ (j : Nat) (x : UInt8), l[j]? = some x → cur[j]? = some (.int .u8 x.toNat)) (h0 : l ≠ []) (hle : l.length ≤ cap) (hcur : cur.size = cap) (h63 : cap ≤ maxLen) :
    Calls Tryz.prog 51 #[.pointer (some ⟨b, 0, none⟩)] w fun e w' => e = .returned (.string ⟨l.toArray⟩) ∧ w' = w.drew.freeze ⟨g, 0, none⟩ l.length := by
  have hl0 : 0 < l.length := List.length_pos_iff.2 h0
  have c1 : w.drew.cell? ⟨b, 1, none⟩ = some (.slice (some ⟨g, 0, none⟩) l.length cap) := by
    have : w.drew.heap[b]? = some (.cells #[p, .slice (some ⟨g, 0, none⟩) l.length cap] T (0, 0)) := hb
    rw [Lib.cell_of_heap this]; rfl
  have hSD : (Builtin.unsafeSliceData_ #[90] 168 #[.slice (some ⟨g, 0, none⟩) l.length cap]).run Tryz.prog w.drew = .ok (.pointer (some ⟨g, 0, none⟩)) w.drew :=
    Lib.run_unsafeSliceData_row _ _ _ _ _ _ (by omega)
  have hg' : w.drew.heap[g]? = some (.cells cur 5 (0, 0)) := hg
  have hUS : (Builtin.unsafeString_ #[168, 3] 9 #[.pointer (some ⟨g, 0, none⟩), .int .i64 l.length]).run Tryz.prog w.drew = .ok (.string ⟨l.toArray⟩) (w.drew.freeze ⟨g, 0, none⟩ l.length) := by
    refine Lib.run_unsafeString_row w.drew 168 3 9 5 Tryz.underlying168 (by kernel_rfl) g cur.size (by simp [World.shape?, hg']) l h0 (by omega) (by unfold maxLen at h63; omega) ?_
    intro j x hx
    have : ((⟨g, 0, none⟩ : Addr).add j) = ⟨g, j, none⟩ := by unfold Addr.add; split <;> simp_all
    rw [this, Lib.cell_of_heap hg']
    exact hcell j x hx
  have mixed := Tryz.mixed
  go_enter Tryz.func51, Tryz.ntmps51
  go_wp2
  go_region_o
  all_goals (go_wp2; go_ret; exact ⟨rfl, rfl⟩)
set_option maxHeartbeats 2000000 in
set_option maxRecDepth 100000 in
theorem string_fresh (b : Nat) (p : Value) (T : TypeId) (w : World) (hb : w.heap[b]? = some (.cells #[p, .slice none 0 0] T (0, 0))) :
    Calls Tryz.prog 51 #[.pointer (some ⟨b, 0, none⟩)] w fun e w' => e = .returned (.string ⟨#[]⟩) ∧ w' = w.drew := by
  have c1 : w.drew.cell? ⟨b, 1, none⟩ = some (.slice none 0 0) := by
    have : w.drew.heap[b]? = some (.cells #[p, .slice none 0 0] T (0, 0)) := hb
    rw [Lib.cell_of_heap this]; rfl
  have hSD : (Builtin.unsafeSliceData_ #[90] 168 #[.slice none 0 0]).run Tryz.prog w.drew = .ok (.pointer none) w.drew := rfl
  have hUS : ∀ W, (Builtin.unsafeString_ #[168, 3] 9 #[.pointer none, .int .i64 0]).run Tryz.prog W = .ok (.string .empty) W := fun W => Lib.run_unsafeString_none W _ _ _ none
  have mixed := Tryz.mixed
  go_enter Tryz.func51, Tryz.ntmps51
  go_wp2
  go_region_o
  all_goals (go_wp2; go_ret; exact ⟨rfl, rfl⟩)
theorem two_cells {ms : Array Value} {x y : Value} (h : ms.size = 2) (h0 : ms[0]? = some x) (h1 : ms[1]? = some y) : ms = #[x, y] := by
  apply Array.ext (by simpa using h)
  intro i i1 i2
  match i, i2 with
  | 0, _ => exact Option.some.inj ((Array.getElem?_eq_getElem i1).symm.trans h0)
  | 1, _ => exact Option.some.inj ((Array.getElem?_eq_getElem i1).symm.trans h1)
theorem stringFresh_ctr (g : GP) (T : TypeId) : Ctr (ax g).E 51 [.ptr 9000 0] [(9000, some (.tvar T zB))] (fun o => o = .ret (.str ⟨#[]⟩) []) := by
  refine ⟨⟨_, Tryz.func51, rfl, by decide +kernel⟩, fun w Im ρ vs hG hIm hgl hsz hra hrel => ?_⟩
  obtain ⟨l, hl, hro, hown⟩ := hrel.obj 9000 (.tvar T zB) rfl
  obtain ⟨v, hv, hr⟩ := ra_arg0 hsz hra (i := 0) rfl
  obtain ⟨h1, h2, b, ms, h3, h4, h5, h6⟩ := hro
  have hvp : v = .pointer (some ⟨b, 0, none⟩) := by
    cases hr with
    | ptr _ _ _ _ hp =>
      obtain ⟨_, b', q1, q2⟩ := hp l hl
      rw [h3] at q1; injection q1 with q1; subst q1; exact q2
  have hvs : vs = #[.pointer (some ⟨b, 0, none⟩)] := by
    apply Array.ext (by simpa using hsz)
    intro i i1 i2
    simp at i2; subst i2
    rw [Array.getElem?_eq_getElem i1] at hv
    injection hv with hv; rw [hv, hvp]; rfl
  have h5 : ms.size = 2 := h5
  have hm0 : ms[0]? = some (.pointer none) := by
    have h0 : 0 < ms.size := by omega
    have := (h6 0 ms[0] _ (Array.getElem?_eq_getElem h0) rfl).bool
    rw [Array.getElem?_eq_getElem h0, this]
  have hm1 : ms[1]? = some (.slice none 0 0) := by
    have h0 : 1 < ms.size := by omega
    have := (h6 1 ms[1] _ (Array.getElem?_eq_getElem h0) rfl).bool
    rw [Array.getElem?_eq_getElem h0, this]
  rw [hvs]
  refine (string_fresh b _ T w (by rw [← two_cells h5 hm0 hm1]; exact h4)).mono fun e w' ⟨he, hw⟩ => ?_
  subst he; subst hw
  exact ⟨_, [], Im, fun _ => none, rfl, RA.intv _ rfl, fun r hr => by simp [AV.ment] at hr, ⟨Grows.drew w _, fun b hb => hb, fun b hb => ⟨hIm b hb, .inl hb⟩, ⟨fun r o hr => by simp [lkH] at hr, fun r r' o o' l l' hr => by simp [lkH] at hr⟩, fun r o hr l' hl' => by simp at hl', fun r o hr => by simp [lkH] at hr⟩⟩
theorem stringUsed_ctr (g : GP) (bs : ByteArray) (hne : bs.size ≠ 0) : Ctr (ax g).E 51 [.ptr 9000 0] [(9000, some (bvar bs.size)), (9001, some (bbuf bs))] (fun o => o = .ret (.str bs) []) := by
  refine ⟨⟨_, Tryz.func51, rfl, by decide +kernel⟩, fun w Im ρ vs hG hIm hgl hsz hra hrel => ?_⟩
  obtain ⟨l, hl, hro, hown⟩ := hrel.obj 9000 (bvar bs.size) rfl
  obtain ⟨l2, hl2, hro2, hown2⟩ := hrel.obj 9001 (bbuf bs) rfl
  obtain ⟨v, hv, hr⟩ := ra_arg0 hsz hra (i := 0) rfl
  obtain ⟨h1, h2, b, ms, T, h3, h4, h5, h6⟩ := hro
  have hvp : v = .pointer (some ⟨b, 0, none⟩) := by
    cases hr with
    | ptr _ _ _ _ hp =>
      obtain ⟨_, b', q1, q2⟩ := hp l hl
      rw [h3] at q1; injection q1 with q1; subst q1; exact q2
  have hvs : vs = #[.pointer (some ⟨b, 0, none⟩)] := by
    apply Array.ext (by simpa using hsz)
    intro i i1 i2
    simp at i2; subst i2
    rw [Array.getElem?_eq_getElem i1] at hv
    injection hv with hv; rw [hv, hvp]; rfl
  have h5 : ms.size = 2 := h5
  have hlen : l2.len = (bsRow bs).length := hro2.2.2.2.1
  have hsub := hro2.sub_eq
  rcases hro2.2.2.2.2.2 with ⟨_, q2, _⟩ | ⟨q, cur, q1, q2, q3, q4, q5, q6⟩
  · exact absurd (by rw [← bsRow_len, q2]; rfl) hne
  · obtain ⟨u, hu⟩ : ∃ u, ms[1]? = some u := ⟨_, Array.getElem?_eq_getElem (by omega)⟩
    obtain ⟨p, hp0⟩ : ∃ p, ms[0]? = some p := ⟨_, Array.getElem?_eq_getElem (by omega)⟩
    have hm1 : u = .slice (some ⟨q, 0, none⟩) bs.size l2.cap := by
      obtain ⟨r1, _⟩ := h6 1 u hu _ rfl
      cases r1 with
      | msl _ _ _ _ _ _ hp =>
        have := (hp l2 hl2).2 (by rw [hlen, bsRow_len])
        rw [bsRow_len] at hsub
        rw [this, hsub]; simp [Loc.addr, q1]
    have hlb : bs.data.toList.length = bs.size := by rw [Array.length_toList]; rfl
    have hb : w.heap[b]? = some (.cells #[p, .slice (some ⟨q, 0, none⟩) bs.data.toList.length l2.cap] T (0, 0)) := by
      rw [hlb, ← hm1, ← two_cells h5 hp0 hu]; exact h4
    rw [bsRow_len] at q3
    have hcell : ∀ (j : Nat) (x : UInt8), bs.data.toList[j]? = some x → cur[j]? = some (.int .u8 x.toNat) := fun j x hx => by
      obtain ⟨u, k1, k2⟩ := q6 j 0 [.v (.int .u8 x.toNat)] (.v (.int .u8 x.toNat)) (by simp only [bsRow, List.getElem?_map, hx]; rfl) rfl
      rw [Nat.mul_one, Nat.add_zero] at k1
      rw [k1, k2.bool]
    rw [hvs]
    refine (string_used b q l2.cap p cur T bs.data.toList w hb q2 hcell (fun e => hne (by rw [← hlb, e]; rfl)) (by rw [hlb]; exact q3) (by rw [q5, Nat.mul_one]) q4).mono fun e w' ⟨he, hw⟩ => ?_
    subst he; subst hw
    have hbs : (⟨bs.data.toList.toArray⟩ : ByteArray) = bs := by simp
    rw [hbs]
    have hT : TIn ρ [(9000, some (bvar bs.size)), (9001, some (bbuf bs))] q := ⟨9001, _, l2, rfl, hl2, by simp [Loc.fp, q1]⟩
    have hgr : Grows w (w.drew.freeze ⟨q, 0, none⟩ bs.data.toList.length) (TIn ρ [(9000, some (bvar bs.size)), (9001, some (bbuf bs))]) := by
      unfold World.freeze
      split
      · exact Grows.drew w _
      · refine ⟨by simp, rfl, rfl, rfl, fun k hk hn => ?_⟩
        simp only [Array.getElem?_modify]
        rw [if_neg (fun h => hn (by have h : q = k := h; rw [← h]; exact hT))]; rfl
    exact ⟨_, [], Im, fun _ => none, rfl, RA.intv _ rfl, fun r hr => by simp [AV.ment] at hr, ⟨hgr, fun b hb => hb, fun b hb => ⟨Nat.lt_of_lt_of_le (hIm b hb) hgr.size, .inl hb⟩, ⟨fun r o hr => by simp [lkH] at hr, fun r r' o o' l l' hr => by simp [lkH] at hr⟩, fun r o hr l' hl' => by simp at hl', fun r o hr => by simp [lkH] at hr⟩⟩
end Go.Ax

namespace Go.Ax
open Go.Proofs Go.RowKit Go.Shelf
set_option maxRecDepth 10000
theorem bbuf_any {h : Nat → Option Obj} {Im Im' : Nat → Prop} {ρ ρ' : Nat → Option Loc} {lb : Loc} {bs : ByteArray} (H : RO h Im ρ lb (bbuf bs)) : RO h Im' ρ' lb (bbuf bs) := by
  obtain ⟨h0, h1, h2, h3, h4, h5⟩ := H
  refine ⟨h0, h1, h2, h3, h4, ?_⟩
  rcases h5 with h5 | ⟨b, ms, g1, g2, g3, g4, g5, g6⟩
  · exact .inl h5
  · refine .inr ⟨b, ms, g1, g2, g3, g4, g5, fun i j el x e1 e2 => ?_⟩
    obtain ⟨v, k1, k2⟩ := g6 i j el x e1 e2
    refine ⟨v, k1, ?_⟩
    simp only [bsRow, List.getElem?_map, Option.map_eq_some_iff] at e1
    obtain ⟨y, _, rfl⟩ := e1
    match j, e2 with
    | 0, e2 => injection e2 with e2; subst e2; rw [k2.bool]; exact .v _ rfl
    | n + 1, e2 => simp at e2
def Bld (bs : ByteArray) (l : Loc) (h : Nat → Option Obj) : Prop :=
  ∃ b T ms, l.blk = some b ∧ h b = some (.cells ms T (0, 0)) ∧ ms.size = 2 ∧
    ((bs.size = 0 ∧ BldT T ∧ l.more = [] ∧ ms[0]? = some (.pointer none) ∧ ms[1]? = some (.slice none 0 0)) ∨
     (bs.size ≠ 0 ∧ ms[0]? = some (.pointer (some ⟨b, 0, none⟩)) ∧ ∃ lb : Loc, l.more = lb.fp ∧ b ∉ lb.fp ∧ ms[1]? = some (lb.sub 0 bs.size) ∧ RO h (fun _ => False) (fun _ => none) lb (bbuf bs)))
theorem Bld.keep {bs : ByteArray} {l : Loc} (h h' : Nat → Option Obj) (hh : ∀ b ∈ l.fp, h' b = h b) (H : Bld bs l h) : Bld bs l h' := by
  obtain ⟨b, T, ms, h1, h2, h3, h4⟩ := H
  refine ⟨b, T, ms, h1, by rw [hh b (by simp [Loc.fp, h1])]; exact h2, h3, ?_⟩
  rcases h4 with h4 | ⟨h4, h5, lb, h6, h7, h8, h9⟩
  · exact .inl h4
  · exact .inr ⟨h4, h5, lb, h6, h7, h8, RO.mono (fun _ h => h) (fun _ h => h.elim) (fun k hk => hh k (List.mem_append.2 (.inr (by rw [h6]; exact hk)))) (fun r hr => by simp [AObj.ment] at hr) h9⟩
abbrev bldO (bs : ByteArray) : AObj := .ext (Bld bs)
theorem open_bld {w : World} {Im : Nat → Prop} {ρ : Nat → Option Loc} {A : Nat → Prop} {bs : ByteArray} (H : HRel w Im ρ [(9000, some (bldO bs))] A) :
    (bs.size = 0 ∧ ∃ T, BldT T ∧ HRel w Im ρ [(9000, some (.tvar T zB))] A) ∨
    (bs.size ≠ 0 ∧ ∃ l lb, ρ 9000 = some l ∧ l.isBuf = false ∧ l.more = lb.fp ∧ HRel w Im (upd (upd ρ 9000 (some { l with more := [] })) 9001 (some lb)) [(9000, some (bvar bs.size)), (9001, some (bbuf bs))] A) := by
  obtain ⟨l, hl, hro, hf⟩ := H.obj 9000 (bldO bs) rfl
  obtain ⟨h1, -, -, b, T, ms, q1, q2, q3, q4⟩ := hro
  rcases q4 with ⟨q4, q5, q6, q7, q8⟩ | ⟨q4, q5, lb, q6, q7, q8, q9⟩
  · refine .inl ⟨q4, T, q5, fun r o hr => ?_, fun r r' o o' l l' hr hr' hne => ?_⟩
    · obtain ⟨rfl, rfl⟩ := lkH_one hr
      refine ⟨l, hl, ⟨h1, q6, b, ms, q1, q2, q3, fun i v x e1 e2 => ?_⟩, hf⟩
      match i, e2 with
      | 0, e2 => injection e2 with e2; subst e2; rw [q7] at e1; injection e1 with e1; subst e1; exact .v _ rfl
      | 1, e2 => injection e2 with e2; subst e2; rw [q8] at e1; injection e1 with e1; subst e1; exact .v _ rfl
      | n + 2, e2 => simp [zB] at e2
    · exact absurd ((lkH_one hr).1.trans (lkH_one hr').1.symm) hne
  · refine .inr ⟨q4, l, lb, hl, h1, q6, ?_⟩
    have e1 : upd (upd ρ 9000 (some { l with more := [] })) 9001 (some lb) 9000 = some { l with more := [] } := by rw [upd_ne _ _ (by decide), upd_same]
    have e2 : upd (upd ρ 9000 (some { l with more := [] })) 9001 (some lb) 9001 = some lb := upd_same ..
    have hfp : ∀ k, k ∈ Loc.fp { l with more := [] } → k = b := fun k hk => by simpa [Loc.fp, q1] using hk
    refine ⟨fun r o hr => ?_, fun r r' o o' l1 l2 p1 p2 hne p3 p4 k hk hk' => ?_⟩
    · rcases lkH_two hr with ⟨rfl, rfl⟩ | ⟨rfl, rfl⟩
      · refine ⟨_, e1, ⟨h1, rfl, b, ms, T, q1, q2, q3, fun i u hu x hx => ?_⟩, fun k hk => hf k ?_⟩
        · match i, hx with
          | 0, hx =>
            injection hx with hx; subst hx
            rw [q5] at hu; injection hu with hu; subst hu
            exact ⟨.ptr _ _ _ rfl fun l' hl' => by rw [e1] at hl'; injection hl' with hl'; subst hl'; exact ⟨h1, b, q1, rfl⟩, rfl⟩
          | 1, hx =>
            injection hx with hx; subst hx
            rw [q8] at hu; injection hu with hu; subst hu
            have hlen : lb.len = bs.size := by rw [q9.2.2.2.1, bsRow_len]
            have hone : (lb.sub 0 bs.size).oneCell' = true := by
              unfold Loc.sub; split <;> rfl
            exact ⟨.msl _ _ _ _ _ hone fun l' hl' => by rw [e2] at hl'; injection hl' with hl'; subst hl'; exact ⟨by omega, fun _ => rfl⟩, hone⟩
          | n + 2, hx => simp at hx
        · rw [hfp k hk]; simp [Loc.fp, q1]
      · exact ⟨_, e2, bbuf_any q9, fun k hk => hf k (List.mem_append.2 (.inr (by rw [q6]; exact hk)))⟩
    · rcases lkH_two p1 with ⟨rfl, rfl⟩ | ⟨rfl, rfl⟩
      · rcases lkH_two p2 with ⟨rfl, rfl⟩ | ⟨rfl, rfl⟩
        · exact hne rfl
        · rw [e1] at p3; injection p3 with p3; subst p3
          rw [e2] at p4; injection p4 with p4; subst p4
          rw [hfp k hk] at hk'; exact q7 hk'
      · rcases lkH_two p2 with ⟨rfl, rfl⟩ | ⟨rfl, rfl⟩
        · rw [e2] at p3; injection p3 with p3; subst p3
          rw [e1] at p4; injection p4 with p4; subst p4
          rw [hfp k hk'] at hk; exact q7 hk
        · exact hne rfl
theorem tin_bld {ρ : Nat → Option Loc} {bs : ByteArray} {l lb : Loc} (hl : ρ 9000 = some l) (hm : l.more = lb.fp) {k : Nat} (H : TIn (upd (upd ρ 9000 (some { l with more := [] })) 9001 (some lb)) [(9000, some (bvar bs.size)), (9001, some (bbuf bs))] k) : TIn ρ [(9000, some (bldO bs))] k := by
  have e1 : upd (upd ρ 9000 (some { l with more := [] })) 9001 (some lb) 9000 = some { l with more := [] } := by rw [upd_ne _ _ (by decide), upd_same]
  have e2 : upd (upd ρ 9000 (some { l with more := [] })) 9001 (some lb) 9001 = some lb := upd_same ..
  obtain ⟨r, o, l', hr, h1, h2⟩ := H
  refine ⟨9000, bldO bs, l, rfl, hl, ?_⟩
  rcases lkH_two hr with ⟨rfl, rfl⟩ | ⟨rfl, rfl⟩
  · rw [e1] at h1; injection h1 with h1; subst h1
    simp only [Loc.fp, List.append_nil] at h2
    simp only [Loc.fp, List.mem_append]; exact .inl h2
  · rw [e2] at h1; injection h1 with h1; subst h1
    simp only [Loc.fp, List.mem_append]; rw [hm]; exact .inr h2
theorem close_bld {w w' : World} {Im Im' : Nat → Prop} {ρ ρ0 ρ' : Nat → Option Loc} {hin hin0 : HL} {bs2 : ByteArray} (hne : bs2.size ≠ 0) (hT : ∀ k, TIn ρ0 hin0 k → TIn ρ hin k)
    (hst : ∀ l', ρ0 9000 = some l' → ∃ l, ρ 9000 = some l ∧ l.isBuf = false ∧ ∃ m, l' = { l with more := m }) (h9 : ∃ o, lkH 9000 hin0 = some o) (hone : ∀ r o, lkH r hin = some o → r = 9000)
    (H : After w Im ρ0 hin0 w' Im' ρ' [(9000, some (bvar bs2.size)), (9001, some (bbuf bs2))]) : ∃ ρ3, After w Im ρ hin w' Im' ρ3 [(9000, some (bldO bs2))] := by
  obtain ⟨l2, hl2, hro2, hf2⟩ := H.rel.obj 9000 (bvar bs2.size) rfl
  obtain ⟨lb, hlb, hrob, hfb⟩ := H.rel.obj 9001 (bbuf bs2) rfl
  obtain ⟨o9, h9⟩ := h9
  obtain ⟨l0, q1, q2⟩ := H.anc 9000 o9 h9 l2 hl2
  obtain ⟨l, q3, q4, m, q5⟩ := hst l0 q1
  obtain ⟨r1, r2, b, ms, T, r3, r4, r5, r6⟩ := hro2
  have hms : ms.size = 2 := r5
  have hmore : ∃ m, ({ l2 with more := lb.fp } : Loc) = { l with more := m } := by
    subst q5
    rcases q2 with rfl | ⟨q2, _⟩ | ⟨_, m', rfl⟩
    · exact ⟨_, rfl⟩
    · rw [show Loc.isBuf { l with more := m } = l.isBuf from rfl, q4] at q2; exact absurd q2 (by simp)
    · exact ⟨_, rfl⟩
  have hm0 : ms[0]? = some (.pointer (some ⟨b, 0, none⟩)) := by
    obtain ⟨u, hu⟩ : ∃ u, ms[0]? = some u := ⟨_, Array.getElem?_eq_getElem (by omega)⟩
    obtain ⟨k1, _⟩ := r6 0 u hu (.ptr 9000 0) rfl
    rw [hu]
    cases k1 with
    | ptr _ _ _ _ hp =>
      obtain ⟨_, b', p1, p2⟩ := hp l2 hl2
      rw [r3] at p1; injection p1 with p1; subst p1; rw [p2]
  have hm1 : ms[1]? = some (lb.sub 0 bs2.size) := by
    obtain ⟨u, hu⟩ : ∃ u, ms[1]? = some u := ⟨_, Array.getElem?_eq_getElem (by omega)⟩
    obtain ⟨k1, _⟩ := r6 1 u hu (.msl 9001 bs2.size 0 bs2.size) rfl
    rw [hu]
    cases k1 with
    | msl _ _ _ _ _ _ hp =>
      obtain ⟨_, p2⟩ := hp lb hlb
      rw [p2 (by rw [hrob.2.2.2.1, bsRow_len])]
  have hbn : b ∉ lb.fp := H.rel.dis 9000 9001 _ _ l2 lb rfl rfl (by decide) hl2 hlb b (by simp [Loc.fp, r3])
  have hfp : ∀ k, k ∈ Loc.fp { l2 with more := lb.fp } → k ∈ l2.fp ∨ k ∈ lb.fp := fun k hk => by
    simp only [Loc.fp, List.mem_append] at hk ⊢
    rcases hk with hk | hk
    · exact .inl (.inl hk)
    · exact .inr hk
  have e1 : upd (fun _ => none) 9000 (some ({ l2 with more := lb.fp } : Loc)) 9000 = some { l2 with more := lb.fp } := upd_same ..
  refine ⟨upd (fun _ => none) 9000 (some { l2 with more := lb.fp }), ⟨⟨H.grows.size, H.grows.os, H.grows.tape, H.grows.output, fun k hk hn => H.grows.block k hk fun h => hn (hT k h)⟩, H.im, fun k hk => ?_, ⟨fun r o hr => ?_, fun r r' o o' l1 l3 p1 p2 hn => ?_⟩, fun r o hr l' hl' => ?_, fun r o hr q hq => ?_⟩⟩
  · obtain ⟨p1, p2⟩ := H.imn k hk
    exact ⟨p1, p2.imp id fun h => h.imp id (hT k)⟩
  · obtain ⟨rfl, rfl⟩ := lkH_one hr
    refine ⟨_, e1, ⟨r1, ⟨b, r3⟩, Bld.keep, b, T, ms, r3, r4, hms, .inr ⟨hne, hm0, lb, rfl, hbn, hm1, bbuf_any hrob⟩⟩, fun k hk => ?_⟩
    rcases hfp k hk with h | h
    · obtain ⟨p1, p2, p3⟩ := hf2 k h
      exact ⟨p1, p2, p3.imp id (hT k)⟩
    · obtain ⟨p1, p2, p3⟩ := hfb k h
      exact ⟨p1, p2, p3.imp id (hT k)⟩
  · exact absurd ((lkH_one p1).1.trans (lkH_one p2).1.symm) hn
  · have := hone r o hr
    subst this
    rw [e1] at hl'; injection hl' with hl'; subst hl'
    obtain ⟨m', hm'⟩ := hmore
    exact ⟨l, q3, .inr (.inr ⟨q4, m', hm'⟩)⟩
  · obtain ⟨rfl, rfl⟩ := lkH_one hr
    simp [AObj.ment] at hq
theorem ra_nom {h : Nat → Option Obj} {Im : Nat → Prop} {ρ ρ' : Nat → Option Loc} {v : Value} {x : AV} (H : RA h Im ρ v x) (hx : ∀ r, x.ment r = false) : RA h Im ρ' v x :=
  H.mono (fun _ h => h) (fun _ _ => rfl) fun r hr => by rw [hx r] at hr; exact absurd hr (by simp)
theorem Ctr.bld {E : Env} {f : FuncId} {args : List AV} {res : AV} {bs bs2 : ByteArray} (hne : bs2.size ≠ 0) (hargs : ∀ x ∈ args, ∀ r, x.ment r = true → r = 9000) (hres : ∀ r, res.ment r = false)
    (hb : bs.size = 0 → ∀ T, BldT T → Ctr E f args [(9000, Option.some (.tvar T zB))] fun o => o = .ret res [(9000, Option.some (bvar bs2.size)), (9001, Option.some (bbuf bs2))])
    (hu : Ctr E f args [(9000, Option.some (bvar bs.size)), (9001, Option.some (bbuf bs))] fun o => o = .ret res [(9000, Option.some (bvar bs2.size)), (9001, Option.some (bbuf bs2))]) :
    Ctr E f args [(9000, Option.some (bldO bs))] fun o => o = .ret res [(9000, Option.some (bldO bs2))] := by
  refine ⟨hu.1, fun w Im ρ vs hG hIm hgl hsz hra hrel => ?_⟩
  obtain ⟨l9, hl9, hro9, -⟩ := hrel.obj 9000 (bldO bs) rfl
  have hone : ∀ r o, lkH r [(9000, Option.some (bldO bs))] = Option.some o → r = 9000 := fun r o hr => (lkH_one hr).1
  rcases open_bld hrel with ⟨h0, T, hT, hr2⟩ | ⟨h0, l, lb, hl, hbuf, hm, hr2⟩
  · refine ((hb h0 T hT).2 w Im ρ vs hG hIm hgl hsz hra hr2).mono fun e w' he => ?_
    cases e with
    | returned v =>
      obtain ⟨res', ho, Im', ρ', h1, h2, h3, A⟩ := he
      injection h1 with e1 e2; subst e1; subst e2
      obtain ⟨ρ3, A3⟩ := close_bld (ρ := ρ) (hin := [(9000, Option.some (bldO bs))]) hne (fun k hk => by
        obtain ⟨r, o, l', hr, q1, q2⟩ := hk
        obtain ⟨rfl, rfl⟩ := lkH_one hr
        exact ⟨_, _, l', rfl, q1, q2⟩) (fun l' hl' => by
        rw [hl9] at hl'; injection hl' with hl'; subst hl'
        exact ⟨_, hl9, hro9.1, l9.more, rfl⟩) ⟨_, rfl⟩ hone A
      exact ⟨_, _, Im', ρ3, rfl, ra_nom h2 hres, fun r hr => (by rw [hres r] at hr; exact absurd hr (by simp)), A3⟩
    | panicked ch => obtain ⟨ho, Im', ρ', h1, h4⟩ := he; exact absurd h1 (by simp)
    | outgrown => exact he
  · have e1 : upd (upd ρ 9000 (Option.some { l with more := [] })) 9001 (Option.some lb) 9000 = Option.some { l with more := [] } := by rw [upd_ne _ _ (by decide), upd_same]
    refine (hu.2 w Im _ vs hG hIm hgl hsz (fun i v x hv hx => (hra i v x hv hx).mono (fun _ h => h) (fun _ _ => rfl) fun r hr l' hl' => ?_) hr2).mono fun e w' he => ?_
    · have := hargs x (List.mem_of_getElem? hx) r hr
      subst this
      rw [e1] at hl'; injection hl' with hl'; subst hl'
      exact ⟨l, hl, .inr (.inr ⟨hbuf, [], rfl⟩)⟩
    · cases e with
      | returned v =>
        obtain ⟨res', ho, Im', ρ', h1, h2, h3, A⟩ := he
        injection h1 with q1 q2; subst q1; subst q2
        obtain ⟨ρ3, A3⟩ := close_bld (ρ := ρ) (hin := [(9000, Option.some (bldO bs))]) hne (fun k hk => tin_bld hl hm hk) (fun l' hl' => by
          rw [e1] at hl'; injection hl' with hl'; subst hl'
          exact ⟨l, hl, hbuf, [], rfl⟩) ⟨_, rfl⟩ hone A
        exact ⟨_, _, Im', ρ3, rfl, ra_nom h2 hres, fun r hr => (by rw [hres r] at hr; exact absurd hr (by simp)), A3⟩
      | panicked ch => obtain ⟨ho, Im', ρ', h1, h4⟩ := he; exact absurd h1 (by simp)
      | outgrown => exact he
theorem Ctr.bldEnd {E : Env} {f : FuncId} {args : List AV} {res : AV} {bs : ByteArray} (hargs : ∀ x ∈ args, ∀ r, x.ment r = true → r = 9000) (hres : ∀ r, res.ment r = false)
    (hbod : Bodied E.P f) (hb : bs.size = 0 → ∀ T, BldT T → Ctr E f args [(9000, Option.some (.tvar T zB))] fun o => o = .ret res [])
    (hu : bs.size ≠ 0 → Ctr E f args [(9000, Option.some (bvar bs.size)), (9001, Option.some (bbuf bs))] fun o => o = .ret res []) :
    Ctr E f args [(9000, Option.some (bldO bs))] fun o => o = .ret res [] := by
  refine ⟨hbod, fun w Im ρ vs hG hIm hgl hsz hra hrel => ?_⟩
  have fin : ∀ {ρ0 ρ' : Nat → Option Loc} {hin0 : HL} {w' : World} {Im' : Nat → Prop}, (∀ k, TIn ρ0 hin0 k → TIn ρ [(9000, Option.some (bldO bs))] k) → After w Im ρ0 hin0 w' Im' ρ' [] → After w Im ρ [(9000, Option.some (bldO bs))] w' Im' (fun _ => Option.none) [] := fun {ρ0 ρ' hin0 w' Im'} hT H =>
    ⟨⟨H.grows.size, H.grows.os, H.grows.tape, H.grows.output, fun k hk hn => H.grows.block k hk fun h => hn (hT k h)⟩, H.im, fun k hk => by
      obtain ⟨p1, p2⟩ := H.imn k hk
      exact ⟨p1, p2.imp id fun h => h.imp id (hT k)⟩, ⟨fun r o hr => by simp [lkH] at hr, fun r r' o o' l1 l3 p1 => by simp [lkH] at p1⟩, fun r o hr l' hl' => by simp at hl', fun r o hr => by simp [lkH] at hr⟩
  rcases open_bld hrel with ⟨h0, T, hT, hr2⟩ | ⟨h0, l, lb, hl, hbuf, hm, hr2⟩
  · refine ((hb h0 T hT).2 w Im ρ vs hG hIm hgl hsz hra hr2).mono fun e w' he => ?_
    cases e with
    | returned v =>
      obtain ⟨res', ho, Im', ρ', h1, h2, h3, A⟩ := he
      injection h1 with e1 e2; subst e1; subst e2
      exact ⟨_, _, Im', _, rfl, ra_nom h2 hres, fun r hr => (by rw [hres r] at hr; exact absurd hr (by simp)), fin (fun k hk => by
        obtain ⟨r, o, l', hr, q1, q2⟩ := hk
        obtain ⟨rfl, rfl⟩ := lkH_one hr
        exact ⟨_, _, l', rfl, q1, q2⟩) A⟩
    | panicked ch => obtain ⟨ho, Im', ρ', h1, h4⟩ := he; exact absurd h1 (by simp)
    | outgrown => exact he
  · have e1 : upd (upd ρ 9000 (Option.some { l with more := [] })) 9001 (Option.some lb) 9000 = Option.some { l with more := [] } := by rw [upd_ne _ _ (by decide), upd_same]
    refine ((hu h0).2 w Im _ vs hG hIm hgl hsz (fun i v x hv hx => (hra i v x hv hx).mono (fun _ h => h) (fun _ _ => rfl) fun r hr l' hl' => ?_) hr2).mono fun e w' he => ?_
    · have := hargs x (List.mem_of_getElem? hx) r hr
      subst this
      rw [e1] at hl'; injection hl' with hl'; subst hl'
      exact ⟨l, hl, .inr (.inr ⟨hbuf, [], rfl⟩)⟩
    · cases e with
      | returned v =>
        obtain ⟨res', ho, Im', ρ', h1, h2, h3, A⟩ := he
        injection h1 with q1 q2; subst q1; subst q2
        exact ⟨_, _, Im', _, rfl, ra_nom h2 hres, fun r hr => (by rw [hres r] at hr; exact absurd hr (by simp)), fin (fun k hk => tin_bld hl hm hk) A⟩
      | panicked ch => obtain ⟨ho, Im', ρ', h1, h4⟩ := he; exact absurd h1 (by simp)
      | outgrown => exact he
theorem write_ctr (g : GP) (bs s : ByteArray) (hs : bs.size + s.size ≤ 140737488355328) (h0 : s.size ≠ 0) : Ctr (ax g).E 47 [.ptr 9000 0, .str s] [(9000, some (bldO bs))] (fun o => o = .ret (.tup [.i64 s.size, .d (.v .nilIface)]) [(9000, some (bldO (bs ++ s)))]) :=
  Ctr.bld (by rw [ByteArray.size_append]; omega) (fun x hx r hr => by
    simp at hx
    rcases hx with rfl | rfl
    · exact (Nat.eq_of_beq_eq_true hr).symm
    · exact absurd hr (by simp [AV.ment])) (fun r => rfl) (fun hz T hT => by
    have e : bs ++ s = s := by
      apply ByteArray.ext; rw [ByteArray.data_append]
      have : bs.data = #[] := Array.eq_empty_of_size_eq_zero hz
      rw [this]; simp
    rw [e]; exact writeFresh_ctr g T hT s (by omega)) (writeUsed_ctr g bs s hs)
theorem byte_ctr (g : GP) (bs : ByteArray) (b : UInt8) (hs : bs.size + 1 ≤ 140737488355328) : Ctr (ax g).E 74 [.ptr 9000 0, .d (.v (.int .u8 b.toNat))] [(9000, some (bldO bs))] (fun o => o = .ret (.d (.v .nilIface)) [(9000, some (bldO (bs ++ oneB b)))]) :=
  Ctr.bld (by rw [ByteArray.size_append]; show bs.size + 1 ≠ 0; omega) (fun x hx r hr => by
    simp at hx
    rcases hx with rfl | rfl
    · exact (Nat.eq_of_beq_eq_true hr).symm
    · exact absurd hr (by simp [AV.ment])) (fun r => rfl) (fun hz T hT => by
    have e : bs ++ oneB b = oneB b := by
      apply ByteArray.ext; rw [ByteArray.data_append]
      have : bs.data = #[] := Array.eq_empty_of_size_eq_zero hz
      rw [this]; simp
    rw [e]; exact byteFresh_ctr g T hT b) (byteUsed_ctr g bs b hs)
theorem bstring_ctr (g : GP) (bs : ByteArray) : Ctr (ax g).E 51 [.ptr 9000 0] [(9000, some (bldO bs))] (fun o => o = .ret (.str bs) []) :=
  Ctr.bldEnd (fun x hx r hr => by simp at hx; subst hx; exact (Nat.eq_of_beq_eq_true hr).symm) (fun r => rfl) ⟨_, Tryz.func51, rfl, by decide +kernel⟩ (fun hz T hT => by
    have : bs = ⟨#[]⟩ := by
      apply ByteArray.ext; exact Array.eq_empty_of_size_eq_zero hz
    rw [this]; exact stringFresh_ctr g T) (fun hne => stringUsed_ctr g bs hne)
end Go.Ax
