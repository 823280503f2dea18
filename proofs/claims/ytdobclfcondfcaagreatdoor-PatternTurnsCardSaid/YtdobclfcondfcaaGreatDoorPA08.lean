/- What the card of this claim stands on, or the card itself: for every input, as the given row says. -/
import Derived.Below
import Derived.Shelf.Strings.Builder1
import Derived.Shelf.Strings.Builder2
import Derived.Shelf.Strings.OnBuilder
import Derived.Shelf.Small.Utf8
import Derived.Shelf.Small.Bits
import Derived.Shelf.Small.Strs
import Derived.Shelf.Small.Wraps
import Derived.Shelf.Strings.BuilderF
import Derived.Shelf.Strings.BuilderK
import Derived.Shelf.Utf8.RuneCount
import Derived.Shelf.Strconv.Atoi
import Derived.Shelf.Strconv.Itoa0
import Derived.Shelf.Strconv.Itoa1
import Derived.Shelf.LaysM
import Derived.Shelf.Strconv.Itoa2
import Derived.Shelf.Strconv.Itoa3
import Derived.Shelf.Strconv.AtoiErrFast
import Derived.Shelf.Strconv.ParseIntEmpty
import Derived.Shelf.Strconv.AtoiFail
import Derived.Shelf.Strconv.Clone
import Derived.Shelf.Strconv.SyntaxError
import Derived.Shelf.LaysC
import Derived.Shelf.Strconv.ToError
import Derived.Shelf.Strconv.Lower
import Derived.Shelf.Strconv.ParseUint10
import Derived.Shelf.Strconv.ParseUint10Empty
import Derived.Shelf.Strconv.ParseUint10Any
import Derived.Shelf.Strconv.ParseInt10
import Derived.Shelf.Strconv.AtoiLong
import Derived.Shelf.Strconv.AtoiInnerAll
import Derived.Shelf.Strconv.RangeError
import Derived.Shelf.Strconv.ToErrorRange
import Derived.Shelf.Strconv.AtoiAll
import Derived.Shelf.Strconv.ErrVarAll
import Derived.Ground.MpProg
import Derived.Shelf.Pu.ParseUintPublic10
import Derived.Shelf.Pu.ErrVarParseUint
import Derived.Shelf.Strings.Search1
import Derived.Shelf.Strings.Search2
import Derived.Shelf.Strings.Search3
import Derived.Shelf.Strings.Cut
import Derived.Shelf.Strings.Count
import Derived.Shelf.Strings.Shaped
import Derived.Shelf.Strings.Prefix
import Derived.Shelf.Unicode.Props
import Derived.Shelf.Unicode.PropsLaid
import Derived.Shelf.Unicode.Decode
import Derived.Shelf.Strings.Runes
import Derived.Shelf.Strings.RuneCount
import Derived.Shelf.Strings.AsciiSet
import Derived.Shelf.Unicode.DecodeSlow
import Derived.Shelf.Unicode.DecodeAny
import Derived.Shelf.Unicode.Is16White
import Derived.Shelf.Unicode.IsSpaceAny
import Derived.Shelf.Unicode.DecodeLast
import Derived.Shelf.Unicode.Is16Any
import Derived.Shelf.Unicode.Is32Any
import Derived.Shelf.Unicode.ExclAny
import Derived.Shelf.Unicode.PredsAny
import Derived.Shelf.Unicode.PredsPay
import Derived.Shelf.Unicode.ValidAny
import Derived.Test.YtdobclfcondfcaaGreatDoorProg
import Derived.Test.YtdobclfcondfcaaGreatDoorRows
import Derived.Test.YtdobclfcondfcaaGreatDoorCards
import Derived.Test.YtdobclfcondfcaaGreatDoorTie
import Derived.WalkKit
import Derived.ProofKit
import Derived.OpenShut
import Derived.Carry
import Derived.ChangeMaps
import Derived.Deep.DeepHandedRow
import Derived.Deep.DeepWitnessRowRef
import Derived.Lib.LaidU8
import Derived.Lib.LaidRTab
import Derived.Lib.LaidIn
import Derived.Lib.LaidTab
import Derived.Lib.SmallJoins
import Derived.PinnedBridge
import Derived.Stop.LaidErr
import Derived.Lib.TrailingZeros
import Derived.RangeFuncRecord
import Derived.Test.YtdobclfcondfcaaGreatDoorPA05
import Derived.Test.YtdobclfcondfcaaGreatDoorPA06
import Derived.Test.YtdobclfcondfcaaGreatDoorPA07

namespace Go.Ax
open Go.RowKit
theorem after_below {w w' : World} {Im : Nat → Prop} {ρ : Nat → Option Loc} (hIm : ∀ b, Im b → b < w.heap.size) (h : Below w.heap.size w w') : After w Im ρ [] w' Im (fun _ => none) [] where
  grows := ⟨h.size, h.os, h.tape, h.output, fun b hb _ => h.block b hb⟩
  im := fun b hb => hb
  imn := fun b hb => ⟨Nat.lt_of_lt_of_le (hIm b hb) h.size, .inl hb⟩
  rel := ⟨fun r o hr => by simp [lkH] at hr, fun r r' o o' l l' hr => by simp [lkH] at hr⟩
  anc := fun r o hr => by simp [lkH] at hr
  cl := fun r o hr => by simp [lkH] at hr
def vals (xs : List Value) : List AV := xs.map fun x => .d (.v x)
theorem args_vals {h : Nat → Option Obj} {Im : Nat → Prop} {ρ : Nat → Option Loc} {vs : Array Value} {xs : List Value} (hsz : vs.size = (vals xs).length) (hra : ∀ (i : Nat) (v : Value) (x : AV), vs[i]? = some v → (vals xs)[i]? = some x → RA h Im ρ v x) : vs = xs.toArray := by
  have hl : vs.size = xs.length := by rw [hsz]; simp [vals]
  apply Array.ext (by simpa using hl)
  intro i h1 h2
  have hx : (vals xs)[i]? = some (.d (.v xs[i])) := by simp [vals, List.getElem?_eq_getElem (show i < xs.length by omega)]
  have := hra i vs[i] _ (Array.getElem?_eq_getElem h1) hx
  simpa using this.v
theorem Ctr.ofVal {E : Env} {f : FuncId} {xs : List Value} {v : Value} (hb : Bodied E.P f) (hv : v.oneCell' = true) (h : ∀ w, E.G w → Calls E.P f xs.toArray w fun e w' => e = .returned v ∧ Below w.heap.size w w') : Ctr E f (vals xs) [] fun o => o = .ret (.d (.v v)) [] := by
  refine ⟨hb, fun w Im ρ vs hG hIm hgl hsz hra hrel => ?_⟩
  rw [args_vals hsz hra]
  refine (h w hG).mono fun e w' ⟨he, hB⟩ => ?_
  subst he
  exact ⟨_, [], Im, _, rfl, RA.intv v hv, fun r hr => by simp [AV.ment] at hr, after_below hIm hB⟩
theorem Ctr.ofVals {E : Env} {f : FuncId} {xs ys : List Value} (hb : Bodied E.P f) (hv : ∀ y ∈ ys, y.oneCell' = true) (h : ∀ w, E.G w → Calls E.P f xs.toArray w fun e w' => e = .returned (.tuple ys.toArray) ∧ Below w.heap.size w w') : Ctr E f (vals xs) [] fun o => o = .ret (.tup (vals ys)) [] := by
  refine ⟨hb, fun w Im ρ vs hG hIm hgl hsz hra hrel => ?_⟩
  rw [args_vals hsz hra]
  refine (h w hG).mono fun e w' ⟨he, hB⟩ => ?_
  subst he
  refine ⟨_, [], Im, _, rfl, .tup _ _ (by simp [vals]) fun i v x h1 h2 => ?_, fun r hr => ?_, after_below hIm hB⟩
  · simp only [vals, List.getElem?_map, Option.map_eq_some_iff] at h2
    obtain ⟨y, hy, rfl⟩ := h2
    have : y = v := by simpa [hy] using h1
    subst this
    exact RA.intv _ (hv _ (List.mem_of_getElem? hy))
  · have : ∀ l : List Value, AV.ment.mentL r (vals l) = false := fun l => by
      induction l with
      | nil => rfl
      | cons y l ih => simpa [vals, AV.ment.mentL, AV.ment] using ih
    simp only [AV.ment, this] at hr
    exact absurd hr (by simp)
end Go.Ax

namespace Go.Proofs
open Go.Shelf
def Tryz.lays156_ren : Go.Shelf.Ren := ⟨fun | 156 => 65 | 165 => 124 | 166 => 47 | 169 => 51 | 240 => 105 | 241 => 173 | 276 => 154 | 277 => 219 | n => n, fun | 31 => 119 | 9 => 9 | 3 => 3 | 4 => 4 | 0 => 0 | 20 => 20 | 72 => 92 | 76 => 97 | 70 => 89 | 37 => 90 | 75 => 96 | 127 => 168 | 164 => 218 | 5 => 5 | 80 => 102 | n => n, fun | n => n⟩
theorem Tryz.lays156 : Go.Proofs.Lays.n156 Tryz.prog Tryz.lays156_ren := {
  mixed := by kernel_rfl
  f156 := Tryz.func65.trans (congrArg some (by kernel_rfl))
  f165 := Tryz.func124.trans (congrArg some (by kernel_rfl))
  f166 := Tryz.func47.trans (congrArg some (by kernel_rfl))
  f169 := Tryz.func51.trans (congrArg some (by kernel_rfl))
  f240 := Tryz.func105.trans (congrArg some (by kernel_rfl))
  f241 := Tryz.func173.trans (congrArg some (by kernel_rfl))
  f276 := Tryz.func154.trans (congrArg some (by kernel_rfl))
  f277 := Tryz.func219.trans (congrArg some (by kernel_rfl))
  t0 := Tryz.underlying0
  a0 := Tryz.isAgg0
  z0 := Tryz.sizeOf0
  v0 := Tryz.zeroValue0
  t3 := Tryz.underlying3
  a3 := Tryz.isAgg3
  z3 := Tryz.sizeOf3
  v3 := Tryz.zeroValue3
  t4 := Tryz.underlying4
  a4 := Tryz.isAgg4
  z4 := Tryz.sizeOf4
  v4 := Tryz.zeroValue4
  t9 := Tryz.underlying9
  a9 := Tryz.isAgg9
  z9 := Tryz.sizeOf9
  v9 := Tryz.zeroValue9
  t20 := Tryz.underlying20
  a20 := Tryz.isAgg20
  z20 := Tryz.sizeOf20
  v20 := Tryz.zeroValue20
  t31 := Tryz.underlying119
  a31 := Tryz.isAgg119
  z31 := Tryz.sizeOf119
  v31 := Tryz.zeroValue119
  t37 := Tryz.underlying90
  a37 := Tryz.isAgg90
  z37 := Tryz.sizeOf90
  v37 := Tryz.zeroValue90
  t70 := Tryz.underlying89
  a70 := Tryz.isAgg89
  z70 := Tryz.sizeOf89
  v70 := Tryz.zeroValue89
  t72 := Tryz.underlying92
  a72 := Tryz.isAgg92
  z72 := Tryz.sizeOf92
  v72 := Tryz.zeroValue92
  t75 := Tryz.underlying96
  a75 := Tryz.isAgg96
  z75 := Tryz.sizeOf96
  v75 := Tryz.zeroValue96
  t76 := Tryz.underlying97
  a76 := Tryz.isAgg97
  z76 := Tryz.sizeOf97
  v76 := Tryz.zeroValue97
  t127 := Tryz.underlying168
  a127 := Tryz.isAgg168
  z127 := Tryz.sizeOf168
  v127 := Tryz.zeroValue168
  t164 := Tryz.underlying218
  a164 := Tryz.isAgg218
  z164 := Tryz.sizeOf218
  v164 := Tryz.zeroValue218 }
theorem Tryz.Builder_Extra_156 : Builder.Extra Tryz.prog Tryz.lays156_ren := {
  sizeBuilder := by kernel_rfl
  liesBuilder := by kernel_rfl
  t5 := Tryz.underlying5
  a5 := Tryz.isAgg5
  z5 := Tryz.sizeOf5
  v5 := Tryz.zeroValue5
  infoByte := by kernel_rfl
  cellsByte := by kernel_rfl
  sizeByte := by kernel_rfl
  neB5 := by decide }
def Tryz.lays103_ren : Go.Shelf.Ren := ⟨fun | 103 => 169 | 210 => 213 | 206 => 200 | n => n, fun | 9 => 9 | 4 => 4 | 24 => 230 | 3 => 3 | n => n, fun | n => n⟩
theorem Tryz.lays103 : Go.Proofs.Lays.n103 Tryz.prog Tryz.lays103_ren := {
  mixed := by kernel_rfl
  f103 := Tryz.func169.trans (congrArg some (by kernel_rfl))
  f206 := Tryz.func200.trans (congrArg some (by kernel_rfl))
  f210 := Tryz.func213.trans (congrArg some (by kernel_rfl))
  t3 := Tryz.underlying3
  a3 := Tryz.isAgg3
  z3 := Tryz.sizeOf3
  v3 := Tryz.zeroValue3
  t4 := Tryz.underlying4
  a4 := Tryz.isAgg4
  z4 := Tryz.sizeOf4
  v4 := Tryz.zeroValue4
  t9 := Tryz.underlying9
  a9 := Tryz.isAgg9
  z9 := Tryz.sizeOf9
  v9 := Tryz.zeroValue9
  t24 := Tryz.underlying230
  a24 := Tryz.isAgg230
  z24 := Tryz.sizeOf230
  v24 := Tryz.zeroValue230 }
def Tryz.lays138_ren : Go.Shelf.Ren := ⟨fun | 138 => 180 | 195 => 159 | 218 => 223 | 143 => 181 | 219 => 224 | 217 => 252 | 225 => 253 | 224 => 254 | 267 => 255 | 266 => 272 | 314 => 273 | n => n, fun | 9 => 9 | 3 => 3 | 4 => 4 | 5 => 5 | 0 => 0 | 46 => 215 | 146 => 321 | 51 => 254 | n => n, fun | 1 => 5 | n => n⟩
theorem Tryz.lays138 : Go.Proofs.Lays.n138 Tryz.prog Tryz.lays138_ren := {
  mixed := by kernel_rfl
  f138 := Tryz.func180.trans (congrArg some (by kernel_rfl))
  f143 := Tryz.func181.trans (congrArg some (by kernel_rfl))
  f195 := Tryz.func159.trans (congrArg some (by kernel_rfl))
  f217 := Tryz.func252.trans (congrArg some (by kernel_rfl))
  f218 := Tryz.func223.trans (congrArg some (by kernel_rfl))
  f219 := Tryz.func224.trans (congrArg some (by kernel_rfl))
  f224 := Tryz.func254.trans (congrArg some (by kernel_rfl))
  f225 := Tryz.func253.trans (congrArg some (by kernel_rfl))
  f266 := Tryz.func272.trans (congrArg some (by kernel_rfl))
  f267 := Tryz.func255.trans (congrArg some (by kernel_rfl))
  f314 := Tryz.func273.trans (congrArg some (by kernel_rfl))
  t0 := Tryz.underlying0
  a0 := Tryz.isAgg0
  z0 := Tryz.sizeOf0
  v0 := Tryz.zeroValue0
  t3 := Tryz.underlying3
  a3 := Tryz.isAgg3
  z3 := Tryz.sizeOf3
  v3 := Tryz.zeroValue3
  t4 := Tryz.underlying4
  a4 := Tryz.isAgg4
  z4 := Tryz.sizeOf4
  v4 := Tryz.zeroValue4
  t5 := Tryz.underlying5
  a5 := Tryz.isAgg5
  z5 := Tryz.sizeOf5
  v5 := Tryz.zeroValue5
  t9 := Tryz.underlying9
  a9 := Tryz.isAgg9
  z9 := Tryz.sizeOf9
  v9 := Tryz.zeroValue9
  t46 := Tryz.underlying215
  a46 := Tryz.isAgg215
  z46 := Tryz.sizeOf215
  v46 := Tryz.zeroValue215
  t51 := Tryz.underlying254
  a51 := Tryz.isAgg254
  z51 := Tryz.sizeOf254
  v51 := Tryz.zeroValue254
  t146 := Tryz.underlying321
  a146 := Tryz.isAgg321
  z146 := Tryz.sizeOf321
  v146 := Tryz.zeroValue321
  g1 := by kernel_rfl }
def Tryz.lays143_ren : Go.Shelf.Ren := ⟨fun | 143 => 181 | 219 => 224 | 217 => 252 | 225 => 253 | 224 => 254 | 267 => 255 | 266 => 272 | 314 => 273 | n => n, fun | 9 => 9 | 3 => 3 | 4 => 4 | 5 => 5 | 46 => 215 | 146 => 321 | 51 => 254 | n => n, fun | 1 => 5 | n => n⟩
theorem Tryz.lays143 : Go.Proofs.Lays.n143 Tryz.prog Tryz.lays143_ren := {
  mixed := by kernel_rfl
  f143 := Tryz.func181.trans (congrArg some (by kernel_rfl))
  f217 := Tryz.func252.trans (congrArg some (by kernel_rfl))
  f219 := Tryz.func224.trans (congrArg some (by kernel_rfl))
  f224 := Tryz.func254.trans (congrArg some (by kernel_rfl))
  f225 := Tryz.func253.trans (congrArg some (by kernel_rfl))
  f266 := Tryz.func272.trans (congrArg some (by kernel_rfl))
  f267 := Tryz.func255.trans (congrArg some (by kernel_rfl))
  f314 := Tryz.func273.trans (congrArg some (by kernel_rfl))
  t3 := Tryz.underlying3
  a3 := Tryz.isAgg3
  z3 := Tryz.sizeOf3
  v3 := Tryz.zeroValue3
  t4 := Tryz.underlying4
  a4 := Tryz.isAgg4
  z4 := Tryz.sizeOf4
  v4 := Tryz.zeroValue4
  t5 := Tryz.underlying5
  a5 := Tryz.isAgg5
  z5 := Tryz.sizeOf5
  v5 := Tryz.zeroValue5
  t9 := Tryz.underlying9
  a9 := Tryz.isAgg9
  z9 := Tryz.sizeOf9
  v9 := Tryz.zeroValue9
  t46 := Tryz.underlying215
  a46 := Tryz.isAgg215
  z46 := Tryz.sizeOf215
  v46 := Tryz.zeroValue215
  t51 := Tryz.underlying254
  a51 := Tryz.isAgg254
  z51 := Tryz.sizeOf254
  v51 := Tryz.zeroValue254
  t146 := Tryz.underlying321
  a146 := Tryz.isAgg321
  z146 := Tryz.sizeOf321
  v146 := Tryz.zeroValue321
  g1 := by kernel_rfl }
def Tryz.lays171_ren : Go.Shelf.Ren := ⟨fun | 171 => 64 | 243 => 123 | 246 => 172 | 283 => 215 | 284 => 216 | 285 => 217 | 286 => 218 | 129 => 196 | 317 => 246 | 318 => 247 | 319 => 248 | 320 => 249 | 337 => 269 | 338 => 270 | n => n, fun | 3 => 3 | 9 => 9 | 2 => 2 | 4 => 4 | 171 => 266 | 0 => 0 | 53 => 243 | 37 => 90 | 5 => 5 | 173 => 268 | 212 => 303 | 51 => 254 | 20 => 20 | 213 => 304 | 46 => 215 | 232 => 329 | 233 => 330 | n => n, fun | 17 => 4 | 18 => 8 | 19 => 9 | n => n⟩
def Tryz.lays200_ren : Go.Shelf.Ren := ⟨fun | 200 => 157 | 261 => 199 | 311 => 240 | 312 => 241 | n => n, fun | 21 => 21 | 4 => 4 | 51 => 254 | 5 => 5 | 119 => 221 | 0 => 0 | 141 => 258 | 196 => 291 | 193 => 288 | 3 => 3 | 198 => 293 | 49 => 26 | 194 => 289 | 201 => 296 | 226 => 316 | 46 => 215 | 227 => 317 | n => n, fun | 7 => 2 | 8 => 3 | n => n⟩
def Tryz.lays219_ren : Go.Shelf.Ren := ⟨fun | 219 => 224 | 217 => 252 | 225 => 253 | 224 => 254 | 267 => 255 | 266 => 272 | 314 => 273 | n => n, fun | 9 => 9 | 3 => 3 | 4 => 4 | 5 => 5 | 46 => 215 | 146 => 321 | 51 => 254 | n => n, fun | 1 => 5 | n => n⟩
theorem Tryz.lays219 : Go.Proofs.Lays.n219 Tryz.prog Tryz.lays219_ren := {
  mixed := by kernel_rfl
  f217 := Tryz.func252.trans (congrArg some (by kernel_rfl))
  f219 := Tryz.func224.trans (congrArg some (by kernel_rfl))
  f224 := Tryz.func254.trans (congrArg some (by kernel_rfl))
  f225 := Tryz.func253.trans (congrArg some (by kernel_rfl))
  f266 := Tryz.func272.trans (congrArg some (by kernel_rfl))
  f267 := Tryz.func255.trans (congrArg some (by kernel_rfl))
  f314 := Tryz.func273.trans (congrArg some (by kernel_rfl))
  t3 := Tryz.underlying3
  a3 := Tryz.isAgg3
  z3 := Tryz.sizeOf3
  v3 := Tryz.zeroValue3
  t4 := Tryz.underlying4
  a4 := Tryz.isAgg4
  z4 := Tryz.sizeOf4
  v4 := Tryz.zeroValue4
  t5 := Tryz.underlying5
  a5 := Tryz.isAgg5
  z5 := Tryz.sizeOf5
  v5 := Tryz.zeroValue5
  t9 := Tryz.underlying9
  a9 := Tryz.isAgg9
  z9 := Tryz.sizeOf9
  v9 := Tryz.zeroValue9
  t46 := Tryz.underlying215
  a46 := Tryz.isAgg215
  z46 := Tryz.sizeOf215
  v46 := Tryz.zeroValue215
  t51 := Tryz.underlying254
  a51 := Tryz.isAgg254
  z51 := Tryz.sizeOf254
  v51 := Tryz.zeroValue254
  t146 := Tryz.underlying321
  a146 := Tryz.isAgg321
  z146 := Tryz.sizeOf321
  v146 := Tryz.zeroValue321
  g1 := by kernel_rfl }
def Tryz.laysC172_ren : Go.Shelf.Ren := ⟨fun | 172 => 222 | 244 => 251 | 245 => 234 | 247 => 271 | 279 => 261 | 280 => 262 | 281 => 263 | 282 => 264 | 287 => 233 | 316 => 276 | 171 => 64 | 205 => 277 | 321 => 259 | 322 => 260 | 243 => 123 | 246 => 172 | 283 => 215 | 284 => 216 | 285 => 217 | 286 => 218 | 129 => 196 | 317 => 246 | 318 => 247 | 319 => 248 | 320 => 249 | 337 => 269 | 338 => 270 | n => n, fun | 9 => 9 | 3 => 3 | 75 => 96 | 76 => 97 | 4 => 4 | 5 => 5 | 167 => 308 | 37 => 90 | 0 => 0 | 85 => 319 | 2 => 2 | 168 => 310 | 53 => 243 | 175 => 244 | 46 => 215 | 210 => 325 | 127 => 168 | 145 => 333 | 143 => 331 | 21 => 21 | 171 => 266 | 173 => 268 | 212 => 303 | 51 => 254 | 20 => 20 | 213 => 304 | 232 => 329 | 233 => 330 | 80 => 102 | n => n, fun | 15 => 6 | 16 => 7 | 17 => 4 | 18 => 8 | 19 => 9 | n => n⟩
theorem Tryz.laysC172 : Go.Proofs.LaysC.n172 Tryz.prog Tryz.laysC172_ren := {
  mixed := by kernel_rfl
  f129 := Tryz.func196.trans (congrArg some (by kernel_rfl))
  f171 := Tryz.func64.trans (congrArg some (by kernel_rfl))
  f172 := Tryz.func222.trans (congrArg some (by kernel_rfl))
  f205 := Tryz.func277.trans (congrArg some (by kernel_rfl))
  f243 := Tryz.func123.trans (congrArg some (by kernel_rfl))
  f244 := Tryz.func251.trans (congrArg some (by kernel_rfl))
  f245 := Tryz.func234.trans (congrArg some (by kernel_rfl))
  f246 := Tryz.func172.trans (congrArg some (by kernel_rfl))
  f247 := Tryz.func271.trans (congrArg some (by kernel_rfl))
  f279 := Tryz.func261.trans (congrArg some (by kernel_rfl))
  f280 := Tryz.func262.trans (congrArg some (by kernel_rfl))
  f281 := Tryz.func263.trans (congrArg some (by kernel_rfl))
  f282 := Tryz.func264.trans (congrArg some (by kernel_rfl))
  f283 := Tryz.func215.trans (congrArg some (by kernel_rfl))
  f284 := Tryz.func216.trans (congrArg some (by kernel_rfl))
  f285 := Tryz.func217.trans (congrArg some (by kernel_rfl))
  f286 := Tryz.func218.trans (congrArg some (by kernel_rfl))
  f287 := Tryz.func233.trans (congrArg some (by kernel_rfl))
  f316 := Tryz.func276.trans (congrArg some (by kernel_rfl))
  f317 := Tryz.func246.trans (congrArg some (by kernel_rfl))
  f318 := Tryz.func247.trans (congrArg some (by kernel_rfl))
  f319 := Tryz.func248.trans (congrArg some (by kernel_rfl))
  f320 := Tryz.func249.trans (congrArg some (by kernel_rfl))
  f321 := Tryz.func259.trans (congrArg some (by kernel_rfl))
  f322 := Tryz.func260.trans (congrArg some (by kernel_rfl))
  f337 := Tryz.func269.trans (congrArg some (by kernel_rfl))
  f338 := Tryz.func270.trans (congrArg some (by kernel_rfl))
  t0 := Tryz.underlying0
  a0 := Tryz.isAgg0
  z0 := Tryz.sizeOf0
  v0 := Tryz.zeroValue0
  t2 := Tryz.underlying2
  a2 := Tryz.isAgg2
  z2 := Tryz.sizeOf2
  v2 := Tryz.zeroValue2
  t3 := Tryz.underlying3
  a3 := Tryz.isAgg3
  z3 := Tryz.sizeOf3
  v3 := Tryz.zeroValue3
  t4 := Tryz.underlying4
  a4 := Tryz.isAgg4
  z4 := Tryz.sizeOf4
  v4 := Tryz.zeroValue4
  t5 := Tryz.underlying5
  a5 := Tryz.isAgg5
  z5 := Tryz.sizeOf5
  v5 := Tryz.zeroValue5
  t9 := Tryz.underlying9
  a9 := Tryz.isAgg9
  z9 := Tryz.sizeOf9
  v9 := Tryz.zeroValue9
  t20 := Tryz.underlying20
  a20 := Tryz.isAgg20
  z20 := Tryz.sizeOf20
  v20 := Tryz.zeroValue20
  t21 := Tryz.underlying21
  a21 := Tryz.isAgg21
  z21 := Tryz.sizeOf21
  v21 := Tryz.zeroValue21
  t37 := Tryz.underlying90
  a37 := Tryz.isAgg90
  z37 := Tryz.sizeOf90
  v37 := Tryz.zeroValue90
  t46 := Tryz.underlying215
  a46 := Tryz.isAgg215
  z46 := Tryz.sizeOf215
  v46 := Tryz.zeroValue215
  t51 := Tryz.underlying254
  a51 := Tryz.isAgg254
  z51 := Tryz.sizeOf254
  v51 := Tryz.zeroValue254
  t53 := Tryz.underlying243
  a53 := Tryz.isAgg243
  z53 := Tryz.sizeOf243
  v53 := Tryz.zeroValue243
  t75 := Tryz.underlying96
  a75 := Tryz.isAgg96
  z75 := Tryz.sizeOf96
  v75 := Tryz.zeroValue96
  t76 := Tryz.underlying97
  a76 := Tryz.isAgg97
  z76 := Tryz.sizeOf97
  v76 := Tryz.zeroValue97
  t85 := Tryz.underlying319
  a85 := Tryz.isAgg319
  z85 := Tryz.sizeOf319
  v85 := Tryz.zeroValue319
  t127 := Tryz.underlying168
  a127 := Tryz.isAgg168
  z127 := Tryz.sizeOf168
  v127 := Tryz.zeroValue168
  t143 := Tryz.underlying331
  a143 := Tryz.isAgg331
  z143 := Tryz.sizeOf331
  v143 := Tryz.zeroValue331
  t145 := Tryz.underlying333
  a145 := Tryz.isAgg333
  z145 := Tryz.sizeOf333
  v145 := Tryz.zeroValue333
  t167 := Tryz.underlying308
  a167 := Tryz.isAgg308
  z167 := Tryz.sizeOf308
  v167 := Tryz.zeroValue308
  t168 := Tryz.underlying310
  a168 := Tryz.isAgg310
  z168 := Tryz.sizeOf310
  v168 := Tryz.zeroValue310
  t171 := Tryz.underlying266
  a171 := Tryz.isAgg266
  z171 := Tryz.sizeOf266
  v171 := Tryz.zeroValue266
  t173 := Tryz.underlying268
  a173 := Tryz.isAgg268
  z173 := Tryz.sizeOf268
  v173 := Tryz.zeroValue268
  t175 := Tryz.underlying244
  a175 := Tryz.isAgg244
  z175 := Tryz.sizeOf244
  v175 := Tryz.zeroValue244
  t210 := Tryz.underlying325
  a210 := Tryz.isAgg325
  z210 := Tryz.sizeOf325
  v210 := Tryz.zeroValue325
  t212 := Tryz.underlying303
  a212 := Tryz.isAgg303
  z212 := Tryz.sizeOf303
  v212 := Tryz.zeroValue303
  t213 := Tryz.underlying304
  a213 := Tryz.isAgg304
  z213 := Tryz.sizeOf304
  t232 := Tryz.underlying329
  a232 := Tryz.isAgg329
  z232 := Tryz.sizeOf329
  v232 := Tryz.zeroValue329
  t233 := Tryz.underlying330
  a233 := Tryz.isAgg330
  z233 := Tryz.sizeOf330
  v233 := Tryz.zeroValue330
  g15 := by kernel_rfl
  g16 := by kernel_rfl
  g17 := by kernel_rfl
  g18 := by kernel_rfl
  g19 := by kernel_rfl
  t80 := Tryz.underlying102
  a80 := Tryz.isAgg102
  z80 := Tryz.sizeOf102
  v80 := Tryz.zeroValue102
  i0 := by kernel_rfl
  i2 := by kernel_rfl
  i3 := by kernel_rfl
  i4 := by kernel_rfl
  i5 := by kernel_rfl
  i9 := by kernel_rfl
  i20 := by kernel_rfl
  i21 := by kernel_rfl
  i37 := by kernel_rfl
  i46 := by kernel_rfl
  i51 := by kernel_rfl
  i53 := by kernel_rfl
  i75 := by kernel_rfl
  i76 := by kernel_rfl
  i80 := by kernel_rfl
  i85 := by kernel_rfl
  i127 := by kernel_rfl
  i143 := by kernel_rfl
  i145 := by kernel_rfl
  i167 := by kernel_rfl
  i168 := by kernel_rfl
  i171 := by kernel_rfl
  i173 := by kernel_rfl
  i175 := by kernel_rfl
  i210 := by kernel_rfl
  i212 := by kernel_rfl
  i232 := by kernel_rfl
  i233 := by kernel_rfl
  m15 := by kernel_rfl
  m16 := by kernel_rfl
  m17 := by kernel_rfl
  m18 := by kernel_rfl
  m19 := by kernel_rfl
  c0 := by kernel_rfl
  c2 := by kernel_rfl
  c3 := by kernel_rfl
  c4 := by kernel_rfl
  c5 := by kernel_rfl
  c9 := by kernel_rfl
  c20 := by kernel_rfl
  c21 := by kernel_rfl
  c37 := by kernel_rfl
  c46 := by kernel_rfl
  c51 := by kernel_rfl
  c53 := by kernel_rfl
  c75 := by kernel_rfl
  c76 := by kernel_rfl
  c80 := by kernel_rfl
  c85 := by kernel_rfl
  c127 := by kernel_rfl
  c143 := by kernel_rfl
  c145 := by kernel_rfl
  c167 := by kernel_rfl
  c168 := by kernel_rfl
  c171 := by kernel_rfl
  c173 := by kernel_rfl
  c175 := by kernel_rfl
  c210 := by kernel_rfl
  c212 := by kernel_rfl
  c213 := by kernel_rfl
  c232 := by kernel_rfl
  c233 := by kernel_rfl }
def Tryz.laysM171_ren : Go.Shelf.Ren := ⟨fun | 171 => 64 | 243 => 123 | 246 => 172 | 283 => 215 | 284 => 216 | 285 => 217 | 286 => 218 | 129 => 196 | 317 => 246 | 318 => 247 | 319 => 248 | 320 => 249 | 337 => 269 | 338 => 270 | n => n, fun | 3 => 3 | 9 => 9 | 2 => 2 | 4 => 4 | 171 => 266 | 0 => 0 | 53 => 243 | 37 => 90 | 5 => 5 | 173 => 268 | 212 => 303 | 51 => 254 | 20 => 20 | 213 => 304 | 46 => 215 | 232 => 329 | 233 => 330 | n => n, fun | 17 => 4 | 18 => 8 | 19 => 9 | n => n⟩
theorem Tryz.laysM171 : Go.Proofs.LaysM.n171 Tryz.prog Tryz.laysM171_ren := {
  mixed := by kernel_rfl
  f129 := Tryz.func196.trans (congrArg some (by kernel_rfl))
  f171 := Tryz.func64.trans (congrArg some (by kernel_rfl))
  f243 := Tryz.func123.trans (congrArg some (by kernel_rfl))
  f246 := Tryz.func172.trans (congrArg some (by kernel_rfl))
  f283 := Tryz.func215.trans (congrArg some (by kernel_rfl))
  f284 := Tryz.func216.trans (congrArg some (by kernel_rfl))
  f285 := Tryz.func217.trans (congrArg some (by kernel_rfl))
  f286 := Tryz.func218.trans (congrArg some (by kernel_rfl))
  f317 := Tryz.func246.trans (congrArg some (by kernel_rfl))
  f318 := Tryz.func247.trans (congrArg some (by kernel_rfl))
  f319 := Tryz.func248.trans (congrArg some (by kernel_rfl))
  f320 := Tryz.func249.trans (congrArg some (by kernel_rfl))
  f337 := Tryz.func269.trans (congrArg some (by kernel_rfl))
  f338 := Tryz.func270.trans (congrArg some (by kernel_rfl))
  t0 := Tryz.underlying0
  a0 := Tryz.isAgg0
  z0 := Tryz.sizeOf0
  v0 := Tryz.zeroValue0
  t2 := Tryz.underlying2
  a2 := Tryz.isAgg2
  z2 := Tryz.sizeOf2
  v2 := Tryz.zeroValue2
  t3 := Tryz.underlying3
  a3 := Tryz.isAgg3
  z3 := Tryz.sizeOf3
  v3 := Tryz.zeroValue3
  t4 := Tryz.underlying4
  a4 := Tryz.isAgg4
  z4 := Tryz.sizeOf4
  v4 := Tryz.zeroValue4
  t5 := Tryz.underlying5
  a5 := Tryz.isAgg5
  z5 := Tryz.sizeOf5
  v5 := Tryz.zeroValue5
  t9 := Tryz.underlying9
  a9 := Tryz.isAgg9
  z9 := Tryz.sizeOf9
  v9 := Tryz.zeroValue9
  t20 := Tryz.underlying20
  a20 := Tryz.isAgg20
  z20 := Tryz.sizeOf20
  v20 := Tryz.zeroValue20
  t37 := Tryz.underlying90
  a37 := Tryz.isAgg90
  z37 := Tryz.sizeOf90
  v37 := Tryz.zeroValue90
  t46 := Tryz.underlying215
  a46 := Tryz.isAgg215
  z46 := Tryz.sizeOf215
  v46 := Tryz.zeroValue215
  t51 := Tryz.underlying254
  a51 := Tryz.isAgg254
  z51 := Tryz.sizeOf254
  v51 := Tryz.zeroValue254
  t53 := Tryz.underlying243
  a53 := Tryz.isAgg243
  z53 := Tryz.sizeOf243
  v53 := Tryz.zeroValue243
  t171 := Tryz.underlying266
  a171 := Tryz.isAgg266
  z171 := Tryz.sizeOf266
  v171 := Tryz.zeroValue266
  t173 := Tryz.underlying268
  a173 := Tryz.isAgg268
  z173 := Tryz.sizeOf268
  v173 := Tryz.zeroValue268
  t212 := Tryz.underlying303
  a212 := Tryz.isAgg303
  z212 := Tryz.sizeOf303
  v212 := Tryz.zeroValue303
  t213 := Tryz.underlying304
  a213 := Tryz.isAgg304
  z213 := Tryz.sizeOf304
  t232 := Tryz.underlying329
  a232 := Tryz.isAgg329
  z232 := Tryz.sizeOf329
  v232 := Tryz.zeroValue329
  t233 := Tryz.underlying330
  a233 := Tryz.isAgg330
  z233 := Tryz.sizeOf330
  v233 := Tryz.zeroValue330
  g17 := by kernel_rfl
  g18 := by kernel_rfl
  g19 := by kernel_rfl
  i0 := by kernel_rfl
  i2 := by kernel_rfl
  i3 := by kernel_rfl
  i4 := by kernel_rfl
  i5 := by kernel_rfl
  i9 := by kernel_rfl
  i20 := by kernel_rfl
  i37 := by kernel_rfl
  i46 := by kernel_rfl
  i51 := by kernel_rfl
  i53 := by kernel_rfl
  i171 := by kernel_rfl
  i173 := by kernel_rfl
  i212 := by kernel_rfl
  i232 := by kernel_rfl
  i233 := by kernel_rfl
  m17 := by kernel_rfl
  m18 := by kernel_rfl
  m19 := by kernel_rfl }
open Go.RowKit in
theorem Tryz.strings_Join_none (a : Option Addr) (c : Nat) (sep : ByteArray) (w : World) :
    Calls Tryz.prog 65 #[.slice a 0 c, .string sep] w fun e w' => e = .returned (.string ⟨#[]⟩) ∧ w' = w := Any.strings_Join_none Tryz.lays156 Tryz.Builder_Extra_156 a c sep w
open Go.RowKit in
theorem Tryz.strings_Join (bk o c : Nat) (xs : List ByteArray) (sep : ByteArray) (w : World) (hcells : ∀ (j : Nat) x, xs[j]? = some x → w.cell? ⟨bk, o + j, none⟩ = some (.string x)) (hbk : bk < w.heap.size) (hN : xs.length ≤ 140737488355328) (hcap : xs.length ≤ c) (hlen : (Lib.join (xs.map (·.data.toList)) sep.data.toList).length ≤ 140737488355328) :
    Calls Tryz.prog 65 #[.slice (some ⟨bk, o, none⟩) xs.length c, .string sep] w fun e w' => e = .returned (.string ⟨(Lib.join (xs.map (·.data.toList)) sep.data.toList).toArray⟩) ∧ Below w.heap.size w w' := Any.strings_Join Tryz.lays156 Tryz.Builder_Extra_156 bk o c xs sep w hcells hbk hN hcap hlen
open Go.RowKit in
theorem Tryz.strings_CutPrefix (s p : ByteArray) (w : World) :
    Calls Tryz.prog 169 #[.string s, .string p] w fun e w' => e = .returned (.tuple #[.string ⟨(Lib.trimPrefix s.data.toList p.data.toList).toArray⟩, .bool (Lib.hasPrefix s.data.toList p.data.toList)]) ∧ w' = w := Any.strings_CutPrefix Tryz.lays103 s p w
open Go.RowKit Go.Sort Go.Lib in
theorem Tryz.strconv_Itoa (n : Int) (h0 : -9223372036854775808 ≤ n) (h1 : n ≤ 9223372036854775807) (w : World) (htab : Lib.TabIs Tryz.prog w "internal/strconv.uint64pow10" .u64 Lib.pow10Tab) :
    Calls Tryz.prog 64 #[.int .i64 n] w fun e w' => e = .returned (.string ⟨(Lib.itoa n).toArray⟩) ∧ ∃ k os, w' = grow (w.drewN k) os := Any.strconv_Itoa Tryz.laysM171 n h0 h1 w htab
open Go.RowKit in
theorem Tryz.strconv_Atoi_ok (s : ByteArray) (hmax : s.size ≤ 9223372036854775806) (v : Int) (h : Lib.atoiAll s.data.toList = .ok v) (w : World) :
    Calls Tryz.prog 222 #[.string s] w fun e w' => e = .returned (.tuple #[.int .i64 v, .nilIface]) ∧ (w' = w ∨ ∃ t, w' = Lib.bytesWorld w 5 t) := Any.strconv_Atoi_ok Tryz.laysC172 s hmax v h w
open Go.RowKit in
theorem Tryz.strconv_Atoi_syntax_var (s : ByteArray) (hlim : s.size ≤ 281474976710656) (h0 : ∀ v, Lib.atoiAll s.data.toList ≠ .ok v) (h1 : Lib.atoiAll s.data.toList ≠ .range) (tp : TypeId) (p : Value) (w : World) (hvar : w.var? Tryz.prog "strconv.ErrSyntax" = some #[.iface tp p]) :
    Calls Tryz.prog 222 #[.string s] w fun e w' => ∃ N, e = .returned (.tuple #[.int .i64 0, .iface 310 (.pointer (some ⟨N, 0, none⟩))]) ∧ w.heap.size ≤ N ∧ w'.heap[N]? = some (.cells #[.string ⟨#[65, 116, 111, 105]⟩, .string s, .iface tp p] 325 (0, 0)) ∧ Below w.heap.size w w' := Any.strconv_Atoi_syntax_var Tryz.laysC172 s hlim (by cases h : Lib.atoiAll s.data.toList <;> first | rfl | exact absurd h (h0 _) | exact absurd h h1) tp p w hvar
open Go.RowKit in
theorem Tryz.strconv_Atoi_range_var (s : ByteArray) (hlim : s.size ≤ 281474976710656) (h : Lib.atoiAll s.data.toList = .range) (tp : TypeId) (p : Value) (w : World) (hvar : w.var? Tryz.prog "strconv.ErrRange" = some #[.iface tp p]) :
    Calls Tryz.prog 222 #[.string s] w fun e w' => ∃ N, e = .returned (.tuple #[.int .i64 (Lib.atoiSat s.data.toList), .iface 310 (.pointer (some ⟨N, 0, none⟩))]) ∧ w.heap.size ≤ N ∧ w'.heap[N]? = some (.cells #[.string ⟨#[65, 116, 111, 105]⟩, .string s, .iface tp p] 325 (0, 0)) ∧ Below w.heap.size w w' := Any.strconv_Atoi_range_var Tryz.laysC172 s hlim h tp p w hvar
open Go.RowKit Go.Lib in
theorem Tryz.stringslite_Index_one (s : ByteArray) (c : UInt8) (w : World) :
    Calls Tryz.prog 224 #[.string s, .string ⟨#[c]⟩] w fun e w' => e = .returned (.int .i64 (Lib.indexByte s.data.toList c)) ∧ w' = w := Any.stringslite_Index_one Tryz.lays219 s c w
open Go.RowKit Go.Lib in
theorem Tryz.strings_Index_one (s : ByteArray) (c : UInt8) (w : World) :
    Calls Tryz.prog 181 #[.string s, .string ⟨#[c]⟩] w fun e w' => e = .returned (.int .i64 (Lib.indexByte s.data.toList c)) ∧ w' = w := Any.strings_Index_one Tryz.lays143 s c w
open Go.RowKit Go.Lib in
theorem Tryz.strings_Count_one (s : ByteArray) (c : UInt8) (w : World) :
    Calls Tryz.prog 180 #[.string s, .string ⟨#[c]⟩] w fun e w' => e = .returned (.int .i64 (Lib.countByte s.data.toList c)) ∧ w' = w := Any.strings_Count_one Tryz.lays138 s c w
end Go.Proofs

namespace Go.Ax
open Go.Proofs Go.RowKit Go.Shelf Go.Lib Go.Sort
theorem below_grown0 (w : World) (k : Nat) (os : Array Obj) : Below w.heap.size w (grow (w.drewN k) os) := by
  have h := below_drewNv (Below.refl w.heap.size w) k
  have hh : ∀ k, (w.drewN k).heap = w.heap := fun k => by
    induction k with
    | zero => rfl
    | succ k ih => exact ih
  refine ⟨h.os, h.tape, h.output, ?_, fun b hb => ?_⟩
  · show w.heap.size ≤ ((w.drewN k).heap ++ os).size
    rw [hh]; simp
  · show ((w.drewN k).heap ++ os)[b]? = w.heap[b]?
    rw [hh, Array.getElem?_append_left hb]
abbrev PowG (w : World) : Prop := Lib.TabIs Tryz.prog w "internal/strconv.uint64pow10" .u64 Lib.pow10Tab
theorem itoa_ctr (g : GP) (hg : ∀ w, g.G w → PowG w) (i : Nat) (hi : i < 2 ^ 62) : Ctr (ax g).E 64 [.d (.v (.int .i64 i))] [] fun o => o = .ret (.d (.v (.string ⟨(Lib.decDigits i).toArray⟩))) [] :=
  Ctr.ofVal (E := (ax g).E) (f := 64) (xs := [.int .i64 i]) ⟨_, Tryz.func64, rfl, by decide +kernel⟩ rfl fun w hG => (Tryz.strconv_Itoa i (by omega) (by omega) w (hg w hG)).mono fun e w' ⟨h1, k, os, h2⟩ => ⟨by rw [h1, Lib.itoa_nonneg], by rw [h2]; exact below_grown0 w k os⟩
theorem cutPrefix_ctr (g : GP) (s p : ByteArray) : Ctr (ax g).E 169 [.d (.v (.string s)), .d (.v (.string p))] [] fun o => o = .ret (.tup [.d (.v (.string ⟨(Lib.trimPrefix s.data.toList p.data.toList).toArray⟩)), .d (.v (.bool (Lib.hasPrefix s.data.toList p.data.toList)))]) [] :=
  Ctr.ofVals (E := (ax g).E) (f := 169) (xs := [.string s, .string p]) (ys := [.string _, .bool _]) ⟨_, Tryz.func169, rfl, by decide +kernel⟩ (by simp [Value.oneCell']) fun w _ => (Tryz.strings_CutPrefix s p w).mono fun e w' ⟨h1, h2⟩ => ⟨h1, by rw [h2]; exact Below.refl _ _⟩
end Go.Ax

namespace Go.Ax
open Go.Proofs Go.RowKit Go.Shelf Go.Lib Go.ChangeShapes
abbrev DebG (w : World) : Prop := Lib.TabIs Tryz.prog w "math/bits.deBruijn64tab" .u8 Tryz.deB
theorem gD : Tryz.prog.globalNamed "math/bits.deBruijn64tab" = some 9 := by kernel_rfl
structure Old (W w : World) : Prop where
  os : w.os = W.os
  block : ∀ b, b < W.heap.size → w.heap[b]? = W.heap[b]?
theorem Old.below {W w : World} (h : Old W w) : Below W.heap.size W { w with tape := W.tape, output := W.output } := by
  refine ⟨h.os, rfl, rfl, ?_, h.block⟩
  show W.heap.size ≤ w.heap.size
  rcases Nat.eq_zero_or_pos W.heap.size with h0 | h0
  · omega
  · have h1 := h.block (W.heap.size - 1) (by omega)
    rw [Array.getElem?_eq_getElem (by omega : W.heap.size - 1 < W.heap.size)] at h1
    obtain ⟨h2, _⟩ := Array.getElem?_eq_some_iff.1 h1
    omega
theorem tabIs_old {W w : World} (h : Old W w) {n : String} {k : IntKind} {zs : List Int} {g : Nat} (hg : Tryz.prog.globalNamed n = some g) (ht : Lib.TabIs Tryz.prog W n k zs) : Lib.TabIs Tryz.prog w n k zs :=
  by have h1 := Go.Joins.tab_stays hg ht h.below (Nat.le_refl _); exact h1
theorem PowG.old {W w : World} (h : Old W w) (hl : PowG W) : PowG w := tabIs_old h (by kernel_rfl : Tryz.prog.globalNamed "internal/strconv.uint64pow10" = some 4) hl
theorem deb_cells {w : World} (h : DebG w) : ∃ ms t fz, w.heap[9]? = some (.cells ms t fz) ∧ ∀ (j : Nat) (x : D), (Tryz.deB.map fun n => D.v (.int .u8 n))[j]? = some x → ∃ v, ms[j]? = some v ∧ x = .v v ∧ v.oneCell' = true := by
  have hc := fun i hi => h.cell gD i hi
  have h0 := hc 0 (by decide)
  unfold World.cell? at h0
  cases hb : w.heap[9]? with
  | none => simp [hb] at h0
  | some o =>
    cases o with
    | cells ms t fz =>
      refine ⟨ms, t, fz, rfl, fun j x hx => ?_⟩
      simp only [List.getElem?_map, Option.map_eq_some_iff] at hx
      obtain ⟨n, hn, rfl⟩ := hx
      have hj : j < Tryz.deB.length := (List.getElem?_eq_some_iff.1 hn).1
      have h1 := hc j hj
      refine ⟨.int .u8 n, ?_, rfl, rfl⟩
      unfold World.cell? at h1
      simp only [hb] at h1
      have h2 : ms[j]? = some (.int .u8 (Tryz.deB.getD j 0)) := h1
      rw [h2]
      simp [List.getD, hn]
    | _ => simp [hb] at h0
theorem glOk_of {W : World} (h : DebG W) (hs : 9 < W.heap.size) : GlOk W.heap.size Tryz.gl W := fun p hp => by
  simp only [Tryz.gl, List.mem_singleton] at hp
  subst hp
  exact ⟨hs, deb_cells h⟩
theorem deb_size {W : World} (h : DebG W) : 9 < W.heap.size := by
  obtain ⟨ms, t, fz, h1, _⟩ := deb_cells h
  exact (Array.getElem?_eq_some_iff.1 h1).1
def gpOf (W : World) (h : DebG W) : GP where
  ng := W.heap.size
  gl := Tryz.gl
  G := Old W
  glOk := fun w hw p hp => by
    obtain ⟨h1, ms, t, fz, h2, h3⟩ := glOk_of h (deb_size h) p hp
    exact ⟨h1, ms, t, fz, by rw [hw.block _ h1]; exact h2, h3⟩
  Gst := fun w w' ho hb hw => ⟨ho.trans hw.os, fun b h => (hb b h).trans (hw.block b h)⟩
def gp0 (W : World) : GP where
  ng := W.heap.size
  gl := []
  G := Old W
  glOk := fun w hw p hp => by simp at hp
  Gst := fun w w' ho hb hw => ⟨ho.trans hw.os, fun b h => (hb b h).trans (hw.block b h)⟩
theorem Old.refl (W : World) : Old W W := ⟨rfl, fun _ _ => rfl⟩
theorem calls_of_ctr' {W : World} {g : GP} (e1 : g.ng = W.heap.size) (e2 : g.G = Old W) {f : FuncId} {args : List AV} {v : Value} (hC : Ctr (ax g).E f args [] (fun o => o = .ret (.d (.v v)) [])) (vs : Array Value) (hsz : vs.size = args.length)
    (hra : ∀ (i : Nat) (v : Value) (x : AV), vs[i]? = some v → args[i]? = some x → RA (hp W) (fun b => b < W.heap.size) (fun _ => none) v x) :
    Calls Tryz.prog f vs W fun e w' => e = .returned v ∧ Below W.heap.size W w' := by
  refine (hC.2 W (fun b => b < W.heap.size) (fun _ => none) vs (by show g.G W; rw [e2]; exact Old.refl W) (fun b hb => hb) (fun b hb => by rw [← e1]; exact hb) hsz hra ⟨fun r o h => by simp [lkH] at h, fun r r' o o' l l' h => by simp [lkH] at h⟩).mono fun e w' he => ?_
  cases e with
  | returned u =>
    obtain ⟨res, ho, Im', ρ', h1, h2, h3, A⟩ := he
    injection h1 with e1 e2
    subst e1
    refine ⟨by rw [h2.v], ⟨A.grows.os, A.grows.tape, A.grows.output, A.grows.size, fun b hb => A.grows.block b hb fun ⟨r, o, l, hr, _⟩ => by simp [lkH] at hr⟩⟩
  | panicked ch => obtain ⟨ho, Im', ρ', h1, _⟩ := he; exact absurd h1 (by simp)
  | outgrown => exact he.elim
theorem calls_of_ctr0 {W : World} {f : FuncId} {args : List AV} {v : Value} (hC : Ctr (ax (gp0 W)).E f args [] (fun o => o = .ret (.d (.v v)) [])) (vs : Array Value) (hsz : vs.size = args.length)
    (hra : ∀ (i : Nat) (v : Value) (x : AV), vs[i]? = some v → args[i]? = some x → RA (hp W) (fun b => b < W.heap.size) (fun _ => none) v x) :
    Calls Tryz.prog f vs W fun e w' => e = .returned v ∧ Below W.heap.size W w' := calls_of_ctr' rfl rfl hC vs hsz hra
theorem trodAll_stays {H : Type} {enc : TypeId × Value → H} {P : Program} (hl : laidOutB P = true) {W W' : World} (hb : Below W.heap.size W W') {sp : Nat → Bool} : ∀ {ts : List TypeId} {vs : List Value} {ds : List (DataW H)} {ps : List MemPlace},
    (ts.all fun t => P.readableRec t && decide (t < P.types.size)) = true → DataW.TrodAll enc P W 0 (fun _ => true) true ts vs ds ps → (∀ x ∈ ps, x.block < W.heap.size) → (∀ x ∈ ps, sp x.block = true) → DataW.TrodAll enc P W' 0 sp true ts vs ds ps
  | [], vs, ds, ps, _, h, _, _ => by
    obtain ⟨rfl, rfl, rfl⟩ := trodAll_nil h
    exact trodAll_mk0
  | t :: ts, vs, ds, ps, hr, h, hlt, hsp => by
    obtain ⟨v, vs', d, ds', p, q, rfl, rfl, rfl, h1, h2⟩ := trodAll_cons h
    simp only [List.all_cons, Bool.and_eq_true, decide_eq_true_eq] at hr
    refine trodAll_cons_mk (WideElems.Trod_stays hl hr.1.1 hr.1.2 h1 (fun x hx => hb.same (hlt x (by simp [hx]))) (fun x hx => hsp x (by simp [hx]))) (trodAll_stays hl hb (by simpa using hr.2) h2 (fun x hx => hlt x (by simp [hx])) (fun x hx => hsp x (by simp [hx])))
end Go.Ax

namespace Go.Ax
open Go.Proofs Go.RowKit Go.Shelf Go.Lib Go.ChangeShapes Go.Proofs.YtdobclfcondfcaaGreatDoor
set_option maxRecDepth 100000
theorem tabIs_of_reads {P : Program} {W : World} {name : String} {k : IntKind} {zs : List Int} {g : Nat} {t e : TypeId} {n : Nat}
    (hg : P.globalNamed name = some g) (hty : (P.globals[g]?).map (·.type) = some t) (ht : P.underlying t = some (.array n e)) (he : P.underlying e = some (.int k)) (hce : P.cellsOf e = 1) (hct : P.cellsOf t = n)
    (h : VarReads P W name (tabData k zs)) : TabIs P W name k zs := by
  obtain ⟨g', t', cs, fuel, p, hg', ht', hvar, hd⟩ := h
  obtain rfl := Option.some.inj (hg.symm.trans hg')
  obtain rfl := Option.some.inj (hty.symm.trans ht')
  unfold TabIs
  rw [hvar, ← cells_of_tab ht he hce hct hd]
theorem andT {a b : Bool} (ha : a = true) (hb : b = true) : (a && b) = true := by rw [ha, hb]; rfl
theorem laidOut : laidOutB Tryz.prog = true := by kernel_rfl
theorem own : ownKnob Tryz.prog.godebug = none := by kernel_rfl
theorem powG_of {W : World} (h : VarReads Tryz.prog W "internal/strconv.uint64pow10" Rows.laid_internal_strconv_uint64pow10) : PowG W :=
  tabIs_of_reads (k := .u64) (zs := Lib.pow10Tab) (g := 4) (by kernel_rfl) (t := 303) (by kernel_rfl) Tryz.underlying303 Tryz.underlying243 (by kernel_rfl) (by kernel_rfl) h
noncomputable abbrev N0 : Nat := (World.settled Tryz.prog default).heap.size
noncomputable def laidWorld (os : Os) : World :=
  let N := (World.settled Tryz.prog os).heap.size
  let ρ := Tryz.lays200_ren
  let w0 := World.holding Tryz.prog os ⟨#[
    .cells (rgCells .u16 letterT.r16) (ρ.t 198), .cells (rgCells .u32 letterT.r32) (ρ.t 201),
    .cells #[.slice (some ⟨N, 0, none⟩) letterT.r16.size letterT.r16.size, .slice (some ⟨N + 1, 0, none⟩) letterT.r32.size letterT.r32.size, .int .i64 letterT.off] (ρ.t 196),
    .cells #[.string ⟨#[105, 110, 118, 97, 108, 105, 100, 32, 115, 121, 110, 116, 97, 120]⟩] 333, .cells #[.string ⟨#[118, 97, 108, 117, 101, 32, 111, 117, 116, 32, 111, 102, 32, 114, 97, 110, 103, 101]⟩] 333], #[], []⟩
  let put (h : Array Obj) (g : Nat) (cs : Array Value) : Array Obj := h.modify g fun
    | .cells _ t frozen => .cells cs t frozen
    | o => o
  let h1 := put w0.heap 2 (Lib.propertiesTab.map fun z => Value.int .u8 z).toArray
  let h2 := put h1 3 #[.pointer (some ⟨N + 2, 0, none⟩)]
  let h3 := put h2 0 (Lib.firstTab.map fun z => Value.int .u8 z).toArray
  let h4 := put h3 1 ((List.range 16).flatMap fun i => [Value.int .u8 (Lib.accLo i), Value.int .u8 (Lib.accHi i)]).toArray
  let h5 := put h4 9 (Tryz.deB.map fun z => Value.int .u8 z).toArray
  let h6 := put h5 4 (Lib.pow10Tab.map fun z => Value.int .u64 z).toArray
  let h7 := put h6 8 ([0, 1, 28, 2, 29, 14, 24, 3, 30, 22, 20, 15, 25, 17, 4, 8, 31, 27, 13, 23, 21, 19, 16, 7, 26, 12, 18, 6, 11, 5, 10, 9].map fun z => Value.int .u8 z).toArray
  let h8 := put h7 6 #[.iface 331 (.pointer (some ⟨N + 3, 0, none⟩))]
  let h9 := put h8 7 #[.iface 331 (.pointer (some ⟨N + 4, 0, none⟩))]
  { w0 with heap := h9 }
noncomputable abbrev memOf (os : Os) (args : Array Value) : World := ((laidWorld os).forCall (fun _ _ => 0) ⟨#[], args, []⟩).memory
theorem pieceB (os : Os) (args : Array Value) : LaidIn Tryz.prog (memOf os args) [("math/bits.deBruijn32tab", Rows.laid_math_bits_deBruijn32tab), ("math/bits.deBruijn64tab", Rows.laid_math_bits_deBruijn64tab), ("internal/strconv.uint64pow10", Rows.laid_internal_strconv_uint64pow10)] [8, 9, 4] :=
  LaidIn.of_run [8, 9, 4] 8 (by kernel_rfl) (by kernel_rfl) (by kernel_rfl) (by kernel_rfl)
theorem pieceF (os : Os) (args : Array Value) : LaidIn Tryz.prog (memOf os args) [("unicode/utf8.first", Rows.laid_unicode_utf8_first)] [0] :=
  LaidIn.of_run [0] 8 (by kernel_rfl) (by kernel_rfl) (by kernel_rfl) (by kernel_rfl)
theorem pieceE (os : Os) (args : Array Value) : LaidIn Tryz.prog (memOf os args) [("strconv.ErrRange", Rows.laid_strconv_ErrRange), ("strconv.ErrSyntax", Rows.laid_strconv_ErrSyntax)] [7, N0 + 4, 6, N0 + 3] :=
  LaidIn.of_run [7, N0 + 4, 6, N0 + 3] 8 (by kernel_rfl) (by kernel_rfl) (by kernel_rfl) (by kernel_rfl)
theorem pieceA (os : Os) (args : Array Value) : LaidIn Tryz.prog (memOf os args) [("unicode/utf8.acceptRanges", Rows.laid_unicode_utf8_acceptRanges)] [1] :=
  LaidIn.of_run [1] 8 (by kernel_rfl) (by kernel_rfl) (by kernel_rfl) (by kernel_rfl)
theorem laidInE (os : Os) (args : Array Value) : LaidIn Tryz.prog (memOf os args) [("math/bits.deBruijn32tab", Rows.laid_math_bits_deBruijn32tab), ("math/bits.deBruijn64tab", Rows.laid_math_bits_deBruijn64tab), ("internal/strconv.uint64pow10", Rows.laid_internal_strconv_uint64pow10), ("unicode/utf8.acceptRanges", Rows.laid_unicode_utf8_acceptRanges), ("strconv.ErrRange", Rows.laid_strconv_ErrRange), ("strconv.ErrSyntax", Rows.laid_strconv_ErrSyntax), ("unicode/utf8.first", Rows.laid_unicode_utf8_first)] ([8, 9, 4] ++ ([1] ++ ([7, N0 + 4, 6, N0 + 3] ++ [0]))) :=
  (pieceB os args).append ((pieceA os args).append ((pieceE os args).append (pieceF os args) (by kernel_rfl)) (by kernel_rfl)) (by kernel_rfl)
theorem post_law {H : Type} {enc : TypeId × Value → H} {fn : Func} {s : ChangeSpec} (hv : s.vars = []) (hres : fn.resultTypes = #[4]) (hro : (fn.params.toList.all fun t => Tryz.prog.readableRec t && decide (t < Tryz.prog.types.size)) = true)
    {W W' : World} {args : Array Value} {ds gs : List (DataW H)} {before : List MemPlace} (hW : DataW.Whole enc Tryz.prog fn.params.toList s.vars false W args.toList ds gs before)
    (hfn : s.fn H (ds ++ gs) = { results := [.lit (.bool true)], args := ds }) (hb : Below W.heap.size W W') : s.post enc Tryz.prog fn false true false false W args (.bool true) W' := by
  have hW' := hW
  obtain ⟨p, q, hA, hV, rfl, _, _⟩ := hW
  rw [hv] at hV
  obtain ⟨rfl, rfl⟩ := trodVars_none hV
  have hlt : ∀ x ∈ p ++ [], x.block < W.heap.size := fun x hx => by simpa using hW'.lt x hx
  refine ⟨ds, [], p ++ [], [], p, [], hW', ?_, ?_, ?_, hb.frame _, fun h => by cases h⟩
  · rw [hfn, hres]; exact trodAll_mk1 (shut_bool Tryz.underlying4 _)
  · rw [hfn]; exact trodAll_stays laidOut hb hro hA (fun x hx => hlt x (by simp [hx])) (fun x hx => by simpa using hlt x (by simp [hx]))
  · rw [hfn, hv]; exact rfl
end Go.Ax

namespace Go.Ax
open Go.Proofs Go.RowKit Go.Shelf Go.Lib
set_option maxRecDepth 10000
theorem Ctr.ofAny {E : Env} {f : FuncId} {xs : List Value} {x : AV} (hb : Bodied E.P f) (hm : ∀ r, x.ment r = false) (h : ∀ w, E.G w → Calls E.P f xs.toArray w fun e w' => ∃ v, e = .returned v ∧ (∀ h Im ρ, RA h Im ρ v x) ∧ Below w.heap.size w w') : Ctr E f (vals xs) [] fun o => o = .ret x [] := by
  refine ⟨hb, fun w Im ρ vs hG hIm hgl hsz hra hrel => ?_⟩
  rw [args_vals hsz hra]
  refine (h w hG).mono fun e w' ⟨v, he, hr, hB⟩ => ?_
  subst he
  exact ⟨_, [], Im, _, rfl, hr _ _ _, fun r h => by rw [hm r] at h; exact absurd h (by simp), after_below hIm hB⟩
theorem index1_ctr (g : GP) (s : ByteArray) (c : UInt8) : Ctr (ax g).E 181 [.str s, .str ⟨#[c]⟩] [] fun o => o = .ret (.i64 (Lib.indexByte s.data.toList c)) [] :=
  Ctr.ofVal (E := (ax g).E) (f := 181) (xs := [.string s, .string ⟨#[c]⟩]) ⟨_, Tryz.func181, rfl, by decide +kernel⟩ rfl fun w _ => (Tryz.strings_Index_one s c w).mono fun e w' ⟨h1, h2⟩ => ⟨h1, by rw [h2]; exact Below.refl _ _⟩
structure ErrG (w : World) : Prop where
  syn : ∃ tp p, w.var? Tryz.prog "strconv.ErrSyntax" = some #[.iface tp p]
  rng : ∃ tp p, w.var? Tryz.prog "strconv.ErrRange" = some #[.iface tp p]
theorem atoi_cases (l : List UInt8) : (∃ v, Lib.atoiAll l = .ok v) ∨ ((∀ v, Lib.atoiAll l ≠ .ok v) ∧ Lib.atoiAll l ≠ .range) ∨ Lib.atoiAll l = .range := by
  cases Lib.atoiAll l <;> simp
def atoiV (l : List UInt8) : AV := match Lib.atoiAll l with
  | .ok v => .tup [.i64 v, .d (.v .nilIface)]
  | _ => .tup [.junk, .ifc 310 .junk]
theorem atoiV_bad {l : List UInt8} (h : ∀ v, Lib.atoiAll l ≠ .ok v) : atoiV l = .tup [.junk, .ifc 310 .junk] := by
  unfold atoiV
  cases hx : Lib.atoiAll l <;> first | rfl | exact absurd hx (h _)
theorem atoiV_ok {l : List UInt8} {v : Int} (h : Lib.atoiAll l = .ok v) : atoiV l = .tup [.i64 v, .d (.v .nilIface)] := by unfold atoiV; rw [h]
theorem RA.tup2 {h : Nat → Option Obj} {Im : Nat → Prop} {ρ : Nat → Option Loc} {a b : Value} {x y : AV} (h1 : RA h Im ρ a x) (h2 : RA h Im ρ b y) : RA h Im ρ (.tuple #[a, b]) (.tup [x, y]) :=
  .tup _ _ rfl fun i v z e1 e2 => by
    match i, e1, e2 with
    | 0, e1, e2 => simp at e1 e2; subst e1; subst e2; exact h1
    | 1, e1, e2 => simp at e1 e2; subst e1; subst e2; exact h2
    | i + 2, e1, _ => simp at e1
theorem atoi_ctr (g : GP) (hg : ∀ w, g.G w → ErrG w) (s : ByteArray) (hs : s.size ≤ 281474976710656) : Ctr (ax g).E 222 [.str s] [] fun o => o = .ret (atoiV s.data.toList) [] := by
  have hb : Bodied (ax g).E.P 222 := ⟨_, Tryz.func222, rfl, by decide +kernel⟩
  rcases atoi_cases s.data.toList with ⟨v, h⟩ | ⟨h, h'⟩ | h
  · rw [atoiV_ok h]
    refine Ctr.ofAny (xs := [.string s]) hb (fun r => rfl) fun w hG => (Tryz.strconv_Atoi_ok s (by omega) v h w).mono fun e w' ⟨h1, h2⟩ => ⟨_, h1, fun h Im ρ => .tup2 (.d _ _ (.v _ rfl)) (.d _ _ (.v _ rfl)), ?_⟩
    rcases h2 with h2 | ⟨t, h2⟩
    · rw [h2]; exact Below.refl _ _
    · rw [h2]; exact Go.Joins.below_bytesWorld _ _ _ _ (Nat.le_refl _)
  · rw [atoiV_bad h]
    refine Ctr.ofAny (xs := [.string s]) hb (fun r => rfl) fun w hG => ?_
    obtain ⟨tp, p, hv⟩ := (hg w hG).syn
    exact (Tryz.strconv_Atoi_syntax_var s hs h h' tp p w hv).mono fun e w' ⟨N, h1, _, _, h2⟩ => ⟨_, h1, fun h Im ρ => .tup2 (.junk _) (.ifc _ _ _ (.junk _)), h2⟩
  · rw [atoiV_bad (by rw [h]; intro v hv; cases hv)]
    refine Ctr.ofAny (xs := [.string s]) hb (fun r => rfl) fun w hG => ?_
    obtain ⟨tp, p, hv⟩ := (hg w hG).rng
    exact (Tryz.strconv_Atoi_range_var s hs h tp p w hv).mono fun e w' ⟨N, h1, _, _, h2⟩ => ⟨_, h1, fun h Im ρ => .tup2 (.junk _) (.ifc _ _ _ (.junk _)), h2⟩
end Go.Ax

namespace Go.Ax
open Go.Proofs Go.RowKit Go.Shelf Go.Lib Go.ChangeShapes Go.Proofs.YtdobclfcondfcaaGreatDoor
set_option maxRecDepth 100000
theorem gES : Tryz.prog.globalNamed "strconv.ErrSyntax" = some 6 := by kernel_rfl
theorem gER : Tryz.prog.globalNamed "strconv.ErrRange" = some 7 := by kernel_rfl
theorem starE : "*" ++ "errors.errorString" = "*errors.errorString" := by decide
theorem rowE (u : TypeId) (h : Tryz.prog.typeName? 3 u = some "*errors.errorString") : u = 331 :=
  typeName_ptr_named (nm := "errors.errorString") (by rw [starE]; kernel_rfl) (by kernel_rfl) (by decide) u (by rw [starE]; exact h)
theorem var_old {W w : World} (h : Old W w) {n : String} {cs : Array Value} (hv : W.var? Tryz.prog n = some cs) : w.var? Tryz.prog n = some cs := by
  unfold World.var? at hv ⊢
  cases hg : Tryz.prog.globalNamed n with
  | none => rw [hg] at hv; simp at hv
  | some g =>
    rw [hg] at hv
    simp only [Option.bind_some] at hv ⊢
    have hlt : g < W.heap.size := by
      rcases Nat.lt_or_ge g W.heap.size with h' | h'
      · exact h'
      · simp [Array.getElem?_eq_none h'] at hv
    rw [h.block g hlt]; exact hv
theorem ErrG.old {W w : World} (h : Old W w) (hl : ErrG W) : ErrG w where
  syn := let ⟨tp, p, hv⟩ := hl.syn; ⟨tp, p, var_old h hv⟩
  rng := let ⟨tp, p, hv⟩ := hl.rng; ⟨tp, p, var_old h hv⟩
theorem errG_of {W : World} {r : List (String × DataW Unit)} (h : laidMet Tryz.prog (("strconv.ErrRange", Rows.laid_strconv_ErrRange) :: ("strconv.ErrSyntax", Rows.laid_strconv_ErrSyntax) :: r) W) : ErrG W where
  rng := by
    obtain ⟨a, s, hv, _⟩ := laid_sentinel h gER (by kernel_rfl : (Tryz.prog.globals[7]?).map (·.type) = some 96) Tryz.underlying96 rowE Tryz.underlying331 Tryz.underlying333 rfl rfl Tryz.underlying9 (by kernel_rfl) (by kernel_rfl)
    exact ⟨_, _, hv⟩
  syn := by
    obtain ⟨a, s, hv, _⟩ := laid_sentinel h.tail gES (by kernel_rfl : (Tryz.prog.globals[6]?).map (·.type) = some 96) Tryz.underlying96 rowE Tryz.underlying331 Tryz.underlying333 rfl rfl Tryz.underlying9 (by kernel_rfl) (by kernel_rfl)
    exact ⟨_, _, hv⟩
end Go.Ax

namespace Go.Ax
open Go.Proofs Go.RowKit Go.Shelf Go.Lib
theorem join_ctr (g : GP) (t : Bool) (xs : List ByteArray) (sep : ByteArray) (hN : xs.length ≤ 140737488355328) (hlen : (Lib.join (xs.map (·.data.toList)) sep.data.toList).length ≤ 140737488355328) :
    Ctr (ax g).E 65 [.d (.sl t 1 (xs.map fun x => [.v (.string x)])), .d (.v (.string sep))] [] fun o => o = .ret (.d (.v (.string ⟨(Lib.join (xs.map (·.data.toList)) sep.data.toList).toArray⟩))) [] := by
  refine ⟨⟨_, Tryz.func65, rfl, by decide +kernel⟩, fun w Im ρ vs hG hIm hgl hsz hra hrel => ?_⟩
  have h0 := hra 0 (vs.getD 0 undef) _ (by simp at hsz; simp [Array.getD, hsz]) rfl
  have h1 := hra 1 (vs.getD 1 undef) _ (by simp at hsz; simp [Array.getD, hsz]) rfl
  have hvs : vs = #[vs.getD 0 undef, vs.getD 1 undef] := by
    simp at hsz
    apply Array.ext (by simp [hsz])
    intro i h1 h2
    simp at h2
    match i with
    | 0 => simp [Array.getD, hsz]
    | 1 => simp [Array.getD, hsz]
  have hsep := h1.v
  have hfin : ∀ e w', (e = .returned (.string ⟨(Lib.join (xs.map (·.data.toList)) sep.data.toList).toArray⟩) ∧ Below w.heap.size w w') → Ends (fun o => o = .ret (.d (.v (.string ⟨(Lib.join (xs.map (·.data.toList)) sep.data.toList).toArray⟩))) []) w Im ρ [] e w' := fun e w' ⟨he, hB⟩ => by
    subst he
    exact ⟨_, [], Im, _, rfl, RA.intv _ rfl, fun r hr => by simp [AV.ment] at hr, after_below hIm hB⟩
  rw [hvs, hsep]
  have hd := h0.d_inv
  generalize hv : vs.getD 0 undef = v at hd
  generalize hels : (xs.map fun x => [D.v (.string x)]) = els at hd
  cases hd with
  | nil _ _ a cap _ =>
    have hx : xs = [] := by simpa using hels
    subst hx
    exact (Tryz.strings_Join_none a cap sep w).mono fun e w' ⟨h1, h2⟩ => hfin e w' ⟨h1, by rw [h2]; exact Below.refl _ _⟩
  | sl _ _ _ b o cap f hss hb hle _ hcc hr =>
    subst hels
    have := Tryz.strings_Join b o cap xs sep w (fun j x hj => by
      have h1 : (xs.map fun x => [D.v (.string x)])[j]? = some [D.v (.string x)] := by simp [hj]
      obtain ⟨cs, t', fz, e1, e2⟩ := hcc j 0 _ _ h1 rfl
      have e3 := (hr j 0 _ _ h1 rfl).bool
      rw [e3] at e2
      have := cell_hp e1 e2
      simpa using this) (hIm b hb) hN (by simpa using hle) hlen
    simp only [List.length_map]
    exact this.mono hfin
end Go.Ax

namespace Go.Ax
open Go.Proofs
set_option maxRecDepth 10000
theorem join_bound : ∀ (xs : List (List UInt8)) (k : Nat), (∀ x ∈ xs, x.length ≤ k) → (Lib.join xs [44]).length ≤ (k + 1) * xs.length := by
  intro xs
  induction xs with
  | nil => intro k _; simp [Lib.join_nil]
  | cons x r ih =>
    intro k h
    rw [Lib.join_length]
    have : ∀ (ys : List (List UInt8)), (∀ y ∈ ys, y.length ≤ k) → Lib.lens ys ≤ k * ys.length := by
      intro ys
      induction ys with
      | nil => intro _; simp [Lib.lens]
      | cons y ys ih2 =>
        intro h2
        have h3 := ih2 fun y hy => h2 y (by simp [hy])
        have h4 := h2 y (by simp)
        have : Lib.lens (y :: ys) = y.length + Lib.lens ys := by simp [Lib.lens]
        rw [this, List.length_cons, Nat.mul_succ]
        omega
    have h5 := this (x :: r) h
    simp only [List.length_cons, List.length_nil] at h5 ⊢
    rw [Nat.add_mul k 1]
    omega
theorem frzE (r sz n : Nat) (els : List (List D)) (h : n = els.length) : frz r sz els (.msl r n 0 n) = .d (.sl false sz els) := by
  subst h
  have h1 : Nat.ble (0 + els.length) els.length = true := Nat.ble_eq_true_of_le (by omega)
  have h2 : Nat.beq els.length els.length = true := by simp
  have h3 : Nat.beq r r = true := by simp
  show (match r.beq r, els.length.beq els.length, (0 + els.length).ble els.length with
      | true, true, true => AV.d (D.sl false sz (List.take els.length (List.drop 0 els)))
      | _, _, _ => AV.msl r els.length 0 els.length) = AV.d (D.sl false sz els)
  rw [h1, h2, h3]
  simp
end Go.Ax

namespace Go.Ax
open Go.Proofs
set_option maxRecDepth 10000
theorem split_one (c : UInt8) : ∀ l : List UInt8, l.all (· != c) = true → splitL c l = [l]
  | [], _ => rfl
  | b :: r, h => by
    simp only [List.all_cons, Bool.and_eq_true, bne_iff_ne, ne_eq] at h
    rw [splitL, if_neg fun e => h.1 e.symm, split_one c r h.2]
theorem split_app (c : UInt8) : ∀ (l r : List UInt8), l.all (· != c) = true → splitL c (l ++ c :: r) = l :: splitL c r
  | [], r, _ => by rw [List.nil_append, splitL, if_pos rfl]
  | b :: l, r, h => by
    simp only [List.all_cons, Bool.and_eq_true, bne_iff_ne, ne_eq] at h
    rw [List.cons_append, splitL, if_neg fun e => h.1 e.symm, split_app c l r h.2]
end Go.Ax

namespace Go.Ax
open Go.Proofs
set_option maxRecDepth 10000
def nameL : List (List UInt8) := [[115, 119], [112, 116], [115, 114, 99], [100, 115, 116], [116, 121, 112], [115, 118, 99], [118, 105, 100], [111, 112, 116]]
def nameF (i : Nat) : List UInt8 := nameL.getD i []
def fieldGo (s : List UInt8) : List (List UInt8) → Nat → Option Nat
  | [], _ => none
  | x :: r, i => if x = s then some i else fieldGo s r (i + 1)
def fieldK (s : List UInt8) : Option Nat := fieldGo s nameL 0
theorem fieldGo_drop (s : List UInt8) (i : Nat) (h : i < 8) : fieldGo s (nameL.drop i) i = if nameF i = s then some i else fieldGo s (nameL.drop (i + 1)) (i + 1) := by
  have hl : i < nameL.length := h
  rw [List.drop_eq_getElem_cons hl, fieldGo]
  have : nameF i = nameL[i] := by unfold nameF; simp [List.getD, hl]
  rw [this]
def isD (c : UInt8) : Bool := decide (48 ≤ c.toNat) && decide (c.toNat ≤ 57)
def valD (a : Nat) (l : List UInt8) : Nat := l.foldl (fun a c => a * 10 + (c.toNat - 48)) a
def numK (l : List UInt8) : Option Nat := if l.length < 1 ∨ 5 < l.length ∨ l.all isD = false ∨ 65535 < valD 0 l then none else some (valD 0 l)
theorem valD_bound : ∀ (l : List UInt8) (a : Nat), l.all isD = true → valD a l < (a + 1) * 10 ^ l.length
  | [], a, _ => by simp [valD]
  | c :: r, a, h => by
    simp only [List.all_cons, Bool.and_eq_true] at h
    have h1 : c.toNat ≤ 57 ∧ 48 ≤ c.toNat := by
      have := h.1; unfold isD at this; simp at this; omega
    have ih := valD_bound r (a * 10 + (c.toNat - 48)) h.2
    have e : valD a (c :: r) = valD (a * 10 + (c.toNat - 48)) r := rfl
    rw [e, List.length_cons, Nat.pow_succ]
    refine Nat.lt_of_lt_of_le ih ?_
    rw [Nat.mul_comm (10 ^ r.length) 10, ← Nat.mul_assoc]
    exact Nat.mul_le_mul_right _ (by omega)
theorem valD_mono : ∀ (l : List UInt8) (a : Nat), l.all isD = true → a ≤ valD a l
  | [], a, _ => Nat.le_refl a
  | c :: r, a, h => by
    simp only [List.all_cons, Bool.and_eq_true] at h
    have := valD_mono r (a * 10 + (c.toNat - 48)) h.2
    have e : valD a (c :: r) = valD (a * 10 + (c.toNat - 48)) r := rfl
    rw [e]; omega
theorem valD_append (l r : List UInt8) (a : Nat) : valD a (l ++ r) = valD (valD a l) r := by unfold valD; rw [List.foldl_append]
theorem dec_len : ∀ (k n : Nat), n < 10 ^ (k + 1) → (Lib.decDigits n).length ≤ k + 1
  | 0, n, h => by rw [Lib.decDigits_one (by simpa using h)]; simp
  | k + 1, n, h => by
    by_cases h1 : n < 10
    · rw [Lib.decDigits_one h1]; simp
    · rw [Lib.decDigits, dif_neg h1, List.length_append]
      have := dec_len k (n / 10) (by rw [Nat.pow_succ] at h; omega)
      simp; omega
def zeroP : List Nat := [0, 0, 0, 0, 0, 0, 0, 0]
end Go.Ax

namespace Go.Ax
open Go.Proofs
set_option maxRecDepth 10000
theorem pname_ctr (g : GP) (i : Nat) (hi : i < 8) : Ctr (ax g).E 93 [.i64 i] [] (fun o => o = .ret (.str (baL (nameF i))) []) := by
  obtain rfl | rfl | rfl | rfl | rfl | rfl | rfl | rfl : i = 0 ∨ i = 1 ∨ i = 2 ∨ i = 3 ∨ i = 4 ∨ i = 5 ∨ i = 6 ∨ i = 7 := by omega
  all_goals
    refine Ctr.body (X := ax g) _ 20 [] [.tmp 2] Tryz.func93 rfl rfl rfl rfl (by decide +kernel) rfl rfl ?_
    conv => whnf
    repeat' (first | (refine And.intro (by first | exact rfl | decide | exact Nat.le_of_ble_eq_true rfl | exact ⟨_, rfl⟩ | exact ⟨_, _, rfl⟩ | exact Nat.le_refl _ | exact Int.le_refl _ | omega | (simp only [List.length_map]; omega) | exact True.intro | (simp only [IntKind.wrap_i64, List.length_map]; omega) | (simp only [List.map_cons, List.map_nil, List.length_cons, Option.getD]; omega) | (simp only [bsz, ByteArray.size_append, List.size_toArray, List.length_cons, List.length_nil]; omega) | exact ⟨⟨_, _, rfl, rfl, Nat.le_of_ble_eq_true rfl⟩, trivial⟩ | exact ⟨⟨_, _, rfl, rfl, Nat.le_of_ble_eq_true rfl⟩, ⟨_, _, rfl, rfl, Nat.le_of_ble_eq_true rfl⟩, trivial⟩ | exact ⟨⟨_, _, rfl, rfl, Nat.le_of_ble_eq_true rfl⟩, ⟨_, _, rfl, rfl, Nat.le_of_ble_eq_true rfl⟩, ⟨_, _, rfl, rfl, Nat.le_of_ble_eq_true rfl⟩, trivial⟩) ?_; conv => whnf) | (refine ifB_intro (fun hA => ?_) (fun hA => ?_) <;> (try rw [hA]) <;> (conv => whnf) <;> (first | replace hA := of_decide_eq_true hA | replace hA := of_decide_eq_false hA | replace hA := eq_of_beq hA | replace hA := ne_of_beq_false hA | replace hA := bne_iff_ne.1 hA | replace hA := bne_eq_false_iff_eq.1 hA | skip) <;> (try simp only [List.length_map, cond_true, cond_false, Bool.not_eq_true', Bool.not_eq_false', beq_iff_eq, beq_eq_false_iff_ne, ne_eq] at hA)) | (exfalso; omega) | (rw [getD_map _ _ _ _ (by assumption)]; conv => whnf))
    refine ⟨⟨[], ?_⟩⟩
    conv => whnf
    rfl
theorem ba_toList (l : List UInt8) : (baL l).data.toList = l := by simp [baL]
theorem ba_of (s : ByteArray) : baL s.data.toList = s := by apply ByteArray.ext; simp [baL]
def fieldV (o : Option Nat) : AV := .tup [.i64 ((o.getD 0 : Nat) : Int), .bool o.isSome]
theorem field_ctr (g : GP) (s : ByteArray) : Ctr (ax g).E 92 [.str s] [] (fun o => o = .ret (fieldV (fieldK s.data.toList)) []) := by
  refine Ctr.body (X := ax g) _ 14 [] [.tmp 2, .tmp 3] Tryz.func92 rfl rfl rfl rfl (by decide +kernel) rfl rfl ?_
  conv => whnf
  refine LoopP.inv (X := ax g) (fun i : Nat => { f := [(0, .str s), (2, .i64 0), (3, .bool false), (5, .i64 i)], h := [] }) (fun i => i ≤ 8 ∧ fieldK s.data.toList = fieldGo s.data.toList (nameL.drop i) i) (fun i => 8 - i) 0 ⟨Nat.zero_le _, rfl⟩ ⟨⟨rfl, rfl, rfl, rfl, trivial⟩, trivial⟩ fun i ⟨hi, he⟩ => ?_
  conv => whnf
  refine ifB_intro (fun h => ?_) (fun h => ?_)
  · have h : i < 8 := by first | (have h0 := of_decide_eq_true h; omega) | (have h0 := of_decide_eq_false h; omega) | (have h0 := h; simp at h0; omega) | (have h0 := h; simp at h0; exact h0)
    rw [fieldGo_drop _ i h] at he
    conv => whnf
    repeat' (first | (refine And.intro (by first | exact rfl | decide | exact Nat.le_of_ble_eq_true rfl | exact ⟨_, rfl⟩ | exact ⟨_, _, rfl⟩ | exact Nat.le_refl _ | exact Int.le_refl _ | omega | (simp only [List.length_map]; omega) | exact True.intro | (simp only [IntKind.wrap_i64, List.length_map]; omega) | (simp only [List.map_cons, List.map_nil, List.length_cons, Option.getD]; omega) | (simp only [bsz, ByteArray.size_append, List.size_toArray, List.length_cons, List.length_nil]; omega) | exact ⟨⟨_, _, rfl, rfl, Nat.le_of_ble_eq_true rfl⟩, trivial⟩ | exact ⟨⟨_, _, rfl, rfl, Nat.le_of_ble_eq_true rfl⟩, ⟨_, _, rfl, rfl, Nat.le_of_ble_eq_true rfl⟩, trivial⟩ | exact ⟨⟨_, _, rfl, rfl, Nat.le_of_ble_eq_true rfl⟩, ⟨_, _, rfl, rfl, Nat.le_of_ble_eq_true rfl⟩, ⟨_, _, rfl, rfl, Nat.le_of_ble_eq_true rfl⟩, trivial⟩) ?_; conv => whnf) | (refine ifB_intro (fun hA => ?_) (fun hA => ?_) <;> (try rw [hA]) <;> (conv => whnf) <;> (first | replace hA := of_decide_eq_true hA | replace hA := of_decide_eq_false hA | replace hA := eq_of_beq hA | replace hA := ne_of_beq_false hA | replace hA := bne_iff_ne.1 hA | replace hA := bne_eq_false_iff_eq.1 hA | skip) <;> (try simp only [ne_eq] at hA)) | (refine CallP.det (pname_ctr g i h) ?_; conv => whnf) | (refine CallD.det (pname_ctr g i h) ?_; conv => whnf) | (rw [getD_map _ _ _ _ (by assumption)]; conv => whnf))
    · rw [ba_toList] at hA
      rw [if_pos hA] at he
      refine ⟨⟨[], ?_⟩⟩
      conv => whnf
      rw [he]; rfl
    · rw [ba_toList] at hA
      rw [if_neg hA] at he
      exact ⟨i + 1, ⟨by omega, he⟩, by omega, ⟨⟨rfl, rfl, rfl, AV.int_eq (i64_succ (by omega)), trivial⟩, trivial⟩⟩
  · have h : ¬ i < 8 := by first | (have h0 := of_decide_eq_true h; omega) | (have h0 := of_decide_eq_false h; omega) | (have h0 := h; simp at h0; omega) | (have h0 := h; simp at h0; exact h0)
    have : i = 8 := by omega
    subst this
    conv => whnf
    refine ⟨⟨[], ?_⟩⟩
    conv => whnf
    rw [he]; rfl
def rowW (l : List UInt8) : List D := [.v (.string (baL l))]
theorem names_ctr (g : GP) : Ctr (ax g).E 143 [] [] (fun o => o = .ret (.d (.sl true 1 (nameL.map rowW))) []) := by
  refine Ctr.body (X := ax g) _ 2 [] [.tmp 0] Tryz.func143 rfl rfl rfl rfl (by decide +kernel) rfl rfl ?_
  conv => whnf
  repeat' (first | (refine And.intro (by first | exact rfl | decide | exact Nat.le_of_ble_eq_true rfl | exact ⟨_, rfl⟩ | exact ⟨_, _, rfl⟩ | exact Nat.le_refl _ | exact Int.le_refl _ | omega | (simp only [List.length_map]; omega) | exact True.intro | (simp only [IntKind.wrap_i64, List.length_map]; omega) | (simp only [List.map_cons, List.map_nil, List.length_cons, Option.getD]; omega) | (simp only [bsz, ByteArray.size_append, List.size_toArray, List.length_cons, List.length_nil]; omega) | exact ⟨⟨_, _, rfl, rfl, Nat.le_of_ble_eq_true rfl⟩, trivial⟩ | exact ⟨⟨_, _, rfl, rfl, Nat.le_of_ble_eq_true rfl⟩, ⟨_, _, rfl, rfl, Nat.le_of_ble_eq_true rfl⟩, trivial⟩ | exact ⟨⟨_, _, rfl, rfl, Nat.le_of_ble_eq_true rfl⟩, ⟨_, _, rfl, rfl, Nat.le_of_ble_eq_true rfl⟩, ⟨_, _, rfl, rfl, Nat.le_of_ble_eq_true rfl⟩, trivial⟩) ?_; conv => whnf) | (refine ifB_intro (fun hA => ?_) (fun hA => ?_) <;> (try rw [hA]) <;> (conv => whnf) <;> (first | replace hA := of_decide_eq_true hA | replace hA := of_decide_eq_false hA | replace hA := eq_of_beq hA | replace hA := ne_of_beq_false hA | replace hA := bne_iff_ne.1 hA | replace hA := bne_eq_false_iff_eq.1 hA | skip) <;> (try simp only [List.length_map, cond_true, cond_false, Bool.not_eq_true', Bool.not_eq_false', beq_iff_eq, beq_eq_false_iff_ne, ne_eq] at hA)) | (rw [getD_map _ _ _ _ (by assumption)]; conv => whnf))
  refine ⟨⟨[], ?_⟩⟩
  conv => whnf
  rfl
theorem refField_ctr (g : GP) (s : ByteArray) : Ctr (ax g).E 121 [.str s] [] (fun o => o = .ret (.i64 (match fieldK s.data.toList with | some i => (i : Int) | none => -1)) []) := by
  refine Ctr.body (X := ax g) _ 19 [] [.tmp 2] Tryz.func121 rfl rfl rfl rfl (by decide +kernel) rfl rfl ?_
  conv => whnf
  repeat' (first | (refine And.intro (by first | exact rfl | decide | exact Nat.le_of_ble_eq_true rfl | exact ⟨_, rfl⟩ | exact ⟨_, _, rfl⟩ | exact Nat.le_refl _ | exact Int.le_refl _ | omega | (simp only [List.length_map]; omega) | exact True.intro | (simp only [IntKind.wrap_i64, List.length_map]; omega) | (simp only [List.map_cons, List.map_nil, List.length_cons, Option.getD]; omega) | (simp only [bsz, ByteArray.size_append, List.size_toArray, List.length_cons, List.length_nil]; omega) | exact ⟨⟨_, _, rfl, rfl, Nat.le_of_ble_eq_true rfl⟩, trivial⟩ | exact ⟨⟨_, _, rfl, rfl, Nat.le_of_ble_eq_true rfl⟩, ⟨_, _, rfl, rfl, Nat.le_of_ble_eq_true rfl⟩, trivial⟩ | exact ⟨⟨_, _, rfl, rfl, Nat.le_of_ble_eq_true rfl⟩, ⟨_, _, rfl, rfl, Nat.le_of_ble_eq_true rfl⟩, ⟨_, _, rfl, rfl, Nat.le_of_ble_eq_true rfl⟩, trivial⟩) ?_; conv => whnf) | (refine ifB_intro (fun hA => ?_) (fun hA => ?_) <;> (try rw [hA]) <;> (conv => whnf) <;> (first | replace hA := of_decide_eq_true hA | replace hA := of_decide_eq_false hA | replace hA := eq_of_beq hA | replace hA := ne_of_beq_false hA | replace hA := bne_iff_ne.1 hA | replace hA := bne_eq_false_iff_eq.1 hA | skip) <;> (try simp only [List.length_map, cond_true, cond_false, Bool.not_eq_true', Bool.not_eq_false', beq_iff_eq, beq_eq_false_iff_ne, ne_eq] at hA)) | (refine CallP.det (names_ctr g) ?_; conv => whnf) | (refine CallD.det (names_ctr g) ?_; conv => whnf) | (rw [getD_map _ _ _ _ (by assumption)]; conv => whnf))
  refine LoopP.inv (X := ax g) (fun i : Nat => { f := [(0, .str s), (2, .i64 0), (3, .d (.sl true 1 (nameL.map rowW))), (4, .i64 i)], h := [] }) (fun i => i ≤ 8 ∧ fieldK s.data.toList = fieldGo s.data.toList (nameL.drop i) i) (fun i => 8 - i) 0 ⟨Nat.zero_le _, rfl⟩ ⟨⟨rfl, rfl, rfl, rfl, trivial⟩, trivial⟩ fun i ⟨hi, he⟩ => ?_
  conv => whnf
  refine ifB_intro (fun h => ?_) (fun h => ?_)
  · have hl : i < nameL.length := by
      have h0 := of_decide_eq_true h
      rw [List.length_map] at h0
      omega
    have h8 : i < 8 := hl
    rw [fieldGo_drop _ i h8] at he
    have hn : nameF i = nameL[i] := by unfold nameF; rw [List.getD, List.getElem?_eq_getElem hl]; rfl
    rw [hn] at he
    conv => whnf
    repeat' (first | (refine And.intro (by first | exact rfl | decide | exact Nat.le_of_ble_eq_true rfl | exact ⟨_, rfl⟩ | exact ⟨_, _, rfl⟩ | exact Nat.le_refl _ | exact Int.le_refl _ | omega | (simp only [List.length_map]; omega) | exact True.intro | (simp only []; omega) | (simp only []; omega) | (simp only []; omega) | exact ⟨⟨_, _, rfl, rfl, Nat.le_of_ble_eq_true rfl⟩, trivial⟩ | exact ⟨⟨_, _, rfl, rfl, Nat.le_of_ble_eq_true rfl⟩, ⟨_, _, rfl, rfl, Nat.le_of_ble_eq_true rfl⟩, trivial⟩ | exact ⟨⟨_, _, rfl, rfl, Nat.le_of_ble_eq_true rfl⟩, ⟨_, _, rfl, rfl, Nat.le_of_ble_eq_true rfl⟩, ⟨_, _, rfl, rfl, Nat.le_of_ble_eq_true rfl⟩, trivial⟩) ?_; conv => whnf) | (refine ifB_intro (fun hA => ?_) (fun hA => ?_) <;> (try rw [hA]) <;> (conv => whnf) <;> (first | replace hA := of_decide_eq_true hA | replace hA := of_decide_eq_false hA | replace hA := eq_of_beq hA | replace hA := ne_of_beq_false hA | replace hA := bne_iff_ne.1 hA | replace hA := bne_eq_false_iff_eq.1 hA | skip) <;> (try simp only [ne_eq] at hA)) | (rw [getD_map _ _ _ _ (by assumption)]; conv => whnf))
    · rw [ba_toList] at hA
      rw [if_pos hA] at he
      refine ⟨⟨[], ?_⟩⟩
      conv => whnf
      rw [he]
    · rw [ba_toList] at hA
      rw [if_neg hA] at he
      exact ⟨i + 1, ⟨by omega, he⟩, by omega, ⟨⟨rfl, rfl, rfl, AV.int_eq (i64_succ (by omega)), trivial⟩, trivial⟩⟩
  · have hl : ¬ i < nameL.length := by
      have h0 := of_decide_eq_false h
      rw [List.length_map] at h0
      omega
    have : i = 8 := by have : nameL.length = 8 := rfl; omega
    subst this
    conv => whnf
    refine ⟨⟨[], ?_⟩⟩
    conv => whnf
    rw [he]; rfl
def cellU (n : Nat) : D := .v (.int .u16 (n : Int))
def rowU (p : List Nat) : List D := p.map cellU
theorem rowU_len (p : List Nat) : (rowU p).length = p.length := by simp [rowU]
theorem rowU_get (p : List Nat) (i : Nat) (h : i < p.length) : (rowU p).getD (i : Int).toNat (.v undef) = .v (.int .u16 ((p.getD i 0 : Nat) : Int)) := by
  unfold rowU cellU; simp [List.getD, h]
def OkK (p : List Nat) : Prop := p.length = 8 ∧ ∀ i, i < 8 → p.getD i 0 < 65536
theorem joinW_bound : ∀ (xs : List (List UInt8)) (k : Nat), (∀ x ∈ xs, x.length ≤ k) → (Lib.join xs [32]).length ≤ (k + 1) * xs.length := by
  intro xs k h
  have e : (Lib.join xs [32]).length = (Lib.join xs [44]).length := by
    cases xs with
    | nil => rfl
    | cons x r => rw [Lib.join_length, Lib.join_length]; rfl
  rw [e]; exact join_bound xs k h
end Go.Ax

namespace Go.Ax
open Go.Proofs Go.RowKit Go.Shelf Go.Lib
set_option maxRecDepth 10000
theorem sindex1_ctr (g : GP) (s : ByteArray) (c : UInt8) : Ctr (ax g).E 224 [.str s, .str ⟨#[c]⟩] [] fun o => o = .ret (.i64 (Lib.indexByte s.data.toList c)) [] :=
  Ctr.ofVal (E := (ax g).E) (f := 224) (xs := [.string s, .string ⟨#[c]⟩]) ⟨_, Tryz.func224, rfl, by decide +kernel⟩ rfl fun w _ => (Tryz.stringslite_Index_one s c w).mono fun e w' ⟨h1, h2⟩ => ⟨h1, by rw [h2]; exact Below.refl _ _⟩
def cutV (c : UInt8) (l : List UInt8) : AV := if Lib.indexByte l c = -1 then .tup [.str (baL l), .str ⟨#[]⟩, .bool false] else .tup [.str (baL (l.take (Lib.indexByte l c).toNat)), .str (baL (l.drop ((Lib.indexByte l c).toNat + 1))), .bool true]
theorem scut_ctr (g : GP) (s : ByteArray) (c : UInt8) (hs : s.size < 2 ^ 62) : Ctr (ax g).E 184 [.str s, .str ⟨#[c]⟩] [] fun o => o = .ret (cutV c s.data.toList) [] := by
  have hi := sindex1_ctr g s c
  have hl : s.data.toList.length = s.size := by rw [Array.length_toList]; rfl
  unfold cutV
  rcases index_one c s.data.toList with ⟨h1, h2⟩ | ⟨n, h1, h2, h3⟩ <;> rw [Go.Lib.index_one] at h1
  · rw [h1] at hi ⊢
    refine Ctr.body (X := ax g) _ 23 [] [.tmp 4, .tmp 5, .tmp 6] Tryz.func184 rfl rfl rfl rfl (by decide +kernel) rfl rfl ?_
    conv => whnf
    repeat' (first | (refine And.intro (by first | exact rfl | decide | exact Nat.le_of_ble_eq_true rfl | exact ⟨_, rfl⟩ | exact ⟨_, _, rfl⟩ | exact Nat.le_refl _ | exact Int.le_refl _ | omega | (simp only [List.length_map]; omega) | exact True.intro | (simp only [IntKind.wrap_i64, List.length_map]; omega) | (simp only [List.map_cons, List.map_nil, List.length_cons, Option.getD]; omega) | (simp only [bsz, ByteArray.size_append, List.size_toArray, List.length_cons, List.length_nil]; omega) | exact ⟨⟨_, _, rfl, rfl, Nat.le_of_ble_eq_true rfl⟩, trivial⟩ | exact ⟨⟨_, _, rfl, rfl, Nat.le_of_ble_eq_true rfl⟩, ⟨_, _, rfl, rfl, Nat.le_of_ble_eq_true rfl⟩, trivial⟩ | exact ⟨⟨_, _, rfl, rfl, Nat.le_of_ble_eq_true rfl⟩, ⟨_, _, rfl, rfl, Nat.le_of_ble_eq_true rfl⟩, ⟨_, _, rfl, rfl, Nat.le_of_ble_eq_true rfl⟩, trivial⟩) ?_; conv => whnf) | (refine ifB_intro (fun hA => ?_) (fun hA => ?_) <;> (try rw [hA]) <;> (conv => whnf) <;> (first | replace hA := of_decide_eq_true hA | replace hA := of_decide_eq_false hA | replace hA := eq_of_beq hA | replace hA := ne_of_beq_false hA | replace hA := bne_iff_ne.1 hA | replace hA := bne_eq_false_iff_eq.1 hA | skip) <;> (try simp only [List.length_map, cond_true, cond_false, Bool.not_eq_true', Bool.not_eq_false', beq_iff_eq, beq_eq_false_iff_ne, ne_eq] at hA)) | (refine CallP.det (hi) ?_; conv => whnf) | (refine CallD.det (hi) ?_; conv => whnf) | (rw [getD_map _ _ _ _ (by assumption)]; conv => whnf))
    refine ⟨⟨[], ?_⟩⟩
    conv => whnf
    rw [if_pos rfl, ba_of]
  · rw [h1] at hi ⊢
    have hw1 : IntKind.i64.wrap ((n : Int) + ((⟨#[c]⟩ : ByteArray).size : Int)) = ((n + 1 : Nat) : Int) := by rw [show ((⟨#[c]⟩ : ByteArray).size : Int) = 1 from rfl, IntKind.wrap_i64]; omega
    refine Ctr.body (X := ax g) _ 23 [] [.tmp 4, .tmp 5, .tmp 6] Tryz.func184 rfl rfl rfl rfl (by decide +kernel) rfl rfl ?_
    conv => whnf
    repeat' (first | (refine And.intro (by first | exact rfl | decide | exact Nat.le_of_ble_eq_true rfl | exact ⟨_, rfl⟩ | exact ⟨_, _, rfl⟩ | exact Nat.le_refl _ | exact Int.le_refl _ | omega | (simp only [List.length_map]; omega) | exact True.intro | (simp only [IntKind.wrap_i64]; omega) | (simp only [Option.getD]; omega) | (simp only [bsz, ByteArray.size_append, List.size_toArray, List.length_cons, List.length_nil]; omega) | exact ⟨⟨_, _, rfl, rfl, Nat.le_of_ble_eq_true rfl⟩, trivial⟩ | exact ⟨⟨_, _, rfl, rfl, Nat.le_of_ble_eq_true rfl⟩, ⟨_, _, rfl, rfl, Nat.le_of_ble_eq_true rfl⟩, trivial⟩ | exact ⟨⟨_, _, rfl, rfl, Nat.le_of_ble_eq_true rfl⟩, ⟨_, _, rfl, rfl, Nat.le_of_ble_eq_true rfl⟩, ⟨_, _, rfl, rfl, Nat.le_of_ble_eq_true rfl⟩, trivial⟩) ?_; conv => whnf) | (refine ifB_intro (fun hA => ?_) (fun hA => ?_) <;> (try rw [hA]) <;> (conv => whnf) <;> (first | replace hA := of_decide_eq_true hA | replace hA := of_decide_eq_false hA | replace hA := eq_of_beq hA | replace hA := ne_of_beq_false hA | replace hA := bne_iff_ne.1 hA | replace hA := bne_eq_false_iff_eq.1 hA | skip) <;> (try simp only [List.length_map, cond_true, cond_false, Bool.not_eq_true', Bool.not_eq_false', beq_iff_eq, beq_eq_false_iff_ne, ne_eq] at hA)) | (refine CallP.det (hi) ?_; conv => whnf) | (refine CallD.det (hi) ?_; conv => whnf) | (refine DrawP.intro (X := ax g) (id := 3) B184_3 (by kernel_rfl) (by decide +kernel) ?_; conv => whnf) | (rw [hw1]; conv => whnf) | (exfalso; omega) | (refine And.intro (show (0 : Int) ≤ (n : Int) by omega) ?_; conv => whnf) | (refine And.intro (show (n : Int) ≤ (s.size : Int) by omega) ?_; conv => whnf) | (refine And.intro (show ((n + 1 : Nat) : Int) ≤ (s.size : Int) by omega) ?_; conv => whnf) | (rw [getD_map _ _ _ _ (by assumption)]; conv => whnf))
    have e1 : s.extract ((none : Option Int).getD 0).toNat ((some (n : Int)).getD ((s.size : Nat) : Int)).toNat = baL (s.data.toList.take n) := by rw [← sub_take (by omega)]; rfl
    have e2 : s.extract ((some (((n + 1 : Nat) : Int))).getD 0).toNat ((none : Option Int).getD ((s.size : Nat) : Int)).toNat = baL (s.data.toList.drop (n + 1)) := by rw [← sub_drop]; rfl
    refine ⟨⟨[], ?_⟩⟩
    conv => whnf
    rw [if_neg (by omega), e1, e2]
    rfl
theorem cut_ctr (g : GP) (s : ByteArray) (c : UInt8) (hs : s.size < 2 ^ 62) : Ctr (ax g).E 146 [.str s, .str ⟨#[c]⟩] [] fun o => o = .ret (cutV c s.data.toList) [] := by
  have h := scut_ctr g s c hs
  unfold cutV at h ⊢
  split at h <;> rename_i hc
  · rw [if_pos hc]
    refine Ctr.body (X := ax g) _ 13 [] [.tmp 4, .tmp 5, .tmp 6] Tryz.func146 rfl rfl rfl rfl (by decide +kernel) rfl rfl ?_
    conv => whnf
    repeat' (first | (refine And.intro (by first | exact rfl | decide | exact Nat.le_of_ble_eq_true rfl | exact ⟨_, rfl⟩ | exact ⟨_, _, rfl⟩ | exact Nat.le_refl _ | exact Int.le_refl _ | omega | (simp only [List.length_map]; omega) | exact True.intro | (simp only [IntKind.wrap_i64, List.length_map]; omega) | (simp only [List.map_cons, List.map_nil, List.length_cons, Option.getD]; omega) | (simp only [bsz, ByteArray.size_append, List.size_toArray, List.length_cons, List.length_nil]; omega) | exact ⟨⟨_, _, rfl, rfl, Nat.le_of_ble_eq_true rfl⟩, trivial⟩ | exact ⟨⟨_, _, rfl, rfl, Nat.le_of_ble_eq_true rfl⟩, ⟨_, _, rfl, rfl, Nat.le_of_ble_eq_true rfl⟩, trivial⟩ | exact ⟨⟨_, _, rfl, rfl, Nat.le_of_ble_eq_true rfl⟩, ⟨_, _, rfl, rfl, Nat.le_of_ble_eq_true rfl⟩, ⟨_, _, rfl, rfl, Nat.le_of_ble_eq_true rfl⟩, trivial⟩) ?_; conv => whnf) | (refine ifB_intro (fun hA => ?_) (fun hA => ?_) <;> (try rw [hA]) <;> (conv => whnf) <;> (first | replace hA := of_decide_eq_true hA | replace hA := of_decide_eq_false hA | replace hA := eq_of_beq hA | replace hA := ne_of_beq_false hA | replace hA := bne_iff_ne.1 hA | replace hA := bne_eq_false_iff_eq.1 hA | skip) <;> (try simp only [List.length_map, cond_true, cond_false, Bool.not_eq_true', Bool.not_eq_false', beq_iff_eq, beq_eq_false_iff_ne, ne_eq] at hA)) | (refine CallP.det (h) ?_; conv => whnf) | (refine CallD.det (h) ?_; conv => whnf) | (rw [getD_map _ _ _ _ (by assumption)]; conv => whnf))
    refine ⟨⟨[], ?_⟩⟩
    conv => whnf
  · rw [if_neg hc]
    refine Ctr.body (X := ax g) _ 13 [] [.tmp 4, .tmp 5, .tmp 6] Tryz.func146 rfl rfl rfl rfl (by decide +kernel) rfl rfl ?_
    conv => whnf
    repeat' (first | (refine And.intro (by first | exact rfl | decide | exact Nat.le_of_ble_eq_true rfl | exact ⟨_, rfl⟩ | exact ⟨_, _, rfl⟩ | exact Nat.le_refl _ | exact Int.le_refl _ | omega | (simp only [List.length_map]; omega) | exact True.intro | (simp only [IntKind.wrap_i64, List.length_map]; omega) | (simp only [List.map_cons, List.map_nil, List.length_cons, Option.getD]; omega) | (simp only [bsz, ByteArray.size_append, List.size_toArray, List.length_cons, List.length_nil]; omega) | exact ⟨⟨_, _, rfl, rfl, Nat.le_of_ble_eq_true rfl⟩, trivial⟩ | exact ⟨⟨_, _, rfl, rfl, Nat.le_of_ble_eq_true rfl⟩, ⟨_, _, rfl, rfl, Nat.le_of_ble_eq_true rfl⟩, trivial⟩ | exact ⟨⟨_, _, rfl, rfl, Nat.le_of_ble_eq_true rfl⟩, ⟨_, _, rfl, rfl, Nat.le_of_ble_eq_true rfl⟩, ⟨_, _, rfl, rfl, Nat.le_of_ble_eq_true rfl⟩, trivial⟩) ?_; conv => whnf) | (refine ifB_intro (fun hA => ?_) (fun hA => ?_) <;> (try rw [hA]) <;> (conv => whnf) <;> (first | replace hA := of_decide_eq_true hA | replace hA := of_decide_eq_false hA | replace hA := eq_of_beq hA | replace hA := ne_of_beq_false hA | replace hA := bne_iff_ne.1 hA | replace hA := bne_eq_false_iff_eq.1 hA | skip) <;> (try simp only [List.length_map, cond_true, cond_false, Bool.not_eq_true', Bool.not_eq_false', beq_iff_eq, beq_eq_false_iff_ne, ne_eq] at hA)) | (refine CallP.det (h) ?_; conv => whnf) | (refine CallD.det (h) ?_; conv => whnf) | (rw [getD_map _ _ _ _ (by assumption)]; conv => whnf))
    refine ⟨⟨[], ?_⟩⟩
    conv => whnf
def digB10 : ByteArray := ⟨#[48, 49, 50, 51, 52, 53, 54, 55, 56, 57]⟩
def digC (i : Nat) : List D := (List.range 256).map fun c => .v (.bool (decide (48 ≤ c) && decide (c < 48 + i)))
theorem digC_len (i : Nat) : (digC i).length = 256 := by simp [digC]
theorem digC_get (i c : Nat) (h : c < 256) : (digC i).getD c (.v undef) = .v (.bool (decide (48 ≤ c) && decide (c < 48 + i))) := by
  unfold digC; simp [List.getD, h]
theorem digC_set (i : Nat) (hi : i < 10) : (digC i).set (48 + i) (.v (.bool true)) = digC (i + 1) := by
  apply List.ext_getElem
  · simp [digC]
  · intro c h1 h2
    have hc : c < 256 := by simpa [digC] using h2
    rw [List.getElem_set]
    by_cases h : 48 + i = c
    · subst h; simp [digC]
    · rw [if_neg h]
      simp only [digC, List.getElem_map, List.getElem_range]
      congr 3
      rw [Bool.eq_iff_iff]; simp; omega
theorem digC_zero : digC 0 = List.map D.v (List.replicate 256 (.bool false)) := by
  apply List.ext_getElem
  · simp [digC]
  · intro c h1 h2
    simp only [digC, List.getElem_map, List.getElem_range, List.getElem_replicate]
    congr 2
    rw [Bool.eq_false_iff]; simp
theorem splice_one {α : Type} (l : List α) (x : α) (i : Nat) (h : i < l.length) : splice l [x] i = l.set i x := by
  unfold splice
  rw [List.set_eq_take_append_cons_drop, if_pos h]
  simp
theorem set_ctr (g : GP) : Ctr (ax g).E 228 [.str digB10] [] fun o => o = .ret (.tup [.dagg (digC 10), .bool true]) [] := by
  refine Ctr.body (X := ax g) _ 21 [] [.cell 2 276, .tmp 3] Tryz.func228 rfl rfl rfl rfl (by decide +kernel) rfl rfl ?_
  conv => whnf
  refine LoopP.inv (X := ax g) (fun i : Nat => { f := [(0, .str digB10), (2, .ptr 2 0), (3, .bool false), (4, .i64 i)], h := [(2, some (.dvar 256 (digC i)))] }) (fun i => i ≤ 10) (fun i => 10 - i) 0 (Nat.zero_le _) ⟨⟨rfl, rfl, rfl, rfl, trivial⟩, ⟨fun o h => ?_, trivial⟩⟩ fun i hi => ?_
  · rw [← h, digC_zero]; rfl
  have hby : ∀ i : Nat, i < 10 → byteAt digB10 ((i : Nat) : Int) = ((48 + i : Nat) : Int) := by decide
  conv => whnf
  refine ifB_intro (fun h => ?_) (fun h => ?_)
  · have h : i < 10 := by have h0 := of_decide_eq_true h; have : (digB10.size : Int) = 10 := rfl; omega
    have hb := hby i h
    conv => whnf
    repeat' (first | (refine And.intro (by first | exact rfl | decide | exact Nat.le_of_ble_eq_true rfl | exact ⟨_, rfl⟩ | exact ⟨_, _, rfl⟩ | exact Nat.le_refl _ | exact Int.le_refl _ | omega | (simp only []; omega) | exact True.intro | (simp only [IntKind.wrap_i64, List.length_map]; omega) | (simp only [List.map_cons, List.map_nil, List.length_cons, Option.getD]; omega) | (simp only [bsz, ByteArray.size_append, List.size_toArray, List.length_cons, List.length_nil]; omega) | exact ⟨⟨_, _, rfl, rfl, Nat.le_of_ble_eq_true rfl⟩, trivial⟩ | exact ⟨⟨_, _, rfl, rfl, Nat.le_of_ble_eq_true rfl⟩, ⟨_, _, rfl, rfl, Nat.le_of_ble_eq_true rfl⟩, trivial⟩ | exact ⟨⟨_, _, rfl, rfl, Nat.le_of_ble_eq_true rfl⟩, ⟨_, _, rfl, rfl, Nat.le_of_ble_eq_true rfl⟩, ⟨_, _, rfl, rfl, Nat.le_of_ble_eq_true rfl⟩, trivial⟩) ?_; conv => whnf) | (refine ifB_intro (fun hA => ?_) (fun hA => ?_) <;> (try rw [hA]) <;> (conv => whnf) <;> (first | replace hA := of_decide_eq_true hA | replace hA := of_decide_eq_false hA | replace hA := eq_of_beq hA | replace hA := ne_of_beq_false hA | replace hA := bne_iff_ne.1 hA | replace hA := bne_eq_false_iff_eq.1 hA | skip) <;> (try simp only [List.length_map, cond_true, cond_false, Bool.not_eq_true', Bool.not_eq_false', beq_iff_eq, beq_eq_false_iff_ne, ne_eq] at hA)) | (refine And.intro (show (i : Int) < (digB10.size : Int) from by have : (digB10.size : Int) = 10 := rfl; omega) ?_; conv => whnf) | (rw [hb]; conv => whnf) | (exfalso; omega) | (rw [getD_map _ _ _ _ (by assumption)]; conv => whnf))
    have hs : splice (digC i) [D.v (.bool true)] (0 + ((48 + i : Nat) : Int).toNat * 1) = digC (i + 1) := by
      rw [splice_one _ _ _ (by rw [digC_len]; omega), ← digC_set i h]
      congr 1
      omega
    exact ⟨i + 1, by omega, by omega, ⟨⟨rfl, rfl, rfl, AV.int_eq (i64_succ (by omega)), trivial⟩, ⟨fun o h' => by rw [← h', ← hs]; rfl, trivial⟩⟩⟩
  · have h : i = 10 := by have h0 := of_decide_eq_false h; have : (digB10.size : Int) = 10 := rfl; omega
    subst h
    conv => whnf
    repeat' (first | (refine And.intro (by first | exact rfl | decide | exact Nat.le_of_ble_eq_true rfl | exact ⟨_, rfl⟩ | exact ⟨_, _, rfl⟩ | exact Nat.le_refl _ | exact Int.le_refl _ | omega | (simp only [List.length_map]; omega) | exact True.intro | (simp only [IntKind.wrap_i64, List.length_map]; omega) | (simp only [List.map_cons, List.map_nil, List.length_cons, Option.getD]; omega) | (simp only [bsz, ByteArray.size_append, List.size_toArray, List.length_cons, List.length_nil]; omega) | exact ⟨⟨_, _, rfl, rfl, Nat.le_of_ble_eq_true rfl⟩, trivial⟩ | exact ⟨⟨_, _, rfl, rfl, Nat.le_of_ble_eq_true rfl⟩, ⟨_, _, rfl, rfl, Nat.le_of_ble_eq_true rfl⟩, trivial⟩ | exact ⟨⟨_, _, rfl, rfl, Nat.le_of_ble_eq_true rfl⟩, ⟨_, _, rfl, rfl, Nat.le_of_ble_eq_true rfl⟩, ⟨_, _, rfl, rfl, Nat.le_of_ble_eq_true rfl⟩, trivial⟩) ?_; conv => whnf) | (refine ifB_intro (fun hA => ?_) (fun hA => ?_) <;> (try rw [hA]) <;> (conv => whnf) <;> (first | replace hA := of_decide_eq_true hA | replace hA := of_decide_eq_false hA | replace hA := eq_of_beq hA | replace hA := ne_of_beq_false hA | replace hA := bne_iff_ne.1 hA | replace hA := bne_eq_false_iff_eq.1 hA | skip) <;> (try simp only [List.length_map, cond_true, cond_false, Bool.not_eq_true', Bool.not_eq_false', beq_iff_eq, beq_eq_false_iff_ne, ne_eq] at hA)) | (refine And.intro (show 0 + 256 ≤ (digC 10).length by rw [digC_len]; omega) ?_; conv => whnf) | (rw [getD_map _ _ _ _ (by assumption)]; conv => whnf))
    have hct : cut 0 256 (digC 10) = digC 10 := by
      unfold cut
      rw [List.drop_zero, List.take_of_length_le (by rw [digC_len]; omega)]
    refine ⟨⟨[], ?_⟩⟩
    conv => whnf
    repeat' (first | (refine And.intro (by first | exact rfl | decide | exact Nat.le_of_ble_eq_true rfl | exact ⟨_, rfl⟩ | exact ⟨_, _, rfl⟩ | exact Nat.le_refl _ | exact Int.le_refl _ | omega | (simp only [List.length_map]; omega) | exact True.intro | (simp only [IntKind.wrap_i64, List.length_map]; omega) | (simp only [List.map_cons, List.map_nil, List.length_cons, Option.getD]; omega) | (simp only [bsz, ByteArray.size_append, List.size_toArray, List.length_cons, List.length_nil]; omega) | exact ⟨⟨_, _, rfl, rfl, Nat.le_of_ble_eq_true rfl⟩, trivial⟩ | exact ⟨⟨_, _, rfl, rfl, Nat.le_of_ble_eq_true rfl⟩, ⟨_, _, rfl, rfl, Nat.le_of_ble_eq_true rfl⟩, trivial⟩ | exact ⟨⟨_, _, rfl, rfl, Nat.le_of_ble_eq_true rfl⟩, ⟨_, _, rfl, rfl, Nat.le_of_ble_eq_true rfl⟩, ⟨_, _, rfl, rfl, Nat.le_of_ble_eq_true rfl⟩, trivial⟩) ?_; conv => whnf) | (refine ifB_intro (fun hA => ?_) (fun hA => ?_) <;> (try rw [hA]) <;> (conv => whnf) <;> (first | replace hA := of_decide_eq_true hA | replace hA := of_decide_eq_false hA | replace hA := eq_of_beq hA | replace hA := ne_of_beq_false hA | replace hA := bne_iff_ne.1 hA | replace hA := bne_eq_false_iff_eq.1 hA | skip) <;> (try simp only [List.length_map, cond_true, cond_false, Bool.not_eq_true', Bool.not_eq_false', beq_iff_eq, beq_eq_false_iff_ne, ne_eq] at hA)) | (rw [hct]; conv => whnf) | (rw [getD_map _ _ _ _ (by assumption)]; conv => whnf))
    rw [hct]
theorem byteAt_ba (l : List UInt8) (i : Nat) (h : i < l.length) : byteAt (baL l) ((i : Nat) : Int) = (l[i].toNat : Int) := by
  have hs : i < (baL l).size := by show i < l.toArray.size; simpa using h
  unfold byteAt
  rw [Int.toNat_natCast, dif_pos hs]
  rfl
theorem ba_size (l : List UInt8) : (baL l).size = l.length := by show l.toArray.size = _; simp
theorem contains_ctr' (g : GP) (c : UInt8) : Ctr (ax g).E 256 [.ptr 9300 0, .d (.v (.int .u8 c.toNat))] [(9300, some (.dvar 256 (digC 10)))] fun o => o = .ret (.bool (isD c)) [(9300, some (.dvar 256 (digC 10)))] := by
  have hc := c.toNat_lt
  have hg : (digC 10).getD (0 + (c.toNat : Int).toNat * 1) (.v undef) = .v (.bool (isD c)) := by
    rw [show 0 + (c.toNat : Int).toNat * 1 = c.toNat from by omega, digC_get 10 c.toNat (by omega)]
    unfold isD
    congr 3
    rw [Bool.eq_iff_iff]; simp; omega
  refine Ctr.body (X := ax g) _ 10 [9300] [.tmp 4] Tryz.func256 rfl rfl rfl rfl (by decide +kernel) rfl rfl ?_
  conv => whnf
  repeat' (first | (refine And.intro (by first | exact rfl | decide | exact Nat.le_of_ble_eq_true rfl | exact ⟨_, rfl⟩ | exact ⟨_, _, rfl⟩ | exact Nat.le_refl _ | exact Int.le_refl _ | omega | (simp only []; omega) | exact True.intro | (simp only []; omega) | (simp only []; omega) | (simp only []; omega) | exact ⟨⟨_, _, rfl, rfl, Nat.le_of_ble_eq_true rfl⟩, trivial⟩ | exact ⟨⟨_, _, rfl, rfl, Nat.le_of_ble_eq_true rfl⟩, ⟨_, _, rfl, rfl, Nat.le_of_ble_eq_true rfl⟩, trivial⟩ | exact ⟨⟨_, _, rfl, rfl, Nat.le_of_ble_eq_true rfl⟩, ⟨_, _, rfl, rfl, Nat.le_of_ble_eq_true rfl⟩, ⟨_, _, rfl, rfl, Nat.le_of_ble_eq_true rfl⟩, trivial⟩) ?_; conv => whnf) | (refine ifB_intro (fun hA => ?_) (fun hA => ?_) <;> (try rw [hA]) <;> (conv => whnf) <;> (first | replace hA := of_decide_eq_true hA | replace hA := of_decide_eq_false hA | replace hA := eq_of_beq hA | replace hA := ne_of_beq_false hA | replace hA := bne_iff_ne.1 hA | replace hA := bne_eq_false_iff_eq.1 hA | skip) <;> (try simp only [List.length_map, cond_true, cond_false, Bool.not_eq_true', Bool.not_eq_false', beq_iff_eq, beq_eq_false_iff_ne, ne_eq] at hA)) | (refine And.intro (show 0 + (c.toNat : Int).toNat * 1 + 1 ≤ (digC 10).length by rw [digC_len]; omega) ?_; conv => whnf) | (rw [hg]; conv => whnf) | (rw [getD_map _ _ _ _ (by assumption)]; conv => whnf))
  refine ⟨⟨[(9300, some (.dvar 256 (digC 10)))], ?_⟩⟩
  conv => whnf
  refine And.intro ⟨fun o h => h, trivial⟩ ?_
  conv => whnf
def trimR (l : List UInt8) : List UInt8 := (l.reverse.dropWhile isD).reverse
theorem trimR_snoc (l : List UInt8) (c : UInt8) : trimR (l ++ [c]) = if isD c then trimR l else l ++ [c] := by
  unfold trimR
  rw [List.reverse_append, List.reverse_singleton, List.singleton_append, List.dropWhile_cons]
  split
  · rfl
  · simp
theorem trimRight_ctr (g : GP) (l : List UInt8) (hl : l.length < 2 ^ 62) : Ctr (ax g).E 230 [.str (baL l), .ptr 9300 0] [(9300, some (.dvar 256 (digC 10)))] fun o => o = .ret (.str (baL (trimR l))) [(9300, some (.dvar 256 (digC 10)))] := by
  refine Ctr.body (X := ax g) _ 22 [9300] [.tmp 4] Tryz.func230 rfl rfl rfl rfl (by decide +kernel) rfl rfl ?_
  conv => whnf
  refine LoopP.inv (X := ax g) (fun m : List UInt8 => { f := [(0, .str (baL m)), (1, .ptr 9300 0)], h := [(9300, some (.dvar 256 (digC 10)))] }) (fun m => m.length ≤ l.length ∧ trimR l = trimR m) (fun m => m.length) l ⟨Nat.le_refl _, rfl⟩ ⟨⟨rfl, rfl, trivial⟩, ⟨fun o h => h, trivial⟩⟩ fun m ⟨hm, he⟩ => ?_
  have hms := ba_size m
  conv => whnf
  refine ifB_intro (fun h => ?_) (fun h => ?_)
  · have h0 : 0 < m.length := by have h0 := of_decide_eq_true h; omega
    obtain ⟨m', c, rfl⟩ : ∃ m' c, m = m' ++ [c] := by
      rcases List.eq_nil_or_concat m with h1 | ⟨m', c, h1⟩
      · rw [h1] at h0; simp at h0
      · exact ⟨m', c, by rw [h1, List.concat_eq_append]⟩
    have hl1 : (m' ++ [c]).length = m'.length + 1 := by simp
    have hw : IntKind.i64.wrap (((baL (m' ++ [c])).size : Int) - 1) = ((m'.length : Nat) : Int) := by rw [hms, hl1, IntKind.wrap_i64]; omega
    have hb : byteAt (baL (m' ++ [c])) ((m'.length : Nat) : Int) = (c.toNat : Int) := by
      rw [byteAt_ba _ _ (by omega)]
      simp
    have e1 : (baL (m' ++ [c])).extract ((none : Option Int).getD 0).toNat ((some ((m'.length : Nat) : Int)).getD (((baL (m' ++ [c])).size : Nat) : Int)).toNat = baL m' := by
      have h5 := sub_take (s := baL (m' ++ [c])) (n := m'.length) (by omega)
      rw [ba_toList, List.take_left] at h5
      rw [← h5]; rfl
    have hc := contains_ctr' g c
    rw [trimR_snoc] at he
    conv => whnf
    repeat' (first | (refine And.intro (by first | exact rfl | decide | exact Nat.le_of_ble_eq_true rfl | exact ⟨_, rfl⟩ | exact ⟨_, _, rfl⟩ | exact Nat.le_refl _ | exact Int.le_refl _ | omega | (simp only [List.length_map]; omega) | exact True.intro | (simp only [IntKind.wrap_i64]; omega) | (simp only [Option.getD]; omega) | (simp only [bsz, ByteArray.size_append, List.size_toArray, List.length_cons, List.length_nil]; omega) | exact ⟨⟨_, _, rfl, rfl, Nat.le_of_ble_eq_true rfl⟩, trivial⟩ | exact ⟨⟨_, _, rfl, rfl, Nat.le_of_ble_eq_true rfl⟩, ⟨_, _, rfl, rfl, Nat.le_of_ble_eq_true rfl⟩, trivial⟩ | exact ⟨⟨_, _, rfl, rfl, Nat.le_of_ble_eq_true rfl⟩, ⟨_, _, rfl, rfl, Nat.le_of_ble_eq_true rfl⟩, ⟨_, _, rfl, rfl, Nat.le_of_ble_eq_true rfl⟩, trivial⟩) ?_; conv => whnf) | (refine ifB_intro (fun hA => ?_) (fun hA => ?_) <;> (try rw [hA]) <;> (conv => whnf) <;> (first | replace hA := of_decide_eq_true hA | replace hA := of_decide_eq_false hA | replace hA := eq_of_beq hA | replace hA := ne_of_beq_false hA | replace hA := bne_iff_ne.1 hA | replace hA := bne_eq_false_iff_eq.1 hA | skip) <;> (try simp only [Bool.not_eq_true', Bool.not_eq_false'] at hA)) | (rw [hw]; conv => whnf) | (refine And.intro (show (0 : Int) ≤ ((m'.length : Nat) : Int) by omega) ?_; conv => whnf) | (refine And.intro (show ((m'.length : Nat) : Int) < ((baL (m' ++ [c])).size : Int) by omega) ?_; conv => whnf) | (refine And.intro (show ((m'.length : Nat) : Int) ≤ ((baL (m' ++ [c])).size : Int) by omega) ?_; conv => whnf) | (rw [hb]; conv => whnf) | (refine CallP.upd rfl (hc) ?_; conv => whnf) | (refine CallD.upd rfl (hc) ?_; conv => whnf) | (rw [getD_map _ _ _ _ (by assumption)]; conv => whnf))
    · refine ⟨⟨[(9300, some (.dvar 256 (digC 10)))], ?_⟩⟩
      conv => whnf
      refine And.intro ⟨fun o h => h, trivial⟩ ?_
      conv => whnf
      rw [he, if_neg (by rw [hA]; simp)]
    · exact ⟨m', ⟨by omega, by rw [he, if_pos hA]⟩, by omega, ⟨⟨by rw [← e1, ← hw]; rfl, rfl, trivial⟩, ⟨fun o h => h, trivial⟩⟩⟩
  · have h0 : m = [] := by
      have h0 := of_decide_eq_false h
      have : m.length = 0 := by omega
      exact List.eq_nil_of_length_eq_zero this
    subst h0
    conv => whnf
    refine ⟨⟨[(9300, some (.dvar 256 (digC 10)))], ?_⟩⟩
    conv => whnf
    refine And.intro ⟨fun o h => h, trivial⟩ ?_
    conv => whnf
    rw [he]; rfl
theorem trimLeft_ctr (g : GP) (l : List UInt8) (hl : l.length < 2 ^ 62) : Ctr (ax g).E 229 [.str (baL l), .ptr 9300 0] [(9300, some (.dvar 256 (digC 10)))] fun o => o = .ret (.str (baL (l.dropWhile isD))) [(9300, some (.dvar 256 (digC 10)))] := by
  refine Ctr.body (X := ax g) _ 16 [9300] [.tmp 4] Tryz.func229 rfl rfl rfl rfl (by decide +kernel) rfl rfl ?_
  conv => whnf
  refine LoopP.inv (X := ax g) (fun m : List UInt8 => { f := [(0, .str (baL m)), (1, .ptr 9300 0)], h := [(9300, some (.dvar 256 (digC 10)))] }) (fun m => m.length ≤ l.length ∧ l.dropWhile isD = m.dropWhile isD) (fun m => m.length) l ⟨Nat.le_refl _, rfl⟩ ⟨⟨rfl, rfl, trivial⟩, ⟨fun o h => h, trivial⟩⟩ fun m ⟨hm, he⟩ => ?_
  have hms := ba_size m
  conv => whnf
  refine ifB_intro (fun h => ?_) (fun h => ?_)
  · have h0 : 0 < m.length := by have h0 := of_decide_eq_true h; omega
    obtain ⟨c, m', rfl⟩ : ∃ c m', m = c :: m' := by
      cases m with
      | nil => simp at h0
      | cons c m' => exact ⟨c, m', rfl⟩
    have hl1 : (c :: m').length = m'.length + 1 := by simp
    have hb : byteAt (baL (c :: m')) 0 = (c.toNat : Int) := byteAt_ba (c :: m') 0 (by omega)
    have e1 : (baL (c :: m')).extract ((some (1 : Int)).getD 0).toNat ((none : Option Int).getD (((baL (c :: m')).size : Nat) : Int)).toNat = baL m' := by
      have h5 := sub_drop (s := baL (c :: m')) (n := 1)
      rw [ba_toList] at h5
      exact h5
    have hc := contains_ctr' g c
    rw [List.dropWhile_cons] at he
    conv => whnf
    repeat' (first | (refine And.intro (by first | exact rfl | decide | exact Nat.le_of_ble_eq_true rfl | exact ⟨_, rfl⟩ | exact ⟨_, _, rfl⟩ | exact Nat.le_refl _ | exact Int.le_refl _ | omega | (simp only [List.length_map]; omega) | exact True.intro | (simp only [IntKind.wrap_i64, List.length_map]; omega) | (simp only [Option.getD]; omega) | (simp only [bsz, ByteArray.size_append, List.size_toArray, List.length_cons, List.length_nil]; omega) | exact ⟨⟨_, _, rfl, rfl, Nat.le_of_ble_eq_true rfl⟩, trivial⟩ | exact ⟨⟨_, _, rfl, rfl, Nat.le_of_ble_eq_true rfl⟩, ⟨_, _, rfl, rfl, Nat.le_of_ble_eq_true rfl⟩, trivial⟩ | exact ⟨⟨_, _, rfl, rfl, Nat.le_of_ble_eq_true rfl⟩, ⟨_, _, rfl, rfl, Nat.le_of_ble_eq_true rfl⟩, ⟨_, _, rfl, rfl, Nat.le_of_ble_eq_true rfl⟩, trivial⟩) ?_; conv => whnf) | (refine ifB_intro (fun hA => ?_) (fun hA => ?_) <;> (try rw [hA]) <;> (conv => whnf) <;> (first | replace hA := of_decide_eq_true hA | replace hA := of_decide_eq_false hA | replace hA := eq_of_beq hA | replace hA := ne_of_beq_false hA | replace hA := bne_iff_ne.1 hA | replace hA := bne_eq_false_iff_eq.1 hA | skip) <;> (try simp only [Bool.not_eq_true', Bool.not_eq_false'] at hA)) | (refine And.intro (show (0 : Int) < ((baL (c :: m')).size : Int) by omega) ?_; conv => whnf) | (refine And.intro (show (1 : Int) ≤ ((baL (c :: m')).size : Int) by omega) ?_; conv => whnf) | (rw [hb]; conv => whnf) | (refine CallP.upd rfl (hc) ?_; conv => whnf) | (refine CallD.upd rfl (hc) ?_; conv => whnf) | (rw [getD_map _ _ _ _ (by assumption)]; conv => whnf))
    · refine ⟨⟨[(9300, some (.dvar 256 (digC 10)))], ?_⟩⟩
      conv => whnf
      refine And.intro ⟨fun o h => h, trivial⟩ ?_
      conv => whnf
      rw [he, if_neg (by rw [hA]; simp)]
    · exact ⟨m', ⟨by omega, by rw [he, if_pos hA]⟩, by omega, ⟨⟨by rw [← e1]; rfl, rfl, trivial⟩, ⟨fun o h => h, trivial⟩⟩⟩
  · have h0 : m = [] := by
      have h0 := of_decide_eq_false h
      have : m.length = 0 := by omega
      exact List.eq_nil_of_length_eq_zero this
    subst h0
    conv => whnf
    refine ⟨⟨[(9300, some (.dvar 256 (digC 10)))], ?_⟩⟩
    conv => whnf
    refine And.intro ⟨fun o h => h, trivial⟩ ?_
    conv => whnf
    rw [he]; rfl
def trimD (l : List UInt8) : List UInt8 := (trimR l).dropWhile isD
theorem trimR_len (l : List UInt8) : (trimR l).length ≤ l.length := by
  unfold trimR
  have := (List.dropWhile_sublist (l := l.reverse) isD).length_le
  simpa using this
theorem drop_all {l : List UInt8} : (l.dropWhile isD).all isD = true → l.all isD = true := by
  induction l with
  | nil => simp
  | cons c r ih =>
    rw [List.dropWhile_cons]
    split
    · rename_i hc
      intro h
      rw [List.all_cons, hc, ih h]; rfl
    · exact fun h => h
theorem trimD_nil (l : List UInt8) : trimD l = [] ↔ l.all isD = true := by
  unfold trimD
  have h1 : ∀ x : List UInt8, x.dropWhile isD = [] ↔ x.all isD = true := fun x => by
    constructor
    · intro h; exact drop_all (by rw [h]; rfl)
    · intro h
      induction x with
      | nil => rfl
      | cons c r ih =>
        rw [List.all_cons, Bool.and_eq_true] at h
        rw [List.dropWhile_cons, if_pos h.1]; exact ih h.2
  rw [h1]
  unfold trimR
  rw [List.all_reverse]
  constructor
  · intro h; have := drop_all h; rwa [List.all_reverse] at this
  · intro h
    have : l.reverse.dropWhile isD = [] := (h1 _).2 (by rw [List.all_reverse]; exact h)
    rw [this]; rfl
theorem trim_ctr (g : GP) (l : List UInt8) (hl : l.length < 2 ^ 62) : Ctr (ax g).E 185 [.str (baL l), .str digB10] [] fun o => o = .ret (.str (baL (trimD l))) [] := by
  have h1 := (trimRight_ctr g l hl).swap 5 9300
  have h2 := (trimLeft_ctr g (trimR l) (by have := trimR_len l; omega)).swap 5 9300
  refine Ctr.body (X := ax g) _ 43 [] [.tmp 4] Tryz.func185 rfl rfl rfl rfl (by decide +kernel) rfl rfl ?_
  conv => whnf
  repeat' (first | (refine And.intro (by first | exact rfl | decide | exact Nat.le_of_ble_eq_true rfl | exact ⟨_, rfl⟩ | exact ⟨_, _, rfl⟩ | exact Nat.le_refl _ | exact Int.le_refl _ | omega | (simp only [List.length_map]; omega) | exact True.intro | (simp only [IntKind.wrap_i64, List.length_map]; omega) | (simp only [List.map_cons, List.map_nil, List.length_cons, Option.getD]; omega) | (simp only [bsz, ByteArray.size_append, List.size_toArray, List.length_cons, List.length_nil]; omega) | exact ⟨⟨_, _, rfl, rfl, Nat.le_of_ble_eq_true rfl⟩, trivial⟩ | exact ⟨⟨_, _, rfl, rfl, Nat.le_of_ble_eq_true rfl⟩, ⟨_, _, rfl, rfl, Nat.le_of_ble_eq_true rfl⟩, trivial⟩ | exact ⟨⟨_, _, rfl, rfl, Nat.le_of_ble_eq_true rfl⟩, ⟨_, _, rfl, rfl, Nat.le_of_ble_eq_true rfl⟩, ⟨_, _, rfl, rfl, Nat.le_of_ble_eq_true rfl⟩, trivial⟩) ?_; conv => whnf) | (refine ifB_intro (fun hA => ?_) (fun hA => ?_) <;> (try rw [hA]) <;> (conv => whnf) <;> (first | replace hA := of_decide_eq_true hA | replace hA := of_decide_eq_false hA | replace hA := eq_of_beq hA | replace hA := ne_of_beq_false hA | replace hA := bne_iff_ne.1 hA | replace hA := bne_eq_false_iff_eq.1 hA | skip) <;> (try simp only [ne_eq] at hA)) | (refine CallP.det (set_ctr g) ?_; conv => whnf) | (refine CallD.det (set_ctr g) ?_; conv => whnf) | (refine CallP.upd rfl (h1) ?_; conv => whnf) | (refine CallD.upd rfl (h1) ?_; conv => whnf) | (refine CallP.upd rfl (h2) ?_; conv => whnf) | (refine CallD.upd rfl (h2) ?_; conv => whnf) | (rw [getD_map _ _ _ _ (by assumption)]; conv => whnf))
  · rw [ba_toList] at hA
    subst hA
    refine ⟨⟨[], ?_⟩⟩
    conv => whnf
    rfl
  · refine ⟨⟨[], ?_⟩⟩
    conv => whnf
    rfl
end Go.Ax
