/- What the card of this claim stands on, or the card itself: for every input, as the given row says. -/
import Derived.Below
import Derived.Shelf.Strings.Builder1
import Derived.Shelf.Strings.Builder2
import Derived.Shelf.Strings.OnBuilder
import Derived.Shelf.Small.Utf8
import Derived.Shelf.Small.Strs
import Derived.Shelf.Small.Wraps
import Derived.Shelf.Strings.BuilderF
import Derived.Shelf.Strings.BuilderK
import Derived.Shelf.Utf8.RuneCount
import Derived.Shelf.Strconv.Atoi
import Derived.Shelf.Strconv.Itoa0
import Derived.Shelf.Strconv.Itoa1
import Derived.Shelf.LaysM
import Derived.Shelf.Strconv.Itoa2
import Derived.Shelf.Strconv.Itoa3
import Derived.Shelf.Strconv.AtoiErrFast
import Derived.Shelf.Strconv.ParseIntEmpty
import Derived.Shelf.Strconv.AtoiFail
import Derived.Shelf.Strconv.Clone
import Derived.Shelf.Strconv.SyntaxError
import Derived.Shelf.LaysC
import Derived.Shelf.Strconv.ToError
import Derived.Shelf.Strconv.Lower
import Derived.Shelf.Strconv.ParseUint10
import Derived.Shelf.Strconv.ParseUint10Empty
import Derived.Shelf.Strconv.ParseUint10Any
import Derived.Shelf.Strconv.ParseInt10
import Derived.Shelf.Strconv.AtoiLong
import Derived.Shelf.Strconv.AtoiInnerAll
import Derived.Shelf.Strconv.RangeError
import Derived.Shelf.Strconv.ToErrorRange
import Derived.Shelf.Strconv.AtoiAll
import Derived.Shelf.Strconv.ErrVarAll
import Derived.Ground.MpProg
import Derived.Shelf.Pu.ParseUintPublic10
import Derived.Shelf.Pu.ErrVarParseUint
import Derived.Shelf.Strings.Search1
import Derived.Shelf.Strings.Search2
import Derived.Shelf.Strings.Search3
import Derived.Shelf.Strings.Cut
import Derived.Shelf.Strings.Count
import Derived.Shelf.Strings.Shaped
import Derived.Shelf.Strings.Prefix
import Derived.Shelf.Unicode.Props
import Derived.Shelf.Unicode.PropsLaid
import Derived.Shelf.Unicode.Decode
import Derived.Shelf.Strings.Runes
import Derived.Shelf.Strings.RuneCount
import Derived.Shelf.Strings.AsciiSet
import Derived.Shelf.Unicode.DecodeSlow
import Derived.Shelf.Unicode.DecodeAny
import Derived.Shelf.Unicode.Is16White
import Derived.Shelf.Unicode.IsSpaceAny
import Derived.Shelf.Unicode.DecodeLast
import Derived.Shelf.Unicode.Is16Any
import Derived.Shelf.Unicode.Is32Any
import Derived.Shelf.Unicode.ExclAny
import Derived.Shelf.Unicode.PredsAny
import Derived.Shelf.Unicode.PredsPay
import Derived.Shelf.Unicode.ValidAny
import Derived.Test.YtjcgfiidbpailaaDoorProg
import Derived.Test.YtjcgfiidbpailaaDoorRows
import Derived.Test.YtjcgfiidbpailaaDoorCards
import Derived.Test.YtjcgfiidbpailaaDoorTie
import Derived.WalkKit
import Derived.ProofKit
import Derived.OpenShut
import Derived.Carry
import Derived.ChangeMaps
import Derived.Deep.DeepHandedRow
import Derived.Deep.DeepWitnessRowRef
import Derived.Lib.LaidU8
import Derived.Lib.LaidRTab
import Derived.Lib.LaidIn
import Derived.Lib.LaidTab
import Derived.Lib.SmallJoins
import Derived.PinnedBridge
import Derived.Stop.LaidErr
import Derived.SizedLaws
import Derived.ChangeArms
import Derived.DataReads
import Derived.Lib.TrailingZeros
import Derived.Lib.ItoaNum
import Derived.Lib.Join
import Derived.Test.YtjcgfiidbpailaaDoorPA06
import Derived.Test.YtjcgfiidbpailaaDoorPA07

namespace Go.Ax
open Go.RowKit
theorem after_below {w w' : World} {Im : Nat → Prop} {ρ : Nat → Option Loc} (hIm : ∀ b, Im b → b < w.heap.size) (h : Below w.heap.size w w') : After w Im ρ [] w' Im (fun _ => none) [] where
  grows := ⟨h.size, h.os, h.tape, h.output, fun b hb _ => h.block b hb⟩
  im := fun b hb => hb
  imn := fun b hb => ⟨Nat.lt_of_lt_of_le (hIm b hb) h.size, .inl hb⟩
  rel := ⟨fun r o hr => by simp [lkH] at hr, fun r r' o o' l l' hr => by simp [lkH] at hr⟩
  anc := fun r o hr => by simp [lkH] at hr
  cl := fun r o hr => by simp [lkH] at hr
def vals (xs : List Value) : List AV := xs.map fun x => .d (.v x)
theorem args_vals {h : Nat → Option Obj} {Im : Nat → Prop} {ρ : Nat → Option Loc} {vs : Array Value} {xs : List Value} (hsz : vs.size = (vals xs).length) (hra : ∀ (i : Nat) (v : Value) (x : AV), vs[i]? = some v → (vals xs)[i]? = some x → RA h Im ρ v x) : vs = xs.toArray := by
  have hl : vs.size = xs.length := by rw [hsz]; simp [vals]
  apply Array.ext (by simpa using hl)
  intro i h1 h2
  have hx : (vals xs)[i]? = some (.d (.v xs[i])) := by simp [vals, List.getElem?_eq_getElem (show i < xs.length by omega)]
  have := hra i vs[i] _ (Array.getElem?_eq_getElem h1) hx
  simpa using this.v
theorem Ctr.ofVal {E : Env} {f : FuncId} {xs : List Value} {v : Value} (hb : Bodied E.P f) (hv : v.oneCell' = true) (h : ∀ w, E.G w → Calls E.P f xs.toArray w fun e w' => e = .returned v ∧ Below w.heap.size w w') : Ctr E f (vals xs) [] fun o => o = .ret (.d (.v v)) [] := by
  refine ⟨hb, fun w Im ρ vs hG hIm hgl hsz hra hrel => ?_⟩
  rw [args_vals hsz hra]
  refine (h w hG).mono fun e w' ⟨he, hB⟩ => ?_
  subst he
  exact ⟨_, [], Im, _, rfl, RA.intv v hv, fun r hr => by simp [AV.ment] at hr, after_below hIm hB⟩
end Go.Ax

namespace Go.Proofs
open Go.Shelf
def Tryd.lays156_ren : Go.Shelf.Ren := ⟨fun | 156 => 41 | 165 => 68 | 166 => 34 | 169 => 38 | 240 => 63 | 241 => 95 | 276 => 93 | 277 => 134 | n => n, fun | 31 => 35 | 9 => 9 | 3 => 3 | 4 => 4 | 0 => 0 | 20 => 20 | 72 => 83 | 76 => 88 | 70 => 80 | 37 => 81 | 75 => 87 | 127 => 131 | 164 => 158 | 5 => 5 | 80 => 95 | n => n, fun | n => n⟩
theorem Tryd.lays156 : Go.Proofs.Lays.n156 Tryd.prog Tryd.lays156_ren := {
  mixed := by kernel_rfl
  f156 := Tryd.func41.trans (congrArg some (by kernel_rfl))
  f165 := Tryd.func68.trans (congrArg some (by kernel_rfl))
  f166 := Tryd.func34.trans (congrArg some (by kernel_rfl))
  f169 := Tryd.func38.trans (congrArg some (by kernel_rfl))
  f240 := Tryd.func63.trans (congrArg some (by kernel_rfl))
  f241 := Tryd.func95.trans (congrArg some (by kernel_rfl))
  f276 := Tryd.func93.trans (congrArg some (by kernel_rfl))
  f277 := Tryd.func134.trans (congrArg some (by kernel_rfl))
  t0 := Tryd.underlying0
  a0 := Tryd.isAgg0
  z0 := Tryd.sizeOf0
  v0 := Tryd.zeroValue0
  t3 := Tryd.underlying3
  a3 := Tryd.isAgg3
  z3 := Tryd.sizeOf3
  v3 := Tryd.zeroValue3
  t4 := Tryd.underlying4
  a4 := Tryd.isAgg4
  z4 := Tryd.sizeOf4
  v4 := Tryd.zeroValue4
  t9 := Tryd.underlying9
  a9 := Tryd.isAgg9
  z9 := Tryd.sizeOf9
  v9 := Tryd.zeroValue9
  t20 := Tryd.underlying20
  a20 := Tryd.isAgg20
  z20 := Tryd.sizeOf20
  v20 := Tryd.zeroValue20
  t31 := Tryd.underlying35
  a31 := Tryd.isAgg35
  z31 := Tryd.sizeOf35
  v31 := Tryd.zeroValue35
  t37 := Tryd.underlying81
  a37 := Tryd.isAgg81
  z37 := Tryd.sizeOf81
  v37 := Tryd.zeroValue81
  t70 := Tryd.underlying80
  a70 := Tryd.isAgg80
  z70 := Tryd.sizeOf80
  v70 := Tryd.zeroValue80
  t72 := Tryd.underlying83
  a72 := Tryd.isAgg83
  z72 := Tryd.sizeOf83
  v72 := Tryd.zeroValue83
  t75 := Tryd.underlying87
  a75 := Tryd.isAgg87
  z75 := Tryd.sizeOf87
  v75 := Tryd.zeroValue87
  t76 := Tryd.underlying88
  a76 := Tryd.isAgg88
  z76 := Tryd.sizeOf88
  v76 := Tryd.zeroValue88
  t127 := Tryd.underlying131
  a127 := Tryd.isAgg131
  z127 := Tryd.sizeOf131
  v127 := Tryd.zeroValue131
  t164 := Tryd.underlying158
  a164 := Tryd.isAgg158
  z164 := Tryd.sizeOf158
  v164 := Tryd.zeroValue158 }
theorem Tryd.Builder_Extra_156 : Builder.Extra Tryd.prog Tryd.lays156_ren := {
  sizeBuilder := by kernel_rfl
  liesBuilder := by kernel_rfl
  t5 := Tryd.underlying5
  a5 := Tryd.isAgg5
  z5 := Tryd.sizeOf5
  v5 := Tryd.zeroValue5
  infoByte := by kernel_rfl
  cellsByte := by kernel_rfl
  sizeByte := by kernel_rfl
  neB5 := by decide }
def Tryd.lays138_ren : Go.Shelf.Ren := ⟨fun | 138 => 164 | 195 => 80 | 218 => 177 | 143 => 103 | 219 => 104 | 217 => 139 | 225 => 140 | 224 => 141 | 267 => 142 | 266 => 166 | 314 => 167 | n => n, fun | 9 => 9 | 3 => 3 | 4 => 4 | 5 => 5 | 0 => 0 | 46 => 149 | 146 => 223 | 51 => 176 | n => n, fun | 1 => 4 | n => n⟩
def Tryd.lays143_ren : Go.Shelf.Ren := ⟨fun | 143 => 103 | 219 => 104 | 217 => 139 | 225 => 140 | 224 => 141 | 267 => 142 | 266 => 166 | 314 => 167 | n => n, fun | 9 => 9 | 3 => 3 | 4 => 4 | 5 => 5 | 46 => 149 | 146 => 223 | 51 => 176 | n => n, fun | 1 => 4 | n => n⟩
theorem Tryd.lays143 : Go.Proofs.Lays.n143 Tryd.prog Tryd.lays143_ren := {
  mixed := by kernel_rfl
  f143 := Tryd.func103.trans (congrArg some (by kernel_rfl))
  f217 := Tryd.func139.trans (congrArg some (by kernel_rfl))
  f219 := Tryd.func104.trans (congrArg some (by kernel_rfl))
  f224 := Tryd.func141.trans (congrArg some (by kernel_rfl))
  f225 := Tryd.func140.trans (congrArg some (by kernel_rfl))
  f266 := Tryd.func166.trans (congrArg some (by kernel_rfl))
  f267 := Tryd.func142.trans (congrArg some (by kernel_rfl))
  f314 := Tryd.func167.trans (congrArg some (by kernel_rfl))
  t3 := Tryd.underlying3
  a3 := Tryd.isAgg3
  z3 := Tryd.sizeOf3
  v3 := Tryd.zeroValue3
  t4 := Tryd.underlying4
  a4 := Tryd.isAgg4
  z4 := Tryd.sizeOf4
  v4 := Tryd.zeroValue4
  t5 := Tryd.underlying5
  a5 := Tryd.isAgg5
  z5 := Tryd.sizeOf5
  v5 := Tryd.zeroValue5
  t9 := Tryd.underlying9
  a9 := Tryd.isAgg9
  z9 := Tryd.sizeOf9
  v9 := Tryd.zeroValue9
  t46 := Tryd.underlying149
  a46 := Tryd.isAgg149
  z46 := Tryd.sizeOf149
  v46 := Tryd.zeroValue149
  t51 := Tryd.underlying176
  a51 := Tryd.isAgg176
  z51 := Tryd.sizeOf176
  v51 := Tryd.zeroValue176
  t146 := Tryd.underlying223
  a146 := Tryd.isAgg223
  z146 := Tryd.sizeOf223
  v146 := Tryd.zeroValue223
  g1 := by kernel_rfl }
def Tryd.lays171_ren : Go.Shelf.Ren := ⟨fun | 171 => 40 | 243 => 67 | 246 => 94 | 283 => 130 | 284 => 131 | 285 => 132 | 286 => 133 | 129 => 159 | 317 => 158 | 318 => 160 | 319 => 161 | 320 => 162 | 337 => 175 | 338 => 176 | n => n, fun | 3 => 3 | 9 => 9 | 2 => 2 | 4 => 4 | 171 => 188 | 0 => 0 | 53 => 141 | 37 => 81 | 5 => 5 | 173 => 191 | 212 => 219 | 51 => 176 | 20 => 20 | 213 => 220 | 46 => 149 | 232 => 239 | 233 => 240 | n => n, fun | 17 => 5 | 18 => 8 | 19 => 9 | n => n⟩
def Tryd.lays200_ren : Go.Shelf.Ren := ⟨fun | 200 => 78 | 261 => 114 | 311 => 152 | 312 => 153 | n => n, fun | 21 => 21 | 4 => 4 | 51 => 176 | 5 => 5 | 119 => 145 | 0 => 0 | 141 => 178 | 196 => 208 | 193 => 205 | 3 => 3 | 198 => 210 | 49 => 22 | 194 => 206 | 201 => 213 | 226 => 230 | 46 => 149 | 227 => 231 | n => n, fun | 7 => 2 | 8 => 3 | n => n⟩
def Tryd.lays219_ren : Go.Shelf.Ren := ⟨fun | 219 => 104 | 217 => 139 | 225 => 140 | 224 => 141 | 267 => 142 | 266 => 166 | 314 => 167 | n => n, fun | 9 => 9 | 3 => 3 | 4 => 4 | 5 => 5 | 46 => 149 | 146 => 223 | 51 => 176 | n => n, fun | 1 => 4 | n => n⟩
theorem Tryd.lays219 : Go.Proofs.Lays.n219 Tryd.prog Tryd.lays219_ren := {
  mixed := by kernel_rfl
  f217 := Tryd.func139.trans (congrArg some (by kernel_rfl))
  f219 := Tryd.func104.trans (congrArg some (by kernel_rfl))
  f224 := Tryd.func141.trans (congrArg some (by kernel_rfl))
  f225 := Tryd.func140.trans (congrArg some (by kernel_rfl))
  f266 := Tryd.func166.trans (congrArg some (by kernel_rfl))
  f267 := Tryd.func142.trans (congrArg some (by kernel_rfl))
  f314 := Tryd.func167.trans (congrArg some (by kernel_rfl))
  t3 := Tryd.underlying3
  a3 := Tryd.isAgg3
  z3 := Tryd.sizeOf3
  v3 := Tryd.zeroValue3
  t4 := Tryd.underlying4
  a4 := Tryd.isAgg4
  z4 := Tryd.sizeOf4
  v4 := Tryd.zeroValue4
  t5 := Tryd.underlying5
  a5 := Tryd.isAgg5
  z5 := Tryd.sizeOf5
  v5 := Tryd.zeroValue5
  t9 := Tryd.underlying9
  a9 := Tryd.isAgg9
  z9 := Tryd.sizeOf9
  v9 := Tryd.zeroValue9
  t46 := Tryd.underlying149
  a46 := Tryd.isAgg149
  z46 := Tryd.sizeOf149
  v46 := Tryd.zeroValue149
  t51 := Tryd.underlying176
  a51 := Tryd.isAgg176
  z51 := Tryd.sizeOf176
  v51 := Tryd.zeroValue176
  t146 := Tryd.underlying223
  a146 := Tryd.isAgg223
  z146 := Tryd.sizeOf223
  v146 := Tryd.zeroValue223
  g1 := by kernel_rfl }
def Tryd.laysM171_ren : Go.Shelf.Ren := ⟨fun | 171 => 40 | 243 => 67 | 246 => 94 | 283 => 130 | 284 => 131 | 285 => 132 | 286 => 133 | 129 => 159 | 317 => 158 | 318 => 160 | 319 => 161 | 320 => 162 | 337 => 175 | 338 => 176 | n => n, fun | 3 => 3 | 9 => 9 | 2 => 2 | 4 => 4 | 171 => 188 | 0 => 0 | 53 => 141 | 37 => 81 | 5 => 5 | 173 => 191 | 212 => 219 | 51 => 176 | 20 => 20 | 213 => 220 | 46 => 149 | 232 => 239 | 233 => 240 | n => n, fun | 17 => 5 | 18 => 8 | 19 => 9 | n => n⟩
theorem Tryd.laysM171 : Go.Proofs.LaysM.n171 Tryd.prog Tryd.laysM171_ren := {
  mixed := by kernel_rfl
  f129 := Tryd.func159.trans (congrArg some (by kernel_rfl))
  f171 := Tryd.func40.trans (congrArg some (by kernel_rfl))
  f243 := Tryd.func67.trans (congrArg some (by kernel_rfl))
  f246 := Tryd.func94.trans (congrArg some (by kernel_rfl))
  f283 := Tryd.func130.trans (congrArg some (by kernel_rfl))
  f284 := Tryd.func131.trans (congrArg some (by kernel_rfl))
  f285 := Tryd.func132.trans (congrArg some (by kernel_rfl))
  f286 := Tryd.func133.trans (congrArg some (by kernel_rfl))
  f317 := Tryd.func158.trans (congrArg some (by kernel_rfl))
  f318 := Tryd.func160.trans (congrArg some (by kernel_rfl))
  f319 := Tryd.func161.trans (congrArg some (by kernel_rfl))
  f320 := Tryd.func162.trans (congrArg some (by kernel_rfl))
  f337 := Tryd.func175.trans (congrArg some (by kernel_rfl))
  f338 := Tryd.func176.trans (congrArg some (by kernel_rfl))
  t0 := Tryd.underlying0
  a0 := Tryd.isAgg0
  z0 := Tryd.sizeOf0
  v0 := Tryd.zeroValue0
  t2 := Tryd.underlying2
  a2 := Tryd.isAgg2
  z2 := Tryd.sizeOf2
  v2 := Tryd.zeroValue2
  t3 := Tryd.underlying3
  a3 := Tryd.isAgg3
  z3 := Tryd.sizeOf3
  v3 := Tryd.zeroValue3
  t4 := Tryd.underlying4
  a4 := Tryd.isAgg4
  z4 := Tryd.sizeOf4
  v4 := Tryd.zeroValue4
  t5 := Tryd.underlying5
  a5 := Tryd.isAgg5
  z5 := Tryd.sizeOf5
  v5 := Tryd.zeroValue5
  t9 := Tryd.underlying9
  a9 := Tryd.isAgg9
  z9 := Tryd.sizeOf9
  v9 := Tryd.zeroValue9
  t20 := Tryd.underlying20
  a20 := Tryd.isAgg20
  z20 := Tryd.sizeOf20
  v20 := Tryd.zeroValue20
  t37 := Tryd.underlying81
  a37 := Tryd.isAgg81
  z37 := Tryd.sizeOf81
  v37 := Tryd.zeroValue81
  t46 := Tryd.underlying149
  a46 := Tryd.isAgg149
  z46 := Tryd.sizeOf149
  v46 := Tryd.zeroValue149
  t51 := Tryd.underlying176
  a51 := Tryd.isAgg176
  z51 := Tryd.sizeOf176
  v51 := Tryd.zeroValue176
  t53 := Tryd.underlying141
  a53 := Tryd.isAgg141
  z53 := Tryd.sizeOf141
  v53 := Tryd.zeroValue141
  t171 := Tryd.underlying188
  a171 := Tryd.isAgg188
  z171 := Tryd.sizeOf188
  v171 := Tryd.zeroValue188
  t173 := Tryd.underlying191
  a173 := Tryd.isAgg191
  z173 := Tryd.sizeOf191
  v173 := Tryd.zeroValue191
  t212 := Tryd.underlying219
  a212 := Tryd.isAgg219
  z212 := Tryd.sizeOf219
  v212 := Tryd.zeroValue219
  t213 := Tryd.underlying220
  a213 := Tryd.isAgg220
  z213 := Tryd.sizeOf220
  t232 := Tryd.underlying239
  a232 := Tryd.isAgg239
  z232 := Tryd.sizeOf239
  v232 := Tryd.zeroValue239
  t233 := Tryd.underlying240
  a233 := Tryd.isAgg240
  z233 := Tryd.sizeOf240
  v233 := Tryd.zeroValue240
  g17 := by kernel_rfl
  g18 := by kernel_rfl
  g19 := by kernel_rfl
  i0 := by kernel_rfl
  i2 := by kernel_rfl
  i3 := by kernel_rfl
  i4 := by kernel_rfl
  i5 := by kernel_rfl
  i9 := by kernel_rfl
  i20 := by kernel_rfl
  i37 := by kernel_rfl
  i46 := by kernel_rfl
  i51 := by kernel_rfl
  i53 := by kernel_rfl
  i171 := by kernel_rfl
  i173 := by kernel_rfl
  i212 := by kernel_rfl
  i232 := by kernel_rfl
  i233 := by kernel_rfl
  m17 := by kernel_rfl
  m18 := by kernel_rfl
  m19 := by kernel_rfl }
def Tryd.laysPu14_ren : Go.Shelf.Ren := ⟨fun | 14 => 75 | 16 => 112 | 17 => 113 | 19 => 146 | 20 => 147 | 21 => 148 | 22 => 149 | 23 => 150 | 24 => 151 | 25 => 170 | 27 => 40 | 26 => 171 | 28 => 67 | 29 => 94 | 30 => 130 | 31 => 131 | 32 => 132 | 33 => 133 | 35 => 159 | 34 => 158 | 36 => 160 | 37 => 161 | 38 => 162 | 39 => 175 | 40 => 176 | n => n, fun | 9 => 9 | 3 => 3 | 22 => 141 | 24 => 87 | 25 => 142 | 4 => 4 | 34 => 200 | 5 => 5 | 36 => 149 | 37 => 81 | 0 => 0 | 39 => 202 | 21 => 21 | 44 => 228 | 47 => 131 | 50 => 236 | 48 => 234 | 2 => 2 | 52 => 188 | 55 => 191 | 59 => 219 | 60 => 176 | 20 => 20 | 61 => 220 | 65 => 239 | 66 => 240 | 67 => 95 | n => n, fun | 0 => 6 | 1 => 7 | 2 => 5 | 3 => 8 | 4 => 9 | n => n⟩
theorem Tryd.laysPu14 : Go.Proofs.LaysPu.n14 Tryd.prog Tryd.laysPu14_ren := {
  mixed := by kernel_rfl
  f14 := Tryd.func75.trans (congrArg some (by kernel_rfl))
  f16 := Tryd.func112.trans (congrArg some (by kernel_rfl))
  f17 := Tryd.func113.trans (congrArg some (by kernel_rfl))
  f19 := Tryd.func146.trans (congrArg some (by kernel_rfl))
  f20 := Tryd.func147.trans (congrArg some (by kernel_rfl))
  f21 := Tryd.func148.trans (congrArg some (by kernel_rfl))
  f22 := Tryd.func149.trans (congrArg some (by kernel_rfl))
  f23 := Tryd.func150.trans (congrArg some (by kernel_rfl))
  f24 := Tryd.func151.trans (congrArg some (by kernel_rfl))
  f25 := Tryd.func170.trans (congrArg some (by kernel_rfl))
  f26 := Tryd.func171.trans (congrArg some (by kernel_rfl))
  f27 := Tryd.func40.trans (congrArg some (by kernel_rfl))
  f28 := Tryd.func67.trans (congrArg some (by kernel_rfl))
  f29 := Tryd.func94.trans (congrArg some (by kernel_rfl))
  f30 := Tryd.func130.trans (congrArg some (by kernel_rfl))
  f31 := Tryd.func131.trans (congrArg some (by kernel_rfl))
  f32 := Tryd.func132.trans (congrArg some (by kernel_rfl))
  f33 := Tryd.func133.trans (congrArg some (by kernel_rfl))
  f34 := Tryd.func158.trans (congrArg some (by kernel_rfl))
  f35 := Tryd.func159.trans (congrArg some (by kernel_rfl))
  f36 := Tryd.func160.trans (congrArg some (by kernel_rfl))
  f37 := Tryd.func161.trans (congrArg some (by kernel_rfl))
  f38 := Tryd.func162.trans (congrArg some (by kernel_rfl))
  f39 := Tryd.func175.trans (congrArg some (by kernel_rfl))
  f40 := Tryd.func176.trans (congrArg some (by kernel_rfl))
  t0 := Tryd.underlying0
  a0 := Tryd.isAgg0
  z0 := Tryd.sizeOf0
  v0 := Tryd.zeroValue0
  i0 := by kernel_rfl
  t2 := Tryd.underlying2
  a2 := Tryd.isAgg2
  z2 := Tryd.sizeOf2
  v2 := Tryd.zeroValue2
  i2 := by kernel_rfl
  t3 := Tryd.underlying3
  a3 := Tryd.isAgg3
  z3 := Tryd.sizeOf3
  v3 := Tryd.zeroValue3
  i3 := by kernel_rfl
  t4 := Tryd.underlying4
  a4 := Tryd.isAgg4
  z4 := Tryd.sizeOf4
  v4 := Tryd.zeroValue4
  i4 := by kernel_rfl
  t5 := Tryd.underlying5
  a5 := Tryd.isAgg5
  z5 := Tryd.sizeOf5
  v5 := Tryd.zeroValue5
  i5 := by kernel_rfl
  t9 := Tryd.underlying9
  a9 := Tryd.isAgg9
  z9 := Tryd.sizeOf9
  v9 := Tryd.zeroValue9
  i9 := by kernel_rfl
  t20 := Tryd.underlying20
  a20 := Tryd.isAgg20
  z20 := Tryd.sizeOf20
  v20 := Tryd.zeroValue20
  i20 := by kernel_rfl
  t21 := Tryd.underlying21
  a21 := Tryd.isAgg21
  z21 := Tryd.sizeOf21
  v21 := Tryd.zeroValue21
  i21 := by kernel_rfl
  t22 := Tryd.underlying141
  a22 := Tryd.isAgg141
  z22 := Tryd.sizeOf141
  v22 := Tryd.zeroValue141
  i22 := by kernel_rfl
  t24 := Tryd.underlying87
  a24 := Tryd.isAgg87
  z24 := Tryd.sizeOf87
  v24 := Tryd.zeroValue87
  i24 := by kernel_rfl
  t25 := Tryd.underlying142
  a25 := Tryd.isAgg142
  z25 := Tryd.sizeOf142
  v25 := Tryd.zeroValue142
  i25 := by kernel_rfl
  t34 := Tryd.underlying200
  a34 := Tryd.isAgg200
  z34 := Tryd.sizeOf200
  v34 := Tryd.zeroValue200
  i34 := by kernel_rfl
  c34 := by kernel_rfl
  t36 := Tryd.underlying149
  a36 := Tryd.isAgg149
  z36 := Tryd.sizeOf149
  v36 := Tryd.zeroValue149
  i36 := by kernel_rfl
  t37 := Tryd.underlying81
  a37 := Tryd.isAgg81
  z37 := Tryd.sizeOf81
  v37 := Tryd.zeroValue81
  i37 := by kernel_rfl
  t39 := Tryd.underlying202
  a39 := Tryd.isAgg202
  z39 := Tryd.sizeOf202
  v39 := Tryd.zeroValue202
  i39 := by kernel_rfl
  t44 := Tryd.underlying228
  a44 := Tryd.isAgg228
  z44 := Tryd.sizeOf228
  v44 := Tryd.zeroValue228
  i44 := by kernel_rfl
  t47 := Tryd.underlying131
  a47 := Tryd.isAgg131
  z47 := Tryd.sizeOf131
  v47 := Tryd.zeroValue131
  i47 := by kernel_rfl
  t48 := Tryd.underlying234
  a48 := Tryd.isAgg234
  z48 := Tryd.sizeOf234
  v48 := Tryd.zeroValue234
  i48 := by kernel_rfl
  t50 := Tryd.underlying236
  a50 := Tryd.isAgg236
  z50 := Tryd.sizeOf236
  v50 := Tryd.zeroValue236
  i50 := by kernel_rfl
  t52 := Tryd.underlying188
  a52 := Tryd.isAgg188
  z52 := Tryd.sizeOf188
  v52 := Tryd.zeroValue188
  i52 := by kernel_rfl
  t55 := Tryd.underlying191
  a55 := Tryd.isAgg191
  z55 := Tryd.sizeOf191
  v55 := Tryd.zeroValue191
  i55 := by kernel_rfl
  t59 := Tryd.underlying219
  a59 := Tryd.isAgg219
  z59 := Tryd.sizeOf219
  v59 := Tryd.zeroValue219
  i59 := by kernel_rfl
  t60 := Tryd.underlying176
  a60 := Tryd.isAgg176
  z60 := Tryd.sizeOf176
  v60 := Tryd.zeroValue176
  i60 := by kernel_rfl
  t61 := Tryd.underlying220
  a61 := Tryd.isAgg220
  z61 := Tryd.sizeOf220
  t65 := Tryd.underlying239
  a65 := Tryd.isAgg239
  z65 := Tryd.sizeOf239
  v65 := Tryd.zeroValue239
  i65 := by kernel_rfl
  t66 := Tryd.underlying240
  a66 := Tryd.isAgg240
  z66 := Tryd.sizeOf240
  v66 := Tryd.zeroValue240
  i66 := by kernel_rfl
  t67 := Tryd.underlying95
  a67 := Tryd.isAgg95
  z67 := Tryd.sizeOf95
  v67 := Tryd.zeroValue95
  i67 := by kernel_rfl
  g0 := by kernel_rfl
  m0 := by kernel_rfl
  g1 := by kernel_rfl
  m1 := by kernel_rfl
  g2 := by kernel_rfl
  m2 := by kernel_rfl
  g3 := by kernel_rfl
  m3 := by kernel_rfl
  g4 := by kernel_rfl
  m4 := by kernel_rfl }
open Go.RowKit in
theorem Tryd.strings_Join_none (a : Option Addr) (c : Nat) (sep : ByteArray) (w : World) :
    Calls Tryd.prog 41 #[.slice a 0 c, .string sep] w fun e w' => e = .returned (.string ⟨#[]⟩) ∧ w' = w := Any.strings_Join_none Tryd.lays156 Tryd.Builder_Extra_156 a c sep w
open Go.RowKit in
theorem Tryd.strings_Join (bk o c : Nat) (xs : List ByteArray) (sep : ByteArray) (w : World) (hcells : ∀ (j : Nat) x, xs[j]? = some x → w.cell? ⟨bk, o + j, none⟩ = some (.string x)) (hbk : bk < w.heap.size) (hN : xs.length ≤ 140737488355328) (hcap : xs.length ≤ c) (hlen : (Lib.join (xs.map (·.data.toList)) sep.data.toList).length ≤ 140737488355328) :
    Calls Tryd.prog 41 #[.slice (some ⟨bk, o, none⟩) xs.length c, .string sep] w fun e w' => e = .returned (.string ⟨(Lib.join (xs.map (·.data.toList)) sep.data.toList).toArray⟩) ∧ Below w.heap.size w w' := Any.strings_Join Tryd.lays156 Tryd.Builder_Extra_156 bk o c xs sep w hcells hbk hN hcap hlen
open Go.RowKit Go.Sort Go.Lib in
theorem Tryd.strconv_Itoa (n : Int) (h0 : -9223372036854775808 ≤ n) (h1 : n ≤ 9223372036854775807) (w : World) (htab : Lib.TabIs Tryd.prog w "internal/strconv.uint64pow10" .u64 Lib.pow10Tab) :
    Calls Tryd.prog 40 #[.int .i64 n] w fun e w' => e = .returned (.string ⟨(Lib.itoa n).toArray⟩) ∧ ∃ k os, w' = grow (w.drewN k) os := Any.strconv_Itoa Tryd.laysM171 n h0 h1 w htab
open Go.RowKit in
theorem Tryd.strconv_ParseUint_10_at16_ok (s : ByteArray) (hmax : s.size ≤ 9223372036854775806) (u : Nat) (h : Lib.parseUintB 16 s.data.toList = .ok u) (w : World) :
    Calls Tryd.prog 75 #[.string s, .int .i64 10, .int .i64 16] w fun e w' => e = .returned (.tuple #[.int .u64 u, .nilIface]) ∧ (w' = w ∨ w' = Lib.bytesWorld w 5 s) := Any.strconv_ParseUint_10_at16_ok Tryd.laysPu14 s hmax u h w
open Go.RowKit in
theorem Tryd.strconv_ParseUint_10_at16_syntax_var (s : ByteArray) (hlim : s.size ≤ 281474976710656) (h0 : ∀ v, Lib.parseUintB 16 s.data.toList ≠ .ok v) (h1 : Lib.parseUintB 16 s.data.toList ≠ .range) (tp : TypeId) (p : Value) (w : World) (hvar : w.var? Tryd.prog "strconv.ErrSyntax" = some #[.iface tp p]) :
    Calls Tryd.prog 75 #[.string s, .int .i64 10, .int .i64 16] w fun e w' => ∃ N, e = .returned (.tuple #[.int .u64 0, .iface 202 (.pointer (some ⟨N, 0, none⟩))]) ∧ w.heap.size ≤ N ∧ w'.heap[N]? = some (.cells #[.string ⟨#[80, 97, 114, 115, 101, 85, 105, 110, 116]⟩, .string s, .iface tp p] 228 (0, 0)) ∧ Below w.heap.size w w' := Any.strconv_ParseUint_10_at16_syntax_var Tryd.laysPu14 s hlim (by cases h : Lib.parseUintB 16 s.data.toList <;> first | rfl | exact absurd h (h0 _) | exact absurd h h1) tp p w hvar
open Go.RowKit in
theorem Tryd.strconv_ParseUint_10_at16_range_var (s : ByteArray) (hlim : s.size ≤ 281474976710656) (h : Lib.parseUintB 16 s.data.toList = .range) (tp : TypeId) (p : Value) (w : World) (hvar : w.var? Tryd.prog "strconv.ErrRange" = some #[.iface tp p]) :
    Calls Tryd.prog 75 #[.string s, .int .i64 10, .int .i64 16] w fun e w' => ∃ N, e = .returned (.tuple #[.int .u64 65535, .iface 202 (.pointer (some ⟨N, 0, none⟩))]) ∧ w.heap.size ≤ N ∧ w'.heap[N]? = some (.cells #[.string ⟨#[80, 97, 114, 115, 101, 85, 105, 110, 116]⟩, .string s, .iface tp p] 228 (0, 0)) ∧ Below w.heap.size w w' := Any.strconv_ParseUint_10_at16_range_var Tryd.laysPu14 s hlim h tp p w hvar
open Go.RowKit Go.Lib in
theorem Tryd.stringslite_Index_one (s : ByteArray) (c : UInt8) (w : World) :
    Calls Tryd.prog 104 #[.string s, .string ⟨#[c]⟩] w fun e w' => e = .returned (.int .i64 (Lib.indexByte s.data.toList c)) ∧ w' = w := Any.stringslite_Index_one Tryd.lays219 s c w
open Go.RowKit Go.Lib in
theorem Tryd.strings_Index_one (s : ByteArray) (c : UInt8) (w : World) :
    Calls Tryd.prog 103 #[.string s, .string ⟨#[c]⟩] w fun e w' => e = .returned (.int .i64 (Lib.indexByte s.data.toList c)) ∧ w' = w := Any.strings_Index_one Tryd.lays143 s c w
end Go.Proofs

namespace Go.Ax
open Go.Proofs Go.RowKit Go.Shelf Go.Lib Go.Sort
theorem below_grown0 (w : World) (k : Nat) (os : Array Obj) : Below w.heap.size w (grow (w.drewN k) os) := by
  have h := below_drewNv (Below.refl w.heap.size w) k
  have hh : ∀ k, (w.drewN k).heap = w.heap := fun k => by
    induction k with
    | zero => rfl
    | succ k ih => exact ih
  refine ⟨h.os, h.tape, h.output, ?_, fun b hb => ?_⟩
  · show w.heap.size ≤ ((w.drewN k).heap ++ os).size
    rw [hh]; simp
  · show ((w.drewN k).heap ++ os)[b]? = w.heap[b]?
    rw [hh, Array.getElem?_append_left hb]
abbrev PowG (w : World) : Prop := Lib.TabIs Tryd.prog w "internal/strconv.uint64pow10" .u64 Lib.pow10Tab
theorem itoa_ctr (g : GP) (hg : ∀ w, g.G w → PowG w) (i : Nat) (hi : i < 2 ^ 62) : Ctr (ax g).E 40 [.d (.v (.int .i64 i))] [] fun o => o = .ret (.d (.v (.string ⟨(Lib.decDigits i).toArray⟩))) [] :=
  Ctr.ofVal (E := (ax g).E) (f := 40) (xs := [.int .i64 i]) ⟨_, Tryd.func40, rfl, by decide +kernel⟩ rfl fun w hG => (Tryd.strconv_Itoa i (by omega) (by omega) w (hg w hG)).mono fun e w' ⟨h1, k, os, h2⟩ => ⟨by rw [h1, Lib.itoa_nonneg], by rw [h2]; exact below_grown0 w k os⟩
end Go.Ax

namespace Go.Ax
open Go.Proofs Go.RowKit Go.Shelf Go.Lib Go.ChangeShapes
abbrev DebG (w : World) : Prop := Lib.TabIs Tryd.prog w "math/bits.deBruijn64tab" .u8 Tryd.deB
theorem gD : Tryd.prog.globalNamed "math/bits.deBruijn64tab" = some 9 := by kernel_rfl
structure Old (W w : World) : Prop where
  os : w.os = W.os
  block : ∀ b, b < W.heap.size → w.heap[b]? = W.heap[b]?
theorem Old.below {W w : World} (h : Old W w) : Below W.heap.size W { w with tape := W.tape, output := W.output } := by
  refine ⟨h.os, rfl, rfl, ?_, h.block⟩
  show W.heap.size ≤ w.heap.size
  rcases Nat.eq_zero_or_pos W.heap.size with h0 | h0
  · omega
  · have h1 := h.block (W.heap.size - 1) (by omega)
    rw [Array.getElem?_eq_getElem (by omega : W.heap.size - 1 < W.heap.size)] at h1
    obtain ⟨h2, _⟩ := Array.getElem?_eq_some_iff.1 h1
    omega
theorem tabIs_old {W w : World} (h : Old W w) {n : String} {k : IntKind} {zs : List Int} {g : Nat} (hg : Tryd.prog.globalNamed n = some g) (ht : Lib.TabIs Tryd.prog W n k zs) : Lib.TabIs Tryd.prog w n k zs :=
  by have h1 := Go.Joins.tab_stays hg ht h.below (Nat.le_refl _); exact h1
theorem PowG.old {W w : World} (h : Old W w) (hl : PowG W) : PowG w := tabIs_old h (by kernel_rfl : Tryd.prog.globalNamed "internal/strconv.uint64pow10" = some 5) hl
theorem deb_cells {w : World} (h : DebG w) : ∃ ms t fz, w.heap[9]? = some (.cells ms t fz) ∧ ∀ (j : Nat) (x : D), (Tryd.deB.map fun n => D.v (.int .u8 n))[j]? = some x → ∃ v, ms[j]? = some v ∧ x = .v v ∧ v.oneCell' = true := by
  have hc := fun i hi => h.cell gD i hi
  have h0 := hc 0 (by decide)
  unfold World.cell? at h0
  cases hb : w.heap[9]? with
  | none => simp [hb] at h0
  | some o =>
    cases o with
    | cells ms t fz =>
      refine ⟨ms, t, fz, rfl, fun j x hx => ?_⟩
      simp only [List.getElem?_map, Option.map_eq_some_iff] at hx
      obtain ⟨n, hn, rfl⟩ := hx
      have hj : j < Tryd.deB.length := (List.getElem?_eq_some_iff.1 hn).1
      have h1 := hc j hj
      refine ⟨.int .u8 n, ?_, rfl, rfl⟩
      unfold World.cell? at h1
      simp only [hb] at h1
      have h2 : ms[j]? = some (.int .u8 (Tryd.deB.getD j 0)) := h1
      rw [h2]
      simp [List.getD, hn]
    | _ => simp [hb] at h0
theorem glOk_of {W : World} (h : DebG W) (hs : 9 < W.heap.size) : GlOk W.heap.size Tryd.gl W := fun p hp => by
  simp only [Tryd.gl, List.mem_singleton] at hp
  subst hp
  exact ⟨hs, deb_cells h⟩
theorem deb_size {W : World} (h : DebG W) : 9 < W.heap.size := by
  obtain ⟨ms, t, fz, h1, _⟩ := deb_cells h
  exact (Array.getElem?_eq_some_iff.1 h1).1
def gpOf (W : World) (h : DebG W) : GP where
  ng := W.heap.size
  gl := Tryd.gl
  G := Old W
  glOk := fun w hw p hp => by
    obtain ⟨h1, ms, t, fz, h2, h3⟩ := glOk_of h (deb_size h) p hp
    exact ⟨h1, ms, t, fz, by rw [hw.block _ h1]; exact h2, h3⟩
  Gst := fun w w' ho hb hw => ⟨ho.trans hw.os, fun b h => (hb b h).trans (hw.block b h)⟩
def gp0 (W : World) : GP where
  ng := W.heap.size
  gl := []
  G := Old W
  glOk := fun w hw p hp => by simp at hp
  Gst := fun w w' ho hb hw => ⟨ho.trans hw.os, fun b h => (hb b h).trans (hw.block b h)⟩
theorem Old.refl (W : World) : Old W W := ⟨rfl, fun _ _ => rfl⟩
theorem calls_of_ctr' {W : World} {g : GP} (e1 : g.ng = W.heap.size) (e2 : g.G = Old W) {f : FuncId} {args : List AV} {v : Value} (hC : Ctr (ax g).E f args [] (fun o => o = .ret (.d (.v v)) [])) (vs : Array Value) (hsz : vs.size = args.length)
    (hra : ∀ (i : Nat) (v : Value) (x : AV), vs[i]? = some v → args[i]? = some x → RA (hp W) (fun b => b < W.heap.size) (fun _ => none) v x) :
    Calls Tryd.prog f vs W fun e w' => e = .returned v ∧ Below W.heap.size W w' := by
  refine (hC.2 W (fun b => b < W.heap.size) (fun _ => none) vs (by show g.G W; rw [e2]; exact Old.refl W) (fun b hb => hb) (fun b hb => by rw [← e1]; exact hb) hsz hra ⟨fun r o h => by simp [lkH] at h, fun r r' o o' l l' h => by simp [lkH] at h⟩).mono fun e w' he => ?_
  cases e with
  | returned u =>
    obtain ⟨res, ho, Im', ρ', h1, h2, h3, A⟩ := he
    injection h1 with e1 e2
    subst e1
    refine ⟨by rw [h2.v], ⟨A.grows.os, A.grows.tape, A.grows.output, A.grows.size, fun b hb => A.grows.block b hb fun ⟨r, o, l, hr, _⟩ => by simp [lkH] at hr⟩⟩
  | panicked ch => obtain ⟨ho, Im', ρ', h1, _⟩ := he; exact absurd h1 (by simp)
  | outgrown => exact he.elim
theorem calls_of_ctr0 {W : World} {f : FuncId} {args : List AV} {v : Value} (hC : Ctr (ax (gp0 W)).E f args [] (fun o => o = .ret (.d (.v v)) [])) (vs : Array Value) (hsz : vs.size = args.length)
    (hra : ∀ (i : Nat) (v : Value) (x : AV), vs[i]? = some v → args[i]? = some x → RA (hp W) (fun b => b < W.heap.size) (fun _ => none) v x) :
    Calls Tryd.prog f vs W fun e w' => e = .returned v ∧ Below W.heap.size W w' := calls_of_ctr' rfl rfl hC vs hsz hra
theorem trodAll_stays {H : Type} {enc : TypeId × Value → H} {P : Program} (hl : laidOutB P = true) {W W' : World} (hb : Below W.heap.size W W') {sp : Nat → Bool} : ∀ {ts : List TypeId} {vs : List Value} {ds : List (DataW H)} {ps : List MemPlace},
    (ts.all fun t => P.readableRec t && decide (t < P.types.size)) = true → DataW.TrodAll enc P W 0 (fun _ => true) true ts vs ds ps → (∀ x ∈ ps, x.block < W.heap.size) → (∀ x ∈ ps, sp x.block = true) → DataW.TrodAll enc P W' 0 sp true ts vs ds ps
  | [], vs, ds, ps, _, h, _, _ => by
    obtain ⟨rfl, rfl, rfl⟩ := trodAll_nil h
    exact trodAll_mk0
  | t :: ts, vs, ds, ps, hr, h, hlt, hsp => by
    obtain ⟨v, vs', d, ds', p, q, rfl, rfl, rfl, h1, h2⟩ := trodAll_cons h
    simp only [List.all_cons, Bool.and_eq_true, decide_eq_true_eq] at hr
    refine trodAll_cons_mk (WideElems.Trod_stays hl hr.1.1 hr.1.2 h1 (fun x hx => hb.same (hlt x (by simp [hx]))) (fun x hx => hsp x (by simp [hx]))) (trodAll_stays hl hb (by simpa using hr.2) h2 (fun x hx => hlt x (by simp [hx])) (fun x hx => hsp x (by simp [hx])))
end Go.Ax

namespace Go.Ax
open Go.Proofs Go.RowKit Go.Shelf Go.Lib Go.ChangeShapes Go.Proofs.YtjcgfiidbpailaaDoor
set_option maxRecDepth 100000
theorem tabIs_of_reads {P : Program} {W : World} {name : String} {k : IntKind} {zs : List Int} {g : Nat} {t e : TypeId} {n : Nat}
    (hg : P.globalNamed name = some g) (hty : (P.globals[g]?).map (·.type) = some t) (ht : P.underlying t = some (.array n e)) (he : P.underlying e = some (.int k)) (hce : P.cellsOf e = 1) (hct : P.cellsOf t = n)
    (h : VarReads P W name (tabData k zs)) : TabIs P W name k zs := by
  obtain ⟨g', t', cs, fuel, p, hg', ht', hvar, hd⟩ := h
  obtain rfl := Option.some.inj (hg.symm.trans hg')
  obtain rfl := Option.some.inj (hty.symm.trans ht')
  unfold TabIs
  rw [hvar, ← cells_of_tab ht he hce hct hd]
theorem andT {a b : Bool} (ha : a = true) (hb : b = true) : (a && b) = true := by rw [ha, hb]; rfl
theorem laidOut : laidOutB Tryd.prog = true := by kernel_rfl
theorem own : ownKnob Tryd.prog.godebug = none := by kernel_rfl
theorem powG_of {W : World} (h : VarReads Tryd.prog W "internal/strconv.uint64pow10" Rows.laid_internal_strconv_uint64pow10) : PowG W :=
  tabIs_of_reads (k := .u64) (zs := Lib.pow10Tab) (g := 5) (by kernel_rfl) (t := 219) (by kernel_rfl) Tryd.underlying219 Tryd.underlying141 (by kernel_rfl) (by kernel_rfl) h
noncomputable abbrev N0 : Nat := (World.settled Tryd.prog default).heap.size
noncomputable def laidWorld (os : Os) : World :=
  let N := (World.settled Tryd.prog os).heap.size
  let ρ := Tryd.lays200_ren
  let w0 := World.holding Tryd.prog os ⟨#[
    .cells (rgCells .u16 letterT.r16) (ρ.t 198), .cells (rgCells .u32 letterT.r32) (ρ.t 201),
    .cells #[.slice (some ⟨N, 0, none⟩) letterT.r16.size letterT.r16.size, .slice (some ⟨N + 1, 0, none⟩) letterT.r32.size letterT.r32.size, .int .i64 letterT.off] (ρ.t 196),
    .cells #[.string ⟨#[105, 110, 118, 97, 108, 105, 100, 32, 115, 121, 110, 116, 97, 120]⟩] 236, .cells #[.string ⟨#[118, 97, 108, 117, 101, 32, 111, 117, 116, 32, 111, 102, 32, 114, 97, 110, 103, 101]⟩] 236], #[], []⟩
  let put (h : Array Obj) (g : Nat) (cs : Array Value) : Array Obj := h.modify g fun
    | .cells _ t frozen => .cells cs t frozen
    | o => o
  let h1 := put w0.heap 2 (Lib.propertiesTab.map fun z => Value.int .u8 z).toArray
  let h2 := put h1 3 #[.pointer (some ⟨N + 2, 0, none⟩)]
  let h3 := put h2 0 (Lib.firstTab.map fun z => Value.int .u8 z).toArray
  let h4 := put h3 1 ((List.range 16).flatMap fun i => [Value.int .u8 (Lib.accLo i), Value.int .u8 (Lib.accHi i)]).toArray
  let h5 := put h4 9 (Tryd.deB.map fun z => Value.int .u8 z).toArray
  let h6 := put h5 5 (Lib.pow10Tab.map fun z => Value.int .u64 z).toArray
  let h7 := put h6 8 ([0, 1, 28, 2, 29, 14, 24, 3, 30, 22, 20, 15, 25, 17, 4, 8, 31, 27, 13, 23, 21, 19, 16, 7, 26, 12, 18, 6, 11, 5, 10, 9].map fun z => Value.int .u8 z).toArray
  let h8 := put h7 6 #[.iface 234 (.pointer (some ⟨N + 3, 0, none⟩))]
  let h9 := put h8 7 #[.iface 234 (.pointer (some ⟨N + 4, 0, none⟩))]
  { w0 with heap := h9 }
noncomputable abbrev memOf (os : Os) (args : Array Value) : World := ((laidWorld os).forCall (fun _ _ => 0) ⟨#[], args, []⟩).memory
theorem pieceB (os : Os) (args : Array Value) : LaidIn Tryd.prog (memOf os args) [("math/bits.deBruijn32tab", Rows.laid_math_bits_deBruijn32tab), ("math/bits.deBruijn64tab", Rows.laid_math_bits_deBruijn64tab), ("internal/strconv.uint64pow10", Rows.laid_internal_strconv_uint64pow10)] [8, 9, 5] :=
  LaidIn.of_run [8, 9, 5] 8 (by kernel_rfl) (by kernel_rfl) (by kernel_rfl) (by kernel_rfl)
theorem pieceF (os : Os) (args : Array Value) : LaidIn Tryd.prog (memOf os args) [("unicode/utf8.first", Rows.laid_unicode_utf8_first)] [0] :=
  LaidIn.of_run [0] 8 (by kernel_rfl) (by kernel_rfl) (by kernel_rfl) (by kernel_rfl)
theorem pieceE (os : Os) (args : Array Value) : LaidIn Tryd.prog (memOf os args) [("strconv.ErrRange", Rows.laid_strconv_ErrRange), ("strconv.ErrSyntax", Rows.laid_strconv_ErrSyntax)] [7, N0 + 4, 6, N0 + 3] :=
  LaidIn.of_run [7, N0 + 4, 6, N0 + 3] 8 (by kernel_rfl) (by kernel_rfl) (by kernel_rfl) (by kernel_rfl)
theorem pieceA (os : Os) (args : Array Value) : LaidIn Tryd.prog (memOf os args) [("unicode/utf8.acceptRanges", Rows.laid_unicode_utf8_acceptRanges)] [1] :=
  LaidIn.of_run [1] 8 (by kernel_rfl) (by kernel_rfl) (by kernel_rfl) (by kernel_rfl)
theorem laidInE (os : Os) (args : Array Value) : LaidIn Tryd.prog (memOf os args) [("math/bits.deBruijn32tab", Rows.laid_math_bits_deBruijn32tab), ("math/bits.deBruijn64tab", Rows.laid_math_bits_deBruijn64tab), ("internal/strconv.uint64pow10", Rows.laid_internal_strconv_uint64pow10), ("unicode/utf8.acceptRanges", Rows.laid_unicode_utf8_acceptRanges), ("strconv.ErrRange", Rows.laid_strconv_ErrRange), ("strconv.ErrSyntax", Rows.laid_strconv_ErrSyntax), ("unicode/utf8.first", Rows.laid_unicode_utf8_first)] ([8, 9, 5] ++ ([1] ++ ([7, N0 + 4, 6, N0 + 3] ++ [0]))) :=
  (pieceB os args).append ((pieceA os args).append ((pieceE os args).append (pieceF os args) (by kernel_rfl)) (by kernel_rfl)) (by kernel_rfl)
theorem post_law {H : Type} {enc : TypeId × Value → H} {fn : Func} {s : ChangeSpec} (hv : s.vars = []) (hres : fn.resultTypes = #[4]) (hro : (fn.params.toList.all fun t => Tryd.prog.readableRec t && decide (t < Tryd.prog.types.size)) = true)
    {W W' : World} {args : Array Value} {ds gs : List (DataW H)} {before : List MemPlace} (hW : DataW.Whole enc Tryd.prog fn.params.toList s.vars false W args.toList ds gs before)
    (hfn : s.fn H (ds ++ gs) = { results := [.lit (.bool true)], args := ds }) (hb : Below W.heap.size W W') : s.post enc Tryd.prog fn false true false false W args (.bool true) W' := by
  have hW' := hW
  obtain ⟨p, q, hA, hV, rfl, _, _⟩ := hW
  rw [hv] at hV
  obtain ⟨rfl, rfl⟩ := trodVars_none hV
  have hlt : ∀ x ∈ p ++ [], x.block < W.heap.size := fun x hx => by simpa using hW'.lt x hx
  refine ⟨ds, [], p ++ [], [], p, [], hW', ?_, ?_, ?_, hb.frame _, fun h => by cases h⟩
  · rw [hfn, hres]; exact trodAll_mk1 (shut_bool Tryd.underlying4 _)
  · rw [hfn]; exact trodAll_stays laidOut hb hro hA (fun x hx => hlt x (by simp [hx])) (fun x hx => by simpa using hlt x (by simp [hx]))
  · rw [hfn, hv]; exact rfl
end Go.Ax

namespace Go.Ax
open Go.Proofs Go.RowKit Go.Shelf Go.Lib
set_option maxRecDepth 10000
theorem Ctr.ofAny {E : Env} {f : FuncId} {xs : List Value} {x : AV} (hb : Bodied E.P f) (hm : ∀ r, x.ment r = false) (h : ∀ w, E.G w → Calls E.P f xs.toArray w fun e w' => ∃ v, e = .returned v ∧ (∀ h Im ρ, RA h Im ρ v x) ∧ Below w.heap.size w w') : Ctr E f (vals xs) [] fun o => o = .ret x [] := by
  refine ⟨hb, fun w Im ρ vs hG hIm hgl hsz hra hrel => ?_⟩
  rw [args_vals hsz hra]
  refine (h w hG).mono fun e w' ⟨v, he, hr, hB⟩ => ?_
  subst he
  exact ⟨_, [], Im, _, rfl, hr _ _ _, fun r h => by rw [hm r] at h; exact absurd h (by simp), after_below hIm hB⟩
theorem index1_ctr (g : GP) (s : ByteArray) (c : UInt8) : Ctr (ax g).E 103 [.str s, .str ⟨#[c]⟩] [] fun o => o = .ret (.i64 (Lib.indexByte s.data.toList c)) [] :=
  Ctr.ofVal (E := (ax g).E) (f := 103) (xs := [.string s, .string ⟨#[c]⟩]) ⟨_, Tryd.func103, rfl, by decide +kernel⟩ rfl fun w _ => (Tryd.strings_Index_one s c w).mono fun e w' ⟨h1, h2⟩ => ⟨h1, by rw [h2]; exact Below.refl _ _⟩
structure ErrG (w : World) : Prop where
  syn : ∃ tp p, w.var? Tryd.prog "strconv.ErrSyntax" = some #[.iface tp p]
  rng : ∃ tp p, w.var? Tryd.prog "strconv.ErrRange" = some #[.iface tp p]
theorem RA.tup2 {h : Nat → Option Obj} {Im : Nat → Prop} {ρ : Nat → Option Loc} {a b : Value} {x y : AV} (h1 : RA h Im ρ a x) (h2 : RA h Im ρ b y) : RA h Im ρ (.tuple #[a, b]) (.tup [x, y]) :=
  .tup _ _ rfl fun i v z e1 e2 => by
    match i, e1, e2 with
    | 0, e1, e2 => simp at e1 e2; subst e1; subst e2; exact h1
    | 1, e1, e2 => simp at e1 e2; subst e1; subst e2; exact h2
    | i + 2, e1, _ => simp at e1
end Go.Ax

namespace Go.Ax
open Go.Proofs Go.RowKit Go.Shelf Go.Lib Go.ChangeShapes Go.Proofs.YtjcgfiidbpailaaDoor
set_option maxRecDepth 100000
theorem gES : Tryd.prog.globalNamed "strconv.ErrSyntax" = some 6 := by kernel_rfl
theorem gER : Tryd.prog.globalNamed "strconv.ErrRange" = some 7 := by kernel_rfl
theorem starE : "*" ++ "errors.errorString" = "*errors.errorString" := by decide
theorem rowE (u : TypeId) (h : Tryd.prog.typeName? 3 u = some "*errors.errorString") : u = 234 :=
  typeName_ptr_named (nm := "errors.errorString") (by rw [starE]; kernel_rfl) (by kernel_rfl) (by decide) u (by rw [starE]; exact h)
theorem var_old {W w : World} (h : Old W w) {n : String} {cs : Array Value} (hv : W.var? Tryd.prog n = some cs) : w.var? Tryd.prog n = some cs := by
  unfold World.var? at hv ⊢
  cases hg : Tryd.prog.globalNamed n with
  | none => rw [hg] at hv; simp at hv
  | some g =>
    rw [hg] at hv
    simp only [Option.bind_some] at hv ⊢
    have hlt : g < W.heap.size := by
      rcases Nat.lt_or_ge g W.heap.size with h' | h'
      · exact h'
      · simp [Array.getElem?_eq_none h'] at hv
    rw [h.block g hlt]; exact hv
theorem ErrG.old {W w : World} (h : Old W w) (hl : ErrG W) : ErrG w where
  syn := let ⟨tp, p, hv⟩ := hl.syn; ⟨tp, p, var_old h hv⟩
  rng := let ⟨tp, p, hv⟩ := hl.rng; ⟨tp, p, var_old h hv⟩
theorem errG_of {W : World} {r : List (String × DataW Unit)} (h : laidMet Tryd.prog (("strconv.ErrRange", Rows.laid_strconv_ErrRange) :: ("strconv.ErrSyntax", Rows.laid_strconv_ErrSyntax) :: r) W) : ErrG W where
  rng := by
    obtain ⟨a, s, hv, _⟩ := laid_sentinel h gER (by kernel_rfl : (Tryd.prog.globals[7]?).map (·.type) = some 87) Tryd.underlying87 rowE Tryd.underlying234 Tryd.underlying236 rfl rfl Tryd.underlying9 (by kernel_rfl) (by kernel_rfl)
    exact ⟨_, _, hv⟩
  syn := by
    obtain ⟨a, s, hv, _⟩ := laid_sentinel h.tail gES (by kernel_rfl : (Tryd.prog.globals[6]?).map (·.type) = some 87) Tryd.underlying87 rowE Tryd.underlying234 Tryd.underlying236 rfl rfl Tryd.underlying9 (by kernel_rfl) (by kernel_rfl)
    exact ⟨_, _, hv⟩
end Go.Ax

namespace Go.Ax
open Go.Proofs Go.RowKit Go.Shelf Go.Lib Go.ChangeShapes
inductive Sh where
  | int (k : IntKind)
  | bool
  | str
  | sl (bytes : Nat) (es : List Sh)
def rep {α : Type} (l : List α) : Nat → List α
  | 0 => []
  | n + 1 => l ++ rep l n
def shFs (P : Program) (go : TypeId → Option (List Sh)) : List Field → Nat → Option (List Sh)
  | [], _ => some []
  | f :: r, off => if f.offset = off then (go f.type).bind fun es => if es.length = P.cellsOf f.type then (shFs P go r (off + es.length)).map (es ++ ·) else none else none
def shOf (P : Program) : Nat → TypeId → Option (List Sh)
  | 0, _ => none
  | f + 1, t => match P.underlying t with
    | some .bool => some [.bool]
    | some (.int k) => some [.int k]
    | some .string => some [.str]
    | some (.slice e) => (shOf P f e).bind fun es => if es.length = P.cellsOf e ∧ 0 < es.length then some [.sl (P.bytesOf e) es] else none
    | some (.struct fs) => (shFs P (shOf P f) fs.toList 0).bind fun es => if es.length = P.cellsOf t then some es else none
    | some (.array n e) => (shOf P f e).bind fun es => if es.length = P.cellsOf e ∧ n * es.length = P.cellsOf t then some (rep es n) else none
    | _ => none
inductive Fit : Sh → D → Prop
  | int (k : IntKind) (n : Int) (h : (Lit.int k n).wf = true) : Fit (.int k) (.v (.int k n))
  | bool (b : Bool) : Fit .bool (.v (.bool b))
  | str (s : ByteArray) (h : s.size ≤ reachBytes) : Fit .str (.v (.string s))
  | sl (bytes : Nat) (es : List Sh) (els : List (List D)) (hlen : els.length * bytes ≤ reachBytes) (hel : ∀ el ∈ els, el.length = es.length) (hf : ∀ el ∈ els, ∀ (i : Nat) (s : Sh) (x : D), es[i]? = some s → el[i]? = some x → Fit s x) : Fit (.sl bytes es) (.sl false es.length els)
def CV (W : World) (cs : List Value) (shs : List Sh) : Prop := ∃ ds : List D, ds.length = shs.length ∧ cs.length = shs.length ∧ ∀ (i : Nat) (v : Value) (x : D) (s : Sh), cs[i]? = some v → ds[i]? = some x → shs[i]? = some s → RD (hp W) (fun b => b < W.heap.size) v x ∧ Fit s x
theorem CV.nil (W : World) : CV W [] [] := ⟨[], rfl, rfl, fun i v x s h => by simp at h⟩
theorem CV.one {W : World} {v : Value} {x : D} {s : Sh} (h1 : RD (hp W) (fun b => b < W.heap.size) v x) (h2 : Fit s x) : CV W [v] [s] := ⟨[x], rfl, rfl, fun i v' x' s' e1 e2 e3 => by
  cases i with
  | zero => simp at e1 e2 e3; subst e1; subst e2; subst e3; exact ⟨h1, h2⟩
  | succ i => simp at e1⟩
theorem CV.append {W : World} {c1 c2 : List Value} {s1 s2 : List Sh} (h1 : CV W c1 s1) (h2 : CV W c2 s2) : CV W (c1 ++ c2) (s1 ++ s2) := by
  obtain ⟨d1, a1, b1, g1⟩ := h1
  obtain ⟨d2, a2, b2, g2⟩ := h2
  refine ⟨d1 ++ d2, by simp [a1, a2], by simp [b1, b2], fun i v x s e1 e2 e3 => ?_⟩
  rcases Nat.lt_or_ge i s1.length with h | h
  · rw [List.getElem?_append_left (by omega)] at e1 e2 e3
    exact g1 i v x s e1 e2 e3
  · rw [List.getElem?_append_right (by omega)] at e1 e2 e3
    rw [b1] at e1; rw [a1] at e2
    exact g2 _ v x s e1 e2 e3
theorem data_len (s : ByteArray) : s.data.toList.length = s.size := by rw [Array.length_toList]; rfl
theorem weights_mem_all {H : Type} {P : Program} {e : TypeId} : ∀ {ds : List (DataW H)} {j : Nat} {d : DataW H}, ds[j]? = some d → ∀ n ∈ d.weights P e, n ∈ DataW.weightsAll P e ds
  | [], _, _, hd, _, _ => by simp at hd
  | d0 :: ds, 0, d, hd, n, hn => by
    simp at hd; subst hd
    simp only [DataW.weightsAll, List.mem_append]; exact .inl hn
  | d0 :: ds, j + 1, d, hd, n, hn => by
    simp only [List.getElem?_cons_succ] at hd
    simp only [DataW.weightsAll, List.mem_append]; exact .inr (weights_mem_all hd n hn)
section
variable {H : Type} {enc : TypeId × Value → H} {P : Program} {W : World} {sp : Nat → Bool} {held : Bool}
theorem cv_fields {n : Nat} {go : TypeId → Option (List Sh)} {cs : List Value} (ih : ∀ (t : TypeId) (c : List Value) (x : DataW H × List MemPlace) (shs : List Sh), DataW.trod enc P W 0 sp held n t c = some x → (∀ m ∈ x.1.weights P t, m ≤ reachBytes) → go t = some shs → CV W c shs) :
    ∀ (fl : List Field) (off : Nat) (es : List Sh), shFs P go fl off = some es → (∀ f ∈ fl, ∃ y, DataW.trod enc P W 0 sp held n f.type ((cs.drop f.offset).take (P.cellsOf f.type)) = some y ∧ ∀ m ∈ y.1.weights P f.type, m ≤ reachBytes) → CV W ((cs.drop off).take es.length) es
  | [], off, es, h, _ => by
    simp only [shFs] at h; injection h with h; subst h
    simpa using CV.nil W
  | f :: r, off, es, h, hf => by
    simp only [shFs] at h
    split at h
    · rename_i ho
      cases hg : go f.type with
      | none => rw [hg] at h; simp at h
      | some e1 =>
        rw [hg, Option.bind_some] at h
        split at h
        · rename_i hl
          cases hr : shFs P go r (off + e1.length) with
          | none => rw [hr] at h; simp at h
          | some e2 =>
            rw [hr, Option.map_some] at h
            injection h with h; subst h
            obtain ⟨y, hy, hw⟩ := hf f (by simp)
            have c1 := ih f.type _ y e1 hy hw hg
            rw [ho, ← hl] at c1
            have c2 := cv_fields ih r (off + e1.length) e2 hr fun f' h' => hf f' (by simp [h'])
            have := c1.append c2
            rw [List.length_append, List.take_add, List.drop_drop]
            exact this
        · exact absurd h (by simp)
    · exact absurd h (by simp)
theorem cv_rep {c : Nat} {es : List Sh} {cs : List Value} (hes : es.length = c) : ∀ (k off : Nat), (∀ i, i < k → CV W ((cs.drop ((off + i) * c)).take c) es) → CV W ((cs.drop (off * c)).take (k * c)) (rep es k)
  | 0, off, _ => by simpa [rep] using CV.nil W
  | k + 1, off, h => by
    have h0 := h 0 (by omega)
    rw [Nat.add_zero] at h0
    have h1 := cv_rep hes k (off + 1) fun i hi => by
      have := h (i + 1) (by omega)
      rwa [show off + (i + 1) = off + 1 + i by omega] at this
    rw [rep, show (k + 1) * c = c + k * c by rw [Nat.succ_mul, Nat.add_comm], List.take_add, List.drop_drop, show off * c + c = (off + 1) * c by rw [Nat.succ_mul]]
    exact h0.append h1
theorem cell_heap {w : World} {a : Addr} {v : Value} (h : w.cell? a = some v) : a.spot = none ∧ ∃ cs t fz, w.heap[a.block]? = some (.cells cs t fz) ∧ cs[a.off]? = some v := by
  unfold World.cell? at h
  split at h
  · rename_i c t fz hb
    split at h
    · exact absurd h (by simp)
    · rename_i hs
      exact ⟨by simpa using hs, c, t, fz, hb, h⟩
  · exact absurd h (by simp)
theorem add_block (a : Addr) (n : Nat) : (a.add n).block = a.block := by unfold Addr.add; split <;> rfl
theorem add_off (a : Addr) (n : Nat) : (a.add n).off = a.off + n := by unfold Addr.add; split <;> simp_all
theorem conv : ∀ (fuel : Nat) (t : TypeId) (cs : List Value) (x : DataW H × List MemPlace) (f2 : Nat) (shs : List Sh), DataW.trod enc P W 0 sp held fuel t cs = some x → (∀ m ∈ x.1.weights P t, m ≤ reachBytes) → shOf P f2 t = some shs → CV W cs shs
  | 0, t, cs, x, f2, shs, h, _, _ => by simp [DataW.trod] at h
  | fuel + 1, t, cs, x, 0, shs, h, _, hs => by simp [shOf] at hs
  | fuel + 1, t, cs, x, f2 + 1, shs, h, hw, hs => by
    simp only [shOf] at hs
    split at hs
    · rename_i hu
      injection hs with hs; subst hs
      obtain ⟨b, rfl, rfl⟩ := DataW.trod_bool hu h
      exact CV.one (.v _ rfl) (.bool b)
    · rename_i k hu
      injection hs with hs; subst hs
      obtain ⟨n, rfl, rfl, hwf⟩ := DataW.trod_int hu h
      exact CV.one (.v _ rfl) (.int k n hwf)
    · rename_i hu
      injection hs with hs; subst hs
      obtain ⟨s, rfl, rfl, hsz⟩ := DataW.trod_string hu h
      exact CV.one (.v _ rfl) (.str s (by have := hw s.data.toList.length (by simp [DataW.weights]); rw [data_len] at this; exact this))
    · rename_i e hu
      cases hg : shOf P f2 e with
      | none => rw [hg] at hs; simp at hs
      | some es =>
        rw [hg, Option.bind_some] at hs
        split at hs
        · rename_i hl
          obtain ⟨hl, hpos⟩ := hl
          injection hs with hs; subst hs
          rcases DataW.trod_slice hu h with ⟨rfl, rfl⟩ | ⟨a, len, cap, elems, rest, n, hn, rfl, rfl, _, hlc, _, hlen, hel, _, _⟩
          · exact CV.one (.nil false es.length none 0 (by simp)) (.sl _ es [] (by simp) (by simp) (by simp))
          · injection hn with hn; subst hn
            have hwt : len * P.bytesOf e ≤ reachBytes := by
              have := hw ((elems.length + rest.length) * P.bytesOf e) (by simp [DataW.weights, hu])
              exact Nat.le_trans (Nat.mul_le_mul_right _ (by omega)) this
            have hch : ∀ i : Fin len, ∃ ce : List Value, W.cells? 0 (a.add (i.val * P.cellsOf e)) (P.cellsOf e) = some ce ∧ CV W ce es := fun i => by
              have h1 := hel i.val i.isLt
              have hi : i.val < elems.length := by rw [hlen]; exact i.isLt
              rw [List.getElem?_eq_getElem hi] at h1
              cases hc : W.cells? 0 (a.add (i.val * P.cellsOf e)) (P.cellsOf e) with
              | none => rw [hc] at h1; simp at h1
              | some ce =>
                rw [hc, Option.bind_some] at h1
                refine ⟨ce, rfl, conv fuel e ce _ f2 es h1 (fun m hm => hw m ?_) hg⟩
                have hj : (elems.map (·.1))[i.val]? = some (elems[i.val]).1 := by simp [hi]
                have := weights_mem_all (P := P) (e := e) hj m hm
                simp only [DataW.weights, hu, List.mem_cons, List.mem_append]
                exact .inr (.inl this)
            have key : ∀ i : Fin len, ∃ ds : List D, ds.length = es.length ∧ ∀ (j : Nat) (x : D), ds[j]? = some x → ∃ v, W.cell? ((a.add (i.val * P.cellsOf e)).add j) = some v ∧ RD (hp W) (fun b => b < W.heap.size) v x ∧ ∀ s, es[j]? = some s → Fit s x := fun i => by
              obtain ⟨ce, hc, ds, g1, g2, g3⟩ := hch i
              obtain ⟨_, hcl, hcc⟩ := World.cells?_some hc
              refine ⟨ds, g1, fun j x hx => ?_⟩
              have hj : j < ds.length := (List.getElem?_eq_some_iff.1 hx).1
              have hjc : ce[j]? = some (ce[j]'(by omega)) := List.getElem?_eq_getElem (by omega)
              have hjs : es[j]? = some (es[j]'(by omega)) := List.getElem?_eq_getElem (by omega)
              obtain ⟨r1, r2⟩ := g3 j _ x _ hjc hx hjs
              exact ⟨_, by rw [hcc j (by omega), hjc], r1, fun s hs => by rw [hjs] at hs; injection hs with hs; subst hs; exact r2⟩
            let els : List (List D) := List.ofFn fun i : Fin len => Classical.choose (key i)
            have hlenE : els.length = len := by simp [els]
            have hat : ∀ (i : Nat) (el : List D), els[i]? = some el → ∃ hi : i < len, el = Classical.choose (key ⟨i, hi⟩) := fun i el he => by
              have hi : i < els.length := (List.getElem?_eq_some_iff.1 he).1
              have hi' : i < len := by rw [← hlenE]; exact hi
              refine ⟨hi', ?_⟩
              rw [List.getElem?_eq_getElem hi] at he
              injection he with he
              rw [← he]; simp [els]
            have hmem : ∀ el ∈ els, ∃ i : Fin len, el = Classical.choose (key i) := fun el he => by
              obtain ⟨i, hi⟩ := List.getElem?_of_mem he
              obtain ⟨h1, h2⟩ := hat i el hi
              exact ⟨⟨i, h1⟩, h2⟩
            have hfit : Fit (.sl (P.bytesOf e) es) (.sl false es.length els) := .sl _ es els (by rw [hlenE]; exact hwt) (fun el he => by obtain ⟨i, rfl⟩ := hmem el he; exact (Classical.choose_spec (key i)).1) fun el he j s x h1 h2 => by
              obtain ⟨i, rfl⟩ := hmem el he
              obtain ⟨v, _, _, h5⟩ := (Classical.choose_spec (key i)).2 j x h2
              exact h5 s h1
            refine CV.one ?_ hfit
            rcases Nat.eq_zero_or_pos len with h0 | h0
            · subst h0
              have : els = [] := List.eq_nil_of_length_eq_zero hlenE
              rw [this]
              exact .nil false es.length _ cap (by simp)
            · have hcell : ∀ (i : Nat) (hi : i < len) (j : Nat) (x : D), (Classical.choose (key ⟨i, hi⟩))[j]? = some x → ∃ v cs t fz, W.heap[a.block]? = some (.cells cs t fz) ∧ cs[a.off + (i * es.length + j)]? = some v ∧ RD (hp W) (fun b => b < W.heap.size) v x := fun i hi j x hx => by
                obtain ⟨v, hv, hr, _⟩ := (Classical.choose_spec (key ⟨i, hi⟩)).2 j x hx
                obtain ⟨_, cs, t', fz, q2, q3⟩ := cell_heap hv
                rw [add_block, add_block] at q2
                rw [add_off, add_off, ← hl] at q3
                exact ⟨v, cs, t', fz, q2, by rwa [Nat.add_assoc] at q3, hr⟩
              have hx0 : ∃ x, (Classical.choose (key ⟨0, h0⟩))[0]? = some x := ⟨_, List.getElem?_eq_getElem (by rw [(Classical.choose_spec (key ⟨0, h0⟩)).1]; exact hpos)⟩
              obtain ⟨x0, hx0⟩ := hx0
              have hspot : a.spot = none := by
                obtain ⟨v, hv, _⟩ := (Classical.choose_spec (key ⟨0, h0⟩)).2 0 x0 hx0
                have := (cell_heap hv).1
                simpa [Addr.add] using this
              have hblk : a.block < W.heap.size := by
                obtain ⟨v, cs, t', fz, q2, _⟩ := hcell 0 h0 0 x0 hx0
                exact (Array.getElem?_eq_some_iff.1 q2).1
              obtain ⟨ab, ao, asp⟩ := a
              simp only at hspot
              subst hspot
              let f : Nat → Nat → Value := fun i j => ((W.heap[ab]?).bind fun o => match o with
                | .cells cs _ _ => cs[ao + (i * es.length + j)]?
                | _ => none).getD undef
              have hfv : ∀ (i j : Nat) (v : Value) (cs : Array Value) (t' : TypeId) (fz : Nat × Nat), W.heap[ab]? = some (.cells cs t' fz) → cs[ao + (i * es.length + j)]? = some v → f i j = v := fun i j v cs t' fz q2 q3 => by
                simp only [f, q2, Option.bind_some, q3, Option.getD_some]
              have := RD.sl (h := hp W) (Im := fun b => b < W.heap.size) false es.length els ab ao cap f (fun el he => by obtain ⟨i, rfl⟩ := hmem el he; exact (Classical.choose_spec (key i)).1) hblk (by rw [hlenE]; exact hlc) (by simp) (fun i j el x h1 h2 => by
                  obtain ⟨hi, rfl⟩ := hat i el h1
                  obtain ⟨v, cs, t', fz, q2, q3, q4⟩ := hcell i hi j x h2
                  exact ⟨cs, t', fz, q2, by rw [hfv i j v cs t' fz q2 q3]; exact q3⟩) (fun i j el x h1 h2 => by
                  obtain ⟨hi, rfl⟩ := hat i el h1
                  obtain ⟨v, cs, t', fz, q2, q3, q4⟩ := hcell i hi j x h2
                  rw [hfv i j v cs t' fz q2 q3]; exact q4)
              rw [hlenE] at this
              exact this
        · exact absurd hs (by simp)
    · rename_i fs hu
      cases hg : shFs P (shOf P f2) fs.toList 0 with
      | none => rw [hg] at hs; simp at hs
      | some es =>
        rw [hg, Option.bind_some] at hs
        split at hs
        · rename_i hl
          injection hs with hs; subst hs
          obtain ⟨xs, n, hn, rfl, hcl, hxl, hx⟩ := DataW.trod_struct hu h
          injection hn with hn; subst hn
          have := cv_fields (cs := cs) (fun t c x shs h1 h2 h3 => conv fuel t c x f2 shs h1 h2 h3) fs.toList 0 es hg fun f hf => by
            obtain ⟨i, hi⟩ := List.getElem?_of_mem hf
            have hi' : fs[i]? = some f := by simpa using hi
            have h1 := hx i f hi'
            have hlt : i < xs.length := by rw [hxl]; exact (Array.getElem?_eq_some_iff.1 hi').1
            rw [List.getElem?_eq_getElem hlt] at h1
            refine ⟨_, h1, fun m hm => hw m ?_⟩
            simp only [DataW.weights, hu]
            exact DataW.weights_mem_each (j := i) (t := f.type) (d := xs[i].1) (by simp [hi']) (by simp [hlt]) m hm
          rw [List.drop_zero, List.take_of_length_le (by omega)] at this
          exact this
        · exact absurd hs (by simp)
    · rename_i n e hu
      cases hg : shOf P f2 e with
      | none => rw [hg] at hs; simp at hs
      | some es =>
        rw [hg, Option.bind_some] at hs
        split at hs
        · rename_i hl
          injection hs with hs; subst hs
          obtain ⟨xs, k, hn, rfl, hcl, hxl, hx⟩ := DataW.trod_array hu h
          injection hn with hn; subst hn
          have := cv_rep (W := W) (cs := cs) hl.1 n 0 fun i hi => by
            have h1 := hx i hi
            have hlt : i < xs.length := by rw [hxl]; exact hi
            rw [List.getElem?_eq_getElem hlt] at h1
            rw [Nat.zero_add]
            refine conv fuel e _ _ f2 es h1 (fun m hm => hw m ?_) hg
            simp only [DataW.weights, hu]
            exact weights_mem_all (j := i) (d := xs[i].1) (by simp [hlt]) m hm
          rw [Nat.zero_mul, List.drop_zero, List.take_of_length_le (by rw [hcl, ← hl.2, hl.1]; exact Nat.le_refl _)] at this
          exact this
        · exact absurd hs (by simp)
    · exact absurd hs (by simp)
theorem cv_slice {r : Reach} {b0 : Nat} {t e : TypeId} {v : Value} {d : DataW H} {ps : List MemPlace} {f2 b : Nat} {es : List Sh} (ht : P.underlying t = some (.slice e)) (hval : Value.okWide P W r b0 t v) (h : DataW.Trod enc P W 0 sp held t v d ps) (hw : ∀ m ∈ d.weights P t, m ≤ reachBytes) (hs : shOf P f2 t = some [.sl b es]) :
    v.oneCell' = true ∧ ∃ els, RD (hp W) (fun b => b < W.heap.size) v (.sl false es.length els) ∧ Fit (.sl b es) (.sl false es.length els) := by
  obtain ⟨a, n, c, rfl⟩ := WideShapes.okWide_slice ht hval
  obtain ⟨fuel, hf⟩ := h
  obtain ⟨ds, h1, h2, h3⟩ := conv fuel t _ _ f2 _ hf hw hs
  have hd : ds[0]? = some (ds[0]'(by rw [h1]; simp)) := List.getElem?_eq_getElem _
  obtain ⟨g1, g2⟩ := h3 0 _ _ (.sl b es) rfl hd rfl
  refine ⟨rfl, ?_⟩
  generalize ds[0]'(by rw [h1]; simp) = x at g1 g2
  cases g2 with
  | sl _ _ els q1 q2 q3 => exact ⟨els, g1, .sl _ _ els q1 q2 q3⟩
theorem rows_of {α : Type} (row : α → List D) (p : α → Prop) : ∀ {els : List (List D)}, (∀ el ∈ els, ∃ a, el = row a ∧ p a) → ∃ l : List α, els = l.map row ∧ ∀ a ∈ l, p a
  | [], _ => ⟨[], rfl, by simp⟩
  | el :: els, h => by
    obtain ⟨a, ha, hp⟩ := h el (by simp)
    obtain ⟨l, hl, hq⟩ := rows_of row p (els := els) fun e he => h e (by simp [he])
    exact ⟨a :: l, by rw [ha, hl]; rfl, fun x hx => by rcases List.mem_cons.1 hx with rfl | hx; exact hp; exact hq x hx⟩
end
theorem fit_u16 {x : D} (h : Fit (.int .u16) x) : ∃ n : Int, x = .u16 n ∧ 0 ≤ n ∧ n < 65536 := by
  cases h with
  | int _ k hk => exact ⟨k, rfl, by simp [Lit.wf, IntKind.min, IntKind.max, IntKind.bits, IntKind.signed] at hk; omega⟩
end Go.Ax

namespace Go.Ax
open Go.Proofs Go.RowKit Go.Shelf Go.Lib
theorem join_ctr (g : GP) (t : Bool) (xs : List ByteArray) (sep : ByteArray) (hN : xs.length ≤ 140737488355328) (hlen : (Lib.join (xs.map (·.data.toList)) sep.data.toList).length ≤ 140737488355328) :
    Ctr (ax g).E 41 [.d (.sl t 1 (xs.map fun x => [.v (.string x)])), .d (.v (.string sep))] [] fun o => o = .ret (.d (.v (.string ⟨(Lib.join (xs.map (·.data.toList)) sep.data.toList).toArray⟩))) [] := by
  refine ⟨⟨_, Tryd.func41, rfl, by decide +kernel⟩, fun w Im ρ vs hG hIm hgl hsz hra hrel => ?_⟩
  have h0 := hra 0 (vs.getD 0 undef) _ (by simp at hsz; simp [Array.getD, hsz]) rfl
  have h1 := hra 1 (vs.getD 1 undef) _ (by simp at hsz; simp [Array.getD, hsz]) rfl
  have hvs : vs = #[vs.getD 0 undef, vs.getD 1 undef] := by
    simp at hsz
    apply Array.ext (by simp [hsz])
    intro i h1 h2
    simp at h2
    match i with
    | 0 => simp [Array.getD, hsz]
    | 1 => simp [Array.getD, hsz]
  have hsep := h1.v
  have hfin : ∀ e w', (e = .returned (.string ⟨(Lib.join (xs.map (·.data.toList)) sep.data.toList).toArray⟩) ∧ Below w.heap.size w w') → Ends (fun o => o = .ret (.d (.v (.string ⟨(Lib.join (xs.map (·.data.toList)) sep.data.toList).toArray⟩))) []) w Im ρ [] e w' := fun e w' ⟨he, hB⟩ => by
    subst he
    exact ⟨_, [], Im, _, rfl, RA.intv _ rfl, fun r hr => by simp [AV.ment] at hr, after_below hIm hB⟩
  rw [hvs, hsep]
  have hd := h0.d_inv
  generalize hv : vs.getD 0 undef = v at hd
  generalize hels : (xs.map fun x => [D.v (.string x)]) = els at hd
  cases hd with
  | nil _ _ a cap _ =>
    have hx : xs = [] := by simpa using hels
    subst hx
    exact (Tryd.strings_Join_none a cap sep w).mono fun e w' ⟨h1, h2⟩ => hfin e w' ⟨h1, by rw [h2]; exact Below.refl _ _⟩
  | sl _ _ _ b o cap f hss hb hle _ hcc hr =>
    subst hels
    have := Tryd.strings_Join b o cap xs sep w (fun j x hj => by
      have h1 : (xs.map fun x => [D.v (.string x)])[j]? = some [D.v (.string x)] := by simp [hj]
      obtain ⟨cs, t', fz, e1, e2⟩ := hcc j 0 _ _ h1 rfl
      have e3 := (hr j 0 _ _ h1 rfl).bool
      rw [e3] at e2
      have := cell_hp e1 e2
      simpa using this) (hIm b hb) hN (by simpa using hle) hlen
    simp only [List.length_map]
    exact this.mono hfin
end Go.Ax

namespace Go.Ax
open Go.Proofs
set_option maxRecDepth 10000
theorem join_bound : ∀ (xs : List (List UInt8)) (k : Nat), (∀ x ∈ xs, x.length ≤ k) → (Lib.join xs [44]).length ≤ (k + 1) * xs.length := by
  intro xs
  induction xs with
  | nil => intro k _; simp [Lib.join_nil]
  | cons x r ih =>
    intro k h
    rw [Lib.join_length]
    have : ∀ (ys : List (List UInt8)), (∀ y ∈ ys, y.length ≤ k) → Lib.lens ys ≤ k * ys.length := by
      intro ys
      induction ys with
      | nil => intro _; simp [Lib.lens]
      | cons y ys ih2 =>
        intro h2
        have h3 := ih2 fun y hy => h2 y (by simp [hy])
        have h4 := h2 y (by simp)
        have : Lib.lens (y :: ys) = y.length + Lib.lens ys := by simp [Lib.lens]
        rw [this, List.length_cons, Nat.mul_succ]
        omega
    have h5 := this (x :: r) h
    simp only [List.length_cons, List.length_nil] at h5 ⊢
    rw [Nat.add_mul k 1]
    omega
theorem frzE (r sz n : Nat) (els : List (List D)) (h : n = els.length) : frz r sz els (.msl r n 0 n) = .d (.sl false sz els) := by
  subst h
  have h1 : Nat.ble (0 + els.length) els.length = true := Nat.ble_eq_true_of_le (by omega)
  have h2 : Nat.beq els.length els.length = true := by simp
  have h3 : Nat.beq r r = true := by simp
  show (match r.beq r, els.length.beq els.length, (0 + els.length).ble els.length with
      | true, true, true => AV.d (D.sl false sz (List.take els.length (List.drop 0 els)))
      | _, _, _ => AV.msl r els.length 0 els.length) = AV.d (D.sl false sz els)
  rw [h1, h2, h3]
  simp
end Go.Ax

namespace Go.Ax
open Go.Proofs
set_option maxRecDepth 10000
def boxN (a b c : Nat) (s : ByteArray) (x : UInt8) : HL := [(a, some (.dvar 1 [.v (.string s)])), (b, some (.dvar 1 [.v (.string ⟨#[x]⟩)])), (c, some (.dvar 1 [.i64 0]))]
theorem split0_ctr (g : GP) (s : ByteArray) (x : UInt8) : Ctr (ax g).E 72 [.str s, .str ⟨#[x]⟩, .i64 0] [] (fun o => o = .ret (.clo (.func 102) [] [.ptr 4 0, .ptr 3 0, .ptr 5 0]) (boxN 3 4 5 s x)) := by
  refine Ctr.body (X := ax g) _ 8 [] [.tmp 6] Tryd.func72 rfl rfl rfl rfl (by decide +kernel) rfl rfl ?_
  conv => whnf
  repeat' (first | (refine And.intro (by first | exact rfl | decide | exact Nat.le_of_ble_eq_true rfl | exact ⟨_, rfl⟩ | exact ⟨_, _, rfl⟩ | exact Nat.le_refl _ | exact Int.le_refl _ | omega | (simp only [List.length_map]; omega) | exact True.intro | (simp only [IntKind.wrap_i64, List.length_map]; omega) | (simp only [List.map_cons, List.map_nil, List.length_cons, Option.getD]; omega) | (simp only [bsz, ByteArray.size_append, List.size_toArray, List.length_cons, List.length_nil]; omega) | exact ⟨⟨_, _, rfl, rfl, Nat.le_of_ble_eq_true rfl⟩, trivial⟩ | exact ⟨⟨_, _, rfl, rfl, Nat.le_of_ble_eq_true rfl⟩, ⟨_, _, rfl, rfl, Nat.le_of_ble_eq_true rfl⟩, trivial⟩ | exact ⟨⟨_, _, rfl, rfl, Nat.le_of_ble_eq_true rfl⟩, ⟨_, _, rfl, rfl, Nat.le_of_ble_eq_true rfl⟩, ⟨_, _, rfl, rfl, Nat.le_of_ble_eq_true rfl⟩, trivial⟩) ?_; conv => whnf) | (refine ifB_intro (fun hA => ?_) (fun hA => ?_) <;> (try rw [hA]) <;> (conv => whnf) <;> (first | replace hA := of_decide_eq_true hA | replace hA := of_decide_eq_false hA | replace hA := eq_of_beq hA | replace hA := ne_of_beq_false hA | replace hA := bne_iff_ne.1 hA | replace hA := bne_eq_false_iff_eq.1 hA | skip) <;> (try simp only [List.length_map, cond_true, cond_false, Bool.not_eq_true', Bool.not_eq_false', beq_iff_eq, beq_eq_false_iff_ne, ne_eq] at hA)) | (rw [getD_map _ _ _ _ (by assumption)]; conv => whnf))
  refine ⟨⟨[(3, some (.dvar 1 [.v (.string s)])), (4, some (.dvar 1 [.v (.string ⟨#[x]⟩)])), (5, some (.dvar 1 [.i64 0]))], ?_⟩⟩
  conv => whnf
  refine And.intro ⟨fun o h => h, fun o h => h, fun o h => h, trivial⟩ ?_
  conv => whnf
  repeat' (first | (refine And.intro (by first | exact rfl | decide | exact Nat.le_of_ble_eq_true rfl | exact ⟨_, rfl⟩ | exact ⟨_, _, rfl⟩ | exact Nat.le_refl _ | exact Int.le_refl _ | omega | (simp only [List.length_map]; omega) | exact True.intro | (simp only [IntKind.wrap_i64, List.length_map]; omega) | (simp only [List.map_cons, List.map_nil, List.length_cons, Option.getD]; omega) | (simp only [bsz, ByteArray.size_append, List.size_toArray, List.length_cons, List.length_nil]; omega) | exact ⟨⟨_, _, rfl, rfl, Nat.le_of_ble_eq_true rfl⟩, trivial⟩ | exact ⟨⟨_, _, rfl, rfl, Nat.le_of_ble_eq_true rfl⟩, ⟨_, _, rfl, rfl, Nat.le_of_ble_eq_true rfl⟩, trivial⟩ | exact ⟨⟨_, _, rfl, rfl, Nat.le_of_ble_eq_true rfl⟩, ⟨_, _, rfl, rfl, Nat.le_of_ble_eq_true rfl⟩, ⟨_, _, rfl, rfl, Nat.le_of_ble_eq_true rfl⟩, trivial⟩) ?_; conv => whnf) | (refine ifB_intro (fun hA => ?_) (fun hA => ?_) <;> (try rw [hA]) <;> (conv => whnf) <;> (first | replace hA := of_decide_eq_true hA | replace hA := of_decide_eq_false hA | replace hA := eq_of_beq hA | replace hA := ne_of_beq_false hA | replace hA := bne_iff_ne.1 hA | replace hA := bne_eq_false_iff_eq.1 hA | skip) <;> (try simp only [List.length_map, cond_true, cond_false, Bool.not_eq_true', Bool.not_eq_false', beq_iff_eq, beq_eq_false_iff_ne, ne_eq] at hA)) | (rw [getD_map _ _ _ _ (by assumption)]; conv => whnf))
  rfl
theorem split1_ctr (g : GP) (s : ByteArray) (x : UInt8) : Ctr (ax g).E 44 [.str s, .str ⟨#[x]⟩] [] (fun o => o = .ret (.clo (.func 102) [] [.ptr 4 0, .ptr 3 0, .ptr 5 0]) (boxN 3 4 5 s x)) := by
  refine Ctr.body (X := ax g) _ 8 [] [.tmp 4] Tryd.func44 rfl rfl rfl rfl (by decide +kernel) rfl rfl ?_
  conv => whnf
  refine CallP.makesL rfl (split0_ctr g s x) ?_
  conv => whnf
  refine ⟨⟨[(3, some (.dvar 1 [.v (.string s)])), (4, some (.dvar 1 [.v (.string ⟨#[x]⟩)])), (5, some (.dvar 1 [.i64 0]))], ?_⟩⟩
  conv => whnf
  refine And.intro ⟨fun o h => h, fun o h => h, fun o h => h, trivial⟩ ?_
  conv => whnf
  repeat' (first | (refine And.intro (by first | exact rfl | decide | exact Nat.le_of_ble_eq_true rfl | exact ⟨_, rfl⟩ | exact ⟨_, _, rfl⟩ | exact Nat.le_refl _ | exact Int.le_refl _ | omega | (simp only [List.length_map]; omega) | exact True.intro | (simp only [IntKind.wrap_i64, List.length_map]; omega) | (simp only [List.map_cons, List.map_nil, List.length_cons, Option.getD]; omega) | (simp only [bsz, ByteArray.size_append, List.size_toArray, List.length_cons, List.length_nil]; omega) | exact ⟨⟨_, _, rfl, rfl, Nat.le_of_ble_eq_true rfl⟩, trivial⟩ | exact ⟨⟨_, _, rfl, rfl, Nat.le_of_ble_eq_true rfl⟩, ⟨_, _, rfl, rfl, Nat.le_of_ble_eq_true rfl⟩, trivial⟩ | exact ⟨⟨_, _, rfl, rfl, Nat.le_of_ble_eq_true rfl⟩, ⟨_, _, rfl, rfl, Nat.le_of_ble_eq_true rfl⟩, ⟨_, _, rfl, rfl, Nat.le_of_ble_eq_true rfl⟩, trivial⟩) ?_; conv => whnf) | (refine ifB_intro (fun hA => ?_) (fun hA => ?_) <;> (try rw [hA]) <;> (conv => whnf) <;> (first | replace hA := of_decide_eq_true hA | replace hA := of_decide_eq_false hA | replace hA := eq_of_beq hA | replace hA := ne_of_beq_false hA | replace hA := bne_iff_ne.1 hA | replace hA := bne_eq_false_iff_eq.1 hA | skip) <;> (try simp only [List.length_map, cond_true, cond_false, Bool.not_eq_true', Bool.not_eq_false', beq_iff_eq, beq_eq_false_iff_ne, ne_eq] at hA)) | (rw [getD_map _ _ _ _ (by assumption)]; conv => whnf))
  rfl
theorem split_ctr (g : GP) (s : ByteArray) (x : UInt8) : Ctr (ax g).E 44 [.str s, .str ⟨#[x]⟩] [] (fun o => o = .ret (.clo (.func 102) [] [.ptr 9104 0, .ptr 9103 0, .ptr 9105 0]) (boxH s x)) := by
  have h1 := (split1_ctr g s x).swapG (post' := fun o => o = .ret (.clo (.func 102) [] [.ptr 4 0, .ptr 9103 0, .ptr 5 0]) (boxN 9103 4 5 s x)) 3 9103 (fun res ho h => by injection h with h1 h2; subst h1; subst h2; rfl) (fun ch ho h => by simp at h)
  have h2 := h1.swapG (post' := fun o => o = .ret (.clo (.func 102) [] [.ptr 9104 0, .ptr 9103 0, .ptr 5 0]) (boxN 9103 9104 5 s x)) 4 9104 (fun res ho h => by injection h with h1 h2; subst h1; subst h2; rfl) (fun ch ho h => by simp at h)
  exact h2.swapG (post' := fun o => o = .ret (.clo (.func 102) [] [.ptr 9104 0, .ptr 9103 0, .ptr 9105 0]) (boxH s x)) 5 9105 (fun res ho h => by injection h with h1 h2; subst h1; subst h2; rfl) (fun ch ho h => by simp at h)
theorem split_one (c : UInt8) : ∀ l : List UInt8, l.all (· != c) = true → splitL c l = [l]
  | [], _ => rfl
  | b :: r, h => by
    simp only [List.all_cons, Bool.and_eq_true, bne_iff_ne, ne_eq] at h
    rw [splitL, if_neg fun e => h.1 e.symm, split_one c r h.2]
end Go.Ax

namespace Go.Ax
open Go.Proofs
set_option maxRecDepth 10000
def nameL : List (List UInt8) := [[115, 119], [112, 116], [115, 114, 99], [100, 115, 116], [116, 121, 112], [115, 118, 99], [118, 105, 100], [111, 112, 116]]
def nameF (i : Nat) : List UInt8 := nameL.getD i []
def fieldGo (s : List UInt8) : List (List UInt8) → Nat → Option Nat
  | [], _ => none
  | x :: r, i => if x = s then some i else fieldGo s r (i + 1)
def fieldK (s : List UInt8) : Option Nat := fieldGo s nameL 0
theorem fieldGo_lt {s : List UInt8} : ∀ {l : List (List UInt8)} {i j : Nat}, fieldGo s l i = some j → i ≤ j ∧ j < i + l.length
  | [], i, j, h => by simp [fieldGo] at h
  | x :: r, i, j, h => by
    rw [fieldGo] at h
    split at h
    · injection h with h; subst h; simp
    · have := fieldGo_lt h; simp; omega
theorem fieldK_lt {s : List UInt8} {j : Nat} (h : fieldK s = some j) : j < 8 := by
  have := fieldGo_lt h
  simp [nameL] at this; omega
theorem fieldGo_drop (s : List UInt8) (i : Nat) (h : i < 8) : fieldGo s (nameL.drop i) i = if nameF i = s then some i else fieldGo s (nameL.drop (i + 1)) (i + 1) := by
  have hl : i < nameL.length := h
  rw [List.drop_eq_getElem_cons hl, fieldGo]
  have : nameF i = nameL[i] := by unfold nameF; simp [List.getD, hl]
  rw [this]
theorem name_facts : ∀ i, i < 8 → (nameF i ≠ [] ∧ (nameF i).all (fun c => c != 61 && c != 32) = true ∧ (nameF i).length ≤ 3) ∧ fieldK (nameF i) = some i := by decide +kernel
def isD (c : UInt8) : Bool := decide (48 ≤ c.toNat) && decide (c.toNat ≤ 57)
def valD (a : Nat) (l : List UInt8) : Nat := l.foldl (fun a c => a * 10 + (c.toNat - 48)) a
def numK (l : List UInt8) : Option Nat := if l.length < 1 ∨ 5 < l.length ∨ l.all isD = false ∨ 65535 < valD 0 l then none else some (valD 0 l)
theorem numK_lt {l : List UInt8} {n : Nat} (h : numK l = some n) : n < 65536 := by
  unfold numK at h
  split at h
  · simp at h
  · injection h with h; omega
theorem valD_bound : ∀ (l : List UInt8) (a : Nat), l.all isD = true → valD a l < (a + 1) * 10 ^ l.length
  | [], a, _ => by simp [valD]
  | c :: r, a, h => by
    simp only [List.all_cons, Bool.and_eq_true] at h
    have h1 : c.toNat ≤ 57 ∧ 48 ≤ c.toNat := by
      have := h.1; unfold isD at this; simp at this; omega
    have ih := valD_bound r (a * 10 + (c.toNat - 48)) h.2
    have e : valD a (c :: r) = valD (a * 10 + (c.toNat - 48)) r := rfl
    rw [e, List.length_cons, Nat.pow_succ]
    refine Nat.lt_of_lt_of_le ih ?_
    rw [Nat.mul_comm (10 ^ r.length) 10, ← Nat.mul_assoc]
    exact Nat.mul_le_mul_right _ (by omega)
theorem valD_mono : ∀ (l : List UInt8) (a : Nat), l.all isD = true → a ≤ valD a l
  | [], a, _ => Nat.le_refl a
  | c :: r, a, h => by
    simp only [List.all_cons, Bool.and_eq_true] at h
    have := valD_mono r (a * 10 + (c.toNat - 48)) h.2
    have e : valD a (c :: r) = valD (a * 10 + (c.toNat - 48)) r := rfl
    rw [e]; omega
theorem parseM_digits : ∀ (l : List UInt8) (a : Nat), l.all isD = true → a < 10 ^ 15 → l.length ≤ 5 → valD a l < 10 ^ 17 → Lib.parseUintM 65535 a l = (if a ≤ 65535 ∨ l ≠ [] then (if 65535 < valD a l then .range else .ok (valD a l)) else .ok a)
  | [], a, _, _, _, _ => by
    by_cases h : a ≤ 65535
    · rw [if_pos (.inl h), if_neg (show ¬ 65535 < valD a [] from Nat.not_lt.2 h)]; rfl
    · rw [if_neg (by simp [h])]; rfl
  | c :: r, a, h, ha, hl, hv => by
    simp only [List.all_cons, Bool.and_eq_true] at h
    have h1 : 48 ≤ c.toNat ∧ c.toNat ≤ 57 := by
      have := h.1; unfold isD at this; simp at this; omega
    have e : valD a (c :: r) = valD (a * 10 + (c.toNat - 48)) r := rfl
    have hm := valD_mono r (a * 10 + (c.toNat - 48)) h.2
    rw [if_pos (.inr (by simp)), Lib.parseUintM, if_pos h1, if_neg (by omega), e]
    by_cases hb : 65535 < a * 10 + (c.toNat - 48)
    · rw [if_pos hb, if_pos (by omega)]
    · rw [if_neg hb, parseM_digits r _ h.2 (by omega) (by simp at hl; omega) (by rw [← e]; exact hv), if_pos (.inl (by omega))]
theorem parseB_digits (l : List UInt8) (h1 : 1 ≤ l.length) (h5 : l.length ≤ 5) (hd : l.all isD = true) : Lib.parseUintB 16 l = (if 65535 < valD 0 l then .range else .ok (valD 0 l)) := by
  have hne : l ≠ [] := fun e => by rw [e] at h1; simp at h1
  have hb := valD_bound l 0 hd
  have hp : 10 ^ l.length ≤ 10 ^ 5 := Nat.pow_le_pow_right (by omega) h5
  unfold Lib.parseUintB
  rw [if_neg hne, show 2 ^ 16 - 1 = 65535 from rfl, parseM_digits l 0 hd (by omega) h5 (by omega), if_pos (.inl (by omega))]
theorem dec_len : ∀ (k n : Nat), n < 10 ^ (k + 1) → (Lib.decDigits n).length ≤ k + 1
  | 0, n, h => by rw [Lib.decDigits_one (by simpa using h)]; simp
  | k + 1, n, h => by
    by_cases h1 : n < 10
    · rw [Lib.decDigits_one h1]; simp
    · rw [Lib.decDigits, dif_neg h1, List.length_append]
      have := dec_len k (n / 10) (by rw [Nat.pow_succ] at h; omega)
      simp; omega
theorem isD_ne {l : List UInt8} (h : l.all isD = true) : l.all (fun c => c != 61 && c != 32) = true := by
  rw [List.all_eq_true] at h ⊢
  intro c hc
  have := h c hc
  unfold isD at this
  have h2 : 48 ≤ c.toNat ∧ c.toNat ≤ 57 := by simp at this; omega
  have n1 : c ≠ 61 := fun e => by subst e; have : (61 : UInt8).toNat = 61 := rfl; omega
  have n2 : c ≠ 32 := fun e => by subst e; have : (32 : UInt8).toNat = 32 := rfl; omega
  simp [n1, n2]
def wordK (w : List UInt8) : Option (Nat × Nat) := match splitL 61 w with
  | [k, v] => match fieldK k, numK v with
    | some i, some n => some (i, n)
    | _, _ => none
  | _ => none
theorem wordK_lt {w : List UInt8} {i n : Nat} (h : wordK w = some (i, n)) : i < 8 ∧ n < 65536 := by
  unfold wordK at h
  split at h
  · split at h
    · rename_i i' n' h1 h2
      simp only [Option.some.injEq, Prod.mk.injEq] at h
      obtain ⟨rfl, rfl⟩ := h
      exact ⟨fieldK_lt h1, numK_lt h2⟩
    · simp at h
  · simp at h
def readK : List (List UInt8) → List Nat → List Nat → Option (List Nat)
  | [], p, _ => some p
  | [] :: r, p, seen => readK r p seen
  | (c :: w) :: r, p, seen => match wordK (c :: w) with
    | none => none
    | some (i, n) => if seen.contains i then none else readK r (p.set i n) (seen ++ [i])
def zeroP : List Nat := [0, 0, 0, 0, 0, 0, 0, 0]
def readP (t : List UInt8) : Option (List Nat) := readK (splitL 32 t) zeroP []
def partsP (p : List Nat) : Nat → List (List UInt8)
  | 0 => []
  | i + 1 => if p.getD i 0 ≠ 0 ∨ i ≤ 1 then partsP p i ++ [nameF i ++ 61 :: Lib.decDigits (p.getD i 0)] else partsP p i
def textP (p : List Nat) : List UInt8 := Lib.join (partsP p 8) [32]
end Go.Ax

namespace Go.Ax
open Go.Proofs
set_option maxRecDepth 10000
theorem pname_ctr (g : GP) (i : Nat) (hi : i < 8) : Ctr (ax g).E 15 [.i64 i] [] (fun o => o = .ret (.str (baL (nameF i))) []) := by
  obtain rfl | rfl | rfl | rfl | rfl | rfl | rfl | rfl : i = 0 ∨ i = 1 ∨ i = 2 ∨ i = 3 ∨ i = 4 ∨ i = 5 ∨ i = 6 ∨ i = 7 := by omega
  all_goals
    refine Ctr.body (X := ax g) _ 20 [] [.tmp 2] Tryd.func15 rfl rfl rfl rfl (by decide +kernel) rfl rfl ?_
    conv => whnf
    repeat' (first | (refine And.intro (by first | exact rfl | decide | exact Nat.le_of_ble_eq_true rfl | exact ⟨_, rfl⟩ | exact ⟨_, _, rfl⟩ | exact Nat.le_refl _ | exact Int.le_refl _ | omega | (simp only [List.length_map]; omega) | exact True.intro | (simp only [IntKind.wrap_i64, List.length_map]; omega) | (simp only [List.map_cons, List.map_nil, List.length_cons, Option.getD]; omega) | (simp only [bsz, ByteArray.size_append, List.size_toArray, List.length_cons, List.length_nil]; omega) | exact ⟨⟨_, _, rfl, rfl, Nat.le_of_ble_eq_true rfl⟩, trivial⟩ | exact ⟨⟨_, _, rfl, rfl, Nat.le_of_ble_eq_true rfl⟩, ⟨_, _, rfl, rfl, Nat.le_of_ble_eq_true rfl⟩, trivial⟩ | exact ⟨⟨_, _, rfl, rfl, Nat.le_of_ble_eq_true rfl⟩, ⟨_, _, rfl, rfl, Nat.le_of_ble_eq_true rfl⟩, ⟨_, _, rfl, rfl, Nat.le_of_ble_eq_true rfl⟩, trivial⟩) ?_; conv => whnf) | (refine ifB_intro (fun hA => ?_) (fun hA => ?_) <;> (try rw [hA]) <;> (conv => whnf) <;> (first | replace hA := of_decide_eq_true hA | replace hA := of_decide_eq_false hA | replace hA := eq_of_beq hA | replace hA := ne_of_beq_false hA | replace hA := bne_iff_ne.1 hA | replace hA := bne_eq_false_iff_eq.1 hA | skip) <;> (try simp only [List.length_map, cond_true, cond_false, Bool.not_eq_true', Bool.not_eq_false', beq_iff_eq, beq_eq_false_iff_ne, ne_eq] at hA)) | (exfalso; omega) | (rw [getD_map _ _ _ _ (by assumption)]; conv => whnf))
    refine ⟨⟨[], ?_⟩⟩
    conv => whnf
    rfl
theorem ba_toList (l : List UInt8) : (baL l).data.toList = l := by simp [baL]
theorem ba_of (s : ByteArray) : baL s.data.toList = s := by apply ByteArray.ext; simp [baL]
def fieldV (o : Option Nat) : AV := .tup [.i64 ((o.getD 0 : Nat) : Int), .bool o.isSome]
theorem field_ctr (g : GP) (s : ByteArray) : Ctr (ax g).E 12 [.str s] [] (fun o => o = .ret (fieldV (fieldK s.data.toList)) []) := by
  refine Ctr.body (X := ax g) _ 14 [] [.tmp 2, .tmp 3] Tryd.func12 rfl rfl rfl rfl (by decide +kernel) rfl rfl ?_
  conv => whnf
  refine LoopP.inv (X := ax g) (fun i : Nat => { f := [(0, .str s), (2, .i64 0), (3, .bool false), (5, .i64 i)], h := [] }) (fun i => i ≤ 8 ∧ fieldK s.data.toList = fieldGo s.data.toList (nameL.drop i) i) (fun i => 8 - i) 0 ⟨Nat.zero_le _, rfl⟩ ⟨⟨rfl, rfl, rfl, rfl, trivial⟩, trivial⟩ fun i ⟨hi, he⟩ => ?_
  conv => whnf
  refine ifB_intro (fun h => ?_) (fun h => ?_)
  · have h : i < 8 := by first | (have h0 := of_decide_eq_true h; omega) | (have h0 := of_decide_eq_false h; omega) | (have h0 := h; simp at h0; omega) | (have h0 := h; simp at h0; exact h0)
    rw [fieldGo_drop _ i h] at he
    conv => whnf
    repeat' (first | (refine And.intro (by first | exact rfl | decide | exact Nat.le_of_ble_eq_true rfl | exact ⟨_, rfl⟩ | exact ⟨_, _, rfl⟩ | exact Nat.le_refl _ | exact Int.le_refl _ | omega | (simp only [List.length_map]; omega) | exact True.intro | (simp only [IntKind.wrap_i64, List.length_map]; omega) | (simp only [List.map_cons, List.map_nil, List.length_cons, Option.getD]; omega) | (simp only [bsz, ByteArray.size_append, List.size_toArray, List.length_cons, List.length_nil]; omega) | exact ⟨⟨_, _, rfl, rfl, Nat.le_of_ble_eq_true rfl⟩, trivial⟩ | exact ⟨⟨_, _, rfl, rfl, Nat.le_of_ble_eq_true rfl⟩, ⟨_, _, rfl, rfl, Nat.le_of_ble_eq_true rfl⟩, trivial⟩ | exact ⟨⟨_, _, rfl, rfl, Nat.le_of_ble_eq_true rfl⟩, ⟨_, _, rfl, rfl, Nat.le_of_ble_eq_true rfl⟩, ⟨_, _, rfl, rfl, Nat.le_of_ble_eq_true rfl⟩, trivial⟩) ?_; conv => whnf) | (refine ifB_intro (fun hA => ?_) (fun hA => ?_) <;> (try rw [hA]) <;> (conv => whnf) <;> (first | replace hA := of_decide_eq_true hA | replace hA := of_decide_eq_false hA | replace hA := eq_of_beq hA | replace hA := ne_of_beq_false hA | replace hA := bne_iff_ne.1 hA | replace hA := bne_eq_false_iff_eq.1 hA | skip) <;> (try simp only [ne_eq] at hA)) | (refine CallP.det (pname_ctr g i h) ?_; conv => whnf) | (refine CallD.det (pname_ctr g i h) ?_; conv => whnf) | (rw [getD_map _ _ _ _ (by assumption)]; conv => whnf))
    · rw [ba_toList] at hA
      rw [if_pos hA] at he
      refine ⟨⟨[], ?_⟩⟩
      conv => whnf
      rw [he]; rfl
    · rw [ba_toList] at hA
      rw [if_neg hA] at he
      exact ⟨i + 1, ⟨by omega, he⟩, by omega, ⟨⟨rfl, rfl, rfl, AV.int_eq (i64_succ (by omega)), trivial⟩, trivial⟩⟩
  · have h : ¬ i < 8 := by first | (have h0 := of_decide_eq_true h; omega) | (have h0 := of_decide_eq_false h; omega) | (have h0 := h; simp at h0; omega) | (have h0 := h; simp at h0; exact h0)
    have : i = 8 := by omega
    subst this
    conv => whnf
    refine ⟨⟨[], ?_⟩⟩
    conv => whnf
    rw [he]; rfl
def rowW (l : List UInt8) : List D := [.v (.string (baL l))]
theorem names_ctr (g : GP) : Ctr (ax g).E 11 [] [] (fun o => o = .ret (.d (.sl true 1 (nameL.map rowW))) []) := by
  refine Ctr.body (X := ax g) _ 2 [] [.tmp 0] Tryd.func11 rfl rfl rfl rfl (by decide +kernel) rfl rfl ?_
  conv => whnf
  repeat' (first | (refine And.intro (by first | exact rfl | decide | exact Nat.le_of_ble_eq_true rfl | exact ⟨_, rfl⟩ | exact ⟨_, _, rfl⟩ | exact Nat.le_refl _ | exact Int.le_refl _ | omega | (simp only [List.length_map]; omega) | exact True.intro | (simp only [IntKind.wrap_i64, List.length_map]; omega) | (simp only [List.map_cons, List.map_nil, List.length_cons, Option.getD]; omega) | (simp only [bsz, ByteArray.size_append, List.size_toArray, List.length_cons, List.length_nil]; omega) | exact ⟨⟨_, _, rfl, rfl, Nat.le_of_ble_eq_true rfl⟩, trivial⟩ | exact ⟨⟨_, _, rfl, rfl, Nat.le_of_ble_eq_true rfl⟩, ⟨_, _, rfl, rfl, Nat.le_of_ble_eq_true rfl⟩, trivial⟩ | exact ⟨⟨_, _, rfl, rfl, Nat.le_of_ble_eq_true rfl⟩, ⟨_, _, rfl, rfl, Nat.le_of_ble_eq_true rfl⟩, ⟨_, _, rfl, rfl, Nat.le_of_ble_eq_true rfl⟩, trivial⟩) ?_; conv => whnf) | (refine ifB_intro (fun hA => ?_) (fun hA => ?_) <;> (try rw [hA]) <;> (conv => whnf) <;> (first | replace hA := of_decide_eq_true hA | replace hA := of_decide_eq_false hA | replace hA := eq_of_beq hA | replace hA := ne_of_beq_false hA | replace hA := bne_iff_ne.1 hA | replace hA := bne_eq_false_iff_eq.1 hA | skip) <;> (try simp only [List.length_map, cond_true, cond_false, Bool.not_eq_true', Bool.not_eq_false', beq_iff_eq, beq_eq_false_iff_ne, ne_eq] at hA)) | (rw [getD_map _ _ _ _ (by assumption)]; conv => whnf))
  refine ⟨⟨[], ?_⟩⟩
  conv => whnf
  rfl
def cellU (n : Nat) : D := .v (.int .u16 (n : Int))
def rowU (p : List Nat) : List D := p.map cellU
theorem rowU_len (p : List Nat) : (rowU p).length = p.length := by simp [rowU]
theorem rowU_get (p : List Nat) (i : Nat) (h : i < p.length) : (rowU p).getD (i : Int).toNat (.v undef) = .v (.int .u16 ((p.getD i 0 : Nat) : Int)) := by
  unfold rowU cellU; simp [List.getD, h]
theorem rowU_cut (p : List Nat) (h : p.length = 8) : cut 0 8 (rowU p) = rowU p := by
  unfold cut
  rw [List.drop_zero, List.take_of_length_le (by rw [rowU_len]; omega)]
def OkK (p : List Nat) : Prop := p.length = 8 ∧ ∀ i, i < 8 → p.getD i 0 < 65536
theorem partsP_len (p : List Nat) : ∀ i, (partsP p i).length ≤ i
  | 0 => by simp [partsP]
  | i + 1 => by
    have := partsP_len p i
    rw [partsP]; split
    · simp; omega
    · omega
def rowS9 (l : List UInt8) : List D := [.v (.string (baL l))]
theorem part_len (p : List Nat) (ok : OkK p) (i : Nat) (hi : i ≤ 8) : ∀ x ∈ partsP p i, x.length ≤ 9 := by
  induction i with
  | zero => simp [partsP]
  | succ i ih =>
    have h1 := ih (by omega)
    rw [partsP]
    split
    · intro x hx
      rcases List.mem_append.1 hx with hx | hx
      · exact h1 x hx
      · simp only [List.mem_singleton] at hx
        subst hx
        have h2 := (name_facts i (by omega)).1.2.2
        have h3 := dec_len 4 (p.getD i 0) (by have := ok.2 i (by omega); omega)
        rw [List.length_append, List.length_cons]; omega
    · exact h1
theorem joinW_bound : ∀ (xs : List (List UInt8)) (k : Nat), (∀ x ∈ xs, x.length ≤ k) → (Lib.join xs [32]).length ≤ (k + 1) * xs.length := by
  intro xs k h
  have e : (Lib.join xs [32]).length = (Lib.join xs [44]).length := by
    cases xs with
    | nil => rfl
    | cons x r => rw [Lib.join_length, Lib.join_length]; rfl
  rw [e]; exact join_bound xs k h
theorem textP_len (p : List Nat) (ok : OkK p) (i : Nat) (hi : i ≤ 8) : (Lib.join (partsP p i) [32]).length ≤ 80 := by
  have h1 := joinW_bound (partsP p i) 9 (part_len p ok i hi)
  have h2 := partsP_len p i
  omega
theorem pjoin_give (g : GP) (p : List Nat) (ok : OkK p) : Ctr (ax g).E 41 ([.msl 903 (partsP p 8).length 0 (partsP p 8).length, .str ⟨#[32]⟩].map (frz 903 1 ((partsP p 8).map rowS9))) [] (fun o => o = .ret (.str (baL (textP p))) []) := by
  have e : ((partsP p 8).map baL).map (·.data.toList) = partsP p 8 := by
    rw [List.map_map]
    conv => rhs; rw [← List.map_id (partsP p 8)]
    exact List.map_congr_left fun z _ => by simp [baL]
  have hb := textP_len p ok 8 (by omega)
  have hpl := partsP_len p 8
  have h := join_ctr g false ((partsP p 8).map baL) ⟨#[32]⟩ (by rw [List.length_map]; omega) (by rw [e]; show (Lib.join (partsP p 8) [32]).length ≤ _; omega)
  rw [e] at h
  simp only [List.map_cons, List.map_nil, frzE 903 1 (partsP p 8).length ((partsP p 8).map rowS9) (by simp)]
  rw [List.map_map] at h
  exact h
theorem ptext_ctr (g : GP) (hp : ∀ w, g.G w → PowG w) (p : List Nat) (ok : OkK p) : Ctr (ax g).E 26 [.dagg (rowU p)] [] (fun o => o = .ret (.str (baL (textP p))) []) := by
  have hl : (rowU p).length = 8 := by rw [rowU_len]; exact ok.1
  refine Ctr.body (X := ax g) _ 30 [] [.tmp 2] Tryd.func26 rfl rfl rfl rfl (by decide +kernel) rfl rfl ?_
  conv => whnf
  repeat' (first | (refine And.intro (by first | exact rfl | decide | exact Nat.le_of_ble_eq_true rfl | exact ⟨_, rfl⟩ | exact ⟨_, _, rfl⟩ | exact Nat.le_refl _ | exact Int.le_refl _ | omega | (simp only []; omega) | exact True.intro | (simp only [IntKind.wrap_i64, List.length_map]; omega) | (simp only [List.map_cons, List.map_nil, List.length_cons, Option.getD]; omega) | (simp only [bsz, ByteArray.size_append, List.size_toArray, List.length_cons, List.length_nil]; omega) | exact ⟨⟨_, _, rfl, rfl, Nat.le_of_ble_eq_true rfl⟩, trivial⟩ | exact ⟨⟨_, _, rfl, rfl, Nat.le_of_ble_eq_true rfl⟩, ⟨_, _, rfl, rfl, Nat.le_of_ble_eq_true rfl⟩, trivial⟩ | exact ⟨⟨_, _, rfl, rfl, Nat.le_of_ble_eq_true rfl⟩, ⟨_, _, rfl, rfl, Nat.le_of_ble_eq_true rfl⟩, ⟨_, _, rfl, rfl, Nat.le_of_ble_eq_true rfl⟩, trivial⟩) ?_; conv => whnf) | (refine ifB_intro (fun hA => ?_) (fun hA => ?_) <;> (try rw [hA]) <;> (conv => whnf) <;> (first | replace hA := of_decide_eq_true hA | replace hA := of_decide_eq_false hA | replace hA := eq_of_beq hA | replace hA := ne_of_beq_false hA | replace hA := bne_iff_ne.1 hA | replace hA := bne_eq_false_iff_eq.1 hA | skip) <;> (try simp only [List.length_map, cond_true, cond_false, Bool.not_eq_true', Bool.not_eq_false', beq_iff_eq, beq_eq_false_iff_ne, ne_eq] at hA)) | (refine And.intro (show 0 + 8 ≤ (rowU p).length by omega) ?_; conv => whnf) | (rw [getD_map _ _ _ _ (by assumption)]; conv => whnf))
  refine LoopP.own 3 903 1 9 rfl rfl rfl ?_
  refine LoopP.inv (X := ax g) (fun i : Nat => { f := [(3, .msl 903 (partsP p i).length 0 (partsP p i).length), (6, .dagg (rowU p)), (7, .i64 i)], h := [(903, some (.buf 1 9 ((partsP p i).map rowS9)))] }) (fun i => i ≤ 8) (fun i => 8 - i) 0 (Nat.zero_le _) ⟨⟨rfl, (congrArg AV.dagg (rowU_cut p ok.1)), rfl, trivial⟩, ⟨fun o h => h, trivial⟩⟩ fun i hi => ?_
  conv => whnf
  refine ifB_intro (fun h => ?_) (fun h => ?_)
  · have h : i < 8 := by first | (have h0 := of_decide_eq_true h; omega) | (have h0 := of_decide_eq_false h; omega) | (have h0 := h; simp at h0; omega) | (have h0 := h; simp at h0; exact h0)
    have hg := rowU_get p i (by have := ok.1; omega)
    have hb := ok.2 i h
    have hit := itoa_ctr g hp (p.getD i 0) (by omega)
    have hpl := partsP_len p i
    have hw : IntKind.i64.wrap ((p.getD i 0 : Nat) : Int) = ((p.getD i 0 : Nat) : Int) := i64_wrap (by omega) (by omega)
    have hns : (baL (nameF i)).size ≤ 3 := by have := (name_facts i h).1.2.2; simpa [baL, bsz] using this
    have hds := dec_len 4 (p.getD i 0) (by omega)
    have hstr : (baL (nameF i) ++ ⟨#[61]⟩) ++ (⟨(Lib.decDigits (p.getD i 0)).toArray⟩ : ByteArray) = baL (nameF i ++ 61 :: Lib.decDigits (p.getD i 0)) := by
      apply ByteArray.ext; simp [baL, ByteArray.data_append]
    have hpp : (p.getD i 0 ≠ 0 ∨ i ≤ 1) → partsP p (i + 1) = partsP p i ++ [nameF i ++ 61 :: Lib.decDigits (p.getD i 0)] := fun h => by rw [partsP, if_pos h]
    have hpn : ¬ (p.getD i 0 ≠ 0 ∨ i ≤ 1) → partsP p (i + 1) = partsP p i := fun h => by rw [partsP, if_neg h]
    conv => whnf
    repeat' (first | (refine And.intro (by first | exact rfl | decide | exact Nat.le_of_ble_eq_true rfl | exact ⟨_, rfl⟩ | exact ⟨_, _, rfl⟩ | exact Nat.le_refl _ | exact Int.le_refl _ | omega | (simp only [List.length_map]; omega) | exact True.intro | (simp only [List.length_map]; omega) | (simp only [List.length_cons]; omega) | (simp only [bsz, ByteArray.size_append, List.size_toArray, List.length_cons, List.length_nil]; omega) | exact ⟨⟨_, _, rfl, rfl, Nat.le_of_ble_eq_true rfl⟩, trivial⟩ | exact ⟨⟨_, _, rfl, rfl, Nat.le_of_ble_eq_true rfl⟩, ⟨_, _, rfl, rfl, Nat.le_of_ble_eq_true rfl⟩, trivial⟩ | exact ⟨⟨_, _, rfl, rfl, Nat.le_of_ble_eq_true rfl⟩, ⟨_, _, rfl, rfl, Nat.le_of_ble_eq_true rfl⟩, ⟨_, _, rfl, rfl, Nat.le_of_ble_eq_true rfl⟩, trivial⟩) ?_; conv => whnf) | (refine ifB_intro (fun hA => ?_) (fun hA => ?_) <;> (try rw [hA]) <;> (conv => whnf) <;> (first | replace hA := of_decide_eq_true hA | replace hA := of_decide_eq_false hA | replace hA := eq_of_beq hA | replace hA := ne_of_beq_false hA | replace hA := bne_iff_ne.1 hA | replace hA := bne_eq_false_iff_eq.1 hA | skip) <;> (try simp only [ne_eq] at hA)) | (refine And.intro (show ((i : Int)).toNat < (rowU p).length by omega) ?_; conv => whnf) | (rw [hg]; conv => whnf) | (refine CallP.det (pname_ctr g i h) ?_; conv => whnf) | (refine CallD.det (pname_ctr g i h) ?_; conv => whnf) | (rw [hw]; conv => whnf) | (refine CallP.det (hit) ?_; conv => whnf) | (refine CallD.det (hit) ?_; conv => whnf) | (refine And.intro (show (baL (nameF i)).size + 1 ≤ 9223372036854775807 by omega) ?_; conv => whnf) | (refine And.intro (show (baL (nameF i) ++ ⟨#[61]⟩).size + (Lib.decDigits (p.getD i 0)).length ≤ 9223372036854775807 by rw [ByteArray.size_append]; show (baL (nameF i)).size + 1 + _ ≤ _; omega) ?_; conv => whnf) | (refine And.intro (List.length_map _).symm ?_; conv => whnf) | (refine And.intro (by show (((partsP p i).map rowS9).length + 1) * 16 ≤ 140737488355328; rw [List.length_map]; omega) ?_; conv => whnf) | (rw [getD_map _ _ _ _ (by assumption)]; conv => whnf))
    · have hc := hpp (.inl (by omega))
      exact ⟨i + 1, by omega, by omega, ⟨⟨msl_eq (by rw [hc]; simp), rfl, AV.int_eq (i64_succ (by omega)), trivial⟩, ⟨fun o h => by rw [← h, hc, List.map_append, hstr]; rfl, trivial⟩⟩⟩
    · have hc := hpp (.inr (by omega))
      exact ⟨i + 1, by omega, by omega, ⟨⟨msl_eq (by rw [hc]; simp), rfl, AV.int_eq (i64_succ (by omega)), trivial⟩, ⟨fun o h => by rw [← h, hc, List.map_append, hstr]; rfl, trivial⟩⟩⟩
    · have hc := hpn (by omega)
      exact ⟨i + 1, by omega, by omega, ⟨⟨msl_eq (by rw [hc]), rfl, AV.int_eq (i64_succ (by omega)), trivial⟩, ⟨fun o h => by rw [← h, hc]; rfl, trivial⟩⟩⟩
  · have h : ¬ i < 8 := by first | (have h0 := of_decide_eq_true h; omega) | (have h0 := of_decide_eq_false h; omega) | (have h0 := h; simp at h0; omega) | (have h0 := h; simp at h0; exact h0)
    have : i = 8 := by omega
    subst this
    conv => whnf
    refine CallP.arg (args' := [.msl 903 (partsP p 8).length 0 (partsP p 8).length, .str ⟨#[32]⟩]) rfl ?_
    refine CallP.give 903 1 9 ((partsP p 8).map rowS9) rfl (pjoin_give g p ok) ?_
    conv => whnf
    refine ⟨⟨[], ?_⟩⟩
    conv => whnf
end Go.Ax

namespace Go.Ax
open Go.Proofs Go.RowKit Go.Shelf Go.Lib Go.ChangeShapes
theorem cv_array {H : Type} {enc : TypeId × Value → H} {P : Program} {W : World} {sp : Nat → Bool} {held : Bool} {r : Reach} {b0 : Nat} {t e : TypeId} {n : Nat} {v : Value} {d : DataW H} {ps : List MemPlace} {f2 : Nat} {es : List Sh} (ht : P.underlying t = some (.array n e)) (hval : Value.okWide P W r b0 t v) (h : DataW.Trod enc P W 0 sp held t v d ps) (hw : ∀ m ∈ d.weights P t, m ≤ reachBytes) (hs : shOf P f2 t = some es) (ρ : Nat → Option Loc) :
    ∃ ds : List D, ds.length = es.length ∧ RA (hp W) (fun b => b < W.heap.size) ρ v (.dagg ds) ∧ ∀ (i : Nat) (x : D) (s : Sh), ds[i]? = some x → es[i]? = some s → Fit s x := by
  obtain ⟨cs, rfl, hc⟩ : ∃ cs, v = .agg cs ∧ cs.size = P.cellsOf t := by
    simp only [Value.okWide, ht] at hval
    obtain ⟨cs, h1, h2, _⟩ := hval
    exact ⟨cs, h1, h2⟩
  obtain ⟨fuel, hf⟩ := h
  obtain ⟨ds, h1, h2, h3⟩ := conv fuel t _ _ f2 _ hf hw hs
  have h2 : cs.toList.length = es.length := h2
  refine ⟨ds, h1, .dagg _ _ (by rw [h1, ← h2]; simp) fun i v x e1 e2 => ?_, fun i x s e1 e2 => ?_⟩
  · have hi : i < ds.length := (List.getElem?_eq_some_iff.1 e2).1
    exact (h3 i v x (es[i]'(by omega)) (by show cs.toList[i]? = some v; simpa using e1) e2 (List.getElem?_eq_getElem _)).1
  · have hi : i < ds.length := (List.getElem?_eq_some_iff.1 e1).1
    exact (h3 i (cs.toList[i]'(by omega)) x s (List.getElem?_eq_getElem (l := cs.toList) (by omega)) e1 e2).2
theorem u16s_of : ∀ {ds : List D}, (∀ x ∈ ds, Fit (.int .u16) x) → ∃ p : List Nat, ds = rowU p ∧ ∀ n ∈ p, n < 65536
  | [], _ => ⟨[], rfl, by simp⟩
  | x :: ds, h => by
    obtain ⟨n, rfl, h1, h2⟩ := fit_u16 (h x (by simp))
    obtain ⟨p, rfl, hp⟩ := u16s_of (ds := ds) fun y hy => h y (List.mem_cons_of_mem _ hy)
    obtain ⟨m, rfl⟩ := Int.eq_ofNat_of_zero_le h1
    refine ⟨m :: p, rfl, fun k hk => ?_⟩
    rcases List.mem_cons.1 hk with rfl | hk
    · omega
    · exact hp k hk
theorem packet_of {ds : List D} (hl : ds.length = 8) (hf : ∀ (i : Nat) (x : D) (s : Sh), ds[i]? = some x → (List.replicate 8 (Sh.int .u16))[i]? = some s → Fit s x) : ∃ p, ds = rowU p ∧ OkK p := by
  obtain ⟨p, rfl, hp⟩ := u16s_of (ds := ds) fun x hx => by
    obtain ⟨i, hi⟩ := List.getElem?_of_mem hx
    have h8 : i < 8 := by have := (List.getElem?_eq_some_iff.1 hi).1; omega
    exact hf i x (.int .u16) hi (by rw [List.getElem?_replicate, if_pos h8])
  rw [rowU_len] at hl
  exact ⟨p, rfl, hl, fun i hi => by
    have : i < p.length := by omega
    simpa [List.getD, this] using hp p[i] (List.getElem_mem this)⟩
end Go.Ax
