import Derived.Test.YtjokajidcojlmaaDoorEAxBr

/- The witness's world, and what the rows' lists give. -/
namespace Go.Ax
open Go.Proofs Go.RowKit Go.Shelf Go.Lib Go.ChangeShapes Go.Proofs.YtjokajidcojlmaaDoor
set_option maxRecDepth 100000

theorem tabIs_of_reads {P : Program} {W : World} {name : String} {k : IntKind} {zs : List Int} {g : Nat} {t e : TypeId} {n : Nat}
    (hg : P.globalNamed name = some g) (hty : (P.globals[g]?).map (·.type) = some t) (ht : P.underlying t = some (.array n e)) (he : P.underlying e = some (.int k)) (hce : P.cellsOf e = 1) (hct : P.cellsOf t = n)
    (h : VarReads P W name (tabData k zs)) : TabIs P W name k zs := by
  obtain ⟨g', t', cs, fuel, p, hg', ht', hvar, hd⟩ := h
  obtain rfl := Option.some.inj (hg.symm.trans hg')
  obtain rfl := Option.some.inj (hty.symm.trans ht')
  unfold TabIs
  rw [hvar, ← cells_of_tab ht he hce hct hd]

theorem andT {a b : Bool} (ha : a = true) (hb : b = true) : (a && b) = true := by rw [ha, hb]; rfl
theorem laidOut : laidOutB Tryd.prog = true := by kernel_rfl
theorem own : ownKnob Tryd.prog.godebug = none := by kernel_rfl
theorem xL : RExtra Tryd.prog Tryd.lays200_ren := ⟨by kernel_rfl, by kernel_rfl, by kernel_rfl, by kernel_rfl, by kernel_rfl, by kernel_rfl, by kernel_rfl, by kernel_rfl⟩
theorem xU : U8Extra Tryd.prog Tryd.lays197_ren := ⟨by kernel_rfl, by kernel_rfl, by kernel_rfl, by kernel_rfl, by kernel_rfl, by kernel_rfl, by kernel_rfl⟩

theorem debG_of {W : World} (h : VarReads Tryd.prog W "math/bits.deBruijn64tab" Rows.laid_math_bits_deBruijn64tab) : DebG W :=
  tabIs_of_reads (k := .u8) (zs := Tryd.deB) gD (t := 191) (by kernel_rfl) Tryd.underlying191 Tryd.underlying5 (by kernel_rfl) (by kernel_rfl) h
theorem powG_of {W : World} (h : VarReads Tryd.prog W "internal/strconv.uint64pow10" Rows.laid_internal_strconv_uint64pow10) : PowG W :=
  tabIs_of_reads (k := .u64) (zs := Lib.pow10Tab) (g := 8) (by kernel_rfl) (t := 253) (by kernel_rfl) Tryd.underlying253 Tryd.underlying78 (by kernel_rfl) (by kernel_rfl) h
theorem propG_of {W : World} (h : VarReads Tryd.prog W "unicode.properties" Rows.laid_unicode_properties) : Lib.TabIs Tryd.prog W "unicode.properties" .u8 Lib.propertiesTab :=
  tabIs_of_reads (k := .u8) (zs := Lib.propertiesTab) (g := 3) (by kernel_rfl) (t := 175) (by kernel_rfl) Tryd.underlying175 Tryd.underlying5 (by kernel_rfl) (by kernel_rfl) h
theorem letterG_of {W : World} (h : VarReads Tryd.prog W "unicode.Letter" Rows.laid_unicode_Letter) : RVar 4 letterT W :=
  rvar_of_reads { Tryd.lays200 with } xL (by kernel_rfl) (by kernel_rfl) (by rw [← Pinned.letter_eq]; exact h)
theorem utf8G_of {W : World} (h : VarReads Tryd.prog W "unicode/utf8.first" Rows.laid_unicode_utf8_first) (h' : VarReads Tryd.prog W "unicode/utf8.acceptRanges" Rows.laid_unicode_utf8_acceptRanges) : Lib.Utf8Tabs 0 1 W :=
  utf8Tabs_of_reads { Tryd.lays197 with } xU (by rw [← Pinned.utf8First_eq]; exact h) h'

noncomputable abbrev N0 : Nat := (World.settled Tryd.prog default).heap.size
noncomputable def laidWorld (os : Os) : World :=
  let N := (World.settled Tryd.prog os).heap.size
  let ρ := Tryd.lays200_ren
  let w0 := World.holding Tryd.prog os ⟨#[
    .cells (rgCells .u16 letterT.r16) (ρ.t 198), .cells (rgCells .u32 letterT.r32) (ρ.t 201),
    .cells #[.slice (some ⟨N, 0, none⟩) letterT.r16.size letterT.r16.size, .slice (some ⟨N + 1, 0, none⟩) letterT.r32.size letterT.r32.size, .int .i64 letterT.off] (ρ.t 196),
    .cells #[.string ⟨#[105, 110, 118, 97, 108, 105, 100, 32, 115, 121, 110, 116, 97, 120]⟩] 263, .cells #[.string ⟨#[118, 97, 108, 117, 101, 32, 111, 117, 116, 32, 111, 102, 32, 114, 97, 110, 103, 101]⟩] 263], #[], []⟩
  let put (h : Array Obj) (g : Nat) (cs : Array Value) : Array Obj := h.modify g fun
    | .cells _ t frozen => .cells cs t frozen
    | o => o
  let h1 := put w0.heap 3 (Lib.propertiesTab.map fun z => Value.int .u8 z).toArray
  let h2 := put h1 4 #[.pointer (some ⟨N + 2, 0, none⟩)]
  let h3 := put h2 0 (Lib.firstTab.map fun z => Value.int .u8 z).toArray
  let h4 := put h3 1 ((List.range 16).flatMap fun i => [Value.int .u8 (Lib.accLo i), Value.int .u8 (Lib.accHi i)]).toArray
  let h5 := put h4 2 (Tryd.deB.map fun z => Value.int .u8 z).toArray
  let h6 := put h5 8 (Lib.pow10Tab.map fun z => Value.int .u64 z).toArray
  let h7 := put h6 9 ([0, 1, 28, 2, 29, 14, 24, 3, 30, 22, 20, 15, 25, 17, 4, 8, 31, 27, 13, 23, 21, 19, 16, 7, 26, 12, 18, 6, 11, 5, 10, 9].map fun z => Value.int .u8 z).toArray
  let h8 := put h7 5 #[.iface 261 (.pointer (some ⟨N + 3, 0, none⟩))]
  let h9 := put h8 6 #[.iface 261 (.pointer (some ⟨N + 4, 0, none⟩))]
  { w0 with heap := h9 }
noncomputable abbrev memOf (os : Os) (args : Array Value) : World := ((laidWorld os).forCall (fun _ _ => 0) ⟨#[], args, []⟩).memory

theorem pieceB (os : Os) (args : Array Value) : LaidIn Tryd.prog (memOf os args) [("math/bits.deBruijn32tab", Rows.laid_math_bits_deBruijn32tab), ("math/bits.deBruijn64tab", Rows.laid_math_bits_deBruijn64tab), ("internal/strconv.uint64pow10", Rows.laid_internal_strconv_uint64pow10)] [9, 2, 8] :=
  LaidIn.of_run [9, 2, 8] 8 (by kernel_rfl) (by kernel_rfl) (by kernel_rfl) (by kernel_rfl)
theorem pieceU (os : Os) (args : Array Value) : LaidIn Tryd.prog (memOf os args) [("unicode/utf8.acceptRanges", Rows.laid_unicode_utf8_acceptRanges), ("unicode.properties", Rows.laid_unicode_properties)] [1, 3] :=
  LaidIn.of_run [1, 3] 8 (by kernel_rfl) (by kernel_rfl) (by kernel_rfl) (by kernel_rfl)
theorem pieceF (os : Os) (args : Array Value) : LaidIn Tryd.prog (memOf os args) [("unicode/utf8.first", Rows.laid_unicode_utf8_first)] [0] :=
  LaidIn.of_run [0] 8 (by kernel_rfl) (by kernel_rfl) (by kernel_rfl) (by kernel_rfl)
theorem pieceL (os : Os) (args : Array Value) : LaidIn Tryd.prog (memOf os args) [("unicode.Letter", Lib.rtabData letterT)] [4, N0 + 2, N0, N0 + 1] :=
  laidIn_rtab (ρ := Tryd.lays200_ren) { Tryd.lays200 with } xL (by kernel_rfl) (by kernel_rfl) letterT (N0 + 2) N0 (N0 + 1) (Tryd.lays200_ren.t 198) (Tryd.lays200_ren.t 201)
    (by kernel_rfl) (by kernel_rfl) (by kernel_rfl) (by kernel_rfl) (by kernel_rfl) (of_decide_eq_true (by kernel_rfl)) (of_decide_eq_true (by kernel_rfl)) (of_decide_eq_true (by kernel_rfl))
theorem pieceL' (os : Os) (args : Array Value) : LaidIn Tryd.prog (memOf os args) [("unicode.Letter", Rows.laid_unicode_Letter)] [4, N0 + 2, N0, N0 + 1] := by
  have h := pieceL os args
  rw [← Pinned.letter_eq] at h
  exact h
theorem pieceE (os : Os) (args : Array Value) : LaidIn Tryd.prog (memOf os args) [("strconv.ErrRange", Rows.laid_strconv_ErrRange), ("strconv.ErrSyntax", Rows.laid_strconv_ErrSyntax)] [6, N0 + 4, 5, N0 + 3] :=
  LaidIn.of_run [6, N0 + 4, 5, N0 + 3] 8 (by kernel_rfl) (by kernel_rfl) (by kernel_rfl) (by kernel_rfl)
theorem pieceA (os : Os) (args : Array Value) : LaidIn Tryd.prog (memOf os args) [("unicode/utf8.acceptRanges", Rows.laid_unicode_utf8_acceptRanges)] [1] :=
  LaidIn.of_run [1] 8 (by kernel_rfl) (by kernel_rfl) (by kernel_rfl) (by kernel_rfl)
/-- The list of seven with errors. -/
theorem laidInE (os : Os) (args : Array Value) : LaidIn Tryd.prog (memOf os args) [("math/bits.deBruijn32tab", Rows.laid_math_bits_deBruijn32tab), ("math/bits.deBruijn64tab", Rows.laid_math_bits_deBruijn64tab), ("internal/strconv.uint64pow10", Rows.laid_internal_strconv_uint64pow10), ("unicode/utf8.acceptRanges", Rows.laid_unicode_utf8_acceptRanges), ("strconv.ErrRange", Rows.laid_strconv_ErrRange), ("strconv.ErrSyntax", Rows.laid_strconv_ErrSyntax), ("unicode/utf8.first", Rows.laid_unicode_utf8_first)] ([9, 2, 8] ++ ([1] ++ ([6, N0 + 4, 5, N0 + 3] ++ [0]))) :=
  (pieceB os args).append ((pieceA os args).append ((pieceE os args).append (pieceF os args) (by kernel_rfl)) (by kernel_rfl)) (by kernel_rfl)
/-- The list of seven. -/
theorem laidIn7 (os : Os) (args : Array Value) : LaidIn Tryd.prog (memOf os args) [("math/bits.deBruijn32tab", Rows.laid_math_bits_deBruijn32tab), ("math/bits.deBruijn64tab", Rows.laid_math_bits_deBruijn64tab), ("internal/strconv.uint64pow10", Rows.laid_internal_strconv_uint64pow10), ("unicode/utf8.acceptRanges", Rows.laid_unicode_utf8_acceptRanges), ("unicode.properties", Rows.laid_unicode_properties), ("unicode.Letter", Rows.laid_unicode_Letter), ("unicode/utf8.first", Rows.laid_unicode_utf8_first)] ([9, 2, 8] ++ ([1, 3] ++ ([4, N0 + 2, N0, N0 + 1] ++ [0]))) :=
  (pieceB os args).append ((pieceU os args).append ((pieceL' os args).append (pieceF os args) (by kernel_rfl)) (by kernel_rfl)) (by kernel_rfl)

/-- The list of four. -/
theorem laidIn4 (os : Os) (args : Array Value) : LaidIn Tryd.prog (memOf os args) [("unicode/utf8.acceptRanges", Rows.laid_unicode_utf8_acceptRanges), ("unicode.properties", Rows.laid_unicode_properties), ("unicode.Letter", Rows.laid_unicode_Letter), ("unicode/utf8.first", Rows.laid_unicode_utf8_first)] ([1, 3] ++ ([4, N0 + 2, N0, N0 + 1] ++ [0])) :=
  (pieceU os args).append ((pieceL' os args).append (pieceF os args) (by kernel_rfl)) (by kernel_rfl)

/-- What a row asks behind the call, of a law. -/
theorem post_law {H : Type} {enc : TypeId × Value → H} {fn : Func} {s : ChangeSpec} (hv : s.vars = []) (hres : fn.resultTypes = #[4]) (hro : (fn.params.toList.all fun t => Tryd.prog.readableRec t && decide (t < Tryd.prog.types.size)) = true)
    {W W' : World} {args : Array Value} {ds gs : List (DataW H)} {before : List MemPlace} (hW : DataW.Whole enc Tryd.prog fn.params.toList s.vars false W args.toList ds gs before)
    (hfn : s.fn H (ds ++ gs) = { results := [.lit (.bool true)], args := ds }) (hb : Below W.heap.size W W') : s.post enc Tryd.prog fn false true false false W args (.bool true) W' := by
  have hW' := hW
  obtain ⟨p, q, hA, hV, rfl, _, _⟩ := hW
  rw [hv] at hV
  obtain ⟨rfl, rfl⟩ := trodVars_none hV
  have hlt : ∀ x ∈ p ++ [], x.block < W.heap.size := fun x hx => by simpa using hW'.lt x hx
  refine ⟨ds, [], p ++ [], [], p, [], hW', ?_, ?_, ?_, hb.frame _, fun h => by cases h⟩
  · rw [hfn, hres]; exact trodAll_mk1 (shut_bool Tryd.underlying4 _)
  · rw [hfn]; exact trodAll_stays laidOut hb hro hA (fun x hx => hlt x (by simp [hx])) (fun x hx => by simpa using hlt x (by simp [hx]))
  · rw [hfn, hv]; exact rfl
end Go.Ax
