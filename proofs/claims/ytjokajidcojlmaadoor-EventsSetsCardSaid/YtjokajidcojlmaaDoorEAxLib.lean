import Derived.Test.YtjokajidcojlmaaDoorEAxV
import Derived.Test.YtjokajidcojlmaaDoorEAxShelf
import Derived.Below

/- Abstract execution: the library's functions, by the shelf's contracts. -/
namespace Go.Ax
open Go.Proofs Go.RowKit Go.Shelf Go.Lib Go.Sort

/-- What the library's own variables hold. -/
structure LibG (w : World) : Prop where
  utf8 : Lib.Utf8Tabs 0 1 w
  props : Lib.TabIs Tryd.prog w "unicode.properties" .u8 Lib.propertiesTab
  letter : RVar 4 letterT w

theorem below_grown0 (w : World) (k : Nat) (os : Array Obj) : Below w.heap.size w (grow (w.drewN k) os) := by
  have h := below_drewNv (Below.refl w.heap.size w) k
  have hh : ∀ k, (w.drewN k).heap = w.heap := fun k => by
    induction k with
    | zero => rfl
    | succ k ih => exact ih
  refine ⟨h.os, h.tape, h.output, ?_, fun b hb => ?_⟩
  · show w.heap.size ≤ ((w.drewN k).heap ++ os).size
    rw [hh]; simp
  · show ((w.drewN k).heap ++ os)[b]? = w.heap[b]?
    rw [hh, Array.getElem?_append_left hb]
abbrev PowG (w : World) : Prop := Lib.TabIs Tryd.prog w "internal/strconv.uint64pow10" .u64 Lib.pow10Tab
theorem itoa_ctr (g : GP) (hg : ∀ w, g.G w → PowG w) (i : Nat) (hi : i < 2 ^ 62) : Ctr (ax g).E 84 [.d (.v (.int .i64 i))] [] fun o => o = .ret (.d (.v (.string ⟨(Lib.decDigits i).toArray⟩))) [] :=
  Ctr.ofVal (E := (ax g).E) (f := 84) (xs := [.int .i64 i]) ⟨_, Tryd.func84, rfl, by decide +kernel⟩ rfl fun w hG => (Tryd.strconv_Itoa i (by omega) (by omega) w (hg w hG)).mono fun e w' ⟨h1, k, os, h2⟩ => ⟨by rw [h1, Lib.itoa_nonneg], by rw [h2]; exact below_grown0 w k os⟩
theorem valid_ctr (g : GP) (hg : ∀ w, g.G w → LibG w) (s : ByteArray) (hs : s.size < 2 ^ 62) : Ctr (ax g).E 85 [.d (.v (.string s))] [] fun o => o = .ret (.d (.v (.bool (Lib.validD s.data.toList)))) [] :=
  Ctr.ofVal (E := (ax g).E) (f := 85) (xs := [.string s]) ⟨_, Tryd.func85, rfl, by decide +kernel⟩ rfl fun w hG => Tryd.utf8_ValidString s w (by omega) (hg w hG).utf8
theorem hasPrefix_ctr (g : GP) (s p : ByteArray) : Ctr (ax g).E 131 [.d (.v (.string s)), .d (.v (.string p))] [] fun o => o = .ret (.d (.v (.bool (Lib.hasPrefix s.data.toList p.data.toList)))) [] :=
  Ctr.ofVal (E := (ax g).E) (f := 131) (xs := [.string s, .string p]) ⟨_, Tryd.func131, rfl, by decide +kernel⟩ rfl fun w _ => (Tryd.strings_HasPrefix s p w).mono fun e w' ⟨h1, h2⟩ => ⟨h1, by rw [h2]; exact Below.refl _ _⟩
theorem cutPrefix_ctr (g : GP) (s p : ByteArray) : Ctr (ax g).E 108 [.d (.v (.string s)), .d (.v (.string p))] [] fun o => o = .ret (.tup [.d (.v (.string ⟨(Lib.trimPrefix s.data.toList p.data.toList).toArray⟩)), .d (.v (.bool (Lib.hasPrefix s.data.toList p.data.toList)))]) [] :=
  Ctr.ofVals (E := (ax g).E) (f := 108) (xs := [.string s, .string p]) (ys := [.string _, .bool _]) ⟨_, Tryd.func108, rfl, by decide +kernel⟩ (by simp [Value.oneCell']) fun w _ => (Tryd.strings_CutPrefix s p w).mono fun e w' ⟨h1, h2⟩ => ⟨h1, by rw [h2]; exact Below.refl _ _⟩
theorem decode_ctr (g : GP) (hg : ∀ w, g.G w → LibG w) (s : ByteArray) : Ctr (ax g).E 86 [.d (.v (.string s))] [] fun o => o = .ret (.tup [.d (.v (.int .i32 (Lib.decodeGo s).1)), .d (.v (.int .i64 (Lib.decodeGo s).2))]) [] :=
  Ctr.ofVals (E := (ax g).E) (f := 86) (xs := [.string s]) (ys := [.int .i32 _, .int .i64 _]) ⟨_, Tryd.func86, rfl, by decide +kernel⟩ (by simp [Value.oneCell']) fun w hG => Tryd.utf8_DecodeRuneInString s w (hg w hG).utf8
theorem isLetter_ctr (g : GP) (hg : ∀ w, g.G w → LibG w) (r : Int) (hlo : -2147483648 ≤ r) (hhi : r ≤ 2147483647) : Ctr (ax g).E 127 [.d (.v (.int .i32 r))] [] fun o => o = .ret (.d (.v (.bool (isLetterU r)))) [] :=
  Ctr.ofVal (E := (ax g).E) (f := 127) (xs := [.int .i32 r]) ⟨_, Tryd.func127, rfl, by decide +kernel⟩ rfl fun w hG => Tryd.unicode_IsLetter_all r w hlo hhi (hg w hG).props (hg w hG).letter
theorem runeCount_ctr (g : GP) (s : ByteArray) (hs : s.size < 9223372036854775807) : Ctr (ax g).E 129 [.d (.v (.string s))] [] fun o => o = .ret (.d (.v (.int .i64 (Lib.runeCount s)))) [] :=
  Ctr.ofVal (E := (ax g).E) (f := 129) (xs := [.string s]) ⟨_, Tryd.func129, rfl, by decide +kernel⟩ rfl fun w _ => (Tryd.utf8_RuneCountInString s w hs).mono fun e w' ⟨h1, pos, h2⟩ => ⟨h1, by rw [h2]; exact (Below.refl _ w).alloc (Nat.le_refl _) _⟩

end Go.Ax
