/- What the card of this claim stands on, or the card itself: for every input, as the given row says. -/
import Derived.Laws.StructEq
import Derived.ChangeKeysEq
import Derived.Laws.BytesString
import Derived.Laws.RangeString
import Derived.Laws.Small
import Derived.MapKept
import Derived.WideLaws
import Derived.Test.YtdobclfcondfcaaGreatDoorBA02

namespace Go.Ax
def RhOk (s : St) (e : Eff) : Prop := ∀ r x, e.rh = some (r, x) → lkH r s.h = some x
def Good (E : Env) (k : Kn) (op : Op) (ty : TypeId) (s : St) (e : Eff) : Prop := OpOk E k op ty s e ∧ RhOk s e
def okTI (i : TI) : Bool := match i.k.agg with
  | true => true
  | false => Nat.beq i.size 1
theorem okTI_spec {i : TI} (h : okTI i = true) : i.k.agg = false → i.size = 1 := fun ha => by
  simp only [okTI, ha] at h; exact Nat.eq_of_beq_eq_true h
def eszOf (tab : List (Nat × TI)) (i : TI) : Nat := match i.k with
  | .slice e => match lkT e tab with
    | some ei => ei.size
    | none => 0
  | _ => 0
def loadC (i : TI) (esz : Nat) (cs : List D) (off : Nat) : List Prop := match i.k.agg with
  | true => [off + i.size ≤ cs.length]
  | false => [off + i.size ≤ cs.length, has i.k esz (cs.getD off (.v undef))]
theorem loadC_spec {i : TI} {esz : Nat} {cs : List D} {off : Nat} (h : AllL (loadC i esz cs off)) : off + i.size ≤ cs.length ∧ (i.k.agg = false → has i.k esz (cs.getD off (.v undef))) := by
  unfold loadC at h
  cases ha : i.k.agg <;> simp only [ha] at h
  · exact ⟨h.1, fun _ => h.2.1⟩
  · exact ⟨h.1, fun h => absurd h (by simp)⟩
theorem AllL_append {a b : List Prop} (h : AllL (a ++ b)) : AllL a ∧ AllL b := by
  induction a with
  | nil => exact ⟨trivial, h⟩
  | cons x a ih => exact ⟨⟨h.1, (ih h.2).1⟩, (ih h.2).2⟩
theorem OpOk.cond {E : Env} {k : Kn} {op : Op} {ty : TypeId} {s : St} {e : Eff} {cond : List Prop} (h : OpOk E k op ty s e) (hc : AllL cond → AllL e.cond) : OpOk E k op ty s { e with cond } :=
  fun c Im ρ F H a w o h1 h2 h3 h4 h5 h6 h7 h8 h9 h10 => h c Im ρ F H a w o h1 h2 h3 h4 h5 h6 h7 h8 h9 (hc h10)
section ops
variable {E : Env} {k : Kn} {ty : TypeId} {s : St} {tab : List (Nat × TI)} {e : Eff}
def opLoad (tab : List (Nat × TI)) (s : St) (t : TypeId) (x : Operand) : Option Eff := match lkT t tab with
  | none => none
  | some i => match okTI i with
    | false => none
    | true => match evO s x with
      | .ep cs => some { val := loadD i (eszOf tab i) cs 0, cond := loadC i (eszOf tab i) cs 0 }
      | .ptr r off => match lkH r s.h with
        | some (.dvar n cs) => some { val := loadD i (eszOf tab i) cs off, rh := some (r, .dvar n cs), cond := loadC i (eszOf tab i) cs off }
        | some (.var cs) => match Nat.ble (off + i.size) cs.length with
          | true => some { val := loadA i cs off, rh := some (r, .var cs) }
          | false => none
        | _ => none
      | .mptr r n q j => match lkH r s.h with
        | some (.buf sz el els) => some { val := loadD i (eszOf tab i) (els.getD q []) j, rh := some (r, .buf sz el els), cond := [n = els.length, q < els.length] ++ loadC i (eszOf tab i) (els.getD q []) j }
        | _ => none
      | _ => none
theorem opLoad_pure (htab : TabOk E.P tab) {t : TypeId} {x : Operand} (hi : opIn k.nt (.load t x) = true) (h : opLoad tab s t x = some e) : OpPure E k (.load t x) ty s e ∧ RhOk s e := by
  unfold opLoad at h
  split at h
  · simp at h
  rename_i i ht
  have ht := htab.at ht
  split at h
  · simp at h
  rename_i hok
  have h1 := okTI_spec hok
  split at h
  · rename_i cs hx
    injection h with h; subst h
    exact ⟨(ok_load_ep (esz := eszOf tab i) hi ht h1 hx).cond fun hc => let ⟨a, b⟩ := loadC_spec hc; ⟨by omega, b, trivial⟩, by simp [RhOk]⟩
  · rename_i r off hx
    split at h
    · rename_i n cs hr
      injection h with h; subst h
      exact ⟨(ok_load_dvar (esz := eszOf tab i) (nn := n) (cs := cs) hi ht h1 hx).cond fun hc => let ⟨a, b⟩ := loadC_spec hc; ⟨a, b, trivial⟩, by simp [RhOk, hr]⟩
    · rename_i cs hr
      split at h
      · rename_i hb
        injection h with h; subst h
        exact ⟨ok_load_var hi ht h1 hx (Nat.le_of_ble_eq_true hb), by simp [RhOk, hr]⟩
      · simp at h
    · simp at h
  · rename_i r n q j hx
    split at h
    · rename_i sz el els hr
      injection h with h; subst h
      exact ⟨(ok_load_mptr (esz := eszOf tab i) (sz := sz) (el := el) (els := els) hi ht h1 hx).cond fun hc => let ⟨a, b⟩ := AllL_append hc; let ⟨c, d⟩ := loadC_spec b; ⟨a.1, a.2.1, c, d, trivial⟩, by simp [RhOk, hr]⟩
    · simp at h
  · simp at h
theorem opLoad_ok (htab : TabOk E.P tab) {t : TypeId} {x : Operand} (hi : opIn k.nt (.load t x) = true) (h : opLoad tab s t x = some e) : Good E k (.load t x) ty s e :=
  let ⟨a, b⟩ := opLoad_pure htab hi h; ⟨a.ok, b⟩
def opStore (tab : List (Nat × TI)) (s : St) (t : TypeId) (x y : Operand) : Option Eff := match lkT t tab, evO s x with
  | some i, .ptr r off => match lkH r s.h with
    | some (.dvar n cs) => match dcells (evO s y) with
      | some l => match Nat.beq off 0, Nat.beq i.size n with
        | true, true => some { val := .junk, rh := some (r, .dvar n cs), wh := some (r, some (.dvar n l)), cond := [l.length = i.size] }
        | _, _ => some { val := .junk, rh := some (r, .dvar n cs), wh := some (r, some (.dvar n (splice cs l off))), cond := [l.length = i.size, off + i.size ≤ n] }
      | none => match (evO s y).hasCells, (evO s y).cells.all AV.one, Nat.beq (evO s y).cells.length i.size, Nat.ble (off + i.size) n with
        | true, true, true, true => some { val := .junk, rh := some (r, .dvar n cs), wh := some (r, some (.var (splice (cs.map .d) (evO s y).cells off))) }
        | _, _, _, _ => none
    | some (.var cs) => match (evO s y).hasCells, (evO s y).cells.all AV.one, Nat.beq (evO s y).cells.length i.size, Nat.ble (off + i.size) cs.length with
      | true, true, true, true => some { val := .junk, rh := some (r, .var cs), wh := some (r, some (.var (splice cs (evO s y).cells off))) }
      | _, _, _, _ => none
    | _ => none
  | _, _ => none
theorem opStore_ok (htab : TabOk E.P tab) {t : TypeId} {x y : Operand} (hi : opIn k.nt (.store t x y) = true) (h : opStore tab s t x y = some e) : Good E k (.store t x y) ty s e := by
  unfold opStore at h
  split at h
  · rename_i i r off ht hx
    have ht := htab.at ht
    split at h
    · rename_i n cs hr
      split at h
      · rename_i l hl
        split at h
        · rename_i h0 hn
          injection h with h; subst h
          have := Nat.eq_of_beq_eq_true h0; subst this
          exact ⟨ok_store_whole hi ht hx hl (Nat.eq_of_beq_eq_true hn), by simp [RhOk, hr]⟩
        · injection h with h; subst h
          exact ⟨ok_store_dvar hi ht hx hl, by simp [RhOk, hr]⟩
      · split at h
        · rename_i g1 g2 g3 g4
          injection h with h; subst h
          exact ⟨ok_store_mixed hi ht hx rfl g1 g2 (Nat.eq_of_beq_eq_true g3) (Nat.le_of_ble_eq_true g4), by simp [RhOk, hr]⟩
        · simp at h
    · rename_i cs hr
      split at h
      · rename_i g1 g2 g3 g4
        injection h with h; subst h
        exact ⟨ok_store_var hi ht hx rfl g1 g2 (Nat.eq_of_beq_eq_true g3) (Nat.le_of_ble_eq_true g4), by simp [RhOk, hr]⟩
      · simp at h
    · simp at h
  · simp at h
def ikEq (a b : IntKind) : Bool := match a, b with
  | .i8, .i8 | .i16, .i16 | .i32, .i32 | .i64, .i64 | .u8, .u8 | .u16, .u16 | .u32, .u32 | .u64, .u64 => true
  | _, _ => false
theorem ikEq_spec {a b : IntKind} (h : ikEq a b = true) : a = b := by cases a <;> cases b <;> first | rfl | (simp [ikEq] at h)
def isShift : BinOp → Bool
  | .shl | .shr => true
  | _ => false
def opBin (tab : List (Nat × TI)) (s : St) (op : BinOp) (xt : TypeId) (x y : Operand) : Option Eff := match evO s x, evO s y with
  | .d (.v (.int i m)), .d (.v (.int j n)) => match isShift op with
    | true => match shOp op i m n with
      | some (v, cs) => some { val := .d (.v v), cond := cs }
      | none => none
    | false => match ikEq i j, intOp op i m n with
      | true, some (v, cs) => some { val := .d (.v v), cond := cs }
      | _, _ => none
  | .d (.v (.string m)), .d (.v (.string n)) => match strOp op m n with
    | some (v, cs) => some { val := .d (.v v), cond := cs }
    | none => none
  | .d (.v (.bool m)), .d (.v (.bool n)) => match lkT xt tab, op with
    | some { k := .bool, .. }, .eql => some { val := .d (.v (.bool (m == n))) }
    | some { k := .bool, .. }, .neq => some { val := .d (.v (.bool (!(m == n)))) }
    | _, _ => none
  | _, _ => none
theorem bool_under {P : Program} {t : TypeId} {i : TI} (hi : tiOf P t = some i) (hk : i.k = .bool) : P.underlying t = some .bool := by
  obtain ⟨inf, d, z, g1, g2, g3, rfl⟩ := tiOf_spec hi
  cases d <;> simp only [kindOf] at hk <;> cases hk
  exact g2
theorem opBin_ok (htab : TabOk E.P tab) {op : BinOp} {xt yt : TypeId} {x y : Operand} (hi : opIn k.nt (.binOp op xt x y yt) = true) (h : opBin tab s op xt x y = some e) : Good E k (.binOp op xt x y yt) ty s e := by
  unfold opBin at h
  split at h
  · rename_i i m j n hx hy
    split at h
    · split at h
      · rename_i v cs hs
        injection h with h; subst h
        exact ⟨ok_shift hi hx hy hs, by simp [RhOk]⟩
      · simp at h
    · split at h
      · rename_i v cs hij hs
        injection h with h; subst h
        exact ⟨ok_int hi hx hy (ikEq_spec hij) hs, by simp [RhOk]⟩
      · simp at h
  · rename_i m n hx hy
    split at h
    · rename_i v cs hs
      injection h with h; subst h
      exact ⟨ok_str hi hx hy hs, by simp [RhOk]⟩
    · simp at h
  · rename_i m n hx hy
    split at h
    · rename_i ht
      injection h with h; subst h
      exact ⟨ok_booleq hi hx hy (bool_under (htab.at ht) rfl) (.inl ⟨rfl, rfl⟩), by simp [RhOk]⟩
    · rename_i ht
      injection h with h; subst h
      exact ⟨ok_booleq hi hx hy (bool_under (htab.at ht) rfl) (.inr ⟨rfl, rfl⟩), by simp [RhOk]⟩
    · simp at h
  · simp at h
def opFieldAddr (tab : List (Nat × TI)) (s : St) (t : TypeId) (x : Operand) (f : Nat) : Option Eff := match lkT t tab with
  | none => none
  | some i => match fieldOff i f with
    | none => none
    | some (off, ft) => match lkT ft tab with
      | none => none
      | some fi => match Nat.beq fi.size 0, evO s x with
        | false, .ptr r q => match lkH r s.h with
          | some ob => some { val := .ptr r (q + off), rh := some (r, ob) }
          | none => none
        | false, .ep cs => some { val := .ep (cs.drop off) }
        | false, .mptr r n q j => match lkH r s.h with
          | some (.buf sz el els) => some { val := .mptr r n q (j + off), rh := some (r, .buf sz el els), cond := [n = els.length] }
          | _ => none
        | _, _ => none
theorem opFieldAddr_ok (htab : TabOk E.P tab) {t : TypeId} {x : Operand} {f : Nat} (hi : opIn k.nt (.fieldAddr t x f) = true) (h : opFieldAddr tab s t x f = some e) : Good E k (.fieldAddr t x f) ty s e := by
  unfold opFieldAddr at h
  split at h
  · simp at h
  rename_i i ht
  split at h
  · simp at h
  rename_i off ft hf
  split at h
  · simp at h
  rename_i fi hfi
  have ht := htab.at ht
  have hfi := htab.at hfi
  split at h
  · rename_i r q hz hx
    have hz' : fi.size ≠ 0 := fun e => by rw [e] at hz; simp at hz
    split at h
    · rename_i ob hr
      injection h with h; subst h
      exact ⟨ok_fieldAddr_ptr hi ht hf hfi hz' hx, by simp [RhOk, hr]⟩
    · simp at h
  · rename_i cs hz hx
    have hz' : fi.size ≠ 0 := fun e => by rw [e] at hz; simp at hz
    injection h with h; subst h
    exact ⟨ok_fieldAddr_ep hi ht hf hfi hz' hx, by simp [RhOk]⟩
  · rename_i r n q j hz hx
    have hz' : fi.size ≠ 0 := fun e => by rw [e] at hz; simp at hz
    split at h
    · rename_i sz el els hr
      injection h with h; subst h
      exact ⟨ok_fieldAddr_mptr hi ht hf hfi hz' hx, by simp [RhOk, hr]⟩
    · simp at h
  · simp at h
def opIndexAddr (tab : List (Nat × TI)) (s : St) (t : TypeId) (x ix : Operand) : Option Eff := match lkT t tab with
  | none => none
  | some i => match i.k, evO s ix with
    | .slice e, .d (.v (.int _ j)) => match lkT e tab with
      | none => none
      | some ei => match evO s x with
        | .d (.sl _ sz els) => match Nat.beq ei.size sz with
          | true => some { val := .ep (els.getD j.toNat []), cond := [0 ≤ j, j < els.length] }
          | false => none
        | .msl r n off len => match lkH r s.h with
          | some (.buf sz el els) => match Nat.beq ei.size sz with
            | true => some { val := .mptr r n (off + j.toNat) 0, rh := some (r, .buf sz el els), cond := [n = els.length, off + len ≤ n, 0 ≤ j, j < len] }
            | false => none
          | _ => none
        | _ => none
    | .array n e, .d (.v (.int _ j)) => match lkT e tab with
      | none => none
      | some ei => match evO s x with
        | .ptr r off => match lkH r s.h with
          | some ob => some { val := .ptr r (off + j.toNat * ei.size), rh := some (r, ob), cond := [0 ≤ j, j < n] }
          | none => none
        | .ep cs => some { val := .ep (cs.drop (j.toNat * ei.size)), cond := [0 ≤ j, j < n] }
        | .mptr r n' q j0 => match lkH r s.h with
          | some (.buf sz el els) => some { val := .mptr r n' q (j0 + j.toNat * ei.size), rh := some (r, .buf sz el els), cond := [n' = els.length, 0 ≤ j, j < n] }
          | _ => none
        | _ => none
    | _, _ => none
theorem opIndexAddr_ok (htab : TabOk E.P tab) {t : TypeId} {x ix : Operand} (hi : opIn k.nt (.indexAddr t x ix) = true) (h : opIndexAddr tab s t x ix = some e) : Good E k (.indexAddr t x ix) ty s e := by
  unfold opIndexAddr at h
  split at h
  · simp at h
  rename_i i ht
  have ht := htab.at ht
  split at h
  · rename_i e0 ik j hk hj
    split at h
    · simp at h
    rename_i ei he
    have he := htab.at he
    split at h
    · rename_i tight sz els hx
      split at h
      · rename_i hsz
        injection h with h; subst h
        exact ⟨ok_indexAddr_sl hi ht hk he (Nat.eq_of_beq_eq_true hsz) hx hj, by simp [RhOk]⟩
      · simp at h
    · rename_i r n off len hx
      split at h
      · rename_i sz el els hr
        split at h
        · rename_i hsz
          injection h with h; subst h
          exact ⟨ok_indexAddr_msl hi ht hk he (Nat.eq_of_beq_eq_true hsz) hx hj, by simp [RhOk, hr]⟩
        · simp at h
      · simp at h
    · simp at h
  · rename_i n e0 ik j hk hj
    split at h
    · simp at h
    rename_i ei he
    have he := htab.at he
    split at h
    · rename_i r off hx
      split at h
      · rename_i ob hr
        injection h with h; subst h
        exact ⟨ok_indexAddr_arr hi ht hk he hx hj, by simp [RhOk, hr]⟩
      · simp at h
    · rename_i cs hx
      injection h with h; subst h
      exact ⟨ok_indexAddr_ep hi ht hk he hx hj, by simp [RhOk]⟩
    · rename_i r n' q j0 hx
      split at h
      · rename_i sz el els hr
        injection h with h; subst h
        exact ⟨ok_indexAddr_mptr hi ht hk he hx hj, by simp [RhOk, hr]⟩
      · simp at h
    · simp at h
  · simp at h
def opLen (tab : List (Nat × TI)) (s : St) (x : Operand) (t : TypeId) : Option Eff := match lkT t tab with
  | none => none
  | some i => match i.k, evO s x with
    | .str, .d (.v (.string m)) => some { val := .d (.v (.int .i64 m.size)) }
    | .slice _, .d (.sl _ _ els) => some { val := .d (.v (.int .i64 els.length)) }
    | .slice _, .d (.v (.slice _ n _)) => some { val := .d (.v (.int .i64 n)) }
    | .slice _, .msl r n _ len => match lkH r s.h with
      | some (.buf sz el els) => some { val := .d (.v (.int .i64 len)), rh := some (r, .buf sz el els), cond := [n = els.length] }
      | _ => none
    | _, _ => none
theorem opLen_ok (htab : TabOk E.P tab) {t : TypeId} {x : Operand} (hi : opIn k.nt (lenCall x t) = true) (h : opLen tab s x t = some e) : Good E k (lenCall x t) ty s e := by
  unfold opLen at h
  split at h
  · simp at h
  rename_i i ht
  have ht := htab.at ht
  split at h
  · rename_i m hk hx
    injection h with h; subst h
    exact ⟨ok_len_str hi ht hk hx, by simp [RhOk]⟩
  · rename_i e0 tight sz els hk hx
    injection h with h; subst h
    exact ⟨ok_len_sl hi ht hk hx, by simp [RhOk]⟩
  · rename_i e0 ad n c0 hk hx
    injection h with h; subst h
    exact ⟨ok_len_nil hi ht hk hx, by simp [RhOk]⟩
  · rename_i e0 r n off len hk hx
    split at h
    · rename_i sz el els hr
      injection h with h; subst h
      exact ⟨ok_len_msl hi ht hk hx, by simp [RhOk, hr]⟩
    · simp at h
  · simp at h
def opAppend (tab : List (Nat × TI)) (s : St) (d : Nat) (x y : Operand) (t : TypeId) : Option Eff := match lkT t tab with
  | none => none
  | some i => match i.k with
    | .slice e => match lkT e tab with
      | none => none
      | some ei => match Nat.beq ei.zero.length ei.size, Nat.blt 0 ei.size, Nat.blt 0 ei.bytes with
        | true, true, true => match evO s x with
          | .msl r n off len => match Nat.beq off 0, evO s y, lkH r s.h with
            | true, .d (.sl _ sz2 els2), some (.buf sz el els) => match Nat.beq sz2 ei.size, Nat.beq ei.size sz, Nat.beq el e with
              | true, true, true => some { val := .msl r (els.length + els2.length) 0 (els.length + els2.length), rh := some (r, .buf sz el els), wh := some (r, some (.buf sz el (els ++ els2))), cond := [n = els.length, len = n, (els.length + els2.length) * ei.bytes ≤ 140737488355328] }
              | _, _, _ => none
            | _, _, _ => none
          | z => match slOf ei.size z, slOf ei.size (evO s y) with
            | some (true, []), some (_, els2) => some { val := .msl d els2.length 0 els2.length, wh := some (d, some (.buf ei.size e els2)), new := some d, cond := [els2.length * ei.bytes ≤ 140737488355328] }
            | _, _ => none
        | _, _, _ => none
    | _ => none
theorem opAppend_ok (htab : TabOk E.P tab) {t : TypeId} {x y : Operand} {d : Nat} (hi : opIn k.nt (appCall x y t) = true) (h : opAppend tab s d x y t = some e) : Good E k (appCall x y t) ty s e := by
  unfold opAppend at h
  split at h
  · simp at h
  rename_i i ht
  have ht := htab.at ht
  split at h
  · rename_i e0 hk
    split at h
    · simp at h
    rename_i ei he
    have he := htab.at he
    split at h
    · rename_i hz hpos hby
      have hz := Nat.eq_of_beq_eq_true hz
      have hpos : 0 < ei.size := by simpa using hpos
      have hby : 0 < ei.bytes := by simpa using hby
      split at h
      · rename_i r n off len hx
        split at h
        · rename_i tight sz2 els2 sz el els h0 hy hr
          split at h
          · rename_i q1 q2 q3
            injection h with h; subst h
            have := Nat.eq_of_beq_eq_true h0; subst this
            have := Nat.eq_of_beq_eq_true q1; subst this
            have q2 := Nat.eq_of_beq_eq_true q2
            have := Nat.eq_of_beq_eq_true q3; subst this
            subst q2
            refine ⟨fun c Im ρ F H a w o g1 g2 g3 g4 g5 g6 g7 g8 g9 g10 => ?_, by simp [RhOk, hr]⟩
            obtain ⟨c1, c2, c3, _⟩ := g10
            subst c2
            exact ok_append_msl hi ht hk he rfl hz hpos hby hx hy c Im ρ F H a w o g1 g2 g3 g4 g5 g6 g7 g8 g9 ⟨c1, c3, trivial⟩
          · simp at h
        · simp at h
      · rename_i z hnot
        split at h
        · rename_i q1 tight els2 hx hy
          injection h with h; subst h
          have := ok_append_new (E := E) (ty := ty) (d := d) hi ht hk he rfl hz hpos hby hx hy rfl
          simp only [List.length_nil, Nat.zero_add, List.nil_append] at this
          exact ⟨this, by simp [RhOk]⟩
        · simp at h
    · simp at h
  · simp at h
def opSlice (tab : List (Nat × TI)) (s : St) (t : TypeId) (x : Operand) (lo hi : Option Operand) : Option Eff := match lkT t tab, intOf s lo, intOf s hi with
  | some i, some jl, some jh => match i.k with
    | .str => match evO s x with
      | .d (.v (.string m)) => some { val := .d (.v (.string (m.extract (jl.getD 0).toNat (jh.getD m.size).toNat))), cond := [0 ≤ jl.getD 0, jl.getD 0 ≤ jh.getD m.size, jh.getD m.size ≤ m.size] }
      | _ => none
    | .slice e => match lkT e tab with
      | none => none
      | some ei => match evO s x with
        | .msl r n off len => match Nat.beq off 0, lkH r s.h with
          | true, some (.buf sz el els) => match Nat.beq ei.size sz with
            | true => some { val := .msl r n (jl.getD 0).toNat ((jh.getD len).toNat - (jl.getD 0).toNat), rh := some (r, .buf sz el els), cond := [n = els.length, 0 ≤ jl.getD 0, jl.getD 0 ≤ jh.getD len, jh.getD len ≤ els.length] }
            | false => none
          | _, _ => none
        | z => match slOf ei.size z with
          | some (_, els) => some { val := .d (.sl false ei.size ((els.drop (jl.getD 0).toNat).take ((jh.getD els.length).toNat - (jl.getD 0).toNat))), cond := [0 ≤ jl.getD 0, jl.getD 0 ≤ jh.getD els.length, jh.getD els.length ≤ els.length] }
          | none => none
    | _ => none
  | _, _, _ => none
theorem opSlice_ok (htab : TabOk E.P tab) {t : TypeId} {x : Operand} {lo hi : Option Operand} (hin : opIn k.nt (.slice t x lo hi none) = true) (h : opSlice tab s t x lo hi = some e) : Good E k (.slice t x lo hi none) ty s e := by
  unfold opSlice at h
  split at h
  · rename_i i jl jh ht hl hh
    have ht := htab.at ht
    split at h
    · rename_i hk
      split at h
      · rename_i m hx
        injection h with h; subst h
        exact ⟨ok_slice_str hin ht hk hx hl hh, by simp [RhOk]⟩
      · simp at h
    · rename_i e0 hk
      split at h
      · simp at h
      rename_i ei he
      have he := htab.at he
      split at h
      · rename_i r n off len hx
        split at h
        · rename_i sz el els h0 hr
          split at h
          · rename_i hsz
            injection h with h; subst h
            have := Nat.eq_of_beq_eq_true h0; subst this
            exact ⟨ok_slice_msl hin ht hk he (Nat.eq_of_beq_eq_true hsz) hx hl hh, by simp [RhOk, hr]⟩
          · simp at h
        · simp at h
      · rename_i z hnot
        split at h
        · rename_i tight els hx
          injection h with h; subst h
          exact ⟨ok_slice_sl hin ht hk he rfl hx hl hh, by simp [RhOk]⟩
        · simp at h
    · simp at h
  · simp at h
end ops
end Go.Ax

namespace Go.Ax
def scEq (k : TK) (a b : D) : Bool := match k with
  | .int _ => a.int == b.int
  | .bool => a.bool == b.bool
  | .str => a.str.data.toList == b.str.data.toList
  | _ => false
def eqAll : List TK → List D → List D → Nat → Bool
  | [], _, _, _ => true
  | k :: ks, a, b, i => scEq k (a.getD i (.v undef)) (b.getD i (.v undef)) && eqAll ks a b (i + 1)
def hasAll : List TK → List D → Nat → List Prop
  | [], _, _ => []
  | k :: ks, a, i => has k 0 (a.getD i (.v undef)) :: hasAll ks a (i + 1)
def isPlain : TK → Bool
  | .int _ | .bool | .str => true
  | _ => false
def cellOk (k : TK) (v : Value) : Prop := match k with
  | .int q => ∃ n, v = .int q n
  | .bool => ∃ b, v = .bool b
  | .str => ∃ s, v = .string s
  | _ => False
def cellEq (v u : Value) : Bool := match v, u with
  | .int _ a, .int _ b => a == b
  | .bool a, .bool b => a == b
  | .string a, .string b => a.data.toList == b.data.toList
  | _, _ => false
def eqV : List TK → Array Value → Array Value → Nat → Bool
  | [], _, _, _ => true
  | _ :: ks, a, b, i => cellEq (a.getD i undef) (b.getD i undef) && eqV ks a b (i + 1)
theorem eqV_append (x y : List TK) (a b : Array Value) (i : Nat) : eqV (x ++ y) a b i = (eqV x a b i && eqV y a b (i + x.length)) := by
  induction x generalizing i with
  | nil => simp [eqV]
  | cons k x ih => simp [eqV, ih, Bool.and_assoc, Nat.add_assoc, Nat.add_comm 1]
theorem eqV_congr (l : List TK) (a b a' b' : Array Value) (i i' : Nat) (h : ∀ j, j < l.length → a.getD (i + j) undef = a'.getD (i' + j) undef ∧ b.getD (i + j) undef = b'.getD (i' + j) undef) : eqV l a b i = eqV l a' b' i' := by
  induction l generalizing i i' with
  | nil => rfl
  | cons k l ih =>
    have h0 := h 0 (by simp)
    simp only [Nat.add_zero] at h0
    simp only [eqV, h0.1, h0.2]
    congr 1
    refine ih (i + 1) (i' + 1) fun j hj => ?_
    have := h (j + 1) (by simp; omega)
    rw [show i + (j + 1) = i + 1 + j by omega, show i' + (j + 1) = i' + 1 + j by omega] at this
    exact this
def FitsV (l : List TK) (a : Array Value) (i : Nat) : Prop := ∀ (j : Nat) (k : TK), l[j]? = some k → cellOk k (a.getD (i + j) undef)
theorem FitsV.left {x y : List TK} {a : Array Value} {i : Nat} (h : FitsV (x ++ y) a i) : FitsV x a i := fun j k hj => h j k (by rw [List.getElem?_append_left (List.getElem?_eq_some_iff.1 hj).1]; exact hj)
theorem FitsV.right {x y : List TK} {a : Array Value} {i : Nat} (h : FitsV (x ++ y) a i) : FitsV y a (i + x.length) := fun j k hj => by
  have := h (x.length + j) k (by rw [List.getElem?_append_right (by omega)]; simpa using hj)
  rw [show i + x.length + j = i + (x.length + j) by omega]; exact this
theorem getD_extract (a : Array Value) (off n j : Nat) (hj : j < n) (hl : off + n ≤ a.size) : (a.extract off (off + n)).getD j undef = a.getD (off + j) undef := by
  have h2 : off + j < a.size := by omega
  have h3 : j < min (off + n) a.size - off := by omega
  simp [Array.getD, h2, h3]
section
variable {P : Program} (w : World)
theorem equalIn_cell {D : Nat} {t : TypeId} {k : TK} {a b : Value} (hu : (∃ q, k = .int q ∧ P.underlying t = some (.int q)) ∨ (k = .bool ∧ P.underlying t = some .bool) ∨ (k = .str ∧ P.underlying t = some .string)) (ha : cellOk k a) (hb : cellOk k b) :
    (Op.equalIn (D + 1) t a b).run P w = .ok (cellEq a b) w := by
  rcases hu with ⟨q, rfl, hu⟩ | ⟨rfl, hu⟩ | ⟨rfl, hu⟩
  · obtain ⟨m, rfl⟩ := ha; obtain ⟨n, rfl⟩ := hb
    rw [run_equalIn_int w D t q q m n hu]; rfl
  · obtain ⟨m, rfl⟩ := ha; obtain ⟨n, rfl⟩ := hb
    rw [run_equalIn_bool' w D t m n hu]; rfl
  · obtain ⟨m, rfl⟩ := ha; obtain ⟨n, rfl⟩ := hb
    rw [run_equalIn_string w D t m n hu]; rw [ByteArray.toList_eq, ByteArray.toList_eq]; rfl
def FlatOk (P : Program) (w : World) (d : Nat) (t : TypeId) (l : List TK) : Prop := ∀ (xs ys : Array Value) (off D : Nat), off + l.length ≤ xs.size → off + l.length ≤ ys.size → FitsV l xs off → FitsV l ys off →
  ∃ a b, (part t xs off).run P w = .ok a w ∧ (part t ys off).run P w = .ok b w ∧ (Op.equalIn (D + d) t a b).run P w = .ok (eqV l xs ys off) w ∧ (∀ E, (Instr.checkKey E (D + d) t a).run P w = .ok () w)
theorem flatFs_ok {go : TypeId → Option (List TK)} {d : Nat} (hgo : ∀ t l, go t = some l → FlatOk P w d t l) (xs ys : Array Value) (D : Nat) : ∀ (fs : List Field) (off : Nat) (l : List TK), flatFs go off fs = some l → off + l.length ≤ xs.size → off + l.length ≤ ys.size → FitsV l xs off → FitsV l ys off →
    (Op.eqFields (D + d) xs ys fs).run P w = .ok (eqV l xs ys off) w ∧
    ∀ E, (forIn (m := Sem) fs PUnit.unit fun f (_ : PUnit) => if f.name ≠ "_" then (do Instr.checkKey E (D + d) f.type (← part f.type xs f.offset); pure (.yield PUnit.unit)) else pure (.yield PUnit.unit)).run P w = .ok PUnit.unit w
  | [], off, l, h, _, _, _, _ => by
    simp only [flatFs] at h
    injection h with h; subst h
    exact ⟨by simp [Op.eqFields, eqV], fun E => by simp⟩
  | f :: fs, off, l, h, hx, hy, fx, fy => by
    simp only [flatFs] at h
    split at h
    · rename_i l1 h1 h2 h3
      split at h
      · rename_i r hr
        injection h with h; subst h
        have h2 := Nat.eq_of_beq_eq_true h2
        have hne : f.name ≠ "_" := by simpa using h1
        simp only [List.length_append] at hx hy
        obtain ⟨a, b, e1, e2, e3, e4⟩ := hgo f.type l1 h3 xs ys off D (by omega) (by omega) fx.left fy.left
        obtain ⟨i1, i2⟩ := flatFs_ok hgo xs ys D fs (off + l1.length) r hr (by omega) (by omega) fx.right fy.right
        subst h2
        constructor
        · simp only [Op.eqFields, if_pos hne, Sem.run_bind, e1, e2, e3, Result.andThen_ok, eqV_append]
          cases he : eqV l1 xs ys f.offset with
          | false => simp
          | true => simpa using i1
        · intro E
          simp only [List.forIn_cons, if_pos hne, Sem.run_bind, e1, e4 E, Result.andThen_ok, Sem.run_pure]
          exact i2 E
      · simp at h
    · simp at h
theorem flat_ok : ∀ (d : Nat) (t : TypeId) (l : List TK), flatL P d t = some l → FlatOk P w d t l := by
  intro d
  induction d with
  | zero => intro t l h; simp [flatL] at h
  | succ d ih =>
    intro t l h
    have scal : ∀ (k : TK) (i : TI), tiOf0 P t = some i → i.k = k → i.size = 1 → k.agg = false → l = [k] → ((∃ q, k = .int q ∧ P.underlying t = some (.int q)) ∨ (k = .bool ∧ P.underlying t = some .bool) ∨ (k = .str ∧ P.underlying t = some .string)) → FlatOk P w (d + 1) t l := fun k i hi hk hs ha hl hu => by
      subst hl
      intro xs ys off D hx hy fx fy
      have px := run_part (w := w) (tiOf_of0 hi) (fun _ => hs) (cs := xs) (off := off) (by simp at hx; simp; omega)
      have py := run_part (w := w) (tiOf_of0 hi) (fun _ => hs) (cs := ys) (off := off) (by simp at hy; simp; omega)
      simp only [hk, ha] at px py
      have ox := fx 0 k rfl
      have oy := fy 0 k rfl
      simp only [Nat.add_zero] at ox oy
      refine ⟨_, _, px, py, ?_, fun E => ?_⟩
      · rw [← Nat.add_assoc]
        simp only [Bool.false_eq_true, if_false]
        rw [equalIn_cell w hu ox oy]
        simp [eqV]
      · rw [← Nat.add_assoc]
        simp only [Bool.false_eq_true, if_false]
        rcases hu with ⟨q, rfl, hu⟩ | ⟨rfl, hu⟩ | ⟨rfl, hu⟩ <;> simp [Instr.checkKey, run_underlying hu]
    unfold flatL at h
    split at h
    · rename_i i k hi hu
      split at h
      · rename_i hs
        injection h with h
        obtain ⟨_, d0, _, _, g2, _, rfl⟩ := tiOf0_spec hi
        rw [hu] at g2; injection g2 with g2; subst g2
        exact scal (.int k) _ hi rfl (Nat.eq_of_beq_eq_true hs) rfl h.symm (.inl ⟨k, rfl, hu⟩)
      · simp at h
    · rename_i i hi hu
      split at h
      · rename_i hs
        injection h with h
        obtain ⟨_, d0, _, _, g2, _, rfl⟩ := tiOf0_spec hi
        rw [hu] at g2; injection g2 with g2; subst g2
        exact scal .bool _ hi rfl (Nat.eq_of_beq_eq_true hs) rfl h.symm (.inr (.inl ⟨rfl, hu⟩))
      · simp at h
    · rename_i i hi hu
      split at h
      · rename_i hs
        injection h with h
        obtain ⟨_, d0, _, _, g2, _, rfl⟩ := tiOf0_spec hi
        rw [hu] at g2; injection g2 with g2; subst g2
        exact scal .str _ hi rfl (Nat.eq_of_beq_eq_true hs) rfl h.symm (.inr (.inr ⟨rfl, hu⟩))
      · simp at h
    · rename_i i fs hi hu
      split at h
      · rename_i l0 hst hfs
        split at h
        · rename_i hs
          injection h with h; subst h
          have hs := Nat.eq_of_beq_eq_true hs
          intro xs ys off D hx hy fx fy
          have hagg : i.k.agg = true := by
            obtain ⟨_, d0, _, _, g2, _, rfl⟩ := tiOf0_spec hi
            rw [hu] at g2; injection g2 with g2; subst g2; rfl
          have px := run_part (w := w) (tiOf_of0 hi) (fun h => by simp only [hagg] at h; simp at h) (cs := xs) (off := off) (by simp only; omega)
          have py := run_part (w := w) (tiOf_of0 hi) (fun h => by simp only [hagg] at h; simp at h) (cs := ys) (off := off) (by simp only; omega)
          simp only [hagg, if_true] at px py
          have hfs' : P.fieldsOf t = fs := by simp [Program.fieldsOf, hu]
          rw [hs] at px py
          have fit : ∀ {zs : Array Value}, off + l0.length ≤ zs.size → FitsV l0 zs off → FitsV l0 (zs.extract off (off + l0.length)) 0 := fun hz f j k hj => by
            have hjl := (List.getElem?_eq_some_iff.1 hj).1
            rw [Nat.zero_add, getD_extract _ _ _ _ hjl hz]
            exact f j k hj
          obtain ⟨k1, k2⟩ := flatFs_ok w ih (xs.extract off (off + l0.length)) (ys.extract off (off + l0.length)) D fs.toList 0 l0 hfs (by simp; omega) (by simp; omega) (fit hx fx) (fit hy fy)
          refine ⟨_, _, px, py, ?_, fun E => ?_⟩
          · rw [← Nat.add_assoc, run_equalIn_struct w (D + d) t _ _ (by rw [hfs']; exact hu) hst, hfs', k1]
            congr 1
            refine eqV_congr _ _ _ _ _ _ _ fun j hj => ?_
            rw [Nat.zero_add, getD_extract _ _ _ _ hj hx, getD_extract _ _ _ _ hj hy]
            exact ⟨rfl, rfl⟩
          · rw [← Nat.add_assoc]
            simp only [Instr.checkKey, Sem.run_bind, run_underlying hu, Result.andThen_ok]
            rw [← Array.forIn_toList]
            have := k2 E
            rw [this]
            rfl
        · simp at h
      · simp at h
    · rename_i i n e hi hu
      split at h
      · rename_i l0 ei hl0 hei
        split at h
        · rename_i hs1 hs2
          injection h with h; subst h
          have hs1 := Nat.eq_of_beq_eq_true hs1
          have hs2 := Nat.eq_of_beq_eq_true hs2
          intro xs ys off D hx hy fx fy
          have hlen : ∀ n, ((List.replicate n l0).flatten).length = n * l0.length := fun n => by simp
          rw [hlen] at hx hy
          have hagg : i.k.agg = true := by
            obtain ⟨_, d0, _, _, g2, _, rfl⟩ := tiOf0_spec hi
            rw [hu] at g2; injection g2 with g2; subst g2; rfl
          have px := run_part (w := w) (tiOf_of0 hi) (fun h => by simp only [hagg] at h; simp at h) (cs := xs) (off := off) (by simp only; omega)
          have py := run_part (w := w) (tiOf_of0 hi) (fun h => by simp only [hagg] at h; simp at h) (cs := ys) (off := off) (by simp only; omega)
          simp only [hagg, if_true] at px py
          rw [hs2] at px py
          obtain ⟨einf, _, _, g1, _, _, rfl⟩ := tiOf0_spec hei
          have hc : P.cellsOf e = l0.length := by simp [Program.cellsOf, g1]; exact hs1
          have fit : ∀ {zs : Array Value}, off + n * l0.length ≤ zs.size → FitsV (List.replicate n l0).flatten zs off → FitsV (List.replicate n l0).flatten (zs.extract off (off + n * l0.length)) 0 := fun hz f j k hj => by
            have hjl := (List.getElem?_eq_some_iff.1 hj).1
            rw [hlen] at hjl
            rw [Nat.zero_add, getD_extract _ _ _ _ hjl hz]
            exact f j k hj
          have items : ∀ (m j : Nat) (as bs : Array Value), (j + m) * l0.length ≤ as.size → (j + m) * l0.length ≤ bs.size → FitsV (List.replicate m l0).flatten as (j * l0.length) → FitsV (List.replicate m l0).flatten bs (j * l0.length) →
              (Op.eqItems (D + d) e l0.length as bs (List.range' j m)).run P w = .ok (eqV (List.replicate m l0).flatten as bs (j * l0.length)) w ∧
              ∀ E, (forIn (m := Sem) (List.range' j m) PUnit.unit fun i (_ : PUnit) => (do Instr.checkKey E (D + d) e (← part e as (i * (← sizeOf e))); pure (.yield PUnit.unit))).run P w = .ok PUnit.unit w := by
            intro m
            induction m with
            | zero => intro j as bs _ _ _ _; simp [Op.eqItems, eqV]
            | succ m ihm =>
              intro j as bs ha hb fa fb
              rw [List.replicate_succ, List.flatten_cons] at fa fb ⊢
              have e0 : (j + (m + 1)) * l0.length = j * l0.length + l0.length + m * l0.length := by rw [Nat.add_mul, Nat.add_mul]; omega
              rw [e0] at ha hb
              obtain ⟨a, b, e1, e2, e3, e4⟩ := ih e l0 hl0 as bs (j * l0.length) D (by omega) (by omega) fa.left fb.left
              have e5 : (j + 1) * l0.length = j * l0.length + l0.length := by rw [Nat.add_mul]; omega
              have e6 : (j + 1 + m) * l0.length = j * l0.length + l0.length + m * l0.length := by rw [Nat.add_mul, Nat.add_mul]; omega
              obtain ⟨i1, i2⟩ := ihm (j + 1) as bs (by omega) (by omega) (by rw [e5]; exact fa.right) (by rw [e5]; exact fb.right)
              rw [e5] at i1
              constructor
              · rw [List.range'_succ]
                simp only [Op.eqItems, Sem.run_bind, e1, e2, e3, Result.andThen_ok, eqV_append]
                cases he : eqV l0 as bs (j * l0.length) with
                | false => simp
                | true => simpa using i1
              · intro E
                rw [List.range'_succ]
                have hsz : (sizeOf e).run P w = .ok l0.length w := by simp [sizeOf, typeInfo, g1]; exact hs1
                simp only [List.forIn_cons, Sem.run_bind, hsz, e1, e4 E, Result.andThen_ok, Sem.run_pure]
                exact i2 E
          obtain ⟨k1, k2⟩ := items n 0 (xs.extract off (off + n * l0.length)) (ys.extract off (off + n * l0.length)) (by simp; omega) (by simp; omega) (by simpa using fit hx fx) (by simpa using fit hy fy)
          refine ⟨_, _, px, py, ?_, fun E => ?_⟩
          · rw [← Nat.add_assoc, run_equalIn_array w (D + d) _ _ hu g1, hc, List.range_eq_range', k1]
            congr 1
            refine eqV_congr _ _ _ _ _ _ _ fun j hj => ?_
            rw [hlen] at hj
            rw [Nat.zero_mul, Nat.zero_add, getD_extract _ _ _ _ hj hx, getD_extract _ _ _ _ hj hy]
            exact ⟨rfl, rfl⟩
          · rw [← Nat.add_assoc]
            simp only [Instr.checkKey, Sem.run_bind, run_underlying hu, Result.andThen_ok]
            simp only [Std.Legacy.Range.forIn_eq_forIn_range', Std.Legacy.Range.size, Nat.sub_zero, Nat.add_one_sub_one, Nat.div_one]
            have := k2 E
            rw [this]
            rfl
        · simp at h
      · simp at h
    · simp at h
end
end Go.Ax

namespace Go.Ax
theorem hasAll_at {a : List D} : ∀ {l : List TK} {i : Nat}, AllL (hasAll l a i) → ∀ (j : Nat) (k : TK), l[j]? = some k → has k 0 (a.getD (i + j) (.v undef))
  | [], i, _, j, k, h => by simp at h
  | k0 :: l, i, hc, 0, k, h => by simp at h; subst h; exact hc.1
  | k0 :: l, i, hc, j + 1, k, h => by
    have := hasAll_at (l := l) (i := i + 1) hc.2 j k (by simpa using h)
    rw [show i + (j + 1) = i + 1 + j by omega]; exact this
theorem cell_of_has {h : Nat → Option Obj} {Im : Nat → Prop} {k : TK} {v : Value} {x : D} (hk : isPlain k = true) (hh : has k 0 x) (H : RD h Im v x) : cellOk k v ∧ x = .v v := by
  cases k <;> simp only [isPlain, Bool.false_eq_true] at hk
  · obtain ⟨n, rfl⟩ := hh; have := H.bool; subst this; exact ⟨⟨n, rfl⟩, rfl⟩
  · obtain ⟨n, rfl⟩ := hh; have := H.bool; subst this; exact ⟨⟨n, rfl⟩, rfl⟩
  · obtain ⟨n, rfl⟩ := hh; have := H.bool; subst this; exact ⟨⟨n, rfl⟩, rfl⟩
theorem cellEq_sc {k : TK} {v u : Value} (hv : cellOk k v) (hu : cellOk k u) : cellEq v u = scEq k (.v v) (.v u) := by
  cases k <;> simp only [cellOk] at hv hu
  · obtain ⟨n, rfl⟩ := hv; obtain ⟨m, rfl⟩ := hu; rfl
  · obtain ⟨n, rfl⟩ := hv; obtain ⟨m, rfl⟩ := hu; rfl
  · obtain ⟨n, rfl⟩ := hv; obtain ⟨m, rfl⟩ := hu; rfl
def KnownC (h : Nat → Option Obj) (Im : Nat → Prop) (xs : Array Value) (a : List D) : Prop := xs.size = a.length ∧ ∀ (i : Nat) (v : Value) (x : D), xs[i]? = some v → a[i]? = some x → RD h Im v x
theorem KnownC.at {h : Nat → Option Obj} {Im : Nat → Prop} {xs : Array Value} {a : List D} (H : KnownC h Im xs a) {i : Nat} (hi : i < a.length) : RD h Im (xs.getD i undef) (a.getD i (.v undef)) := by
  have h1 : i < xs.size := by rw [H.1]; exact hi
  exact H.2 i _ _ (by simp [Array.getD, h1]) (by simp [List.getD, List.getElem?_eq_getElem hi])
theorem flatFs_plain {go : TypeId → Option (List TK)} (hgo : ∀ t l, go t = some l → l.all isPlain = true) : ∀ (fs : List Field) (off : Nat) (l : List TK), flatFs go off fs = some l → l.all isPlain = true
  | [], off, l, h => by simp only [flatFs] at h; injection h with h; subst h; rfl
  | f :: fs, off, l, h => by
    simp only [flatFs] at h
    split at h
    · rename_i l1 h1 h2 h3
      split at h
      · rename_i r hr
        injection h with h; subst h
        rw [List.all_append, hgo _ _ h3, flatFs_plain hgo fs _ _ hr]; rfl
      · simp at h
    · simp at h
theorem flat_plain {P : Program} : ∀ (d : Nat) (t : TypeId) (l : List TK), flatL P d t = some l → l.all isPlain = true := by
  intro d
  induction d with
  | zero => intro t l h; simp [flatL] at h
  | succ d ih =>
    intro t l h
    unfold flatL at h
    split at h
    · split at h
      · injection h with h; subst h; rfl
      · simp at h
    · split at h
      · injection h with h; subst h; rfl
      · simp at h
    · split at h
      · injection h with h; subst h; rfl
      · simp at h
    · split at h
      · rename_i l0 hst hfs
        split at h
        · injection h with h; subst h; exact flatFs_plain ih _ _ _ hfs
        · simp at h
      · simp at h
    · split at h
      · rename_i l0 ei hl0 hei
        split at h
        · rename_i n e _ _ _ _ _
          injection h with h; subst h
          have h0 := ih _ _ hl0
          rw [List.all_eq_true] at h0 ⊢
          intro x hx
          obtain ⟨y, hy, hxy⟩ := List.mem_flatten.1 hx
          rw [(List.mem_replicate.1 hy).2] at hxy
          exact h0 x hxy
        · simp at h
      · simp at h
    · simp at h
theorem known_fits {h : Nat → Option Obj} {Im : Nat → Prop} {xs : Array Value} {a : List D} {l : List TK} (hp : l.all isPlain = true) (H : KnownC h Im xs a) (hl : a.length = l.length) (hc : AllL (hasAll l a 0)) : FitsV l xs 0 := fun j k hj => by
  have hjl := (List.getElem?_eq_some_iff.1 hj).1
  have hk : isPlain k = true := List.all_eq_true.1 hp k (List.mem_of_getElem? hj)
  have := hasAll_at hc j k hj
  rw [Nat.zero_add] at this ⊢
  exact (cell_of_has hk this (H.at (by omega))).1
theorem known_eq {h : Nat → Option Obj} {Im : Nat → Prop} {xs ys : Array Value} {a b : List D} (HX : KnownC h Im xs a) (HY : KnownC h Im ys b) : ∀ (l : List TK) (i : Nat), l.all isPlain = true → i + l.length ≤ a.length → i + l.length ≤ b.length → AllL (hasAll l a i) → AllL (hasAll l b i) → eqV l xs ys i = eqAll l a b i
  | [], i, _, _, _, _, _ => rfl
  | k :: l, i, hp, ha, hb, ca, cb => by
    simp only [List.all_cons, Bool.and_eq_true] at hp
    simp only [List.length_cons] at ha hb
    obtain ⟨x1, x2⟩ := cell_of_has hp.1 ca.1 (HX.at (i := i) (by omega))
    obtain ⟨y1, y2⟩ := cell_of_has hp.1 cb.1 (HY.at (i := i) (by omega))
    simp only [eqV, eqAll]
    rw [known_eq HX HY l (i + 1) hp.2 (by omega) (by omega) ca.2 cb.2, cellEq_sc x1 y1, ← x2, ← y2]
theorem flOf_spec {P : Program} {t : TypeId} {i : TI} (hi : tiOf P t = some i) (h : i.fl ≠ []) : flatL P 12 t = some i.fl ∧ P.eqGuardType P.depth t = false := by
  obtain ⟨_, _, _, _, _, _, rfl⟩ := tiOf_spec hi
  simp only [flOf] at h ⊢
  split at h
  · rename_i l h1 h2 _; rw [h1, h2]; exact ⟨rfl, rfl⟩
  · simp at h
theorem flOf_bare {P : Program} {t : TypeId} {i : TI} (hi : tiOf P t = some i) (h : i.fl ≠ []) : bareZero P t = true := by
  obtain ⟨_, _, _, _, _, _, rfl⟩ := tiOf_spec hi
  simp only [flOf] at h
  split at h
  · rename_i h3; exact h3
  · simp at h
theorem run_equal_flat {P : Program} (w : World) {t : TypeId} {i : TI} (hi : tiOf P t = some i) (hne : i.fl ≠ []) (ha : i.k.agg = true) (hsz : i.size = i.fl.length) {Im : Nat → Prop} {xs ys : Array Value} {a b : List D} (HX : KnownC (hp w) Im xs a) (HY : KnownC (hp w) Im ys b)
    (hla : a.length = i.fl.length) (hlb : b.length = i.fl.length) (ca : AllL (hasAll i.fl a 0)) (cb : AllL (hasAll i.fl b 0)) :
    (Op.equalIn 10000 t (.agg xs) (.agg ys)).run P w = .ok (eqAll i.fl a b 0) w ∧ ∀ E, (Instr.checkKey E 10000 t (.agg xs)).run P w = .ok () w := by
  obtain ⟨h1, _⟩ := flOf_spec hi hne
  have hpl := flat_plain _ _ _ h1
  have hx : xs.size = i.fl.length := by rw [HX.1, hla]
  have hy : ys.size = i.fl.length := by rw [HY.1, hlb]
  obtain ⟨u, v, e1, e2, e3, e4⟩ := flat_ok w 12 t i.fl h1 xs ys 0 9988 (by omega) (by omega) (known_fits hpl HX hla ca) (known_fits hpl HY hlb cb)
  have px := run_part (w := w) hi (fun h => by rw [ha] at h; simp at h) (cs := xs) (off := 0) (by omega)
  have py := run_part (w := w) hi (fun h => by rw [ha] at h; simp at h) (cs := ys) (off := 0) (by omega)
  rw [ha, if_pos rfl] at px py
  rw [px] at e1; injection e1 with e1
  rw [py] at e2; injection e2 with e2
  have ex : xs.extract 0 (0 + i.size) = xs := by rw [Nat.zero_add, hsz, ← hx]; simp
  have ey : ys.extract 0 (0 + i.size) = ys := by rw [Nat.zero_add, hsz, ← hy]; simp
  rw [ex] at e1; rw [ey] at e2
  subst e1; subst e2
  exact ⟨by rw [e3, known_eq HX HY _ 0 hpl (by omega) (by omega) ca cb], e4⟩
section ops
variable {E : Env} {k : Kn} {ty : TypeId} {s : St} {tab : List (Nat × TI)} {e : Eff}
theorem ok_aggeq {op : BinOp} {xt yt : TypeId} {x y : Operand} {a b : List D} {i : TI} {r : Bool} (hi : opIn k.nt (.binOp op xt x y yt) = true) (ht : tiOf E.P xt = some i) (hne : i.fl ≠ []) (hag : i.k.agg = true) (hsz : i.size = i.fl.length)
    (hx : evO s x = .dagg a) (hy : evO s y = .dagg b) (h : (op = .eql ∧ r = eqAll i.fl a b 0) ∨ (op = .neq ∧ r = !eqAll i.fl a b 0)) : OpOk E k (.binOp op xt x y yt) ty s { val := .d (.v (.bool r)), cond := [a.length = i.fl.length, b.length = i.fl.length] ++ (hasAll i.fl a 0 ++ hasAll i.fl b 0) } := by
  refine .pure _ none fun hc c Im ρ F H ac w o _ hn S ho _ hF _ => ?_
  obtain ⟨hc1, hc2⟩ := AllL_append hc
  obtain ⟨ca, cb⟩ := AllL_append hc2
  obtain ⟨hla, hlb, _⟩ := hc1
  have h1 := opIn_ev (x := x) S hn hi hF (by simp [Op.operands])
  have h2 := opIn_ev (x := y) S hn hi hF (by simp [Op.operands])
  rw [hx] at h1
  rw [hy] at h2
  generalize hv : ac.eval x = v at h1
  generalize hu : ac.eval y = u at h2
  cases h1 with
  | dagg xs _ l1 r1 =>
    cases h2 with
    | dagg ys _ l2 r2 =>
      obtain ⟨q1, _⟩ := run_equal_flat w ht hne hag hsz ⟨l1, r1⟩ ⟨l2, r2⟩ hla hlb ca cb
      obtain ⟨_, hg⟩ := flOf_spec ht hne
      refine ⟨.bool r, ?_, RA.intv _ rfl⟩
      rcases h with ⟨rfl, rfl⟩ | ⟨rfl, rfl⟩
      · simp [execOp, ho, hv, hu, run_eqGuard_agg w .eql xt x y xs ys hg, run_eql_struct, q1]
      · simp [execOp, ho, hv, hu, run_eqGuard_agg w .neq xt x y xs ys hg, run_neq_struct, q1]
theorem equalIn_nil_nil {P : Program} {w : World} (d : Nat) {t : TypeId} {ms : Array (String × TypeId)} (hu : P.underlying t = some (.interface ms)) : (Op.equalIn (d + 1) t .nilIface .nilIface).run P w = .ok true w := by
  simp [Op.equalIn, run_underlying hu]
theorem equalIn_ifc_nil {P : Program} {w : World} (d : Nat) {t u : TypeId} {v : Value} {ms : Array (String × TypeId)} (hu : P.underlying t = some (.interface ms)) : (Op.equalIn (d + 1) t (.iface u v) .nilIface).run P w = .ok false w := by
  simp [Op.equalIn, run_underlying hu]
def ifNil : AV → Option Bool
  | .d (.v .nilIface) => some true
  | .ifc _ _ => some false
  | _ => none
theorem ok_ifnil {op : BinOp} {xt yt : TypeId} {x : Operand} {i : TI} {b r : Bool} (hi : opIn k.nt (.binOp op xt x (.const .nilIface) yt) = true) (ht : tiOf E.P xt = some i) (hk : i.k = .iface) (hx : ifNil (evO s x) = some b)
    (h : (op = .eql ∧ r = b) ∨ (op = .neq ∧ r = !b)) : OpOk E k (.binOp op xt x (.const .nilIface) yt) ty s { val := .d (.v (.bool r)) } := by
  refine .pure [] none fun hc c Im ρ F H ac w o _ hn S ho _ hF _ => ?_
  have h1 := opIn_ev (x := x) S hn hi hF (by simp [Op.operands])
  obtain ⟨inf, d, z, g1, g2, g3, rfl⟩ := tiOf_spec ht
  cases d <;> simp only [kindOf] at hk <;> cases hk
  rename_i ms
  refine ⟨.bool r, ?_, RA.intv _ rfl⟩
  generalize hv : ac.eval x = v at h1
  have hc2 : ac.eval (.const .nilIface) = .nilIface := rfl
  unfold ifNil at hx
  split at hx
  · rename_i he
    rw [he] at h1
    injection hx with hx; subst hx
    have := h1.v; subst this
    have q : (Op.equal xt .nilIface .nilIface).run E.P w = .ok true w := equalIn_nil_nil 9999 g2
    rcases h with ⟨rfl, rfl⟩ | ⟨rfl, rfl⟩
    · simp [execOp, ho, hv, hc2, eqGuard, binOp, q]
    · simp [execOp, ho, hv, hc2, eqGuard, binOp, q]
  · rename_i t' y' he
    rw [he] at h1
    injection hx with hx; subst hx
    cases h1 with
    | ifc _ u _ _ =>
      have q : (Op.equal xt (.iface t' u) .nilIface).run E.P w = .ok false w := equalIn_ifc_nil 9999 g2
      rcases h with ⟨rfl, rfl⟩ | ⟨rfl, rfl⟩
      · simp [execOp, ho, hv, hc2, eqGuard, binOp, q]
      · simp [execOp, ho, hv, hc2, eqGuard, binOp, q]
  · simp at hx
def bytesOf (els : List (List D)) : ByteArray := (els.map fun q => (q.getD 0 (.v undef)).int).foldl (fun r n => r.push (UInt8.ofNat n.toNat)) ByteArray.empty
theorem ok_convert_bytes {src dst e0 : TypeId} {x : Operand} {si di ei : TI} {tight : Bool} {els : List (List D)} (hi : opIn k.nt (.convert src dst x) = true) (hs : tiOf E.P src = some si) (hsk : si.k = .slice e0) (he : tiOf E.P e0 = some ei) (hek : ei.k = .int .u8)
    (hd : tiOf E.P dst = some di) (hdk : di.k = .str) (hx : evO s x = .d (.sl tight 1 els)) : OpOk E k (.convert src dst x) ty s { val := .d (.v (.string (bytesOf els))), cond := [∀ q ∈ els, ∃ n, q = [.v (.int .u8 n)]] } := by
  refine .pure _ none fun hc c Im ρ F H ac w o _ hn S ho _ hF _ => ?_
  have h1 := opIn_ev (x := x) S hn hi hF (by simp [Op.operands])
  rw [hx] at h1
  obtain ⟨_, d, _, _, g2, _, rfl⟩ := tiOf_spec hs
  cases d <;> simp only [kindOf] at hsk <;> cases hsk
  obtain ⟨_, d, _, _, g3, _, rfl⟩ := tiOf_spec he
  cases d <;> simp only [kindOf] at hek <;> cases hek
  obtain ⟨_, d, _, _, g4, _, rfl⟩ := tiOf_spec hd
  cases d <;> simp only [kindOf] at hdk <;> cases hdk
  refine ⟨_, ?_, RA.intv _ rfl⟩
  generalize hv : ac.eval x = v at h1
  have hrd := h1.d_inv
  have key : (convert src dst v).run E.P w = .ok (.string (bytesOf els)) w := by
    cases hrd with
    | nil _ _ a cap _ =>
      rw [run_convert_bytes_string w src dst e0 a 0 cap g2 g3 g4]
      cases a with
      | none => simp [Conv.bytesToString, bytesOf]
      | some a => simp [Conv.bytesToString, bytesOf, loadCells, loadCellsFrom]
    | sl _ _ _ b o1 cap f hss hb hle _ hcc hr =>
      rw [run_convert_bytes_string w src dst e0 (some ⟨b, o1, none⟩) els.length cap g2 g3 g4]
      have hall : ∀ (j : Nat) (hj : j < els.length), ∃ n, els[j] = [.v (.int .u8 n)] := fun j hj => hc.1 _ (List.getElem_mem hj)
      rw [run_bytesToString w ⟨b, o1, none⟩ els.length cap (els.map fun q => (q.getD 0 (.v undef)).int)]
      · rfl
      · refine (run_loadCells_list w ⟨b, o1, none⟩ ((els.map fun q => (q.getD 0 (.v undef)).int).map (Value.int .u8)) (fun j v hj => ?_)) |>.trans ?_ |> fun h => by simpa using h
        · simp only [List.getElem?_map, Option.map_eq_some_iff] at hj
          obtain ⟨m, ⟨q, hq, rfl⟩, rfl⟩ := hj
          have hjl := (List.getElem?_eq_some_iff.1 hq).1
          obtain ⟨n, hn2⟩ := hall j hjl
          have hq2 : q = [.v (.int .u8 n)] := by rw [← hn2]; exact ((List.getElem?_eq_some_iff.1 hq).2).symm
          subst hq2
          have hcell := hcc j 0 _ _ hq rfl
          have hrd := hr j 0 _ _ hq rfl
          obtain ⟨ms, t, fz, e1, e2⟩ := hcell
          rw [add_zero_spot]
          have := cell_hp e1 e2
          rw [hrd.bool] at this
          simpa [D.int] using this
        · simp
  simp [execOp, ho, hv, key]
def isMinMax : Builtin → Option Bool
  | .min => some true
  | .max => some false
  | _ => none
def mmCall (b : Builtin) (x y : Operand) (t t' : TypeId) : Op := .call { callee := .builtin b, args := #[x, y], argTypes := #[t, t'] }
theorem ok_minmax {b : Builtin} {x y : Operand} {t t' : TypeId} {i j : IntKind} {m n r : Int} (hi : opIn k.nt (mmCall b x y t t') = true) (hx : evO s x = .d (.v (.int i m))) (hy : evO s y = .d (.v (.int j n)))
    (h : (b = .min ∧ r = if n < m then n else m) ∨ (b = .max ∧ r = if n > m then n else m)) : OpOk E k (mmCall b x y t t') ty s { val := .d (.v (.int i r)) } := by
  refine .pure _ none fun hc c Im ρ F H ac w o _ hn S ho _ hF _ => ?_
  have h1 := opIn_ev (x := x) S hn hi hF (by simp [mmCall, Op.operands, Call.operands])
  have h2 := opIn_ev (x := y) S hn hi hF (by simp [mmCall, Op.operands, Call.operands])
  rw [hx] at h1; rw [hy] at h2
  refine ⟨_, ?_, RA.intv _ rfl⟩
  rcases h with ⟨rfl, rfl⟩ | ⟨rfl, rfl⟩
  · simp [execOp, ho, mmCall, resolve, invoke, builtin, h1.v, h2.v, run_min_int2]
  · simp [execOp, ho, mmCall, resolve, invoke, builtin, h1.v, h2.v, run_max_int2]
theorem ok_range {t : TypeId} {x : Operand} {i : TI} {d : Nat} {m : ByteArray} (hi : opIn k.nt (.range t x) = true) (ht : tiOf E.P t = some i) (hk : i.k = .str) (hx : evO s x = .d (.v (.string m))) : OpOk E k (.range t x) ty s { val := .ptr d 0, wh := some (d, some (.siter m 0)), new := some d } := by
  intro c Im ρ F H a w o ok hn ha S ho hty hF hH hnew hc
  have h1 := opIn_ev (x := x) S hn hi hF (by simp [Op.operands])
  rw [hx] at h1
  obtain ⟨inf, ds, z, g1, g2, g3, rfl⟩ := tiOf_spec ht
  cases ds <;> simp only [kindOf] at hk <;> cases hk
  have hb : ∀ b ∈ ({ blk := some w.heap.size } : Loc).fp, w.heap.size ≤ b ∧ b < (w.iter m 0).heap.size := fun b hb => by
    simp [Loc.fp] at hb; subst hb; simp [World.iter]
  refine ⟨.pointer (some ⟨w.heap.size, 0, none⟩), w.iter m 0, .inl ?_, Im, _, S.new (r := d) (l := { blk := some w.heap.size }) (o := .siter m 0) (Grows.alloc w _) (hnew d rfl) hb ⟨rfl, rfl, w.heap.size, rfl, World.iter_heap w m 0⟩, .ptr _ d 0 rfl fun l hl => ?_⟩
  · simp [execOp, ho, h1.v, run_range_string w t m g2]
  · rw [upd_same] at hl; injection hl with hl; subst hl
    exact ⟨rfl, _, rfl, rfl⟩
def runeAt (m : ByteArray) (pos : Nat) : Nat := (Utf8.decode m pos).1
def runeW (m : ByteArray) (pos : Nat) : Nat := (Utf8.decode m pos).2
theorem ok_next_some {x : Operand} {r pos : Nat} {m : ByteArray} (hi : opIn k.nt (.next x true) = true) (hx : evO s x = .ptr r 0) : OpOk E k (.next x true) ty s
    { val := .tup [.d (.v (.bool true)), .d (.v (.int .i64 pos)), .d (.v (.int .i32 (runeAt m pos)))], rh := some (r, .siter m pos), wh := some (r, some (.siter m (pos + runeW m pos))), cond := [pos < m.size] } := by
  intro c Im ρ F H a w o ok hn ha S ho hty hF hH hnew hc
  have h1 := opIn_ev (x := x) S hn hi hF (by simp [Op.operands])
  rw [hx] at h1
  have hr := hH r _ rfl
  obtain ⟨l, hl, hro, hown⟩ := S.obj r _ hr
  obtain ⟨hb1, hb2, b, hb3, hb4⟩ := hro
  generalize hv : a.eval x = v at h1
  cases h1 with
  | ptr _ _ _ _ hp2 =>
    obtain ⟨_, b', e1, e2⟩ := hp2 l hl
    rw [hb3] at e1; injection e1 with e1; subst e1
    subst e2
    have hlt : b < w.heap.size := (hown b (by simp [Loc.fp, hb3])).1
    refine ⟨.tuple #[.bool true, .int .i64 pos, .int .i32 (runeAt m pos)], { w with heap := w.heap.setIfInBounds b (.stringIter m (pos + runeW m pos)) }, .inl ?_, Im, _, S.chg (r := r) (l := l) (l' := l) (o' := .siter m (pos + runeW m pos)) hr hl ?_ (.inl rfl) (fun b hb => .inl hb) ?_, ?_⟩
    · have hb5 : w.heap[b]? = some (.stringIter m pos) := hb4
      have hb6 := Array.getElem?_eq_some_iff.1 hb5
      simp only [execOp, ho, hv, Instr.next, getObj, setObj, Sem.run_bind, Sem.run, hb5, Result.andThen, hc.1, if_true]
      simp [goInt, runeAt, runeW]
    · refine ⟨by simp, rfl, rfl, rfl, fun b2 hb2 hn2 => ?_⟩
      have : b ≠ b2 := fun e => hn2 (by subst e; simp [Loc.fp, hb3])
      simp [Array.getElem?_setIfInBounds_ne this]
    · exact ⟨hb1, hb2, b, hb3, by simp [hp, hlt]⟩
    · refine .tup _ _ rfl fun i v y e1 e2 => ?_
      match i with
      | 0 => simp at e1 e2; subst e1; subst e2; exact RA.intv _ rfl
      | 1 => simp at e1 e2; subst e1; subst e2; exact RA.intv _ rfl
      | 2 => simp at e1 e2; subst e1; subst e2; exact RA.intv _ rfl
      | n + 3 => simp at e1
theorem ok_next_none {x : Operand} {r pos : Nat} {m : ByteArray} (hi : opIn k.nt (.next x true) = true) (hx : evO s x = .ptr r 0) : OpOk E k (.next x true) ty s
    { val := .tup [.d (.v (.bool false))], rh := some (r, .siter m pos), cond := [¬ pos < m.size] } :=
  .pure _ _ fun hc c Im ρ F H a w o ok hn S ho hty hF hH => by
  have h1 := opIn_ev (x := x) S hn hi hF (by simp [Op.operands])
  rw [hx] at h1
  have hr := hH r _ rfl
  obtain ⟨l, hl, hro, hown⟩ := S.obj r _ hr
  obtain ⟨hb1, hb2, b, hb3, hb4⟩ := hro
  generalize hv : a.eval x = v at h1
  cases h1 with
  | ptr _ _ _ _ hp2 =>
    obtain ⟨_, b', e1, e2⟩ := hp2 l hl
    rw [hb3] at e1; injection e1 with e1; subst e1
    subst e2
    have hb5 : w.heap[b]? = some (.stringIter m pos) := hb4
    refine ⟨.tuple #[.bool false], ?_, ?_⟩
    · simp [execOp, ho, hv, Instr.next, getObj, Sem.run, hb5, hc.1]
    · refine .tup _ _ rfl fun i v y e1 e2 => ?_
      match i with
      | 0 => simp at e1 e2; subst e1; subst e2; exact RA.intv _ rfl
      | n + 1 => simp at e1
end ops
end Go.Ax

namespace Go.Ax
def mfind (l : List TK) (key : List D) : List (List D × D) → Nat → Option Nat
  | [], _ => none
  | e :: r, i => match eqAll l key e.1 0 with
    | true => some i
    | false => mfind l key r (i + 1)
def mput (l : List TK) (key : List D) (v : D) (es : List (List D × D)) : List (List D × D) := match mfind l key es 0 with
  | some i => es.set i (key, v)
  | none => es ++ [(key, v)]
def mget (l : List TK) (key : List D) (z : D) (es : List (List D × D)) : D := match mfind l key es 0 with
  | some i => (es.getD i (key, z)).2
  | none => z
def mhas (l : List TK) (key : List D) (es : List (List D × D)) : Bool := (mfind l key es 0).isSome
def KeysOk (l : List TK) (es : List (List D × D)) : Prop := ∀ e ∈ es, e.1.length = l.length ∧ AllL (hasAll l e.1 0)
def KeyOk (l : List TK) (kc : List D) : Prop := kc.length = l.length ∧ AllL (hasAll l kc 0)
theorem mfind_lt {l : List TK} {key : List D} : ∀ {es : List (List D × D)} {i j : Nat}, mfind l key es i = some j → i ≤ j ∧ j < i + es.length
  | [], i, j, h => by simp [mfind] at h
  | e :: r, i, j, h => by
    simp only [mfind] at h
    split at h
    · injection h with h; subst h; simp
    · have := mfind_lt h; simp; omega
theorem mfind_eq {l : List TK} {key : List D} : ∀ {es : List (List D × D)} {i j : Nat}, mfind l key es i = some j → ∀ e, es[j - i]? = some e → eqAll l key e.1 0 = true
  | [], i, j, h, e, _ => by simp [mfind] at h
  | e0 :: r, i, j, h, e, he => by
    simp only [mfind] at h
    split at h
    · rename_i hq
      injection h with h; subst h
      simp at he; subst he; exact hq
    · have h1 := mfind_lt h
      refine mfind_eq h e ?_
      rw [show j - i = (j - (i + 1)) + 1 by omega] at he
      simpa using he
def EntR (h : Nat → Option Obj) (Im : Nat → Prop) (ag : Bool) (e : MapEntry) (x : List D × D) : Prop := RD h Im e.val x.2 ∧ KeyR h Im ag e.key x.1
theorem cellEq_eq {k : TK} {v u : Value} (hv : cellOk k v) (hu : cellOk k u) (h : cellEq v u = true) : v = u := by
  cases k <;> simp only [cellOk] at hv hu
  · obtain ⟨n, rfl⟩ := hv; obtain ⟨m, rfl⟩ := hu; simp [cellEq] at h; rw [h]
  · obtain ⟨n, rfl⟩ := hv; obtain ⟨m, rfl⟩ := hu; simp [cellEq] at h; rw [h]
  · obtain ⟨n, rfl⟩ := hv; obtain ⟨m, rfl⟩ := hu
    have h : (n.data.toList == m.data.toList) = true := h
    have h : n.data.toList = m.data.toList := eq_of_beq h
    have : n = m := by
      obtain ⟨⟨x⟩⟩ := n; obtain ⟨⟨y⟩⟩ := m
      have h : x = y := h
      rw [h]
    rw [this]
theorem sameBits_cell {k : TK} {v : Value} (n : Nat) (hv : cellOk k v) : Instr.sameBits n v v = true := by
  cases k <;> simp only [cellOk] at hv
  · obtain ⟨m, rfl⟩ := hv; simp [Instr.sameBits]
  · obtain ⟨m, rfl⟩ := hv; simp [Instr.sameBits]
  · obtain ⟨m, rfl⟩ := hv; simp [Instr.sameBits, beq_toListBytes]
section
variable {P : Program} (w : World)
theorem flat_scalar {t : TypeId} {i : TI} (hi : tiOf P t = some i) (hne : i.fl ≠ []) (ha : i.k.agg = false) : ∃ k, i.fl = [k] ∧ isPlain k = true ∧ ((∃ q, k = .int q ∧ P.underlying t = some (.int q)) ∨ (k = .bool ∧ P.underlying t = some .bool) ∨ (k = .str ∧ P.underlying t = some .string)) := by
  obtain ⟨h1, _⟩ := flOf_spec hi hne
  obtain ⟨_, d, _, _, g2, _, hii⟩ := tiOf_spec hi
  generalize hfl : i.fl = l at h1
  unfold flatL at h1
  split at h1
  · rename_i i0 k h0 hu
    split at h1
    · injection h1 with h1; exact ⟨_, h1.symm, rfl, .inl ⟨k, rfl, hu⟩⟩
    · simp at h1
  · rename_i i0 h0 hu
    split at h1
    · injection h1 with h1; exact ⟨_, h1.symm, rfl, .inr (.inl ⟨rfl, hu⟩)⟩
    · simp at h1
  · rename_i i0 h0 hu
    split at h1
    · injection h1 with h1; exact ⟨_, h1.symm, rfl, .inr (.inr ⟨rfl, hu⟩)⟩
    · simp at h1
  · rename_i i0 fs h0 hu
    rw [hu] at g2; injection g2 with g2; subst g2; rw [hii] at ha; simp [kindOf, TK.agg] at ha
  · rename_i i0 n e h0 hu
    rw [hu] at g2; injection g2 with g2; subst g2; rw [hii] at ha; simp [kindOf, TK.agg] at ha
  · simp at h1
theorem flat_wide {t : TypeId} {i : TI} (hi : tiOf P t = some i) (ha : i.k.agg = true) : ∃ d, P.underlying t = some d ∧ ∀ u v, Instr.sameNow d u v = none := by
  obtain ⟨_, d, _, _, g2, _, hii⟩ := tiOf_spec hi
  refine ⟨d, g2, fun u v => ?_⟩
  rw [hii] at ha
  cases d <;> simp [kindOf, TK.agg] at ha <;> simp [Instr.sameNow]
theorem run_findAsking {t : TypeId} {i : TI} (hi : tiOf P t = some i) (hne : i.fl ≠ []) (ha : i.k.agg = true) (hsz : i.size = i.fl.length) {Im : Nat → Prop} {v : Value} {kc : List D} (hv : KeyR (hp w) Im true v kc) (hk : KeyOk i.fl kc) :
    ∀ (ms : List MapEntry) (es : List (List D × D)) (j : Nat), ms.length = es.length → (∀ (q : Nat) (e : MapEntry) (x : List D × D), ms[q]? = some e → es[q]? = some x → EntR (hp w) Im true e x) → KeysOk i.fl es →
      (Instr.findAsking t v ms j).run P w = .ok ((mfind i.fl kc es j).bind fun q => (ms[q - j]?).map fun e => (q, e.val)) w
  | [], [], j, _, _, _ => by simp [Instr.findAsking, mfind]
  | [], _ :: _, j, h, _, _ => by simp at h
  | _ :: _, [], j, h, _, _ => by simp at h
  | e :: ms, x :: es, j, h, hr, hko => by
    have h0 := hr 0 e x rfl rfl
    obtain ⟨cs, rfl, hc1, hc2⟩ := hv
    obtain ⟨es2, he2, hd1, hd2⟩ := h0.2
    have hx := hko x (by simp)
    obtain ⟨q1, _⟩ := run_equal_flat w hi hne ha hsz ⟨hc1, hc2⟩ ⟨hd1, hd2⟩ hk.1 hx.1 hk.2 hx.2
    have q2 : (Op.equal t (.agg cs) e.key).run P w = .ok (eqAll i.fl kc x.1 0) w := by rw [he2]; exact q1
    simp only [Instr.findAsking, Sem.run_bind, q2, Result.andThen_ok, mfind]
    cases hq : eqAll i.fl kc x.1 0 with
    | true => simp
    | false =>
      simp only [Bool.false_eq_true, if_false]
      rw [run_findAsking hi hne ha hsz ⟨cs, rfl, hc1, hc2⟩ hk ms es (j + 1) (by simpa using h) (fun q e' x' h1 h2 => hr (q + 1) e' x' (by simpa using h1) (by simpa using h2)) (fun y hy => hko y (by simp [hy]))]
      congr 1
      cases hm : mfind i.fl kc es (j + 1) with
      | none => rfl
      | some q =>
        have := (mfind_lt hm).1
        simp only [Option.bind_some]
        rw [show q - j = (q - (j + 1)) + 1 by omega]; simp
theorem findNow_scalar {t : TypeId} {d : TypeDesc} {k : TK} (hkp : isPlain k = true) (hu : P.underlying t = some d) (hk3 : (∃ q, k = .int q ∧ P.underlying t = some (.int q)) ∨ (k = .bool ∧ P.underlying t = some .bool) ∨ (k = .str ∧ P.underlying t = some .string))
    {Im : Nat → Prop} {v : Value} {kc : List D} (hv : KeyR (hp w) Im false v kc) (hk : KeyOk [k] kc) :
    ∀ (ms : List MapEntry) (es : List (List D × D)) (j : Nat), ms.length = es.length → (∀ (q : Nat) (e : MapEntry) (x : List D × D), ms[q]? = some e → es[q]? = some x → EntR (hp w) Im false e x) → KeysOk [k] es →
      Instr.findNow d v ms j = some ((mfind [k] kc es j).bind fun q => (ms[q - j]?).map fun e => (q, e.val))
  | [], [], j, _, _, _ => by simp [Instr.findNow, mfind]
  | [], _ :: _, j, h, _, _ => by simp at h
  | _ :: _, [], j, h, _, _ => by simp at h
  | e :: ms, x :: es, j, h, hr, hko => by
    have h0 := hr 0 e x rfl rfl
    obtain ⟨y, rfl, hy⟩ := hv
    obtain ⟨z, hz, hz2⟩ := h0.2
    have hx := hko x (by simp)
    rw [hz] at hx
    obtain ⟨c1, c2⟩ := cell_of_has hkp hk.2.1 hy
    obtain ⟨c3, c4⟩ := cell_of_has hkp hx.2.1 hz2
    have q2 : Instr.sameNow d v e.key = some (eqAll [k] [y] x.1 0) := by
      rw [hz]
      simp only [eqAll, List.getD_cons_zero, Bool.and_true]
      rw [show y = .v v from c2, show z = .v e.key from c4]
      rcases hk3 with ⟨q, rfl, hu2⟩ | ⟨rfl, hu2⟩ | ⟨rfl, hu2⟩
      · rw [hu] at hu2; injection hu2 with hu2; subst hu2
        obtain ⟨m, hm⟩ := c1; obtain ⟨n, hn⟩ := c3
        rw [hm, hn]; simp [Instr.sameNow, scEq, D.int]
      · rw [hu] at hu2; injection hu2 with hu2; subst hu2
        obtain ⟨m, hm⟩ := c1; obtain ⟨n, hn⟩ := c3
        rw [hm, hn]; simp [Instr.sameNow, scEq, D.bool]
      · rw [hu] at hu2; injection hu2 with hu2; subst hu2
        obtain ⟨m, hm⟩ := c1; obtain ⟨n, hn⟩ := c3
        rw [hm, hn]; simp [Instr.sameNow, scEq, D.str, beq_toListBytes, ByteArray.toList_eq]
    simp only [Instr.findNow, q2, mfind]
    cases hq : eqAll [k] [y] x.1 0 with
    | true => simp
    | false =>
      rw [findNow_scalar hkp hu hk3 ⟨y, rfl, hy⟩ hk ms es (j + 1) (by simpa using h) (fun q e' x' h1 h2 => hr (q + 1) e' x' (by simpa using h1) (by simpa using h2)) (fun y hy => hko y (by simp [hy]))]
      congr 1
      cases hm : mfind [k] [y] es (j + 1) with
      | none => rfl
      | some q =>
        have := (mfind_lt hm).1
        simp only [Option.bind_some]
        rw [show q - j = (q - (j + 1)) + 1 by omega]; simp
theorem run_findKey {t : TypeId} {i : TI} (hi : tiOf P t = some i) (hne : i.fl ≠ []) (hsz : i.size = i.fl.length) {Im : Nat → Prop} {v : Value} {kc : List D} (hv : KeyR (hp w) Im i.k.agg v kc) (hk : KeyOk i.fl kc)
    {ms : Array MapEntry} {es : List (List D × D)} (hl : ms.size = es.length) (hr : ∀ (q : Nat) (e : MapEntry) (x : List D × D), ms[q]? = some e → es[q]? = some x → EntR (hp w) Im i.k.agg e x) (hko : KeysOk i.fl es) :
    (Instr.findKey t v ms.toList).run P w = .ok ((mfind i.fl kc es 0).bind fun q => (ms[q]?).map fun e => (q, e.val)) w ∧ ∀ E, (Instr.checkKey E 10000 t v).run P w = .ok () w := by
  cases ha : i.k.agg with
  | true =>
    rw [ha] at hv hr
    obtain ⟨d, hu, hnow⟩ := flat_wide hi ha
    have hask := run_findAsking w hi hne ha hsz hv hk ms.toList es 0 (by simpa using hl) (fun q e x h1 h2 => hr q e x (by simpa using h1) h2) hko
    simp only [Nat.sub_zero, Array.getElem?_toList] at hask
    obtain ⟨cs, rfl, hc1, hc2⟩ := hv
    refine ⟨?_, (run_equal_flat w hi hne ha hsz ⟨hc1, hc2⟩ ⟨hc1, hc2⟩ hk.1 hk.1 hk.2 hk.2).2⟩
    simp only [Instr.findKey, Sem.run_bind, run_underlying hu, Result.andThen_ok]
    cases hm : ms.toList with
    | nil =>
      rw [hm] at hask
      simp only [Instr.findNow]
      simpa [Instr.findAsking] using hask
    | cons e ml =>
      rw [hm] at hask
      simp only [Instr.findNow, hnow]
      exact hask
  | false =>
    rw [ha] at hv hr
    obtain ⟨k, hk1, hkp, hk3⟩ := flat_scalar hi hne ha
    rw [hk1] at hk hko ⊢
    obtain ⟨_, d, _, _, hu, _, _⟩ := tiOf_spec hi
    have hnow := findNow_scalar w hkp hu hk3 hv hk ms.toList es 0 (by simpa using hl) (fun q e x h1 h2 => hr q e x (by simpa using h1) h2) hko
    simp only [Nat.sub_zero, Array.getElem?_toList] at hnow
    refine ⟨?_, fun E => ?_⟩
    · simp only [Instr.findKey, Sem.run_bind, run_underlying hu, Result.andThen_ok, hnow]
      simp
    · have gen : ∀ n, (Instr.checkKey E (n + 1) t v).run P w = .ok () w := fun n => by
        rcases hk3 with ⟨q, rfl, hu⟩ | ⟨rfl, hu⟩ | ⟨rfl, hu⟩ <;> simp [Instr.checkKey, run_underlying hu]
      exact gen 9999
theorem key_same {t : TypeId} {i : TI} (hi : tiOf P t = some i) (hne : i.fl ≠ []) {Im : Nat → Prop} {v u : Value} {kc kd : List D} (hv : KeyR (hp w) Im i.k.agg v kc) (hk : KeyOk i.fl kc) (hu : KeyR (hp w) Im i.k.agg u kd) (hd : KeyOk i.fl kd) (h : eqAll i.fl kc kd 0 = true) : Instr.sameBits 10000 u v = true := by
  have hpl := flat_plain _ _ _ (flOf_spec hi hne).1
  cases ha : i.k.agg with
  | false =>
    rw [ha] at hv hu
    obtain ⟨k, hk1, hkp, _⟩ := flat_scalar hi hne ha
    rw [hk1] at hk hd h
    obtain ⟨y, rfl, hy⟩ := hv
    obtain ⟨z, rfl, hz⟩ := hu
    obtain ⟨c1, c2⟩ := cell_of_has hkp hk.2.1 hy
    obtain ⟨c3, c4⟩ := cell_of_has hkp hd.2.1 hz
    simp only [eqAll, List.getD_cons_zero, Bool.and_true] at h
    have hy2 : y = .v v := c2
    have hz2 : z = .v u := c4
    rw [hy2, hz2, ← cellEq_sc c1 c3] at h
    have := cellEq_eq c1 c3 h
    subst this
    exact sameBits_cell _ c1
  | true =>
    rw [ha] at hv hu
    obtain ⟨cs, rfl, hc1, hc2⟩ := hv
    obtain ⟨ds, rfl, hd1, hd2⟩ := hu
    have kn : KnownC (hp w) Im cs kc := ⟨hc1, hc2⟩
    have kd' : KnownC (hp w) Im ds kd := ⟨hd1, hd2⟩
    rw [← known_eq kn kd' i.fl 0 hpl (by have := hk.1; omega) (by have := hd.1; omega) hk.2 hd.2] at h
    have f1 := known_fits hpl kn hk.1 hk.2
    have f2 := known_fits hpl kd' hd.1 hd.2
    have key : ∀ (l : List TK) (o : Nat), eqV l cs ds o = true → FitsV l cs o → FitsV l ds o → ∀ j, j < l.length → cs.getD (o + j) undef = ds.getD (o + j) undef := by
      intro l
      induction l with
      | nil => intro o _ _ _ j hj; simp at hj
      | cons k l ih =>
        intro o he g1 g2 j hj
        simp only [eqV, Bool.and_eq_true] at he
        cases j with
        | zero =>
          have a1 := g1 0 k rfl
          have a2 := g2 0 k rfl
          simp only [Nat.add_zero] at a1 a2 ⊢
          exact cellEq_eq a1 a2 he.1
        | succ j =>
          have := ih (o + 1) he.2 (fun q k' hq => by have := g1 (q + 1) k' (by simpa using hq); rwa [show o + (q + 1) = o + 1 + q by omega] at this) (fun q k' hq => by have := g2 (q + 1) k' (by simpa using hq); rwa [show o + (q + 1) = o + 1 + q by omega] at this) j (by simpa using hj)
          rwa [show o + (j + 1) = o + 1 + j by omega]
    have hall := key i.fl 0 h f1 f2
    have hsz : cs.size = ds.size := by rw [hc1, hd1, hk.1, hd.1]
    have heq : cs = ds := by
      apply Array.ext hsz
      intro j h1 h2
      have := hall j (by rw [← hk.1, ← hc1]; exact h1)
      simpa [Array.getD, h1, h2] using this
    subst heq
    simp only [Instr.sameBits, beq_self_eq_true, Bool.true_and]
    rw [List.all_eq_true]
    rintro ⟨x, y⟩ hxy
    have hxy2 : x = y ∧ x ∈ cs.toList := by
      obtain ⟨j, hj⟩ := List.getElem?_of_mem hxy
      rw [List.getElem?_zip_eq_some] at hj
      have := hj.1.symm.trans hj.2
      exact ⟨Option.some.inj this, List.mem_of_getElem? hj.1⟩
    obtain ⟨rfl, hx⟩ := hxy2
    obtain ⟨j, hj⟩ := List.getElem?_of_mem hx
    have hjl : j < cs.size := by simpa using (List.getElem?_eq_some_iff.1 hj).1
    have hjf : j < i.fl.length := by rw [← hk.1, ← hc1]; exact hjl
    have := f1 j i.fl[j] (List.getElem?_eq_getElem hjf)
    rw [Nat.zero_add] at this
    have hx2 : cs.getD j undef = x := by
      have : cs[j]? = some x := by simpa using hj
      simp [Array.getD, hjl]
      exact (Array.getElem?_eq_some_iff.1 this).2
    rw [hx2] at this
    exact sameBits_cell _ this
end
end Go.Ax

namespace Go.Ax
def keyCells : AV → Option (Bool × List D)
  | .d x => some (false, [x])
  | .dagg cs => some (true, cs)
  | _ => none
theorem keyCells_ok {h : Nat → Option Obj} {Im : Nat → Prop} {ρ : Nat → Option Loc} {v : Value} {x : AV} {ag : Bool} {kc : List D} (hx : keyCells x = some (ag, kc)) (H : RA h Im ρ v x) : KeyR h Im ag v kc := by
  cases x <;> simp only [keyCells] at hx <;> cases hx
  · exact ⟨_, rfl, H.d_inv⟩
  · cases H with
    | dagg cs _ hl hr => exact ⟨cs, rfl, hl, hr⟩
theorem run_setObj_map {P : Program} {w : World} {r : Nat} {es : Array MapEntry} {clock : Nat} (o : Obj) (hb : w.heap[r]? = some (.map es clock)) : (setObj r o).run P w = .ok () { w with heap := w.heap.setIfInBounds r o } := by
  simp [setObj, Sem.run, hb]
section ops
variable {E : Env} {k : Kn} {ty : TypeId} {s : St} {tab : List (Nat × TI)} {e : Eff}
theorem ok_makeMap {t : TypeId} {d : Nat} (ag : Bool) : OpOk E k (.makeMap t none) ty s { val := .mp d, wh := some (d, some (.map ag [])), new := some d } := by
  intro c Im ρ F H a w o ok hn ha S ho hty hF hH hnew hc
  have hb : ∀ b ∈ ({ blk := some w.heap.size } : Loc).fp, w.heap.size ≤ b ∧ b < (w.alloc (.map #[] 0)).heap.size := fun b hb => by
    simp [Loc.fp] at hb; subst hb; simp
  refine ⟨.map (some w.heap.size), w.alloc (.map #[] 0), .inl ?_, Im, _, S.new (r := d) (l := { blk := some w.heap.size }) (o := .map ag []) (Grows.alloc w _) (hnew d rfl) hb ⟨rfl, rfl, w.heap.size, #[], 0, rfl, heap_alloc_new w _, rfl, by simp⟩, .mp _ d rfl fun l hl => ?_⟩
  · simp [execOp, ho, Instr.makeMap]
  · rw [upd_same] at hl; injection hl with hl; subst hl
    exact ⟨rfl, _, rfl, rfl⟩
theorem mp_at {c : Cx} {Im : Nat → Prop} {ρ : Nat → Option Loc} {F : Nat → AV} {H : Nat → Option AObj} {a : Act} {w : World} (S : Sim c Im ρ F H a w) {r : Nat} {ag : Bool} {es : List (List D × D)} (hr : H r = some (.map ag es)) {v : Value} (hv : RA (hp w) Im ρ v (.mp r)) :
    ∃ l b ms clk, ρ r = some l ∧ l.isBuf = false ∧ l.more = [] ∧ l.blk = some b ∧ b < w.heap.size ∧ v = .map (some b) ∧ w.heap[b]? = some (.map ms clk) ∧ ms.size = es.length ∧ ∀ (i : Nat) (e : MapEntry) (x : List D × D), ms[i]? = some e → es[i]? = some x → EntR (hp w) Im ag e x := by
  obtain ⟨l, hl, hro, hown⟩ := S.obj r _ hr
  obtain ⟨h1, h2, b, ms, clk, h3, h4, h5, h6⟩ := hro
  cases hv with
  | mp _ _ _ hp2 =>
    obtain ⟨_, b', e1, e2⟩ := hp2 l hl
    rw [h3] at e1; injection e1 with e1; subst e1
    exact ⟨l, b, ms, clk, hl, h1, h2, h3, (hown b (by simp [Loc.fp, h3])).1, e2, h4, h5, h6⟩
theorem ok_mapUpdate {t kt et : TypeId} {m key val : Operand} {mi ki : TI} {r : Nat} {kc : List D} {v : D} {es : List (List D × D)} (hi : opIn k.nt (.mapUpdate t m key val) = true) (ht : tiOf E.P t = some mi) (hmk : mi.k = .map kt et) (hkt : tiOf E.P kt = some ki) (hne : ki.fl ≠ []) (hsz : ki.size = ki.fl.length)
    (hm : evO s m = .mp r) (hkey : keyCells (evO s key) = some (ki.k.agg, kc)) (hval : evO s val = .d v) :
    OpOk E k (.mapUpdate t m key val) ty s { val := .junk, rh := some (r, .map ki.k.agg es), wh := some (r, some (.map ki.k.agg (mput ki.fl kc v es))), cond := [KeyOk ki.fl kc, KeysOk ki.fl es] } := by
  intro c Im ρ F H a w o ok hn ha S ho hty hF hH hnew hc
  have h1 := opIn_ev (x := m) S hn hi hF (by simp [Op.operands])
  have h2 := opIn_ev (x := key) S hn hi hF (by simp [Op.operands])
  have h3 := opIn_ev (x := val) S hn hi hF (by simp [Op.operands])
  rw [hm] at h1; rw [hval] at h3
  obtain ⟨l, b, ms, clk, hl, hb1, hb2, hb3, hlt, hv, hheap, hlen, hent⟩ := mp_at S (hH r _ rfl) h1
  have hk := keyCells_ok hkey h2
  obtain ⟨hf, hck⟩ := run_findKey w hkt hne hsz hk hc.1 hlen hent hc.2.1
  obtain ⟨_, d, _, _, g2, _, rfl⟩ := tiOf_spec ht
  cases d <;> simp only [kindOf] at hmk <;> cases hmk
  generalize hkv : a.eval key = kv at hk hf hck
  generalize hvv : a.eval val = vv at h3
  have hnewR : ∀ ms' : Array MapEntry, ∀ clk', ms'.size = (mput ki.fl kc v es).length → (∀ (i : Nat) (e : MapEntry) (x : List D × D), ms'[i]? = some e → (mput ki.fl kc v es)[i]? = some x → EntR (hp w) Im ki.k.agg e x) →
      (execOp a.eval o).run E.P w = .ok .skip { w with heap := w.heap.setIfInBounds b (.map ms' clk') } →
      ∃ u w', ((execOp a.eval o).run E.P w = .ok (.value u) w' ∨ ((execOp a.eval o).run E.P w = .ok .skip w' ∧ u = undef)) ∧ ∃ Im' ρ', Sim c Im' ρ' F (updO H (some (r, some (.map ki.k.agg (mput ki.fl kc v es))))) a w' ∧ RA (hp w') Im' ρ' u .junk := by
    intro ms' clk' hlen' hent' hrun
    have hI : ∀ b', Im b' → hp { w with heap := w.heap.setIfInBounds b (.map ms' clk') } b' = hp w b' := fun b' hb' => by
      have : b ≠ b' := fun e => by
        subst e
        obtain ⟨l0, hl0, _, hown⟩ := S.obj r _ (hH r _ rfl)
        rw [hl] at hl0; injection hl0 with hl0; subst hl0
        exact (hown b (by simp [Loc.fp, hb3])).2.1 hb'
      simp [hp, Array.getElem?_setIfInBounds_ne this]
    refine ⟨undef, _, .inr ⟨hrun, rfl⟩, Im, _, S.chg (r := r) (l := l) (l' := l) (hH r _ rfl) hl ?_ (.inl rfl) (fun b hb => .inl hb) ?_, .junk _⟩
    · refine ⟨by simp, rfl, rfl, rfl, fun b2 hb2 hn2 => ?_⟩
      have : b ≠ b2 := fun e => hn2 (by subst e; simp [Loc.fp, hb3])
      simp [Array.getElem?_setIfInBounds_ne this]
    · refine ⟨hb1, hb2, b, ms', clk', hb3, by simp [hp, hlt], hlen', fun i e x e1 e2 => ?_⟩
      have := hent' i e x e1 e2
      exact ⟨this.1.mono (fun _ h => h) hI, this.2.mono (fun _ h => h) hI⟩
  cases hmf : mfind ki.fl kc es 0 with
  | none =>
    rw [hmf] at hf
    refine hnewR (ms.push { key := kv, val := vv, born := clk }) (clk + 1) (by simp [mput, hmf, hlen]) (fun i e x e1 e2 => ?_) ?_
    · simp only [mput, hmf] at e2
      by_cases hil : i < ms.size
      · rw [Array.getElem?_push_lt hil] at e1
        rw [List.getElem?_append_left (by omega)] at e2
        exact hent i e x (by rw [Array.getElem?_eq_getElem hil]; exact e1) e2
      · have hie : i = ms.size := by
          have := (List.getElem?_eq_some_iff.1 e2).1
          simp at this; omega
        subst hie
        rw [Array.getElem?_push_size] at e1
        rw [hlen, List.getElem?_append_right (by omega)] at e2
        simp at e1 e2; subst e1; subst e2
        exact ⟨h3.d_inv, hk⟩
    · simp [execOp, ho, hv, hkv, hvv, Instr.mapUpdate, run_underlying g2, Go.run_getObj_map w b ms clk hheap, hck false, hf, run_setObj_map _ hheap]
  | some q =>
    rw [hmf] at hf
    have hq := mfind_lt hmf
    have hqm : q < ms.size := by omega
    have hqe : q < es.length := by omega
    have hme : ms[q]? = some ms[q] := Array.getElem?_eq_getElem hqm
    have hee : es[q]? = some es[q] := List.getElem?_eq_getElem hqe
    have hsame : Instr.sameBits 10000 (ms[q]).key kv = true := by
      have he := hent q _ _ hme hee
      have hko := hc.2.1 es[q] (List.getElem_mem hqe)
      exact key_same w hkt hne hk hc.1 he.2 hko (mfind_eq hmf _ hee)
    have hstay : (Instr.keyThatStays (ms[q]).key kv).run E.P w = .ok kv w := by
      unfold Instr.keyThatStays
      rw [hsame]; simp
    refine hnewR (ms.modify q fun e => { e with key := kv, val := vv }) clk (by simp [mput, hmf, hlen]) (fun i e x e1 e2 => ?_) ?_
    · simp only [mput, hmf] at e2
      rw [Array.getElem?_modify] at e1
      by_cases hiq : q = i
      · subst hiq
        rw [if_pos rfl, hme] at e1
        simp at e1; subst e1
        rw [List.getElem?_set_self hqe] at e2
        injection e2 with e2; subst e2
        exact ⟨h3.d_inv, hk⟩
      · rw [if_neg hiq] at e1
        rw [List.getElem?_set_ne hiq] at e2
        exact hent i e x e1 e2
    · simp [execOp, ho, hv, hkv, hvv, Instr.mapUpdate, run_underlying g2, Go.run_getObj_map w b ms clk hheap, hck false, hf, hme, hstay, run_setObj_map _ hheap]
theorem ok_lookup {t kt et : TypeId} {m key : Operand} {mi ki ei : TI} {r : Nat} {kc : List D} {z : Value} {es : List (List D × D)} {co : Bool} (hi : opIn k.nt (.lookup t m key co) = true) (ht : tiOf E.P t = some mi) (hmk : mi.k = .map kt et) (hkt : tiOf E.P kt = some ki) (hne : ki.fl ≠ []) (hsz : ki.size = ki.fl.length)
    (het : tiOf E.P et = some ei) (hefl : ei.fl ≠ []) (hz : ei.zero = [z]) (hza : ei.k.agg = false) (hz1 : z.oneCell' = true)
    (hm : evO s m = .mp r) (hkey : keyCells (evO s key) = some (ki.k.agg, kc)) :
    OpOk E k (.lookup t m key co) ty s { val := if co then .tup [.d (force ei.k 0 (mget ki.fl kc (.v z) es)), .d (.v (.bool (mhas ki.fl kc es)))] else .d (force ei.k 0 (mget ki.fl kc (.v z) es)), rh := some (r, .map ki.k.agg es), cond := [KeyOk ki.fl kc, KeysOk ki.fl es, has ei.k 0 (mget ki.fl kc (.v z) es)] } := by
  refine .pure _ _ fun hc c Im ρ F H a w o ok hn S ho hty hF hH => ?_
  have h1 := opIn_ev (x := m) S hn hi hF (by simp [Op.operands])
  have h2 := opIn_ev (x := key) S hn hi hF (by simp [Op.operands])
  rw [hm] at h1
  obtain ⟨l, b, ms, clk, hl, hb1, hb2, hb3, hlt, hv, hheap, hlen, hent⟩ := mp_at S (hH r _ rfl) h1
  have hk := keyCells_ok hkey h2
  obtain ⟨hf, hck⟩ := run_findKey w hkt hne hsz hk hc.1 hlen hent hc.2.1
  obtain ⟨_, d, _, _, g2, _, rfl⟩ := tiOf_spec ht
  cases d <;> simp only [kindOf] at hmk <;> cases hmk
  obtain ⟨ef, ed, ez, f1, f2, f3, rfl⟩ := tiOf_spec het
  generalize hkv : a.eval key = kv at hk hf hck
  have hezv : ez = z := by
    have hcc : ez.cells.toList = [z] := hz
    have hb := flOf_bare het hefl
    have hnag : ∀ cs, ez ≠ .agg cs := fun cs e => by
      subst e
      unfold bareZero at hb
      rw [f1, f2] at hb
      cases ed <;> simp [kindOf, TK.agg] at hza <;> simp [f3] at hb
    have : ez.cells = #[ez] := by cases ez <;> first | rfl | (exact absurd rfl (hnag _))
    rw [this] at hcc
    simpa using hcc
  subst hezv
  have main : ∃ u : Value, (execOp a.eval o).run E.P w = .ok (.value (if co then .tuple #[u, .bool (mhas ki.fl kc es)] else u)) w ∧ RD (hp w) Im u (mget ki.fl kc (.v ez) es) := by
    cases hmf : mfind ki.fl kc es 0 with
    | none =>
      rw [hmf] at hf
      refine ⟨ez, ?_, ?_⟩
      · have hzv : (zeroValue et).run E.P w = .ok ez w := by simp [zeroValue, typeInfo, f1, f3]
        cases co <;> simp [execOp, ho, hv, hkv, Instr.lookup, run_underlying g2, Go.run_getObj_map w b ms clk hheap, hck, hf, hzv, mhas, hmf]
      · simp only [mget, hmf]; exact .v _ hz1
    | some q =>
      rw [hmf] at hf
      have hq := mfind_lt hmf
      have hqm : q < ms.size := by omega
      have hqe : q < es.length := by omega
      have hme : ms[q]? = some ms[q] := Array.getElem?_eq_getElem hqm
      have hee : es[q]? = some es[q] := List.getElem?_eq_getElem hqe
      refine ⟨(ms[q]).val, ?_, ?_⟩
      · cases co <;> simp [execOp, ho, hv, hkv, Instr.lookup, run_underlying g2, Go.run_getObj_map w b ms clk hheap, hck, hf, hme, mhas, hmf]
      · simp only [mget, hmf, List.getD, hee]; exact (hent q _ _ hme hee).1
  obtain ⟨u, hu1, hu2⟩ := main
  have hu3 := RD.force hc.2.2.1 hu2
  refine ⟨_, hu1, ?_⟩
  cases co with
  | false => exact .d _ _ hu3
  | true =>
    refine .tup _ _ rfl fun i v x e1 e2 => ?_
    match i with
    | 0 => simp at e1 e2; subst e1; subst e2; exact .d _ _ hu3
    | 1 => simp at e1 e2; subst e1; subst e2; exact RA.intv _ rfl
    | n + 2 => simp at e1
theorem ok_len_map {x : Operand} {t kt et : TypeId} {i : TI} {r : Nat} {ag : Bool} {es : List (List D × D)} (hi : opIn k.nt (lenCall x t) = true) (ht : tiOf E.P t = some i) (hk : i.k = .map kt et) (hx : evO s x = .mp r) :
    OpOk E k (lenCall x t) ty s { val := .d (.v (.int .i64 es.length)), rh := some (r, .map ag es) } :=
  .pure _ _ fun hc c Im ρ F H a w o ok hn S ho hty hF hH => by
  have h1 := opIn_ev (x := x) S hn hi hF (by simp [Op.operands, lenCall, Call.operands])
  rw [hx] at h1
  obtain ⟨l, b, ms, clk, hl, hb1, hb2, hb3, hlt, hv, hheap, hlen, hent⟩ := mp_at S (hH r _ rfl) h1
  obtain ⟨inf, d, z, g1, g2, g3, rfl⟩ := tiOf_spec ht
  cases d <;> simp only [kindOf] at hk <;> cases hk
  refine ⟨_, exec_len ho (by simp [Builtin.len_, hv, run_underlying g2, Go.run_getObj_map w b ms clk hheap, goInt, hlen]), RA.intv _ rfl⟩
end ops
end Go.Ax

namespace Go.Ax
section ops
variable {E : Env} {k : Kn} {ty : TypeId} {s : St} {tab : List (Nat × TI)} {e : Eff}
def isAgg? (i : TI) : Bool := match i.k.agg, Nat.beq i.size i.fl.length, i.fl with
  | true, true, _ :: _ => true
  | _, _, _ => false
theorem isAgg?_spec {i : TI} (h : isAgg? i = true) : i.fl ≠ [] ∧ i.k.agg = true ∧ i.size = i.fl.length := by
  unfold isAgg? at h
  split at h
  · rename_i h1 h2 h3; exact ⟨by simp [h3], h1, Nat.eq_of_beq_eq_true h2⟩
  · simp at h
def keyTI (i : TI) : Bool := match Nat.beq i.size i.fl.length, i.fl with
  | true, _ :: _ => true
  | _, _ => false
theorem keyTI_spec {i : TI} (h : keyTI i = true) : i.fl ≠ [] ∧ i.size = i.fl.length := by
  unfold keyTI at h
  split at h
  · rename_i h1 h2; exact ⟨by simp [h2], Nat.eq_of_beq_eq_true h1⟩
  · simp at h
def opBinX (tab : List (Nat × TI)) (s : St) (op : BinOp) (xt : TypeId) (x y : Operand) : Option Eff := match lkT xt tab with
  | none => none
  | some i => match evO s x, evO s y with
    | .dagg a, .dagg b => match isAgg? i, op with
      | true, .eql => some { val := .d (.v (.bool (eqAll i.fl a b 0))), cond := [a.length = i.fl.length, b.length = i.fl.length] ++ (hasAll i.fl a 0 ++ hasAll i.fl b 0) }
      | true, .neq => some { val := .d (.v (.bool (!eqAll i.fl a b 0))), cond := [a.length = i.fl.length, b.length = i.fl.length] ++ (hasAll i.fl a 0 ++ hasAll i.fl b 0) }
      | _, _ => none
    | z, .d (.v .nilIface) => match y, i.k, ifNil z, op with
      | .const .nilIface, .iface, some b, .eql => some { val := .d (.v (.bool b)) }
      | .const .nilIface, .iface, some b, .neq => some { val := .d (.v (.bool (!b))) }
      | _, _, _, _ => none
    | _, _ => none
theorem opBinX_ok (htab : TabOk E.P tab) {op : BinOp} {xt yt : TypeId} {x y : Operand} (hi : opIn k.nt (.binOp op xt x y yt) = true) (h : opBinX tab s op xt x y = some e) : Good E k (.binOp op xt x y yt) ty s e := by
  unfold opBinX at h
  split at h
  · simp at h
  rename_i i ht
  have ht := htab.at ht
  split at h
  · rename_i a b hx hy
    split at h
    · rename_i hag
      obtain ⟨h1, h2, h3⟩ := isAgg?_spec hag
      injection h with h; subst h
      exact ⟨ok_aggeq hi ht h1 h2 h3 hx hy (.inl ⟨rfl, rfl⟩), by simp [RhOk]⟩
    · rename_i hag
      obtain ⟨h1, h2, h3⟩ := isAgg?_spec hag
      injection h with h; subst h
      exact ⟨ok_aggeq hi ht h1 h2 h3 hx hy (.inr ⟨rfl, rfl⟩), by simp [RhOk]⟩
    · simp at h
  · split at h
    · injection h with h; subst h
      exact ⟨ok_ifnil hi ht (by assumption) (by assumption) (.inl ⟨rfl, rfl⟩), by simp [RhOk]⟩
    · injection h with h; subst h
      exact ⟨ok_ifnil hi ht (by assumption) (by assumption) (.inr ⟨rfl, rfl⟩), by simp [RhOk]⟩
    · simp at h
  · simp at h
def opConvX (tab : List (Nat × TI)) (s : St) (src dst : TypeId) (x : Operand) : Option Eff := match lkT src tab, lkT dst tab with
  | some si, some di => match si.k, di.k with
    | .slice e0, .str => match lkT e0 tab, evO s x with
      | some ei, .d (.sl _ sz els) => match ei.k, Nat.beq sz 1 with
        | .int .u8, true => some { val := .d (.v (.string (bytesOf els))), cond := [∀ q ∈ els, ∃ n, q = [.v (.int .u8 n)]] }
        | _, _ => none
      | _, _ => none
    | _, _ => none
  | _, _ => none
theorem opConvX_ok (htab : TabOk E.P tab) {src dst : TypeId} {x : Operand} (hi : opIn k.nt (.convert src dst x) = true) (h : opConvX tab s src dst x = some e) : Good E k (.convert src dst x) ty s e := by
  unfold opConvX at h
  split at h
  · rename_i si di h1 h2
    split at h
    · rename_i e0 hsk hdk
      split at h
      · rename_i ei t sz els h3 hx
        split at h
        · rename_i hek hsz
          have := Nat.eq_of_beq_eq_true hsz; subst this
          injection h with h; subst h
          exact ⟨ok_convert_bytes hi (htab.at h1) hsk (htab.at h3) hek (htab.at h2) hdk hx, by simp [RhOk]⟩
        · simp at h
      · simp at h
    · simp at h
  · simp at h
def opLenX (tab : List (Nat × TI)) (s : St) (x : Operand) (t : TypeId) : Option Eff := match lkT t tab with
  | none => none
  | some i => match i.k, evO s x with
    | .map _ _, .mp r => match lkH r s.h with
      | some (.map ag es) => some { val := .d (.v (.int .i64 es.length)), rh := some (r, .map ag es) }
      | _ => none
    | _, _ => none
theorem opLenX_ok (htab : TabOk E.P tab) {t : TypeId} {x : Operand} (hi : opIn k.nt (lenCall x t) = true) (h : opLenX tab s x t = some e) : Good E k (lenCall x t) ty s e := by
  unfold opLenX at h
  split at h
  · simp at h
  rename_i i ht
  split at h
  · rename_i kt et r hk hx
    split at h
    · rename_i ag es hr
      injection h with h; subst h
      exact ⟨ok_len_map hi (htab.at ht) hk hx, by simp [RhOk, hr]⟩
    · simp at h
  · simp at h
def opMapUpd (tab : List (Nat × TI)) (s : St) (t : TypeId) (m key val : Operand) : Option Eff := match lkT t tab with
  | none => none
  | some mi => match mi.k with
    | .map kt _ => match lkT kt tab with
      | none => none
      | some ki => match keyTI ki, evO s m, keyCells (evO s key), evO s val with
        | true, .mp r, some (ag, kc), .d v => match lkH r s.h, ag, ki.k.agg with
          | some (.map true es), true, true => some { val := .junk, rh := some (r, .map true es), wh := some (r, some (.map true (mput ki.fl kc v es))), cond := [KeyOk ki.fl kc, KeysOk ki.fl es] }
          | some (.map false es), false, false => some { val := .junk, rh := some (r, .map false es), wh := some (r, some (.map false (mput ki.fl kc v es))), cond := [KeyOk ki.fl kc, KeysOk ki.fl es] }
          | _, _, _ => none
        | _, _, _, _ => none
    | _ => none
theorem opMapUpd_ok (htab : TabOk E.P tab) {t : TypeId} {m key val : Operand} (hi : opIn k.nt (.mapUpdate t m key val) = true) (h : opMapUpd tab s t m key val = some e) : Good E k (.mapUpdate t m key val) ty s e := by
  unfold opMapUpd at h
  split at h
  · simp at h
  rename_i mi ht
  split at h
  · rename_i kt et hmk
    split at h
    · simp at h
    rename_i ki hkt
    split at h
    · rename_i r ag kc v hkey hm hkc hv
      obtain ⟨h1, h2⟩ := keyTI_spec hkey
      split at h
      · rename_i es hr hag
        injection h with h; subst h
        have := ok_mapUpdate (E := E) (k := k) (ty := ty) (es := es) hi (htab.at ht) hmk (htab.at hkt) h1 h2 hm (by rw [hag]; exact hkc) hv
        rw [hag] at this
        exact ⟨this, by simp [RhOk, hr]⟩
      · rename_i es hr hag
        injection h with h; subst h
        have := ok_mapUpdate (E := E) (k := k) (ty := ty) (es := es) hi (htab.at ht) hmk (htab.at hkt) h1 h2 hm (by rw [hag]; exact hkc) hv
        rw [hag] at this
        exact ⟨this, by simp [RhOk, hr]⟩
      · simp at h
    · simp at h
  · simp at h
def oneZero : List Value → Option Value
  | [z] => match z.oneCell' with
    | true => some z
    | false => none
  | _ => none
theorem oneZero_spec {l : List Value} {z : Value} (h : oneZero l = some z) : l = [z] ∧ z.oneCell' = true := by
  unfold oneZero at h
  split at h
  · split at h
    · rename_i h1; injection h with h; subst h; exact ⟨rfl, h1⟩
    · simp at h
  · simp at h
def lookVal (co : Bool) (x : D) (b : Bool) : AV := match co with
  | true => .tup [.d x, .d (.v (.bool b))]
  | false => .d x
def opLookup (tab : List (Nat × TI)) (s : St) (t : TypeId) (m key : Operand) (co : Bool) : Option Eff := match lkT t tab with
  | none => none
  | some mi => match mi.k with
    | .map kt et => match lkT kt tab, lkT et tab with
      | some ki, some ei => match keyTI ki, evO s m, keyCells (evO s key), oneZero ei.zero, ei.k.agg, ei.fl with
        | true, .mp r, some (ag, kc), some z, false, _ :: _ => match lkH r s.h, ag, ki.k.agg with
          | some (.map true es), true, true => some { val := lookVal co (force ei.k 0 (mget ki.fl kc (.v z) es)) (mhas ki.fl kc es), rh := some (r, .map true es), cond := [KeyOk ki.fl kc, KeysOk ki.fl es, has ei.k 0 (mget ki.fl kc (.v z) es)] }
          | some (.map false es), false, false => some { val := lookVal co (force ei.k 0 (mget ki.fl kc (.v z) es)) (mhas ki.fl kc es), rh := some (r, .map false es), cond := [KeyOk ki.fl kc, KeysOk ki.fl es, has ei.k 0 (mget ki.fl kc (.v z) es)] }
          | _, _, _ => none
        | _, _, _, _, _, _ => none
      | _, _ => none
    | _ => none
theorem opLookup_ok (htab : TabOk E.P tab) {t : TypeId} {m key : Operand} {co : Bool} (hi : opIn k.nt (.lookup t m key co) = true) (h : opLookup tab s t m key co = some e) : Good E k (.lookup t m key co) ty s e := by
  unfold opLookup at h
  split at h
  · simp at h
  rename_i mi ht
  split at h
  · rename_i kt et hmk
    split at h
    · rename_i ki ei hkt het
      split at h
      · rename_i r ag kc z f fs hkey hm hkc hz hza hfl
        obtain ⟨h1, h2⟩ := keyTI_spec hkey
        obtain ⟨z1, z2⟩ := oneZero_spec hz
        split at h
        · rename_i es hr hag
          injection h with h; subst h
          have := ok_lookup (E := E) (k := k) (ty := ty) (es := es) (co := co) hi (htab.at ht) hmk (htab.at hkt) h1 h2 (htab.at het) (by rw [hfl]; simp) z1 hza z2 hm (by rw [hag]; exact hkc)
          rw [hag] at this
          exact ⟨by cases co <;> exact this, by simp [RhOk, hr]⟩
        · rename_i es hr hag
          injection h with h; subst h
          have := ok_lookup (E := E) (k := k) (ty := ty) (es := es) (co := co) hi (htab.at ht) hmk (htab.at hkt) h1 h2 (htab.at het) (by rw [hfl]; simp) z1 hza z2 hm (by rw [hag]; exact hkc)
          rw [hag] at this
          exact ⟨by cases co <;> exact this, by simp [RhOk, hr]⟩
        · simp at h
      · simp at h
    · simp at h
  · simp at h
def opMM (s : St) (b : Builtin) (x y : Operand) : Option Eff := match isMinMax b, evO s x, evO s y with
  | some true, .d (.v (.int i m)), .d (.v (.int _ n)) => some { val := .d (.v (.int i (if n < m then n else m))) }
  | some false, .d (.v (.int i m)), .d (.v (.int _ n)) => some { val := .d (.v (.int i (if n > m then n else m))) }
  | _, _, _ => none
theorem opMM_ok {b : Builtin} {x y : Operand} {t t' : TypeId} (hi : opIn k.nt (mmCall b x y t t') = true) (h : opMM s b x y = some e) : Good E k (mmCall b x y t t') ty s e := by
  unfold opMM at h
  split at h
  · rename_i i m j n hb hx hy
    injection h with h; subst h
    have : b = .min := by cases b <;> simp [isMinMax] at hb <;> rfl
    subst this
    exact ⟨ok_minmax hi hx hy (.inl ⟨rfl, rfl⟩), by simp [RhOk]⟩
  · rename_i i m j n hb hx hy
    injection h with h; subst h
    have : b = .max := by cases b <;> simp [isMinMax] at hb <;> rfl
    subst this
    exact ⟨ok_minmax hi hx hy (.inr ⟨rfl, rfl⟩), by simp [RhOk]⟩
  · simp at h
def opX (tab : List (Nat × TI)) (s : St) (d : Nat) (op : Op) : Option Eff := match op with
  | .range t x => match lkT t tab, evO s x with
    | some i, .d (.v (.string m)) => match i.k with
      | .str => some { val := .ptr d 0, wh := some (d, some (.siter m 0)), new := some d }
      | _ => none
    | _, _ => none
  | .makeMap t none => match lkT t tab with
    | some i => match i.k with
      | .map kt _ => match lkT kt tab with
        | some ki => match ki.k.agg with
          | true => some { val := .mp d, wh := some (d, some (.map true [])), new := some d }
          | false => some { val := .mp d, wh := some (d, some (.map false [])), new := some d }
        | none => none
      | _ => none
    | none => none
  | .mapUpdate t m key val => opMapUpd tab s t m key val
  | .lookup t m key co => opLookup tab s t m key co
  | .call { callee := .builtin b, args := ⟨[x, y]⟩, argTypes := ⟨[_, _]⟩ } => opMM s b x y
  | _ => none
theorem opX_ok (htab : TabOk E.P tab) {d : Nat} {op : Op} (hi : opIn k.nt op = true) (h : opX tab s d op = some e) : Good E k op ty s e := by
  unfold opX at h
  split at h
  · split at h
    · rename_i i m ht hx
      split at h
      · rename_i hk
        injection h with h; subst h
        exact ⟨ok_range hi (htab.at ht) hk hx, by simp [RhOk]⟩
      · simp at h
    · simp at h
  · split at h
    · split at h
      · split at h
        · split at h
          · injection h with h; subst h; exact ⟨ok_makeMap true, by simp [RhOk]⟩
          · injection h with h; subst h; exact ⟨ok_makeMap false, by simp [RhOk]⟩
        · simp at h
      · simp at h
    · simp at h
  · exact opMapUpd_ok htab hi h
  · exact opLookup_ok htab hi h
  · exact opMM_ok hi h
  · simp at h
def chunksD : Nat → Nat → List D → List (List D)
  | 0, _, _ => []
  | n + 1, sz, cs => cs.take sz :: chunksD n sz (cs.drop sz)
theorem chunksD_length (n sz : Nat) (cs : List D) : (chunksD n sz cs).length = n := by
  induction n generalizing cs with
  | zero => rfl
  | succ n ih => simp [chunksD, ih]
theorem chunksD_at : ∀ (n sz : Nat) (cs : List D) (i : Nat) (el : List D), cs.length = n * sz → (chunksD n sz cs)[i]? = some el → el.length = sz ∧ ∀ (j : Nat) (x : D), el[j]? = some x → cs[i * sz + j]? = some x
  | 0, sz, cs, i, el, _, h => by simp [chunksD] at h
  | n + 1, sz, cs, 0, el, hl, h => by
    simp only [chunksD, List.getElem?_cons_zero, Option.some.injEq] at h
    subst h
    rw [Nat.add_mul] at hl
    refine ⟨by simp; omega, fun j x hj => ?_⟩
    rw [List.getElem?_take] at hj
    split at hj
    · simpa using hj
    · simp at hj
  | n + 1, sz, cs, i + 1, el, hl, h => by
    simp only [chunksD, List.getElem?_cons_succ] at h
    rw [Nat.add_mul] at hl
    obtain ⟨h1, h2⟩ := chunksD_at n sz (cs.drop sz) i el (by simp; omega) h
    refine ⟨h1, fun j x hj => ?_⟩
    have := h2 j x hj
    rw [List.getElem?_drop] at this
    rw [← this]; congr 1; rw [Nat.add_mul]; omega
theorem ok_slice_arr {t e0 : TypeId} {x : Operand} {i ei : TI} {r n m : Nat} {cs : List D} (hi : opIn k.nt (.slice t x none none none) = true) (ht : tiOf E.P t = some i) (hk : i.k = .array n e0) (he : tiOf E.P e0 = some ei) (hx : evO s x = .ptr r 0) :
    OpOk E k (.slice t x none none none) ty s { val := .d (.sl true ei.size (chunksD n ei.size cs)), rh := some (r, .dvar m cs), wh := some (r, none), cond := [cs.length = n * ei.size] } := by
  intro c Im ρ F H a w o ok hn ha S ho hty hF hH hnew hc
  have h1 := opIn_ev (x := x) S hn hi hF (by simp [Op.operands])
  rw [hx] at h1
  obtain ⟨inf, d, z, g1, g2, g3, rfl⟩ := tiOf_spec ht
  cases d <;> simp only [kindOf] at hk <;> cases hk
  have hr := hH r _ rfl
  obtain ⟨l, hl, hro, hown⟩ := S.obj r _ hr
  obtain ⟨hb1, hb2, hlen, b, ms, tt, hb3, hb4, hb5, hb6⟩ := hro
  generalize hv : a.eval x = v at h1
  cases h1 with
  | ptr _ _ _ _ hp2 =>
    obtain ⟨_, b', e1, e2⟩ := hp2 l hl
    rw [hb3] at e1; injection e1 with e1; subst e1
    subst e2
    refine ⟨.slice (some ⟨b, 0, none⟩) n n, w, .inl ?_, _, _, S.freeze hr hl, ?_⟩
    · simp [execOp, ho, hv, Instr.sliceAt, run_underlying g2, Instr.sureAddr, Instr.sliceBounds, run_sizeOf he, add_zero_spot]
    · have hcl := hc.1
      refine .d _ _ ?_
      have := RD.row (h := hp w) (Im := fun b' => Im b' ∨ b' ∈ l.fp) (b := b) (o := 0) (cap := n) (sz := ei.size) (els := chunksD n ei.size cs) (tight := true) (cs := ms) (t := tt) (fz := (0, 0)) (.inr (by simp [Loc.fp, hb3])) hb4
        (fun el hel => by
          obtain ⟨q, hq⟩ := List.getElem?_of_mem hel
          exact (chunksD_at n ei.size cs q el hcl hq).1) (by rw [chunksD_length]; omega) (fun _ => (chunksD_length n ei.size cs).symm) (fun i j el x e1 e2 => by
          have hq := (chunksD_at n ei.size cs i el hcl e1).2 j x e2
          have hlt := (List.getElem?_eq_some_iff.1 hq).1
          have hms : i * ei.size + j < ms.size := by omega
          refine ⟨ms[i * ei.size + j], by rw [Nat.zero_add]; exact Array.getElem?_eq_getElem hms, ?_⟩
          exact (hb6 _ _ (Array.getElem?_eq_getElem hms) x hq).mono (fun _ h => .inl h) fun _ _ => rfl)
      rw [chunksD_length] at this
      exact this
def opSliceX (tab : List (Nat × TI)) (s : St) (t : TypeId) (x : Operand) (lo hi : Option Operand) : Option Eff := match lkT t tab, lo, hi with
  | some i, none, none => match i.k, evO s x with
    | .array n e0, .ptr r 0 => match lkT e0 tab, Nat.blt 0 n, lkH r s.h with
      | some ei, true, some (.dvar m cs) => some { val := .d (.sl true ei.size (chunksD n ei.size cs)), rh := some (r, .dvar m cs), wh := some (r, none), cond := [cs.length = n * ei.size] }
      | _, _, _ => none
    | _, _ => none
  | _, _, _ => none
theorem opSliceX_ok (htab : TabOk E.P tab) {t : TypeId} {x : Operand} {lo hi : Option Operand} (hin : opIn k.nt (.slice t x lo hi none) = true) (h : opSliceX tab s t x lo hi = some e) : Good E k (.slice t x lo hi none) ty s e := by
  unfold opSliceX at h
  split at h
  · rename_i i ht
    split at h
    · rename_i n e0 r hk hx
      split at h
      · rename_i ei m cs he _ hr
        injection h with h; subst h
        exact ⟨ok_slice_arr hin (htab.at ht) hk (htab.at he) hx, by simp [RhOk, hr]⟩
      · simp at h
    · simp at h
  · simp at h
def nilRes (b0 : BinOp) (b : Bool) : Bool := match b0 with
  | .eql => b
  | _ => !b
theorem equalIn_slice_nil {P : Program} {w : World} (d : Nat) {t e0 : TypeId} {ad : Option Addr} {n c : Nat} (hu : P.underlying t = some (.slice e0)) : (Op.equalIn (d + 1) t (.slice ad n c) (.slice none 0 0)).run P w = .ok ad.isNone w := by
  cases ad <;> simp [Op.equalIn, run_underlying hu]
theorem ok_slnil {op : BinOp} {xt yt e0 : TypeId} {x : Operand} {i : TI} {tight : Bool} {sz : Nat} {els : List (List D)} (hi : opIn k.nt (.binOp op xt x (.const (.slice none 0 0)) yt) = true) (ht : tiOf E.P xt = some i) (hk : i.k = .slice e0) (hx : evO s x = .d (.sl tight sz els)) (hop : op = .eql ∨ op = .neq)
    (c : Cx) (Im : Nat → Prop) (ρ : Nat → Option Loc) (F : Nat → AV) (H : Nat → Option AObj) (a : Act) (w : World) (o : Oper) (hn : c.nt = k.nt) (S : Sim c Im ρ F H a w) (ho : o.op = .binOp op xt x (.const (.slice none 0 0)) yt) (hF : ∀ t ∈ opTmps (.binOp op xt x (.const (.slice none 0 0)) yt), lk t s.f = F t) :
    ∃ b : Bool, (b = true → els = []) ∧ (execOp a.eval o).run E.P w = .ok (.value (.bool (nilRes op b))) w := by
  have h1 := opIn_ev (x := x) S hn hi hF (by simp [Op.operands])
  rw [hx] at h1
  obtain ⟨inf, d, z, g1, g2, g3, rfl⟩ := tiOf_spec ht
  cases d <;> simp only [kindOf] at hk <;> cases hk
  have hc2 : a.eval (.const (.slice none 0 0)) = .slice none 0 0 := rfl
  have hrd := h1.d_inv
  generalize hv : a.eval x = v at hrd
  have key : ∃ ad n cap, v = .slice ad n cap ∧ (ad.isNone = true → els = []) := by
    cases hrd with
    | nil _ _ ad cap _ => exact ⟨ad, 0, cap, rfl, fun _ => rfl⟩
    | sl _ _ _ b o1 cap f => exact ⟨_, _, cap, rfl, fun h => by simp at h⟩
  obtain ⟨ad, n, cap, rfl, hne⟩ := key
  have q : (Op.equal xt (.slice ad n cap) (.slice none 0 0)).run E.P w = .ok ad.isNone w := equalIn_slice_nil 9999 g2
  refine ⟨ad.isNone, hne, ?_⟩
  rcases hop with rfl | rfl
  · simp [execOp, ho, hv, hc2, eqGuard, binOp, q, nilRes]
  · simp [execOp, ho, hv, hc2, eqGuard, binOp, q, nilRes]
def nilB (i : TI) (x : AV) (b : BinOp) : Option (BinOp × List (List D)) := match i.k, x, b with
  | .slice _, .d (.sl _ _ els), .eql => some (.eql, els)
  | .slice _, .d (.sl _ _ els), .neq => some (.neq, els)
  | _, _, _ => none
theorem nilB_spec {i : TI} {x : AV} {b b0 : BinOp} {els : List (List D)} (h : nilB i x b = some (b0, els)) : (∃ e0, i.k = .slice e0) ∧ (∃ t z, x = .d (.sl t z els)) ∧ b = b0 ∧ (b = .eql ∨ b = .neq) := by
  unfold nilB at h
  split at h
  · rename_i hk; injection h with h; injection h with h1 h2; subst h1; subst h2; exact ⟨⟨_, hk⟩, ⟨_, _, rfl⟩, rfl, .inl rfl⟩
  · rename_i hk; injection h with h; injection h with h1 h2; subst h1; subst h2; exact ⟨⟨_, hk⟩, ⟨_, _, rfl⟩, rfl, .inr rfl⟩
  · simp at h
def opNilSl (tab : List (Nat × TI)) (s : St) (op : Op) : Option (BinOp × List (List D)) := match op with
  | .binOp b xt x (.const (.slice none 0 0)) _ => match lkT xt tab with
    | some i => nilB i (evO s x) b
    | none => none
  | _ => none
theorem opNilSl_ok (htab : TabOk E.P tab) {op : Op} {b0 : BinOp} {els : List (List D)} (hi : opIn k.nt op = true) (h : opNilSl tab s op = some (b0, els))
    (c : Cx) (Im : Nat → Prop) (ρ : Nat → Option Loc) (F : Nat → AV) (H : Nat → Option AObj) (a : Act) (w : World) (o : Oper) (hn : c.nt = k.nt) (S : Sim c Im ρ F H a w) (ho : o.op = op) (hF : ∀ t ∈ opTmps op, lk t s.f = F t) :
    ∃ b : Bool, (b = true → els = []) ∧ (execOp a.eval o).run E.P w = .ok (.value (.bool (nilRes b0 b))) w := by
  unfold opNilSl at h
  split at h
  · rename_i b1 xt x yt
    obtain ⟨i, ht, h2⟩ : ∃ i, lkT xt tab = some i ∧ nilB i (evO s x) b1 = some (b0, els) := by
      generalize lkT xt tab = y at h ⊢
      cases y with
      | none => simp at h
      | some i => exact ⟨i, rfl, h⟩
    obtain ⟨⟨e0, hk⟩, ⟨t, z, hx⟩, rfl, hb⟩ := nilB_spec h2
    exact ok_slnil hi (htab.at ht) hk hx hb c Im ρ F H a w o hn S ho hF
  · simp at h
def opS (s : St) (op : Op) : Option (Bool × Eff × Eff) := match op with
  | .next x true => match evO s x with
    | .ptr r 0 => match lkH r s.h with
      | some (.siter m pos) => some (decide (pos < m.size), { val := .tup [.d (.v (.bool true)), .d (.v (.int .i64 pos)), .d (.v (.int .i32 (runeAt m pos)))], rh := some (r, .siter m pos), wh := some (r, some (.siter m (pos + runeW m pos))) }, { val := .tup [.d (.v (.bool false))], rh := some (r, .siter m pos) })
      | _ => none
    | _ => none
  | _ => none
theorem opS_ok {op : Op} {b : Bool} {e1 e2 : Eff} (hi : opIn k.nt op = true) (h : opS s op = some (b, e1, e2)) : (b = true → Good E k op ty s e1) ∧ (b = false → Good E k op ty s e2) := by
  unfold opS at h
  split at h
  · rename_i x
    split at h
    · rename_i r hx
      split at h
      · rename_i m pos hr
        injection h with h; injection h with h1 h; injection h with h2 h3
        subst h1; subst h2; subst h3
        constructor
        · intro hb
          have hb : pos < m.size := by simpa using hb
          exact ⟨(ok_next_some hi hx).cond fun _ => ⟨hb, trivial⟩, by simp [RhOk, hr]⟩
        · intro hb
          have hb : ¬ pos < m.size := by simpa using hb
          exact ⟨(ok_next_none (m := m) (pos := pos) hi hx).cond fun _ => ⟨hb, trivial⟩, by simp [RhOk, hr]⟩
      · simp at h
    · simp at h
  · simp at h
end ops
end Go.Ax

namespace Go.Ax
theorem Sim.G0 {E : Env} {c : Cx} {Im : Nat → Prop} {ρ : Nat → Option Loc} {F : Nat → AV} {H : Nat → Option AObj} {a : Act} {w : World} (S : Sim c Im ρ F H a w) (ok : c.Ok E) : E.G w :=
  E.Gst c.w0 w S.os (fun b hb => S.kept b (ok.im b (ok.gl b hb)).1 (ok.im b (ok.gl b hb)).2) ok.G
theorem glob_RA {E : Env} {c : Cx} {Im : Nat → Prop} {ρ : Nat → Option Loc} {F : Nat → AV} {H : Nat → Option AObj} {a : Act} {w : World} (S : Sim c Im ρ F H a w) (ok : c.Ok E) {g : Nat} {cs : List D} (hg : (g, cs) ∈ E.gl) : RA (hp w) Im ρ (.pointer (some ⟨g, 0, none⟩)) (.ep cs) := by
  obtain ⟨h1, ms, t, fz, h2, h3⟩ := E.glOk w (S.G0 ok) _ hg
  refine .ep g 0 cs (fun j => ms.getD j undef) (S.im0 g (ok.gl g h1)) (fun j x hj => ?_) (fun j x hj => ?_)
  · obtain ⟨v, e1, _, _⟩ := h3 j x hj
    refine ⟨ms, t, fz, h2, ?_⟩
    rw [Nat.zero_add, e1]
    have := (Array.getElem?_eq_some_iff.1 e1)
    obtain ⟨hl, hv⟩ := this
    simp [Array.getD, hl, hv]
  · obtain ⟨v, e1, rfl, e3⟩ := h3 j x hj
    obtain ⟨hl, hv⟩ := Array.getElem?_eq_some_iff.1 e1
    have : ms.getD j undef = v := by simp [Array.getD, hl, hv]
    rw [this]; exact .v v e3
section ops
variable {E : Env} {k : Kn} {ty : TypeId} {s : St} {tab : List (Nat × TI)} {e : Eff}
theorem ok_indexAddr_gl {t e0 : TypeId} {g : Nat} {ix : Operand} {i ei : TI} {n : Nat} {cs : List D} {ik : IntKind} {j : Int} (hi : opIn k.nt (.indexAddr t (.global g) ix) = true) (ht : tiOf E.P t = some i) (hk : i.k = .array n e0) (he : tiOf E.P e0 = some ei)
    (hg : (g, cs) ∈ E.gl) (hj : evO s ix = .d (.v (.int ik j))) : OpOk E k (.indexAddr t (.global g) ix) ty s { val := .ep (cs.drop (j.toNat * ei.size)), cond := [0 ≤ j, j < n] } :=
  .pure _ none fun hc c Im ρ F H a w o ok hn S ho _ hF _ => by
    have h2 := glob_RA S ok hg
    have h3 := opIn_ev (x := ix) S hn hi hF (by simp [Op.operands])
    rw [hj] at h3
    have hv : a.eval (.global g) = .pointer (some ⟨g, 0, none⟩) := rfl
    generalize hvv : (Value.pointer (some ⟨g, 0, none⟩)) = v at h2 hv
    cases h2 with
    | ep b o' _ f hb hcs hr =>
      exact ⟨.pointer (some ⟨b, o' + j.toNat * ei.size, none⟩), by simp [execOp, ho, hv, h3.v, run_indexAt_array ht hk he hc.1 hc.2.1, add_zero_spot], ep_drop rfl (.ep b o' cs f hb hcs hr)⟩
def lkG (g : Nat) : List (Nat × List D) → Option (List D)
  | [] => none
  | (k, v) :: r => match Nat.beq k g with
    | true => some v
    | false => lkG g r
theorem lkG_mem {g : Nat} {cs : List D} : ∀ {l : List (Nat × List D)}, lkG g l = some cs → (g, cs) ∈ l
  | [], h => by simp [lkG] at h
  | (k, v) :: r, h => by
    simp only [lkG] at h
    split at h
    · rename_i hb
      injection h with h; subst h
      rw [Nat.eq_of_beq_eq_true hb]; simp
    · exact List.mem_cons_of_mem _ (lkG_mem h)
def opG (gl : List (Nat × List D)) (tab : List (Nat × TI)) (s : St) (op : Op) : Option Eff := match op with
  | .indexAddr t (.global g) ix => match lkT t tab, evO s ix, lkG g gl with
    | some i, .d (.v (.int _ j)), some cs => match i.k with
      | .array n e0 => match lkT e0 tab with
        | some ei => some { val := .ep (cs.drop (j.toNat * ei.size)), cond := [0 ≤ j, j < n] }
        | none => none
      | _ => none
    | _, _, _ => none
  | _ => none
theorem opG_ok (htab : TabOk E.P tab) {op : Op} (hi : opIn k.nt op = true) (h : opG E.gl tab s op = some e) : Good E k op ty s e := by
  unfold opG at h
  split at h
  · split at h
    · rename_i ht hj hg
      split at h
      · rename_i hk
        split at h
        · rename_i he
          injection h with h; subst h
          exact ⟨ok_indexAddr_gl hi (htab.at ht) hk (htab.at he) (lkG_mem hg) hj, by simp [RhOk]⟩
        · simp at h
      · simp at h
    · simp at h
  · simp at h
end ops
end Go.Ax
