/- Abstract execution, part L: one function that tells what an operation comes to; its soundness. -/
import Derived.Test.YtjokajidcojlmaaDoorAxK
namespace Go.Ax

def RhOk (s : St) (e : Eff) : Prop := ∀ r x, e.rh = some (r, x) → lkH r s.h = some x
def Good (E : Env) (k : Kn) (op : Op) (ty : TypeId) (s : St) (e : Eff) : Prop := OpOk E k op ty s e ∧ RhOk s e

def okTI (i : TI) : Bool := match i.k.agg with
  | true => true
  | false => Nat.beq i.size 1
theorem okTI_spec {i : TI} (h : okTI i = true) : i.k.agg = false → i.size = 1 := fun ha => by
  simp only [okTI, ha] at h; exact Nat.eq_of_beq_eq_true h
def eszOf (tab : List (Nat × TI)) (i : TI) : Nat := match i.k with
  | .slice e => match lkT e tab with
    | some ei => ei.size
    | none => 0
  | _ => 0
def loadC (i : TI) (esz : Nat) (cs : List D) (off : Nat) : List Prop := match i.k.agg with
  | true => [off + i.size ≤ cs.length]
  | false => [off + i.size ≤ cs.length, has i.k esz (cs.getD off (.v undef))]
theorem loadC_spec {i : TI} {esz : Nat} {cs : List D} {off : Nat} (h : AllL (loadC i esz cs off)) : off + i.size ≤ cs.length ∧ (i.k.agg = false → has i.k esz (cs.getD off (.v undef))) := by
  unfold loadC at h
  cases ha : i.k.agg <;> simp only [ha] at h
  · exact ⟨h.1, fun _ => h.2.1⟩
  · exact ⟨h.1, fun h => absurd h (by simp)⟩

theorem AllL_append {a b : List Prop} (h : AllL (a ++ b)) : AllL a ∧ AllL b := by
  induction a with
  | nil => exact ⟨trivial, h⟩
  | cons x a ih => exact ⟨⟨h.1, (ih h.2).1⟩, (ih h.2).2⟩

theorem OpOk.cond {E : Env} {k : Kn} {op : Op} {ty : TypeId} {s : St} {e : Eff} {cond : List Prop} (h : OpOk E k op ty s e) (hc : AllL cond → AllL e.cond) : OpOk E k op ty s { e with cond } :=
  fun c Im ρ F H a w o h1 h2 h3 h4 h5 h6 h7 h8 h9 h10 => h c Im ρ F H a w o h1 h2 h3 h4 h5 h6 h7 h8 h9 (hc h10)

section ops
variable {E : Env} {k : Kn} {ty : TypeId} {s : St} {tab : List (Nat × TI)} {e : Eff}

def opLoad (tab : List (Nat × TI)) (s : St) (t : TypeId) (x : Operand) : Option Eff := match lkT t tab with
  | none => none
  | some i => match okTI i with
    | false => none
    | true => match evO s x with
      | .ep cs => some { val := loadD i (eszOf tab i) cs 0, cond := loadC i (eszOf tab i) cs 0 }
      | .ptr r off => match lkH r s.h with
        | some (.dvar n cs) => some { val := loadD i (eszOf tab i) cs off, rh := some (r, .dvar n cs), cond := loadC i (eszOf tab i) cs off }
        | some (.var cs) => match Nat.ble (off + i.size) cs.length with
          | true => some { val := loadA i cs off, rh := some (r, .var cs) }
          | false => none
        | _ => none
      | .mptr r n q j => match lkH r s.h with
        | some (.buf sz el els) => some { val := loadD i (eszOf tab i) (els.getD q []) j, rh := some (r, .buf sz el els), cond := [n = els.length, q < els.length] ++ loadC i (eszOf tab i) (els.getD q []) j }
        | _ => none
      | _ => none

theorem opLoad_pure (htab : TabOk E.P tab) {t : TypeId} {x : Operand} (hi : opIn k.nt (.load t x) = true) (h : opLoad tab s t x = some e) : OpPure E k (.load t x) ty s e ∧ RhOk s e := by
  unfold opLoad at h
  split at h
  · simp at h
  rename_i i ht
  have ht := htab.at ht
  split at h
  · simp at h
  rename_i hok
  have h1 := okTI_spec hok
  split at h
  · rename_i cs hx
    injection h with h; subst h
    exact ⟨(ok_load_ep (esz := eszOf tab i) hi ht h1 hx).cond fun hc => let ⟨a, b⟩ := loadC_spec hc; ⟨by omega, b, trivial⟩, by simp [RhOk]⟩
  · rename_i r off hx
    split at h
    · rename_i n cs hr
      injection h with h; subst h
      exact ⟨(ok_load_dvar (esz := eszOf tab i) (nn := n) (cs := cs) hi ht h1 hx).cond fun hc => let ⟨a, b⟩ := loadC_spec hc; ⟨a, b, trivial⟩, by simp [RhOk, hr]⟩
    · rename_i cs hr
      split at h
      · rename_i hb
        injection h with h; subst h
        exact ⟨ok_load_var hi ht h1 hx (Nat.le_of_ble_eq_true hb), by simp [RhOk, hr]⟩
      · simp at h
    · simp at h
  · rename_i r n q j hx
    split at h
    · rename_i sz el els hr
      injection h with h; subst h
      exact ⟨(ok_load_mptr (esz := eszOf tab i) (sz := sz) (el := el) (els := els) hi ht h1 hx).cond fun hc => let ⟨a, b⟩ := AllL_append hc; let ⟨c, d⟩ := loadC_spec b; ⟨a.1, a.2.1, c, d, trivial⟩, by simp [RhOk, hr]⟩
    · simp at h
  · simp at h

theorem opLoad_ok (htab : TabOk E.P tab) {t : TypeId} {x : Operand} (hi : opIn k.nt (.load t x) = true) (h : opLoad tab s t x = some e) : Good E k (.load t x) ty s e :=
  let ⟨a, b⟩ := opLoad_pure htab hi h; ⟨a.ok, b⟩

def opStore (tab : List (Nat × TI)) (s : St) (t : TypeId) (x y : Operand) : Option Eff := match lkT t tab, evO s x with
  | some i, .ptr r off => match lkH r s.h with
    | some (.dvar n cs) => match dcells (evO s y) with
      | some l => match Nat.beq off 0, Nat.beq i.size n with
        | true, true => some { val := .junk, rh := some (r, .dvar n cs), wh := some (r, some (.dvar n l)), cond := [l.length = i.size] }
        | _, _ => some { val := .junk, rh := some (r, .dvar n cs), wh := some (r, some (.dvar n (splice cs l off))), cond := [l.length = i.size, off + i.size ≤ n] }
      | none => match (evO s y).hasCells, (evO s y).cells.all AV.one, Nat.beq (evO s y).cells.length i.size, Nat.ble (off + i.size) n with
        | true, true, true, true => some { val := .junk, rh := some (r, .dvar n cs), wh := some (r, some (.var (splice (cs.map .d) (evO s y).cells off))) }
        | _, _, _, _ => none
    | some (.var cs) => match (evO s y).hasCells, (evO s y).cells.all AV.one, Nat.beq (evO s y).cells.length i.size, Nat.ble (off + i.size) cs.length with
      | true, true, true, true => some { val := .junk, rh := some (r, .var cs), wh := some (r, some (.var (splice cs (evO s y).cells off))) }
      | _, _, _, _ => none
    | _ => none
  | _, _ => none

theorem opStore_ok (htab : TabOk E.P tab) {t : TypeId} {x y : Operand} (hi : opIn k.nt (.store t x y) = true) (h : opStore tab s t x y = some e) : Good E k (.store t x y) ty s e := by
  unfold opStore at h
  split at h
  · rename_i i r off ht hx
    have ht := htab.at ht
    split at h
    · rename_i n cs hr
      split at h
      · rename_i l hl
        split at h
        · rename_i h0 hn
          injection h with h; subst h
          have := Nat.eq_of_beq_eq_true h0; subst this
          exact ⟨ok_store_whole hi ht hx hl (Nat.eq_of_beq_eq_true hn), by simp [RhOk, hr]⟩
        · injection h with h; subst h
          exact ⟨ok_store_dvar hi ht hx hl, by simp [RhOk, hr]⟩
      · split at h
        · rename_i g1 g2 g3 g4
          injection h with h; subst h
          exact ⟨ok_store_mixed hi ht hx rfl g1 g2 (Nat.eq_of_beq_eq_true g3) (Nat.le_of_ble_eq_true g4), by simp [RhOk, hr]⟩
        · simp at h
    · rename_i cs hr
      split at h
      · rename_i g1 g2 g3 g4
        injection h with h; subst h
        exact ⟨ok_store_var hi ht hx rfl g1 g2 (Nat.eq_of_beq_eq_true g3) (Nat.le_of_ble_eq_true g4), by simp [RhOk, hr]⟩
      · simp at h
    · simp at h
  · simp at h

def ikEq (a b : IntKind) : Bool := match a, b with
  | .i8, .i8 | .i16, .i16 | .i32, .i32 | .i64, .i64 | .u8, .u8 | .u16, .u16 | .u32, .u32 | .u64, .u64 => true
  | _, _ => false
theorem ikEq_spec {a b : IntKind} (h : ikEq a b = true) : a = b := by cases a <;> cases b <;> first | rfl | (simp [ikEq] at h)

def isShift : BinOp → Bool
  | .shl | .shr => true
  | _ => false

def opBin (tab : List (Nat × TI)) (s : St) (op : BinOp) (xt : TypeId) (x y : Operand) : Option Eff := match evO s x, evO s y with
  | .d (.v (.int i m)), .d (.v (.int j n)) => match isShift op with
    | true => match shOp op i m n with
      | some (v, cs) => some { val := .d (.v v), cond := cs }
      | none => none
    | false => match ikEq i j, intOp op i m n with
      | true, some (v, cs) => some { val := .d (.v v), cond := cs }
      | _, _ => none
  | .d (.v (.string m)), .d (.v (.string n)) => match strOp op m n with
    | some (v, cs) => some { val := .d (.v v), cond := cs }
    | none => none
  | .d (.v (.bool m)), .d (.v (.bool n)) => match lkT xt tab, op with
    | some { k := .bool, .. }, .eql => some { val := .d (.v (.bool (m == n))) }
    | some { k := .bool, .. }, .neq => some { val := .d (.v (.bool (!(m == n)))) }
    | _, _ => none
  | _, _ => none

theorem bool_under {P : Program} {t : TypeId} {i : TI} (hi : tiOf P t = some i) (hk : i.k = .bool) : P.underlying t = some .bool := by
  obtain ⟨inf, d, z, g1, g2, g3, rfl⟩ := tiOf_spec hi
  cases d <;> simp only [kindOf] at hk <;> cases hk
  exact g2

theorem opBin_ok (htab : TabOk E.P tab) {op : BinOp} {xt yt : TypeId} {x y : Operand} (hi : opIn k.nt (.binOp op xt x y yt) = true) (h : opBin tab s op xt x y = some e) : Good E k (.binOp op xt x y yt) ty s e := by
  unfold opBin at h
  split at h
  · rename_i i m j n hx hy
    split at h
    · split at h
      · rename_i v cs hs
        injection h with h; subst h
        exact ⟨ok_shift hi hx hy hs, by simp [RhOk]⟩
      · simp at h
    · split at h
      · rename_i v cs hij hs
        injection h with h; subst h
        exact ⟨ok_int hi hx hy (ikEq_spec hij) hs, by simp [RhOk]⟩
      · simp at h
  · rename_i m n hx hy
    split at h
    · rename_i v cs hs
      injection h with h; subst h
      exact ⟨ok_str hi hx hy hs, by simp [RhOk]⟩
    · simp at h
  · rename_i m n hx hy
    split at h
    · rename_i ht
      injection h with h; subst h
      exact ⟨ok_booleq hi hx hy (bool_under (htab.at ht) rfl) (.inl ⟨rfl, rfl⟩), by simp [RhOk]⟩
    · rename_i ht
      injection h with h; subst h
      exact ⟨ok_booleq hi hx hy (bool_under (htab.at ht) rfl) (.inr ⟨rfl, rfl⟩), by simp [RhOk]⟩
    · simp at h
  · simp at h

def opFieldAddr (tab : List (Nat × TI)) (s : St) (t : TypeId) (x : Operand) (f : Nat) : Option Eff := match lkT t tab with
  | none => none
  | some i => match fieldOff i f with
    | none => none
    | some (off, ft) => match lkT ft tab with
      | none => none
      | some fi => match Nat.beq fi.size 0, evO s x with
        | false, .ptr r q => match lkH r s.h with
          | some ob => some { val := .ptr r (q + off), rh := some (r, ob) }
          | none => none
        | false, .ep cs => some { val := .ep (cs.drop off) }
        | false, .mptr r n q j => match lkH r s.h with
          | some (.buf sz el els) => some { val := .mptr r n q (j + off), rh := some (r, .buf sz el els), cond := [n = els.length] }
          | _ => none
        | _, _ => none

theorem opFieldAddr_ok (htab : TabOk E.P tab) {t : TypeId} {x : Operand} {f : Nat} (hi : opIn k.nt (.fieldAddr t x f) = true) (h : opFieldAddr tab s t x f = some e) : Good E k (.fieldAddr t x f) ty s e := by
  unfold opFieldAddr at h
  split at h
  · simp at h
  rename_i i ht
  split at h
  · simp at h
  rename_i off ft hf
  split at h
  · simp at h
  rename_i fi hfi
  have ht := htab.at ht
  have hfi := htab.at hfi
  split at h
  · rename_i r q hz hx
    have hz' : fi.size ≠ 0 := fun e => by rw [e] at hz; simp at hz
    split at h
    · rename_i ob hr
      injection h with h; subst h
      exact ⟨ok_fieldAddr_ptr hi ht hf hfi hz' hx, by simp [RhOk, hr]⟩
    · simp at h
  · rename_i cs hz hx
    have hz' : fi.size ≠ 0 := fun e => by rw [e] at hz; simp at hz
    injection h with h; subst h
    exact ⟨ok_fieldAddr_ep hi ht hf hfi hz' hx, by simp [RhOk]⟩
  · rename_i r n q j hz hx
    have hz' : fi.size ≠ 0 := fun e => by rw [e] at hz; simp at hz
    split at h
    · rename_i sz el els hr
      injection h with h; subst h
      exact ⟨ok_fieldAddr_mptr hi ht hf hfi hz' hx, by simp [RhOk, hr]⟩
    · simp at h
  · simp at h

def opIndexAddr (tab : List (Nat × TI)) (s : St) (t : TypeId) (x ix : Operand) : Option Eff := match lkT t tab with
  | none => none
  | some i => match i.k, evO s ix with
    | .slice e, .d (.v (.int _ j)) => match lkT e tab with
      | none => none
      | some ei => match evO s x with
        | .d (.sl _ sz els) => match Nat.beq ei.size sz with
          | true => some { val := .ep (els.getD j.toNat []), cond := [0 ≤ j, j < els.length] }
          | false => none
        | .msl r n off len => match lkH r s.h with
          | some (.buf sz el els) => match Nat.beq ei.size sz with
            | true => some { val := .mptr r n (off + j.toNat) 0, rh := some (r, .buf sz el els), cond := [n = els.length, off + len ≤ n, 0 ≤ j, j < len] }
            | false => none
          | _ => none
        | _ => none
    | .array n e, .d (.v (.int _ j)) => match lkT e tab with
      | none => none
      | some ei => match evO s x with
        | .ptr r off => match lkH r s.h with
          | some ob => some { val := .ptr r (off + j.toNat * ei.size), rh := some (r, ob), cond := [0 ≤ j, j < n] }
          | none => none
        | .ep cs => some { val := .ep (cs.drop (j.toNat * ei.size)), cond := [0 ≤ j, j < n] }
        | _ => none
    | _, _ => none

theorem opIndexAddr_ok (htab : TabOk E.P tab) {t : TypeId} {x ix : Operand} (hi : opIn k.nt (.indexAddr t x ix) = true) (h : opIndexAddr tab s t x ix = some e) : Good E k (.indexAddr t x ix) ty s e := by
  unfold opIndexAddr at h
  split at h
  · simp at h
  rename_i i ht
  have ht := htab.at ht
  split at h
  · rename_i e0 ik j hk hj
    split at h
    · simp at h
    rename_i ei he
    have he := htab.at he
    split at h
    · rename_i tight sz els hx
      split at h
      · rename_i hsz
        injection h with h; subst h
        exact ⟨ok_indexAddr_sl hi ht hk he (Nat.eq_of_beq_eq_true hsz) hx hj, by simp [RhOk]⟩
      · simp at h
    · rename_i r n off len hx
      split at h
      · rename_i sz el els hr
        split at h
        · rename_i hsz
          injection h with h; subst h
          exact ⟨ok_indexAddr_msl hi ht hk he (Nat.eq_of_beq_eq_true hsz) hx hj, by simp [RhOk, hr]⟩
        · simp at h
      · simp at h
    · simp at h
  · rename_i n e0 ik j hk hj
    split at h
    · simp at h
    rename_i ei he
    have he := htab.at he
    split at h
    · rename_i r off hx
      split at h
      · rename_i ob hr
        injection h with h; subst h
        exact ⟨ok_indexAddr_arr hi ht hk he hx hj, by simp [RhOk, hr]⟩
      · simp at h
    · rename_i cs hx
      injection h with h; subst h
      exact ⟨ok_indexAddr_ep hi ht hk he hx hj, by simp [RhOk]⟩
    · simp at h
  · simp at h

def opLen (tab : List (Nat × TI)) (s : St) (x : Operand) (t : TypeId) : Option Eff := match lkT t tab with
  | none => none
  | some i => match i.k, evO s x with
    | .str, .d (.v (.string m)) => some { val := .d (.v (.int .i64 m.size)) }
    | .slice _, .d (.sl _ _ els) => some { val := .d (.v (.int .i64 els.length)) }
    | .slice _, .d (.v (.slice _ n _)) => some { val := .d (.v (.int .i64 n)) }
    | .slice _, .msl r n _ len => match lkH r s.h with
      | some (.buf sz el els) => some { val := .d (.v (.int .i64 len)), rh := some (r, .buf sz el els), cond := [n = els.length] }
      | _ => none
    | _, _ => none
theorem opLen_ok (htab : TabOk E.P tab) {t : TypeId} {x : Operand} (hi : opIn k.nt (lenCall x t) = true) (h : opLen tab s x t = some e) : Good E k (lenCall x t) ty s e := by
  unfold opLen at h
  split at h
  · simp at h
  rename_i i ht
  have ht := htab.at ht
  split at h
  · rename_i m hk hx
    injection h with h; subst h
    exact ⟨ok_len_str hi ht hk hx, by simp [RhOk]⟩
  · rename_i e0 tight sz els hk hx
    injection h with h; subst h
    exact ⟨ok_len_sl hi ht hk hx, by simp [RhOk]⟩
  · rename_i e0 ad n c0 hk hx
    injection h with h; subst h
    exact ⟨ok_len_nil hi ht hk hx, by simp [RhOk]⟩
  · rename_i e0 r n off len hk hx
    split at h
    · rename_i sz el els hr
      injection h with h; subst h
      exact ⟨ok_len_msl hi ht hk hx, by simp [RhOk, hr]⟩
    · simp at h
  · simp at h

def opAppend (tab : List (Nat × TI)) (s : St) (d : Nat) (x y : Operand) (t : TypeId) : Option Eff := match lkT t tab with
  | none => none
  | some i => match i.k with
    | .slice e => match lkT e tab with
      | none => none
      | some ei => match Nat.beq ei.zero.length ei.size, Nat.blt 0 ei.size, Nat.blt 0 ei.bytes with
        | true, true, true => match evO s x with
          | .msl r n off len => match Nat.beq off 0, evO s y, lkH r s.h with
            | true, .d (.sl _ sz2 els2), some (.buf sz el els) => match Nat.beq sz2 ei.size, Nat.beq ei.size sz, Nat.beq el e with
              | true, true, true => some { val := .msl r (els.length + els2.length) 0 (els.length + els2.length), rh := some (r, .buf sz el els), wh := some (r, some (.buf sz el (els ++ els2))), cond := [n = els.length, len = n, (els.length + els2.length) * ei.bytes ≤ 140737488355328] }
              | _, _, _ => none
            | _, _, _ => none
          | z => match slOf ei.size z, slOf ei.size (evO s y) with
            | some (true, []), some (_, els2) => some { val := .msl d els2.length 0 els2.length, wh := some (d, some (.buf ei.size e els2)), new := some d, cond := [els2.length * ei.bytes ≤ 140737488355328] }
            | _, _ => none
        | _, _, _ => none
    | _ => none

theorem opAppend_ok (htab : TabOk E.P tab) {t : TypeId} {x y : Operand} {d : Nat} (hi : opIn k.nt (appCall x y t) = true) (h : opAppend tab s d x y t = some e) : Good E k (appCall x y t) ty s e := by
  unfold opAppend at h
  split at h
  · simp at h
  rename_i i ht
  have ht := htab.at ht
  split at h
  · rename_i e0 hk
    split at h
    · simp at h
    rename_i ei he
    have he := htab.at he
    split at h
    · rename_i hz hpos hby
      have hz := Nat.eq_of_beq_eq_true hz
      have hpos : 0 < ei.size := by simpa using hpos
      have hby : 0 < ei.bytes := by simpa using hby
      split at h
      · rename_i r n off len hx
        split at h
        · rename_i tight sz2 els2 sz el els h0 hy hr
          split at h
          · rename_i q1 q2 q3
            injection h with h; subst h
            have := Nat.eq_of_beq_eq_true h0; subst this
            have := Nat.eq_of_beq_eq_true q1; subst this
            have q2 := Nat.eq_of_beq_eq_true q2
            have := Nat.eq_of_beq_eq_true q3; subst this
            subst q2
            refine ⟨fun c Im ρ F H a w o g1 g2 g3 g4 g5 g6 g7 g8 g9 g10 => ?_, by simp [RhOk, hr]⟩
            obtain ⟨c1, c2, c3, _⟩ := g10
            subst c2
            exact ok_append_msl hi ht hk he rfl hz hpos hby hx hy c Im ρ F H a w o g1 g2 g3 g4 g5 g6 g7 g8 g9 ⟨c1, c3, trivial⟩
          · simp at h
        · simp at h
      · rename_i z hnot
        split at h
        · rename_i q1 tight els2 hx hy
          injection h with h; subst h
          have := ok_append_new (E := E) (ty := ty) (d := d) hi ht hk he rfl hz hpos hby hx hy rfl
          simp only [List.length_nil, Nat.zero_add, List.nil_append] at this
          exact ⟨this, by simp [RhOk]⟩
        · simp at h
    · simp at h
  · simp at h

def opSlice (tab : List (Nat × TI)) (s : St) (t : TypeId) (x : Operand) (lo hi : Option Operand) : Option Eff := match lkT t tab, intOf s lo, intOf s hi with
  | some i, some jl, some jh => match i.k with
    | .str => match evO s x with
      | .d (.v (.string m)) => some { val := .d (.v (.string (m.extract (jl.getD 0).toNat (jh.getD m.size).toNat))), cond := [0 ≤ jl.getD 0, jl.getD 0 ≤ jh.getD m.size, jh.getD m.size ≤ m.size] }
      | _ => none
    | .slice e => match lkT e tab with
      | none => none
      | some ei => match evO s x with
        | .msl r n off len => match Nat.beq off 0, lkH r s.h with
          | true, some (.buf sz el els) => match Nat.beq ei.size sz with
            | true => some { val := .msl r n (jl.getD 0).toNat ((jh.getD len).toNat - (jl.getD 0).toNat), rh := some (r, .buf sz el els), cond := [n = els.length, len ≤ n, 0 ≤ jl.getD 0, jl.getD 0 ≤ jh.getD len, jh.getD len ≤ len] }
            | false => none
          | _, _ => none
        | z => match slOf ei.size z with
          | some (_, els) => some { val := .d (.sl false ei.size ((els.drop (jl.getD 0).toNat).take ((jh.getD els.length).toNat - (jl.getD 0).toNat))), cond := [0 ≤ jl.getD 0, jl.getD 0 ≤ jh.getD els.length, jh.getD els.length ≤ els.length] }
          | none => none
    | _ => none
  | _, _, _ => none
theorem opSlice_ok (htab : TabOk E.P tab) {t : TypeId} {x : Operand} {lo hi : Option Operand} (hin : opIn k.nt (.slice t x lo hi none) = true) (h : opSlice tab s t x lo hi = some e) : Good E k (.slice t x lo hi none) ty s e := by
  unfold opSlice at h
  split at h
  · rename_i i jl jh ht hl hh
    have ht := htab.at ht
    split at h
    · rename_i hk
      split at h
      · rename_i m hx
        injection h with h; subst h
        exact ⟨ok_slice_str hin ht hk hx hl hh, by simp [RhOk]⟩
      · simp at h
    · rename_i e0 hk
      split at h
      · simp at h
      rename_i ei he
      have he := htab.at he
      split at h
      · rename_i r n off len hx
        split at h
        · rename_i sz el els h0 hr
          split at h
          · rename_i hsz
            injection h with h; subst h
            have := Nat.eq_of_beq_eq_true h0; subst this
            exact ⟨ok_slice_msl hin ht hk he (Nat.eq_of_beq_eq_true hsz) hx hl hh, by simp [RhOk, hr]⟩
          · simp at h
        · simp at h
      · rename_i z hnot
        split at h
        · rename_i tight els hx
          injection h with h; subst h
          exact ⟨ok_slice_sl hin ht hk he rfl hx hl hh, by simp [RhOk]⟩
        · simp at h
    · simp at h
  · simp at h

end ops
end Go.Ax
