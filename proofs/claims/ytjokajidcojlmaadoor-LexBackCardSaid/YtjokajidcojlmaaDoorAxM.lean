/- Abstract execution, part M: the rest of the one function; regions; code. -/
import Derived.Test.YtjokajidcojlmaaDoorAxLf
namespace Go.Ax

section ops
variable {E : Env} {k : Kn} {ty : TypeId} {s : St} {tab : List (Nat × TI)} {e : Eff}

def opPick (s : St) (c0 x y : Operand) : Option Eff := match evO s c0 with
  | .d (.v (.bool b)) => match evO s x, evO s y with
    | .d (.v (.bool p)), .d (.v (.bool q)) => some { val := .d (.v (.bool (cond b p q))) }
    | z, u => match b with
      | true => some { val := z }
      | false => some { val := u }
  | _ => none
theorem opPick_ok {c0 x y : Operand} (hi : opIn k.nt (.pick c0 x y) = true) (h : opPick s c0 x y = some e) : Good E k (.pick c0 x y) ty s e := by
  unfold opPick at h
  split at h
  · rename_i b hc
    split at h
    · rename_i p q hx hy
      injection h with h; subst h
      exact ⟨ok_pick hi hc (by rw [hx, hy]; cases b <;> rfl), by simp [RhOk]⟩
    · split at h
      · injection h with h; subst h
        exact ⟨ok_pick hi hc (by simp), by simp [RhOk]⟩
      · injection h with h; subst h
        exact ⟨ok_pick hi hc (by simp), by simp [RhOk]⟩
  · simp at h

def opNot (s : St) (x : Operand) : Option Eff := match evO s x with
  | .d (.v (.bool b)) => some { val := .d (.v (.bool (!b))) }
  | _ => none
theorem opNot_ok {xt : TypeId} {x : Operand} (hi : opIn k.nt (.unOp .not xt x) = true) (h : opNot s x = some e) : Good E k (.unOp .not xt x) ty s e := by
  unfold opNot at h
  split at h
  · rename_i b hc
    injection h with h; subst h
    exact ⟨ok_not hi hc, by simp [RhOk]⟩
  · simp at h

def opNil (s : St) (x : Operand) : Option Eff := match evO s x with
  | .ptr r off => match lkH r s.h with
    | some ob => some { val := .ptr r off, rh := some (r, ob) }
    | none => none
  | .ep cs => some { val := .ep cs }
  | .clo (.func f) fs cs => some { val := .clo (.func f) fs cs }
  | _ => none
theorem opNil_ok {x : Operand} (hi : opIn k.nt (.nilCheck x) = true) (h : opNil s x = some e) : Good E k (.nilCheck x) ty s e := by
  unfold opNil at h
  split at h
  · rename_i r off hx
    split at h
    · rename_i ob hr
      injection h with h; subst h
      exact ⟨ok_nilCheck_ptr hi hx, by simp [RhOk, hr]⟩
    · simp at h
  · rename_i cs hx
    injection h with h; subst h
    exact ⟨ok_nilCheck_ep hi hx, by simp [RhOk]⟩
  · rename_i f fs cs hx
    injection h with h; subst h
    exact ⟨ok_nilCheck_clo hi hx, by simp [RhOk]⟩
  · simp at h

def opField (tab : List (Nat × TI)) (s : St) (t : TypeId) (x : Operand) (f : Nat) : Option Eff := match lkT t tab with
  | none => none
  | some i => match fieldOff i f with
    | none => none
    | some (off, ft) => match lkT ft tab with
      | none => none
      | some fi => match okTI fi, evO s x with
        | true, .dagg cs => some { val := loadD fi (eszOf tab fi) cs off, cond := loadC fi (eszOf tab fi) cs off }
        | _, _ => none
theorem opField_ok (htab : TabOk E.P tab) {t : TypeId} {x : Operand} {f : Nat} (hi : opIn k.nt (.field t x f) = true) (h : opField tab s t x f = some e) : Good E k (.field t x f) ty s e := by
  unfold opField at h
  split at h
  · simp at h
  rename_i i ht
  split at h
  · simp at h
  rename_i off ft hf
  split at h
  · simp at h
  rename_i fi hfi
  split at h
  · rename_i cs hok hx
    injection h with h; subst h
    exact ⟨(ok_field_dagg (esz := eszOf tab fi) hi (htab.at ht) hf (htab.at hfi) (okTI_spec hok) hx).cond fun hc => let ⟨a, b⟩ := loadC_spec hc; ⟨a, b, trivial⟩, by simp [RhOk]⟩
  · simp at h

def nth {α : Type} : List α → Nat → Option α
  | [], _ => none
  | x :: _, 0 => some x
  | _ :: xs, n + 1 => nth xs n
theorem nth_eq {α : Type} : ∀ (l : List α) (n : Nat), nth l n = l[n]?
  | [], n => by simp [nth]
  | x :: xs, 0 => by simp [nth]
  | x :: xs, n + 1 => by simp [nth, nth_eq xs n]

def opExtract (s : St) (x : Operand) (j : Nat) : Option Eff := match evO s x with
  | .tup vs => match nth vs j with
    | some y => some { val := y }
    | none => none
  | _ => none
theorem opExtract_ok {x : Operand} {j : Nat} (hi : opIn k.nt (.extract x j) = true) (h : opExtract s x j = some e) : Good E k (.extract x j) ty s e := by
  unfold opExtract at h
  split at h
  · rename_i vs hx
    split at h
    · rename_i y hy
      injection h with h; subst h
      exact ⟨ok_extract hi hx (by rw [← nth_eq]; exact hy), by simp [RhOk]⟩
    · simp at h
  · simp at h

/-- Is it strings.Builder's type (its first field a pointer to itself), or a struct of one alone? -/
def isBld1 (tab : List (Nat × TI)) (t : TypeId) : Bool := match lkT t tab with
  | some i => match i.k with
    | .struct [(0, p), (1, _)] => match lkT p tab with
      | some ip => match ip.k with
        | .ptr q => Nat.beq q t
        | _ => false
      | none => false
    | _ => false
  | none => false
def isBld (tab : List (Nat × TI)) (t : TypeId) : Bool := match isBld1 tab t with
  | true => true
  | false => match lkT t tab with
    | some i => match i.k with
      | .struct [(0, b)] => isBld1 tab b
      | _ => false
    | none => false
def opAlloc (tab : List (Nat × TI)) (d : Nat) (t : TypeId) : Option Eff := match lkT t tab with
  | none => none
  | some i => match i.zero.all (·.oneCell') with
    | true => match isBld tab t with
      | true => some { val := .ptr d 0, wh := some (d, some (.tvar t (i.zero.map .v))), new := some d }
      | false => some { val := .ptr d 0, wh := some (d, some (.dvar i.zero.length (i.zero.map .v))), new := some d }
    | false => none
theorem opAlloc_ok (htab : TabOk E.P tab) {t : TypeId} {d : Nat} (h : opAlloc tab d t = some e) : Good E k (.alloc t) ty s e := by
  unfold opAlloc at h
  split at h
  · simp at h
  rename_i i ht
  split at h
  · rename_i hz
    split at h
    · injection h with h; subst h
      exact ⟨ok_allocT (htab.at ht) hz, by simp [RhOk]⟩
    · injection h with h; subst h
      exact ⟨ok_alloc (htab.at ht) hz, by simp [RhOk]⟩
  · simp at h

def opBox (s : St) (d : Nat) (x : Operand) : Option Eff := match okBox (evO s x), (evO s x).ment d with
  | true, false => some { val := .ptr d 0, wh := some (d, some (objOf (evO s x))), new := some d }
  | _, _ => none
theorem opBox_ok {t : TypeId} {x : Operand} {d : Nat} (hi : opIn k.nt (.box t x) = true) (h : opBox s d x = some e) : Good E k (.box t x) ty s e := by
  unfold opBox at h
  split at h
  · rename_i h1 h2
    injection h with h; subst h
    exact ⟨ok_box hi rfl h1 h2, by simp [RhOk]⟩
  · simp at h

def opBuild (tab : List (Nat × TI)) (s : St) (t : TypeId) (parts : Array (Nat × Operand)) : Option Eff := match lkT t tab with
  | none => none
  | some i => match i.k with
    | .struct fs => match fs.all (fun p => (lkT p.2 tab).isSome), i.zero.all (·.oneCell'), partsD s parts.toList with
      | true, true, some ps => match fillD (placeOf tab i) (i.zero.map .v) ps with
        | some out => some { val := .dagg out, cond := [fillC (placeOf tab i) i.zero.length ps] }
        | none => none
      | _, _, _ => none
    | _ => none
theorem opBuild_ok (htab : TabOk E.P tab) {t : TypeId} {parts : Array (Nat × Operand)} (hi : opIn k.nt (.build t parts) = true) (h : opBuild tab s t parts = some e) : Good E k (.build t parts) ty s e := by
  unfold opBuild at h
  split at h
  · simp at h
  rename_i i ht
  split at h
  · rename_i fs hk
    split at h
    · rename_i ps h1 h2 h3
      split at h
      · rename_i out ho
        injection h with h; subst h
        exact ⟨ok_build_struct htab hi ht hk h1 h2 h3 ho, by simp [RhOk]⟩
      · simp at h
    · simp at h
  · simp at h

def lensC (sz : Nat) : List (List D) → List Prop
  | [] => []
  | q :: r => (q.length = sz) :: lensC sz r
theorem lensC_spec {sz : Nat} : ∀ {els : List (List D)}, AllL (lensC sz els) → ∀ q ∈ els, q.length = sz
  | [], _, q, h => by simp at h
  | p :: r, hc, q, h => by
    rcases List.mem_cons.1 h with rfl | h
    · exact hc.1
    · exact lensC_spec hc.2 q h

def opBuildSlice (tab : List (Nat × TI)) (s : St) (t : TypeId) (n : Nat) (parts : Array (Nat × Operand)) : Option Eff := match lkT t tab with
  | none => none
  | some i => match i.k with
    | .slice e => match lkT e tab with
      | none => none
      | some ei => match Nat.beq ei.zero.length ei.size, Nat.ble (n * ei.size) 16777216, partsS s ei.size 0 parts.toList with
        | true, true, some els => match Nat.beq els.length n with
          | true => some { val := .d (.sl true ei.size els), cond := lensC ei.size els }
          | false => none
        | _, _, _ => none
    | _ => none
theorem opBuildSlice_ok (htab : TabOk E.P tab) {t : TypeId} {n : Nat} {parts : Array (Nat × Operand)} (hi : opIn k.nt (.buildSlice t n parts) = true) (h : opBuildSlice tab s t n parts = some e) : Good E k (.buildSlice t n parts) ty s e := by
  unfold opBuildSlice at h
  split at h
  · simp at h
  rename_i i ht
  split at h
  · rename_i e0 hk
    split at h
    · simp at h
    rename_i ei he
    split at h
    · rename_i els h1 h2 h3
      split at h
      · rename_i h4
        injection h with h; subst h
        exact ⟨(ok_buildSlice hi (htab.at ht) hk (htab.at he) (Nat.eq_of_beq_eq_true h1) (Nat.le_of_ble_eq_true h2) h3 (Nat.eq_of_beq_eq_true h4)).cond fun hc => ⟨lensC_spec hc, trivial⟩, by simp [RhOk]⟩
      · simp at h
    · simp at h
  · simp at h

def opConvert (tab : List (Nat × TI)) (s : St) (src dst : TypeId) (x : Operand) : Option Eff := match lkT src tab, lkT dst tab with
  | some si, some di => match si.k, di.k, evO s x with
    | .int _, .int dk, .d (.v (.int _ n)) => some { val := .d (.v (.int dk (dk.wrap n))) }
    | .str, .str, .d (.v (.string m)) => some { val := .d (.v (.string m)) }
    | _, _, _ => none
  | _, _ => none
theorem opConvert_ok (htab : TabOk E.P tab) {src dst : TypeId} {x : Operand} (hi : opIn k.nt (.convert src dst x) = true) (h : opConvert tab s src dst x = some e) : Good E k (.convert src dst x) ty s e := by
  unfold opConvert at h
  split at h
  · rename_i si di h1 h2
    split at h
    · rename_i sk dk ik n hs hd hx
      injection h with h; subst h
      exact ⟨ok_convert_int hi (htab.at h1) hs (htab.at h2) hd hx, by simp [RhOk]⟩
    · rename_i m hs hd hx
      injection h with h; subst h
      exact ⟨ok_convert_str hi (htab.at h1) hs (htab.at h2) hd hx, by simp [RhOk]⟩
    · simp at h
  · simp at h

/-- What an operation comes to; none: not told here. d: the slot that it writes (a new object's id, too). -/
def opR (tab : List (Nat × TI)) (s : St) (d : Nat) (op : Op) : Option Eff := match op with
  | .move x => some { val := evO s x }
  | .assign x => some { val := evO s x }
  | .pick c x y => opPick s c x y
  | .unOp .not _ x => opNot s x
  | .binOp b xt x y _ => match opBin tab s b xt x y with
    | some e => some e
    | none => opBinX tab s b xt x y
  | .load t x => opLoad tab s t x
  | .store t x y => opStore tab s t x y
  | .nilCheck x => opNil s x
  | .fieldAddr t x f => opFieldAddr tab s t x f
  | .field t x f => opField tab s t x f
  | .indexAddr t x ix => opIndexAddr tab s t x ix
  | .index t x ix => match lkT t tab, evO s x, evO s ix with
    | some { k := .str, .. }, .d (.v (.string m)), .d (.v (.int _ j)) => some { val := .d (.v (.int .u8 (byteAt m j))), cond := [0 ≤ j, j < m.size] }
    | _, _, _ => none
  | .extract x j => opExtract s x j
  | .alloc t => opAlloc tab d t
  | .box _ x => opBox s d x
  | .build t parts => opBuild tab s t parts
  | .buildSlice t n parts => opBuildSlice tab s t n parts
  | .convert src dst x => match opConvert tab s src dst x with
    | some e => some e
    | none => opConvX tab s src dst x
  | .makeFunc f first caps => some { val := .clo f (evL s first.toList) (evL s caps.toList) }
  | .slice t x lo hi none => match opSlice tab s t x lo hi with
    | some e => some e
    | none => opSliceX tab s t x lo hi
  | .call { callee := .builtin .len, args := ⟨[x]⟩, argTypes := ⟨[t]⟩ } => match opLen tab s x t with
    | some e => some e
    | none => opLenX tab s x t
  | .call { callee := .builtin .append, args := ⟨[x, y]⟩, argTypes := ⟨[t, t']⟩ } => match Nat.beq t t' with
    | true => opAppend tab s d x y t
    | false => none
  | op => opX tab s d op

theorem opR_ok (htab : TabOk E.P tab) {d : Nat} {op : Op} (hi : opIn k.nt op = true) (h : opR tab s d op = some e) : Good E k op ty s e := by
  unfold opR at h
  split at h
  · injection h with h; subst h; exact ⟨ok_move (by simpa [opIn, Op.operands] using hi), by simp [RhOk]⟩
  · injection h with h; subst h; exact ⟨ok_assign (by simpa [opIn, Op.operands] using hi), by simp [RhOk]⟩
  · exact opPick_ok hi h
  · exact opNot_ok hi h
  · split at h
    · rename_i hb; injection h with h; subst h; exact opBin_ok htab hi hb
    · exact opBinX_ok htab hi h
  · exact opLoad_ok htab hi h
  · exact opStore_ok htab hi h
  · exact opNil_ok hi h
  · exact opFieldAddr_ok htab hi h
  · exact opField_ok htab hi h
  · exact opIndexAddr_ok htab hi h
  · split at h
    · rename_i m ik j ht hx hj
      injection h with h; subst h
      exact ⟨ok_index_str hi (htab.at ht) rfl hx hj, by simp [RhOk]⟩
    · simp at h
  · exact opExtract_ok hi h
  · exact opAlloc_ok htab h
  · exact opBox_ok hi h
  · exact opBuild_ok htab hi h
  · exact opBuildSlice_ok htab hi h
  · split at h
    · rename_i hb; injection h with h; subst h; exact opConvert_ok htab hi hb
    · exact opConvX_ok htab hi h
  · injection h with h; subst h; exact ⟨ok_makeFunc hi, by simp [RhOk]⟩
  · split at h
    · rename_i hb; injection h with h; subst h; exact opSlice_ok htab hi hb
    · exact opSliceX_ok htab hi h
  · split at h
    · rename_i hb; injection h with h; subst h; exact opLen_ok htab hi hb
    · exact opLenX_ok htab hi h
  · split at h
    · rename_i hb
      have := Nat.eq_of_beq_eq_true hb; subst this
      exact opAppend_ok htab hi h
    · simp at h
  · exact opX_ok htab hi h

end ops

/-! ### Regions -/
/-- Nothing in a list names an object. -/
def unmF (r : Nat) : List (Nat × AV) → Bool
  | [] => true
  | (_, v) :: l => match v.ment r with
    | true => false
    | false => unmF r l
def unmH (r : Nat) : HL → Bool
  | [] => true
  | (_, some o) :: l => match o.ment r with
    | true => false
    | false => unmH r l
  | (_, none) :: l => unmH r l
def memN (r : Nat) : List Nat → Bool
  | [] => false
  | x :: l => match Nat.beq x r with
    | true => true
    | false => memN r l
def unmB (anc : List Nat) (r : Nat) (s : St) : Bool := match memN r anc, unmF r s.f, unmH r s.h, lkH r s.h with
  | false, true, true, none => true
  | _, _, _, _ => false

theorem unmF_spec {r : Nat} : ∀ {l : List (Nat × AV)}, unmF r l = true → ∀ t, (lk t l).ment r = false
  | [], _, t => by simp [lk, AV.ment]
  | (k, v) :: l, h, t => by
    simp only [unmF] at h
    cases hm : v.ment r with
    | true => simp [hm] at h
    | false =>
      simp only [hm] at h
      simp only [lk]
      cases Nat.beq k t with
      | true => exact hm
      | false => exact unmF_spec h t
theorem unmH_spec {r : Nat} : ∀ {l : HL}, unmH r l = true → ∀ q o, lkH q l = some o → o.ment r = false
  | [], _, q, o, h => by simp [lkH] at h
  | (k, some v) :: l, h, q, o, ho => by
    simp only [unmH] at h
    cases hm : v.ment r with
    | true => simp [hm] at h
    | false =>
      simp only [hm] at h
      simp only [lkH] at ho
      cases hb : Nat.beq k q with
      | true => simp only [hb] at ho; injection ho with ho; subst ho; exact hm
      | false => simp only [hb] at ho; exact unmH_spec h q o ho
  | (k, none) :: l, h, q, o, ho => by
    simp only [unmH] at h
    simp only [lkH] at ho
    cases hb : Nat.beq k q with
    | true => simp [hb] at ho
    | false => simp only [hb] at ho; exact unmH_spec h q o ho
theorem memN_spec {r : Nat} : ∀ {l : List Nat}, memN r l = false → r ∉ l
  | [], _ => by simp
  | x :: l, h => by
    simp only [memN] at h
    cases hb : Nat.beq x r with
    | true => simp [hb] at h
    | false =>
      simp only [hb] at h
      intro hm
      rcases List.mem_cons.1 hm with rfl | hm
      · simp at hb
      · exact memN_spec h hm
theorem unmB_spec {c : Cx} {r : Nat} {s : St} (h : unmB c.anc r s = true) : Unm c r s.F s.H := by
  unfold unmB at h
  split at h
  · rename_i h1 h2 h3 h4
    exact ⟨memN_spec h1, unmF_spec h2, unmH_spec h3, h4⟩
  · simp at h

def condP : List Prop → Prop → Prop
  | [], p => p
  | c :: cs, p => c ∧ condP cs p
theorem condP_spec : ∀ {cs : List Prop} {p : Prop}, condP cs p → AllL cs ∧ p
  | [], _, h => ⟨trivial, h⟩
  | _ :: _, _, h => let ⟨a, b⟩ := condP_spec h.2; ⟨⟨h.1, a⟩, b⟩

def St.after (s : St) (dst : Option Tmp) (e : Eff) : St :=
  { f := match dst with
      | some d => (d, e.val) :: s.f
      | none => s.f
    h := match e.wh with
      | some p => p :: s.h
      | none => s.h }

/-- What is called: a function and what is captured. -/
def calleeOf (s : St) : Operand → Option (FuncId × List AV)
  | .func f => some (f, [])
  | .tmp t => match lk t s.f with
    | .clo (.func f) [] caps => some (f, caps)
    | _ => none
  | _ => none

/-- A call: met by a contract of what is called. -/
structure CallP (E : Env) (k : Kn) (f : FuncId) (args : List AV) (s : St) (K : AV → HL → Prop) (KP : List PanicEntry → HL → Prop) : Prop where
  ok : ∃ hin post, Ctr E f args hin post ∧ (∀ r o, lkH r hin = some o → lkH r s.h = some o) ∧
    (∀ res ho, post (.ret res ho) → (∀ r o, lkH r ho = some o → (∃ o', lkH r hin = some o') ∨ unmB k.anc r s = true) ∧ K res (s.back hin ho)) ∧
    (∀ ch ho, post (.pan ch ho) → (∀ r o, lkH r ho = some o → (∃ o', lkH r hin = some o') ∨ unmB k.anc r s = true) ∧ KP ch (s.back hin ho))

def isNoneG : Option (Nat × Bool) → Bool
  | none => true
  | some _ => false
def dstIn (n : Nat) : Option Tmp → Bool
  | none => true
  | some d => Nat.blt d n
def dstOf : Option Tmp → Nat
  | none => 0
  | some d => d
def newOk (anc : List Nat) (s : St) : Option Nat → Bool
  | none => true
  | some r => unmB anc r s

/-- Is the operation wanted? (Its guard: another operation's slot.) The slot's bool, and which one is wanted. -/
def guardV (ops : List Oper) (s : St) : Option (Nat × Bool) → Option (Bool × Bool)
  | none => some (true, true)
  | some (j, want) => match nth ops j with
    | some o => match o.dst with
      | some d => match lk d s.f with
        | .d (.v (.bool b)) => some (b, want)
        | .tup [] => some (!want, want)
        | _ => none
      | none => none
    | none => none

def ifB (b : Bool) (p q : Prop) : Prop := match b with
  | true => p
  | false => q
theorem ifB_true {b : Bool} {p q : Prop} (h : b = true) (hp : p) : ifB b p q := by subst h; exact hp
theorem ifB_false {b : Bool} {p q : Prop} (h : b = false) (hq : q) : ifB b p q := by subst h; exact hq
theorem ifB_intro {b : Bool} {p q : Prop} (h1 : b = true → p) (h2 : b = false → q) : ifB b p q := by cases b; exact h2 rfl; exact h1 rfl

def St.set (s : St) (dst : Option Tmp) (x : AV) (h : HL) : St :=
  { f := match dst with
      | some d => (d, x) :: s.f
      | none => s.f
    h }

/-! The same, its parts reckoned at once. -/
def strictD (x : D) (K : D → Prop) : Prop := match x with
  | .v (.int k n) => K (.v (.int k n))
  | .v (.bool b) => K (.v (.bool b))
  | .v (.string m) => K (.v (.string m))
  | .v y => K (.v y)
  | .sl t z e => K (.sl t z e)
def strictV (v : AV) (K : AV → Prop) : Prop := match v with
  | .junk => K .junk
  | .d x => strictD x fun x => K (.d x)
  | .dagg cs => K (.dagg cs)
  | .agg cs => K (.agg cs)
  | .tup vs => K (.tup vs)
  | .ptr r o => K (.ptr r o)
  | .ep cs => K (.ep cs)
  | .msl r n o l => K (.msl r n o l)
  | .mptr r n i j => K (.mptr r n i j)
  | .mp r => K (.mp r)
  | .clo f a b => K (.clo f a b)
  | .ifc t x => K (.ifc t x)
def strictL : List AV → (List AV → Prop) → Prop
  | [], K => K []
  | x :: xs, K => strictV x fun x => strictL xs fun xs => K (x :: xs)
def strictO (o : Option AObj) (K : Option AObj → Prop) : Prop := match o with
  | none => K none
  | some (.var cs) => K (some (.var cs))
  | some (.dvar n cs) => K (some (.dvar n cs))
  | some (.buf z t e) => K (some (.buf z t e))
  | some (.map a es) => K (some (.map a es))
  | some (.siter m p) => K (some (.siter m p))
  | some (.tvar t cs) => K (some (.tvar t cs))
  | some (.ext R) => K (some (.ext R))
def strictH : HL → (HL → Prop) → Prop
  | [], K => K []
  | (r, o) :: h, K => strictO o fun o => strictH h fun h => K ((r, o) :: h)
theorem strictD_spec {x : D} {K : D → Prop} (h : strictD x K) : K x := by
  unfold strictD at h; split at h <;> exact h
theorem strictV_spec {v : AV} {K : AV → Prop} (h : strictV v K) : K v := by
  unfold strictV at h; split at h <;> first | exact h | exact strictD_spec h
theorem strictL_spec : ∀ {l : List AV} {K : List AV → Prop}, strictL l K → K l
  | [], _, h => h
  | _ :: xs, K, h => strictL_spec (l := xs) (K := fun xs => K (_ :: xs)) (strictV_spec (K := fun x => strictL xs fun xs => K (x :: xs)) h)
theorem strictO_spec {o : Option AObj} {K : Option AObj → Prop} (h : strictO o K) : K o := by
  unfold strictO at h; split at h <;> exact h
theorem strictH_spec : ∀ {l : HL} {K : HL → Prop}, strictH l K → K l
  | [], _, h => h
  | (r, _) :: hs, K, h => strictH_spec (l := hs) (K := fun hs => K ((r, _) :: hs)) (strictO_spec (K := fun o => strictH hs fun hs => K ((r, o) :: hs)) h)

def skipP (s : St) (dst : Option Tmp) (K : St → Prop) : Prop := match s with
  | ⟨f, h⟩ => match dst with
    | some d => K ⟨(d, .tup []) :: f, h⟩
    | none => K ⟨f, h⟩
theorem skipP_spec {s : St} {dst : Option Tmp} {K : St → Prop} (hp : skipP s dst K) : K (s.set dst (.tup []) s.h) := by
  unfold skipP at hp
  cases dst <;> exact hp

def setP (s : St) (dst : Option Tmp) (x : AV) (h : HL) (K : St → Prop) : Prop := match s with
  | ⟨f, _⟩ => match dst with
    | some d => strictV x fun x => K ⟨(d, x) :: f, h⟩
    | none => K ⟨f, h⟩
theorem setP_spec {s : St} {dst : Option Tmp} {x : AV} {h : HL} {K : St → Prop} (hp : setP s dst x h K) : K (s.set dst x h) := by
  unfold setP at hp
  cases dst with
  | none => exact hp
  | some d => exact strictV_spec hp
def afterP (s : St) (dst : Option Tmp) (val : AV) (wh : Option (Nat × Option AObj)) (K : St → Prop) : Prop := match s with
  | ⟨f, h⟩ => match wh with
    | some (r, o) => strictO o fun o => setP ⟨f, h⟩ dst val ((r, o) :: h) K
    | none => setP ⟨f, h⟩ dst val h K
theorem afterP_spec {s : St} {dst : Option Tmp} {e : Eff} {K : St → Prop} (hp : afterP s dst e.val e.wh K) : K (s.after dst e) := by
  unfold afterP at hp
  split at hp
  rename_i f h
  split at hp
  · rename_i r o hw
    have := setP_spec (strictO_spec hp)
    simp only [St.after, hw]; exact this
  · rename_i hw
    have := setP_spec hp
    simp only [St.after, hw]; exact this

def withDst (dst : Option Tmp) (K : Nat → Prop) : Prop := match dst with
  | some d => K d
  | none => K 0
theorem withDst_spec {dst : Option Tmp} {K : Nat → Prop} (h : withDst dst K) : K (dstOf dst) := by cases dst <;> exact h

/-- One operation, then what follows. -/
def opP (E : Env) (tab : List (Nat × TI)) (k : Kn) (KP : List PanicEntry → St → Prop) (o : Oper) (s : St) (K : St → Prop) : Prop := match o.op with
  | .call { callee := .value f, args, argTypes := _ } => match calleeOf s f, args.toList.all (inN k.nt), inN k.nt f with
    | some (fid, caps), true, true => strictL (evL s args.toList ++ caps) fun vs => CallP E k fid vs s (fun res h => strictH h fun h => setP s o.dst res h K) (fun ch h => KP ch { f := s.f, h })
    | _, _, _ => False
  | op => withDst o.dst fun d => match opIn k.nt op, opR tab s d op with
    | true, some ⟨val, _, wh, new, cond⟩ => match newOk k.anc s new with
      | true => condP cond (afterP s o.dst val wh K)
      | false => False
    | true, none => match opS s op with
      | some (b, ⟨v1, _, w1, none, c1⟩, ⟨v2, _, w2, none, c2⟩) => ifB b (condP c1 (afterP s o.dst v1 w1 K)) (condP c2 (afterP s o.dst v2 w2 K))
      | some _ => False
      | none => match opNilSl tab s op with
        | some (.eql, els) => ∀ b : Bool, (b = true → els = []) → afterP s o.dst (.d (.v (.bool b))) none K
        | some (.neq, els) => ∀ b : Bool, (b = true → els = []) → afterP s o.dst (.d (.v (.bool (!b)))) none K
        | some _ => False
        | none => match opG E.gl tab s op with
          | some ⟨val, _, wh, none, cond⟩ => condP cond (afterP s o.dst val wh K)
          | _ => False
    | _, _ => False

/-- The operations one behind the other. -/
def runP (E : Env) (tab : List (Nat × TI)) (k : Kn) (ops : List Oper) (K : St → Prop) (KP : List PanicEntry → St → Prop) : List Oper → St → Prop
  | [], s => K s
  | o :: rest, s => match dstIn k.nt o.dst, guardV ops s o.guard with
    | true, some (b, want) => match want with
      | true => ifB b (opP E tab k KP o s (runP E tab k ops K KP rest)) (skipP s o.dst (runP E tab k ops K KP rest))
      | false => ifB b (skipP s o.dst (runP E tab k ops K KP rest)) (opP E tab k KP o s (runP E tab k ops K KP rest))
    | _, _ => False

end Go.Ax
