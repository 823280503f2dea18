/- What the card of this claim stands on, or the card itself: for every input, as the given row says. -/
import Derived.RangeFuncRecord
import Derived.Test.YtdobclfcondfcaaGreatDoorBA04

namespace Go.Ax
section ops
variable {E : Env} {k : Kn} {ty : TypeId} {s : St} {tab : List (Nat × TI)} {e : Eff}
def opPick (s : St) (c0 x y : Operand) : Option Eff := match evO s c0 with
  | .d (.v (.bool b)) => match evO s x, evO s y with
    | .d (.v (.bool p)), .d (.v (.bool q)) => some { val := .d (.v (.bool (cond b p q))) }
    | z, u => match b with
      | true => some { val := z }
      | false => some { val := u }
  | _ => none
theorem opPick_ok {c0 x y : Operand} (hi : opIn k.nt (.pick c0 x y) = true) (h : opPick s c0 x y = some e) : Good E k (.pick c0 x y) ty s e := by
  unfold opPick at h
  split at h
  · rename_i b hc
    split at h
    · rename_i p q hx hy
      injection h with h; subst h
      exact ⟨ok_pick hi hc (by rw [hx, hy]; cases b <;> rfl), by simp [RhOk]⟩
    · split at h
      · injection h with h; subst h
        exact ⟨ok_pick hi hc (by simp), by simp [RhOk]⟩
      · injection h with h; subst h
        exact ⟨ok_pick hi hc (by simp), by simp [RhOk]⟩
  · simp at h
def opNot (s : St) (x : Operand) : Option Eff := match evO s x with
  | .d (.v (.bool b)) => some { val := .d (.v (.bool (!b))) }
  | _ => none
theorem opNot_ok {xt : TypeId} {x : Operand} (hi : opIn k.nt (.unOp .not xt x) = true) (h : opNot s x = some e) : Good E k (.unOp .not xt x) ty s e := by
  unfold opNot at h
  split at h
  · rename_i b hc
    injection h with h; subst h
    exact ⟨ok_not hi hc, by simp [RhOk]⟩
  · simp at h
def opNil (s : St) (x : Operand) : Option Eff := match evO s x with
  | .ptr r off => match lkH r s.h with
    | some ob => some { val := .ptr r off, rh := some (r, ob) }
    | none => none
  | .ep cs => some { val := .ep cs }
  | .clo (.func f) fs cs => some { val := .clo (.func f) fs cs }
  | _ => none
theorem opNil_ok {x : Operand} (hi : opIn k.nt (.nilCheck x) = true) (h : opNil s x = some e) : Good E k (.nilCheck x) ty s e := by
  unfold opNil at h
  split at h
  · rename_i r off hx
    split at h
    · rename_i ob hr
      injection h with h; subst h
      exact ⟨ok_nilCheck_ptr hi hx, by simp [RhOk, hr]⟩
    · simp at h
  · rename_i cs hx
    injection h with h; subst h
    exact ⟨ok_nilCheck_ep hi hx, by simp [RhOk]⟩
  · rename_i f fs cs hx
    injection h with h; subst h
    exact ⟨ok_nilCheck_clo hi hx, by simp [RhOk]⟩
  · simp at h
def opField (tab : List (Nat × TI)) (s : St) (t : TypeId) (x : Operand) (f : Nat) : Option Eff := match lkT t tab with
  | none => none
  | some i => match fieldOff i f with
    | none => none
    | some (off, ft) => match lkT ft tab with
      | none => none
      | some fi => match okTI fi, evO s x with
        | true, .dagg cs => some { val := loadD fi (eszOf tab fi) cs off, cond := loadC fi (eszOf tab fi) cs off }
        | _, _ => none
theorem opField_ok (htab : TabOk E.P tab) {t : TypeId} {x : Operand} {f : Nat} (hi : opIn k.nt (.field t x f) = true) (h : opField tab s t x f = some e) : Good E k (.field t x f) ty s e := by
  unfold opField at h
  split at h
  · simp at h
  rename_i i ht
  split at h
  · simp at h
  rename_i off ft hf
  split at h
  · simp at h
  rename_i fi hfi
  split at h
  · rename_i cs hok hx
    injection h with h; subst h
    exact ⟨(ok_field_dagg (esz := eszOf tab fi) hi (htab.at ht) hf (htab.at hfi) (okTI_spec hok) hx).cond fun hc => let ⟨a, b⟩ := loadC_spec hc; ⟨a, b, trivial⟩, by simp [RhOk]⟩
  · simp at h
def nth {α : Type} : List α → Nat → Option α
  | [], _ => none
  | x :: _, 0 => some x
  | _ :: xs, n + 1 => nth xs n
theorem nth_eq {α : Type} : ∀ (l : List α) (n : Nat), nth l n = l[n]?
  | [], n => by simp [nth]
  | x :: xs, 0 => by simp [nth]
  | x :: xs, n + 1 => by simp [nth, nth_eq xs n]
def opExtract (s : St) (x : Operand) (j : Nat) : Option Eff := match evO s x with
  | .tup vs => match nth vs j with
    | some y => some { val := y }
    | none => none
  | _ => none
theorem opExtract_ok {x : Operand} {j : Nat} (hi : opIn k.nt (.extract x j) = true) (h : opExtract s x j = some e) : Good E k (.extract x j) ty s e := by
  unfold opExtract at h
  split at h
  · rename_i vs hx
    split at h
    · rename_i y hy
      injection h with h; subst h
      exact ⟨ok_extract hi hx (by rw [← nth_eq]; exact hy), by simp [RhOk]⟩
    · simp at h
  · simp at h
def isBld1 (tab : List (Nat × TI)) (t : TypeId) : Bool := match lkT t tab with
  | some i => match i.k with
    | .struct [(0, p), (1, _)] => match lkT p tab with
      | some ip => match ip.k with
        | .ptr q => Nat.beq q t
        | _ => false
      | none => false
    | _ => false
  | none => false
def isBld (tab : List (Nat × TI)) (t : TypeId) : Bool := match isBld1 tab t with
  | true => true
  | false => match lkT t tab with
    | some i => match i.k with
      | .struct [(0, b)] => isBld1 tab b
      | _ => false
    | none => false
def opAlloc (tab : List (Nat × TI)) (d : Nat) (t : TypeId) : Option Eff := match lkT t tab with
  | none => none
  | some i => match i.zero.all (·.oneCell') with
    | true => match isBld tab t with
      | true => some { val := .ptr d 0, wh := some (d, some (.tvar t (i.zero.map .v))), new := some d }
      | false => some { val := .ptr d 0, wh := some (d, some (.dvar i.zero.length (i.zero.map .v))), new := some d }
    | false => none
theorem opAlloc_ok (htab : TabOk E.P tab) {t : TypeId} {d : Nat} (h : opAlloc tab d t = some e) : Good E k (.alloc t) ty s e := by
  unfold opAlloc at h
  split at h
  · simp at h
  rename_i i ht
  split at h
  · rename_i hz
    split at h
    · injection h with h; subst h
      exact ⟨ok_allocT (htab.at ht) hz, by simp [RhOk]⟩
    · injection h with h; subst h
      exact ⟨ok_alloc (htab.at ht) hz, by simp [RhOk]⟩
  · simp at h
def opBox (s : St) (d : Nat) (x : Operand) : Option Eff := match okBox (evO s x), (evO s x).ment d with
  | true, false => some { val := .ptr d 0, wh := some (d, some (objOf (evO s x))), new := some d }
  | _, _ => none
theorem opBox_ok {t : TypeId} {x : Operand} {d : Nat} (hi : opIn k.nt (.box t x) = true) (h : opBox s d x = some e) : Good E k (.box t x) ty s e := by
  unfold opBox at h
  split at h
  · rename_i h1 h2
    injection h with h; subst h
    exact ⟨ok_box hi rfl h1 h2, by simp [RhOk]⟩
  · simp at h
theorem ok_build_array {tab : List (Nat × TI)} (htab : TabOk E.P tab) {t : TypeId} {parts : Array (Nat × Operand)} {i : TI} {an : Nat} {el : TypeId} {te : TI} {ps : List (Nat × List D)} {out : List D} (hi : opIn k.nt (.build t parts) = true) (ht : lkT t tab = some i) (hk : i.k = .array an el) (hel : lkT el tab = some te)
    (hz : i.zero.all (·.oneCell') = true) (hps : partsD s parts.toList = some ps) (ho : fillD (placeOf tab i) (i.zero.map .v) ps = some out) :
    OpOk E k (.build t parts) ty s { val := .dagg out, cond := [fillC (placeOf tab i) i.zero.length ps] } :=
  .pure _ none fun hc c Im ρ F H a w o _ hn S ho' _ hF _ => by
    have hti := htab.at ht
    obtain ⟨inf, d, z, g1, g2, g3, he⟩ := tiOf_spec hti
    have hk' : kindOf d = .array an el := by rw [he] at hk; exact hk
    cases d <;> simp only [kindOf] at hk' <;> cases hk'
    obtain ⟨hlen, hspec⟩ := partsD_spec hps
    have hzl : i.zero = z.cells.toList := by rw [he]
    have hzr : Rel2 (RD (hp w) Im) z.cells.toList (i.zero.map .v) := by
      refine ⟨by simp [hzl], fun j v x hv hx => ?_⟩
      simp only [List.getElem?_map, Option.map_eq_some_iff] at hx
      obtain ⟨u, hu, rfl⟩ := hx
      rw [hzl, hv] at hu; injection hu with hu; subst hu
      exact .v _ (List.all_eq_true.1 hz v (by rw [hzl]; exact List.mem_of_getElem? hv))
    have hplace : placeOf tab i = fun j => some (j * te.size, te.size) := by funext j; simp only [placeOf, hk, hel]
    obtain ⟨ms, f1, f2, f3⟩ := fill_ok (R := RD (hp w) Im) (place := placeOf tab i) (ps := ps) (vs := (parts.map fun (j, x) => (j, a.eval x)).toList) (cells := i.zero.map .v) (ms := z.cells) (n := i.zero.length) ho hc.1 (by rw [hzl]; simp) hzr (by simp [hlen]) (fun j p v hp1 hv1 => by
      have hpl : j < parts.toList.length := by rw [← hlen]; exact (List.getElem?_eq_some_iff.1 hp1).1
      have hpj : parts.toList[j]? = some parts.toList[j] := List.getElem?_eq_getElem hpl
      obtain ⟨e1, e2⟩ := hspec j _ p hpj hp1
      have hv2 : v = ((parts.toList[j]).1, a.eval (parts.toList[j]).2) := by
        have : (parts.map fun (j, x) => (j, a.eval x)).toList[j]? = (parts.toList[j]?).map fun p => (p.1, a.eval p.2) := by simp
        rw [this, hpj] at hv1; simpa using hv1.symm
      subst hv2
      refine ⟨e1.symm, dcells_ok (opIn_ev (x := (parts.toList[j]).2) S hn hi hF ?_) e2⟩
      simp only [Op.operands, List.mem_map]
      exact ⟨parts.toList[j], List.getElem_mem hpl, rfl⟩)
    refine ⟨.agg ms, ?_, .dagg ms out (by have := f3.1; simpa using this) fun j v x h1 h2 => f3.2 j v x (by simpa using h1) h2⟩
    rw [hplace] at f1
    simp only [execOp, ho', Instr.build, Sem.run_bind, zeroValue, typeInfo, g1, g3, Result.andThen_ok, run_underlying g2, run_sizeOf (htab.at hel), run_program, Sem.run_pure]
    rw [f1]
    simp
def opBuild (tab : List (Nat × TI)) (s : St) (t : TypeId) (parts : Array (Nat × Operand)) : Option Eff := match lkT t tab with
  | none => none
  | some i => match i.k with
    | .struct fs => match fs.all (fun p => (lkT p.2 tab).isSome), i.zero.all (·.oneCell'), partsD s parts.toList with
      | true, true, some ps => match fillD (placeOf tab i) (i.zero.map .v) ps with
        | some out => some { val := .dagg out, cond := [fillC (placeOf tab i) i.zero.length ps] }
        | none => none
      | _, _, _ => none
    | .array _ el => match lkT el tab, i.zero.all (·.oneCell'), partsD s parts.toList with
      | some _, true, some ps => match fillD (placeOf tab i) (i.zero.map .v) ps with
        | some out => some { val := .dagg out, cond := [fillC (placeOf tab i) i.zero.length ps] }
        | none => none
      | _, _, _ => none
    | _ => none
theorem opBuild_ok (htab : TabOk E.P tab) {t : TypeId} {parts : Array (Nat × Operand)} (hi : opIn k.nt (.build t parts) = true) (h : opBuild tab s t parts = some e) : Good E k (.build t parts) ty s e := by
  unfold opBuild at h
  split at h
  · simp at h
  rename_i i ht
  split at h
  · rename_i fs hk
    split at h
    · rename_i ps h1 h2 h3
      split at h
      · rename_i out ho
        injection h with h; subst h
        exact ⟨ok_build_struct htab hi ht hk h1 h2 h3 ho, by simp [RhOk]⟩
      · simp at h
    · simp at h
  · rename_i an el hk
    split at h
    · rename_i te ps h1 h2 h3
      split at h
      · rename_i out ho
        injection h with h; subst h
        exact ⟨ok_build_array htab hi ht hk h1 h2 h3 ho, by simp [RhOk]⟩
      · simp at h
    · simp at h
  · simp at h
def lensC (sz : Nat) : List (List D) → List Prop
  | [] => []
  | q :: r => (q.length = sz) :: lensC sz r
theorem lensC_spec {sz : Nat} : ∀ {els : List (List D)}, AllL (lensC sz els) → ∀ q ∈ els, q.length = sz
  | [], _, q, h => by simp at h
  | p :: r, hc, q, h => by
    rcases List.mem_cons.1 h with rfl | h
    · exact hc.1
    · exact lensC_spec hc.2 q h
def opBuildSlice (tab : List (Nat × TI)) (s : St) (t : TypeId) (n : Nat) (parts : Array (Nat × Operand)) : Option Eff := match lkT t tab with
  | none => none
  | some i => match i.k with
    | .slice e => match lkT e tab with
      | none => none
      | some ei => match Nat.beq ei.zero.length ei.size, Nat.ble (n * ei.size) 16777216, partsS s ei.size 0 parts.toList with
        | true, true, some els => match Nat.beq els.length n with
          | true => some { val := .d (.sl true ei.size els), cond := lensC ei.size els }
          | false => none
        | _, _, _ => none
    | _ => none
theorem opBuildSlice_ok (htab : TabOk E.P tab) {t : TypeId} {n : Nat} {parts : Array (Nat × Operand)} (hi : opIn k.nt (.buildSlice t n parts) = true) (h : opBuildSlice tab s t n parts = some e) : Good E k (.buildSlice t n parts) ty s e := by
  unfold opBuildSlice at h
  split at h
  · simp at h
  rename_i i ht
  split at h
  · rename_i e0 hk
    split at h
    · simp at h
    rename_i ei he
    split at h
    · rename_i els h1 h2 h3
      split at h
      · rename_i h4
        injection h with h; subst h
        exact ⟨(ok_buildSlice hi (htab.at ht) hk (htab.at he) (Nat.eq_of_beq_eq_true h1) (Nat.le_of_ble_eq_true h2) h3 (Nat.eq_of_beq_eq_true h4)).cond fun hc => ⟨lensC_spec hc, trivial⟩, by simp [RhOk]⟩
      · simp at h
    · simp at h
  · simp at h
def opConvert (tab : List (Nat × TI)) (s : St) (src dst : TypeId) (x : Operand) : Option Eff := match lkT src tab, lkT dst tab with
  | some si, some di => match si.k, di.k, evO s x with
    | .int _, .int dk, .d (.v (.int _ n)) => some { val := .d (.v (.int dk (dk.wrap n))) }
    | .str, .str, .d (.v (.string m)) => some { val := .d (.v (.string m)) }
    | _, _, _ => none
  | _, _ => none
theorem opConvert_ok (htab : TabOk E.P tab) {src dst : TypeId} {x : Operand} (hi : opIn k.nt (.convert src dst x) = true) (h : opConvert tab s src dst x = some e) : Good E k (.convert src dst x) ty s e := by
  unfold opConvert at h
  split at h
  · rename_i si di h1 h2
    split at h
    · rename_i sk dk ik n hs hd hx
      injection h with h; subst h
      exact ⟨ok_convert_int hi (htab.at h1) hs (htab.at h2) hd hx, by simp [RhOk]⟩
    · rename_i m hs hd hx
      injection h with h; subst h
      exact ⟨ok_convert_str hi (htab.at h1) hs (htab.at h2) hd hx, by simp [RhOk]⟩
    · simp at h
  · simp at h
def opR (tab : List (Nat × TI)) (s : St) (d : Nat) (op : Op) : Option Eff := match op with
  | .move x => some { val := evO s x }
  | .assign x => some { val := evO s x }
  | .pick c x y => opPick s c x y
  | .unOp .not _ x => opNot s x
  | .binOp b xt x y _ => match opBin tab s b xt x y with
    | some e => some e
    | none => opBinX tab s b xt x y
  | .load t x => match opLoad tab s t x with
    | some e => some e
    | none => opLoadL tab s t x
  | .store t x y => match opStoreD tab s t x y with
    | some e => some e
    | none => match opStore tab s t x y with
      | some e => some e
      | none => match opStoreX tab s t x y with
        | some e => some e
        | none => opStoreL tab s t x y
  | .makeSlice t lo co => opMake tab s d t lo co
  | .makeInterface t x => opIfc tab s (.makeInterface t x)
  | .typeAssert x it t b => opIfc tab s (.typeAssert x it t b)
  | .nilCheck x => opNil s x
  | .fieldAddr t x f => opFieldAddr tab s t x f
  | .field t x f => opField tab s t x f
  | .indexAddr t x ix => match opIndexAddr tab s t x ix with
    | some e => some e
    | none => opIdxL tab s t x ix
  | .index t x ix => match lkT t tab, evO s x, evO s ix with
    | some { k := .str, .. }, .d (.v (.string m)), .d (.v (.int _ j)) => some { val := .d (.v (.int .u8 (byteAt m j))), cond := [0 ≤ j, j < m.size] }
    | _, _, _ => opIdxA tab s t x ix
  | .extract x j => opExtract s x j
  | .alloc t => opAlloc tab d t
  | .box _ x => opBox s d x
  | .build t parts => match opBuild tab s t parts with
    | some e => some e
    | none => opBuildA tab s t parts
  | .buildSlice t n parts => opBuildSlice tab s t n parts
  | .convert src dst x => match opConvert tab s src dst x with
    | some e => some e
    | none => opConvX tab s src dst x
  | .makeFunc f first caps => some { val := .clo f (evL s first.toList) (evL s caps.toList) }
  | .slice t x lo hi none => match opSlice tab s t x lo hi with
    | some e => some e
    | none => opSliceX tab s t x lo hi
  | .slice t x none (some y) (some z) => opSlice3 tab s t x y z
  | .call { callee := .builtin .len, args := ⟨[x]⟩, argTypes := ⟨[t]⟩ } => match opLen tab s x t with
    | some e => some e
    | none => match opLenX tab s x t with
      | some e => some e
      | none => opLenL tab s x t
  | .call { callee := .builtin .append, args := ⟨[x, y]⟩, argTypes := ⟨[t, t']⟩ } => match Nat.beq t t' with
    | true => match opAppend tab s d x y t with
      | some e => some e
      | none => opAppSrc tab s d x y t
    | false => opAppStr tab s x y t t'
  | .call { callee := .builtin .clear, args := ⟨[x]⟩, argTypes := ⟨[t]⟩ } => opClear tab s x t
  | op => opX tab s d op
theorem opR_ok (htab : TabOk E.P tab) {d : Nat} {op : Op} (hi : opIn k.nt op = true) (h : opR tab s d op = some e) : Good E k op ty s e := by
  unfold opR at h
  split at h
  · injection h with h; subst h; exact ⟨ok_move (by simpa [opIn, Op.operands] using hi), by simp [RhOk]⟩
  · injection h with h; subst h; exact ⟨ok_assign (by simpa [opIn, Op.operands] using hi), by simp [RhOk]⟩
  · exact opPick_ok hi h
  · exact opNot_ok hi h
  · split at h
    · rename_i hb; injection h with h; subst h; exact opBin_ok htab hi hb
    · exact opBinX_ok htab hi h
  · split at h
    · rename_i hb; injection h with h; subst h; exact opLoad_ok htab hi hb
    · exact let ⟨a, b⟩ := opLoadL_pure (ty := ty) htab hi h; ⟨a.ok, b⟩
  · split at h
    · rename_i hb; injection h with h; subst h; exact opStoreD_ok htab hi hb
    · split at h
      · rename_i hb; injection h with h; subst h; exact opStore_ok htab hi hb
      · split at h
        · rename_i hb; injection h with h; subst h; exact opStoreX_ok htab hi hb
        · exact opStoreL_ok htab hi h
  · exact opMake_ok htab hi h
  · exact opIfc_ok htab hi h
  · exact opIfc_ok htab hi h
  · exact opNil_ok hi h
  · exact opFieldAddr_ok htab hi h
  · exact opField_ok htab hi h
  · split at h
    · rename_i hb; injection h with h; subst h; exact opIndexAddr_ok htab hi hb
    · exact opIdxL_ok htab hi h
  · split at h
    · rename_i m ik j ht hx hj
      injection h with h; subst h
      exact ⟨ok_index_str hi (htab.at ht) rfl hx hj, by simp [RhOk]⟩
    · exact opIdxA_ok htab hi h
  · exact opExtract_ok hi h
  · exact opAlloc_ok htab h
  · exact opBox_ok hi h
  · split at h
    · rename_i hb; injection h with h; subst h; exact opBuild_ok htab hi hb
    · exact opBuildA_ok htab hi h
  · exact opBuildSlice_ok htab hi h
  · split at h
    · rename_i hb; injection h with h; subst h; exact opConvert_ok htab hi hb
    · exact opConvX_ok htab hi h
  · injection h with h; subst h; exact ⟨ok_makeFunc hi, by simp [RhOk]⟩
  · split at h
    · rename_i hb; injection h with h; subst h; exact opSlice_ok htab hi hb
    · exact opSliceX_ok htab hi h
  · exact opSlice3_ok htab hi h
  · split at h
    · rename_i hb; injection h with h; subst h; exact opLen_ok htab hi hb
    · split at h
      · rename_i hb; injection h with h; subst h; exact opLenX_ok htab hi hb
      · exact opLenL_ok htab hi h
  · split at h
    · rename_i hb
      have := Nat.eq_of_beq_eq_true hb; subst this
      split at h
      · rename_i hb2; injection h with h; subst h; exact opAppend_ok htab hi hb2
      · exact opAppSrc_ok htab hi h
    · exact opAppStr_ok htab hi h
  · exact opClear_ok htab hi h
  · exact opX_ok htab hi h
end ops
def unmF (r : Nat) : List (Nat × AV) → Bool
  | [] => true
  | (_, v) :: l => match v.ment r with
    | true => false
    | false => unmF r l
def unmH (r : Nat) : HL → Bool
  | [] => true
  | (_, some o) :: l => match o.ment r with
    | true => false
    | false => unmH r l
  | (_, none) :: l => unmH r l
def memN (r : Nat) : List Nat → Bool
  | [] => false
  | x :: l => match Nat.beq x r with
    | true => true
    | false => memN r l
def unmB (anc : List Nat) (r : Nat) (s : St) : Bool := match memN r anc, unmF r s.f, unmH r s.h, lkH r s.h with
  | false, true, true, none => true
  | _, _, _, _ => false
theorem unmF_spec {r : Nat} : ∀ {l : List (Nat × AV)}, unmF r l = true → ∀ t, (lk t l).ment r = false
  | [], _, t => by simp [lk, AV.ment]
  | (k, v) :: l, h, t => by
    simp only [unmF] at h
    cases hm : v.ment r with
    | true => simp [hm] at h
    | false =>
      simp only [hm] at h
      simp only [lk]
      cases Nat.beq k t with
      | true => exact hm
      | false => exact unmF_spec h t
theorem unmH_spec {r : Nat} : ∀ {l : HL}, unmH r l = true → ∀ q o, lkH q l = some o → o.ment r = false
  | [], _, q, o, h => by simp [lkH] at h
  | (k, some v) :: l, h, q, o, ho => by
    simp only [unmH] at h
    cases hm : v.ment r with
    | true => simp [hm] at h
    | false =>
      simp only [hm] at h
      simp only [lkH] at ho
      cases hb : Nat.beq k q with
      | true => simp only [hb] at ho; injection ho with ho; subst ho; exact hm
      | false => simp only [hb] at ho; exact unmH_spec h q o ho
  | (k, none) :: l, h, q, o, ho => by
    simp only [unmH] at h
    simp only [lkH] at ho
    cases hb : Nat.beq k q with
    | true => simp [hb] at ho
    | false => simp only [hb] at ho; exact unmH_spec h q o ho
theorem memN_spec {r : Nat} : ∀ {l : List Nat}, memN r l = false → r ∉ l
  | [], _ => by simp
  | x :: l, h => by
    simp only [memN] at h
    cases hb : Nat.beq x r with
    | true => simp [hb] at h
    | false =>
      simp only [hb] at h
      intro hm
      rcases List.mem_cons.1 hm with rfl | hm
      · simp at hb
      · exact memN_spec h hm
theorem unmB_spec {c : Cx} {r : Nat} {s : St} (h : unmB c.anc r s = true) : Unm c r s.F s.H := by
  unfold unmB at h
  split at h
  · rename_i h1 h2 h3 h4
    exact ⟨memN_spec h1, unmF_spec h2, unmH_spec h3, h4⟩
  · simp at h
def condP : List Prop → Prop → Prop
  | [], p => p
  | c :: cs, p => c ∧ condP cs p
theorem condP_spec : ∀ {cs : List Prop} {p : Prop}, condP cs p → AllL cs ∧ p
  | [], _, h => ⟨trivial, h⟩
  | _ :: _, _, h => let ⟨a, b⟩ := condP_spec h.2; ⟨⟨h.1, a⟩, b⟩
def St.after (s : St) (dst : Option Tmp) (e : Eff) : St :=
  { f := match dst with
      | some d => (d, e.val) :: s.f
      | none => s.f
    h := match e.wh with
      | some p => p :: s.h
      | none => s.h }
def calleeOf (s : St) : Operand → Option (FuncId × List AV × List AV)
  | .func f => some (f, [], [])
  | .tmp t => match lk t s.f with
    | .clo (.func f) fs caps => some (f, fs, caps)
    | _ => none
  | _ => none
def argsV (fs vs caps : List AV) : List AV := match fs with
  | [] => vs ++ caps
  | x :: r => (x :: r) ++ (vs ++ caps)
theorem argsV_eq (fs vs caps : List AV) : argsV fs vs caps = fs ++ (vs ++ caps) := by cases fs <;> rfl
structure CallP (E : Env) (k : Kn) (f : FuncId) (args : List AV) (s : St) (K : AV → HL → Prop) (KP : List PanicEntry → HL → Prop) : Prop where
  ok : ∃ hin post, Ctr E f args hin post ∧ (∀ r o, lkH r hin = some o → lkH r s.h = some o) ∧
    (∀ res ho, post (.ret res ho) → (∀ r o, lkH r ho = some o → (∃ o', lkH r hin = some o') ∨ unmB k.anc r s = true) ∧ K res (s.back hin ho)) ∧
    (∀ ch ho, post (.pan ch ho) → (∀ r o, lkH r ho = some o → (∃ o', lkH r hin = some o') ∨ unmB k.anc r s = true) ∧ KP ch (s.back hin ho))
def YCtr (E : Env) (l : Nat) (args : List AV) (hin : HL) (post : AOut → Prop) : Prop :=
  ∀ (w : World) (Im : Nat → Prop) (ρ : Nat → Option Loc) (vs : Array Value), E.G w → (∀ b, Im b → b < w.heap.size) → (∀ b, b < E.ng → Im b) → vs.size = args.length →
    (∀ (i : Nat) (v : Value) (x : AV), vs[i]? = some v → args[i]? = some x → RA (hp w) Im ρ v x) → HRel w Im ρ hin (fun _ => True) →
    ∃ fn tmps assign body, (Instr.yield l vs).run E.P w = .ok (.round l fn tmps assign body) w ∧ RoundIn Fence.wide 0 E.P l fn tmps assign body w (Ends post w Im ρ hin)
structure YieldP (E : Env) (k : Kn) (l : Nat) (args : List AV) (s : St) (K : AV → HL → Prop) : Prop where
  ok : ∃ hin post, YCtr E l args hin post ∧ (∀ r o, lkH r hin = some o → lkH r s.h = some o) ∧ (∀ ch ho, ¬ post (.pan ch ho)) ∧
    ∀ res ho, post (.ret res ho) → (∀ r o, lkH r ho = some o → (∃ o', lkH r hin = some o') ∨ unmB k.anc r s = true) ∧ K res (s.back hin ho)
def yldOf (s : St) : Operand → Option Nat
  | .tmp t => match lk t s.f with
    | .clo (.yield l) [] [] => some l
    | _ => none
  | _ => none
def dstIn (n : Nat) : Option Tmp → Bool
  | none => true
  | some d => Nat.blt d n
def dstOf : Option Tmp → Nat
  | none => 0
  | some d => d
def newOk (anc : List Nat) (s : St) : Option Nat → Bool
  | none => true
  | some r => unmB anc r s
def guardV (ops : List Oper) (s : St) : Option (Nat × Bool) → Option (Bool × Bool)
  | none => some (true, true)
  | some (j, want) => match nth ops j with
    | some o => match o.dst with
      | some d => match lk d s.f with
        | .d (.v (.bool b)) => some (b, want)
        | .tup [] => some (!want, want)
        | _ => none
      | none => none
    | none => none
def ifB (b : Bool) (p q : Prop) : Prop := match b with
  | true => p
  | false => q
theorem ifB_true {b : Bool} {p q : Prop} (h : b = true) (hp : p) : ifB b p q := by subst h; exact hp
theorem ifB_false {b : Bool} {p q : Prop} (h : b = false) (hq : q) : ifB b p q := by subst h; exact hq
theorem ifB_intro {b : Bool} {p q : Prop} (h1 : b = true → p) (h2 : b = false → q) : ifB b p q := by cases b; exact h2 rfl; exact h1 rfl
def St.set (s : St) (dst : Option Tmp) (x : AV) (h : HL) : St :=
  { f := match dst with
      | some d => (d, x) :: s.f
      | none => s.f
    h }
def strictD (x : D) (K : D → Prop) : Prop := match x with
  | .v (.int k n) => K (.v (.int k n))
  | .v (.bool b) => K (.v (.bool b))
  | .v (.string m) => K (.v (.string m))
  | .v y => K (.v y)
  | .sl t z e => K (.sl t z e)
def strictV (v : AV) (K : AV → Prop) : Prop := match v with
  | .junk => K .junk
  | .d x => strictD x fun x => K (.d x)
  | .dagg cs => K (.dagg cs)
  | .agg cs => K (.agg cs)
  | .tup vs => K (.tup vs)
  | .ptr r o => K (.ptr r o)
  | .ep cs => K (.ep cs)
  | .msl r n o l => K (.msl r n o l)
  | .mptr r n i j => K (.mptr r n i j)
  | .mp r => K (.mp r)
  | .clo f a b => K (.clo f a b)
  | .ifc t x => K (.ifc t x)
def strictL : List AV → (List AV → Prop) → Prop
  | [], K => K []
  | x :: xs, K => strictV x fun x => strictL xs fun xs => K (x :: xs)
def strictO (o : Option AObj) (K : Option AObj → Prop) : Prop := match o with
  | none => K none
  | some (.var cs) => K (some (.var cs))
  | some (.dvar n cs) => K (some (.dvar n cs))
  | some (.buf z t e) => K (some (.buf z t e))
  | some (.map a es) => K (some (.map a es))
  | some (.siter m p) => K (some (.siter m p))
  | some (.tvar t cs) => K (some (.tvar t cs))
  | some (.lbuf t e x) => K (some (.lbuf t e x))
  | some (.ext R) => K (some (.ext R))
  | some (.gst K' h0 R) => K (some (.gst K' h0 R))
  | some (.extI R) => K (some (.extI R))
def strictH : HL → (HL → Prop) → Prop
  | [], K => K []
  | (r, o) :: h, K => strictO o fun o => strictH h fun h => K ((r, o) :: h)
theorem strictD_spec {x : D} {K : D → Prop} (h : strictD x K) : K x := by
  unfold strictD at h; split at h <;> exact h
theorem strictV_spec {v : AV} {K : AV → Prop} (h : strictV v K) : K v := by
  unfold strictV at h; split at h <;> first | exact h | exact strictD_spec h
theorem strictL_spec : ∀ {l : List AV} {K : List AV → Prop}, strictL l K → K l
  | [], _, h => h
  | _ :: xs, K, h => strictL_spec (l := xs) (K := fun xs => K (_ :: xs)) (strictV_spec (K := fun x => strictL xs fun xs => K (x :: xs)) h)
theorem strictO_spec {o : Option AObj} {K : Option AObj → Prop} (h : strictO o K) : K o := by
  unfold strictO at h; split at h <;> exact h
theorem strictH_spec : ∀ {l : HL} {K : HL → Prop}, strictH l K → K l
  | [], _, h => h
  | (r, _) :: hs, K, h => strictH_spec (l := hs) (K := fun hs => K ((r, _) :: hs)) (strictO_spec (K := fun o => strictH hs fun hs => K ((r, o) :: hs)) h)
def skipP (s : St) (dst : Option Tmp) (K : St → Prop) : Prop := match s with
  | ⟨f, h⟩ => match dst with
    | some d => K ⟨(d, .tup []) :: f, h⟩
    | none => K ⟨f, h⟩
theorem skipP_spec {s : St} {dst : Option Tmp} {K : St → Prop} (hp : skipP s dst K) : K (s.set dst (.tup []) s.h) := by
  unfold skipP at hp
  cases dst <;> exact hp
def setP (s : St) (dst : Option Tmp) (x : AV) (h : HL) (K : St → Prop) : Prop := match s with
  | ⟨f, _⟩ => match dst with
    | some d => strictV x fun x => K ⟨(d, x) :: f, h⟩
    | none => K ⟨f, h⟩
theorem setP_spec {s : St} {dst : Option Tmp} {x : AV} {h : HL} {K : St → Prop} (hp : setP s dst x h K) : K (s.set dst x h) := by
  unfold setP at hp
  cases dst with
  | none => exact hp
  | some d => exact strictV_spec hp
def afterP (s : St) (dst : Option Tmp) (val : AV) (wh : Option (Nat × Option AObj)) (K : St → Prop) : Prop := match s with
  | ⟨f, h⟩ => match wh with
    | some (r, o) => strictO o fun o => setP ⟨f, h⟩ dst val ((r, o) :: h) K
    | none => setP ⟨f, h⟩ dst val h K
theorem afterP_spec {s : St} {dst : Option Tmp} {e : Eff} {K : St → Prop} (hp : afterP s dst e.val e.wh K) : K (s.after dst e) := by
  unfold afterP at hp
  split at hp
  rename_i f h
  split at hp
  · rename_i r o hw
    have := setP_spec (strictO_spec hp)
    simp only [St.after, hw]; exact this
  · rename_i hw
    have := setP_spec hp
    simp only [St.after, hw]; exact this
def withDst (dst : Option Tmp) (K : Nat → Prop) : Prop := match dst with
  | some d => K d
  | none => K 0
theorem withDst_spec {dst : Option Tmp} {K : Nat → Prop} (h : withDst dst K) : K (dstOf dst) := by cases dst <;> exact h
def opP (E : Env) (tab : List (Nat × TI)) (k : Kn) (KP : List PanicEntry → St → Prop) (o : Oper) (s : St) (K : St → Prop) : Prop := match o.op with
  | .call { callee := .value f, args, argTypes := _ } => match calleeOf s f, args.toList.all (inN k.nt), inN k.nt f with
    | some (fid, fs, caps), true, true => strictL (argsV fs (evL s args.toList) caps) fun vs => CallP E k fid vs s (fun res h => strictH h fun h => setP s o.dst res h K) (fun ch h => KP ch { f := s.f, h })
    | none, true, true => match yldOf s f with
      | some l => strictL (evL s args.toList) fun vs => YieldP E k l vs s (fun res h => strictH h fun h => setP s o.dst res h K)
      | none => False
    | _, _, _ => False
  | .panic x => match inN k.nt x, evO s x with
    | true, .ifc t (.dagg []) => KP [{ v := .iface t (.agg #[]), recovered := false }] s
    | _, _ => False
  | .defer _ => False
  | op => withDst o.dst fun d => match opIn k.nt op, opR tab s d op with
    | true, some ⟨val, _, wh, new, cond⟩ => match newOk k.anc s new with
      | true => condP cond (afterP s o.dst val wh K)
      | false => False
    | true, none => match opS s op with
      | some (b, ⟨v1, _, w1, none, c1⟩, ⟨v2, _, w2, none, c2⟩) => ifB b (condP c1 (afterP s o.dst v1 w1 K)) (condP c2 (afterP s o.dst v2 w2 K))
      | some _ => False
      | none => match opNilSl tab s op with
        | some (.eql, els) => ∀ b : Bool, (b = true → els = []) → afterP s o.dst (.d (.v (.bool b))) none K
        | some (.neq, els) => ∀ b : Bool, (b = true → els = []) → afterP s o.dst (.d (.v (.bool (!b)))) none K
        | some _ => False
        | none => match opG E.gl tab s op with
          | some ⟨val, _, wh, none, cond⟩ => condP cond (afterP s o.dst val wh K)
          | _ => False
    | _, _ => False
def runP (E : Env) (tab : List (Nat × TI)) (k : Kn) (ops : List Oper) (K : St → Prop) (KP : List PanicEntry → St → Prop) : List Oper → St → Prop
  | [], s => K s
  | o :: rest, s => match dstIn k.nt o.dst, guardV ops s o.guard with
    | true, some (b, want) => match want with
      | true => ifB b (opP E tab k KP o s (runP E tab k ops K KP rest)) (skipP s o.dst (runP E tab k ops K KP rest))
      | false => ifB b (skipP s o.dst (runP E tab k ops K KP rest)) (opP E tab k KP o s (runP E tab k ops K KP rest))
    | _, _ => False
end Go.Ax

namespace Go.Ax
structure Ax where
  E : Env
  tab : List (Nat × TI)
  ok : TabOk E.P tab
theorem lk_dst {s : St} {dst : Option Tmp} {x : AV} {h : HL} : (s.set dst x h).F = (match dst with | some d => upd s.F d x | none => s.F) := by
  cases dst with
  | none => rfl
  | some d => exact lk_cons d x s.f
theorem Sim.set {c : Cx} {Im : Nat → Prop} {ρ : Nat → Option Loc} {s : St} {H : Nat → Option AObj} {h : HL} {a : Act} {w : World} {k : Kn} {dst : Option Tmp} {v : Value} {x : AV} (S : Sim c Im ρ s.F H a w) (hn : c.nt = k.nt) (hd : dstIn k.nt dst = true) (hv : RA (hp w) Im ρ v x) (hH : H = fun r => lkH r h) :
    Sim c Im ρ (s.set dst x h).F (s.set dst x h).H (a.put dst v) w := by
  rw [lk_dst]
  cases dst with
  | none => subst hH; exact S
  | some d =>
    have hd : d < c.nt := by rw [hn]; simpa [dstIn] using hd
    subst hH
    exact S.put hd hv
theorem guard_ok {c : Cx} {Im : Nat → Prop} {ρ : Nat → Option Loc} {s : St} {a : Act} {w : World} {k : Kn} {ops : List Oper} {o : Oper} {b want : Bool} (S : Sim c Im ρ s.F s.H a w) (hn : c.nt = k.nt) (hall : ops.all (fun o => dstIn k.nt o.dst) = true) (h : guardV ops s o.guard = some (b, want)) : Region.wanted o (yielded ops.toArray a.tmps) = (b == want) := by
  unfold Region.wanted
  cases hg : o.guard with
  | none => rw [hg] at h; simp only [guardV] at h; injection h with h; injection h with h1 h2; subst h1; subst h2; rfl
  | some p =>
    obtain ⟨j, want'⟩ := p
    rw [hg] at h
    simp only [guardV, nth_eq] at h
    split at h
    · rename_i oj hj
      split at h
      · rename_i d hd
        have hdn : d < c.nt := by
          have := List.all_eq_true.1 hall oj (List.mem_of_getElem? hj)
          rw [hd] at this; rw [hn]; simpa [dstIn] using this
        have hra := S.fr d hdn
        have hsz : d < a.tmps.size := by rw [S.nt]; exact hdn
        have hget : a.tmps[d]? = some (a.tmps.getD d undef) := by simp [Array.getD, hsz]
        simp only [St.F] at hra
        split at h
        · rename_i v hl
          rw [hl] at hra
          have hv := hra.v
          have hy : yielded ops.toArray a.tmps j = some v := by
            simp only [yielded, List.getElem?_toArray, hj, Option.bind_some, hd, hget, hv]
          injection h with h; injection h with h1 h2; subst h1; subst h2
          show (yielded ops.toArray a.tmps j == some want') = (v == want')
          rw [hy]
          cases want' <;> cases v <;> rfl
        · rename_i hl
          injection h with h; injection h with h1 h2; subst h1; subst h2
          rw [hl] at hra
          generalize hv : a.tmps.getD d undef = v at hra
          cases hra with
          | tup cs _ hlen _ =>
            have hy : yielded ops.toArray a.tmps j = none := by
              simp only [yielded, List.getElem?_toArray, hj, Option.bind_some, hd, hget, hv]
            show (yielded ops.toArray a.tmps j == some want') = ((!want') == want')
            rw [hy]; cases want' <;> rfl
        · simp at h
      · simp at h
    · simp at h
variable {X : Ax} {k : Kn}
theorem evL_ok {c : Cx} {Im : Nat → Prop} {ρ : Nat → Option Loc} {s : St} {a : Act} {w : World} (S : Sim c Im ρ s.F s.H a w) (hn : c.nt = k.nt) {xs : List Operand} (h : xs.all (inN k.nt) = true) (i : Nat) (v : Value) (x : AV) (h1 : (xs.map a.eval)[i]? = some v) (h2 : (evL s xs)[i]? = some x) : RA (hp w) Im ρ v x := by
  simp only [evL, List.getElem?_map, Option.map_eq_some_iff] at h1 h2
  obtain ⟨y, hy, rfl⟩ := h1
  obtain ⟨z, hz, rfl⟩ := h2
  rw [hy] at hz; injection hz with hz; subst hz
  have hin := inN_spec (List.all_eq_true.1 h y (List.mem_of_getElem? hy))
  exact S.ev (fun t e => ⟨hn ▸ hin.2 t e, rfl⟩) hin.1
theorem eff_step {K : St → Prop} {o : Oper} {s : St} {c : Cx} {Im : Nat → Prop} {ρ : Nat → Option Loc} {a : Act} {w : World} {Q : Exit → Act → World → Prop} {next : Act → World → Prop} {e : Eff} (ok : c.Ok X.E) (hn : c.nt = k.nt) (ha : c.anc = k.anc) (S : Sim c Im ρ s.F s.H a w) (hd : dstIn k.nt o.dst = true)
    (hg : Good X.E k o.op o.type s e) (hnew : ∀ r, e.new = some r → Unm c r s.F s.H) (h : condP e.cond (afterP s o.dst e.val e.wh K)) (hK : ∀ s' Im' ρ' a' w', K s' → Sim c Im' ρ' s'.F s'.H a' w' → next a' w') : o.uponIn c.fence 0 X.E.P a next Q ((execOp a.eval o).run X.E.P w) := by
  obtain ⟨hcond, hk⟩ := condP_spec h
  have hk := afterP_spec hk
  obtain ⟨hok, hrh⟩ := hg
  obtain ⟨v, w', hrun, Im', ρ', S', hra⟩ := hok c Im ρ s.F s.H a w o ok hn ha S rfl rfl (fun _ _ => rfl) (fun r x hx => hrh r x hx) hnew hcond
  have S2 : Sim c Im' ρ' (s.after o.dst e).F (s.after o.dst e).H (a.put o.dst v) w' := by
    have hF : (s.after o.dst e).F = (match o.dst with | some d => upd s.F d e.val | none => s.F) := by
      simp only [St.after]
      cases o.dst with
      | none => rfl
      | some d => exact lk_cons d e.val s.f
    have hH : (s.after o.dst e).H = updO s.H e.wh := by
      simp only [St.after]
      cases e.wh with
      | none => rfl
      | some p => obtain ⟨r, ob⟩ := p; exact lkH_cons r ob s.h
    rw [hF, hH]
    cases hdd : o.dst with
    | none => exact S'
    | some d =>
      have hd' : d < c.nt := by rw [hn]; rw [hdd] at hd; simpa [dstIn] using hd
      exact S'.put hd' hra
  rcases hrun with hrun | ⟨hrun, rfl⟩
  · rw [hrun]; exact hK _ _ _ _ _ hk S2
  · rw [hrun]; exact hK _ _ _ _ _ hk S2
theorem callee_ok {c : Cx} {Im : Nat → Prop} {ρ : Nat → Option Loc} {s : St} {a : Act} {w : World} {k : Kn} {P : Program} (S : Sim c Im ρ s.F s.H a w) (hn : c.nt = k.nt) {f : Operand} {args : Array Operand} {ats : Array TypeId} {ty : TypeId} {fid : FuncId} {fs0 caps : List AV} (hcal : calleeOf s f = some (fid, fs0, caps)) (hf : inN k.nt f = true) :
    ∃ fvs cvs : Array Value, (resolve a.eval { callee := .value f, args, argTypes := ats } ty).run P w = .ok { target := .fn (.func fid) cvs, args := fvs ++ args.map a.eval } w ∧ fvs.size = fs0.length ∧ cvs.size = caps.length ∧
      (∀ (i : Nat) (v : Value) (x : AV), fvs[i]? = some v → fs0[i]? = some x → RA (hp w) Im ρ v x) ∧ ∀ (i : Nat) (v : Value) (x : AV), cvs[i]? = some v → caps[i]? = some x → RA (hp w) Im ρ v x := by
  unfold calleeOf at hcal
  split at hcal
  · rename_i f0
    injection hcal with hcal; injection hcal with h1 h2; injection h2 with h2 h3; subst h1; subst h2; subst h3
    exact ⟨#[], #[], by simp [resolve, Deferred.ofValue, Act.eval], rfl, rfl, by simp, by simp⟩
  · rename_i t
    split at hcal
    · rename_i f0 fs1 caps0 hl
      injection hcal with hcal; injection hcal with h1 h2; injection h2 with h2 h3; subst h1; subst h2; subst h3
      have ht : t < c.nt := by rw [hn]; simpa [inN] using hf
      have hra := S.fr t ht
      simp only [St.F] at hra
      rw [hl] at hra
      have hev : a.eval (.tmp t) = a.tmps.getD t undef := rfl
      generalize hv : a.tmps.getD t undef = v at hra
      cases hra with
      | clo fn fs cs lf lc hfs hcs hrf hrc => exact ⟨fs, cs, by simp [resolve, Deferred.ofValue, hev, hv], hfs, hcs, hrf, hrc⟩
    · simp at hcal
  · simp at hcal
theorem argsV_ok {c : Cx} {Im : Nat → Prop} {ρ : Nat → Option Loc} {s : St} {a : Act} {w : World} {k : Kn} (S : Sim c Im ρ s.F s.H a w) (hn : c.nt = k.nt) {args : Array Operand} (hargs : args.toList.all (inN k.nt) = true) {fs0 caps : List AV} {fvs cvs : Array Value} (hfs : fvs.size = fs0.length)
    (hfr : ∀ (i : Nat) (v : Value) (x : AV), fvs[i]? = some v → fs0[i]? = some x → RA (hp w) Im ρ v x) (hcr : ∀ (i : Nat) (v : Value) (x : AV), cvs[i]? = some v → caps[i]? = some x → RA (hp w) Im ρ v x) :
    ∀ (i : Nat) (v : Value) (x : AV), (fvs ++ args.map a.eval ++ cvs)[i]? = some v → (fs0 ++ (evL s args.toList ++ caps))[i]? = some x → RA (hp w) Im ρ v x := fun i v x h1 h2 => by
  rw [Array.append_assoc] at h1
  by_cases h0 : i < fvs.size
  · rw [Array.getElem?_append_left h0] at h1
    rw [List.getElem?_append_left (by omega)] at h2
    exact hfr i v x h1 h2
  · rw [Array.getElem?_append_right (by omega)] at h1
    rw [List.getElem?_append_right (by omega)] at h2
    by_cases hi : i - fvs.size < args.size
    · rw [Array.getElem?_append_left (by simpa using hi)] at h1
      rw [List.getElem?_append_left (by simp [evL]; omega)] at h2
      exact evL_ok S hn hargs (i - fvs.size) v x (by simpa using h1) (by rw [hfs]; exact h2)
    · rw [Array.getElem?_append_right (by simp; omega)] at h1
      rw [List.getElem?_append_right (by simp [evL]; omega)] at h2
      exact hcr (i - fvs.size - args.size) v x (by simpa using h1) (by rw [hfs]; simpa [evL] using h2)
theorem semAt_of {o : Oper} {r : Option Nat} {ev : Operand → Value} (h : ∀ cl, o.op = .defer cl → False) : o.semAt r ev = execOp ev o := by
  cases r with
  | none => rfl
  | some l => exact Oper.semAt_some l ev o fun cl hc => h cl hc
theorem callsIn_fence (c : Cx) {P : Program} {f : FuncId} {args : Array Value} {w : World} {R : Ending → World → Prop} {n : Nat} (h : Calls P f args w R) : CallsIn c.fence n P f args w R := callsIn_wide.2 h
theorem opP_ok {KP : List PanicEntry → St → Prop} {K : St → Prop} {o : Oper} {s : St} {c : Cx} {Im : Nat → Prop} {ρ : Nat → Option Loc} {a : Act} {w : World} {Q : APost} {next : Act → World → Prop} (ok : c.Ok X.E) (hn : c.nt = k.nt) (ha : c.anc = k.anc) (S : Sim c Im ρ s.F s.H a w) (hd : dstIn k.nt o.dst = true)
    (hP : ∀ ch s, KP ch s → Q (.panic ch) s) (h : opP X.E X.tab k KP o s K) (hK : ∀ s' Im' ρ' a' w', K s' → Sim c Im' ρ' s'.F s'.H a' w' → next a' w') : o.wpIn c.fence 0 X.E.P a w next (Lift c Q) := by
  refine ⟨fun _ _ => trivial, ?_⟩
  unfold opP at h
  rw [semAt_of (by
    intro cl hc; rw [hc] at h; exact h)]
  split at h
  · rename_i f args ats hop
    split at h
    · rename_i fid fs0 caps hcal hargs hf
      have h := strictL_spec h
      rw [argsV_eq] at h
      obtain ⟨hin, post, hctr, hhin, hret, hpan⟩ := h.ok
      obtain ⟨fvs, cvs, hres, hfs, hcs, hfr, hcr⟩ := callee_ok S hn (ats := ats) (args := args) (ty := o.type) (P := X.E.P) hcal hf
      have hrun : (execOp a.eval o).run X.E.P w = .ok (.enter fid (fvs ++ args.map a.eval ++ cvs)) w := by
        simp [execOp, hop, hres, invoke, run_callFunc hctr.1]
      rw [hrun]
      simp only [Oper.uponIn]
      refine ⟨fun h => by simp [Fence.wide] at h, callsIn_fence c ?_⟩
      have hcall := hctr.2 w Im ρ (fvs ++ args.map a.eval ++ cvs) (S.G ok) (fun b hb => (S.imn b hb).1) (fun b hb => S.im0 b (ok.gl b hb)) (by simp [evL, hcs, hfs]) (argsV_ok S hn hargs hfs hfr hcr) (S.hrel hhin)
      refine hcall.mono fun e w' he => ?_
      cases e with
      | returned v =>
        obtain ⟨res, ho, Im', ρ', hpost, hra, hcl, haft⟩ := he
        obtain ⟨hfr, hk⟩ := hret res ho hpost
        have S' := S.call hhin haft (fun r o hr => (hfr r o hr).imp id fun h => unmB_spec (by rw [ha]; exact h))
        exact hK _ _ _ _ _ (setP_spec (strictH_spec hk)) (S'.set hn hd (hcl.back (ρ := ρ) (hin := hin) hra) rfl)
      | panicked ch =>
        obtain ⟨ho, Im', ρ', hpost, haft⟩ := he
        obtain ⟨hfr, hk⟩ := hpan ch ho hpost
        have S' := S.call hhin haft (fun r o hr => (hfr r o hr).imp id fun h => unmB_spec (by rw [ha]; exact h))
        exact ⟨by simp, _, _, { f := s.f, h := s.back hin ho }, S', hP _ _ hk⟩
      | outgrown => exact he.elim
    · rename_i hcal hargs hf
      split at h
      · rename_i l hy
        have h := strictL_spec h
        obtain ⟨hin, post, hctr, hhin, hpan, hret⟩ := h.ok
        have hres : (resolve a.eval { callee := .value f, args, argTypes := ats } o.type).run X.E.P w = .ok { target := .fn (.yield l) #[], args := args.map a.eval } w := by
          unfold yldOf at hy
          split at hy
          · rename_i t
            split at hy
            · rename_i l0 hl
              injection hy with hy; subst hy
              have ht : t < c.nt := by rw [hn]; simpa [inN] using hf
              have hra := S.fr t ht
              simp only [St.F] at hra
              rw [hl] at hra
              have hev : a.eval (.tmp t) = a.tmps.getD t undef := rfl
              generalize hv : a.tmps.getD t undef = v at hra
              cases hra with
              | clo fn fs cs lf lc hfs hcs hrf hrc =>
                have e1 : fs = #[] := Array.eq_empty_of_size_eq_zero (by simpa using hfs)
                have e2 : cs = #[] := Array.eq_empty_of_size_eq_zero (by simpa using hcs)
                subst e1; subst e2
                simp [resolve, Deferred.ofValue, hev, hv]
            · simp at hy
          · simp at hy
        obtain ⟨fn, tmps, as, body, hrun0, hround⟩ := hctr w Im ρ (args.map a.eval) (S.G ok) (fun b hb => (S.imn b hb).1) (fun b hb => S.im0 b (ok.gl b hb)) (by simp [evL]) (fun i v x h1 h2 => evL_ok S hn hargs i v x (by simpa using h1) h2) (S.hrel hhin)
        have hrun : (execOp a.eval o).run X.E.P w = .ok (.round l fn tmps as body) w := by
          simp [execOp, hop, hres, invoke, hrun0]
        rw [hrun]
        simp only [Oper.uponIn]
        refine ⟨fun h => by simp [Fence.wide] at h, ?_⟩
        refine RoundIn.mono (F := c.fence) hround fun e w' he => ?_
        cases e with
        | returned v =>
          obtain ⟨res, ho, Im', ρ', hpost, hra, hcl, haft⟩ := he
          obtain ⟨hfr, hk⟩ := hret res ho hpost
          have S' := S.call hhin haft (fun r o hr => (hfr r o hr).imp id fun h => unmB_spec (by rw [ha]; exact h))
          exact hK _ _ _ _ _ (setP_spec (strictH_spec hk)) (S'.set hn hd (hcl.back (ρ := ρ) (hin := hin) hra) rfl)
        | panicked ch =>
          obtain ⟨ho, Im', ρ', hpost, haft⟩ := he
          exact absurd hpost (hpan ch ho)
        | outgrown => exact he.elim
      · exact h.elim
    · exact h.elim
  · rename_i x hop
    split at h
    · rename_i t hin hx
      have h1 := opIn_ev (k := k) (op := .panic x) (s := s) (F := s.F) (x := x) S hn (by simpa [opIn, Op.operands] using hin) (fun t _ => rfl) (by simp [Op.operands])
      rw [hx] at h1
      generalize hv : a.eval x = v at h1
      cases h1 with
      | ifc _ v0 _ hy =>
        cases hy with
        | dagg cs l hl hr =>
          have : cs = #[] := Array.eq_empty_of_size_eq_zero (by simpa using hl)
          subst this
          have hrun : (execOp a.eval o).run X.E.P w = .halt (.panic (.iface t (.agg #[]))) w := by
            simp [execOp, hop, hv, Instr.panic]
          rw [hrun]
          exact ⟨by simp, Im, ρ, s, S, hP _ _ h⟩
    · exact h.elim
  · exact h.elim
  · have h := withDst_spec h
    split at h
    · rename_i val rh wh new cond hin hr
      split at h
      · rename_i hnew
        exact eff_step ok hn ha S hd (opR_ok X.ok hin hr) (fun r hx => by have hx : new = some r := hx; rw [hx] at hnew; exact unmB_spec (by rw [ha]; exact hnew)) h hK
      · exact h.elim
    · rename_i hin hr
      split at h
      · rename_i b v1 r1 w1 c1 v2 r2 w2 c2 hs
        obtain ⟨g1, g2⟩ := opS_ok (E := X.E) (k := k) (ty := o.type) hin hs
        cases b with
        | true => exact eff_step ok hn ha S hd (g1 rfl) (fun r hx => by simp at hx) h hK
        | false => exact eff_step ok hn ha S hd (g2 rfl) (fun r hx => by simp at hx) h hK
      · exact h.elim
      · have go : ∀ r : Bool, (execOp a.eval o).run X.E.P w = .ok (.value (.bool r)) w → afterP s o.dst (.d (.v (.bool r))) none K → o.uponIn c.fence 0 X.E.P a next (Lift c Q) ((execOp a.eval o).run X.E.P w) := fun r hrun hk => by
          have hk := afterP_spec (e := { val := .d (.v (.bool r)) }) hk
          rw [hrun]
          refine hK _ Im ρ _ w hk ?_
          have hF : (s.after o.dst { val := .d (.v (.bool r)) }).F = (match o.dst with | some d => upd s.F d (.d (.v (.bool r))) | none => s.F) := by
            simp only [St.after]
            cases o.dst with
            | none => rfl
            | some d => exact lk_cons d _ s.f
          rw [hF]
          cases hdd : o.dst with
          | none => exact S
          | some d =>
            have hd' : d < c.nt := by rw [hn]; rw [hdd] at hd; simpa [dstIn] using hd
            exact S.put hd' (RA.intv _ rfl)
        split at h
        · rename_i els he
          obtain ⟨b, hb, hrun⟩ := opNilSl_ok (k := k) X.ok hin he c Im ρ s.F s.H a w o hn S rfl (fun _ _ => rfl)
          exact go b hrun (h b hb)
        · rename_i els he
          obtain ⟨b, hb, hrun⟩ := opNilSl_ok (k := k) X.ok hin he c Im ρ s.F s.H a w o hn S rfl (fun _ _ => rfl)
          exact go (!b) hrun (h b hb)
        · exact h.elim
        · split at h
          · rename_i val rh wh cond hg
            exact eff_step ok hn ha S hd (opG_ok X.ok hin hg) (fun r hx => by simp at hx) h hK
          · exact h.elim
    · exact h.elim
theorem runP_ok {ops : List Oper} {KP : List PanicEntry → St → Prop} {K : St → Prop} {Q : APost} (hall : ops.all (fun o => dstIn k.nt o.dst) = true) (hP : ∀ ch s, KP ch s → Q (.panic ch) s) (hK : ∀ s, K s → Q .normal s) : ∀ (l : List Oper) {s : St} {c : Cx} {Im : Nat → Prop} {ρ : Nat → Option Loc} {a : Act} {w : World}, c.Ok X.E → c.nt = k.nt → c.anc = k.anc → Sim c Im ρ s.F s.H a w →
    runP X.E X.tab k ops K KP l s → wpListIn c.fence 0 X.E.P ops.toArray (Lift c Q) l a w
  | [], s, c, Im, ρ, a, w, _, _, _, S, h => ⟨by simp, Im, ρ, s, S, hK s h⟩
  | o :: rest, s, c, Im, ρ, a, w, ok, hn, ha, S, h => by
    unfold runP at h
    split at h
    · rename_i b want hd hg
      have hw := guard_ok S hn hall hg
      unfold wpListIn
      rw [hw]
      have hyes : opP X.E X.tab k KP o s (runP X.E X.tab k ops K KP rest) → o.wpIn c.fence 0 X.E.P a w (wpListIn c.fence 0 X.E.P ops.toArray (Lift c Q) rest) (Lift c Q) := fun h => opP_ok ok hn ha S hd hP h fun s' Im' ρ' a' w' hk S' => runP_ok hall hP hK rest ok hn ha S' hk
      have hno : skipP s o.dst (runP X.E X.tab k ops K KP rest) → wpListIn c.fence 0 X.E.P ops.toArray (Lift c Q) rest (a.put o.dst undef) w := fun h => runP_ok hall hP hK rest ok hn ha (S.set hn hd (.tup #[] [] rfl (by simp)) rfl) (skipP_spec h)
      cases want with
      | true =>
        cases b with
        | true => exact hyes h
        | false => exact ⟨fun _ _ => trivial, hno h⟩
      | false =>
        cases b with
        | true => exact ⟨fun _ _ => trivial, hno h⟩
        | false => exact hyes h
    · exact h.elim
theorem AWp.region {id : Nat} {ops : Array Oper} {Q : APost} {s : St} (hall : ops.toList.all (fun o => dstIn k.nt o.dst) = true) (h : runP X.E X.tab k ops.toList (fun s => Q .normal s) (fun ch s => Q (.panic ch) s) ops.toList s) : AWp X.E k (.region id ops false) Q s := fun c ok hn ha Im ρ a w S =>
  wpIn_region_list (by simpa using runP_ok (X := X) (Q := Q) hall (fun _ _ h => h) (fun _ h => h) ops.toList ok hn ha S h)
end Go.Ax

namespace Go.Ax
theorem RD.cell' {h h' : Nat → Option Obj} {Im : Nat → Prop} (hh : ∀ b cs t fz, h b = some (.cells cs t fz) → h' b = some (.cells cs t fz)) {v : Value} {x : D} (H : RD h Im v x) : RD h' Im v x := by
  induction H with
  | v x h1 => exact .v x h1
  | nil t sz a cap ht => exact .nil t sz a cap ht
  | sl t sz els b o cap f hs hb hle ht hc hr ih =>
    exact .sl t sz els b o cap f hs hb hle ht (fun i j el x h1 h2 => by obtain ⟨cs, t, fz, g1, g2⟩ := hc i j el x h1 h2; exact ⟨cs, t, fz, hh _ _ _ _ g1, g2⟩) ih
theorem RA.cell' {h h' : Nat → Option Obj} {Im : Nat → Prop} {ρ : Nat → Option Loc} (hh : ∀ b cs t fz, h b = some (.cells cs t fz) → h' b = some (.cells cs t fz)) {v : Value} {x : AV} (H : RA h Im ρ v x) : RA h' Im ρ v x := by
  induction H with
  | junk x => exact .junk x
  | d x y hd => exact .d x y (hd.cell' hh)
  | dagg cs l hl hr => exact .dagg cs l hl fun i v x h1 h2 => (hr i v x h1 h2).cell' hh
  | agg cs l hl hr ih => exact .agg cs l hl ih
  | tup cs l hl hr ih => exact .tup cs l hl ih
  | ptr x r off h0 hp => exact .ptr x r off h0 hp
  | ep b o cs f hb hc hr => exact .ep b o cs f hb (fun j x h1 => by obtain ⟨ms, t, fz, g1, g2⟩ := hc j x h1; exact ⟨ms, t, fz, hh _ _ _ _ g1, g2⟩) fun j x h1 => (hr j x h1).cell' hh
  | msl x r n off len h0 hp => exact .msl x r n off len h0 hp
  | mptr x r n i j h0 hp => exact .mptr x r n i j h0 hp
  | mp x r h0 hp => exact .mp x r h0 hp
  | clo fn fs cs lf lc hf hc hrf hrc ihf ihc => exact .clo fn fs cs lf lc hf hc ihf ihc
  | ifc t x y hx ih => exact .ifc t x y ih
theorem KeyR.cell' {h h' : Nat → Option Obj} {Im : Nat → Prop} (hh : ∀ b cs t fz, h b = some (.cells cs t fz) → h' b = some (.cells cs t fz)) {agg : Bool} {v : Value} {x : List D} (H : KeyR h Im agg v x) : KeyR h' Im agg v x := by
  cases agg with
  | true => obtain ⟨cs, h1, h2, h3⟩ := H; exact ⟨cs, h1, h2, fun j u y e1 e2 => (h3 j u y e1 e2).cell' hh⟩
  | false => obtain ⟨y, h1, h2⟩ := H; exact ⟨y, h1, h2.cell' hh⟩
theorem RO.cell' {h h' : Nat → Option Obj} {Im : Nat → Prop} {ρ : Nat → Option Loc} {l : Loc} (hh : ∀ b cs t fz, h b = some (.cells cs t fz) → h' b = some (.cells cs t fz)) (hr : ∀ b cs t fz, h' b = some (.cells cs t fz) → h b = some (.cells cs t fz)) (hl : ∀ b ∈ l.fp, h' b = h b) {o : AObj} (H : RO h Im ρ l o) : RO h' Im ρ l o := by
  cases o with
  | var cs => exact ⟨H.1, H.2.1, H.2.2.mono hl fun i v hv x hx => ⟨(hv x hx).1.cell' hh, (hv x hx).2⟩⟩
  | dvar n cs => exact ⟨H.1, H.2.1, H.2.2.1, H.2.2.2.mono hl fun i v hv x hx => (hv x hx).cell' hh⟩
  | buf sz elem els =>
    obtain ⟨h0, h1, h2, h3, h4, h5⟩ := H
    refine ⟨h0, h1, h2, h3, h4, ?_⟩
    rcases h5 with h5 | ⟨b, ms, g1, g2, g3, g4, g5, g6⟩
    · exact .inl h5
    · refine .inr ⟨b, ms, g1, by rw [hl b (by simp [Loc.fp, g1])]; exact g2, g3, g4, g5, fun i j el x e1 e2 => ?_⟩
      obtain ⟨v, k1, k2⟩ := g6 i j el x e1 e2
      exact ⟨v, k1, k2.cell' hh⟩
  | lbuf elem els x =>
    obtain ⟨h0, h1, h2, h3, h4, b, ms, g1, g2, g3, g4, g5, g6, v, g7, g8, g9⟩ := H
    exact ⟨h0, h1, h2, h3, h4, b, ms, g1, by rw [hl b (by simp [Loc.fp, g1])]; exact g2, g3, g4, g5, fun i j el y e1 e2 => by
      obtain ⟨u, k1, k2⟩ := g6 i j el y e1 e2
      exact ⟨u, k1, k2.cell' hh⟩, v, g7, g8.cell' hh, g9⟩
  | map agg es =>
    obtain ⟨h0, h1, b, ms, k, g1, g2, g3, g4⟩ := H
    refine ⟨h0, h1, b, ms, k, g1, by rw [hl b (by simp [Loc.fp, g1])]; exact g2, g3, fun i e x e1 e2 => ?_⟩
    obtain ⟨k1, k2⟩ := g4 i e x e1 e2
    exact ⟨k1.cell' hh, k2.cell' hh⟩
  | siter s pos =>
    obtain ⟨h0, h1, b, g1, g2⟩ := H
    exact ⟨h0, h1, b, g1, by rw [hl b (by simp [Loc.fp, g1])]; exact g2⟩
  | ext R => exact ⟨H.1, H.2.1, H.2.2.1, H.2.2.1 _ _ hl H.2.2.2⟩
  | extI R => exact ⟨H.1, H.2.1, H.2.1 _ _ _ _ (fun _ h => h) (fun b _ cs t fz => ⟨hh _ _ _ _, hr _ _ _ _⟩) hl H.2.2⟩
  | gst K h0 R => exact ⟨H.1, H.2.1, fun b hb => ⟨(H.2.2.1 b hb).1, fun cs t fz => ((H.2.2.1 b hb).2 cs t fz).trans ⟨hh _ _ _ _, hr _ _ _ _⟩⟩, H.2.2.2.1, H.2.2.2.1 _ _ hl H.2.2.2.2⟩
  | tvar t cs =>
    obtain ⟨h0, h1, b, ms, g1, g2, g3, g4⟩ := H
    exact ⟨h0, h1, b, ms, g1, by rw [hl b (by simp [Loc.fp, g1])]; exact g2, g3, fun i v x e1 e2 => (g4 i v x e1 e2).cell' hh⟩
abbrev markD (D : Nat) : Deferred := { target := .collected D, args := #[] }
theorem Sim.shut1 {c : Cx} {Im : Nat → Prop} {ρ : Nat → Option Loc} {F : Nat → AV} {H : Nat → Option AObj} {a : Act} {w : World} (S : Sim c Im ρ F H a w) {D : Nat} {o : Obj} (h1 : c.w0.heap.size ≤ D) (h2 : Im D) (h3 : ∀ cs t fz, hp w D ≠ some (.cells cs t fz)) (h5 : ∀ cs t fz, o ≠ .cells cs t fz) {ds : List Deferred} (h4 : Marks c.w0.heap.size c.marks Im (hp (w.putObj D o)) ds c.defs) :
    Sim c Im ρ F H { a with defers := ds } (w.putObj D o) := by
  have hne : ∀ b, b ≠ D → hp (w.putObj D o) b = hp w b := fun b h => World.putObj_heap_other h
  have hh : ∀ b cs t fz, hp w b = some (.cells cs t fz) → hp (w.putObj D o) b = some (.cells cs t fz) := fun b cs t fz h => by
    rw [hne b fun e => h3 cs t fz (by rw [← e]; exact h)]; exact h
  have hrv : ∀ b cs t fz, hp (w.putObj D o) b = some (.cells cs t fz) → hp w b = some (.cells cs t fz) := fun b cs t fz h => by
    by_cases e : b = D
    · subst e
      have hlt : b < w.heap.size := by
        have := (Array.getElem?_eq_some_iff.1 (show (w.putObj b o).heap[b]? = _ from h)).1
        rwa [World.putObj_size] at this
      rw [show hp (w.putObj b o) b = some o from World.putObj_heap_same hlt] at h
      injection h with h; exact absurd h (h5 cs t fz)
    · rwa [hne b e] at h
  refine { defs := h4, nt := S.nt, fr := fun t ht => (S.fr t ht).cell' hh, obj := fun r o1 hr => ?_, dis := S.dis, imn := fun b hb => by rw [World.putObj_size]; exact S.imn b hb, im0 := S.im0, os := S.os, tape := S.tape, output := S.output, size := by rw [World.putObj_size]; exact S.size, kept := fun b hb hf => ?_, anc := S.anc }
  · obtain ⟨l, g1, g2, g3⟩ := S.obj r o1 hr
    exact ⟨l, g1, g2.cell' hh hrv fun b hb => hne b fun e => (g3 b hb).2.1 (e ▸ h2), fun b hb => by rw [World.putObj_size]; exact g3 b hb⟩
  · exact (hne b (by omega)).trans (S.kept b hb hf)
theorem Sim.shut {c : Cx} {Im : Nat → Prop} {ρ : Nat → Option Loc} {F : Nat → AV} {H : Nat → Option AObj} (hc : c.defs = []) (hmk : c.marks = true) {P : Program} {n : Nat} {fn : Func} {R : Ending → World → Prop} {u : FrameMode} (hu : u ≠ .run) : ∀ (ms : List Nat) (a : Act) (w : World), a.defers = ms.map markD → ms.Nodup →
    (∀ D ∈ ms, c.w0.heap.size ≤ D ∧ Im D ∧ hp w D = some (.deferred (some []))) → Sim c Im ρ F H a w →
    ∃ w', Sim c Im ρ F H { a with defers := [] } w' ∧ (LeavesIn Fence.wide n P fn a.tmps R [] u w' → LeavesInM Fence.wide n P fn a.tmps R a.defers u w)
  | [], a, w, ha, _, _, S => ⟨w, by
      have : ({ a with defers := [] } : Act) = a := by cases a; simp_all
      rw [this]; exact S, fun h => by rw [ha]; exact h⟩
  | D :: ms, a, w, ha, hn, hD, S => by
    obtain ⟨h1, h2, h3⟩ := hD D (by simp)
    obtain ⟨hn1, hn2⟩ := List.nodup_cons.1 hn
    have hr : ∀ E ∈ ms, c.w0.heap.size ≤ E ∧ Im E ∧ hp (w.putObj D (.deferred none)) E = some (.deferred (some [])) := fun E hE => by
      obtain ⟨g1, g2, g3⟩ := hD E (by simp [hE])
      exact ⟨g1, g2, by rw [show hp (w.putObj D (.deferred none)) E = hp w E from World.putObj_heap_other fun e => hn1 (e ▸ hE)]; exact g3⟩
    have S1 := S.shut1 (o := .deferred none) (ds := ms.map markD) h1 h2 (by rw [h3]; simp) (by simp) ⟨ms, by rw [hc]; simp, fun _ => hmk, hn2, hr⟩
    obtain ⟨w', S2, hl⟩ := Sim.shut hc hmk hu ms { a with defers := ms.map markD } (w.putObj D (.deferred none)) rfl hn2 hr S1
    refine ⟨w', S2, fun h => ?_⟩
    rw [ha]
    exact ⟨hu, .inl ⟨D, _, rfl, run_takeDeferred h3, hl h⟩⟩
end Go.Ax

namespace Go.Ax
def settle (ho : HL) (s : St) : AV → AV
  | .msl r n off len => match lkH r ho with
    | some _ => .msl r n off len
    | none => match lkH r s.h with
      | some (.buf sz _ els) => .d (.sl false sz ((els.drop off).take len))
      | _ => .junk
  | .tup cs => .tup (settleL cs)
  | .agg cs => .agg (settleL cs)
  | x => x
where
  settleL : List AV → List AV
  | [] => []
  | x :: xs => settle ho s x :: settleL xs
def settleC (ho : HL) (s : St) : AV → List Prop
  | .msl r n off len => match lkH r ho with
    | some _ => []
    | none => match lkH r s.h with
      | some (.buf _ _ els) => [n = els.length, off + len ≤ els.length]
      | _ => []
  | .tup cs => settleCL cs
  | .agg cs => settleCL cs
  | _ => []
where
  settleCL : List AV → List Prop
  | [] => []
  | x :: xs => settleC ho s x ++ settleCL xs
theorem settleL_get {ho : HL} {s : St} : ∀ (cs : List AV) (i : Nat), (settle.settleL ho s cs)[i]? = (cs[i]?).map (settle ho s)
  | [], i => by simp [settle.settleL]
  | x :: xs, 0 => by simp [settle.settleL]
  | x :: xs, i + 1 => by simp [settle.settleL, settleL_get xs i]
theorem settleL_length {ho : HL} {s : St} : ∀ (cs : List AV), (settle.settleL ho s cs).length = cs.length
  | [] => rfl
  | x :: xs => by simp [settle.settleL, settleL_length xs]
theorem settleCL_get {ho : HL} {s : St} : ∀ {cs : List AV} {i : Nat} {x : AV}, AllL (settleC.settleCL ho s cs) → cs[i]? = some x → AllL (settleC ho s x)
  | [], i, x, _, h => by simp at h
  | y :: ys, 0, x, hc, h => by simp at h; subst h; exact (AllL_append hc).1
  | y :: ys, i + 1, x, hc, h => settleCL_get (AllL_append hc).2 (by simpa using h)
def closedB (ho : HL) : AV → Bool
  | .ptr r _ | .msl r _ _ _ | .mptr r _ _ _ | .mp r => (lkH r ho).isSome
  | .agg cs | .tup cs => closedL cs
  | .clo _ f c => match closedL f with
    | true => closedL c
    | false => false
  | .ifc _ x => closedB ho x
  | _ => true
where
  closedL : List AV → Bool
  | [] => true
  | x :: xs => match closedB ho x with
    | true => closedL xs
    | false => false
mutual
theorem closedB_spec {ho : HL} : ∀ {x : AV}, closedB ho x = true → Closed ho x
  | .ptr r _, h => fun q hq => by simp [AV.ment] at hq; subst hq; exact h
  | .msl r _ _ _, h => fun q hq => by simp [AV.ment] at hq; subst hq; exact h
  | .mptr r _ _ _, h => fun q hq => by simp [AV.ment] at hq; subst hq; exact h
  | .mp r, h => fun q hq => by simp [AV.ment] at hq; subst hq; exact h
  | .agg cs, h => fun q hq => closedL_spec (cs := cs) h q hq
  | .tup cs, h => fun q hq => closedL_spec (cs := cs) h q hq
  | .clo _ f c, h => fun q hq => by
    simp only [closedB] at h
    split at h
    · rename_i h1
      simp only [AV.ment, Bool.or_eq_true] at hq
      rcases hq with hq | hq
      · exact closedL_spec h1 q hq
      · exact closedL_spec h q hq
    · simp at h
  | .ifc _ x, h => fun q hq => closedB_spec (x := x) h q hq
  | .junk, _ => fun q hq => by simp [AV.ment] at hq
  | .d _, _ => fun q hq => by simp [AV.ment] at hq
  | .dagg _, _ => fun q hq => by simp [AV.ment] at hq
  | .ep _, _ => fun q hq => by simp [AV.ment] at hq
theorem closedL_spec {ho : HL} : ∀ {cs : List AV}, closedB.closedL ho cs = true → ∀ q, AV.ment.mentL q cs = true → (lkH q ho).isSome = true
  | [], _, q, hq => by simp [AV.ment.mentL] at hq
  | x :: xs, h, q, hq => by
    simp only [closedB.closedL] at h
    split at h
    · rename_i h1
      simp only [AV.ment.mentL, Bool.or_eq_true] at hq
      rcases hq with hq | hq
      · exact closedB_spec h1 q hq
      · exact closedL_spec h q hq
    · simp at h
end

def closedOB (ho : HL) : AObj → Bool
  | .var cs => closedB.closedL ho cs
  | .lbuf _ _ x => closedB ho x
  | _ => true
def closedH (ho : HL) : HL → Bool
  | [] => true
  | (_, some o) :: r => match closedOB ho o with
    | true => closedH ho r
    | false => false
  | (_, none) :: r => closedH ho r
theorem closedH_spec {ho : HL} : ∀ {h : HL}, closedH ho h = true → ∀ r o, lkH r h = some o → ClosedO ho o
  | [], _, r, o, hr => by simp [lkH] at hr
  | (q, some x) :: rest, h, r, o, hr => by
    simp only [closedH] at h
    split at h
    · rename_i h1
      simp only [lkH] at hr
      split at hr
      · injection hr with hr; subst hr
        cases x with
        | var cs => exact fun q hq => closedL_spec h1 q hq
        | lbuf _ _ x => exact fun q hq => closedB_spec h1 q hq
        | _ => exact fun q hq => by simp [AObj.ment] at hq
      · exact closedH_spec h r o hr
    · simp at h
  | (q, none) :: rest, h, r, o, hr => by
    simp only [closedH] at h
    simp only [lkH] at hr
    split at hr
    · simp at hr
    · exact closedH_spec h r o hr
def restIm (Im : Nat → Prop) (ρ : Nat → Option Loc) (s : St) (ho : HL) (b : Nat) : Prop := Im b ∨ ∃ r o l, lkH r s.h = some o ∧ lkH r ho = none ∧ ρ r = some l ∧ b ∈ l.fp
def restρ (ρ : Nat → Option Loc) (ho : HL) (r : Nat) : Option Loc := if (lkH r ho).isSome then ρ r else none
theorem RD.ofBuf {h : Nat → Option Obj} {Im Im' : Nat → Prop} {ρ : Nat → Option Loc} {l : Loc} {sz : Nat} {el : TypeId} {els : List (List D)} {off len : Nat} (H : RO h Im ρ l (.buf sz el els)) (hI : ∀ b, Im b → Im' b) (hl : ∀ b ∈ l.fp, Im' b) (hle : off + len ≤ els.length) :
    RD h Im' (l.sub off len) (.sl false sz ((els.drop off).take len)) := by
  obtain ⟨_, _, h2, _, h4, h5⟩ := H
  by_cases hz : len = 0
  · subst hz; rw [List.take_zero]; exact .nil false sz _ _ (by simp)
  · rcases h5 with ⟨_, h6, _⟩ | ⟨b, ms, h6, h7, h8, _, _, h11⟩
    · subst h6; simp at hle; omega
    · have hlen : ((els.drop off).take len).length = len := by simp; omega
      have hv : l.sub off len = .slice (some ⟨b, off * sz, none⟩) len (l.cap - off) := by
        simp only [Loc.sub, Loc.addr, h6, h2]
        rw [if_neg (by omega)]
        simp [add_zero_spot]
      rw [hv]
      have key := RD.row (h := h) (Im := Im') (b := b) (o := off * sz) (cap := l.cap - off) (sz := sz) (els := (els.drop off).take len) (tight := false) (cs := ms) (t := el) (fz := (0, 0)) (hl b (by simp [Loc.fp, h6])) h7
        (fun q hq => h4 q (List.mem_of_mem_drop (List.mem_of_mem_take hq))) (by rw [hlen]; omega) (by simp) (fun i j q x e1 e2 => by
          rw [List.getElem?_take] at e1
          split at e1
          · rw [List.getElem?_drop] at e1
            obtain ⟨v, k1, k2⟩ := h11 _ j q x e1 e2
            exact ⟨v, by rw [← k1]; congr 1; rw [Nat.add_mul]; omega, k2.mono hI fun _ _ => rfl⟩
          · simp at e1)
      rwa [hlen] at key
theorem settle_RA {c : Cx} {Im : Nat → Prop} {ρ : Nat → Option Loc} {s : St} {a : Act} {w : World} {ho : HL} (S : Sim c Im ρ s.F s.H a w) {v : Value} {x : AV} (H : RA (hp w) Im ρ v x) : AllL (settleC ho s x) → RA (hp w) (restIm Im ρ s ho) (restρ ρ ho) v (settle ho s x) := by
  have base : ∀ {v : Value} {x : AV}, RA (hp w) Im ρ v x → RA (hp w) (restIm Im ρ s ho) (restρ ρ ho) v x := fun h => h.mono (fun _ h => .inl h) (fun _ _ => rfl) fun r _ l' hl' => by
    unfold restρ at hl'
    split at hl'
    · exact ⟨l', hl', .inl rfl⟩
    · simp at hl'
  induction H with
  | agg cs l hl hr ih =>
    intro hc
    refine .agg cs _ (by rw [settleL_length]; exact hl) fun i v x h1 h2 => ?_
    rw [settleL_get, Option.map_eq_some_iff] at h2
    obtain ⟨y, hy, rfl⟩ := h2
    exact ih i v y h1 hy (settleCL_get hc hy)
  | tup cs l hl hr ih =>
    intro hc
    refine .tup cs _ (by rw [settleL_length]; exact hl) fun i v x h1 h2 => ?_
    rw [settleL_get, Option.map_eq_some_iff] at h2
    obtain ⟨y, hy, rfl⟩ := h2
    exact ih i v y h1 hy (settleCL_get hc hy)
  | msl x r n off len h1 hp2 =>
    intro hc
    simp only [settle, settleC] at hc ⊢
    cases h2 : lkH r ho with
    | some o => exact base (.msl x r n off len h1 hp2)
    | none =>
      simp only [h2] at hc ⊢
      cases h3 : lkH r s.h with
      | none => exact .junk _
      | some o =>
        cases o with
        | buf sz el els =>
          simp only [h3] at hc ⊢
          obtain ⟨l, hl, hro, _⟩ := S.obj r _ h3
          have hv := (hp2 l hl).2 (by rw [hro.2.2.2.1]; exact hc.1)
          rw [hv]
          exact .d _ _ (RD.ofBuf hro (fun _ h => .inl h) (fun b hb => .inr ⟨r, _, l, h3, h2, hl, hb⟩) hc.2.1)
        | _ => exact .junk _
  | junk x => exact fun _ => .junk x
  | d x y hd => exact fun _ => base (.d x y hd)
  | dagg cs l hl hr => exact fun _ => base (.dagg cs l hl hr)
  | ptr x r off h1 hp2 => exact fun _ => base (.ptr x r off h1 hp2)
  | ep b o cs f hb hc hr => exact fun _ => base (.ep b o cs f hb hc hr)
  | mptr x r n i j h1 hp2 => exact fun _ => base (.mptr x r n i j h1 hp2)
  | mp x r h1 hp2 => exact fun _ => base (.mp x r h1 hp2)
  | clo fn fs cs lf lc hf hc hrf hrc _ _ => exact fun _ => base (.clo fn fs cs lf lc hf hc hrf hrc)
  | ifc t x y hx _ => exact fun _ => base (.ifc t x y hx)
theorem Sim.leave {c : Cx} {Im : Nat → Prop} {ρ : Nat → Option Loc} {s : St} {a : Act} {w w0 : World} {Im0 : Nat → Prop} {ρ0 : Nat → Option Loc} {hin ho : HL} (S : Sim c Im ρ s.F s.H a w) (e1 : c.w0 = w0) (e2 : c.Im0 = Im0) (e3 : c.fp = TIn ρ0 hin) (e4 : ∀ r ∈ hin.map (·.1), r ∈ c.anc) (e5 : c.ρ0 = ρ0) (hle : LeH ho s.h) (hcl : closedH ho ho = true) :
    After w0 Im0 ρ0 hin w (restIm Im ρ s ho) (restρ ρ ho) ho := by
  have hho : ∀ r o, lkH r ho = some o → lkH r s.h = some o := fun r o h => LeH.at hle r o h
  have hρ : ∀ r o, lkH r ho = some o → restρ ρ ho r = ρ r := fun r o h => by simp [restρ, h]
  have hρ' : ∀ q l', restρ ρ ho q = some l' → ρ q = some l' := fun q l' h => by
    unfold restρ at h; split at h
    · exact h
    · simp at h
  refine ⟨⟨by rw [← e1]; exact S.size, by rw [← e1]; exact S.os, by rw [← e1]; exact S.tape, by rw [← e1]; exact S.output, fun b hb ht => by rw [← e1] at hb ⊢; exact S.kept b hb (by rw [e3]; exact ht)⟩, fun b hb => .inl (S.im0 b (by rw [e2]; exact hb)), fun b hb => ?_, ⟨fun r o hr => ?_, fun r r' o o' l l' h1 h2 hne h3 h4 => ?_⟩, fun r o hr l' hl' => ?_, fun r o hr => closedH_spec hcl r o hr⟩
  · rcases hb with hb | ⟨r, o, l, h1, h2, h3, h4⟩
    · have := S.imn b hb
      rw [e1, e2, e3] at this
      exact this
    · obtain ⟨l0, h5, _, h6⟩ := S.obj r o h1
      rw [h3] at h5; injection h5 with h5; subst h5
      have := h6 b h4
      rw [e1, e3] at this
      exact ⟨this.1, .inr this.2.2⟩
  · obtain ⟨l, h1, h2, h3⟩ := S.obj r o (hho r o hr)
    refine ⟨l, by rw [hρ r o hr]; exact h1, h2.mono (fun _ h => .inl h) (fun _ _ => rfl) (fun _ _ => rfl) (fun q _ l' hl' => ⟨l', hρ' q l' hl', .inl rfl⟩), fun b hb => ?_⟩
    have h4 := h3 b hb
    rw [e1, e3] at h4
    refine ⟨h4.1, fun hi => ?_, h4.2.2⟩
    rcases hi with hi | ⟨r', o', l', g1, g2, g3, g4⟩
    · exact h4.2.1 hi
    · have hne : r ≠ r' := fun e => by subst e; rw [hr] at g2; exact absurd g2 (by simp)
      exact S.dis r r' o o' l l' (hho r o hr) g1 hne h1 g3 b hb g4
  · rw [hρ r o h1] at h3
    rw [hρ r' o' h2] at h4
    exact S.dis r r' o o' l l' (hho r o h1) (hho r' o' h2) hne h3 h4
  · obtain ⟨p, hp1, hp2⟩ := lkH_mem hr
    have := S.anc r (e4 _ (List.mem_map.2 ⟨p, hp1, hp2⟩)) l' (hρ' r l' hl')
    rw [e5] at this; exact this
def resV (tab : List (Nat × TI)) (s : St) : ResultVar → Option (AV × List Prop)
  | .tmp t => some (lk t s.f, [])
  | .cell p ty => match opLoad tab s ty (.tmp p) with
    | some e => some (e.val, e.cond)
    | none => none
def resL (tab : List (Nat × TI)) (s : St) : List ResultVar → Option (List AV × List Prop)
  | [] => some ([], [])
  | r :: rs => match resV tab s r, resL tab s rs with
    | some (x, c), some (xs, cs) => some (x :: xs, c ++ cs)
    | _, _ => none
def outAV : List AV → AV
  | [x] => x
  | l => .tup l
def resIn (n : Nat) : ResultVar → Bool
  | .tmp t => Nat.blt t n
  | .cell p _ => Nat.blt p n
def strictR (v : AV) (K : AV → Prop) : Prop := match v with
  | .tup vs => strictL vs fun vs => K (.tup vs)
  | v => strictV v K
theorem strictR_spec {v : AV} {K : AV → Prop} (h : strictR v K) : K v := by
  unfold strictR at h; split at h
  · exact strictL_spec (K := fun vs => K (.tup vs)) h
  · exact strictV_spec h
def leHP (ho h : HL) (p : Prop) : Prop := match ho with
  | [] => p
  | (r, o) :: t => LeH ((r, o) :: t) h ∧ p
theorem leHP_spec {ho h : HL} {p : Prop} (hp : leHP ho h p) : LeH ho h ∧ p := by
  unfold leHP at hp; split at hp
  · exact ⟨trivial, hp⟩
  · exact hp
def retF (tab : List (Nat × TI)) (rs : List ResultVar) (ho : HL) (post : AOut → Prop) (s : St) : Prop := match resL tab s rs with
  | some (xs, cs) => match closedB ho (settle ho s (outAV xs)), closedH ho ho with
    | true, true => leHP ho s.h (condP cs (condP (settleC ho s (outAV xs)) (strictR (settle ho s (outAV xs)) fun r => post (.ret r ho))))
    | _, _ => False
  | none => False
structure RetP (tab : List (Nat × TI)) (rs : List ResultVar) (post : AOut → Prop) (s : St) : Prop where
  ok : ∃ ho, retF tab rs ho post s
structure PanP (post : AOut → Prop) (ch : List PanicEntry) (s : St) : Prop where
  ok : ∃ ho, LeH ho s.h ∧ closedH ho ho = true ∧ post (.pan ch ho)
def retP (tab : List (Nat × TI)) (rs : List ResultVar) (post : AOut → Prop) : APost
  | .ret, s | .normal, s => RetP tab rs post s
  | .panic ch, s => PanP post ch s
  | _, _ => False
def rdRes (tmps : Array Value) : ResultVar → Sem Value
  | .tmp t => pure (tmps.getD t undef)
  | .cell a t => do loadVar t (← asAddr (tmps.getD a undef))
def outV : List Value → Value
  | [x] => x
  | l => .tuple l.toArray
variable {X : Ax} {k : Kn}
theorem resV_ok {s : St} {c : Cx} {Im : Nat → Prop} {ρ : Nat → Option Loc} {a : Act} {w : World} {r : ResultVar} {x : AV} {cs : List Prop} (ok : c.Ok X.E) (hn : c.nt = k.nt) (S : Sim c Im ρ s.F s.H a w) (hin : resIn k.nt r = true) (h : resV X.tab s r = some (x, cs)) (hc : AllL cs) :
    ∃ v, (rdRes a.tmps r).run X.E.P w = .ok v w ∧ RA (hp w) Im ρ v x := by
  cases r with
  | tmp t =>
    simp only [resV] at h
    injection h with h; injection h with h1 h2; subst h1
    have ht : t < c.nt := by rw [hn]; simpa [resIn] using hin
    exact ⟨_, rfl, S.fr t ht⟩
  | cell p ty =>
    simp only [resV] at h
    split at h
    · rename_i e he
      injection h with h; injection h with h1 h2; subst h1; subst h2
      have hp2 : opIn k.nt (.load ty (.tmp p)) = true := by simpa [opIn, Op.operands, inN, resIn] using hin
      obtain ⟨hok, hrh⟩ := opLoad_pure (E := X.E) (k := k) (ty := ty) X.ok hp2 he
      have hnone := hok.1
      obtain ⟨v, h3, h4⟩ := hok.2.2 c Im ρ s.F s.H a w { (default : Oper) with op := .load ty (.tmp p), type := ty } ok hn S rfl rfl (fun _ _ => rfl) (fun r x hx => hrh r x hx) hc
      refine ⟨v, ?_, h4⟩
      have hev : a.eval (.tmp p) = a.tmps.getD p undef := rfl
      simp only [execOp, Instr.loadAt, Sem.run_bind, hev, rdRes] at h3 ⊢
      generalize a.tmps.getD p undef = u at h3 ⊢
      have hp3 : ∃ ad, u = .pointer (some ad) := by
        cases u <;> simp [Instr.sureAddr] at h3
        rename_i q
        cases q with
        | none => simp at h3
        | some ad => exact ⟨ad, rfl⟩
      obtain ⟨ad, rfl⟩ := hp3
      simp only [Instr.sureAddr, asAddr, Sem.run_pure, Result.andThen_ok] at h3 ⊢
      cases hr : (loadVar ty ad).run X.E.P w with
      | ok v' w' =>
        rw [hr] at h3
        simp only [Result.andThen_ok] at h3
        injection h3 with h5 h6
        injection h5 with h5
        subst h5; subst h6; rfl
      | halt x w' => rw [hr] at h3; simp at h3
    · simp at h
theorem run_results {P : Program} {fn : Func} {tmps : Array Value} {w : World} {vs : List Value} (h : (fn.results.toList.mapM (rdRes tmps)).run P w = .ok vs w) : (results fn tmps).run P w = .ok (outV vs) w := by
  have he : results fn tmps = (do let vs ← fn.results.mapM (rdRes tmps); pure (if h : vs.size = 1 then vs[0] else .tuple vs)) := by
    unfold results
    congr 1
  have h2 : (fn.results.mapM (rdRes tmps)).run P w = .ok vs.toArray w := by
    rw [Array.mapM_eq_mapM_toList, Sem.run_map, h]; rfl
  rw [he, Sem.run_bind, h2]
  simp only [Result.andThen_ok]
  cases vs with
  | nil => rfl
  | cons x l =>
    cases l with
    | nil => rfl
    | cons y l => simp [outV]
theorem resL_ok {s : St} {c : Cx} {Im : Nat → Prop} {ρ : Nat → Option Loc} {a : Act} {w : World} (ok : c.Ok X.E) (hn : c.nt = k.nt) (S : Sim c Im ρ s.F s.H a w) : ∀ {rs : List ResultVar} {xs : List AV} {cs : List Prop}, rs.all (resIn k.nt) = true → resL X.tab s rs = some (xs, cs) → AllL cs →
    ∃ vs : List Value, (rs.mapM (rdRes a.tmps)).run X.E.P w = .ok vs w ∧ vs.length = xs.length ∧ ∀ (i : Nat) (v : Value) (x : AV), vs[i]? = some v → xs[i]? = some x → RA (hp w) Im ρ v x
  | [], xs, cs, _, h, _ => by
    simp only [resL] at h
    injection h with h; injection h with h1 h2; subst h1
    exact ⟨[], by simp, rfl, by simp⟩
  | r :: rs, xs, cs, hin, h, hc => by
    simp only [resL] at h
    split at h
    · rename_i x c1 ys c2 h1 h2
      injection h with h; injection h with h3 h4; subst h3; subst h4
      simp only [List.all_cons, Bool.and_eq_true] at hin
      obtain ⟨v, g1, g2⟩ := resV_ok ok hn S hin.1 h1 (AllL_append hc).1
      obtain ⟨vs, g3, g4, g5⟩ := resL_ok ok hn S hin.2 h2 (AllL_append hc).2
      refine ⟨v :: vs, ?_, by simp [g4], fun i u y e1 e2 => ?_⟩
      · rw [List.mapM_cons, Sem.run_bind, g1]
        simp only [Result.andThen_ok, Sem.run_bind, g3, Sem.run_pure]
      · cases i with
        | zero => simp at e1 e2; subst e1; subst e2; exact g2
        | succ i => exact g5 i u y (by simpa using e1) (by simpa using e2)
    · simp at h
def entry : Nat → List AV → List (Nat × AV)
  | _, [] => []
  | i, x :: xs => (i, x) :: entry (i + 1) xs
theorem lk_entry : ∀ (xs : List AV) (i t : Nat), lk t (entry i xs) = if i ≤ t then xs.getD (t - i) .junk else .junk
  | [], i, t => by simp [entry, lk]
  | x :: xs, i, t => by
    simp only [entry, lk]
    by_cases h : i = t
    · subst h; simp
    · have : Nat.beq i t = false := by
        cases hb : Nat.beq i t with
        | false => rfl
        | true => exact absurd (Nat.eq_of_beq_eq_true hb) h
      rw [this]
      simp only [lk_entry xs (i + 1) t]
      by_cases h2 : i ≤ t
      · rw [if_pos h2, if_pos (by omega)]
        have : t - i = (t - (i + 1)) + 1 := by omega
        rw [this]; simp
      · rw [if_neg h2, if_neg (by omega)]
abbrev cxOf (w : World) (Im : Nat → Prop) (ρ : Nat → Option Loc) (nt : Nat) (hin : HL) (ds : List Deferred) : Cx := { w0 := w, fp := TIn ρ hin, Im0 := Im, nt, anc := hin.map (·.1), ρ0 := ρ, defs := ds }
theorem entry_ok {E : Env} {args : List AV} {hin : HL} {w : World} {Im : Nat → Prop} {ρ : Nat → Option Loc} {vs : Array Value} {nt : Nat} (hargs : args.length ≤ nt) (hG : E.G w) (hIm : ∀ b, Im b → b < w.heap.size) (hgl : ∀ b, b < E.ng → Im b) (hsz : vs.size = args.length)
    (hra : ∀ (i : Nat) (v : Value) (x : AV), vs[i]? = some v → args[i]? = some x → RA (hp w) Im ρ v x) (hrel : HRel w Im ρ hin (fun _ => True)) :
    (cxOf w Im ρ nt hin []).Ok E ∧ Sim (cxOf w Im ρ nt hin []) Im ρ (St.F { f := entry 0 args, h := hin }) (St.H { f := entry 0 args, h := hin }) { tmps := vs ++ Array.replicate (nt - vs.size) undef, defers := [] } w := by
  have hTin : ∀ b, TIn ρ hin b → b < w.heap.size ∧ ¬ Im b := fun b ⟨r, o, l, h1, h2, h3⟩ => by
    obtain ⟨l', h4, _, h5⟩ := hrel.obj r o h1
    rw [h2] at h4; injection h4 with h4; subst h4
    exact ⟨(h5 b h3).1, (h5 b h3).2.1⟩
  refine ⟨⟨fun b hb => ⟨hIm b hb, fun ht => (hTin b ht).2 hb⟩, hgl, hG, fun _ => ⟨rfl, rfl⟩⟩, ?_⟩
  refine { defs := .none, nt := by simp; omega, fr := fun t ht => ?_, obj := fun r o hr => ?_, dis := hrel.dis, imn := fun b hb => ⟨hIm b hb, .inl hb⟩, im0 := fun b hb => hb, os := rfl, tape := rfl, output := rfl, size := Nat.le_refl _, kept := fun b _ _ => rfl, anc := fun r _ l' hl' => ⟨l', hl', .inl rfl⟩ }
  · simp only [St.F, lk_entry, Nat.zero_le, if_true, Nat.sub_zero]
    by_cases hlt : t < args.length
    · have hx : args[t]? = some (args.getD t .junk) := by simp [List.getD, List.getElem?_eq_getElem hlt]
      have hv : vs[t]? = some ((vs ++ Array.replicate (nt - vs.size) undef).getD t undef) := by
        have : t < vs.size := by omega
        simp [Array.getD, this, Array.getElem_append_left this]
        omega
      exact hra t _ _ hv hx
    · have : args.getD t .junk = .junk := by simp [List.getD, List.getElem?_eq_none (Nat.le_of_not_lt hlt)]
      rw [this]; exact .junk _
  · obtain ⟨l, h1, h2, h3⟩ := hrel.obj r o hr
    exact ⟨l, h1, h2, fun b hb => ⟨(h3 b hb).1, (h3 b hb).2.1, .inr ⟨r, o, l, hr, h1, hb⟩⟩⟩
theorem RetP.ends {fn : Func} {hin : HL} {post : AOut → Prop} {w w' : World} {Im Im' : Nat → Prop} {ρ ρ' : Nat → Option Loc} {s' : St} {a' : Act} {c : Cx} (ok : c.Ok X.E) (en : c.nt = fn.ntmps) (e1 : c.w0 = w) (e2 : c.Im0 = Im) (e3 : c.fp = TIn ρ hin) (e4 : ∀ r ∈ hin.map (·.1), r ∈ c.anc) (e5 : c.ρ0 = ρ) (hres : fn.results.toList.all (resIn fn.ntmps) = true)
    (S' : Sim c Im' ρ' s'.F s'.H a' w') (hR : RetP X.tab fn.results.toList post s') : ∃ v, (results fn a'.tmps).run X.E.P w' = .ok v w' ∧ Ends post w Im ρ hin (.returned v) w' := by
  obtain ⟨ho, hF⟩ := hR.ok
  unfold retF at hF
  split at hF
  · rename_i xs cs hxs
    split at hF
    · rename_i hcl hclH
      obtain ⟨hle, hF⟩ := leHP_spec hF
      obtain ⟨hcs, hF⟩ := condP_spec hF
      obtain ⟨hset, hpost⟩ := condP_spec hF
      have hpost := strictR_spec hpost
      obtain ⟨vs', g1, g2, g3⟩ := resL_ok (k := { nt := fn.ntmps, anc := hin.map (·.1) }) ok en S' hres hxs hcs
      refine ⟨_, run_results g1, _, ho, _, _, hpost, settle_RA S' ?_ hset, closedB_spec hcl, S'.leave e1 e2 e3 e4 e5 hle hclH⟩
      match vs', xs, g2, g3 with
      | [], [], _, _ => exact .tup #[] [] rfl (by simp)
      | [v], [x], _, g3 => exact g3 0 v x rfl rfl
      | v :: v2 :: vr, x :: x2 :: xr, g2, g3 => exact .tup _ _ (by simpa using g2) fun i u y e1 e2 => g3 i u y (by simpa using e1) e2
    · exact hF.elim
  · exact hF.elim
theorem Ctr.intro' (top : List Nat) {f : FuncId} {fn : Func} {code : Code} {args : List AV} {hin : HL} {post : AOut → Prop} (hf : X.E.P.funcs[f]? = some fn) (hb : fn.body = some code) (hname : (fn.name == "runtime.NumGoroutine") = false) (hargs : args.length ≤ fn.ntmps) (hres : fn.results.toList.all (resIn fn.ntmps) = true)
    (h : AWp X.E { nt := fn.ntmps, anc := top ++ hin.map (·.1) } code (retP X.tab fn.results.toList post) { f := entry 0 args, h := hin }) : Ctr X.E f args hin post := by
  refine ⟨⟨fn, hf, by rw [hb]; rfl, hname⟩, fun w Im ρ vs hG hIm hgl hsz hra hrel => ?_⟩
  obtain ⟨ok, S⟩ := entry_ok (nt := fn.ntmps) hargs hG hIm hgl hsz hra hrel
  refine callsIn_wide.1 (callsIn_of_wp_marks (n := 0) hf hb trivial ?_)
  let c : Cx := { cxOf w Im ρ fn.ntmps hin [] with anc := top ++ hin.map (·.1) }
  have ok' : c.Ok X.E := ⟨ok.im, ok.gl, ok.G, fun _ => ⟨rfl, rfl⟩⟩
  have S0 : Sim c Im ρ (St.F { f := entry 0 args, h := hin }) (St.H { f := entry 0 args, h := hin }) { tmps := vs ++ Array.replicate (fn.ntmps - vs.size) undef, defers := [] } w :=
    { defs := S.defs, nt := S.nt, fr := S.fr, obj := S.obj, dis := S.dis, imn := S.imn, im0 := S.im0, os := S.os, tape := S.tape, output := S.output, size := S.size, kept := S.kept, anc := fun r _ l' hl' => ⟨l', hl', .inl rfl⟩ }
  have hanc : ∀ r ∈ hin.map (·.1), r ∈ c.anc := fun r h => List.mem_append.2 (.inr h)
  refine wpIn_mono (h c ok' rfl rfl Im ρ _ w S0) fun e a' w' ⟨hne, Im', ρ', s', S', hQ⟩ => ?_
  obtain ⟨ms, d1, _, d3, d4⟩ := S'.defs
  have d1 : a'.defers = ms.map markD := by rw [d1]; simp [c]
  cases e with
  | normal =>
    obtain ⟨w2, S2, hl⟩ := Sim.shut (u := .returning) (P := X.E.P) (n := 0) (fn := fn) (R := Ends post w Im ρ hin) rfl rfl (by simp) ms a' w' d1 d3 d4 S'
    have h9 := RetP.ends ok' rfl rfl rfl rfl hanc rfl hres S2 hQ
    exact hl h9
  | ret =>
    obtain ⟨w2, S2, hl⟩ := Sim.shut (u := .returning) (P := X.E.P) (n := 0) (fn := fn) (R := Ends post w Im ρ hin) rfl rfl (by simp) ms a' w' d1 d3 d4 S'
    have h9 := RetP.ends ok' rfl rfl rfl rfl hanc rfl hres S2 hQ
    exact hl h9
  | panic ch =>
    obtain ⟨ho, h1, h2, h3⟩ := hQ.ok
    obtain ⟨w2, S2, hl⟩ := Sim.shut (u := .panicking ch) (P := X.E.P) (n := 0) (fn := fn) (R := Ends post w Im ρ hin) rfl rfl (by simp) ms a' w' d1 d3 d4 S'
    exact hl ⟨ho, _, _, h3, S2.leave rfl rfl rfl hanc rfl h1 h2⟩
  | exit id => exact hQ.elim
  | goto l => exact hQ.elim
  | outgrown => exact absurd rfl hne
theorem Ctr.intro {f : FuncId} {fn : Func} {code : Code} {args : List AV} {hin : HL} {post : AOut → Prop} (hf : X.E.P.funcs[f]? = some fn) (hb : fn.body = some code) (hname : (fn.name == "runtime.NumGoroutine") = false) (hargs : args.length ≤ fn.ntmps) (hres : fn.results.toList.all (resIn fn.ntmps) = true)
    (h : AWp X.E { nt := fn.ntmps, anc := hin.map (·.1) } code (retP X.tab fn.results.toList post) { f := entry 0 args, h := hin }) : Ctr X.E f args hin post :=
  Ctr.intro' [] hf hb hname hargs hres h
end Go.Ax

namespace Go.Ax
structure LoopP (E : Env) (k : Kn) (c : Code) (Q : APost) (s : St) : Prop where
  ok : AWp E k (.loop c) Q s
structure DrawP (E : Env) (k : Kn) (id : Nat) (ops : Array Oper) (Q : APost) (s : St) : Prop where
  ok : AWp E k (.region id ops true) Q s
structure OtherP (E : Env) (k : Kn) (c : Code) (Q : APost) (s : St) : Prop where
  ok : AWp E k c Q s
def wpc (E : Env) (tab : List (Nat × TI)) (k : Kn) : Code → APost → St → Prop
  | .skip, Q, s => Q .normal s
  | .seq x y, Q, s => wpc E tab k x (thenP (fun s => wpc E tab k y Q s) Q) s
  | .ret, Q, s => Q .ret s
  | .exit id, Q, s => Q (.exit id) s
  | .block id c, Q, s => wpc E tab k c (blockP id Q) s
  | .cond (.tmp t) x y, Q, s => match Nat.blt t k.nt, lk t s.f with
    | true, .d (.v (.bool b)) => ifB b (wpc E tab k x Q s) (wpc E tab k y Q s)
    | _, _ => False
  | .region id ops draw, Q, s => match draw, ops.toList.all (fun o => dstIn k.nt o.dst) with
    | false, true => runP E tab k ops.toList (fun s => Q .normal s) (fun ch s => Q (.panic ch) s) ops.toList s
    | true, _ => DrawP E k id ops Q s
    | _, _ => False
  | .loop c, Q, s => LoopP E k c Q s
  | c, Q, s => OtherP E k c Q s
variable {X : Ax} {k : Kn}
theorem wpc_ok : ∀ {code : Code} {Q : APost} {s : St}, wpc X.E X.tab k code Q s → AWp X.E k code Q s := by
  intro code
  induction code with
  | skip => exact fun h => .skip h
  | seq x y ihx ihy =>
    intro Q s h
    refine .seq (AWp.mono (ihx h) fun e s hq => ?_)
    cases e with
    | normal => exact ihy hq
    | _ => exact hq
  | ret => exact fun h => .ret h
  | exit id => exact fun h => .exit h
  | block id c ih => exact fun h => .block (ih h)
  | cond c x y ihx ihy =>
    intro Q s h
    cases c with
    | tmp t =>
      simp only [wpc] at h
      split at h
      · rename_i b h1 h2
        refine .cond (by simpa using h1) h2 (fun e => ?_) (fun e => ?_)
        · subst e; exact ihx h
        · subst e; exact ihy h
      · exact h.elim
    | _ => exact h.ok
  | region id ops draw =>
    intro Q s h
    cases draw with
    | true => simp only [wpc] at h; exact h.ok
    | false =>
      simp only [wpc] at h
      split at h
      · rename_i h1 h2; exact .region h2 h
      · rename_i h1; exact absurd h1 (by simp)
      · exact h.elim
  | loop c ih => exact fun h => h.ok
  | rangeFunc f ps a b => exact fun h => h.ok
  | scope c => exact fun h => h.ok
  | label l => exact fun h => h.ok
  | goto l => exact fun h => h.ok
  | refuse w => exact fun h => h.ok
theorem Ctr.body {f : FuncId} {fn : Func} {args : List AV} {hin : HL} {post : AOut → Prop} (code : Code) (nt : Nat) (anc : List Nat) (rs : List ResultVar) (hf : X.E.P.funcs[f]? = some fn) (hb : fn.body = some code) (hnt : fn.ntmps = nt) (hanc : hin.map (·.1) = anc) (hrs : fn.results.toList = rs) (hname : (fn.name == "runtime.NumGoroutine") = false) (hargs : Nat.ble args.length nt = true) (hres : rs.all (resIn nt) = true)
    (h : wpc X.E X.tab { nt, anc } code (retP X.tab rs post) { f := entry 0 args, h := hin }) : Ctr X.E f args hin post := by
  subst hnt; subst hanc; subst hrs
  exact Ctr.intro hf hb hname (Nat.le_of_ble_eq_true hargs) hres (wpc_ok h)
end Go.Ax

namespace Go.Ax
structure Stp where
  wt : Option (Nat × AV)
  wh : HL
  ro : List Nat
  nw : List Nat
def keysH : HL → List Nat
  | [] => []
  | (r, _) :: h => r :: keysH h
theorem mem_keysH {r : Nat} : ∀ {h : HL}, r ∈ keysH h ↔ ∃ p ∈ h, p.1 = r
  | [] => by simp [keysH]
  | (q, o) :: h => by simp [keysH, mem_keysH (h := h), eq_comm]
def apF : List (Bool × Stp) → List (Nat × AV) → List (Nat × AV)
  | [], f => f
  | (true, st) :: l, f => apF l (match st.wt with | some p => p :: f | none => f)
  | (false, _) :: l, f => apF l f
def apH : List (Bool × Stp) → HL → HL
  | [], h => h
  | (true, st) :: l, h => apH l (st.wh ++ h)
  | (false, _) :: l, h => apH l h
def Stp.putF (st : Stp) (f : List (Nat × AV)) : List (Nat × AV) := match st.wt with
  | some p => p :: f
  | none => f
theorem apF_append (a b : List (Bool × Stp)) (f : List (Nat × AV)) : apF (a ++ b) f = apF b (apF a f) := by
  induction a generalizing f with
  | nil => rfl
  | cons x a ih => obtain ⟨m, st⟩ := x; cases m <;> simp only [List.cons_append, apF, ih]
theorem apH_append (a b : List (Bool × Stp)) (f : HL) : apH (a ++ b) f = apH b (apH a f) := by
  induction a generalizing f with
  | nil => rfl
  | cons x a ih => obtain ⟨m, st⟩ := x; cases m <;> simp only [List.cons_append, apH, ih]
def Stp.writesT (st : Stp) (t : Nat) : Prop := ∃ v, st.wt = some (t, v)
def Stp.writesO (st : Stp) (r : Nat) : Prop := r ∈ keysH st.wh
theorem lk_putF {st : Stp} {f : List (Nat × AV)} {t : Nat} (h : ¬ st.writesT t) : lk t (st.putF f) = lk t f := by
  unfold Stp.putF
  cases hw : st.wt with
  | none => rfl
  | some p =>
    obtain ⟨d, v⟩ := p
    have hne : Nat.beq d t = false := by
      cases hb : Nat.beq d t with
      | false => rfl
      | true => exact absurd ⟨v, by rw [hw, Nat.eq_of_beq_eq_true hb]⟩ h
    simp [lk, hne]
theorem lk_putF2 {st : Stp} {f g : List (Nat × AV)} {t : Nat} (h : lk t f = lk t g) : lk t (st.putF f) = lk t (st.putF g) := by
  unfold Stp.putF
  cases hw : st.wt with
  | none => exact h
  | some p =>
    obtain ⟨d, v⟩ := p
    simp only [lk]
    cases Nat.beq d t with
    | true => rfl
    | false => exact h
theorem lkH_putH {st : Stp} {h : HL} {r : Nat} (hr : ¬ st.writesO r) : lkH r (st.wh ++ h) = lkH r h :=
  lkH_append r _ _ fun p hp he => hr (mem_keysH.2 ⟨p, hp, he⟩)
theorem lkH_putH2 {st : Stp} {f g : HL} {r : Nat} (h : lkH r f = lkH r g) : lkH r (st.wh ++ f) = lkH r (st.wh ++ g) := by
  by_cases hw : st.writesO r
  · have := mem_keysH.1 hw
    rw [lkH_left r _ _ this, lkH_left r _ _ this]
  · rw [lkH_putH hw, lkH_putH hw, h]
def full (l : List (Bool × Stp)) : List (Bool × Stp) := l.map fun x => (true, x.2)
theorem apF_full {t : Nat} : ∀ {l : List (Bool × Stp)} {f g : List (Nat × AV)}, (∀ x ∈ l, x.1 = false → ¬ x.2.writesT t) → lk t f = lk t g → lk t (apF l f) = lk t (apF (full l) g)
  | [], f, g, _, h => h
  | (true, st) :: l, f, g, hw, h => apF_full (l := l) (fun x hx => hw x (by simp [hx])) (lk_putF2 h)
  | (false, st) :: l, f, g, hw, h => apF_full (l := l) (fun x hx => hw x (by simp [hx])) (by
      have := lk_putF (f := g) (hw (false, st) (by simp) rfl)
      exact h.trans this.symm)
theorem apH_full {r : Nat} : ∀ {l : List (Bool × Stp)} {f g : HL}, (∀ x ∈ l, x.1 = false → ¬ x.2.writesO r) → lkH r f = lkH r g → lkH r (apH l f) = lkH r (apH (full l) g)
  | [], f, g, _, h => h
  | (true, st) :: l, f, g, hw, h => apH_full (l := l) (fun x hx => hw x (by simp [hx])) (lkH_putH2 h)
  | (false, st) :: l, f, g, hw, h => apH_full (l := l) (fun x hx => hw x (by simp [hx])) (h.trans (lkH_putH (h := g) (hw (false, st) (by simp) rfl)).symm)
theorem apF_later {t : Nat} : ∀ {l : List (Bool × Stp)} {f : List (Nat × AV)}, (∀ x ∈ l, x.1 = true → ¬ x.2.writesT t) → lk t (apF l f) = lk t f
  | [], f, _ => rfl
  | (true, st) :: l, f, hw => (apF_later (l := l) (fun x hx => hw x (by simp [hx]))).trans (lk_putF (hw (true, st) (by simp) rfl))
  | (false, st) :: l, f, hw => apF_later (l := l) (fun x hx => hw x (by simp [hx]))
theorem apH_later {r : Nat} : ∀ {l : List (Bool × Stp)} {f : HL}, (∀ x ∈ l, x.1 = true → ¬ x.2.writesO r) → lkH r (apH l f) = lkH r f
  | [], f, _ => rfl
  | (true, st) :: l, f, hw => (apH_later (l := l) (fun x hx => hw x (by simp [hx]))).trans (lkH_putH (hw (true, st) (by simp) rfl))
  | (false, st) :: l, f, hw => apH_later (l := l) (fun x hx => hw x (by simp [hx]))
theorem apF_mark {st : Stp} : ∀ {l : List (Bool × Stp)} {f : List (Nat × AV)}, (∀ x ∈ l, x.1 = true → ∀ t, st.writesT t → ¬ x.2.writesT t) → ∀ t, lk t (apF l (st.putF f)) = lk t (st.putF (apF l f)) := by
  intro l f hw t
  by_cases h : st.writesT t
  · rw [apF_later fun x hx he => hw x hx he t h]
    obtain ⟨v, hv⟩ := h
    simp [Stp.putF, hv, lk]
  · rw [lk_putF h]
    have gen : ∀ (l : List (Bool × Stp)) (f g : List (Nat × AV)), lk t f = lk t g → lk t (apF l f) = lk t (apF l g) := by
      intro l
      induction l with
      | nil => exact fun f g h => h
      | cons x l ih => obtain ⟨m, s⟩ := x; cases m with
        | true => exact fun f g h => ih _ _ (lk_putF2 h)
        | false => exact fun f g h => ih _ _ h
    exact gen l _ _ (lk_putF h)
theorem apH_mark {st : Stp} : ∀ {l : List (Bool × Stp)} {f : HL}, (∀ x ∈ l, x.1 = true → ∀ r, st.writesO r → ¬ x.2.writesO r) → ∀ r, lkH r (apH l (st.wh ++ f)) = lkH r (st.wh ++ apH l f) := by
  intro l f hw r
  by_cases h : st.writesO r
  · rw [apH_later fun x hx he => hw x hx he r h]
    have := mem_keysH.1 h
    rw [lkH_left r _ _ this, lkH_left r _ _ this]
  · rw [lkH_putH h]
    have gen : ∀ (l : List (Bool × Stp)) (f g : HL), lkH r f = lkH r g → lkH r (apH l f) = lkH r (apH l g) := by
      intro l
      induction l with
      | nil => exact fun f g h => h
      | cons x l ih => obtain ⟨m, s⟩ := x; cases m with
        | true => exact fun f g h => ih _ _ (lkH_putH2 h)
        | false => exact fun f g h => ih _ _ h
    exact gen l _ _ (lkH_putH h)
end Go.Ax

namespace Go.Ax
def guardT (ops : List Oper) : Option (Nat × Bool) → List Nat
  | none => []
  | some (j, _) => match nth ops j with
    | some o => match o.dst with
      | some d => [d]
      | none => []
    | none => []
def readsT (ops : List Oper) (o : Oper) : List Nat := opTmps o.op ++ guardT ops o.guard
variable {X : Ax} {k : Kn}
def StepOk (X : Ax) (k : Kn) (Q : APost) (ops : List Oper) (o : Oper) (s : St) (st : Stp) : Prop :=
  (∀ t v, st.wt = some (t, v) → o.dst = some t) ∧
  ∀ (c : Cx) (Im : Nat → Prop) (ρ : Nat → Option Loc) (s' : St) (a : Act) (w : World) (K : Act → World → Prop), c.Ok X.E → c.nt = k.nt → c.anc = k.anc → Sim c Im ρ s'.F s'.H a w →
    (∀ t ∈ readsT ops o, lk t s'.f = lk t s.f) → (∀ r ∈ st.ro, lkH r s'.h = lkH r s.h) → (∀ r ∈ st.nw, Unm c r s'.F s'.H) →
    (∀ Im' ρ' a' w', Sim c Im' ρ' (fun t => lk t (st.putF s'.f)) (fun r => lkH r (st.wh ++ s'.h)) a' w' → K a' w') →
    if Region.wanted o (yielded ops.toArray a.tmps) then o.wpIn c.fence 0 X.E.P a w K (Lift c Q) else K (a.put o.dst undef) w
inductive Trace (X : Ax) (k : Kn) (Q : APost) (ops : List Oper) : List Oper → St → List Stp → St → Prop
  | nil (s : St) : Trace X k Q ops [] s [] s
  | cons {o : Oper} {rest : List Oper} {s s' : St} {st : Stp} {tr : List Stp} (h : StepOk X k Q ops o s st) (ht : Trace X k Q ops rest { f := st.putF s.f, h := st.wh ++ s.h } tr s') : Trace X k Q ops (o :: rest) s (st :: tr) s'
theorem Trace.length {Q : APost} {ops l : List Oper} {s s' : St} {tr : List Stp} (h : Trace X k Q ops l s tr s') : tr.length = l.length := by
  induction h with
  | nil => rfl
  | cons _ _ ih => simp [ih]
theorem Trace.at {Q : APost} {ops : List Oper} : ∀ {l : List Oper} {s s' : St} {tr : List Stp}, Trace X k Q ops l s tr s' → ∀ (i : Nat) (o : Oper) (st : Stp), l[i]? = some o → tr[i]? = some st →
    StepOk X k Q ops o { f := apF ((tr.take i).map (true, ·)) s.f, h := apH ((tr.take i).map (true, ·)) s.h } st
  | _, _, _, _, .nil s, i, o, st, h, _ => by simp at h
  | _, s, _, _, .cons (st := st0) hs ht, 0, o, st, h1, h2 => by simp at h1 h2; subst h1; subst h2; exact hs
  | _, s, _, _, .cons (st := st0) hs ht, i + 1, o, st, h1, h2 => by
    have := ht.at i o st (by simpa using h1) (by simpa using h2)
    simpa [apF, apH, Stp.putF] using this
theorem Trace.end {Q : APost} {ops : List Oper} : ∀ {l : List Oper} {s s' : St} {tr : List Stp}, Trace X k Q ops l s tr s' → s' = { f := apF (tr.map (true, ·)) s.f, h := apH (tr.map (true, ·)) s.h }
  | _, _, _, _, .nil s => rfl
  | _, s, s', _, .cons (st := st0) hs ht => by
    have := ht.end
    rw [this]; rfl
def bindE (e : Edge) : Bool := Region.binds .any e
def orEdges (acc : List Nat) : List Edge → Nat
  | [] => 0
  | e :: es => match bindE e with
    | true => (2 ^ e.on ||| (nth acc e.on).getD 0) ||| orEdges acc es
    | false => orEdges acc es
def bmsGo : List Oper → List Nat → List Nat
  | [], acc => acc
  | o :: r, acc => bmsGo r (acc ++ [orEdges acc o.after.toList])
def bms (ops : List Oper) : List Nat := bmsGo ops []
def bitOf (bm : List Nat) (j i : Nat) : Bool := match nth bm j with
  | some x => Nat.beq (Nat.land 1 (Nat.shiftRight x i)) 1
  | none => false
theorem bitOf_test {bm : List Nat} {j i : Nat} (h : bitOf bm j i = true) : Nat.testBit ((nth bm j).getD 0) i = true := by
  unfold bitOf at h
  split at h
  · rename_i x hx
    rw [hx]
    have h := Nat.eq_of_beq_eq_true h
    have h : 1 &&& (x >>> i) = 1 := h
    simp [Nat.testBit, h]
  · simp at h
theorem test_bitOf {bm : List Nat} {j i : Nat} (h : Nat.testBit ((nth bm j).getD 0) i = true) : bitOf bm j i = true := by
  unfold bitOf
  split
  · rename_i x hx
    rw [hx] at h
    have h : (1 &&& (x >>> i) != 0) = true := h
    have h2 : (1 : Nat) &&& (x >>> i) = (x >>> i) % 2 := by rw [Nat.and_comm, Nat.and_one_is_mod]
    have h3 : Nat.land 1 (Nat.shiftRight x i) = (1 : Nat) &&& (x >>> i) := rfl
    rw [h3]
    have : (1 : Nat) &&& (x >>> i) = 1 := by
      have : (1 : Nat) &&& (x >>> i) ≠ 0 := by simpa using h
      omega
    rw [this]; rfl
  · rename_i hx
    rw [hx] at h; simp at h
theorem bmsGo_prefix : ∀ (l : List Oper) (acc : List Nat), ∃ r, bmsGo l acc = acc ++ r ∧ r.length = l.length
  | [], acc => ⟨[], by simp [bmsGo]⟩
  | o :: l, acc => by
    obtain ⟨r, h1, h2⟩ := bmsGo_prefix l (acc ++ [orEdges acc o.after.toList])
    exact ⟨orEdges acc o.after.toList :: r, by rw [bmsGo, h1]; simp, by simp [h2]⟩
theorem bmsGo_at : ∀ (l : List Oper) (acc : List Nat) (i : Nat) (o : Oper), l[i]? = some o → (bmsGo l acc)[acc.length + i]? = some (orEdges ((bmsGo l acc).take (acc.length + i)) o.after.toList)
  | [], acc, i, o, h => by simp at h
  | o' :: l, acc, 0, o, h => by
    simp at h; subst h
    obtain ⟨r, h1, _⟩ := bmsGo_prefix l (acc ++ [orEdges acc o'.after.toList])
    rw [bmsGo, h1]
    simp
  | o' :: l, acc, i + 1, o, h => by
    have := bmsGo_at l (acc ++ [orEdges acc o'.after.toList]) i o (by simpa using h)
    rw [bmsGo]
    simp only [List.length_append, List.length_cons, List.length_nil] at this
    rw [show acc.length + (i + 1) = acc.length + (0 + 1) + i from by omega]
    exact this
theorem bms_at {ops : List Oper} {i : Nat} {o : Oper} (h : ops[i]? = some o) : (bms ops)[i]? = some (orEdges ((bms ops).take i) o.after.toList) := by
  have := bmsGo_at ops [] i o h
  simpa [bms] using this
theorem orEdges_bit {acc : List Nat} {i : Nat} : ∀ {es : List Edge}, Nat.testBit (orEdges acc es) i = true → ∃ e ∈ es, bindE e = true ∧ (e.on = i ∨ Nat.testBit ((nth acc e.on).getD 0) i = true)
  | [], h => by simp [orEdges] at h
  | e :: es, h => by
    simp only [orEdges] at h
    split at h
    · rename_i hb
      rw [Nat.testBit_or, Nat.testBit_or, Bool.or_eq_true, Bool.or_eq_true] at h
      rcases h with (h | h) | h
      · refine ⟨e, by simp, hb, .inl ?_⟩
        rw [Nat.testBit_two_pow] at h
        simpa using h
      · exact ⟨e, by simp, hb, .inr h⟩
      · obtain ⟨e', h1, h2, h3⟩ := orEdges_bit h
        exact ⟨e', by simp [h1], h2, h3⟩
    · obtain ⟨e', h1, h2, h3⟩ := orEdges_bit h
      exact ⟨e', by simp [h1], h2, h3⟩
def ClosedM (ops : List Oper) (m : List Bool) : Prop := ∀ (j : Nat) (o : Oper), m[j]? = some true → ops[j]? = some o → ∀ e ∈ o.after.toList, bindE e = true → m[e.on]? = some true
theorem nth_take {l : List Nat} {j i : Nat} (h : i < j) : nth (l.take j) i = nth l i := by rw [nth_eq, nth_eq, List.getElem?_take, if_pos h]
theorem closedM_anc {ops : List Oper} {m : List Bool} (hlow : ∀ (j : Nat) (o : Oper), ops[j]? = some o → ∀ e ∈ o.after.toList, bindE e = true → e.on < j) (hm : ClosedM ops m) : ∀ (j : Nat) {i : Nat}, (∃ o, ops[j]? = some o ∧ ∀ e ∈ o.after.toList, bindE e = true → m[e.on]? = some true) → bitOf (bms ops) j i = true → m[i]? = some true := by
  intro j
  induction j using Nat.strongRecOn with
  | _ j ih =>
    intro i ⟨o, ho, hed⟩ hb
    have hb := bitOf_test hb
    rw [nth_eq, bms_at ho] at hb
    obtain ⟨e, h1, h2, h3⟩ := orEdges_bit (by simpa using hb)
    have hlt := hlow j o ho e h1 h2
    have hl := hed e h1 h2
    rcases h3 with h3 | h3
    · rw [← h3]; exact hl
    · rw [nth_take hlt] at h3
      have h3 := test_bitOf h3
      have hjl : j < ops.length := (List.getElem?_eq_some_iff.1 ho).1
      have ho' : ops[e.on]? = some ops[e.on] := List.getElem?_eq_getElem (by omega)
      exact ih e.on hlt ⟨_, ho', hm e.on _ hl ho'⟩ h3
def confT (ops : List Oper) (a b : Oper) : Bool :=
  (match a.dst with | some d => memN d (readsT ops b) || (match b.dst with | some d' => Nat.beq d d' | none => false) | none => false) || (match b.dst with | some d => memN d (readsT ops a) | none => false)
def statRow (ops : List Oper) (bm : List Nat) (o : Oper) (j : Nat) : List Oper → Nat → Bool
  | [], _ => true
  | a :: r, i => (!(confT ops a o) || bitOf bm j i) && statRow ops bm o j r (i + 1)
def statGo (ops : List Oper) (bm : List Nat) : List Oper → Nat → Bool
  | [], _ => true
  | o :: r, j => o.after.toList.all (fun e => !(bindE e) || Nat.blt e.on j) && statRow ops bm o j (ops.take j) 0 && statGo ops bm r (j + 1)
def statOk (ops : List Oper) : Bool := statGo ops (bms ops) ops 0
theorem statRow_spec {ops : List Oper} {bm : List Nat} {o : Oper} {j : Nat} : ∀ {l : List Oper} {i : Nat}, statRow ops bm o j l i = true → ∀ (m : Nat) (a : Oper), l[m]? = some a → confT ops a o = true → bitOf bm j (i + m) = true
  | [], i, _, m, a, h, _ => by simp at h
  | x :: l, i, h, 0, a, h1, h2 => by
    simp only [statRow, Bool.and_eq_true, Bool.or_eq_true, Bool.not_eq_true'] at h
    simp at h1; subst h1
    rcases h.1 with h3 | h3
    · rw [h2] at h3; simp at h3
    · simpa using h3
  | x :: l, i, h, m + 1, a, h1, h2 => by
    simp only [statRow, Bool.and_eq_true] at h
    have := statRow_spec h.2 m a (by simpa using h1) h2
    rw [show i + (m + 1) = i + 1 + m from by omega]; exact this
theorem statGo_spec {ops : List Oper} {bm : List Nat} : ∀ {l : List Oper} {j : Nat}, statGo ops bm l j = true → ∀ (m : Nat) (o : Oper), l[m]? = some o → (∀ e ∈ o.after.toList, bindE e = true → e.on < j + m) ∧ statRow ops bm o (j + m) (ops.take (j + m)) 0 = true
  | [], j, _, m, o, h => by simp at h
  | x :: l, j, h, 0, o, h1 => by
    simp only [statGo, Bool.and_eq_true] at h
    simp at h1; subst h1
    refine ⟨fun e he hb => ?_, h.1.2⟩
    have := List.all_eq_true.1 h.1.1 e he
    simp only [hb, Bool.not_true, Bool.false_or] at this
    simpa using this
  | x :: l, j, h, m + 1, o, h1 => by
    simp only [statGo, Bool.and_eq_true] at h
    have := statGo_spec h.2 m o (by simpa using h1)
    rw [show j + (m + 1) = j + 1 + m from by omega]; exact this
theorem statOk_low {ops : List Oper} (h : statOk ops = true) (j : Nat) (o : Oper) (ho : ops[j]? = some o) : ∀ e ∈ o.after.toList, bindE e = true → e.on < j := by
  have := (statGo_spec h j o ho).1
  simpa using this
theorem statOk_conf {ops : List Oper} (h : statOk ops = true) {i j : Nat} {a o : Oper} (hij : i < j) (ha : ops[i]? = some a) (ho : ops[j]? = some o) (hc : confT ops a o = true) : bitOf (bms ops) j i = true := by
  have h1 := (statGo_spec h j o ho).2
  rw [Nat.zero_add] at h1
  have := statRow_spec h1 i a (by rw [List.getElem?_take, if_pos hij]; exact ha) hc
  simpa using this
def interN (a b : List Nat) : Bool := a.any fun x => memN x b
def confO (a b : Stp) : Bool := interN (keysH a.wh) (b.ro ++ keysH b.wh) || interN a.ro (keysH b.wh)
def unmS (r : Nat) (st : Stp) : Bool := (match st.wt with | some (_, v) => !(v.ment r) | none => true) && unmH r st.wh && !(memN r (keysH st.wh))
def Stp.plain (b : Stp) : Bool := match b.wh, b.ro, b.nw with
  | [], [], [] => true
  | _, _, _ => false
theorem Stp.plain_spec {b : Stp} (h : b.plain = true) : b.wh = [] ∧ b.ro = [] ∧ b.nw = [] := by
  unfold Stp.plain at h
  split at h
  · rename_i h1 h2 h3; exact ⟨h1, h2, h3⟩
  · simp at h
theorem confO_plain {a b : Stp} (h : b.plain = true) : confO a b = false := by
  obtain ⟨h1, h2, _⟩ := Stp.plain_spec h
  unfold confO
  rw [h1, h2]
  have (l : List Nat) : interN l [] = false := by induction l <;> simp_all [interN, memN]
  simp [keysH, this]
def dynRow (bm : List Nat) (b : Stp) (j : Nat) : List Stp → Nat → Bool
  | [], _ => true
  | a :: r, i => (!(confO a b) || bitOf bm j i) && dynRow bm b j r (i + 1)
def newRow (bm : List Nat) (i : Nat) (rs : List Nat) : List Stp → Nat → Bool
  | [], _ => true
  | b :: r, j => (Nat.beq i j || bitOf bm j i || rs.all (fun q => unmS q b)) && newRow bm i rs r (j + 1)
def dynGo (bm : List Nat) (anc : List Nat) (s0 : St) (tr : List Stp) : List Stp → Nat → Bool
  | [], _ => true
  | b :: r, j => match b.plain with
    | true => dynGo bm anc s0 tr r (j + 1)
    | false => dynRow bm b j (tr.take j) 0 && newRow bm j b.nw tr 0 && b.nw.all (fun q => unmB anc q s0) && dynGo bm anc s0 tr r (j + 1)
theorem dynRow_spec {bm : List Nat} {b : Stp} {j : Nat} : ∀ {l : List Stp} {i : Nat}, dynRow bm b j l i = true → ∀ (m : Nat) (a : Stp), l[m]? = some a → confO a b = true → bitOf bm j (i + m) = true
  | [], i, _, m, a, h, _ => by simp at h
  | x :: l, i, h, 0, a, h1, h2 => by
    simp only [dynRow, Bool.and_eq_true, Bool.or_eq_true, Bool.not_eq_true'] at h
    simp at h1; subst h1
    rcases h.1 with h3 | h3
    · rw [h2] at h3; simp at h3
    · simpa using h3
  | x :: l, i, h, m + 1, a, h1, h2 => by
    simp only [dynRow, Bool.and_eq_true] at h
    have := dynRow_spec h.2 m a (by simpa using h1) h2
    rw [show i + (m + 1) = i + 1 + m from by omega]; exact this
theorem newRow_spec {bm : List Nat} {i : Nat} {rs : List Nat} : ∀ {l : List Stp} {j : Nat}, newRow bm i rs l j = true → ∀ (m : Nat) (b : Stp), l[m]? = some b → i ≠ j + m → bitOf bm (j + m) i = false → ∀ q ∈ rs, unmS q b = true
  | [], j, _, m, b, h, _, _ => by simp at h
  | x :: l, j, h, 0, b, h1, h2, h3 => by
    simp only [newRow, Bool.and_eq_true, Bool.or_eq_true] at h
    simp at h1; subst h1
    rcases h.1 with (h4 | h4) | h4
    · exact absurd (Nat.eq_of_beq_eq_true h4) (by simpa using h2)
    · rw [Nat.add_zero] at h3; rw [h3] at h4; simp at h4
    · exact fun q hq => List.all_eq_true.1 h4 q hq
  | x :: l, j, h, m + 1, b, h1, h2, h3 => by
    simp only [newRow, Bool.and_eq_true] at h
    rw [show j + (m + 1) = j + 1 + m from by omega] at h2 h3
    exact newRow_spec h.2 m b (by simpa using h1) h2 h3
theorem dynGo_spec {bm anc : List Nat} {s0 : St} {tr : List Stp} : ∀ {l : List Stp} {j : Nat}, dynGo bm anc s0 tr l j = true → ∀ (m : Nat) (b : Stp), l[m]? = some b → b.plain = true ∨ (dynRow bm b (j + m) (tr.take (j + m)) 0 = true ∧ newRow bm (j + m) b.nw tr 0 = true ∧ ∀ q ∈ b.nw, unmB anc q s0 = true)
  | [], j, _, m, o, h => by simp at h
  | x :: l, j, h, 0, o, h1 => by
    simp only [dynGo] at h
    simp at h1; subst h1
    split at h
    · rename_i hp; exact .inl hp
    · simp only [Bool.and_eq_true] at h
      exact .inr ⟨h.1.1.1, h.1.1.2, fun q hq => List.all_eq_true.1 h.1.2 q hq⟩
  | x :: l, j, h, m + 1, o, h1 => by
    have h2 : dynGo bm anc s0 tr l (j + 1) = true := by
      simp only [dynGo] at h
      split at h
      · exact h
      · simp only [Bool.and_eq_true] at h; exact h.2
    have := dynGo_spec h2 m o (by simpa using h1)
    rw [show j + (m + 1) = j + 1 + m from by omega]; exact this
theorem memN_of {r : Nat} : ∀ {l : List Nat}, r ∈ l → memN r l = true
  | x :: l, h => by
    simp only [memN]
    split
    · rfl
    · rename_i hb
      rcases List.mem_cons.1 h with rfl | h
      · simp at hb
      · exact memN_of h
theorem confT_left {ops : List Oper} {a b : Oper} {d : Nat} (h : a.dst = some d) (hb : d ∈ readsT ops b ∨ b.dst = some d) : confT ops a b = true := by
  unfold confT
  rw [h]
  rcases hb with hb | hb
  · simp [memN_of hb]
  · simp [hb]
theorem confT_right {ops : List Oper} {a b : Oper} {d : Nat} (h : b.dst = some d) (ha : d ∈ readsT ops a) : confT ops a b = true := by
  unfold confT
  rw [h]
  simp [memN_of ha]
theorem interN_of {a b : List Nat} {r : Nat} (h1 : r ∈ a) (h2 : r ∈ b) : interN a b = true := List.any_eq_true.2 ⟨r, h1, memN_of h2⟩
theorem confO_left {a b : Stp} {r : Nat} (h : a.writesO r) (hb : r ∈ b.ro ∨ b.writesO r) : confO a b = true := by
  unfold confO
  rw [interN_of h (by simpa [Stp.writesO] using hb)]; rfl
theorem confO_right {a b : Stp} {r : Nat} (h : b.writesO r) (ha : r ∈ a.ro) : confO a b = true := by
  unfold confO
  rw [interN_of ha h]; simp
end Go.Ax
