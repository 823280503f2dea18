/- Abstract execution, part Le: the further operations as one function. -/
import Derived.Test.YtjokajidcojlmaaDoorAxLd
namespace Go.Ax

section ops
variable {E : Env} {k : Kn} {ty : TypeId} {s : St} {tab : List (Nat × TI)} {e : Eff}

def isAgg? (i : TI) : Bool := match i.k.agg, Nat.beq i.size i.fl.length, i.fl with
  | true, true, _ :: _ => true
  | _, _, _ => false
theorem isAgg?_spec {i : TI} (h : isAgg? i = true) : i.fl ≠ [] ∧ i.k.agg = true ∧ i.size = i.fl.length := by
  unfold isAgg? at h
  split at h
  · rename_i h1 h2 h3; exact ⟨by simp [h3], h1, Nat.eq_of_beq_eq_true h2⟩
  · simp at h
/-- A type whose values can be keys here. -/
def keyTI (i : TI) : Bool := match Nat.beq i.size i.fl.length, i.fl with
  | true, _ :: _ => true
  | _, _ => false
theorem keyTI_spec {i : TI} (h : keyTI i = true) : i.fl ≠ [] ∧ i.size = i.fl.length := by
  unfold keyTI at h
  split at h
  · rename_i h1 h2; exact ⟨by simp [h2], Nat.eq_of_beq_eq_true h1⟩
  · simp at h

def opBinX (tab : List (Nat × TI)) (s : St) (op : BinOp) (xt : TypeId) (x y : Operand) : Option Eff := match lkT xt tab with
  | none => none
  | some i => match evO s x, evO s y with
    | .dagg a, .dagg b => match isAgg? i, op with
      | true, .eql => some { val := .d (.v (.bool (eqAll i.fl a b 0))), cond := [a.length = i.fl.length, b.length = i.fl.length] ++ (hasAll i.fl a 0 ++ hasAll i.fl b 0) }
      | true, .neq => some { val := .d (.v (.bool (!eqAll i.fl a b 0))), cond := [a.length = i.fl.length, b.length = i.fl.length] ++ (hasAll i.fl a 0 ++ hasAll i.fl b 0) }
      | _, _ => none
    | z, .d (.v .nilIface) => match y, i.k, ifNil z, op with
      | .const .nilIface, .iface, some b, .eql => some { val := .d (.v (.bool b)) }
      | .const .nilIface, .iface, some b, .neq => some { val := .d (.v (.bool (!b))) }
      | _, _, _, _ => none
    | _, _ => none
theorem opBinX_ok (htab : TabOk E.P tab) {op : BinOp} {xt yt : TypeId} {x y : Operand} (hi : opIn k.nt (.binOp op xt x y yt) = true) (h : opBinX tab s op xt x y = some e) : Good E k (.binOp op xt x y yt) ty s e := by
  unfold opBinX at h
  split at h
  · simp at h
  rename_i i ht
  have ht := htab.at ht
  split at h
  · rename_i a b hx hy
    split at h
    · rename_i hag
      obtain ⟨h1, h2, h3⟩ := isAgg?_spec hag
      injection h with h; subst h
      exact ⟨ok_aggeq hi ht h1 h2 h3 hx hy (.inl ⟨rfl, rfl⟩), by simp [RhOk]⟩
    · rename_i hag
      obtain ⟨h1, h2, h3⟩ := isAgg?_spec hag
      injection h with h; subst h
      exact ⟨ok_aggeq hi ht h1 h2 h3 hx hy (.inr ⟨rfl, rfl⟩), by simp [RhOk]⟩
    · simp at h
  · split at h
    · injection h with h; subst h
      exact ⟨ok_ifnil hi ht (by assumption) (by assumption) (.inl ⟨rfl, rfl⟩), by simp [RhOk]⟩
    · injection h with h; subst h
      exact ⟨ok_ifnil hi ht (by assumption) (by assumption) (.inr ⟨rfl, rfl⟩), by simp [RhOk]⟩
    · simp at h
  · simp at h

def opConvX (tab : List (Nat × TI)) (s : St) (src dst : TypeId) (x : Operand) : Option Eff := match lkT src tab, lkT dst tab with
  | some si, some di => match si.k, di.k with
    | .slice e0, .str => match lkT e0 tab, evO s x with
      | some ei, .d (.sl _ sz els) => match ei.k, Nat.beq sz 1 with
        | .int .u8, true => some { val := .d (.v (.string (bytesOf els))), cond := [∀ q ∈ els, ∃ n, q = [.v (.int .u8 n)]] }
        | _, _ => none
      | _, _ => none
    | _, _ => none
  | _, _ => none
theorem opConvX_ok (htab : TabOk E.P tab) {src dst : TypeId} {x : Operand} (hi : opIn k.nt (.convert src dst x) = true) (h : opConvX tab s src dst x = some e) : Good E k (.convert src dst x) ty s e := by
  unfold opConvX at h
  split at h
  · rename_i si di h1 h2
    split at h
    · rename_i e0 hsk hdk
      split at h
      · rename_i ei t sz els h3 hx
        split at h
        · rename_i hek hsz
          have := Nat.eq_of_beq_eq_true hsz; subst this
          injection h with h; subst h
          exact ⟨ok_convert_bytes hi (htab.at h1) hsk (htab.at h3) hek (htab.at h2) hdk hx, by simp [RhOk]⟩
        · simp at h
      · simp at h
    · simp at h
  · simp at h

def opLenX (tab : List (Nat × TI)) (s : St) (x : Operand) (t : TypeId) : Option Eff := match lkT t tab with
  | none => none
  | some i => match i.k, evO s x with
    | .map _ _, .mp r => match lkH r s.h with
      | some (.map ag es) => some { val := .d (.v (.int .i64 es.length)), rh := some (r, .map ag es) }
      | _ => none
    | _, _ => none
theorem opLenX_ok (htab : TabOk E.P tab) {t : TypeId} {x : Operand} (hi : opIn k.nt (lenCall x t) = true) (h : opLenX tab s x t = some e) : Good E k (lenCall x t) ty s e := by
  unfold opLenX at h
  split at h
  · simp at h
  rename_i i ht
  split at h
  · rename_i kt et r hk hx
    split at h
    · rename_i ag es hr
      injection h with h; subst h
      exact ⟨ok_len_map hi (htab.at ht) hk hx, by simp [RhOk, hr]⟩
    · simp at h
  · simp at h

def opMapUpd (tab : List (Nat × TI)) (s : St) (t : TypeId) (m key val : Operand) : Option Eff := match lkT t tab with
  | none => none
  | some mi => match mi.k with
    | .map kt _ => match lkT kt tab with
      | none => none
      | some ki => match keyTI ki, evO s m, keyCells (evO s key), evO s val with
        | true, .mp r, some (ag, kc), .d v => match lkH r s.h, ag, ki.k.agg with
          | some (.map true es), true, true => some { val := .junk, rh := some (r, .map true es), wh := some (r, some (.map true (mput ki.fl kc v es))), cond := [KeyOk ki.fl kc, KeysOk ki.fl es] }
          | some (.map false es), false, false => some { val := .junk, rh := some (r, .map false es), wh := some (r, some (.map false (mput ki.fl kc v es))), cond := [KeyOk ki.fl kc, KeysOk ki.fl es] }
          | _, _, _ => none
        | _, _, _, _ => none
    | _ => none
theorem opMapUpd_ok (htab : TabOk E.P tab) {t : TypeId} {m key val : Operand} (hi : opIn k.nt (.mapUpdate t m key val) = true) (h : opMapUpd tab s t m key val = some e) : Good E k (.mapUpdate t m key val) ty s e := by
  unfold opMapUpd at h
  split at h
  · simp at h
  rename_i mi ht
  split at h
  · rename_i kt et hmk
    split at h
    · simp at h
    rename_i ki hkt
    split at h
    · rename_i r ag kc v hkey hm hkc hv
      obtain ⟨h1, h2⟩ := keyTI_spec hkey
      split at h
      · rename_i es hr hag
        injection h with h; subst h
        have := ok_mapUpdate (E := E) (k := k) (ty := ty) (es := es) hi (htab.at ht) hmk (htab.at hkt) h1 h2 hm (by rw [hag]; exact hkc) hv
        rw [hag] at this
        exact ⟨this, by simp [RhOk, hr]⟩
      · rename_i es hr hag
        injection h with h; subst h
        have := ok_mapUpdate (E := E) (k := k) (ty := ty) (es := es) hi (htab.at ht) hmk (htab.at hkt) h1 h2 hm (by rw [hag]; exact hkc) hv
        rw [hag] at this
        exact ⟨this, by simp [RhOk, hr]⟩
      · simp at h
    · simp at h
  · simp at h

def oneZero : List Value → Option Value
  | [z] => match z.oneCell' with
    | true => some z
    | false => none
  | _ => none
theorem oneZero_spec {l : List Value} {z : Value} (h : oneZero l = some z) : l = [z] ∧ z.oneCell' = true := by
  unfold oneZero at h
  split at h
  · split at h
    · rename_i h1; injection h with h; subst h; exact ⟨rfl, h1⟩
    · simp at h
  · simp at h

def lookVal (co : Bool) (x : D) (b : Bool) : AV := match co with
  | true => .tup [.d x, .d (.v (.bool b))]
  | false => .d x
def opLookup (tab : List (Nat × TI)) (s : St) (t : TypeId) (m key : Operand) (co : Bool) : Option Eff := match lkT t tab with
  | none => none
  | some mi => match mi.k with
    | .map kt et => match lkT kt tab, lkT et tab with
      | some ki, some ei => match keyTI ki, evO s m, keyCells (evO s key), oneZero ei.zero, ei.k.agg, ei.fl with
        | true, .mp r, some (ag, kc), some z, false, _ :: _ => match lkH r s.h, ag, ki.k.agg with
          | some (.map true es), true, true => some { val := lookVal co (force ei.k 0 (mget ki.fl kc (.v z) es)) (mhas ki.fl kc es), rh := some (r, .map true es), cond := [KeyOk ki.fl kc, KeysOk ki.fl es, has ei.k 0 (mget ki.fl kc (.v z) es)] }
          | some (.map false es), false, false => some { val := lookVal co (force ei.k 0 (mget ki.fl kc (.v z) es)) (mhas ki.fl kc es), rh := some (r, .map false es), cond := [KeyOk ki.fl kc, KeysOk ki.fl es, has ei.k 0 (mget ki.fl kc (.v z) es)] }
          | _, _, _ => none
        | _, _, _, _, _, _ => none
      | _, _ => none
    | _ => none
theorem opLookup_ok (htab : TabOk E.P tab) {t : TypeId} {m key : Operand} {co : Bool} (hi : opIn k.nt (.lookup t m key co) = true) (h : opLookup tab s t m key co = some e) : Good E k (.lookup t m key co) ty s e := by
  unfold opLookup at h
  split at h
  · simp at h
  rename_i mi ht
  split at h
  · rename_i kt et hmk
    split at h
    · rename_i ki ei hkt het
      split at h
      · rename_i r ag kc z f fs hkey hm hkc hz hza hfl
        obtain ⟨h1, h2⟩ := keyTI_spec hkey
        obtain ⟨z1, z2⟩ := oneZero_spec hz
        split at h
        · rename_i es hr hag
          injection h with h; subst h
          have := ok_lookup (E := E) (k := k) (ty := ty) (es := es) (co := co) hi (htab.at ht) hmk (htab.at hkt) h1 h2 (htab.at het) (by rw [hfl]; simp) z1 hza z2 hm (by rw [hag]; exact hkc)
          rw [hag] at this
          exact ⟨by cases co <;> exact this, by simp [RhOk, hr]⟩
        · rename_i es hr hag
          injection h with h; subst h
          have := ok_lookup (E := E) (k := k) (ty := ty) (es := es) (co := co) hi (htab.at ht) hmk (htab.at hkt) h1 h2 (htab.at het) (by rw [hfl]; simp) z1 hza z2 hm (by rw [hag]; exact hkc)
          rw [hag] at this
          exact ⟨by cases co <;> exact this, by simp [RhOk, hr]⟩
        · simp at h
      · simp at h
    · simp at h
  · simp at h

def opMM (s : St) (b : Builtin) (x y : Operand) : Option Eff := match isMinMax b, evO s x, evO s y with
  | some true, .d (.v (.int i m)), .d (.v (.int _ n)) => some { val := .d (.v (.int i (if n < m then n else m))) }
  | some false, .d (.v (.int i m)), .d (.v (.int _ n)) => some { val := .d (.v (.int i (if n > m then n else m))) }
  | _, _, _ => none
theorem opMM_ok {b : Builtin} {x y : Operand} {t t' : TypeId} (hi : opIn k.nt (mmCall b x y t t') = true) (h : opMM s b x y = some e) : Good E k (mmCall b x y t t') ty s e := by
  unfold opMM at h
  split at h
  · rename_i i m j n hb hx hy
    injection h with h; subst h
    have : b = .min := by cases b <;> simp [isMinMax] at hb <;> rfl
    subst this
    exact ⟨ok_minmax hi hx hy (.inl ⟨rfl, rfl⟩), by simp [RhOk]⟩
  · rename_i i m j n hb hx hy
    injection h with h; subst h
    have : b = .max := by cases b <;> simp [isMinMax] at hb <;> rfl
    subst this
    exact ⟨ok_minmax hi hx hy (.inr ⟨rfl, rfl⟩), by simp [RhOk]⟩
  · simp at h

/-- The further operations. -/
def opX (tab : List (Nat × TI)) (s : St) (d : Nat) (op : Op) : Option Eff := match op with
  | .range t x => match lkT t tab, evO s x with
    | some i, .d (.v (.string m)) => match i.k with
      | .str => some { val := .ptr d 0, wh := some (d, some (.siter m 0)), new := some d }
      | _ => none
    | _, _ => none
  | .makeMap t none => match lkT t tab with
    | some i => match i.k with
      | .map kt _ => match lkT kt tab with
        | some ki => match ki.k.agg with
          | true => some { val := .mp d, wh := some (d, some (.map true [])), new := some d }
          | false => some { val := .mp d, wh := some (d, some (.map false [])), new := some d }
        | none => none
      | _ => none
    | none => none
  | .mapUpdate t m key val => opMapUpd tab s t m key val
  | .lookup t m key co => opLookup tab s t m key co
  | .call { callee := .builtin b, args := ⟨[x, y]⟩, argTypes := ⟨[_, _]⟩ } => opMM s b x y
  | _ => none
theorem opX_ok (htab : TabOk E.P tab) {d : Nat} {op : Op} (hi : opIn k.nt op = true) (h : opX tab s d op = some e) : Good E k op ty s e := by
  unfold opX at h
  split at h
  · split at h
    · rename_i i m ht hx
      split at h
      · rename_i hk
        injection h with h; subst h
        exact ⟨ok_range hi (htab.at ht) hk hx, by simp [RhOk]⟩
      · simp at h
    · simp at h
  · split at h
    · split at h
      · split at h
        · split at h
          · injection h with h; subst h; exact ⟨ok_makeMap true, by simp [RhOk]⟩
          · injection h with h; subst h; exact ⟨ok_makeMap false, by simp [RhOk]⟩
        · simp at h
      · simp at h
    · simp at h
  · exact opMapUpd_ok htab hi h
  · exact opLookup_ok htab hi h
  · exact opMM_ok hi h
  · simp at h

/-! An array's variable as a slice: it is read alone from then on. -/
def chunksD : Nat → Nat → List D → List (List D)
  | 0, _, _ => []
  | n + 1, sz, cs => cs.take sz :: chunksD n sz (cs.drop sz)
theorem chunksD_length (n sz : Nat) (cs : List D) : (chunksD n sz cs).length = n := by
  induction n generalizing cs with
  | zero => rfl
  | succ n ih => simp [chunksD, ih]
theorem chunksD_at : ∀ (n sz : Nat) (cs : List D) (i : Nat) (el : List D), cs.length = n * sz → (chunksD n sz cs)[i]? = some el → el.length = sz ∧ ∀ (j : Nat) (x : D), el[j]? = some x → cs[i * sz + j]? = some x
  | 0, sz, cs, i, el, _, h => by simp [chunksD] at h
  | n + 1, sz, cs, 0, el, hl, h => by
    simp only [chunksD, List.getElem?_cons_zero, Option.some.injEq] at h
    subst h
    rw [Nat.add_mul] at hl
    refine ⟨by simp; omega, fun j x hj => ?_⟩
    rw [List.getElem?_take] at hj
    split at hj
    · simpa using hj
    · simp at hj
  | n + 1, sz, cs, i + 1, el, hl, h => by
    simp only [chunksD, List.getElem?_cons_succ] at h
    rw [Nat.add_mul] at hl
    obtain ⟨h1, h2⟩ := chunksD_at n sz (cs.drop sz) i el (by simp; omega) h
    refine ⟨h1, fun j x hj => ?_⟩
    have := h2 j x hj
    rw [List.getElem?_drop] at this
    rw [← this]; congr 1; rw [Nat.add_mul]; omega
theorem ok_slice_arr {t e0 : TypeId} {x : Operand} {i ei : TI} {r n m : Nat} {cs : List D} (hi : opIn k.nt (.slice t x none none none) = true) (ht : tiOf E.P t = some i) (hk : i.k = .array n e0) (he : tiOf E.P e0 = some ei) (hx : evO s x = .ptr r 0) :
    OpOk E k (.slice t x none none none) ty s { val := .d (.sl true ei.size (chunksD n ei.size cs)), rh := some (r, .dvar m cs), wh := some (r, none), cond := [cs.length = n * ei.size] } := by
  intro c Im ρ F H a w o ok hn ha S ho hty hF hH hnew hc
  have h1 := opIn_ev (x := x) S hn hi hF (by simp [Op.operands])
  rw [hx] at h1
  obtain ⟨inf, d, z, g1, g2, g3, rfl⟩ := tiOf_spec ht
  cases d <;> simp only [kindOf] at hk <;> cases hk
  have hr := hH r _ rfl
  obtain ⟨l, hl, hro, hown⟩ := S.obj r _ hr
  obtain ⟨hb1, hb2, hlen, b, ms, tt, hb3, hb4, hb5, hb6⟩ := hro
  generalize hv : a.eval x = v at h1
  cases h1 with
  | ptr _ _ _ _ hp2 =>
    obtain ⟨_, b', e1, e2⟩ := hp2 l hl
    rw [hb3] at e1; injection e1 with e1; subst e1
    subst e2
    refine ⟨.slice (some ⟨b, 0, none⟩) n n, w, .inl ?_, _, _, S.freeze hr hl, ?_⟩
    · simp [execOp, ho, hv, Instr.sliceAt, run_underlying g2, Instr.sureAddr, Instr.sliceBounds, run_sizeOf he, add_zero_spot]
    · have hcl := hc.1
      refine .d _ _ ?_
      have := RD.row (h := hp w) (Im := fun b' => Im b' ∨ b' ∈ l.fp) (b := b) (o := 0) (cap := n) (sz := ei.size) (els := chunksD n ei.size cs) (tight := true) (cs := ms) (t := tt) (fz := (0, 0)) (.inr (by simp [Loc.fp, hb3])) hb4
        (fun el hel => by
          obtain ⟨q, hq⟩ := List.getElem?_of_mem hel
          exact (chunksD_at n ei.size cs q el hcl hq).1) (by rw [chunksD_length]; omega) (fun _ => (chunksD_length n ei.size cs).symm) (fun i j el x e1 e2 => by
          have hq := (chunksD_at n ei.size cs i el hcl e1).2 j x e2
          have hlt := (List.getElem?_eq_some_iff.1 hq).1
          have hms : i * ei.size + j < ms.size := by omega
          refine ⟨ms[i * ei.size + j], by rw [Nat.zero_add]; exact Array.getElem?_eq_getElem hms, ?_⟩
          exact (hb6 _ _ (Array.getElem?_eq_getElem hms) x hq).mono (fun _ h => .inl h) fun _ _ => rfl)
      rw [chunksD_length] at this
      exact this

def opSliceX (tab : List (Nat × TI)) (s : St) (t : TypeId) (x : Operand) (lo hi : Option Operand) : Option Eff := match lkT t tab, lo, hi with
  | some i, none, none => match i.k, evO s x with
    | .array n e0, .ptr r 0 => match lkT e0 tab, Nat.blt 0 n, lkH r s.h with
      | some ei, true, some (.dvar m cs) => some { val := .d (.sl true ei.size (chunksD n ei.size cs)), rh := some (r, .dvar m cs), wh := some (r, none), cond := [cs.length = n * ei.size] }
      | _, _, _ => none
    | _, _ => none
  | _, _, _ => none
theorem opSliceX_ok (htab : TabOk E.P tab) {t : TypeId} {x : Operand} {lo hi : Option Operand} (hin : opIn k.nt (.slice t x lo hi none) = true) (h : opSliceX tab s t x lo hi = some e) : Good E k (.slice t x lo hi none) ty s e := by
  unfold opSliceX at h
  split at h
  · rename_i i ht
    split at h
    · rename_i n e0 r hk hx
      split at h
      · rename_i ei m cs he _ hr
        injection h with h; subst h
        exact ⟨ok_slice_arr hin (htab.at ht) hk (htab.at he) hx, by simp [RhOk, hr]⟩
      · simp at h
    · simp at h
  · simp at h

/-! A slice against nil: where nothing tells whether it is, both ways are walked. -/
def nilRes (b0 : BinOp) (b : Bool) : Bool := match b0 with
  | .eql => b
  | _ => !b
theorem equalIn_slice_nil {P : Program} {w : World} (d : Nat) {t e0 : TypeId} {ad : Option Addr} {n c : Nat} (hu : P.underlying t = some (.slice e0)) : (Op.equalIn (d + 1) t (.slice ad n c) (.slice none 0 0)).run P w = .ok ad.isNone w := by
  cases ad <;> simp [Op.equalIn, run_underlying hu]
theorem ok_slnil {op : BinOp} {xt yt e0 : TypeId} {x : Operand} {i : TI} {tight : Bool} {sz : Nat} {els : List (List D)} (hi : opIn k.nt (.binOp op xt x (.const (.slice none 0 0)) yt) = true) (ht : tiOf E.P xt = some i) (hk : i.k = .slice e0) (hx : evO s x = .d (.sl tight sz els)) (hop : op = .eql ∨ op = .neq)
    (c : Cx) (Im : Nat → Prop) (ρ : Nat → Option Loc) (F : Nat → AV) (H : Nat → Option AObj) (a : Act) (w : World) (o : Oper) (hn : c.nt = k.nt) (S : Sim c Im ρ F H a w) (ho : o.op = .binOp op xt x (.const (.slice none 0 0)) yt) (hF : ∀ t ∈ opTmps (.binOp op xt x (.const (.slice none 0 0)) yt), lk t s.f = F t) :
    ∃ b : Bool, (b = true → els = []) ∧ (execOp a.eval o).run E.P w = .ok (.value (.bool (nilRes op b))) w := by
  have h1 := opIn_ev (x := x) S hn hi hF (by simp [Op.operands])
  rw [hx] at h1
  obtain ⟨inf, d, z, g1, g2, g3, rfl⟩ := tiOf_spec ht
  cases d <;> simp only [kindOf] at hk <;> cases hk
  have hc2 : a.eval (.const (.slice none 0 0)) = .slice none 0 0 := rfl
  have hrd := h1.d_inv
  generalize hv : a.eval x = v at hrd
  have key : ∃ ad n cap, v = .slice ad n cap ∧ (ad.isNone = true → els = []) := by
    cases hrd with
    | nil _ _ ad cap _ => exact ⟨ad, 0, cap, rfl, fun _ => rfl⟩
    | sl _ _ _ b o1 cap f => exact ⟨_, _, cap, rfl, fun h => by simp at h⟩
  obtain ⟨ad, n, cap, rfl, hne⟩ := key
  have q : (Op.equal xt (.slice ad n cap) (.slice none 0 0)).run E.P w = .ok ad.isNone w := equalIn_slice_nil 9999 g2
  refine ⟨ad.isNone, hne, ?_⟩
  rcases hop with rfl | rfl
  · simp [execOp, ho, hv, hc2, eqGuard, binOp, q, nilRes]
  · simp [execOp, ho, hv, hc2, eqGuard, binOp, q, nilRes]

def nilB (i : TI) (x : AV) (b : BinOp) : Option (BinOp × List (List D)) := match i.k, x, b with
  | .slice _, .d (.sl _ _ els), .eql => some (.eql, els)
  | .slice _, .d (.sl _ _ els), .neq => some (.neq, els)
  | _, _, _ => none
theorem nilB_spec {i : TI} {x : AV} {b b0 : BinOp} {els : List (List D)} (h : nilB i x b = some (b0, els)) : (∃ e0, i.k = .slice e0) ∧ (∃ t z, x = .d (.sl t z els)) ∧ b = b0 ∧ (b = .eql ∨ b = .neq) := by
  unfold nilB at h
  split at h
  · rename_i hk; injection h with h; injection h with h1 h2; subst h1; subst h2; exact ⟨⟨_, hk⟩, ⟨_, _, rfl⟩, rfl, .inl rfl⟩
  · rename_i hk; injection h with h; injection h with h1 h2; subst h1; subst h2; exact ⟨⟨_, hk⟩, ⟨_, _, rfl⟩, rfl, .inr rfl⟩
  · simp at h
def opNilSl (tab : List (Nat × TI)) (s : St) (op : Op) : Option (BinOp × List (List D)) := match op with
  | .binOp b xt x (.const (.slice none 0 0)) _ => match lkT xt tab with
    | some i => nilB i (evO s x) b
    | none => none
  | _ => none
theorem opNilSl_ok (htab : TabOk E.P tab) {op : Op} {b0 : BinOp} {els : List (List D)} (hi : opIn k.nt op = true) (h : opNilSl tab s op = some (b0, els))
    (c : Cx) (Im : Nat → Prop) (ρ : Nat → Option Loc) (F : Nat → AV) (H : Nat → Option AObj) (a : Act) (w : World) (o : Oper) (hn : c.nt = k.nt) (S : Sim c Im ρ F H a w) (ho : o.op = op) (hF : ∀ t ∈ opTmps op, lk t s.f = F t) :
    ∃ b : Bool, (b = true → els = []) ∧ (execOp a.eval o).run E.P w = .ok (.value (.bool (nilRes b0 b))) w := by
  unfold opNilSl at h
  split at h
  · rename_i b1 xt x yt
    obtain ⟨i, ht, h2⟩ : ∃ i, lkT xt tab = some i ∧ nilB i (evO s x) b1 = some (b0, els) := by
      generalize lkT xt tab = y at h ⊢
      cases y with
      | none => simp at h
      | some i => exact ⟨i, rfl, h⟩
    obtain ⟨⟨e0, hk⟩, ⟨t, z, hx⟩, rfl, hb⟩ := nilB_spec h2
    exact ok_slnil hi (htab.at ht) hk hx hb c Im ρ F H a w o hn S ho hF
  · simp at h

/-- Operations whose outcome parts. -/
def opS (s : St) (op : Op) : Option (Bool × Eff × Eff) := match op with
  | .next x true => match evO s x with
    | .ptr r 0 => match lkH r s.h with
      | some (.siter m pos) => some (decide (pos < m.size), { val := .tup [.d (.v (.bool true)), .d (.v (.int .i64 pos)), .d (.v (.int .i32 (runeAt m pos)))], rh := some (r, .siter m pos), wh := some (r, some (.siter m (pos + runeW m pos))) }, { val := .tup [.d (.v (.bool false))], rh := some (r, .siter m pos) })
      | _ => none
    | _ => none
  | _ => none
theorem opS_ok {op : Op} {b : Bool} {e1 e2 : Eff} (hi : opIn k.nt op = true) (h : opS s op = some (b, e1, e2)) : (b = true → Good E k op ty s e1) ∧ (b = false → Good E k op ty s e2) := by
  unfold opS at h
  split at h
  · rename_i x
    split at h
    · rename_i r hx
      split at h
      · rename_i m pos hr
        injection h with h; injection h with h1 h; injection h with h2 h3
        subst h1; subst h2; subst h3
        constructor
        · intro hb
          have hb : pos < m.size := by simpa using hb
          exact ⟨(ok_next_some hi hx).cond fun _ => ⟨hb, trivial⟩, by simp [RhOk, hr]⟩
        · intro hb
          have hb : ¬ pos < m.size := by simpa using hb
          exact ⟨(ok_next_none (m := m) (pos := pos) hi hx).cond fun _ => ⟨hb, trivial⟩, by simp [RhOk, hr]⟩
      · simp at h
    · simp at h
  · simp at h

end ops
end Go.Ax
