/- Abstract execution, part Ld: maps' operations; one function for the operations of parts Lb to Ld. -/
import Derived.Test.YtjokajidcojlmaaDoorAxLc
import Derived.WideLaws
namespace Go.Ax

def keyCells : AV → Option (Bool × List D)
  | .d x => some (false, [x])
  | .dagg cs => some (true, cs)
  | _ => none
theorem keyCells_ok {h : Nat → Option Obj} {Im : Nat → Prop} {ρ : Nat → Option Loc} {v : Value} {x : AV} {ag : Bool} {kc : List D} (hx : keyCells x = some (ag, kc)) (H : RA h Im ρ v x) : KeyR h Im ag v kc := by
  cases x <;> simp only [keyCells] at hx <;> cases hx
  · exact ⟨_, rfl, H.d_inv⟩
  · cases H with
    | dagg cs _ hl hr => exact ⟨cs, rfl, hl, hr⟩

theorem run_setObj_map {P : Program} {w : World} {r : Nat} {es : Array MapEntry} {clock : Nat} (o : Obj) (hb : w.heap[r]? = some (.map es clock)) : (setObj r o).run P w = .ok () { w with heap := w.heap.setIfInBounds r o } := by
  simp [setObj, Sem.run, hb]

section ops
variable {E : Env} {k : Kn} {ty : TypeId} {s : St} {tab : List (Nat × TI)} {e : Eff}

theorem ok_makeMap {t : TypeId} {d : Nat} (ag : Bool) : OpOk E k (.makeMap t none) ty s { val := .mp d, wh := some (d, some (.map ag [])), new := some d } := by
  intro c Im ρ F H a w o ok hn ha S ho hty hF hH hnew hc
  have hb : ∀ b ∈ ({ blk := some w.heap.size } : Loc).fp, w.heap.size ≤ b ∧ b < (w.alloc (.map #[] 0)).heap.size := fun b hb => by
    simp [Loc.fp] at hb; subst hb; simp
  refine ⟨.map (some w.heap.size), w.alloc (.map #[] 0), .inl ?_, Im, _, S.new (r := d) (l := { blk := some w.heap.size }) (o := .map ag []) (Grows.alloc w _) (hnew d rfl) hb ⟨rfl, rfl, w.heap.size, #[], 0, rfl, heap_alloc_new w _, rfl, by simp⟩, .mp _ d rfl fun l hl => ?_⟩
  · simp [execOp, ho, Instr.makeMap]
  · rw [upd_same] at hl; injection hl with hl; subst hl
    exact ⟨rfl, _, rfl, rfl⟩

/-- The machine's map behind a name. -/
theorem mp_at {c : Cx} {Im : Nat → Prop} {ρ : Nat → Option Loc} {F : Nat → AV} {H : Nat → Option AObj} {a : Act} {w : World} (S : Sim c Im ρ F H a w) {r : Nat} {ag : Bool} {es : List (List D × D)} (hr : H r = some (.map ag es)) {v : Value} (hv : RA (hp w) Im ρ v (.mp r)) :
    ∃ l b ms clk, ρ r = some l ∧ l.isBuf = false ∧ l.more = [] ∧ l.blk = some b ∧ b < w.heap.size ∧ v = .map (some b) ∧ w.heap[b]? = some (.map ms clk) ∧ ms.size = es.length ∧ ∀ (i : Nat) (e : MapEntry) (x : List D × D), ms[i]? = some e → es[i]? = some x → EntR (hp w) Im ag e x := by
  obtain ⟨l, hl, hro, hown⟩ := S.obj r _ hr
  obtain ⟨h1, h2, b, ms, clk, h3, h4, h5, h6⟩ := hro
  cases hv with
  | mp _ _ _ hp2 =>
    obtain ⟨_, b', e1, e2⟩ := hp2 l hl
    rw [h3] at e1; injection e1 with e1; subst e1
    exact ⟨l, b, ms, clk, hl, h1, h2, h3, (hown b (by simp [Loc.fp, h3])).1, e2, h4, h5, h6⟩

theorem ok_mapUpdate {t kt et : TypeId} {m key val : Operand} {mi ki : TI} {r : Nat} {kc : List D} {v : D} {es : List (List D × D)} (hi : opIn k.nt (.mapUpdate t m key val) = true) (ht : tiOf E.P t = some mi) (hmk : mi.k = .map kt et) (hkt : tiOf E.P kt = some ki) (hne : ki.fl ≠ []) (hsz : ki.size = ki.fl.length)
    (hm : evO s m = .mp r) (hkey : keyCells (evO s key) = some (ki.k.agg, kc)) (hval : evO s val = .d v) :
    OpOk E k (.mapUpdate t m key val) ty s { val := .junk, rh := some (r, .map ki.k.agg es), wh := some (r, some (.map ki.k.agg (mput ki.fl kc v es))), cond := [KeyOk ki.fl kc, KeysOk ki.fl es] } := by
  intro c Im ρ F H a w o ok hn ha S ho hty hF hH hnew hc
  have h1 := opIn_ev (x := m) S hn hi hF (by simp [Op.operands])
  have h2 := opIn_ev (x := key) S hn hi hF (by simp [Op.operands])
  have h3 := opIn_ev (x := val) S hn hi hF (by simp [Op.operands])
  rw [hm] at h1; rw [hval] at h3
  obtain ⟨l, b, ms, clk, hl, hb1, hb2, hb3, hlt, hv, hheap, hlen, hent⟩ := mp_at S (hH r _ rfl) h1
  have hk := keyCells_ok hkey h2
  obtain ⟨hf, hck⟩ := run_findKey w hkt hne hsz hk hc.1 hlen hent hc.2.1
  obtain ⟨_, d, _, _, g2, _, rfl⟩ := tiOf_spec ht
  cases d <;> simp only [kindOf] at hmk <;> cases hmk
  generalize hkv : a.eval key = kv at hk hf hck
  generalize hvv : a.eval val = vv at h3
  have hnewR : ∀ ms' : Array MapEntry, ∀ clk', ms'.size = (mput ki.fl kc v es).length → (∀ (i : Nat) (e : MapEntry) (x : List D × D), ms'[i]? = some e → (mput ki.fl kc v es)[i]? = some x → EntR (hp w) Im ki.k.agg e x) →
      (execOp a.eval o).run E.P w = .ok .skip { w with heap := w.heap.setIfInBounds b (.map ms' clk') } →
      ∃ u w', ((execOp a.eval o).run E.P w = .ok (.value u) w' ∨ ((execOp a.eval o).run E.P w = .ok .skip w' ∧ u = undef)) ∧ ∃ Im' ρ', Sim c Im' ρ' F (updO H (some (r, some (.map ki.k.agg (mput ki.fl kc v es))))) a w' ∧ RA (hp w') Im' ρ' u .junk := by
    intro ms' clk' hlen' hent' hrun
    have hI : ∀ b', Im b' → hp { w with heap := w.heap.setIfInBounds b (.map ms' clk') } b' = hp w b' := fun b' hb' => by
      have : b ≠ b' := fun e => by
        subst e
        obtain ⟨l0, hl0, _, hown⟩ := S.obj r _ (hH r _ rfl)
        rw [hl] at hl0; injection hl0 with hl0; subst hl0
        exact (hown b (by simp [Loc.fp, hb3])).2.1 hb'
      simp [hp, Array.getElem?_setIfInBounds_ne this]
    refine ⟨undef, _, .inr ⟨hrun, rfl⟩, Im, _, S.chg (r := r) (l := l) (l' := l) (hH r _ rfl) hl ?_ (.inl rfl) (fun b hb => .inl hb) ?_, .junk _⟩
    · refine ⟨by simp, rfl, rfl, rfl, fun b2 hb2 hn2 => ?_⟩
      have : b ≠ b2 := fun e => hn2 (by subst e; simp [Loc.fp, hb3])
      simp [Array.getElem?_setIfInBounds_ne this]
    · refine ⟨hb1, hb2, b, ms', clk', hb3, by simp [hp, hlt], hlen', fun i e x e1 e2 => ?_⟩
      have := hent' i e x e1 e2
      exact ⟨this.1.mono (fun _ h => h) hI, this.2.mono (fun _ h => h) hI⟩
  cases hmf : mfind ki.fl kc es 0 with
  | none =>
    rw [hmf] at hf
    refine hnewR (ms.push { key := kv, val := vv, born := clk }) (clk + 1) (by simp [mput, hmf, hlen]) (fun i e x e1 e2 => ?_) ?_
    · simp only [mput, hmf] at e2
      by_cases hil : i < ms.size
      · rw [Array.getElem?_push_lt hil] at e1
        rw [List.getElem?_append_left (by omega)] at e2
        exact hent i e x (by rw [Array.getElem?_eq_getElem hil]; exact e1) e2
      · have hie : i = ms.size := by
          have := (List.getElem?_eq_some_iff.1 e2).1
          simp at this; omega
        subst hie
        rw [Array.getElem?_push_size] at e1
        rw [hlen, List.getElem?_append_right (by omega)] at e2
        simp at e1 e2; subst e1; subst e2
        exact ⟨h3.d_inv, hk⟩
    · simp [execOp, ho, hv, hkv, hvv, Instr.mapUpdate, run_underlying g2, Go.run_getObj_map w b ms clk hheap, hck false, hf, run_setObj_map _ hheap]
  | some q =>
    rw [hmf] at hf
    have hq := mfind_lt hmf
    have hqm : q < ms.size := by omega
    have hqe : q < es.length := by omega
    have hme : ms[q]? = some ms[q] := Array.getElem?_eq_getElem hqm
    have hee : es[q]? = some es[q] := List.getElem?_eq_getElem hqe
    have hsame : Instr.sameBits 10000 (ms[q]).key kv = true := by
      have he := hent q _ _ hme hee
      have hko := hc.2.1 es[q] (List.getElem_mem hqe)
      exact key_same w hkt hne hk hc.1 he.2 hko (mfind_eq hmf _ hee)
    have hstay : (Instr.keyThatStays (ms[q]).key kv).run E.P w = .ok kv w := by
      unfold Instr.keyThatStays
      rw [hsame]; simp
    refine hnewR (ms.modify q fun e => { e with key := kv, val := vv }) clk (by simp [mput, hmf, hlen]) (fun i e x e1 e2 => ?_) ?_
    · simp only [mput, hmf] at e2
      rw [Array.getElem?_modify] at e1
      by_cases hiq : q = i
      · subst hiq
        rw [if_pos rfl, hme] at e1
        simp at e1; subst e1
        rw [List.getElem?_set_self hqe] at e2
        injection e2 with e2; subst e2
        exact ⟨h3.d_inv, hk⟩
      · rw [if_neg hiq] at e1
        rw [List.getElem?_set_ne hiq] at e2
        exact hent i e x e1 e2
    · simp [execOp, ho, hv, hkv, hvv, Instr.mapUpdate, run_underlying g2, Go.run_getObj_map w b ms clk hheap, hck false, hf, hme, hstay, run_setObj_map _ hheap]

theorem ok_lookup {t kt et : TypeId} {m key : Operand} {mi ki ei : TI} {r : Nat} {kc : List D} {z : Value} {es : List (List D × D)} {co : Bool} (hi : opIn k.nt (.lookup t m key co) = true) (ht : tiOf E.P t = some mi) (hmk : mi.k = .map kt et) (hkt : tiOf E.P kt = some ki) (hne : ki.fl ≠ []) (hsz : ki.size = ki.fl.length)
    (het : tiOf E.P et = some ei) (hefl : ei.fl ≠ []) (hz : ei.zero = [z]) (hza : ei.k.agg = false) (hz1 : z.oneCell' = true)
    (hm : evO s m = .mp r) (hkey : keyCells (evO s key) = some (ki.k.agg, kc)) :
    OpOk E k (.lookup t m key co) ty s { val := if co then .tup [.d (force ei.k 0 (mget ki.fl kc (.v z) es)), .d (.v (.bool (mhas ki.fl kc es)))] else .d (force ei.k 0 (mget ki.fl kc (.v z) es)), rh := some (r, .map ki.k.agg es), cond := [KeyOk ki.fl kc, KeysOk ki.fl es, has ei.k 0 (mget ki.fl kc (.v z) es)] } := by
  refine .pure _ _ fun hc c Im ρ F H a w o ok hn S ho hty hF hH => ?_
  have h1 := opIn_ev (x := m) S hn hi hF (by simp [Op.operands])
  have h2 := opIn_ev (x := key) S hn hi hF (by simp [Op.operands])
  rw [hm] at h1
  obtain ⟨l, b, ms, clk, hl, hb1, hb2, hb3, hlt, hv, hheap, hlen, hent⟩ := mp_at S (hH r _ rfl) h1
  have hk := keyCells_ok hkey h2
  obtain ⟨hf, hck⟩ := run_findKey w hkt hne hsz hk hc.1 hlen hent hc.2.1
  obtain ⟨_, d, _, _, g2, _, rfl⟩ := tiOf_spec ht
  cases d <;> simp only [kindOf] at hmk <;> cases hmk
  obtain ⟨ef, ed, ez, f1, f2, f3, rfl⟩ := tiOf_spec het
  generalize hkv : a.eval key = kv at hk hf hck
  have hezv : ez = z := by
    have hcc : ez.cells.toList = [z] := hz
    have hb := flOf_bare het hefl
    have hnag : ∀ cs, ez ≠ .agg cs := fun cs e => by
      subst e
      unfold bareZero at hb
      rw [f1, f2] at hb
      cases ed <;> simp [kindOf, TK.agg] at hza <;> simp [f3] at hb
    have : ez.cells = #[ez] := by cases ez <;> first | rfl | (exact absurd rfl (hnag _))
    rw [this] at hcc
    simpa using hcc
  subst hezv
  have main : ∃ u : Value, (execOp a.eval o).run E.P w = .ok (.value (if co then .tuple #[u, .bool (mhas ki.fl kc es)] else u)) w ∧ RD (hp w) Im u (mget ki.fl kc (.v ez) es) := by
    cases hmf : mfind ki.fl kc es 0 with
    | none =>
      rw [hmf] at hf
      refine ⟨ez, ?_, ?_⟩
      · have hzv : (zeroValue et).run E.P w = .ok ez w := by simp [zeroValue, typeInfo, f1, f3]
        cases co <;> simp [execOp, ho, hv, hkv, Instr.lookup, run_underlying g2, Go.run_getObj_map w b ms clk hheap, hck, hf, hzv, mhas, hmf]
      · simp only [mget, hmf]; exact .v _ hz1
    | some q =>
      rw [hmf] at hf
      have hq := mfind_lt hmf
      have hqm : q < ms.size := by omega
      have hqe : q < es.length := by omega
      have hme : ms[q]? = some ms[q] := Array.getElem?_eq_getElem hqm
      have hee : es[q]? = some es[q] := List.getElem?_eq_getElem hqe
      refine ⟨(ms[q]).val, ?_, ?_⟩
      · cases co <;> simp [execOp, ho, hv, hkv, Instr.lookup, run_underlying g2, Go.run_getObj_map w b ms clk hheap, hck, hf, hme, mhas, hmf]
      · simp only [mget, hmf, List.getD, hee]; exact (hent q _ _ hme hee).1
  obtain ⟨u, hu1, hu2⟩ := main
  have hu3 := RD.force hc.2.2.1 hu2
  refine ⟨_, hu1, ?_⟩
  cases co with
  | false => exact .d _ _ hu3
  | true =>
    refine .tup _ _ rfl fun i v x e1 e2 => ?_
    match i with
    | 0 => simp at e1 e2; subst e1; subst e2; exact .d _ _ hu3
    | 1 => simp at e1 e2; subst e1; subst e2; exact RA.intv _ rfl
    | n + 2 => simp at e1

theorem ok_len_map {x : Operand} {t kt et : TypeId} {i : TI} {r : Nat} {ag : Bool} {es : List (List D × D)} (hi : opIn k.nt (lenCall x t) = true) (ht : tiOf E.P t = some i) (hk : i.k = .map kt et) (hx : evO s x = .mp r) :
    OpOk E k (lenCall x t) ty s { val := .d (.v (.int .i64 es.length)), rh := some (r, .map ag es) } :=
  .pure _ _ fun hc c Im ρ F H a w o ok hn S ho hty hF hH => by
  have h1 := opIn_ev (x := x) S hn hi hF (by simp [Op.operands, lenCall, Call.operands])
  rw [hx] at h1
  obtain ⟨l, b, ms, clk, hl, hb1, hb2, hb3, hlt, hv, hheap, hlen, hent⟩ := mp_at S (hH r _ rfl) h1
  obtain ⟨inf, d, z, g1, g2, g3, rfl⟩ := tiOf_spec ht
  cases d <;> simp only [kindOf] at hk <;> cases hk
  refine ⟨_, exec_len ho (by simp [Builtin.len_, hv, run_underlying g2, Go.run_getObj_map w b ms clk hheap, goInt, hlen]), RA.intv _ rfl⟩

end ops
end Go.Ax
