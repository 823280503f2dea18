/- Abstract execution, part U: a drawing region by the one function. -/
import Derived.Test.YtjokajidcojlmaaDoorAxS
namespace Go.Ax

variable {X : Ax} {k : Kn}

/-- What a call brings back that wasn't there. -/
def newK (hin : HL) : HL → List Nat
  | [] => []
  | (r, _) :: h => match lkH r hin with
    | some _ => newK hin h
    | none => r :: newK hin h
theorem newK_spec {hin : HL} : ∀ {ho : HL} {r : Nat} {o : AObj}, lkH r ho = some o → (∃ o', lkH r hin = some o') ∨ r ∈ newK hin ho
  | [], r, o, h => by simp [lkH] at h
  | (q, x) :: h, r, o, hr => by
    simp only [newK]
    by_cases e : q = r
    · subst e
      cases h1 : lkH q hin with
      | some o' => exact .inl ⟨o', rfl⟩
      | none => right; simp
    · have hb : Nat.beq q r = false := by
        cases hb : Nat.beq q r with
        | false => rfl
        | true => exact absurd (Nat.eq_of_beq_eq_true hb) e
      simp only [lkH, hb] at hr
      rcases newK_spec hr with h1 | h1
      · exact .inl h1
      · cases h2 : lkH q hin with
        | some _ => exact .inr h1
        | none => exact .inr (List.mem_cons_of_mem _ h1)

/-- A call in a drawing region: what it comes to is one thing. -/
structure CallD (E : Env) (f : FuncId) (args : List AV) (s : St) (K : AV → HL → HL → Prop) : Prop where
  ok : ∃ hin res ho, Ctr E f args hin (fun o => o = .ret res ho) ∧ (∀ r o, lkH r hin = some o → lkH r s.h = some o) ∧ K res hin ho

def wtOf (dst : Option Tmp) (x : AV) : Option (Nat × AV) := match dst with
  | some d => some (d, x)
  | none => none
def St.put (s : St) (st : Stp) : St := { f := st.putF s.f, h := st.wh ++ s.h }
def oneL {α : Type} : Option α → List α
  | some x => [x]
  | none => []
def rhL : Option (Nat × AObj) → List Nat
  | some (r, _) => [r]
  | none => []

/-- A step, its parts reckoned at once. -/
def stepV (dst : Option Tmp) (x : AV) (wh : HL) (ro nw : List Nat) (s : St) (K : Stp → St → Prop) : Prop := match s with
  | ⟨f, h⟩ => match dst with
    | some d => strictV x fun x => K ⟨some (d, x), wh, ro, nw⟩ ⟨(d, x) :: f, wh ++ h⟩
    | none => K ⟨none, wh, ro, nw⟩ ⟨f, wh ++ h⟩
theorem stepV_spec {dst : Option Tmp} {x : AV} {wh : HL} {ro nw : List Nat} {s : St} {K : Stp → St → Prop} (h : stepV dst x wh ro nw s K) : K ⟨wtOf dst x, wh, ro, nw⟩ (s.put ⟨wtOf dst x, wh, ro, nw⟩) := by
  unfold stepV at h
  cases dst with
  | none => exact h
  | some d => exact strictV_spec (K := fun x => K ⟨some (d, x), wh, ro, nw⟩ ⟨(d, x) :: s.f, wh ++ s.h⟩) h

def opD (E : Env) (tab : List (Nat × TI)) (k : Kn) (o : Oper) (s : St) (K : Stp → St → Prop) : Prop := match o.op with
  | .call { callee := .value f, args, argTypes := _ } => match calleeOf s f, args.toList.all (inN k.nt), inN k.nt f with
    | some (fid, caps), true, true => strictL (evL s args.toList ++ caps) fun vs => CallD E fid vs s (fun res hin ho => strictH (ho ++ killed hin) fun wh => stepV o.dst res wh (keysH hin) (newK hin ho) s K)
    | _, _, _ => False
  | op => withDst o.dst fun d => match opIn k.nt op, opR tab s d op with
    | true, some ⟨val, rh, wh, new, cond⟩ => condP cond (strictH (oneL wh) fun wh => stepV o.dst val wh (rhL rh) (oneL new) s K)
    | _, _ => False

def skipD (s : St) (dst : Option Tmp) (K : Stp → St → Prop) : Prop := stepV dst (.tup []) [] [] [] s K

def runD (E : Env) (tab : List (Nat × TI)) (k : Kn) (ops : List Oper) (K : List Stp → St → Prop) : List Oper → (List Stp → List Stp) → St → Prop
  | [], acc, s => K (acc []) s
  | o :: rest, acc, s => match dstIn k.nt o.dst, guardV ops s o.guard with
    | true, some (b, want) => match want with
      | true => ifB b (opD E tab k o s fun st s => runD E tab k ops K rest (fun l => acc (st :: l)) s) (skipD s o.dst fun st s => runD E tab k ops K rest (fun l => acc (st :: l)) s)
      | false => ifB b (skipD s o.dst fun st s => runD E tab k ops K rest (fun l => acc (st :: l)) s) (opD E tab k o s fun st s => runD E tab k ops K rest (fun l => acc (st :: l)) s)
    | _, _ => False

theorem evL_congr {s s' : St} {xs : List Operand} (h : ∀ t, Operand.tmp t ∈ xs → lk t s'.f = lk t s.f) : evL s' xs = evL s xs := by
  unfold evL
  refine List.map_congr_left fun x hx => ?_
  cases x with
  | tmp t => exact h t hx
  | _ => rfl
theorem calleeOf_congr {s s' : St} {f : Operand} (h : ∀ t, f = .tmp t → lk t s'.f = lk t s.f) : calleeOf s' f = calleeOf s f := by
  cases f with
  | tmp t => simp only [calleeOf]; rw [h t rfl]
  | _ => rfl
theorem guardV_congr {ops : List Oper} {s s' : St} {g : Option (Nat × Bool)} (h : ∀ t ∈ guardT ops g, lk t s'.f = lk t s.f) : guardV ops s' g = guardV ops s g := by
  cases g with
  | none => rfl
  | some p =>
    obtain ⟨j, want⟩ := p
    simp only [guardV]
    cases hj : nth ops j with
    | none => rfl
    | some o =>
      cases hd : o.dst with
      | none => simp [hd]
      | some d =>
        have := h d (by simp [guardT, hj, hd])
        simp only [hd, this]

theorem wtOf_put {c : Cx} {Im : Nat → Prop} {ρ : Nat → Option Loc} {s : St} {H : Nat → Option AObj} {a : Act} {w : World} {dst : Option Tmp} {v : Value} {x : AV} {wh : HL} {ro nw : List Nat} (S : Sim c Im ρ s.F H a w) (hn : c.nt = k.nt) (hd : dstIn k.nt dst = true) (hv : RA (hp w) Im ρ v x) (hH : H = fun r => lkH r (wh ++ s.h)) :
    Sim c Im ρ (fun t => lk t ((⟨wtOf dst x, wh, ro, nw⟩ : Stp).putF s.f)) (fun r => lkH r (wh ++ s.h)) (a.put dst v) w := by
  subst hH
  cases dst with
  | none => exact S
  | some d =>
    have hd : d < c.nt := by rw [hn]; simpa [dstIn] using hd
    have := S.put hd hv
    rw [← lk_cons] at this
    exact this

theorem wtOf_dst {dst : Option Tmp} {x : AV} {t : Nat} {v : AV} (h : wtOf dst x = some (t, v)) : dst = some t := by
  cases dst with
  | none => simp [wtOf] at h
  | some d => simp only [wtOf] at h; injection h with h; injection h with h1 h2; rw [h1]

theorem stepOk_skip {Q : APost} {ops : List Oper} {o : Oper} {s : St} (hall : ops.all (fun o => dstIn k.nt o.dst) = true) (hd : dstIn k.nt o.dst = true) {b want : Bool} (hg : guardV ops s o.guard = some (b, want)) (hb : (b == want) = false) :
    StepOk X k Q ops o s ⟨wtOf o.dst (.tup []), [], [], []⟩ := by
  refine ⟨fun t v h => wtOf_dst h, fun c Im ρ s' a w K ok hn ha S hr _ _ hK => ?_⟩
  have hg' : guardV ops s' o.guard = some (b, want) := by rw [guardV_congr fun t ht => hr t (by simp [readsT, ht]), hg]
  rw [guard_ok S hn hall hg', hb]
  exact hK Im ρ _ w (wtOf_put S hn hd (.tup #[] [] rfl (by simp)) rfl)

theorem guard_yes {c : Cx} {Im : Nat → Prop} {ρ : Nat → Option Loc} {ops : List Oper} {o : Oper} {s s' : St} {a : Act} {w : World} (S : Sim c Im ρ s'.F s'.H a w) (hn : c.nt = k.nt) (hall : ops.all (fun o => dstIn k.nt o.dst) = true)
    {b want : Bool} (hg : guardV ops s o.guard = some (b, want)) (hb : (b == want) = true) (hr : ∀ t ∈ readsT ops o, lk t s'.f = lk t s.f) : Region.wanted o (yielded ops.toArray a.tmps) = true := by
  have hg' : guardV ops s' o.guard = some (b, want) := by rw [guardV_congr fun t ht => hr t (by simp [readsT, ht]), hg]
  rw [guard_ok S hn hall hg', hb]

theorem stepOk_op {Q : APost} {ops : List Oper} {o : Oper} {s : St} {e : Eff} (hall : ops.all (fun o => dstIn k.nt o.dst) = true) (hd : dstIn k.nt o.dst = true) {b want : Bool} (hg : guardV ops s o.guard = some (b, want)) (hb : (b == want) = true)
    (hin : opIn k.nt o.op = true) (hr : opR X.tab s (dstOf o.dst) o.op = some e) (hc : AllL e.cond) : StepOk X k Q ops o s ⟨wtOf o.dst e.val, oneL e.wh, rhL e.rh, oneL e.new⟩ := by
  refine ⟨fun t v h => wtOf_dst h, fun c Im ρ s' a w K ok hn ha S hrd hro hnw hK => ?_⟩
  rw [guard_yes S hn hall hg hb hrd]
  simp only [if_true]
  obtain ⟨hok, hrh⟩ := opR_ok (E := X.E) (k := k) (ty := o.type) X.ok hin hr
  obtain ⟨v, w', hrun, Im', ρ', S', hra⟩ := hok c Im ρ s'.F s'.H a w o ok hn ha S rfl rfl (fun t ht => (hrd t (by simp [readsT, ht])).symm) (fun r x hx => by
    show lkH r s'.h = some x
    rw [hro r (by simp [rhL, hx]), hrh r x hx]) (fun r hx => hnw r (by simp [oneL, hx])) hc
  have hH : updO s'.H e.wh = fun r => lkH r (oneL e.wh ++ s'.h) := by
    cases e.wh with
    | none => rfl
    | some p => obtain ⟨r, ob⟩ := p; exact (lkH_cons r ob s'.h).symm
  have S2 := wtOf_put (ro := rhL e.rh) (nw := oneL e.new) (s := s') S' hn hd hra hH
  have := hK Im' ρ' _ _ S2
  unfold Oper.wp
  rcases hrun with hrun | ⟨hrun, rfl⟩
  · rw [hrun]; exact this
  · rw [hrun]; exact this

theorem stepOk_call {Q : APost} {ops : List Oper} {o : Oper} {s : St} (hall : ops.all (fun o => dstIn k.nt o.dst) = true) (hd : dstIn k.nt o.dst = true) {b want : Bool} (hg : guardV ops s o.guard = some (b, want)) (hb : (b == want) = true)
    {f : Operand} {args : Array Operand} {ats : Array TypeId} (hop : o.op = .call { callee := .value f, args, argTypes := ats }) {fid : FuncId} {caps : List AV} (hcal : calleeOf s f = some (fid, caps)) (hargs : args.toList.all (inN k.nt) = true) (hf : inN k.nt f = true)
    {hin ho : HL} {res : AV} (hctr : Ctr X.E fid (evL s args.toList ++ caps) hin fun o => o = .ret res ho) (hhin : ∀ r o, lkH r hin = some o → lkH r s.h = some o) :
    StepOk X k Q ops o s ⟨wtOf o.dst res, ho ++ killed hin, keysH hin, newK hin ho⟩ := by
  refine ⟨fun t v h => wtOf_dst h, fun c Im ρ s' a w K ok hn ha S hrd hro hnw hK => ?_⟩
  rw [guard_yes S hn hall hg hb hrd]
  simp only [if_true]
  unfold Oper.wp
  have hops : ∀ t, (.tmp t = f ∨ .tmp t ∈ args.toList) → t ∈ readsT ops o := fun t h => by
    refine List.mem_append.2 (.inl (List.mem_filterMap.2 ⟨.tmp t, ?_, rfl⟩))
    rw [hop]
    rcases h with h | h
    · simp [Op.operands, Call.operands, h]
    · have : Operand.tmp t ∈ args := by simpa using h
      simp [Op.operands, Call.operands, this]
  have hcal' : calleeOf s' f = some (fid, caps) := by rw [calleeOf_congr fun t ht => hrd t (hops t (.inl ht.symm)), hcal]
  have hev' : evL s' args.toList = evL s args.toList := evL_congr fun t ht => hrd t (hops t (.inr ht))
  have hhin' : ∀ r o, lkH r hin = some o → lkH r s'.h = some o := fun r o h => by
    rw [hro r (mem_keysH.2 (lkH_mem h))]; exact hhin r o h
  have hcv : ∃ cvs : Array Value, (resolve a.eval { callee := .value f, args, argTypes := ats } o.type).run X.E.P w = .ok { target := .fn (.func fid) cvs, args := args.map a.eval } w ∧ cvs.size = caps.length ∧ ∀ (i : Nat) (v : Value) (x : AV), cvs[i]? = some v → caps[i]? = some x → RA (hp w) Im ρ v x := by
    unfold calleeOf at hcal'
    split at hcal'
    · rename_i f0
      injection hcal' with hcal'; injection hcal' with h1 h2; subst h1; subst h2
      exact ⟨#[], by simp [resolve, Deferred.ofValue, Act.eval], rfl, by simp⟩
    · rename_i t
      split at hcal'
      · rename_i f0 caps0 hl
        injection hcal' with hcal'; injection hcal' with h1 h2; subst h1; subst h2
        have ht : t < c.nt := by rw [hn]; simpa [inN] using hf
        have hra := S.fr t ht
        simp only [St.F] at hra
        rw [hl] at hra
        have hev : a.eval (.tmp t) = a.tmps.getD t undef := rfl
        generalize hv : a.tmps.getD t undef = v at hra
        cases hra with
        | clo fn fs cs lf lc hfs hcs hrf hrc =>
          have hfs0 : fs = #[] := Array.eq_empty_of_size_eq_zero (by simpa using hfs)
          subst hfs0
          exact ⟨cs, by simp [resolve, Deferred.ofValue, hev, hv], hcs, hrc⟩
      · simp at hcal'
    · simp at hcal'
  obtain ⟨cvs, hres, hcs, hcr⟩ := hcv
  have hrun : (execOp a.eval o).run X.E.P w = .ok (.enter fid (args.map a.eval ++ cvs)) w := by
    simp [execOp, hop, hres, invoke, run_callFunc hctr.1]
  rw [hrun]
  simp only [Oper.upon]
  have hcall := hctr.2 w Im ρ (args.map a.eval ++ cvs) (S.G ok) (fun b hb => (S.imn b hb).1) (fun b hb => S.im0 b (ok.gl b hb)) (by simp [evL, hcs]) (fun i v x h1 h2 => by
    by_cases hi : i < args.size
    · rw [Array.getElem?_append_left (by simpa using hi)] at h1
      rw [List.getElem?_append_left (by simpa [evL] using hi), ← hev'] at h2
      exact evL_ok S hn hargs i v x (by simpa using h1) h2
    · rw [Array.getElem?_append_right (by simpa using hi)] at h1
      rw [List.getElem?_append_right (by simp [evL]; omega)] at h2
      exact hcr (i - args.size) v x (by simpa using h1) (by simpa [evL] using h2)) (S.hrel hhin')
  refine hcall.mono fun e w' he => ?_
  cases e with
  | returned v =>
    obtain ⟨res', ho', Im', ρ', hpost, hra, hcl, haft⟩ := he
    injection hpost with h1 h2; subst h1; subst h2
    have S' := S.call hhin' haft (fun r o hr => (newK_spec hr).imp id fun h => hnw r h)
    have hH : (fun r => lkH r (s'.back hin ho')) = fun r => lkH r ((ho' ++ killed hin) ++ s'.h) := by funext r; simp [St.back]
    have S2 := wtOf_put (dst := o.dst) (v := v) (x := res') (ro := keysH hin) (nw := newK hin ho') (s := s') S' hn hd (hcl.back (ρ := ρ) (hin := hin) hra) hH
    exact hK _ _ _ _ S2
  | panicked ch =>
    obtain ⟨ho', Im', ρ', hpost, haft⟩ := he
    exact absurd hpost (by simp)
  | outgrown => exact he.elim

theorem opD_ok {Q : APost} {ops : List Oper} {o : Oper} {s : St} {K : Stp → St → Prop} (hall : ops.all (fun o => dstIn k.nt o.dst) = true) (hd : dstIn k.nt o.dst = true) {b want : Bool} (hg : guardV ops s o.guard = some (b, want)) (hb : (b == want) = true)
    (h : opD X.E X.tab k o s K) : ∃ st, StepOk X k Q ops o s st ∧ K st (s.put st) := by
  unfold opD at h
  split at h
  · rename_i f args ats hop
    split at h
    · rename_i fid caps hcal hargs hf
      obtain ⟨hin, res, ho, hctr, hhin, hK⟩ := (strictL_spec h).ok
      exact ⟨_, stepOk_call hall hd hg hb hop hcal hargs hf hctr hhin, stepV_spec (strictH_spec hK)⟩
    · exact h.elim
  · have h := withDst_spec h
    split at h
    · rename_i val rh wh new cond hin hr
      obtain ⟨hc, hK⟩ := condP_spec h
      exact ⟨_, stepOk_op hall hd hg hb hin hr hc, stepV_spec (strictH_spec hK)⟩
    · exact h.elim

theorem runD_ok {Q : APost} {ops : List Oper} {K : List Stp → St → Prop} (hall : ops.all (fun o => dstIn k.nt o.dst) = true) : ∀ (l : List Oper) {acc : List Stp → List Stp} {s : St}, runD X.E X.tab k ops K l acc s →
    ∃ tr s', Trace X k Q ops l s tr s' ∧ K (acc tr) s'
  | [], acc, s, h => ⟨[], s, .nil s, h⟩
  | o :: rest, acc, s, h => by
    unfold runD at h
    split at h
    · rename_i b want hd hg
      have hyes : (b == want) = true → (opD X.E X.tab k o s fun st s => runD X.E X.tab k ops K rest (fun l => acc (st :: l)) s) → ∃ tr s', Trace X k Q ops (o :: rest) s tr s' ∧ K (acc tr) s' := fun hb h => by
        obtain ⟨st, h1, h2⟩ := opD_ok (Q := Q) hall hd hg hb h
        obtain ⟨tr, s', h3, h4⟩ := runD_ok (Q := Q) hall rest h2
        exact ⟨st :: tr, s', .cons h1 h3, h4⟩
      have hno : (b == want) = false → (skipD s o.dst fun st s => runD X.E X.tab k ops K rest (fun l => acc (st :: l)) s) → ∃ tr s', Trace X k Q ops (o :: rest) s tr s' ∧ K (acc tr) s' := fun hb h => by
        obtain ⟨tr, s', h3, h4⟩ := runD_ok (Q := Q) hall rest (stepV_spec h)
        exact ⟨_, s', .cons (stepOk_skip hall hd hg hb) h3, h4⟩
      cases want with
      | true =>
        cases b with
        | true => exact hyes rfl h
        | false => exact hno rfl h
      | false =>
        cases b with
        | true => exact hno rfl h
        | false => exact hyes rfl h
    · exact h.elim

def dynP (b : Bool) (p : Prop) : Prop := match b with
  | true => p
  | false => False
theorem dynP_spec {b : Bool} {p : Prop} (h : dynP b p) : b = true ∧ p := by
  cases b with
  | true => exact ⟨rfl, h⟩
  | false => exact h.elim

/-- A drawing region, met by one walk in the text's order. -/
theorem DrawP.intro {id : Nat} {ops : Array Oper} {Q : APost} {s : St} (bm : List Nat) (hbm : bms ops.toList = bm) (hs : (statOk ops.toList && ops.toList.all (fun o => dstIn k.nt o.dst)) = true)
    (h : runD X.E X.tab k ops.toList (fun tr s' => dynP (dynGo bm k.anc s tr tr 0) (Q .normal s')) ops.toList (fun l => l) s) : DrawP X.E k id ops Q s := by
  simp only [Bool.and_eq_true] at hs
  obtain ⟨tr, s', ht, hK⟩ := runD_ok (Q := Q) hs.2 ops.toList h
  obtain ⟨hd, hq⟩ := dynP_spec hK
  exact ⟨AWp.draw ht hs.1 (by rw [hbm]; exact hd) hq⟩

end Go.Ax
