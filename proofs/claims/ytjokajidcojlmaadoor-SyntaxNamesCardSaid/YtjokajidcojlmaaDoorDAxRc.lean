import Derived.Test.YtjokajidcojlmaaDoorDAxM
import Derived.Recover

/- Abstract execution, part Rc: a function that defers a function which recovers. -/
namespace Go.Ax

variable {X : Ax} {k : Kn}

/-- A contract of a deferred function: how the deferring call stands ahead of it and behind it. -/
def CtrD (E : Env) (g : FuncId) (args : List AV) (hin : HL) (u u' : FrameMode) (post : AOut → Prop) : Prop :=
  Bodied E.P g ∧ ∀ (w : World) (Im : Nat → Prop) (ρ : Nat → Option Loc) (vs : Array Value), E.G w → (∀ b, Im b → b < w.heap.size) → (∀ b, b < E.ng → Im b) → vs.size = args.length →
    (∀ (i : Nat) (v : Value) (x : AV), vs[i]? = some v → args[i]? = some x → RA (hp w) Im ρ v x) → HRel w Im ρ hin (fun _ => True) →
    CallsD E.P g vs u w fun e m w' => m = u' ∧ Ends post w Im ρ hin e w'

/-- How a frame stands when its deferred function has asked. -/
def asked (u : FrameMode) : Option (Value × FrameMode) := match u with
  | .panicking ({ v, recovered := false, goexit := false } :: older) => some (v, .panicking ({ v, recovered := true } :: older))
  | _ => none

theorem recoverD_asked {u : FrameMode} (c0 : Frame) (cs : List Frame) (h : c0.mode = u) : recoverD (c0 :: cs) = match asked u with
    | some (v, u') => some (v, { c0 with mode := u' } :: cs)
    | none => none := by
  subst h
  simp only [recoverD, asked]
  generalize c0.mode = m
  split <;> simp_all

/-- A deferred function that asks first. -/
theorem CtrD.body {g : FuncId} {fn : Func} {args : List AV} {hin : HL} {post : AOut → Prop} {u u' : FrameMode} (v : Value) (x : AV) (idr : Nat) (o0 o1 : Oper) (rest : Code) (nt : Nat) (anc : List Nat) (rs : List ResultVar) (d0 d1 : Nat)
    (hf : X.E.P.funcs[g]? = some fn) (hb : fn.body = some (.seq (.region idr #[o0, o1] false) rest)) (hnt : fn.ntmps = nt) (hanc : hin.map (·.1) = anc) (hrs : fn.results.toList = rs) (hname : (fn.name == "runtime.NumGoroutine") = false) (hargs : Nat.ble args.length nt = true) (hres : rs.all (resIn nt) = true) (htop : memN TOP anc = false)
    (e0 : ∃ ats, o0.op = .call { callee := .builtin .recover, args := #[], argTypes := ats }) (e1 : o1.op = .assign (.tmp d0)) (g0 : o0.guard = none) (g1 : o1.guard = none) (k0 : o0.dst = some d0) (k1 : o1.dst = some d1) (l0 : Nat.blt d0 nt = true) (l1 : Nat.blt d1 nt = true)
    (hu : (asked u = none ∧ v = .nilIface ∧ u' = u) ∨ asked u = some (v, u')) (hx : ∀ h Im ρ, RA h Im ρ v x)
    (h : wpc X.E X.tab { nt, anc } rest (retP X.tab rs post) { f := (d1, x) :: (d0, x) :: entry 0 args, h := hin }) : CtrD X.E g args hin u u' post := by
  subst hnt; subst hanc; subst hrs
  refine ⟨⟨fn, hf, by rw [hb]; rfl, hname⟩, fun w Im ρ vs hG hIm hgl hsz hra hrel => ?_⟩
  obtain ⟨ok, S⟩ := entry_ok (nt := fn.ntmps) (Nat.le_of_ble_eq_true hargs) hG hIm hgl hsz hra hrel
  replace S := S.noMark rfl
  have htop' : TOP ∉ hin.map (·.1) := memN_spec htop
  have ok2 : ({ cxOf w Im ρ fn.ntmps hin [] with marks := false } : Cx).Ok X.E := ⟨ok.im, ok.gl, ok.G, fun h => absurd h htop'⟩
  refine callsD_of_wpS hf hb fun c0 cs hc0 => wpS_seq (wpS_region ?_)
  obtain ⟨ats, e0⟩ := e0
  have hd0 : d0 < (cxOf w Im ρ fn.ntmps hin []).nt := by simpa using l0
  have hd1 : d1 < (cxOf w Im ρ fn.ntmps hin []).nt := by simpa using l1
  let a0 : Act := { tmps := vs ++ Array.replicate (fn.ntmps - vs.size) undef, defers := [] }
  have S1 := S.put (v := v) (x := x) hd0 (hx _ _ _)
  have S2 := S1.put (v := v) (x := x) hd1 (hx _ _ _)
  have hrun0 : (execOp (Act.eval a0) o0).run X.E.P w = .ok .recover w := by
    simp [execOp, e0, resolve, invoke, builtin]
  have hrun1 : (execOp (Act.eval (a0.put (some d0) v)) o1).run X.E.P w = .ok (.value v) w := by
    have : (a0.put (some d0) v).eval (.tmp d0) = v := by
      show (a0.put (some d0) v).tmps.getD d0 undef = v
      rw [getD_set a0 d0 d0 v (by rw [S.nt]; exact hd0)]; simp
    simp [execOp, e1, this]
  have hw : ∀ (o : Oper) y, o.guard = none → Region.wanted o y = true := fun o y hg => by simp [Region.wanted, hg]
  have hcs : ∃ cs', (match recoverD (c0 :: cs) with | some (v, cs') => (v, cs') | none => (Value.nilIface, c0 :: cs)) = (v, cs') ∧ cs' = { c0 with mode := u' } :: cs := by
    rw [recoverD_asked c0 cs hc0]
    rcases hu with ⟨h1, h2, h3⟩ | h1
    · rw [h1]; subst h2; subst h3; subst hc0; exact ⟨_, rfl, rfl⟩
    · rw [h1]; exact ⟨_, rfl, rfl⟩
  have fin : rest.wp X.E.P (fun e a' w' => bodyPostS X.E.P fn c0 cs (fun e m w' => m = u' ∧ Ends post w Im ρ hin e w') e a' ({ c0 with mode := u' } :: cs) w') ((a0.put (some d0) v).put (some d1) v) w := by
    refine wp_mono (wpIn_wide.1 ((wpc_ok h) _ ok2 rfl rfl Im ρ _ w (S2.weak (fun t => .inr ?_) fun r o h => h))) fun e a' w' ⟨hne, Im', ρ', s', S', hQ⟩ => ?_
    · simp only [St.F]
      rw [← lk_cons, ← lk_cons]
    · cases e with
      | normal => obtain ⟨v', h1, h2⟩ := RetP.ends ok2 rfl rfl rfl rfl (fun _ h => h) rfl hres S' hQ; exact ⟨S'.defs.only rfl, u', rfl, v', h1, rfl, h2⟩
      | ret => obtain ⟨v', h1, h2⟩ := RetP.ends ok2 rfl rfl rfl rfl (fun _ h => h) rfl hres S' hQ; exact ⟨S'.defs.only rfl, u', rfl, v', h1, rfl, h2⟩
      | panic ch =>
        obtain ⟨ho, h1, h2, h3⟩ := hQ.ok
        exact ⟨S'.defs.only rfl, u', rfl, rfl, ho, _, _, h3, S'.leave rfl rfl rfl (fun _ h => h) rfl h1 h2⟩
      | exit id => exact hQ.elim
      | goto l => exact hQ.elim
      | outgrown => exact absurd rfl hne
  show wpOpsS X.E.P #[o0, o1] _ [0, 1] a0 (c0 :: cs) w
  simp only [wpOpsS, List.getElem?_toArray, List.getElem?_cons_zero, List.getElem?_cons_succ, hw o0 _ g0, hw o1 _ g1, if_true, hrun0]
  obtain ⟨cs', h1, h2⟩ := hcs
  subst h2
  have two : ∀ cs2, cs2 = ({ c0 with mode := u' } : Frame) :: cs → o1.upon X.E.P (a0.put (some d0) v) (fun a' w' => Exit.thenS (rest.wpS X.E.P (bodyPostS X.E.P fn c0 cs (fun e m w' => m = u' ∧ Ends post w Im ρ hin e w'))) (bodyPostS X.E.P fn c0 cs (fun e m w' => m = u' ∧ Ends post w Im ρ hin e w')) .normal a' cs2 w')
      (fun e a' w' => Exit.thenS (rest.wpS X.E.P (bodyPostS X.E.P fn c0 cs (fun e m w' => m = u' ∧ Ends post w Im ρ hin e w'))) (bodyPostS X.E.P fn c0 cs (fun e m w' => m = u' ∧ Ends post w Im ρ hin e w')) e a' cs2 w') (.ok (.value v) w) := fun cs2 e => by
    subst e
    rw [Oper.upon_value, k1]
    exact wpS_of_wp fin
  cases hr : recoverD (c0 :: cs) with
  | none =>
    rw [hr] at h1
    injection h1 with h1 h2
    subst h1
    simp only [k0, hrun1]
    exact two _ h2
  | some p =>
    obtain ⟨v1, cs1⟩ := p
    rw [hr] at h1
    injection h1 with h1 h2
    subst h1
    simp only [k0, hrun1]
    exact two _ h2

/-! ### The function that defers -/
def chainP (E : Env) (tab : List (Nat × TI)) (k : Kn) (K : St → Prop) (Q : APost) : List Code → St → Prop
  | [], s => K s
  | x :: r, s => wpc E tab k x (thenP (fun s => chainP E tab k K Q r s) Q) s
def seqs (tail : Code) : List Code → Code
  | [] => tail
  | x :: r => .seq x (seqs tail r)

theorem fence_wide {c : Cx} (h : c.rnd = none) : c.fence = Fence.wide := by simp [Cx.fence, Fence.wide, h]
theorem chain_wp {c : Cx} (hr : c.rnd = none) (ok : c.Ok X.E) (hn : c.nt = k.nt) (ha : c.anc = k.anc) {K : St → Prop} {Q : APost} {tail : Code} {Z : Exit → Act → World → Prop} (hK : ∀ s Im ρ a w, K s → Sim c Im ρ s.F s.H a w → tail.wp X.E.P Z a w) (hZ : ∀ e a w, e ≠ .normal → Lift c Q e a w → Z e a w) : ∀ (A : List Code) {s : St} {Im : Nat → Prop} {ρ : Nat → Option Loc} {a : Act} {w : World},
    chainP X.E X.tab k K Q A s → Sim c Im ρ s.F s.H a w → (seqs tail A).wp X.E.P Z a w
  | [], s, Im, ρ, a, w, h, S => hK s Im ρ a w h S
  | x :: r, s, Im, ρ, a, w, h, S => wp_seq (wp_mono (wpIn_wide.1 (fence_wide hr ▸ wpc_ok h c ok hn ha Im ρ a w S)) fun e a w ⟨h1, Im, ρ, s, S, hQ⟩ => by
    cases e with
    | normal => exact chain_wp hr ok hn ha hK hZ r hQ S
    | outgrown => exact absurd rfl h1
    | exit id => exact hZ _ _ _ (by simp) ⟨h1, Im, ρ, s, S, hQ⟩
    | goto l => exact hZ _ _ _ (by simp) ⟨h1, Im, ρ, s, S, hQ⟩
    | ret => exact hZ _ _ _ (by simp) ⟨h1, Im, ρ, s, S, hQ⟩
    | panic ch => exact hZ _ _ _ (by simp) ⟨h1, Im, ρ, s, S, hQ⟩)

/-- Behind a body with one deferred function. -/
structure DefP (E : Env) (tab : List (Nat × TI)) (rs : List ResultVar) (post : AOut → Prop) (g : FuncId) (caps : List AV) (u : FrameMode) (s : St) : Prop where
  ok : ∃ hin ho u', CtrD E g caps hin u u' (fun o => o = .ret (.tup []) ho) ∧ Go.settle u' = .returning ∧ (∀ r o, lkH r hin = some o → lkH r s.h = some o) ∧ (∀ r o, lkH r ho = some o → ∃ o', lkH r hin = some o') ∧ RetP tab rs post { f := s.f, h := s.back hin ho }

def defPost (E : Env) (tab : List (Nat × TI)) (rs : List ResultVar) (post : AOut → Prop) (g : FuncId) (caps : List AV) : APost
  | .ret, s | .normal, s => DefP E tab rs post g caps .returning s
  | .panic ch, s => DefP E tab rs post g caps (.panicking ch) s
  | _, _ => False

/-- What stands behind the deferring: two variables are captured. -/
def deferK (E : Env) (tab : List (Nat × TI)) (k : Kn) (rs : List ResultVar) (post : AOut → Prop) (g : FuncId) (p q t : Nat) (B : Code) (s : St) : Prop := match lk p s.f, lk q s.f, lkH p s.h, lkH q s.h, Nat.blt p k.nt, Nat.blt q k.nt, Nat.blt t k.nt, memN p (TOP :: k.anc), memN q (TOP :: k.anc) with
  | .ptr p' 0, .ptr q' 0, some _, some _, true, true, true, false, false => match Nat.beq p' p, Nat.beq q' q with
    | true, true => wpc E tab { nt := k.nt, anc := p :: q :: k.anc } B (defPost E tab rs post g [.ptr p 0, .ptr q 0]) { f := (t, .junk) :: s.f, h := s.h }
    | _, _ => False
  | _, _, _, _, _, _, _, _, _ => False

theorem Ctr.recov {f : FuncId} {fn : Func} {args : List AV} {hin : HL} {post : AOut → Prop} (A : List Code) (idr : Nat) (o0 o1 : Oper) (B : Code) (nt : Nat) (anc : List Nat) (rs : List ResultVar) (g : FuncId) (p q t : Nat)
    (hf : X.E.P.funcs[f]? = some fn) (hb : fn.body = some (seqs (.seq (.region idr #[o0, o1] false) B) A)) (hnt : fn.ntmps = nt) (hanc : hin.map (·.1) = anc) (hrs : fn.results.toList = rs) (hname : (fn.name == "runtime.NumGoroutine") = false) (hargs : Nat.ble args.length nt = true) (hres : rs.all (resIn nt) = true) (htop : memN TOP anc = false)
    (e0 : o0.op = .makeFunc (.func g) #[] #[.tmp p, .tmp q]) (e1 : ∃ ats, o1.op = .defer { callee := .value (.tmp t), args := #[], argTypes := ats }) (g0 : o0.guard = none) (g1 : o1.guard = none) (k0 : o0.dst = some t) (k1 : o1.dst = none)
    (h : chainP X.E X.tab { nt, anc } (deferK X.E X.tab { nt, anc } rs post g p q t B) (retP X.tab rs post) A { f := entry 0 args, h := hin }) : Ctr X.E f args hin post := by
  subst hnt; subst hanc; subst hrs
  refine ⟨⟨fn, hf, by rw [hb]; cases A <;> rfl, hname⟩, fun w Im ρ vs hG hIm hgl hsz hra hrel => ?_⟩
  obtain ⟨ok, S⟩ := entry_ok (nt := fn.ntmps) (Nat.le_of_ble_eq_true hargs) hG hIm hgl hsz hra hrel
  replace S := S.noMark rfl
  have htop' : TOP ∉ hin.map (·.1) := memN_spec htop
  have ok2 : ({ cxOf w Im ρ fn.ntmps hin [] with marks := false } : Cx).Ok X.E := ⟨ok.im, ok.gl, ok.G, fun h => absurd h htop'⟩
  refine calls_of_wp_defers hf hb ?_
  refine chain_wp rfl ok2 rfl rfl (fun s Im1 ρ1 a1 w1 hk S1 => ?_) (fun e a' w' hne ⟨hne2, Im', ρ', s', S', hQ⟩ => ?_) A h S
  · -- the deferring
    unfold deferK at hk
    split at hk
    · rename_i p' q' op oq ep eq hop hoq lp lq lt mp0 mq0
      split at hk
      · rename_i b1 b2
        have := Nat.eq_of_beq_eq_true b1; subst this
        have := Nat.eq_of_beq_eq_true b2; subst this
        obtain ⟨ats, e1⟩ := e1
        have hlt : ∀ {n : Nat}, Nat.blt n fn.ntmps = true → n < (cxOf w Im ρ fn.ntmps hin []).nt := fun h => by simpa using h
        -- the values that are captured
        have hvp := S1.fr p' (hlt lp)
        have hvq := S1.fr q' (hlt lq)
        simp only [St.F] at hvp hvq
        rw [ep] at hvp
        rw [eq] at hvq
        generalize evp : a1.tmps.getD p' undef = vp at hvp
        generalize evq : a1.tmps.getD q' undef = vq at hvq
        let d : Deferred := { target := .fn (.func g) #[vp, vq], args := #[] }
        have hev : ∀ n, a1.eval (.tmp n) = a1.tmps.getD n undef := fun _ => rfl
        have hrun0 : (execOp a1.eval o0).run X.E.P w1 = .ok (.value (.func (.func g) #[] #[vp, vq])) w1 := by
          simp [execOp, e0, Instr.makeFunc, hev, evp, evq]
        let a2 : Act := a1.put (some t) (.func (.func g) #[] #[vp, vq])
        have hev2 : a2.eval (.tmp t) = .func (.func g) #[] #[vp, vq] := by
          show (a1.put (some t) (.func (.func g) #[] #[vp, vq])).tmps.getD t undef = _
          rw [getD_set a1 t t _ (by rw [S1.nt]; exact hlt lt)]; simp
        have hrun1 : (execOp a2.eval o1).run X.E.P w1 = .ok (.defer d) w1 := by
          simp [execOp, e1, resolve, Deferred.ofValue, hev2, d]
        let a3 : Act := { a2 with defers := d :: a2.defers }
        -- the context behind it
        let c' : Cx := { cxOf w Im ρ fn.ntmps hin [d] with marks := false, anc := p' :: q' :: hin.map (·.1), ρ0 := fun r => if r ∈ hin.map (·.1) then ρ r else ρ1 r }
        have ok' : c'.Ok X.E := ⟨ok.im, ok.gl, ok.G, fun h => by
          rcases List.mem_cons.1 h with h | h
          · exact (memN_spec mp0 (List.mem_cons.2 (.inl h.symm))).elim
          · rcases List.mem_cons.1 h with h | h
            · exact (memN_spec mq0 (List.mem_cons.2 (.inl h.symm))).elim
            · exact absurd h htop'⟩
        have S2 := S1.put (v := .func (.func g) #[] #[vp, vq]) (x := .junk) (hlt lt) (.junk _)
        have S3 : Sim c' Im1 ρ1 (St.F { f := (t, .junk) :: s.f, h := s.h }) (St.H { f := (t, .junk) :: s.f, h := s.h }) a3 w1 := by
          refine { defs := by { show Marks _ _ _ _ (d :: a2.defers) [d]; rw [show a2.defers = [] from S2.defs.only rfl]; exact .none }, nt := S2.nt, fr := fun n hn => ?_, obj := S2.obj, dis := S2.dis, imn := S2.imn, im0 := S2.im0, os := S2.os, tape := S2.tape, output := S2.output, size := S2.size, kept := S2.kept, anc := fun r hr l' hl' => ?_ }
          · have := S2.fr n hn
            simp only [St.F] at this ⊢
            rw [← lk_cons] at this
            exact this
          · show ∃ l, (if r ∈ hin.map (·.1) then ρ r else ρ1 r) = some l ∧ LocStep l l'
            by_cases hm : r ∈ hin.map (·.1)
            · rw [if_pos hm]; exact S2.anc r hm l' hl'
            · rw [if_neg hm]; exact ⟨l', hl', .inl rfl⟩
        -- the two operations
        refine wp_seq (wp_region ?_)
        show wpOps X.E.P #[o0, o1] _ [0, 1] a1 w1
        have hw : ∀ (o : Oper) y, o.guard = none → Region.wanted o y = true := fun o y hg => by simp [Region.wanted, hg]
        simp only [wpOps, List.getElem?_toArray, List.getElem?_cons_zero, List.getElem?_cons_succ, hw o0 _ g0, hw o1 _ g1, if_true]
        refine .inl ?_
        unfold Oper.wp
        rw [hrun0, Oper.upon_value, k0]
        refine .inl ?_
        rw [hrun1, Oper.upon_defer, k1]
        refine wp_mono (wpIn_wide.1 (wpc_ok hk c' ok' rfl rfl Im1 ρ1 _ w1 S3)) fun e a' w' ⟨hne, Im', ρ', s', S', hQ⟩ => ?_
        -- behind the body
        have leave : ∀ u, u ≠ .run → DefP X.E X.tab fn.results.toList post g [.ptr p' 0, .ptr q' 0] u s' → Leaves X.E.P fn a'.tmps (Ends post w Im ρ hin) a'.defers u w' := fun u hu hD => by
          obtain ⟨hi, ho, u', hctr, hset, hhi, hho, hR⟩ := hD.ok
          rw [show a'.defers = [d] from S'.defs.only rfl]
          have hptr : ∀ {v : Value} {r : Nat}, (r = p' ∨ r = q') → RA (hp w1) Im1 ρ1 v (.ptr r 0) → RA (hp w') Im' ρ' v (.ptr r 0) := fun {v r} hr H => by
            cases H with
            | ptr _ _ _ h1 h2 =>
              refine .ptr _ _ _ h1 fun l' hl' => ?_
              obtain ⟨l, h3, h4⟩ := S'.anc r (by rcases hr with rfl | rfl <;> simp [c']) l' hl'
              have hm : r ∉ hin.map (·.1) := by
                rcases hr with rfl | rfl
                · exact fun h => memN_spec mp0 (List.mem_cons_of_mem _ h)
                · exact fun h => memN_spec mq0 (List.mem_cons_of_mem _ h)
              have h3 : (if r ∈ hin.map (·.1) then ρ r else ρ1 r) = some l := h3
              rw [if_neg hm] at h3
              obtain ⟨h5, b, h6, h7⟩ := h2 l h3
              rcases h4 with rfl | ⟨h8, _⟩ | ⟨_, m, rfl⟩
              · exact ⟨h5, b, h6, h7⟩
              · rw [h5] at h8; exact absurd h8 (by simp)
              · exact ⟨h5, b, h6, h7⟩
          refine leaves_cons hu (f := g) (args := #[vp, vq]) (by simp [invoke, run_callFunc hctr.1]) ?_
          refine (hctr.2 w' Im' ρ' #[vp, vq] (S'.G ok') (fun b hb => (S'.imn b hb).1) (fun b hb => S'.im0 b (ok'.gl b hb)) rfl (fun i v x h1 h2 => ?_) (S'.hrel hhi)).mono fun e m w2 ⟨hm, he⟩ => ?_
          · match i with
            | 0 => simp at h1 h2; subst h1; subst h2; exact hptr (.inl rfl) hvp
            | 1 => simp at h1 h2; subst h1; subst h2; exact hptr (.inr rfl) hvq
            | n + 2 => simp at h1
          · subst hm
            cases e with
            | returned v =>
              obtain ⟨res, ho', Im2, ρ2, hpost, hra2, hcl, haft⟩ := he
              injection hpost with h1 h2; subst h1; subst h2
              have S4 := S'.call hhi haft fun r o hr => .inl (hho r o hr)
              have S5 : Sim { cxOf w Im ρ fn.ntmps hin [d] with marks := false } Im2 (backρ ρ' ρ2 hi ho') s'.F (fun r => lkH r (s'.back hi ho')) a' w2 := by
                refine { defs := S4.defs, nt := S4.nt, fr := S4.fr, obj := S4.obj, dis := S4.dis, imn := S4.imn, im0 := S4.im0, os := S4.os, tape := S4.tape, output := S4.output, size := S4.size, kept := S4.kept, anc := fun r hr l' hl' => ?_ }
                obtain ⟨l, h3, h4⟩ := S4.anc r (by simp only [c', List.mem_cons]; exact .inr (.inr hr)) l' hl'
                have h3 : (if r ∈ hin.map (·.1) then ρ r else ρ1 r) = some l := h3
                rw [if_pos hr] at h3
                exact ⟨l, h3, h4⟩
              show Leaves X.E.P fn a'.tmps (Ends post w Im ρ hin) [] (Go.settle m) w2
              rw [hset]
              exact RetP.ends (c := { cxOf w Im ρ fn.ntmps hin [d] with marks := false }) ⟨ok.im, ok.gl, ok.G, fun h => absurd h htop'⟩ rfl rfl rfl rfl (fun _ h => h) rfl hres S5 hR
            | panicked ch =>
              obtain ⟨_, _, _, hpost, _⟩ := he
              exact absurd hpost (by simp)
            | outgrown => exact he.elim
        cases e with
        | normal => exact leave .returning (by simp) hQ
        | ret => exact leave .returning (by simp) hQ
        | panic ch => exact leave (.panicking ch) (by simp) hQ
        | exit id => exact hQ.elim
        | goto l => exact hQ.elim
        | outgrown => exact absurd rfl hne
      · exact hk.elim
    · exact hk.elim
  · -- an end ahead of the deferring
    cases e with
    | normal => exact absurd rfl hne
    | ret =>
      show Leaves X.E.P fn a'.tmps _ a'.defers .returning w'
      rw [show a'.defers = [] from S'.defs.only rfl]
      exact RetP.ends ok2 rfl rfl rfl rfl (fun _ h => h) rfl hres S' hQ
    | panic ch =>
      obtain ⟨ho, h1, h2, h3⟩ := hQ.ok
      show Leaves X.E.P fn a'.tmps _ a'.defers (.panicking ch) w'
      rw [show a'.defers = [] from S'.defs.only rfl]
      exact ⟨ho, _, _, h3, S'.leave rfl rfl rfl (fun _ h => h) rfl h1 h2⟩
    | exit id => exact hQ.elim
    | goto l => exact hQ.elim
    | outgrown => exact absurd rfl hne2

end Go.Ax
