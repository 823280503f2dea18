/- What the card of this claim stands on, or the card itself: for every input, as the given row says. -/
import Derived.Recover
import Derived.Test.YtdobclfcondfcaaGreatDoorBA05
import Derived.Test.YtdobclfcondfcaaGreatDoorBA06

namespace Go.Ax
variable {X : Ax} {k : Kn}
def CtrD (E : Env) (g : FuncId) (args : List AV) (hin : HL) (u u' : FrameMode) (post : AOut → Prop) : Prop :=
  Bodied E.P g ∧ ∀ (w : World) (Im : Nat → Prop) (ρ : Nat → Option Loc) (vs : Array Value), E.G w → (∀ b, Im b → b < w.heap.size) → (∀ b, b < E.ng → Im b) → vs.size = args.length →
    (∀ (i : Nat) (v : Value) (x : AV), vs[i]? = some v → args[i]? = some x → RA (hp w) Im ρ v x) → HRel w Im ρ hin (fun _ => True) →
    CallsD E.P g vs u w fun e m w' => m = u' ∧ Ends post w Im ρ hin e w'
def asked (u : FrameMode) : Option (Value × FrameMode) := match u with
  | .panicking ({ v, recovered := false, goexit := false } :: older) => some (v, .panicking ({ v, recovered := true } :: older))
  | _ => none
theorem recoverD_asked {u : FrameMode} (c0 : Frame) (cs : List Frame) (h : c0.mode = u) : recoverD (c0 :: cs) = match asked u with
    | some (v, u') => some (v, { c0 with mode := u' } :: cs)
    | none => none := by
  subst h
  simp only [recoverD, asked]
  generalize c0.mode = m
  split <;> simp_all
theorem CtrD.body {g : FuncId} {fn : Func} {args : List AV} {hin : HL} {post : AOut → Prop} {u u' : FrameMode} (v : Value) (x : AV) (idr : Nat) (o0 o1 : Oper) (rest : Code) (nt : Nat) (anc : List Nat) (rs : List ResultVar) (d0 d1 : Nat)
    (hf : X.E.P.funcs[g]? = some fn) (hb : fn.body = some (.seq (.region idr #[o0, o1] false) rest)) (hnt : fn.ntmps = nt) (hanc : hin.map (·.1) = anc) (hrs : fn.results.toList = rs) (hname : (fn.name == "runtime.NumGoroutine") = false) (hargs : Nat.ble args.length nt = true) (hres : rs.all (resIn nt) = true) (htop : memN TOP anc = false)
    (e0 : ∃ ats, o0.op = .call { callee := .builtin .recover, args := #[], argTypes := ats }) (e1 : o1.op = .assign (.tmp d0)) (g0 : o0.guard = none) (g1 : o1.guard = none) (k0 : o0.dst = some d0) (k1 : o1.dst = some d1) (l0 : Nat.blt d0 nt = true) (l1 : Nat.blt d1 nt = true)
    (hu : (asked u = none ∧ v = .nilIface ∧ u' = u) ∨ asked u = some (v, u')) (hx : ∀ h Im ρ, RA h Im ρ v x)
    (h : wpc X.E X.tab { nt, anc } rest (retP X.tab rs post) { f := (d1, x) :: (d0, x) :: entry 0 args, h := hin }) : CtrD X.E g args hin u u' post := by
  subst hnt; subst hanc; subst hrs
  refine ⟨⟨fn, hf, by rw [hb]; rfl, hname⟩, fun w Im ρ vs hG hIm hgl hsz hra hrel => ?_⟩
  obtain ⟨ok, S⟩ := entry_ok (nt := fn.ntmps) (Nat.le_of_ble_eq_true hargs) hG hIm hgl hsz hra hrel
  replace S := S.noMark rfl
  have htop' : TOP ∉ hin.map (·.1) := memN_spec htop
  have ok2 : ({ cxOf w Im ρ fn.ntmps hin [] with marks := false } : Cx).Ok X.E := ⟨ok.im, ok.gl, ok.G, fun h => absurd h htop'⟩
  refine callsD_of_wpS hf hb fun c0 cs hc0 => wpS_seq (wpS_region ?_)
  obtain ⟨ats, e0⟩ := e0
  have hd0 : d0 < (cxOf w Im ρ fn.ntmps hin []).nt := by simpa using l0
  have hd1 : d1 < (cxOf w Im ρ fn.ntmps hin []).nt := by simpa using l1
  let a0 : Act := { tmps := vs ++ Array.replicate (fn.ntmps - vs.size) undef, defers := [] }
  have S1 := S.put (v := v) (x := x) hd0 (hx _ _ _)
  have S2 := S1.put (v := v) (x := x) hd1 (hx _ _ _)
  have hrun0 : (execOp (Act.eval a0) o0).run X.E.P w = .ok .recover w := by
    simp [execOp, e0, resolve, invoke, builtin]
  have hrun1 : (execOp (Act.eval (a0.put (some d0) v)) o1).run X.E.P w = .ok (.value v) w := by
    have : (a0.put (some d0) v).eval (.tmp d0) = v := by
      show (a0.put (some d0) v).tmps.getD d0 undef = v
      rw [getD_set a0 d0 d0 v (by rw [S.nt]; exact hd0)]; simp
    simp [execOp, e1, this]
  have hw : ∀ (o : Oper) y, o.guard = none → Region.wanted o y = true := fun o y hg => by simp [Region.wanted, hg]
  have hcs : ∃ cs', (match recoverD (c0 :: cs) with | some (v, cs') => (v, cs') | none => (Value.nilIface, c0 :: cs)) = (v, cs') ∧ cs' = { c0 with mode := u' } :: cs := by
    rw [recoverD_asked c0 cs hc0]
    rcases hu with ⟨h1, h2, h3⟩ | h1
    · rw [h1]; subst h2; subst h3; subst hc0; exact ⟨_, rfl, rfl⟩
    · rw [h1]; exact ⟨_, rfl, rfl⟩
  have fin : rest.wp X.E.P (fun e a' w' => bodyPostS X.E.P fn c0 cs (fun e m w' => m = u' ∧ Ends post w Im ρ hin e w') e a' ({ c0 with mode := u' } :: cs) w') ((a0.put (some d0) v).put (some d1) v) w := by
    refine wp_mono (wpIn_wide.1 ((wpc_ok h) _ ok2 rfl rfl Im ρ _ w (S2.weak (fun t => .inr ?_) fun r o h => h))) fun e a' w' ⟨hne, Im', ρ', s', S', hQ⟩ => ?_
    · simp only [St.F]
      rw [← lk_cons, ← lk_cons]
    · cases e with
      | normal => obtain ⟨v', h1, h2⟩ := RetP.ends ok2 rfl rfl rfl rfl (fun _ h => h) rfl hres S' hQ; exact ⟨S'.defs.only rfl, u', rfl, v', h1, rfl, h2⟩
      | ret => obtain ⟨v', h1, h2⟩ := RetP.ends ok2 rfl rfl rfl rfl (fun _ h => h) rfl hres S' hQ; exact ⟨S'.defs.only rfl, u', rfl, v', h1, rfl, h2⟩
      | panic ch =>
        obtain ⟨ho, h1, h2, h3⟩ := hQ.ok
        exact ⟨S'.defs.only rfl, u', rfl, rfl, ho, _, _, h3, S'.leave rfl rfl rfl (fun _ h => h) rfl h1 h2⟩
      | exit id => exact hQ.elim
      | goto l => exact hQ.elim
      | outgrown => exact absurd rfl hne
  show wpOpsS X.E.P #[o0, o1] _ [0, 1] a0 (c0 :: cs) w
  simp only [wpOpsS, List.getElem?_toArray, List.getElem?_cons_zero, List.getElem?_cons_succ, hw o0 _ g0, hw o1 _ g1, if_true, hrun0]
  obtain ⟨cs', h1, h2⟩ := hcs
  subst h2
  have two : ∀ cs2, cs2 = ({ c0 with mode := u' } : Frame) :: cs → o1.upon X.E.P (a0.put (some d0) v) (fun a' w' => Exit.thenS (rest.wpS X.E.P (bodyPostS X.E.P fn c0 cs (fun e m w' => m = u' ∧ Ends post w Im ρ hin e w'))) (bodyPostS X.E.P fn c0 cs (fun e m w' => m = u' ∧ Ends post w Im ρ hin e w')) .normal a' cs2 w')
      (fun e a' w' => Exit.thenS (rest.wpS X.E.P (bodyPostS X.E.P fn c0 cs (fun e m w' => m = u' ∧ Ends post w Im ρ hin e w'))) (bodyPostS X.E.P fn c0 cs (fun e m w' => m = u' ∧ Ends post w Im ρ hin e w')) e a' cs2 w') (.ok (.value v) w) := fun cs2 e => by
    subst e
    rw [Oper.upon_value, k1]
    exact wpS_of_wp fin
  cases hr : recoverD (c0 :: cs) with
  | none =>
    rw [hr] at h1
    injection h1 with h1 h2
    subst h1
    simp only [k0, hrun1]
    exact two _ h2
  | some p =>
    obtain ⟨v1, cs1⟩ := p
    rw [hr] at h1
    injection h1 with h1 h2
    subst h1
    simp only [k0, hrun1]
    exact two _ h2
def chainP (E : Env) (tab : List (Nat × TI)) (k : Kn) (K : St → Prop) (Q : APost) : List Code → St → Prop
  | [], s => K s
  | x :: r, s => wpc E tab k x (thenP (fun s => chainP E tab k K Q r s) Q) s
def seqs (tail : Code) : List Code → Code
  | [] => tail
  | x :: r => .seq x (seqs tail r)
theorem fence_wide {c : Cx} (h : c.rnd = none) : c.fence = Fence.wide := by simp [Cx.fence, Fence.wide, h]
theorem chain_wp {c : Cx} (hr : c.rnd = none) (ok : c.Ok X.E) (hn : c.nt = k.nt) (ha : c.anc = k.anc) {K : St → Prop} {Q : APost} {tail : Code} {Z : Exit → Act → World → Prop} (hK : ∀ s Im ρ a w, K s → Sim c Im ρ s.F s.H a w → tail.wp X.E.P Z a w) (hZ : ∀ e a w, e ≠ .normal → Lift c Q e a w → Z e a w) : ∀ (A : List Code) {s : St} {Im : Nat → Prop} {ρ : Nat → Option Loc} {a : Act} {w : World},
    chainP X.E X.tab k K Q A s → Sim c Im ρ s.F s.H a w → (seqs tail A).wp X.E.P Z a w
  | [], s, Im, ρ, a, w, h, S => hK s Im ρ a w h S
  | x :: r, s, Im, ρ, a, w, h, S => wp_seq (wp_mono (wpIn_wide.1 (fence_wide hr ▸ wpc_ok h c ok hn ha Im ρ a w S)) fun e a w ⟨h1, Im, ρ, s, S, hQ⟩ => by
    cases e with
    | normal => exact chain_wp hr ok hn ha hK hZ r hQ S
    | outgrown => exact absurd rfl h1
    | exit id => exact hZ _ _ _ (by simp) ⟨h1, Im, ρ, s, S, hQ⟩
    | goto l => exact hZ _ _ _ (by simp) ⟨h1, Im, ρ, s, S, hQ⟩
    | ret => exact hZ _ _ _ (by simp) ⟨h1, Im, ρ, s, S, hQ⟩
    | panic ch => exact hZ _ _ _ (by simp) ⟨h1, Im, ρ, s, S, hQ⟩)
structure DefP (E : Env) (tab : List (Nat × TI)) (rs : List ResultVar) (post : AOut → Prop) (g : FuncId) (caps : List AV) (u : FrameMode) (s : St) : Prop where
  ok : ∃ hin ho u', CtrD E g caps hin u u' (fun o => o = .ret (.tup []) ho) ∧ Go.settle u' = .returning ∧ (∀ r o, lkH r hin = some o → lkH r s.h = some o) ∧ (∀ r o, lkH r ho = some o → ∃ o', lkH r hin = some o') ∧ RetP tab rs post { f := s.f, h := s.back hin ho }
def defPost (E : Env) (tab : List (Nat × TI)) (rs : List ResultVar) (post : AOut → Prop) (g : FuncId) (caps : List AV) : APost
  | .ret, s | .normal, s => DefP E tab rs post g caps .returning s
  | .panic ch, s => DefP E tab rs post g caps (.panicking ch) s
  | _, _ => False
def deferK (E : Env) (tab : List (Nat × TI)) (k : Kn) (rs : List ResultVar) (post : AOut → Prop) (g : FuncId) (p q t : Nat) (B : Code) (s : St) : Prop := match lk p s.f, lk q s.f, lkH p s.h, lkH q s.h, Nat.blt p k.nt, Nat.blt q k.nt, Nat.blt t k.nt, memN p (TOP :: k.anc), memN q (TOP :: k.anc) with
  | .ptr p' 0, .ptr q' 0, some _, some _, true, true, true, false, false => match Nat.beq p' p, Nat.beq q' q with
    | true, true => wpc E tab { nt := k.nt, anc := p :: q :: k.anc } B (defPost E tab rs post g [.ptr p 0, .ptr q 0]) { f := (t, .junk) :: s.f, h := s.h }
    | _, _ => False
  | _, _, _, _, _, _, _, _, _ => False
theorem Ctr.recov {f : FuncId} {fn : Func} {args : List AV} {hin : HL} {post : AOut → Prop} (A : List Code) (idr : Nat) (o0 o1 : Oper) (B : Code) (nt : Nat) (anc : List Nat) (rs : List ResultVar) (g : FuncId) (p q t : Nat)
    (hf : X.E.P.funcs[f]? = some fn) (hb : fn.body = some (seqs (.seq (.region idr #[o0, o1] false) B) A)) (hnt : fn.ntmps = nt) (hanc : hin.map (·.1) = anc) (hrs : fn.results.toList = rs) (hname : (fn.name == "runtime.NumGoroutine") = false) (hargs : Nat.ble args.length nt = true) (hres : rs.all (resIn nt) = true) (htop : memN TOP anc = false)
    (e0 : o0.op = .makeFunc (.func g) #[] #[.tmp p, .tmp q]) (e1 : ∃ ats, o1.op = .defer { callee := .value (.tmp t), args := #[], argTypes := ats }) (g0 : o0.guard = none) (g1 : o1.guard = none) (k0 : o0.dst = some t) (k1 : o1.dst = none)
    (h : chainP X.E X.tab { nt, anc } (deferK X.E X.tab { nt, anc } rs post g p q t B) (retP X.tab rs post) A { f := entry 0 args, h := hin }) : Ctr X.E f args hin post := by
  subst hnt; subst hanc; subst hrs
  refine ⟨⟨fn, hf, by rw [hb]; cases A <;> rfl, hname⟩, fun w Im ρ vs hG hIm hgl hsz hra hrel => ?_⟩
  obtain ⟨ok, S⟩ := entry_ok (nt := fn.ntmps) (Nat.le_of_ble_eq_true hargs) hG hIm hgl hsz hra hrel
  replace S := S.noMark rfl
  have htop' : TOP ∉ hin.map (·.1) := memN_spec htop
  have ok2 : ({ cxOf w Im ρ fn.ntmps hin [] with marks := false } : Cx).Ok X.E := ⟨ok.im, ok.gl, ok.G, fun h => absurd h htop'⟩
  refine calls_of_wp_defers hf hb ?_
  refine chain_wp rfl ok2 rfl rfl (fun s Im1 ρ1 a1 w1 hk S1 => ?_) (fun e a' w' hne ⟨hne2, Im', ρ', s', S', hQ⟩ => ?_) A h S
  · -- the deferring
    unfold deferK at hk
    split at hk
    · rename_i p' q' op oq ep eq hop hoq lp lq lt mp0 mq0
      split at hk
      · rename_i b1 b2
        have := Nat.eq_of_beq_eq_true b1; subst this
        have := Nat.eq_of_beq_eq_true b2; subst this
        obtain ⟨ats, e1⟩ := e1
        have hlt : ∀ {n : Nat}, Nat.blt n fn.ntmps = true → n < (cxOf w Im ρ fn.ntmps hin []).nt := fun h => by simpa using h
        -- the values that are captured
        have hvp := S1.fr p' (hlt lp)
        have hvq := S1.fr q' (hlt lq)
        simp only [St.F] at hvp hvq
        rw [ep] at hvp
        rw [eq] at hvq
        generalize evp : a1.tmps.getD p' undef = vp at hvp
        generalize evq : a1.tmps.getD q' undef = vq at hvq
        let d : Deferred := { target := .fn (.func g) #[vp, vq], args := #[] }
        have hev : ∀ n, a1.eval (.tmp n) = a1.tmps.getD n undef := fun _ => rfl
        have hrun0 : (execOp a1.eval o0).run X.E.P w1 = .ok (.value (.func (.func g) #[] #[vp, vq])) w1 := by
          simp [execOp, e0, Instr.makeFunc, hev, evp, evq]
        let a2 : Act := a1.put (some t) (.func (.func g) #[] #[vp, vq])
        have hev2 : a2.eval (.tmp t) = .func (.func g) #[] #[vp, vq] := by
          show (a1.put (some t) (.func (.func g) #[] #[vp, vq])).tmps.getD t undef = _
          rw [getD_set a1 t t _ (by rw [S1.nt]; exact hlt lt)]; simp
        have hrun1 : (execOp a2.eval o1).run X.E.P w1 = .ok (.defer d) w1 := by
          simp [execOp, e1, resolve, Deferred.ofValue, hev2, d]
        let a3 : Act := { a2 with defers := d :: a2.defers }
        -- the context behind it
        let c' : Cx := { cxOf w Im ρ fn.ntmps hin [d] with marks := false, anc := p' :: q' :: hin.map (·.1), ρ0 := fun r => if r ∈ hin.map (·.1) then ρ r else ρ1 r }
        have ok' : c'.Ok X.E := ⟨ok.im, ok.gl, ok.G, fun h => by
          rcases List.mem_cons.1 h with h | h
          · exact (memN_spec mp0 (List.mem_cons.2 (.inl h.symm))).elim
          · rcases List.mem_cons.1 h with h | h
            · exact (memN_spec mq0 (List.mem_cons.2 (.inl h.symm))).elim
            · exact absurd h htop'⟩
        have S2 := S1.put (v := .func (.func g) #[] #[vp, vq]) (x := .junk) (hlt lt) (.junk _)
        have S3 : Sim c' Im1 ρ1 (St.F { f := (t, .junk) :: s.f, h := s.h }) (St.H { f := (t, .junk) :: s.f, h := s.h }) a3 w1 := by
          refine { defs := by { show Marks _ _ _ _ (d :: a2.defers) [d]; rw [show a2.defers = [] from S2.defs.only rfl]; exact .none }, nt := S2.nt, fr := fun n hn => ?_, obj := S2.obj, dis := S2.dis, imn := S2.imn, im0 := S2.im0, os := S2.os, tape := S2.tape, output := S2.output, size := S2.size, kept := S2.kept, anc := fun r hr l' hl' => ?_ }
          · have := S2.fr n hn
            simp only [St.F] at this ⊢
            rw [← lk_cons] at this
            exact this
          · show ∃ l, (if r ∈ hin.map (·.1) then ρ r else ρ1 r) = some l ∧ LocStep l l'
            by_cases hm : r ∈ hin.map (·.1)
            · rw [if_pos hm]; exact S2.anc r hm l' hl'
            · rw [if_neg hm]; exact ⟨l', hl', .inl rfl⟩
        -- the two operations
        refine wp_seq (wp_region ?_)
        show wpOps X.E.P #[o0, o1] _ [0, 1] a1 w1
        have hw : ∀ (o : Oper) y, o.guard = none → Region.wanted o y = true := fun o y hg => by simp [Region.wanted, hg]
        simp only [wpOps, List.getElem?_toArray, List.getElem?_cons_zero, List.getElem?_cons_succ, hw o0 _ g0, hw o1 _ g1, if_true]
        refine .inl ?_
        unfold Oper.wp
        rw [hrun0, Oper.upon_value, k0]
        refine .inl ?_
        rw [hrun1, Oper.upon_defer, k1]
        refine wp_mono (wpIn_wide.1 (wpc_ok hk c' ok' rfl rfl Im1 ρ1 _ w1 S3)) fun e a' w' ⟨hne, Im', ρ', s', S', hQ⟩ => ?_
        -- behind the body
        have leave : ∀ u, u ≠ .run → DefP X.E X.tab fn.results.toList post g [.ptr p' 0, .ptr q' 0] u s' → Leaves X.E.P fn a'.tmps (Ends post w Im ρ hin) a'.defers u w' := fun u hu hD => by
          obtain ⟨hi, ho, u', hctr, hset, hhi, hho, hR⟩ := hD.ok
          rw [show a'.defers = [d] from S'.defs.only rfl]
          have hptr : ∀ {v : Value} {r : Nat}, (r = p' ∨ r = q') → RA (hp w1) Im1 ρ1 v (.ptr r 0) → RA (hp w') Im' ρ' v (.ptr r 0) := fun {v r} hr H => by
            cases H with
            | ptr _ _ _ h1 h2 =>
              refine .ptr _ _ _ h1 fun l' hl' => ?_
              obtain ⟨l, h3, h4⟩ := S'.anc r (by rcases hr with rfl | rfl <;> simp [c']) l' hl'
              have hm : r ∉ hin.map (·.1) := by
                rcases hr with rfl | rfl
                · exact fun h => memN_spec mp0 (List.mem_cons_of_mem _ h)
                · exact fun h => memN_spec mq0 (List.mem_cons_of_mem _ h)
              have h3 : (if r ∈ hin.map (·.1) then ρ r else ρ1 r) = some l := h3
              rw [if_neg hm] at h3
              obtain ⟨h5, b, h6, h7⟩ := h2 l h3
              rcases h4 with rfl | ⟨h8, _⟩ | ⟨_, m, rfl⟩
              · exact ⟨h5, b, h6, h7⟩
              · rw [h5] at h8; exact absurd h8 (by simp)
              · exact ⟨h5, b, h6, h7⟩
          refine leaves_cons hu (f := g) (args := #[vp, vq]) (by simp [invoke, run_callFunc hctr.1]) ?_
          refine (hctr.2 w' Im' ρ' #[vp, vq] (S'.G ok') (fun b hb => (S'.imn b hb).1) (fun b hb => S'.im0 b (ok'.gl b hb)) rfl (fun i v x h1 h2 => ?_) (S'.hrel hhi)).mono fun e m w2 ⟨hm, he⟩ => ?_
          · match i with
            | 0 => simp at h1 h2; subst h1; subst h2; exact hptr (.inl rfl) hvp
            | 1 => simp at h1 h2; subst h1; subst h2; exact hptr (.inr rfl) hvq
            | n + 2 => simp at h1
          · subst hm
            cases e with
            | returned v =>
              obtain ⟨res, ho', Im2, ρ2, hpost, hra2, hcl, haft⟩ := he
              injection hpost with h1 h2; subst h1; subst h2
              have S4 := S'.call hhi haft fun r o hr => .inl (hho r o hr)
              have S5 : Sim { cxOf w Im ρ fn.ntmps hin [d] with marks := false } Im2 (backρ ρ' ρ2 hi ho') s'.F (fun r => lkH r (s'.back hi ho')) a' w2 := by
                refine { defs := S4.defs, nt := S4.nt, fr := S4.fr, obj := S4.obj, dis := S4.dis, imn := S4.imn, im0 := S4.im0, os := S4.os, tape := S4.tape, output := S4.output, size := S4.size, kept := S4.kept, anc := fun r hr l' hl' => ?_ }
                obtain ⟨l, h3, h4⟩ := S4.anc r (by simp only [c', List.mem_cons]; exact .inr (.inr hr)) l' hl'
                have h3 : (if r ∈ hin.map (·.1) then ρ r else ρ1 r) = some l := h3
                rw [if_pos hr] at h3
                exact ⟨l, h3, h4⟩
              show Leaves X.E.P fn a'.tmps (Ends post w Im ρ hin) [] (Go.settle m) w2
              rw [hset]
              exact RetP.ends (c := { cxOf w Im ρ fn.ntmps hin [d] with marks := false }) ⟨ok.im, ok.gl, ok.G, fun h => absurd h htop'⟩ rfl rfl rfl rfl (fun _ h => h) rfl hres S5 hR
            | panicked ch =>
              obtain ⟨_, _, _, hpost, _⟩ := he
              exact absurd hpost (by simp)
            | outgrown => exact he.elim
        cases e with
        | normal => exact leave .returning (by simp) hQ
        | ret => exact leave .returning (by simp) hQ
        | panic ch => exact leave (.panicking ch) (by simp) hQ
        | exit id => exact hQ.elim
        | goto l => exact hQ.elim
        | outgrown => exact absurd rfl hne
      · exact hk.elim
    · exact hk.elim
  · -- an end ahead of the deferring
    cases e with
    | normal => exact absurd rfl hne
    | ret =>
      show Leaves X.E.P fn a'.tmps _ a'.defers .returning w'
      rw [show a'.defers = [] from S'.defs.only rfl]
      exact RetP.ends ok2 rfl rfl rfl rfl (fun _ h => h) rfl hres S' hQ
    | panic ch =>
      obtain ⟨ho, h1, h2, h3⟩ := hQ.ok
      show Leaves X.E.P fn a'.tmps _ a'.defers (.panicking ch) w'
      rw [show a'.defers = [] from S'.defs.only rfl]
      exact ⟨ho, _, _, h3, S'.leave rfl rfl rfl (fun _ h => h) rfl h1 h2⟩
    | exit id => exact hQ.elim
    | goto l => exact hQ.elim
    | outgrown => exact absurd rfl hne2
end Go.Ax

namespace Go.Ax
variable {X : Ax} {k : Kn}
structure BothP (p q : Prop) : Prop where
  a : p
  b : q
def nthB : List Bool → Nat → Bool
  | [], _ => false
  | b :: _, 0 => b
  | _ :: r, n + 1 => nthB r n
def setB : List Bool → Nat → List Bool
  | [], _ => []
  | _ :: r, 0 => true :: r
  | b :: r, n + 1 => b :: setB r n
theorem nthB_eq : ∀ (l : List Bool) (i : Nat), nthB l i = l.getD i false
  | [], i => by simp [nthB]
  | b :: r, 0 => by simp [nthB]
  | b :: r, i + 1 => by simp [nthB, nthB_eq r i]
theorem setB_eq : ∀ (l : List Bool) (i : Nat), setB l i = l.set i true
  | [], i => by simp [setB]
  | b :: r, 0 => by simp [setB]
  | b :: r, i + 1 => by simp [setB, setB_eq r i]
def depsB (L : List Bool) : List Edge → Bool
  | [] => true
  | e :: es => match bindE e with
    | true => match nthB L e.on with
      | true => depsB L es
      | false => false
    | false => depsB L es
theorem depsB_spec {L : List Bool} : ∀ {es : List Edge}, depsB L es = true ↔ ∀ e ∈ es, bindE e = true → nthB L e.on = true
  | [] => by simp [depsB]
  | e :: es => by
    simp only [depsB, List.mem_cons, forall_eq_or_imp]
    cases hb : bindE e with
    | false => simp [depsB_spec (es := es)]
    | true =>
      cases hn : nthB L e.on with
      | true => simp [depsB_spec (es := es)]
      | false => simp
def readyGo (L : List Bool) : List Oper → Nat → List Nat
  | [], _ => []
  | o :: r, i => match nthB L i with
    | true => readyGo L r (i + 1)
    | false => match depsB L o.after.toList with
      | true => i :: readyGo L r (i + 1)
      | false => readyGo L r (i + 1)
theorem mem_readyGo {L : List Bool} : ∀ {ops : List Oper} {i j : Nat}, j ∈ readyGo L ops i ↔ ∃ m o, j = i + m ∧ ops[m]? = some o ∧ nthB L j = false ∧ depsB L o.after.toList = true
  | [], i, j => by simp [readyGo]
  | o :: r, i, j => by
    have ih := mem_readyGo (L := L) (ops := r) (i := i + 1) (j := j)
    have key : (∃ m o', j = i + m ∧ (o :: r)[m]? = some o' ∧ nthB L j = false ∧ depsB L o'.after.toList = true) ↔ (j = i ∧ nthB L i = false ∧ depsB L o.after.toList = true) ∨ ∃ m o', j = i + 1 + m ∧ r[m]? = some o' ∧ nthB L j = false ∧ depsB L o'.after.toList = true := by
      constructor
      · rintro ⟨m, o', h1, h2, h3, h4⟩
        cases m with
        | zero => simp at h2; subst h2; simp at h1; subst h1; exact .inl ⟨rfl, h3, h4⟩
        | succ m => exact .inr ⟨m, o', by omega, by simpa using h2, h3, h4⟩
      · rintro (⟨h1, h2, h3⟩ | ⟨m, o', h1, h2, h3, h4⟩)
        · subst h1; exact ⟨0, o, rfl, rfl, h2, h3⟩
        · exact ⟨m + 1, o', by omega, by simpa using h2, h3, h4⟩
    rw [key, ← ih]
    simp only [readyGo]
    cases h1 : nthB L i with
    | true => simp
    | false =>
      cases h2 : depsB L o.after.toList with
      | true => simp
      | false => simp
def forceB : List Bool → (List Bool → Prop) → Prop
  | [], K => K []
  | true :: r, K => forceB r fun r => K (true :: r)
  | false :: r, K => forceB r fun r => K (false :: r)
theorem forceB_spec : ∀ {l : List Bool} {K : List Bool → Prop}, forceB l K → K l
  | [], _, h => h
  | true :: r, K, h => forceB_spec (l := r) (K := fun r => K (true :: r)) h
  | false :: r, K, h => forceB_spec (l := r) (K := fun r => K (false :: r)) h
def oneP (E : Env) (tab : List (Nat × TI)) (k : Kn) (ops : List Oper) (KP : List PanicEntry → St → Prop) (o : Oper) (s : St) (K : St → Prop) : Prop := match dstIn k.nt o.dst, guardV ops s o.guard with
  | true, some (b, want) => match want with
    | true => ifB b (opP E tab k KP o s K) (skipP s o.dst K)
    | false => ifB b (skipP s o.dst K) (opP E tab k KP o s K)
  | _, _ => False
def allQ (f : Nat → Prop) : Nat → List Nat → Prop
  | i, [] => f i
  | i, j :: r => BothP (f i) (allQ f j r)
theorem allQ_spec {f : Nat → Prop} : ∀ {i : Nat} {r : List Nat}, allQ f i r → ∀ j ∈ i :: r, f j
  | i, [], h, j, hj => by simp at hj; subst hj; exact h
  | i, q :: r, h, j, hj => by
    rcases List.mem_cons.1 hj with rfl | hj
    · exact h.a
    · exact allQ_spec h.b j hj
def anyP (E : Env) (tab : List (Nat × TI)) (k : Kn) (ops : List Oper) (K : St → Prop) (KP : List PanicEntry → St → Prop) : Nat → List Bool → St → Prop
  | 0, L, s => match readyGo L ops 0 with
    | [] => K s
    | _ :: _ => False
  | n + 1, L, s => match readyGo L ops 0 with
    | [] => K s
    | i :: r => allQ (fun i => match nth ops i with
      | some o => forceB (setB L i) fun L => oneP E tab k ops KP o s (fun s => anyP E tab k ops K KP n L s)
      | none => False) i r
theorem oneP_ok {ops : List Oper} {KP : List PanicEntry → St → Prop} {K : St → Prop} {Q : APost} (hall : ops.all (fun o => dstIn k.nt o.dst) = true) (hP : ∀ ch s, KP ch s → Q (.panic ch) s) {o : Oper} {s : St} {c : Cx} {Im : Nat → Prop} {ρ : Nat → Option Loc} {a : Act} {w : World} {next : Act → World → Prop} (ok : c.Ok X.E) (hn : c.nt = k.nt) (ha : c.anc = k.anc) (S : Sim c Im ρ s.F s.H a w)
    (h : oneP X.E X.tab k ops KP o s K) (hK : ∀ s' Im' ρ' a' w', K s' → Sim c Im' ρ' s'.F s'.H a' w' → next a' w') : if Region.wanted o (yielded ops.toArray a.tmps) then o.wpIn c.fence 0 X.E.P a w next (Lift c Q) else (∀ f, o.about X.E.P w a.eval = some f → c.fence.fn f) ∧ next (a.put o.dst undef) w := by
  unfold oneP at h
  split at h
  · rename_i b want hd hg
    have hw := guard_ok S hn hall hg
    rw [hw]
    have hyes : opP X.E X.tab k KP o s K → o.wpIn c.fence 0 X.E.P a w next (Lift c Q) := fun h => opP_ok ok hn ha S hd hP h hK
    have hno : skipP s o.dst K → next (a.put o.dst undef) w := fun h => hK _ _ _ _ _ (skipP_spec h) (S.set hn hd (.tup #[] [] rfl (by simp)) rfl)
    cases want with
    | true =>
      cases b with
      | true => exact hyes h
      | false => exact ⟨fun _ _ => trivial, hno h⟩
    | false =>
      cases b with
      | true => exact ⟨fun _ _ => trivial, hno h⟩
      | false => exact hyes h
  · exact h.elim
theorem ready_eq {ops : List Oper} {L : List Bool} (hl : L.length = ops.length) (j : Nat) : j ∈ Region.ready .any ops.toArray L.toArray ↔ j ∈ readyGo L ops 0 := by
  rw [mem_ready, mem_readyGo]
  constructor
  · rintro ⟨h1, o, h2, h3⟩
    have h2 : ops[j]? = some o := by simpa using h2
    have hlt : j < ops.length := (List.getElem?_eq_some_iff.1 h2).1
    refine ⟨j, o, by omega, h2, ?_, depsB_spec.2 fun e he hb => ?_⟩
    · rw [nthB_eq]
      simp [Array.getD_eq_getD_getElem?, List.getElem?_eq_getElem (by omega : j < L.length)] at h1
      simp [List.getD, List.getElem?_eq_getElem (by omega : j < L.length), h1]
    · have := h3 e (by simpa using he) hb
      rw [nthB_eq]
      simpa [Array.getD_eq_getD_getElem?, List.getD] using this
  · rintro ⟨m, o, h1, h2, h3, h4⟩
    have h1 : j = m := by omega
    subst h1
    have hlt : j < ops.length := (List.getElem?_eq_some_iff.1 h2).1
    refine ⟨?_, o, by simpa using h2, fun e he hb => ?_⟩
    · rw [nthB_eq] at h3
      simp [List.getD, List.getElem?_eq_getElem (by omega : j < L.length)] at h3
      simp [Array.getD_eq_getD_getElem?, List.getElem?_eq_getElem (by omega : j < L.length), h3]
    · have := depsB_spec.1 h4 e (by simpa using he) hb
      rw [nthB_eq] at this
      simpa [Array.getD_eq_getD_getElem?, List.getD] using this
theorem anyP_ok {ops : List Oper} {KP : List PanicEntry → St → Prop} {K : St → Prop} {Q : APost} (hall : ops.all (fun o => dstIn k.nt o.dst) = true) (hP : ∀ ch s, KP ch s → Q (.panic ch) s) (hK : ∀ s, K s → Q .normal s) {c : Cx} (ok : c.Ok X.E) (hn : c.nt = k.nt) (ha : c.anc = k.anc) : ∀ (n : Nat) {L : List Bool} {s : St} {Im : Nat → Prop} {ρ : Nat → Option Loc} {a : Act} {w : World}, L.length = ops.length →
    Sim c Im ρ s.F s.H a w → anyP X.E X.tab k ops K KP n L s → wpAnyIn c.fence 0 X.E.P .any ops.toArray (Lift c Q) n L.toArray a w
  | 0, L, s, Im, ρ, a, w, hl, S, h => by
    unfold anyP at h
    split at h
    · rename_i hr
      refine ⟨List.eq_nil_iff_forall_not_mem.2 fun j hj => ?_, by simp, Im, ρ, s, S, hK s h⟩
      rw [ready_eq hl j, hr] at hj; simp at hj
    · exact h.elim
  | n + 1, L, s, Im, ρ, a, w, hl, S, h => by
    unfold anyP at h
    split at h
    · rename_i hr
      refine ⟨fun _ => ⟨by simp, Im, ρ, s, S, hK s h⟩, fun j hj => ?_⟩
      rw [ready_eq hl j, hr] at hj; simp at hj
    · rename_i i r hr
      refine ⟨fun h0 => ?_, fun j hj => ?_⟩
      · have : i ∈ Region.ready .any ops.toArray L.toArray := (ready_eq hl i).2 (by rw [hr]; simp)
        rw [h0] at this; simp at this
      · have hj2 := (ready_eq hl j).1 hj
        rw [hr] at hj2
        have hp := allQ_spec h j hj2
        split at hp
        · rename_i o ho
          rw [nth_eq] at ho
          have hp := forceB_spec hp
          have := oneP_ok (X := X) (Q := Q) (next := wpAnyIn c.fence 0 X.E.P .any ops.toArray (Lift c Q) n (L.toArray.setIfInBounds j true)) hall hP ok hn ha S hp fun s' Im' ρ' a' w' hk S' => by
            have := anyP_ok hall hP hK ok hn ha n (L := setB L j) (by rw [setB_eq]; simpa using hl) S' hk
            rw [setB_eq] at this
            simpa using this
          unfold wpOpIn
          have ho2 : ops.toArray[j]? = some o := by simpa using ho
          simp only [ho2]
          exact this
        · exact hp.elim
def falseL : List Oper → List Bool
  | [] => []
  | _ :: r => false :: falseL r
theorem falseL_eq : ∀ (l : List Oper), falseL l = List.replicate l.length false
  | [] => rfl
  | _ :: r => by simp [falseL, falseL_eq r, List.replicate_succ]
theorem DrawP.any {id : Nat} {ops : Array Oper} {Q : APost} {s : St} (hs : ops.toList.all (fun o => dstIn k.nt o.dst) = true)
    (h : anyP X.E X.tab k ops.toList (fun s => Q .normal s) (fun ch s => Q (.panic ch) s) ops.toList.length (falseL ops.toList) s) : DrawP X.E k id ops Q s :=
  ⟨fun c ok hn ha Im ρ a w S => by
    refine wpIn_region_any X.E.mixed ?_
    have S' : Sim c Im ρ s.F s.H a { w with drawn := w.drawn + 1 } := S.world rfl rfl rfl rfl
    have := anyP_ok (X := X) (Q := Q) hs (fun _ _ h => h) (fun _ h => h) ok hn ha ops.toList.length (L := falseL ops.toList) (by rw [falseL_eq]; simp) S' h
    rw [falseL_eq] at this
    simpa using this⟩
theorem DrawP.join {E : Env} {id : Nat} {ops : Array Oper} {Q : APost} {s : St} (s1 : St) (h : DrawP E k id ops (fun e s => match e with | .normal => s1.Le s | e => Q e s) s) (hq : Q .normal s1) : DrawP E k id ops Q s :=
  ⟨fun c ok hn ha Im ρ a w S => wpIn_mono (h.ok c ok hn ha Im ρ a w S) fun e a' w' ⟨hne, Im', ρ', s', S', hQ⟩ => by
    cases e with
    | normal =>
      have hQ : s1.Le s' := hQ
      exact ⟨hne, Im', ρ', s1, S'.weak (fun t => LeF.at hQ.1 t) (fun r o => LeH.at hQ.2 r o), hq⟩
    | _ => exact ⟨hne, Im', ρ', s', S', hQ⟩⟩
end Go.Ax

namespace Go.Ax
open Go.Proofs
def outP {α : Type} (ch : List PanicEntry) (rx : α → AV) (hx : α → HL) : Option α → AOut
  | none => .pan ch []
  | some x => .ret (rx x) (hx x)
theorem lkH_memb : ∀ {h : HL} {r : Nat} {o : AObj}, lkH r h = some o → ∃ p ∈ h, p.1 = r
  | [], r, o, h => by simp [lkH] at h
  | (q, v) :: h, r, o, hr => by
    simp only [lkH] at hr
    split at hr
    · rename_i hb; exact ⟨_, List.mem_cons_self .., Nat.eq_of_beq_eq_true hb⟩
    · obtain ⟨p, h1, h2⟩ := lkH_memb hr; exact ⟨p, List.mem_cons_of_mem _ h1, h2⟩
theorem lkH_in {hin ho : HL} (h2 : ho.all (fun p => (lkH p.1 hin).isSome) = true) {r : Nat} {o : AObj} (hr : lkH r ho = some o) : ∃ o', lkH r hin = some o' := by
  obtain ⟨p, q1, q2⟩ := lkH_memb hr
  have := List.all_eq_true.1 h2 p q1
  rw [q2] at this
  exact Option.isSome_iff_exists.1 this
theorem CallP.may {E : Env} {k : Kn} {f : FuncId} {args : List AV} {s : St} {K : AV → HL → Prop} {KP : List PanicEntry → HL → Prop} {α : Type} {ch : List PanicEntry} {rx : α → AV} {hx : α → HL} {sp : Option α} {hin : HL} (h : Ctr E f args hin fun o => o = outP ch rx hx sp)
    (h1 : LeH hin s.h) (h2 : ∀ x, (hx x).all (fun p => (lkH p.1 hin).isSome) = true) (hp : sp = none → KP ch (killed hin ++ s.h)) (hr : ∀ x, sp = some x → K (rx x) (hx x ++ (killed hin ++ s.h))) : CallP E k f args s K KP :=
  ⟨hin, _, h, fun r o hr => LeH.at h1 r o hr, fun res ho e => by
    cases hs : sp with
    | none => rw [hs] at e; exact absurd e (by simp [outP])
    | some x =>
      rw [hs] at e; injection e with e1 e2; subst e1; subst e2
      exact ⟨fun r o hr => .inl (lkH_in (h2 x) hr), hr x hs⟩, fun ch' ho e => by
    cases hs : sp with
    | some x => rw [hs] at e; exact absurd e (by simp [outP])
    | none =>
      rw [hs] at e; injection e with e1 e2; subst e1; subst e2
      exact ⟨fun r o hr => by simp [lkH] at hr, hp hs⟩⟩
theorem CallP.fails {E : Env} {k : Kn} {f : FuncId} {args : List AV} {s : St} {K : AV → HL → Prop} {KP : List PanicEntry → HL → Prop} {ch : List PanicEntry} (h : Ctr E f args [] fun o => o = .pan ch []) (hp : KP ch s.h) : CallP E k f args s K KP :=
  ⟨[], _, h, fun r o hr => by simp [lkH] at hr, fun res ho e => by simp at e, fun ch' ho e => by
    injection e with e1 e2; subst e1; subst e2
    exact ⟨fun r o hr => by simp [lkH] at hr, hp⟩⟩
theorem CallP.dies {E : Env} {k : Kn} {f : FuncId} {args : List AV} {s : St} {K : AV → HL → Prop} {KP : List PanicEntry → HL → Prop} {ch : List PanicEntry} {hin : HL} (h : Ctr E f args hin fun o => o = .pan ch []) (h1 : LeH hin s.h) (hp : KP ch (killed hin ++ s.h)) : CallP E k f args s K KP :=
  ⟨hin, _, h, fun r o hr => LeH.at h1 r o hr, fun res ho e => by simp at e, fun ch' ho e => by
    injection e with e1 e2; subst e1; subst e2
    exact ⟨fun r o hr => by simp [lkH] at hr, hp⟩⟩
theorem Ctr.none {E : Env} {f : FuncId} {args : List AV} {hin : HL} {α : Type} {ch : List PanicEntry} {rx : α → AV} {hx : α → HL} {sp : Option α} (h : Ctr E f args hin fun o => o = outP ch rx hx sp) (hs : sp = Option.none) : Ctr E f args hin fun o => o = .pan ch [] :=
  h.mono fun o ho => by rw [ho, hs]; rfl
theorem Ctr.some {E : Env} {f : FuncId} {args : List AV} {hin : HL} {α : Type} {ch : List PanicEntry} {rx : α → AV} {hx : α → HL} {sp : Option α} {x : α} (h : Ctr E f args hin fun o => o = outP ch rx hx sp) (hs : sp = Option.some x) : Ctr E f args hin fun o => o = .ret (rx x) (hx x) :=
  h.mono fun o ho => by rw [ho, hs]; rfl
theorem CallP.hlb {E : Env} {k : Kn} {f : FuncId} {args : List AV} {s : St} {K : AV → HL → Prop} {KP : List PanicEntry → HL → Prop} {res : AV} {hin ho : HL} (h : Ctr E f args hin fun o => o = .ret res ho) (h1 : LeH hin s.h) (h2 : ho.all (fun p => (lkH p.1 hin).isSome) = true)
    (hk : K res (ho ++ (killed hin ++ s.h))) : CallP E k f args s K KP :=
  ⟨_, _, h, fun r o hr => LeH.at h1 r o hr, fun res' ho' e => by
    injection e with e1 e2; subst e1; subst e2
    exact ⟨fun r o hr => .inl (lkH_in h2 hr), hk⟩, fun ch ho e => by simp at e⟩
theorem CallD.hlb {E : Env} {f : FuncId} {args : List AV} {s : St} {K : AV → HL → HL → Prop} {PD : List PanicEntry → Prop} {res : AV} {hin ho : HL} (h : Ctr E f args hin fun o => o = .ret res ho) (h1 : LeH hin s.h) (hk : K res hin ho) : CallD E f args s K PD :=
  ⟨hin, _, _, h.mono fun o ho => .inl ho, fun r o hr => LeH.at h1 r o hr, hk⟩
theorem Ctr.loose {E : Env} {f : FuncId} {args : List AV} {hin : HL} {α : Type} {ch : List PanicEntry} {rx rx' : α → AV} {hx : α → HL} {sp : Option α} (h : Ctr E f args hin fun o => o = outP ch rx hx sp ∨ o = outP ch rx' hx sp) (hc : ∀ x q, (rx' x).ment q = false)
    (hle : ∀ (x : α) (w : World) (Im : Nat → Prop) (ρ : Nat → Option Loc) (v : Value), RA (hp w) Im ρ v (rx x) → RA (hp w) Im ρ v (rx' x)) : Ctr E f args hin fun o => o = outP ch rx' hx sp :=
  ⟨h.1, fun w Im ρ vs g1 g2 g3 g4 g5 g6 => (h.2 w Im ρ vs g1 g2 g3 g4 g5 g6).mono fun e w' he => by
    cases e with
    | returned v =>
      obtain ⟨res, ho', Im', ρ', h1, h2, h3, A⟩ := he
      cases hs : sp with
      | none => rw [hs] at h1; exact absurd h1 (by simp [outP])
      | some x =>
        rw [hs] at h1
        rcases h1 with h1 | h1
        · injection h1 with e1 e2; subst e1; subst e2
          exact ⟨rx' x, _, Im', ρ', rfl, hle _ _ _ _ _ h2, fun q hq => by rw [hc x q] at hq; simp at hq, A⟩
        · exact ⟨res, ho', Im', ρ', h1, h2, h3, A⟩
    | panicked chn =>
      obtain ⟨ho', Im', ρ', h1, A⟩ := he
      exact ⟨ho', Im', ρ', h1.elim (fun h => by cases sp with | none => exact h | some x => exact absurd h (by simp [outP])) id, A⟩
    | outgrown => exact he⟩
theorem Ctr.row {E : Env} {f : FuncId} {args : List AV} {hin : HL} {α : Type} {ch : List PanicEntry} {row : α → List D} {hx : α → HL} {sp : Option α} (h : Ctr E f args hin fun o => (o = .pan ch [] ∧ sp = Option.none) ∨ ∃ x xs, sp = Option.some x ∧ DLes xs (row x) ∧ o = .ret (.dagg xs) (hx x)) :
    Ctr E f args hin fun o => o = outP ch (fun x => .dagg (row x)) hx sp :=
  ⟨h.1, fun w Im ρ vs g1 g2 g3 g4 g5 g6 => (h.2 w Im ρ vs g1 g2 g3 g4 g5 g6).mono fun e w' he => by
    cases e with
    | returned v =>
      obtain ⟨res, ho', Im', ρ', h1, h2, h3, A⟩ := he
      rcases h1 with ⟨h1, _⟩ | ⟨x, xs, e1, e2, e3⟩
      · exact absurd h1 (by simp)
      · injection e3 with e3 e4; subst e3; subst e4
        exact ⟨.dagg (row x), _, Im', ρ', by rw [e1]; rfl, h2.dagg_le e2, fun q hq => by simp [AV.ment] at hq, A⟩
    | panicked chn =>
      obtain ⟨ho', Im', ρ', h1, A⟩ := he
      rcases h1 with ⟨h1, h2⟩ | ⟨x, xs, e1, e2, e3⟩
      · exact ⟨ho', Im', ρ', by rw [h2]; exact h1, A⟩
      · exact absurd e3 (by simp)
    | outgrown => exact he⟩
theorem Sub.frzCell {E : Env} {k : Kn} {s : St} (q i r n off len sz : Nat) (el : TypeId) (cs : List AV) (els : List (List D)) (hq : lkH q s.h = Option.some (.var cs)) (hi : cs[i]? = Option.some (.msl r n off len)) (hr : lkH r s.h = Option.some (.buf sz el els)) (hqr : q ≠ r) (hn : n = els.length) (hle : off + len ≤ n) :
    Sub E k { f := s.f, h := (q, Option.some (.var (cs.set i (.d (.sl false sz ((els.drop off).take len)))))) :: (r, Option.none) :: s.h } s := fun c ok hnt ha Im ρ a w S => by
  obtain ⟨l, hl', hro, hown⟩ := S.obj r _ hr
  have hH : ∀ q o, (upd s.H r Option.none) q = Option.some o → q ≠ r ∧ s.H q = Option.some o := fun q o hq => by
    by_cases e : q = r
    · subst e; rw [upd_same] at hq; simp at hq
    · rw [upd_ne _ _ e] at hq; exact ⟨e, hq⟩
  have hI : ∀ b, Im b → Im b ∨ b ∈ l.fp := fun b hb => .inl hb
  have S2 : Sim c (fun b => Im b ∨ b ∈ l.fp) ρ s.F (upd s.H r Option.none) a w := by
    refine { defs := S.defs.mono hI (fun _ _ => rfl), nt := S.nt, fr := fun q hq => ?_, obj := fun q o hq => ?_, dis := fun q q' o o' l1 l2 h1 h2 hne e1 e2 => ?_, imn := fun b hb => ?_, im0 := fun b hb => .inl (S.im0 b hb), os := S.os, tape := S.tape, output := S.output, size := S.size, kept := S.kept, anc := S.anc }
    · exact (S.fr q hq).mono hI (fun _ _ => rfl) fun p _ l1 hl1 => ⟨l1, hl1, .inl rfl⟩
    · obtain ⟨h1, h2⟩ := hH q o hq
      obtain ⟨l1, g1, g2, g3⟩ := S.obj q o h2
      refine ⟨l1, g1, g2.mono hI (fun _ _ => rfl) (fun _ _ => rfl) (fun p _ l1 hl1 => ⟨l1, hl1, .inl rfl⟩), fun b hb => ⟨(g3 b hb).1, fun hi => ?_, (g3 b hb).2.2⟩⟩
      rcases hi with hi | hi
      · exact (g3 b hb).2.1 hi
      · exact S.dis q r o _ l1 l h2 hr h1 g1 hl' b hb hi
    · exact S.dis q q' o o' l1 l2 (hH q o h1).2 (hH q' o' h2).2 hne e1 e2
    · rcases hb with hb | hb
      · exact S.imn b hb
      · exact ⟨(hown b hb).1, .inr (hown b hb).2.2⟩
  obtain ⟨lq, hlq, hroq0, _⟩ := S.obj q _ hq
  obtain ⟨lq2, hlq2, hroq, _⟩ := S2.obj q (.var cs) (by rw [upd_ne _ _ hqr]; exact hq)
  rw [hlq] at hlq2; injection hlq2 with hlq2; subst hlq2
  have hρ : upd ρ q (Option.some lq) = ρ := by
    funext x
    by_cases hx : x = q
    · subst hx; rw [upd_same, hlq]
    · rw [upd_ne _ _ hx]
  have S3 := S2.chg (w' := w) (r := q) (l := lq) (l' := lq) (o' := .var (cs.set i (.d (.sl false sz ((els.drop off).take len))))) (by rw [upd_ne _ _ hqr]; exact hq) hlq (Grows.refl w _) (.inl rfl) (fun b hb => .inl hb) (by
    rw [hρ]
    refine ⟨hroq.1, hroq.2.1, ?_⟩
    obtain ⟨b, ms, t, h1, h2, h3, h4⟩ := hroq.2.2
    obtain ⟨b0, ms0, t0, j1, j2, j3, j4⟩ := hroq0.2.2
    have : b0 = b := by rw [h1] at j1; injection j1 with j1; exact j1.symm
    subst this
    have : ms0 = ms := by rw [h2] at j2; injection j2 with j2; injection j2 with j2; exact j2.symm
    subst this
    refine ⟨b0, ms0, t, h1, h2, by simpa using h3, fun j v hv x hx => ?_⟩
    by_cases hj : i = j
    · subst hj
      have hil := (List.getElem?_eq_some_iff.1 hi).1
      rw [List.getElem?_set_self hil] at hx
      injection hx with hx; subst hx
      obtain ⟨h5, h6⟩ := j4 i v hv _ hi
      refine ⟨?_, h6⟩
      cases h5 with
      | msl _ _ _ _ _ h0 hp2 =>
        have hval := (hp2 l hl').2 (by rw [hro.2.2.2.1]; exact hn)
        rw [hval]
        exact .d _ _ (RD.ofBuf hro hI (fun b hb => .inr hb) (by omega))
    · rw [List.getElem?_set_ne hj] at hx
      exact h4 j v hv x hx)
  rw [hρ] at S3
  refine ⟨(fun b => Im b ∨ b ∈ l.fp), ρ, ?_⟩
  have e2 : (St.H { f := s.f, h := (q, Option.some (.var (cs.set i (.d (.sl false sz ((els.drop off).take len)))))) :: (r, Option.none) :: s.h }) = upd (upd s.H r Option.none) q (Option.some (.var (cs.set i (.d (.sl false sz ((els.drop off).take len)))))) := by
    rw [show upd s.H r Option.none = St.H { f := s.f, h := (r, Option.none) :: s.h } from (lkH_cons r _ s.h).symm]
    exact lkH_cons q _ _
  rw [e2]
  exact S3
end Go.Ax

namespace Go.Ax
def swp (a b r : Nat) : Nat := match Nat.beq r a with
  | true => b
  | false => match Nat.beq r b with
    | true => a
    | false => r
theorem swp_eq (a b r : Nat) : swp a b r = if r = a then b else if r = b then a else r := by
  unfold swp
  by_cases h : r = a
  · subst h; simp
  · have h1 : Nat.beq r a = false := by
      cases hb : Nat.beq r a with
      | false => rfl
      | true => exact absurd (Nat.eq_of_beq_eq_true hb) h
    simp only [h1, if_neg h]
    by_cases h2 : r = b
    · subst h2; simp
    · have h3 : Nat.beq r b = false := by
        cases hb : Nat.beq r b with
        | false => rfl
        | true => exact absurd (Nat.eq_of_beq_eq_true hb) h2
      simp [h3, h2]
theorem swp_swp (a b r : Nat) : swp a b (swp a b r) = r := by
  simp only [swp_eq]
  by_cases h : r = a
  · subst h; by_cases h2 : b = r <;> simp [h2]
  · by_cases h2 : r = b
    · subst h2; simp [h]
    · simp [h, h2]
theorem swp_inj {a b x y : Nat} (h : swp a b x = swp a b y) : x = y := by rw [← swp_swp a b x, h, swp_swp]
mutual
def AV.swap (a b : Nat) : AV → AV
  | .junk => .junk
  | .d x => .d x
  | .dagg cs => .dagg cs
  | .agg cs => .agg (AV.swapL a b cs)
  | .tup vs => .tup (AV.swapL a b vs)
  | .ptr r off => .ptr (swp a b r) off
  | .ep cs => .ep cs
  | .msl r n off len => .msl (swp a b r) n off len
  | .mptr r n i j => .mptr (swp a b r) n i j
  | .mp r => .mp (swp a b r)
  | .clo fn f c => .clo fn (AV.swapL a b f) (AV.swapL a b c)
  | .ifc t x => .ifc t (AV.swap a b x)
def AV.swapL (a b : Nat) : List AV → List AV
  | [] => []
  | x :: xs => AV.swap a b x :: AV.swapL a b xs
end
def AObj.swap (a b : Nat) : AObj → AObj
  | .var cs => .var (AV.swapL a b cs)
  | .dvar n cs => .dvar n cs
  | .buf sz e els => .buf sz e els
  | .map ag es => .map ag es
  | .siter m p => .siter m p
  | .tvar t cs => .tvar t cs
  | .lbuf e els x => .lbuf e els (AV.swap a b x)
  | .ext R => .ext R
  | .gst K h0 R => .gst K h0 R
  | .extI R => .extI R
def HL.swap (a b : Nat) : HL → HL
  | [] => []
  | (r, some o) :: h => (swp a b r, some (o.swap a b)) :: HL.swap a b h
  | (r, none) :: h => (swp a b r, none) :: HL.swap a b h
theorem swapL_get (a b : Nat) : ∀ (l : List AV) (i : Nat), (AV.swapL a b l)[i]? = (l[i]?).map (AV.swap a b)
  | [], i => by simp [AV.swapL]
  | x :: xs, 0 => by simp [AV.swapL]
  | x :: xs, i + 1 => by simp [AV.swapL, swapL_get a b xs i]
theorem swapL_length (a b : Nat) : ∀ (l : List AV), (AV.swapL a b l).length = l.length
  | [] => rfl
  | x :: xs => by simp [AV.swapL, swapL_length a b xs]
theorem RA.swap {h : Nat → Option Obj} {Im : Nat → Prop} {ρ ρ' : Nat → Option Loc} (a b : Nat) (hρ : ∀ r, ρ' (swp a b r) = ρ r) {v : Value} {x : AV} (H : RA h Im ρ v x) : RA h Im ρ' v (x.swap a b) := by
  induction H with
  | junk x => exact .junk x
  | d x y hd => exact .d x y hd
  | dagg cs l hl hr => exact .dagg cs l hl hr
  | agg cs l hl hr ih =>
    exact .agg cs _ (by rw [swapL_length]; exact hl) fun i v x h1 h2 => by
      rw [swapL_get, Option.map_eq_some_iff] at h2
      obtain ⟨y, hy, rfl⟩ := h2
      exact ih i v y h1 hy
  | tup cs l hl hr ih =>
    exact .tup cs _ (by rw [swapL_length]; exact hl) fun i v x h1 h2 => by
      rw [swapL_get, Option.map_eq_some_iff] at h2
      obtain ⟨y, hy, rfl⟩ := h2
      exact ih i v y h1 hy
  | ptr x r off h1 hp => exact .ptr x _ off h1 fun l hl => hp l (by rw [← hρ r]; exact hl)
  | ep b o cs f hb hc hr => exact .ep b o cs f hb hc hr
  | msl x r n off len h1 hp => exact .msl x _ n off len h1 fun l hl => hp l (by rw [← hρ r]; exact hl)
  | mptr x r n i j h1 hp => exact .mptr x _ n i j h1 fun l hl => hp l (by rw [← hρ r]; exact hl)
  | mp x r h1 hp => exact .mp x _ h1 fun l hl => hp l (by rw [← hρ r]; exact hl)
  | clo fn fs cs lf lc hf hc hrf hrc ihf ihc =>
    exact .clo fn fs cs _ _ (by rw [swapL_length]; exact hf) (by rw [swapL_length]; exact hc)
      (fun i v x h1 h2 => by
        rw [swapL_get, Option.map_eq_some_iff] at h2
        obtain ⟨y, hy, rfl⟩ := h2
        exact ihf i v y h1 hy) (fun i v x h1 h2 => by
        rw [swapL_get, Option.map_eq_some_iff] at h2
        obtain ⟨y, hy, rfl⟩ := h2
        exact ihc i v y h1 hy)
  | ifc t x y hx ih => exact .ifc t x _ ih
theorem RO.swap {h : Nat → Option Obj} {Im : Nat → Prop} {ρ ρ' : Nat → Option Loc} (a b : Nat) (hρ : ∀ r, ρ' (swp a b r) = ρ r) {l : Loc} {o : AObj} (H : RO h Im ρ l o) : RO h Im ρ' l (o.swap a b) := by
  cases o with
  | var cs =>
    refine ⟨H.1, H.2.1, ?_⟩
    obtain ⟨bk, ms, t, h1, h2, h3, h4⟩ := H.2.2
    refine ⟨bk, ms, t, h1, h2, by rw [swapL_length]; exact h3, fun i v hv x hx => ?_⟩
    rw [swapL_get, Option.map_eq_some_iff] at hx
    obtain ⟨y, hy, rfl⟩ := hx
    exact ⟨(h4 i v hv y hy).1.swap a b hρ, (h4 i v hv y hy).2⟩
  | dvar n cs => exact H
  | buf sz e els => exact H
  | map ag es => exact H
  | siter m p => exact H
  | tvar t cs => exact H
  | lbuf e els x =>
    obtain ⟨h0, h1, h2, h3, h4, bk, ms, g1, g2, g3, g4, g5, g6, v, g7, g8, g9⟩ := H
    exact ⟨h0, h1, h2, h3, h4, bk, ms, g1, g2, g3, g4, g5, g6, v, g7, g8.swap a b hρ, g9⟩
  | ext R => exact H
  | gst K h0 R => exact H
  | extI R => exact H
theorem lkH_swap (a b r : Nat) : ∀ (h : HL), lkH (swp a b r) (HL.swap a b h) = (lkH r h).map (AObj.swap a b)
  | [] => rfl
  | (q, some o) :: h => by
    simp only [HL.swap, lkH]
    by_cases e : q = r
    · subst e; simp
    · have h1 : Nat.beq q r = false := by
        cases hb : Nat.beq q r with
        | false => rfl
        | true => exact absurd (Nat.eq_of_beq_eq_true hb) e
      have h2 : Nat.beq (swp a b q) (swp a b r) = false := by
        cases hb : Nat.beq (swp a b q) (swp a b r) with
        | false => rfl
        | true => exact absurd (swp_inj (Nat.eq_of_beq_eq_true hb)) e
      simp only [h1, h2]; exact lkH_swap a b r h
  | (q, none) :: h => by
    simp only [HL.swap, lkH]
    by_cases e : q = r
    · subst e; simp
    · have h1 : Nat.beq q r = false := by
        cases hb : Nat.beq q r with
        | false => rfl
        | true => exact absurd (Nat.eq_of_beq_eq_true hb) e
      have h2 : Nat.beq (swp a b q) (swp a b r) = false := by
        cases hb : Nat.beq (swp a b q) (swp a b r) with
        | false => rfl
        | true => exact absurd (swp_inj (Nat.eq_of_beq_eq_true hb)) e
      simp only [h1, h2]; exact lkH_swap a b r h
theorem lkH_unswap {a b r : Nat} {h : HL} {o : AObj} (hr : lkH r (HL.swap a b h) = some o) : ∃ o', lkH (swp a b r) h = some o' ∧ o = o'.swap a b := by
  have := lkH_swap a b (swp a b r) h
  rw [swp_swp, hr] at this
  obtain ⟨o', h1, h2⟩ := Option.map_eq_some_iff.1 this.symm
  exact ⟨o', h1, h2.symm⟩
theorem ment_swap (a b : Nat) : ∀ (r : Nat) (x : AV), (x.swap a b).ment r = x.ment (swp a b r) := by
  have hb : ∀ q r, Nat.beq (swp a b q) r = Nat.beq q (swp a b r) := fun q r => by
    by_cases e : q = swp a b r
    · subst e; rw [swp_swp]; simp
    · have h1 : Nat.beq q (swp a b r) = false := by
        cases hb : Nat.beq q (swp a b r) with
        | false => rfl
        | true => exact absurd (Nat.eq_of_beq_eq_true hb) e
      have h2 : Nat.beq (swp a b q) r = false := by
        cases hb : Nat.beq (swp a b q) r with
        | false => rfl
        | true => exact absurd (by rw [← Nat.eq_of_beq_eq_true hb, swp_swp]) e
      rw [h1, h2]
  intro r x
  induction x using AV.rec (motive_2 := fun l => AV.ment.mentL r (AV.swapL a b l) = AV.ment.mentL (swp a b r) l) with
  | junk => rfl
  | d x => rfl
  | dagg cs => rfl
  | agg cs ih => simpa [AV.swap, AV.ment] using ih
  | tup cs ih => simpa [AV.swap, AV.ment] using ih
  | ptr q off => exact hb q r
  | ep cs => rfl
  | msl q n off len => exact hb q r
  | mptr q n i j => exact hb q r
  | mp q => exact hb q r
  | clo fn f c ih1 ih2 => simp only [AV.swap, AV.ment, ih1, ih2]
  | ifc t x ih => simpa [AV.swap, AV.ment] using ih
  | nil => rfl
  | cons x xs ih1 ih2 => simp only [AV.swapL, AV.ment.mentL, ih1, ih2]
theorem mentO_swap (a b r : Nat) (x : AObj) : (x.swap a b).ment r = x.ment (swp a b r) := by
  cases x with
  | var cs =>
    simp only [AObj.swap, AObj.ment]
    induction cs with
    | nil => rfl
    | cons x xs ih => simp only [AV.swapL, AV.ment.mentL, ih, ment_swap]
  | lbuf e els x => simp only [AObj.swap, AObj.ment, ment_swap]
  | _ => rfl
theorem Ctr.swap {E : Env} {f : FuncId} {args : List AV} {hin ho : HL} {res : AV} (a b : Nat) (h : Ctr E f args hin fun o => o = .ret res ho) : Ctr E f (AV.swapL a b args) (HL.swap a b hin) fun o => o = .ret (res.swap a b) (HL.swap a b ho) := by
  refine ⟨h.1, fun w Im ρ vs hG hIm hgl hsz hra hrel => ?_⟩
  -- the names as the contract has them
  have back : ∀ x : AV, (x.swap a b).swap a b = x := by
    intro x
    induction x using AV.rec (motive_2 := fun l => AV.swapL a b (AV.swapL a b l) = l) with
    | junk => rfl
    | d x => rfl
    | dagg cs => rfl
    | agg cs ih => simp [AV.swap, ih]
    | tup cs ih => simp [AV.swap, ih]
    | ptr q off => simp [AV.swap, swp_swp]
    | ep cs => rfl
    | msl q n off len => simp [AV.swap, swp_swp]
    | mptr q n i j => simp [AV.swap, swp_swp]
    | mp q => simp [AV.swap, swp_swp]
    | clo fn f c ih1 ih2 => simp [AV.swap, ih1, ih2]
    | ifc t x ih => simp [AV.swap, ih]
    | nil => rfl
    | cons x xs ih1 ih2 => simp [AV.swapL, ih1, ih2]
  have backO : ∀ o : AObj, (o.swap a b).swap a b = o := fun o => by
    cases o with
    | var cs =>
      have : ∀ l : List AV, AV.swapL a b (AV.swapL a b l) = l := fun l => by induction l with
        | nil => rfl
        | cons x xs ih => simp [AV.swapL, ih, back]
      simp [AObj.swap, this]
    | lbuf e els x => simp [AObj.swap, back]
    | _ => rfl
  have hρ : ∀ r, (fun q => ρ (swp a b q)) (swp a b r) = ρ r := fun r => by simp only [swp_swp]
  have hT : ∀ bk, TIn (fun q => ρ (swp a b q)) hin bk → TIn ρ (HL.swap a b hin) bk := fun bk ⟨r, o, l, h1, h2, h3⟩ => ⟨swp a b r, o.swap a b, l, by rw [lkH_swap, h1]; rfl, h2, h3⟩
  have hT' : ∀ bk, TIn ρ (HL.swap a b hin) bk → TIn (fun q => ρ (swp a b q)) hin bk := fun bk ⟨r, o, l, h1, h2, h3⟩ => by
    obtain ⟨o', h4, _⟩ := lkH_unswap h1
    exact ⟨swp a b r, o', l, h4, by simp only [swp_swp]; exact h2, h3⟩
  have := h.2 w Im (fun q => ρ (swp a b q)) vs hG hIm hgl (by rw [hsz, swapL_length]) (fun i v x h1 h2 => by
    have h3 := hra i v (x.swap a b) h1 (by rw [swapL_get, h2]; rfl)
    have h4 := h3.swap (ρ' := fun q => ρ (swp a b q)) a b hρ
    rw [back] at h4; exact h4) ⟨fun r o hr => by
      obtain ⟨l, h1, h2, h3⟩ := hrel.obj (swp a b r) (o.swap a b) (by rw [lkH_swap, hr]; rfl)
      have h4 := h2.swap (ρ' := fun q => ρ (swp a b q)) a b hρ
      rw [backO] at h4
      exact ⟨l, h1, h4, h3⟩, fun r r' o o' l l' h1 h2 hne g1 g2 => hrel.dis (swp a b r) (swp a b r') (o.swap a b) (o'.swap a b) l l' (by rw [lkH_swap, h1]; rfl) (by rw [lkH_swap, h2]; rfl) (fun e => hne (swp_inj e)) g1 g2⟩
  refine this.mono fun e w' he => ?_
  cases e with
  | returned v =>
    obtain ⟨res', ho', Im', ρ', h1, h2, h3, A⟩ := he
    injection h1 with e1 e2; subst e1; subst e2
    have hρ' : ∀ r, (fun q => ρ' (swp a b q)) (swp a b r) = ρ' r := fun r => by simp only [swp_swp]
    refine ⟨_, _, Im', fun q => ρ' (swp a b q), rfl, h2.swap a b hρ', fun r hr => ?_, ?_⟩
    · rw [ment_swap] at hr
      have := h3 _ hr
      rw [← swp_swp a b r, lkH_swap]
      simpa using this
    · refine ⟨⟨A.grows.size, A.grows.os, A.grows.tape, A.grows.output, fun bk hb hn => A.grows.block bk hb fun h => hn (hT bk h)⟩, A.im, fun bk hb => ⟨(A.imn bk hb).1, (A.imn bk hb).2.imp id fun h => h.imp id (hT bk)⟩, ⟨fun r o hr => ?_, fun r r' o o' l l' h1 h2 hne g1 g2 => ?_⟩, fun r o hr l' hl' => ?_, fun r o hr q hq => ?_⟩
      · obtain ⟨o', h4, rfl⟩ := lkH_unswap hr
        obtain ⟨l, h5, h6, h7⟩ := A.rel.obj _ o' h4
        exact ⟨l, h5, h6.swap a b hρ', fun bk hb => ⟨(h7 bk hb).1, (h7 bk hb).2.1, (h7 bk hb).2.2.imp id (hT bk)⟩⟩
      · obtain ⟨o1, h4, _⟩ := lkH_unswap h1
        obtain ⟨o2, h5, _⟩ := lkH_unswap h2
        exact A.rel.dis _ _ o1 o2 l l' h4 h5 (fun e => hne (swp_inj e)) g1 g2
      · obtain ⟨o', h4, _⟩ := lkH_unswap hr
        obtain ⟨l, h5, h6⟩ := A.anc _ o' h4 l' hl'
        simp only [swp_swp] at h5
        exact ⟨l, h5, h6⟩
      · obtain ⟨o', h4, rfl⟩ := lkH_unswap hr
        rw [mentO_swap] at hq
        have := A.cl _ o' h4 _ hq
        rw [← swp_swp a b q, lkH_swap]
        simpa using this
  | panicked ch =>
    obtain ⟨ho', Im', ρ', h1, h4⟩ := he
    exact absurd h1 (by simp)
  | outgrown => exact he
end Go.Ax

namespace Go.Ax
theorem Ctr.swapG {E : Env} {f : FuncId} {args : List AV} {hin : HL} {post post' : AOut → Prop} (a b : Nat) (h : Ctr E f args hin post) (hr : ∀ res ho, post (.ret res ho) → post' (.ret (res.swap a b) (HL.swap a b ho))) (hp : ∀ ch ho, post (.pan ch ho) → post' (.pan ch (HL.swap a b ho))) : Ctr E f (AV.swapL a b args) (HL.swap a b hin) post' := by
  refine ⟨h.1, fun w Im ρ vs hG hIm hgl hsz hra hrel => ?_⟩
  -- the names as the contract has them
  have back : ∀ x : AV, (x.swap a b).swap a b = x := by
    intro x
    induction x using AV.rec (motive_2 := fun l => AV.swapL a b (AV.swapL a b l) = l) with
    | junk => rfl
    | d x => rfl
    | dagg cs => rfl
    | agg cs ih => simp [AV.swap, ih]
    | tup cs ih => simp [AV.swap, ih]
    | ptr q off => simp [AV.swap, swp_swp]
    | ep cs => rfl
    | msl q n off len => simp [AV.swap, swp_swp]
    | mptr q n i j => simp [AV.swap, swp_swp]
    | mp q => simp [AV.swap, swp_swp]
    | clo fn f c ih1 ih2 => simp [AV.swap, ih1, ih2]
    | ifc t x ih => simp [AV.swap, ih]
    | nil => rfl
    | cons x xs ih1 ih2 => simp [AV.swapL, ih1, ih2]
  have backO : ∀ o : AObj, (o.swap a b).swap a b = o := fun o => by
    cases o with
    | var cs =>
      have : ∀ l : List AV, AV.swapL a b (AV.swapL a b l) = l := fun l => by induction l with
        | nil => rfl
        | cons x xs ih => simp [AV.swapL, ih, back]
      simp [AObj.swap, this]
    | lbuf e els x => simp [AObj.swap, back]
    | _ => rfl
  have hρ : ∀ r, (fun q => ρ (swp a b q)) (swp a b r) = ρ r := fun r => by simp only [swp_swp]
  have hT : ∀ bk, TIn (fun q => ρ (swp a b q)) hin bk → TIn ρ (HL.swap a b hin) bk := fun bk ⟨r, o, l, h1, h2, h3⟩ => ⟨swp a b r, o.swap a b, l, by rw [lkH_swap, h1]; rfl, h2, h3⟩
  have hT' : ∀ bk, TIn ρ (HL.swap a b hin) bk → TIn (fun q => ρ (swp a b q)) hin bk := fun bk ⟨r, o, l, h1, h2, h3⟩ => by
    obtain ⟨o', h4, _⟩ := lkH_unswap h1
    exact ⟨swp a b r, o', l, h4, by simp only [swp_swp]; exact h2, h3⟩
  have := h.2 w Im (fun q => ρ (swp a b q)) vs hG hIm hgl (by rw [hsz, swapL_length]) (fun i v x h1 h2 => by
    have h3 := hra i v (x.swap a b) h1 (by rw [swapL_get, h2]; rfl)
    have h4 := h3.swap (ρ' := fun q => ρ (swp a b q)) a b hρ
    rw [back] at h4; exact h4) ⟨fun r o hr => by
      obtain ⟨l, h1, h2, h3⟩ := hrel.obj (swp a b r) (o.swap a b) (by rw [lkH_swap, hr]; rfl)
      have h4 := h2.swap (ρ' := fun q => ρ (swp a b q)) a b hρ
      rw [backO] at h4
      exact ⟨l, h1, h4, h3⟩, fun r r' o o' l l' h1 h2 hne g1 g2 => hrel.dis (swp a b r) (swp a b r') (o.swap a b) (o'.swap a b) l l' (by rw [lkH_swap, h1]; rfl) (by rw [lkH_swap, h2]; rfl) (fun e => hne (swp_inj e)) g1 g2⟩
  have aft : ∀ (w' : World) (Im' : Nat → Prop) (ρ' : Nat → Option Loc) (ho' : HL), After w Im (fun q => ρ (swp a b q)) hin w' Im' ρ' ho' → After w Im ρ (HL.swap a b hin) w' Im' (fun q => ρ' (swp a b q)) (HL.swap a b ho') := fun w' Im' ρ' ho' A => by
    have hρ' : ∀ r, (fun q => ρ' (swp a b q)) (swp a b r) = ρ' r := fun r => by simp only [swp_swp]
    refine ⟨⟨A.grows.size, A.grows.os, A.grows.tape, A.grows.output, fun bk hb hn => A.grows.block bk hb fun h => hn (hT bk h)⟩, A.im, fun bk hb => ⟨(A.imn bk hb).1, (A.imn bk hb).2.imp id fun h => h.imp id (hT bk)⟩, ⟨fun r o hr => ?_, fun r r' o o' l l' h1 h2 hne g1 g2 => ?_⟩, fun r o hr l' hl' => ?_, fun r o hr q hq => ?_⟩
    · obtain ⟨o', h4, rfl⟩ := lkH_unswap hr
      obtain ⟨l, h5, h6, h7⟩ := A.rel.obj _ o' h4
      exact ⟨l, h5, h6.swap a b hρ', fun bk hb => ⟨(h7 bk hb).1, (h7 bk hb).2.1, (h7 bk hb).2.2.imp id (hT bk)⟩⟩
    · obtain ⟨o1, h4, _⟩ := lkH_unswap h1
      obtain ⟨o2, h5, _⟩ := lkH_unswap h2
      exact A.rel.dis _ _ o1 o2 l l' h4 h5 (fun e => hne (swp_inj e)) g1 g2
    · obtain ⟨o', h4, _⟩ := lkH_unswap hr
      obtain ⟨l, h5, h6⟩ := A.anc _ o' h4 l' hl'
      simp only [swp_swp] at h5
      exact ⟨l, h5, h6⟩
    · obtain ⟨o', h4, rfl⟩ := lkH_unswap hr
      rw [mentO_swap] at hq
      have := A.cl _ o' h4 _ hq
      rw [← swp_swp a b q, lkH_swap]
      simpa using this
  refine this.mono fun e w' he => ?_
  cases e with
  | returned v =>
    obtain ⟨res', ho', Im', ρ', h1, h2, h3, A⟩ := he
    have hρ' : ∀ r, (fun q => ρ' (swp a b q)) (swp a b r) = ρ' r := fun r => by simp only [swp_swp]
    refine ⟨_, _, Im', fun q => ρ' (swp a b q), hr _ _ h1, h2.swap a b hρ', fun r hr => ?_, aft _ _ _ _ A⟩
    rw [ment_swap] at hr
    have := h3 _ hr
    rw [← swp_swp a b r, lkH_swap]
    simpa using this
  | panicked ch =>
    obtain ⟨ho', Im', ρ', h1, A⟩ := he
    exact ⟨_, Im', fun q => ρ' (swp a b q), hp _ _ h1, aft _ _ _ _ A⟩
  | outgrown => exact he
end Go.Ax
