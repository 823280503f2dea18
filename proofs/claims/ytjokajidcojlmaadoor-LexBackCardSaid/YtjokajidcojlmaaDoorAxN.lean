/- Abstract execution, part N: regions and code are told soundly; contracts out of bodies. -/
import Derived.Test.YtjokajidcojlmaaDoorAxM
namespace Go.Ax

structure Ax where
  E : Env
  tab : List (Nat × TI)
  ok : TabOk E.P tab

theorem lk_dst {s : St} {dst : Option Tmp} {x : AV} {h : HL} : (s.set dst x h).F = (match dst with | some d => upd s.F d x | none => s.F) := by
  cases dst with
  | none => rfl
  | some d => exact lk_cons d x s.f

theorem Sim.set {c : Cx} {Im : Nat → Prop} {ρ : Nat → Option Loc} {s : St} {H : Nat → Option AObj} {h : HL} {a : Act} {w : World} {k : Kn} {dst : Option Tmp} {v : Value} {x : AV} (S : Sim c Im ρ s.F H a w) (hn : c.nt = k.nt) (hd : dstIn k.nt dst = true) (hv : RA (hp w) Im ρ v x) (hH : H = fun r => lkH r h) :
    Sim c Im ρ (s.set dst x h).F (s.set dst x h).H (a.put dst v) w := by
  rw [lk_dst]
  cases dst with
  | none => subst hH; exact S
  | some d =>
    have hd : d < c.nt := by rw [hn]; simpa [dstIn] using hd
    subst hH
    exact S.put hd hv

theorem guard_ok {c : Cx} {Im : Nat → Prop} {ρ : Nat → Option Loc} {s : St} {a : Act} {w : World} {k : Kn} {ops : List Oper} {o : Oper} {b want : Bool} (S : Sim c Im ρ s.F s.H a w) (hn : c.nt = k.nt) (hall : ops.all (fun o => dstIn k.nt o.dst) = true) (h : guardV ops s o.guard = some (b, want)) : Region.wanted o (yielded ops.toArray a.tmps) = (b == want) := by
  unfold Region.wanted
  cases hg : o.guard with
  | none => rw [hg] at h; simp only [guardV] at h; injection h with h; injection h with h1 h2; subst h1; subst h2; rfl
  | some p =>
    obtain ⟨j, want'⟩ := p
    rw [hg] at h
    simp only [guardV, nth_eq] at h
    split at h
    · rename_i oj hj
      split at h
      · rename_i d hd
        have hdn : d < c.nt := by
          have := List.all_eq_true.1 hall oj (List.mem_of_getElem? hj)
          rw [hd] at this; rw [hn]; simpa [dstIn] using this
        have hra := S.fr d hdn
        have hsz : d < a.tmps.size := by rw [S.nt]; exact hdn
        have hget : a.tmps[d]? = some (a.tmps.getD d undef) := by simp [Array.getD, hsz]
        simp only [St.F] at hra
        split at h
        · rename_i v hl
          rw [hl] at hra
          have hv := hra.v
          have hy : yielded ops.toArray a.tmps j = some v := by
            simp only [yielded, List.getElem?_toArray, hj, Option.bind_some, hd, hget, hv]
          injection h with h; injection h with h1 h2; subst h1; subst h2
          show (yielded ops.toArray a.tmps j == some want') = (v == want')
          rw [hy]
          cases want' <;> cases v <;> rfl
        · rename_i hl
          injection h with h; injection h with h1 h2; subst h1; subst h2
          rw [hl] at hra
          generalize hv : a.tmps.getD d undef = v at hra
          cases hra with
          | tup cs _ hlen _ =>
            have hy : yielded ops.toArray a.tmps j = none := by
              simp only [yielded, List.getElem?_toArray, hj, Option.bind_some, hd, hget, hv]
            show (yielded ops.toArray a.tmps j == some want') = ((!want') == want')
            rw [hy]; cases want' <;> rfl
        · simp at h
      · simp at h
    · simp at h

variable {X : Ax} {k : Kn}

theorem evL_ok {c : Cx} {Im : Nat → Prop} {ρ : Nat → Option Loc} {s : St} {a : Act} {w : World} (S : Sim c Im ρ s.F s.H a w) (hn : c.nt = k.nt) {xs : List Operand} (h : xs.all (inN k.nt) = true) (i : Nat) (v : Value) (x : AV) (h1 : (xs.map a.eval)[i]? = some v) (h2 : (evL s xs)[i]? = some x) : RA (hp w) Im ρ v x := by
  simp only [evL, List.getElem?_map, Option.map_eq_some_iff] at h1 h2
  obtain ⟨y, hy, rfl⟩ := h1
  obtain ⟨z, hz, rfl⟩ := h2
  rw [hy] at hz; injection hz with hz; subst hz
  have hin := inN_spec (List.all_eq_true.1 h y (List.mem_of_getElem? hy))
  exact S.ev (fun t e => ⟨hn ▸ hin.2 t e, rfl⟩) hin.1

theorem eff_step {K : St → Prop} {o : Oper} {s : St} {c : Cx} {Im : Nat → Prop} {ρ : Nat → Option Loc} {a : Act} {w : World} {Q : Exit → Act → World → Prop} {next : Act → World → Prop} {e : Eff} (ok : c.Ok X.E) (hn : c.nt = k.nt) (ha : c.anc = k.anc) (S : Sim c Im ρ s.F s.H a w) (hd : dstIn k.nt o.dst = true)
    (hg : Good X.E k o.op o.type s e) (hnew : ∀ r, e.new = some r → Unm c r s.F s.H) (h : condP e.cond (afterP s o.dst e.val e.wh K)) (hK : ∀ s' Im' ρ' a' w', K s' → Sim c Im' ρ' s'.F s'.H a' w' → next a' w') : o.upon X.E.P a next Q ((execOp a.eval o).run X.E.P w) := by
  obtain ⟨hcond, hk⟩ := condP_spec h
  have hk := afterP_spec hk
  obtain ⟨hok, hrh⟩ := hg
  obtain ⟨v, w', hrun, Im', ρ', S', hra⟩ := hok c Im ρ s.F s.H a w o ok hn ha S rfl rfl (fun _ _ => rfl) (fun r x hx => hrh r x hx) hnew hcond
  have S2 : Sim c Im' ρ' (s.after o.dst e).F (s.after o.dst e).H (a.put o.dst v) w' := by
    have hF : (s.after o.dst e).F = (match o.dst with | some d => upd s.F d e.val | none => s.F) := by
      simp only [St.after]
      cases o.dst with
      | none => rfl
      | some d => exact lk_cons d e.val s.f
    have hH : (s.after o.dst e).H = updO s.H e.wh := by
      simp only [St.after]
      cases e.wh with
      | none => rfl
      | some p => obtain ⟨r, ob⟩ := p; exact lkH_cons r ob s.h
    rw [hF, hH]
    cases hdd : o.dst with
    | none => exact S'
    | some d =>
      have hd' : d < c.nt := by rw [hn]; rw [hdd] at hd; simpa [dstIn] using hd
      exact S'.put hd' hra
  rcases hrun with hrun | ⟨hrun, rfl⟩
  · rw [hrun]; exact hK _ _ _ _ _ hk S2
  · rw [hrun]; exact hK _ _ _ _ _ hk S2

theorem opP_ok {KP : List PanicEntry → St → Prop} {K : St → Prop} {o : Oper} {s : St} {c : Cx} {Im : Nat → Prop} {ρ : Nat → Option Loc} {a : Act} {w : World} {Q : APost} {next : Act → World → Prop} (ok : c.Ok X.E) (hn : c.nt = k.nt) (ha : c.anc = k.anc) (S : Sim c Im ρ s.F s.H a w) (hd : dstIn k.nt o.dst = true)
    (hP : ∀ ch s, KP ch s → Q (.panic ch) s) (h : opP X.E X.tab k KP o s K) (hK : ∀ s' Im' ρ' a' w', K s' → Sim c Im' ρ' s'.F s'.H a' w' → next a' w') : o.wp X.E.P a w next (Lift c Q) := by
  unfold opP at h
  unfold Oper.wp
  split at h
  · rename_i f args ats hop
    split at h
    · rename_i fid caps hcal hargs hf
      have h := strictL_spec h
      obtain ⟨hin, post, hctr, hhin, hret, hpan⟩ := h.ok
      have hcv : ∃ cvs : Array Value, (resolve a.eval { callee := .value f, args, argTypes := ats } o.type).run X.E.P w = .ok { target := .fn (.func fid) cvs, args := args.map a.eval } w ∧ cvs.size = caps.length ∧ ∀ (i : Nat) (v : Value) (x : AV), cvs[i]? = some v → caps[i]? = some x → RA (hp w) Im ρ v x := by
        unfold calleeOf at hcal
        split at hcal
        · rename_i f0
          injection hcal with hcal; injection hcal with h1 h2; subst h1; subst h2
          exact ⟨#[], by simp [resolve, Deferred.ofValue, Act.eval], rfl, by simp⟩
        · rename_i t
          split at hcal
          · rename_i f0 caps0 hl
            injection hcal with hcal; injection hcal with h1 h2; subst h1; subst h2
            have ht : t < c.nt := by rw [hn]; simpa [inN] using hf
            have hra := S.fr t ht
            simp only [St.F] at hra
            rw [hl] at hra
            have hev : a.eval (.tmp t) = a.tmps.getD t undef := rfl
            generalize hv : a.tmps.getD t undef = v at hra
            cases hra with
            | clo fn fs cs lf lc hfs hcs hrf hrc =>
              have hfs0 : fs = #[] := Array.eq_empty_of_size_eq_zero (by simpa using hfs)
              subst hfs0
              exact ⟨cs, by simp [resolve, Deferred.ofValue, hev, hv], hcs, hrc⟩
          · simp at hcal
        · simp at hcal
      obtain ⟨cvs, hres, hcs, hcr⟩ := hcv
      have hrun : (execOp a.eval o).run X.E.P w = .ok (.enter fid (args.map a.eval ++ cvs)) w := by
        simp [execOp, hop, hres, invoke, run_callFunc hctr.1]
      rw [hrun]
      simp only [Oper.upon]
      have hcall := hctr.2 w Im ρ (args.map a.eval ++ cvs) (S.G ok) (fun b hb => (S.imn b hb).1) (fun b hb => S.im0 b (ok.gl b hb)) (by simp [evL, hcs]) (fun i v x h1 h2 => by
        by_cases hi : i < args.size
        · rw [Array.getElem?_append_left (by simpa using hi)] at h1
          rw [List.getElem?_append_left (by simpa [evL] using hi)] at h2
          exact evL_ok S hn hargs i v x (by simpa using h1) h2
        · rw [Array.getElem?_append_right (by simpa using hi)] at h1
          rw [List.getElem?_append_right (by simp [evL]; omega)] at h2
          exact hcr (i - args.size) v x (by simpa using h1) (by simpa [evL] using h2)) (S.hrel hhin)
      refine hcall.mono fun e w' he => ?_
      cases e with
      | returned v =>
        obtain ⟨res, ho, Im', ρ', hpost, hra, hcl, haft⟩ := he
        obtain ⟨hfr, hk⟩ := hret res ho hpost
        have S' := S.call hhin haft (fun r o hr => (hfr r o hr).imp id fun h => unmB_spec (by rw [ha]; exact h))
        exact hK _ _ _ _ _ (setP_spec (strictH_spec hk)) (S'.set hn hd (hcl.back (ρ := ρ) (hin := hin) hra) rfl)
      | panicked ch =>
        obtain ⟨ho, Im', ρ', hpost, haft⟩ := he
        obtain ⟨hfr, hk⟩ := hpan ch ho hpost
        have S' := S.call hhin haft (fun r o hr => (hfr r o hr).imp id fun h => unmB_spec (by rw [ha]; exact h))
        exact ⟨by simp, _, _, { f := s.f, h := s.back hin ho }, S', hP _ _ hk⟩
      | outgrown => exact he.elim
    · exact h.elim
  · have h := withDst_spec h
    split at h
    · rename_i val rh wh new cond hin hr
      split at h
      · rename_i hnew
        exact eff_step ok hn ha S hd (opR_ok X.ok hin hr) (fun r hx => by have hx : new = some r := hx; rw [hx] at hnew; exact unmB_spec (by rw [ha]; exact hnew)) h hK
      · exact h.elim
    · rename_i hin hr
      split at h
      · rename_i b v1 r1 w1 c1 v2 r2 w2 c2 hs
        obtain ⟨g1, g2⟩ := opS_ok (E := X.E) (k := k) (ty := o.type) hin hs
        cases b with
        | true => exact eff_step ok hn ha S hd (g1 rfl) (fun r hx => by simp at hx) h hK
        | false => exact eff_step ok hn ha S hd (g2 rfl) (fun r hx => by simp at hx) h hK
      · exact h.elim
      · have go : ∀ r : Bool, (execOp a.eval o).run X.E.P w = .ok (.value (.bool r)) w → afterP s o.dst (.d (.v (.bool r))) none K → o.upon X.E.P a next (Lift c Q) ((execOp a.eval o).run X.E.P w) := fun r hrun hk => by
          have hk := afterP_spec (e := { val := .d (.v (.bool r)) }) hk
          rw [hrun]
          refine hK _ Im ρ _ w hk ?_
          have hF : (s.after o.dst { val := .d (.v (.bool r)) }).F = (match o.dst with | some d => upd s.F d (.d (.v (.bool r))) | none => s.F) := by
            simp only [St.after]
            cases o.dst with
            | none => rfl
            | some d => exact lk_cons d _ s.f
          rw [hF]
          cases hdd : o.dst with
          | none => exact S
          | some d =>
            have hd' : d < c.nt := by rw [hn]; rw [hdd] at hd; simpa [dstIn] using hd
            exact S.put hd' (RA.intv _ rfl)
        split at h
        · rename_i els he
          obtain ⟨b, hb, hrun⟩ := opNilSl_ok (k := k) X.ok hin he c Im ρ s.F s.H a w o hn S rfl (fun _ _ => rfl)
          exact go b hrun (h b hb)
        · rename_i els he
          obtain ⟨b, hb, hrun⟩ := opNilSl_ok (k := k) X.ok hin he c Im ρ s.F s.H a w o hn S rfl (fun _ _ => rfl)
          exact go (!b) hrun (h b hb)
        · exact h.elim
        · split at h
          · rename_i val rh wh cond hg
            exact eff_step ok hn ha S hd (opG_ok X.ok hin hg) (fun r hx => by simp at hx) h hK
          · exact h.elim
    · exact h.elim

theorem runP_ok {ops : List Oper} {KP : List PanicEntry → St → Prop} {K : St → Prop} {Q : APost} (hall : ops.all (fun o => dstIn k.nt o.dst) = true) (hP : ∀ ch s, KP ch s → Q (.panic ch) s) (hK : ∀ s, K s → Q .normal s) : ∀ (l : List Oper) {s : St} {c : Cx} {Im : Nat → Prop} {ρ : Nat → Option Loc} {a : Act} {w : World}, c.Ok X.E → c.nt = k.nt → c.anc = k.anc → Sim c Im ρ s.F s.H a w →
    runP X.E X.tab k ops K KP l s → wpList X.E.P ops.toArray (Lift c Q) l a w
  | [], s, c, Im, ρ, a, w, _, _, _, S, h => ⟨by simp, Im, ρ, s, S, hK s h⟩
  | o :: rest, s, c, Im, ρ, a, w, ok, hn, ha, S, h => by
    unfold runP at h
    split at h
    · rename_i b want hd hg
      have hw := guard_ok S hn hall hg
      unfold wpList
      rw [hw]
      have hyes : opP X.E X.tab k KP o s (runP X.E X.tab k ops K KP rest) → o.wp X.E.P a w (wpList X.E.P ops.toArray (Lift c Q) rest) (Lift c Q) := fun h => opP_ok ok hn ha S hd hP h fun s' Im' ρ' a' w' hk S' => runP_ok hall hP hK rest ok hn ha S' hk
      have hno : skipP s o.dst (runP X.E X.tab k ops K KP rest) → wpList X.E.P ops.toArray (Lift c Q) rest (a.put o.dst undef) w := fun h => runP_ok hall hP hK rest ok hn ha (S.set hn hd (.tup #[] [] rfl (by simp)) rfl) (skipP_spec h)
      cases want with
      | true =>
        cases b with
        | true => exact .inl (hyes h)
        | false => exact hno h
      | false =>
        cases b with
        | true => exact hno h
        | false => exact .inl (hyes h)
    · exact h.elim

theorem AWp.region {id : Nat} {ops : Array Oper} {Q : APost} {s : St} (hall : ops.toList.all (fun o => dstIn k.nt o.dst) = true) (h : runP X.E X.tab k ops.toList (fun s => Q .normal s) (fun ch s => Q (.panic ch) s) ops.toList s) : AWp X.E k (.region id ops false) Q s := fun c ok hn ha Im ρ a w S =>
  wp_region_list (by simpa using runP_ok (X := X) (Q := Q) hall (fun _ _ h => h) (fun _ h => h) ops.toList ok hn ha S h)

end Go.Ax
