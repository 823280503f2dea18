/- Abstract execution, part O: results; contracts out of bodies; code as one function. -/
import Derived.Test.YtjokajidcojlmaaDoorAxN
namespace Go.Ax

/-! ### What is handed back -/
def settle (ho : HL) (s : St) : AV → AV
  | .msl r n off len => match lkH r ho with
    | some _ => .msl r n off len
    | none => match lkH r s.h with
      | some (.buf sz _ els) => .d (.sl false sz ((els.drop off).take len))
      | _ => .junk
  | .tup cs => .tup (settleL cs)
  | .agg cs => .agg (settleL cs)
  | x => x
where
  settleL : List AV → List AV
  | [] => []
  | x :: xs => settle ho s x :: settleL xs
def settleC (ho : HL) (s : St) : AV → List Prop
  | .msl r n off len => match lkH r ho with
    | some _ => []
    | none => match lkH r s.h with
      | some (.buf _ _ els) => [n = els.length, off + len ≤ els.length]
      | _ => []
  | .tup cs => settleCL cs
  | .agg cs => settleCL cs
  | _ => []
where
  settleCL : List AV → List Prop
  | [] => []
  | x :: xs => settleC ho s x ++ settleCL xs

theorem settleL_get {ho : HL} {s : St} : ∀ (cs : List AV) (i : Nat), (settle.settleL ho s cs)[i]? = (cs[i]?).map (settle ho s)
  | [], i => by simp [settle.settleL]
  | x :: xs, 0 => by simp [settle.settleL]
  | x :: xs, i + 1 => by simp [settle.settleL, settleL_get xs i]
theorem settleL_length {ho : HL} {s : St} : ∀ (cs : List AV), (settle.settleL ho s cs).length = cs.length
  | [] => rfl
  | x :: xs => by simp [settle.settleL, settleL_length xs]
theorem settleCL_get {ho : HL} {s : St} : ∀ {cs : List AV} {i : Nat} {x : AV}, AllL (settleC.settleCL ho s cs) → cs[i]? = some x → AllL (settleC ho s x)
  | [], i, x, _, h => by simp at h
  | y :: ys, 0, x, hc, h => by simp at h; subst h; exact (AllL_append hc).1
  | y :: ys, i + 1, x, hc, h => settleCL_get (AllL_append hc).2 (by simpa using h)

def closedB (ho : HL) : AV → Bool
  | .ptr r _ | .msl r _ _ _ | .mptr r _ _ _ | .mp r => (lkH r ho).isSome
  | .agg cs | .tup cs => closedL cs
  | .clo _ f c => match closedL f with
    | true => closedL c
    | false => false
  | .ifc _ x => closedB ho x
  | _ => true
where
  closedL : List AV → Bool
  | [] => true
  | x :: xs => match closedB ho x with
    | true => closedL xs
    | false => false

mutual
theorem closedB_spec {ho : HL} : ∀ {x : AV}, closedB ho x = true → Closed ho x
  | .ptr r _, h => fun q hq => by simp [AV.ment] at hq; subst hq; exact h
  | .msl r _ _ _, h => fun q hq => by simp [AV.ment] at hq; subst hq; exact h
  | .mptr r _ _ _, h => fun q hq => by simp [AV.ment] at hq; subst hq; exact h
  | .mp r, h => fun q hq => by simp [AV.ment] at hq; subst hq; exact h
  | .agg cs, h => fun q hq => closedL_spec (cs := cs) h q hq
  | .tup cs, h => fun q hq => closedL_spec (cs := cs) h q hq
  | .clo _ f c, h => fun q hq => by
    simp only [closedB] at h
    split at h
    · rename_i h1
      simp only [AV.ment, Bool.or_eq_true] at hq
      rcases hq with hq | hq
      · exact closedL_spec h1 q hq
      · exact closedL_spec h q hq
    · simp at h
  | .ifc _ x, h => fun q hq => closedB_spec (x := x) h q hq
  | .junk, _ => fun q hq => by simp [AV.ment] at hq
  | .d _, _ => fun q hq => by simp [AV.ment] at hq
  | .dagg _, _ => fun q hq => by simp [AV.ment] at hq
  | .ep _, _ => fun q hq => by simp [AV.ment] at hq
theorem closedL_spec {ho : HL} : ∀ {cs : List AV}, closedB.closedL ho cs = true → ∀ q, AV.ment.mentL q cs = true → (lkH q ho).isSome = true
  | [], _, q, hq => by simp [AV.ment.mentL] at hq
  | x :: xs, h, q, hq => by
    simp only [closedB.closedL] at h
    split at h
    · rename_i h1
      simp only [AV.ment.mentL, Bool.or_eq_true] at hq
      rcases hq with hq | hq
      · exact closedB_spec h1 q hq
      · exact closedL_spec h q hq
    · simp at h
end

def closedOB (ho : HL) : AObj → Bool
  | .var cs => closedB.closedL ho cs
  | _ => true
def closedH (ho : HL) : HL → Bool
  | [] => true
  | (_, some o) :: r => match closedOB ho o with
    | true => closedH ho r
    | false => false
  | (_, none) :: r => closedH ho r
theorem closedH_spec {ho : HL} : ∀ {h : HL}, closedH ho h = true → ∀ r o, lkH r h = some o → ClosedO ho o
  | [], _, r, o, hr => by simp [lkH] at hr
  | (q, some x) :: rest, h, r, o, hr => by
    simp only [closedH] at h
    split at h
    · rename_i h1
      simp only [lkH] at hr
      split at hr
      · injection hr with hr; subst hr
        cases x with
        | var cs => exact fun q hq => closedL_spec h1 q hq
        | _ => exact fun q hq => by simp [AObj.ment] at hq
      · exact closedH_spec h r o hr
    · simp at h
  | (q, none) :: rest, h, r, o, hr => by
    simp only [closedH] at h
    simp only [lkH] at hr
    split at hr
    · simp at hr
    · exact closedH_spec h r o hr

/-- All of a call's own objects that aren't handed back become immutable. -/
def restIm (Im : Nat → Prop) (ρ : Nat → Option Loc) (s : St) (ho : HL) (b : Nat) : Prop := Im b ∨ ∃ r o l, lkH r s.h = some o ∧ lkH r ho = none ∧ ρ r = some l ∧ b ∈ l.fp
def restρ (ρ : Nat → Option Loc) (ho : HL) (r : Nat) : Option Loc := if (lkH r ho).isSome then ρ r else none

theorem RD.ofBuf {h : Nat → Option Obj} {Im Im' : Nat → Prop} {ρ : Nat → Option Loc} {l : Loc} {sz : Nat} {el : TypeId} {els : List (List D)} {off len : Nat} (H : RO h Im ρ l (.buf sz el els)) (hI : ∀ b, Im b → Im' b) (hl : ∀ b ∈ l.fp, Im' b) (hle : off + len ≤ els.length) :
    RD h Im' (l.sub off len) (.sl false sz ((els.drop off).take len)) := by
  obtain ⟨_, _, h2, _, h4, h5⟩ := H
  by_cases hz : len = 0
  · subst hz; rw [List.take_zero]; exact .nil false sz _ _ (by simp)
  · rcases h5 with ⟨_, h6, _⟩ | ⟨b, ms, h6, h7, h8, _, _, h11⟩
    · subst h6; simp at hle; omega
    · have hlen : ((els.drop off).take len).length = len := by simp; omega
      have hv : l.sub off len = .slice (some ⟨b, off * sz, none⟩) len (l.cap - off) := by
        simp only [Loc.sub, Loc.addr, h6, h2]
        rw [if_neg (by omega)]
        simp [add_zero_spot]
      rw [hv]
      have key := RD.row (h := h) (Im := Im') (b := b) (o := off * sz) (cap := l.cap - off) (sz := sz) (els := (els.drop off).take len) (tight := false) (cs := ms) (t := el) (fz := (0, 0)) (hl b (by simp [Loc.fp, h6])) h7
        (fun q hq => h4 q (List.mem_of_mem_drop (List.mem_of_mem_take hq))) (by rw [hlen]; omega) (by simp) (fun i j q x e1 e2 => by
          rw [List.getElem?_take] at e1
          split at e1
          · rw [List.getElem?_drop] at e1
            obtain ⟨v, k1, k2⟩ := h11 _ j q x e1 e2
            exact ⟨v, by rw [← k1]; congr 1; rw [Nat.add_mul]; omega, k2.mono hI fun _ _ => rfl⟩
          · simp at e1)
      rwa [hlen] at key

theorem settle_RA {c : Cx} {Im : Nat → Prop} {ρ : Nat → Option Loc} {s : St} {a : Act} {w : World} {ho : HL} (S : Sim c Im ρ s.F s.H a w) {v : Value} {x : AV} (H : RA (hp w) Im ρ v x) : AllL (settleC ho s x) → RA (hp w) (restIm Im ρ s ho) (restρ ρ ho) v (settle ho s x) := by
  have base : ∀ {v : Value} {x : AV}, RA (hp w) Im ρ v x → RA (hp w) (restIm Im ρ s ho) (restρ ρ ho) v x := fun h => h.mono (fun _ h => .inl h) (fun _ _ => rfl) fun r _ l' hl' => by
    unfold restρ at hl'
    split at hl'
    · exact ⟨l', hl', .inl rfl⟩
    · simp at hl'
  induction H with
  | agg cs l hl hr ih =>
    intro hc
    refine .agg cs _ (by rw [settleL_length]; exact hl) fun i v x h1 h2 => ?_
    rw [settleL_get, Option.map_eq_some_iff] at h2
    obtain ⟨y, hy, rfl⟩ := h2
    exact ih i v y h1 hy (settleCL_get hc hy)
  | tup cs l hl hr ih =>
    intro hc
    refine .tup cs _ (by rw [settleL_length]; exact hl) fun i v x h1 h2 => ?_
    rw [settleL_get, Option.map_eq_some_iff] at h2
    obtain ⟨y, hy, rfl⟩ := h2
    exact ih i v y h1 hy (settleCL_get hc hy)
  | msl x r n off len h1 hp2 =>
    intro hc
    simp only [settle, settleC] at hc ⊢
    cases h2 : lkH r ho with
    | some o => exact base (.msl x r n off len h1 hp2)
    | none =>
      simp only [h2] at hc ⊢
      cases h3 : lkH r s.h with
      | none => exact .junk _
      | some o =>
        cases o with
        | buf sz el els =>
          simp only [h3] at hc ⊢
          obtain ⟨l, hl, hro, _⟩ := S.obj r _ h3
          have hv := (hp2 l hl).2 (by rw [hro.2.2.2.1]; exact hc.1)
          rw [hv]
          exact .d _ _ (RD.ofBuf hro (fun _ h => .inl h) (fun b hb => .inr ⟨r, _, l, h3, h2, hl, hb⟩) hc.2.1)
        | _ => exact .junk _
  | junk x => exact fun _ => .junk x
  | d x y hd => exact fun _ => base (.d x y hd)
  | dagg cs l hl hr => exact fun _ => base (.dagg cs l hl hr)
  | ptr x r off h1 hp2 => exact fun _ => base (.ptr x r off h1 hp2)
  | ep b o cs f hb hc hr => exact fun _ => base (.ep b o cs f hb hc hr)
  | mptr x r n i j h1 hp2 => exact fun _ => base (.mptr x r n i j h1 hp2)
  | mp x r h1 hp2 => exact fun _ => base (.mp x r h1 hp2)
  | clo fn fs cs lf lc hf hc hrf hrc _ _ => exact fun _ => base (.clo fn fs cs lf lc hf hc hrf hrc)
  | ifc t x y hx _ => exact fun _ => base (.ifc t x y hx)

/-- Behind a body: what the caller finds. -/
theorem Sim.leave {c : Cx} {Im : Nat → Prop} {ρ : Nat → Option Loc} {s : St} {a : Act} {w w0 : World} {Im0 : Nat → Prop} {ρ0 : Nat → Option Loc} {hin ho : HL} (S : Sim c Im ρ s.F s.H a w) (e1 : c.w0 = w0) (e2 : c.Im0 = Im0) (e3 : c.fp = TIn ρ0 hin) (e4 : c.anc = hin.map (·.1)) (e5 : c.ρ0 = ρ0) (hle : LeH ho s.h) (hcl : closedH ho ho = true) :
    After w0 Im0 ρ0 hin w (restIm Im ρ s ho) (restρ ρ ho) ho := by
  have hho : ∀ r o, lkH r ho = some o → lkH r s.h = some o := fun r o h => LeH.at hle r o h
  have hρ : ∀ r o, lkH r ho = some o → restρ ρ ho r = ρ r := fun r o h => by simp [restρ, h]
  have hρ' : ∀ q l', restρ ρ ho q = some l' → ρ q = some l' := fun q l' h => by
    unfold restρ at h; split at h
    · exact h
    · simp at h
  refine ⟨⟨by rw [← e1]; exact S.size, by rw [← e1]; exact S.os, by rw [← e1]; exact S.tape, by rw [← e1]; exact S.output, fun b hb ht => by rw [← e1] at hb ⊢; exact S.kept b hb (by rw [e3]; exact ht)⟩, fun b hb => .inl (S.im0 b (by rw [e2]; exact hb)), fun b hb => ?_, ⟨fun r o hr => ?_, fun r r' o o' l l' h1 h2 hne h3 h4 => ?_⟩, fun r o hr l' hl' => ?_, fun r o hr => closedH_spec hcl r o hr⟩
  · rcases hb with hb | ⟨r, o, l, h1, h2, h3, h4⟩
    · have := S.imn b hb
      rw [e1, e2, e3] at this
      exact this
    · obtain ⟨l0, h5, _, h6⟩ := S.obj r o h1
      rw [h3] at h5; injection h5 with h5; subst h5
      have := h6 b h4
      rw [e1, e3] at this
      exact ⟨this.1, .inr this.2.2⟩
  · obtain ⟨l, h1, h2, h3⟩ := S.obj r o (hho r o hr)
    refine ⟨l, by rw [hρ r o hr]; exact h1, h2.mono (fun _ h => .inl h) (fun _ _ => rfl) (fun _ _ => rfl) (fun q _ l' hl' => ⟨l', hρ' q l' hl', .inl rfl⟩), fun b hb => ?_⟩
    have h4 := h3 b hb
    rw [e1, e3] at h4
    refine ⟨h4.1, fun hi => ?_, h4.2.2⟩
    rcases hi with hi | ⟨r', o', l', g1, g2, g3, g4⟩
    · exact h4.2.1 hi
    · have hne : r ≠ r' := fun e => by subst e; rw [hr] at g2; exact absurd g2 (by simp)
      exact S.dis r r' o o' l l' (hho r o hr) g1 hne h1 g3 b hb g4
  · rw [hρ r o h1] at h3
    rw [hρ r' o' h2] at h4
    exact S.dis r r' o o' l l' (hho r o h1) (hho r' o' h2) hne h3 h4
  · obtain ⟨p, hp1, hp2⟩ := lkH_mem hr
    have := S.anc r (by rw [e4]; exact List.mem_map.2 ⟨p, hp1, hp2⟩) l' (hρ' r l' hl')
    rw [e5] at this; exact this

/-! ### Results -/
def resV (tab : List (Nat × TI)) (s : St) : ResultVar → Option (AV × List Prop)
  | .tmp t => some (lk t s.f, [])
  | .cell p ty => match opLoad tab s ty (.tmp p) with
    | some e => some (e.val, e.cond)
    | none => none
def resL (tab : List (Nat × TI)) (s : St) : List ResultVar → Option (List AV × List Prop)
  | [] => some ([], [])
  | r :: rs => match resV tab s r, resL tab s rs with
    | some (x, c), some (xs, cs) => some (x :: xs, c ++ cs)
    | _, _ => none
def outAV : List AV → AV
  | [x] => x
  | l => .tup l
def resIn (n : Nat) : ResultVar → Bool
  | .tmp t => Nat.blt t n
  | .cell p _ => Nat.blt p n

/-- A result's parts reckoned at once. -/
def strictR (v : AV) (K : AV → Prop) : Prop := match v with
  | .tup vs => strictL vs fun vs => K (.tup vs)
  | v => strictV v K
theorem strictR_spec {v : AV} {K : AV → Prop} (h : strictR v K) : K v := by
  unfold strictR at h; split at h
  · exact strictL_spec (K := fun vs => K (.tup vs)) h
  · exact strictV_spec h
def leHP (ho h : HL) (p : Prop) : Prop := match ho with
  | [] => p
  | (r, o) :: t => LeH ((r, o) :: t) h ∧ p
theorem leHP_spec {ho h : HL} {p : Prop} (hp : leHP ho h p) : LeH ho h ∧ p := by
  unfold leHP at hp; split at hp
  · exact ⟨trivial, hp⟩
  · exact hp

def retF (tab : List (Nat × TI)) (rs : List ResultVar) (ho : HL) (post : AOut → Prop) (s : St) : Prop := match resL tab s rs with
  | some (xs, cs) => match closedB ho (settle ho s (outAV xs)), closedH ho ho with
    | true, true => leHP ho s.h (condP cs (condP (settleC ho s (outAV xs)) (strictR (settle ho s (outAV xs)) fun r => post (.ret r ho))))
    | _, _ => False
  | none => False
structure RetP (tab : List (Nat × TI)) (rs : List ResultVar) (post : AOut → Prop) (s : St) : Prop where
  ok : ∃ ho, retF tab rs ho post s
structure PanP (post : AOut → Prop) (ch : List PanicEntry) (s : St) : Prop where
  ok : ∃ ho, LeH ho s.h ∧ closedH ho ho = true ∧ post (.pan ch ho)

def retP (tab : List (Nat × TI)) (rs : List ResultVar) (post : AOut → Prop) : APost
  | .ret, s | .normal, s => RetP tab rs post s
  | .panic ch, s => PanP post ch s
  | _, _ => False

def rdRes (tmps : Array Value) : ResultVar → Sem Value
  | .tmp t => pure (tmps.getD t undef)
  | .cell a t => do loadVar t (← asAddr (tmps.getD a undef))
def outV : List Value → Value
  | [x] => x
  | l => .tuple l.toArray

variable {X : Ax} {k : Kn}

theorem resV_ok {s : St} {c : Cx} {Im : Nat → Prop} {ρ : Nat → Option Loc} {a : Act} {w : World} {r : ResultVar} {x : AV} {cs : List Prop} (ok : c.Ok X.E) (hn : c.nt = k.nt) (S : Sim c Im ρ s.F s.H a w) (hin : resIn k.nt r = true) (h : resV X.tab s r = some (x, cs)) (hc : AllL cs) :
    ∃ v, (rdRes a.tmps r).run X.E.P w = .ok v w ∧ RA (hp w) Im ρ v x := by
  cases r with
  | tmp t =>
    simp only [resV] at h
    injection h with h; injection h with h1 h2; subst h1
    have ht : t < c.nt := by rw [hn]; simpa [resIn] using hin
    exact ⟨_, rfl, S.fr t ht⟩
  | cell p ty =>
    simp only [resV] at h
    split at h
    · rename_i e he
      injection h with h; injection h with h1 h2; subst h1; subst h2
      have hp2 : opIn k.nt (.load ty (.tmp p)) = true := by simpa [opIn, Op.operands, inN, resIn] using hin
      obtain ⟨hok, hrh⟩ := opLoad_pure (E := X.E) (k := k) (ty := ty) X.ok hp2 he
      have hnone := hok.1
      obtain ⟨v, h3, h4⟩ := hok.2.2 c Im ρ s.F s.H a w { (default : Oper) with op := .load ty (.tmp p), type := ty } ok hn S rfl rfl (fun _ _ => rfl) (fun r x hx => hrh r x hx) hc
      refine ⟨v, ?_, h4⟩
      have hev : a.eval (.tmp p) = a.tmps.getD p undef := rfl
      simp only [execOp, Instr.loadAt, Sem.run_bind, hev, rdRes] at h3 ⊢
      generalize a.tmps.getD p undef = u at h3 ⊢
      have hp3 : ∃ ad, u = .pointer (some ad) := by
        cases u <;> simp [Instr.sureAddr] at h3
        rename_i q
        cases q with
        | none => simp at h3
        | some ad => exact ⟨ad, rfl⟩
      obtain ⟨ad, rfl⟩ := hp3
      simp only [Instr.sureAddr, asAddr, Sem.run_pure, Result.andThen_ok] at h3 ⊢
      cases hr : (loadVar ty ad).run X.E.P w with
      | ok v' w' =>
        rw [hr] at h3
        simp only [Result.andThen_ok] at h3
        injection h3 with h5 h6
        injection h5 with h5
        subst h5; subst h6; rfl
      | halt x w' => rw [hr] at h3; simp at h3
    · simp at h

theorem run_results {P : Program} {fn : Func} {tmps : Array Value} {w : World} {vs : List Value} (h : (fn.results.toList.mapM (rdRes tmps)).run P w = .ok vs w) : (results fn tmps).run P w = .ok (outV vs) w := by
  have he : results fn tmps = (do let vs ← fn.results.mapM (rdRes tmps); pure (if h : vs.size = 1 then vs[0] else .tuple vs)) := by
    unfold results
    congr 1
  have h2 : (fn.results.mapM (rdRes tmps)).run P w = .ok vs.toArray w := by
    rw [Array.mapM_eq_mapM_toList, Sem.run_map, h]; rfl
  rw [he, Sem.run_bind, h2]
  simp only [Result.andThen_ok]
  cases vs with
  | nil => rfl
  | cons x l =>
    cases l with
    | nil => rfl
    | cons y l => simp [outV]

theorem resL_ok {s : St} {c : Cx} {Im : Nat → Prop} {ρ : Nat → Option Loc} {a : Act} {w : World} (ok : c.Ok X.E) (hn : c.nt = k.nt) (S : Sim c Im ρ s.F s.H a w) : ∀ {rs : List ResultVar} {xs : List AV} {cs : List Prop}, rs.all (resIn k.nt) = true → resL X.tab s rs = some (xs, cs) → AllL cs →
    ∃ vs : List Value, (rs.mapM (rdRes a.tmps)).run X.E.P w = .ok vs w ∧ vs.length = xs.length ∧ ∀ (i : Nat) (v : Value) (x : AV), vs[i]? = some v → xs[i]? = some x → RA (hp w) Im ρ v x
  | [], xs, cs, _, h, _ => by
    simp only [resL] at h
    injection h with h; injection h with h1 h2; subst h1
    exact ⟨[], by simp, rfl, by simp⟩
  | r :: rs, xs, cs, hin, h, hc => by
    simp only [resL] at h
    split at h
    · rename_i x c1 ys c2 h1 h2
      injection h with h; injection h with h3 h4; subst h3; subst h4
      simp only [List.all_cons, Bool.and_eq_true] at hin
      obtain ⟨v, g1, g2⟩ := resV_ok ok hn S hin.1 h1 (AllL_append hc).1
      obtain ⟨vs, g3, g4, g5⟩ := resL_ok ok hn S hin.2 h2 (AllL_append hc).2
      refine ⟨v :: vs, ?_, by simp [g4], fun i u y e1 e2 => ?_⟩
      · rw [List.mapM_cons, Sem.run_bind, g1]
        simp only [Result.andThen_ok, Sem.run_bind, g3, Sem.run_pure]
      · cases i with
        | zero => simp at e1 e2; subst e1; subst e2; exact g2
        | succ i => exact g5 i u y (by simpa using e1) (by simpa using e2)
    · simp at h

/-- A contract out of a body. -/
def entry : Nat → List AV → List (Nat × AV)
  | _, [] => []
  | i, x :: xs => (i, x) :: entry (i + 1) xs
theorem lk_entry : ∀ (xs : List AV) (i t : Nat), lk t (entry i xs) = if i ≤ t then xs.getD (t - i) .junk else .junk
  | [], i, t => by simp [entry, lk]
  | x :: xs, i, t => by
    simp only [entry, lk]
    by_cases h : i = t
    · subst h; simp
    · have : Nat.beq i t = false := by
        cases hb : Nat.beq i t with
        | false => rfl
        | true => exact absurd (Nat.eq_of_beq_eq_true hb) h
      rw [this]
      simp only [lk_entry xs (i + 1) t]
      by_cases h2 : i ≤ t
      · rw [if_pos h2, if_pos (by omega)]
        have : t - i = (t - (i + 1)) + 1 := by omega
        rw [this]; simp
      · rw [if_neg h2, if_neg (by omega)]

theorem Ctr.intro {f : FuncId} {fn : Func} {code : Code} {args : List AV} {hin : HL} {post : AOut → Prop} (hf : X.E.P.funcs[f]? = some fn) (hb : fn.body = some code) (hname : (fn.name == "runtime.NumGoroutine") = false) (hargs : args.length ≤ fn.ntmps) (hres : fn.results.toList.all (resIn fn.ntmps) = true)
    (h : AWp X.E { nt := fn.ntmps, anc := hin.map (·.1) } code (retP X.tab fn.results.toList post) { f := entry 0 args, h := hin }) : Ctr X.E f args hin post := by
  refine ⟨⟨fn, hf, by rw [hb]; rfl, hname⟩, fun w Im ρ vs hG hIm hgl hsz hra hrel => ?_⟩
  let c : Cx := { w0 := w, fp := TIn ρ hin, Im0 := Im, nt := fn.ntmps, anc := hin.map (·.1), ρ0 := ρ }
  have hTin : ∀ b, TIn ρ hin b → b < w.heap.size ∧ ¬ Im b := fun b ⟨r, o, l, h1, h2, h3⟩ => by
    obtain ⟨l', h4, _, h5⟩ := hrel.obj r o h1
    rw [h2] at h4; injection h4 with h4; subst h4
    exact ⟨(h5 b h3).1, (h5 b h3).2.1⟩
  have ok : c.Ok X.E := ⟨fun b hb => ⟨hIm b hb, fun ht => (hTin b ht).2 hb⟩, hgl, hG⟩
  refine calls_of_wp hf hb ?_
  have S : Sim c Im ρ (St.F { f := entry 0 args, h := hin }) (St.H { f := entry 0 args, h := hin }) { tmps := vs ++ Array.replicate (fn.ntmps - vs.size) undef, defers := [] } w := by
    refine { defs := rfl, nt := by simp [c]; omega, fr := fun t ht => ?_, obj := fun r o hr => ?_, dis := hrel.dis, imn := fun b hb => ⟨hIm b hb, .inl hb⟩, im0 := fun b hb => hb, os := rfl, tape := rfl, output := rfl, size := Nat.le_refl _, kept := fun b _ _ => rfl, anc := fun r _ l' hl' => ⟨l', hl', .inl rfl⟩ }
    · simp only [St.F, lk_entry, Nat.zero_le, if_true, Nat.sub_zero]
      by_cases hlt : t < args.length
      · have hx : args[t]? = some (args.getD t .junk) := by simp [List.getD, List.getElem?_eq_getElem hlt]
        have hv : vs[t]? = some ((vs ++ Array.replicate (fn.ntmps - vs.size) undef).getD t undef) := by
          have : t < vs.size := by omega
          simp [Array.getD, this, Array.getElem_append_left this]
          omega
        exact hra t _ _ hv hx
      · have : args.getD t .junk = .junk := by simp [List.getD, List.getElem?_eq_none (Nat.le_of_not_lt hlt)]
        rw [this]; exact .junk _
    · obtain ⟨l, h1, h2, h3⟩ := hrel.obj r o hr
      exact ⟨l, h1, h2, fun b hb => ⟨(h3 b hb).1, (h3 b hb).2.1, .inr ⟨r, o, l, hr, h1, hb⟩⟩⟩
  refine wp_mono (h c ok rfl rfl Im ρ _ w S) fun e a' w' ⟨hne, Im', ρ', s', S', hQ⟩ => ?_
  have fin : RetP X.tab fn.results.toList post s' → a'.defers = [] ∧ ∃ v, (results fn a'.tmps).run X.E.P w' = .ok v w' ∧ Ends post w Im ρ hin (.returned v) w' := fun hR => by
    refine ⟨S'.defs, ?_⟩
    obtain ⟨ho, hF⟩ := hR.ok
    unfold retF at hF
    split at hF
    · rename_i xs cs hxs
      split at hF
      · rename_i hcl hclH
        obtain ⟨hle, hF⟩ := leHP_spec hF
        obtain ⟨hcs, hF⟩ := condP_spec hF
        obtain ⟨hset, hpost⟩ := condP_spec hF
        have hpost := strictR_spec hpost
        obtain ⟨vs', g1, g2, g3⟩ := resL_ok (k := { nt := fn.ntmps, anc := hin.map (·.1) }) ok rfl S' hres hxs hcs
        refine ⟨_, run_results g1, _, ho, _, _, hpost, settle_RA S' ?_ hset, closedB_spec hcl, S'.leave rfl rfl rfl rfl rfl hle hclH⟩
        match vs', xs, g2, g3 with
        | [], [], _, _ => exact .tup #[] [] rfl (by simp)
        | [v], [x], _, g3 => exact g3 0 v x rfl rfl
        | v :: v2 :: vr, x :: x2 :: xr, g2, g3 => exact .tup _ _ (by simpa using g2) fun i u y e1 e2 => g3 i u y (by simpa using e1) e2
      · exact hF.elim
    · exact hF.elim
  cases e with
  | normal => exact fin hQ
  | ret => exact fin hQ
  | panic ch =>
    obtain ⟨ho, h1, h2, h3⟩ := hQ.ok
    exact ⟨S'.defs, ho, _, _, h3, S'.leave rfl rfl rfl rfl rfl h1 h2⟩
  | exit id => exact hQ.elim
  | goto l => exact hQ.elim
  | outgrown => exact absurd rfl hne

end Go.Ax
