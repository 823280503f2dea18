/- Abstract execution, part D: contracts of functions, and what a call makes of a state. -/
import Derived.Test.YtjokajidcojlmaaDoorAxC
namespace Go.Ax

abbrev HL := List (Nat × Option AObj)

inductive AOut where
  | ret (res : AV) (h : HL)
  | pan (chain : List PanicEntry) (h : HL)

/-- A block of an object that came in. -/
def TIn (ρ : Nat → Option Loc) (hin : HL) (b : Nat) : Prop := ∃ r o l, lkH r hin = some o ∧ ρ r = some l ∧ b ∈ l.fp

structure HRel (w : World) (Im : Nat → Prop) (ρ : Nat → Option Loc) (h : HL) (A : Nat → Prop) : Prop where
  obj : ∀ r o, lkH r h = some o → ∃ l, ρ r = some l ∧ RO (hp w) Im ρ l o ∧ ∀ b ∈ l.fp, b < w.heap.size ∧ ¬ Im b ∧ A b
  dis : ∀ r r' o o' l l', lkH r h = some o → lkH r' h = some o' → r ≠ r' → ρ r = some l → ρ r' = some l' → ∀ b ∈ l.fp, b ∉ l'.fp

/-- All that a value, an object names is in a list. -/
def Closed (ho : HL) (x : AV) : Prop := ∀ r, x.ment r = true → (lkH r ho).isSome = true
def ClosedO (ho : HL) (x : AObj) : Prop := ∀ r, x.ment r = true → (lkH r ho).isSome = true

structure After (w : World) (Im : Nat → Prop) (ρ : Nat → Option Loc) (hin : HL) (w' : World) (Im' : Nat → Prop) (ρ' : Nat → Option Loc) (ho : HL) : Prop where
  grows : Grows w w' (TIn ρ hin)
  im : ∀ b, Im b → Im' b
  imn : ∀ b, Im' b → b < w'.heap.size ∧ (Im b ∨ w.heap.size ≤ b ∨ TIn ρ hin b)
  rel : HRel w' Im' ρ' ho (fun b => w.heap.size ≤ b ∨ TIn ρ hin b)
  anc : ∀ r o, lkH r hin = some o → ∀ l', ρ' r = some l' → ∃ l, ρ r = some l ∧ LocStep l l'
  cl : ∀ r o, lkH r ho = some o → ClosedO ho o

def Ends (post : AOut → Prop) (w : World) (Im : Nat → Prop) (ρ : Nat → Option Loc) (hin : HL) : Ending → World → Prop
  | .returned v, w' => ∃ res ho Im' ρ', post (.ret res ho) ∧ RA (hp w') Im' ρ' v res ∧ Closed ho res ∧ After w Im ρ hin w' Im' ρ' ho
  | .panicked ch, w' => ∃ ho Im' ρ', post (.pan ch ho) ∧ After w Im ρ hin w' Im' ρ' ho
  | .outgrown, _ => False

/-- A function that has a body. -/
def Bodied (P : Program) (f : FuncId) : Prop := ∃ fn, P.funcs[f]? = some fn ∧ fn.body.isNone = false ∧ (fn.name == "runtime.NumGoroutine") = false

theorem run_callFunc {P : Program} {w : World} {f : FuncId} (h : Bodied P f) (args : Array Value) : (callFunc f args).run P w = .ok (.enter f args) w := by
  obtain ⟨fn, h1, h2, h3⟩ := h
  have h4 : fn.name ≠ "runtime.NumGoroutine" := by simpa using h3
  have h5 : fn.body ≠ none := by intro e; rw [e] at h2; simp at h2
  simp [callFunc, h1, h4, h5]

def Ctr (E : Env) (f : FuncId) (args : List AV) (hin : HL) (post : AOut → Prop) : Prop :=
  Bodied E.P f ∧ ∀ (w : World) (Im : Nat → Prop) (ρ : Nat → Option Loc) (vs : Array Value), E.G w → (∀ b, Im b → b < w.heap.size) → (∀ b, b < E.ng → Im b) → vs.size = args.length →
    (∀ (i : Nat) (v : Value) (x : AV), vs[i]? = some v → args[i]? = some x → RA (hp w) Im ρ v x) → HRel w Im ρ hin (fun _ => True) →
    Calls E.P f vs w (Ends post w Im ρ hin)

theorem Ctr.mono {E : Env} {f : FuncId} {args : List AV} {hin : HL} {post post' : AOut → Prop} (h : Ctr E f args hin post) (hp : ∀ o, post o → post' o) : Ctr E f args hin post' :=
  ⟨h.1, fun w Im ρ vs g1 g2 g3 g4 g5 g6 => (h.2 w Im ρ vs g1 g2 g3 g4 g5 g6).mono fun e w' he => by
    cases e with
    | returned v => obtain ⟨res, ho, Im', ρ', h1, h2⟩ := he; exact ⟨res, ho, Im', ρ', hp _ h1, h2⟩
    | panicked ch => obtain ⟨ho, Im', ρ', h1, h2⟩ := he; exact ⟨ho, Im', ρ', hp _ h1, h2⟩
    | outgrown => exact he⟩

def killed (hin : HL) : HL := hin.map fun p => (p.1, none)

theorem lkH_append (r : Nat) : ∀ (a b : HL), (∀ p ∈ a, p.1 ≠ r) → lkH r (a ++ b) = lkH r b
  | [], b, _ => rfl
  | (k, v) :: a, b, h => by
    have : Nat.beq k r = false := by
      cases hb : Nat.beq k r with
      | false => rfl
      | true => exact absurd (Nat.eq_of_beq_eq_true hb) (h (k, v) (by simp))
    simp only [List.cons_append, lkH, this]
    exact lkH_append r a b fun p hp => h p (by simp [hp])
theorem lkH_left (r : Nat) : ∀ (a b : HL), (∃ p ∈ a, p.1 = r) → lkH r (a ++ b) = lkH r a
  | [], b, h => by simp at h
  | (k, v) :: a, b, h => by
    by_cases e : k = r
    · subst e; simp [lkH]
    · have : Nat.beq k r = false := by
        cases hb : Nat.beq k r with
        | false => rfl
        | true => exact absurd (Nat.eq_of_beq_eq_true hb) e
      simp only [List.cons_append, lkH, this]
      refine lkH_left r a b ?_
      obtain ⟨p, hp, hr⟩ := h
      rcases List.mem_cons.1 hp with rfl | hp
      · exact absurd hr e
      · exact ⟨p, hp, hr⟩
theorem lkH_mem {r : Nat} : ∀ {a : HL} {o : AObj}, lkH r a = some o → ∃ p ∈ a, p.1 = r
  | [], o, h => by simp [lkH] at h
  | (k, v) :: a, o, h => by
    by_cases e : Nat.beq k r = true
    · exact ⟨(k, v), by simp, Nat.eq_of_beq_eq_true e⟩
    · have : Nat.beq k r = false := Bool.eq_false_iff.2 e
      simp only [lkH, this] at h
      obtain ⟨p, hp, hr⟩ := lkH_mem h
      exact ⟨p, by simp [hp], hr⟩
theorem lkH_killed {r : Nat} : ∀ {a : HL}, lkH r (killed a) = none
  | [] => rfl
  | (k, v) :: a => by
    by_cases e : Nat.beq k r = true
    · simp [killed, lkH, e]
    · have : Nat.beq k r = false := Bool.eq_false_iff.2 e
      simp only [killed, List.map_cons, lkH, this]
      exact lkH_killed

/-- What stands behind a call, of the objects. -/
def St.back (s : St) (hin ho : HL) : HL := ho ++ (killed hin ++ s.h)

theorem St.back_some {s : St} {hin ho : HL} {r : Nat} {o : AObj} (h : lkH r (s.back hin ho) = some o) : lkH r ho = some o ∨ (lkH r ho = none ∧ (∀ p ∈ ho, p.1 ≠ r) ∧ (∀ p ∈ hin, p.1 ≠ r) ∧ lkH r s.h = some o) := by
  unfold St.back at h
  by_cases e : ∃ p ∈ ho, p.1 = r
  · rw [lkH_left r _ _ e] at h; exact .inl h
  · have e1 : ∀ p ∈ ho, p.1 ≠ r := fun p hp hr => e ⟨p, hp, hr⟩
    rw [lkH_append r _ _ e1] at h
    by_cases e2 : ∃ p ∈ killed hin, p.1 = r
    · rw [lkH_left r _ _ e2, lkH_killed] at h; exact absurd h (by simp)
    · have e3 : ∀ p ∈ killed hin, p.1 ≠ r := fun p hp hr => e2 ⟨p, hp, hr⟩
      rw [lkH_append r _ _ e3] at h
      refine .inr ⟨?_, e1, fun p hp hr => e2 ⟨(p.1, none), by simp only [killed, List.mem_map]; exact ⟨p, hp, rfl⟩, hr⟩, h⟩
      cases h4 : lkH r ho with
      | none => rfl
      | some o4 => obtain ⟨p, hp, hr⟩ := lkH_mem h4; exact absurd hr (e1 p hp)

/-- Where the objects lie behind a call. -/
def backρ (ρ ρ' : Nat → Option Loc) (hin ho : HL) (r : Nat) : Option Loc :=
  if (lkH r ho).isSome then ρ' r else if (lkH r hin).isSome then none else ρ r

theorem Sim.call {c : Cx} {Im : Nat → Prop} {ρ : Nat → Option Loc} {s : St} {a : Act} {w : World} (S : Sim c Im ρ s.F s.H a w) {hin ho : HL} (hh : ∀ r o, lkH r hin = some o → lkH r s.h = some o)
    {w' : World} {Im' : Nat → Prop} {ρ' : Nat → Option Loc} (A : After w Im ρ hin w' Im' ρ' ho) (hn : ∀ r o, lkH r ho = some o → (∃ o', lkH r hin = some o') ∨ Unm c r s.F s.H) :
    Sim c Im' (backρ ρ ρ' hin ho) s.F (fun r => lkH r (s.back hin ho)) a w' := by
  have hT : ∀ b, TIn ρ hin b → b < w.heap.size ∧ ¬ Im b ∧ (c.w0.heap.size ≤ b ∨ c.fp b) := fun b ⟨r, o, l, h1, h2, h3⟩ => by
    obtain ⟨l', h4, _, h5⟩ := S.obj r o (hh r o h1)
    rw [h2] at h4; injection h4 with h4; subst h4
    exact h5 b h3
  have hI : ∀ b, Im b → hp w' b = hp w b := fun b hb => A.grows.block b (S.imn b hb).1 fun h => (hT b h).2.1 hb
  have hρ1 : ∀ r o, lkH r ho = some o → backρ ρ ρ' hin ho r = ρ' r := fun r o h => by simp [backρ, h]
  have hρ : ∀ r, (Unm c r s.F s.H → False) → ∀ l', backρ ρ ρ' hin ho r = some l' → ∃ l, ρ r = some l ∧ LocStep l l' := fun r hu l' hl' => by
    unfold backρ at hl'
    cases h1 : lkH r ho with
    | some o =>
      simp only [h1, Option.isSome_some, if_true] at hl'
      rcases hn r o h1 with ⟨o', h2⟩ | h2
      · exact A.anc r o' h2 l' hl'
      · exact (hu h2).elim
    | none =>
      simp only [h1, Option.isSome_none, Bool.false_eq_true, if_false] at hl'
      cases h2 : lkH r hin with
      | some o => simp [h2] at hl'
      | none => simp only [h2, Option.isSome_none, Bool.false_eq_true, if_false] at hl'; exact ⟨l', hl', .inl rfl⟩
  have hob : ∀ r o, lkH r (s.back hin ho) = some o → lkH r ho = none → lkH r s.h = some o ∧ backρ ρ ρ' hin ho r = ρ r ∧ lkH r hin = none := fun r o h h1 => by
    rcases St.back_some h with h2 | ⟨_, _, h3, h4⟩
    · rw [h1] at h2; exact absurd h2 (by simp)
    · have h5 : lkH r hin = none := by
        cases h6 : lkH r hin with
        | none => rfl
        | some o6 => obtain ⟨p, hp, hr⟩ := lkH_mem h6; exact absurd hr (h3 p hp)
      exact ⟨h4, by simp [backρ, h1, h5], h5⟩
  have hin' : ∀ r o, lkH r (s.back hin ho) = some o → ∀ o1, lkH r ho = some o1 → o = o1 := fun r o h o1 h1 => by
    rcases St.back_some h with h2 | ⟨h2, _⟩
    · rw [h1] at h2; exact (Option.some.inj h2).symm
    · rw [h1] at h2; exact absurd h2 (by simp)
  have hfar : ∀ r o l, lkH r s.h = some o → lkH r hin = none → ρ r = some l → ∀ b ∈ l.fp, b < w.heap.size ∧ ¬ TIn ρ hin b := fun r o l h1 h2 h3 b hb => by
    obtain ⟨l0, h4, _, h5⟩ := S.obj r o h1
    rw [h3] at h4; injection h4 with h4; subst h4
    refine ⟨(h5 b hb).1, fun ⟨r', o', l', g1, g2, g3⟩ => ?_⟩
    have hne : r ≠ r' := fun e => by subst e; rw [h2] at g1; exact absurd g1 (by simp)
    exact S.dis r r' o o' l l' h1 (hh r' o' g1) hne h3 g2 b hb g3
  refine { defs := S.defs, nt := S.nt, fr := fun t ht => ?_, obj := fun r o hr => ?_, dis := fun r r' o o' l l' h1 h2 hne g1 g2 b hb hb' => ?_, imn := fun b hb => ?_, im0 := fun b hb => A.im b (S.im0 b hb), os := A.grows.os.trans S.os, tape := A.grows.tape.trans S.tape, output := A.grows.output.trans S.output, size := Nat.le_trans S.size A.grows.size, kept := fun b hb hf => ?_, anc := fun r hr l' hl' => ?_ }
  · refine (S.fr t ht).mono A.im hI fun r hr l' hl' => hρ r (fun hu => ?_) l' hl'
    rw [hu.fr t] at hr; exact absurd hr (by simp)
  · cases h1 : lkH r ho with
    | some o1 =>
      have := hin' r o hr o1 h1; subst this
      obtain ⟨l, g1, g2, g3⟩ := A.rel.obj r o h1
      refine ⟨l, by rw [hρ1 r o h1]; exact g1, g2.mono (fun _ h => h) (fun _ _ => rfl) (fun _ _ => rfl) (fun q hq l' hl' => ?_), fun b hb => ⟨(g3 b hb).1, (g3 b hb).2.1, ?_⟩⟩
      · have := A.cl r o h1 q hq
        simp only [backρ, this, if_true] at hl'
        exact ⟨l', hl', .inl rfl⟩
      · rcases (g3 b hb).2.2 with h | h
        · exact .inl (Nat.le_trans S.size h)
        · exact (hT b h).2.2
    | none =>
      obtain ⟨h2, h3, h4⟩ := hob r o hr h1
      obtain ⟨l, g1, g2, g3⟩ := S.obj r o h2
      refine ⟨l, by rw [h3]; exact g1, g2.mono A.im hI (fun b hb => A.grows.block b (g3 b hb).1 (hfar r o l h2 h4 g1 b hb).2) (fun q hq l' hl' => hρ q (fun hu => ?_) l' hl'), fun b hb => ⟨Nat.lt_of_lt_of_le (g3 b hb).1 A.grows.size, fun hi => ?_, (g3 b hb).2.2⟩⟩
      · rw [hu.obj r o h2] at hq; exact absurd hq (by simp)
      · rcases (A.imn b hi).2 with h | h | h
        · exact (g3 b hb).2.1 h
        · have := (g3 b hb).1; omega
        · exact (hfar r o l h2 h4 g1 b hb).2 h
  · cases e1 : lkH r ho with
    | some o1 =>
      have := hin' r o h1 o1 e1; subst this
      rw [hρ1 r o e1] at g1
      cases e2 : lkH r' ho with
      | some o2 =>
        have := hin' r' o' h2 o2 e2; subst this
        rw [hρ1 r' o' e2] at g2
        exact A.rel.dis r r' o o' l l' e1 e2 hne g1 g2 b hb hb'
      | none =>
        obtain ⟨k1, k2, k3⟩ := hob r' o' h2 e2
        rw [k2] at g2
        obtain ⟨l3, m1, _, m3⟩ := A.rel.obj r o e1
        rw [g1] at m1; injection m1 with m1; subst m1
        have := hfar r' o' l' k1 k3 g2 b hb'
        rcases (m3 b hb).2.2 with h | h
        · omega
        · exact this.2 h
    | none =>
      obtain ⟨j1, j2, j3⟩ := hob r o h1 e1
      rw [j2] at g1
      cases e2 : lkH r' ho with
      | some o2 =>
        have := hin' r' o' h2 o2 e2; subst this
        rw [hρ1 r' o' e2] at g2
        obtain ⟨l3, m1, _, m3⟩ := A.rel.obj r' o' e2
        rw [g2] at m1; injection m1 with m1; subst m1
        have := hfar r o l j1 j3 g1 b hb
        rcases (m3 b hb').2.2 with h | h
        · omega
        · exact this.2 h
      | none =>
        obtain ⟨k1, k2, k3⟩ := hob r' o' h2 e2
        rw [k2] at g2
        exact S.dis r r' o o' l l' j1 k1 hne g1 g2 b hb hb'
  · refine ⟨(A.imn b hb).1, ?_⟩
    rcases (A.imn b hb).2 with h | h | h
    · exact (S.imn b h).2
    · exact .inr (.inl (Nat.le_trans S.size h))
    · exact .inr (hT b h).2.2
  · refine (A.grows.block b (Nat.lt_of_lt_of_le hb S.size) fun h => ?_).trans (S.kept b hb hf)
    rcases (hT b h).2.2 with h | h
    · omega
    · exact hf h
  · obtain ⟨l, h1, h2⟩ := hρ r (fun hu => hu.anc hr) l' hl'
    obtain ⟨l0, h3, h4⟩ := S.anc r hr l h1
    exact ⟨l0, h3, h4.trans h2⟩

/-- What came back, as the caller's slot holds it. -/
theorem Closed.back {w' : World} {Im' : Nat → Prop} {ρ ρ' : Nat → Option Loc} {hin ho : HL} {v : Value} {x : AV} (hc : Closed ho x) (h : RA (hp w') Im' ρ' v x) : RA (hp w') Im' (backρ ρ ρ' hin ho) v x :=
  h.mono (fun _ h => h) (fun _ _ => rfl) fun r hr l' hl' => by
    have := hc r hr
    simp only [backρ, this, if_true] at hl'
    exact ⟨l', hl', .inl rfl⟩

theorem Sim.hrel {c : Cx} {Im : Nat → Prop} {ρ : Nat → Option Loc} {s : St} {a : Act} {w : World} (S : Sim c Im ρ s.F s.H a w) {hin : HL} (hh : ∀ r o, lkH r hin = some o → lkH r s.h = some o) : HRel w Im ρ hin (fun _ => True) where
  obj := fun r o h => by
    obtain ⟨l, h1, h2, h3⟩ := S.obj r o (hh r o h)
    exact ⟨l, h1, h2, fun b hb => ⟨(h3 b hb).1, (h3 b hb).2.1, trivial⟩⟩
  dis := fun r r' o o' l l' h h' => S.dis r r' o o' l l' (hh r o h) (hh r' o' h')

theorem Sim.G {E : Env} {c : Cx} {Im : Nat → Prop} {ρ : Nat → Option Loc} {F : Nat → AV} {H : Nat → Option AObj} {a : Act} {w : World} (S : Sim c Im ρ F H a w) (ok : c.Ok E) : E.G w :=
  E.Gst c.w0 w S.os (fun b hb => S.kept b (ok.im b (ok.gl b hb)).1 (ok.im b (ok.gl b hb)).2) ok.G

end Go.Ax
