/- Abstract execution, part C: states as lists; what a piece of code makes of them; contracts. -/
import Derived.Test.YtjokajidcojlmaaDoorAxB
namespace Go.Ax

def lk (t : Nat) : List (Nat × AV) → AV
  | [] => .junk
  | (k, v) :: r => match Nat.beq k t with
    | true => v
    | false => lk t r
def lkH (t : Nat) : List (Nat × Option AObj) → Option AObj
  | [] => none
  | (k, v) :: r => match Nat.beq k t with
    | true => v
    | false => lkH t r

structure St where
  f : List (Nat × AV)
  h : List (Nat × Option AObj)

abbrev St.F (s : St) : Nat → AV := fun t => lk t s.f
abbrev St.H (s : St) : Nat → Option AObj := fun t => lkH t s.h

theorem lk_cons (k : Nat) (v : AV) (r : List (Nat × AV)) : (fun t => lk t ((k, v) :: r)) = upd (fun t => lk t r) k v := by
  funext t
  by_cases h : t = k
  · subst h; simp [lk, upd]
  · have : Nat.beq k t = false := by
      cases hb : Nat.beq k t with
      | false => rfl
      | true => exact absurd (Nat.eq_of_beq_eq_true hb).symm h
    simp [lk, upd, h, this]
theorem lkH_cons (k : Nat) (v : Option AObj) (r : List (Nat × Option AObj)) : (fun t => lkH t ((k, v) :: r)) = upd (fun t => lkH t r) k v := by
  funext t
  by_cases h : t = k
  · subst h; simp [lkH, upd]
  · have : Nat.beq k t = false := by
      cases hb : Nat.beq k t with
      | false => rfl
      | true => exact absurd (Nat.eq_of_beq_eq_true hb).symm h
    simp [lkH, upd, h, this]

/-- What one list tells, the other one tells, too. -/
def LeF : List (Nat × AV) → List (Nat × AV) → Prop
  | [], _ => True
  | (t, v) :: r, f => lk t f = v ∧ LeF r f
def LeH : List (Nat × Option AObj) → List (Nat × Option AObj) → Prop
  | [], _ => True
  | (t, v) :: r, f => (∀ o, v = some o → lkH t f = some o) ∧ LeH r f
def St.Le (s' s : St) : Prop := LeF s'.f s.f ∧ LeH s'.h s.h

theorem LeF.at : ∀ {f' f : List (Nat × AV)}, LeF f' f → ∀ t, lk t f' = .junk ∨ lk t f' = lk t f
  | [], _, _, t => .inl rfl
  | (k, v) :: r, f, h, t => by
    by_cases e : Nat.beq k t = true
    · have := Nat.eq_of_beq_eq_true e; subst this
      right; simp only [lk, e]; exact h.1.symm
    · have : Nat.beq k t = false := Bool.eq_false_iff.2 e
      simp only [lk, this]; exact LeF.at h.2 t
theorem LeH.at : ∀ {f' f : List (Nat × Option AObj)}, LeH f' f → ∀ t o, lkH t f' = some o → lkH t f = some o
  | [], _, _, t, o, h => by simp [lkH] at h
  | (k, v) :: r, f, h, t, o, ho => by
    by_cases e : Nat.beq k t = true
    · have := Nat.eq_of_beq_eq_true e; subst this
      simp only [lkH, e] at ho; exact h.1 o ho
    · have : Nat.beq k t = false := Bool.eq_false_iff.2 e
      simp only [lkH, this] at ho; exact LeH.at h.2 t o ho

abbrev APost := Exit → St → Prop

def Lift (c : Cx) (Q : APost) : Exit → Act → World → Prop := fun e a w => e ≠ .outgrown ∧ ∃ Im ρ s, Sim c Im ρ s.F s.H a w ∧ Q e s

/-- The number of slots; the objects that came in. -/
structure Kn where
  nt : Nat
  anc : List Nat

def AWp (E : Env) (k : Kn) (code : Code) (Q : APost) (s : St) : Prop := ∀ c : Cx, c.Ok E → c.nt = k.nt → c.anc = k.anc → ∀ Im ρ a w, Sim c Im ρ s.F s.H a w → code.wp E.P (Lift c Q) a w

def thenP (K : St → Prop) (Q : APost) : APost
  | .normal, s => K s
  | e, s => Q e s
def blockP (id : Nat) (Q : APost) : APost
  | .exit i, s => match Nat.beq i id with
    | true => Q .normal s
    | false => Q (.exit i) s
  | e, s => Q e s

variable {E : Env} {k : Kn} {c : Cx} {Q : APost} {s : St}

theorem AWp.mono {code : Code} {Q' : APost} (h : AWp E k code Q s) (hq : ∀ e s, Q e s → Q' e s) : AWp E k code Q' s := fun c ok e1 e2 Im ρ a w S =>
  wp_mono (h c ok e1 e2 Im ρ a w S) fun e _ _ ⟨h1, Im, ρ, s, S, hQ⟩ => ⟨h1, Im, ρ, s, S, hq e s hQ⟩
theorem AWp.skip (h : Q .normal s) : AWp E k .skip Q s := fun _ _ _ _ Im ρ a w S => wp_skip ⟨by simp, Im, ρ, s, S, h⟩
theorem AWp.exit {id : Nat} (h : Q (.exit id) s) : AWp E k (.exit id) Q s := fun _ _ _ _ Im ρ a w S => wp_exit ⟨by simp, Im, ρ, s, S, h⟩
theorem AWp.ret (h : Q .ret s) : AWp E k .ret Q s := fun _ _ _ _ Im ρ a w S => wp_ret ⟨by simp, Im, ρ, s, S, h⟩
theorem AWp.seq {x y : Code} (h : AWp E k x (thenP (AWp E k y Q) Q) s) : AWp E k (.seq x y) Q s := fun c ok e1 e2 Im ρ a w S =>
  wp_seq (wp_mono (h c ok e1 e2 Im ρ a w S) fun e a w ⟨h1, Im, ρ, s, S, hQ⟩ => by
    cases e with
    | normal => exact hQ c ok e1 e2 Im ρ a w S
    | outgrown => exact absurd rfl h1
    | exit id => exact ⟨h1, Im, ρ, s, S, hQ⟩
    | goto l => exact ⟨h1, Im, ρ, s, S, hQ⟩
    | ret => exact ⟨h1, Im, ρ, s, S, hQ⟩
    | panic ch => exact ⟨h1, Im, ρ, s, S, hQ⟩)
theorem AWp.block {id : Nat} {x : Code} (h : AWp E k x (blockP id Q) s) : AWp E k (.block id x) Q s := fun c ok e1 e2 Im ρ a w S =>
  wp_block (wp_mono (h c ok e1 e2 Im ρ a w S) fun e a w ⟨h1, Im, ρ, s, S, hQ⟩ => by
    cases e with
    | normal => exact ⟨h1, Im, ρ, s, S, hQ⟩
    | outgrown => exact absurd rfl h1
    | exit i =>
      simp only [Exit.inBlock]
      by_cases e : i = id
      · subst e
        rw [if_pos rfl]
        have : Nat.beq i i = true := by simp
        simp only [blockP, this] at hQ
        exact ⟨by simp, Im, ρ, s, S, hQ⟩
      · rw [if_neg e]
        have : Nat.beq i id = false := by
          cases hb : Nat.beq i id with
          | false => rfl
          | true => exact absurd (Nat.eq_of_beq_eq_true hb) e
        simp only [blockP, this] at hQ
        exact ⟨by simp, Im, ρ, s, S, hQ⟩
    | goto l => exact ⟨h1, Im, ρ, s, S, hQ⟩
    | ret => exact ⟨h1, Im, ρ, s, S, hQ⟩
    | panic ch => exact ⟨h1, Im, ρ, s, S, hQ⟩)

/-- Less may be known. -/
theorem AWp.weak {code : Code} {s' : St} (hl : s'.Le s) (h : AWp E k code Q s') : AWp E k code Q s := fun c ok e1 e2 Im ρ a w S =>
  h c ok e1 e2 Im ρ a w (S.weak (fun t => LeF.at hl.1 t) (fun r o => LeH.at hl.2 r o))

theorem RD.bool {h : Nat → Option Obj} {Im : Nat → Prop} {v x : Value} (H : RD h Im v (.v x)) : v = x := by cases H; rfl
theorem RA.v {h : Nat → Option Obj} {Im : Nat → Prop} {ρ : Nat → Option Loc} {v x : Value} (H : RA h Im ρ v (.d (.v x))) : v = x := by
  cases H with | d _ _ hd => exact hd.bool

/-- What an operand is known as. -/
def evO (s : St) : Operand → AV
  | .tmp t => lk t s.f
  | .const v => .d (.v v)
  | .func f => .clo (.func f) [] []
  | .global _ => .junk

theorem undef_one : (undef : Value).oneCell' = true ∨ True := .inr trivial

/-- A constant operand holds one cell. -/
def okO : Operand → Bool
  | .const v => v.oneCell'
  | _ => true

theorem Sim.ev {Im : Nat → Prop} {ρ : Nat → Option Loc} {a : Act} {w : World} {F : Nat → AV} {H : Nat → Option AObj} (S : Sim c Im ρ F H a w) {x : Operand} (hs : ∀ t, x = .tmp t → t < c.nt ∧ lk t s.f = F t) (hx : okO x = true) : RA (hp w) Im ρ (a.eval x) (evO s x) := by
  cases x with
  | tmp t =>
    obtain ⟨h1, h2⟩ := hs t rfl
    simp only [evO, h2]; exact S.fr t h1
  | const v => exact .d _ _ (.v v hx)
  | func f => exact .clo _ _ _ _ _ rfl rfl (by simp) (by simp)
  | global g => exact .junk _

def inN (n : Nat) : Operand → Bool
  | .tmp t => Nat.blt t n
  | x => okO x

theorem AWp.cond {t : Nat} {x y : Code} {b : Bool} (ht : t < k.nt) (hb : lk t s.f = .d (.v (.bool b))) (h1 : b = true → AWp E k x Q s) (h2 : b = false → AWp E k y Q s) : AWp E k (.cond (.tmp t) x y) Q s := fun c ok e1 e2 Im ρ a w S => by
  have hv : a.eval (.tmp t) = .bool b := by
    have := S.fr t (e1 ▸ ht)
    simp only [St.F] at this
    rw [hb] at this
    exact this.v
  cases b with
  | true => exact wp_cond_true hv (h1 rfl c ok e1 e2 Im ρ a w S)
  | false => exact wp_cond_false hv (h2 rfl c ok e1 e2 Im ρ a w S)

theorem least {p : Nat → Prop} (h : ∃ n, p n) : ∃ n, p n ∧ ∀ m, p m → n ≤ m := by
  obtain ⟨n, hn⟩ := h
  induction n using Nat.strongRecOn with
  | _ n ih =>
    by_cases hx : ∃ m, m < n ∧ p m
    · obtain ⟨m, hm, hp⟩ := hx; exact ih m hm hp
    · exact ⟨n, hn, fun m hp => Nat.le_of_not_lt fun hlt => hx ⟨m, hlt, hp⟩⟩

/-- A loop: a family of states, a number that falls. -/
theorem AWp.loop {σ : Type} {body : Code} (st : σ → St) (μ : σ → Nat) (s0 : σ) (h0 : (st s0).Le s)
    (round : ∀ x, AWp E k body (thenP (fun s' => ∃ x', μ x' < μ x ∧ (st x').Le s') Q) (st x)) : AWp E k (.loop body) Q s := fun c ok e1 e2 Im ρ a w S => by
  classical
  let good : Act → World → σ → Prop := fun a w x => ∃ Im ρ, Sim c Im ρ (st x).F (st x).H a w
  let m : Act → World → Nat := fun a w => if h : ∃ n x, good a w x ∧ μ x = n then Classical.choose (least h) else 0
  refine wp_loop (fun a w => ∃ x, good a w x) m ⟨s0, Im, ρ, S.weak (fun t => LeF.at h0.1 t) (fun r o => LeH.at h0.2 r o)⟩ ?_
  intro a w hI
  have hex : ∃ n x, good a w x ∧ μ x = n := let ⟨x, hx⟩ := hI; ⟨μ x, x, hx, rfl⟩
  have hm : m a w = Classical.choose (least hex) := dif_pos hex
  obtain ⟨x, ⟨Im, ρ, S⟩, hx⟩ := (Classical.choose_spec (least hex)).1
  refine wp_mono (round x c ok e1 e2 Im ρ a w S) fun e a' w' ⟨h1, Im', ρ', s', S', hQ⟩ => ?_
  cases e with
  | normal =>
    obtain ⟨x', hlt, hle⟩ := hQ
    have hg : good a' w' x' := ⟨Im', ρ', S'.weak (fun t => LeF.at hle.1 t) (fun r o => LeH.at hle.2 r o)⟩
    refine ⟨⟨x', hg⟩, ?_⟩
    have hex' : ∃ n x, good a' w' x ∧ μ x = n := ⟨μ x', x', hg, rfl⟩
    have h2 : m a' w' = Classical.choose (least hex') := dif_pos hex'
    rw [h2, hm, ← hx]
    exact Nat.lt_of_le_of_lt ((Classical.choose_spec (least hex')).2 _ ⟨x', hg, rfl⟩) hlt
  | outgrown => exact absurd rfl h1
  | exit id => exact ⟨h1, Im', ρ', s', S', hQ⟩
  | goto l => exact ⟨h1, Im', ρ', s', S', hQ⟩
  | ret => exact ⟨h1, Im', ρ', s', S', hQ⟩
  | panic ch => exact ⟨h1, Im', ρ', s', S', hQ⟩

end Go.Ax
