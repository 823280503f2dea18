/- Abstract execution, part W: a loop's rounds one by one; a nil slice taken for a buffer of one's own; a buffer handed over for good, or lent. -/
import Derived.Test.YtjokajidcojlmaaDoorAxV
import Derived.LoopN
namespace Go.Ax

variable {X : Ax} {k : Kn}

def roundsP (E : Env) (tab : List (Nat × TI)) (k : Kn) (c : Code) (Q : APost) : Nat → St → Prop
  | 0, _ => False
  | n + 1, s => wpc E tab k c (thenP (fun s => roundsP E tab k c Q n s) Q) s

theorem rounds_ok {body : Code} {Q : APost} : ∀ (n : Nat) {s : St}, roundsP X.E X.tab k body Q n s → ∀ (c : Cx), c.Ok X.E → c.nt = k.nt → c.anc = k.anc → ∀ Im ρ a w, Sim c Im ρ s.F s.H a w → Code.rounds X.E.P body (Lift c Q) n a w
  | 0, s, h => h.elim
  | n + 1, s, h => fun c ok hn ha Im ρ a w S => by
    refine wp_mono (wpc_ok h c ok hn ha Im ρ a w S) fun e a' w' ⟨h1, Im', ρ', s', S', hQ⟩ => ?_
    cases e with
    | normal => exact rounds_ok n hQ c ok hn ha Im' ρ' a' w' S'
    | outgrown => exact absurd rfl h1
    | exit id => exact ⟨h1, Im', ρ', s', S', hQ⟩
    | goto l => exact ⟨h1, Im', ρ', s', S', hQ⟩
    | ret => exact ⟨h1, Im', ρ', s', S', hQ⟩
    | panic ch => exact ⟨h1, Im', ρ', s', S', hQ⟩

/-- A loop of no more than so many rounds, walked round by round. -/
theorem LoopP.rounds {body : Code} {Q : APost} {s : St} (n : Nat) (h : roundsP X.E X.tab k body Q n s) : LoopP X.E k body Q s :=
  ⟨fun c ok hn ha Im ρ a w S => wp_loop_rounds n (rounds_ok n h c ok hn ha Im ρ a w S)⟩

/-- A loop: a family of states, what is known of its places, a number that falls. -/
theorem LoopP.inv {σ : Type} {body : Code} {Q : APost} {s : St} (st : σ → St) (I : σ → Prop) (μ : σ → Nat) (s0 : σ) (hI : I s0) (h0 : (st s0).Le s)
    (round : ∀ x, I x → wpc X.E X.tab k body (thenP (fun s' => ∃ x', I x' ∧ μ x' < μ x ∧ (st x').Le s') Q) (st x)) : LoopP X.E k body Q s :=
  ⟨AWp.loop (σ := { x : σ // I x }) (fun x => st x.1) (fun x => μ x.1) ⟨s0, hI⟩ h0 fun ⟨x, hx⟩ => AWp.mono (wpc_ok (round x hx)) fun e s' h => by
    cases e with
    | normal => obtain ⟨x', h1, h2, h3⟩ := h; exact ⟨⟨x', h1⟩, h2, h3⟩
    | _ => exact h⟩

/-- A slot's value is known as something else, too. -/
theorem Sim.seen {c : Cx} {Im : Nat → Prop} {ρ : Nat → Option Loc} {F : Nat → AV} {H : Nat → Option AObj} {a : Act} {w : World} (S : Sim c Im ρ F H a w) {t : Nat} {x : AV} (hx : RA (hp w) Im ρ (a.tmps.getD t undef) x) : Sim c Im ρ (upd F t x) H a w where
  defs := S.defs
  nt := S.nt
  fr := fun u hu => by
    by_cases h : u = t
    · subst h; simpa using hx
    · rw [upd_ne _ _ h]; exact S.fr u hu
  obj := S.obj
  dis := S.dis
  imn := S.imn
  im0 := S.im0
  os := S.os
  tape := S.tape
  output := S.output
  size := S.size
  kept := S.kept
  anc := S.anc

/-- A nil slice is an empty buffer of one's own. -/
theorem AWp.own {E : Env} {code : Code} {Q : APost} {s : St} (t r sz : Nat) (el : TypeId) (ht : Nat.blt t k.nt = true) (hl : lk t s.f = .d (.v (.slice none 0 0))) (hu : unmB k.anc r s = true)
    (h : AWp E k code Q { f := (t, .msl r 0 0 0) :: s.f, h := (r, some (.buf sz el [])) :: s.h }) : AWp E k code Q s := fun c ok hn ha Im ρ a w S => by
  have hv : a.tmps.getD t undef = .slice none 0 0 := by
    have := S.fr t (by rw [hn]; simpa using ht)
    simp only [St.F] at this
    rw [hl] at this
    exact this.v
  have S1 := S.new (w' := w) (r := r) (l := { blk := none, isBuf := true, sz := sz }) (o := .buf sz el []) (Grows.refl w _) (unmB_spec (by rw [ha]; exact hu)) (by simp [Loc.fp]) ⟨rfl, rfl, rfl, rfl, by simp, .inl ⟨rfl, rfl, rfl⟩⟩
  have S2 := S1.seen (t := t) (x := .msl r 0 0 0) (by
    rw [hv]
    refine .msl _ r 0 0 0 rfl fun l hl => ?_
    rw [upd_same] at hl; injection hl with hl; subst hl
    exact ⟨by simp, fun _ => rfl⟩)
  refine h c ok hn ha Im (upd ρ r (some { blk := none, isBuf := true, sz := sz })) a w ?_
  have e1 : (St.F { f := (t, .msl r 0 0 0) :: s.f, h := (r, some (.buf sz el [])) :: s.h }) = upd s.F t (.msl r 0 0 0) := lk_cons t _ s.f
  have e2 : (St.H { f := (t, .msl r 0 0 0) :: s.f, h := (r, some (.buf sz el [])) :: s.h }) = upd s.H r (some (.buf sz el [])) := lkH_cons r _ s.h
  rw [e1, e2]
  exact S2
theorem LoopP.own {E : Env} {code : Code} {Q : APost} {s : St} (t r sz : Nat) (el : TypeId) (ht : Nat.blt t k.nt = true) (hl : lk t s.f = .d (.v (.slice none 0 0))) (hu : unmB k.anc r s = true)
    (h : LoopP E k code Q { f := (t, .msl r 0 0 0) :: s.f, h := (r, some (.buf sz el [])) :: s.h }) : LoopP E k code Q s := ⟨.own t r sz el ht hl hu h.ok⟩

/-- Arguments with one buffer told as data. -/
def frz (r sz : Nat) (els : List (List D)) : AV → AV
  | .msl q n off len => match Nat.beq q r, Nat.beq n els.length, Nat.ble (off + len) els.length with
    | true, true, true => .d (.sl false sz ((els.drop off).take len))
    | _, _, _ => .msl q n off len
  | x => x

theorem HRel.weakA {w : World} {Im : Nat → Prop} {ρ : Nat → Option Loc} {h : HL} {A A' : Nat → Prop} (H : HRel w Im ρ h A) (hA : ∀ b, A b → A' b) : HRel w Im ρ h A' where
  obj := fun r o h1 => let ⟨l, a, b, c⟩ := H.obj r o h1; ⟨l, a, b, fun x hx => ⟨(c x hx).1, (c x hx).2.1, hA x (c x hx).2.2⟩⟩
  dis := H.dis

/-- What takes data takes a buffer, too: it is the callee's for good. -/
theorem Ctr.freeze {E : Env} {f : FuncId} {args : List AV} {res : AV} (r sz : Nat) (el : TypeId) (els : List (List D)) (h : Ctr E f (args.map (frz r sz els)) [] fun o => o = .ret res []) : Ctr E f args [(r, some (.buf sz el els))] fun o => o = .ret res [] := by
  refine ⟨h.1, fun w Im ρ vs hG hIm hgl hsz hra hrel => ?_⟩
  obtain ⟨l, hl, hro, hown⟩ := hrel.obj r (.buf sz el els) (by simp [lkH])
  have hra1 : ∀ (i : Nat) (v : Value) (x : AV), vs[i]? = some v → (args.map (frz r sz els))[i]? = some x → RA (hp w) (fun b => Im b ∨ b ∈ l.fp) ρ v x := fun i v x h1 h2 => by
    simp only [List.getElem?_map, Option.map_eq_some_iff] at h2
    obtain ⟨y, hy, rfl⟩ := h2
    have h3 := hra i v y h1 hy
    have h4 : RA (hp w) (fun b => Im b ∨ b ∈ l.fp) ρ v y := h3.mono (fun _ h => .inl h) (fun _ _ => rfl) fun q _ l' hl' => ⟨l', hl', .inl rfl⟩
    unfold frz
    split
    · split
      · rename_i q n off len e1 e2 e3
        have := Nat.eq_of_beq_eq_true e1; subst this
        have := Nat.eq_of_beq_eq_true e2; subst this
        cases h3 with
        | msl _ _ _ _ _ _ hp2 =>
          have hv := (hp2 l hl).2 hro.2.2.2.1.symm
          rw [hv]
          exact .d _ _ (RD.ofBuf hro (fun _ h => .inl h) (fun b hb => .inr hb) (Nat.le_of_ble_eq_true e3))
      · exact h4
    · exact h4
  have := h.2 w (fun b => Im b ∨ b ∈ l.fp) (fun _ => none) vs hG (fun b hb => hb.elim (hIm b) fun hb => (hown b hb).1) (fun b hb => .inl (hgl b hb)) (by simpa using hsz) (fun i v x h1 h2 => (hra1 i v x h1 h2).mono (fun _ h => h) (fun _ _ => rfl) fun q hq l' hl' => by simp at hl') ⟨fun r o h => by simp [lkH] at h, fun r r' o o' l l' h => by simp [lkH] at h⟩
  have hT : ∀ b, TIn (fun _ => none) [] b → False := fun b ⟨r, o, l, h, _⟩ => by simp [lkH] at h
  have hTin : ∀ b ∈ l.fp, TIn ρ [(r, some (.buf sz el els))] b := fun b hb => ⟨r, .buf sz el els, l, by simp [lkH], hl, hb⟩
  refine this.mono fun e w' he => ?_
  cases e with
  | returned v =>
    obtain ⟨res', ho, Im', ρ', h1, h2, h3, A⟩ := he
    injection h1 with e1 e2; subst e1; subst e2
    refine ⟨res', [], Im', fun _ => none, rfl, h2.mono (fun _ h => h) (fun _ _ => rfl) (fun q hq l' hl' => by simp at hl'), h3, ?_⟩
    refine ⟨⟨A.grows.size, A.grows.os, A.grows.tape, A.grows.output, fun b hb hn => A.grows.block b hb fun h => hT b h⟩, fun b hb => A.im b (.inl hb), fun b hb => ?_, ⟨fun q o hq => by simp [lkH] at hq, fun q q' o o' l1 l2 hq => by simp [lkH] at hq⟩, fun q o hq l' hl' => by simp at hl', A.cl⟩
    obtain ⟨g1, g2⟩ := A.imn b hb
    refine ⟨g1, ?_⟩
    rcases g2 with (g2 | g2) | g2 | g2
    · exact .inl g2
    · exact .inr (.inr (hTin b g2))
    · exact .inr (.inl g2)
    · exact (hT b g2).elim
  | panicked ch =>
    obtain ⟨ho, Im', ρ', h1, h4⟩ := he
    exact absurd h1 (by simp)
  | outgrown => exact he

/-- The same, in a call: the buffer is gone behind it. -/
theorem CallP.give {E : Env} {k : Kn} {f : FuncId} {args : List AV} {s : St} {K : AV → HL → Prop} {KP : List PanicEntry → HL → Prop} {res : AV} (r sz : Nat) (el : TypeId) (els : List (List D)) (hr : lkH r s.h = some (.buf sz el els)) (h : Ctr E f (args.map (frz r sz els)) [] fun o => o = .ret res [])
    (hk : K res ((r, none) :: s.h)) : CallP E k f args s K KP :=
  ⟨[(r, some (.buf sz el els))], _, Ctr.freeze r sz el els h, fun q o hq => by
    simp only [lkH] at hq
    split at hq
    · rename_i hb
      have := Nat.eq_of_beq_eq_true hb; subst this
      injection hq with hq; subst hq; exact hr
    · simp at hq, fun res' ho e => by injection e with e1 e2; subst e1; subst e2; exact ⟨fun r o h => by simp [lkH] at h, hk⟩, fun ch ho e => by simp at e⟩
theorem CallD.give {E : Env} {f : FuncId} {args : List AV} {s : St} {K : AV → HL → HL → Prop} {res : AV} (r sz : Nat) (el : TypeId) (els : List (List D)) (hr : lkH r s.h = some (.buf sz el els)) (h : Ctr E f (args.map (frz r sz els)) [] fun o => o = .ret res [])
    (hk : K res [(r, some (.buf sz el els))] []) : CallD E f args s K :=
  ⟨[(r, some (.buf sz el els))], res, [], Ctr.freeze r sz el els h, fun q o hq => by
    simp only [lkH] at hq
    split at hq
    · rename_i hb
      have := Nat.eq_of_beq_eq_true hb; subst this
      injection hq with hq; subst hq; exact hr
    · simp at hq, hk⟩

/-- A nil slice that is handed back is an empty buffer of the caller's own. -/
theorem Ctr.nilOwn {E : Env} {f : FuncId} {args : List AV} (r n sz : Nat) (el : TypeId) (els : List (List D))
    (h : Ctr E f args [] fun o => o = .ret (.msl r n 0 n) [(r, some (.buf sz el els))] ∨ (els = [] ∧ n = 0 ∧ o = .ret (.d (.v (.slice none 0 0))) [])) : Ctr E f args [] fun o => o = .ret (.msl r n 0 n) [(r, some (.buf sz el els))] := by
  refine ⟨h.1, fun w Im ρ vs hG hIm hgl hsz hra hrel => (h.2 w Im ρ vs hG hIm hgl hsz hra hrel).mono fun e w' he => ?_⟩
  cases e with
  | returned v =>
    obtain ⟨res, ho, Im', ρ', h1, h2, h3, A⟩ := he
    rcases h1 with h1 | ⟨h4, h5, h1⟩
    · exact ⟨res, ho, Im', ρ', h1, h2, h3, A⟩
    · injection h1 with e1 e2; subst e1; subst e2; subst h4; subst h5
      have hv := h2.v
      subst hv
      refine ⟨.msl r 0 0 0, [(r, some (.buf sz el []))], Im', fun q => if q = r then some { blk := none, isBuf := true, sz := sz } else none, rfl, .msl _ r 0 0 0 rfl fun l hl => ?_, fun q hq => by simp [AV.ment] at hq; subst hq; simp [lkH], ?_⟩
      · simp at hl; subst hl; exact ⟨by simp, fun _ => rfl⟩
      · have one : ∀ {q o}, lkH q [(r, some (AObj.buf sz el []))] = some o → q = r ∧ o = .buf sz el [] := fun {q o} hq => by
          simp only [lkH] at hq
          split at hq
          · rename_i hb; injection hq with hq; exact ⟨(Nat.eq_of_beq_eq_true hb).symm, hq.symm⟩
          · simp at hq
        refine ⟨A.grows, A.im, A.imn, ⟨fun q o hq => ?_, fun q q' o o' l1 l2 h1 h2 hne => ?_⟩, fun q o hq => by simp [lkH] at hq, fun q o hq => ?_⟩
        · obtain ⟨rfl, rfl⟩ := one hq
          exact ⟨{ blk := none, isBuf := true, sz := sz }, by simp, ⟨rfl, rfl, rfl, rfl, by simp, .inl ⟨rfl, rfl, rfl⟩⟩, by simp [Loc.fp]⟩
        · exact absurd ((one h1).1.trans (one h2).1.symm) hne
        · obtain ⟨rfl, rfl⟩ := one hq
          intro x hx; simp [AObj.ment] at hx
  | panicked ch =>
    obtain ⟨ho, Im', ρ', h1, h4⟩ := he
    exact h1.elim (fun h => absurd h (by simp)) fun h => absurd h.2.2 (by simp)
  | outgrown => exact he

/-- A call that makes one object. -/
theorem CallP.makes {E : Env} {k : Kn} {f : FuncId} {args : List AV} {s : St} {K : AV → HL → Prop} {KP : List PanicEntry → HL → Prop} {res : AV} {r : Nat} {ob : AObj} (hu : unmB k.anc r s = true) (h : Ctr E f args [] fun o => o = .ret res [(r, some ob)]) (hk : K res ((r, some ob) :: s.h)) : CallP E k f args s K KP :=
  ⟨[], _, h, fun r o h => by simp [lkH] at h, fun res' ho e => by
    injection e with e1 e2; subst e1; subst e2
    refine ⟨fun q o hq => .inr ?_, hk⟩
    simp only [lkH] at hq
    split at hq
    · rename_i hb; have := Nat.eq_of_beq_eq_true hb; subst this; exact hu
    · simp at hq, fun ch ho e => by simp at e⟩

/-- A call that changes one object. -/
theorem CallP.upd {E : Env} {k : Kn} {f : FuncId} {args : List AV} {s : St} {K : AV → HL → Prop} {KP : List PanicEntry → HL → Prop} {res : AV} {r : Nat} {ob ob' : AObj} (hr : lkH r s.h = some ob) (h : Ctr E f args [(r, some ob)] fun o => o = .ret res [(r, some ob')]) (hk : K res ((r, some ob') :: (r, none) :: s.h)) : CallP E k f args s K KP :=
  have one : ∀ {q o x}, lkH q [(r, some x)] = some o → q = r ∧ o = x := fun {q o x} hq => by
    simp only [lkH] at hq
    split at hq
    · rename_i hb; injection hq with hq; exact ⟨(Nat.eq_of_beq_eq_true hb).symm, hq.symm⟩
    · simp at hq
  ⟨[(r, some ob)], _, h, fun q o hq => by obtain ⟨rfl, rfl⟩ := one hq; exact hr, fun res' ho e => by
    injection e with e1 e2; subst e1; subst e2
    exact ⟨fun q o hq => .inl (by obtain ⟨rfl, rfl⟩ := one hq; exact ⟨ob, by simp [lkH]⟩), hk⟩, fun ch ho e => by simp at e⟩

theorem CallD.upd {E : Env} {f : FuncId} {args : List AV} {s : St} {K : AV → HL → HL → Prop} {res : AV} {r : Nat} {ob ob' : AObj} (hr : lkH r s.h = some ob) (h : Ctr E f args [(r, some ob)] fun o => o = .ret res [(r, some ob')]) (hk : K res [(r, some ob)] [(r, some ob')]) : CallD E f args s K :=
  ⟨[(r, some ob)], res, [(r, some ob')], h, fun q o hq => by
    simp only [lkH] at hq
    split at hq
    · rename_i hb; injection hq with hq; subst hq; rw [← Nat.eq_of_beq_eq_true hb]; exact hr
    · simp at hq, hk⟩

/-- A nil slice in a variable's cell is an empty buffer of one's own. -/
theorem AWp.ownCell {E : Env} {code : Code} {Q : APost} {s : St} (q i r sz : Nat) (el : TypeId) (cs : List AV) (hq : lkH q s.h = some (.var cs)) (hi : cs[i]? = some (.d (.v (.slice none 0 0)))) (hu : unmB k.anc r s = true)
    (h : AWp E k code Q { f := s.f, h := (r, some (.buf sz el [])) :: (q, some (.var (cs.set i (.msl r 0 0 0)))) :: s.h }) : AWp E k code Q s := fun c ok hn ha Im ρ a w S => by
  have hun := unmB_spec (c := c) (by rw [ha]; exact hu)
  have hne : q ≠ r := fun e => by
    subst e
    have h1 : lkH q s.h = none := hun.none
    rw [hq] at h1; simp at h1
  have S1 := S.new (w' := w) (r := r) (l := { blk := none, isBuf := true, sz := sz }) (o := .buf sz el []) (Grows.refl w _) hun (by simp [Loc.fp]) ⟨rfl, rfl, rfl, rfl, by simp, .inl ⟨rfl, rfl, rfl⟩⟩
  obtain ⟨l, hl, hro, _⟩ := S1.obj q (.var cs) (by rw [upd_ne _ _ hne]; exact hq)
  have S2 := S1.chg (w' := w) (r := q) (l := l) (l' := l) (o' := .var (cs.set i (.msl r 0 0 0))) (by rw [upd_ne _ _ hne]; exact hq) hl (Grows.refl w _) (.inl rfl) (fun b hb => .inl hb) (by
    have hρ : upd (upd ρ r (some { blk := none, isBuf := true, sz := sz })) q (some l) = upd ρ r (some { blk := none, isBuf := true, sz := sz }) := by
      funext x
      by_cases hx : x = q
      · subst hx; rw [upd_same, hl]
      · rw [upd_ne _ _ hx]
    rw [hρ]
    refine ⟨hro.1, hro.2.1, ?_⟩
    obtain ⟨b, ms, t, h1, h2, h3, h4⟩ := hro.2.2
    refine ⟨b, ms, t, h1, h2, by simpa using h3, fun j v hv x hx => ?_⟩
    by_cases hj : i = j
    · subst hj
      have hil := (List.getElem?_eq_some_iff.1 hi).1
      rw [List.getElem?_set_self hil] at hx
      injection hx with hx; subst hx
      obtain ⟨h5, h6⟩ := h4 i v hv _ hi
      have := h5.v
      subst this
      refine ⟨.msl _ r 0 0 0 rfl fun l2 hl2 => ?_, rfl⟩
      rw [upd_same] at hl2; injection hl2 with hl2; subst hl2
      exact ⟨by simp, fun _ => rfl⟩
    · rw [List.getElem?_set_ne hj] at hx
      exact h4 j v hv x hx)
  refine h c ok hn ha Im (upd (upd ρ r (some { blk := none, isBuf := true, sz := sz })) q (some l)) a w ?_
  have e2 : (St.H { f := s.f, h := (r, some (.buf sz el [])) :: (q, some (.var (cs.set i (.msl r 0 0 0)))) :: s.h }) = upd (upd s.H r (some (.buf sz el []))) q (some (.var (cs.set i (.msl r 0 0 0)))) := by
    funext x
    by_cases hx : x = r
    · subst hx
      rw [upd_ne _ _ (Ne.symm hne), upd_same]
      simp [St.H, lkH]
    · rw [show St.H { f := s.f, h := (r, some (.buf sz el [])) :: (q, some (.var (cs.set i (.msl r 0 0 0)))) :: s.h } x = upd (fun t => lkH t ((q, some (.var (cs.set i (.msl r 0 0 0)))) :: s.h)) r (some (.buf sz el [])) x from congrFun (lkH_cons r _ _) x, upd_ne _ _ hx]
      show lkH x ((q, some (.var (cs.set i (.msl r 0 0 0)))) :: s.h) = _
      rw [congrFun (lkH_cons q (some (.var (cs.set i (.msl r 0 0 0)))) s.h) x]
      by_cases hx2 : x = q
      · subst hx2; rw [upd_same, upd_same]
      · rw [upd_ne _ _ hx2, upd_ne _ _ hx2, upd_ne _ _ hx]
  rw [e2]
  exact S2
theorem LoopP.ownCell {E : Env} {code : Code} {Q : APost} {s : St} (q i r sz : Nat) (el : TypeId) (cs : List AV) (hq : lkH q s.h = some (.var cs)) (hi : cs[i]? = some (.d (.v (.slice none 0 0)))) (hu : unmB k.anc r s = true)
    (h : LoopP E k code Q { f := s.f, h := (r, some (.buf sz el [])) :: (q, some (.var (cs.set i (.msl r 0 0 0)))) :: s.h }) : LoopP E k code Q s := ⟨.ownCell q i r sz el cs hq hi hu h.ok⟩

/-- A variable of data as a variable of whatever values. -/
theorem AWp.asVar {E : Env} {code : Code} {Q : APost} {s : St} (q n : Nat) (cs : List D) (hq : lkH q s.h = some (.dvar n cs)) (h : AWp E k code Q { f := s.f, h := (q, some (.var (cs.map .d))) :: s.h }) : AWp E k code Q s := fun c ok hn ha Im ρ a w S => by
  obtain ⟨l, hl, hro, _⟩ := S.obj q (.dvar n cs) hq
  have hρ : upd ρ q (some l) = ρ := by
    funext x
    by_cases hx : x = q
    · subst hx; rw [upd_same, hl]
    · rw [upd_ne _ _ hx]
  have S2 := S.chg (w' := w) (r := q) (l := l) (l' := l) (o' := .var (cs.map .d)) hq hl (Grows.refl w _) (.inl rfl) (fun b hb => .inl hb) (by
    rw [hρ]
    obtain ⟨h1, h2, h3, b, ms, t, h4, h5, h6, h7⟩ := hro
    refine ⟨h1, h2, b, ms, t, h4, h5, by simpa [h3] using h6, fun j v hv x hx => ?_⟩
    simp only [List.getElem?_map, Option.map_eq_some_iff] at hx
    obtain ⟨y, hy, rfl⟩ := hx
    exact ⟨.d _ _ (h7 j v hv y hy), (h7 j v hv y hy).one⟩)
  rw [hρ] at S2
  refine h c ok hn ha Im ρ a w ?_
  have e2 : (St.H { f := s.f, h := (q, some (.var (cs.map .d))) :: s.h }) = upd s.H q (some (.var (cs.map .d))) := lkH_cons q _ s.h
  rw [e2]
  exact S2
theorem LoopP.asVar {E : Env} {code : Code} {Q : APost} {s : St} (q n : Nat) (cs : List D) (hq : lkH q s.h = some (.dvar n cs)) (h : LoopP E k code Q { f := s.f, h := (q, some (.var (cs.map .d))) :: s.h }) : LoopP E k code Q s := ⟨.asVar q n cs hq h.ok⟩

end Go.Ax
