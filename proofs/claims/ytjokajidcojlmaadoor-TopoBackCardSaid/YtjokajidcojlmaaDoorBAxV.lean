import Derived.Test.YtjokajidcojlmaaDoorBAxBm
import Derived.Laws.BitsLemmas
import Derived.Laws.Bits64
import Derived.LoopN
import Derived.Below

/- Abstract execution, part V: calls with one outcome; numbers of 64 bits. -/
namespace Go.Ax

theorem CallP.det {E : Env} {k : Kn} {f : FuncId} {args : List AV} {s : St} {K : AV → HL → Prop} {KP : List PanicEntry → HL → Prop} {res : AV} (h : Ctr E f args [] fun o => o = .ret res []) (hk : K res s.h) : CallP E k f args s K KP :=
  ⟨[], _, h, fun r o h => by simp [lkH] at h, fun res' ho e => by injection e with e1 e2; subst e1; subst e2; exact ⟨fun r o h => by simp [lkH] at h, hk⟩, fun ch ho e => by simp at e⟩
theorem CallD.det {E : Env} {f : FuncId} {args : List AV} {s : St} {K : AV → HL → HL → Prop} {res : AV} (h : Ctr E f args [] fun o => o = .ret res []) (hk : K res [] []) : CallD E f args s K :=
  ⟨[], res, [], h, fun r o h => by simp [lkH] at h, hk⟩
theorem CallP.arg {E : Env} {k : Kn} {f : FuncId} {args args' : List AV} {s : St} {K : AV → HL → Prop} {KP : List PanicEntry → HL → Prop} (e : args = args') (h : CallP E k f args' s K KP) : CallP E k f args s K KP := e ▸ h
theorem CallD.arg {E : Env} {f : FuncId} {args args' : List AV} {s : St} {K : AV → HL → HL → Prop} (e : args = args') (h : CallD E f args' s K) : CallD E f args s K := e ▸ h

abbrev AV.u64 (x : BitVec 64) : AV := .d (.v (.int .u64 x.toNat))
abbrev AV.i64 (n : Int) : AV := .d (.v (.int .i64 n))
abbrev AV.bool (b : Bool) : AV := .d (.v (.bool b))
abbrev AV.str (b : ByteArray) : AV := .d (.v (.string b))
abbrev D.i64 (n : Int) : D := .v (.int .i64 n)
abbrev D.u16 (n : Int) : D := .v (.int .u16 n)
theorem msl_eq {r n n' : Nat} (h : n = n') : AV.msl r n 0 n = AV.msl r n' 0 n' := by rw [h]

theorem AV.int_eq {k : IntKind} {a b : Int} (h : a = b) : (AV.d (.v (.int k a))) = .d (.v (.int k b)) := by rw [h]
theorem AV.bool_eq {a b : Bool} (h : a = b) : (AV.d (.v (.bool a))) = .d (.v (.bool b)) := by rw [h]

theorem i64_wrap {n : Int} (h0 : -9223372036854775808 ≤ n) (h1 : n < 9223372036854775808) : IntKind.i64.wrap n = n := by rw [IntKind.wrap_i64]; omega
theorem i64_succ {n : Nat} (h1 : n < 9223372036854775807) : IntKind.i64.wrap ((n : Int) + 1) = ((n + 1 : Nat) : Int) := by rw [IntKind.wrap_i64]; omega
theorem u64_ofInt (x : BitVec 64) : BitVec.ofInt 64 (x.toNat : Int) = x := by simp
theorem u64_nat {n : Nat} (h : n < 2 ^ 64) : IntKind.u64.wrap (n : Int) = n := by rw [IntKind.wrap_u64]; omega
theorem u64_add (x y : BitVec 64) : IntKind.u64.wrap ((x.toNat : Int) + y.toNat) = (x + y).toNat := by
  rw [IntKind.wrap_u64, BitVec.toNat_add]; omega
theorem u64_sub (x y : BitVec 64) : IntKind.u64.wrap ((x.toNat : Int) - y.toNat) = (x - y).toNat := by
  have := x.isLt; have := y.isLt
  rw [IntKind.wrap_u64, BitVec.toNat_sub]; omega
theorem u64_mul (x y : BitVec 64) : IntKind.u64.wrap ((x.toNat : Int) * y.toNat) = (x * y).toNat := by
  rw [IntKind.wrap_u64, BitVec.toNat_mul]
  rw [← Int.natCast_mul]; omega
theorem u64_and (x y : BitVec 64) : IntKind.u64.wrap ((BitVec.ofInt IntKind.u64.bits x.toNat &&& BitVec.ofInt IntKind.u64.bits y.toNat).toNat : Int) = (x &&& y).toNat := by
  show IntKind.u64.wrap ((BitVec.ofInt 64 x.toNat &&& BitVec.ofInt 64 y.toNat).toNat : Int) = _
  rw [u64_ofInt, u64_ofInt]
  exact u64_nat (BitVec.isLt _)
theorem u64_or (x y : BitVec 64) : IntKind.u64.wrap ((BitVec.ofInt IntKind.u64.bits x.toNat ||| BitVec.ofInt IntKind.u64.bits y.toNat).toNat : Int) = (x ||| y).toNat := by
  show IntKind.u64.wrap ((BitVec.ofInt 64 x.toNat ||| BitVec.ofInt 64 y.toNat).toNat : Int) = _
  rw [u64_ofInt, u64_ofInt]
  exact u64_nat (BitVec.isLt _)
theorem u64_andNot (x y : BitVec 64) : IntKind.u64.wrap ((BitVec.ofInt IntKind.u64.bits x.toNat &&& ~~~BitVec.ofInt IntKind.u64.bits y.toNat).toNat : Int) = (x &&& ~~~y).toNat := by
  show IntKind.u64.wrap ((BitVec.ofInt 64 x.toNat &&& ~~~BitVec.ofInt 64 y.toNat).toNat : Int) = _
  rw [u64_ofInt, u64_ofInt]
  exact u64_nat (BitVec.isLt _)
theorem u64_div (x y : BitVec 64) : IntKind.u64.wrap ((x.toNat : Int).tdiv y.toNat) = (x / y).toNat := by
  rw [← Int.ofNat_tdiv, BitVec.toNat_udiv]
  exact u64_nat (Nat.lt_of_le_of_lt (Nat.div_le_self _ _) x.isLt)
theorem u64_mod (x y : BitVec 64) : ((x.toNat : Int).tmod y.toNat) = (x % y).toNat := by
  rw [← Int.ofNat_tmod, BitVec.toNat_umod]
theorem u64_beq (x y : BitVec 64) : ((x.toNat : Int) == (y.toNat : Int)) = (x == y) := by
  rw [Bool.eq_iff_iff, beq_iff_eq, beq_iff_eq]
  constructor
  · intro h; exact BitVec.eq_of_toNat_eq (by omega)
  · rintro rfl; rfl
theorem u64_bne (x y : BitVec 64) : ((x.toNat : Int) != (y.toNat : Int)) = (x != y) := by
  simp only [bne, u64_beq]
theorem u64_shr (x : BitVec 64) (n : Nat) (hn : n < 64) : ((x.toNat : Int).fdiv (2 ^ (min n 64))) = (x >>> n).toNat := by
  rw [Nat.min_eq_left (by omega), BitVec.toNat_ushiftRight, Nat.shiftRight_eq_div_pow]
  rw [show ((2 : Int) ^ n) = ((2 ^ n : Nat) : Int) by simp]
  rw [Int.fdiv_eq_ediv_of_nonneg _ (Int.natCast_nonneg _)]
  rfl
theorem u64_shl (n : Nat) : IntKind.u64.wrap (1 * 2 ^ (min n 64)) = ((1#64) <<< n).toNat := by
  rw [IntKind.wrap_u64, BitVec.toNat_shiftLeft, Nat.shiftLeft_eq]
  by_cases h : n ≤ 64
  · rw [Nat.min_eq_left h]
    have : ((2 : Int) ^ n) = ((2 ^ n : Nat) : Int) := by simp
    rw [this]
    simp
  · rw [Nat.min_eq_right (by omega)]
    have h1 : 2 ^ 64 ∣ 2 ^ n := Nat.pow_dvd_pow 2 (by omega)
    have h2 : (1 * 2 ^ n) % 2 ^ 64 = 0 := by rw [Nat.one_mul]; exact Nat.mod_eq_zero_of_dvd h1
    show _ = (((1 : Nat) * 2 ^ n % 2 ^ 64 : Nat) : Int)
    rw [h2]; decide

end Go.Ax

/- Abstract execution, part W: a loop's rounds one by one; a nil slice taken for a buffer of one's own; a buffer handed over for good, or lent. -/
namespace Go.Ax

variable {X : Ax} {k : Kn}

def roundsP (E : Env) (tab : List (Nat × TI)) (k : Kn) (c : Code) (Q : APost) : Nat → St → Prop
  | 0, _ => False
  | n + 1, s => wpc E tab k c (thenP (fun s => roundsP E tab k c Q n s) Q) s

theorem rounds_ok {body : Code} {Q : APost} : ∀ (n : Nat) {s : St}, roundsP X.E X.tab k body Q n s → ∀ (c : Cx), c.Ok X.E → c.nt = k.nt → c.anc = k.anc → ∀ Im ρ a w, Sim c Im ρ s.F s.H a w → Code.rounds X.E.P body (Lift c Q) n a w
  | 0, s, h => h.elim
  | n + 1, s, h => fun c ok hn ha Im ρ a w S => by
    refine wp_mono (wpc_ok h c ok hn ha Im ρ a w S) fun e a' w' ⟨h1, Im', ρ', s', S', hQ⟩ => ?_
    cases e with
    | normal => exact rounds_ok n hQ c ok hn ha Im' ρ' a' w' S'
    | outgrown => exact absurd rfl h1
    | exit id => exact ⟨h1, Im', ρ', s', S', hQ⟩
    | goto l => exact ⟨h1, Im', ρ', s', S', hQ⟩
    | ret => exact ⟨h1, Im', ρ', s', S', hQ⟩
    | panic ch => exact ⟨h1, Im', ρ', s', S', hQ⟩

/-- A loop of no more than so many rounds, walked round by round. -/
theorem LoopP.rounds {body : Code} {Q : APost} {s : St} (n : Nat) (h : roundsP X.E X.tab k body Q n s) : LoopP X.E k body Q s :=
  ⟨fun c ok hn ha Im ρ a w S => wp_loop_rounds n (rounds_ok n h c ok hn ha Im ρ a w S)⟩

/-- A loop: a family of states, what is known of its places, a number that falls. -/
theorem LoopP.inv {σ : Type} {body : Code} {Q : APost} {s : St} (st : σ → St) (I : σ → Prop) (μ : σ → Nat) (s0 : σ) (hI : I s0) (h0 : (st s0).Le s)
    (round : ∀ x, I x → wpc X.E X.tab k body (thenP (fun s' => ∃ x', I x' ∧ μ x' < μ x ∧ (st x').Le s') Q) (st x)) : LoopP X.E k body Q s :=
  ⟨AWp.loop (σ := { x : σ // I x }) (fun x => st x.1) (fun x => μ x.1) ⟨s0, hI⟩ h0 fun ⟨x, hx⟩ => AWp.mono (wpc_ok (round x hx)) fun e s' h => by
    cases e with
    | normal => obtain ⟨x', h1, h2, h3⟩ := h; exact ⟨⟨x', h1⟩, h2, h3⟩
    | _ => exact h⟩

/-- A slot's value is known as something else, too. -/
theorem Sim.seen {c : Cx} {Im : Nat → Prop} {ρ : Nat → Option Loc} {F : Nat → AV} {H : Nat → Option AObj} {a : Act} {w : World} (S : Sim c Im ρ F H a w) {t : Nat} {x : AV} (hx : RA (hp w) Im ρ (a.tmps.getD t undef) x) : Sim c Im ρ (upd F t x) H a w where
  defs := S.defs
  nt := S.nt
  fr := fun u hu => by
    by_cases h : u = t
    · subst h; simpa using hx
    · rw [upd_ne _ _ h]; exact S.fr u hu
  obj := S.obj
  dis := S.dis
  imn := S.imn
  im0 := S.im0
  os := S.os
  tape := S.tape
  output := S.output
  size := S.size
  kept := S.kept
  anc := S.anc

/-- A nil slice is an empty buffer of one's own. -/
theorem AWp.own {E : Env} {code : Code} {Q : APost} {s : St} (t r sz : Nat) (el : TypeId) (ht : Nat.blt t k.nt = true) (hl : lk t s.f = .d (.v (.slice none 0 0))) (hu : unmB k.anc r s = true)
    (h : AWp E k code Q { f := (t, .msl r 0 0 0) :: s.f, h := (r, some (.buf sz el [])) :: s.h }) : AWp E k code Q s := fun c ok hn ha Im ρ a w S => by
  have hv : a.tmps.getD t undef = .slice none 0 0 := by
    have := S.fr t (by rw [hn]; simpa using ht)
    simp only [St.F] at this
    rw [hl] at this
    exact this.v
  have S1 := S.new (w' := w) (r := r) (l := { blk := none, isBuf := true, sz := sz }) (o := .buf sz el []) (Grows.refl w _) (unmB_spec (by rw [ha]; exact hu)) (by simp [Loc.fp]) ⟨rfl, rfl, rfl, rfl, by simp, .inl ⟨rfl, rfl, rfl⟩⟩
  have S2 := S1.seen (t := t) (x := .msl r 0 0 0) (by
    rw [hv]
    refine .msl _ r 0 0 0 rfl fun l hl => ?_
    rw [upd_same] at hl; injection hl with hl; subst hl
    exact ⟨by simp, fun _ => rfl⟩)
  refine h c ok hn ha Im (upd ρ r (some { blk := none, isBuf := true, sz := sz })) a w ?_
  have e1 : (St.F { f := (t, .msl r 0 0 0) :: s.f, h := (r, some (.buf sz el [])) :: s.h }) = upd s.F t (.msl r 0 0 0) := lk_cons t _ s.f
  have e2 : (St.H { f := (t, .msl r 0 0 0) :: s.f, h := (r, some (.buf sz el [])) :: s.h }) = upd s.H r (some (.buf sz el [])) := lkH_cons r _ s.h
  rw [e1, e2]
  exact S2
theorem LoopP.own {E : Env} {code : Code} {Q : APost} {s : St} (t r sz : Nat) (el : TypeId) (ht : Nat.blt t k.nt = true) (hl : lk t s.f = .d (.v (.slice none 0 0))) (hu : unmB k.anc r s = true)
    (h : LoopP E k code Q { f := (t, .msl r 0 0 0) :: s.f, h := (r, some (.buf sz el [])) :: s.h }) : LoopP E k code Q s := ⟨.own t r sz el ht hl hu h.ok⟩

/-- Arguments with one buffer told as data. -/
def frz (r sz : Nat) (els : List (List D)) : AV → AV
  | .msl q n off len => match Nat.beq q r, Nat.beq n els.length, Nat.ble (off + len) els.length with
    | true, true, true => .d (.sl false sz ((els.drop off).take len))
    | _, _, _ => .msl q n off len
  | x => x

theorem HRel.weakA {w : World} {Im : Nat → Prop} {ρ : Nat → Option Loc} {h : HL} {A A' : Nat → Prop} (H : HRel w Im ρ h A) (hA : ∀ b, A b → A' b) : HRel w Im ρ h A' where
  obj := fun r o h1 => let ⟨l, a, b, c⟩ := H.obj r o h1; ⟨l, a, b, fun x hx => ⟨(c x hx).1, (c x hx).2.1, hA x (c x hx).2.2⟩⟩
  dis := H.dis

/-- What takes data takes a buffer, too: it is the callee's for good. -/
theorem Ctr.freeze {E : Env} {f : FuncId} {args : List AV} {res : AV} (r sz : Nat) (el : TypeId) (els : List (List D)) (h : Ctr E f (args.map (frz r sz els)) [] fun o => o = .ret res []) : Ctr E f args [(r, some (.buf sz el els))] fun o => o = .ret res [] := by
  refine ⟨h.1, fun w Im ρ vs hG hIm hgl hsz hra hrel => ?_⟩
  obtain ⟨l, hl, hro, hown⟩ := hrel.obj r (.buf sz el els) (by simp [lkH])
  have hra1 : ∀ (i : Nat) (v : Value) (x : AV), vs[i]? = some v → (args.map (frz r sz els))[i]? = some x → RA (hp w) (fun b => Im b ∨ b ∈ l.fp) ρ v x := fun i v x h1 h2 => by
    simp only [List.getElem?_map, Option.map_eq_some_iff] at h2
    obtain ⟨y, hy, rfl⟩ := h2
    have h3 := hra i v y h1 hy
    have h4 : RA (hp w) (fun b => Im b ∨ b ∈ l.fp) ρ v y := h3.mono (fun _ h => .inl h) (fun _ _ => rfl) fun q _ l' hl' => ⟨l', hl', .inl rfl⟩
    unfold frz
    split
    · split
      · rename_i q n off len e1 e2 e3
        have := Nat.eq_of_beq_eq_true e1; subst this
        have := Nat.eq_of_beq_eq_true e2; subst this
        cases h3 with
        | msl _ _ _ _ _ _ hp2 =>
          have hv := (hp2 l hl).2 hro.2.2.2.1.symm
          rw [hv]
          exact .d _ _ (RD.ofBuf hro (fun _ h => .inl h) (fun b hb => .inr hb) (Nat.le_of_ble_eq_true e3))
      · exact h4
    · exact h4
  have := h.2 w (fun b => Im b ∨ b ∈ l.fp) (fun _ => none) vs hG (fun b hb => hb.elim (hIm b) fun hb => (hown b hb).1) (fun b hb => .inl (hgl b hb)) (by simpa using hsz) (fun i v x h1 h2 => (hra1 i v x h1 h2).mono (fun _ h => h) (fun _ _ => rfl) fun q hq l' hl' => by simp at hl') ⟨fun r o h => by simp [lkH] at h, fun r r' o o' l l' h => by simp [lkH] at h⟩
  have hT : ∀ b, TIn (fun _ => none) [] b → False := fun b ⟨r, o, l, h, _⟩ => by simp [lkH] at h
  have hTin : ∀ b ∈ l.fp, TIn ρ [(r, some (.buf sz el els))] b := fun b hb => ⟨r, .buf sz el els, l, by simp [lkH], hl, hb⟩
  refine this.mono fun e w' he => ?_
  cases e with
  | returned v =>
    obtain ⟨res', ho, Im', ρ', h1, h2, h3, A⟩ := he
    injection h1 with e1 e2; subst e1; subst e2
    refine ⟨res', [], Im', fun _ => none, rfl, h2.mono (fun _ h => h) (fun _ _ => rfl) (fun q hq l' hl' => by simp at hl'), h3, ?_⟩
    refine ⟨⟨A.grows.size, A.grows.os, A.grows.tape, A.grows.output, fun b hb hn => A.grows.block b hb fun h => hT b h⟩, fun b hb => A.im b (.inl hb), fun b hb => ?_, ⟨fun q o hq => by simp [lkH] at hq, fun q q' o o' l1 l2 hq => by simp [lkH] at hq⟩, fun q o hq l' hl' => by simp at hl', A.cl⟩
    obtain ⟨g1, g2⟩ := A.imn b hb
    refine ⟨g1, ?_⟩
    rcases g2 with (g2 | g2) | g2 | g2
    · exact .inl g2
    · exact .inr (.inr (hTin b g2))
    · exact .inr (.inl g2)
    · exact (hT b g2).elim
  | panicked ch =>
    obtain ⟨ho, Im', ρ', h1, h4⟩ := he
    exact absurd h1 (by simp)
  | outgrown => exact he

/-- The same, in a call: the buffer is gone behind it. -/
theorem CallP.give {E : Env} {k : Kn} {f : FuncId} {args : List AV} {s : St} {K : AV → HL → Prop} {KP : List PanicEntry → HL → Prop} {res : AV} (r sz : Nat) (el : TypeId) (els : List (List D)) (hr : lkH r s.h = some (.buf sz el els)) (h : Ctr E f (args.map (frz r sz els)) [] fun o => o = .ret res [])
    (hk : K res ((r, none) :: s.h)) : CallP E k f args s K KP :=
  ⟨[(r, some (.buf sz el els))], _, Ctr.freeze r sz el els h, fun q o hq => by
    simp only [lkH] at hq
    split at hq
    · rename_i hb
      have := Nat.eq_of_beq_eq_true hb; subst this
      injection hq with hq; subst hq; exact hr
    · simp at hq, fun res' ho e => by injection e with e1 e2; subst e1; subst e2; exact ⟨fun r o h => by simp [lkH] at h, hk⟩, fun ch ho e => by simp at e⟩
theorem CallD.give {E : Env} {f : FuncId} {args : List AV} {s : St} {K : AV → HL → HL → Prop} {res : AV} (r sz : Nat) (el : TypeId) (els : List (List D)) (hr : lkH r s.h = some (.buf sz el els)) (h : Ctr E f (args.map (frz r sz els)) [] fun o => o = .ret res [])
    (hk : K res [(r, some (.buf sz el els))] []) : CallD E f args s K :=
  ⟨[(r, some (.buf sz el els))], res, [], Ctr.freeze r sz el els h, fun q o hq => by
    simp only [lkH] at hq
    split at hq
    · rename_i hb
      have := Nat.eq_of_beq_eq_true hb; subst this
      injection hq with hq; subst hq; exact hr
    · simp at hq, hk⟩

/-- A nil slice that is handed back is an empty buffer of the caller's own. -/
theorem Ctr.nilOwn {E : Env} {f : FuncId} {args : List AV} (r n sz : Nat) (el : TypeId) (els : List (List D))
    (h : Ctr E f args [] fun o => o = .ret (.msl r n 0 n) [(r, some (.buf sz el els))] ∨ (els = [] ∧ n = 0 ∧ o = .ret (.d (.v (.slice none 0 0))) [])) : Ctr E f args [] fun o => o = .ret (.msl r n 0 n) [(r, some (.buf sz el els))] := by
  refine ⟨h.1, fun w Im ρ vs hG hIm hgl hsz hra hrel => (h.2 w Im ρ vs hG hIm hgl hsz hra hrel).mono fun e w' he => ?_⟩
  cases e with
  | returned v =>
    obtain ⟨res, ho, Im', ρ', h1, h2, h3, A⟩ := he
    rcases h1 with h1 | ⟨h4, h5, h1⟩
    · exact ⟨res, ho, Im', ρ', h1, h2, h3, A⟩
    · injection h1 with e1 e2; subst e1; subst e2; subst h4; subst h5
      have hv := h2.v
      subst hv
      refine ⟨.msl r 0 0 0, [(r, some (.buf sz el []))], Im', fun q => if q = r then some { blk := none, isBuf := true, sz := sz } else none, rfl, .msl _ r 0 0 0 rfl fun l hl => ?_, fun q hq => by simp [AV.ment] at hq; subst hq; simp [lkH], ?_⟩
      · simp at hl; subst hl; exact ⟨by simp, fun _ => rfl⟩
      · have one : ∀ {q o}, lkH q [(r, some (AObj.buf sz el []))] = some o → q = r ∧ o = .buf sz el [] := fun {q o} hq => by
          simp only [lkH] at hq
          split at hq
          · rename_i hb; injection hq with hq; exact ⟨(Nat.eq_of_beq_eq_true hb).symm, hq.symm⟩
          · simp at hq
        refine ⟨A.grows, A.im, A.imn, ⟨fun q o hq => ?_, fun q q' o o' l1 l2 h1 h2 hne => ?_⟩, fun q o hq => by simp [lkH] at hq, fun q o hq => ?_⟩
        · obtain ⟨rfl, rfl⟩ := one hq
          exact ⟨{ blk := none, isBuf := true, sz := sz }, by simp, ⟨rfl, rfl, rfl, rfl, by simp, .inl ⟨rfl, rfl, rfl⟩⟩, by simp [Loc.fp]⟩
        · exact absurd ((one h1).1.trans (one h2).1.symm) hne
        · obtain ⟨rfl, rfl⟩ := one hq
          intro x hx; simp [AObj.ment] at hx
  | panicked ch =>
    obtain ⟨ho, Im', ρ', h1, h4⟩ := he
    exact h1.elim (fun h => absurd h (by simp)) fun h => absurd h.2.2 (by simp)
  | outgrown => exact he

/-- A call that makes one object. -/
theorem CallP.makes {E : Env} {k : Kn} {f : FuncId} {args : List AV} {s : St} {K : AV → HL → Prop} {KP : List PanicEntry → HL → Prop} {res : AV} {r : Nat} {ob : AObj} (hu : unmB k.anc r s = true) (h : Ctr E f args [] fun o => o = .ret res [(r, some ob)]) (hk : K res ((r, some ob) :: s.h)) : CallP E k f args s K KP :=
  ⟨[], _, h, fun r o h => by simp [lkH] at h, fun res' ho e => by
    injection e with e1 e2; subst e1; subst e2
    refine ⟨fun q o hq => .inr ?_, hk⟩
    simp only [lkH] at hq
    split at hq
    · rename_i hb; have := Nat.eq_of_beq_eq_true hb; subst this; exact hu
    · simp at hq, fun ch ho e => by simp at e⟩

/-- A call that changes one object. -/
theorem CallP.upd {E : Env} {k : Kn} {f : FuncId} {args : List AV} {s : St} {K : AV → HL → Prop} {KP : List PanicEntry → HL → Prop} {res : AV} {r : Nat} {ob ob' : AObj} (hr : lkH r s.h = some ob) (h : Ctr E f args [(r, some ob)] fun o => o = .ret res [(r, some ob')]) (hk : K res ((r, some ob') :: (r, none) :: s.h)) : CallP E k f args s K KP :=
  have one : ∀ {q o x}, lkH q [(r, some x)] = some o → q = r ∧ o = x := fun {q o x} hq => by
    simp only [lkH] at hq
    split at hq
    · rename_i hb; injection hq with hq; exact ⟨(Nat.eq_of_beq_eq_true hb).symm, hq.symm⟩
    · simp at hq
  ⟨[(r, some ob)], _, h, fun q o hq => by obtain ⟨rfl, rfl⟩ := one hq; exact hr, fun res' ho e => by
    injection e with e1 e2; subst e1; subst e2
    exact ⟨fun q o hq => .inl (by obtain ⟨rfl, rfl⟩ := one hq; exact ⟨ob, by simp [lkH]⟩), hk⟩, fun ch ho e => by simp at e⟩

theorem CallD.upd {E : Env} {f : FuncId} {args : List AV} {s : St} {K : AV → HL → HL → Prop} {res : AV} {r : Nat} {ob ob' : AObj} (hr : lkH r s.h = some ob) (h : Ctr E f args [(r, some ob)] fun o => o = .ret res [(r, some ob')]) (hk : K res [(r, some ob)] [(r, some ob')]) : CallD E f args s K :=
  ⟨[(r, some ob)], res, [(r, some ob')], h, fun q o hq => by
    simp only [lkH] at hq
    split at hq
    · rename_i hb; injection hq with hq; subst hq; rw [← Nat.eq_of_beq_eq_true hb]; exact hr
    · simp at hq, hk⟩

/-- A nil slice in a variable's cell is an empty buffer of one's own. -/
theorem AWp.ownCell {E : Env} {code : Code} {Q : APost} {s : St} (q i r sz : Nat) (el : TypeId) (cs : List AV) (hq : lkH q s.h = some (.var cs)) (hi : cs[i]? = some (.d (.v (.slice none 0 0)))) (hu : unmB k.anc r s = true)
    (h : AWp E k code Q { f := s.f, h := (r, some (.buf sz el [])) :: (q, some (.var (cs.set i (.msl r 0 0 0)))) :: s.h }) : AWp E k code Q s := fun c ok hn ha Im ρ a w S => by
  have hun := unmB_spec (c := c) (by rw [ha]; exact hu)
  have hne : q ≠ r := fun e => by
    subst e
    have h1 : lkH q s.h = none := hun.none
    rw [hq] at h1; simp at h1
  have S1 := S.new (w' := w) (r := r) (l := { blk := none, isBuf := true, sz := sz }) (o := .buf sz el []) (Grows.refl w _) hun (by simp [Loc.fp]) ⟨rfl, rfl, rfl, rfl, by simp, .inl ⟨rfl, rfl, rfl⟩⟩
  obtain ⟨l, hl, hro, _⟩ := S1.obj q (.var cs) (by rw [upd_ne _ _ hne]; exact hq)
  have S2 := S1.chg (w' := w) (r := q) (l := l) (l' := l) (o' := .var (cs.set i (.msl r 0 0 0))) (by rw [upd_ne _ _ hne]; exact hq) hl (Grows.refl w _) (.inl rfl) (fun b hb => .inl hb) (by
    have hρ : upd (upd ρ r (some { blk := none, isBuf := true, sz := sz })) q (some l) = upd ρ r (some { blk := none, isBuf := true, sz := sz }) := by
      funext x
      by_cases hx : x = q
      · subst hx; rw [upd_same, hl]
      · rw [upd_ne _ _ hx]
    rw [hρ]
    refine ⟨hro.1, hro.2.1, ?_⟩
    obtain ⟨b, ms, t, h1, h2, h3, h4⟩ := hro.2.2
    refine ⟨b, ms, t, h1, h2, by simpa using h3, fun j v hv x hx => ?_⟩
    by_cases hj : i = j
    · subst hj
      have hil := (List.getElem?_eq_some_iff.1 hi).1
      rw [List.getElem?_set_self hil] at hx
      injection hx with hx; subst hx
      obtain ⟨h5, h6⟩ := h4 i v hv _ hi
      have := h5.v
      subst this
      refine ⟨.msl _ r 0 0 0 rfl fun l2 hl2 => ?_, rfl⟩
      rw [upd_same] at hl2; injection hl2 with hl2; subst hl2
      exact ⟨by simp, fun _ => rfl⟩
    · rw [List.getElem?_set_ne hj] at hx
      exact h4 j v hv x hx)
  refine h c ok hn ha Im (upd (upd ρ r (some { blk := none, isBuf := true, sz := sz })) q (some l)) a w ?_
  have e2 : (St.H { f := s.f, h := (r, some (.buf sz el [])) :: (q, some (.var (cs.set i (.msl r 0 0 0)))) :: s.h }) = upd (upd s.H r (some (.buf sz el []))) q (some (.var (cs.set i (.msl r 0 0 0)))) := by
    funext x
    by_cases hx : x = r
    · subst hx
      rw [upd_ne _ _ (Ne.symm hne), upd_same]
      simp [St.H, lkH]
    · rw [show St.H { f := s.f, h := (r, some (.buf sz el [])) :: (q, some (.var (cs.set i (.msl r 0 0 0)))) :: s.h } x = upd (fun t => lkH t ((q, some (.var (cs.set i (.msl r 0 0 0)))) :: s.h)) r (some (.buf sz el [])) x from congrFun (lkH_cons r _ _) x, upd_ne _ _ hx]
      show lkH x ((q, some (.var (cs.set i (.msl r 0 0 0)))) :: s.h) = _
      rw [congrFun (lkH_cons q (some (.var (cs.set i (.msl r 0 0 0)))) s.h) x]
      by_cases hx2 : x = q
      · subst hx2; rw [upd_same, upd_same]
      · rw [upd_ne _ _ hx2, upd_ne _ _ hx2, upd_ne _ _ hx]
  rw [e2]
  exact S2
theorem LoopP.ownCell {E : Env} {code : Code} {Q : APost} {s : St} (q i r sz : Nat) (el : TypeId) (cs : List AV) (hq : lkH q s.h = some (.var cs)) (hi : cs[i]? = some (.d (.v (.slice none 0 0)))) (hu : unmB k.anc r s = true)
    (h : LoopP E k code Q { f := s.f, h := (r, some (.buf sz el [])) :: (q, some (.var (cs.set i (.msl r 0 0 0)))) :: s.h }) : LoopP E k code Q s := ⟨.ownCell q i r sz el cs hq hi hu h.ok⟩

/-- A variable of data as a variable of whatever values. -/
theorem AWp.asVar {E : Env} {code : Code} {Q : APost} {s : St} (q n : Nat) (cs : List D) (hq : lkH q s.h = some (.dvar n cs)) (h : AWp E k code Q { f := s.f, h := (q, some (.var (cs.map .d))) :: s.h }) : AWp E k code Q s := fun c ok hn ha Im ρ a w S => by
  obtain ⟨l, hl, hro, _⟩ := S.obj q (.dvar n cs) hq
  have hρ : upd ρ q (some l) = ρ := by
    funext x
    by_cases hx : x = q
    · subst hx; rw [upd_same, hl]
    · rw [upd_ne _ _ hx]
  have S2 := S.chg (w' := w) (r := q) (l := l) (l' := l) (o' := .var (cs.map .d)) hq hl (Grows.refl w _) (.inl rfl) (fun b hb => .inl hb) (by
    rw [hρ]
    obtain ⟨h1, h2, h3, b, ms, t, h4, h5, h6, h7⟩ := hro
    refine ⟨h1, h2, b, ms, t, h4, h5, by simpa [h3] using h6, fun j v hv x hx => ?_⟩
    simp only [List.getElem?_map, Option.map_eq_some_iff] at hx
    obtain ⟨y, hy, rfl⟩ := hx
    exact ⟨.d _ _ (h7 j v hv y hy), (h7 j v hv y hy).one⟩)
  rw [hρ] at S2
  refine h c ok hn ha Im ρ a w ?_
  have e2 : (St.H { f := s.f, h := (q, some (.var (cs.map .d))) :: s.h }) = upd s.H q (some (.var (cs.map .d))) := lkH_cons q _ s.h
  rw [e2]
  exact S2
theorem LoopP.asVar {E : Env} {code : Code} {Q : APost} {s : St} (q n : Nat) (cs : List D) (hq : lkH q s.h = some (.dvar n cs)) (h : LoopP E k code Q { f := s.f, h := (q, some (.var (cs.map .d))) :: s.h }) : LoopP E k code Q s := ⟨.asVar q n cs hq h.ok⟩

end Go.Ax

/- Abstract execution, part Sw: objects under other names. -/
namespace Go.Ax

def swp (a b r : Nat) : Nat := match Nat.beq r a with
  | true => b
  | false => match Nat.beq r b with
    | true => a
    | false => r
theorem swp_eq (a b r : Nat) : swp a b r = if r = a then b else if r = b then a else r := by
  unfold swp
  by_cases h : r = a
  · subst h; simp
  · have h1 : Nat.beq r a = false := by
      cases hb : Nat.beq r a with
      | false => rfl
      | true => exact absurd (Nat.eq_of_beq_eq_true hb) h
    simp only [h1, if_neg h]
    by_cases h2 : r = b
    · subst h2; simp
    · have h3 : Nat.beq r b = false := by
        cases hb : Nat.beq r b with
        | false => rfl
        | true => exact absurd (Nat.eq_of_beq_eq_true hb) h2
      simp [h3, h2]
theorem swp_swp (a b r : Nat) : swp a b (swp a b r) = r := by
  simp only [swp_eq]
  by_cases h : r = a
  · subst h; by_cases h2 : b = r <;> simp [h2]
  · by_cases h2 : r = b
    · subst h2; simp [h]
    · simp [h, h2]
theorem swp_inj {a b x y : Nat} (h : swp a b x = swp a b y) : x = y := by rw [← swp_swp a b x, h, swp_swp]

mutual
def AV.swap (a b : Nat) : AV → AV
  | .junk => .junk
  | .d x => .d x
  | .dagg cs => .dagg cs
  | .agg cs => .agg (AV.swapL a b cs)
  | .tup vs => .tup (AV.swapL a b vs)
  | .ptr r off => .ptr (swp a b r) off
  | .ep cs => .ep cs
  | .msl r n off len => .msl (swp a b r) n off len
  | .mptr r n i j => .mptr (swp a b r) n i j
  | .mp r => .mp (swp a b r)
  | .clo fn f c => .clo fn (AV.swapL a b f) (AV.swapL a b c)
  | .ifc t x => .ifc t (AV.swap a b x)
def AV.swapL (a b : Nat) : List AV → List AV
  | [] => []
  | x :: xs => AV.swap a b x :: AV.swapL a b xs
end
def AObj.swap (a b : Nat) : AObj → AObj
  | .var cs => .var (AV.swapL a b cs)
  | .dvar n cs => .dvar n cs
  | .buf sz e els => .buf sz e els
  | .map ag es => .map ag es
  | .siter m p => .siter m p
  | .tvar t cs => .tvar t cs
  | .ext R => .ext R
def HL.swap (a b : Nat) : HL → HL
  | [] => []
  | (r, some o) :: h => (swp a b r, some (o.swap a b)) :: HL.swap a b h
  | (r, none) :: h => (swp a b r, none) :: HL.swap a b h

theorem swapL_get (a b : Nat) : ∀ (l : List AV) (i : Nat), (AV.swapL a b l)[i]? = (l[i]?).map (AV.swap a b)
  | [], i => by simp [AV.swapL]
  | x :: xs, 0 => by simp [AV.swapL]
  | x :: xs, i + 1 => by simp [AV.swapL, swapL_get a b xs i]
theorem swapL_length (a b : Nat) : ∀ (l : List AV), (AV.swapL a b l).length = l.length
  | [] => rfl
  | x :: xs => by simp [AV.swapL, swapL_length a b xs]
theorem swapL_map (a b : Nat) : ∀ (l : List AV), AV.swapL a b l = l.map (AV.swap a b)
  | [] => rfl
  | x :: xs => by simp [AV.swapL, swapL_map a b xs]

theorem RA.swap {h : Nat → Option Obj} {Im : Nat → Prop} {ρ ρ' : Nat → Option Loc} (a b : Nat) (hρ : ∀ r, ρ' (swp a b r) = ρ r) {v : Value} {x : AV} (H : RA h Im ρ v x) : RA h Im ρ' v (x.swap a b) := by
  induction H with
  | junk x => exact .junk x
  | d x y hd => exact .d x y hd
  | dagg cs l hl hr => exact .dagg cs l hl hr
  | agg cs l hl hr ih =>
    exact .agg cs _ (by rw [swapL_length]; exact hl) fun i v x h1 h2 => by
      rw [swapL_get, Option.map_eq_some_iff] at h2
      obtain ⟨y, hy, rfl⟩ := h2
      exact ih i v y h1 hy
  | tup cs l hl hr ih =>
    exact .tup cs _ (by rw [swapL_length]; exact hl) fun i v x h1 h2 => by
      rw [swapL_get, Option.map_eq_some_iff] at h2
      obtain ⟨y, hy, rfl⟩ := h2
      exact ih i v y h1 hy
  | ptr x r off h1 hp => exact .ptr x _ off h1 fun l hl => hp l (by rw [← hρ r]; exact hl)
  | ep b o cs f hb hc hr => exact .ep b o cs f hb hc hr
  | msl x r n off len h1 hp => exact .msl x _ n off len h1 fun l hl => hp l (by rw [← hρ r]; exact hl)
  | mptr x r n i j h1 hp => exact .mptr x _ n i j h1 fun l hl => hp l (by rw [← hρ r]; exact hl)
  | mp x r h1 hp => exact .mp x _ h1 fun l hl => hp l (by rw [← hρ r]; exact hl)
  | clo fn fs cs lf lc hf hc hrf hrc ihf ihc =>
    exact .clo fn fs cs _ _ (by rw [swapL_length]; exact hf) (by rw [swapL_length]; exact hc)
      (fun i v x h1 h2 => by
        rw [swapL_get, Option.map_eq_some_iff] at h2
        obtain ⟨y, hy, rfl⟩ := h2
        exact ihf i v y h1 hy) (fun i v x h1 h2 => by
        rw [swapL_get, Option.map_eq_some_iff] at h2
        obtain ⟨y, hy, rfl⟩ := h2
        exact ihc i v y h1 hy)
  | ifc t x y hx ih => exact .ifc t x _ ih

theorem RO.swap {h : Nat → Option Obj} {Im : Nat → Prop} {ρ ρ' : Nat → Option Loc} (a b : Nat) (hρ : ∀ r, ρ' (swp a b r) = ρ r) {l : Loc} {o : AObj} (H : RO h Im ρ l o) : RO h Im ρ' l (o.swap a b) := by
  cases o with
  | var cs =>
    refine ⟨H.1, H.2.1, ?_⟩
    obtain ⟨bk, ms, t, h1, h2, h3, h4⟩ := H.2.2
    refine ⟨bk, ms, t, h1, h2, by rw [swapL_length]; exact h3, fun i v hv x hx => ?_⟩
    rw [swapL_get, Option.map_eq_some_iff] at hx
    obtain ⟨y, hy, rfl⟩ := hx
    exact ⟨(h4 i v hv y hy).1.swap a b hρ, (h4 i v hv y hy).2⟩
  | dvar n cs => exact H
  | buf sz e els => exact H
  | map ag es => exact H
  | siter m p => exact H
  | tvar t cs => exact H
  | ext R => exact H

theorem lkH_swap (a b r : Nat) : ∀ (h : HL), lkH (swp a b r) (HL.swap a b h) = (lkH r h).map (AObj.swap a b)
  | [] => rfl
  | (q, some o) :: h => by
    simp only [HL.swap, lkH]
    by_cases e : q = r
    · subst e; simp
    · have h1 : Nat.beq q r = false := by
        cases hb : Nat.beq q r with
        | false => rfl
        | true => exact absurd (Nat.eq_of_beq_eq_true hb) e
      have h2 : Nat.beq (swp a b q) (swp a b r) = false := by
        cases hb : Nat.beq (swp a b q) (swp a b r) with
        | false => rfl
        | true => exact absurd (swp_inj (Nat.eq_of_beq_eq_true hb)) e
      simp only [h1, h2]; exact lkH_swap a b r h
  | (q, none) :: h => by
    simp only [HL.swap, lkH]
    by_cases e : q = r
    · subst e; simp
    · have h1 : Nat.beq q r = false := by
        cases hb : Nat.beq q r with
        | false => rfl
        | true => exact absurd (Nat.eq_of_beq_eq_true hb) e
      have h2 : Nat.beq (swp a b q) (swp a b r) = false := by
        cases hb : Nat.beq (swp a b q) (swp a b r) with
        | false => rfl
        | true => exact absurd (swp_inj (Nat.eq_of_beq_eq_true hb)) e
      simp only [h1, h2]; exact lkH_swap a b r h

theorem lkH_unswap {a b r : Nat} {h : HL} {o : AObj} (hr : lkH r (HL.swap a b h) = some o) : ∃ o', lkH (swp a b r) h = some o' ∧ o = o'.swap a b := by
  have := lkH_swap a b (swp a b r) h
  rw [swp_swp, hr] at this
  obtain ⟨o', h1, h2⟩ := Option.map_eq_some_iff.1 this.symm
  exact ⟨o', h1, h2.symm⟩

theorem ment_swap (a b : Nat) : ∀ (r : Nat) (x : AV), (x.swap a b).ment r = x.ment (swp a b r) := by
  have hb : ∀ q r, Nat.beq (swp a b q) r = Nat.beq q (swp a b r) := fun q r => by
    by_cases e : q = swp a b r
    · subst e; rw [swp_swp]; simp
    · have h1 : Nat.beq q (swp a b r) = false := by
        cases hb : Nat.beq q (swp a b r) with
        | false => rfl
        | true => exact absurd (Nat.eq_of_beq_eq_true hb) e
      have h2 : Nat.beq (swp a b q) r = false := by
        cases hb : Nat.beq (swp a b q) r with
        | false => rfl
        | true => exact absurd (by rw [← Nat.eq_of_beq_eq_true hb, swp_swp]) e
      rw [h1, h2]
  intro r x
  induction x using AV.rec (motive_2 := fun l => AV.ment.mentL r (AV.swapL a b l) = AV.ment.mentL (swp a b r) l) with
  | junk => rfl
  | d x => rfl
  | dagg cs => rfl
  | agg cs ih => simpa [AV.swap, AV.ment] using ih
  | tup cs ih => simpa [AV.swap, AV.ment] using ih
  | ptr q off => exact hb q r
  | ep cs => rfl
  | msl q n off len => exact hb q r
  | mptr q n i j => exact hb q r
  | mp q => exact hb q r
  | clo fn f c ih1 ih2 => simp only [AV.swap, AV.ment, ih1, ih2]
  | ifc t x ih => simpa [AV.swap, AV.ment] using ih
  | nil => rfl
  | cons x xs ih1 ih2 => simp only [AV.swapL, AV.ment.mentL, ih1, ih2]
theorem mentO_swap (a b r : Nat) (x : AObj) : (x.swap a b).ment r = x.ment (swp a b r) := by
  cases x with
  | var cs =>
    simp only [AObj.swap, AObj.ment]
    induction cs with
    | nil => rfl
    | cons x xs ih => simp only [AV.swapL, AV.ment.mentL, ih, ment_swap]
  | _ => rfl

/-- A contract holds under other names of the objects, too. -/
theorem Ctr.swap {E : Env} {f : FuncId} {args : List AV} {hin ho : HL} {res : AV} (a b : Nat) (h : Ctr E f args hin fun o => o = .ret res ho) : Ctr E f (AV.swapL a b args) (HL.swap a b hin) fun o => o = .ret (res.swap a b) (HL.swap a b ho) := by
  refine ⟨h.1, fun w Im ρ vs hG hIm hgl hsz hra hrel => ?_⟩
  -- the names as the contract has them
  have back : ∀ x : AV, (x.swap a b).swap a b = x := by
    intro x
    induction x using AV.rec (motive_2 := fun l => AV.swapL a b (AV.swapL a b l) = l) with
    | junk => rfl
    | d x => rfl
    | dagg cs => rfl
    | agg cs ih => simp [AV.swap, ih]
    | tup cs ih => simp [AV.swap, ih]
    | ptr q off => simp [AV.swap, swp_swp]
    | ep cs => rfl
    | msl q n off len => simp [AV.swap, swp_swp]
    | mptr q n i j => simp [AV.swap, swp_swp]
    | mp q => simp [AV.swap, swp_swp]
    | clo fn f c ih1 ih2 => simp [AV.swap, ih1, ih2]
    | ifc t x ih => simp [AV.swap, ih]
    | nil => rfl
    | cons x xs ih1 ih2 => simp [AV.swapL, ih1, ih2]
  have backO : ∀ o : AObj, (o.swap a b).swap a b = o := fun o => by
    cases o with
    | var cs =>
      have : ∀ l : List AV, AV.swapL a b (AV.swapL a b l) = l := fun l => by induction l with
        | nil => rfl
        | cons x xs ih => simp [AV.swapL, ih, back]
      simp [AObj.swap, this]
    | _ => rfl
  have hρ : ∀ r, (fun q => ρ (swp a b q)) (swp a b r) = ρ r := fun r => by simp only [swp_swp]
  have hT : ∀ bk, TIn (fun q => ρ (swp a b q)) hin bk → TIn ρ (HL.swap a b hin) bk := fun bk ⟨r, o, l, h1, h2, h3⟩ => ⟨swp a b r, o.swap a b, l, by rw [lkH_swap, h1]; rfl, h2, h3⟩
  have hT' : ∀ bk, TIn ρ (HL.swap a b hin) bk → TIn (fun q => ρ (swp a b q)) hin bk := fun bk ⟨r, o, l, h1, h2, h3⟩ => by
    obtain ⟨o', h4, _⟩ := lkH_unswap h1
    exact ⟨swp a b r, o', l, h4, by simp only [swp_swp]; exact h2, h3⟩
  have := h.2 w Im (fun q => ρ (swp a b q)) vs hG hIm hgl (by rw [hsz, swapL_length]) (fun i v x h1 h2 => by
    have h3 := hra i v (x.swap a b) h1 (by rw [swapL_get, h2]; rfl)
    have h4 := h3.swap (ρ' := fun q => ρ (swp a b q)) a b hρ
    rw [back] at h4; exact h4) ⟨fun r o hr => by
      obtain ⟨l, h1, h2, h3⟩ := hrel.obj (swp a b r) (o.swap a b) (by rw [lkH_swap, hr]; rfl)
      have h4 := h2.swap (ρ' := fun q => ρ (swp a b q)) a b hρ
      rw [backO] at h4
      exact ⟨l, h1, h4, h3⟩, fun r r' o o' l l' h1 h2 hne g1 g2 => hrel.dis (swp a b r) (swp a b r') (o.swap a b) (o'.swap a b) l l' (by rw [lkH_swap, h1]; rfl) (by rw [lkH_swap, h2]; rfl) (fun e => hne (swp_inj e)) g1 g2⟩
  refine this.mono fun e w' he => ?_
  cases e with
  | returned v =>
    obtain ⟨res', ho', Im', ρ', h1, h2, h3, A⟩ := he
    injection h1 with e1 e2; subst e1; subst e2
    have hρ' : ∀ r, (fun q => ρ' (swp a b q)) (swp a b r) = ρ' r := fun r => by simp only [swp_swp]
    refine ⟨_, _, Im', fun q => ρ' (swp a b q), rfl, h2.swap a b hρ', fun r hr => ?_, ?_⟩
    · rw [ment_swap] at hr
      have := h3 _ hr
      rw [← swp_swp a b r, lkH_swap]
      simpa using this
    · refine ⟨⟨A.grows.size, A.grows.os, A.grows.tape, A.grows.output, fun bk hb hn => A.grows.block bk hb fun h => hn (hT bk h)⟩, A.im, fun bk hb => ⟨(A.imn bk hb).1, (A.imn bk hb).2.imp id fun h => h.imp id (hT bk)⟩, ⟨fun r o hr => ?_, fun r r' o o' l l' h1 h2 hne g1 g2 => ?_⟩, fun r o hr l' hl' => ?_, fun r o hr q hq => ?_⟩
      · obtain ⟨o', h4, rfl⟩ := lkH_unswap hr
        obtain ⟨l, h5, h6, h7⟩ := A.rel.obj _ o' h4
        exact ⟨l, h5, h6.swap a b hρ', fun bk hb => ⟨(h7 bk hb).1, (h7 bk hb).2.1, (h7 bk hb).2.2.imp id (hT bk)⟩⟩
      · obtain ⟨o1, h4, _⟩ := lkH_unswap h1
        obtain ⟨o2, h5, _⟩ := lkH_unswap h2
        exact A.rel.dis _ _ o1 o2 l l' h4 h5 (fun e => hne (swp_inj e)) g1 g2
      · obtain ⟨o', h4, _⟩ := lkH_unswap hr
        obtain ⟨l, h5, h6⟩ := A.anc _ o' h4 l' hl'
        simp only [swp_swp] at h5
        exact ⟨l, h5, h6⟩
      · obtain ⟨o', h4, rfl⟩ := lkH_unswap hr
        rw [mentO_swap] at hq
        have := A.cl _ o' h4 _ hq
        rw [← swp_swp a b q, lkH_swap]
        simpa using this
  | panicked ch =>
    obtain ⟨ho', Im', ρ', h1, h4⟩ := he
    exact absurd h1 (by simp)
  | outgrown => exact he

end Go.Ax

/- Abstract execution, part Sh: contracts off the shelf. -/
namespace Go.Ax
open Go.RowKit

theorem after_below {w w' : World} {Im : Nat → Prop} {ρ : Nat → Option Loc} (hIm : ∀ b, Im b → b < w.heap.size) (h : Below w.heap.size w w') : After w Im ρ [] w' Im (fun _ => none) [] where
  grows := ⟨h.size, h.os, h.tape, h.output, fun b hb _ => h.block b hb⟩
  im := fun b hb => hb
  imn := fun b hb => ⟨Nat.lt_of_lt_of_le (hIm b hb) h.size, .inl hb⟩
  rel := ⟨fun r o hr => by simp [lkH] at hr, fun r r' o o' l l' hr => by simp [lkH] at hr⟩
  anc := fun r o hr => by simp [lkH] at hr
  cl := fun r o hr => by simp [lkH] at hr

/-- What single values come to. -/
def vals (xs : List Value) : List AV := xs.map fun x => .d (.v x)

theorem args_vals {h : Nat → Option Obj} {Im : Nat → Prop} {ρ : Nat → Option Loc} {vs : Array Value} {xs : List Value} (hsz : vs.size = (vals xs).length) (hra : ∀ (i : Nat) (v : Value) (x : AV), vs[i]? = some v → (vals xs)[i]? = some x → RA h Im ρ v x) : vs = xs.toArray := by
  have hl : vs.size = xs.length := by rw [hsz]; simp [vals]
  apply Array.ext (by simpa using hl)
  intro i h1 h2
  have hx : (vals xs)[i]? = some (.d (.v xs[i])) := by simp [vals, List.getElem?_eq_getElem (show i < xs.length by omega)]
  have := hra i vs[i] _ (Array.getElem?_eq_getElem h1) hx
  simpa using this.v

/-- A library function that hands back a single value. -/
theorem Ctr.ofVal {E : Env} {f : FuncId} {xs : List Value} {v : Value} (hb : Bodied E.P f) (hv : v.oneCell' = true) (h : ∀ w, E.G w → Calls E.P f xs.toArray w fun e w' => e = .returned v ∧ Below w.heap.size w w') : Ctr E f (vals xs) [] fun o => o = .ret (.d (.v v)) [] := by
  refine ⟨hb, fun w Im ρ vs hG hIm hgl hsz hra hrel => ?_⟩
  rw [args_vals hsz hra]
  refine (h w hG).mono fun e w' ⟨he, hB⟩ => ?_
  subst he
  exact ⟨_, [], Im, _, rfl, RA.intv v hv, fun r hr => by simp [AV.ment] at hr, after_below hIm hB⟩

/-- .. several of them. -/
theorem Ctr.ofVals {E : Env} {f : FuncId} {xs ys : List Value} (hb : Bodied E.P f) (hv : ∀ y ∈ ys, y.oneCell' = true) (h : ∀ w, E.G w → Calls E.P f xs.toArray w fun e w' => e = .returned (.tuple ys.toArray) ∧ Below w.heap.size w w') : Ctr E f (vals xs) [] fun o => o = .ret (.tup (vals ys)) [] := by
  refine ⟨hb, fun w Im ρ vs hG hIm hgl hsz hra hrel => ?_⟩
  rw [args_vals hsz hra]
  refine (h w hG).mono fun e w' ⟨he, hB⟩ => ?_
  subst he
  refine ⟨_, [], Im, _, rfl, .tup _ _ (by simp [vals]) fun i v x h1 h2 => ?_, fun r hr => ?_, after_below hIm hB⟩
  · simp only [vals, List.getElem?_map, Option.map_eq_some_iff] at h2
    obtain ⟨y, hy, rfl⟩ := h2
    have : y = v := by simpa [hy] using h1
    subst this
    exact RA.intv _ (hv _ (List.mem_of_getElem? hy))
  · have : ∀ l : List Value, AV.ment.mentL r (vals l) = false := fun l => by
      induction l with
      | nil => rfl
      | cons y l ih => simpa [vals, AV.ment.mentL, AV.ment] using ih
    simp only [AV.ment, this] at hr
    exact absurd hr (by simp)

end Go.Ax
