import Derived.Test.YtjokajidcojlmaaDoorEAxBm
import Derived.Laws.BitsLemmas
import Derived.Laws.Bits64
import Derived.LoopNIn
import Derived.Below

/- Abstract execution, part V: calls with one outcome; numbers of 64 bits. -/
namespace Go.Ax

theorem CallP.det {E : Env} {k : Kn} {f : FuncId} {args : List AV} {s : St} {K : AV → HL → Prop} {KP : List PanicEntry → HL → Prop} {res : AV} (h : Ctr E f args [] fun o => o = .ret res []) (hk : K res s.h) : CallP E k f args s K KP :=
  ⟨[], _, h, fun r o h => by simp [lkH] at h, fun res' ho e => by injection e with e1 e2; subst e1; subst e2; exact ⟨fun r o h => by simp [lkH] at h, hk⟩, fun ch ho e => by simp at e⟩
theorem CallD.det {E : Env} {f : FuncId} {args : List AV} {s : St} {K : AV → HL → HL → Prop} {PD : List PanicEntry → Prop} {res : AV} (h : Ctr E f args [] fun o => o = .ret res []) (hk : K res [] []) : CallD E f args s K PD :=
  ⟨[], res, [], h.mono fun _ h => .inl h, fun r o h => by simp [lkH] at h, hk⟩
theorem CallP.arg {E : Env} {k : Kn} {f : FuncId} {args args' : List AV} {s : St} {K : AV → HL → Prop} {KP : List PanicEntry → HL → Prop} (e : args = args') (h : CallP E k f args' s K KP) : CallP E k f args s K KP := e ▸ h
theorem CallD.arg {E : Env} {f : FuncId} {args args' : List AV} {s : St} {K : AV → HL → HL → Prop} {PD : List PanicEntry → Prop} (e : args = args') (h : CallD E f args' s K PD) : CallD E f args s K PD := e ▸ h

abbrev AV.u64 (x : BitVec 64) : AV := .d (.v (.int .u64 x.toNat))
abbrev AV.i64 (n : Int) : AV := .d (.v (.int .i64 n))
abbrev AV.bool (b : Bool) : AV := .d (.v (.bool b))
abbrev AV.str (b : ByteArray) : AV := .d (.v (.string b))
abbrev D.i64 (n : Int) : D := .v (.int .i64 n)
abbrev D.u16 (n : Int) : D := .v (.int .u16 n)
theorem msl_eq {r n n' : Nat} (h : n = n') : AV.msl r n 0 n = AV.msl r n' 0 n' := by rw [h]

theorem AV.int_eq {k : IntKind} {a b : Int} (h : a = b) : (AV.d (.v (.int k a))) = .d (.v (.int k b)) := by rw [h]
theorem AV.bool_eq {a b : Bool} (h : a = b) : (AV.d (.v (.bool a))) = .d (.v (.bool b)) := by rw [h]

theorem i64_wrap {n : Int} (h0 : -9223372036854775808 ≤ n) (h1 : n < 9223372036854775808) : IntKind.i64.wrap n = n := by rw [IntKind.wrap_i64]; omega
theorem i64_succ {n : Nat} (h1 : n < 9223372036854775807) : IntKind.i64.wrap ((n : Int) + 1) = ((n + 1 : Nat) : Int) := by rw [IntKind.wrap_i64]; omega
theorem u64_ofInt (x : BitVec 64) : BitVec.ofInt 64 (x.toNat : Int) = x := by simp
theorem u64_nat {n : Nat} (h : n < 2 ^ 64) : IntKind.u64.wrap (n : Int) = n := by rw [IntKind.wrap_u64]; omega
theorem u64_add (x y : BitVec 64) : IntKind.u64.wrap ((x.toNat : Int) + y.toNat) = (x + y).toNat := by
  rw [IntKind.wrap_u64, BitVec.toNat_add]; omega
theorem u64_sub (x y : BitVec 64) : IntKind.u64.wrap ((x.toNat : Int) - y.toNat) = (x - y).toNat := by
  have := x.isLt; have := y.isLt
  rw [IntKind.wrap_u64, BitVec.toNat_sub]; omega
theorem u64_mul (x y : BitVec 64) : IntKind.u64.wrap ((x.toNat : Int) * y.toNat) = (x * y).toNat := by
  rw [IntKind.wrap_u64, BitVec.toNat_mul]
  rw [← Int.natCast_mul]; omega
theorem u64_and (x y : BitVec 64) : IntKind.u64.wrap ((BitVec.ofInt IntKind.u64.bits x.toNat &&& BitVec.ofInt IntKind.u64.bits y.toNat).toNat : Int) = (x &&& y).toNat := by
  show IntKind.u64.wrap ((BitVec.ofInt 64 x.toNat &&& BitVec.ofInt 64 y.toNat).toNat : Int) = _
  rw [u64_ofInt, u64_ofInt]
  exact u64_nat (BitVec.isLt _)
theorem u64_or (x y : BitVec 64) : IntKind.u64.wrap ((BitVec.ofInt IntKind.u64.bits x.toNat ||| BitVec.ofInt IntKind.u64.bits y.toNat).toNat : Int) = (x ||| y).toNat := by
  show IntKind.u64.wrap ((BitVec.ofInt 64 x.toNat ||| BitVec.ofInt 64 y.toNat).toNat : Int) = _
  rw [u64_ofInt, u64_ofInt]
  exact u64_nat (BitVec.isLt _)
theorem u64_andNot (x y : BitVec 64) : IntKind.u64.wrap ((BitVec.ofInt IntKind.u64.bits x.toNat &&& ~~~BitVec.ofInt IntKind.u64.bits y.toNat).toNat : Int) = (x &&& ~~~y).toNat := by
  show IntKind.u64.wrap ((BitVec.ofInt 64 x.toNat &&& ~~~BitVec.ofInt 64 y.toNat).toNat : Int) = _
  rw [u64_ofInt, u64_ofInt]
  exact u64_nat (BitVec.isLt _)
theorem u64_div (x y : BitVec 64) : IntKind.u64.wrap ((x.toNat : Int).tdiv y.toNat) = (x / y).toNat := by
  rw [← Int.ofNat_tdiv, BitVec.toNat_udiv]
  exact u64_nat (Nat.lt_of_le_of_lt (Nat.div_le_self _ _) x.isLt)
theorem u64_mod (x y : BitVec 64) : ((x.toNat : Int).tmod y.toNat) = (x % y).toNat := by
  rw [← Int.ofNat_tmod, BitVec.toNat_umod]
theorem u64_beq (x y : BitVec 64) : ((x.toNat : Int) == (y.toNat : Int)) = (x == y) := by
  rw [Bool.eq_iff_iff, beq_iff_eq, beq_iff_eq]
  constructor
  · intro h; exact BitVec.eq_of_toNat_eq (by omega)
  · rintro rfl; rfl
theorem u64_bne (x y : BitVec 64) : ((x.toNat : Int) != (y.toNat : Int)) = (x != y) := by
  simp only [bne, u64_beq]
theorem u64_shr (x : BitVec 64) (n : Nat) (hn : n < 64) : ((x.toNat : Int).fdiv (2 ^ (min n 64))) = (x >>> n).toNat := by
  rw [Nat.min_eq_left (by omega), BitVec.toNat_ushiftRight, Nat.shiftRight_eq_div_pow]
  rw [show ((2 : Int) ^ n) = ((2 ^ n : Nat) : Int) by simp]
  rw [Int.fdiv_eq_ediv_of_nonneg _ (Int.natCast_nonneg _)]
  rfl
theorem u64_shl (n : Nat) : IntKind.u64.wrap (1 * 2 ^ (min n 64)) = ((1#64) <<< n).toNat := by
  rw [IntKind.wrap_u64, BitVec.toNat_shiftLeft, Nat.shiftLeft_eq]
  by_cases h : n ≤ 64
  · rw [Nat.min_eq_left h]
    have : ((2 : Int) ^ n) = ((2 ^ n : Nat) : Int) := by simp
    rw [this]
    simp
  · rw [Nat.min_eq_right (by omega)]
    have h1 : 2 ^ 64 ∣ 2 ^ n := Nat.pow_dvd_pow 2 (by omega)
    have h2 : (1 * 2 ^ n) % 2 ^ 64 = 0 := by rw [Nat.one_mul]; exact Nat.mod_eq_zero_of_dvd h1
    show _ = (((1 : Nat) * 2 ^ n % 2 ^ 64 : Nat) : Int)
    rw [h2]; decide

end Go.Ax

/- Abstract execution, part W: a loop's rounds one by one; a nil slice taken for a buffer of one's own; a buffer handed over for good, or lent. -/
namespace Go.Ax

variable {X : Ax} {k : Kn}

def roundsP (E : Env) (tab : List (Nat × TI)) (k : Kn) (c : Code) (Q : APost) : Nat → St → Prop
  | 0, _ => False
  | n + 1, s => wpc E tab k c (thenP (fun s => roundsP E tab k c Q n s) Q) s

theorem rounds_ok {body : Code} {Q : APost} : ∀ (n : Nat) {s : St}, roundsP X.E X.tab k body Q n s → ∀ (c : Cx), c.Ok X.E → c.nt = k.nt → c.anc = k.anc → ∀ Im ρ a w, Sim c Im ρ s.F s.H a w → Code.roundsIn c.fence 0 X.E.P body (Lift c Q) n a w
  | 0, s, h => h.elim
  | n + 1, s, h => fun c ok hn ha Im ρ a w S => by
    refine wpIn_mono (wpc_ok h c ok hn ha Im ρ a w S) fun e a' w' ⟨h1, Im', ρ', s', S', hQ⟩ => ?_
    cases e with
    | normal => exact rounds_ok n hQ c ok hn ha Im' ρ' a' w' S'
    | outgrown => exact absurd rfl h1
    | exit id => exact ⟨h1, Im', ρ', s', S', hQ⟩
    | goto l => exact ⟨h1, Im', ρ', s', S', hQ⟩
    | ret => exact ⟨h1, Im', ρ', s', S', hQ⟩
    | panic ch => exact ⟨h1, Im', ρ', s', S', hQ⟩

/-- A loop of no more than so many rounds, walked round by round. -/
theorem LoopP.rounds {body : Code} {Q : APost} {s : St} (n : Nat) (h : roundsP X.E X.tab k body Q n s) : LoopP X.E k body Q s :=
  ⟨fun c ok hn ha Im ρ a w S => wpIn_loop_rounds n (rounds_ok n h c ok hn ha Im ρ a w S)⟩

/-- A loop: a family of states, what is known of its places, a number that falls. -/
theorem LoopP.inv {σ : Type} {body : Code} {Q : APost} {s : St} (st : σ → St) (I : σ → Prop) (μ : σ → Nat) (s0 : σ) (hI : I s0) (h0 : (st s0).Le s)
    (round : ∀ x, I x → wpc X.E X.tab k body (thenP (fun s' => ∃ x', I x' ∧ μ x' < μ x ∧ (st x').Le s') Q) (st x)) : LoopP X.E k body Q s :=
  ⟨AWp.loop (σ := { x : σ // I x }) (fun x => st x.1) (fun x => μ x.1) ⟨s0, hI⟩ h0 fun ⟨x, hx⟩ => AWp.mono (wpc_ok (round x hx)) fun e s' h => by
    cases e with
    | normal => obtain ⟨x', h1, h2, h3⟩ := h; exact ⟨⟨x', h1⟩, h2, h3⟩
    | _ => exact h⟩

/-- A slot's value is known as something else, too. -/
theorem Sim.seen {c : Cx} {Im : Nat → Prop} {ρ : Nat → Option Loc} {F : Nat → AV} {H : Nat → Option AObj} {a : Act} {w : World} (S : Sim c Im ρ F H a w) {t : Nat} {x : AV} (hx : RA (hp w) Im ρ (a.tmps.getD t undef) x) : Sim c Im ρ (upd F t x) H a w where
  defs := S.defs
  nt := S.nt
  fr := fun u hu => by
    by_cases h : u = t
    · subst h; simpa using hx
    · rw [upd_ne _ _ h]; exact S.fr u hu
  obj := S.obj
  dis := S.dis
  imn := S.imn
  im0 := S.im0
  os := S.os
  tape := S.tape
  output := S.output
  size := S.size
  kept := S.kept
  anc := S.anc

/-- A nil slice is an empty buffer of one's own. -/
theorem AWp.own {E : Env} {code : Code} {Q : APost} {s : St} (t r sz : Nat) (el : TypeId) (ht : Nat.blt t k.nt = true) (hl : lk t s.f = .d (.v (.slice none 0 0))) (hu : unmB k.anc r s = true)
    (h : AWp E k code Q { f := (t, .msl r 0 0 0) :: s.f, h := (r, some (.buf sz el [])) :: s.h }) : AWp E k code Q s := fun c ok hn ha Im ρ a w S => by
  have hv : a.tmps.getD t undef = .slice none 0 0 := by
    have := S.fr t (by rw [hn]; simpa using ht)
    simp only [St.F] at this
    rw [hl] at this
    exact this.v
  have S1 := S.new (w' := w) (r := r) (l := { blk := none, isBuf := true, sz := sz }) (o := .buf sz el []) (Grows.refl w _) (unmB_spec (by rw [ha]; exact hu)) (by simp [Loc.fp]) ⟨rfl, rfl, rfl, rfl, by simp, .inl ⟨rfl, rfl, rfl⟩⟩
  have S2 := S1.seen (t := t) (x := .msl r 0 0 0) (by
    rw [hv]
    refine .msl _ r 0 0 0 rfl fun l hl => ?_
    rw [upd_same] at hl; injection hl with hl; subst hl
    exact ⟨by simp, fun _ => rfl⟩)
  refine h c ok hn ha Im (upd ρ r (some { blk := none, isBuf := true, sz := sz })) a w ?_
  have e1 : (St.F { f := (t, .msl r 0 0 0) :: s.f, h := (r, some (.buf sz el [])) :: s.h }) = upd s.F t (.msl r 0 0 0) := lk_cons t _ s.f
  have e2 : (St.H { f := (t, .msl r 0 0 0) :: s.f, h := (r, some (.buf sz el [])) :: s.h }) = upd s.H r (some (.buf sz el [])) := lkH_cons r _ s.h
  rw [e1, e2]
  exact S2
theorem LoopP.own {E : Env} {code : Code} {Q : APost} {s : St} (t r sz : Nat) (el : TypeId) (ht : Nat.blt t k.nt = true) (hl : lk t s.f = .d (.v (.slice none 0 0))) (hu : unmB k.anc r s = true)
    (h : LoopP E k code Q { f := (t, .msl r 0 0 0) :: s.f, h := (r, some (.buf sz el [])) :: s.h }) : LoopP E k code Q s := ⟨.own t r sz el ht hl hu h.ok⟩

/-- Arguments with one buffer told as data. -/
def frz (r sz : Nat) (els : List (List D)) : AV → AV
  | .msl q n off len => match Nat.beq q r, Nat.beq n els.length, Nat.ble (off + len) els.length with
    | true, true, true => .d (.sl false sz ((els.drop off).take len))
    | _, _, _ => .msl q n off len
  | x => x

theorem HRel.weakA {w : World} {Im : Nat → Prop} {ρ : Nat → Option Loc} {h : HL} {A A' : Nat → Prop} (H : HRel w Im ρ h A) (hA : ∀ b, A b → A' b) : HRel w Im ρ h A' where
  obj := fun r o h1 => let ⟨l, a, b, c⟩ := H.obj r o h1; ⟨l, a, b, fun x hx => ⟨(c x hx).1, (c x hx).2.1, hA x (c x hx).2.2⟩⟩
  dis := H.dis

/-- What takes data takes a buffer, too: it is the callee's for good. -/
theorem Ctr.freeze {E : Env} {f : FuncId} {args : List AV} {res : AV} (r sz : Nat) (el : TypeId) (els : List (List D)) (h : Ctr E f (args.map (frz r sz els)) [] fun o => o = .ret res []) : Ctr E f args [(r, some (.buf sz el els))] fun o => o = .ret res [] := by
  refine ⟨h.1, fun w Im ρ vs hG hIm hgl hsz hra hrel => ?_⟩
  obtain ⟨l, hl, hro, hown⟩ := hrel.obj r (.buf sz el els) (by simp [lkH])
  have hra1 : ∀ (i : Nat) (v : Value) (x : AV), vs[i]? = some v → (args.map (frz r sz els))[i]? = some x → RA (hp w) (fun b => Im b ∨ b ∈ l.fp) ρ v x := fun i v x h1 h2 => by
    simp only [List.getElem?_map, Option.map_eq_some_iff] at h2
    obtain ⟨y, hy, rfl⟩ := h2
    have h3 := hra i v y h1 hy
    have h4 : RA (hp w) (fun b => Im b ∨ b ∈ l.fp) ρ v y := h3.mono (fun _ h => .inl h) (fun _ _ => rfl) fun q _ l' hl' => ⟨l', hl', .inl rfl⟩
    unfold frz
    split
    · split
      · rename_i q n off len e1 e2 e3
        have := Nat.eq_of_beq_eq_true e1; subst this
        have := Nat.eq_of_beq_eq_true e2; subst this
        cases h3 with
        | msl _ _ _ _ _ _ hp2 =>
          have hv := (hp2 l hl).2 hro.2.2.2.1.symm
          rw [hv]
          exact .d _ _ (RD.ofBuf hro (fun _ h => .inl h) (fun b hb => .inr hb) (Nat.le_of_ble_eq_true e3))
      · exact h4
    · exact h4
  have := h.2 w (fun b => Im b ∨ b ∈ l.fp) (fun _ => none) vs hG (fun b hb => hb.elim (hIm b) fun hb => (hown b hb).1) (fun b hb => .inl (hgl b hb)) (by simpa using hsz) (fun i v x h1 h2 => (hra1 i v x h1 h2).mono (fun _ h => h) (fun _ _ => rfl) fun q hq l' hl' => by simp at hl') ⟨fun r o h => by simp [lkH] at h, fun r r' o o' l l' h => by simp [lkH] at h⟩
  have hT : ∀ b, TIn (fun _ => none) [] b → False := fun b ⟨r, o, l, h, _⟩ => by simp [lkH] at h
  have hTin : ∀ b ∈ l.fp, TIn ρ [(r, some (.buf sz el els))] b := fun b hb => ⟨r, .buf sz el els, l, by simp [lkH], hl, hb⟩
  refine this.mono fun e w' he => ?_
  cases e with
  | returned v =>
    obtain ⟨res', ho, Im', ρ', h1, h2, h3, A⟩ := he
    injection h1 with e1 e2; subst e1; subst e2
    refine ⟨res', [], Im', fun _ => none, rfl, h2.mono (fun _ h => h) (fun _ _ => rfl) (fun q hq l' hl' => by simp at hl'), h3, ?_⟩
    refine ⟨⟨A.grows.size, A.grows.os, A.grows.tape, A.grows.output, fun b hb hn => A.grows.block b hb fun h => hT b h⟩, fun b hb => A.im b (.inl hb), fun b hb => ?_, ⟨fun q o hq => by simp [lkH] at hq, fun q q' o o' l1 l2 hq => by simp [lkH] at hq⟩, fun q o hq l' hl' => by simp at hl', A.cl⟩
    obtain ⟨g1, g2⟩ := A.imn b hb
    refine ⟨g1, ?_⟩
    rcases g2 with (g2 | g2) | g2 | g2
    · exact .inl g2
    · exact .inr (.inr (hTin b g2))
    · exact .inr (.inl g2)
    · exact (hT b g2).elim
  | panicked ch =>
    obtain ⟨ho, Im', ρ', h1, h4⟩ := he
    exact absurd h1 (by simp)
  | outgrown => exact he

/-- The same, in a call: the buffer is gone behind it. -/
theorem CallP.give {E : Env} {k : Kn} {f : FuncId} {args : List AV} {s : St} {K : AV → HL → Prop} {KP : List PanicEntry → HL → Prop} {res : AV} (r sz : Nat) (el : TypeId) (els : List (List D)) (hr : lkH r s.h = some (.buf sz el els)) (h : Ctr E f (args.map (frz r sz els)) [] fun o => o = .ret res [])
    (hk : K res ((r, none) :: s.h)) : CallP E k f args s K KP :=
  ⟨[(r, some (.buf sz el els))], _, Ctr.freeze r sz el els h, fun q o hq => by
    simp only [lkH] at hq
    split at hq
    · rename_i hb
      have := Nat.eq_of_beq_eq_true hb; subst this
      injection hq with hq; subst hq; exact hr
    · simp at hq, fun res' ho e => by injection e with e1 e2; subst e1; subst e2; exact ⟨fun r o h => by simp [lkH] at h, hk⟩, fun ch ho e => by simp at e⟩
theorem CallD.give {E : Env} {f : FuncId} {args : List AV} {s : St} {K : AV → HL → HL → Prop} {PD : List PanicEntry → Prop} {res : AV} (r sz : Nat) (el : TypeId) (els : List (List D)) (hr : lkH r s.h = some (.buf sz el els)) (h : Ctr E f (args.map (frz r sz els)) [] fun o => o = .ret res [])
    (hk : K res [(r, some (.buf sz el els))] []) : CallD E f args s K PD :=
  ⟨[(r, some (.buf sz el els))], res, [], (Ctr.freeze r sz el els h).mono fun _ h => .inl h, fun q o hq => by
    simp only [lkH] at hq
    split at hq
    · rename_i hb
      have := Nat.eq_of_beq_eq_true hb; subst this
      injection hq with hq; subst hq; exact hr
    · simp at hq, hk⟩

/-- A nil slice that is handed back is an empty buffer of the caller's own. -/
theorem Ctr.nilOwn {E : Env} {f : FuncId} {args : List AV} (r n sz : Nat) (el : TypeId) (els : List (List D))
    (h : Ctr E f args [] fun o => o = .ret (.msl r n 0 n) [(r, some (.buf sz el els))] ∨ (els = [] ∧ n = 0 ∧ o = .ret (.d (.v (.slice none 0 0))) [])) : Ctr E f args [] fun o => o = .ret (.msl r n 0 n) [(r, some (.buf sz el els))] := by
  refine ⟨h.1, fun w Im ρ vs hG hIm hgl hsz hra hrel => (h.2 w Im ρ vs hG hIm hgl hsz hra hrel).mono fun e w' he => ?_⟩
  cases e with
  | returned v =>
    obtain ⟨res, ho, Im', ρ', h1, h2, h3, A⟩ := he
    rcases h1 with h1 | ⟨h4, h5, h1⟩
    · exact ⟨res, ho, Im', ρ', h1, h2, h3, A⟩
    · injection h1 with e1 e2; subst e1; subst e2; subst h4; subst h5
      have hv := h2.v
      subst hv
      refine ⟨.msl r 0 0 0, [(r, some (.buf sz el []))], Im', fun q => if q = r then some { blk := none, isBuf := true, sz := sz } else none, rfl, .msl _ r 0 0 0 rfl fun l hl => ?_, fun q hq => by simp [AV.ment] at hq; subst hq; simp [lkH], ?_⟩
      · simp at hl; subst hl; exact ⟨by simp, fun _ => rfl⟩
      · have one : ∀ {q o}, lkH q [(r, some (AObj.buf sz el []))] = some o → q = r ∧ o = .buf sz el [] := fun {q o} hq => by
          simp only [lkH] at hq
          split at hq
          · rename_i hb; injection hq with hq; exact ⟨(Nat.eq_of_beq_eq_true hb).symm, hq.symm⟩
          · simp at hq
        refine ⟨A.grows, A.im, A.imn, ⟨fun q o hq => ?_, fun q q' o o' l1 l2 h1 h2 hne => ?_⟩, fun q o hq => by simp [lkH] at hq, fun q o hq => ?_⟩
        · obtain ⟨rfl, rfl⟩ := one hq
          exact ⟨{ blk := none, isBuf := true, sz := sz }, by simp, ⟨rfl, rfl, rfl, rfl, by simp, .inl ⟨rfl, rfl, rfl⟩⟩, by simp [Loc.fp]⟩
        · exact absurd ((one h1).1.trans (one h2).1.symm) hne
        · obtain ⟨rfl, rfl⟩ := one hq
          intro x hx; simp [AObj.ment] at hx
  | panicked ch =>
    obtain ⟨ho, Im', ρ', h1, h4⟩ := he
    exact h1.elim (fun h => absurd h (by simp)) fun h => absurd h.2.2 (by simp)
  | outgrown => exact he

/-- A call that makes one object. -/
theorem CallP.makes {E : Env} {k : Kn} {f : FuncId} {args : List AV} {s : St} {K : AV → HL → Prop} {KP : List PanicEntry → HL → Prop} {res : AV} {r : Nat} {ob : AObj} (hu : unmB k.anc r s = true) (h : Ctr E f args [] fun o => o = .ret res [(r, some ob)]) (hk : K res ((r, some ob) :: s.h)) : CallP E k f args s K KP :=
  ⟨[], _, h, fun r o h => by simp [lkH] at h, fun res' ho e => by
    injection e with e1 e2; subst e1; subst e2
    refine ⟨fun q o hq => .inr ?_, hk⟩
    simp only [lkH] at hq
    split at hq
    · rename_i hb; have := Nat.eq_of_beq_eq_true hb; subst this; exact hu
    · simp at hq, fun ch ho e => by simp at e⟩

/-- A call that changes one object. -/
theorem CallP.upd {E : Env} {k : Kn} {f : FuncId} {args : List AV} {s : St} {K : AV → HL → Prop} {KP : List PanicEntry → HL → Prop} {res : AV} {r : Nat} {ob ob' : AObj} (hr : lkH r s.h = some ob) (h : Ctr E f args [(r, some ob)] fun o => o = .ret res [(r, some ob')]) (hk : K res ((r, some ob') :: (r, none) :: s.h)) : CallP E k f args s K KP :=
  have one : ∀ {q o x}, lkH q [(r, some x)] = some o → q = r ∧ o = x := fun {q o x} hq => by
    simp only [lkH] at hq
    split at hq
    · rename_i hb; injection hq with hq; exact ⟨(Nat.eq_of_beq_eq_true hb).symm, hq.symm⟩
    · simp at hq
  ⟨[(r, some ob)], _, h, fun q o hq => by obtain ⟨rfl, rfl⟩ := one hq; exact hr, fun res' ho e => by
    injection e with e1 e2; subst e1; subst e2
    exact ⟨fun q o hq => .inl (by obtain ⟨rfl, rfl⟩ := one hq; exact ⟨ob, by simp [lkH]⟩), hk⟩, fun ch ho e => by simp at e⟩

theorem CallD.upd {E : Env} {f : FuncId} {args : List AV} {s : St} {K : AV → HL → HL → Prop} {PD : List PanicEntry → Prop} {res : AV} {r : Nat} {ob ob' : AObj} (hr : lkH r s.h = some ob) (h : Ctr E f args [(r, some ob)] fun o => o = .ret res [(r, some ob')]) (hk : K res [(r, some ob)] [(r, some ob')]) : CallD E f args s K PD :=
  ⟨[(r, some ob)], res, [(r, some ob')], h.mono fun _ h => .inl h, fun q o hq => by
    simp only [lkH] at hq
    split at hq
    · rename_i hb; injection hq with hq; subst hq; rw [← Nat.eq_of_beq_eq_true hb]; exact hr
    · simp at hq, hk⟩

/-- A nil slice in a variable's cell is an empty buffer of one's own. -/
theorem AWp.ownCell {E : Env} {code : Code} {Q : APost} {s : St} (q i r sz : Nat) (el : TypeId) (cs : List AV) (hq : lkH q s.h = some (.var cs)) (hi : cs[i]? = some (.d (.v (.slice none 0 0)))) (hu : unmB k.anc r s = true)
    (h : AWp E k code Q { f := s.f, h := (r, some (.buf sz el [])) :: (q, some (.var (cs.set i (.msl r 0 0 0)))) :: s.h }) : AWp E k code Q s := fun c ok hn ha Im ρ a w S => by
  have hun := unmB_spec (c := c) (by rw [ha]; exact hu)
  have hne : q ≠ r := fun e => by
    subst e
    have h1 : lkH q s.h = none := hun.none
    rw [hq] at h1; simp at h1
  have S1 := S.new (w' := w) (r := r) (l := { blk := none, isBuf := true, sz := sz }) (o := .buf sz el []) (Grows.refl w _) hun (by simp [Loc.fp]) ⟨rfl, rfl, rfl, rfl, by simp, .inl ⟨rfl, rfl, rfl⟩⟩
  obtain ⟨l, hl, hro, _⟩ := S1.obj q (.var cs) (by rw [upd_ne _ _ hne]; exact hq)
  have S2 := S1.chg (w' := w) (r := q) (l := l) (l' := l) (o' := .var (cs.set i (.msl r 0 0 0))) (by rw [upd_ne _ _ hne]; exact hq) hl (Grows.refl w _) (.inl rfl) (fun b hb => .inl hb) (by
    have hρ : upd (upd ρ r (some { blk := none, isBuf := true, sz := sz })) q (some l) = upd ρ r (some { blk := none, isBuf := true, sz := sz }) := by
      funext x
      by_cases hx : x = q
      · subst hx; rw [upd_same, hl]
      · rw [upd_ne _ _ hx]
    rw [hρ]
    refine ⟨hro.1, hro.2.1, ?_⟩
    obtain ⟨b, ms, t, h1, h2, h3, h4⟩ := hro.2.2
    refine ⟨b, ms, t, h1, h2, by simpa using h3, fun j v hv x hx => ?_⟩
    by_cases hj : i = j
    · subst hj
      have hil := (List.getElem?_eq_some_iff.1 hi).1
      rw [List.getElem?_set_self hil] at hx
      injection hx with hx; subst hx
      obtain ⟨h5, h6⟩ := h4 i v hv _ hi
      have := h5.v
      subst this
      refine ⟨.msl _ r 0 0 0 rfl fun l2 hl2 => ?_, rfl⟩
      rw [upd_same] at hl2; injection hl2 with hl2; subst hl2
      exact ⟨by simp, fun _ => rfl⟩
    · rw [List.getElem?_set_ne hj] at hx
      exact h4 j v hv x hx)
  refine h c ok hn ha Im (upd (upd ρ r (some { blk := none, isBuf := true, sz := sz })) q (some l)) a w ?_
  have e2 : (St.H { f := s.f, h := (r, some (.buf sz el [])) :: (q, some (.var (cs.set i (.msl r 0 0 0)))) :: s.h }) = upd (upd s.H r (some (.buf sz el []))) q (some (.var (cs.set i (.msl r 0 0 0)))) := by
    funext x
    by_cases hx : x = r
    · subst hx
      rw [upd_ne _ _ (Ne.symm hne), upd_same]
      simp [St.H, lkH]
    · rw [show St.H { f := s.f, h := (r, some (.buf sz el [])) :: (q, some (.var (cs.set i (.msl r 0 0 0)))) :: s.h } x = upd (fun t => lkH t ((q, some (.var (cs.set i (.msl r 0 0 0)))) :: s.h)) r (some (.buf sz el [])) x from congrFun (lkH_cons r _ _) x, upd_ne _ _ hx]
      show lkH x ((q, some (.var (cs.set i (.msl r 0 0 0)))) :: s.h) = _
      rw [congrFun (lkH_cons q (some (.var (cs.set i (.msl r 0 0 0)))) s.h) x]
      by_cases hx2 : x = q
      · subst hx2; rw [upd_same, upd_same]
      · rw [upd_ne _ _ hx2, upd_ne _ _ hx2, upd_ne _ _ hx]
  rw [e2]
  exact S2
theorem LoopP.ownCell {E : Env} {code : Code} {Q : APost} {s : St} (q i r sz : Nat) (el : TypeId) (cs : List AV) (hq : lkH q s.h = some (.var cs)) (hi : cs[i]? = some (.d (.v (.slice none 0 0)))) (hu : unmB k.anc r s = true)
    (h : LoopP E k code Q { f := s.f, h := (r, some (.buf sz el [])) :: (q, some (.var (cs.set i (.msl r 0 0 0)))) :: s.h }) : LoopP E k code Q s := ⟨.ownCell q i r sz el cs hq hi hu h.ok⟩

/-- What holds of a state as one is told holds as another one tells it. -/
def Sub (E : Env) (k : Kn) (s' s : St) : Prop := ∀ (c : Cx), c.Ok E → c.nt = k.nt → c.anc = k.anc → ∀ (Im : Nat → Prop) (ρ : Nat → Option Loc) (a : Act) (w : World), Sim c Im ρ s.F s.H a w → ∃ Im' ρ', Sim c Im' ρ' s'.F s'.H a w
theorem Sub.refl {E : Env} (s : St) : Sub E k s s := fun _ _ _ _ Im ρ _ _ S => ⟨Im, ρ, S⟩
theorem Sub.trans {E : Env} {s1 s2 s3 : St} (h : Sub E k s1 s2) (g : Sub E k s2 s3) : Sub E k s1 s3 := fun c ok e1 e2 Im ρ a w S => by
  obtain ⟨Im1, ρ1, S1⟩ := g c ok e1 e2 Im ρ a w S
  exact h c ok e1 e2 Im1 ρ1 a w S1
theorem St.Le.sub {E : Env} {s' s : St} (h : s'.Le s) : Sub E k s' s := fun _ _ _ _ Im ρ _ _ S => ⟨Im, ρ, S.weak (fun t => LeF.at h.1 t) (fun r o => LeH.at h.2 r o)⟩
theorem AWp.sub {E : Env} {code : Code} {Q : APost} {s' s : St} (h : Sub E k s' s) (hw : AWp E k code Q s') : AWp E k code Q s := fun c ok e1 e2 Im ρ a w S => by
  obtain ⟨Im1, ρ1, S1⟩ := h c ok e1 e2 Im ρ a w S
  exact hw c ok e1 e2 Im1 ρ1 a w S1
theorem DrawP.sub {E : Env} {id : Nat} {ops : Array Oper} {Q : APost} {s' s : St} (h : Sub E k s' s) (hw : DrawP E k id ops Q s') : DrawP E k id ops Q s := ⟨AWp.sub h hw.ok⟩
theorem LoopP.sub {E : Env} {code : Code} {Q : APost} {s' s : St} (h : Sub E k s' s) (hw : LoopP E k code Q s') : LoopP E k code Q s := ⟨AWp.sub h hw.ok⟩

/-- A loop whose rounds end in states that are told otherwise than they begin. -/
theorem AWp.loopS {E : Env} {body : Code} {Q : APost} {s : St} {σ : Type} (st : σ → St) (μ : σ → Nat) (s0 : σ) (h0 : Sub E k (st s0) s)
    (round : ∀ x, AWp E k body (thenP (fun s' => ∃ x', μ x' < μ x ∧ Sub E k (st x') s') Q) (st x)) : AWp E k (.loop body) Q s := fun c ok e1 e2 Im ρ a w S => by
  classical
  let good : Act → World → σ → Prop := fun a w x => ∃ Im ρ, Sim c Im ρ (st x).F (st x).H a w
  let m : Act → World → Nat := fun a w => if h : ∃ n x, good a w x ∧ μ x = n then Classical.choose (least h) else 0
  refine wpIn_loop (fun a w => ∃ x, good a w x) m ⟨s0, h0 c ok e1 e2 Im ρ a w S⟩ ?_
  intro a w hI
  have hex : ∃ n x, good a w x ∧ μ x = n := let ⟨x, hx⟩ := hI; ⟨μ x, x, hx, rfl⟩
  have hm : m a w = Classical.choose (least hex) := dif_pos hex
  obtain ⟨x, ⟨Im, ρ, S⟩, hx⟩ := (Classical.choose_spec (least hex)).1
  refine wpIn_mono (round x c ok e1 e2 Im ρ a w S) fun e a' w' ⟨h1, Im', ρ', s', S', hQ⟩ => ?_
  cases e with
  | normal =>
    obtain ⟨x', hlt, hle⟩ := hQ
    have hg : good a' w' x' := hle c ok e1 e2 Im' ρ' a' w' S'
    refine ⟨⟨x', hg⟩, ?_⟩
    have hex' : ∃ n x, good a' w' x ∧ μ x = n := ⟨μ x', x', hg, rfl⟩
    have h2 : m a' w' = Classical.choose (least hex') := dif_pos hex'
    rw [h2, hm, ← hx]
    exact Nat.lt_of_le_of_lt ((Classical.choose_spec (least hex')).2 _ ⟨x', hg, rfl⟩) hlt
  | outgrown => exact absurd rfl h1
  | exit id => exact ⟨h1, Im', ρ', s', S', hQ⟩
  | goto l => exact ⟨h1, Im', ρ', s', S', hQ⟩
  | ret => exact ⟨h1, Im', ρ', s', S', hQ⟩
  | panic ch => exact ⟨h1, Im', ρ', s', S', hQ⟩
theorem LoopP.invS {σ : Type} {body : Code} {Q : APost} {s : St} (st : σ → St) (I : σ → Prop) (μ : σ → Nat) (s0 : σ) (hI : I s0) (h0 : Sub X.E k (st s0) s)
    (round : ∀ x, I x → wpc X.E X.tab k body (thenP (fun s' => ∃ x', I x' ∧ μ x' < μ x ∧ Sub X.E k (st x') s') Q) (st x)) : LoopP X.E k body Q s :=
  ⟨AWp.loopS (σ := { x : σ // I x }) (fun x => st x.1) (fun x => μ x.1) ⟨s0, hI⟩ h0 fun ⟨x, hx⟩ => AWp.mono (wpc_ok (round x hx)) fun e s' h => by
    cases e with
    | normal => obtain ⟨x', h1, h2, h3⟩ := h; exact ⟨⟨x', h1⟩, h2, h3⟩
    | _ => exact h⟩

/-- A buffer is to be written on from its first m elements: a buffer of its own name, the elder one is gone. -/
theorem Sub.trunc {E : Env} {s : St} (t r d n m sz : Nat) (el : TypeId) (els : List (List D)) (ht : Nat.blt t k.nt = true) (hl : lk t s.f = .msl r n 0 n) (hr : lkH r s.h = some (.buf sz el els)) (hn : n = els.length) (hm : m ≤ n) (hu : unmB k.anc d s = true) : Sub E k { f := (t, .msl d m 0 n) :: s.f, h := (d, some (.buf sz el (els.take m))) :: (r, none) :: s.h } s := fun c ok hnt ha Im ρ a w S => by
  have hun := unmB_spec (c := c) (by rw [ha]; exact hu)
  have hrd : r ≠ d := fun e => by
    subst e
    have h1 : lkH r s.h = none := hun.none
    rw [hr] at h1; simp at h1
  obtain ⟨l, hl', hro, hown⟩ := S.obj r _ hr
  obtain ⟨k1, k2, k3, k4, k5, k6⟩ := hro
  have hv := S.fr t (by rw [hnt]; simpa using ht)
  simp only [St.F, hl] at hv
  have hH : ∀ q o, (upd (upd s.H r none) d (some (.buf sz el (els.take m)))) q = some o → (q = d ∧ o = .buf sz el (els.take m)) ∨ (q ≠ d ∧ q ≠ r ∧ s.H q = some o) := fun q o hq => by
    by_cases e1 : q = d
    · subst e1; rw [upd_same] at hq; injection hq with hq; exact .inl ⟨rfl, hq.symm⟩
    · rw [upd_ne _ _ e1] at hq
      by_cases e2 : q = r
      · subst e2; rw [upd_same] at hq; simp at hq
      · rw [upd_ne _ _ e2] at hq; exact .inr ⟨e1, e2, hq⟩
  have hstep : ∀ q, q ≠ d → ∀ l1, upd ρ d (some { l with len := m }) q = some l1 → ∃ l2, ρ q = some l2 ∧ LocStep l2 l1 := fun q hq l1 h1 => by
    rw [upd_ne _ _ hq] at h1; exact ⟨l1, h1, .inl rfl⟩
  have S2 : Sim c Im (upd ρ d (some { l with len := m })) (upd s.F t (.msl d m 0 n)) (upd (upd s.H r none) d (some (.buf sz el (els.take m)))) a w := by
    refine { defs := S.defs, nt := S.nt, fr := fun q hq => ?_, obj := fun q o hq => ?_, dis := fun q q' o o' l1 l2 h1 h2 hne e1 e2 b hb hb' => ?_, imn := S.imn, im0 := S.im0, os := S.os, tape := S.tape, output := S.output, size := S.size, kept := S.kept, anc := fun q hq l1 h1 => ?_ }
    · by_cases e : q = t
      · subst e; rw [upd_same]
        generalize a.tmps.getD q undef = v at hv
        cases hv with
        | msl _ _ _ _ _ h0 hp2 =>
          refine .msl _ _ _ _ _ h0 fun l1 hl1 => ?_
          rw [upd_same] at hl1; injection hl1 with hl1; subst hl1
          exact ⟨Nat.le_refl _, fun _ => (hp2 l hl').2 (by rw [k4]; exact hn)⟩
      · rw [upd_ne _ _ e]
        refine (S.fr q hq).mono (fun _ h => h) (fun _ _ => rfl) fun p hp => hstep p fun e2 => ?_
        subst e2; rw [hun.fr q] at hp; simp at hp
    · rcases hH q o hq with ⟨rfl, rfl⟩ | ⟨h1, h2, h3⟩
      · refine ⟨{ l with len := m }, upd_same .., ⟨k1, k2, k3, by simp; omega, fun z hz => k5 z (List.mem_of_mem_take hz), ?_⟩, fun b hb => hown b hb⟩
        rcases k6 with ⟨g1, g2, g3⟩ | ⟨b, ms, g1, g2, g3, g4, g5, g6⟩
        · exact .inl ⟨g1, by simp [g2], g3⟩
        · refine .inr ⟨b, ms, g1, g2, by simp; omega, g4, g5, fun i j q x e1 e2 => ?_⟩
          rw [List.getElem?_take] at e1
          split at e1
          · exact g6 i j q x e1 e2
          · simp at e1
      · obtain ⟨l1, g1, g2, g3⟩ := S.obj q o h3
        exact ⟨l1, by rw [upd_ne _ _ h1]; exact g1, g2.mono (fun _ h => h) (fun _ _ => rfl) (fun _ _ => rfl) fun p hp => hstep p fun e2 => by subst e2; rw [hun.obj q o h3] at hp; simp at hp, g3⟩
    · rcases hH q o h1 with ⟨rfl, rfl⟩ | ⟨g1, g2, g3⟩
      · rcases hH q' o' h2 with ⟨rfl, rfl⟩ | ⟨j1, j2, j3⟩
        · exact hne rfl
        · rw [upd_same] at e1; injection e1 with e1; subst e1
          rw [upd_ne _ _ j1] at e2
          exact S.dis r q' _ _ l l2 hr j3 (Ne.symm j2) hl' e2 b hb hb'
      · rw [upd_ne _ _ g1] at e1
        rcases hH q' o' h2 with ⟨rfl, rfl⟩ | ⟨j1, j2, j3⟩
        · rw [upd_same] at e2; injection e2 with e2; subst e2
          exact S.dis q r _ _ l1 l g3 hr g2 e1 hl' b hb hb'
        · rw [upd_ne _ _ j1] at e2
          exact S.dis q q' _ _ l1 l2 g3 j3 hne e1 e2 b hb hb'
    · have hqd : q ≠ d := fun e => by subst e; exact absurd hq hun.anc
      rw [upd_ne _ _ hqd] at h1
      exact S.anc q hq l1 h1
  refine ⟨Im, (upd ρ d (some { l with len := m })), ?_⟩
  have e1 : (St.F { f := (t, .msl d m 0 n) :: s.f, h := (d, some (.buf sz el (els.take m))) :: (r, none) :: s.h }) = upd s.F t (.msl d m 0 n) := lk_cons t _ s.f
  have e2 : (St.H { f := (t, .msl d m 0 n) :: s.f, h := (d, some (.buf sz el (els.take m))) :: (r, none) :: s.h }) = upd (upd s.H r none) d (some (.buf sz el (els.take m))) := by
    funext x
    rw [show St.H { f := (t, .msl d m 0 n) :: s.f, h := (d, some (.buf sz el (els.take m))) :: (r, none) :: s.h } x = upd (fun t => lkH t ((r, none) :: s.h)) d (some (.buf sz el (els.take m))) x from congrFun (lkH_cons d _ _) x]
    rw [show (fun t => lkH t ((r, none) :: s.h)) = upd s.H r none from lkH_cons r none s.h]
  rw [e1, e2]
  exact S2
theorem DrawP.trunc {E : Env} {id : Nat} {ops : Array Oper} {Q : APost} {s : St} (t r d n m sz : Nat) (el : TypeId) (els : List (List D)) (ht : Nat.blt t k.nt = true) (hl : lk t s.f = .msl r n 0 n) (hr : lkH r s.h = some (.buf sz el els)) (hn : n = els.length) (hm : m ≤ n) (hu : unmB k.anc d s = true)
    (h : DrawP E k id ops Q { f := (t, .msl d m 0 n) :: s.f, h := (d, some (.buf sz el (els.take m))) :: (r, none) :: s.h }) : DrawP E k id ops Q s := .sub (Sub.trunc t r d n m sz el els ht hl hr hn hm hu) h

theorem DrawP.weak {E : Env} {id : Nat} {ops : Array Oper} {Q : APost} {s : St} (s' : St) (hs : s'.Le s) (h : DrawP E k id ops Q s') : DrawP E k id ops Q s := ⟨AWp.weak hs h.ok⟩
theorem LoopP.weak {E : Env} {code : Code} {Q : APost} {s : St} (s' : St) (hs : s'.Le s) (h : LoopP E k code Q s') : LoopP E k code Q s := ⟨AWp.weak hs h.ok⟩

/-- A buffer of one's own becomes data. -/
theorem Sub.frz {E : Env} {s : St} (t r n off len sz : Nat) (el : TypeId) (els : List (List D)) (ht : Nat.blt t k.nt = true) (hl : lk t s.f = .msl r n off len) (hr : lkH r s.h = some (.buf sz el els)) (hn : n = els.length) (hle : off + len ≤ n) : Sub E k { f := (t, .d (.sl false sz ((els.drop off).take len))) :: s.f, h := (r, none) :: s.h } s := fun c ok hnt ha Im ρ a w S => by
  obtain ⟨l, hl', hro, hown⟩ := S.obj r _ hr
  have hv := S.fr t (by rw [hnt]; simpa using ht)
  simp only [St.F, hl] at hv
  have hH : ∀ q o, (upd s.H r none) q = some o → q ≠ r ∧ s.H q = some o := fun q o hq => by
    by_cases e : q = r
    · subst e; rw [upd_same] at hq; simp at hq
    · rw [upd_ne _ _ e] at hq; exact ⟨e, hq⟩
  have hI : ∀ b, Im b → Im b ∨ b ∈ l.fp := fun b hb => .inl hb
  have S2 : Sim c (fun b => Im b ∨ b ∈ l.fp) ρ (upd s.F t (.d (.sl false sz ((els.drop off).take len)))) (upd s.H r none) a w := by
    refine { defs := S.defs.mono hI (fun _ _ => rfl), nt := S.nt, fr := fun q hq => ?_, obj := fun q o hq => ?_, dis := fun q q' o o' l1 l2 h1 h2 hne e1 e2 => ?_, imn := fun b hb => ?_, im0 := fun b hb => .inl (S.im0 b hb), os := S.os, tape := S.tape, output := S.output, size := S.size, kept := S.kept, anc := S.anc }
    · by_cases e : q = t
      · subst e; rw [upd_same]
        generalize a.tmps.getD q undef = v at hv
        cases hv with
        | msl _ _ _ _ _ h0 hp2 =>
          have hval := (hp2 l hl').2 (by rw [hro.2.2.2.1]; exact hn)
          rw [hval]
          exact .d _ _ (RD.ofBuf hro hI (fun b hb => .inr hb) (by omega))
      · rw [upd_ne _ _ e]
        exact (S.fr q hq).mono hI (fun _ _ => rfl) fun p _ l1 hl1 => ⟨l1, hl1, .inl rfl⟩
    · obtain ⟨h1, h2⟩ := hH q o hq
      obtain ⟨l1, g1, g2, g3⟩ := S.obj q o h2
      refine ⟨l1, g1, g2.mono hI (fun _ _ => rfl) (fun _ _ => rfl) (fun p _ l1 hl1 => ⟨l1, hl1, .inl rfl⟩), fun b hb => ⟨(g3 b hb).1, fun hi => ?_, (g3 b hb).2.2⟩⟩
      rcases hi with hi | hi
      · exact (g3 b hb).2.1 hi
      · exact S.dis q r o _ l1 l h2 hr h1 g1 hl' b hb hi
    · exact S.dis q q' o o' l1 l2 (hH q o h1).2 (hH q' o' h2).2 hne e1 e2
    · rcases hb with hb | hb
      · exact S.imn b hb
      · exact ⟨(hown b hb).1, .inr (hown b hb).2.2⟩
  refine ⟨(fun b => Im b ∨ b ∈ l.fp), ρ, ?_⟩
  have e1 : (St.F { f := (t, .d (.sl false sz ((els.drop off).take len))) :: s.f, h := (r, none) :: s.h }) = upd s.F t (.d (.sl false sz ((els.drop off).take len))) := lk_cons t _ s.f
  have e2 : (St.H { f := (t, .d (.sl false sz ((els.drop off).take len))) :: s.f, h := (r, none) :: s.h }) = upd s.H r none := lkH_cons r _ s.h
  rw [e1, e2]
  exact S2
theorem DrawP.frz {E : Env} {id : Nat} {ops : Array Oper} {Q : APost} {s : St} (t r n off len sz : Nat) (el : TypeId) (els : List (List D)) (ht : Nat.blt t k.nt = true) (hl : lk t s.f = .msl r n off len) (hr : lkH r s.h = some (.buf sz el els)) (hn : n = els.length) (hle : off + len ≤ n)
    (h : DrawP E k id ops Q { f := (t, .d (.sl false sz ((els.drop off).take len))) :: s.f, h := (r, none) :: s.h }) : DrawP E k id ops Q s := .sub (Sub.frz t r n off len sz el els ht hl hr hn hle) h
theorem LoopP.frz {E : Env} {code : Code} {Q : APost} {s : St} (t r n off len sz : Nat) (el : TypeId) (els : List (List D)) (ht : Nat.blt t k.nt = true) (hl : lk t s.f = .msl r n off len) (hr : lkH r s.h = some (.buf sz el els)) (hn : n = els.length) (hle : off + len ≤ n)
    (h : LoopP E k code Q { f := (t, .d (.sl false sz ((els.drop off).take len))) :: s.f, h := (r, none) :: s.h }) : LoopP E k code Q s := .sub (Sub.frz t r n off len sz el els ht hl hr hn hle) h

/-- Data that tells less, in its depth. -/
inductive DL : D → D → Prop
  | refl (x : D) : DL x x
  | nil (t : Bool) (sz : Nat) : DL (.v (.slice none 0 0)) (.sl t sz [])
  | sl (t : Bool) (sz : Nat) (els els' : List (List D)) (h1 : els.length = els'.length) (h2 : ∀ (i : Nat) (el el' : List D), els[i]? = some el → els'[i]? = some el' → el.length = el'.length)
      (h3 : ∀ (i j : Nat) (el el' : List D) (x y : D), els[i]? = some el → els'[i]? = some el' → el[j]? = some x → el'[j]? = some y → DL x y) : DL (.sl t sz els) (.sl false sz els')
theorem RD.dl {h : Nat → Option Obj} {Im : Nat → Prop} {x y : D} (hxy : DL x y) : ∀ {v : Value}, RD h Im v x → RD h Im v y := by
  induction hxy with
  | refl x => exact fun H => H
  | nil t sz => intro v H; cases H with | v _ _ => exact .nil t sz none 0 fun _ => rfl
  | sl t sz els els' h1 h2 h3 ih =>
    intro v H
    cases H with
    | nil _ _ a cap _ =>
      have := List.eq_nil_of_length_eq_zero (l := els') (by rw [← h1]; rfl)
      subst this
      exact .nil false sz a cap (by simp)
    | sl _ _ _ b o cap f hs hb hle _ hc hr =>
      rw [h1]
      have key : ∀ (i j : Nat) (el' : List D) (y : D), els'[i]? = some el' → el'[j]? = some y → ∃ el x, els[i]? = some el ∧ el[j]? = some x := fun i j el' y e1 e2 => by
        have hi : i < els.length := by rw [h1]; exact (List.getElem?_eq_some_iff.1 e1).1
        have hl := h2 i _ _ (List.getElem?_eq_getElem hi) e1
        have hj : j < els[i].length := by rw [hl]; exact (List.getElem?_eq_some_iff.1 e2).1
        exact ⟨_, _, List.getElem?_eq_getElem hi, List.getElem?_eq_getElem hj⟩
      refine .sl false sz els' b o cap f (fun el' hel' => ?_) hb (by omega) (by simp) (fun i j el' y e1 e2 => ?_) (fun i j el' y e1 e2 => ?_)
      · obtain ⟨i, hi, rfl⟩ := List.mem_iff_getElem.1 hel'
        rw [← h2 i els[i] els'[i] (List.getElem?_eq_getElem (by omega)) (List.getElem?_eq_getElem hi)]
        exact hs _ (List.getElem_mem (by omega))
      · obtain ⟨el, x, g1, g2⟩ := key i j el' y e1 e2
        exact hc i j el x g1 g2
      · obtain ⟨el, x, g1, g2⟩ := key i j el' y e1 e2
        exact ih i j el el' x y g1 e1 g2 e2 (hr i j el x g1 g2)
/-- Rows, cell for cell. -/
def RowL (a b : List D) : Prop := a.length = b.length ∧ ∀ (j : Nat) (x y : D), a[j]? = some x → b[j]? = some y → DL x y
def RowsL (a b : List (List D)) : Prop := a.length = b.length ∧ ∀ (i : Nat) (x y : List D), a[i]? = some x → b[i]? = some y → RowL x y
theorem RowL.refl (a : List D) : RowL a a := ⟨rfl, fun j x y h1 h2 => by rw [h1] at h2; injection h2 with h2; subst h2; exact .refl x⟩
theorem RowL.cons {x y : D} {a b : List D} (h : DL x y) (k : RowL a b) : RowL (x :: a) (y :: b) := ⟨by simp [k.1], fun j u v h1 h2 => by
  cases j with
  | zero => simp at h1 h2; subst h1; subst h2; exact h
  | succ j => exact k.2 j u v (by simpa using h1) (by simpa using h2)⟩
theorem RowsL.nil : RowsL [] [] := ⟨rfl, by simp⟩
theorem RowsL.dl {t : Bool} {sz : Nat} {a b : List (List D)} (h : RowsL a b) : DL (.sl t sz a) (.sl false sz b) :=
  .sl t sz a b h.1 (fun i el el' h1 h2 => (h.2 i el el' h1 h2).1) fun i j el el' x y h1 h2 => (h.2 i el el' h1 h2).2 j x y
theorem RowsL.app {a b c d : List (List D)} (h : RowsL a b) (k : RowsL c d) : RowsL (a ++ c) (b ++ d) := ⟨by simp [h.1, k.1], fun i x y h1 h2 => by
  by_cases hi : i < a.length
  · rw [List.getElem?_append_left hi] at h1; rw [List.getElem?_append_left (by rw [← h.1]; exact hi)] at h2
    exact h.2 i x y h1 h2
  · rw [List.getElem?_append_right (by omega)] at h1; rw [List.getElem?_append_right (by rw [← h.1]; omega)] at h2
    rw [← h.1] at h2
    exact k.2 _ x y h1 h2⟩
theorem RowsL.one {x y : List D} (h : RowL x y) : RowsL [x] [y] := ⟨rfl, fun i u v h1 h2 => by
  cases i with
  | zero => simp at h1 h2; subst h1; subst h2; exact h
  | succ i => simp at h1⟩
theorem RowsL.take {a b : List (List D)} (n : Nat) (h : RowsL a b) : RowsL (a.take n) (b.take n) := ⟨by simp [h.1], fun i x y h1 h2 => by
  rw [List.getElem?_take] at h1 h2
  split at h1
  · rename_i hi; rw [if_pos hi] at h2; exact h.2 i x y h1 h2
  · simp at h1⟩
theorem RowsL.drop {a b : List (List D)} (n : Nat) (h : RowsL a b) : RowsL (a.drop n) (b.drop n) := ⟨by simp [h.1], fun i x y h1 h2 => by
  rw [List.getElem?_drop] at h1 h2; exact h.2 _ x y h1 h2⟩
theorem RowsL.set {a b : List (List D)} {x y : List D} (n : Nat) (h : RowsL a b) (hx : RowL x y) : RowsL (a.set n x) (b.set n y) := ⟨by simp [h.1], fun i u v h1 h2 => by
  by_cases hi : n = i
  · subst hi
    have h3 : n < a.length := by have := (List.getElem?_eq_some_iff.1 h1).1; simpa using this
    rw [List.getElem?_set_self h3] at h1; rw [List.getElem?_set_self (by rw [← h.1]; exact h3)] at h2
    injection h1 with h1; injection h2 with h2; subst h1; subst h2; exact hx
  · rw [List.getElem?_set_ne hi] at h1 h2; exact h.2 i u v h1 h2⟩
theorem RowsL.at {a b : List (List D)} (h : RowsL a b) {i : Nat} (hi : i < a.length) : RowL (a.getD i []) (b.getD i []) := by
  have hb : i < b.length := by rw [← h.1]; exact hi
  have := h.2 i _ _ (List.getElem?_eq_getElem hi) (List.getElem?_eq_getElem hb)
  simpa [List.getD, hi, hb] using this
theorem RA.dagg_dl {h : Nat → Option Obj} {Im : Nat → Prop} {ρ : Nat → Option Loc} {v : Value} {xs ys : List D} (H : RA h Im ρ v (.dagg xs)) (hxy : RowL xs ys) : RA h Im ρ v (.dagg ys) := by
  cases H with
  | dagg cs _ hl hr =>
    refine .dagg cs _ (hl.trans hxy.1) fun i v y e1 e2 => ?_
    have hi : i < xs.length := by rw [hxy.1]; exact (List.getElem?_eq_some_iff.1 e2).1
    exact (hr i v _ e1 (List.getElem?_eq_getElem hi)).dl (hxy.2 i _ y (List.getElem?_eq_getElem hi) e2)
theorem RO.buf_dl {h : Nat → Option Obj} {Im : Nat → Prop} {ρ : Nat → Option Loc} {l : Loc} {sz : Nat} {el : TypeId} {a b : List (List D)} (H : RO h Im ρ l (.buf sz el a)) (hab : RowsL a b) : RO h Im ρ l (.buf sz el b) := by
  obtain ⟨k1, k2, k3, k4, k5, k6⟩ := H
  refine ⟨k1, k2, k3, k4.trans hab.1, fun q hq => ?_, ?_⟩
  · obtain ⟨i, hi, rfl⟩ := List.mem_iff_getElem.1 hq
    have hi2 : i < a.length := by rw [hab.1]; exact hi
    rw [← (hab.2 i a[i] b[i] (List.getElem?_eq_getElem hi2) (List.getElem?_eq_getElem hi)).1]
    exact k5 _ (List.getElem_mem _)
  · rcases k6 with ⟨g1, g2, g3⟩ | ⟨bb, ms, g1, g2, g3, g4, g5, g6⟩
    · subst g2
      have := List.eq_nil_of_length_eq_zero (l := b) (by rw [← hab.1]; rfl)
      exact .inl ⟨g1, this, g3⟩
    · refine .inr ⟨bb, ms, g1, g2, by rw [← hab.1]; exact g3, g4, g5, fun i j q y e1 e2 => ?_⟩
      have hi : i < a.length := by rw [hab.1]; exact (List.getElem?_eq_some_iff.1 e1).1
      have hrow := hab.2 i _ _ (List.getElem?_eq_getElem hi) e1
      have hj : j < a[i].length := by rw [hrow.1]; exact (List.getElem?_eq_some_iff.1 e2).1
      obtain ⟨v, m1, m2⟩ := g6 i j _ _ (List.getElem?_eq_getElem hi) (List.getElem?_eq_getElem hj)
      exact ⟨v, m1, m2.dl (hrow.2 j _ y (List.getElem?_eq_getElem hj) e2)⟩
/-- A buffer's rows may be told otherwise. -/
theorem Sub.buf {E : Env} (f : List (Nat × AV)) (h : HL) (r sz : Nat) (el : TypeId) {a b : List (List D)} (hab : RowsL a b) : Sub E k { f := f, h := (r, some (.buf sz el b)) :: h } { f := f, h := (r, some (.buf sz el a)) :: h } := fun c ok e1 e2 Im ρ act w S => by
  have hH : ∀ q o, St.H { f := f, h := (r, some (.buf sz el b)) :: h } q = some o → (q = r ∧ o = .buf sz el b) ∨ (q ≠ r ∧ St.H { f := f, h := (r, some (.buf sz el a)) :: h } q = some o) := fun q o hq => by
    have e := congrFun (lkH_cons r (some (.buf sz el b)) h) q
    have e' := congrFun (lkH_cons r (some (.buf sz el a)) h) q
    simp only [St.H] at hq ⊢
    rw [e] at hq; rw [e']
    by_cases hqr : q = r
    · subst hqr; rw [upd_same] at hq; injection hq with hq; exact .inl ⟨rfl, hq.symm⟩
    · rw [upd_ne _ _ hqr] at hq; rw [upd_ne _ _ hqr]; exact .inr ⟨hqr, hq⟩
  have h0 : St.H { f := f, h := (r, some (.buf sz el a)) :: h } r = some (.buf sz el a) := by simp [St.H, lkH]
  have hS : ∀ q o, St.H { f := f, h := (r, some (.buf sz el b)) :: h } q = some o → ∃ o', St.H { f := f, h := (r, some (.buf sz el a)) :: h } q = some o' := fun q o hq => by
    rcases hH q o hq with ⟨rfl, rfl⟩ | ⟨_, h2⟩
    · exact ⟨_, h0⟩
    · exact ⟨o, h2⟩
  refine ⟨Im, ρ, { defs := S.defs, nt := S.nt, fr := S.fr, obj := fun q o hq => ?_, dis := fun q q' o o' l l' h1 h2 => ?_, imn := S.imn, im0 := S.im0, os := S.os, tape := S.tape, output := S.output, size := S.size, kept := S.kept, anc := S.anc }⟩
  · rcases hH q o hq with ⟨rfl, rfl⟩ | ⟨_, h2⟩
    · obtain ⟨l, g1, g2, g3⟩ := S.obj q _ h0
      exact ⟨l, g1, g2.buf_dl hab, g3⟩
    · exact S.obj q o h2
  · obtain ⟨p, hp⟩ := hS q o h1
    obtain ⟨p', hp'⟩ := hS q' o' h2
    exact S.dis q q' p p' l l' hp hp'

/-- What comes back, told otherwise case for case. -/
theorem Ctr.re {E : Env} {f : FuncId} {args : List AV} {hin : HL} {post post' : AOut → Prop} (h : Ctr E f args hin post)
    (hle : ∀ o, post o → ∃ r r', o = .ret r [] ∧ (∀ (w : World) (Im : Nat → Prop) (ρ : Nat → Option Loc) (v : Value), RA (hp w) Im ρ v r → RA (hp w) Im ρ v r') ∧ (∀ q, r'.ment q = false) ∧ post' (.ret r' [])) : Ctr E f args hin post' :=
  ⟨h.1, fun w Im ρ vs g1 g2 g3 g4 g5 g6 => (h.2 w Im ρ vs g1 g2 g3 g4 g5 g6).mono fun e w' he => by
    cases e with
    | returned v =>
      obtain ⟨res, ho', Im', ρ', h1, h2, h3, A⟩ := he
      obtain ⟨r, r', e1, e2, e3, e4⟩ := hle _ h1
      injection e1 with e1 e5; subst e1; subst e5
      exact ⟨r', _, Im', ρ', e4, e2 _ _ _ _ h2, fun q hq => by rw [e3 q] at hq; simp at hq, A⟩
    | panicked ch =>
      obtain ⟨ho', Im', ρ', h1, _⟩ := he
      obtain ⟨r, r', e1, _⟩ := hle _ h1
      exact absurd e1 (by simp)
    | outgrown => exact he⟩
/-- A call with several outcomes. -/
theorem CallP.cases {E : Env} {k : Kn} {f : FuncId} {args : List AV} {s : St} {K : AV → HL → Prop} {KP : List PanicEntry → HL → Prop} {post : AOut → Prop} (h : Ctr E f args [] post) (hk : ∀ o, post o → ∃ res, o = .ret res [] ∧ K res s.h) : CallP E k f args s K KP :=
  ⟨[], _, h, fun r o h => by simp [lkH] at h, fun res' ho e => by
    obtain ⟨res, e1, e2⟩ := hk _ e
    injection e1 with e1 e3; subst e1; subst e3
    exact ⟨fun r o h => by simp [lkH] at h, e2⟩, fun ch ho e => by
    obtain ⟨res, e1, _⟩ := hk _ e
    exact absurd e1 (by simp)⟩
/-- What a call takes may be known better. -/
theorem Ctr.le {E : Env} {f : FuncId} {args args' : List AV} {hin : HL} {post : AOut → Prop} (h : Ctr E f args hin post) (hl : args'.length = args.length)
    (hle : ∀ (w : World) (Im : Nat → Prop) (ρ : Nat → Option Loc) (i : Nat) (v : Value) (x y : AV), args'[i]? = some x → args[i]? = some y → RA (hp w) Im ρ v x → RA (hp w) Im ρ v y) : Ctr E f args' hin post :=
  ⟨h.1, fun w Im ρ vs g1 g2 g3 g4 g5 g6 => h.2 w Im ρ vs g1 g2 g3 (g4.trans hl) (fun i v y h1 h2 => by
    have hi : i < args'.length := by rw [hl]; exact (List.getElem?_eq_some_iff.1 h2).1
    exact hle w Im ρ i v _ y (List.getElem?_eq_getElem hi) h2 (g5 i v _ h1 (List.getElem?_eq_getElem hi))) g6⟩

theorem bsz (a : Array UInt8) : (ByteArray.mk a).size = a.size := rfl

/-- What comes back may be told otherwise. -/
theorem Ctr.ret_le {E : Env} {f : FuncId} {args : List AV} {hin ho : HL} {r r' : AV} (h : Ctr E f args hin fun o => o = .ret r ho) (hc : Closed ho r') (hle : ∀ (w : World) (Im : Nat → Prop) (ρ : Nat → Option Loc) (v : Value), RA (hp w) Im ρ v r → RA (hp w) Im ρ v r') : Ctr E f args hin fun o => o = .ret r' ho :=
  ⟨h.1, fun w Im ρ vs g1 g2 g3 g4 g5 g6 => (h.2 w Im ρ vs g1 g2 g3 g4 g5 g6).mono fun e w' he => by
    cases e with
    | returned v =>
      obtain ⟨res, ho', Im', ρ', h1, h2, h3, A⟩ := he
      injection h1 with e1 e2; subst e1; subst e2
      exact ⟨r', _, Im', ρ', rfl, hle _ _ _ _ h2, hc, A⟩
    | panicked ch => obtain ⟨ho', Im', ρ', h1, _⟩ := he; exact absurd h1 (by simp)
    | outgrown => exact he⟩
theorem RA.dagg_of {h : Nat → Option Obj} {Im : Nat → Prop} {ρ : Nat → Option Loc} {v : Value} {l : List D} (H : RA h Im ρ v (.agg (l.map .d))) : RA h Im ρ v (.dagg l) := by
  cases H with
  | agg cs _ hl hr =>
    refine .dagg cs l (by simpa using hl) fun i v x h1 h2 => ?_
    have := hr i v (.d x) h1 (by simp [h2])
    cases this; assumption
/-- Cells of data are a struct of data. -/
theorem Ctr.ret_dagg {E : Env} {f : FuncId} {args : List AV} {hin : HL} {l : List D} (h : Ctr E f args hin fun o => o = .ret (.agg (l.map .d)) []) : Ctr E f args hin fun o => o = .ret (.dagg l) [] :=
  h.ret_le (fun r hr => by simp [AV.ment] at hr) fun _ _ _ _ H => H.dagg_of

/-- Data that tells less. -/
def DLe (x y : D) : Prop := x = y ∨ (x = .v (.slice none 0 0) ∧ ∃ t sz, y = .sl t sz []) ∨ (∃ t sz els, x = .sl t sz els ∧ y = .sl false sz els)
theorem RD.le {h : Nat → Option Obj} {Im : Nat → Prop} {v : Value} {x y : D} (H : RD h Im v x) (hxy : DLe x y) : RD h Im v y := by
  rcases hxy with rfl | ⟨rfl, t, sz, rfl⟩ | ⟨t, sz, els, rfl, rfl⟩
  · exact H
  · cases H with
    | v _ _ => exact .nil t sz none 0 fun _ => rfl
  · exact H.loose
/-- Cells of which some are nil slices, told as slices. -/
def DLes : List D → List D → Prop
  | [], [] => True
  | x :: xs, y :: ys => DLe x y ∧ DLes xs ys
  | _, _ => False
theorem DLes.at : ∀ {xs ys : List D}, DLes xs ys → xs.length = ys.length ∧ ∀ (i : Nat) (x y : D), xs[i]? = some x → ys[i]? = some y → DLe x y
  | [], [], _ => ⟨rfl, by simp⟩
  | x :: xs, y :: ys, h => by
    obtain ⟨h1, h2⟩ := DLes.at h.2
    refine ⟨by simp [h1], fun i a b ha hb => ?_⟩
    cases i with
    | zero => simp at ha hb; subst ha; subst hb; exact h.1
    | succ i => exact h2 i a b (by simpa using ha) (by simpa using hb)
theorem RA.dagg_le {h : Nat → Option Obj} {Im : Nat → Prop} {ρ : Nat → Option Loc} {v : Value} {xs ys : List D} (H : RA h Im ρ v (.dagg xs)) (hxy : DLes xs ys) : RA h Im ρ v (.dagg ys) := by
  cases H with
  | dagg cs _ hl hr =>
    obtain ⟨h1, h2⟩ := hxy.at
    refine .dagg cs _ (hl.trans h1) fun i v y e1 e2 => ?_
    have hi : i < xs.length := by rw [h1]; exact (List.getElem?_eq_some_iff.1 e2).1
    exact (hr i v _ e1 (List.getElem?_eq_getElem hi)).le (h2 i _ y (List.getElem?_eq_getElem hi) e2)
/-- One struct as the argument. -/
theorem Ctr.le1 {E : Env} {f : FuncId} {xs ys : List D} {hin : HL} {post : AOut → Prop} (h : Ctr E f [.dagg ys] hin post) (hxy : DLes xs ys) : Ctr E f [.dagg xs] hin post :=
  h.le rfl fun w Im ρ i v x y h1 h2 H => by
    match i with
    | 0 => simp at h1 h2; subst h1; subst h2; exact H.dagg_le hxy
    | n + 1 => simp at h1

/-- One struct as the argument, in its depth. -/
theorem Ctr.leR {E : Env} {f : FuncId} {xs ys : List D} {hin : HL} {post : AOut → Prop} (h : Ctr E f [.dagg ys] hin post) (hxy : RowL xs ys) : Ctr E f [.dagg xs] hin post :=
  h.le rfl fun w Im ρ i v x y h1 h2 H => by
    match i with
    | 0 => simp at h1 h2; subst h1; subst h2; exact H.dagg_dl hxy
    | n + 1 => simp at h1

/-- A variable of data as a variable of whatever values. -/
theorem AWp.asVar {E : Env} {code : Code} {Q : APost} {s : St} (q n : Nat) (cs : List D) (hq : lkH q s.h = some (.dvar n cs)) (h : AWp E k code Q { f := s.f, h := (q, some (.var (cs.map .d))) :: s.h }) : AWp E k code Q s := fun c ok hn ha Im ρ a w S => by
  obtain ⟨l, hl, hro, _⟩ := S.obj q (.dvar n cs) hq
  have hρ : upd ρ q (some l) = ρ := by
    funext x
    by_cases hx : x = q
    · subst hx; rw [upd_same, hl]
    · rw [upd_ne _ _ hx]
  have S2 := S.chg (w' := w) (r := q) (l := l) (l' := l) (o' := .var (cs.map .d)) hq hl (Grows.refl w _) (.inl rfl) (fun b hb => .inl hb) (by
    rw [hρ]
    obtain ⟨h1, h2, h3, b, ms, t, h4, h5, h6, h7⟩ := hro
    refine ⟨h1, h2, b, ms, t, h4, h5, by simpa [h3] using h6, fun j v hv x hx => ?_⟩
    simp only [List.getElem?_map, Option.map_eq_some_iff] at hx
    obtain ⟨y, hy, rfl⟩ := hx
    exact ⟨.d _ _ (h7 j v hv y hy), (h7 j v hv y hy).one⟩)
  rw [hρ] at S2
  refine h c ok hn ha Im ρ a w ?_
  have e2 : (St.H { f := s.f, h := (q, some (.var (cs.map .d))) :: s.h }) = upd s.H q (some (.var (cs.map .d))) := lkH_cons q _ s.h
  rw [e2]
  exact S2
theorem LoopP.asVar {E : Env} {code : Code} {Q : APost} {s : St} (q n : Nat) (cs : List D) (hq : lkH q s.h = some (.dvar n cs)) (h : LoopP E k code Q { f := s.f, h := (q, some (.var (cs.map .d))) :: s.h }) : LoopP E k code Q s := ⟨.asVar q n cs hq h.ok⟩

end Go.Ax

/- Abstract execution, part Sw: objects under other names. -/
namespace Go.Ax

def swp (a b r : Nat) : Nat := match Nat.beq r a with
  | true => b
  | false => match Nat.beq r b with
    | true => a
    | false => r
theorem swp_eq (a b r : Nat) : swp a b r = if r = a then b else if r = b then a else r := by
  unfold swp
  by_cases h : r = a
  · subst h; simp
  · have h1 : Nat.beq r a = false := by
      cases hb : Nat.beq r a with
      | false => rfl
      | true => exact absurd (Nat.eq_of_beq_eq_true hb) h
    simp only [h1, if_neg h]
    by_cases h2 : r = b
    · subst h2; simp
    · have h3 : Nat.beq r b = false := by
        cases hb : Nat.beq r b with
        | false => rfl
        | true => exact absurd (Nat.eq_of_beq_eq_true hb) h2
      simp [h3, h2]
theorem swp_swp (a b r : Nat) : swp a b (swp a b r) = r := by
  simp only [swp_eq]
  by_cases h : r = a
  · subst h; by_cases h2 : b = r <;> simp [h2]
  · by_cases h2 : r = b
    · subst h2; simp [h]
    · simp [h, h2]
theorem swp_inj {a b x y : Nat} (h : swp a b x = swp a b y) : x = y := by rw [← swp_swp a b x, h, swp_swp]

mutual
def AV.swap (a b : Nat) : AV → AV
  | .junk => .junk
  | .d x => .d x
  | .dagg cs => .dagg cs
  | .agg cs => .agg (AV.swapL a b cs)
  | .tup vs => .tup (AV.swapL a b vs)
  | .ptr r off => .ptr (swp a b r) off
  | .ep cs => .ep cs
  | .msl r n off len => .msl (swp a b r) n off len
  | .mptr r n i j => .mptr (swp a b r) n i j
  | .mp r => .mp (swp a b r)
  | .clo fn f c => .clo fn (AV.swapL a b f) (AV.swapL a b c)
  | .ifc t x => .ifc t (AV.swap a b x)
def AV.swapL (a b : Nat) : List AV → List AV
  | [] => []
  | x :: xs => AV.swap a b x :: AV.swapL a b xs
end
def AObj.swap (a b : Nat) : AObj → AObj
  | .var cs => .var (AV.swapL a b cs)
  | .dvar n cs => .dvar n cs
  | .buf sz e els => .buf sz e els
  | .map ag es => .map ag es
  | .siter m p => .siter m p
  | .tvar t cs => .tvar t cs
  | .ext R => .ext R
  | .gst K h0 R => .gst K h0 R
def HL.swap (a b : Nat) : HL → HL
  | [] => []
  | (r, some o) :: h => (swp a b r, some (o.swap a b)) :: HL.swap a b h
  | (r, none) :: h => (swp a b r, none) :: HL.swap a b h

theorem swapL_get (a b : Nat) : ∀ (l : List AV) (i : Nat), (AV.swapL a b l)[i]? = (l[i]?).map (AV.swap a b)
  | [], i => by simp [AV.swapL]
  | x :: xs, 0 => by simp [AV.swapL]
  | x :: xs, i + 1 => by simp [AV.swapL, swapL_get a b xs i]
theorem swapL_length (a b : Nat) : ∀ (l : List AV), (AV.swapL a b l).length = l.length
  | [] => rfl
  | x :: xs => by simp [AV.swapL, swapL_length a b xs]
theorem swapL_map (a b : Nat) : ∀ (l : List AV), AV.swapL a b l = l.map (AV.swap a b)
  | [] => rfl
  | x :: xs => by simp [AV.swapL, swapL_map a b xs]

theorem RA.swap {h : Nat → Option Obj} {Im : Nat → Prop} {ρ ρ' : Nat → Option Loc} (a b : Nat) (hρ : ∀ r, ρ' (swp a b r) = ρ r) {v : Value} {x : AV} (H : RA h Im ρ v x) : RA h Im ρ' v (x.swap a b) := by
  induction H with
  | junk x => exact .junk x
  | d x y hd => exact .d x y hd
  | dagg cs l hl hr => exact .dagg cs l hl hr
  | agg cs l hl hr ih =>
    exact .agg cs _ (by rw [swapL_length]; exact hl) fun i v x h1 h2 => by
      rw [swapL_get, Option.map_eq_some_iff] at h2
      obtain ⟨y, hy, rfl⟩ := h2
      exact ih i v y h1 hy
  | tup cs l hl hr ih =>
    exact .tup cs _ (by rw [swapL_length]; exact hl) fun i v x h1 h2 => by
      rw [swapL_get, Option.map_eq_some_iff] at h2
      obtain ⟨y, hy, rfl⟩ := h2
      exact ih i v y h1 hy
  | ptr x r off h1 hp => exact .ptr x _ off h1 fun l hl => hp l (by rw [← hρ r]; exact hl)
  | ep b o cs f hb hc hr => exact .ep b o cs f hb hc hr
  | msl x r n off len h1 hp => exact .msl x _ n off len h1 fun l hl => hp l (by rw [← hρ r]; exact hl)
  | mptr x r n i j h1 hp => exact .mptr x _ n i j h1 fun l hl => hp l (by rw [← hρ r]; exact hl)
  | mp x r h1 hp => exact .mp x _ h1 fun l hl => hp l (by rw [← hρ r]; exact hl)
  | clo fn fs cs lf lc hf hc hrf hrc ihf ihc =>
    exact .clo fn fs cs _ _ (by rw [swapL_length]; exact hf) (by rw [swapL_length]; exact hc)
      (fun i v x h1 h2 => by
        rw [swapL_get, Option.map_eq_some_iff] at h2
        obtain ⟨y, hy, rfl⟩ := h2
        exact ihf i v y h1 hy) (fun i v x h1 h2 => by
        rw [swapL_get, Option.map_eq_some_iff] at h2
        obtain ⟨y, hy, rfl⟩ := h2
        exact ihc i v y h1 hy)
  | ifc t x y hx ih => exact .ifc t x _ ih

theorem RO.swap {h : Nat → Option Obj} {Im : Nat → Prop} {ρ ρ' : Nat → Option Loc} (a b : Nat) (hρ : ∀ r, ρ' (swp a b r) = ρ r) {l : Loc} {o : AObj} (H : RO h Im ρ l o) : RO h Im ρ' l (o.swap a b) := by
  cases o with
  | var cs =>
    refine ⟨H.1, H.2.1, ?_⟩
    obtain ⟨bk, ms, t, h1, h2, h3, h4⟩ := H.2.2
    refine ⟨bk, ms, t, h1, h2, by rw [swapL_length]; exact h3, fun i v hv x hx => ?_⟩
    rw [swapL_get, Option.map_eq_some_iff] at hx
    obtain ⟨y, hy, rfl⟩ := hx
    exact ⟨(h4 i v hv y hy).1.swap a b hρ, (h4 i v hv y hy).2⟩
  | dvar n cs => exact H
  | buf sz e els => exact H
  | map ag es => exact H
  | siter m p => exact H
  | tvar t cs => exact H
  | ext R => exact H
  | gst K h0 R => exact H

theorem lkH_swap (a b r : Nat) : ∀ (h : HL), lkH (swp a b r) (HL.swap a b h) = (lkH r h).map (AObj.swap a b)
  | [] => rfl
  | (q, some o) :: h => by
    simp only [HL.swap, lkH]
    by_cases e : q = r
    · subst e; simp
    · have h1 : Nat.beq q r = false := by
        cases hb : Nat.beq q r with
        | false => rfl
        | true => exact absurd (Nat.eq_of_beq_eq_true hb) e
      have h2 : Nat.beq (swp a b q) (swp a b r) = false := by
        cases hb : Nat.beq (swp a b q) (swp a b r) with
        | false => rfl
        | true => exact absurd (swp_inj (Nat.eq_of_beq_eq_true hb)) e
      simp only [h1, h2]; exact lkH_swap a b r h
  | (q, none) :: h => by
    simp only [HL.swap, lkH]
    by_cases e : q = r
    · subst e; simp
    · have h1 : Nat.beq q r = false := by
        cases hb : Nat.beq q r with
        | false => rfl
        | true => exact absurd (Nat.eq_of_beq_eq_true hb) e
      have h2 : Nat.beq (swp a b q) (swp a b r) = false := by
        cases hb : Nat.beq (swp a b q) (swp a b r) with
        | false => rfl
        | true => exact absurd (swp_inj (Nat.eq_of_beq_eq_true hb)) e
      simp only [h1, h2]; exact lkH_swap a b r h

theorem lkH_unswap {a b r : Nat} {h : HL} {o : AObj} (hr : lkH r (HL.swap a b h) = some o) : ∃ o', lkH (swp a b r) h = some o' ∧ o = o'.swap a b := by
  have := lkH_swap a b (swp a b r) h
  rw [swp_swp, hr] at this
  obtain ⟨o', h1, h2⟩ := Option.map_eq_some_iff.1 this.symm
  exact ⟨o', h1, h2.symm⟩

theorem ment_swap (a b : Nat) : ∀ (r : Nat) (x : AV), (x.swap a b).ment r = x.ment (swp a b r) := by
  have hb : ∀ q r, Nat.beq (swp a b q) r = Nat.beq q (swp a b r) := fun q r => by
    by_cases e : q = swp a b r
    · subst e; rw [swp_swp]; simp
    · have h1 : Nat.beq q (swp a b r) = false := by
        cases hb : Nat.beq q (swp a b r) with
        | false => rfl
        | true => exact absurd (Nat.eq_of_beq_eq_true hb) e
      have h2 : Nat.beq (swp a b q) r = false := by
        cases hb : Nat.beq (swp a b q) r with
        | false => rfl
        | true => exact absurd (by rw [← Nat.eq_of_beq_eq_true hb, swp_swp]) e
      rw [h1, h2]
  intro r x
  induction x using AV.rec (motive_2 := fun l => AV.ment.mentL r (AV.swapL a b l) = AV.ment.mentL (swp a b r) l) with
  | junk => rfl
  | d x => rfl
  | dagg cs => rfl
  | agg cs ih => simpa [AV.swap, AV.ment] using ih
  | tup cs ih => simpa [AV.swap, AV.ment] using ih
  | ptr q off => exact hb q r
  | ep cs => rfl
  | msl q n off len => exact hb q r
  | mptr q n i j => exact hb q r
  | mp q => exact hb q r
  | clo fn f c ih1 ih2 => simp only [AV.swap, AV.ment, ih1, ih2]
  | ifc t x ih => simpa [AV.swap, AV.ment] using ih
  | nil => rfl
  | cons x xs ih1 ih2 => simp only [AV.swapL, AV.ment.mentL, ih1, ih2]
theorem mentO_swap (a b r : Nat) (x : AObj) : (x.swap a b).ment r = x.ment (swp a b r) := by
  cases x with
  | var cs =>
    simp only [AObj.swap, AObj.ment]
    induction cs with
    | nil => rfl
    | cons x xs ih => simp only [AV.swapL, AV.ment.mentL, ih, ment_swap]
  | _ => rfl

/-- A contract holds under other names of the objects, too. -/
theorem Ctr.swap {E : Env} {f : FuncId} {args : List AV} {hin ho : HL} {res : AV} (a b : Nat) (h : Ctr E f args hin fun o => o = .ret res ho) : Ctr E f (AV.swapL a b args) (HL.swap a b hin) fun o => o = .ret (res.swap a b) (HL.swap a b ho) := by
  refine ⟨h.1, fun w Im ρ vs hG hIm hgl hsz hra hrel => ?_⟩
  -- the names as the contract has them
  have back : ∀ x : AV, (x.swap a b).swap a b = x := by
    intro x
    induction x using AV.rec (motive_2 := fun l => AV.swapL a b (AV.swapL a b l) = l) with
    | junk => rfl
    | d x => rfl
    | dagg cs => rfl
    | agg cs ih => simp [AV.swap, ih]
    | tup cs ih => simp [AV.swap, ih]
    | ptr q off => simp [AV.swap, swp_swp]
    | ep cs => rfl
    | msl q n off len => simp [AV.swap, swp_swp]
    | mptr q n i j => simp [AV.swap, swp_swp]
    | mp q => simp [AV.swap, swp_swp]
    | clo fn f c ih1 ih2 => simp [AV.swap, ih1, ih2]
    | ifc t x ih => simp [AV.swap, ih]
    | nil => rfl
    | cons x xs ih1 ih2 => simp [AV.swapL, ih1, ih2]
  have backO : ∀ o : AObj, (o.swap a b).swap a b = o := fun o => by
    cases o with
    | var cs =>
      have : ∀ l : List AV, AV.swapL a b (AV.swapL a b l) = l := fun l => by induction l with
        | nil => rfl
        | cons x xs ih => simp [AV.swapL, ih, back]
      simp [AObj.swap, this]
    | _ => rfl
  have hρ : ∀ r, (fun q => ρ (swp a b q)) (swp a b r) = ρ r := fun r => by simp only [swp_swp]
  have hT : ∀ bk, TIn (fun q => ρ (swp a b q)) hin bk → TIn ρ (HL.swap a b hin) bk := fun bk ⟨r, o, l, h1, h2, h3⟩ => ⟨swp a b r, o.swap a b, l, by rw [lkH_swap, h1]; rfl, h2, h3⟩
  have hT' : ∀ bk, TIn ρ (HL.swap a b hin) bk → TIn (fun q => ρ (swp a b q)) hin bk := fun bk ⟨r, o, l, h1, h2, h3⟩ => by
    obtain ⟨o', h4, _⟩ := lkH_unswap h1
    exact ⟨swp a b r, o', l, h4, by simp only [swp_swp]; exact h2, h3⟩
  have := h.2 w Im (fun q => ρ (swp a b q)) vs hG hIm hgl (by rw [hsz, swapL_length]) (fun i v x h1 h2 => by
    have h3 := hra i v (x.swap a b) h1 (by rw [swapL_get, h2]; rfl)
    have h4 := h3.swap (ρ' := fun q => ρ (swp a b q)) a b hρ
    rw [back] at h4; exact h4) ⟨fun r o hr => by
      obtain ⟨l, h1, h2, h3⟩ := hrel.obj (swp a b r) (o.swap a b) (by rw [lkH_swap, hr]; rfl)
      have h4 := h2.swap (ρ' := fun q => ρ (swp a b q)) a b hρ
      rw [backO] at h4
      exact ⟨l, h1, h4, h3⟩, fun r r' o o' l l' h1 h2 hne g1 g2 => hrel.dis (swp a b r) (swp a b r') (o.swap a b) (o'.swap a b) l l' (by rw [lkH_swap, h1]; rfl) (by rw [lkH_swap, h2]; rfl) (fun e => hne (swp_inj e)) g1 g2⟩
  refine this.mono fun e w' he => ?_
  cases e with
  | returned v =>
    obtain ⟨res', ho', Im', ρ', h1, h2, h3, A⟩ := he
    injection h1 with e1 e2; subst e1; subst e2
    have hρ' : ∀ r, (fun q => ρ' (swp a b q)) (swp a b r) = ρ' r := fun r => by simp only [swp_swp]
    refine ⟨_, _, Im', fun q => ρ' (swp a b q), rfl, h2.swap a b hρ', fun r hr => ?_, ?_⟩
    · rw [ment_swap] at hr
      have := h3 _ hr
      rw [← swp_swp a b r, lkH_swap]
      simpa using this
    · refine ⟨⟨A.grows.size, A.grows.os, A.grows.tape, A.grows.output, fun bk hb hn => A.grows.block bk hb fun h => hn (hT bk h)⟩, A.im, fun bk hb => ⟨(A.imn bk hb).1, (A.imn bk hb).2.imp id fun h => h.imp id (hT bk)⟩, ⟨fun r o hr => ?_, fun r r' o o' l l' h1 h2 hne g1 g2 => ?_⟩, fun r o hr l' hl' => ?_, fun r o hr q hq => ?_⟩
      · obtain ⟨o', h4, rfl⟩ := lkH_unswap hr
        obtain ⟨l, h5, h6, h7⟩ := A.rel.obj _ o' h4
        exact ⟨l, h5, h6.swap a b hρ', fun bk hb => ⟨(h7 bk hb).1, (h7 bk hb).2.1, (h7 bk hb).2.2.imp id (hT bk)⟩⟩
      · obtain ⟨o1, h4, _⟩ := lkH_unswap h1
        obtain ⟨o2, h5, _⟩ := lkH_unswap h2
        exact A.rel.dis _ _ o1 o2 l l' h4 h5 (fun e => hne (swp_inj e)) g1 g2
      · obtain ⟨o', h4, _⟩ := lkH_unswap hr
        obtain ⟨l, h5, h6⟩ := A.anc _ o' h4 l' hl'
        simp only [swp_swp] at h5
        exact ⟨l, h5, h6⟩
      · obtain ⟨o', h4, rfl⟩ := lkH_unswap hr
        rw [mentO_swap] at hq
        have := A.cl _ o' h4 _ hq
        rw [← swp_swp a b q, lkH_swap]
        simpa using this
  | panicked ch =>
    obtain ⟨ho', Im', ρ', h1, h4⟩ := he
    exact absurd h1 (by simp)
  | outgrown => exact he

end Go.Ax

/- Abstract execution, part Sh: contracts off the shelf. -/
namespace Go.Ax
open Go.RowKit

theorem after_below {w w' : World} {Im : Nat → Prop} {ρ : Nat → Option Loc} (hIm : ∀ b, Im b → b < w.heap.size) (h : Below w.heap.size w w') : After w Im ρ [] w' Im (fun _ => none) [] where
  grows := ⟨h.size, h.os, h.tape, h.output, fun b hb _ => h.block b hb⟩
  im := fun b hb => hb
  imn := fun b hb => ⟨Nat.lt_of_lt_of_le (hIm b hb) h.size, .inl hb⟩
  rel := ⟨fun r o hr => by simp [lkH] at hr, fun r r' o o' l l' hr => by simp [lkH] at hr⟩
  anc := fun r o hr => by simp [lkH] at hr
  cl := fun r o hr => by simp [lkH] at hr

/-- What single values come to. -/
def vals (xs : List Value) : List AV := xs.map fun x => .d (.v x)

theorem args_vals {h : Nat → Option Obj} {Im : Nat → Prop} {ρ : Nat → Option Loc} {vs : Array Value} {xs : List Value} (hsz : vs.size = (vals xs).length) (hra : ∀ (i : Nat) (v : Value) (x : AV), vs[i]? = some v → (vals xs)[i]? = some x → RA h Im ρ v x) : vs = xs.toArray := by
  have hl : vs.size = xs.length := by rw [hsz]; simp [vals]
  apply Array.ext (by simpa using hl)
  intro i h1 h2
  have hx : (vals xs)[i]? = some (.d (.v xs[i])) := by simp [vals, List.getElem?_eq_getElem (show i < xs.length by omega)]
  have := hra i vs[i] _ (Array.getElem?_eq_getElem h1) hx
  simpa using this.v

/-- A library function that hands back a single value. -/
theorem Ctr.ofVal {E : Env} {f : FuncId} {xs : List Value} {v : Value} (hb : Bodied E.P f) (hv : v.oneCell' = true) (h : ∀ w, E.G w → Calls E.P f xs.toArray w fun e w' => e = .returned v ∧ Below w.heap.size w w') : Ctr E f (vals xs) [] fun o => o = .ret (.d (.v v)) [] := by
  refine ⟨hb, fun w Im ρ vs hG hIm hgl hsz hra hrel => ?_⟩
  rw [args_vals hsz hra]
  refine (h w hG).mono fun e w' ⟨he, hB⟩ => ?_
  subst he
  exact ⟨_, [], Im, _, rfl, RA.intv v hv, fun r hr => by simp [AV.ment] at hr, after_below hIm hB⟩

/-- .. several of them. -/
theorem Ctr.ofVals {E : Env} {f : FuncId} {xs ys : List Value} (hb : Bodied E.P f) (hv : ∀ y ∈ ys, y.oneCell' = true) (h : ∀ w, E.G w → Calls E.P f xs.toArray w fun e w' => e = .returned (.tuple ys.toArray) ∧ Below w.heap.size w w') : Ctr E f (vals xs) [] fun o => o = .ret (.tup (vals ys)) [] := by
  refine ⟨hb, fun w Im ρ vs hG hIm hgl hsz hra hrel => ?_⟩
  rw [args_vals hsz hra]
  refine (h w hG).mono fun e w' ⟨he, hB⟩ => ?_
  subst he
  refine ⟨_, [], Im, _, rfl, .tup _ _ (by simp [vals]) fun i v x h1 h2 => ?_, fun r hr => ?_, after_below hIm hB⟩
  · simp only [vals, List.getElem?_map, Option.map_eq_some_iff] at h2
    obtain ⟨y, hy, rfl⟩ := h2
    have : y = v := by simpa [hy] using h1
    subst this
    exact RA.intv _ (hv _ (List.mem_of_getElem? hy))
  · have : ∀ l : List Value, AV.ment.mentL r (vals l) = false := fun l => by
      induction l with
      | nil => rfl
      | cons y l ih => simpa [vals, AV.ment.mentL, AV.ment] using ih
    simp only [AV.ment, this] at hr
    exact absurd hr (by simp)

end Go.Ax

/- Objects renamed, whatever comes of a call. -/
namespace Go.Ax

theorem Ctr.swapG {E : Env} {f : FuncId} {args : List AV} {hin : HL} {post post' : AOut → Prop} (a b : Nat) (h : Ctr E f args hin post) (hr : ∀ res ho, post (.ret res ho) → post' (.ret (res.swap a b) (HL.swap a b ho))) (hp : ∀ ch ho, post (.pan ch ho) → post' (.pan ch (HL.swap a b ho))) : Ctr E f (AV.swapL a b args) (HL.swap a b hin) post' := by
  refine ⟨h.1, fun w Im ρ vs hG hIm hgl hsz hra hrel => ?_⟩
  -- the names as the contract has them
  have back : ∀ x : AV, (x.swap a b).swap a b = x := by
    intro x
    induction x using AV.rec (motive_2 := fun l => AV.swapL a b (AV.swapL a b l) = l) with
    | junk => rfl
    | d x => rfl
    | dagg cs => rfl
    | agg cs ih => simp [AV.swap, ih]
    | tup cs ih => simp [AV.swap, ih]
    | ptr q off => simp [AV.swap, swp_swp]
    | ep cs => rfl
    | msl q n off len => simp [AV.swap, swp_swp]
    | mptr q n i j => simp [AV.swap, swp_swp]
    | mp q => simp [AV.swap, swp_swp]
    | clo fn f c ih1 ih2 => simp [AV.swap, ih1, ih2]
    | ifc t x ih => simp [AV.swap, ih]
    | nil => rfl
    | cons x xs ih1 ih2 => simp [AV.swapL, ih1, ih2]
  have backO : ∀ o : AObj, (o.swap a b).swap a b = o := fun o => by
    cases o with
    | var cs =>
      have : ∀ l : List AV, AV.swapL a b (AV.swapL a b l) = l := fun l => by induction l with
        | nil => rfl
        | cons x xs ih => simp [AV.swapL, ih, back]
      simp [AObj.swap, this]
    | _ => rfl
  have hρ : ∀ r, (fun q => ρ (swp a b q)) (swp a b r) = ρ r := fun r => by simp only [swp_swp]
  have hT : ∀ bk, TIn (fun q => ρ (swp a b q)) hin bk → TIn ρ (HL.swap a b hin) bk := fun bk ⟨r, o, l, h1, h2, h3⟩ => ⟨swp a b r, o.swap a b, l, by rw [lkH_swap, h1]; rfl, h2, h3⟩
  have hT' : ∀ bk, TIn ρ (HL.swap a b hin) bk → TIn (fun q => ρ (swp a b q)) hin bk := fun bk ⟨r, o, l, h1, h2, h3⟩ => by
    obtain ⟨o', h4, _⟩ := lkH_unswap h1
    exact ⟨swp a b r, o', l, h4, by simp only [swp_swp]; exact h2, h3⟩
  have := h.2 w Im (fun q => ρ (swp a b q)) vs hG hIm hgl (by rw [hsz, swapL_length]) (fun i v x h1 h2 => by
    have h3 := hra i v (x.swap a b) h1 (by rw [swapL_get, h2]; rfl)
    have h4 := h3.swap (ρ' := fun q => ρ (swp a b q)) a b hρ
    rw [back] at h4; exact h4) ⟨fun r o hr => by
      obtain ⟨l, h1, h2, h3⟩ := hrel.obj (swp a b r) (o.swap a b) (by rw [lkH_swap, hr]; rfl)
      have h4 := h2.swap (ρ' := fun q => ρ (swp a b q)) a b hρ
      rw [backO] at h4
      exact ⟨l, h1, h4, h3⟩, fun r r' o o' l l' h1 h2 hne g1 g2 => hrel.dis (swp a b r) (swp a b r') (o.swap a b) (o'.swap a b) l l' (by rw [lkH_swap, h1]; rfl) (by rw [lkH_swap, h2]; rfl) (fun e => hne (swp_inj e)) g1 g2⟩
  have aft : ∀ (w' : World) (Im' : Nat → Prop) (ρ' : Nat → Option Loc) (ho' : HL), After w Im (fun q => ρ (swp a b q)) hin w' Im' ρ' ho' → After w Im ρ (HL.swap a b hin) w' Im' (fun q => ρ' (swp a b q)) (HL.swap a b ho') := fun w' Im' ρ' ho' A => by
    have hρ' : ∀ r, (fun q => ρ' (swp a b q)) (swp a b r) = ρ' r := fun r => by simp only [swp_swp]
    refine ⟨⟨A.grows.size, A.grows.os, A.grows.tape, A.grows.output, fun bk hb hn => A.grows.block bk hb fun h => hn (hT bk h)⟩, A.im, fun bk hb => ⟨(A.imn bk hb).1, (A.imn bk hb).2.imp id fun h => h.imp id (hT bk)⟩, ⟨fun r o hr => ?_, fun r r' o o' l l' h1 h2 hne g1 g2 => ?_⟩, fun r o hr l' hl' => ?_, fun r o hr q hq => ?_⟩
    · obtain ⟨o', h4, rfl⟩ := lkH_unswap hr
      obtain ⟨l, h5, h6, h7⟩ := A.rel.obj _ o' h4
      exact ⟨l, h5, h6.swap a b hρ', fun bk hb => ⟨(h7 bk hb).1, (h7 bk hb).2.1, (h7 bk hb).2.2.imp id (hT bk)⟩⟩
    · obtain ⟨o1, h4, _⟩ := lkH_unswap h1
      obtain ⟨o2, h5, _⟩ := lkH_unswap h2
      exact A.rel.dis _ _ o1 o2 l l' h4 h5 (fun e => hne (swp_inj e)) g1 g2
    · obtain ⟨o', h4, _⟩ := lkH_unswap hr
      obtain ⟨l, h5, h6⟩ := A.anc _ o' h4 l' hl'
      simp only [swp_swp] at h5
      exact ⟨l, h5, h6⟩
    · obtain ⟨o', h4, rfl⟩ := lkH_unswap hr
      rw [mentO_swap] at hq
      have := A.cl _ o' h4 _ hq
      rw [← swp_swp a b q, lkH_swap]
      simpa using this
  refine this.mono fun e w' he => ?_
  cases e with
  | returned v =>
    obtain ⟨res', ho', Im', ρ', h1, h2, h3, A⟩ := he
    have hρ' : ∀ r, (fun q => ρ' (swp a b q)) (swp a b r) = ρ' r := fun r => by simp only [swp_swp]
    refine ⟨_, _, Im', fun q => ρ' (swp a b q), hr _ _ h1, h2.swap a b hρ', fun r hr => ?_, aft _ _ _ _ A⟩
    rw [ment_swap] at hr
    have := h3 _ hr
    rw [← swp_swp a b r, lkH_swap]
    simpa using this
  | panicked ch =>
    obtain ⟨ho', Im', ρ', h1, A⟩ := he
    exact ⟨_, Im', fun q => ρ' (swp a b q), hp _ _ h1, aft _ _ _ _ A⟩
  | outgrown => exact he

end Go.Ax
