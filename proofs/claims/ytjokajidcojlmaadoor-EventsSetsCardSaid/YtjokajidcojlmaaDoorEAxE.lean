import Derived.Test.YtjokajidcojlmaaDoorEAxA
import Derived.Laws.Strings
import Derived.Laws.Append
import Derived.Laws.AppendOwn

/- Abstract execution, part E: what is told of types; what single operations come to (values, memory that is read). -/
namespace Go.Ax

inductive TK where
  | int (k : IntKind) | bool | str | ptr (e : TypeId) | slice (e : TypeId) | array (n : Nat) (e : TypeId) | struct (fs : List (Nat × TypeId)) | map (k e : TypeId) | func | iface | other
structure TI where
  k : TK
  size : Nat
  bytes : Nat
  zero : List Value
  fl : List TK

def kindOf : TypeDesc → TK
  | .int k => .int k
  | .bool => .bool
  | .string => .str
  | .pointer e => .ptr e
  | .slice e => .slice e
  | .array n e => .array n e
  | .struct fs => .struct (fs.toList.map fun f => (f.offset, f.type))
  | .map k e => .map k e
  | .func .. => .func
  | .interface _ => .iface
  | _ => .other

def tiOf0 (P : Program) (t : TypeId) : Option TI :=
  match P.info? t, P.underlying t with
  | some i, some d => match i.zero with
    | some z => some { k := kindOf d, size := i.size, bytes := i.bytes, zero := z.cells.toList, fl := [] }
    | none => none
  | _, _ => none

def flatFs (go : TypeId → Option (List TK)) : Nat → List Field → Option (List TK)
  | _, [] => some []
  | off, f :: fs => match f.name != "_", Nat.beq f.offset off, go f.type with
    | true, true, some l => match flatFs go (off + l.length) fs with
      | some r => some (l ++ r)
      | none => none
    | _, _, _ => none
/-- The kinds of a type's plain parts, one behind the other. -/
def flatL (P : Program) : Nat → TypeId → Option (List TK)
  | 0, _ => none
  | d + 1, t => match tiOf0 P t, P.underlying t with
    | some i, some (.int k) => match Nat.beq i.size 1 with
      | true => some [.int k]
      | false => none
    | some i, some .bool => match Nat.beq i.size 1 with
      | true => some [.bool]
      | false => none
    | some i, some .string => match Nat.beq i.size 1 with
      | true => some [.str]
      | false => none
    | some i, some (.struct fs) => match P.stoodInHeld t, flatFs (flatL P d) 0 fs.toList with
      | false, some l => match Nat.beq i.size l.length with
        | true => some l
        | false => none
      | _, _ => none
    | some i, some (.array n e) => match flatL P d e, tiOf0 P e with
      | some l, some ei => match Nat.beq ei.size l.length, Nat.beq i.size (n * l.length) with
        | true, true => some (List.replicate n l).flatten
        | _, _ => none
      | _, _ => none
    | _, _ => none
/-- A single value's zero is bare. -/
def bareZero (P : Program) (t : TypeId) : Bool := match P.info? t, P.underlying t with
  | _, some (.struct _) | _, some (.array _ _) => true
  | some i, _ => match i.zero with
    | some (.agg _) => false
    | _ => true
  | _, _ => false
def flOf (P : Program) (t : TypeId) : List TK := match flatL P 12 t, P.eqGuardType P.depth t, bareZero P t with
  | some l, false, true => l
  | _, _, _ => []
def tiOf (P : Program) (t : TypeId) : Option TI := match tiOf0 P t with
  | some i => some { i with fl := flOf P t }
  | none => none

def TK.agg : TK → Bool
  | .struct _ | .array _ _ => true
  | _ => false

theorem tiOf0_spec {P : Program} {t : TypeId} {i : TI} (h : tiOf0 P t = some i) : ∃ f d z, P.info? t = some f ∧ P.underlying t = some d ∧ f.zero = some z ∧ i = { k := kindOf d, size := f.size, bytes := f.bytes, zero := z.cells.toList, fl := [] } := by
  unfold tiOf0 at h
  split at h
  · rename_i f d h1 h2
    split at h
    · rename_i z h3
      exact ⟨f, d, z, h1, h2, h3, (Option.some.inj h).symm⟩
    · simp at h
  · simp at h
theorem tiOf_spec {P : Program} {t : TypeId} {i : TI} (h : tiOf P t = some i) : ∃ f d z, P.info? t = some f ∧ P.underlying t = some d ∧ f.zero = some z ∧ i = { k := kindOf d, size := f.size, bytes := f.bytes, zero := z.cells.toList, fl := flOf P t } := by
  unfold tiOf at h
  split at h
  · rename_i i0 h0
    obtain ⟨f, d, z, h1, h2, h3, rfl⟩ := tiOf0_spec h0
    exact ⟨f, d, z, h1, h2, h3, (Option.some.inj h).symm⟩
  · simp at h
theorem tiOf_of0 {P : Program} {t : TypeId} {i : TI} (h : tiOf0 P t = some i) : tiOf P t = some { i with fl := flOf P t } := by simp [tiOf, h]

def lkT (t : Nat) : List (Nat × TI) → Option TI
  | [] => none
  | (k, v) :: r => match Nat.beq k t with
    | true => some v
    | false => lkT t r

def TabOk (P : Program) (tab : List (Nat × TI)) : Prop := tab.map (fun p => tiOf P p.1) = tab.map fun p => some p.2

theorem TabOk.at {P : Program} : ∀ {tab : List (Nat × TI)}, TabOk P tab → ∀ {t : Nat} {i : TI}, lkT t tab = some i → tiOf P t = some i
  | [], _, t, i, h => by simp [lkT] at h
  | (k, v) :: r, ht, t, i, h => by
    unfold TabOk at ht
    simp only [List.map_cons, List.cons.injEq] at ht
    by_cases e : Nat.beq k t = true
    · have := Nat.eq_of_beq_eq_true e; subst this
      simp only [lkT, e] at h
      rw [← h]; exact ht.1
    · have : Nat.beq k t = false := Bool.eq_false_iff.2 e
      simp only [lkT, this] at h
      exact TabOk.at (tab := r) ht.2 h

/-! ### Single values -/
def D.int : D → Int
  | .v (.int _ n) => n
  | _ => 0
def D.bool : D → Bool
  | .v (.bool b) => b
  | _ => false
def D.str : D → ByteArray
  | .v (.string s) => s
  | _ => .empty
def D.els : D → List (List D)
  | .sl _ _ e => e
  | _ => []
def D.val : D → Value
  | .v x => x
  | _ => undef

/-- A single value of a kind, told by its kind's shape. -/
def force (k : TK) (sz : Nat) (x : D) : D := match k with
  | .int i => .v (.int i x.int)
  | .bool => .v (.bool x.bool)
  | .str => .v (.string x.str)
  | .slice _ => .sl false sz x.els
  | _ => x
/-- The same, found by the shape of what is there: its parts stand as they are. -/
def forceS (k : TK) (sz : Nat) (x : D) : D := match x with
  | .v (.int j n) => match k with
    | .int i => .v (.int i n)
    | k => force k sz (.v (.int j n))
  | .v (.bool b) => match k with
    | .bool => .v (.bool b)
    | k => force k sz (.v (.bool b))
  | .v (.string b) => match k with
    | .str => .v (.string b)
    | k => force k sz (.v (.string b))
  | .sl t z e => match k with
    | .slice _ => .sl false sz e
    | k => force k sz (.sl t z e)
  | x => force k sz x
theorem forceS_eq (k : TK) (sz : Nat) (x : D) : forceS k sz x = force k sz x := by
  unfold forceS
  split <;> first | rfl | (split <;> rfl)
/-- It is of that kind. -/
def has (k : TK) (sz : Nat) (x : D) : Prop := match k with
  | .int i => ∃ n, x = .v (.int i n)
  | .bool => ∃ b, x = .v (.bool b)
  | .str => ∃ s, x = .v (.string s)
  | .slice _ => ∃ t e, x = .sl t sz e
  | _ => True

theorem RD.loose {h : Nat → Option Obj} {Im : Nat → Prop} {v : Value} {t : Bool} {sz : Nat} {e : List (List D)} (H : RD h Im v (.sl t sz e)) : RD h Im v (.sl false sz e) := by
  cases H with
  | nil _ _ a cap ht => exact .nil false sz a cap (by simp)
  | sl _ _ _ b o cap f hs hb hle ht hc hr => exact .sl false sz e b o cap f hs hb hle (by simp) hc hr
theorem RD.force {h : Nat → Option Obj} {Im : Nat → Prop} {v : Value} {k : TK} {sz : Nat} {x : D} (hk : has k sz x) (H : RD h Im v x) : RD h Im v (force k sz x) := by
  cases k <;> simp only [has] at hk <;> simp only [Ax.force] <;> first | exact H | skip
  · obtain ⟨n, rfl⟩ := hk; exact H
  · obtain ⟨n, rfl⟩ := hk; exact H
  · obtain ⟨n, rfl⟩ := hk; exact H
  · obtain ⟨t, e, rfl⟩ := hk; exact H.loose

/-! ### What an operation comes to -/
structure Eff where
  val : AV
  rh : Option (Nat × AObj) := none
  wh : Option (Nat × Option AObj) := none
  new : Option Nat := none
  cond : List Prop := []

def AllL : List Prop → Prop
  | [] => True
  | p :: l => p ∧ AllL l

def updO (H : Nat → Option AObj) : Option (Nat × Option AObj) → Nat → Option AObj
  | none => H
  | some (r, o) => upd H r o

def opTmps (op : Op) : List Nat := op.operands.toList.filterMap fun | .tmp t => some t | _ => none

/-- The operation comes to this, wherever its operands and what it reads are so. -/
def OpOk (E : Env) (k : Kn) (op : Op) (ty : TypeId) (s : St) (e : Eff) : Prop :=
  ∀ (c : Cx) (Im : Nat → Prop) (ρ : Nat → Option Loc) (F : Nat → AV) (H : Nat → Option AObj) (a : Act) (w : World) (o : Oper), c.Ok E → c.nt = k.nt → c.anc = k.anc → Sim c Im ρ F H a w → o.op = op → o.type = ty →
    (∀ t ∈ opTmps op, lk t s.f = F t) → (∀ r x, e.rh = some (r, x) → H r = some x) → (∀ r, e.new = some r → Unm c r F H) → AllL e.cond →
    ∃ v w', ((execOp a.eval o).run E.P w = .ok (.value v) w' ∨ ((execOp a.eval o).run E.P w = .ok .skip w' ∧ v = undef)) ∧ ∃ Im' ρ', Sim c Im' ρ' F (updO H e.wh) a w' ∧ RA (hp w') Im' ρ' v e.val

/-- All of an operation's operands are slots of the frame or single constants. -/
def opIn (n : Nat) (op : Op) : Bool := op.operands.toList.all (inN n)

theorem inN_spec {n : Nat} {x : Operand} (h : inN n x = true) : okO x = true ∧ ∀ t, x = .tmp t → t < n := by
  cases x with
  | tmp t => exact ⟨rfl, fun t' e => by injection e with e; subst e; simpa [inN] using h⟩
  | const v => exact ⟨h, fun t e => by cases e⟩
  | global g => exact ⟨rfl, fun t e => by cases e⟩
  | func f => exact ⟨rfl, fun t e => by cases e⟩

theorem opIn_ev {k : Kn} {op : Op} {s : St} {c : Cx} {Im : Nat → Prop} {ρ : Nat → Option Loc} {F : Nat → AV} {H : Nat → Option AObj} {a : Act} {w : World} (S : Sim c Im ρ F H a w) (hn : c.nt = k.nt) (hi : opIn k.nt op = true)
    (hF : ∀ t ∈ opTmps op, lk t s.f = F t) {x : Operand} (hx : x ∈ op.operands.toList) : RA (hp w) Im ρ (a.eval x) (evO s x) := by
  have h := inN_spec (List.all_eq_true.1 hi x hx)
  refine S.ev (fun t e => ⟨hn ▸ h.2 t e, hF t ?_⟩) h.1
  subst e
  exact List.mem_filterMap.2 ⟨_, hx, rfl⟩

section ops
variable {E : Env} {k : Kn} {ty : TypeId} {s : St}

/-- An operation that only computes. -/
theorem OpOk.pure {op : Op} {x : AV} (cond : List Prop) (rh : Option (Nat × AObj)) (h : AllL cond → ∀ (c : Cx) (Im : Nat → Prop) (ρ : Nat → Option Loc) (F : Nat → AV) (H : Nat → Option AObj) (a : Act) (w : World) (o : Oper), c.Ok E → c.nt = k.nt → Sim c Im ρ F H a w → o.op = op → o.type = ty →
    (∀ t ∈ opTmps op, lk t s.f = F t) → (∀ r x, rh = some (r, x) → H r = some x) → ∃ v, (execOp a.eval o).run E.P w = .ok (.value v) w ∧ RA (hp w) Im ρ v x) : OpOk E k op ty s { val := x, rh, cond } :=
  fun c Im ρ F H a w o ok hn _ S ho hty hF hr _ hc => let ⟨v, h1, h2⟩ := h hc c Im ρ F H a w o ok hn S ho hty hF hr; ⟨v, w, .inl h1, Im, ρ, S, h2⟩

/-- An operation that only computes, or reads. -/
def OpPure (E : Env) (k : Kn) (op : Op) (ty : TypeId) (s : St) (e : Eff) : Prop := e.wh = none ∧ e.new = none ∧
  ∀ (c : Cx) (Im : Nat → Prop) (ρ : Nat → Option Loc) (F : Nat → AV) (H : Nat → Option AObj) (a : Act) (w : World) (o : Oper), c.Ok E → c.nt = k.nt → Sim c Im ρ F H a w → o.op = op → o.type = ty →
    (∀ t ∈ opTmps op, lk t s.f = F t) → (∀ r x, e.rh = some (r, x) → H r = some x) → AllL e.cond → ∃ v, (execOp a.eval o).run E.P w = .ok (.value v) w ∧ RA (hp w) Im ρ v e.val
theorem OpPure.ok {op : Op} {e : Eff} (h : OpPure E k op ty s e) : OpOk E k op ty s e := by
  intro c Im ρ F H a w o ok hn _ S ho hty hF hr _ hc
  obtain ⟨v, h1, h2⟩ := h.2.2 c Im ρ F H a w o ok hn S ho hty hF hr hc
  exact ⟨v, w, .inl h1, Im, ρ, by rw [h.1]; exact S, h2⟩
theorem OpPure.mk' {op : Op} {x : AV} (cond : List Prop) (rh : Option (Nat × AObj)) (h : AllL cond → ∀ (c : Cx) (Im : Nat → Prop) (ρ : Nat → Option Loc) (F : Nat → AV) (H : Nat → Option AObj) (a : Act) (w : World) (o : Oper), c.Ok E → c.nt = k.nt → Sim c Im ρ F H a w → o.op = op → o.type = ty →
    (∀ t ∈ opTmps op, lk t s.f = F t) → (∀ r x, rh = some (r, x) → H r = some x) → ∃ v, (execOp a.eval o).run E.P w = .ok (.value v) w ∧ RA (hp w) Im ρ v x) : OpPure E k op ty s { val := x, rh, cond } :=
  ⟨rfl, rfl, fun c Im ρ F H a w o ok hn S ho hty hF hr hc => h hc c Im ρ F H a w o ok hn S ho hty hF hr⟩
theorem OpPure.cond {op : Op} {e : Eff} {cond : List Prop} (h : OpPure E k op ty s e) (hc : AllL cond → AllL e.cond) : OpPure E k op ty s { e with cond } :=
  ⟨h.1, h.2.1, fun c Im ρ F H a w o g1 g2 g3 g4 g5 g6 g7 g8 => h.2.2 c Im ρ F H a w o g1 g2 g3 g4 g5 g6 g7 (hc g8)⟩

theorem ok_move {x : Operand} (hi : inN k.nt x = true) : OpOk E k (.move x) ty s { val := evO s x } :=
  .pure [] none fun _ c Im ρ F H a w o _ hn S ho _ hF _ => ⟨a.eval x, by simp [execOp, ho], opIn_ev S hn (by simpa [opIn, Op.operands] using hi) hF (by simp [Op.operands])⟩
theorem ok_assign {x : Operand} (hi : inN k.nt x = true) : OpOk E k (.assign x) ty s { val := evO s x } :=
  .pure [] none fun _ c Im ρ F H a w o _ hn S ho _ hF _ => ⟨a.eval x, by simp [execOp, ho], opIn_ev S hn (by simpa [opIn, Op.operands] using hi) hF (by simp [Op.operands])⟩

theorem RA.intv {h : Nat → Option Obj} {Im : Nat → Prop} {ρ : Nat → Option Loc} (x : Value) (h1 : x.oneCell' = true) : RA h Im ρ x (.d (.v x)) := .d _ _ (.v x h1)

theorem ok_pick {c0 x y : Operand} {b : Bool} {r : AV} (hi : opIn k.nt (.pick c0 x y) = true) (hc : evO s c0 = .d (.v (.bool b))) (hr : r = if b then evO s x else evO s y) : OpOk E k (.pick c0 x y) ty s { val := r } :=
  .pure [] none fun _ c Im ρ F H a w o _ hn S ho _ hF _ => by
    have h1 := opIn_ev (x := c0) S hn hi hF (by simp [Op.operands])
    have h2 := opIn_ev (x := x) S hn hi hF (by simp [Op.operands])
    have h3 := opIn_ev (x := y) S hn hi hF (by simp [Op.operands])
    rw [hc] at h1
    subst hr
    refine ⟨if b then a.eval x else a.eval y, by simp [execOp, ho, h1.v, asBool], ?_⟩
    cases b
    · simpa using h3
    · simpa using h2

theorem ok_not {x : Operand} {b : Bool} {xt : TypeId} (hi : opIn k.nt (.unOp .not xt x) = true) (hc : evO s x = .d (.v (.bool b))) : OpOk E k (.unOp .not xt x) ty s { val := .d (.v (.bool (!b))) } :=
  .pure [] none fun _ c Im ρ F H a w o _ hn S ho _ hF _ => by
    have h1 := opIn_ev (x := x) S hn hi hF (by simp [Op.operands])
    rw [hc] at h1
    exact ⟨.bool (!b), by simp [execOp, ho, h1.v, Op.unary], RA.intv _ rfl⟩

/-! #### Numbers -/
def intOp (op : BinOp) (k : IntKind) (a b : Int) : Option (Value × List Prop) := match op with
  | .add => some (.int k (k.wrap (a + b)), [])
  | .sub => some (.int k (k.wrap (a - b)), [])
  | .mul => some (.int k (k.wrap (a * b)), [])
  | .quo => some (.int k (k.wrap (a.tdiv b)), [b ≠ 0])
  | .rem => some (.int k (a.tmod b), [b ≠ 0])
  | .and => some (.int k (k.wrap (BitVec.ofInt k.bits a &&& BitVec.ofInt k.bits b).toNat), [])
  | .or => some (.int k (k.wrap (BitVec.ofInt k.bits a ||| BitVec.ofInt k.bits b).toNat), [])
  | .xor => some (.int k (k.wrap (BitVec.ofInt k.bits a ^^^ BitVec.ofInt k.bits b).toNat), [])
  | .andNot => some (.int k (k.wrap (BitVec.ofInt k.bits a &&& ~~~BitVec.ofInt k.bits b).toNat), [])
  | .eql => some (.bool (a == b), [])
  | .neq => some (.bool (a != b), [])
  | .lss => some (.bool (decide (a < b)), [])
  | .leq => some (.bool (decide (a ≤ b)), [])
  | .gtr => some (.bool (decide (b < a)), [])
  | .geq => some (.bool (decide (b ≤ a)), [])
  | _ => none

theorem intOp_run {P : Program} {w : World} {op : BinOp} {xt : TypeId} {i : IntKind} {x y : Int} {v : Value} {cs : List Prop} (h : intOp op i x y = some (v, cs)) (hc : AllL cs) : (binOp op xt (.int i x) (.int i y)).run P w = .ok v w ∧ v.oneCell' = true := by
  cases op <;> simp only [intOp] at h <;> cases h
  all_goals simp only [AllL] at hc
  all_goals simp [binOp, Op.intArith, Op.intCmp, Op.intBits, Op.intDiv, Value.oneCell', GT.gt, GE.ge, hc]

theorem ok_int {op : BinOp} {xt yt : TypeId} {x y : Operand} {i j : IntKind} {m n : Int} {v : Value} {cs : List Prop} (hi : opIn k.nt (.binOp op xt x y yt) = true) (hx : evO s x = .d (.v (.int i m))) (hy : evO s y = .d (.v (.int j n)))
    (hij : i = j) (h : intOp op i m n = some (v, cs)) : OpOk E k (.binOp op xt x y yt) ty s { val := .d (.v v), cond := cs } := by
  subst hij
  refine .pure cs none fun hc c Im ρ F H a w o _ hn S ho _ hF _ => ?_
  have h1 := opIn_ev (x := x) S hn hi hF (by simp [Op.operands])
  have h2 := opIn_ev (x := y) S hn hi hF (by simp [Op.operands])
  rw [hx] at h1
  rw [hy] at h2
  obtain ⟨h3, h4⟩ := intOp_run (P := E.P) (w := w) (xt := xt) h hc
  refine ⟨v, ?_, RA.intv _ h4⟩
  have hg : (eqGuard op xt x y (.int i m) (.int i n)).run E.P w = .ok () w := by
    unfold eqGuard
    split <;> simp
  simp [execOp, ho, h1.v, h2.v, hg, h3]

def shOp (op : BinOp) (k : IntKind) (a b : Int) : Option (Value × List Prop) := match op with
  | .shl => some (.int k (k.wrap (a * 2 ^ (min b.toNat k.bits))), [0 ≤ b])
  | .shr => some (.int k (a.fdiv (2 ^ (min b.toNat k.bits))), [0 ≤ b])
  | _ => none
theorem ok_shift {op : BinOp} {xt yt : TypeId} {x y : Operand} {i j : IntKind} {m n : Int} {v : Value} {cs : List Prop} (hi : opIn k.nt (.binOp op xt x y yt) = true) (hx : evO s x = .d (.v (.int i m))) (hy : evO s y = .d (.v (.int j n)))
    (h : shOp op i m n = some (v, cs)) : OpOk E k (.binOp op xt x y yt) ty s { val := .d (.v v), cond := cs } := by
  refine .pure cs none fun hc c Im ρ F H a w o _ hn S ho _ hF _ => ?_
  have h1 := opIn_ev (x := x) S hn hi hF (by simp [Op.operands])
  have h2 := opIn_ev (x := y) S hn hi hF (by simp [Op.operands])
  rw [hx] at h1
  rw [hy] at h2
  cases op <;> simp only [shOp] at h <;> cases h
  all_goals
    simp only [AllL] at hc
    have hb : ¬ n < 0 := by omega
    exact ⟨_, by simp [execOp, ho, h1.v, h2.v, eqGuard, binOp, Op.shift, hb], RA.intv _ rfl⟩

/-! #### Strings and bools -/
def strOp (op : BinOp) (a b : ByteArray) : Option (Value × List Prop) := match op with
  | .add => some (.string (a ++ b), [a.size + b.size ≤ 9223372036854775807])
  | .eql => some (.bool (a.data.toList == b.data.toList), [])
  | .neq => some (.bool (!(a.data.toList == b.data.toList)), [])
  | .lss => some (.bool (Op.bytesLess a.data.toList b.data.toList), [])
  | .leq => some (.bool (Op.bytesLess a.data.toList b.data.toList || a.data.toList == b.data.toList), [])
  | .gtr => some (.bool (!(Op.bytesLess a.data.toList b.data.toList || a.data.toList == b.data.toList)), [])
  | .geq => some (.bool (!(Op.bytesLess a.data.toList b.data.toList)), [])
  | _ => none
theorem ok_str {op : BinOp} {xt yt : TypeId} {x y : Operand} {m n : ByteArray} {v : Value} {cs : List Prop} (hi : opIn k.nt (.binOp op xt x y yt) = true) (hx : evO s x = .d (.v (.string m))) (hy : evO s y = .d (.v (.string n)))
    (h : strOp op m n = some (v, cs)) : OpOk E k (.binOp op xt x y yt) ty s { val := .d (.v v), cond := cs } := by
  refine .pure cs none fun hc c Im ρ F H a w o _ hn S ho _ hF _ => ?_
  have h1 := opIn_ev (x := x) S hn hi hF (by simp [Op.operands])
  have h2 := opIn_ev (x := y) S hn hi hF (by simp [Op.operands])
  rw [hx] at h1
  rw [hy] at h2
  have hg : (eqGuard op xt x y (.string m) (.string n)).run E.P w = .ok () w := by
    unfold eqGuard
    split <;> simp
  cases op <;> simp only [strOp] at h <;> cases h
  all_goals
    simp only [AllL] at hc
  case add =>
    have hb := hc.1
    exact ⟨_, by simp [execOp, ho, h1.v, h2.v, hg, binOp, Op.stringOp]; omega, RA.intv _ rfl⟩
  all_goals exact ⟨_, by simp [execOp, ho, h1.v, h2.v, hg, binOp, Op.stringOp, ByteArray.toList_eq], RA.intv _ rfl⟩

theorem run_equalIn_bool {P : Program} {w : World} (d : Nat) {t : TypeId} {a b : Bool} (hu : P.underlying t = some .bool) : (Op.equalIn (d + 1) t (.bool a) (.bool b)).run P w = .ok (a == b) w := by
  simp [Op.equalIn, run_underlying hu]
theorem run_equal_bool {P : Program} {w : World} {t : TypeId} {a b : Bool} (hu : P.underlying t = some .bool) : (Op.equal t (.bool a) (.bool b)).run P w = .ok (a == b) w := run_equalIn_bool 9999 hu

theorem ok_booleq {op : BinOp} {xt yt : TypeId} {x y : Operand} {m n r : Bool} (hi : opIn k.nt (.binOp op xt x y yt) = true) (hx : evO s x = .d (.v (.bool m))) (hy : evO s y = .d (.v (.bool n)))
    (hu : E.P.underlying xt = some .bool) (h : (op = .eql ∧ r = (m == n)) ∨ (op = .neq ∧ r = !(m == n))) : OpOk E k (.binOp op xt x y yt) ty s { val := .d (.v (.bool r)) } := by
  refine .pure [] none fun hc c Im ρ F H a w o _ hn S ho _ hF _ => ?_
  have h1 := opIn_ev (x := x) S hn hi hF (by simp [Op.operands])
  have h2 := opIn_ev (x := y) S hn hi hF (by simp [Op.operands])
  rw [hx] at h1
  rw [hy] at h2
  have hq := run_equal_bool (w := w) (a := m) (b := n) hu
  refine ⟨.bool r, ?_, RA.intv _ rfl⟩
  rcases h with ⟨rfl, rfl⟩ | ⟨rfl, rfl⟩
  · simp [execOp, ho, h1.v, h2.v, eqGuard, binOp, hq]
  · simp [execOp, ho, h1.v, h2.v, eqGuard, binOp, hq]

end ops
end Go.Ax

/- Abstract execution, part F: memory: loads, stores, fields, elements, new variables, appends. -/
namespace Go.Ax

theorem add_zero_spot (b o j : Nat) : (⟨b, o, none⟩ : Addr).add j = ⟨b, o + j, none⟩ := by unfold Addr.add; split <;> simp_all

theorem run_isAgg {P : Program} {w : World} {t : TypeId} {i : TI} (h : tiOf P t = some i) : (isAgg t).run P w = .ok i.k.agg w := by
  obtain ⟨f, d, z, h1, h2, h3, rfl⟩ := tiOf_spec h
  unfold isAgg
  rw [Sem.run_bind, run_underlying h2 w]
  cases d <;> simp [kindOf, TK.agg]

theorem run_sizeOf {P : Program} {w : World} {t : TypeId} {i : TI} (h : tiOf P t = some i) : (sizeOf t).run P w = .ok i.size w := by
  obtain ⟨f, d, z, h1, h2, h3, rfl⟩ := tiOf_spec h
  simp [sizeOf, typeInfo, h1]

theorem run_loadVar_of {P : Program} {w : World} {t : TypeId} {i : TI} (hi : tiOf P t = some i) (h1 : i.k.agg = false → i.size = 1) (b off : Nat) (f : Nat → Value) (hc : ∀ j, j < i.size → w.cell? ⟨b, off + j, none⟩ = some (f j)) :
    (loadVar t ⟨b, off, none⟩).run P w = .ok (if i.k.agg then .agg ((List.range i.size).map f).toArray else f 0) w := by
  unfold loadVar
  rw [Sem.run_bind, run_isAgg hi]
  simp only [Result.andThen_ok]
  cases ha : i.k.agg with
  | true =>
    simp only [if_true, Sem.run_bind, run_sizeOf hi, Result.andThen_ok]
    rw [run_loadCells w ⟨b, off, none⟩ i.size f (fun j hj => by rw [add_zero_spot]; exact hc j hj)]
    simp
  | false =>
    have := hc 0 (by rw [h1 ha]; omega)
    simp only [Nat.add_zero] at this
    simp [this]

theorem cell_hp {w : World} {b j : Nat} {cs : Array Value} {t : TypeId} {fz : Nat × Nat} {v : Value} (h : hp w b = some (.cells cs t fz)) (hv : cs[j]? = some v) : w.cell? ⟨b, j, none⟩ = some v := by
  rw [cell_of_row w b j cs t fz h]; exact hv

/-! #### Reading -/
/-- A piece of the cells of data. -/
def cut (off n : Nat) (cs : List D) : List D := (cs.drop off).take n

theorem cut_get {off n j : Nat} {cs : List D} (hj : j < n) : (cut off n cs)[j]? = cs[off + j]? := by
  simp [cut, hj, List.getElem?_drop]
theorem cut_length {off n : Nat} {cs : List D} (h : off + n ≤ cs.length) : (cut off n cs).length = n := by simp [cut]; omega
theorem cut_all (cs : List D) : cut 0 cs.length cs = cs := by simp [cut]

/-- What a load of a type gives, of cells of data. -/
def loadD (i : TI) (esz : Nat) (cs : List D) (off : Nat) : AV := if i.k.agg then .dagg (cut off i.size cs) else .d (forceS i.k esz (cs.getD off (.v undef)))

theorem loadD_ok {P : Program} {w : World} {Im : Nat → Prop} {ρ : Nat → Option Loc} {t : TypeId} {i : TI} (hi : tiOf P t = some i) (h1 : i.k.agg = false → i.size = 1) {esz : Nat} {cs : List D} {off b o : Nat} (hl : off + i.size ≤ cs.length)
    (hk : i.k.agg = false → has i.k esz (cs.getD off (.v undef))) (hr : ∀ j x, off ≤ j → j < off + i.size → cs[j]? = some x → ∃ v, w.cell? ⟨b, o + j, none⟩ = some v ∧ RD (hp w) Im v x) :
    ∃ v, (loadVar t ⟨b, o + off, none⟩).run P w = .ok v w ∧ RA (hp w) Im ρ v (loadD i esz cs off) := by
  have hex : ∀ j, j < i.size → ∃ v, w.cell? ⟨b, o + off + j, none⟩ = some v ∧ RD (hp w) Im v (cs.getD (off + j) (.v undef)) := fun j hj => by
    obtain ⟨v, h2, h3⟩ := hr (off + j) (cs.getD (off + j) (.v undef)) (by omega) (by omega) (by simp [List.getD, List.getElem?_eq_getElem (show off + j < cs.length by omega)])
    exact ⟨v, by rw [Nat.add_assoc]; exact h2, h3⟩
  let f : Nat → Value := fun j => if h : j < i.size then Classical.choose (hex j h) else undef
  have hf : ∀ j, (h : j < i.size) → w.cell? ⟨b, o + off + j, none⟩ = some (f j) ∧ RD (hp w) Im (f j) (cs.getD (off + j) (.v undef)) := fun j h => by
    have := Classical.choose_spec (hex j h)
    simp only [f, h, dif_pos]; exact this
  refine ⟨_, run_loadVar_of hi h1 b (o + off) f (fun j hj => (hf j hj).1), ?_⟩
  unfold loadD
  cases ha : i.k.agg with
  | true =>
    simp only [if_true]
    refine .dagg _ _ (by simp [cut_length hl]) fun j v x hv hx => ?_
    have hj : j < i.size := by
      have := (List.getElem?_eq_some_iff.1 hx).1
      rwa [cut_length hl] at this
    have e1 : v = f j := by simpa [hj] using hv.symm
    have e2 : x = cs.getD (off + j) (.v undef) := by
      rw [cut_get hj] at hx
      simp [List.getD, hx]
    rw [e1, e2]; exact (hf j hj).2
  | false =>
    simp only [Bool.false_eq_true, if_false, forceS_eq]
    have := (hf 0 (by rw [h1 ha]; omega)).2
    exact .d _ _ (this.force (hk ha))

/-- What a load of a type gives, of a variable's cells. -/
def allD : List AV → Option (List D)
  | [] => some []
  | .d x :: r => match allD r with
    | some l => some (x :: l)
    | none => none
  | _ :: _ => none
def mkAgg (l : List AV) : AV := match allD l with
  | some l' => .dagg l'
  | none => .agg l
theorem allD_spec : ∀ {l : List AV} {l' : List D}, allD l = some l' → l = l'.map AV.d
  | [], l', h => by simp [allD] at h; subst h; rfl
  | x :: r, l', h => by
    cases x <;> simp only [allD] at h <;> try (cases h; done)
    cases hr : allD r with
    | none => simp [hr] at h
    | some l => simp [hr] at h; subst h; simp [allD_spec hr]
theorem RA.d_inv {h : Nat → Option Obj} {Im : Nat → Prop} {ρ : Nat → Option Loc} {v : Value} {x : D} (H : RA h Im ρ v (.d x)) : RD h Im v x := by cases H; assumption
theorem RA.mkAgg {h : Nat → Option Obj} {Im : Nat → Prop} {ρ : Nat → Option Loc} {cs : Array Value} {l : List AV} (H : RA h Im ρ (.agg cs) (.agg l)) : RA h Im ρ (.agg cs) (mkAgg l) := by
  unfold Ax.mkAgg
  split
  · rename_i l' he
    have := allD_spec he
    subst this
    cases H with
    | agg _ _ hl hr =>
      refine .dagg cs l' (by simpa using hl) fun i v x h1 h2 => (hr i v (.d x) h1 ?_).d_inv
      simp [h2]
  · exact H

def loadA (i : TI) (cs : List AV) (off : Nat) : AV := if i.k.agg then mkAgg ((cs.drop off).take i.size) else cs.getD off .junk

theorem loadA_ok {P : Program} {w : World} {Im : Nat → Prop} {ρ : Nat → Option Loc} {t : TypeId} {i : TI} (hi : tiOf P t = some i) (h1 : i.k.agg = false → i.size = 1) {cs : List AV} {off b : Nat} (hl : off + i.size ≤ cs.length)
    (hr : ∀ (j : Nat) (x : AV), cs[j]? = some x → ∃ v, w.cell? ⟨b, j, none⟩ = some v ∧ RA (hp w) Im ρ v x) : ∃ v, (loadVar t ⟨b, off, none⟩).run P w = .ok v w ∧ RA (hp w) Im ρ v (loadA i cs off) := by
  have hex : ∀ j, j < i.size → ∃ v, w.cell? ⟨b, off + j, none⟩ = some v ∧ RA (hp w) Im ρ v (cs.getD (off + j) .junk) := fun j hj =>
    hr (off + j) (cs.getD (off + j) .junk) (by simp [List.getD, List.getElem?_eq_getElem (show off + j < cs.length by omega)])
  let f : Nat → Value := fun j => if h : j < i.size then Classical.choose (hex j h) else undef
  have hf : ∀ j, (h : j < i.size) → w.cell? ⟨b, off + j, none⟩ = some (f j) ∧ RA (hp w) Im ρ (f j) (cs.getD (off + j) .junk) := fun j h => by
    have := Classical.choose_spec (hex j h)
    simp only [f, h, dif_pos]; exact this
  refine ⟨_, run_loadVar_of hi h1 b off f (fun j hj => (hf j hj).1), ?_⟩
  unfold loadA
  cases ha : i.k.agg with
  | true =>
    simp only [if_true]
    refine RA.mkAgg (.agg _ _ (by simp; omega) fun j v x hv hx => ?_)
    have hj : j < i.size := by
      have := (List.getElem?_eq_some_iff.1 hx).1
      simp at this; omega
    have e1 : v = f j := by simpa [hj] using hv.symm
    have e2 : x = cs.getD (off + j) .junk := by
      rw [List.getElem?_take, if_pos hj, List.getElem?_drop] at hx
      simp [List.getD, hx]
    rw [e1, e2]; exact (hf j hj).2
  | false =>
    simp only [Bool.false_eq_true, if_false]
    exact (hf 0 (by rw [h1 ha]; omega)).2

section ops
variable {E : Env} {k : Kn} {ty : TypeId} {s : St}

theorem exec_load {P : Program} {a : Act} {w : World} {o : Oper} {t : TypeId} {x : Operand} {ad : Addr} {v : Value} (ho : o.op = .load t x) (hx : a.eval x = .pointer (some ad)) (h : (loadVar t ad).run P w = .ok v w) :
    (execOp a.eval o).run P w = .ok (.value v) w := by simp [execOp, ho, hx, Instr.loadAt, Instr.sureAddr, h]

/-- A load out of immutable memory. -/
theorem ok_load_ep {t : TypeId} {x : Operand} {i : TI} {esz : Nat} {cs : List D} (hi : opIn k.nt (.load t x) = true) (ht : tiOf E.P t = some i) (h1 : i.k.agg = false → i.size = 1) (hx : evO s x = .ep cs) :
    OpPure E k (.load t x) ty s { val := loadD i esz cs 0, cond := [i.size ≤ cs.length, i.k.agg = false → has i.k esz (cs.getD 0 (.v undef))] } :=
  .mk' _ none fun hc c Im ρ F H a w o _ hn S ho _ hF _ => by
    have h2 := opIn_ev (x := x) S hn hi hF (by simp [Op.operands])
    rw [hx] at h2
    generalize hv : a.eval x = v at h2
    cases h2 with
    | ep b o' _ f hb hcs hr =>
      obtain ⟨v, g1, g2⟩ := loadD_ok (ρ := ρ) (w := w) (Im := Im) (b := b) (o := o') (cs := cs) (off := 0) (esz := esz) ht h1 (by have := hc.1; omega) hc.2.1 (fun j x _ _ hj => by
        obtain ⟨ms, t', fz, e1, e2⟩ := hcs j x hj
        exact ⟨f j, cell_hp e1 e2, hr j x hj⟩)
      exact ⟨v, exec_load ho hv (by simpa using g1), g2⟩

/-- Out of a variable of data. -/
theorem ok_load_dvar {t : TypeId} {x : Operand} {i : TI} {esz r off nn : Nat} {cs : List D} (hi : opIn k.nt (.load t x) = true) (ht : tiOf E.P t = some i) (h1 : i.k.agg = false → i.size = 1) (hx : evO s x = .ptr r off) :
    OpPure E k (.load t x) ty s { val := loadD i esz cs off, rh := some (r, .dvar nn cs), cond := [off + i.size ≤ cs.length, i.k.agg = false → has i.k esz (cs.getD off (.v undef))] } :=
  .mk' _ _ fun hc c Im ρ F H a w o _ hn S ho _ hF hH => by
    have h2 := opIn_ev (x := x) S hn hi hF (by simp [Op.operands])
    rw [hx] at h2
    generalize hv : a.eval x = v at h2
    cases h2 with
    | ptr _ _ _ _ hp =>
      obtain ⟨l, hl, hro, _⟩ := S.obj r _ (hH r _ rfl)
      obtain ⟨_, b, hb, rfl⟩ := hp l hl
      obtain ⟨_, _, hcl, b', ms, t', hb', hm, hsz, hcell⟩ := hro
      rw [hb] at hb'; injection hb' with hb'; subst hb'
      obtain ⟨v, g1, g2⟩ := loadD_ok (ρ := ρ) (w := w) (Im := Im) (b := b) (o := 0) (cs := cs) (off := off) (esz := esz) ht h1 hc.1 hc.2.1 (fun j x _ _ hj => by
        have hjl : j < ms.size := by rw [hsz, ← hcl]; exact (List.getElem?_eq_some_iff.1 hj).1
        exact ⟨ms[j], by rw [Nat.zero_add]; exact cell_hp hm (by simp [hjl]), hcell j ms[j] (by simp [hjl]) x hj⟩)
      exact ⟨v, exec_load ho hv (by simpa using g1), g2⟩

/-- Out of a variable. -/
theorem ok_load_var {t : TypeId} {x : Operand} {i : TI} {r off : Nat} {cs : List AV} (hi : opIn k.nt (.load t x) = true) (ht : tiOf E.P t = some i) (h1 : i.k.agg = false → i.size = 1) (hx : evO s x = .ptr r off) (hl : off + i.size ≤ cs.length) :
    OpPure E k (.load t x) ty s { val := loadA i cs off, rh := some (r, .var cs) } :=
  .mk' _ _ fun hc c Im ρ F H a w o _ hn S ho _ hF hH => by
    have h2 := opIn_ev (x := x) S hn hi hF (by simp [Op.operands])
    rw [hx] at h2
    generalize hv : a.eval x = v at h2
    cases h2 with
    | ptr _ _ _ _ hp =>
      obtain ⟨l, hl', hro, _⟩ := S.obj r _ (hH r _ rfl)
      obtain ⟨_, b, hb, rfl⟩ := hp l hl'
      obtain ⟨_, _, b', ms, t', hb', hm, hsz, hcell⟩ := hro
      rw [hb] at hb'; injection hb' with hb'; subst hb'
      obtain ⟨v, g1, g2⟩ := loadA_ok (ρ := ρ) (w := w) (Im := Im) (b := b) (cs := cs) (off := off) ht h1 hl (fun j x hj => by
        have hjl : j < ms.size := by rw [hsz]; exact (List.getElem?_eq_some_iff.1 hj).1
        exact ⟨ms[j], cell_hp hm (by simp [hjl]), (hcell j ms[j] (by simp [hjl]) x hj).1⟩)
      exact ⟨v, exec_load ho hv g1, g2⟩

/-- Out of an element of a buffer. -/
theorem ok_load_mptr {t : TypeId} {x : Operand} {i : TI} {esz r n q j0 sz : Nat} {el : TypeId} {els : List (List D)} (hi : opIn k.nt (.load t x) = true) (ht : tiOf E.P t = some i) (h1 : i.k.agg = false → i.size = 1) (hx : evO s x = .mptr r n q j0) :
    OpPure E k (.load t x) ty s { val := loadD i esz (els.getD q []) j0, rh := some (r, .buf sz el els), cond := [n = els.length, q < els.length, j0 + i.size ≤ (els.getD q []).length, i.k.agg = false → has i.k esz ((els.getD q []).getD j0 (.v undef))] } :=
  .mk' _ _ fun hc c Im ρ F H a w o _ hn S ho _ hF hH => by
    have h2 := opIn_ev (x := x) S hn hi hF (by simp [Op.operands])
    rw [hx] at h2
    generalize hv : a.eval x = v at h2
    obtain ⟨c1, c2, c3, c4, _⟩ := hc
    cases h2 with
    | mptr _ _ _ _ _ _ hp =>
      obtain ⟨l, hl', hro, _⟩ := S.obj r _ (hH r _ rfl)
      obtain ⟨_, _, hsz, hlen, _, hown⟩ := hro
      obtain ⟨b, hb, rfl⟩ := (hp l hl').2 (by omega)
      rcases hown with ⟨h0, _⟩ | ⟨b', ms, hb', hm, _, _, _, hcell⟩
      · rw [hb] at h0; exact absurd h0 (by simp)
      · rw [hb] at hb'; injection hb' with hb'; subst hb'
        have hel : els[q]? = some (els.getD q []) := by simp [List.getD, List.getElem?_eq_getElem c2]
        obtain ⟨v, g1, g2⟩ := loadD_ok (ρ := ρ) (w := w) (Im := Im) (b := b) (o := q * sz) (cs := els.getD q []) (off := j0) (esz := esz) ht h1 c3 c4 (fun j x _ _ hj => by
          obtain ⟨v, e1, e2⟩ := hcell q j _ x hel hj
          exact ⟨v, cell_hp hm e1, e2⟩)
        exact ⟨v, exec_load ho hv (by rw [hsz]; exact g1), g2⟩

/-! #### Addresses -/
theorem ok_nilCheck_ptr {x : Operand} {r off : Nat} {ob : AObj} (hi : opIn k.nt (.nilCheck x) = true) (hx : evO s x = .ptr r off) : OpOk E k (.nilCheck x) ty s { val := .ptr r off, rh := some (r, ob) } :=
  .pure [] _ fun _ c Im ρ F H a w o _ hn S ho _ hF hH => by
    have h2 := opIn_ev (x := x) S hn hi hF (by simp [Op.operands])
    rw [hx] at h2
    refine ⟨a.eval x, ?_, h2⟩
    generalize hv : a.eval x = v at h2 ⊢
    cases h2 with
    | ptr _ _ _ _ hp =>
      obtain ⟨l, hl', _⟩ := S.obj r _ (hH r _ rfl)
      obtain ⟨_, b, _, rfl⟩ := hp l hl'
      simp [execOp, ho, hv]
theorem ok_nilCheck_ep {x : Operand} {cs : List D} (hi : opIn k.nt (.nilCheck x) = true) (hx : evO s x = .ep cs) : OpOk E k (.nilCheck x) ty s { val := .ep cs } :=
  .pure [] none fun _ c Im ρ F H a w o _ hn S ho _ hF hH => by
    have h2 := opIn_ev (x := x) S hn hi hF (by simp [Op.operands])
    rw [hx] at h2
    refine ⟨a.eval x, ?_, h2⟩
    generalize hv : a.eval x = v at h2 ⊢
    cases h2 with
    | ep b o' _ f hb hcs hr => simp [execOp, ho, hv]
theorem ok_nilCheck_clo {x : Operand} {f : FuncId} {fs cs : List AV} (hi : opIn k.nt (.nilCheck x) = true) (hx : evO s x = .clo (.func f) fs cs) : OpOk E k (.nilCheck x) ty s { val := .clo (.func f) fs cs } :=
  .pure [] none fun _ c Im ρ F H a w o _ hn S ho _ hF hH => by
    have h2 := opIn_ev (x := x) S hn hi hF (by simp [Op.operands])
    rw [hx] at h2
    refine ⟨a.eval x, ?_, h2⟩
    generalize hv : a.eval x = v at h2 ⊢
    cases h2 with
    | clo => simp [execOp, ho, hv]

theorem ep_drop {h : Nat → Option Obj} {Im : Nat → Prop} {ρ : Nat → Option Loc} {b o n : Nat} {cs : List D} {v : Value} (hv : v = .pointer (some ⟨b, o, none⟩)) (H : RA h Im ρ v (.ep cs)) : RA h Im ρ (.pointer (some ⟨b, o + n, none⟩)) (.ep (cs.drop n)) := by
  subst hv
  cases H with
  | ep _ _ _ f hb hcs hr =>
    refine .ep b (o + n) _ (fun j => f (n + j)) hb (fun j x hj => ?_) (fun j x hj => ?_)
    · rw [List.getElem?_drop] at hj
      obtain ⟨ms, t, fz, e1, e2⟩ := hcs _ x hj
      exact ⟨ms, t, fz, e1, by rw [Nat.add_assoc]; exact e2⟩
    · rw [List.getElem?_drop] at hj
      exact hr _ x hj

/-- Where a field lies. -/
def fieldOff (i : TI) (f : Nat) : Option (Nat × TypeId) := match i.k with
  | .struct fs => fs[f]?
  | _ => none

theorem run_fieldAt {P : Program} {w : World} {t : TypeId} {i : TI} {f off : Nat} {ft : TypeId} {fi : TI} (hi : tiOf P t = some i) (hf : fieldOff i f = some (off, ft)) (hfi : tiOf P ft = some fi) (hs : fi.size ≠ 0) (ad : Addr) :
    (Instr.fieldAt t (.pointer (some ad)) f).run P w = .ok (.pointer (some (ad.add off))) w := by
  obtain ⟨inf, d, z, h1, h2, h3, rfl⟩ := tiOf_spec hi
  cases d <;> simp only [kindOf, fieldOff] at hf <;> try (cases hf; done)
  rename_i fs
  simp only [List.getElem?_map, Option.map_eq_some_iff] at hf
  obtain ⟨fd, hfd, he⟩ := hf
  simp only [Prod.mk.injEq] at he
  obtain ⟨rfl, rfl⟩ := he
  have hfd' : fs[f]? = some fd := by simpa using hfd
  simp [Instr.fieldAt, run_underlying h2, hfd', Instr.sureAddr, fieldPlace, run_sizeOf hfi, hs]

theorem ok_fieldAddr_ptr {t : TypeId} {x : Operand} {i fi : TI} {f off r q : Nat} {ft : TypeId} {ob : AObj} (hi : opIn k.nt (.fieldAddr t x f) = true) (ht : tiOf E.P t = some i) (hf : fieldOff i f = some (off, ft)) (hfi : tiOf E.P ft = some fi) (hs : fi.size ≠ 0)
    (hx : evO s x = .ptr r q) : OpOk E k (.fieldAddr t x f) ty s { val := .ptr r (q + off), rh := some (r, ob) } :=
  .pure [] _ fun _ c Im ρ F H a w o _ hn S ho _ hF hH => by
    have h2 := opIn_ev (x := x) S hn hi hF (by simp [Op.operands])
    rw [hx] at h2
    generalize hv : a.eval x = v at h2
    cases h2 with
    | ptr _ _ _ _ hp =>
      obtain ⟨l, hl', _⟩ := S.obj r _ (hH r _ rfl)
      obtain ⟨h5, b, h6, rfl⟩ := hp l hl'
      refine ⟨.pointer (some ⟨b, q + off, none⟩), ?_, .ptr _ _ _ rfl fun l1 hl1 => ?_⟩
      · simp [execOp, ho, hv, run_fieldAt ht hf hfi hs, add_zero_spot]
      · rw [hl'] at hl1; injection hl1 with hl1; subst hl1
        exact ⟨h5, b, h6, rfl⟩
theorem ok_fieldAddr_ep {t : TypeId} {x : Operand} {i fi : TI} {f off : Nat} {ft : TypeId} {cs : List D} (hi : opIn k.nt (.fieldAddr t x f) = true) (ht : tiOf E.P t = some i) (hf : fieldOff i f = some (off, ft)) (hfi : tiOf E.P ft = some fi) (hs : fi.size ≠ 0)
    (hx : evO s x = .ep cs) : OpOk E k (.fieldAddr t x f) ty s { val := .ep (cs.drop off) } :=
  .pure [] none fun _ c Im ρ F H a w o _ hn S ho _ hF hH => by
    have h2 := opIn_ev (x := x) S hn hi hF (by simp [Op.operands])
    rw [hx] at h2
    generalize hv : a.eval x = v at h2
    cases h2 with
    | ep b o' _ g hb hcs hr =>
      exact ⟨.pointer (some ⟨b, o' + off, none⟩), by simp [execOp, ho, hv, run_fieldAt ht hf hfi hs, add_zero_spot], ep_drop rfl (.ep b o' cs g hb hcs hr)⟩
theorem ok_fieldAddr_mptr {t : TypeId} {x : Operand} {i fi : TI} {f off r n q j sz : Nat} {ft el : TypeId} {els : List (List D)} (hi : opIn k.nt (.fieldAddr t x f) = true) (ht : tiOf E.P t = some i) (hf : fieldOff i f = some (off, ft)) (hfi : tiOf E.P ft = some fi) (hs : fi.size ≠ 0)
    (hx : evO s x = .mptr r n q j) : OpOk E k (.fieldAddr t x f) ty s { val := .mptr r n q (j + off), rh := some (r, .buf sz el els), cond := [n = els.length] } :=
  .pure _ _ fun hc c Im ρ F H a w o _ hn S ho _ hF hH => by
    have h2 := opIn_ev (x := x) S hn hi hF (by simp [Op.operands])
    rw [hx] at h2
    generalize hv : a.eval x = v at h2
    cases h2 with
    | mptr _ _ _ _ _ _ hp =>
      obtain ⟨l, hl', hro, _⟩ := S.obj r _ (hH r _ rfl)
      have hlen := hro.2.2.2.1
      obtain ⟨b, h6, rfl⟩ := (hp l hl').2 (by have := hc.1; omega)
      refine ⟨.pointer (some ⟨b, q * l.sz + (j + off), none⟩), ?_, .mptr _ _ _ _ _ rfl fun l1 hl1 => ?_⟩
      · simp [execOp, ho, hv, run_fieldAt ht hf hfi hs, add_zero_spot, Nat.add_assoc]
      · rw [hl'] at hl1; injection hl1 with hl1; subst hl1
        exact ⟨(hp l hl').1, fun _ => ⟨b, h6, rfl⟩⟩

end ops
end Go.Ax

/- Abstract execution, part G: elements, lengths, pieces, new variables, stores, appends. -/
namespace Go.Ax

/-! #### Lists side by side -/
def Rel2 {α : Type} (R : Value → α → Prop) (ms : List Value) (cs : List α) : Prop := ms.length = cs.length ∧ ∀ (i : Nat) (v : Value) (x : α), ms[i]? = some v → cs[i]? = some x → R v x
theorem Rel2.nil {α : Type} {R : Value → α → Prop} : Rel2 R [] [] := ⟨rfl, by simp⟩
theorem Rel2.append {α : Type} {R : Value → α → Prop} {a b : List Value} {c d : List α} (h : Rel2 R a c) (k : Rel2 R b d) : Rel2 R (a ++ b) (c ++ d) := by
  refine ⟨by simp [h.1, k.1], fun i v x hv hx => ?_⟩
  by_cases hi : i < a.length
  · rw [List.getElem?_append_left hi] at hv
    rw [List.getElem?_append_left (by rw [← h.1]; exact hi)] at hx
    exact h.2 i v x hv hx
  · rw [List.getElem?_append_right (by omega)] at hv
    rw [List.getElem?_append_right (by rw [← h.1]; omega), ← h.1] at hx
    exact k.2 _ v x hv hx
theorem Rel2.take {α : Type} {R : Value → α → Prop} {a : List Value} {c : List α} (n : Nat) (h : Rel2 R a c) : Rel2 R (a.take n) (c.take n) := by
  refine ⟨by simp [h.1], fun i v x hv hx => ?_⟩
  rw [List.getElem?_take] at hv hx
  split at hv
  · rename_i hi; rw [if_pos hi] at hx; exact h.2 i v x hv hx
  · simp at hv
theorem Rel2.drop {α : Type} {R : Value → α → Prop} {a : List Value} {c : List α} (n : Nat) (h : Rel2 R a c) : Rel2 R (a.drop n) (c.drop n) := by
  refine ⟨by simp [h.1], fun i v x hv hx => ?_⟩
  rw [List.getElem?_drop] at hv hx
  exact h.2 _ v x hv hx
theorem Rel2.imp {α : Type} {R R' : Value → α → Prop} {a : List Value} {c : List α} (h : Rel2 R a c) (hR : ∀ v x, R v x → R' v x) : Rel2 R' a c := ⟨h.1, fun i v x h1 h2 => hR v x (h.2 i v x h1 h2)⟩
def splice {α : Type} (cs l : List α) (off : Nat) : List α := cs.take off ++ l ++ cs.drop (off + l.length)
theorem Rel2.splice {α : Type} {R : Value → α → Prop} {a b : List Value} {c d : List α} (h : Rel2 R a c) (k : Rel2 R b d) (off : Nat) : Rel2 R (a.take off ++ b ++ a.drop (off + b.length)) (splice c d off) := by
  unfold Ax.splice
  rw [← k.1]
  exact ((h.take off).append k).append (h.drop _)
theorem Rel2.single {α : Type} {R : Value → α → Prop} {v : Value} {x : α} (h : R v x) : Rel2 R [v] [x] := by
  refine ⟨rfl, fun i u y h1 h2 => ?_⟩
  cases i with
  | zero => simp at h1 h2; subst h1; subst h2; exact h
  | succ i => simp at h1
theorem Rel2.map {α β : Type} {R : Value → α → Prop} {R' : Value → β → Prop} {f : α → β} {a : List Value} {c : List α} (h : Rel2 R a c) (hf : ∀ v x, R v x → R' v (f x)) : Rel2 R' a (c.map f) := by
  refine ⟨by simp [h.1], fun i v y h1 h2 => ?_⟩
  simp only [List.getElem?_map, Option.map_eq_some_iff] at h2
  obtain ⟨x, hx, rfl⟩ := h2
  exact hf v x (h.2 i v x h1 hx)

/-- The cells that a value is, as an abstract value has them. -/
def AV.cells : AV → List AV
  | .agg cs => cs
  | .dagg cs => cs.map .d
  | x => [x]

section ops
variable {E : Env} {k : Kn} {ty : TypeId} {s : St}

/-! #### Elements -/
theorem run_indexAt_slice {P : Program} {w : World} {t e : TypeId} {i ei : TI} (hi : tiOf P t = some i) (hk : i.k = .slice e) (he : tiOf P e = some ei) {ad : Addr} {len cap : Nat} {ik : IntKind} {j : Int} (h0 : 0 ≤ j) (h1 : j < len) :
    (Instr.indexAt t (.slice (some ad) len cap) (.int ik j)).run P w = .ok (.pointer (some (ad.add (j.toNat * ei.size)))) w := by
  obtain ⟨inf, d, z, g1, g2, g3, rfl⟩ := tiOf_spec hi
  cases d <;> simp only [kindOf] at hk <;> cases hk
  simp [Instr.indexAt, asIntOf, run_underlying g2, h0, h1, run_sizeOf he]

theorem run_indexAt_array {P : Program} {w : World} {t e : TypeId} {n : Nat} {i ei : TI} (hi : tiOf P t = some i) (hk : i.k = .array n e) (he : tiOf P e = some ei) {ad : Addr} {ik : IntKind} {j : Int} (h0 : 0 ≤ j) (h1 : j < n) :
    (Instr.indexAt t (.pointer (some ad)) (.int ik j)).run P w = .ok (.pointer (some (ad.add (j.toNat * ei.size)))) w := by
  obtain ⟨inf, d, z, g1, g2, g3, rfl⟩ := tiOf_spec hi
  cases d <;> simp only [kindOf] at hk <;> cases hk
  simp [Instr.indexAt, asIntOf, run_underlying g2, h0, h1, run_sizeOf he, Instr.sureAddr]

theorem RD.elem {h : Nat → Option Obj} {Im : Nat → Prop} {ρ : Nat → Option Loc} {v : Value} {tight : Bool} {sz : Nat} {els : List (List D)} (H : RD h Im v (.sl tight sz els)) {q : Nat} (hq : q < els.length) :
    ∃ b o cap, v = .slice (some ⟨b, o, none⟩) els.length cap ∧ RA h Im ρ (.pointer (some ⟨b, o + q * sz, none⟩)) (.ep (els.getD q [])) := by
  cases H with
  | nil => simp at hq
  | sl _ _ _ b o cap f hs hb hle ht hc hr =>
    have hel : els[q]? = some (els.getD q []) := by simp [List.getD, List.getElem?_eq_getElem hq]
    refine ⟨b, o, cap, rfl, .ep b _ _ (f q) hb (fun j x hj => ?_) fun j x hj => hr q j _ x hel hj⟩
    obtain ⟨ms, t, fz, e1, e2⟩ := hc q j _ x hel hj
    exact ⟨ms, t, fz, e1, by rw [Nat.add_assoc]; exact e2⟩

theorem ok_indexAddr_sl {t e : TypeId} {x ix : Operand} {i ei : TI} {tight : Bool} {sz : Nat} {els : List (List D)} {ik : IntKind} {j : Int} (hi : opIn k.nt (.indexAddr t x ix) = true) (ht : tiOf E.P t = some i) (hk : i.k = .slice e) (he : tiOf E.P e = some ei) (hsz : ei.size = sz)
    (hx : evO s x = .d (.sl tight sz els)) (hj : evO s ix = .d (.v (.int ik j))) : OpOk E k (.indexAddr t x ix) ty s { val := .ep (els.getD j.toNat []), cond := [0 ≤ j, j < els.length] } :=
  .pure _ none fun hc c Im ρ F H a w o _ hn S ho _ hF _ => by
    have h2 := opIn_ev (x := x) S hn hi hF (by simp [Op.operands])
    have h3 := opIn_ev (x := ix) S hn hi hF (by simp [Op.operands])
    rw [hx] at h2
    rw [hj] at h3
    obtain ⟨c1, c2, _⟩ := hc
    obtain ⟨b, o', cap, hv, hr⟩ := (h2.d_inv).elem (ρ := ρ) (q := j.toNat) (by omega)
    refine ⟨_, ?_, hr⟩
    simp [execOp, ho, hv, h3.v, run_indexAt_slice ht hk he c1 c2, add_zero_spot, hsz]

theorem ok_indexAddr_msl {t e : TypeId} {x ix : Operand} {i ei : TI} {r n off len sz : Nat} {el : TypeId} {els : List (List D)} {ik : IntKind} {j : Int} (hi : opIn k.nt (.indexAddr t x ix) = true) (ht : tiOf E.P t = some i) (hk : i.k = .slice e) (he : tiOf E.P e = some ei) (hsz : ei.size = sz)
    (hx : evO s x = .msl r n off len) (hj : evO s ix = .d (.v (.int ik j))) : OpOk E k (.indexAddr t x ix) ty s { val := .mptr r n (off + j.toNat) 0, rh := some (r, .buf sz el els), cond := [n = els.length, off + len ≤ n, 0 ≤ j, j < len] } :=
  .pure _ _ fun hc c Im ρ F H a w o _ hn S ho _ hF hH => by
    have h2 := opIn_ev (x := x) S hn hi hF (by simp [Op.operands])
    have h3 := opIn_ev (x := ix) S hn hi hF (by simp [Op.operands])
    rw [hx] at h2
    rw [hj] at h3
    obtain ⟨c1, c2, c3, c4, _⟩ := hc
    generalize hv : a.eval x = v at h2
    cases h2 with
    | msl _ _ _ _ _ _ hp =>
      obtain ⟨l, hl', hro, _⟩ := S.obj r _ (hH r _ rfl)
      obtain ⟨_, _, hlsz, hlen, _, hown⟩ := hro
      have hval := (hp l hl').2 (by omega)
      rcases hown with ⟨_, h0, _⟩ | ⟨b, ms, hb, hm, hle, _, _, hcell⟩
      · rw [h0] at c1; simp at c1; omega
      · have hcap : ¬ l.cap = off := by omega
        have hadd : l.addr.map (·.add (off * l.sz)) = some (⟨b, off * sz, none⟩ : Addr) := by simp [Loc.addr, hb, add_zero_spot, hlsz]
        rw [Loc.sub, if_neg hcap, hadd] at hval
        refine ⟨.pointer (some ⟨b, (off + j.toNat) * sz, none⟩), ?_, .mptr _ _ _ _ _ rfl fun l1 hl1 => ?_⟩
        · simp [execOp, ho, hv, hval, h3.v, run_indexAt_slice ht hk he c3 c4, add_zero_spot, hsz, Nat.add_mul]
        · rw [hl'] at hl1; injection hl1 with hl1; subst hl1
          exact ⟨(hp l hl').1, fun _ => ⟨b, hb, by rw [hlsz, Nat.add_zero]⟩⟩

theorem ok_indexAddr_arr {t e : TypeId} {x ix : Operand} {i ei : TI} {r off n : Nat} {ob : AObj} {ik : IntKind} {j : Int} (hi : opIn k.nt (.indexAddr t x ix) = true) (ht : tiOf E.P t = some i) (hk : i.k = .array n e) (he : tiOf E.P e = some ei)
    (hx : evO s x = .ptr r off) (hj : evO s ix = .d (.v (.int ik j))) : OpOk E k (.indexAddr t x ix) ty s { val := .ptr r (off + j.toNat * ei.size), rh := some (r, ob), cond := [0 ≤ j, j < n] } :=
  .pure _ _ fun hc c Im ρ F H a w o _ hn S ho _ hF hH => by
    have h2 := opIn_ev (x := x) S hn hi hF (by simp [Op.operands])
    have h3 := opIn_ev (x := ix) S hn hi hF (by simp [Op.operands])
    rw [hx] at h2
    rw [hj] at h3
    generalize hv : a.eval x = v at h2
    cases h2 with
    | ptr _ _ _ _ hp =>
      obtain ⟨l, hl', _⟩ := S.obj r _ (hH r _ rfl)
      obtain ⟨h5, b, h6, rfl⟩ := hp l hl'
      refine ⟨.pointer (some ⟨b, off + j.toNat * ei.size, none⟩), ?_, .ptr _ _ _ rfl fun l1 hl1 => ?_⟩
      · simp [execOp, ho, hv, h3.v, run_indexAt_array ht hk he hc.1 hc.2.1, add_zero_spot]
      · rw [hl'] at hl1; injection hl1 with hl1; subst hl1
        exact ⟨h5, b, h6, rfl⟩

theorem ok_indexAddr_ep {t e : TypeId} {x ix : Operand} {i ei : TI} {n : Nat} {cs : List D} {ik : IntKind} {j : Int} (hi : opIn k.nt (.indexAddr t x ix) = true) (ht : tiOf E.P t = some i) (hk : i.k = .array n e) (he : tiOf E.P e = some ei)
    (hx : evO s x = .ep cs) (hj : evO s ix = .d (.v (.int ik j))) : OpOk E k (.indexAddr t x ix) ty s { val := .ep (cs.drop (j.toNat * ei.size)), cond := [0 ≤ j, j < n] } :=
  .pure _ none fun hc c Im ρ F H a w o _ hn S ho _ hF _ => by
    have h2 := opIn_ev (x := x) S hn hi hF (by simp [Op.operands])
    have h3 := opIn_ev (x := ix) S hn hi hF (by simp [Op.operands])
    rw [hx] at h2
    rw [hj] at h3
    generalize hv : a.eval x = v at h2
    cases h2 with
    | ep b o' _ g hb hcs hr =>
      exact ⟨.pointer (some ⟨b, o' + j.toNat * ei.size, none⟩), by simp [execOp, ho, hv, h3.v, run_indexAt_array ht hk he hc.1 hc.2.1, add_zero_spot], ep_drop rfl (.ep b o' cs g hb hcs hr)⟩

/-- A byte of a text. -/
def byteAt (m : ByteArray) (j : Int) : Int := if h : j.toNat < m.size then ((m[j.toNat]'h).toNat : Int) else 0
theorem ok_index_str {t : TypeId} {x ix : Operand} {i : TI} {m : ByteArray} {ik : IntKind} {j : Int} (hi : opIn k.nt (.index t x ix) = true) (ht : tiOf E.P t = some i) (hk : i.k = .str)
    (hx : evO s x = .d (.v (.string m))) (hj : evO s ix = .d (.v (.int ik j))) : OpOk E k (.index t x ix) ty s { val := .d (.v (.int .u8 (byteAt m j))), cond := [0 ≤ j, j < m.size] } :=
  .pure _ none fun hc c Im ρ F H a w o _ hn S ho _ hF _ => by
    have h2 := opIn_ev (x := x) S hn hi hF (by simp [Op.operands])
    have h3 := opIn_ev (x := ix) S hn hi hF (by simp [Op.operands])
    rw [hx] at h2
    rw [hj] at h3
    obtain ⟨inf, d, z, g1, g2, g3, rfl⟩ := tiOf_spec ht
    cases d <;> simp only [kindOf] at hk <;> cases hk
    obtain ⟨c1, c2, _⟩ := hc
    have hlt : j.toNat < m.size := by omega
    refine ⟨.int .u8 (byteAt m j), ?_, RA.intv _ rfl⟩
    simp [execOp, ho, h2.v, h3.v, Instr.index, asIntOf, run_underlying g2, c1, byteAt, hlt]

/-! #### Parts of values -/
theorem run_part {P : Program} {w : World} {t : TypeId} {i : TI} (hi : tiOf P t = some i) (h1 : i.k.agg = false → i.size = 1) {cs : Array Value} {off : Nat} (hl : off + i.size ≤ cs.size) :
    (part t cs off).run P w = .ok (if i.k.agg then .agg (cs.extract off (off + i.size)) else cs.getD off undef) w := by
  unfold part
  rw [Sem.run_bind, run_isAgg hi]
  simp only [Result.andThen_ok]
  cases ha : i.k.agg with
  | true => simp [run_sizeOf hi]
  | false =>
    have h2 := h1 ha
    have : off < cs.size := by omega
    simp [this]

theorem ok_field_dagg {t : TypeId} {x : Operand} {i fi : TI} {f off esz : Nat} {ft : TypeId} {cs : List D} (hi : opIn k.nt (.field t x f) = true) (ht : tiOf E.P t = some i) (hf : fieldOff i f = some (off, ft)) (hfi : tiOf E.P ft = some fi) (h1 : fi.k.agg = false → fi.size = 1)
    (hx : evO s x = .dagg cs) : OpOk E k (.field t x f) ty s { val := loadD fi esz cs off, cond := [off + fi.size ≤ cs.length, fi.k.agg = false → has fi.k esz (cs.getD off (.v undef))] } :=
  .pure _ none fun hc c Im ρ F H a w o _ hn S ho _ hF _ => by
    have h2 := opIn_ev (x := x) S hn hi hF (by simp [Op.operands])
    rw [hx] at h2
    generalize hv : a.eval x = v at h2
    obtain ⟨c1, c2, _⟩ := hc
    cases h2 with
    | dagg ms _ hl hr =>
      have hp := run_part (w := w) hfi h1 (cs := ms) (off := off) (by omega)
      refine ⟨if fi.k.agg then .agg (ms.extract off (off + fi.size)) else ms.getD off undef, ?_, ?_⟩
      · obtain ⟨inf, d, z, h3, h4, h5, rfl⟩ := tiOf_spec ht
        cases d <;> simp only [kindOf, fieldOff] at hf <;> try (cases hf; done)
        rename_i fs
        simp only [List.getElem?_map, Option.map_eq_some_iff] at hf
        obtain ⟨fd, hfd, he⟩ := hf
        simp only [Prod.mk.injEq] at he
        obtain ⟨rfl, rfl⟩ := he
        have hfd' : fs[f]? = some fd := by simpa using hfd
        simp [execOp, ho, hv, Instr.field, run_underlying h4, hfd', asAgg, hp]
      · unfold loadD
        cases ha : fi.k.agg with
        | true =>
          simp only [if_true]
          refine .dagg _ _ (by rw [cut_length c1]; simp; omega) fun j v x hv' hx' => ?_
          have hj : j < fi.size := by
            have := (List.getElem?_eq_some_iff.1 hx').1
            rwa [cut_length c1] at this
          rw [cut_get hj] at hx'
          refine hr (off + j) v x ?_ hx'
          have hms : off + j < ms.size := by omega
          have : (ms.extract off (off + fi.size))[j]? = ms[off + j]? := by
            rw [Array.getElem?_extract]
            simp; omega
          rw [this] at hv'; exact hv'
        | false =>
          have hlt : off < cs.length := by have := h1 ha; omega
          have hlm : off < ms.size := by omega
          simp only [Bool.false_eq_true, if_false, forceS_eq]
          refine .d _ _ (RD.force (c2 ha) (hr off _ _ ?_ ?_))
          · simp [Array.getD, hlm]
          · simp [List.getD, List.getElem?_eq_getElem hlt]

theorem ok_extract {x : Operand} {j : Nat} {vs : List AV} {y : AV} (hi : opIn k.nt (.extract x j) = true) (hx : evO s x = .tup vs) (hy : vs[j]? = some y) : OpOk E k (.extract x j) ty s { val := y } :=
  .pure [] none fun _ c Im ρ F H a w o _ hn S ho _ hF _ => by
    have h2 := opIn_ev (x := x) S hn hi hF (by simp [Op.operands])
    rw [hx] at h2
    generalize hv : a.eval x = v at h2
    cases h2 with
    | tup ms _ hl hr =>
      have hj : j < ms.size := by rw [hl]; exact (List.getElem?_eq_some_iff.1 hy).1
      have hm : ms[j]? = some ms[j] := by simp [hj]
      exact ⟨ms[j], by simp [execOp, ho, hv, Instr.extract, hm], hr j _ y hm hy⟩

/-! #### Lengths -/
def lenCall (x : Operand) (t : TypeId) : Op := .call { callee := .builtin .len, args := #[x], argTypes := #[t] }
theorem exec_len {P : Program} {a : Act} {w : World} {o : Oper} {t : TypeId} {x : Operand} {n : Int} (ho : o.op = lenCall x t) (h : (Builtin.len_ #[t] o.type #[a.eval x]).run P w = .ok (.int .i64 n) w) : (execOp a.eval o).run P w = .ok (.value (.int .i64 n)) w := by
  simp [execOp, ho, lenCall, resolve, invoke, builtin, h]
theorem ok_len_str {x : Operand} {t : TypeId} {i : TI} {m : ByteArray} (hi : opIn k.nt (lenCall x t) = true) (ht : tiOf E.P t = some i) (hk : i.k = .str) (hx : evO s x = .d (.v (.string m))) : OpOk E k (lenCall x t) ty s { val := .d (.v (.int .i64 m.size)) } :=
  .pure [] none fun _ c Im ρ F H a w o _ hn S ho hty hF _ => by
    have h2 := opIn_ev (x := x) S hn hi hF (by simp [Op.operands, lenCall, Call.operands])
    rw [hx] at h2
    obtain ⟨inf, d, z, g1, g2, g3, rfl⟩ := tiOf_spec ht
    cases d <;> simp only [kindOf] at hk <;> cases hk
    exact ⟨_, exec_len ho (by simp [Builtin.len_, h2.v, run_underlying g2, goInt]), RA.intv _ rfl⟩
theorem RD.slice {h : Nat → Option Obj} {Im : Nat → Prop} {v : Value} {tight : Bool} {sz : Nat} {els : List (List D)} (H : RD h Im v (.sl tight sz els)) : ∃ a cap, v = .slice a els.length cap := by
  cases H with
  | nil _ _ a cap _ => exact ⟨a, cap, rfl⟩
  | sl _ _ _ b o cap => exact ⟨_, cap, rfl⟩
theorem ok_len_sl {x : Operand} {t e : TypeId} {i : TI} {tight : Bool} {sz : Nat} {els : List (List D)} (hi : opIn k.nt (lenCall x t) = true) (ht : tiOf E.P t = some i) (hk : i.k = .slice e) (hx : evO s x = .d (.sl tight sz els)) : OpOk E k (lenCall x t) ty s { val := .d (.v (.int .i64 els.length)) } :=
  .pure [] none fun _ c Im ρ F H a w o _ hn S ho hty hF _ => by
    have h2 := opIn_ev (x := x) S hn hi hF (by simp [Op.operands, lenCall, Call.operands])
    rw [hx] at h2
    obtain ⟨inf, d, z, g1, g2, g3, rfl⟩ := tiOf_spec ht
    cases d <;> simp only [kindOf] at hk <;> cases hk
    obtain ⟨ad, cap, hv⟩ := (h2.d_inv).slice
    exact ⟨_, exec_len ho (by simp [Builtin.len_, hv, run_underlying g2, goInt]), RA.intv _ rfl⟩
theorem ok_len_nil {x : Operand} {t e : TypeId} {i : TI} {ad : Option Addr} {n c0 : Nat} (hi : opIn k.nt (lenCall x t) = true) (ht : tiOf E.P t = some i) (hk : i.k = .slice e) (hx : evO s x = .d (.v (.slice ad n c0))) : OpOk E k (lenCall x t) ty s { val := .d (.v (.int .i64 n)) } :=
  .pure [] none fun _ c Im ρ F H a w o _ hn S ho hty hF _ => by
    have h2 := opIn_ev (x := x) S hn hi hF (by simp [Op.operands, lenCall, Call.operands])
    rw [hx] at h2
    obtain ⟨inf, d, z, g1, g2, g3, rfl⟩ := tiOf_spec ht
    cases d <;> simp only [kindOf] at hk <;> cases hk
    exact ⟨_, exec_len ho (by simp [Builtin.len_, h2.v, run_underlying g2, goInt]), RA.intv _ rfl⟩
theorem ok_len_msl {x : Operand} {t e el : TypeId} {i : TI} {r n off len sz : Nat} {els : List (List D)} (hi : opIn k.nt (lenCall x t) = true) (ht : tiOf E.P t = some i) (hk : i.k = .slice e) (hx : evO s x = .msl r n off len) :
    OpOk E k (lenCall x t) ty s { val := .d (.v (.int .i64 len)), rh := some (r, .buf sz el els), cond := [n = els.length] } :=
  .pure _ _ fun hc c Im ρ F H a w o _ hn S ho hty hF hH => by
    have h2 := opIn_ev (x := x) S hn hi hF (by simp [Op.operands, lenCall, Call.operands])
    rw [hx] at h2
    obtain ⟨inf, d, z, g1, g2, g3, rfl⟩ := tiOf_spec ht
    cases d <;> simp only [kindOf] at hk <;> cases hk
    generalize hv : a.eval x = v at h2
    cases h2 with
    | msl _ _ _ _ _ _ hp =>
      obtain ⟨l, hl', hro, _⟩ := S.obj r _ (hH r _ rfl)
      have hval := (hp l hl').2 (by have := hro.2.2.2.1; have := hc.1; omega)
      exact ⟨_, exec_len ho (by simp [Builtin.len_, hv, hval, Loc.sub, run_underlying g2, goInt]), RA.intv _ rfl⟩

/-! #### New variables -/
theorem ok_alloc {t : TypeId} {i : TI} {d : Nat} (ht : tiOf E.P t = some i) (h1 : i.zero.all (·.oneCell') = true) : OpOk E k (.alloc t) ty s { val := .ptr d 0, wh := some (d, some (.dvar i.zero.length (i.zero.map .v))), new := some d } := by
  intro c Im ρ F H a w o ok hn ha S ho hty hF hH hnew hc
  obtain ⟨inf, ds, z, g1, g2, g3, rfl⟩ := tiOf_spec ht
  have hb : ∀ b ∈ ({ blk := some w.heap.size } : Loc).fp, w.heap.size ≤ b ∧ b < (w.alloc (.cells z.cells t)).heap.size := fun b hb => by
    simp [Loc.fp] at hb; subst hb; simp
  refine ⟨.pointer (some ⟨w.heap.size, 0, none⟩), w.alloc (.cells z.cells t), .inl ?_, Im, _, S.new (r := d) (l := { blk := some w.heap.size }) (o := .dvar z.cells.toList.length (z.cells.toList.map .v)) (Grows.alloc w _) (hnew d rfl) hb ?_, .ptr _ _ _ rfl fun l hl => ?_⟩
  · simp [execOp, ho, Instr.alloc, zeroValue, typeInfo, g1, g3, newVar, newRow]
  · refine ⟨rfl, rfl, by simp, w.heap.size, z.cells, t, rfl, heap_alloc_new w _, by simp, fun j v hv x hx => ?_⟩
    simp only [List.getElem?_map, Option.map_eq_some_iff] at hx
    obtain ⟨u, hu, rfl⟩ := hx
    have : u = v := by simpa [hv] using hu.symm
    subst this
    exact .v _ (List.all_eq_true.1 h1 u (List.mem_of_getElem? hu))
  · rw [upd_same] at hl; injection hl with hl; subst hl
    exact ⟨rfl, _, rfl, rfl⟩

theorem ok_allocT {t : TypeId} {i : TI} {d : Nat} (ht : tiOf E.P t = some i) (h1 : i.zero.all (·.oneCell') = true) : OpOk E k (.alloc t) ty s { val := .ptr d 0, wh := some (d, some (.tvar t (i.zero.map .v))), new := some d } := by
  intro c Im ρ F H a w o ok hn ha S ho hty hF hH hnew hc
  obtain ⟨inf, ds, z, g1, g2, g3, rfl⟩ := tiOf_spec ht
  have hb : ∀ b ∈ ({ blk := some w.heap.size } : Loc).fp, w.heap.size ≤ b ∧ b < (w.alloc (.cells z.cells t)).heap.size := fun b hb => by
    simp [Loc.fp] at hb; subst hb; simp
  refine ⟨.pointer (some ⟨w.heap.size, 0, none⟩), w.alloc (.cells z.cells t), .inl ?_, Im, _, S.new (r := d) (l := { blk := some w.heap.size }) (o := .tvar t (z.cells.toList.map .v)) (Grows.alloc w _) (hnew d rfl) hb ?_, .ptr _ _ _ rfl fun l hl => ?_⟩
  · simp [execOp, ho, Instr.alloc, zeroValue, typeInfo, g1, g3, newVar, newRow]
  · refine ⟨rfl, rfl, w.heap.size, z.cells, rfl, heap_alloc_new w _, by simp, fun j v x hv hx => ?_⟩
    simp only [List.getElem?_map, Option.map_eq_some_iff] at hx
    obtain ⟨u, hu, rfl⟩ := hx
    have : u = v := by simpa [hv] using hu.symm
    subst this
    exact .v _ (List.all_eq_true.1 h1 u (List.mem_of_getElem? hu))
  · rw [upd_same] at hl; injection hl with hl; subst hl
    exact ⟨rfl, _, rfl, rfl⟩

def AV.hasCells : AV → Bool
  | .junk | .tup _ => false
  | _ => true
theorem cells_one {v : Value} (h : v.oneCell' = true) : v.cells = #[v] := by
  cases v <;> first | rfl | (simp [Value.oneCell'] at h)
theorem RA.cells {h : Nat → Option Obj} {Im : Nat → Prop} {ρ : Nat → Option Loc} {v : Value} {x : AV} (H : RA h Im ρ v x) (hx : x.hasCells = true) :
    Rel2 (fun u y => RA h Im ρ u y) v.cells.toList x.cells := by
  have one : ∀ {v : Value} {x : AV}, v.cells = #[v] → x.cells = [x] → RA h Im ρ v x → Rel2 (fun u y => RA h Im ρ u y) v.cells.toList x.cells := fun h1 h2 h3 => by rw [h1, h2]; exact .single h3
  cases H with
  | junk => simp [AV.hasCells] at hx
  | tup => simp [AV.hasCells] at hx
  | d _ y hd =>
    exact one (cells_one hd.one) rfl (.d _ _ hd)
  | dagg cs l hl hr => exact ⟨by simp [Value.cells, AV.cells, hl], fun i v y h1 h2 => by
      simp only [AV.cells, List.getElem?_map, Option.map_eq_some_iff] at h2
      obtain ⟨z, hz, rfl⟩ := h2
      exact .d _ _ (hr i v z (by simpa [Value.cells] using h1) hz)⟩
  | agg cs l hl hr => exact ⟨by simp [Value.cells, AV.cells, hl], fun i v y h1 h2 => hr i v y (by simpa [Value.cells] using h1) (by simpa [AV.cells] using h2)⟩
  | ptr x r off h0 hp => exact one (cells_one h0) rfl (.ptr _ r off h0 hp)
  | ep b o cs f hb hc hr => exact one rfl rfl (.ep b o cs f hb hc hr)
  | msl x r n off len h0 hp => exact one (cells_one h0) rfl (.msl _ r n off len h0 hp)
  | mptr x r n i j h0 hp => exact one (cells_one h0) rfl (.mptr _ r n i j h0 hp)
  | mp x r h0 hp => exact one (cells_one h0) rfl (.mp _ r h0 hp)
  | clo fn fs cs lf lc hf hc hrf hrc => exact one rfl rfl (.clo fn fs cs lf lc hf hc hrf hrc)
  | ifc t x y hx2 => exact one rfl rfl (.ifc t x y hx2)

end ops
end Go.Ax

/- Abstract execution, part H: boxes, built values, slices of literals, stores, appends, pieces. -/
namespace Go.Ax

def AV.one : AV → Bool
  | .junk | .agg _ | .dagg _ | .tup _ => false
  | _ => true
theorem RA.oneV {h : Nat → Option Obj} {Im : Nat → Prop} {ρ : Nat → Option Loc} {v : Value} {x : AV} (H : RA h Im ρ v x) (hx : x.one = true) : v.oneCell' = true := by
  cases H <;> first | (simp [AV.one] at hx; done) | assumption | rfl | skip
  rename_i hd; exact hd.one

/-- A variable's object of the cells of a value. -/
def objOf : AV → AObj
  | .dagg cs => .dvar cs.length cs
  | .d x => .dvar 1 [x]
  | x => .var x.cells
def okBox : AV → Bool
  | .junk | .tup _ => false
  | .agg cs => cs.all AV.one
  | _ => true

theorem okBox_one {x : AV} (h : okBox x = true) (hd : ∀ cs, x ≠ .dagg cs) : ∀ y ∈ x.cells, y.one = true := by
  cases x <;> simp only [AV.cells] <;> first | (simp [okBox] at h; done) | (simp [AV.one]; done) | (exact absurd rfl (hd _)) | (intro y hy; exact List.all_eq_true.1 h y hy)

theorem RO.box {w : World} {Im : Nat → Prop} {ρ : Nat → Option Loc} {v : Value} {x : AV} {b : Nat} {t : TypeId} (hb : hp w b = some (.cells v.cells t (0, 0))) (H : RA (hp w) Im ρ v x) (hx : okBox x = true) : RO (hp w) Im ρ { blk := some b } (objOf x) := by
  have gen : (∀ y ∈ x.cells, y.one = true) → x.hasCells = true → RO (hp w) Im ρ { blk := some b } (.var x.cells) := fun h1 h2 => by
    have h3 := H.cells h2
    refine ⟨rfl, rfl, b, v.cells, t, rfl, hb, by simpa using h3.1, fun i u hu y hy => ?_⟩
    have h4 := h3.2 i u y (by simpa using hu) hy
    exact ⟨h4, h4.oneV (h1 y (List.mem_of_getElem? hy))⟩
  cases x <;> simp only [objOf] <;> first | (simp [okBox] at hx; done) | (exact gen (okBox_one hx (by simp)) rfl) | skip
  · refine ⟨rfl, rfl, rfl, b, v.cells, t, rfl, hb, ?_, fun i u hu y hy => ?_⟩
    · rw [cells_one (H.oneV rfl)]; rfl
    · rw [cells_one (H.oneV rfl)] at hu
      cases i with
      | zero => simp at hu hy; subst hu; subst hy; exact H.d_inv
      | succ i => simp at hy
  · cases H with
    | dagg cs l hl hr => exact ⟨rfl, rfl, rfl, b, cs, t, rfl, hb, hl, fun i u hu y hy => hr i u y hu hy⟩

theorem RA.ext {h h' : Nat → Option Obj} {Im Im' : Nat → Prop} {ρ ρ' : Nat → Option Loc} {v : Value} {x : AV} (H : RA h Im ρ v x) (hI : ∀ b, Im b → Im' b) (hh : ∀ b, Im b → h' b = h b) (hρ : ∀ r, x.ment r = true → ρ' r = ρ r) : RA h' Im' ρ' v x :=
  H.mono hI hh fun r hr l' hl' => ⟨l', by rw [← hρ r hr]; exact hl', .inl rfl⟩

section ops
variable {E : Env} {k : Kn} {ty : TypeId} {s : St}

theorem ok_box {t : TypeId} {x : Operand} {y : AV} {d : Nat} (hi : opIn k.nt (.box t x) = true) (hx : evO s x = y) (hb : okBox y = true) (hm : y.ment d = false) : OpOk E k (.box t x) ty s { val := .ptr d 0, wh := some (d, some (objOf y)), new := some d } := by
  intro c Im ρ F H a w o ok hn ha S ho hty hF hH hnew hc
  have h2 := opIn_ev (x := x) S hn hi hF (by simp [Op.operands])
  rw [hx] at h2
  have hfp : ∀ b ∈ ({ blk := some w.heap.size } : Loc).fp, w.heap.size ≤ b ∧ b < (w.alloc (.cells (a.eval x).cells t)).heap.size := fun b hb => by
    simp [Loc.fp] at hb; subst hb; simp
  have hI : ∀ b, Im b → hp (w.alloc (.cells (a.eval x).cells t)) b = hp w b := fun b hb => heap_alloc_old w _ b (S.imn b hb).1
  refine ⟨.pointer (some ⟨w.heap.size, 0, none⟩), w.alloc (.cells (a.eval x).cells t), .inl ?_, Im, _, S.new (r := d) (l := { blk := some w.heap.size }) (o := objOf y) (Grows.alloc w _) (hnew d rfl) hfp ?_, .ptr _ _ _ rfl fun l hl => ?_⟩
  · simp [execOp, ho, Instr.box, newVar, newRow]
  · refine RO.box (w := w.alloc (.cells (a.eval x).cells t)) (v := a.eval x) (heap_alloc_new w _) (h2.ext (fun _ h => h) hI fun r hr => ?_) hb
    have hne : r ≠ d := fun e => by subst e; rw [hm] at hr; exact absurd hr (by simp)
    rw [upd_ne _ _ hne]
  · rw [upd_same] at hl; injection hl with hl; subst hl
    exact ⟨rfl, _, rfl, rfl⟩

/-! #### Built values -/
theorem foldl_set_splice (vs : List Value) : ∀ (off : Nat) (cs : Array Value), off + vs.length ≤ cs.size →
    ((vs.zipIdx.foldl (fun (cs : Array Value) (p : Value × Nat) => cs.setIfInBounds (off + p.2) p.1) cs)).toList = cs.toList.take off ++ vs ++ cs.toList.drop (off + vs.length) := by
  suffices h : ∀ (vs : List Value) (i off : Nat) (cs : Array Value), off + i + vs.length ≤ cs.size →
      (((vs.zipIdx i).foldl (fun (cs : Array Value) (p : Value × Nat) => cs.setIfInBounds (off + p.2) p.1) cs)).toList = cs.toList.take (off + i) ++ vs ++ cs.toList.drop (off + i + vs.length) by
    intro off cs hl; simpa using h vs 0 off cs (by simpa using hl)
  intro vs
  induction vs with
  | nil => intro i off cs _; simp
  | cons v rest ih =>
    intro i off cs hl
    simp only [List.zipIdx_cons, List.foldl_cons]
    rw [ih (i + 1) off (cs.setIfInBounds (off + i) v) (by simp at hl ⊢; omega)]
    have e := list_seg_step cs.toList (off + i) v rest (by simp at hl ⊢; omega)
    simpa [Array.toList_setIfInBounds, Nat.add_assoc] using e

/-- Parts laid into cells. -/
def fillD (place : Nat → Option (Nat × Nat)) (cells : List D) : List (Nat × List D) → Option (List D)
  | [] => some cells
  | (i, l) :: r => match place i with
    | none => none
    | some (off, _) => fillD place (splice cells l off) r
def fillC (place : Nat → Option (Nat × Nat)) (n : Nat) : List (Nat × List D) → Prop
  | [] => True
  | (i, l) :: r => (∃ off sz, place i = some (off, sz) ∧ l.length = sz ∧ off + sz ≤ n) ∧ fillC place n r

theorem fill_ok {R : Value → D → Prop} {place : Nat → Option (Nat × Nat)} : ∀ {ps : List (Nat × List D)} {vs : List (Nat × Value)} {cells : List D} {ms : Array Value} {n : Nat} {out : List D}, fillD place cells ps = some out → fillC place n ps → ms.size = n → Rel2 R ms.toList cells →
    vs.length = ps.length → (∀ (i : Nat) (p : Nat × List D) (v : Nat × Value), ps[i]? = some p → vs[i]? = some v → v.1 = p.1 ∧ Rel2 R v.2.cells.toList p.2) → ∃ ms', Instr.fill place ms vs = some ms' ∧ ms'.size = n ∧ Rel2 R ms'.toList out
  | [], [], cells, ms, n, out, h, _, hn, hr, _, _ => by simp [fillD] at h; subst h; exact ⟨ms, rfl, hn, hr⟩
  | [], v :: vs, _, _, _, _, _, _, _, _, hl, _ => by simp at hl
  | p :: ps, [], _, _, _, _, _, _, _, _, hl, _ => by simp at hl
  | (i, l) :: ps, (i', v) :: vs, cells, ms, n, out, h, hc, hn, hr, hl, hv => by
    obtain ⟨⟨off, sz, hp, hsz, hfit⟩, hc'⟩ := hc
    obtain ⟨e1, e2⟩ := hv 0 (i, l) (i', v) rfl rfl
    simp only at e1; subst e1
    simp only [fillD, hp] at h
    have hvl : v.cells.size = sz := by have := e2.1; simp at this; omega
    have hsp := foldl_set_splice v.cells.toList off ms (by simp; omega)
    have hr' := hr.splice e2 off
    rw [← hsp] at hr'
    obtain ⟨ms', g1, g2, g3⟩ := fill_ok (vs := vs) (ms := (v.cells.toList.zipIdx.foldl (fun (cs : Array Value) (p : Value × Nat) => cs.setIfInBounds (off + p.2) p.1) ms)) h hc' (by
      have : ((v.cells.toList.zipIdx.foldl (fun (cs : Array Value) (p : Value × Nat) => cs.setIfInBounds (off + p.2) p.1) ms)).toList.length = n := by rw [hsp]; simp; omega
      simpa using this) hr' (by simpa using hl) (fun j p u h1 h2 => hv (j + 1) p u (by simpa using h1) (by simpa using h2))
    refine ⟨ms', ?_, g2, g3⟩
    have hcond : ¬ (v.cells.size ≠ sz ∨ off + v.cells.size > ms.size) := by omega
    simp only [Instr.fill, hp]
    rw [if_neg (by simpa using hcond)]
    rw [← g1]
    congr 1
    rw [← Array.foldl_toList]
    simp

/-- The pure cells of a value. -/
def dcells : AV → Option (List D)
  | .d x => some [x]
  | .dagg cs => some cs
  | _ => none
theorem dcells_ok {h : Nat → Option Obj} {Im : Nat → Prop} {ρ : Nat → Option Loc} {v : Value} {x : AV} {l : List D} (H : RA h Im ρ v x) (hx : dcells x = some l) : Rel2 (RD h Im) v.cells.toList l := by
  cases x <;> simp only [dcells] at hx <;> cases hx
  · rw [cells_one (H.oneV rfl)]; exact .single H.d_inv
  · cases H with
    | dagg cs l hl hr => exact ⟨by simpa [Value.cells] using hl, fun i u y h1 h2 => hr i u y (by simpa [Value.cells] using h1) h2⟩

def partsD (s : St) : List (Nat × Operand) → Option (List (Nat × List D))
  | [] => some []
  | (i, x) :: r => match dcells (evO s x), partsD s r with
    | some l, some l' => some ((i, l) :: l')
    | _, _ => none

theorem partsD_spec {s : St} : ∀ {ps : List (Nat × Operand)} {l : List (Nat × List D)}, partsD s ps = some l → l.length = ps.length ∧ ∀ (i : Nat) (p : Nat × Operand) (q : Nat × List D), ps[i]? = some p → l[i]? = some q → q.1 = p.1 ∧ dcells (evO s p.2) = some q.2
  | [], l, h => by simp [partsD] at h; subst h; exact ⟨rfl, by simp⟩
  | (i, x) :: r, l, h => by
    simp only [partsD] at h
    split at h
    · rename_i l1 l2 h1 h2
      injection h with h; subst h
      obtain ⟨g1, g2⟩ := partsD_spec h2
      refine ⟨by simp [g1], fun j p q hp hq => ?_⟩
      cases j with
      | zero => simp at hp hq; subst hp; subst hq; exact ⟨rfl, h1⟩
      | succ j => exact g2 j p q (by simpa using hp) (by simpa using hq)
    · simp at h

/-- The places of a struct's fields, an array's elements. -/
def placeOf (tab : List (Nat × TI)) (i : TI) (j : Nat) : Option (Nat × Nat) := match i.k with
  | .struct fs => match fs[j]? with
    | some (off, t) => match lkT t tab with
      | some ti => some (off, ti.size)
      | none => none
    | none => none
  | .array _ e => match lkT e tab with
    | some ti => some (j * ti.size, ti.size)
    | none => none
  | _ => none

theorem run_mapM_places {P : Program} {w : World} {tab : List (Nat × TI)} (ht : TabOk P tab) : ∀ (fs : List Field), (∀ f ∈ fs, ∃ ti, lkT f.type tab = some ti) →
    (fs.mapM (m := Sem) fun (f : Field) => do pure (f.offset, ← sizeOf f.type)).run P w = .ok (fs.map fun f => (f.offset, ((lkT f.type tab).map (·.size)).getD 0)) w
  | [], _ => by simp
  | f :: fs, h => by
    obtain ⟨ti, hti⟩ := h f (by simp)
    have ih := run_mapM_places (w := w) ht fs fun g hg => h g (by simp [hg])
    simp only [List.mapM_cons, Sem.run_bind, run_sizeOf (ht.at hti), Result.andThen_ok, Sem.run_pure, ih, List.map_cons, hti, Option.map_some, Option.getD_some]

theorem ok_build_struct {tab : List (Nat × TI)} (htab : TabOk E.P tab) {t : TypeId} {parts : Array (Nat × Operand)} {i : TI} {fs : List (Nat × TypeId)} {ps : List (Nat × List D)} {out : List D} (hi : opIn k.nt (.build t parts) = true) (ht : lkT t tab = some i) (hk : i.k = .struct fs)
    (hall : fs.all (fun p => (lkT p.2 tab).isSome) = true) (hz : i.zero.all (·.oneCell') = true) (hps : partsD s parts.toList = some ps) (ho : fillD (placeOf tab i) (i.zero.map .v) ps = some out) :
    OpOk E k (.build t parts) ty s { val := .dagg out, cond := [fillC (placeOf tab i) i.zero.length ps] } :=
  .pure _ none fun hc c Im ρ F H a w o _ hn S ho' _ hF _ => by
    have hti := htab.at ht
    obtain ⟨inf, d, z, g1, g2, g3, he⟩ := tiOf_spec hti
    have hk' : kindOf d = .struct fs := by rw [he] at hk; exact hk
    cases d <;> simp only [kindOf] at hk' <;> cases hk'
    rename_i flds
    obtain ⟨hlen, hspec⟩ := partsD_spec hps
    have hzl : i.zero = z.cells.toList := by rw [he]
    have hzr : Rel2 (RD (hp w) Im) z.cells.toList (i.zero.map .v) := by
      refine ⟨by simp [hzl], fun j v x hv hx => ?_⟩
      simp only [List.getElem?_map, Option.map_eq_some_iff] at hx
      obtain ⟨u, hu, rfl⟩ := hx
      rw [hzl, hv] at hu; injection hu with hu; subst hu
      exact .v _ (List.all_eq_true.1 hz v (by rw [hzl]; exact List.mem_of_getElem? hv))
    have hplace : placeOf tab i = fun j => ((flds.toList.map fun (f : Field) => (f.offset, ((lkT f.type tab).map (·.size)).getD 0)).toArray)[j]? := by
      funext j
      simp only [placeOf, hk, List.getElem?_map]
      have : ((flds.toList.map fun (f : Field) => (f.offset, ((lkT f.type tab).map (·.size)).getD 0)).toArray)[j]? = (flds.toList[j]?).map fun (f : Field) => (f.offset, ((lkT f.type tab).map (·.size)).getD 0) := by simp
      rw [this]
      cases hj : flds.toList[j]? with
      | none => simp
      | some f =>
        have hm : (f.offset, f.type) ∈ flds.toList.map fun f => (f.offset, f.type) := List.mem_map.2 ⟨f, List.mem_of_getElem? hj, rfl⟩
        have := List.all_eq_true.1 hall _ hm
        simp only [Option.map_some]
        cases hq : lkT f.type tab with
        | none => simp [hq] at this
        | some ti => simp
    obtain ⟨ms, f1, f2, f3⟩ := fill_ok (R := RD (hp w) Im) (place := placeOf tab i) (ps := ps) (vs := (parts.map fun (j, x) => (j, a.eval x)).toList) (cells := i.zero.map .v) (ms := z.cells) (n := i.zero.length) ho hc.1 (by rw [hzl]; simp) hzr (by simp [hlen]) (fun j p v hp1 hv1 => by
      have hpl : j < parts.toList.length := by rw [← hlen]; exact (List.getElem?_eq_some_iff.1 hp1).1
      have hpj : parts.toList[j]? = some parts.toList[j] := List.getElem?_eq_getElem hpl
      obtain ⟨e1, e2⟩ := hspec j _ p hpj hp1
      have hv2 : v = ((parts.toList[j]).1, a.eval (parts.toList[j]).2) := by
        have : (parts.map fun (j, x) => (j, a.eval x)).toList[j]? = (parts.toList[j]?).map fun p => (p.1, a.eval p.2) := by simp
        rw [this, hpj] at hv1; simpa using hv1.symm
      subst hv2
      refine ⟨e1.symm, dcells_ok (opIn_ev (x := (parts.toList[j]).2) S hn hi hF ?_) e2⟩
      simp only [Op.operands, List.mem_map]
      exact ⟨parts.toList[j], List.getElem_mem hpl, rfl⟩)
    refine ⟨.agg ms, ?_, .dagg ms out (by have := f3.1; simpa using this) fun j v x h1 h2 => f3.2 j v x (by simpa using h1) h2⟩
    have hm : ∀ f ∈ flds.toList, ∃ ti, lkT f.type tab = some ti := fun f hf => by
      have := List.all_eq_true.1 hall (f.offset, f.type) (List.mem_map.2 ⟨f, hf, rfl⟩)
      cases hq : lkT f.type tab with
      | none => simp [hq] at this
      | some ti => exact ⟨ti, rfl⟩
    have hmap : (flds.mapM (m := Sem) fun (f : Field) => do pure (f.offset, ← sizeOf f.type)).run E.P w = .ok (flds.toList.map fun f => (f.offset, ((lkT f.type tab).map (·.size)).getD 0)).toArray w := by
      rw [Array.mapM_eq_mapM_toList, Sem.run_map, run_mapM_places htab flds.toList hm]; rfl
    rw [hplace] at f1
    simp only [execOp, ho', Instr.build, Sem.run_bind, zeroValue, typeInfo, g1, g3, Result.andThen_ok, run_underlying g2, hmap, run_program, Sem.run_pure]
    rw [f1]
    simp

end ops
end Go.Ax
