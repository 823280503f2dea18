/- Abstract execution, part E: what is told of types; what single operations come to (values, memory that is read). -/
import Derived.Test.YtjokajidcojlmaaDoorAxD
import Derived.Laws.Strings
import Derived.Laws.Append
namespace Go.Ax

inductive TK where
  | int (k : IntKind) | bool | str | ptr (e : TypeId) | slice (e : TypeId) | array (n : Nat) (e : TypeId) | struct (fs : List (Nat × TypeId)) | map (k e : TypeId) | func | iface | other
structure TI where
  k : TK
  size : Nat
  bytes : Nat
  zero : List Value
  fl : List TK

def kindOf : TypeDesc → TK
  | .int k => .int k
  | .bool => .bool
  | .string => .str
  | .pointer e => .ptr e
  | .slice e => .slice e
  | .array n e => .array n e
  | .struct fs => .struct (fs.toList.map fun f => (f.offset, f.type))
  | .map k e => .map k e
  | .func .. => .func
  | .interface _ => .iface
  | _ => .other

def tiOf0 (P : Program) (t : TypeId) : Option TI :=
  match P.info? t, P.underlying t with
  | some i, some d => match i.zero with
    | some z => some { k := kindOf d, size := i.size, bytes := i.bytes, zero := z.cells.toList, fl := [] }
    | none => none
  | _, _ => none

def flatFs (go : TypeId → Option (List TK)) : Nat → List Field → Option (List TK)
  | _, [] => some []
  | off, f :: fs => match f.name != "_", Nat.beq f.offset off, go f.type with
    | true, true, some l => match flatFs go (off + l.length) fs with
      | some r => some (l ++ r)
      | none => none
    | _, _, _ => none
/-- The kinds of a type's plain parts, one behind the other. -/
def flatL (P : Program) : Nat → TypeId → Option (List TK)
  | 0, _ => none
  | d + 1, t => match tiOf0 P t, P.underlying t with
    | some i, some (.int k) => match Nat.beq i.size 1 with
      | true => some [.int k]
      | false => none
    | some i, some .bool => match Nat.beq i.size 1 with
      | true => some [.bool]
      | false => none
    | some i, some .string => match Nat.beq i.size 1 with
      | true => some [.str]
      | false => none
    | some i, some (.struct fs) => match P.stoodInHeld t, flatFs (flatL P d) 0 fs.toList with
      | false, some l => match Nat.beq i.size l.length with
        | true => some l
        | false => none
      | _, _ => none
    | some i, some (.array n e) => match flatL P d e, tiOf0 P e with
      | some l, some ei => match Nat.beq ei.size l.length, Nat.beq i.size (n * l.length) with
        | true, true => some (List.replicate n l).flatten
        | _, _ => none
      | _, _ => none
    | _, _ => none
/-- A single value's zero is bare. -/
def bareZero (P : Program) (t : TypeId) : Bool := match P.info? t, P.underlying t with
  | _, some (.struct _) | _, some (.array _ _) => true
  | some i, _ => match i.zero with
    | some (.agg _) => false
    | _ => true
  | _, _ => false
def flOf (P : Program) (t : TypeId) : List TK := match flatL P 12 t, P.eqGuardType P.depth t, bareZero P t with
  | some l, false, true => l
  | _, _, _ => []
def tiOf (P : Program) (t : TypeId) : Option TI := match tiOf0 P t with
  | some i => some { i with fl := flOf P t }
  | none => none

def TK.agg : TK → Bool
  | .struct _ | .array _ _ => true
  | _ => false

theorem tiOf0_spec {P : Program} {t : TypeId} {i : TI} (h : tiOf0 P t = some i) : ∃ f d z, P.info? t = some f ∧ P.underlying t = some d ∧ f.zero = some z ∧ i = { k := kindOf d, size := f.size, bytes := f.bytes, zero := z.cells.toList, fl := [] } := by
  unfold tiOf0 at h
  split at h
  · rename_i f d h1 h2
    split at h
    · rename_i z h3
      exact ⟨f, d, z, h1, h2, h3, (Option.some.inj h).symm⟩
    · simp at h
  · simp at h
theorem tiOf_spec {P : Program} {t : TypeId} {i : TI} (h : tiOf P t = some i) : ∃ f d z, P.info? t = some f ∧ P.underlying t = some d ∧ f.zero = some z ∧ i = { k := kindOf d, size := f.size, bytes := f.bytes, zero := z.cells.toList, fl := flOf P t } := by
  unfold tiOf at h
  split at h
  · rename_i i0 h0
    obtain ⟨f, d, z, h1, h2, h3, rfl⟩ := tiOf0_spec h0
    exact ⟨f, d, z, h1, h2, h3, (Option.some.inj h).symm⟩
  · simp at h
theorem tiOf_of0 {P : Program} {t : TypeId} {i : TI} (h : tiOf0 P t = some i) : tiOf P t = some { i with fl := flOf P t } := by simp [tiOf, h]

def lkT (t : Nat) : List (Nat × TI) → Option TI
  | [] => none
  | (k, v) :: r => match Nat.beq k t with
    | true => some v
    | false => lkT t r

def TabOk (P : Program) (tab : List (Nat × TI)) : Prop := tab.map (fun p => tiOf P p.1) = tab.map fun p => some p.2

theorem TabOk.at {P : Program} : ∀ {tab : List (Nat × TI)}, TabOk P tab → ∀ {t : Nat} {i : TI}, lkT t tab = some i → tiOf P t = some i
  | [], _, t, i, h => by simp [lkT] at h
  | (k, v) :: r, ht, t, i, h => by
    unfold TabOk at ht
    simp only [List.map_cons, List.cons.injEq] at ht
    by_cases e : Nat.beq k t = true
    · have := Nat.eq_of_beq_eq_true e; subst this
      simp only [lkT, e] at h
      rw [← h]; exact ht.1
    · have : Nat.beq k t = false := Bool.eq_false_iff.2 e
      simp only [lkT, this] at h
      exact TabOk.at (tab := r) ht.2 h

/-! ### Single values -/
def D.int : D → Int
  | .v (.int _ n) => n
  | _ => 0
def D.bool : D → Bool
  | .v (.bool b) => b
  | _ => false
def D.str : D → ByteArray
  | .v (.string s) => s
  | _ => .empty
def D.els : D → List (List D)
  | .sl _ _ e => e
  | _ => []
def D.val : D → Value
  | .v x => x
  | _ => undef

/-- A single value of a kind, told by its kind's shape. -/
def force (k : TK) (sz : Nat) (x : D) : D := match k with
  | .int i => .v (.int i x.int)
  | .bool => .v (.bool x.bool)
  | .str => .v (.string x.str)
  | .slice _ => .sl false sz x.els
  | _ => x
/-- It is of that kind. -/
def has (k : TK) (sz : Nat) (x : D) : Prop := match k with
  | .int i => ∃ n, x = .v (.int i n)
  | .bool => ∃ b, x = .v (.bool b)
  | .str => ∃ s, x = .v (.string s)
  | .slice _ => ∃ t e, x = .sl t sz e
  | _ => True

theorem RD.loose {h : Nat → Option Obj} {Im : Nat → Prop} {v : Value} {t : Bool} {sz : Nat} {e : List (List D)} (H : RD h Im v (.sl t sz e)) : RD h Im v (.sl false sz e) := by
  cases H with
  | nil _ _ a cap ht => exact .nil false sz a cap (by simp)
  | sl _ _ _ b o cap f hs hb hle ht hc hr => exact .sl false sz e b o cap f hs hb hle (by simp) hc hr
theorem RD.force {h : Nat → Option Obj} {Im : Nat → Prop} {v : Value} {k : TK} {sz : Nat} {x : D} (hk : has k sz x) (H : RD h Im v x) : RD h Im v (force k sz x) := by
  cases k <;> simp only [has] at hk <;> simp only [Ax.force] <;> first | exact H | skip
  · obtain ⟨n, rfl⟩ := hk; exact H
  · obtain ⟨n, rfl⟩ := hk; exact H
  · obtain ⟨n, rfl⟩ := hk; exact H
  · obtain ⟨t, e, rfl⟩ := hk; exact H.loose

/-! ### What an operation comes to -/
structure Eff where
  val : AV
  rh : Option (Nat × AObj) := none
  wh : Option (Nat × Option AObj) := none
  new : Option Nat := none
  cond : List Prop := []

def AllL : List Prop → Prop
  | [] => True
  | p :: l => p ∧ AllL l

def updO (H : Nat → Option AObj) : Option (Nat × Option AObj) → Nat → Option AObj
  | none => H
  | some (r, o) => upd H r o

def opTmps (op : Op) : List Nat := op.operands.toList.filterMap fun | .tmp t => some t | _ => none

/-- The operation comes to this, wherever its operands and what it reads are so. -/
def OpOk (E : Env) (k : Kn) (op : Op) (ty : TypeId) (s : St) (e : Eff) : Prop :=
  ∀ (c : Cx) (Im : Nat → Prop) (ρ : Nat → Option Loc) (F : Nat → AV) (H : Nat → Option AObj) (a : Act) (w : World) (o : Oper), c.Ok E → c.nt = k.nt → c.anc = k.anc → Sim c Im ρ F H a w → o.op = op → o.type = ty →
    (∀ t ∈ opTmps op, lk t s.f = F t) → (∀ r x, e.rh = some (r, x) → H r = some x) → (∀ r, e.new = some r → Unm c r F H) → AllL e.cond →
    ∃ v w', ((execOp a.eval o).run E.P w = .ok (.value v) w' ∨ ((execOp a.eval o).run E.P w = .ok .skip w' ∧ v = undef)) ∧ ∃ Im' ρ', Sim c Im' ρ' F (updO H e.wh) a w' ∧ RA (hp w') Im' ρ' v e.val

/-- All of an operation's operands are slots of the frame or single constants. -/
def opIn (n : Nat) (op : Op) : Bool := op.operands.toList.all (inN n)

theorem inN_spec {n : Nat} {x : Operand} (h : inN n x = true) : okO x = true ∧ ∀ t, x = .tmp t → t < n := by
  cases x with
  | tmp t => exact ⟨rfl, fun t' e => by injection e with e; subst e; simpa [inN] using h⟩
  | const v => exact ⟨h, fun t e => by cases e⟩
  | global g => exact ⟨rfl, fun t e => by cases e⟩
  | func f => exact ⟨rfl, fun t e => by cases e⟩

theorem opIn_ev {k : Kn} {op : Op} {s : St} {c : Cx} {Im : Nat → Prop} {ρ : Nat → Option Loc} {F : Nat → AV} {H : Nat → Option AObj} {a : Act} {w : World} (S : Sim c Im ρ F H a w) (hn : c.nt = k.nt) (hi : opIn k.nt op = true)
    (hF : ∀ t ∈ opTmps op, lk t s.f = F t) {x : Operand} (hx : x ∈ op.operands.toList) : RA (hp w) Im ρ (a.eval x) (evO s x) := by
  have h := inN_spec (List.all_eq_true.1 hi x hx)
  refine S.ev (fun t e => ⟨hn ▸ h.2 t e, hF t ?_⟩) h.1
  subst e
  exact List.mem_filterMap.2 ⟨_, hx, rfl⟩

section ops
variable {E : Env} {k : Kn} {ty : TypeId} {s : St}

/-- An operation that only computes. -/
theorem OpOk.pure {op : Op} {x : AV} (cond : List Prop) (rh : Option (Nat × AObj)) (h : AllL cond → ∀ (c : Cx) (Im : Nat → Prop) (ρ : Nat → Option Loc) (F : Nat → AV) (H : Nat → Option AObj) (a : Act) (w : World) (o : Oper), c.Ok E → c.nt = k.nt → Sim c Im ρ F H a w → o.op = op → o.type = ty →
    (∀ t ∈ opTmps op, lk t s.f = F t) → (∀ r x, rh = some (r, x) → H r = some x) → ∃ v, (execOp a.eval o).run E.P w = .ok (.value v) w ∧ RA (hp w) Im ρ v x) : OpOk E k op ty s { val := x, rh, cond } :=
  fun c Im ρ F H a w o ok hn _ S ho hty hF hr _ hc => let ⟨v, h1, h2⟩ := h hc c Im ρ F H a w o ok hn S ho hty hF hr; ⟨v, w, .inl h1, Im, ρ, S, h2⟩

/-- An operation that only computes, or reads. -/
def OpPure (E : Env) (k : Kn) (op : Op) (ty : TypeId) (s : St) (e : Eff) : Prop := e.wh = none ∧ e.new = none ∧
  ∀ (c : Cx) (Im : Nat → Prop) (ρ : Nat → Option Loc) (F : Nat → AV) (H : Nat → Option AObj) (a : Act) (w : World) (o : Oper), c.Ok E → c.nt = k.nt → Sim c Im ρ F H a w → o.op = op → o.type = ty →
    (∀ t ∈ opTmps op, lk t s.f = F t) → (∀ r x, e.rh = some (r, x) → H r = some x) → AllL e.cond → ∃ v, (execOp a.eval o).run E.P w = .ok (.value v) w ∧ RA (hp w) Im ρ v e.val
theorem OpPure.ok {op : Op} {e : Eff} (h : OpPure E k op ty s e) : OpOk E k op ty s e := by
  intro c Im ρ F H a w o ok hn _ S ho hty hF hr _ hc
  obtain ⟨v, h1, h2⟩ := h.2.2 c Im ρ F H a w o ok hn S ho hty hF hr hc
  exact ⟨v, w, .inl h1, Im, ρ, by rw [h.1]; exact S, h2⟩
theorem OpPure.mk' {op : Op} {x : AV} (cond : List Prop) (rh : Option (Nat × AObj)) (h : AllL cond → ∀ (c : Cx) (Im : Nat → Prop) (ρ : Nat → Option Loc) (F : Nat → AV) (H : Nat → Option AObj) (a : Act) (w : World) (o : Oper), c.Ok E → c.nt = k.nt → Sim c Im ρ F H a w → o.op = op → o.type = ty →
    (∀ t ∈ opTmps op, lk t s.f = F t) → (∀ r x, rh = some (r, x) → H r = some x) → ∃ v, (execOp a.eval o).run E.P w = .ok (.value v) w ∧ RA (hp w) Im ρ v x) : OpPure E k op ty s { val := x, rh, cond } :=
  ⟨rfl, rfl, fun c Im ρ F H a w o ok hn S ho hty hF hr hc => h hc c Im ρ F H a w o ok hn S ho hty hF hr⟩
theorem OpPure.cond {op : Op} {e : Eff} {cond : List Prop} (h : OpPure E k op ty s e) (hc : AllL cond → AllL e.cond) : OpPure E k op ty s { e with cond } :=
  ⟨h.1, h.2.1, fun c Im ρ F H a w o g1 g2 g3 g4 g5 g6 g7 g8 => h.2.2 c Im ρ F H a w o g1 g2 g3 g4 g5 g6 g7 (hc g8)⟩

theorem ok_move {x : Operand} (hi : inN k.nt x = true) : OpOk E k (.move x) ty s { val := evO s x } :=
  .pure [] none fun _ c Im ρ F H a w o _ hn S ho _ hF _ => ⟨a.eval x, by simp [execOp, ho], opIn_ev S hn (by simpa [opIn, Op.operands] using hi) hF (by simp [Op.operands])⟩
theorem ok_assign {x : Operand} (hi : inN k.nt x = true) : OpOk E k (.assign x) ty s { val := evO s x } :=
  .pure [] none fun _ c Im ρ F H a w o _ hn S ho _ hF _ => ⟨a.eval x, by simp [execOp, ho], opIn_ev S hn (by simpa [opIn, Op.operands] using hi) hF (by simp [Op.operands])⟩

theorem RA.intv {h : Nat → Option Obj} {Im : Nat → Prop} {ρ : Nat → Option Loc} (x : Value) (h1 : x.oneCell' = true) : RA h Im ρ x (.d (.v x)) := .d _ _ (.v x h1)

theorem ok_pick {c0 x y : Operand} {b : Bool} {r : AV} (hi : opIn k.nt (.pick c0 x y) = true) (hc : evO s c0 = .d (.v (.bool b))) (hr : r = if b then evO s x else evO s y) : OpOk E k (.pick c0 x y) ty s { val := r } :=
  .pure [] none fun _ c Im ρ F H a w o _ hn S ho _ hF _ => by
    have h1 := opIn_ev (x := c0) S hn hi hF (by simp [Op.operands])
    have h2 := opIn_ev (x := x) S hn hi hF (by simp [Op.operands])
    have h3 := opIn_ev (x := y) S hn hi hF (by simp [Op.operands])
    rw [hc] at h1
    subst hr
    refine ⟨if b then a.eval x else a.eval y, by simp [execOp, ho, h1.v, asBool], ?_⟩
    cases b
    · simpa using h3
    · simpa using h2

theorem ok_not {x : Operand} {b : Bool} {xt : TypeId} (hi : opIn k.nt (.unOp .not xt x) = true) (hc : evO s x = .d (.v (.bool b))) : OpOk E k (.unOp .not xt x) ty s { val := .d (.v (.bool (!b))) } :=
  .pure [] none fun _ c Im ρ F H a w o _ hn S ho _ hF _ => by
    have h1 := opIn_ev (x := x) S hn hi hF (by simp [Op.operands])
    rw [hc] at h1
    exact ⟨.bool (!b), by simp [execOp, ho, h1.v, Op.unary], RA.intv _ rfl⟩

/-! #### Numbers -/
def intOp (op : BinOp) (k : IntKind) (a b : Int) : Option (Value × List Prop) := match op with
  | .add => some (.int k (k.wrap (a + b)), [])
  | .sub => some (.int k (k.wrap (a - b)), [])
  | .mul => some (.int k (k.wrap (a * b)), [])
  | .quo => some (.int k (k.wrap (a.tdiv b)), [b ≠ 0])
  | .rem => some (.int k (a.tmod b), [b ≠ 0])
  | .and => some (.int k (k.wrap (BitVec.ofInt k.bits a &&& BitVec.ofInt k.bits b).toNat), [])
  | .or => some (.int k (k.wrap (BitVec.ofInt k.bits a ||| BitVec.ofInt k.bits b).toNat), [])
  | .xor => some (.int k (k.wrap (BitVec.ofInt k.bits a ^^^ BitVec.ofInt k.bits b).toNat), [])
  | .andNot => some (.int k (k.wrap (BitVec.ofInt k.bits a &&& ~~~BitVec.ofInt k.bits b).toNat), [])
  | .eql => some (.bool (a == b), [])
  | .neq => some (.bool (a != b), [])
  | .lss => some (.bool (decide (a < b)), [])
  | .leq => some (.bool (decide (a ≤ b)), [])
  | .gtr => some (.bool (decide (b < a)), [])
  | .geq => some (.bool (decide (b ≤ a)), [])
  | _ => none

theorem intOp_run {P : Program} {w : World} {op : BinOp} {xt : TypeId} {i : IntKind} {x y : Int} {v : Value} {cs : List Prop} (h : intOp op i x y = some (v, cs)) (hc : AllL cs) : (binOp op xt (.int i x) (.int i y)).run P w = .ok v w ∧ v.oneCell' = true := by
  cases op <;> simp only [intOp] at h <;> cases h
  all_goals simp only [AllL] at hc
  all_goals simp [binOp, Op.intArith, Op.intCmp, Op.intBits, Op.intDiv, Value.oneCell', GT.gt, GE.ge, hc]

theorem ok_int {op : BinOp} {xt yt : TypeId} {x y : Operand} {i j : IntKind} {m n : Int} {v : Value} {cs : List Prop} (hi : opIn k.nt (.binOp op xt x y yt) = true) (hx : evO s x = .d (.v (.int i m))) (hy : evO s y = .d (.v (.int j n)))
    (hij : i = j) (h : intOp op i m n = some (v, cs)) : OpOk E k (.binOp op xt x y yt) ty s { val := .d (.v v), cond := cs } := by
  subst hij
  refine .pure cs none fun hc c Im ρ F H a w o _ hn S ho _ hF _ => ?_
  have h1 := opIn_ev (x := x) S hn hi hF (by simp [Op.operands])
  have h2 := opIn_ev (x := y) S hn hi hF (by simp [Op.operands])
  rw [hx] at h1
  rw [hy] at h2
  obtain ⟨h3, h4⟩ := intOp_run (P := E.P) (w := w) (xt := xt) h hc
  refine ⟨v, ?_, RA.intv _ h4⟩
  have hg : (eqGuard op xt x y (.int i m) (.int i n)).run E.P w = .ok () w := by
    unfold eqGuard
    split <;> simp
  simp [execOp, ho, h1.v, h2.v, hg, h3]

def shOp (op : BinOp) (k : IntKind) (a b : Int) : Option (Value × List Prop) := match op with
  | .shl => some (.int k (k.wrap (a * 2 ^ (min b.toNat k.bits))), [0 ≤ b])
  | .shr => some (.int k (a.fdiv (2 ^ (min b.toNat k.bits))), [0 ≤ b])
  | _ => none
theorem ok_shift {op : BinOp} {xt yt : TypeId} {x y : Operand} {i j : IntKind} {m n : Int} {v : Value} {cs : List Prop} (hi : opIn k.nt (.binOp op xt x y yt) = true) (hx : evO s x = .d (.v (.int i m))) (hy : evO s y = .d (.v (.int j n)))
    (h : shOp op i m n = some (v, cs)) : OpOk E k (.binOp op xt x y yt) ty s { val := .d (.v v), cond := cs } := by
  refine .pure cs none fun hc c Im ρ F H a w o _ hn S ho _ hF _ => ?_
  have h1 := opIn_ev (x := x) S hn hi hF (by simp [Op.operands])
  have h2 := opIn_ev (x := y) S hn hi hF (by simp [Op.operands])
  rw [hx] at h1
  rw [hy] at h2
  cases op <;> simp only [shOp] at h <;> cases h
  all_goals
    simp only [AllL] at hc
    have hb : ¬ n < 0 := by omega
    exact ⟨_, by simp [execOp, ho, h1.v, h2.v, eqGuard, binOp, Op.shift, hb], RA.intv _ rfl⟩

/-! #### Strings and bools -/
def strOp (op : BinOp) (a b : ByteArray) : Option (Value × List Prop) := match op with
  | .add => some (.string (a ++ b), [a.size + b.size ≤ 9223372036854775807])
  | .eql => some (.bool (a.data.toList == b.data.toList), [])
  | .neq => some (.bool (!(a.data.toList == b.data.toList)), [])
  | .lss => some (.bool (Op.bytesLess a.data.toList b.data.toList), [])
  | .leq => some (.bool (Op.bytesLess a.data.toList b.data.toList || a.data.toList == b.data.toList), [])
  | .gtr => some (.bool (!(Op.bytesLess a.data.toList b.data.toList || a.data.toList == b.data.toList)), [])
  | .geq => some (.bool (!(Op.bytesLess a.data.toList b.data.toList)), [])
  | _ => none
theorem ok_str {op : BinOp} {xt yt : TypeId} {x y : Operand} {m n : ByteArray} {v : Value} {cs : List Prop} (hi : opIn k.nt (.binOp op xt x y yt) = true) (hx : evO s x = .d (.v (.string m))) (hy : evO s y = .d (.v (.string n)))
    (h : strOp op m n = some (v, cs)) : OpOk E k (.binOp op xt x y yt) ty s { val := .d (.v v), cond := cs } := by
  refine .pure cs none fun hc c Im ρ F H a w o _ hn S ho _ hF _ => ?_
  have h1 := opIn_ev (x := x) S hn hi hF (by simp [Op.operands])
  have h2 := opIn_ev (x := y) S hn hi hF (by simp [Op.operands])
  rw [hx] at h1
  rw [hy] at h2
  have hg : (eqGuard op xt x y (.string m) (.string n)).run E.P w = .ok () w := by
    unfold eqGuard
    split <;> simp
  cases op <;> simp only [strOp] at h <;> cases h
  all_goals
    simp only [AllL] at hc
  case add =>
    have hb := hc.1
    exact ⟨_, by simp [execOp, ho, h1.v, h2.v, hg, binOp, Op.stringOp]; omega, RA.intv _ rfl⟩
  all_goals exact ⟨_, by simp [execOp, ho, h1.v, h2.v, hg, binOp, Op.stringOp, ByteArray.toList_eq], RA.intv _ rfl⟩

theorem run_equalIn_bool {P : Program} {w : World} (d : Nat) {t : TypeId} {a b : Bool} (hu : P.underlying t = some .bool) : (Op.equalIn (d + 1) t (.bool a) (.bool b)).run P w = .ok (a == b) w := by
  simp [Op.equalIn, run_underlying hu]
theorem run_equal_bool {P : Program} {w : World} {t : TypeId} {a b : Bool} (hu : P.underlying t = some .bool) : (Op.equal t (.bool a) (.bool b)).run P w = .ok (a == b) w := run_equalIn_bool 9999 hu

theorem ok_booleq {op : BinOp} {xt yt : TypeId} {x y : Operand} {m n r : Bool} (hi : opIn k.nt (.binOp op xt x y yt) = true) (hx : evO s x = .d (.v (.bool m))) (hy : evO s y = .d (.v (.bool n)))
    (hu : E.P.underlying xt = some .bool) (h : (op = .eql ∧ r = (m == n)) ∨ (op = .neq ∧ r = !(m == n))) : OpOk E k (.binOp op xt x y yt) ty s { val := .d (.v (.bool r)) } := by
  refine .pure [] none fun hc c Im ρ F H a w o _ hn S ho _ hF _ => ?_
  have h1 := opIn_ev (x := x) S hn hi hF (by simp [Op.operands])
  have h2 := opIn_ev (x := y) S hn hi hF (by simp [Op.operands])
  rw [hx] at h1
  rw [hy] at h2
  have hq := run_equal_bool (w := w) (a := m) (b := n) hu
  refine ⟨.bool r, ?_, RA.intv _ rfl⟩
  rcases h with ⟨rfl, rfl⟩ | ⟨rfl, rfl⟩
  · simp [execOp, ho, h1.v, h2.v, eqGuard, binOp, hq]
  · simp [execOp, ho, h1.v, h2.v, eqGuard, binOp, hq]

end ops
end Go.Ax
