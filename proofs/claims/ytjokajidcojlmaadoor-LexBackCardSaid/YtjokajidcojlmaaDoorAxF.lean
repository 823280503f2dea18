/- Abstract execution, part F: memory: loads, stores, fields, elements, new variables, appends. -/
import Derived.Test.YtjokajidcojlmaaDoorAxE
namespace Go.Ax

theorem add_zero_spot (b o j : Nat) : (⟨b, o, none⟩ : Addr).add j = ⟨b, o + j, none⟩ := by unfold Addr.add; split <;> simp_all

theorem run_isAgg {P : Program} {w : World} {t : TypeId} {i : TI} (h : tiOf P t = some i) : (isAgg t).run P w = .ok i.k.agg w := by
  obtain ⟨f, d, z, h1, h2, h3, rfl⟩ := tiOf_spec h
  unfold isAgg
  rw [Sem.run_bind, run_underlying h2 w]
  cases d <;> simp [kindOf, TK.agg]

theorem run_sizeOf {P : Program} {w : World} {t : TypeId} {i : TI} (h : tiOf P t = some i) : (sizeOf t).run P w = .ok i.size w := by
  obtain ⟨f, d, z, h1, h2, h3, rfl⟩ := tiOf_spec h
  simp [sizeOf, typeInfo, h1]

theorem run_loadVar_of {P : Program} {w : World} {t : TypeId} {i : TI} (hi : tiOf P t = some i) (h1 : i.k.agg = false → i.size = 1) (b off : Nat) (f : Nat → Value) (hc : ∀ j, j < i.size → w.cell? ⟨b, off + j, none⟩ = some (f j)) :
    (loadVar t ⟨b, off, none⟩).run P w = .ok (if i.k.agg then .agg ((List.range i.size).map f).toArray else f 0) w := by
  unfold loadVar
  rw [Sem.run_bind, run_isAgg hi]
  simp only [Result.andThen_ok]
  cases ha : i.k.agg with
  | true =>
    simp only [if_true, Sem.run_bind, run_sizeOf hi, Result.andThen_ok]
    rw [run_loadCells w ⟨b, off, none⟩ i.size f (fun j hj => by rw [add_zero_spot]; exact hc j hj)]
    simp
  | false =>
    have := hc 0 (by rw [h1 ha]; omega)
    simp only [Nat.add_zero] at this
    simp [this]

theorem cell_hp {w : World} {b j : Nat} {cs : Array Value} {t : TypeId} {fz : Nat × Nat} {v : Value} (h : hp w b = some (.cells cs t fz)) (hv : cs[j]? = some v) : w.cell? ⟨b, j, none⟩ = some v := by
  rw [cell_of_row w b j cs t fz h]; exact hv

/-! #### Reading -/
/-- A piece of the cells of data. -/
def cut (off n : Nat) (cs : List D) : List D := (cs.drop off).take n

theorem cut_get {off n j : Nat} {cs : List D} (hj : j < n) : (cut off n cs)[j]? = cs[off + j]? := by
  simp [cut, hj, List.getElem?_drop]
theorem cut_length {off n : Nat} {cs : List D} (h : off + n ≤ cs.length) : (cut off n cs).length = n := by simp [cut]; omega
theorem cut_all (cs : List D) : cut 0 cs.length cs = cs := by simp [cut]

/-- What a load of a type gives, of cells of data. -/
def loadD (i : TI) (esz : Nat) (cs : List D) (off : Nat) : AV := if i.k.agg then .dagg (cut off i.size cs) else .d (force i.k esz (cs.getD off (.v undef)))

theorem loadD_ok {P : Program} {w : World} {Im : Nat → Prop} {ρ : Nat → Option Loc} {t : TypeId} {i : TI} (hi : tiOf P t = some i) (h1 : i.k.agg = false → i.size = 1) {esz : Nat} {cs : List D} {off b o : Nat} (hl : off + i.size ≤ cs.length)
    (hk : i.k.agg = false → has i.k esz (cs.getD off (.v undef))) (hr : ∀ j x, off ≤ j → j < off + i.size → cs[j]? = some x → ∃ v, w.cell? ⟨b, o + j, none⟩ = some v ∧ RD (hp w) Im v x) :
    ∃ v, (loadVar t ⟨b, o + off, none⟩).run P w = .ok v w ∧ RA (hp w) Im ρ v (loadD i esz cs off) := by
  have hex : ∀ j, j < i.size → ∃ v, w.cell? ⟨b, o + off + j, none⟩ = some v ∧ RD (hp w) Im v (cs.getD (off + j) (.v undef)) := fun j hj => by
    obtain ⟨v, h2, h3⟩ := hr (off + j) (cs.getD (off + j) (.v undef)) (by omega) (by omega) (by simp [List.getD, List.getElem?_eq_getElem (show off + j < cs.length by omega)])
    exact ⟨v, by rw [Nat.add_assoc]; exact h2, h3⟩
  let f : Nat → Value := fun j => if h : j < i.size then Classical.choose (hex j h) else undef
  have hf : ∀ j, (h : j < i.size) → w.cell? ⟨b, o + off + j, none⟩ = some (f j) ∧ RD (hp w) Im (f j) (cs.getD (off + j) (.v undef)) := fun j h => by
    have := Classical.choose_spec (hex j h)
    simp only [f, h, dif_pos]; exact this
  refine ⟨_, run_loadVar_of hi h1 b (o + off) f (fun j hj => (hf j hj).1), ?_⟩
  unfold loadD
  cases ha : i.k.agg with
  | true =>
    simp only [if_true]
    refine .dagg _ _ (by simp [cut_length hl]) fun j v x hv hx => ?_
    have hj : j < i.size := by
      have := (List.getElem?_eq_some_iff.1 hx).1
      rwa [cut_length hl] at this
    have e1 : v = f j := by simpa [hj] using hv.symm
    have e2 : x = cs.getD (off + j) (.v undef) := by
      rw [cut_get hj] at hx
      simp [List.getD, hx]
    rw [e1, e2]; exact (hf j hj).2
  | false =>
    simp only [Bool.false_eq_true, if_false]
    have := (hf 0 (by rw [h1 ha]; omega)).2
    exact .d _ _ (this.force (hk ha))

/-- What a load of a type gives, of a variable's cells. -/
def allD : List AV → Option (List D)
  | [] => some []
  | .d x :: r => match allD r with
    | some l => some (x :: l)
    | none => none
  | _ :: _ => none
def mkAgg (l : List AV) : AV := match allD l with
  | some l' => .dagg l'
  | none => .agg l
theorem allD_spec : ∀ {l : List AV} {l' : List D}, allD l = some l' → l = l'.map AV.d
  | [], l', h => by simp [allD] at h; subst h; rfl
  | x :: r, l', h => by
    cases x <;> simp only [allD] at h <;> try (cases h; done)
    cases hr : allD r with
    | none => simp [hr] at h
    | some l => simp [hr] at h; subst h; simp [allD_spec hr]
theorem RA.d_inv {h : Nat → Option Obj} {Im : Nat → Prop} {ρ : Nat → Option Loc} {v : Value} {x : D} (H : RA h Im ρ v (.d x)) : RD h Im v x := by cases H; assumption
theorem RA.mkAgg {h : Nat → Option Obj} {Im : Nat → Prop} {ρ : Nat → Option Loc} {cs : Array Value} {l : List AV} (H : RA h Im ρ (.agg cs) (.agg l)) : RA h Im ρ (.agg cs) (mkAgg l) := by
  unfold Ax.mkAgg
  split
  · rename_i l' he
    have := allD_spec he
    subst this
    cases H with
    | agg _ _ hl hr =>
      refine .dagg cs l' (by simpa using hl) fun i v x h1 h2 => (hr i v (.d x) h1 ?_).d_inv
      simp [h2]
  · exact H

def loadA (i : TI) (cs : List AV) (off : Nat) : AV := if i.k.agg then mkAgg ((cs.drop off).take i.size) else cs.getD off .junk

theorem loadA_ok {P : Program} {w : World} {Im : Nat → Prop} {ρ : Nat → Option Loc} {t : TypeId} {i : TI} (hi : tiOf P t = some i) (h1 : i.k.agg = false → i.size = 1) {cs : List AV} {off b : Nat} (hl : off + i.size ≤ cs.length)
    (hr : ∀ (j : Nat) (x : AV), cs[j]? = some x → ∃ v, w.cell? ⟨b, j, none⟩ = some v ∧ RA (hp w) Im ρ v x) : ∃ v, (loadVar t ⟨b, off, none⟩).run P w = .ok v w ∧ RA (hp w) Im ρ v (loadA i cs off) := by
  have hex : ∀ j, j < i.size → ∃ v, w.cell? ⟨b, off + j, none⟩ = some v ∧ RA (hp w) Im ρ v (cs.getD (off + j) .junk) := fun j hj =>
    hr (off + j) (cs.getD (off + j) .junk) (by simp [List.getD, List.getElem?_eq_getElem (show off + j < cs.length by omega)])
  let f : Nat → Value := fun j => if h : j < i.size then Classical.choose (hex j h) else undef
  have hf : ∀ j, (h : j < i.size) → w.cell? ⟨b, off + j, none⟩ = some (f j) ∧ RA (hp w) Im ρ (f j) (cs.getD (off + j) .junk) := fun j h => by
    have := Classical.choose_spec (hex j h)
    simp only [f, h, dif_pos]; exact this
  refine ⟨_, run_loadVar_of hi h1 b off f (fun j hj => (hf j hj).1), ?_⟩
  unfold loadA
  cases ha : i.k.agg with
  | true =>
    simp only [if_true]
    refine RA.mkAgg (.agg _ _ (by simp; omega) fun j v x hv hx => ?_)
    have hj : j < i.size := by
      have := (List.getElem?_eq_some_iff.1 hx).1
      simp at this; omega
    have e1 : v = f j := by simpa [hj] using hv.symm
    have e2 : x = cs.getD (off + j) .junk := by
      rw [List.getElem?_take, if_pos hj, List.getElem?_drop] at hx
      simp [List.getD, hx]
    rw [e1, e2]; exact (hf j hj).2
  | false =>
    simp only [Bool.false_eq_true, if_false]
    exact (hf 0 (by rw [h1 ha]; omega)).2

section ops
variable {E : Env} {k : Kn} {ty : TypeId} {s : St}

theorem exec_load {P : Program} {a : Act} {w : World} {o : Oper} {t : TypeId} {x : Operand} {ad : Addr} {v : Value} (ho : o.op = .load t x) (hx : a.eval x = .pointer (some ad)) (h : (loadVar t ad).run P w = .ok v w) :
    (execOp a.eval o).run P w = .ok (.value v) w := by simp [execOp, ho, hx, Instr.loadAt, Instr.sureAddr, h]

/-- A load out of immutable memory. -/
theorem ok_load_ep {t : TypeId} {x : Operand} {i : TI} {esz : Nat} {cs : List D} (hi : opIn k.nt (.load t x) = true) (ht : tiOf E.P t = some i) (h1 : i.k.agg = false → i.size = 1) (hx : evO s x = .ep cs) :
    OpPure E k (.load t x) ty s { val := loadD i esz cs 0, cond := [i.size ≤ cs.length, i.k.agg = false → has i.k esz (cs.getD 0 (.v undef))] } :=
  .mk' _ none fun hc c Im ρ F H a w o _ hn S ho _ hF _ => by
    have h2 := opIn_ev (x := x) S hn hi hF (by simp [Op.operands])
    rw [hx] at h2
    generalize hv : a.eval x = v at h2
    cases h2 with
    | ep b o' _ f hb hcs hr =>
      obtain ⟨v, g1, g2⟩ := loadD_ok (ρ := ρ) (w := w) (Im := Im) (b := b) (o := o') (cs := cs) (off := 0) (esz := esz) ht h1 (by have := hc.1; omega) hc.2.1 (fun j x _ _ hj => by
        obtain ⟨ms, t', fz, e1, e2⟩ := hcs j x hj
        exact ⟨f j, cell_hp e1 e2, hr j x hj⟩)
      exact ⟨v, exec_load ho hv (by simpa using g1), g2⟩

/-- Out of a variable of data. -/
theorem ok_load_dvar {t : TypeId} {x : Operand} {i : TI} {esz r off nn : Nat} {cs : List D} (hi : opIn k.nt (.load t x) = true) (ht : tiOf E.P t = some i) (h1 : i.k.agg = false → i.size = 1) (hx : evO s x = .ptr r off) :
    OpPure E k (.load t x) ty s { val := loadD i esz cs off, rh := some (r, .dvar nn cs), cond := [off + i.size ≤ cs.length, i.k.agg = false → has i.k esz (cs.getD off (.v undef))] } :=
  .mk' _ _ fun hc c Im ρ F H a w o _ hn S ho _ hF hH => by
    have h2 := opIn_ev (x := x) S hn hi hF (by simp [Op.operands])
    rw [hx] at h2
    generalize hv : a.eval x = v at h2
    cases h2 with
    | ptr _ _ _ _ hp =>
      obtain ⟨l, hl, hro, _⟩ := S.obj r _ (hH r _ rfl)
      obtain ⟨_, b, hb, rfl⟩ := hp l hl
      obtain ⟨_, _, hcl, b', ms, t', hb', hm, hsz, hcell⟩ := hro
      rw [hb] at hb'; injection hb' with hb'; subst hb'
      obtain ⟨v, g1, g2⟩ := loadD_ok (ρ := ρ) (w := w) (Im := Im) (b := b) (o := 0) (cs := cs) (off := off) (esz := esz) ht h1 hc.1 hc.2.1 (fun j x _ _ hj => by
        have hjl : j < ms.size := by rw [hsz, ← hcl]; exact (List.getElem?_eq_some_iff.1 hj).1
        exact ⟨ms[j], by rw [Nat.zero_add]; exact cell_hp hm (by simp [hjl]), hcell j ms[j] (by simp [hjl]) x hj⟩)
      exact ⟨v, exec_load ho hv (by simpa using g1), g2⟩

/-- Out of a variable. -/
theorem ok_load_var {t : TypeId} {x : Operand} {i : TI} {r off : Nat} {cs : List AV} (hi : opIn k.nt (.load t x) = true) (ht : tiOf E.P t = some i) (h1 : i.k.agg = false → i.size = 1) (hx : evO s x = .ptr r off) (hl : off + i.size ≤ cs.length) :
    OpPure E k (.load t x) ty s { val := loadA i cs off, rh := some (r, .var cs) } :=
  .mk' _ _ fun hc c Im ρ F H a w o _ hn S ho _ hF hH => by
    have h2 := opIn_ev (x := x) S hn hi hF (by simp [Op.operands])
    rw [hx] at h2
    generalize hv : a.eval x = v at h2
    cases h2 with
    | ptr _ _ _ _ hp =>
      obtain ⟨l, hl', hro, _⟩ := S.obj r _ (hH r _ rfl)
      obtain ⟨_, b, hb, rfl⟩ := hp l hl'
      obtain ⟨_, _, b', ms, t', hb', hm, hsz, hcell⟩ := hro
      rw [hb] at hb'; injection hb' with hb'; subst hb'
      obtain ⟨v, g1, g2⟩ := loadA_ok (ρ := ρ) (w := w) (Im := Im) (b := b) (cs := cs) (off := off) ht h1 hl (fun j x hj => by
        have hjl : j < ms.size := by rw [hsz]; exact (List.getElem?_eq_some_iff.1 hj).1
        exact ⟨ms[j], cell_hp hm (by simp [hjl]), (hcell j ms[j] (by simp [hjl]) x hj).1⟩)
      exact ⟨v, exec_load ho hv g1, g2⟩

/-- Out of an element of a buffer. -/
theorem ok_load_mptr {t : TypeId} {x : Operand} {i : TI} {esz r n q j0 sz : Nat} {el : TypeId} {els : List (List D)} (hi : opIn k.nt (.load t x) = true) (ht : tiOf E.P t = some i) (h1 : i.k.agg = false → i.size = 1) (hx : evO s x = .mptr r n q j0) :
    OpPure E k (.load t x) ty s { val := loadD i esz (els.getD q []) j0, rh := some (r, .buf sz el els), cond := [n = els.length, q < els.length, j0 + i.size ≤ (els.getD q []).length, i.k.agg = false → has i.k esz ((els.getD q []).getD j0 (.v undef))] } :=
  .mk' _ _ fun hc c Im ρ F H a w o _ hn S ho _ hF hH => by
    have h2 := opIn_ev (x := x) S hn hi hF (by simp [Op.operands])
    rw [hx] at h2
    generalize hv : a.eval x = v at h2
    obtain ⟨c1, c2, c3, c4, _⟩ := hc
    cases h2 with
    | mptr _ _ _ _ _ _ hp =>
      obtain ⟨l, hl', hro, _⟩ := S.obj r _ (hH r _ rfl)
      obtain ⟨_, _, hsz, hlen, _, hown⟩ := hro
      obtain ⟨b, hb, rfl⟩ := (hp l hl').2 (by omega)
      rcases hown with ⟨h0, _⟩ | ⟨b', ms, hb', hm, _, _, _, hcell⟩
      · rw [hb] at h0; exact absurd h0 (by simp)
      · rw [hb] at hb'; injection hb' with hb'; subst hb'
        have hel : els[q]? = some (els.getD q []) := by simp [List.getD, List.getElem?_eq_getElem c2]
        obtain ⟨v, g1, g2⟩ := loadD_ok (ρ := ρ) (w := w) (Im := Im) (b := b) (o := q * sz) (cs := els.getD q []) (off := j0) (esz := esz) ht h1 c3 c4 (fun j x _ _ hj => by
          obtain ⟨v, e1, e2⟩ := hcell q j _ x hel hj
          exact ⟨v, cell_hp hm e1, e2⟩)
        exact ⟨v, exec_load ho hv (by rw [hsz]; exact g1), g2⟩

/-! #### Addresses -/
theorem ok_nilCheck_ptr {x : Operand} {r off : Nat} {ob : AObj} (hi : opIn k.nt (.nilCheck x) = true) (hx : evO s x = .ptr r off) : OpOk E k (.nilCheck x) ty s { val := .ptr r off, rh := some (r, ob) } :=
  .pure [] _ fun _ c Im ρ F H a w o _ hn S ho _ hF hH => by
    have h2 := opIn_ev (x := x) S hn hi hF (by simp [Op.operands])
    rw [hx] at h2
    refine ⟨a.eval x, ?_, h2⟩
    generalize hv : a.eval x = v at h2 ⊢
    cases h2 with
    | ptr _ _ _ _ hp =>
      obtain ⟨l, hl', _⟩ := S.obj r _ (hH r _ rfl)
      obtain ⟨_, b, _, rfl⟩ := hp l hl'
      simp [execOp, ho, hv]
theorem ok_nilCheck_ep {x : Operand} {cs : List D} (hi : opIn k.nt (.nilCheck x) = true) (hx : evO s x = .ep cs) : OpOk E k (.nilCheck x) ty s { val := .ep cs } :=
  .pure [] none fun _ c Im ρ F H a w o _ hn S ho _ hF hH => by
    have h2 := opIn_ev (x := x) S hn hi hF (by simp [Op.operands])
    rw [hx] at h2
    refine ⟨a.eval x, ?_, h2⟩
    generalize hv : a.eval x = v at h2 ⊢
    cases h2 with
    | ep b o' _ f hb hcs hr => simp [execOp, ho, hv]
theorem ok_nilCheck_clo {x : Operand} {f : FuncId} {fs cs : List AV} (hi : opIn k.nt (.nilCheck x) = true) (hx : evO s x = .clo (.func f) fs cs) : OpOk E k (.nilCheck x) ty s { val := .clo (.func f) fs cs } :=
  .pure [] none fun _ c Im ρ F H a w o _ hn S ho _ hF hH => by
    have h2 := opIn_ev (x := x) S hn hi hF (by simp [Op.operands])
    rw [hx] at h2
    refine ⟨a.eval x, ?_, h2⟩
    generalize hv : a.eval x = v at h2 ⊢
    cases h2 with
    | clo => simp [execOp, ho, hv]

theorem ep_drop {h : Nat → Option Obj} {Im : Nat → Prop} {ρ : Nat → Option Loc} {b o n : Nat} {cs : List D} {v : Value} (hv : v = .pointer (some ⟨b, o, none⟩)) (H : RA h Im ρ v (.ep cs)) : RA h Im ρ (.pointer (some ⟨b, o + n, none⟩)) (.ep (cs.drop n)) := by
  subst hv
  cases H with
  | ep _ _ _ f hb hcs hr =>
    refine .ep b (o + n) _ (fun j => f (n + j)) hb (fun j x hj => ?_) (fun j x hj => ?_)
    · rw [List.getElem?_drop] at hj
      obtain ⟨ms, t, fz, e1, e2⟩ := hcs _ x hj
      exact ⟨ms, t, fz, e1, by rw [Nat.add_assoc]; exact e2⟩
    · rw [List.getElem?_drop] at hj
      exact hr _ x hj

/-- Where a field lies. -/
def fieldOff (i : TI) (f : Nat) : Option (Nat × TypeId) := match i.k with
  | .struct fs => fs[f]?
  | _ => none

theorem run_fieldAt {P : Program} {w : World} {t : TypeId} {i : TI} {f off : Nat} {ft : TypeId} {fi : TI} (hi : tiOf P t = some i) (hf : fieldOff i f = some (off, ft)) (hfi : tiOf P ft = some fi) (hs : fi.size ≠ 0) (ad : Addr) :
    (Instr.fieldAt t (.pointer (some ad)) f).run P w = .ok (.pointer (some (ad.add off))) w := by
  obtain ⟨inf, d, z, h1, h2, h3, rfl⟩ := tiOf_spec hi
  cases d <;> simp only [kindOf, fieldOff] at hf <;> try (cases hf; done)
  rename_i fs
  simp only [List.getElem?_map, Option.map_eq_some_iff] at hf
  obtain ⟨fd, hfd, he⟩ := hf
  simp only [Prod.mk.injEq] at he
  obtain ⟨rfl, rfl⟩ := he
  have hfd' : fs[f]? = some fd := by simpa using hfd
  simp [Instr.fieldAt, run_underlying h2, hfd', Instr.sureAddr, fieldPlace, run_sizeOf hfi, hs]

theorem ok_fieldAddr_ptr {t : TypeId} {x : Operand} {i fi : TI} {f off r q : Nat} {ft : TypeId} {ob : AObj} (hi : opIn k.nt (.fieldAddr t x f) = true) (ht : tiOf E.P t = some i) (hf : fieldOff i f = some (off, ft)) (hfi : tiOf E.P ft = some fi) (hs : fi.size ≠ 0)
    (hx : evO s x = .ptr r q) : OpOk E k (.fieldAddr t x f) ty s { val := .ptr r (q + off), rh := some (r, ob) } :=
  .pure [] _ fun _ c Im ρ F H a w o _ hn S ho _ hF hH => by
    have h2 := opIn_ev (x := x) S hn hi hF (by simp [Op.operands])
    rw [hx] at h2
    generalize hv : a.eval x = v at h2
    cases h2 with
    | ptr _ _ _ _ hp =>
      obtain ⟨l, hl', _⟩ := S.obj r _ (hH r _ rfl)
      obtain ⟨h5, b, h6, rfl⟩ := hp l hl'
      refine ⟨.pointer (some ⟨b, q + off, none⟩), ?_, .ptr _ _ _ rfl fun l1 hl1 => ?_⟩
      · simp [execOp, ho, hv, run_fieldAt ht hf hfi hs, add_zero_spot]
      · rw [hl'] at hl1; injection hl1 with hl1; subst hl1
        exact ⟨h5, b, h6, rfl⟩
theorem ok_fieldAddr_ep {t : TypeId} {x : Operand} {i fi : TI} {f off : Nat} {ft : TypeId} {cs : List D} (hi : opIn k.nt (.fieldAddr t x f) = true) (ht : tiOf E.P t = some i) (hf : fieldOff i f = some (off, ft)) (hfi : tiOf E.P ft = some fi) (hs : fi.size ≠ 0)
    (hx : evO s x = .ep cs) : OpOk E k (.fieldAddr t x f) ty s { val := .ep (cs.drop off) } :=
  .pure [] none fun _ c Im ρ F H a w o _ hn S ho _ hF hH => by
    have h2 := opIn_ev (x := x) S hn hi hF (by simp [Op.operands])
    rw [hx] at h2
    generalize hv : a.eval x = v at h2
    cases h2 with
    | ep b o' _ g hb hcs hr =>
      exact ⟨.pointer (some ⟨b, o' + off, none⟩), by simp [execOp, ho, hv, run_fieldAt ht hf hfi hs, add_zero_spot], ep_drop rfl (.ep b o' cs g hb hcs hr)⟩
theorem ok_fieldAddr_mptr {t : TypeId} {x : Operand} {i fi : TI} {f off r n q j sz : Nat} {ft el : TypeId} {els : List (List D)} (hi : opIn k.nt (.fieldAddr t x f) = true) (ht : tiOf E.P t = some i) (hf : fieldOff i f = some (off, ft)) (hfi : tiOf E.P ft = some fi) (hs : fi.size ≠ 0)
    (hx : evO s x = .mptr r n q j) : OpOk E k (.fieldAddr t x f) ty s { val := .mptr r n q (j + off), rh := some (r, .buf sz el els), cond := [n = els.length] } :=
  .pure _ _ fun hc c Im ρ F H a w o _ hn S ho _ hF hH => by
    have h2 := opIn_ev (x := x) S hn hi hF (by simp [Op.operands])
    rw [hx] at h2
    generalize hv : a.eval x = v at h2
    cases h2 with
    | mptr _ _ _ _ _ _ hp =>
      obtain ⟨l, hl', hro, _⟩ := S.obj r _ (hH r _ rfl)
      have hlen := hro.2.2.2.1
      obtain ⟨b, h6, rfl⟩ := (hp l hl').2 (by have := hc.1; omega)
      refine ⟨.pointer (some ⟨b, q * l.sz + (j + off), none⟩), ?_, .mptr _ _ _ _ _ rfl fun l1 hl1 => ?_⟩
      · simp [execOp, ho, hv, run_fieldAt ht hf hfi hs, add_zero_spot, Nat.add_assoc]
      · rw [hl'] at hl1; injection hl1 with hl1; subst hl1
        exact ⟨(hp l hl').1, fun _ => ⟨b, h6, rfl⟩⟩

end ops
end Go.Ax
