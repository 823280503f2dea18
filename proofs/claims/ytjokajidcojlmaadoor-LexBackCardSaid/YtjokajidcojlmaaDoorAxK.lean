/- Abstract execution, part K: new buffers by append, pieces of texts and slices, conversions, closures. -/
import Derived.Test.YtjokajidcojlmaaDoorAxJ
namespace Go.Ax

/-- A slice that is told: its elements. -/
def slOf (sz : Nat) : AV → Option (Bool × List (List D))
  | .d (.sl t z els) => match Nat.beq z sz with
    | true => some (t, els)
    | false => none
  | .d (.v (.slice none 0 0)) => some (true, [])
  | _ => none
theorem slOf_ok {h : Nat → Option Obj} {Im : Nat → Prop} {ρ : Nat → Option Loc} {sz : Nat} {v : Value} {x : AV} {t : Bool} {els : List (List D)} (hx : slOf sz x = some (t, els)) (H : RA h Im ρ v x) : RD h Im v (.sl t sz els) := by
  unfold slOf at hx
  split at hx
  · rename_i t' z els'
    cases hb : Nat.beq z sz with
    | true => simp only [hb] at hx; injection hx with hx; injection hx with h1 h2; subst h1; subst h2; have := Nat.eq_of_beq_eq_true hb; subst this; exact H.d_inv
    | false => simp [hb] at hx
  · injection hx with hx; injection hx with h1 h2; subst h1; subst h2
    rw [H.v]; exact .nil true sz none 0 (fun _ => rfl)
  · simp at hx

section ops
variable {E : Env} {k : Kn} {ty : TypeId} {s : St}

/-- Append to a literal or to nothing: a new buffer. -/
theorem ok_append_new {t e : TypeId} {x y : Operand} {i ei : TI} {d sz : Nat} {els els2 : List (List D)} {tight : Bool} (hi : opIn k.nt (appCall x y t) = true) (ht : tiOf E.P t = some i) (hk : i.k = .slice e) (he : tiOf E.P e = some ei) (hsz : ei.size = sz) (hz : ei.zero.length = ei.size) (hpos : 0 < sz) (hby : 0 < ei.bytes)
    (hx : slOf sz (evO s x) = some (true, els)) (hy : slOf sz (evO s y) = some (tight, els2)) (hne : els = []) :
    OpOk E k (appCall x y t) ty s { val := .msl d (els.length + els2.length) 0 (els.length + els2.length), wh := some (d, some (.buf sz e (els ++ els2))), new := some d, cond := [(els.length + els2.length) * ei.bytes ≤ 140737488355328] } := by
  intro c Im ρ F H a w o ok hnt ha S ho hty hF hH hnew hc
  obtain ⟨c2, _⟩ := hc
  have h2 := slOf_ok hx (opIn_ev (x := x) S hnt hi hF (by simp [Op.operands, appCall, Call.operands]))
  have h3 := slOf_ok hy (opIn_ev (x := y) S hnt hi hF (by simp [Op.operands, appCall, Call.operands]))
  subst hne
  obtain ⟨inf, dd, z, g1, g2, g3, rfl⟩ := tiOf_spec ht
  cases dd <;> simp only [kindOf] at hk <;> cases hk
  obtain ⟨einf, ed, ez, f1, f2, f3, rfl⟩ := tiOf_spec he
  simp only at hz hsz c2 hby
  have hzs : ez.cells.size = sz := by rw [← hsz]; simpa using hz
  have hx0 : ∃ a0, a.eval x = .slice a0 0 0 := by
    generalize hv : a.eval x = v at h2
    cases h2 with
    | nil _ _ a0 cap hcap => exact ⟨a0, by rw [hcap rfl]⟩
    | sl _ _ _ b o cap f hs hb hle ht hc hr => exact ⟨_, by rw [ht rfl]; rfl⟩
  obtain ⟨a0, hx0⟩ := hx0
  by_cases h0 : els2 = []
  · subst h0
    obtain ⟨b2, c2, hy2⟩ := h3.slice
    have hrun := run_append_none (w := w) (ty := o.type) g2 f1 (base := a0) (b2 := b2) (n := 0) (cap := 0) (c := c2) (Nat.le_refl _)
    refine ⟨.slice a0 0 0, w, .inl (exec_append ho (by rw [hx0, hy2]; exact hrun)), Im, _, S.new (w' := w) (r := d) (l := { blk := none, isBuf := true, cap := 0, len := 0, sz, ad0 := a0 }) (o := .buf sz e []) (Grows.refl _ _) (hnew d rfl) (by simp [Loc.fp]) ⟨rfl, rfl, rfl, rfl, by simp, .inl ⟨rfl, rfl, rfl⟩⟩, .msl _ _ _ _ _ rfl fun l hl => ?_⟩
    rw [upd_same] at hl; injection hl with hl; subst hl
    simp [Loc.sub, Loc.addr]
  · have hm : 0 < els2.length := List.length_pos_iff.2 h0
    rcases h3.news hpos with ⟨cap, h0', _⟩ | ⟨ad, cap, news, hy2, n1, n2, n3, n4, n5⟩
    · exact absurd h0' h0
    · obtain ⟨v', w', l', k1, k2, k3, k4, k5, k6, k7, k8⟩ := fresh_append (E := E) (ty := o.type) (c := cap) (ρ := upd ρ d none) (els := []) (els2 := els2) (n := 0) (m := els2.length) (a0 := a0) (olds := []) g2 f1 f3 hsz hzs hby rfl rfl hm (by simpa using c2) (by simp) (by simp) (fun _ => rfl) n1 n2 (by simpa using n4) (by simp) n5 (fun b hb => (S.imn b hb).1)
      refine ⟨v', w', .inl (exec_append ho (by rw [hx0, hy2]; exact k1)), Im, _, S.new (r := d) (l := l') (o := .buf sz e ([] ++ els2)) k2 (hnew d rfl) (fun b hb => ?_) (k8.mono (fun _ h => h) (fun _ _ => rfl) (fun _ _ => rfl) (fun q hq => by simp [AObj.ment] at hq)), .msl _ _ _ _ _ (by rw [k7]; rfl) fun l1 hl1 => ?_⟩
      · rw [k3] at hb; simp at hb; subst hb; omega
      · rw [upd_same] at hl1; injection hl1 with hl1; subst hl1
        simp only [List.length_nil]
        exact ⟨by omega, fun _ => k7⟩

/-! #### Pieces -/
def intOf (s : St) : Option Operand → Option (Option Int)
  | none => some none
  | some x => match evO s x with
    | .d (.v (.int _ j)) => some (some j)
    | _ => none

theorem run_sliceBound {P : Program} {w : World} {k : IntKind} {j : Int} {y : Nat} {code : BoundsCode} (h0 : 0 ≤ j) (h1 : j ≤ y) : (Instr.sliceBound (.int k j) y code).run P w = .ok j.toNat w := by
  simp [Instr.sliceBound, asIntOf, h0, h1]

theorem sliceBounds_run {P : Program} {w : World} {a : Act} {lo hi : Option Operand} {jl jh : Option Int} {isS : Bool} {len cap : Nat} (hl : ∀ x, lo = some x → ∃ k j, jl = some j ∧ a.eval x = .int k j) (hh : ∀ x, hi = some x → ∃ k j, jh = some j ∧ a.eval x = .int k j) (hln : lo = none → jl = none) (hhn : hi = none → jh = none)
    (c1 : 0 ≤ jl.getD 0) (c2 : jl.getD 0 ≤ jh.getD len) (c3 : jh.getD len ≤ cap) : (Instr.sliceBounds isS len cap (lo.map a.eval) (hi.map a.eval) none).run P w = .ok ((jl.getD 0).toNat, (jh.getD len).toNat, cap) w := by
  cases hi with
  | none =>
    have := hhn rfl; subst this
    cases lo with
    | none => have := hln rfl; subst this; simp [Instr.sliceBounds]
    | some x =>
      obtain ⟨k, j, rfl, he⟩ := hl x rfl
      simp only [Option.getD_some, Option.getD_none] at c1 c2
      simp [Instr.sliceBounds, he, run_sliceBound c1 c2]
  | some y =>
    obtain ⟨k', j', rfl, he'⟩ := hh y rfl
    simp only [Option.getD_some] at c2 c3
    have h0 : 0 ≤ j' := by omega
    have r1 : ∀ code, (Instr.sliceBound (.int k' j') cap code).run P w = .ok j'.toNat w := fun code => run_sliceBound h0 c3
    cases lo with
    | none => have := hln rfl; subst this; simp [Instr.sliceBounds, he', r1]
    | some x =>
      obtain ⟨k, j, rfl, he⟩ := hl x rfl
      simp only [Option.getD_some] at c1 c2
      have r2 : ∀ code, (Instr.sliceBound (.int k j) j'.toNat code).run P w = .ok j.toNat w := fun code => run_sliceBound c1 (by omega)
      simp [Instr.sliceBounds, he', r1, he, r2]

theorem intOf_ev {c : Cx} {Im : Nat → Prop} {ρ : Nat → Option Loc} {F : Nat → AV} {H : Nat → Option AObj} {a : Act} {w : World} (S : Sim c Im ρ F H a w) {op : Op} (hn : c.nt = k.nt) (hi : opIn k.nt op = true) (hF : ∀ t ∈ opTmps op, lk t s.f = F t) {lo : Option Operand} {jl : Option Int} (h : intOf s lo = some jl) (hm : ∀ x, lo = some x → x ∈ op.operands.toList) :
    (∀ x, lo = some x → ∃ k j, jl = some j ∧ a.eval x = .int k j) ∧ (lo = none → jl = none) := by
  refine ⟨fun x hx => ?_, fun hx => ?_⟩
  · subst hx
    have h1 := opIn_ev (x := x) S hn hi hF (hm x rfl)
    simp only [intOf] at h
    split at h
    · rename_i kk j he
      rw [he] at h1
      injection h with h
      exact ⟨kk, j, h.symm, h1.v⟩
    · simp at h
  · subst hx; simp only [intOf] at h; injection h with h; exact h.symm

theorem ok_slice_str {t : TypeId} {x : Operand} {lo hi : Option Operand} {i : TI} {m : ByteArray} {jl jh : Option Int} (hin : opIn k.nt (.slice t x lo hi none) = true) (ht : tiOf E.P t = some i) (hk : i.k = .str) (hx : evO s x = .d (.v (.string m))) (hl : intOf s lo = some jl) (hh : intOf s hi = some jh) :
    OpOk E k (.slice t x lo hi none) ty s { val := .d (.v (.string (m.extract (jl.getD 0).toNat (jh.getD m.size).toNat))), cond := [0 ≤ jl.getD 0, jl.getD 0 ≤ jh.getD m.size, jh.getD m.size ≤ m.size] } :=
  .pure _ none fun hc c Im ρ F H a w o _ hn S ho _ hF _ => by
    have h1 := opIn_ev (x := x) S hn hin hF (by simp [Op.operands])
    rw [hx] at h1
    obtain ⟨l1, l2⟩ := intOf_ev S hn hin hF hl (by intro y hy; subst hy; simp [Op.operands])
    obtain ⟨h2, h3⟩ := intOf_ev S hn hin hF hh (by intro y hy; subst hy; simp [Op.operands])
    obtain ⟨inf, d, z, g1, g2, g3, rfl⟩ := tiOf_spec ht
    cases d <;> simp only [kindOf] at hk <;> cases hk
    have hb := sliceBounds_run (P := E.P) (w := w) (isS := false) l1 h2 l2 h3 hc.1 hc.2.1 hc.2.2.1
    exact ⟨_, by simp [execOp, ho, Instr.sliceAt, Instr.slice, run_underlying g2, h1.v, hb], RA.intv _ rfl⟩

theorem RD.piece {h : Nat → Option Obj} {Im : Nat → Prop} {v : Value} {tight : Bool} {sz : Nat} {els : List (List D)} (H : RD h Im v (.sl tight sz els)) : ∃ ad cap, v = .slice ad els.length cap ∧ els.length ≤ cap ∧ ∀ lo hi, lo ≤ hi → hi ≤ els.length → RD h Im (.slice (if cap = lo then ad else ad.map (·.add (lo * sz))) (hi - lo) (cap - lo)) (.sl false sz ((els.drop lo).take (hi - lo))) := by
  cases H with
  | nil _ _ a cap ht =>
    refine ⟨a, cap, rfl, Nat.zero_le _, fun lo hi h1 h2 => ?_⟩
    have h3 : hi = 0 := by simpa using h2
    subst h3
    have h4 : lo = 0 := by omega
    subst h4
    simp only [List.drop_nil, List.take_nil, Nat.sub_zero]
    exact .nil false sz _ _ (by simp)
  | sl _ _ _ b o cap f hs hb hle ht hc hr =>
    refine ⟨_, cap, rfl, hle, fun lo hi h1 h2 => ?_⟩
    by_cases he : hi = lo
    · subst he; rw [Nat.sub_self, List.take_zero]; exact .nil false sz _ _ (by simp)
    · rw [if_neg (by omega), Option.map_some, add_zero_spot]
      have hlen : ((els.drop lo).take (hi - lo)).length = hi - lo := by simp; omega
      have key := RD.sl (h := h) (Im := Im) false sz ((els.drop lo).take (hi - lo)) b (o + lo * sz) (cap - lo) (fun i j => f (lo + i) j) (fun el hel => hs el (List.mem_of_mem_drop (List.mem_of_mem_take hel))) hb (by rw [hlen]; omega) (by simp) (fun i j el x e1 e2 => by
        rw [List.getElem?_take] at e1
        split at e1
        · rw [List.getElem?_drop] at e1
          obtain ⟨ms, t, fz, k1, k2⟩ := hc _ j el x e1 e2
          exact ⟨ms, t, fz, k1, by rw [← k2]; congr 1; rw [Nat.add_mul]; omega⟩
        · simp at e1) (fun i j el x e1 e2 => by
        rw [List.getElem?_take] at e1
        split at e1
        · rw [List.getElem?_drop] at e1; exact hr _ j el x e1 e2
        · simp at e1)
      rwa [hlen] at key

theorem ok_slice_sl {t e : TypeId} {x : Operand} {lo hi : Option Operand} {i ei : TI} {tight : Bool} {sz : Nat} {els : List (List D)} {jl jh : Option Int} (hin : opIn k.nt (.slice t x lo hi none) = true) (ht : tiOf E.P t = some i) (hk : i.k = .slice e) (he : tiOf E.P e = some ei) (hsz : ei.size = sz)
    (hx : slOf sz (evO s x) = some (tight, els)) (hl : intOf s lo = some jl) (hh : intOf s hi = some jh) :
    OpOk E k (.slice t x lo hi none) ty s { val := .d (.sl false sz ((els.drop (jl.getD 0).toNat).take ((jh.getD els.length).toNat - (jl.getD 0).toNat))), cond := [0 ≤ jl.getD 0, jl.getD 0 ≤ jh.getD els.length, jh.getD els.length ≤ els.length] } :=
  .pure _ none fun hc c Im ρ F H a w o _ hn S ho _ hF _ => by
    have h1 := slOf_ok hx (opIn_ev (x := x) S hn hin hF (by simp [Op.operands]))
    obtain ⟨l1, l2⟩ := intOf_ev S hn hin hF hl (by intro y hy; subst hy; simp [Op.operands])
    obtain ⟨h2, h3⟩ := intOf_ev S hn hin hF hh (by intro y hy; subst hy; simp [Op.operands])
    obtain ⟨inf, d, z, g1, g2, g3, rfl⟩ := tiOf_spec ht
    cases d <;> simp only [kindOf] at hk <;> cases hk
    obtain ⟨c1, c2, c3, _⟩ := hc
    obtain ⟨ad, cap, hv, hle, hp⟩ := h1.piece
    have hb := sliceBounds_run (P := E.P) (w := w) (isS := true) (len := els.length) (cap := cap) l1 h2 l2 h3 c1 c2 (by omega)
    refine ⟨_, ?_, .d _ _ (hp (jl.getD 0).toNat (jh.getD els.length).toNat (by omega) (by omega))⟩
    simp [execOp, ho, Instr.sliceAt, Instr.slice, run_underlying g2, hv, hb, run_sizeOf he, hsz]

/-- A piece of a buffer. -/
theorem ok_slice_msl {t e : TypeId} {x : Operand} {lo hi : Option Operand} {i ei : TI} {sz r n len : Nat} {el : TypeId} {els : List (List D)} {jl jh : Option Int} (hin : opIn k.nt (.slice t x lo hi none) = true) (ht : tiOf E.P t = some i) (hk : i.k = .slice e) (he : tiOf E.P e = some ei) (hsz : ei.size = sz)
    (hx : evO s x = .msl r n 0 len) (hl : intOf s lo = some jl) (hh : intOf s hi = some jh) :
    OpOk E k (.slice t x lo hi none) ty s { val := .msl r n (jl.getD 0).toNat ((jh.getD len).toNat - (jl.getD 0).toNat), rh := some (r, .buf sz el els), cond := [n = els.length, len ≤ n, 0 ≤ jl.getD 0, jl.getD 0 ≤ jh.getD len, jh.getD len ≤ len] } :=
  .pure _ _ fun hc c Im ρ F H a w o _ hn S ho _ hF hH => by
    have h1 := opIn_ev (x := x) S hn hin hF (by simp [Op.operands])
    rw [hx] at h1
    obtain ⟨l1, l2⟩ := intOf_ev S hn hin hF hl (by intro y hy; subst hy; simp [Op.operands])
    obtain ⟨h2, h3⟩ := intOf_ev S hn hin hF hh (by intro y hy; subst hy; simp [Op.operands])
    obtain ⟨inf, d, z, g1, g2, g3, rfl⟩ := tiOf_spec ht
    cases d <;> simp only [kindOf] at hk <;> cases hk
    obtain ⟨c1, c2, c3, c4, c5, _⟩ := hc
    generalize hv : a.eval x = v at h1
    cases h1 with
    | msl _ _ _ _ _ _ hp =>
      obtain ⟨l, hl', hro, _⟩ := S.obj r _ (hH r _ rfl)
      have hlen := hro.2.2.2.1
      have hlsz := hro.2.2.1
      have hval := (hp l hl').2 (by omega)
      have hcap : els.length ≤ l.cap := by
        rcases hro.2.2.2.2.2 with ⟨_, h0, _⟩ | ⟨_, _, _, _, h0, _⟩
        · subst h0; simp
        · exact h0
      have hv2 : l.sub 0 len = .slice l.addr len l.cap := by
        simp only [Loc.sub, Nat.zero_mul]
        split
        · rename_i h; rw [h]
        · cases l.addr <;> simp [Addr.add]
      have hb := sliceBounds_run (P := E.P) (w := w) (isS := true) (len := len) (cap := l.cap) l1 h2 l2 h3 c3 c4 (by omega)
      refine ⟨l.sub (jl.getD 0).toNat ((jh.getD len).toNat - (jl.getD 0).toNat), ?_, .msl _ _ _ _ _ rfl fun q hq => ?_⟩
      · rw [hv2] at hval
        simp [execOp, ho, Instr.sliceAt, Instr.slice, run_underlying g2, hv, hval, hb, run_sizeOf he, hsz, Loc.sub, hlsz]
      · rw [hl'] at hq; injection hq with hq; subst hq
        exact ⟨by omega, fun _ => rfl⟩

/-! #### Conversions and closures -/
theorem ok_convert_int {src dst : TypeId} {x : Operand} {si di : TI} {sk ik dk : IntKind} {n : Int} (hi : opIn k.nt (.convert src dst x) = true) (hs : tiOf E.P src = some si) (hsk : si.k = .int sk) (hd : tiOf E.P dst = some di) (hdk : di.k = .int dk) (hx : evO s x = .d (.v (.int ik n))) :
    OpOk E k (.convert src dst x) ty s { val := .d (.v (.int dk (dk.wrap n))) } :=
  .pure [] none fun _ c Im ρ F H a w o _ hn S ho _ hF _ => by
    have h1 := opIn_ev (x := x) S hn hi hF (by simp [Op.operands])
    rw [hx] at h1
    obtain ⟨inf, d, z, g1, g2, g3, rfl⟩ := tiOf_spec hs
    cases d <;> simp only [kindOf] at hsk <;> cases hsk
    obtain ⟨inf2, d2, z2, f1, f2, f3, rfl⟩ := tiOf_spec hd
    cases d2 <;> simp only [kindOf] at hdk <;> cases hdk
    exact ⟨_, by simp [execOp, ho, convert, run_underlying g2, run_underlying f2, h1.v, Conv.intToInt], RA.intv _ rfl⟩
theorem ok_convert_str {src dst : TypeId} {x : Operand} {si di : TI} {m : ByteArray} (hi : opIn k.nt (.convert src dst x) = true) (hs : tiOf E.P src = some si) (hsk : si.k = .str) (hd : tiOf E.P dst = some di) (hdk : di.k = .str) (hx : evO s x = .d (.v (.string m))) :
    OpOk E k (.convert src dst x) ty s { val := .d (.v (.string m)) } :=
  .pure [] none fun _ c Im ρ F H a w o _ hn S ho _ hF _ => by
    have h1 := opIn_ev (x := x) S hn hi hF (by simp [Op.operands])
    rw [hx] at h1
    obtain ⟨inf, d, z, g1, g2, g3, rfl⟩ := tiOf_spec hs
    cases d <;> simp only [kindOf] at hsk <;> cases hsk
    obtain ⟨inf2, d2, z2, f1, f2, f3, rfl⟩ := tiOf_spec hd
    cases d2 <;> simp only [kindOf] at hdk <;> cases hdk
    exact ⟨_, by simp [execOp, ho, convert, run_underlying g2, run_underlying f2, h1.v], RA.intv _ rfl⟩

def evL (s : St) (xs : List Operand) : List AV := xs.map (evO s)
theorem ok_makeFunc {f : Fn} {first caps : Array Operand} (hi : opIn k.nt (.makeFunc f first caps) = true) : OpOk E k (.makeFunc f first caps) ty s { val := .clo f (evL s first.toList) (evL s caps.toList) } :=
  .pure [] none fun _ c Im ρ F H a w o _ hn S ho _ hF _ => by
    have key : ∀ (xs : Array Operand), (∀ x ∈ xs.toList, x ∈ (Op.makeFunc f first caps).operands.toList) → ∀ (i : Nat) (v : Value) (x : AV), (xs.map a.eval)[i]? = some v → (evL s xs.toList)[i]? = some x → RA (hp w) Im ρ v x := fun xs hxs i v x h1 h2 => by
      simp only [evL, List.getElem?_map, Option.map_eq_some_iff] at h2
      obtain ⟨y, hy, rfl⟩ := h2
      have : v = a.eval y := by
        have : xs[i]? = some y := by simpa using hy
        simpa [this] using h1.symm
      subst this
      exact opIn_ev S hn hi hF (hxs y (List.mem_of_getElem? hy))
    exact ⟨.func f (first.map a.eval) (caps.map a.eval), by simp [execOp, ho, Instr.makeFunc], .clo _ _ _ _ _ (by simp [evL]) (by simp [evL]) (key first fun x hx => by simp [Op.operands]; exact .inl (by simpa using hx)) (key caps fun x hx => by simp [Op.operands]; exact .inr (by simpa using hx))⟩

end ops
end Go.Ax
