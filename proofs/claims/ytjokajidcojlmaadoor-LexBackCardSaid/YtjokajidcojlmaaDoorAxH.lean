/- Abstract execution, part H: boxes, built values, slices of literals, stores, appends, pieces. -/
import Derived.Test.YtjokajidcojlmaaDoorAxG
namespace Go.Ax

def AV.one : AV → Bool
  | .junk | .agg _ | .dagg _ | .tup _ => false
  | _ => true
theorem RA.oneV {h : Nat → Option Obj} {Im : Nat → Prop} {ρ : Nat → Option Loc} {v : Value} {x : AV} (H : RA h Im ρ v x) (hx : x.one = true) : v.oneCell' = true := by
  cases H <;> first | (simp [AV.one] at hx; done) | assumption | rfl | skip
  rename_i hd; exact hd.one

/-- A variable's object of the cells of a value. -/
def objOf : AV → AObj
  | .dagg cs => .dvar cs.length cs
  | .d x => .dvar 1 [x]
  | x => .var x.cells
def okBox : AV → Bool
  | .junk | .tup _ => false
  | .agg cs => cs.all AV.one
  | _ => true

theorem okBox_one {x : AV} (h : okBox x = true) (hd : ∀ cs, x ≠ .dagg cs) : ∀ y ∈ x.cells, y.one = true := by
  cases x <;> simp only [AV.cells] <;> first | (simp [okBox] at h; done) | (simp [AV.one]; done) | (exact absurd rfl (hd _)) | (intro y hy; exact List.all_eq_true.1 h y hy)

theorem RO.box {w : World} {Im : Nat → Prop} {ρ : Nat → Option Loc} {v : Value} {x : AV} {b : Nat} {t : TypeId} (hb : hp w b = some (.cells v.cells t (0, 0))) (H : RA (hp w) Im ρ v x) (hx : okBox x = true) : RO (hp w) Im ρ { blk := some b } (objOf x) := by
  have gen : (∀ y ∈ x.cells, y.one = true) → x.hasCells = true → RO (hp w) Im ρ { blk := some b } (.var x.cells) := fun h1 h2 => by
    have h3 := H.cells h2
    refine ⟨rfl, rfl, b, v.cells, t, rfl, hb, by simpa using h3.1, fun i u hu y hy => ?_⟩
    have h4 := h3.2 i u y (by simpa using hu) hy
    exact ⟨h4, h4.oneV (h1 y (List.mem_of_getElem? hy))⟩
  cases x <;> simp only [objOf] <;> first | (simp [okBox] at hx; done) | (exact gen (okBox_one hx (by simp)) rfl) | skip
  · refine ⟨rfl, rfl, rfl, b, v.cells, t, rfl, hb, ?_, fun i u hu y hy => ?_⟩
    · rw [cells_one (H.oneV rfl)]; rfl
    · rw [cells_one (H.oneV rfl)] at hu
      cases i with
      | zero => simp at hu hy; subst hu; subst hy; exact H.d_inv
      | succ i => simp at hy
  · cases H with
    | dagg cs l hl hr => exact ⟨rfl, rfl, rfl, b, cs, t, rfl, hb, hl, fun i u hu y hy => hr i u y hu hy⟩

theorem RA.ext {h h' : Nat → Option Obj} {Im Im' : Nat → Prop} {ρ ρ' : Nat → Option Loc} {v : Value} {x : AV} (H : RA h Im ρ v x) (hI : ∀ b, Im b → Im' b) (hh : ∀ b, Im b → h' b = h b) (hρ : ∀ r, x.ment r = true → ρ' r = ρ r) : RA h' Im' ρ' v x :=
  H.mono hI hh fun r hr l' hl' => ⟨l', by rw [← hρ r hr]; exact hl', .inl rfl⟩

section ops
variable {E : Env} {k : Kn} {ty : TypeId} {s : St}

theorem ok_box {t : TypeId} {x : Operand} {y : AV} {d : Nat} (hi : opIn k.nt (.box t x) = true) (hx : evO s x = y) (hb : okBox y = true) (hm : y.ment d = false) : OpOk E k (.box t x) ty s { val := .ptr d 0, wh := some (d, some (objOf y)), new := some d } := by
  intro c Im ρ F H a w o ok hn ha S ho hty hF hH hnew hc
  have h2 := opIn_ev (x := x) S hn hi hF (by simp [Op.operands])
  rw [hx] at h2
  have hfp : ∀ b ∈ ({ blk := some w.heap.size } : Loc).fp, w.heap.size ≤ b ∧ b < (w.alloc (.cells (a.eval x).cells t)).heap.size := fun b hb => by
    simp [Loc.fp] at hb; subst hb; simp
  have hI : ∀ b, Im b → hp (w.alloc (.cells (a.eval x).cells t)) b = hp w b := fun b hb => heap_alloc_old w _ b (S.imn b hb).1
  refine ⟨.pointer (some ⟨w.heap.size, 0, none⟩), w.alloc (.cells (a.eval x).cells t), .inl ?_, Im, _, S.new (r := d) (l := { blk := some w.heap.size }) (o := objOf y) (Grows.alloc w _) (hnew d rfl) hfp ?_, .ptr _ _ _ rfl fun l hl => ?_⟩
  · simp [execOp, ho, Instr.box, newVar, newRow]
  · refine RO.box (w := w.alloc (.cells (a.eval x).cells t)) (v := a.eval x) (heap_alloc_new w _) (h2.ext (fun _ h => h) hI fun r hr => ?_) hb
    have hne : r ≠ d := fun e => by subst e; rw [hm] at hr; exact absurd hr (by simp)
    rw [upd_ne _ _ hne]
  · rw [upd_same] at hl; injection hl with hl; subst hl
    exact ⟨rfl, _, rfl, rfl⟩

/-! #### Built values -/
theorem foldl_set_splice (vs : List Value) : ∀ (off : Nat) (cs : Array Value), off + vs.length ≤ cs.size →
    ((vs.zipIdx.foldl (fun (cs : Array Value) (p : Value × Nat) => cs.setIfInBounds (off + p.2) p.1) cs)).toList = cs.toList.take off ++ vs ++ cs.toList.drop (off + vs.length) := by
  suffices h : ∀ (vs : List Value) (i off : Nat) (cs : Array Value), off + i + vs.length ≤ cs.size →
      (((vs.zipIdx i).foldl (fun (cs : Array Value) (p : Value × Nat) => cs.setIfInBounds (off + p.2) p.1) cs)).toList = cs.toList.take (off + i) ++ vs ++ cs.toList.drop (off + i + vs.length) by
    intro off cs hl; simpa using h vs 0 off cs (by simpa using hl)
  intro vs
  induction vs with
  | nil => intro i off cs _; simp
  | cons v rest ih =>
    intro i off cs hl
    simp only [List.zipIdx_cons, List.foldl_cons]
    rw [ih (i + 1) off (cs.setIfInBounds (off + i) v) (by simp at hl ⊢; omega)]
    have e := list_seg_step cs.toList (off + i) v rest (by simp at hl ⊢; omega)
    simpa [Array.toList_setIfInBounds, Nat.add_assoc] using e

/-- Parts laid into cells. -/
def fillD (place : Nat → Option (Nat × Nat)) (cells : List D) : List (Nat × List D) → Option (List D)
  | [] => some cells
  | (i, l) :: r => match place i with
    | none => none
    | some (off, _) => fillD place (splice cells l off) r
def fillC (place : Nat → Option (Nat × Nat)) (n : Nat) : List (Nat × List D) → Prop
  | [] => True
  | (i, l) :: r => (∃ off sz, place i = some (off, sz) ∧ l.length = sz ∧ off + sz ≤ n) ∧ fillC place n r

theorem fill_ok {R : Value → D → Prop} {place : Nat → Option (Nat × Nat)} : ∀ {ps : List (Nat × List D)} {vs : List (Nat × Value)} {cells : List D} {ms : Array Value} {n : Nat} {out : List D}, fillD place cells ps = some out → fillC place n ps → ms.size = n → Rel2 R ms.toList cells →
    vs.length = ps.length → (∀ (i : Nat) (p : Nat × List D) (v : Nat × Value), ps[i]? = some p → vs[i]? = some v → v.1 = p.1 ∧ Rel2 R v.2.cells.toList p.2) → ∃ ms', Instr.fill place ms vs = some ms' ∧ ms'.size = n ∧ Rel2 R ms'.toList out
  | [], [], cells, ms, n, out, h, _, hn, hr, _, _ => by simp [fillD] at h; subst h; exact ⟨ms, rfl, hn, hr⟩
  | [], v :: vs, _, _, _, _, _, _, _, _, hl, _ => by simp at hl
  | p :: ps, [], _, _, _, _, _, _, _, _, hl, _ => by simp at hl
  | (i, l) :: ps, (i', v) :: vs, cells, ms, n, out, h, hc, hn, hr, hl, hv => by
    obtain ⟨⟨off, sz, hp, hsz, hfit⟩, hc'⟩ := hc
    obtain ⟨e1, e2⟩ := hv 0 (i, l) (i', v) rfl rfl
    simp only at e1; subst e1
    simp only [fillD, hp] at h
    have hvl : v.cells.size = sz := by have := e2.1; simp at this; omega
    have hsp := foldl_set_splice v.cells.toList off ms (by simp; omega)
    have hr' := hr.splice e2 off
    rw [← hsp] at hr'
    obtain ⟨ms', g1, g2, g3⟩ := fill_ok (vs := vs) (ms := (v.cells.toList.zipIdx.foldl (fun (cs : Array Value) (p : Value × Nat) => cs.setIfInBounds (off + p.2) p.1) ms)) h hc' (by
      have : ((v.cells.toList.zipIdx.foldl (fun (cs : Array Value) (p : Value × Nat) => cs.setIfInBounds (off + p.2) p.1) ms)).toList.length = n := by rw [hsp]; simp; omega
      simpa using this) hr' (by simpa using hl) (fun j p u h1 h2 => hv (j + 1) p u (by simpa using h1) (by simpa using h2))
    refine ⟨ms', ?_, g2, g3⟩
    have hcond : ¬ (v.cells.size ≠ sz ∨ off + v.cells.size > ms.size) := by omega
    simp only [Instr.fill, hp]
    rw [if_neg (by simpa using hcond)]
    rw [← g1]
    congr 1
    rw [← Array.foldl_toList]
    simp

/-- The pure cells of a value. -/
def dcells : AV → Option (List D)
  | .d x => some [x]
  | .dagg cs => some cs
  | _ => none
theorem dcells_ok {h : Nat → Option Obj} {Im : Nat → Prop} {ρ : Nat → Option Loc} {v : Value} {x : AV} {l : List D} (H : RA h Im ρ v x) (hx : dcells x = some l) : Rel2 (RD h Im) v.cells.toList l := by
  cases x <;> simp only [dcells] at hx <;> cases hx
  · rw [cells_one (H.oneV rfl)]; exact .single H.d_inv
  · cases H with
    | dagg cs l hl hr => exact ⟨by simpa [Value.cells] using hl, fun i u y h1 h2 => hr i u y (by simpa [Value.cells] using h1) h2⟩

def partsD (s : St) : List (Nat × Operand) → Option (List (Nat × List D))
  | [] => some []
  | (i, x) :: r => match dcells (evO s x), partsD s r with
    | some l, some l' => some ((i, l) :: l')
    | _, _ => none

theorem partsD_spec {s : St} : ∀ {ps : List (Nat × Operand)} {l : List (Nat × List D)}, partsD s ps = some l → l.length = ps.length ∧ ∀ (i : Nat) (p : Nat × Operand) (q : Nat × List D), ps[i]? = some p → l[i]? = some q → q.1 = p.1 ∧ dcells (evO s p.2) = some q.2
  | [], l, h => by simp [partsD] at h; subst h; exact ⟨rfl, by simp⟩
  | (i, x) :: r, l, h => by
    simp only [partsD] at h
    split at h
    · rename_i l1 l2 h1 h2
      injection h with h; subst h
      obtain ⟨g1, g2⟩ := partsD_spec h2
      refine ⟨by simp [g1], fun j p q hp hq => ?_⟩
      cases j with
      | zero => simp at hp hq; subst hp; subst hq; exact ⟨rfl, h1⟩
      | succ j => exact g2 j p q (by simpa using hp) (by simpa using hq)
    · simp at h

/-- The places of a struct's fields, an array's elements. -/
def placeOf (tab : List (Nat × TI)) (i : TI) (j : Nat) : Option (Nat × Nat) := match i.k with
  | .struct fs => match fs[j]? with
    | some (off, t) => match lkT t tab with
      | some ti => some (off, ti.size)
      | none => none
    | none => none
  | .array _ e => match lkT e tab with
    | some ti => some (j * ti.size, ti.size)
    | none => none
  | _ => none

theorem run_mapM_places {P : Program} {w : World} {tab : List (Nat × TI)} (ht : TabOk P tab) : ∀ (fs : List Field), (∀ f ∈ fs, ∃ ti, lkT f.type tab = some ti) →
    (fs.mapM (m := Sem) fun (f : Field) => do pure (f.offset, ← sizeOf f.type)).run P w = .ok (fs.map fun f => (f.offset, ((lkT f.type tab).map (·.size)).getD 0)) w
  | [], _ => by simp
  | f :: fs, h => by
    obtain ⟨ti, hti⟩ := h f (by simp)
    have ih := run_mapM_places (w := w) ht fs fun g hg => h g (by simp [hg])
    simp only [List.mapM_cons, Sem.run_bind, run_sizeOf (ht.at hti), Result.andThen_ok, Sem.run_pure, ih, List.map_cons, hti, Option.map_some, Option.getD_some]

theorem ok_build_struct {tab : List (Nat × TI)} (htab : TabOk E.P tab) {t : TypeId} {parts : Array (Nat × Operand)} {i : TI} {fs : List (Nat × TypeId)} {ps : List (Nat × List D)} {out : List D} (hi : opIn k.nt (.build t parts) = true) (ht : lkT t tab = some i) (hk : i.k = .struct fs)
    (hall : fs.all (fun p => (lkT p.2 tab).isSome) = true) (hz : i.zero.all (·.oneCell') = true) (hps : partsD s parts.toList = some ps) (ho : fillD (placeOf tab i) (i.zero.map .v) ps = some out) :
    OpOk E k (.build t parts) ty s { val := .dagg out, cond := [fillC (placeOf tab i) i.zero.length ps] } :=
  .pure _ none fun hc c Im ρ F H a w o _ hn S ho' _ hF _ => by
    have hti := htab.at ht
    obtain ⟨inf, d, z, g1, g2, g3, he⟩ := tiOf_spec hti
    have hk' : kindOf d = .struct fs := by rw [he] at hk; exact hk
    cases d <;> simp only [kindOf] at hk' <;> cases hk'
    rename_i flds
    obtain ⟨hlen, hspec⟩ := partsD_spec hps
    have hzl : i.zero = z.cells.toList := by rw [he]
    have hzr : Rel2 (RD (hp w) Im) z.cells.toList (i.zero.map .v) := by
      refine ⟨by simp [hzl], fun j v x hv hx => ?_⟩
      simp only [List.getElem?_map, Option.map_eq_some_iff] at hx
      obtain ⟨u, hu, rfl⟩ := hx
      rw [hzl, hv] at hu; injection hu with hu; subst hu
      exact .v _ (List.all_eq_true.1 hz v (by rw [hzl]; exact List.mem_of_getElem? hv))
    have hplace : placeOf tab i = fun j => ((flds.toList.map fun (f : Field) => (f.offset, ((lkT f.type tab).map (·.size)).getD 0)).toArray)[j]? := by
      funext j
      simp only [placeOf, hk, List.getElem?_map]
      have : ((flds.toList.map fun (f : Field) => (f.offset, ((lkT f.type tab).map (·.size)).getD 0)).toArray)[j]? = (flds.toList[j]?).map fun (f : Field) => (f.offset, ((lkT f.type tab).map (·.size)).getD 0) := by simp
      rw [this]
      cases hj : flds.toList[j]? with
      | none => simp
      | some f =>
        have hm : (f.offset, f.type) ∈ flds.toList.map fun f => (f.offset, f.type) := List.mem_map.2 ⟨f, List.mem_of_getElem? hj, rfl⟩
        have := List.all_eq_true.1 hall _ hm
        simp only [Option.map_some]
        cases hq : lkT f.type tab with
        | none => simp [hq] at this
        | some ti => simp
    obtain ⟨ms, f1, f2, f3⟩ := fill_ok (R := RD (hp w) Im) (place := placeOf tab i) (ps := ps) (vs := (parts.map fun (j, x) => (j, a.eval x)).toList) (cells := i.zero.map .v) (ms := z.cells) (n := i.zero.length) ho hc.1 (by rw [hzl]; simp) hzr (by simp [hlen]) (fun j p v hp1 hv1 => by
      have hpl : j < parts.toList.length := by rw [← hlen]; exact (List.getElem?_eq_some_iff.1 hp1).1
      have hpj : parts.toList[j]? = some parts.toList[j] := List.getElem?_eq_getElem hpl
      obtain ⟨e1, e2⟩ := hspec j _ p hpj hp1
      have hv2 : v = ((parts.toList[j]).1, a.eval (parts.toList[j]).2) := by
        have : (parts.map fun (j, x) => (j, a.eval x)).toList[j]? = (parts.toList[j]?).map fun p => (p.1, a.eval p.2) := by simp
        rw [this, hpj] at hv1; simpa using hv1.symm
      subst hv2
      refine ⟨e1.symm, dcells_ok (opIn_ev (x := (parts.toList[j]).2) S hn hi hF ?_) e2⟩
      simp only [Op.operands, List.mem_map]
      exact ⟨parts.toList[j], List.getElem_mem hpl, rfl⟩)
    refine ⟨.agg ms, ?_, .dagg ms out (by have := f3.1; simpa using this) fun j v x h1 h2 => f3.2 j v x (by simpa using h1) h2⟩
    have hm : ∀ f ∈ flds.toList, ∃ ti, lkT f.type tab = some ti := fun f hf => by
      have := List.all_eq_true.1 hall (f.offset, f.type) (List.mem_map.2 ⟨f, hf, rfl⟩)
      cases hq : lkT f.type tab with
      | none => simp [hq] at this
      | some ti => exact ⟨ti, rfl⟩
    have hmap : (flds.mapM (m := Sem) fun (f : Field) => do pure (f.offset, ← sizeOf f.type)).run E.P w = .ok (flds.toList.map fun f => (f.offset, ((lkT f.type tab).map (·.size)).getD 0)).toArray w := by
      rw [Array.mapM_eq_mapM_toList, Sem.run_map, run_mapM_places htab flds.toList hm]; rfl
    rw [hplace] at f1
    simp only [execOp, ho', Instr.build, Sem.run_bind, zeroValue, typeInfo, g1, g3, Result.andThen_ok, run_underlying g2, hmap, run_program, Sem.run_pure]
    rw [f1]
    simp

end ops
end Go.Ax
