/- Abstract execution, part I: slices of literals, stores, appends, pieces, conversions, closures. -/
import Derived.Test.YtjokajidcojlmaaDoorAxH
namespace Go.Ax

section ops
variable {E : Env} {k : Kn} {ty : TypeId} {s : St}

/-! #### A slice out of a literal -/
def partsS (s : St) (sz : Nat) : Nat → List (Nat × Operand) → Option (List (List D))
  | _, [] => some []
  | j, (i, x) :: r => match Nat.beq i j, dcells (evO s x), partsS s sz (j + 1) r with
    | true, some l, some l' => some (l :: l')
    | _, _, _ => none

theorem partsS_spec {s : St} {sz : Nat} : ∀ {ps : List (Nat × Operand)} {j : Nat} {l : List (List D)}, partsS s sz j ps = some l → l.length = ps.length ∧ ∀ (i : Nat) (p : Nat × Operand) (q : List D), ps[i]? = some p → l[i]? = some q → p.1 = j + i ∧ dcells (evO s p.2) = some q
  | [], j, l, h => by simp [partsS] at h; subst h; exact ⟨rfl, by simp⟩
  | (i, x) :: r, j, l, h => by
    simp only [partsS] at h
    split at h
    · rename_i l1 l2 h0 h1 h2
      injection h with h; subst h
      obtain ⟨g1, g2⟩ := partsS_spec h2
      refine ⟨by simp [g1], fun m p q hp hq => ?_⟩
      cases m with
      | zero => simp at hp hq; subst hp; subst hq; exact ⟨Nat.eq_of_beq_eq_true h0, h1⟩
      | succ m =>
        obtain ⟨e1, e2⟩ := g2 m p q (by simpa using hp) (by simpa using hq)
        exact ⟨by omega, e2⟩
    · simp at h

/-- All rows laid one behind the other: the cells that the machine lays. -/
theorem fill_rows {R : Value → D → Prop} {sz : Nat} : ∀ {els : List (List D)} {vs : List (Nat × Value)} {j : Nat} {ms : Array Value}, vs.length = els.length → (∀ (i : Nat) (v : Nat × Value) (q : List D), vs[i]? = some v → els[i]? = some q → v.1 = j + i ∧ Rel2 R v.2.cells.toList q) →
    (∀ q ∈ els, q.length = sz) → (j + els.length) * sz ≤ ms.size → ∃ ms', Instr.fill (fun i => some (i * sz, sz)) ms vs = some ms' ∧ ms'.size = ms.size ∧ (∀ i, i < j * sz → ms'[i]? = ms[i]?) ∧
      ∀ i m q x, els[i]? = some q → q[m]? = some x → ∃ v, ms'[(j + i) * sz + m]? = some v ∧ R v x
  | [], vs, j, ms, hl, hv, hs, hz => by
    have : vs = [] := List.eq_nil_of_length_eq_zero (by simpa using hl)
    subst this
    exact ⟨ms, rfl, rfl, fun _ _ => rfl, by simp⟩
  | q :: els, [], j, ms, hl, _, _, _ => by simp at hl
  | q :: els, (i', v) :: vs, j, ms, hl, hv, hs, hz => by
    obtain ⟨e1, e2⟩ := hv 0 (i', v) q rfl rfl
    simp only [Nat.add_zero] at e1
    have e1 : j = i' := e1.symm
    subst e1
    have hq : q.length = sz := hs q (by simp)
    have hvl : v.cells.size = sz := by have := e2.1; simp at this; omega
    have hfit : j * sz + sz ≤ ms.size := by
      have : (j + (q :: els).length) * sz = j * sz + sz + els.length * sz := by simp [Nat.add_mul]; omega
      omega
    have hsp := foldl_set_splice v.cells.toList (j * sz) ms (by simp; omega)
    generalize hms1 : (v.cells.toList.zipIdx.foldl (fun (cs : Array Value) (p : Value × Nat) => cs.setIfInBounds (j * sz + p.2) p.1) ms) = ms1 at hsp
    have hsz1 : ms1.size = ms.size := by
      have : ms1.toList.length = ms.size := by rw [hsp]; simp; omega
      simpa using this
    have hget : ∀ i, ms1[i]? = (ms.toList.take (j * sz) ++ v.cells.toList ++ ms.toList.drop (j * sz + v.cells.toList.length))[i]? := fun i => by rw [← hsp, Array.getElem?_toList]
    obtain ⟨ms', g1, g2, g3, g4⟩ := fill_rows (R := R) (sz := sz) (els := els) (vs := vs) (j := j + 1) (ms := ms1) (by simpa using hl) (fun i u p h1 h2 => by
      obtain ⟨k1, k2⟩ := hv (i + 1) u p (by simpa using h1) (by simpa using h2)
      exact ⟨by omega, k2⟩) (fun p hp => hs p (by simp [hp])) (by rw [hsz1, show j + 1 + els.length = j + (q :: els).length from by rw [List.length_cons]; omega]; exact hz)
    refine ⟨ms', ?_, g2.trans hsz1, fun i hi => ?_, fun i m p x hp hx => ?_⟩
    · simp only [Instr.fill]
      rw [if_neg (by simp; omega), ← g1]
      congr 1
      rw [← hms1, ← Array.foldl_toList]
      simp
    · rw [g3 i (by rw [Nat.add_mul]; omega), hget i, List.append_assoc, List.getElem?_append_left (by simp; omega)]
      rw [List.getElem?_take, if_pos hi]; simp
    · cases i with
      | zero =>
        simp at hp; subst hp
        have hm : m < q.length := (List.getElem?_eq_some_iff.1 hx).1
        have hmv : m < v.cells.toList.length := by rw [e2.1]; exact hm
        refine ⟨v.cells.toList[m], ?_, e2.2 m _ x (List.getElem?_eq_getElem hmv) hx⟩
        rw [Nat.add_zero, g3 _ (by rw [Nat.add_mul]; omega), hget, List.append_assoc, List.getElem?_append_right (by simp; omega), List.getElem?_append_left (by simp; simp at hmv; omega)]
        have hlen : (ms.toList.take (j * sz)).length = j * sz := by simp; omega
        rw [hlen, Nat.add_sub_cancel_left]
        exact List.getElem?_eq_getElem hmv
      | succ i =>
        obtain ⟨u, k1, k2⟩ := g4 i m p x (by simpa using hp) hx
        exact ⟨u, by rw [show j + (i + 1) = j + 1 + i from by omega]; exact k1, k2⟩

theorem RD.row {h : Nat → Option Obj} {Im : Nat → Prop} {b o cap sz : Nat} {els : List (List D)} {tight : Bool} {cs : Array Value} {t : TypeId} {fz : Nat × Nat} (hb : Im b) (hm : h b = some (.cells cs t fz)) (hs : ∀ el ∈ els, el.length = sz) (hle : els.length ≤ cap) (ht : tight = true → cap = els.length)
    (hc : ∀ i j el x, els[i]? = some el → el[j]? = some x → ∃ v, cs[o + (i * sz + j)]? = some v ∧ RD h Im v x) : RD h Im (.slice (some ⟨b, o, none⟩) els.length cap) (.sl tight sz els) := by
  refine .sl tight sz els b o cap (fun i j => cs.getD (o + (i * sz + j)) undef) hs hb hle ht (fun i j el x h1 h2 => ?_) (fun i j el x h1 h2 => ?_)
  · obtain ⟨v, e1, _⟩ := hc i j el x h1 h2
    refine ⟨cs, t, fz, hm, ?_⟩
    rw [e1, Array.getD_eq_getD_getElem?, e1]; rfl
  · obtain ⟨v, e1, e2⟩ := hc i j el x h1 h2
    rw [Array.getD_eq_getD_getElem?, e1]; exact e2

theorem ok_buildSlice {t e : TypeId} {i ei : TI} {n : Nat} {parts : Array (Nat × Operand)} {els : List (List D)} (hi : opIn k.nt (.buildSlice t n parts) = true) (ht : tiOf E.P t = some i) (hk : i.k = .slice e) (he : tiOf E.P e = some ei) (hz : ei.zero.length = ei.size) (hsmall : n * ei.size ≤ 16777216)
    (hps : partsS s ei.size 0 parts.toList = some els) (hn : els.length = n) : OpOk E k (.buildSlice t n parts) ty s { val := .d (.sl true ei.size els), cond := [∀ q ∈ els, q.length = ei.size] } := by
  intro c Im ρ F H a w o ok hnt ha S ho hty hF hH hnew hc
  obtain ⟨inf, d, z, g1, g2, g3, rfl⟩ := tiOf_spec ht
  cases d <;> simp only [kindOf] at hk <;> cases hk
  obtain ⟨einf, ed, ez, f1, f2, f3, rfl⟩ := tiOf_spec he
  simp only at hz hsmall hc hps
  have hzs : ez.cells.size = einf.size := by simpa using hz
  obtain ⟨hlen, hspec⟩ := partsS_spec hps
  subst hn
  let zeros : Array Value := (Array.range (els.length * einf.size)).map fun j => (if els.length * einf.size = 0 then #[] else ez.cells)[j % (if els.length * einf.size = 0 then #[] else ez.cells).size]!
  obtain ⟨ms, r1, r2, _, r4⟩ := fill_rows (R := RD (hp w) Im) (sz := einf.size) (els := els) (vs := (parts.map fun (j, x) => (j, a.eval x)).toList) (j := 0) (ms := zeros) (by simp [hlen]) (fun j v q h1 h2 => by
    have hpl : j < parts.toList.length := by rw [← hlen]; exact (List.getElem?_eq_some_iff.1 h2).1
    have hpj : parts.toList[j]? = some parts.toList[j] := List.getElem?_eq_getElem hpl
    obtain ⟨e1, e2⟩ := hspec j _ q hpj h2
    have hv2 : v = ((parts.toList[j]).1, a.eval (parts.toList[j]).2) := by
      have : (parts.map fun (j, x) => (j, a.eval x)).toList[j]? = (parts.toList[j]?).map fun p => (p.1, a.eval p.2) := by simp
      rw [this, hpj] at h1; simpa using h1.symm
    subst hv2
    refine ⟨e1, dcells_ok (opIn_ev (x := (parts.toList[j]).2) S hnt hi hF ?_) e2⟩
    simp only [Op.operands, List.mem_map]
    exact ⟨parts.toList[j], List.getElem_mem hpl, rfl⟩) hc.1 (by simp [zeros])
  have hrun : (execOp a.eval o).run E.P w = .ok (.value (.slice (some ⟨w.heap.size, 0, none⟩) els.length els.length)) (w.alloc (.cells ms e)) := by
    have hs2 : ¬ (els.length * einf.size > 2 ^ 24) := by omega
    have hsize : (sizeOf e).run E.P w = .ok einf.size w := by simp [sizeOf, typeInfo, f1]
    have hzv : (zeroValue e).run E.P w = .ok ez w := by simp [zeroValue, typeInfo, f1, f3]
    simp only [execOp, ho, Instr.buildSlice, Sem.run_bind, run_underlying g2, hsize, Result.andThen_ok, if_neg hs2, Sem.run_pure, Sem.run_ite]
    simp only [zeros] at r1
    rw [Array.toList_map] at r1
    by_cases h0 : els.length * einf.size = 0
    · simp only [if_pos h0] at r1
      rw [if_pos h0, Array.toList_map, r1]
      simp [newRow]
    · simp only [if_neg h0] at r1
      rw [if_neg h0, hzv]
      simp only [Result.andThen_ok]
      rw [Array.toList_map, r1]
      simp [newRow]
  refine ⟨_, _, .inl hrun, fun b => Im b ∨ b = w.heap.size, ρ, S.born (B := fun b => b = w.heap.size) (Grows.alloc w _) (fun b hb => by subst hb; simp), ?_⟩
  refine .d _ _ (RD.row (cs := ms) (t := e) (fz := (0, 0)) (.inr rfl) (heap_alloc_new w _) hc.1 (Nat.le_refl _) (fun _ => rfl) fun i j el x h1 h2 => ?_)
  obtain ⟨v, e1, e2⟩ := r4 i j el x h1 h2
  exact ⟨v, by simpa using e1, e2.mono (fun _ h => .inl h) fun b hb => heap_alloc_old w _ b (S.imn b hb).1⟩

end ops
end Go.Ax
