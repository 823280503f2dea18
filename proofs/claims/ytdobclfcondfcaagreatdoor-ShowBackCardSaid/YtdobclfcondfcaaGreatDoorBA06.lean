/- What the card of this claim stands on, or the card itself: for every input, as the given row says. -/
import Derived.Test.YtdobclfcondfcaaGreatDoorProg
import Derived.KernelRfl
import Derived.Laws.BitsLemmas
import Derived.Laws.Bits64
import Derived.LoopNIn
import Derived.Test.YtdobclfcondfcaaGreatDoorBA05

namespace Go.Ax
variable {X : Ax} {k : Kn}
theorem unmF_lk {r : Nat} {v : AV} {t : Nat} {f : List (Nat × AV)} (hv : v.ment r = false) (h : unmF r f = true) : unmF r ((t, v) :: f) = true := by simp [unmF, hv, h]
theorem apF_unm {r : Nat} : ∀ {l : List (Bool × Stp)} {f : List (Nat × AV)}, (∀ x ∈ l, x.1 = true → unmS r x.2 = true) → unmF r f = true → unmF r (apF l f) = true
  | [], f, _, h => h
  | (false, st) :: l, f, hw, h => apF_unm (l := l) (fun x hx => hw x (by simp [hx])) h
  | (true, st) :: l, f, hw, h => by
    refine apF_unm (l := l) (fun x hx => hw x (by simp [hx])) ?_
    have := hw (true, st) (by simp) rfl
    unfold unmS at this
    cases hs : st.wt with
    | none => exact h
    | some p =>
      obtain ⟨t, v⟩ := p
      simp only [hs, Bool.and_eq_true, Bool.not_eq_true'] at this
      exact unmF_lk this.1.1 h
theorem unmH_append {r : Nat} : ∀ {a b : HL}, unmH r a = true → unmH r b = true → unmH r (a ++ b) = true
  | [], b, _, h => h
  | (q, none) :: a, b, h1, h2 => by simp only [List.cons_append, unmH] at h1 ⊢; exact unmH_append h1 h2
  | (q, some o) :: a, b, h1, h2 => by
    simp only [List.cons_append, unmH] at h1 ⊢
    cases hm : o.ment r with
    | true => simp [hm] at h1
    | false => simp only [hm] at h1 ⊢; exact unmH_append h1 h2
theorem apH_unm {r : Nat} : ∀ {l : List (Bool × Stp)} {h : HL}, (∀ x ∈ l, x.1 = true → unmS r x.2 = true) → unmH r h = true → unmH r (apH l h) = true
  | [], f, _, h => h
  | (false, st) :: l, f, hw, h => apH_unm (l := l) (fun x hx => hw x (by simp [hx])) h
  | (true, st) :: l, f, hw, h => by
    refine apH_unm (l := l) (fun x hx => hw x (by simp [hx])) ?_
    have := hw (true, st) (by simp) rfl
    unfold unmS at this
    simp only [Bool.and_eq_true] at this
    exact unmH_append this.1.2 h
theorem memN_mem {r : Nat} {l : List Nat} (h : memN r l = false) : r ∉ l := memN_spec h
theorem apH_none {r : Nat} {l : List (Bool × Stp)} {h : HL} (hw : ∀ x ∈ l, x.1 = true → unmS r x.2 = true) (h0 : lkH r h = none) : lkH r (apH l h) = none := by
  rw [apH_later fun x hx he hr => ?_, h0]
  have := hw x hx he
  unfold unmS at this
  simp only [Bool.and_eq_true, Bool.not_eq_true'] at this
  exact memN_mem this.2 hr
theorem zip_split {α β : Type} {m : List α} {tr : List β} {i : Nat} {x : α} {y : β} (h1 : m[i]? = some x) (h2 : tr[i]? = some y) : m.zip tr = (m.take i).zip (tr.take i) ++ (x, y) :: (m.drop (i + 1)).zip (tr.drop (i + 1)) := by
  induction i generalizing m tr with
  | zero =>
    cases m <;> cases tr <;> simp at h1 h2 ⊢
    simp [h1, h2]
  | succ i ih =>
    cases m with
    | nil => simp at h1
    | cons a m =>
      cases tr with
      | nil => simp at h2
      | cons b tr => simp [ih (by simpa using h1) (by simpa using h2)]
theorem zip_full (m : List Bool) (tr : List Stp) (h : m.length = tr.length) : full (m.zip tr) = tr.map (true, ·) := by
  induction m generalizing tr with
  | nil => cases tr <;> simp_all [full]
  | cons a m ih => cases tr with
    | nil => simp at h
    | cons b tr => simp only [List.zip_cons_cons, full, List.map_cons]; simp only [full] at ih; rw [ih tr (by simpa using h)]
theorem mem_zip_at {m : List Bool} {tr : List Stp} {x : Bool × Stp} (h : x ∈ m.zip tr) : ∃ j : Nat, m[j]? = some x.1 ∧ tr[j]? = some x.2 := by
  obtain ⟨j, hj⟩ := List.getElem?_of_mem h
  rw [List.getElem?_zip_eq_some] at hj
  exact ⟨j, hj⟩
structure Mid (c : Cx) (ops : List Oper) (tr : List Stp) (s0 : St) (m : List Bool) (a : Act) (w : World) : Prop where
  len : m.length = ops.length
  closed : ClosedM ops m
  sim : ∃ Im ρ, Sim c Im ρ (fun t => lk t (apF (m.zip tr) s0.f)) (fun r => lkH r (apH (m.zip tr) s0.h)) a w
theorem Mid.step {c : Cx} {ops : List Oper} {tr : List Stp} {s0 sn : St} {Q : APost} {m : List Bool} {a : Act} {w : World} (hok : c.Ok X.E) (hn : c.nt = k.nt) (ha : c.anc = k.anc) (ht : Trace X k Q ops ops s0 tr sn) (hs : statOk ops = true)
    (hd : dynGo (bms ops) k.anc s0 tr tr 0 = true) (M : Mid c ops tr s0 m a w) {i : Nat} {o : Oper} (hi : m[i]? = some false) (ho : ops[i]? = some o) (hed : ∀ e ∈ o.after.toList, bindE e = true → m[e.on]? = some true)
    {K : Act → World → Prop} (hK : ∀ a' w', Mid c ops tr s0 (m.set i true) a' w' → K a' w') :
    if Region.wanted o (yielded ops.toArray a.tmps) then o.wpIn c.fence 0 X.E.P a w K (Lift c Q) else K (a.put o.dst undef) w := by
  have htl := ht.length
  have hil : i < ops.length := (List.getElem?_eq_some_iff.1 ho).1
  obtain ⟨st, hst⟩ : ∃ st, tr[i]? = some st := ⟨tr[i], List.getElem?_eq_getElem (by omega)⟩
  have hstep := ht.at i o st ho hst
  have hlow := statOk_low hs
  have ancI : ∀ j, bitOf (bms ops) i j = true → m[j]? = some true := fun j hb => closedM_anc hlow M.closed i ⟨o, ho, hed⟩ hb
  have ancJ : ∀ j, m[j]? = some true → bitOf (bms ops) j i = false := fun j hj => by
    cases hb : bitOf (bms ops) j i with
    | false => rfl
    | true =>
      have hjl : j < ops.length := by rw [← M.len]; exact (List.getElem?_eq_some_iff.1 hj).1
      have := closedM_anc hlow M.closed j ⟨ops[j], List.getElem?_eq_getElem hjl, M.closed j _ hj (List.getElem?_eq_getElem hjl)⟩ hb
      rw [hi] at this; simp at this
  have wOf : ∀ j (y : Stp) (oj : Oper), tr[j]? = some y → ops[j]? = some oj → ∀ t, y.writesT t → oj.dst = some t := fun j y oj hy hoj t ⟨v, hv⟩ => (ht.at j oj y hoj hy).1 t v hv
  have opAt : ∀ j (y : Stp), tr[j]? = some y → ∃ oj, ops[j]? = some oj := fun j y hy => ⟨ops[j]'(by rw [← htl]; exact (List.getElem?_eq_some_iff.1 hy).1), List.getElem?_eq_getElem _⟩
  -- the pieces
  let A := (m.take i).zip (tr.take i)
  let B := (m.drop (i + 1)).zip (tr.drop (i + 1))
  have hz : m.zip tr = A ++ (false, st) :: B := zip_split hi hst
  have hz' : (m.set i true).zip tr = A ++ (true, st) :: B := by
    have h1 : (m.set i true)[i]? = some true := by simp [(List.getElem?_eq_some_iff.1 hi).1]
    rw [zip_split h1 hst]
    simp [A, B, List.take_set_of_le, List.drop_set_of_lt]
  have hA : ∀ x ∈ A, ∃ j, j < i ∧ m[j]? = some x.1 ∧ tr[j]? = some x.2 := fun x hx => by
    obtain ⟨j, h1, h2⟩ := mem_zip_at hx
    rw [List.getElem?_take] at h1 h2
    split at h1
    · rename_i hj; rw [if_pos hj] at h2; exact ⟨j, hj, h1, h2⟩
    · simp at h1
  have hB : ∀ x ∈ B, ∃ j, i < j ∧ m[j]? = some x.1 ∧ tr[j]? = some x.2 := fun x hx => by
    obtain ⟨j, h1, h2⟩ := mem_zip_at hx
    rw [List.getElem?_drop] at h1 h2
    exact ⟨i + 1 + j, by omega, h1, h2⟩
  have hAf : full A = (tr.take i).map (true, ·) := zip_full _ _ (by have := M.len; simp; omega)
  have hdyn := dynGo_spec hd
  have conf : ∀ j j' (y y' : Stp), j < j' → tr[j]? = some y → tr[j']? = some y' → confO y y' = true → bitOf (bms ops) j' j = true := fun j j' y y' hlt hy hy' hc => by
    rcases hdyn j' y' hy' with h | h
    · rw [confO_plain h] at hc; simp at hc
    · have h1 := h.1
      rw [Nat.zero_add] at h1
      have := dynRow_spec h1 j y (by rw [List.getElem?_take, if_pos hlt]; exact hy) hc
      simpa using this
  -- what later ones write isn't read
  have laterT : ∀ x ∈ B, x.1 = true → ∀ t, (t ∈ readsT ops o ∨ st.writesT t) → ¬ x.2.writesT t := fun x hx he t hr hw => by
    obtain ⟨j, hj, h1, h2⟩ := hB x hx
    rw [he] at h1
    obtain ⟨oj, hoj⟩ := opAt j x.2 h2
    have hdj := wOf j x.2 oj h2 hoj t hw
    have hc : confT ops o oj = true := by
      rcases hr with hr | hr
      · exact confT_right hdj hr
      · exact confT_left (wOf i st o hst ho t hr) (.inr hdj)
    have := statOk_conf hs hj ho hoj hc
    rw [ancJ j h1] at this; simp at this
  have earlierT : ∀ x ∈ A, x.1 = false → ∀ t, t ∈ readsT ops o → ¬ x.2.writesT t := fun x hx he t hr hw => by
    obtain ⟨j, hj, h1, h2⟩ := hA x hx
    rw [he] at h1
    obtain ⟨oj, hoj⟩ := opAt j x.2 h2
    have hdj := wOf j x.2 oj h2 hoj t hw
    have := ancI j (statOk_conf hs hj hoj ho (confT_left hdj (.inl hr)))
    rw [h1] at this; simp at this
  have laterO : ∀ x ∈ B, x.1 = true → ∀ r, (r ∈ st.ro ∨ st.writesO r) → ¬ x.2.writesO r := fun x hx he r hr hw => by
    obtain ⟨j, hj, h1, h2⟩ := hB x hx
    rw [he] at h1
    have hc : confO st x.2 = true := by
      rcases hr with hr | hr
      · exact confO_right hw hr
      · exact confO_left hr (.inr hw)
    have := conf i j st x.2 hj hst h2 hc
    rw [ancJ j h1] at this; simp at this
  have earlierO : ∀ x ∈ A, x.1 = false → ∀ r, r ∈ st.ro → ¬ x.2.writesO r := fun x hx he r hr hw => by
    obtain ⟨j, hj, h1, h2⟩ := hA x hx
    rw [he] at h1
    have := ancI j (conf j i x.2 st hj h2 hst (confO_left hw (.inl hr)))
    rw [h1] at this; simp at this
  have hunm : ∀ r ∈ st.nw, ∀ x ∈ m.zip tr, x.1 = true → unmS r x.2 = true := fun r hr x hx he => by
    obtain ⟨j, h1, h2⟩ := mem_zip_at hx
    rw [he] at h1
    rcases hdyn i st hst with h | h
    · rw [(Stp.plain_spec h).2.2] at hr; simp at hr
    · have hne : i ≠ j := fun e => by subst e; rw [hi] at h1; simp at h1
      have h3 := h.2.1
      rw [Nat.zero_add] at h3
      refine newRow_spec h3 j x.2 h2 (by simpa using hne) ?_ r hr
      simpa using ancJ j h1
  have hunm0 : ∀ r ∈ st.nw, unmB k.anc r s0 = true := fun r hr => by
    rcases hdyn i st hst with h | h
    · rw [(Stp.plain_spec h).2.2] at hr; simp at hr
    · exact h.2.2 r hr
  obtain ⟨Im, ρ, S⟩ := M.sim
  refine hstep.2 c Im ρ { f := apF (m.zip tr) s0.f, h := apH (m.zip tr) s0.h } a w K hok hn ha S (fun t hr => ?_) (fun r hr => ?_) (fun r hr => ?_) (fun Im' ρ' a' w' S' => ?_)
  · show lk t (apF (m.zip tr) s0.f) = lk t (apF ((tr.take i).map (true, ·)) s0.f)
    rw [hz, apF_append, ← hAf]
    show lk t (apF B (apF A s0.f)) = _
    rw [apF_later fun x hx he => laterT x hx he t (.inl hr)]
    exact apF_full (fun x hx he => earlierT x hx he t hr) rfl
  · show lkH r (apH (m.zip tr) s0.h) = lkH r (apH ((tr.take i).map (true, ·)) s0.h)
    rw [hz, apH_append, ← hAf]
    show lkH r (apH B (apH A s0.h)) = _
    rw [apH_later fun x hx he => laterO x hx he r (.inl hr)]
    exact apH_full (fun x hx he => earlierO x hx he r hr) rfl
  · have h0 := hunm0 r hr
    unfold unmB at h0
    split at h0
    · rename_i e1 e2 e3 e4
      exact ⟨by rw [ha]; exact memN_spec e1, unmF_spec (apF_unm (hunm r hr) e2), unmH_spec (apH_unm (hunm r hr) e3), apH_none (hunm r hr) e4⟩
    · simp at h0
  · refine hK a' w' ⟨by simpa using M.len, fun j oj hj hoj e he hb => ?_, Im', ρ', ?_⟩
    · by_cases hji : i = j
      · subst hji
        rw [ho] at hoj; injection hoj with hoj; subst hoj
        have h1 := hed e he hb
        have hne : i ≠ e.on := fun e' => by rw [← e', hi] at h1; simp at h1
        rw [List.getElem?_set_ne hne]; exact h1
      · rw [List.getElem?_set_ne hji] at hj
        have h1 := M.closed j oj hj hoj e he hb
        have hne : i ≠ e.on := fun e' => by rw [← e', hi] at h1; simp at h1
        rw [List.getElem?_set_ne hne]; exact h1
    · have e1 : (fun t => lk t (apF ((m.set i true).zip tr) s0.f)) = fun t => lk t (st.putF (apF (m.zip tr) s0.f)) := by
        funext t
        rw [hz, hz', apF_append, apF_append]
        exact apF_mark (fun x hx he t hw => laterT x hx he t (.inr hw)) t
      have e2 : (fun r => lkH r (apH ((m.set i true).zip tr) s0.h)) = fun r => lkH r (st.wh ++ apH (m.zip tr) s0.h) := by
        funext r
        rw [hz, hz', apH_append, apH_append]
        exact apH_mark (fun x hx he r hw => laterO x hx he r (.inr hw)) r
      rw [e1, e2]; exact S'
theorem Mid.run {c : Cx} {ops : List Oper} {tr : List Stp} {s0 sn : St} {Q : APost} (hok : c.Ok X.E) (hn : c.nt = k.nt) (ha : c.anc = k.anc) (ht : Trace X k Q ops ops s0 tr sn) (hs : statOk ops = true) (hd : dynGo (bms ops) k.anc s0 tr tr 0 = true) (hQ : Q .normal sn) :
    ∀ (fuel : Nat) (L : Array Bool) (a : Act) (w : World), (L.toList.filter (!·)).length ≤ fuel → Mid c ops tr s0 L.toList a w → wpAnyIn c.fence 0 X.E.P .any ops.toArray (Lift c Q) fuel L a w := by
  have hlow := statOk_low hs
  have done : ∀ (L : Array Bool) (a : Act) (w : World), Mid c ops tr s0 L.toList a w → Region.ready .any ops.toArray L = [] → Lift c Q .normal a w := fun L a w M hr => by
    have hall : ∀ j, j < ops.length → L.toList[j]? = some true := by
      intro j
      induction j using Nat.strongRecOn with
      | _ j ih =>
        intro hj
        have hjl : j < L.toList.length := by rw [M.len]; exact hj
        cases hb : L.toList[j] with
        | true => rw [List.getElem?_eq_getElem hjl, hb]
        | false =>
          have : j ∈ Region.ready .any ops.toArray L := mem_ready.2 ⟨by simp [Array.getD_eq_getD_getElem?]; rw [Array.getElem?_eq_getElem (by simpa using hjl)]; simpa using hb, ops[j], by simp [hj], fun e he hb => by
            have hlt := hlow j ops[j] (List.getElem?_eq_getElem hj) e (by simpa using he) hb
            have := ih e.on hlt (by omega)
            simp [Array.getD_eq_getD_getElem?]
            simp at this; simp [this]⟩
          rw [hr] at this; simp at this
    obtain ⟨Im, ρ, S⟩ := M.sim
    have hfull : L.toList.zip tr = tr.map (true, ·) := by
      rw [← zip_full L.toList tr (by rw [M.len, ht.length])]
      unfold full
      refine (List.map_congr_left (g := id) fun x hx => ?_).trans (List.map_id _) |>.symm
      obtain ⟨j, h1, h2⟩ := mem_zip_at hx
      have hj : j < ops.length := by rw [← M.len]; exact (List.getElem?_eq_some_iff.1 h1).1
      rw [hall j hj] at h1
      injection h1 with h1
      obtain ⟨b, y⟩ := x
      simp at h1; subst h1; rfl
    rw [hfull] at S
    have hsn := ht.end
    exact ⟨by simp, Im, ρ, sn, by rw [hsn]; exact S, hQ⟩
  have act : ∀ (L : Array Bool) (a : Act) (w : World), Mid c ops tr s0 L.toList a w → ∀ i ∈ Region.ready .any ops.toArray L, ∀ K : Act → World → Prop, (∀ a' w', Mid c ops tr s0 (L.setIfInBounds i true).toList a' w' → K a' w') → L.toList[i]? = some false ∧ wpOpIn c.fence 0 X.E.P ops.toArray (Lift c Q) i K a w := fun L a w M i hi K hK => by
    obtain ⟨h0, o, ho, hed⟩ := mem_ready.1 hi
    have ho' : ops[i]? = some o := by simpa using ho
    have hil : i < L.size := by have := M.len; have := (List.getElem?_eq_some_iff.1 ho').1; simp at *; omega
    have hm : L.toList[i]? = some false := by
      simp [Array.getD_eq_getD_getElem?, Array.getElem?_eq_getElem hil] at h0
      simp [hil, h0]
    refine ⟨hm, ?_⟩
    have := Mid.step hok hn ha ht hs hd M hm ho' (fun e he hb => by
      have := hed e (by simpa using he) hb
      simp [Array.getD_eq_getD_getElem?] at this
      rw [Array.getElem?_toList]
      cases h : L[e.on]? with
      | none => rw [h] at this; simp at this
      | some b => rw [h] at this; simp at this; rw [this]) (K := K) (fun a' w' M' => hK a' w' (by simpa using M'))
    unfold wpOpIn
    simp only [ho]
    split at this
    · rename_i hw; rw [if_pos hw]; exact this
    · rename_i hw; rw [if_neg hw]; exact ⟨fun _ _ => trivial, this⟩
  intro fuel
  induction fuel with
  | zero =>
    intro L a w hf M
    have hr : Region.ready .any ops.toArray L = [] := by
      refine List.eq_nil_iff_forall_not_mem.2 fun i hi => ?_
      have := (act L a w M i hi (fun _ _ => True) fun _ _ _ => trivial).1
      have hm := List.mem_of_getElem? this
      have : false ∈ L.toList.filter (!·) := List.mem_filter.2 ⟨hm, rfl⟩
      have := List.length_pos_of_mem this
      omega
    exact ⟨hr, done L a w M hr⟩
  | succ fuel ih =>
    intro L a w hf M
    refine ⟨done L a w M, fun i hi => ?_⟩
    have hm := (act L a w M i hi (fun _ _ => True) fun _ _ _ => trivial).1
    refine (act L a w M i hi _ fun a' w' M' => ih _ a' w' ?_ M').2
    have key : ∀ (l : List Bool) (i : Nat), l[i]? = some false → ((l.set i true).filter (!·)).length + 1 = (l.filter (!·)).length := by
      intro l
      induction l with
      | nil => intro i h; simp at h
      | cons x l ih =>
        intro i h
        cases i with
        | zero => simp at h; subst h; simp
        | succ i =>
          have := ih i (by simpa using h)
          cases x <;> simp_all
    have := key L.toList i hm
    simp only [Array.toList_setIfInBounds]
    omega
theorem AWp.draw {id : Nat} {ops : Array Oper} {tr : List Stp} {s0 sn : St} {Q : APost} (ht : Trace X k Q ops.toList ops.toList s0 tr sn) (hs : statOk ops.toList = true) (hd : dynGo (bms ops.toList) k.anc s0 tr tr 0 = true) (hQ : Q .normal sn) :
    AWp X.E k (.region id ops true) Q s0 := fun c ok hn ha Im ρ a w S => by
  refine wpIn_region_any X.E.mixed ?_
  have S' : Sim c Im ρ s0.F s0.H a { w with drawn := w.drawn + 1 } := S.world rfl rfl rfl rfl
  have hz : ∀ (n : Nat) (l : List Stp), apF ((List.replicate n false).zip l) s0.f = s0.f ∧ apH ((List.replicate n false).zip l) s0.h = s0.h := by
    intro n
    induction n with
    | zero => intro l; simp [apF, apH]
    | succ n ih => intro l; cases l with
      | nil => simp [apF, apH]
      | cons x l => simp only [List.replicate_succ, List.zip_cons_cons, apF, apH]; exact ih l
  have := Mid.run ok hn ha ht hs hd hQ ops.size (Array.replicate ops.size false) a { w with drawn := w.drawn + 1 } (by simp) ⟨by simp, fun j o hj => by
    simp [Array.toList_replicate, List.getElem?_replicate] at hj, Im, ρ, ?_⟩
  · simpa using this
  · simp only [Array.toList_replicate]
    rw [(hz ops.size tr).1, (hz ops.size tr).2]; exact S'
end Go.Ax

namespace Go.Ax
variable {X : Ax} {k : Kn}
def newK (hin : HL) : HL → List Nat
  | [] => []
  | (r, _) :: h => match lkH r hin with
    | some _ => newK hin h
    | none => r :: newK hin h
theorem newK_spec {hin : HL} : ∀ {ho : HL} {r : Nat} {o : AObj}, lkH r ho = some o → (∃ o', lkH r hin = some o') ∨ r ∈ newK hin ho
  | [], r, o, h => by simp [lkH] at h
  | (q, x) :: h, r, o, hr => by
    simp only [newK]
    by_cases e : q = r
    · subst e
      cases h1 : lkH q hin with
      | some o' => exact .inl ⟨o', rfl⟩
      | none => right; simp
    · have hb : Nat.beq q r = false := by
        cases hb : Nat.beq q r with
        | false => rfl
        | true => exact absurd (Nat.eq_of_beq_eq_true hb) e
      simp only [lkH, hb] at hr
      rcases newK_spec hr with h1 | h1
      · exact .inl h1
      · cases h2 : lkH q hin with
        | some _ => exact .inr h1
        | none => exact .inr (List.mem_cons_of_mem _ h1)
structure CallD (E : Env) (f : FuncId) (args : List AV) (s : St) (K : AV → HL → HL → Prop) (PD : List PanicEntry → Prop) : Prop where
  ok : ∃ hin res ho, Ctr E f args hin (fun o => o = .ret res ho ∨ ∃ ch, o = .pan ch [] ∧ PD ch) ∧ (∀ r o, lkH r hin = some o → lkH r s.h = some o) ∧ K res hin ho
def wtOf (dst : Option Tmp) (x : AV) : Option (Nat × AV) := match dst with
  | some d => some (d, x)
  | none => none
def St.put (s : St) (st : Stp) : St := { f := st.putF s.f, h := st.wh ++ s.h }
def oneL {α : Type} : Option α → List α
  | some x => [x]
  | none => []
def rhL : Option (Nat × AObj) → List Nat
  | some (r, _) => [r]
  | none => []
def stepV (dst : Option Tmp) (x : AV) (wh : HL) (ro nw : List Nat) (s : St) (K : Stp → St → Prop) : Prop := match s with
  | ⟨f, h⟩ => match dst with
    | some d => strictV x fun x => K ⟨some (d, x), wh, ro, nw⟩ ⟨(d, x) :: f, wh ++ h⟩
    | none => K ⟨none, wh, ro, nw⟩ ⟨f, wh ++ h⟩
theorem stepV_spec {dst : Option Tmp} {x : AV} {wh : HL} {ro nw : List Nat} {s : St} {K : Stp → St → Prop} (h : stepV dst x wh ro nw s K) : K ⟨wtOf dst x, wh, ro, nw⟩ (s.put ⟨wtOf dst x, wh, ro, nw⟩) := by
  unfold stepV at h
  cases dst with
  | none => exact h
  | some d => exact strictV_spec (K := fun x => K ⟨some (d, x), wh, ro, nw⟩ ⟨(d, x) :: s.f, wh ++ s.h⟩) h
def opD (E : Env) (tab : List (Nat × TI)) (k : Kn) (PD : List PanicEntry → Prop) (o : Oper) (s : St) (K : Stp → St → Prop) : Prop := match o.op with
  | .call { callee := .value f, args, argTypes := _ } => match calleeOf s f, args.toList.all (inN k.nt), inN k.nt f with
    | some (fid, fs, caps), true, true => strictL (argsV fs (evL s args.toList) caps) fun vs => CallD E fid vs s (fun res hin ho => strictH (ho ++ killed hin) fun wh => stepV o.dst res wh (keysH hin) (newK hin ho) s K) PD
    | _, _, _ => False
  | op => withDst o.dst fun d => match opIn k.nt op, opR tab s d op with
    | true, some ⟨val, rh, wh, new, cond⟩ => condP cond (strictH (oneL wh) fun wh => stepV o.dst val wh (rhL rh) (oneL new) s K)
    | _, _ => False
def skipD (s : St) (dst : Option Tmp) (K : Stp → St → Prop) : Prop := stepV dst (.tup []) [] [] [] s K
def runD (E : Env) (tab : List (Nat × TI)) (k : Kn) (PD : List PanicEntry → Prop) (ops : List Oper) (K : List Stp → St → Prop) : List Oper → (List Stp → List Stp) → St → Prop
  | [], acc, s => K (acc []) s
  | o :: rest, acc, s => match dstIn k.nt o.dst, guardV ops s o.guard with
    | true, some (b, want) => match want with
      | true => ifB b (opD E tab k PD o s fun st s => runD E tab k PD ops K rest (fun l => acc (st :: l)) s) (skipD s o.dst fun st s => runD E tab k PD ops K rest (fun l => acc (st :: l)) s)
      | false => ifB b (skipD s o.dst fun st s => runD E tab k PD ops K rest (fun l => acc (st :: l)) s) (opD E tab k PD o s fun st s => runD E tab k PD ops K rest (fun l => acc (st :: l)) s)
    | _, _ => False
theorem evL_congr {s s' : St} {xs : List Operand} (h : ∀ t, Operand.tmp t ∈ xs → lk t s'.f = lk t s.f) : evL s' xs = evL s xs := by
  unfold evL
  refine List.map_congr_left fun x hx => ?_
  cases x with
  | tmp t => exact h t hx
  | _ => rfl
theorem calleeOf_congr {s s' : St} {f : Operand} (h : ∀ t, f = .tmp t → lk t s'.f = lk t s.f) : calleeOf s' f = calleeOf s f := by
  cases f with
  | tmp t => simp only [calleeOf]; rw [h t rfl]
  | _ => rfl
theorem guardV_congr {ops : List Oper} {s s' : St} {g : Option (Nat × Bool)} (h : ∀ t ∈ guardT ops g, lk t s'.f = lk t s.f) : guardV ops s' g = guardV ops s g := by
  cases g with
  | none => rfl
  | some p =>
    obtain ⟨j, want⟩ := p
    simp only [guardV]
    cases hj : nth ops j with
    | none => rfl
    | some o =>
      cases hd : o.dst with
      | none => simp [hd]
      | some d =>
        have := h d (by simp [guardT, hj, hd])
        simp only [hd, this]
theorem wtOf_put {c : Cx} {Im : Nat → Prop} {ρ : Nat → Option Loc} {s : St} {H : Nat → Option AObj} {a : Act} {w : World} {dst : Option Tmp} {v : Value} {x : AV} {wh : HL} {ro nw : List Nat} (S : Sim c Im ρ s.F H a w) (hn : c.nt = k.nt) (hd : dstIn k.nt dst = true) (hv : RA (hp w) Im ρ v x) (hH : H = fun r => lkH r (wh ++ s.h)) :
    Sim c Im ρ (fun t => lk t ((⟨wtOf dst x, wh, ro, nw⟩ : Stp).putF s.f)) (fun r => lkH r (wh ++ s.h)) (a.put dst v) w := by
  subst hH
  cases dst with
  | none => exact S
  | some d =>
    have hd : d < c.nt := by rw [hn]; simpa [dstIn] using hd
    have := S.put hd hv
    rw [← lk_cons] at this
    exact this
theorem wtOf_dst {dst : Option Tmp} {x : AV} {t : Nat} {v : AV} (h : wtOf dst x = some (t, v)) : dst = some t := by
  cases dst with
  | none => simp [wtOf] at h
  | some d => simp only [wtOf] at h; injection h with h; injection h with h1 h2; rw [h1]
theorem stepOk_skip {Q : APost} {ops : List Oper} {o : Oper} {s : St} (hall : ops.all (fun o => dstIn k.nt o.dst) = true) (hd : dstIn k.nt o.dst = true) {b want : Bool} (hg : guardV ops s o.guard = some (b, want)) (hb : (b == want) = false) :
    StepOk X k Q ops o s ⟨wtOf o.dst (.tup []), [], [], []⟩ := by
  refine ⟨fun t v h => wtOf_dst h, fun c Im ρ s' a w K ok hn ha S hr _ _ hK => ?_⟩
  have hg' : guardV ops s' o.guard = some (b, want) := by rw [guardV_congr fun t ht => hr t (by simp [readsT, ht]), hg]
  rw [guard_ok S hn hall hg', hb]
  exact hK Im ρ _ w (wtOf_put S hn hd (.tup #[] [] rfl (by simp)) rfl)
theorem guard_yes {c : Cx} {Im : Nat → Prop} {ρ : Nat → Option Loc} {ops : List Oper} {o : Oper} {s s' : St} {a : Act} {w : World} (S : Sim c Im ρ s'.F s'.H a w) (hn : c.nt = k.nt) (hall : ops.all (fun o => dstIn k.nt o.dst) = true)
    {b want : Bool} (hg : guardV ops s o.guard = some (b, want)) (hb : (b == want) = true) (hr : ∀ t ∈ readsT ops o, lk t s'.f = lk t s.f) : Region.wanted o (yielded ops.toArray a.tmps) = true := by
  have hg' : guardV ops s' o.guard = some (b, want) := by rw [guardV_congr fun t ht => hr t (by simp [readsT, ht]), hg]
  rw [guard_ok S hn hall hg', hb]
theorem stepOk_op {Q : APost} {ops : List Oper} {o : Oper} {s : St} {e : Eff} (hall : ops.all (fun o => dstIn k.nt o.dst) = true) (hd : dstIn k.nt o.dst = true) {b want : Bool} (hg : guardV ops s o.guard = some (b, want)) (hb : (b == want) = true)
    (hin : opIn k.nt o.op = true) (hr : opR X.tab s (dstOf o.dst) o.op = some e) (hc : AllL e.cond) : StepOk X k Q ops o s ⟨wtOf o.dst e.val, oneL e.wh, rhL e.rh, oneL e.new⟩ := by
  refine ⟨fun t v h => wtOf_dst h, fun c Im ρ s' a w K ok hn ha S hrd hro hnw hK => ?_⟩
  rw [guard_yes S hn hall hg hb hrd]
  simp only [if_true]
  obtain ⟨hok, hrh⟩ := opR_ok (E := X.E) (k := k) (ty := o.type) X.ok hin hr
  obtain ⟨v, w', hrun, Im', ρ', S', hra⟩ := hok c Im ρ s'.F s'.H a w o ok hn ha S rfl rfl (fun t ht => (hrd t (by simp [readsT, ht])).symm) (fun r x hx => by
    show lkH r s'.h = some x
    rw [hro r (by simp [rhL, hx]), hrh r x hx]) (fun r hx => hnw r (by simp [oneL, hx])) hc
  have hH : updO s'.H e.wh = fun r => lkH r (oneL e.wh ++ s'.h) := by
    cases e.wh with
    | none => rfl
    | some p => obtain ⟨r, ob⟩ := p; exact (lkH_cons r ob s'.h).symm
  have S2 := wtOf_put (ro := rhL e.rh) (nw := oneL e.new) (s := s') S' hn hd hra hH
  have := hK Im' ρ' _ _ S2
  refine ⟨fun _ _ => trivial, ?_⟩
  rw [semAt_of (by
    intro cl hc; rw [hc] at hr; exact absurd hr (by simp [show ∀ tab s d, opR tab s d (.defer cl) = none from fun _ _ _ => rfl]))]
  rcases hrun with hrun | ⟨hrun, rfl⟩
  · rw [hrun]; exact this
  · rw [hrun]; exact this
theorem stepOk_call {Q : APost} {ops : List Oper} {o : Oper} {s : St} (hall : ops.all (fun o => dstIn k.nt o.dst) = true) (hd : dstIn k.nt o.dst = true) {b want : Bool} (hg : guardV ops s o.guard = some (b, want)) (hb : (b == want) = true)
    {f : Operand} {args : Array Operand} {ats : Array TypeId} (hop : o.op = .call { callee := .value f, args, argTypes := ats }) {fid : FuncId} {fs0 caps : List AV} (hcal : calleeOf s f = some (fid, fs0, caps)) (hargs : args.toList.all (inN k.nt) = true) (hf : inN k.nt f = true)
    {hin ho : HL} {res : AV} (hctr : Ctr X.E fid (argsV fs0 (evL s args.toList) caps) hin fun o => o = .ret res ho ∨ ∃ ch, o = .pan ch [] ∧ Q (.panic ch) { f := [], h := [] }) (hhin : ∀ r o, lkH r hin = some o → lkH r s.h = some o) :
    StepOk X k Q ops o s ⟨wtOf o.dst res, ho ++ killed hin, keysH hin, newK hin ho⟩ := by
  refine ⟨fun t v h => wtOf_dst h, fun c Im ρ s' a w K ok hn ha S hrd hro hnw hK => ?_⟩
  rw [guard_yes S hn hall hg hb hrd]
  simp only [if_true]
  refine ⟨fun _ _ => trivial, ?_⟩
  rw [semAt_of (by
    intro cl hc; rw [hc] at hop; exact absurd hop (by simp))]
  have hops : ∀ t, (.tmp t = f ∨ .tmp t ∈ args.toList) → t ∈ readsT ops o := fun t h => by
    refine List.mem_append.2 (.inl (List.mem_filterMap.2 ⟨.tmp t, ?_, rfl⟩))
    rw [hop]
    rcases h with h | h
    · simp [Op.operands, Call.operands, h]
    · have : Operand.tmp t ∈ args := by simpa using h
      simp [Op.operands, Call.operands, this]
  have hcal' : calleeOf s' f = some (fid, fs0, caps) := by rw [calleeOf_congr fun t ht => hrd t (hops t (.inl ht.symm)), hcal]
  have hev' : evL s' args.toList = evL s args.toList := evL_congr fun t ht => hrd t (hops t (.inr ht))
  have hhin' : ∀ r o, lkH r hin = some o → lkH r s'.h = some o := fun r o h => by
    rw [hro r (mem_keysH.2 (lkH_mem h))]; exact hhin r o h
  obtain ⟨fvs, cvs, hres, hfs, hcs, hfr, hcr⟩ := callee_ok S hn (ats := ats) (args := args) (ty := o.type) (P := X.E.P) hcal' hf
  have hrun : (execOp a.eval o).run X.E.P w = .ok (.enter fid (fvs ++ args.map a.eval ++ cvs)) w := by
    simp [execOp, hop, hres, invoke, run_callFunc hctr.1]
  rw [hrun]
  simp only [Oper.uponIn]
  refine ⟨fun h => by simp [Fence.wide] at h, callsIn_fence c ?_⟩
  have hcall := hctr.2 w Im ρ (fvs ++ args.map a.eval ++ cvs) (S.G ok) (fun b hb => (S.imn b hb).1) (fun b hb => S.im0 b (ok.gl b hb)) (by simp [argsV_eq, evL, hcs, hfs]) (by rw [argsV_eq, ← hev']; exact argsV_ok S hn hargs hfs hfr hcr) (S.hrel hhin')
  refine hcall.mono fun e w' he => ?_
  cases e with
  | returned v =>
    obtain ⟨res', ho', Im', ρ', hpost, hra, hcl, haft⟩ := he
    have hpost := hpost.elim (fun h => h) fun ⟨_, h, _⟩ => by simp at h
    injection hpost with h1 h2; subst h1; subst h2
    have S' := S.call hhin' haft (fun r o hr => (newK_spec hr).imp id fun h => hnw r h)
    have hH : (fun r => lkH r (s'.back hin ho')) = fun r => lkH r ((ho' ++ killed hin) ++ s'.h) := by funext r; simp [St.back]
    have S2 := wtOf_put (dst := o.dst) (v := v) (x := res') (ro := keysH hin) (nw := newK hin ho') (s := s') S' hn hd (hcl.back (ρ := ρ) (hin := hin) hra) hH
    exact hK _ _ _ _ S2
  | panicked ch =>
    obtain ⟨ho', Im', ρ', hpost, haft⟩ := he
    rcases hpost with hpost | ⟨ch', hpost, hq⟩
    · exact absurd hpost (by simp)
    · injection hpost with h1 h2; subst h1; subst h2
      have S' := S.call (ho := []) hhin' haft (fun r o (hr : lkH r [] = some o) => absurd hr (by simp [lkH]))
      exact ⟨by simp, _, _, { f := [], h := [] }, S'.weak (fun t => .inl rfl) (fun r o (h : lkH r [] = some o) => absurd h (by simp [lkH])), hq⟩
  | outgrown => exact he.elim
theorem opD_ok {Q : APost} {PD : List PanicEntry → Prop} (hPD : ∀ ch, PD ch → Q (.panic ch) { f := [], h := [] }) {ops : List Oper} {o : Oper} {s : St} {K : Stp → St → Prop} (hall : ops.all (fun o => dstIn k.nt o.dst) = true) (hd : dstIn k.nt o.dst = true) {b want : Bool} (hg : guardV ops s o.guard = some (b, want)) (hb : (b == want) = true)
    (h : opD X.E X.tab k PD o s K) : ∃ st, StepOk X k Q ops o s st ∧ K st (s.put st) := by
  unfold opD at h
  split at h
  · rename_i f args ats hop
    split at h
    · rename_i fid fs0 caps hcal hargs hf
      obtain ⟨hin, res, ho, hctr, hhin, hK⟩ := (strictL_spec h).ok
      exact ⟨_, stepOk_call hall hd hg hb hop hcal hargs hf (hctr.mono fun o h => h.imp id fun ⟨ch, h1, h2⟩ => ⟨ch, h1, hPD ch h2⟩) hhin, stepV_spec (strictH_spec hK)⟩
    · exact h.elim
  · have h := withDst_spec h
    split at h
    · rename_i val rh wh new cond hin hr
      obtain ⟨hc, hK⟩ := condP_spec h
      exact ⟨_, stepOk_op hall hd hg hb hin hr hc, stepV_spec (strictH_spec hK)⟩
    · exact h.elim
theorem runD_ok {Q : APost} {PD : List PanicEntry → Prop} (hPD : ∀ ch, PD ch → Q (.panic ch) { f := [], h := [] }) {ops : List Oper} {K : List Stp → St → Prop} (hall : ops.all (fun o => dstIn k.nt o.dst) = true) : ∀ (l : List Oper) {acc : List Stp → List Stp} {s : St}, runD X.E X.tab k PD ops K l acc s →
    ∃ tr s', Trace X k Q ops l s tr s' ∧ K (acc tr) s'
  | [], acc, s, h => ⟨[], s, .nil s, h⟩
  | o :: rest, acc, s, h => by
    unfold runD at h
    split at h
    · rename_i b want hd hg
      have hyes : (b == want) = true → (opD X.E X.tab k PD o s fun st s => runD X.E X.tab k PD ops K rest (fun l => acc (st :: l)) s) → ∃ tr s', Trace X k Q ops (o :: rest) s tr s' ∧ K (acc tr) s' := fun hb h => by
        obtain ⟨st, h1, h2⟩ := opD_ok (Q := Q) hPD hall hd hg hb h
        obtain ⟨tr, s', h3, h4⟩ := runD_ok (Q := Q) hPD hall rest h2
        exact ⟨st :: tr, s', .cons h1 h3, h4⟩
      have hno : (b == want) = false → (skipD s o.dst fun st s => runD X.E X.tab k PD ops K rest (fun l => acc (st :: l)) s) → ∃ tr s', Trace X k Q ops (o :: rest) s tr s' ∧ K (acc tr) s' := fun hb h => by
        obtain ⟨tr, s', h3, h4⟩ := runD_ok (Q := Q) hPD hall rest (stepV_spec h)
        exact ⟨_, s', .cons (stepOk_skip hall hd hg hb) h3, h4⟩
      cases want with
      | true =>
        cases b with
        | true => exact hyes rfl h
        | false => exact hno rfl h
      | false =>
        cases b with
        | true => exact hno rfl h
        | false => exact hyes rfl h
    · exact h.elim
def dynP (b : Bool) (p : Prop) : Prop := match b with
  | true => p
  | false => False
theorem dynP_spec {b : Bool} {p : Prop} (h : dynP b p) : b = true ∧ p := by
  cases b with
  | true => exact ⟨rfl, h⟩
  | false => exact h.elim
theorem DrawP.intro {id : Nat} {ops : Array Oper} {Q : APost} {s : St} (bm : List Nat) (hbm : bms ops.toList = bm) (hs : (statOk ops.toList && ops.toList.all (fun o => dstIn k.nt o.dst)) = true)
    (h : runD X.E X.tab k (fun ch => Q (.panic ch) { f := [], h := [] }) ops.toList (fun tr s' => dynP (dynGo bm k.anc s tr tr 0) (Q .normal s')) ops.toList (fun l => l) s) : DrawP X.E k id ops Q s := by
  simp only [Bool.and_eq_true] at hs
  obtain ⟨tr, s', ht, hK⟩ := runD_ok (Q := Q) (fun _ h => h) hs.2 ops.toList h
  obtain ⟨hd, hq⟩ := dynP_spec hK
  exact ⟨AWp.draw ht hs.1 (by rw [hbm]; exact hd) hq⟩
end Go.Ax

namespace Go.Ax
open Go.Proofs
def Tryz.tab : List (Nat × TI) := [
  (1, ⟨.func, 1, 8, [.nilFunc], []⟩),
  (2, ⟨(.int .i64), 1, 8, [.int .i64 0], [.int .i64]⟩),
  (3, ⟨(.int .i64), 1, 8, [.int .i64 0], [.int .i64]⟩),
  (4, ⟨.bool, 1, 1, [.bool false], [.bool]⟩),
  (5, ⟨(.int .u8), 1, 1, [.int .u8 0], [.int .u8]⟩),
  (6, ⟨(.int .u8), 1, 1, [.int .u8 0], [.int .u8]⟩),
  (7, ⟨(.struct [(0, 2), (1, 3), (2, 4), (3, 6)]), 4, 24, [.int .i64 0, .int .i64 0, .bool false, .int .u8 0], [.int .i64, .int .i64, .bool, .int .u8]⟩),
  (8, ⟨(.struct [(0, 2), (1, 3), (2, 4), (3, 6)]), 4, 24, [.int .i64 0, .int .i64 0, .bool false, .int .u8 0], [.int .i64, .int .i64, .bool, .int .u8]⟩),
  (9, ⟨.str, 1, 16, [.string ⟨#[]⟩], [.str]⟩),
  (10, ⟨.str, 1, 16, [.string ⟨#[]⟩], [.str]⟩),
  (11, ⟨.str, 1, 16, [.string ⟨#[]⟩], [.str]⟩),
  (12, ⟨(.int .u64), 1, 8, [.int .u64 0], [.int .u64]⟩),
  (13, ⟨(.struct [(0, 9), (1, 12)]), 2, 24, [.string ⟨#[]⟩, .int .u64 0], []⟩),
  (14, ⟨(.struct [(0, 9), (1, 12)]), 2, 24, [.string ⟨#[]⟩, .int .u64 0], []⟩),
  (15, ⟨(.ptr 335), 1, 8, [.pointer none], []⟩),
  (16, ⟨(.ptr 338), 1, 8, [.pointer none], []⟩),
  (17, ⟨(.ptr 345), 1, 8, [.pointer none], []⟩),
  (18, ⟨(.struct [(0, 17)]), 1, 8, [.pointer none], []⟩),
  (19, ⟨(.struct [(0, 17)]), 1, 8, [.pointer none], []⟩),
  (20, ⟨.iface, 1, 16, [.nilIface], []⟩),
  (21, ⟨(.int .i32), 1, 4, [.int .i32 0], [.int .i32]⟩),
  (22, ⟨(.slice 26), 1, 24, [.slice none 0 0], []⟩),
  (23, ⟨(.slice 85), 1, 24, [.slice none 0 0], []⟩),
  (24, ⟨(.slice 87), 1, 24, [.slice none 0 0], []⟩),
  (25, ⟨.func, 1, 8, [.nilFunc], []⟩),
  (26, ⟨(.int .u16), 1, 2, [.int .u16 0], [.int .u16]⟩),
  (27, ⟨(.slice 29), 1, 24, [.slice none 0 0], []⟩),
  (28, ⟨(.struct [(0, 3), (1, 3), (2, 26), (3, 27)]), 4, 48, [.int .i64 0, .int .i64 0, .int .u16 0, .slice none 0 0], []⟩),
  (29, ⟨(.struct [(0, 3), (1, 3), (2, 26), (3, 27)]), 4, 48, [.int .i64 0, .int .i64 0, .int .u16 0, .slice none 0 0], []⟩),
  (31, ⟨.func, 1, 8, [.nilFunc], []⟩),
  (32, ⟨.func, 1, 8, [.nilFunc], []⟩),
  (33, ⟨(.struct [(0, 22), (1, 29), (5, 24)]), 6, 96, [.slice none 0 0, .int .i64 0, .int .i64 0, .int .u16 0, .slice none 0 0, .slice none 0 0], []⟩),
  (34, ⟨(.struct [(0, 22), (1, 29), (5, 24)]), 6, 96, [.slice none 0 0, .int .i64 0, .int .i64 0, .int .u16 0, .slice none 0 0, .slice none 0 0], []⟩),
  (35, ⟨.func, 1, 8, [.nilFunc], []⟩),
  (36, ⟨.func, 1, 8, [.nilFunc], []⟩),
  (37, ⟨(.int .i64), 1, 8, [.int .i64 0], [.int .i64]⟩),
  (39, ⟨.func, 1, 8, [.nilFunc], []⟩),
  (40, ⟨.func, 1, 8, [.nilFunc], []⟩),
  (41, ⟨.func, 1, 8, [.nilFunc], []⟩),
  (42, ⟨(.slice 56), 1, 24, [.slice none 0 0], []⟩),
  (43, ⟨(.slice 122), 1, 24, [.slice none 0 0], []⟩),
  (45, ⟨.func, 1, 8, [.nilFunc], []⟩),
  (46, ⟨.func, 1, 8, [.nilFunc], []⟩),
  (47, ⟨.func, 1, 8, [.nilFunc], []⟩),
  (49, ⟨.func, 1, 8, [.nilFunc], []⟩),
  (51, ⟨.func, 1, 8, [.nilFunc], []⟩),
  (52, ⟨.func, 1, 8, [.nilFunc], []⟩),
  (53, ⟨.func, 1, 8, [.nilFunc], []⟩),
  (54, ⟨.func, 1, 8, [.nilFunc], []⟩),
  (55, ⟨(.array 8 26), 8, 16, [.int .u16 0, .int .u16 0, .int .u16 0, .int .u16 0, .int .u16 0, .int .u16 0, .int .u16 0, .int .u16 0], [.int .u16, .int .u16, .int .u16, .int .u16, .int .u16, .int .u16, .int .u16, .int .u16]⟩),
  (56, ⟨(.array 8 26), 8, 16, [.int .u16 0, .int .u16 0, .int .u16 0, .int .u16 0, .int .u16 0, .int .u16 0, .int .u16 0, .int .u16 0], [.int .u16, .int .u16, .int .u16, .int .u16, .int .u16, .int .u16, .int .u16, .int .u16]⟩),
  (57, ⟨(.slice 3), 1, 24, [.slice none 0 0], []⟩),
  (58, ⟨(.slice 73), 1, 24, [.slice none 0 0], []⟩),
  (59, ⟨(.struct [(0, 57), (1, 58)]), 2, 48, [.slice none 0 0, .slice none 0 0], []⟩),
  (60, ⟨(.struct [(0, 57), (1, 58)]), 2, 48, [.slice none 0 0, .slice none 0 0], []⟩),
  (61, ⟨.func, 1, 8, [.nilFunc], []⟩),
  (62, ⟨.func, 1, 8, [.nilFunc], []⟩),
  (64, ⟨.func, 1, 8, [.nilFunc], []⟩),
  (65, ⟨.func, 1, 8, [.nilFunc], []⟩),
  (67, ⟨.func, 1, 8, [.nilFunc], []⟩),
  (68, ⟨(.slice 106), 1, 24, [.slice none 0 0], []⟩),
  (69, ⟨(.slice 146), 1, 24, [.slice none 0 0], []⟩),
  (70, ⟨(.struct [(0, 68), (1, 69)]), 2, 48, [.slice none 0 0, .slice none 0 0], []⟩),
  (71, ⟨(.struct [(0, 68), (1, 69)]), 2, 48, [.slice none 0 0, .slice none 0 0], []⟩),
  (72, ⟨.func, 1, 8, [.nilFunc], []⟩),
  (73, ⟨(.slice 71), 1, 24, [.slice none 0 0], []⟩),
  (75, ⟨.func, 1, 8, [.nilFunc], []⟩),
  (76, ⟨.func, 1, 8, [.nilFunc], []⟩),
  (77, ⟨.func, 1, 8, [.nilFunc], []⟩),
  (78, ⟨.func, 1, 8, [.nilFunc], []⟩),
  (79, ⟨.func, 1, 8, [.nilFunc], []⟩),
  (80, ⟨.func, 1, 8, [.nilFunc], []⟩),
  (81, ⟨.func, 1, 8, [.nilFunc], []⟩),
  (82, ⟨.func, 1, 8, [.nilFunc], []⟩),
  (83, ⟨.func, 1, 8, [.nilFunc], []⟩),
  (84, ⟨(.struct [(0, 3), (1, 3), (2, 26), (3, 5)]), 4, 24, [.int .i64 0, .int .i64 0, .int .u16 0, .int .u8 0], [.int .i64, .int .i64, .int .u16, .int .u8]⟩),
  (85, ⟨(.struct [(0, 3), (1, 3), (2, 26), (3, 5)]), 4, 24, [.int .i64 0, .int .i64 0, .int .u16 0, .int .u8 0], [.int .i64, .int .i64, .int .u16, .int .u8]⟩),
  (86, ⟨(.struct [(0, 68), (1, 68), (2, 68)]), 3, 72, [.slice none 0 0, .slice none 0 0, .slice none 0 0], []⟩),
  (87, ⟨(.struct [(0, 68), (1, 68), (2, 68)]), 3, 72, [.slice none 0 0, .slice none 0 0, .slice none 0 0], []⟩),
  (88, ⟨.func, 1, 8, [.nilFunc], []⟩),
  (89, ⟨(.ptr 92), 1, 8, [.pointer none], []⟩),
  (90, ⟨(.slice 5), 1, 24, [.slice none 0 0], []⟩),
  (91, ⟨(.struct [(0, 89), (1, 90)]), 2, 32, [.pointer none, .slice none 0 0], []⟩),
  (92, ⟨(.struct [(0, 89), (1, 90)]), 2, 32, [.pointer none, .slice none 0 0], []⟩),
  (93, ⟨(.struct [(0, 92)]), 2, 32, [.pointer none, .slice none 0 0], []⟩),
  (94, ⟨(.struct [(0, 92)]), 2, 32, [.pointer none, .slice none 0 0], []⟩),
  (95, ⟨.iface, 1, 16, [.nilIface], []⟩),
  (96, ⟨.iface, 1, 16, [.nilIface], []⟩),
  (98, ⟨.func, 1, 8, [.nilFunc], []⟩),
  (99, ⟨.func, 1, 8, [.nilFunc], []⟩),
  (100, ⟨.func, 1, 8, [.nilFunc], []⟩),
  (101, ⟨.func, 1, 8, [.nilFunc], []⟩),
  (102, ⟨.func, 1, 8, [.nilFunc], []⟩),
  (103, ⟨.func, 1, 8, [.nilFunc], []⟩),
  (104, ⟨.func, 1, 8, [.nilFunc], []⟩),
  (105, ⟨(.struct [(0, 3), (1, 26)]), 2, 16, [.int .i64 0, .int .u16 0], [.int .i64, .int .u16]⟩),
  (106, ⟨(.struct [(0, 3), (1, 26)]), 2, 16, [.int .i64 0, .int .u16 0], [.int .i64, .int .u16]⟩),
  (107, ⟨.func, 1, 8, [.nilFunc], []⟩),
  (108, ⟨(.slice 173), 1, 24, [.slice none 0 0], []⟩),
  (110, ⟨.func, 1, 8, [.nilFunc], []⟩),
  (111, ⟨(.ptr 114), 1, 8, [.pointer none], []⟩),
  (112, ⟨(.map 9 26), 1, 8, [.map none], []⟩),
  (113, ⟨(.struct [(0, 108), (1, 112), (2, 4), (3, 4)]), 4, 40, [.slice none 0 0, .map none, .bool false, .bool false], []⟩),
  (114, ⟨(.struct [(0, 108), (1, 112), (2, 4), (3, 4)]), 4, 40, [.slice none 0 0, .map none, .bool false, .bool false], []⟩),
  (116, ⟨.func, 1, 8, [.nilFunc], []⟩),
  (117, ⟨.func, 1, 8, [.nilFunc], []⟩),
  (118, ⟨.func, 1, 8, [.nilFunc], []⟩),
  (119, ⟨(.slice 9), 1, 24, [.slice none 0 0], []⟩),
  (120, ⟨.func, 1, 8, [.nilFunc], []⟩),
  (121, ⟨(.struct [(0, 4), (1, 4), (2, 3), (3, 3), (4, 68)]), 5, 48, [.bool false, .bool false, .int .i64 0, .int .i64 0, .slice none 0 0], []⟩),
  (122, ⟨(.struct [(0, 4), (1, 4), (2, 3), (3, 3), (4, 68)]), 5, 48, [.bool false, .bool false, .int .i64 0, .int .i64 0, .slice none 0 0], []⟩),
  (124, ⟨.func, 1, 8, [.nilFunc], []⟩),
  (125, ⟨(.slice 186), 1, 24, [.slice none 0 0], []⟩),
  (127, ⟨.func, 1, 8, [.nilFunc], []⟩),
  (128, ⟨(.struct [(0, 26), (1, 26)]), 2, 4, [.int .u16 0, .int .u16 0], [.int .u16, .int .u16]⟩),
  (129, ⟨(.struct [(0, 26), (1, 26)]), 2, 4, [.int .u16 0, .int .u16 0], [.int .u16, .int .u16]⟩),
  (130, ⟨.func, 1, 8, [.nilFunc], []⟩),
  (131, ⟨.func, 1, 8, [.nilFunc], []⟩),
  (132, ⟨.func, 1, 8, [.nilFunc], []⟩),
  (133, ⟨.func, 1, 8, [.nilFunc], []⟩),
  (134, ⟨.func, 1, 8, [.nilFunc], []⟩),
  (135, ⟨(.slice 4), 1, 24, [.slice none 0 0], []⟩),
  (136, ⟨.func, 1, 8, [.nilFunc], []⟩),
  (137, ⟨.func, 1, 8, [.nilFunc], []⟩),
  (138, ⟨.func, 1, 8, [.nilFunc], []⟩),
  (140, ⟨.func, 1, 8, [.nilFunc], []⟩),
  (141, ⟨.func, 1, 8, [.nilFunc], []⟩),
  (142, ⟨.func, 1, 8, [.nilFunc], []⟩),
  (143, ⟨.func, 1, 8, [.nilFunc], []⟩),
  (144, ⟨.func, 1, 8, [.nilFunc], []⟩),
  (145, ⟨.func, 1, 8, [.nilFunc], []⟩),
  (146, ⟨(.slice 106), 1, 24, [.slice none 0 0], []⟩),
  (147, ⟨(.ptr 149), 1, 8, [.pointer none], []⟩),
  (148, ⟨(.struct [(0, 119), (1, 4)]), 2, 32, [.slice none 0 0, .bool false], []⟩),
  (149, ⟨(.struct [(0, 119), (1, 4)]), 2, 32, [.slice none 0 0, .bool false], []⟩),
  (150, ⟨.func, 1, 8, [.nilFunc], []⟩),
  (152, ⟨.func, 1, 8, [.nilFunc], []⟩),
  (153, ⟨.func, 1, 8, [.nilFunc], []⟩),
  (154, ⟨.func, 1, 8, [.nilFunc], []⟩),
  (155, ⟨.func, 1, 8, [.nilFunc], []⟩),
  (157, ⟨.func, 1, 8, [.nilFunc], []⟩),
  (159, ⟨.func, 1, 8, [.nilFunc], []⟩),
  (160, ⟨.func, 1, 8, [.nilFunc], []⟩),
  (161, ⟨.func, 1, 8, [.nilFunc], []⟩),
  (162, ⟨.func, 1, 8, [.nilFunc], []⟩),
  (163, ⟨.func, 1, 8, [.nilFunc], []⟩),
  (164, ⟨.func, 1, 8, [.nilFunc], []⟩),
  (165, ⟨(.ptr 94), 1, 8, [.pointer none], []⟩),
  (166, ⟨.func, 1, 8, [.nilFunc], []⟩),
  (167, ⟨.func, 1, 8, [.nilFunc], []⟩),
  (168, ⟨(.ptr 5), 1, 8, [.pointer none], []⟩),
  (169, ⟨.func, 1, 8, [.nilFunc], []⟩),
  (171, ⟨.func, 1, 8, [.nilFunc], []⟩),
  (172, ⟨(.struct [(0, 3), (1, 9), (2, 26)]), 3, 32, [.int .i64 0, .string ⟨#[]⟩, .int .u16 0], [.int .i64, .str, .int .u16]⟩),
  (173, ⟨(.struct [(0, 3), (1, 9), (2, 26)]), 3, 32, [.int .i64 0, .string ⟨#[]⟩, .int .u16 0], [.int .i64, .str, .int .u16]⟩),
  (174, ⟨.func, 1, 8, [.nilFunc], []⟩),
  (175, ⟨.func, 1, 8, [.nilFunc], []⟩),
  (176, ⟨.func, 1, 8, [.nilFunc], []⟩),
  (178, ⟨.func, 1, 8, [.nilFunc], []⟩),
  (179, ⟨(.struct []), 0, 0, [], []⟩),
  (180, ⟨(.struct []), 0, 0, [], []⟩),
  (182, ⟨.func, 1, 8, [.nilFunc], []⟩),
  (184, ⟨.func, 1, 8, [.nilFunc], []⟩),
  (185, ⟨(.struct [(0, 4), (1, 4), (2, 3), (3, 3), (4, 68)]), 5, 48, [.bool false, .bool false, .int .i64 0, .int .i64 0, .slice none 0 0], []⟩),
  (186, ⟨(.struct [(0, 4), (1, 4), (2, 3), (3, 3), (4, 68)]), 5, 48, [.bool false, .bool false, .int .i64 0, .int .i64 0, .slice none 0 0], []⟩),
  (188, ⟨.func, 1, 8, [.nilFunc], []⟩),
  (189, ⟨.func, 1, 8, [.nilFunc], []⟩),
  (190, ⟨.func, 1, 8, [.nilFunc], []⟩),
  (191, ⟨.func, 1, 8, [.nilFunc], []⟩),
  (192, ⟨.func, 1, 8, [.nilFunc], []⟩),
  (193, ⟨.func, 1, 8, [.nilFunc], []⟩),
  (194, ⟨.func, 1, 8, [.nilFunc], []⟩),
  (195, ⟨.func, 1, 8, [.nilFunc], []⟩),
  (196, ⟨.func, 1, 8, [.nilFunc], []⟩),
  (197, ⟨.func, 1, 8, [.nilFunc], []⟩),
  (199, ⟨.func, 1, 8, [.nilFunc], []⟩),
  (200, ⟨.func, 1, 8, [.nilFunc], []⟩),
  (201, ⟨.func, 1, 8, [.nilFunc], []⟩),
  (202, ⟨.func, 1, 8, [.nilFunc], []⟩),
  (204, ⟨.func, 1, 8, [.nilFunc], []⟩),
  (205, ⟨.func, 1, 8, [.nilFunc], []⟩),
  (206, ⟨(.map 3 4), 1, 8, [.map none], []⟩),
  (207, ⟨.func, 1, 8, [.nilFunc], []⟩),
  (208, ⟨.func, 1, 8, [.nilFunc], []⟩),
  (209, ⟨.func, 1, 8, [.nilFunc], []⟩),
  (210, ⟨.func, 1, 8, [.nilFunc], []⟩),
  (212, ⟨.func, 1, 8, [.nilFunc], []⟩),
  (213, ⟨.func, 1, 8, [.nilFunc], []⟩),
  (214, ⟨.func, 1, 8, [.nilFunc], []⟩),
  (215, ⟨(.int .u64), 1, 8, [.int .u64 0], [.int .u64]⟩),
  (216, ⟨.func, 1, 8, [.nilFunc], []⟩),
  (217, ⟨.func, 1, 8, [.nilFunc], []⟩),
  (219, ⟨.func, 1, 8, [.nilFunc], []⟩),
  (220, ⟨.func, 1, 8, [.nilFunc], []⟩),
  (221, ⟨(.array 256 5), 256, 256, List.replicate 256 (.int .u8 0), List.replicate 256 (.int .u8)⟩),
  (222, ⟨(.struct [(0, 5), (1, 5)]), 2, 2, [.int .u8 0, .int .u8 0], [.int .u8, .int .u8]⟩),
  (223, ⟨(.struct [(0, 5), (1, 5)]), 2, 2, [.int .u8 0, .int .u8 0], [.int .u8, .int .u8]⟩),
  (224, ⟨(.array 16 223), 32, 32, [.int .u8 0, .int .u8 0, .int .u8 0, .int .u8 0, .int .u8 0, .int .u8 0, .int .u8 0, .int .u8 0, .int .u8 0, .int .u8 0, .int .u8 0, .int .u8 0, .int .u8 0, .int .u8 0, .int .u8 0, .int .u8 0, .int .u8 0, .int .u8 0, .int .u8 0, .int .u8 0, .int .u8 0, .int .u8 0, .int .u8 0, .int .u8 0, .int .u8 0, .int .u8 0, .int .u8 0, .int .u8 0, .int .u8 0, .int .u8 0, .int .u8 0, .int .u8 0], [.int .u8, .int .u8, .int .u8, .int .u8, .int .u8, .int .u8, .int .u8, .int .u8, .int .u8, .int .u8, .int .u8, .int .u8, .int .u8, .int .u8, .int .u8, .int .u8, .int .u8, .int .u8, .int .u8, .int .u8, .int .u8, .int .u8, .int .u8, .int .u8, .int .u8, .int .u8, .int .u8, .int .u8, .int .u8, .int .u8, .int .u8, .int .u8]⟩),
  (225, ⟨.func, 1, 8, [.nilFunc], []⟩),
  (226, ⟨.func, 1, 8, [.nilFunc], []⟩),
  (227, ⟨.func, 1, 8, [.nilFunc], []⟩),
  (228, ⟨.func, 1, 8, [.nilFunc], []⟩),
  (229, ⟨.func, 1, 8, [.nilFunc], []⟩),
  (231, ⟨.func, 1, 8, [.nilFunc], []⟩),
  (232, ⟨.func, 1, 8, [.nilFunc], []⟩),
  (233, ⟨.func, 1, 8, [.nilFunc], []⟩),
  (234, ⟨.func, 1, 8, [.nilFunc], []⟩),
  (235, ⟨.func, 1, 8, [.nilFunc], []⟩),
  (236, ⟨.func, 1, 8, [.nilFunc], []⟩),
  (237, ⟨.func, 1, 8, [.nilFunc], []⟩),
  (238, ⟨.func, 1, 8, [.nilFunc], []⟩),
  (239, ⟨.func, 1, 8, [.nilFunc], []⟩),
  (240, ⟨.func, 1, 8, [.nilFunc], []⟩),
  (241, ⟨.func, 1, 8, [.nilFunc], []⟩),
  (242, ⟨.func, 1, 8, [.nilFunc], []⟩),
  (243, ⟨(.int .u64), 1, 8, [.int .u64 0], [.int .u64]⟩),
  (245, ⟨.func, 1, 8, [.nilFunc], []⟩),
  (246, ⟨.func, 1, 8, [.nilFunc], []⟩),
  (247, ⟨(.int .i64), 1, 8, [.int .i64 0], [.int .i64]⟩),
  (249, ⟨.func, 1, 8, [.nilFunc], []⟩),
  (250, ⟨.func, 1, 8, [.nilFunc], []⟩),
  (251, ⟨.func, 1, 8, [.nilFunc], []⟩),
  (252, ⟨.func, 1, 8, [.nilFunc], []⟩),
  (253, ⟨.func, 1, 8, [.nilFunc], []⟩),
  (254, ⟨(.int .u32), 1, 4, [.int .u32 0], [.int .u32]⟩),
  (255, ⟨.func, 1, 8, [.nilFunc], []⟩),
  (256, ⟨.func, 1, 8, [.nilFunc], []⟩),
  (257, ⟨.func, 1, 8, [.nilFunc], []⟩),
  (258, ⟨(.ptr 291), 1, 8, [.pointer none], []⟩),
  (259, ⟨.func, 1, 8, [.nilFunc], []⟩),
  (260, ⟨.func, 1, 8, [.nilFunc], []⟩),
  (261, ⟨.func, 1, 8, [.nilFunc], []⟩),
  (262, ⟨.func, 1, 8, [.nilFunc], []⟩),
  (263, ⟨.func, 1, 8, [.nilFunc], []⟩),
  (264, ⟨.func, 1, 8, [.nilFunc], []⟩),
  (265, ⟨.func, 1, 8, [.nilFunc], []⟩),
  (266, ⟨(.array 24 5), 24, 24, [.int .u8 0, .int .u8 0, .int .u8 0, .int .u8 0, .int .u8 0, .int .u8 0, .int .u8 0, .int .u8 0, .int .u8 0, .int .u8 0, .int .u8 0, .int .u8 0, .int .u8 0, .int .u8 0, .int .u8 0, .int .u8 0, .int .u8 0, .int .u8 0, .int .u8 0, .int .u8 0, .int .u8 0, .int .u8 0, .int .u8 0, .int .u8 0], [.int .u8, .int .u8, .int .u8, .int .u8, .int .u8, .int .u8, .int .u8, .int .u8, .int .u8, .int .u8, .int .u8, .int .u8, .int .u8, .int .u8, .int .u8, .int .u8, .int .u8, .int .u8, .int .u8, .int .u8, .int .u8, .int .u8, .int .u8, .int .u8]⟩),
  (267, ⟨.func, 1, 8, [.nilFunc], []⟩),
  (269, ⟨.func, 1, 8, [.nilFunc], []⟩),
  (270, ⟨.func, 1, 8, [.nilFunc], []⟩),
  (271, ⟨.func, 1, 8, [.nilFunc], []⟩),
  (272, ⟨.func, 1, 8, [.nilFunc], []⟩),
  (273, ⟨.func, 1, 8, [.nilFunc], []⟩),
  (274, ⟨.func, 1, 8, [.nilFunc], []⟩),
  (275, ⟨(.array 256 4), 256, 256, List.replicate 256 (.bool false), List.replicate 256 (.bool)⟩),
  (276, ⟨(.array 256 4), 256, 256, List.replicate 256 (.bool false), List.replicate 256 (.bool)⟩),
  (278, ⟨.func, 1, 8, [.nilFunc], []⟩),
  (279, ⟨.func, 1, 8, [.nilFunc], []⟩),
  (280, ⟨(.ptr 276), 1, 8, [.pointer none], []⟩),
  (281, ⟨.func, 1, 8, [.nilFunc], []⟩),
  (282, ⟨(.int .u64), 1, 8, [.int .u64 0], [.int .u64]⟩),
  (283, ⟨.func, 1, 8, [.nilFunc], []⟩),
  (284, ⟨.func, 1, 8, [.nilFunc], []⟩),
  (285, ⟨.func, 1, 8, [.nilFunc], []⟩),
  (286, ⟨(.ptr 3), 1, 8, [.pointer none], []⟩),
  (287, ⟨.func, 1, 8, [.nilFunc], []⟩),
  (288, ⟨(.slice 293), 1, 24, [.slice none 0 0], []⟩),
  (289, ⟨(.slice 296), 1, 24, [.slice none 0 0], []⟩),
  (290, ⟨(.struct [(0, 288), (1, 289), (2, 3)]), 3, 56, [.slice none 0 0, .slice none 0 0, .int .i64 0], []⟩),
  (291, ⟨(.struct [(0, 288), (1, 289), (2, 3)]), 3, 56, [.slice none 0 0, .slice none 0 0, .int .i64 0], []⟩),
  (292, ⟨(.struct [(0, 26), (1, 26), (2, 26)]), 3, 6, [.int .u16 0, .int .u16 0, .int .u16 0], [.int .u16, .int .u16, .int .u16]⟩),
  (293, ⟨(.struct [(0, 26), (1, 26), (2, 26)]), 3, 6, [.int .u16 0, .int .u16 0, .int .u16 0], [.int .u16, .int .u16, .int .u16]⟩),
  (294, ⟨.func, 1, 8, [.nilFunc], []⟩),
  (295, ⟨(.struct [(0, 254), (1, 254), (2, 254)]), 3, 12, [.int .u32 0, .int .u32 0, .int .u32 0], [.int .u32, .int .u32, .int .u32]⟩),
  (296, ⟨(.struct [(0, 254), (1, 254), (2, 254)]), 3, 12, [.int .u32 0, .int .u32 0, .int .u32 0], [.int .u32, .int .u32, .int .u32]⟩),
  (297, ⟨.func, 1, 8, [.nilFunc], []⟩),
  (298, ⟨.func, 1, 8, [.nilFunc], []⟩),
  (299, ⟨.func, 1, 8, [.nilFunc], []⟩),
  (300, ⟨.func, 1, 8, [.nilFunc], []⟩),
  (301, ⟨.func, 1, 8, [.nilFunc], []⟩),
  (302, ⟨.func, 1, 8, [.nilFunc], []⟩),
  (303, ⟨(.array 20 243), 20, 160, [.int .u64 0, .int .u64 0, .int .u64 0, .int .u64 0, .int .u64 0, .int .u64 0, .int .u64 0, .int .u64 0, .int .u64 0, .int .u64 0, .int .u64 0, .int .u64 0, .int .u64 0, .int .u64 0, .int .u64 0, .int .u64 0, .int .u64 0, .int .u64 0, .int .u64 0, .int .u64 0], [.int .u64, .int .u64, .int .u64, .int .u64, .int .u64, .int .u64, .int .u64, .int .u64, .int .u64, .int .u64, .int .u64, .int .u64, .int .u64, .int .u64, .int .u64, .int .u64, .int .u64, .int .u64, .int .u64, .int .u64]⟩),
  (304, ⟨(.array 65 5), 65, 65, [.int .u8 0, .int .u8 0, .int .u8 0, .int .u8 0, .int .u8 0, .int .u8 0, .int .u8 0, .int .u8 0, .int .u8 0, .int .u8 0, .int .u8 0, .int .u8 0, .int .u8 0, .int .u8 0, .int .u8 0, .int .u8 0, .int .u8 0, .int .u8 0, .int .u8 0, .int .u8 0, .int .u8 0, .int .u8 0, .int .u8 0, .int .u8 0, .int .u8 0, .int .u8 0, .int .u8 0, .int .u8 0, .int .u8 0, .int .u8 0, .int .u8 0, .int .u8 0, .int .u8 0, .int .u8 0, .int .u8 0, .int .u8 0, .int .u8 0, .int .u8 0, .int .u8 0, .int .u8 0, .int .u8 0, .int .u8 0, .int .u8 0, .int .u8 0, .int .u8 0, .int .u8 0, .int .u8 0, .int .u8 0, .int .u8 0, .int .u8 0, .int .u8 0, .int .u8 0, .int .u8 0, .int .u8 0, .int .u8 0, .int .u8 0, .int .u8 0, .int .u8 0, .int .u8 0, .int .u8 0, .int .u8 0, .int .u8 0, .int .u8 0, .int .u8 0, .int .u8 0], [.int .u8, .int .u8, .int .u8, .int .u8, .int .u8, .int .u8, .int .u8, .int .u8, .int .u8, .int .u8, .int .u8, .int .u8, .int .u8, .int .u8, .int .u8, .int .u8, .int .u8, .int .u8, .int .u8, .int .u8, .int .u8, .int .u8, .int .u8, .int .u8, .int .u8, .int .u8, .int .u8, .int .u8, .int .u8, .int .u8, .int .u8, .int .u8, .int .u8, .int .u8, .int .u8, .int .u8, .int .u8, .int .u8, .int .u8, .int .u8, .int .u8, .int .u8, .int .u8, .int .u8, .int .u8, .int .u8, .int .u8, .int .u8, .int .u8, .int .u8, .int .u8, .int .u8, .int .u8, .int .u8, .int .u8, .int .u8, .int .u8, .int .u8, .int .u8, .int .u8, .int .u8, .int .u8, .int .u8, .int .u8, .int .u8]⟩),
  (305, ⟨.func, 1, 8, [.nilFunc], []⟩),
  (306, ⟨.func, 1, 8, [.nilFunc], []⟩),
  (307, ⟨.func, 1, 8, [.nilFunc], []⟩),
  (308, ⟨(.int .i64), 1, 8, [.int .i64 0], [.int .i64]⟩),
  (309, ⟨.func, 1, 8, [.nilFunc], []⟩),
  (310, ⟨(.ptr 325), 1, 8, [.pointer none], []⟩),
  (311, ⟨.func, 1, 8, [.nilFunc], []⟩),
  (312, ⟨.func, 1, 8, [.nilFunc], []⟩),
  (313, ⟨(.ptr 282), 1, 8, [.pointer none], []⟩),
  (315, ⟨.func, 1, 8, [.nilFunc], []⟩),
  (316, ⟨(.ptr 293), 1, 8, [.pointer none], []⟩),
  (317, ⟨(.ptr 296), 1, 8, [.pointer none], []⟩),
  (318, ⟨.func, 1, 8, [.nilFunc], []⟩),
  (320, ⟨.func, 1, 8, [.nilFunc], []⟩),
  (322, ⟨.func, 1, 8, [.nilFunc], []⟩),
  (323, ⟨.func, 1, 8, [.nilFunc], []⟩),
  (324, ⟨(.struct [(0, 9), (1, 9), (2, 96)]), 3, 48, [.string ⟨#[]⟩, .string ⟨#[]⟩, .nilIface], []⟩),
  (325, ⟨(.struct [(0, 9), (1, 9), (2, 96)]), 3, 48, [.string ⟨#[]⟩, .string ⟨#[]⟩, .nilIface], []⟩),
  (326, ⟨.func, 1, 8, [.nilFunc], []⟩),
  (327, ⟨.func, 1, 8, [.nilFunc], []⟩),
  (328, ⟨.func, 1, 8, [.nilFunc], []⟩),
  (329, ⟨(.array 32 5), 32, 32, [.int .u8 0, .int .u8 0, .int .u8 0, .int .u8 0, .int .u8 0, .int .u8 0, .int .u8 0, .int .u8 0, .int .u8 0, .int .u8 0, .int .u8 0, .int .u8 0, .int .u8 0, .int .u8 0, .int .u8 0, .int .u8 0, .int .u8 0, .int .u8 0, .int .u8 0, .int .u8 0, .int .u8 0, .int .u8 0, .int .u8 0, .int .u8 0, .int .u8 0, .int .u8 0, .int .u8 0, .int .u8 0, .int .u8 0, .int .u8 0, .int .u8 0, .int .u8 0], [.int .u8, .int .u8, .int .u8, .int .u8, .int .u8, .int .u8, .int .u8, .int .u8, .int .u8, .int .u8, .int .u8, .int .u8, .int .u8, .int .u8, .int .u8, .int .u8, .int .u8, .int .u8, .int .u8, .int .u8, .int .u8, .int .u8, .int .u8, .int .u8, .int .u8, .int .u8, .int .u8, .int .u8, .int .u8, .int .u8, .int .u8, .int .u8]⟩),
  (330, ⟨(.array 64 5), 64, 64, [.int .u8 0, .int .u8 0, .int .u8 0, .int .u8 0, .int .u8 0, .int .u8 0, .int .u8 0, .int .u8 0, .int .u8 0, .int .u8 0, .int .u8 0, .int .u8 0, .int .u8 0, .int .u8 0, .int .u8 0, .int .u8 0, .int .u8 0, .int .u8 0, .int .u8 0, .int .u8 0, .int .u8 0, .int .u8 0, .int .u8 0, .int .u8 0, .int .u8 0, .int .u8 0, .int .u8 0, .int .u8 0, .int .u8 0, .int .u8 0, .int .u8 0, .int .u8 0, .int .u8 0, .int .u8 0, .int .u8 0, .int .u8 0, .int .u8 0, .int .u8 0, .int .u8 0, .int .u8 0, .int .u8 0, .int .u8 0, .int .u8 0, .int .u8 0, .int .u8 0, .int .u8 0, .int .u8 0, .int .u8 0, .int .u8 0, .int .u8 0, .int .u8 0, .int .u8 0, .int .u8 0, .int .u8 0, .int .u8 0, .int .u8 0, .int .u8 0, .int .u8 0, .int .u8 0, .int .u8 0, .int .u8 0, .int .u8 0, .int .u8 0, .int .u8 0], [.int .u8, .int .u8, .int .u8, .int .u8, .int .u8, .int .u8, .int .u8, .int .u8, .int .u8, .int .u8, .int .u8, .int .u8, .int .u8, .int .u8, .int .u8, .int .u8, .int .u8, .int .u8, .int .u8, .int .u8, .int .u8, .int .u8, .int .u8, .int .u8, .int .u8, .int .u8, .int .u8, .int .u8, .int .u8, .int .u8, .int .u8, .int .u8, .int .u8, .int .u8, .int .u8, .int .u8, .int .u8, .int .u8, .int .u8, .int .u8, .int .u8, .int .u8, .int .u8, .int .u8, .int .u8, .int .u8, .int .u8, .int .u8, .int .u8, .int .u8, .int .u8, .int .u8, .int .u8, .int .u8, .int .u8, .int .u8, .int .u8, .int .u8, .int .u8, .int .u8, .int .u8, .int .u8, .int .u8, .int .u8]⟩),
  (331, ⟨(.ptr 333), 1, 8, [.pointer none], []⟩),
  (332, ⟨(.struct [(0, 9)]), 1, 16, [.string ⟨#[]⟩], [.str]⟩),
  (333, ⟨(.struct [(0, 9)]), 1, 16, [.string ⟨#[]⟩], [.str]⟩),
  (334, ⟨(.struct [(0, 17), (1, 17), (2, 17), (3, 9)]), 4, 40, [.pointer none, .pointer none, .pointer none, .string ⟨#[]⟩], []⟩),
  (335, ⟨(.struct [(0, 17), (1, 17), (2, 17), (3, 9)]), 4, 40, [.pointer none, .pointer none, .pointer none, .string ⟨#[]⟩], []⟩),
  (339, ⟨(.int .u8), 1, 1, [.int .u8 0], [.int .u8]⟩),
  (340, ⟨(.int .u8), 1, 1, [.int .u8 0], [.int .u8]⟩),
  (341, ⟨.func, 1, 8, [.nilFunc], []⟩),
  (342, ⟨(.int .i32), 1, 4, [.int .i32 0], [.int .i32]⟩),
  (343, ⟨(.int .i32), 1, 4, [.int .i32 0], [.int .i32]⟩),
  (344, ⟨(.struct [(0, 12), (1, 12), (2, 254), (3, 339), (4, 5), (5, 5), (6, 340), (7, 341), (8, 168), (9, 342), (10, 343)]), 11, 48, [.int .u64 0, .int .u64 0, .int .u32 0, .int .u8 0, .int .u8 0, .int .u8 0, .int .u8 0, .nilFunc, .pointer none, .int .i32 0, .int .i32 0], []⟩),
  (345, ⟨(.struct [(0, 12), (1, 12), (2, 254), (3, 339), (4, 5), (5, 5), (6, 340), (7, 341), (8, 168), (9, 342), (10, 343)]), 11, 48, [.int .u64 0, .int .u64 0, .int .u32 0, .int .u8 0, .int .u8 0, .int .u8 0, .int .u8 0, .nilFunc, .pointer none, .int .i32 0, .int .i32 0], []⟩)]
theorem Tryz.tabOk : TabOk Tryz.prog Tryz.tab := by unfold TabOk; kernel_rfl
def Tryz.deB : List Int := [0, 1, 56, 2, 57, 49, 28, 3, 61, 58, 42, 50, 38, 29, 17, 4, 62, 47, 59, 36, 45, 43, 51, 22, 53, 39, 33, 30, 24, 18, 12, 5, 63, 55, 48, 27, 60, 41, 37, 16, 46, 35, 44, 21, 52, 32, 23, 11, 54, 26, 40, 15, 34, 20, 31, 10, 25, 14, 19, 9, 13, 8, 7, 6]
def Tryz.gl : List (Nat × List D) := [(9, Tryz.deB.map fun n => .v (.int .u8 n))]
structure GP where
  ng : Nat
  G : World → Prop
  gl : List (Nat × List D)
  glOk : ∀ w, G w → GlOk ng gl w
  Gst : ∀ w w' : World, w'.os = w.os → (∀ b, b < ng → w'.heap[b]? = w.heap[b]?) → G w → G w'
theorem Tryz.mixed : Tryz.prog.follows .mixedOrders = true := by kernel_rfl
noncomputable def ax (g : GP) : Ax := { E := { P := Tryz.prog, ng := g.ng, G := g.G, gl := g.gl, glOk := g.glOk, Gst := g.Gst, mixed := Tryz.mixed }, tab := Tryz.tab, ok := Tryz.tabOk }
end Go.Ax

namespace Go.Ax
def B11_17 : List Nat := [0, 0, 0, 6, 15, 0, 32, 0, 224, 480, 1023, 2047]
def B16_6 : List Nat := [0, 1, 0, 7, 15, 0, 32, 0, 224, 480, 1023]
def B49_8 : List Nat := [0, 1, 3, 0, 8, 24, 56, 0, 128, 440, 1016, 2047]
def B49_10 : List Nat := [0, 1, 3, 0, 8, 24, 56, 0, 128, 440, 1016, 2047]
def B49_12 : List Nat := [0, 1, 3, 0, 8, 0, 32, 120, 255]
def B50_5 : List Nat := [0, 0, 2, 6, 14, 0, 32, 110, 254, 510, 1023, 2047]
def B55_4 : List Nat := [0, 0, 3, 7, 15, 31, 63, 127, 127, 511, 1023, 2047, 127, 8191, 16383, 32767, 65535, 131071, 262143, 524287, 524287, 1572863, 4194303, 8388607, 16777215, 524287, 524287, 101187583, 235405311, 503840767, 1073741823, 2147483647, 4294967295]
def B56_24 : List Nat := [0, 0, 2, 7, 0, 0, 48, 15, 255]
def B58_6 : List Nat := [0, 1, 0, 7, 15, 0, 32, 0, 224, 480, 1023, 2047]
def B59_6 : List Nat := [0, 0, 3, 7, 0, 0, 48, 112, 255]
def B103_9 : List Nat := [0, 1, 3, 7, 15, 31, 63, 127, 255, 511, 1023, 2047, 4095, 8191, 16383, 32767, 65535, 131071, 262143, 32767, 1048575, 2097151, 4194303]
def B104_4 : List Nat := [0, 1, 3, 7, 15, 31, 15, 127, 255, 511, 1023, 2047, 4095, 8191, 8191, 24575, 65535, 131071, 262143, 8191, 532479, 2097151, 4194303, 8388607]
def B118_3 : List Nat := [0, 1, 0, 4, 12, 31, 63, 127]
def B118_5 : List Nat := [0, 1, 0, 4, 12, 31, 63, 127]
def B118_18 : List Nat := [0, 1, 0, 4, 12, 31, 63, 127]
def B167_6 : List Nat := [0, 1, 0, 4, 12, 31, 63, 127]
def B167_9 : List Nat := [0, 1, 0, 0, 8, 28, 60, 127, 255, 511]
def B167_13 : List Nat := [0, 0, 2, 7, 0, 0, 32, 127, 0, 0, 512, 2047, 1647, 8191, 16383, 32767, 65535, 131071]
def B212_5 : List Nat := [0, 0, 2, 6, 14, 30, 62, 62, 254, 510, 1022, 62, 62, 4158, 14398, 30782, 63550, 131070, 262142, 524287, 1048575, 2097151]
def B278_4 : List Nat := [0, 0, 3, 7, 15, 15, 15, 111, 239, 15, 15, 1039, 3599, 7695, 16383, 32767, 65535]
def B278_6 : List Nat := [0, 0, 0, 0, 8, 0, 0, 64, 224, 480, 0, 0, 3072, 7168, 16355, 32739, 65535, 131071]
def B279_5 : List Nat := [0, 0, 0, 6, 14, 0, 0, 96, 224, 511, 1023]
def B279_11 : List Nat := [0, 0, 0, 0, 8, 0, 0, 64, 224, 480, 0, 0, 3072, 7168, 16355, 32739, 65535, 131071]
def B279_17 : List Nat := [0, 0, 0, 6, 14, 0, 0, 96, 224, 511, 1023, 2047]
def B279_23 : List Nat := [0, 0, 0, 0, 8, 0, 0, 64, 224, 480, 0, 0, 3072, 7168, 16355, 32739, 65535, 131071]
def B279_35 : List Nat := [0, 0, 0, 0, 12, 30, 62, 0, 0, 384, 896, 2047, 4095, 8191]
def B283_3 : List Nat := [0, 0, 0, 6, 0, 0, 0, 96, 0, 0, 0, 1536, 3840, 7936, 0, 0, 0, 98304, 245760, 507904, 1048335, 2096911, 4194303, 8388607]
end Go.Ax

namespace Go.Ax
theorem CallP.det {E : Env} {k : Kn} {f : FuncId} {args : List AV} {s : St} {K : AV → HL → Prop} {KP : List PanicEntry → HL → Prop} {res : AV} (h : Ctr E f args [] fun o => o = .ret res []) (hk : K res s.h) : CallP E k f args s K KP :=
  ⟨[], _, h, fun r o h => by simp [lkH] at h, fun res' ho e => by injection e with e1 e2; subst e1; subst e2; exact ⟨fun r o h => by simp [lkH] at h, hk⟩, fun ch ho e => by simp at e⟩
theorem CallD.det {E : Env} {f : FuncId} {args : List AV} {s : St} {K : AV → HL → HL → Prop} {PD : List PanicEntry → Prop} {res : AV} (h : Ctr E f args [] fun o => o = .ret res []) (hk : K res [] []) : CallD E f args s K PD :=
  ⟨[], res, [], h.mono fun _ h => .inl h, fun r o h => by simp [lkH] at h, hk⟩
theorem CallP.arg {E : Env} {k : Kn} {f : FuncId} {args args' : List AV} {s : St} {K : AV → HL → Prop} {KP : List PanicEntry → HL → Prop} (e : args = args') (h : CallP E k f args' s K KP) : CallP E k f args s K KP := e ▸ h
abbrev AV.i64 (n : Int) : AV := .d (.v (.int .i64 n))
abbrev AV.bool (b : Bool) : AV := .d (.v (.bool b))
abbrev AV.str (b : ByteArray) : AV := .d (.v (.string b))
abbrev D.i64 (n : Int) : D := .v (.int .i64 n)
abbrev D.u16 (n : Int) : D := .v (.int .u16 n)
theorem msl_eq {r n n' : Nat} (h : n = n') : AV.msl r n 0 n = AV.msl r n' 0 n' := by rw [h]
theorem AV.int_eq {k : IntKind} {a b : Int} (h : a = b) : (AV.d (.v (.int k a))) = .d (.v (.int k b)) := by rw [h]
theorem AV.bool_eq {a b : Bool} (h : a = b) : (AV.d (.v (.bool a))) = .d (.v (.bool b)) := by rw [h]
theorem i64_wrap {n : Int} (h0 : -9223372036854775808 ≤ n) (h1 : n < 9223372036854775808) : IntKind.i64.wrap n = n := by rw [IntKind.wrap_i64]; omega
theorem i64_succ {n : Nat} (h1 : n < 9223372036854775807) : IntKind.i64.wrap ((n : Int) + 1) = ((n + 1 : Nat) : Int) := by rw [IntKind.wrap_i64]; omega
theorem u64_nat {n : Nat} (h : n < 2 ^ 64) : IntKind.u64.wrap (n : Int) = n := by rw [IntKind.wrap_u64]; omega
end Go.Ax

namespace Go.Ax
variable {X : Ax} {k : Kn}
def roundsP (E : Env) (tab : List (Nat × TI)) (k : Kn) (c : Code) (Q : APost) : Nat → St → Prop
  | 0, _ => False
  | n + 1, s => wpc E tab k c (thenP (fun s => roundsP E tab k c Q n s) Q) s
theorem rounds_ok {body : Code} {Q : APost} : ∀ (n : Nat) {s : St}, roundsP X.E X.tab k body Q n s → ∀ (c : Cx), c.Ok X.E → c.nt = k.nt → c.anc = k.anc → ∀ Im ρ a w, Sim c Im ρ s.F s.H a w → Code.roundsIn c.fence 0 X.E.P body (Lift c Q) n a w
  | 0, s, h => h.elim
  | n + 1, s, h => fun c ok hn ha Im ρ a w S => by
    refine wpIn_mono (wpc_ok h c ok hn ha Im ρ a w S) fun e a' w' ⟨h1, Im', ρ', s', S', hQ⟩ => ?_
    cases e with
    | normal => exact rounds_ok n hQ c ok hn ha Im' ρ' a' w' S'
    | outgrown => exact absurd rfl h1
    | exit id => exact ⟨h1, Im', ρ', s', S', hQ⟩
    | goto l => exact ⟨h1, Im', ρ', s', S', hQ⟩
    | ret => exact ⟨h1, Im', ρ', s', S', hQ⟩
    | panic ch => exact ⟨h1, Im', ρ', s', S', hQ⟩
theorem LoopP.rounds {body : Code} {Q : APost} {s : St} (n : Nat) (h : roundsP X.E X.tab k body Q n s) : LoopP X.E k body Q s :=
  ⟨fun c ok hn ha Im ρ a w S => wpIn_loop_rounds n (rounds_ok n h c ok hn ha Im ρ a w S)⟩
theorem LoopP.inv {σ : Type} {body : Code} {Q : APost} {s : St} (st : σ → St) (I : σ → Prop) (μ : σ → Nat) (s0 : σ) (hI : I s0) (h0 : (st s0).Le s)
    (round : ∀ x, I x → wpc X.E X.tab k body (thenP (fun s' => ∃ x', I x' ∧ μ x' < μ x ∧ (st x').Le s') Q) (st x)) : LoopP X.E k body Q s :=
  ⟨AWp.loop (σ := { x : σ // I x }) (fun x => st x.1) (fun x => μ x.1) ⟨s0, hI⟩ h0 fun ⟨x, hx⟩ => AWp.mono (wpc_ok (round x hx)) fun e s' h => by
    cases e with
    | normal => obtain ⟨x', h1, h2, h3⟩ := h; exact ⟨⟨x', h1⟩, h2, h3⟩
    | _ => exact h⟩
theorem Sim.seen {c : Cx} {Im : Nat → Prop} {ρ : Nat → Option Loc} {F : Nat → AV} {H : Nat → Option AObj} {a : Act} {w : World} (S : Sim c Im ρ F H a w) {t : Nat} {x : AV} (hx : RA (hp w) Im ρ (a.tmps.getD t undef) x) : Sim c Im ρ (upd F t x) H a w where
  defs := S.defs
  nt := S.nt
  fr := fun u hu => by
    by_cases h : u = t
    · subst h; simpa using hx
    · rw [upd_ne _ _ h]; exact S.fr u hu
  obj := S.obj
  dis := S.dis
  imn := S.imn
  im0 := S.im0
  os := S.os
  tape := S.tape
  output := S.output
  size := S.size
  kept := S.kept
  anc := S.anc
theorem AWp.own {E : Env} {code : Code} {Q : APost} {s : St} (t r sz : Nat) (el : TypeId) (ht : Nat.blt t k.nt = true) (hl : lk t s.f = .d (.v (.slice none 0 0))) (hu : unmB k.anc r s = true)
    (h : AWp E k code Q { f := (t, .msl r 0 0 0) :: s.f, h := (r, some (.buf sz el [])) :: s.h }) : AWp E k code Q s := fun c ok hn ha Im ρ a w S => by
  have hv : a.tmps.getD t undef = .slice none 0 0 := by
    have := S.fr t (by rw [hn]; simpa using ht)
    simp only [St.F] at this
    rw [hl] at this
    exact this.v
  have S1 := S.new (w' := w) (r := r) (l := { blk := none, isBuf := true, sz := sz }) (o := .buf sz el []) (Grows.refl w _) (unmB_spec (by rw [ha]; exact hu)) (by simp [Loc.fp]) ⟨rfl, rfl, rfl, rfl, by simp, .inl ⟨rfl, rfl, rfl⟩⟩
  have S2 := S1.seen (t := t) (x := .msl r 0 0 0) (by
    rw [hv]
    refine .msl _ r 0 0 0 rfl fun l hl => ?_
    rw [upd_same] at hl; injection hl with hl; subst hl
    exact ⟨by simp, fun _ => rfl⟩)
  refine h c ok hn ha Im (upd ρ r (some { blk := none, isBuf := true, sz := sz })) a w ?_
  have e1 : (St.F { f := (t, .msl r 0 0 0) :: s.f, h := (r, some (.buf sz el [])) :: s.h }) = upd s.F t (.msl r 0 0 0) := lk_cons t _ s.f
  have e2 : (St.H { f := (t, .msl r 0 0 0) :: s.f, h := (r, some (.buf sz el [])) :: s.h }) = upd s.H r (some (.buf sz el [])) := lkH_cons r _ s.h
  rw [e1, e2]
  exact S2
theorem LoopP.own {E : Env} {code : Code} {Q : APost} {s : St} (t r sz : Nat) (el : TypeId) (ht : Nat.blt t k.nt = true) (hl : lk t s.f = .d (.v (.slice none 0 0))) (hu : unmB k.anc r s = true)
    (h : LoopP E k code Q { f := (t, .msl r 0 0 0) :: s.f, h := (r, some (.buf sz el [])) :: s.h }) : LoopP E k code Q s := ⟨.own t r sz el ht hl hu h.ok⟩
def frz (r sz : Nat) (els : List (List D)) : AV → AV
  | .msl q n off len => match Nat.beq q r, Nat.beq n els.length, Nat.ble (off + len) els.length with
    | true, true, true => .d (.sl false sz ((els.drop off).take len))
    | _, _, _ => .msl q n off len
  | x => x
theorem Ctr.freeze {E : Env} {f : FuncId} {args : List AV} {res : AV} (r sz : Nat) (el : TypeId) (els : List (List D)) (h : Ctr E f (args.map (frz r sz els)) [] fun o => o = .ret res []) : Ctr E f args [(r, some (.buf sz el els))] fun o => o = .ret res [] := by
  refine ⟨h.1, fun w Im ρ vs hG hIm hgl hsz hra hrel => ?_⟩
  obtain ⟨l, hl, hro, hown⟩ := hrel.obj r (.buf sz el els) (by simp [lkH])
  have hra1 : ∀ (i : Nat) (v : Value) (x : AV), vs[i]? = some v → (args.map (frz r sz els))[i]? = some x → RA (hp w) (fun b => Im b ∨ b ∈ l.fp) ρ v x := fun i v x h1 h2 => by
    simp only [List.getElem?_map, Option.map_eq_some_iff] at h2
    obtain ⟨y, hy, rfl⟩ := h2
    have h3 := hra i v y h1 hy
    have h4 : RA (hp w) (fun b => Im b ∨ b ∈ l.fp) ρ v y := h3.mono (fun _ h => .inl h) (fun _ _ => rfl) fun q _ l' hl' => ⟨l', hl', .inl rfl⟩
    unfold frz
    split
    · split
      · rename_i q n off len e1 e2 e3
        have := Nat.eq_of_beq_eq_true e1; subst this
        have := Nat.eq_of_beq_eq_true e2; subst this
        cases h3 with
        | msl _ _ _ _ _ _ hp2 =>
          have hv := (hp2 l hl).2 hro.2.2.2.1.symm
          rw [hv]
          exact .d _ _ (RD.ofBuf hro (fun _ h => .inl h) (fun b hb => .inr hb) (Nat.le_of_ble_eq_true e3))
      · exact h4
    · exact h4
  have := h.2 w (fun b => Im b ∨ b ∈ l.fp) (fun _ => none) vs hG (fun b hb => hb.elim (hIm b) fun hb => (hown b hb).1) (fun b hb => .inl (hgl b hb)) (by simpa using hsz) (fun i v x h1 h2 => (hra1 i v x h1 h2).mono (fun _ h => h) (fun _ _ => rfl) fun q hq l' hl' => by simp at hl') ⟨fun r o h => by simp [lkH] at h, fun r r' o o' l l' h => by simp [lkH] at h⟩
  have hT : ∀ b, TIn (fun _ => none) [] b → False := fun b ⟨r, o, l, h, _⟩ => by simp [lkH] at h
  have hTin : ∀ b ∈ l.fp, TIn ρ [(r, some (.buf sz el els))] b := fun b hb => ⟨r, .buf sz el els, l, by simp [lkH], hl, hb⟩
  refine this.mono fun e w' he => ?_
  cases e with
  | returned v =>
    obtain ⟨res', ho, Im', ρ', h1, h2, h3, A⟩ := he
    injection h1 with e1 e2; subst e1; subst e2
    refine ⟨res', [], Im', fun _ => none, rfl, h2.mono (fun _ h => h) (fun _ _ => rfl) (fun q hq l' hl' => by simp at hl'), h3, ?_⟩
    refine ⟨⟨A.grows.size, A.grows.os, A.grows.tape, A.grows.output, fun b hb hn => A.grows.block b hb fun h => hT b h⟩, fun b hb => A.im b (.inl hb), fun b hb => ?_, ⟨fun q o hq => by simp [lkH] at hq, fun q q' o o' l1 l2 hq => by simp [lkH] at hq⟩, fun q o hq l' hl' => by simp at hl', A.cl⟩
    obtain ⟨g1, g2⟩ := A.imn b hb
    refine ⟨g1, ?_⟩
    rcases g2 with (g2 | g2) | g2 | g2
    · exact .inl g2
    · exact .inr (.inr (hTin b g2))
    · exact .inr (.inl g2)
    · exact (hT b g2).elim
  | panicked ch =>
    obtain ⟨ho, Im', ρ', h1, h4⟩ := he
    exact absurd h1 (by simp)
  | outgrown => exact he
theorem CallP.give {E : Env} {k : Kn} {f : FuncId} {args : List AV} {s : St} {K : AV → HL → Prop} {KP : List PanicEntry → HL → Prop} {res : AV} (r sz : Nat) (el : TypeId) (els : List (List D)) (hr : lkH r s.h = some (.buf sz el els)) (h : Ctr E f (args.map (frz r sz els)) [] fun o => o = .ret res [])
    (hk : K res ((r, none) :: s.h)) : CallP E k f args s K KP :=
  ⟨[(r, some (.buf sz el els))], _, Ctr.freeze r sz el els h, fun q o hq => by
    simp only [lkH] at hq
    split at hq
    · rename_i hb
      have := Nat.eq_of_beq_eq_true hb; subst this
      injection hq with hq; subst hq; exact hr
    · simp at hq, fun res' ho e => by injection e with e1 e2; subst e1; subst e2; exact ⟨fun r o h => by simp [lkH] at h, hk⟩, fun ch ho e => by simp at e⟩
theorem CallP.upd {E : Env} {k : Kn} {f : FuncId} {args : List AV} {s : St} {K : AV → HL → Prop} {KP : List PanicEntry → HL → Prop} {res : AV} {r : Nat} {ob ob' : AObj} (hr : lkH r s.h = some ob) (h : Ctr E f args [(r, some ob)] fun o => o = .ret res [(r, some ob')]) (hk : K res ((r, some ob') :: (r, none) :: s.h)) : CallP E k f args s K KP :=
  have one : ∀ {q o x}, lkH q [(r, some x)] = some o → q = r ∧ o = x := fun {q o x} hq => by
    simp only [lkH] at hq
    split at hq
    · rename_i hb; injection hq with hq; exact ⟨(Nat.eq_of_beq_eq_true hb).symm, hq.symm⟩
    · simp at hq
  ⟨[(r, some ob)], _, h, fun q o hq => by obtain ⟨rfl, rfl⟩ := one hq; exact hr, fun res' ho e => by
    injection e with e1 e2; subst e1; subst e2
    exact ⟨fun q o hq => .inl (by obtain ⟨rfl, rfl⟩ := one hq; exact ⟨ob, by simp [lkH]⟩), hk⟩, fun ch ho e => by simp at e⟩
theorem CallD.upd {E : Env} {f : FuncId} {args : List AV} {s : St} {K : AV → HL → HL → Prop} {PD : List PanicEntry → Prop} {res : AV} {r : Nat} {ob ob' : AObj} (hr : lkH r s.h = some ob) (h : Ctr E f args [(r, some ob)] fun o => o = .ret res [(r, some ob')]) (hk : K res [(r, some ob)] [(r, some ob')]) : CallD E f args s K PD :=
  ⟨[(r, some ob)], res, [(r, some ob')], h.mono fun _ h => .inl h, fun q o hq => by
    simp only [lkH] at hq
    split at hq
    · rename_i hb; injection hq with hq; subst hq; rw [← Nat.eq_of_beq_eq_true hb]; exact hr
    · simp at hq, hk⟩
theorem AWp.ownCell {E : Env} {code : Code} {Q : APost} {s : St} (q i r sz : Nat) (el : TypeId) (cs : List AV) (hq : lkH q s.h = some (.var cs)) (hi : cs[i]? = some (.d (.v (.slice none 0 0)))) (hu : unmB k.anc r s = true)
    (h : AWp E k code Q { f := s.f, h := (r, some (.buf sz el [])) :: (q, some (.var (cs.set i (.msl r 0 0 0)))) :: s.h }) : AWp E k code Q s := fun c ok hn ha Im ρ a w S => by
  have hun := unmB_spec (c := c) (by rw [ha]; exact hu)
  have hne : q ≠ r := fun e => by
    subst e
    have h1 : lkH q s.h = none := hun.none
    rw [hq] at h1; simp at h1
  have S1 := S.new (w' := w) (r := r) (l := { blk := none, isBuf := true, sz := sz }) (o := .buf sz el []) (Grows.refl w _) hun (by simp [Loc.fp]) ⟨rfl, rfl, rfl, rfl, by simp, .inl ⟨rfl, rfl, rfl⟩⟩
  obtain ⟨l, hl, hro, _⟩ := S1.obj q (.var cs) (by rw [upd_ne _ _ hne]; exact hq)
  have S2 := S1.chg (w' := w) (r := q) (l := l) (l' := l) (o' := .var (cs.set i (.msl r 0 0 0))) (by rw [upd_ne _ _ hne]; exact hq) hl (Grows.refl w _) (.inl rfl) (fun b hb => .inl hb) (by
    have hρ : upd (upd ρ r (some { blk := none, isBuf := true, sz := sz })) q (some l) = upd ρ r (some { blk := none, isBuf := true, sz := sz }) := by
      funext x
      by_cases hx : x = q
      · subst hx; rw [upd_same, hl]
      · rw [upd_ne _ _ hx]
    rw [hρ]
    refine ⟨hro.1, hro.2.1, ?_⟩
    obtain ⟨b, ms, t, h1, h2, h3, h4⟩ := hro.2.2
    refine ⟨b, ms, t, h1, h2, by simpa using h3, fun j v hv x hx => ?_⟩
    by_cases hj : i = j
    · subst hj
      have hil := (List.getElem?_eq_some_iff.1 hi).1
      rw [List.getElem?_set_self hil] at hx
      injection hx with hx; subst hx
      obtain ⟨h5, h6⟩ := h4 i v hv _ hi
      have := h5.v
      subst this
      refine ⟨.msl _ r 0 0 0 rfl fun l2 hl2 => ?_, rfl⟩
      rw [upd_same] at hl2; injection hl2 with hl2; subst hl2
      exact ⟨by simp, fun _ => rfl⟩
    · rw [List.getElem?_set_ne hj] at hx
      exact h4 j v hv x hx)
  refine h c ok hn ha Im (upd (upd ρ r (some { blk := none, isBuf := true, sz := sz })) q (some l)) a w ?_
  have e2 : (St.H { f := s.f, h := (r, some (.buf sz el [])) :: (q, some (.var (cs.set i (.msl r 0 0 0)))) :: s.h }) = upd (upd s.H r (some (.buf sz el []))) q (some (.var (cs.set i (.msl r 0 0 0)))) := by
    funext x
    by_cases hx : x = r
    · subst hx
      rw [upd_ne _ _ (Ne.symm hne), upd_same]
      simp [St.H, lkH]
    · rw [show St.H { f := s.f, h := (r, some (.buf sz el [])) :: (q, some (.var (cs.set i (.msl r 0 0 0)))) :: s.h } x = upd (fun t => lkH t ((q, some (.var (cs.set i (.msl r 0 0 0)))) :: s.h)) r (some (.buf sz el [])) x from congrFun (lkH_cons r _ _) x, upd_ne _ _ hx]
      show lkH x ((q, some (.var (cs.set i (.msl r 0 0 0)))) :: s.h) = _
      rw [congrFun (lkH_cons q (some (.var (cs.set i (.msl r 0 0 0)))) s.h) x]
      by_cases hx2 : x = q
      · subst hx2; rw [upd_same, upd_same]
      · rw [upd_ne _ _ hx2, upd_ne _ _ hx2, upd_ne _ _ hx]
  rw [e2]
  exact S2
theorem LoopP.ownCell {E : Env} {code : Code} {Q : APost} {s : St} (q i r sz : Nat) (el : TypeId) (cs : List AV) (hq : lkH q s.h = some (.var cs)) (hi : cs[i]? = some (.d (.v (.slice none 0 0)))) (hu : unmB k.anc r s = true)
    (h : LoopP E k code Q { f := s.f, h := (r, some (.buf sz el [])) :: (q, some (.var (cs.set i (.msl r 0 0 0)))) :: s.h }) : LoopP E k code Q s := ⟨.ownCell q i r sz el cs hq hi hu h.ok⟩
def Sub (E : Env) (k : Kn) (s' s : St) : Prop := ∀ (c : Cx), c.Ok E → c.nt = k.nt → c.anc = k.anc → ∀ (Im : Nat → Prop) (ρ : Nat → Option Loc) (a : Act) (w : World), Sim c Im ρ s.F s.H a w → ∃ Im' ρ', Sim c Im' ρ' s'.F s'.H a w
theorem Sub.trans {E : Env} {s1 s2 s3 : St} (h : Sub E k s1 s2) (g : Sub E k s2 s3) : Sub E k s1 s3 := fun c ok e1 e2 Im ρ a w S => by
  obtain ⟨Im1, ρ1, S1⟩ := g c ok e1 e2 Im ρ a w S
  exact h c ok e1 e2 Im1 ρ1 a w S1
theorem St.Le.sub {E : Env} {s' s : St} (h : s'.Le s) : Sub E k s' s := fun _ _ _ _ Im ρ _ _ S => ⟨Im, ρ, S.weak (fun t => LeF.at h.1 t) (fun r o => LeH.at h.2 r o)⟩
theorem AWp.sub {E : Env} {code : Code} {Q : APost} {s' s : St} (h : Sub E k s' s) (hw : AWp E k code Q s') : AWp E k code Q s := fun c ok e1 e2 Im ρ a w S => by
  obtain ⟨Im1, ρ1, S1⟩ := h c ok e1 e2 Im ρ a w S
  exact hw c ok e1 e2 Im1 ρ1 a w S1
theorem DrawP.sub {E : Env} {id : Nat} {ops : Array Oper} {Q : APost} {s' s : St} (h : Sub E k s' s) (hw : DrawP E k id ops Q s') : DrawP E k id ops Q s := ⟨AWp.sub h hw.ok⟩
theorem AWp.loopS {E : Env} {body : Code} {Q : APost} {s : St} {σ : Type} (st : σ → St) (μ : σ → Nat) (s0 : σ) (h0 : Sub E k (st s0) s)
    (round : ∀ x, AWp E k body (thenP (fun s' => ∃ x', μ x' < μ x ∧ Sub E k (st x') s') Q) (st x)) : AWp E k (.loop body) Q s := fun c ok e1 e2 Im ρ a w S => by
  classical
  let good : Act → World → σ → Prop := fun a w x => ∃ Im ρ, Sim c Im ρ (st x).F (st x).H a w
  let m : Act → World → Nat := fun a w => if h : ∃ n x, good a w x ∧ μ x = n then Classical.choose (least h) else 0
  refine wpIn_loop (fun a w => ∃ x, good a w x) m ⟨s0, h0 c ok e1 e2 Im ρ a w S⟩ ?_
  intro a w hI
  have hex : ∃ n x, good a w x ∧ μ x = n := let ⟨x, hx⟩ := hI; ⟨μ x, x, hx, rfl⟩
  have hm : m a w = Classical.choose (least hex) := dif_pos hex
  obtain ⟨x, ⟨Im, ρ, S⟩, hx⟩ := (Classical.choose_spec (least hex)).1
  refine wpIn_mono (round x c ok e1 e2 Im ρ a w S) fun e a' w' ⟨h1, Im', ρ', s', S', hQ⟩ => ?_
  cases e with
  | normal =>
    obtain ⟨x', hlt, hle⟩ := hQ
    have hg : good a' w' x' := hle c ok e1 e2 Im' ρ' a' w' S'
    refine ⟨⟨x', hg⟩, ?_⟩
    have hex' : ∃ n x, good a' w' x ∧ μ x = n := ⟨μ x', x', hg, rfl⟩
    have h2 : m a' w' = Classical.choose (least hex') := dif_pos hex'
    rw [h2, hm, ← hx]
    exact Nat.lt_of_le_of_lt ((Classical.choose_spec (least hex')).2 _ ⟨x', hg, rfl⟩) hlt
  | outgrown => exact absurd rfl h1
  | exit id => exact ⟨h1, Im', ρ', s', S', hQ⟩
  | goto l => exact ⟨h1, Im', ρ', s', S', hQ⟩
  | ret => exact ⟨h1, Im', ρ', s', S', hQ⟩
  | panic ch => exact ⟨h1, Im', ρ', s', S', hQ⟩
theorem LoopP.invS {σ : Type} {body : Code} {Q : APost} {s : St} (st : σ → St) (I : σ → Prop) (μ : σ → Nat) (s0 : σ) (hI : I s0) (h0 : Sub X.E k (st s0) s)
    (round : ∀ x, I x → wpc X.E X.tab k body (thenP (fun s' => ∃ x', I x' ∧ μ x' < μ x ∧ Sub X.E k (st x') s') Q) (st x)) : LoopP X.E k body Q s :=
  ⟨AWp.loopS (σ := { x : σ // I x }) (fun x => st x.1) (fun x => μ x.1) ⟨s0, hI⟩ h0 fun ⟨x, hx⟩ => AWp.mono (wpc_ok (round x hx)) fun e s' h => by
    cases e with
    | normal => obtain ⟨x', h1, h2, h3⟩ := h; exact ⟨⟨x', h1⟩, h2, h3⟩
    | _ => exact h⟩
theorem Sub.trunc {E : Env} {s : St} (t r d n m sz : Nat) (el : TypeId) (els : List (List D)) (ht : Nat.blt t k.nt = true) (hl : lk t s.f = .msl r n 0 n) (hr : lkH r s.h = some (.buf sz el els)) (hn : n = els.length) (hm : m ≤ n) (hu : unmB k.anc d s = true) : Sub E k { f := (t, .msl d m 0 n) :: s.f, h := (d, some (.buf sz el (els.take m))) :: (r, none) :: s.h } s := fun c ok hnt ha Im ρ a w S => by
  have hun := unmB_spec (c := c) (by rw [ha]; exact hu)
  have hrd : r ≠ d := fun e => by
    subst e
    have h1 : lkH r s.h = none := hun.none
    rw [hr] at h1; simp at h1
  obtain ⟨l, hl', hro, hown⟩ := S.obj r _ hr
  obtain ⟨k1, k2, k3, k4, k5, k6⟩ := hro
  have hv := S.fr t (by rw [hnt]; simpa using ht)
  simp only [St.F, hl] at hv
  have hH : ∀ q o, (upd (upd s.H r none) d (some (.buf sz el (els.take m)))) q = some o → (q = d ∧ o = .buf sz el (els.take m)) ∨ (q ≠ d ∧ q ≠ r ∧ s.H q = some o) := fun q o hq => by
    by_cases e1 : q = d
    · subst e1; rw [upd_same] at hq; injection hq with hq; exact .inl ⟨rfl, hq.symm⟩
    · rw [upd_ne _ _ e1] at hq
      by_cases e2 : q = r
      · subst e2; rw [upd_same] at hq; simp at hq
      · rw [upd_ne _ _ e2] at hq; exact .inr ⟨e1, e2, hq⟩
  have hstep : ∀ q, q ≠ d → ∀ l1, upd ρ d (some { l with len := m }) q = some l1 → ∃ l2, ρ q = some l2 ∧ LocStep l2 l1 := fun q hq l1 h1 => by
    rw [upd_ne _ _ hq] at h1; exact ⟨l1, h1, .inl rfl⟩
  have S2 : Sim c Im (upd ρ d (some { l with len := m })) (upd s.F t (.msl d m 0 n)) (upd (upd s.H r none) d (some (.buf sz el (els.take m)))) a w := by
    refine { defs := S.defs, nt := S.nt, fr := fun q hq => ?_, obj := fun q o hq => ?_, dis := fun q q' o o' l1 l2 h1 h2 hne e1 e2 b hb hb' => ?_, imn := S.imn, im0 := S.im0, os := S.os, tape := S.tape, output := S.output, size := S.size, kept := S.kept, anc := fun q hq l1 h1 => ?_ }
    · by_cases e : q = t
      · subst e; rw [upd_same]
        generalize a.tmps.getD q undef = v at hv
        cases hv with
        | msl _ _ _ _ _ h0 hp2 =>
          refine .msl _ _ _ _ _ h0 fun l1 hl1 => ?_
          rw [upd_same] at hl1; injection hl1 with hl1; subst hl1
          exact ⟨Nat.le_refl _, fun _ => (hp2 l hl').2 (by rw [k4]; exact hn)⟩
      · rw [upd_ne _ _ e]
        refine (S.fr q hq).mono (fun _ h => h) (fun _ _ => rfl) fun p hp => hstep p fun e2 => ?_
        subst e2; rw [hun.fr q] at hp; simp at hp
    · rcases hH q o hq with ⟨rfl, rfl⟩ | ⟨h1, h2, h3⟩
      · refine ⟨{ l with len := m }, upd_same .., ⟨k1, k2, k3, by simp; omega, fun z hz => k5 z (List.mem_of_mem_take hz), ?_⟩, fun b hb => hown b hb⟩
        rcases k6 with ⟨g1, g2, g3⟩ | ⟨b, ms, g1, g2, g3, g4, g5, g6⟩
        · exact .inl ⟨g1, by simp [g2], g3⟩
        · refine .inr ⟨b, ms, g1, g2, by simp; omega, g4, g5, fun i j q x e1 e2 => ?_⟩
          rw [List.getElem?_take] at e1
          split at e1
          · exact g6 i j q x e1 e2
          · simp at e1
      · obtain ⟨l1, g1, g2, g3⟩ := S.obj q o h3
        exact ⟨l1, by rw [upd_ne _ _ h1]; exact g1, g2.mono (fun _ h => h) (fun _ _ => rfl) (fun _ _ => rfl) fun p hp => hstep p fun e2 => by subst e2; rw [hun.obj q o h3] at hp; simp at hp, g3⟩
    · rcases hH q o h1 with ⟨rfl, rfl⟩ | ⟨g1, g2, g3⟩
      · rcases hH q' o' h2 with ⟨rfl, rfl⟩ | ⟨j1, j2, j3⟩
        · exact hne rfl
        · rw [upd_same] at e1; injection e1 with e1; subst e1
          rw [upd_ne _ _ j1] at e2
          exact S.dis r q' _ _ l l2 hr j3 (Ne.symm j2) hl' e2 b hb hb'
      · rw [upd_ne _ _ g1] at e1
        rcases hH q' o' h2 with ⟨rfl, rfl⟩ | ⟨j1, j2, j3⟩
        · rw [upd_same] at e2; injection e2 with e2; subst e2
          exact S.dis q r _ _ l1 l g3 hr g2 e1 hl' b hb hb'
        · rw [upd_ne _ _ j1] at e2
          exact S.dis q q' _ _ l1 l2 g3 j3 hne e1 e2 b hb hb'
    · have hqd : q ≠ d := fun e => by subst e; exact absurd hq hun.anc
      rw [upd_ne _ _ hqd] at h1
      exact S.anc q hq l1 h1
  refine ⟨Im, (upd ρ d (some { l with len := m })), ?_⟩
  have e1 : (St.F { f := (t, .msl d m 0 n) :: s.f, h := (d, some (.buf sz el (els.take m))) :: (r, none) :: s.h }) = upd s.F t (.msl d m 0 n) := lk_cons t _ s.f
  have e2 : (St.H { f := (t, .msl d m 0 n) :: s.f, h := (d, some (.buf sz el (els.take m))) :: (r, none) :: s.h }) = upd (upd s.H r none) d (some (.buf sz el (els.take m))) := by
    funext x
    rw [show St.H { f := (t, .msl d m 0 n) :: s.f, h := (d, some (.buf sz el (els.take m))) :: (r, none) :: s.h } x = upd (fun t => lkH t ((r, none) :: s.h)) d (some (.buf sz el (els.take m))) x from congrFun (lkH_cons d _ _) x]
    rw [show (fun t => lkH t ((r, none) :: s.h)) = upd s.H r none from lkH_cons r none s.h]
  rw [e1, e2]
  exact S2
theorem DrawP.trunc {E : Env} {id : Nat} {ops : Array Oper} {Q : APost} {s : St} (t r d n m sz : Nat) (el : TypeId) (els : List (List D)) (ht : Nat.blt t k.nt = true) (hl : lk t s.f = .msl r n 0 n) (hr : lkH r s.h = some (.buf sz el els)) (hn : n = els.length) (hm : m ≤ n) (hu : unmB k.anc d s = true)
    (h : DrawP E k id ops Q { f := (t, .msl d m 0 n) :: s.f, h := (d, some (.buf sz el (els.take m))) :: (r, none) :: s.h }) : DrawP E k id ops Q s := .sub (Sub.trunc t r d n m sz el els ht hl hr hn hm hu) h
theorem DrawP.weak {E : Env} {id : Nat} {ops : Array Oper} {Q : APost} {s : St} (s' : St) (hs : s'.Le s) (h : DrawP E k id ops Q s') : DrawP E k id ops Q s := ⟨AWp.weak hs h.ok⟩
theorem Sub.frz {E : Env} {s : St} (t r n off len sz : Nat) (el : TypeId) (els : List (List D)) (ht : Nat.blt t k.nt = true) (hl : lk t s.f = .msl r n off len) (hr : lkH r s.h = some (.buf sz el els)) (hn : n = els.length) (hle : off + len ≤ n) : Sub E k { f := (t, .d (.sl false sz ((els.drop off).take len))) :: s.f, h := (r, none) :: s.h } s := fun c ok hnt ha Im ρ a w S => by
  obtain ⟨l, hl', hro, hown⟩ := S.obj r _ hr
  have hv := S.fr t (by rw [hnt]; simpa using ht)
  simp only [St.F, hl] at hv
  have hH : ∀ q o, (upd s.H r none) q = some o → q ≠ r ∧ s.H q = some o := fun q o hq => by
    by_cases e : q = r
    · subst e; rw [upd_same] at hq; simp at hq
    · rw [upd_ne _ _ e] at hq; exact ⟨e, hq⟩
  have hI : ∀ b, Im b → Im b ∨ b ∈ l.fp := fun b hb => .inl hb
  have S2 : Sim c (fun b => Im b ∨ b ∈ l.fp) ρ (upd s.F t (.d (.sl false sz ((els.drop off).take len)))) (upd s.H r none) a w := by
    refine { defs := S.defs.mono hI (fun _ _ => rfl), nt := S.nt, fr := fun q hq => ?_, obj := fun q o hq => ?_, dis := fun q q' o o' l1 l2 h1 h2 hne e1 e2 => ?_, imn := fun b hb => ?_, im0 := fun b hb => .inl (S.im0 b hb), os := S.os, tape := S.tape, output := S.output, size := S.size, kept := S.kept, anc := S.anc }
    · by_cases e : q = t
      · subst e; rw [upd_same]
        generalize a.tmps.getD q undef = v at hv
        cases hv with
        | msl _ _ _ _ _ h0 hp2 =>
          have hval := (hp2 l hl').2 (by rw [hro.2.2.2.1]; exact hn)
          rw [hval]
          exact .d _ _ (RD.ofBuf hro hI (fun b hb => .inr hb) (by omega))
      · rw [upd_ne _ _ e]
        exact (S.fr q hq).mono hI (fun _ _ => rfl) fun p _ l1 hl1 => ⟨l1, hl1, .inl rfl⟩
    · obtain ⟨h1, h2⟩ := hH q o hq
      obtain ⟨l1, g1, g2, g3⟩ := S.obj q o h2
      refine ⟨l1, g1, g2.mono hI (fun _ _ => rfl) (fun _ _ => rfl) (fun p _ l1 hl1 => ⟨l1, hl1, .inl rfl⟩), fun b hb => ⟨(g3 b hb).1, fun hi => ?_, (g3 b hb).2.2⟩⟩
      rcases hi with hi | hi
      · exact (g3 b hb).2.1 hi
      · exact S.dis q r o _ l1 l h2 hr h1 g1 hl' b hb hi
    · exact S.dis q q' o o' l1 l2 (hH q o h1).2 (hH q' o' h2).2 hne e1 e2
    · rcases hb with hb | hb
      · exact S.imn b hb
      · exact ⟨(hown b hb).1, .inr (hown b hb).2.2⟩
  refine ⟨(fun b => Im b ∨ b ∈ l.fp), ρ, ?_⟩
  have e1 : (St.F { f := (t, .d (.sl false sz ((els.drop off).take len))) :: s.f, h := (r, none) :: s.h }) = upd s.F t (.d (.sl false sz ((els.drop off).take len))) := lk_cons t _ s.f
  have e2 : (St.H { f := (t, .d (.sl false sz ((els.drop off).take len))) :: s.f, h := (r, none) :: s.h }) = upd s.H r none := lkH_cons r _ s.h
  rw [e1, e2]
  exact S2
theorem DrawP.frz {E : Env} {id : Nat} {ops : Array Oper} {Q : APost} {s : St} (t r n off len sz : Nat) (el : TypeId) (els : List (List D)) (ht : Nat.blt t k.nt = true) (hl : lk t s.f = .msl r n off len) (hr : lkH r s.h = some (.buf sz el els)) (hn : n = els.length) (hle : off + len ≤ n)
    (h : DrawP E k id ops Q { f := (t, .d (.sl false sz ((els.drop off).take len))) :: s.f, h := (r, none) :: s.h }) : DrawP E k id ops Q s := .sub (Sub.frz t r n off len sz el els ht hl hr hn hle) h
inductive DL : D → D → Prop
  | refl (x : D) : DL x x
  | nil (t : Bool) (sz : Nat) : DL (.v (.slice none 0 0)) (.sl t sz [])
  | sl (t : Bool) (sz : Nat) (els els' : List (List D)) (h1 : els.length = els'.length) (h2 : ∀ (i : Nat) (el el' : List D), els[i]? = some el → els'[i]? = some el' → el.length = el'.length)
      (h3 : ∀ (i j : Nat) (el el' : List D) (x y : D), els[i]? = some el → els'[i]? = some el' → el[j]? = some x → el'[j]? = some y → DL x y) : DL (.sl t sz els) (.sl false sz els')
theorem RD.dl {h : Nat → Option Obj} {Im : Nat → Prop} {x y : D} (hxy : DL x y) : ∀ {v : Value}, RD h Im v x → RD h Im v y := by
  induction hxy with
  | refl x => exact fun H => H
  | nil t sz => intro v H; cases H with | v _ _ => exact .nil t sz none 0 fun _ => rfl
  | sl t sz els els' h1 h2 h3 ih =>
    intro v H
    cases H with
    | nil _ _ a cap _ =>
      have := List.eq_nil_of_length_eq_zero (l := els') (by rw [← h1]; rfl)
      subst this
      exact .nil false sz a cap (by simp)
    | sl _ _ _ b o cap f hs hb hle _ hc hr =>
      rw [h1]
      have key : ∀ (i j : Nat) (el' : List D) (y : D), els'[i]? = some el' → el'[j]? = some y → ∃ el x, els[i]? = some el ∧ el[j]? = some x := fun i j el' y e1 e2 => by
        have hi : i < els.length := by rw [h1]; exact (List.getElem?_eq_some_iff.1 e1).1
        have hl := h2 i _ _ (List.getElem?_eq_getElem hi) e1
        have hj : j < els[i].length := by rw [hl]; exact (List.getElem?_eq_some_iff.1 e2).1
        exact ⟨_, _, List.getElem?_eq_getElem hi, List.getElem?_eq_getElem hj⟩
      refine .sl false sz els' b o cap f (fun el' hel' => ?_) hb (by omega) (by simp) (fun i j el' y e1 e2 => ?_) (fun i j el' y e1 e2 => ?_)
      · obtain ⟨i, hi, rfl⟩ := List.mem_iff_getElem.1 hel'
        rw [← h2 i els[i] els'[i] (List.getElem?_eq_getElem (by omega)) (List.getElem?_eq_getElem hi)]
        exact hs _ (List.getElem_mem (by omega))
      · obtain ⟨el, x, g1, g2⟩ := key i j el' y e1 e2
        exact hc i j el x g1 g2
      · obtain ⟨el, x, g1, g2⟩ := key i j el' y e1 e2
        exact ih i j el el' x y g1 e1 g2 e2 (hr i j el x g1 g2)
def RowL (a b : List D) : Prop := a.length = b.length ∧ ∀ (j : Nat) (x y : D), a[j]? = some x → b[j]? = some y → DL x y
def RowsL (a b : List (List D)) : Prop := a.length = b.length ∧ ∀ (i : Nat) (x y : List D), a[i]? = some x → b[i]? = some y → RowL x y
theorem RowL.refl (a : List D) : RowL a a := ⟨rfl, fun j x y h1 h2 => by rw [h1] at h2; injection h2 with h2; subst h2; exact .refl x⟩
theorem RowL.cons {x y : D} {a b : List D} (h : DL x y) (k : RowL a b) : RowL (x :: a) (y :: b) := ⟨by simp [k.1], fun j u v h1 h2 => by
  cases j with
  | zero => simp at h1 h2; subst h1; subst h2; exact h
  | succ j => exact k.2 j u v (by simpa using h1) (by simpa using h2)⟩
theorem RowsL.nil : RowsL [] [] := ⟨rfl, by simp⟩
theorem RowsL.dl {t : Bool} {sz : Nat} {a b : List (List D)} (h : RowsL a b) : DL (.sl t sz a) (.sl false sz b) :=
  .sl t sz a b h.1 (fun i el el' h1 h2 => (h.2 i el el' h1 h2).1) fun i j el el' x y h1 h2 => (h.2 i el el' h1 h2).2 j x y
theorem RowsL.app {a b c d : List (List D)} (h : RowsL a b) (k : RowsL c d) : RowsL (a ++ c) (b ++ d) := ⟨by simp [h.1, k.1], fun i x y h1 h2 => by
  by_cases hi : i < a.length
  · rw [List.getElem?_append_left hi] at h1; rw [List.getElem?_append_left (by rw [← h.1]; exact hi)] at h2
    exact h.2 i x y h1 h2
  · rw [List.getElem?_append_right (by omega)] at h1; rw [List.getElem?_append_right (by rw [← h.1]; omega)] at h2
    rw [← h.1] at h2
    exact k.2 _ x y h1 h2⟩
theorem RowsL.one {x y : List D} (h : RowL x y) : RowsL [x] [y] := ⟨rfl, fun i u v h1 h2 => by
  cases i with
  | zero => simp at h1 h2; subst h1; subst h2; exact h
  | succ i => simp at h1⟩
theorem RowsL.take {a b : List (List D)} (n : Nat) (h : RowsL a b) : RowsL (a.take n) (b.take n) := ⟨by simp [h.1], fun i x y h1 h2 => by
  rw [List.getElem?_take] at h1 h2
  split at h1
  · rename_i hi; rw [if_pos hi] at h2; exact h.2 i x y h1 h2
  · simp at h1⟩
theorem RowsL.drop {a b : List (List D)} (n : Nat) (h : RowsL a b) : RowsL (a.drop n) (b.drop n) := ⟨by simp [h.1], fun i x y h1 h2 => by
  rw [List.getElem?_drop] at h1 h2; exact h.2 _ x y h1 h2⟩
theorem RowsL.set {a b : List (List D)} {x y : List D} (n : Nat) (h : RowsL a b) (hx : RowL x y) : RowsL (a.set n x) (b.set n y) := ⟨by simp [h.1], fun i u v h1 h2 => by
  by_cases hi : n = i
  · subst hi
    have h3 : n < a.length := by have := (List.getElem?_eq_some_iff.1 h1).1; simpa using this
    rw [List.getElem?_set_self h3] at h1; rw [List.getElem?_set_self (by rw [← h.1]; exact h3)] at h2
    injection h1 with h1; injection h2 with h2; subst h1; subst h2; exact hx
  · rw [List.getElem?_set_ne hi] at h1 h2; exact h.2 i u v h1 h2⟩
theorem RowsL.at {a b : List (List D)} (h : RowsL a b) {i : Nat} (hi : i < a.length) : RowL (a.getD i []) (b.getD i []) := by
  have hb : i < b.length := by rw [← h.1]; exact hi
  have := h.2 i _ _ (List.getElem?_eq_getElem hi) (List.getElem?_eq_getElem hb)
  simpa [List.getD, hi, hb] using this
theorem RA.dagg_dl {h : Nat → Option Obj} {Im : Nat → Prop} {ρ : Nat → Option Loc} {v : Value} {xs ys : List D} (H : RA h Im ρ v (.dagg xs)) (hxy : RowL xs ys) : RA h Im ρ v (.dagg ys) := by
  cases H with
  | dagg cs _ hl hr =>
    refine .dagg cs _ (hl.trans hxy.1) fun i v y e1 e2 => ?_
    have hi : i < xs.length := by rw [hxy.1]; exact (List.getElem?_eq_some_iff.1 e2).1
    exact (hr i v _ e1 (List.getElem?_eq_getElem hi)).dl (hxy.2 i _ y (List.getElem?_eq_getElem hi) e2)
theorem Ctr.re {E : Env} {f : FuncId} {args : List AV} {hin : HL} {post post' : AOut → Prop} (h : Ctr E f args hin post)
    (hle : ∀ o, post o → ∃ r r', o = .ret r [] ∧ (∀ (w : World) (Im : Nat → Prop) (ρ : Nat → Option Loc) (v : Value), RA (hp w) Im ρ v r → RA (hp w) Im ρ v r') ∧ (∀ q, r'.ment q = false) ∧ post' (.ret r' [])) : Ctr E f args hin post' :=
  ⟨h.1, fun w Im ρ vs g1 g2 g3 g4 g5 g6 => (h.2 w Im ρ vs g1 g2 g3 g4 g5 g6).mono fun e w' he => by
    cases e with
    | returned v =>
      obtain ⟨res, ho', Im', ρ', h1, h2, h3, A⟩ := he
      obtain ⟨r, r', e1, e2, e3, e4⟩ := hle _ h1
      injection e1 with e1 e5; subst e1; subst e5
      exact ⟨r', _, Im', ρ', e4, e2 _ _ _ _ h2, fun q hq => by rw [e3 q] at hq; simp at hq, A⟩
    | panicked ch =>
      obtain ⟨ho', Im', ρ', h1, _⟩ := he
      obtain ⟨r, r', e1, _⟩ := hle _ h1
      exact absurd e1 (by simp)
    | outgrown => exact he⟩
theorem CallP.cases {E : Env} {k : Kn} {f : FuncId} {args : List AV} {s : St} {K : AV → HL → Prop} {KP : List PanicEntry → HL → Prop} {post : AOut → Prop} (h : Ctr E f args [] post) (hk : ∀ o, post o → ∃ res, o = .ret res [] ∧ K res s.h) : CallP E k f args s K KP :=
  ⟨[], _, h, fun r o h => by simp [lkH] at h, fun res' ho e => by
    obtain ⟨res, e1, e2⟩ := hk _ e
    injection e1 with e1 e3; subst e1; subst e3
    exact ⟨fun r o h => by simp [lkH] at h, e2⟩, fun ch ho e => by
    obtain ⟨res, e1, _⟩ := hk _ e
    exact absurd e1 (by simp)⟩
theorem Ctr.le {E : Env} {f : FuncId} {args args' : List AV} {hin : HL} {post : AOut → Prop} (h : Ctr E f args hin post) (hl : args'.length = args.length)
    (hle : ∀ (w : World) (Im : Nat → Prop) (ρ : Nat → Option Loc) (i : Nat) (v : Value) (x y : AV), args'[i]? = some x → args[i]? = some y → RA (hp w) Im ρ v x → RA (hp w) Im ρ v y) : Ctr E f args' hin post :=
  ⟨h.1, fun w Im ρ vs g1 g2 g3 g4 g5 g6 => h.2 w Im ρ vs g1 g2 g3 (g4.trans hl) (fun i v y h1 h2 => by
    have hi : i < args'.length := by rw [hl]; exact (List.getElem?_eq_some_iff.1 h2).1
    exact hle w Im ρ i v _ y (List.getElem?_eq_getElem hi) h2 (g5 i v _ h1 (List.getElem?_eq_getElem hi))) g6⟩
theorem bsz (a : Array UInt8) : (ByteArray.mk a).size = a.size := rfl
theorem RA.dagg_of {h : Nat → Option Obj} {Im : Nat → Prop} {ρ : Nat → Option Loc} {v : Value} {l : List D} (H : RA h Im ρ v (.agg (l.map .d))) : RA h Im ρ v (.dagg l) := by
  cases H with
  | agg cs _ hl hr =>
    refine .dagg cs l (by simpa using hl) fun i v x h1 h2 => ?_
    have := hr i v (.d x) h1 (by simp [h2])
    cases this; assumption
def DLe (x y : D) : Prop := x = y ∨ (x = .v (.slice none 0 0) ∧ ∃ t sz, y = .sl t sz []) ∨ (∃ t sz els, x = .sl t sz els ∧ y = .sl false sz els)
theorem RD.le {h : Nat → Option Obj} {Im : Nat → Prop} {v : Value} {x y : D} (H : RD h Im v x) (hxy : DLe x y) : RD h Im v y := by
  rcases hxy with rfl | ⟨rfl, t, sz, rfl⟩ | ⟨t, sz, els, rfl, rfl⟩
  · exact H
  · cases H with
    | v _ _ => exact .nil t sz none 0 fun _ => rfl
  · exact H.loose
def DLes : List D → List D → Prop
  | [], [] => True
  | x :: xs, y :: ys => DLe x y ∧ DLes xs ys
  | _, _ => False
theorem DLes.at : ∀ {xs ys : List D}, DLes xs ys → xs.length = ys.length ∧ ∀ (i : Nat) (x y : D), xs[i]? = some x → ys[i]? = some y → DLe x y
  | [], [], _ => ⟨rfl, by simp⟩
  | x :: xs, y :: ys, h => by
    obtain ⟨h1, h2⟩ := DLes.at h.2
    refine ⟨by simp [h1], fun i a b ha hb => ?_⟩
    cases i with
    | zero => simp at ha hb; subst ha; subst hb; exact h.1
    | succ i => exact h2 i a b (by simpa using ha) (by simpa using hb)
theorem RA.dagg_le {h : Nat → Option Obj} {Im : Nat → Prop} {ρ : Nat → Option Loc} {v : Value} {xs ys : List D} (H : RA h Im ρ v (.dagg xs)) (hxy : DLes xs ys) : RA h Im ρ v (.dagg ys) := by
  cases H with
  | dagg cs _ hl hr =>
    obtain ⟨h1, h2⟩ := hxy.at
    refine .dagg cs _ (hl.trans h1) fun i v y e1 e2 => ?_
    have hi : i < xs.length := by rw [h1]; exact (List.getElem?_eq_some_iff.1 e2).1
    exact (hr i v _ e1 (List.getElem?_eq_getElem hi)).le (h2 i _ y (List.getElem?_eq_getElem hi) e2)
theorem Ctr.le1 {E : Env} {f : FuncId} {xs ys : List D} {hin : HL} {post : AOut → Prop} (h : Ctr E f [.dagg ys] hin post) (hxy : DLes xs ys) : Ctr E f [.dagg xs] hin post :=
  h.le rfl fun w Im ρ i v x y h1 h2 H => by
    match i with
    | 0 => simp at h1 h2; subst h1; subst h2; exact H.dagg_le hxy
    | n + 1 => simp at h1
theorem Ctr.leR {E : Env} {f : FuncId} {xs ys : List D} {hin : HL} {post : AOut → Prop} (h : Ctr E f [.dagg ys] hin post) (hxy : RowL xs ys) : Ctr E f [.dagg xs] hin post :=
  h.le rfl fun w Im ρ i v x y h1 h2 H => by
    match i with
    | 0 => simp at h1 h2; subst h1; subst h2; exact H.dagg_dl hxy
    | n + 1 => simp at h1
theorem AWp.asVar {E : Env} {code : Code} {Q : APost} {s : St} (q n : Nat) (cs : List D) (hq : lkH q s.h = some (.dvar n cs)) (h : AWp E k code Q { f := s.f, h := (q, some (.var (cs.map .d))) :: s.h }) : AWp E k code Q s := fun c ok hn ha Im ρ a w S => by
  obtain ⟨l, hl, hro, _⟩ := S.obj q (.dvar n cs) hq
  have hρ : upd ρ q (some l) = ρ := by
    funext x
    by_cases hx : x = q
    · subst hx; rw [upd_same, hl]
    · rw [upd_ne _ _ hx]
  have S2 := S.chg (w' := w) (r := q) (l := l) (l' := l) (o' := .var (cs.map .d)) hq hl (Grows.refl w _) (.inl rfl) (fun b hb => .inl hb) (by
    rw [hρ]
    obtain ⟨h1, h2, h3, b, ms, t, h4, h5, h6, h7⟩ := hro
    refine ⟨h1, h2, b, ms, t, h4, h5, by simpa [h3] using h6, fun j v hv x hx => ?_⟩
    simp only [List.getElem?_map, Option.map_eq_some_iff] at hx
    obtain ⟨y, hy, rfl⟩ := hx
    exact ⟨.d _ _ (h7 j v hv y hy), (h7 j v hv y hy).one⟩)
  rw [hρ] at S2
  refine h c ok hn ha Im ρ a w ?_
  have e2 : (St.H { f := s.f, h := (q, some (.var (cs.map .d))) :: s.h }) = upd s.H q (some (.var (cs.map .d))) := lkH_cons q _ s.h
  rw [e2]
  exact S2
theorem LoopP.asVar {E : Env} {code : Code} {Q : APost} {s : St} (q n : Nat) (cs : List D) (hq : lkH q s.h = some (.dvar n cs)) (h : LoopP E k code Q { f := s.f, h := (q, some (.var (cs.map .d))) :: s.h }) : LoopP E k code Q s := ⟨.asVar q n cs hq h.ok⟩
end Go.Ax
