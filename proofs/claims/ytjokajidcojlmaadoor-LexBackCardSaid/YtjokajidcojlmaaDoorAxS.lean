/- Abstract execution, part S: a region that draws its order: all orders at once. -/
import Derived.Test.YtjokajidcojlmaaDoorAxR
namespace Go.Ax

variable {X : Ax} {k : Kn}

theorem unmF_lk {r : Nat} {v : AV} {t : Nat} {f : List (Nat × AV)} (hv : v.ment r = false) (h : unmF r f = true) : unmF r ((t, v) :: f) = true := by simp [unmF, hv, h]
theorem apF_unm {r : Nat} : ∀ {l : List (Bool × Stp)} {f : List (Nat × AV)}, (∀ x ∈ l, x.1 = true → unmS r x.2 = true) → unmF r f = true → unmF r (apF l f) = true
  | [], f, _, h => h
  | (false, st) :: l, f, hw, h => apF_unm (l := l) (fun x hx => hw x (by simp [hx])) h
  | (true, st) :: l, f, hw, h => by
    refine apF_unm (l := l) (fun x hx => hw x (by simp [hx])) ?_
    have := hw (true, st) (by simp) rfl
    unfold unmS at this
    cases hs : st.wt with
    | none => exact h
    | some p =>
      obtain ⟨t, v⟩ := p
      simp only [hs, Bool.and_eq_true, Bool.not_eq_true'] at this
      exact unmF_lk this.1.1 h
theorem unmH_append {r : Nat} : ∀ {a b : HL}, unmH r a = true → unmH r b = true → unmH r (a ++ b) = true
  | [], b, _, h => h
  | (q, none) :: a, b, h1, h2 => by simp only [List.cons_append, unmH] at h1 ⊢; exact unmH_append h1 h2
  | (q, some o) :: a, b, h1, h2 => by
    simp only [List.cons_append, unmH] at h1 ⊢
    cases hm : o.ment r with
    | true => simp [hm] at h1
    | false => simp only [hm] at h1 ⊢; exact unmH_append h1 h2
theorem apH_unm {r : Nat} : ∀ {l : List (Bool × Stp)} {h : HL}, (∀ x ∈ l, x.1 = true → unmS r x.2 = true) → unmH r h = true → unmH r (apH l h) = true
  | [], f, _, h => h
  | (false, st) :: l, f, hw, h => apH_unm (l := l) (fun x hx => hw x (by simp [hx])) h
  | (true, st) :: l, f, hw, h => by
    refine apH_unm (l := l) (fun x hx => hw x (by simp [hx])) ?_
    have := hw (true, st) (by simp) rfl
    unfold unmS at this
    simp only [Bool.and_eq_true] at this
    exact unmH_append this.1.2 h
theorem memN_mem {r : Nat} {l : List Nat} (h : memN r l = false) : r ∉ l := memN_spec h
theorem apH_none {r : Nat} {l : List (Bool × Stp)} {h : HL} (hw : ∀ x ∈ l, x.1 = true → unmS r x.2 = true) (h0 : lkH r h = none) : lkH r (apH l h) = none := by
  rw [apH_later fun x hx he hr => ?_, h0]
  have := hw x hx he
  unfold unmS at this
  simp only [Bool.and_eq_true, Bool.not_eq_true'] at this
  exact memN_mem this.2 hr

theorem zip_split {α β : Type} {m : List α} {tr : List β} {i : Nat} {x : α} {y : β} (h1 : m[i]? = some x) (h2 : tr[i]? = some y) : m.zip tr = (m.take i).zip (tr.take i) ++ (x, y) :: (m.drop (i + 1)).zip (tr.drop (i + 1)) := by
  induction i generalizing m tr with
  | zero =>
    cases m <;> cases tr <;> simp at h1 h2 ⊢
    simp [h1, h2]
  | succ i ih =>
    cases m with
    | nil => simp at h1
    | cons a m =>
      cases tr with
      | nil => simp at h2
      | cons b tr => simp [ih (by simpa using h1) (by simpa using h2)]
theorem zip_full (m : List Bool) (tr : List Stp) (h : m.length = tr.length) : full (m.zip tr) = tr.map (true, ·) := by
  induction m generalizing tr with
  | nil => cases tr <;> simp_all [full]
  | cons a m ih => cases tr with
    | nil => simp at h
    | cons b tr => simp only [List.zip_cons_cons, full, List.map_cons]; simp only [full] at ih; rw [ih tr (by simpa using h)]
theorem mem_zip_at {m : List Bool} {tr : List Stp} {x : Bool × Stp} (h : x ∈ m.zip tr) : ∃ j : Nat, m[j]? = some x.1 ∧ tr[j]? = some x.2 := by
  obtain ⟨j, hj⟩ := List.getElem?_of_mem h
  rw [List.getElem?_zip_eq_some] at hj
  exact ⟨j, hj⟩

/-- What a drawing region keeps: who has run, in whatever order. -/
structure Mid (c : Cx) (ops : List Oper) (tr : List Stp) (s0 : St) (m : List Bool) (a : Act) (w : World) : Prop where
  len : m.length = ops.length
  closed : ClosedM ops m
  sim : ∃ Im ρ, Sim c Im ρ (fun t => lk t (apF (m.zip tr) s0.f)) (fun r => lkH r (apH (m.zip tr) s0.h)) a w

theorem Mid.step {c : Cx} {ops : List Oper} {tr : List Stp} {s0 sn : St} {Q : APost} {m : List Bool} {a : Act} {w : World} (hok : c.Ok X.E) (hn : c.nt = k.nt) (ha : c.anc = k.anc) (ht : Trace X k Q ops ops s0 tr sn) (hs : statOk ops = true)
    (hd : dynGo (bms ops) k.anc s0 tr tr 0 = true) (M : Mid c ops tr s0 m a w) {i : Nat} {o : Oper} (hi : m[i]? = some false) (ho : ops[i]? = some o) (hed : ∀ e ∈ o.after.toList, bindE e = true → m[e.on]? = some true)
    {K : Act → World → Prop} (hK : ∀ a' w', Mid c ops tr s0 (m.set i true) a' w' → K a' w') :
    if Region.wanted o (yielded ops.toArray a.tmps) then o.wp X.E.P a w K (Lift c Q) else K (a.put o.dst undef) w := by
  have htl := ht.length
  have hil : i < ops.length := (List.getElem?_eq_some_iff.1 ho).1
  obtain ⟨st, hst⟩ : ∃ st, tr[i]? = some st := ⟨tr[i], List.getElem?_eq_getElem (by omega)⟩
  have hstep := ht.at i o st ho hst
  have hlow := statOk_low hs
  have ancI : ∀ j, bitOf (bms ops) i j = true → m[j]? = some true := fun j hb => closedM_anc hlow M.closed i ⟨o, ho, hed⟩ hb
  have ancJ : ∀ j, m[j]? = some true → bitOf (bms ops) j i = false := fun j hj => by
    cases hb : bitOf (bms ops) j i with
    | false => rfl
    | true =>
      have hjl : j < ops.length := by rw [← M.len]; exact (List.getElem?_eq_some_iff.1 hj).1
      have := closedM_anc hlow M.closed j ⟨ops[j], List.getElem?_eq_getElem hjl, M.closed j _ hj (List.getElem?_eq_getElem hjl)⟩ hb
      rw [hi] at this; simp at this
  have wOf : ∀ j (y : Stp) (oj : Oper), tr[j]? = some y → ops[j]? = some oj → ∀ t, y.writesT t → oj.dst = some t := fun j y oj hy hoj t ⟨v, hv⟩ => (ht.at j oj y hoj hy).1 t v hv
  have opAt : ∀ j (y : Stp), tr[j]? = some y → ∃ oj, ops[j]? = some oj := fun j y hy => ⟨ops[j]'(by rw [← htl]; exact (List.getElem?_eq_some_iff.1 hy).1), List.getElem?_eq_getElem _⟩
  -- the pieces
  let A := (m.take i).zip (tr.take i)
  let B := (m.drop (i + 1)).zip (tr.drop (i + 1))
  have hz : m.zip tr = A ++ (false, st) :: B := zip_split hi hst
  have hz' : (m.set i true).zip tr = A ++ (true, st) :: B := by
    have h1 : (m.set i true)[i]? = some true := by simp [(List.getElem?_eq_some_iff.1 hi).1]
    rw [zip_split h1 hst]
    simp [A, B, List.take_set_of_le, List.drop_set_of_lt]
  have hA : ∀ x ∈ A, ∃ j, j < i ∧ m[j]? = some x.1 ∧ tr[j]? = some x.2 := fun x hx => by
    obtain ⟨j, h1, h2⟩ := mem_zip_at hx
    rw [List.getElem?_take] at h1 h2
    split at h1
    · rename_i hj; rw [if_pos hj] at h2; exact ⟨j, hj, h1, h2⟩
    · simp at h1
  have hB : ∀ x ∈ B, ∃ j, i < j ∧ m[j]? = some x.1 ∧ tr[j]? = some x.2 := fun x hx => by
    obtain ⟨j, h1, h2⟩ := mem_zip_at hx
    rw [List.getElem?_drop] at h1 h2
    exact ⟨i + 1 + j, by omega, h1, h2⟩
  have hAf : full A = (tr.take i).map (true, ·) := zip_full _ _ (by have := M.len; simp; omega)
  have hdyn := dynGo_spec hd
  have conf : ∀ j j' (y y' : Stp), j < j' → tr[j]? = some y → tr[j']? = some y' → confO y y' = true → bitOf (bms ops) j' j = true := fun j j' y y' hlt hy hy' hc => by
    rcases hdyn j' y' hy' with h | h
    · rw [confO_plain h] at hc; simp at hc
    · have h1 := h.1
      rw [Nat.zero_add] at h1
      have := dynRow_spec h1 j y (by rw [List.getElem?_take, if_pos hlt]; exact hy) hc
      simpa using this
  -- what later ones write isn't read
  have laterT : ∀ x ∈ B, x.1 = true → ∀ t, (t ∈ readsT ops o ∨ st.writesT t) → ¬ x.2.writesT t := fun x hx he t hr hw => by
    obtain ⟨j, hj, h1, h2⟩ := hB x hx
    rw [he] at h1
    obtain ⟨oj, hoj⟩ := opAt j x.2 h2
    have hdj := wOf j x.2 oj h2 hoj t hw
    have hc : confT ops o oj = true := by
      rcases hr with hr | hr
      · exact confT_right hdj hr
      · exact confT_left (wOf i st o hst ho t hr) (.inr hdj)
    have := statOk_conf hs hj ho hoj hc
    rw [ancJ j h1] at this; simp at this
  have earlierT : ∀ x ∈ A, x.1 = false → ∀ t, t ∈ readsT ops o → ¬ x.2.writesT t := fun x hx he t hr hw => by
    obtain ⟨j, hj, h1, h2⟩ := hA x hx
    rw [he] at h1
    obtain ⟨oj, hoj⟩ := opAt j x.2 h2
    have hdj := wOf j x.2 oj h2 hoj t hw
    have := ancI j (statOk_conf hs hj hoj ho (confT_left hdj (.inl hr)))
    rw [h1] at this; simp at this
  have laterO : ∀ x ∈ B, x.1 = true → ∀ r, (r ∈ st.ro ∨ st.writesO r) → ¬ x.2.writesO r := fun x hx he r hr hw => by
    obtain ⟨j, hj, h1, h2⟩ := hB x hx
    rw [he] at h1
    have hc : confO st x.2 = true := by
      rcases hr with hr | hr
      · exact confO_right hw hr
      · exact confO_left hr (.inr hw)
    have := conf i j st x.2 hj hst h2 hc
    rw [ancJ j h1] at this; simp at this
  have earlierO : ∀ x ∈ A, x.1 = false → ∀ r, r ∈ st.ro → ¬ x.2.writesO r := fun x hx he r hr hw => by
    obtain ⟨j, hj, h1, h2⟩ := hA x hx
    rw [he] at h1
    have := ancI j (conf j i x.2 st hj h2 hst (confO_left hw (.inl hr)))
    rw [h1] at this; simp at this
  have hunm : ∀ r ∈ st.nw, ∀ x ∈ m.zip tr, x.1 = true → unmS r x.2 = true := fun r hr x hx he => by
    obtain ⟨j, h1, h2⟩ := mem_zip_at hx
    rw [he] at h1
    rcases hdyn i st hst with h | h
    · rw [(Stp.plain_spec h).2.2] at hr; simp at hr
    · have hne : i ≠ j := fun e => by subst e; rw [hi] at h1; simp at h1
      have h3 := h.2.1
      rw [Nat.zero_add] at h3
      refine newRow_spec h3 j x.2 h2 (by simpa using hne) ?_ r hr
      simpa using ancJ j h1
  have hunm0 : ∀ r ∈ st.nw, unmB k.anc r s0 = true := fun r hr => by
    rcases hdyn i st hst with h | h
    · rw [(Stp.plain_spec h).2.2] at hr; simp at hr
    · exact h.2.2 r hr
  obtain ⟨Im, ρ, S⟩ := M.sim
  refine hstep.2 c Im ρ { f := apF (m.zip tr) s0.f, h := apH (m.zip tr) s0.h } a w K hok hn ha S (fun t hr => ?_) (fun r hr => ?_) (fun r hr => ?_) (fun Im' ρ' a' w' S' => ?_)
  · show lk t (apF (m.zip tr) s0.f) = lk t (apF ((tr.take i).map (true, ·)) s0.f)
    rw [hz, apF_append, ← hAf]
    show lk t (apF B (apF A s0.f)) = _
    rw [apF_later fun x hx he => laterT x hx he t (.inl hr)]
    exact apF_full (fun x hx he => earlierT x hx he t hr) rfl
  · show lkH r (apH (m.zip tr) s0.h) = lkH r (apH ((tr.take i).map (true, ·)) s0.h)
    rw [hz, apH_append, ← hAf]
    show lkH r (apH B (apH A s0.h)) = _
    rw [apH_later fun x hx he => laterO x hx he r (.inl hr)]
    exact apH_full (fun x hx he => earlierO x hx he r hr) rfl
  · have h0 := hunm0 r hr
    unfold unmB at h0
    split at h0
    · rename_i e1 e2 e3 e4
      exact ⟨by rw [ha]; exact memN_spec e1, unmF_spec (apF_unm (hunm r hr) e2), unmH_spec (apH_unm (hunm r hr) e3), apH_none (hunm r hr) e4⟩
    · simp at h0
  · refine hK a' w' ⟨by simpa using M.len, fun j oj hj hoj e he hb => ?_, Im', ρ', ?_⟩
    · by_cases hji : i = j
      · subst hji
        rw [ho] at hoj; injection hoj with hoj; subst hoj
        have h1 := hed e he hb
        have hne : i ≠ e.on := fun e' => by rw [← e', hi] at h1; simp at h1
        rw [List.getElem?_set_ne hne]; exact h1
      · rw [List.getElem?_set_ne hji] at hj
        have h1 := M.closed j oj hj hoj e he hb
        have hne : i ≠ e.on := fun e' => by rw [← e', hi] at h1; simp at h1
        rw [List.getElem?_set_ne hne]; exact h1
    · have e1 : (fun t => lk t (apF ((m.set i true).zip tr) s0.f)) = fun t => lk t (st.putF (apF (m.zip tr) s0.f)) := by
        funext t
        rw [hz, hz', apF_append, apF_append]
        exact apF_mark (fun x hx he t hw => laterT x hx he t (.inr hw)) t
      have e2 : (fun r => lkH r (apH ((m.set i true).zip tr) s0.h)) = fun r => lkH r (st.wh ++ apH (m.zip tr) s0.h) := by
        funext r
        rw [hz, hz', apH_append, apH_append]
        exact apH_mark (fun x hx he r hw => laterO x hx he r (.inr hw)) r
      rw [e1, e2]; exact S'

theorem Mid.run {c : Cx} {ops : List Oper} {tr : List Stp} {s0 sn : St} {Q : APost} (hok : c.Ok X.E) (hn : c.nt = k.nt) (ha : c.anc = k.anc) (ht : Trace X k Q ops ops s0 tr sn) (hs : statOk ops = true) (hd : dynGo (bms ops) k.anc s0 tr tr 0 = true) (hQ : Q .normal sn) :
    ∀ (fuel : Nat) (L : Array Bool) (a : Act) (w : World), (L.toList.filter (!·)).length ≤ fuel → Mid c ops tr s0 L.toList a w → wpAny X.E.P .any ops.toArray (Lift c Q) fuel L a w := by
  have hlow := statOk_low hs
  have done : ∀ (L : Array Bool) (a : Act) (w : World), Mid c ops tr s0 L.toList a w → Region.ready .any ops.toArray L = [] → Lift c Q .normal a w := fun L a w M hr => by
    have hall : ∀ j, j < ops.length → L.toList[j]? = some true := by
      intro j
      induction j using Nat.strongRecOn with
      | _ j ih =>
        intro hj
        have hjl : j < L.toList.length := by rw [M.len]; exact hj
        cases hb : L.toList[j] with
        | true => rw [List.getElem?_eq_getElem hjl, hb]
        | false =>
          have : j ∈ Region.ready .any ops.toArray L := mem_ready.2 ⟨by simp [Array.getD_eq_getD_getElem?]; rw [Array.getElem?_eq_getElem (by simpa using hjl)]; simpa using hb, ops[j], by simp [hj], fun e he hb => by
            have hlt := hlow j ops[j] (List.getElem?_eq_getElem hj) e (by simpa using he) hb
            have := ih e.on hlt (by omega)
            simp [Array.getD_eq_getD_getElem?]
            simp at this; simp [this]⟩
          rw [hr] at this; simp at this
    obtain ⟨Im, ρ, S⟩ := M.sim
    have hfull : L.toList.zip tr = tr.map (true, ·) := by
      rw [← zip_full L.toList tr (by rw [M.len, ht.length])]
      unfold full
      refine (List.map_congr_left (g := id) fun x hx => ?_).trans (List.map_id _) |>.symm
      obtain ⟨j, h1, h2⟩ := mem_zip_at hx
      have hj : j < ops.length := by rw [← M.len]; exact (List.getElem?_eq_some_iff.1 h1).1
      rw [hall j hj] at h1
      injection h1 with h1
      obtain ⟨b, y⟩ := x
      simp at h1; subst h1; rfl
    rw [hfull] at S
    have hsn := ht.end
    exact ⟨by simp, Im, ρ, sn, by rw [hsn]; exact S, hQ⟩
  have act : ∀ (L : Array Bool) (a : Act) (w : World), Mid c ops tr s0 L.toList a w → ∀ i ∈ Region.ready .any ops.toArray L, ∀ K : Act → World → Prop, (∀ a' w', Mid c ops tr s0 (L.setIfInBounds i true).toList a' w' → K a' w') → L.toList[i]? = some false ∧ wpOp X.E.P ops.toArray (Lift c Q) i K a w := fun L a w M i hi K hK => by
    obtain ⟨h0, o, ho, hed⟩ := mem_ready.1 hi
    have ho' : ops[i]? = some o := by simpa using ho
    have hil : i < L.size := by have := M.len; have := (List.getElem?_eq_some_iff.1 ho').1; simp at *; omega
    have hm : L.toList[i]? = some false := by
      simp [Array.getD_eq_getD_getElem?, Array.getElem?_eq_getElem hil] at h0
      simp [hil, h0]
    refine ⟨hm, ?_⟩
    have := Mid.step hok hn ha ht hs hd M hm ho' (fun e he hb => by
      have := hed e (by simpa using he) hb
      simp [Array.getD_eq_getD_getElem?] at this
      rw [Array.getElem?_toList]
      cases h : L[e.on]? with
      | none => rw [h] at this; simp at this
      | some b => rw [h] at this; simp at this; rw [this]) (K := K) (fun a' w' M' => hK a' w' (by simpa using M'))
    unfold wpOp
    simp only [ho]
    split at this
    · rename_i hw; rw [if_pos hw]; exact .inl this
    · rename_i hw; rw [if_neg hw]; exact this
  intro fuel
  induction fuel with
  | zero =>
    intro L a w hf M
    have hr : Region.ready .any ops.toArray L = [] := by
      refine List.eq_nil_iff_forall_not_mem.2 fun i hi => ?_
      have := (act L a w M i hi (fun _ _ => True) fun _ _ _ => trivial).1
      have hm := List.mem_of_getElem? this
      have : false ∈ L.toList.filter (!·) := List.mem_filter.2 ⟨hm, rfl⟩
      have := List.length_pos_of_mem this
      omega
    exact ⟨hr, done L a w M hr⟩
  | succ fuel ih =>
    intro L a w hf M
    refine ⟨done L a w M, fun i hi => ?_⟩
    have hm := (act L a w M i hi (fun _ _ => True) fun _ _ _ => trivial).1
    refine (act L a w M i hi _ fun a' w' M' => ih _ a' w' ?_ M').2
    have key : ∀ (l : List Bool) (i : Nat), l[i]? = some false → ((l.set i true).filter (!·)).length + 1 = (l.filter (!·)).length := by
      intro l
      induction l with
      | nil => intro i h; simp at h
      | cons x l ih =>
        intro i h
        cases i with
        | zero => simp at h; subst h; simp
        | succ i =>
          have := ih i (by simpa using h)
          cases x <;> simp_all
    have := key L.toList i hm
    simp only [Array.toList_setIfInBounds]
    omega

theorem AWp.draw {id : Nat} {ops : Array Oper} {tr : List Stp} {s0 sn : St} {Q : APost} (ht : Trace X k Q ops.toList ops.toList s0 tr sn) (hs : statOk ops.toList = true) (hd : dynGo (bms ops.toList) k.anc s0 tr tr 0 = true) (hQ : Q .normal sn) :
    AWp X.E k (.region id ops true) Q s0 := fun c ok hn ha Im ρ a w S => by
  refine wp_region_any X.E.mixed ?_
  have S' : Sim c Im ρ s0.F s0.H a { w with drawn := w.drawn + 1 } := S.world rfl rfl rfl rfl
  have hz : ∀ (n : Nat) (l : List Stp), apF ((List.replicate n false).zip l) s0.f = s0.f ∧ apH ((List.replicate n false).zip l) s0.h = s0.h := by
    intro n
    induction n with
    | zero => intro l; simp [apF, apH]
    | succ n ih => intro l; cases l with
      | nil => simp [apF, apH]
      | cons x l => simp only [List.replicate_succ, List.zip_cons_cons, apF, apH]; exact ih l
  have := Mid.run ok hn ha ht hs hd hQ ops.size (Array.replicate ops.size false) a { w with drawn := w.drawn + 1 } (by simp) ⟨by simp, fun j o hj => by
    simp [Array.toList_replicate, List.getElem?_replicate] at hj, Im, ρ, ?_⟩
  · simpa using this
  · simp only [Array.toList_replicate]
    rw [(hz ops.size tr).1, (hz ops.size tr).2]; exact S'

end Go.Ax
