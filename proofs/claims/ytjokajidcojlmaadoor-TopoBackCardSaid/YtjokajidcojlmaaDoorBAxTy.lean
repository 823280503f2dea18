import Derived.Test.YtjokajidcojlmaaDoorBAxTo

/- Layer 13's law in plain Lean: the other end. -/
namespace Go.Ax
open Go.Proofs

theorem eqP_iff {p q : PortT} : eqP p q = true ↔ p = q := by
  obtain ⟨a, b⟩ := p; obtain ⟨c, d⟩ := q
  simp [eqP]
theorem eqP_ne {p q : PortT} (h : p ≠ q) : eqP p q = false := by
  cases hq : eqP p q with
  | false => rfl
  | true => exact absurd (eqP_iff.1 hq) h
theorem mfind_none {l : List TK} {key : List D} : ∀ {es : List (List D × D)} {i : Nat}, mfind l key es i = none → ∀ e ∈ es, eqAll l key e.1 0 = false
  | [], _, _, e, he => by simp at he
  | x :: r, i, h, e, he => by
    simp only [mfind] at h
    split at h
    · simp at h
    · rename_i hx
      rcases List.mem_cons.1 he with rfl | he
      · exact hx
      · exact mfind_none h e he
theorem eqAll_P (p : PortT) : eqAll kP (rowP p) (rowP p) 0 = true := by
  show ((p.1 == p.1) && ((p.2 == p.2) && true)) = true
  simp
theorem scan_nd : ∀ {m : List (List D × D)} {l : List PortT} {es es' : List (List D × D)}, scanF m l es = some es' → es'.length ≤ es.length + l.length ∧ (es.length + l.length ≤ es'.length → l.Nodup ∧ ∀ p ∈ l, ∀ e ∈ es, e.1 ≠ rowP p)
  | m, [], es, es', h => by
    injection h with h; subst h
    exact ⟨Nat.le_refl _, fun _ => ⟨List.nodup_nil, fun p hp => by simp at hp⟩⟩
  | m, p :: r, es, es', h => by
    simp only [scanF] at h
    split at h
    · obtain ⟨h1, h2⟩ := scan_nd h
      cases hf : mfind kP (rowP p) es 0 with
      | some i =>
        have hl : (mput kP (rowP p) (.v (.bool true)) es).length = es.length := by rw [mput, hf]; simp
        rw [hl] at h1
        exact ⟨by simp only [List.length_cons]; omega, fun h3 => by simp only [List.length_cons] at h3; omega⟩
      | none =>
        have hm : mput kP (rowP p) (.v (.bool true)) es = es ++ [(rowP p, .v (.bool true))] := by rw [mput, hf]
        rw [hm] at h1 h2
        simp only [List.length_append, List.length_cons, List.length_nil] at h1 h2
        refine ⟨by simp only [List.length_cons]; omega, fun h3 => ?_⟩
        simp only [List.length_cons] at h3
        obtain ⟨n1, n2⟩ := h2 (by omega)
        have hp : ∀ e ∈ es, e.1 ≠ rowP p := fun e he heq => by
          have := mfind_none hf e he
          rw [heq, eqAll_P] at this; exact absurd this (by simp)
        refine ⟨List.nodup_cons.2 ⟨fun hpr => n2 p hpr (rowP p, .v (.bool true)) (by simp) rfl, n1⟩, fun q hq e he => ?_⟩
        rcases List.mem_cons.1 hq with rfl | hq
        · exact hp e he
        · exact n2 q hq e (by simp [he])
    · simp at h

def ends (l : List (PortT × PortT)) : List PortT := l.flatMap fun l => [l.1, l.2]
theorem check_nd {t : TopoT} (h : checkF t = 0) : (t.hosts ++ ends t.links).Nodup ∧ t.sw.length ≤ 12 ∧ t.links.length ≤ 24 ∧ t.hosts.length ≤ 24 := by
  unfold checkF at h
  split at h
  · omega
  · rename_i hb
    split at h
    · omega
    · rename_i es he
      split at h
      · omega
      · split at h
        · omega
        · rename_i h3
          obtain ⟨_, h4⟩ := scan_nd he
          exact ⟨(h4 (by simp; omega)).1, by omega, by omega, by omega⟩

theorem mem_ends {l : List (PortT × PortT)} {x : PortT × PortT} (h : x ∈ l) : x.1 ∈ ends l ∧ x.2 ∈ ends l := by
  constructor <;> exact List.mem_flatMap.2 ⟨x, h, by simp⟩
theorem other_none : ∀ {l : List (PortT × PortT)} {p : PortT}, p ∉ ends l → otherF l p = none
  | [], _, _ => rfl
  | x :: r, p, h => by
    have h1 : p ≠ x.1 := fun e => h (by subst e; exact (mem_ends (List.mem_cons_self ..)).1)
    have h2 : p ≠ x.2 := fun e => h (by subst e; exact (mem_ends (List.mem_cons_self ..)).2)
    simp only [otherF, eqP_ne h1, eqP_ne h2]
    exact other_none fun hr => h (by simp only [ends, List.flatMap_cons]; simp only [ends] at hr; simp [hr])
theorem other_ends : ∀ {l : List (PortT × PortT)} {x : PortT × PortT}, (ends l).Nodup → x ∈ l → otherF l x.1 = some x.2 ∧ otherF l x.2 = some x.1
  | [], x, _, h => by simp at h
  | y :: r, x, hn, h => by
    have hn' : (y.1 :: y.2 :: ends r).Nodup := hn
    rw [List.nodup_cons, List.nodup_cons] at hn'
    obtain ⟨n1, n2, n3⟩ := hn'
    rcases List.mem_cons.1 h with rfl | h
    · have hne : x.2 ≠ x.1 := fun e => n1 (by rw [e]; exact List.mem_cons_self ..)
      simp only [otherF, eqP_ne hne, eqP_iff.2 (rfl : x.1 = x.1), eqP_iff.2 (rfl : x.2 = x.2)]
      exact ⟨rfl, rfl⟩
    · obtain ⟨m1, m2⟩ := mem_ends h
      have a1 : x.1 ≠ y.1 := fun e => n1 (by rw [← e]; exact List.mem_cons_of_mem _ m1)
      have a2 : x.1 ≠ y.2 := fun e => n2 (by rw [← e]; exact m1)
      have a3 : x.2 ≠ y.1 := fun e => n1 (by rw [← e]; exact List.mem_cons_of_mem _ m2)
      have a4 : x.2 ≠ y.2 := fun e => n2 (by rw [← e]; exact m2)
      simp only [otherF, eqP_ne a1, eqP_ne a2, eqP_ne a3, eqP_ne a4]
      exact other_ends n3 h
theorem indexF_mem : ∀ {l : List PortT} {p : PortT} {i : Nat}, 0 ≤ indexF l p i ↔ p ∈ l
  | [], p, i => by simp [indexF]
  | q :: l, p, i => by
    simp only [indexF]
    split
    · rename_i h
      have h : eqP p q = true := h
      rw [eqP_iff] at h; subst h
      simp
    · rename_i h
      have hne : p ≠ q := fun e => h (eqP_iff.2 e)
      rw [indexF_mem]; simp [hne]
theorem host_iff {l : List PortT} {p : PortT} : hostF l p = decide (p ∈ l) := by
  rw [hostF]; exact decide_eq_decide.2 indexF_mem
/-- What the law asks. -/
theorem ends_law {t : TopoT} (h : checkF t = 0) : (∀ x ∈ t.links, otherF t.links x.1 = some x.2 ∧ otherF t.links x.2 = some x.1 ∧ hostF t.hosts x.1 = false ∧ hostF t.hosts x.2 = false) ∧ (∀ p ∈ t.hosts, otherF t.links p = none ∧ hostF t.hosts p = true) := by
  obtain ⟨hn, _⟩ := check_nd h
  rw [List.nodup_append] at hn
  obtain ⟨n1, n2, n3⟩ := hn
  refine ⟨fun x hx => ?_, fun p hp => ?_⟩
  · obtain ⟨m1, m2⟩ := mem_ends hx
    obtain ⟨o1, o2⟩ := other_ends n2 hx
    refine ⟨o1, o2, ?_, ?_⟩
    · rw [host_iff]; exact decide_eq_false fun hm => n3 _ hm _ m1 rfl
    · rw [host_iff]; exact decide_eq_false fun hm => n3 _ hm _ m2 rfl
  · refine ⟨other_none fun hm => n3 _ hp _ hm rfl, ?_⟩
    rw [host_iff]; exact decide_eq_true hp
end Go.Ax
