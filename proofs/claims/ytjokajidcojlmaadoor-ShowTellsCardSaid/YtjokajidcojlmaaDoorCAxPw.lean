import Derived.Test.YtjokajidcojlmaaDoorCAxPv

/- A policy's text: the document's. -/
namespace Go.Ax
open Go.Proofs
set_option maxRecDepth 10000

def rowN (i : Nat) : List D := [.v (.string (nameF i))]
theorem names_ctr (g : GP) : Ctr (ax g).E 80 [] [] (fun o => o = .ret (.d (.sl true 1 ((List.range 8).map rowN))) []) := by
  refine Ctr.body (X := ax g) _ 2 [] [.tmp 0] Tryd.func80 rfl rfl rfl rfl (by decide +kernel) rfl rfl ?_
  conv => whnf
  repeat' (first | (refine And.intro (by first | exact rfl | decide | exact Nat.le_of_ble_eq_true rfl | exact ⟨_, rfl⟩ | exact ⟨_, _, rfl⟩ | exact Nat.le_refl _ | exact Int.le_refl _ | omega | (simp only [List.length_map]; omega) | exact True.intro | (simp only [IntKind.wrap_i64, List.length_map]; omega) | (simp only [bsz, ByteArray.size_append, List.size_toArray, List.length_cons, List.length_nil]; omega) | exact ⟨⟨_, _, rfl, rfl, Nat.le_of_ble_eq_true rfl⟩, trivial⟩ | exact ⟨⟨_, _, rfl, rfl, Nat.le_of_ble_eq_true rfl⟩, ⟨_, _, rfl, rfl, Nat.le_of_ble_eq_true rfl⟩, trivial⟩ | exact ⟨⟨_, _, rfl, rfl, Nat.le_of_ble_eq_true rfl⟩, ⟨_, _, rfl, rfl, Nat.le_of_ble_eq_true rfl⟩, ⟨_, _, rfl, rfl, Nat.le_of_ble_eq_true rfl⟩, trivial⟩) ?_; conv => whnf) | (refine ifB_intro (fun hA => ?_) (fun hA => ?_) <;> (try rw [hA]) <;> (conv => whnf) <;> (first | replace hA := of_decide_eq_true hA | replace hA := of_decide_eq_false hA | replace hA := eq_of_beq hA | replace hA := ne_of_beq_false hA | skip) <;> (try simp only [List.length_map, cond_true, cond_false, Bool.not_eq_true', Bool.not_eq_false', beq_iff_eq, beq_eq_false_iff_ne, ne_eq] at hA)) | (rw [getD_map _ _ _ _ (by assumption)]; conv => whnf))
  refine ⟨⟨[], ?_⟩⟩
  conv => whnf
  rfl
theorem names_at {f : Int} (h : 0 ≤ f ∧ f < 8) : ((List.range 8).map rowN).getD f.toNat [] = [.v (.string (nameF f))] := by
  have h1 : f.toNat < (List.range 8).length := by simp; omega
  have := getD_map rowN (List.range 8) f.toNat [] h1
  rw [show ((f.toNat : Nat) : Int) = f by omega] at this
  rw [this, List.getElem_range, rowN, show ((f.toNat : Nat) : Int) = f by omega]

theorem rdigits_ctr (g : GP) (n : Int) (h : 0 ≤ n ∧ n < 2 ^ 62) : Ctr (ax g).E 79 [.i64 n] [] (fun o => o = .ret (.str (digB n.toNat)) []) := by
  have := digits_ctr g n.toNat (by omega)
  rw [show ((n.toNat : Nat) : Int) = n by omega] at this
  exact this

theorem within6_ctr (g : GP) (p : PolT) (of : Int) (sum : Bool) (hsum : sum = decide (of = 7)) (hs : (polB p).size ≤ 2 ^ 60) (h : Ctr (ax g).E 75 [.dagg (rowP4 p)] [] (fun o => o = .ret (.str (polB p)) [])) :
    Ctr (ax g).E 121 [.dagg (rowP4 p), .bool sum] [] (fun o => o = .ret (.str (kidB of p)) []) := by
  refine Ctr.body (X := ax g) _ 23 [] [.tmp 4] Tryd.func121 rfl rfl rfl rfl (by decide +kernel) rfl rfl ?_
  conv => whnf
  repeat' (first | (refine And.intro (by first | exact rfl | decide | exact Nat.le_of_ble_eq_true rfl | exact ⟨_, rfl⟩ | exact ⟨_, _, rfl⟩ | exact Nat.le_refl _ | exact Int.le_refl _ | omega | (simp only [List.length_map]; omega) | exact True.intro | (simp only [IntKind.wrap_i64, List.length_map]; omega) | (simp only [bsz, ByteArray.size_append, List.size_toArray, List.length_cons, List.length_nil]; omega) | exact ⟨⟨_, _, rfl, rfl, Nat.le_of_ble_eq_true rfl⟩, trivial⟩ | exact ⟨⟨_, _, rfl, rfl, Nat.le_of_ble_eq_true rfl⟩, ⟨_, _, rfl, rfl, Nat.le_of_ble_eq_true rfl⟩, trivial⟩ | exact ⟨⟨_, _, rfl, rfl, Nat.le_of_ble_eq_true rfl⟩, ⟨_, _, rfl, rfl, Nat.le_of_ble_eq_true rfl⟩, ⟨_, _, rfl, rfl, Nat.le_of_ble_eq_true rfl⟩, trivial⟩) ?_; conv => whnf) | (refine ifB_intro (fun hA => ?_) (fun hA => ?_) <;> (try rw [hA]) <;> (conv => whnf) <;> (first | replace hA := of_decide_eq_true hA | replace hA := of_decide_eq_false hA | replace hA := eq_of_beq hA | replace hA := ne_of_beq_false hA | skip) <;> (try simp only [List.length_map, cond_true, cond_false, Bool.not_eq_true', Bool.not_eq_false', beq_iff_eq, beq_eq_false_iff_ne, ne_eq] at hA)) | (refine CallP.det (h) ?_; conv => whnf) | (refine CallD.det (h) ?_; conv => whnf) | (rw [getD_map _ _ _ _ (by assumption)]; conv => whnf))
  all_goals (refine ⟨⟨[], ?_⟩⟩; (conv => whnf))
  all_goals (simp_all [kidB, bareB]; done)

theorem formP_not {k : Int} {p : PolT} (h : formP k p = true) (h4 : p.op = 4) : p.kids.length = 1 := by
  rw [formP_at, if_neg (by omega), if_pos h4] at h
  simp at h
  exact h.1.1.1
theorem formP_leaf {k : Int} {p : PolT} (h : formP k p = true) (h4 : ¬p.op = 4) (h6 : ¬p.op = 6) (h7 : ¬p.op = 7) : p.kids = [] := by
  rw [formP_at] at h
  apply List.eq_nil_of_length_eq_zero
  repeat' split at h
  all_goals first | (exfalso; omega) | (simp at h; done) | (simp at h; simp [h])
theorem formP_op {k : Int} {p : PolT} (h : formP k p = true) : 0 ≤ p.op ∧ p.op ≤ 7 := by
  rw [formP_at] at h
  repeat' split at h
  all_goals first | omega | (simp at h; done)
theorem kidsB_one {of : Int} {l : List PolT} (h : 0 < l.length) (h1 : l.length = 1) : kidsB of l true = kidB of l[0] := by
  obtain ⟨x, rfl⟩ := List.length_eq_one_iff.1 h1
  simp [kidsB, kidB, bnil, nilb]
theorem polB_not {p : PolT} (h4 : p.op = 4) (h1 : p.kids.length = 1) : polB p = ⟨#[33]⟩ ++ kidB 4 (p.kids[0]'(by omega)) := by
  rw [polB_at, kidsB_one (by omega) h1, h4]; rfl
theorem polB_leaf {p : PolT} (h : p.kids = []) : polB p = headB p.op p.f p.n := by
  rw [polB_at, h, kidsB, bnil]
theorem rtext_ctr (g : GP) (k : Int) (hk : k ≤ 60000) : ∀ (m : Nat) (p : PolT), sizeP p ≤ m → sizeP p ≤ 2 ^ 40 → okPol p → formP k p = true → Ctr (ax g).E 75 [.dagg (rowP4 p)] [] (fun o => o = .ret (.str (polB p)) [])
  | 0, p, h, _, _, _ => by have := sizeP_pos p; omega
  | m + 1, p, hm, hbig, ho, hf => by
    have ih := rtext_ctr g k hk m
    have hf2 := formP_f hf hk
    have ho2 := (okPol_at p).1 ho
    have hl := polB_len hk _ p (Nat.le_refl _) ho hf
    have hn1 := name_len p.f
    have hd1 := digI_len (n := p.f) (by omega)
    have hd2 := digI_len (n := p.n) (by omega)
    have hsz := sizeP_at p
    have hlen := sizesP_len p.kids
    have hsl := sepB_len p.op
    refine Ctr.body (X := ax g) _ 90 [] [.tmp 2] Tryd.func75 rfl rfl rfl rfl (by decide +kernel) rfl rfl ?_
    conv => whnf
    have hnot := formP_not hf
    have hwit : ∀ (x : PolT) (of : Int) (b : Bool), x ∈ p.kids → b = decide (of = 7) → Ctr (ax g).E 121 [.dagg (rowP4 x), .bool b] [] (fun o => o = .ret (.str (kidB of x)) []) := fun x of b hx hb => by
      have h1 := sizesP_mem hx
      have h2 := okPols_mem ho2.2 hx
      obtain ⟨j, hj, rfl⟩ := List.mem_iff_getElem.1 hx
      have h3 := formP_kids hf hj
      have h4 := polB_len hk _ _ (Nat.le_refl _) h2 h3
      exact within6_ctr g p.kids[j] of b hb (by omega) (ih _ (by omega) (by omega) h2 h3)
    have hks : ∀ (x : PolT) (of : Int), x ∈ p.kids → (kidB of x).size ≤ 17 * sizeP p := fun x of hx => by
      have h1 := sizesP_mem hx
      have h2 := okPols_mem ho2.2 hx
      obtain ⟨j, hj, rfl⟩ := List.mem_iff_getElem.1 hx
      have h3 := formP_kids hf hj
      have h4 := polB_len hk _ _ (Nat.le_refl _) h2 h3
      have h5 := kidB_len of p.kids[j]
      omega
    repeat' (first | (refine And.intro (by first | exact rfl | decide | exact Nat.le_of_ble_eq_true rfl | exact ⟨_, rfl⟩ | exact ⟨_, _, rfl⟩ | exact Nat.le_refl _ | exact Int.le_refl _ | omega | (simp only [List.length_map]; omega) | exact True.intro | (simp only [IntKind.wrap_i64, List.length_map]; omega) | (simp only [bsz, ByteArray.size_append, List.size_toArray, List.length_cons, List.length_nil]; omega) | exact ⟨⟨_, _, rfl, rfl, Nat.le_of_ble_eq_true rfl⟩, trivial⟩ | exact ⟨⟨_, _, rfl, rfl, Nat.le_of_ble_eq_true rfl⟩, ⟨_, _, rfl, rfl, Nat.le_of_ble_eq_true rfl⟩, trivial⟩ | exact ⟨⟨_, _, rfl, rfl, Nat.le_of_ble_eq_true rfl⟩, ⟨_, _, rfl, rfl, Nat.le_of_ble_eq_true rfl⟩, ⟨_, _, rfl, rfl, Nat.le_of_ble_eq_true rfl⟩, trivial⟩) ?_; conv => whnf) | (refine ifB_intro (fun hA => ?_) (fun hA => ?_) <;> (try rw [hA]) <;> (conv => whnf) <;> (first | replace hA := of_decide_eq_true hA | replace hA := of_decide_eq_false hA | replace hA := eq_of_beq hA | replace hA := ne_of_beq_false hA | skip) <;> (try simp only [List.length_map, cond_true, cond_false, Bool.not_eq_true', Bool.not_eq_false', beq_iff_eq, beq_eq_false_iff_ne, ne_eq] at hA)) | (rw [i64_wrap (n := p.n) (by omega) (by omega)]; conv => whnf) | (refine CallP.det (rdigits_ctr g p.n (by omega)) ?_; conv => whnf) | (refine CallD.det (rdigits_ctr g p.n (by omega)) ?_; conv => whnf) | (refine CallP.det (rdigits_ctr g p.f (by omega)) ?_; conv => whnf) | (refine CallD.det (rdigits_ctr g p.f (by omega)) ?_; conv => whnf) | (refine CallP.det (names_ctr g) ?_; conv => whnf) | (refine CallD.det (names_ctr g) ?_; conv => whnf) | (refine DrawP.intro (X := ax g) (id := 8) B75_8 (by kernel_rfl) (by decide +kernel) ?_; conv => whnf) | (refine DrawP.intro (X := ax g) (id := 14) B75_14 (by kernel_rfl) (by decide +kernel) ?_; conv => whnf) | (rw [names_at (by have := hf2.2.2 (by omega); omega)]; conv => whnf) | (refine And.intro (by have := hf2.2.2 (by omega); simp only [List.length_map, List.length_range]; omega) ?_; conv => whnf) | (refine And.intro (by have := hnot (by omega); simp only [List.length_map]; omega) ?_; conv => whnf) | (rw [getD_lit0 rowO4 p.kids [] (by have := hnot (by omega); omega), rowO4_at]; conv => whnf) | (refine CallP.det (hwit _ 4 false (List.getElem_mem (by have := hnot (by omega); omega)) (by decide)) ?_; conv => whnf) | (refine CallD.det (hwit _ 4 false (List.getElem_mem (by have := hnot (by omega); omega)) (by decide)) ?_; conv => whnf) | (refine And.intro (by have := hks _ 4 (List.getElem_mem (l := p.kids) (n := 0) (by have := hnot (by omega); omega)); simp only [bsz, List.size_toArray, List.length_cons, List.length_nil]; omega) ?_; conv => whnf) | (rw [getD_map _ _ _ _ (by assumption)]; conv => whnf))
    all_goals first
      | (refine ⟨⟨[], ?_⟩⟩; (conv => whnf)
         first
           | (rw [polB_leaf (formP_leaf hf (by omega) (by omega) (by omega)), headB]; simp_all [partB]; done)
           | rw [polB_not hA (hnot hA)])
      | skip
    refine LoopP.inv (X := ax g) (fun i : Nat => { f := [(1, .ptr 1 0), (2, .str ⟨#[]⟩), (4, .str (kidsB p.op (p.kids.take i) true)), (5, .i64 i)], h := [(1, some (.dvar 4 (rowP4 p)))] }) (fun i => i ≤ p.kids.length) (fun i => p.kids.length - i) 0 (Nat.zero_le _) ⟨⟨rfl, rfl, rfl, rfl, trivial⟩, ⟨fun o h => h, trivial⟩⟩ fun i hi => ?_
    have hop : p.op = 6 ∨ p.op = 7 := by have := formP_op hf; omega
    have hkb := kidsB_take hk ho hf i
    have htk := sizesP_take p.kids i
    by_cases hlt : i < p.kids.length
    · have hkk := hks _ p.op (List.getElem_mem hlt)
      have hstep := kidsB_next p.op hlt
      conv => whnf
      repeat (refine And.intro (by first | exact rfl | decide | exact Nat.le_of_ble_eq_true rfl | exact ⟨_, rfl⟩ | exact ⟨_, _, rfl⟩ | exact Nat.le_refl _ | exact Int.le_refl _ | omega | (simp only [List.length_map]; omega)) ?_; conv => whnf)
      refine ifB_true (by simp only [List.length_map]; exact decide_eq_true (by omega)) ?_
      conv => whnf
      repeat' (first | (refine And.intro (by first | exact rfl | decide | exact Nat.le_of_ble_eq_true rfl | exact ⟨_, rfl⟩ | exact ⟨_, _, rfl⟩ | exact Nat.le_refl _ | exact Int.le_refl _ | omega | (simp only [List.length_map]; omega) | exact True.intro | (simp only [IntKind.wrap_i64, List.length_map]; omega) | (simp only [bsz, ByteArray.size_append, List.size_toArray, List.length_cons, List.length_nil]; omega) | exact ⟨⟨_, _, rfl, rfl, Nat.le_of_ble_eq_true rfl⟩, trivial⟩ | exact ⟨⟨_, _, rfl, rfl, Nat.le_of_ble_eq_true rfl⟩, ⟨_, _, rfl, rfl, Nat.le_of_ble_eq_true rfl⟩, trivial⟩ | exact ⟨⟨_, _, rfl, rfl, Nat.le_of_ble_eq_true rfl⟩, ⟨_, _, rfl, rfl, Nat.le_of_ble_eq_true rfl⟩, ⟨_, _, rfl, rfl, Nat.le_of_ble_eq_true rfl⟩, trivial⟩) ?_; conv => whnf) | (refine ifB_intro (fun hA => ?_) (fun hA => ?_) <;> (try rw [hA]) <;> (conv => whnf) <;> (first | replace hA := of_decide_eq_true hA | replace hA := of_decide_eq_false hA | replace hA := eq_of_beq hA | replace hA := ne_of_beq_false hA | skip) <;> (try simp only [List.length_map, cond_true, cond_false, Bool.not_eq_true', Bool.not_eq_false', beq_iff_eq, beq_eq_false_iff_ne, ne_eq] at hA)) | (rw [getD_map rowO4 p.kids i [] hlt, rowO4_at]; conv => whnf) | (refine DrawP.intro (X := ax g) (id := 23) B75_23 (by kernel_rfl) (by decide +kernel) ?_; conv => whnf) | (refine CallP.det (hwit _ p.op _ (List.getElem_mem hlt) rfl) ?_; conv => whnf) | (refine CallD.det (hwit _ p.op _ (List.getElem_mem hlt) rfl) ?_; conv => whnf) | (refine And.intro (by simp only [bsz, ByteArray.size_append, List.size_toArray, List.length_cons, List.length_nil]; omega) ?_; conv => whnf) | (rw [getD_map _ _ _ _ (by assumption)]; conv => whnf))
      all_goals first
        | (exfalso; omega)
        | (refine ⟨i + 1, by omega, by omega, ⟨⟨rfl, rfl, ?_, AV.int_eq (i64_succ (by omega)), trivial⟩, ⟨fun o h => h, trivial⟩⟩⟩
           rw [hstep]
           rcases Nat.eq_zero_or_pos i with h0 | h0
           · first
               | (exfalso; omega)
               | (rw [if_pos h0, bnil]; rfl)
           · first
               | (exfalso; omega)
               | (rw [if_neg (Nat.ne_of_gt h0)]; unfold sepB; split <;> first | rfl | (exfalso; omega)))
    · conv => whnf
      repeat (refine And.intro (by first | exact rfl | decide | exact Nat.le_of_ble_eq_true rfl | exact ⟨_, rfl⟩ | exact ⟨_, _, rfl⟩ | exact Nat.le_refl _ | exact Int.le_refl _ | omega | (simp only [List.length_map]; omega)) ?_; conv => whnf)
      refine ifB_false (by simp only [List.length_map]; exact decide_eq_false (by omega)) ?_
      conv => whnf
      refine ⟨⟨[], ?_⟩⟩
      conv => whnf
      rw [polB_at, List.take_of_length_le (by omega), headB]
      repeat rw [if_neg (by omega)]
      rw [nilb]
end Go.Ax
