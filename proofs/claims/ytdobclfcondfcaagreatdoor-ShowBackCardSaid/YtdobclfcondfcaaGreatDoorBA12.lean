/- What the card of this claim stands on, or the card itself: for every input, as the given row says. -/
import Derived.Test.YtdobclfcondfcaaGreatDoorBA08
import Derived.Test.YtdobclfcondfcaaGreatDoorBA09
import Derived.Test.YtdobclfcondfcaaGreatDoorBA10
import Derived.Test.YtdobclfcondfcaaGreatDoorBA11

namespace Go.Ax
open Go.Proofs
set_option maxRecDepth 10000
theorem bassoc (a b c : ByteArray) : a ++ b ++ c = a ++ (b ++ c) := by
  apply ByteArray.ext; simp only [ByteArray.data_append, Array.append_assoc]
theorem bnil (a : ByteArray) : a ++ (⟨#[]⟩ : ByteArray) = a := by apply ByteArray.ext; rw [ByteArray.data_append]; simp
theorem nilb (a : ByteArray) : (⟨#[]⟩ : ByteArray) ++ a = a := by apply ByteArray.ext; rw [ByteArray.data_append]; simp
def headB (op f n : Int) : ByteArray :=
  if op = 0 then ⟨#[100, 114, 111, 112]⟩ else if op = 1 then ⟨#[105, 100]⟩ else if op = 2 then (nameF f ++ ⟨#[61]⟩) ++ digB n.toNat
  else if op = 5 then (nameF f ++ ⟨#[58, 61]⟩) ++ digB n.toNat else if op = 3 then partB f ⟨#[61]⟩ n else if op = 4 then ⟨#[33]⟩ else ⟨#[]⟩
def sepB (op : Int) : ByteArray := if op = 6 then ⟨#[32, 59, 32]⟩ else ⟨#[32, 43, 32]⟩
def bareB (of op : Int) : Bool := decide (op ≠ 7) && (decide (op ≠ 6) || decide (of = 7))
mutual
def polB : PolT → ByteArray
  | .mk op f n kids => headB op f n ++ kidsB op kids true
def kidsB (of : Int) : List PolT → Bool → ByteArray
  | [], _ => ⟨#[]⟩
  | p :: l, first => (if first then ⟨#[]⟩ else sepB of) ++ ((if bareB of p.op then polB p else (⟨#[40]⟩ ++ polB p) ++ ⟨#[41]⟩) ++ kidsB of l false)
end
def kidB (of : Int) (p : PolT) : ByteArray := if bareB of p.op then polB p else (⟨#[40]⟩ ++ polB p) ++ ⟨#[41]⟩
theorem polB_at (p : PolT) : polB p = headB p.op p.f p.n ++ kidsB p.op p.kids true := by cases p; rw [polB]; rfl
theorem kidsB_app (of : Int) (x : PolT) : ∀ (l : List PolT) (b : Bool), kidsB of (l ++ [x]) b = (kidsB of l b ++ (if b && l.isEmpty then ⟨#[]⟩ else sepB of)) ++ kidB of x
  | [], b => by cases b <;> simp [kidsB, kidB, bnil, nilb]
  | y :: l, b => by
    rw [List.cons_append, kidsB, kidsB, kidsB_app of x l false]
    simp only [bassoc, List.isEmpty_cons, Bool.false_and, Bool.and_false, Bool.false_eq_true, if_false]
theorem kidsB_next (of : Int) {l : List PolT} {i : Nat} (h : i < l.length) : kidsB of (l.take (i + 1)) true = (kidsB of (l.take i) true ++ (if i = 0 then ⟨#[]⟩ else sepB of)) ++ kidB of l[i] := by
  rw [List.take_succ_eq_append_getElem h, kidsB_app]
  by_cases h0 : i = 0
  · subst h0; simp
  · have : (l.take i).isEmpty = false := by
      rw [List.isEmpty_eq_false_iff]; intro he
      have h2 : (l.take i).length = 0 := by rw [he]; rfl
      rw [List.length_take] at h2; omega
    simp [this, h0]
theorem name_len (f : Int) : (nameF f).size ≤ 3 := by
  unfold nameF; repeat' split
  all_goals decide
theorem formP_f {k : Int} {p : PolT} (h : formP k p = true) (hk : k ≤ 60000) : 0 ≤ p.f ∧ p.f < 60000 ∧ (p.op = 2 ∨ p.op = 5 → p.f < 8) := by
  rw [formP_at] at h
  split at h
  · simp at h; omega
  · split at h
    · simp at h; omega
    · split at h
      · simp at h; omega
      · split at h
        · simp at h; omega
        · split at h
          · simp at h; omega
          · split at h
            · simp at h; omega
            · simp at h
theorem formP_kids {k : Int} {p : PolT} (h : formP k p = true) {i : Nat} (hi : i < p.kids.length) : formP k p.kids[i] = true := by
  rw [formP_at] at h
  have key : formsN k p.kids = false → formP k p.kids[i] = true := fun hf => by
    rw [formsN_any, List.any_eq_false] at hf
    simpa using hf _ (List.getElem_mem hi)
  split at h
  · have : p.kids.length = 0 := by simp at h; simp [h.1]
    omega
  · split at h
    · simp at h; exact key h.2
    · split at h
      · simp at h; exact key h.2
      · split at h
        · have : p.kids.length = 0 := by simp at h; simp [h.1.1]
          omega
        · split at h
          · have : p.kids.length = 0 := by simp at h; simp [h.1.1]
            omega
          · split at h
            · have : p.kids.length = 0 := by simp at h; simp [h.1.1]
              omega
            · simp at h
theorem headB_len {op f n : Int} (hf : f < 65536) (hn : n < 65536) : (headB op f n).size ≤ 12 := by
  have h1 := digI_len hf
  have h2 := digI_len hn
  have h3 := name_len f
  unfold headB
  repeat' split
  all_goals first | decide | (simp only [partB, bsz, ByteArray.size_append, List.size_toArray, List.length_cons, List.length_nil]; omega)
theorem sepB_len (op : Int) : (sepB op).size = 3 := by unfold sepB; split <;> rfl
theorem kidB_len (of : Int) (p : PolT) : (kidB of p).size ≤ (polB p).size + 2 := by
  unfold kidB; split
  · omega
  · simp only [bsz, ByteArray.size_append, List.size_toArray, List.length_cons, List.length_nil]; omega
theorem kidsB_len (of : Int) (k : Nat) : ∀ (l : List PolT) (b : Bool), (∀ p ∈ l, (polB p).size + 5 ≤ k * sizeP p) → (kidsB of l b).size ≤ k * sizesP l
  | [], b, _ => by rw [kidsB]; simp [bsz]
  | p :: l, b, h => by
    have h1 := kidsB_len of k l false fun q hq => h q (List.mem_cons_of_mem _ hq)
    have h2 := h p (List.mem_cons_self ..)
    have h3 := kidB_len of p
    have h4 := sepB_len of
    rw [kidsB, sizesP, Nat.mul_add]
    simp only [kidB] at h3
    rw [ByteArray.size_append, ByteArray.size_append]
    have : (if b = true then (⟨#[]⟩ : ByteArray) else sepB of).size ≤ 3 := by
      split
      · decide
      · omega
    omega
theorem polB_len {k : Int} (hk : k ≤ 60000) : ∀ (m : Nat) (p : PolT), sizeP p ≤ m → okPol p → formP k p = true → (polB p).size + 5 ≤ 17 * sizeP p
  | 0, p, h, _, _ => by have := sizeP_pos p; omega
  | m + 1, p, hm, ho, hf => by
    have ih := polB_len hk m
    rw [polB_at, sizeP_at, ByteArray.size_append]
    rw [sizeP_at] at hm
    have ho2 := (okPol_at p).1 ho
    have h1 := headB_len (op := p.op) (f := p.f) (n := p.n) (by have := (formP_f hf hk).2.1; omega) ho2.1.2
    have hkids : (kidsB p.op p.kids true).size ≤ 17 * sizesP p.kids := kidsB_len p.op 17 p.kids true fun q hq => by
      have h3 := sizesP_mem hq
      have h4 := okPols_mem ho2.2 hq
      obtain ⟨j, hj, rfl⟩ := List.mem_iff_getElem.1 hq
      exact ih _ (by omega) h4 (formP_kids hf hj)
    omega
theorem kidsB_take {k : Int} (hk : k ≤ 60000) {p : PolT} (ho : okPol p) (hf : formP k p = true) (i : Nat) : (kidsB p.op (p.kids.take i) true).size ≤ 17 * sizesP (p.kids.take i) :=
  kidsB_len p.op 17 _ true fun q hq => by
    have hq := List.mem_of_mem_take hq
    have h4 := okPols_mem ((okPol_at p).1 ho).2 hq
    obtain ⟨j, hj, rfl⟩ := List.mem_iff_getElem.1 hq
    exact polB_len hk _ _ (Nat.le_refl _) h4 (formP_kids hf hj)
abbrev WRes (b : ByteArray) : AOut → Prop := fun o => o = .ret (.tup []) [(9000, some (bldO b))]
theorem kid_ctr (g : GP) (p q : PolT) (bs : ByteArray) (hl : (polB p).size ≤ 17 * sizeP p) (hs : bs.size + 17 * sizeP p + 2 ≤ 140737488355328) (h : ∀ b : ByteArray, b.size + 17 * sizeP p ≤ 140737488355328 → Ctr (ax g).E 49 [.ptr 9000 0, .dagg (rowP4 p)] [(9000, some (bldO b))] (WRes (b ++ polB p))) :
    Ctr (ax g).E 107 [.ptr 9000 0, .dagg (rowP4 p), .dagg (rowP4 q)] [(9000, some (bldO bs))] (WRes (bs ++ kidB q.op p)) := by
  refine Ctr.body (X := ax g) _ 35 [9000] [] Tryz.func107 rfl rfl rfl rfl (by decide +kernel) rfl rfl ?_
  conv => whnf
  repeat' (first | (refine And.intro easyA ?_; conv => whnf) | (refine ifB_intro (fun hA => ?_) (fun hA => ?_) <;> (try rw [hA]) <;> (conv => whnf) <;> (first | replace hA := nrmA hA | replace hA := nrmB hA | replace hA := nrmC hA | replace hA := nrmD hA | replace hA := nrmE hA | replace hA := nrmF hA | skip) <;> (try simp only [ne_eq] at hA)) | (refine CallP.upd rfl (h _ (by first | omega | (simp only [bsz, oneB, ByteArray.size_append, List.size_toArray, List.length_cons, List.length_nil]; omega))) ?_; conv => whnf) | (refine CallD.upd rfl (h _ (by first | omega | (simp only [bsz, oneB, ByteArray.size_append, List.size_toArray, List.length_cons, List.length_nil]; omega))) ?_; conv => whnf) | (refine CallP.upd rfl (byte_ctr g _ 40 (by omega)) ?_; conv => whnf) | (refine CallD.upd rfl (byte_ctr g _ 40 (by omega)) ?_; conv => whnf) | (refine CallP.upd rfl (byte_ctr g _ 41 (by simp only [bsz, oneB, ByteArray.size_append, List.size_toArray, List.length_cons, List.length_nil]; omega)) ?_; conv => whnf) | (refine CallD.upd rfl (byte_ctr g _ 41 (by simp only [bsz, oneB, ByteArray.size_append, List.size_toArray, List.length_cons, List.length_nil]; omega)) ?_; conv => whnf) | (rw [getD_map _ _ _ _ (by assumption)]; conv => whnf))
  all_goals first
    | (rw [show kidB q.op p = polB p by simp_all [kidB, bareB]]
       refine ⟨⟨[(9000, some (bldO (bs ++ polB p)))], ?_⟩⟩
       (conv => whnf)
       refine And.intro ⟨fun o h => h, trivial⟩ ?_
       (conv => whnf))
    | (rw [show bs ++ kidB q.op p = ((bs ++ oneB 40) ++ polB p) ++ oneB 41 by rw [show kidB q.op p = (⟨#[40]⟩ ++ polB p) ++ ⟨#[41]⟩ by simp_all [kidB, bareB]]; simp only [bassoc]; rfl]
       refine ⟨⟨[(9000, some (bldO (((bs ++ oneB 40) ++ polB p) ++ oneB 41)))], ?_⟩⟩
       (conv => whnf)
       refine And.intro ⟨fun o h => h, trivial⟩ ?_
       (conv => whnf))
theorem pol_ctr (g : GP) (hg : ∀ w, g.G w → PowG w) (k : Int) (hk : k ≤ 60000) : ∀ (m : Nat) (p : PolT), sizeP p ≤ m → okPol p → formP k p = true → ∀ bs : ByteArray, bs.size + 17 * sizeP p ≤ 140737488355328 →
    Ctr (ax g).E 49 [.ptr 9000 0, .dagg (rowP4 p)] [(9000, some (bldO bs))] (WRes (bs ++ polB p))
  | 0, p, h, _, _, _, _ => by have := sizeP_pos p; omega
  | m + 1, p, hm, ho, hf, bs, hbs => by
    have ih := pol_ctr g hg k hk m
    have hf2 := formP_f hf hk
    have ho2 := (okPol_at p).1 ho
    have hl := polB_len hk _ p (Nat.le_refl _) ho hf
    have hn1 := name_len p.f
    have hd1 := digI_len (n := p.f) (by omega)
    have hd2 := digI_len (n := p.n) (by omega)
    have hsz := sizeP_at p
    have hlen := sizesP_len p.kids
    have hhl := headB_len (op := p.op) (f := p.f) (n := p.n) (by omega) ho2.1.2
    have hsl := sepB_len p.op
    refine (fun key : (∀ s, ((fun i : Nat => ({ f := [(0, .ptr 9000 0), (3, .ptr 3 0), (4, .str (sepB p.op)), (69, .d (.sl false 4 (p.kids.map rowO4))), (70, .i64 p.kids.length), (71, .i64 i)], h := [(9000, some (bldO ((bs ++ headB p.op p.f p.n) ++ kidsB p.op (p.kids.take i) true))), (3, some (.dvar 4 (rowP4 p)))] } : St)) 0).Le s → LoopP (ax g).E { nt := 88, anc := [9000] } ?c ?Q s) => ?main) ?loop
    case main =>
      refine Ctr.body (X := ax g) _ 88 [9000] [] Tryz.func49 rfl rfl rfl rfl (by decide +kernel) rfl rfl ?_
      conv => whnf
      repeat' (first | (refine And.intro easyA ?_; conv => whnf) | (refine ifB_intro (fun hA => ?_) (fun hA => ?_) <;> (try rw [hA]) <;> (conv => whnf) <;> (first | replace hA := nrmA hA | replace hA := nrmB hA | replace hA := nrmC hA | replace hA := nrmD hA | replace hA := nrmE hA | replace hA := nrmF hA | skip) <;> (try simp only [List.length_map, cond_true, cond_false, Bool.not_eq_true', Bool.not_eq_false', beq_iff_eq, beq_eq_false_iff_ne, ne_eq] at hA)) | (refine CallP.det (name_ctr g _) ?_; conv => whnf) | (refine CallD.det (name_ctr g _) ?_; conv => whnf) | (refine CallP.det (digits6_ctr g hg _ (by omega)) ?_; conv => whnf) | (refine CallD.det (digits6_ctr g hg _ (by omega)) ?_; conv => whnf) | (refine CallP.det (part_ctr g hg _ _ _ (by omega) (by omega) (by decide)) ?_; conv => whnf) | (refine CallD.det (part_ctr g hg _ _ _ (by omega) (by omega) (by decide)) ?_; conv => whnf) | (refine CallP.upd rfl (write_ctr g _ _ (by simp only [bsz, List.size_toArray, List.length_cons, List.length_nil]; omega) (by simp only [bsz, List.size_toArray, List.length_cons, List.length_nil]; omega)) ?_; conv => whnf) | (refine CallD.upd rfl (write_ctr g _ _ (by simp only [partB, bsz, ByteArray.size_append, List.size_toArray, List.length_cons, List.length_nil]; omega) (by simp only [partB, bsz, ByteArray.size_append, List.size_toArray, List.length_cons, List.length_nil]; omega)) ?_; conv => whnf) | (refine CallP.upd rfl (byte_ctr g _ 33 (by omega)) ?_; conv => whnf) | (refine CallD.upd rfl (byte_ctr g _ 33 (by omega)) ?_; conv => whnf) | (refine DrawP.intro (X := ax g) (id := 8) B49_8 (by kernel_rfl) (by decide +kernel) ?_; conv => whnf) | (refine DrawP.intro (X := ax g) (id := 10) B49_10 (by kernel_rfl) (by decide +kernel) ?_; conv => whnf) | (refine DrawP.intro (X := ax g) (id := 12) B49_12 (by kernel_rfl) (by decide +kernel) ?_; conv => whnf) | (rw [getD_map _ _ _ _ (by assumption)]; conv => whnf))
      all_goals (refine key _ ?_)
      all_goals exact ⟨⟨rfl, rfl, (by first | (rw [show sepB p.op = ⟨#[32, 43, 32]⟩ from if_neg (by omega)]; rfl) | (rw [show sepB p.op = ⟨#[32, 59, 32]⟩ from if_pos (by omega)]; rfl)), rfl, AV.int_eq (len_int _ _), rfl, trivial⟩, ⟨fun o h => by rw [← h]; exact congrArg (fun b => some (bldO b)) (by simp_all [headB, kidsB, bnil, oneB]), ⟨fun o h => h, trivial⟩⟩⟩
    case loop =>
      intro s hs
      refine LoopP.inv (X := ax g) (fun i : Nat => ({ f := [(0, .ptr 9000 0), (3, .ptr 3 0), (4, .str (sepB p.op)), (69, .d (.sl false 4 (p.kids.map rowO4))), (70, .i64 p.kids.length), (71, .i64 i)], h := [(9000, some (bldO ((bs ++ headB p.op p.f p.n) ++ kidsB p.op (p.kids.take i) true))), (3, some (.dvar 4 (rowP4 p)))] } : St)) (fun i => i ≤ p.kids.length) (fun i => p.kids.length - i) 0 (Nat.zero_le _) hs fun i hi => ?_
      have hkb := kidsB_take hk ho hf i
      by_cases hlt : i < p.kids.length
      · have hnx := sizesP_next hlt
        have htk := sizesP_take p.kids (i + 1)
        have hpk := polB_len hk _ p.kids[i] (Nat.le_refl _) (okPols_mem ho2.2 (List.getElem_mem hlt)) (formP_kids hf hlt)
        have hstep := kidsB_next p.op hlt
        (conv => whnf)
        refine ifB_true (decide_eq_true (by omega)) ?_
        (conv => whnf)
        repeat' (first | (refine And.intro easyA ?_; conv => whnf) | (refine ifB_intro (fun hA => ?_) (fun hA => ?_) <;> (try rw [hA]) <;> (conv => whnf) <;> (first | replace hA := nrmA hA | replace hA := nrmB hA | replace hA := nrmC hA | replace hA := nrmD hA | replace hA := nrmE hA | replace hA := nrmF hA | skip) <;> (try simp only [List.length_map, cond_true, cond_false, Bool.not_eq_true', Bool.not_eq_false', beq_iff_eq, beq_eq_false_iff_ne, ne_eq] at hA)) | (rw [getD_map rowO4 p.kids i [] hlt, rowO4_at]; conv => whnf) | (refine CallP.upd rfl (write_ctr g _ _ (by simp only [ByteArray.size_append]; omega) (by omega)) ?_; conv => whnf) | (refine CallD.upd rfl (write_ctr g _ _ (by simp only [ByteArray.size_append]; omega) (by omega)) ?_; conv => whnf) | (refine CallP.upd rfl (kid_ctr g (p.kids[i]'hlt) p _ (by omega) (by simp only [ByteArray.size_append]; omega) (fun b hb => ih _ (by omega) (okPols_mem ho2.2 (List.getElem_mem hlt)) (formP_kids hf hlt) b hb)) ?_; conv => whnf) | (refine CallD.upd rfl (kid_ctr g (p.kids[i]'hlt) p _ (by omega) (by simp only [ByteArray.size_append]; omega) (fun b hb => ih _ (by omega) (okPols_mem ho2.2 (List.getElem_mem hlt)) (formP_kids hf hlt) b hb)) ?_; conv => whnf) | (rw [getD_map _ _ _ _ (by assumption)]; conv => whnf))
        all_goals
          rcases Nat.eq_zero_or_pos i with h0 | h0
          · first
              | (exfalso; omega)
              | (rw [if_pos h0, bnil] at hstep
                 exact ⟨i + 1, by omega, by omega, ⟨⟨rfl, rfl, rfl, rfl, rfl, AV.int_eq (i64_succ (by omega)), trivial⟩, ⟨fun o h => by rw [← h, hstep]; exact congrArg (fun b => some (bldO b)) (by simp only [bassoc]), ⟨fun o h => h, trivial⟩⟩⟩⟩)
          · first
              | (exfalso; omega)
              | (rw [if_neg (Nat.ne_of_gt h0)] at hstep
                 exact ⟨i + 1, by omega, by omega, ⟨⟨rfl, rfl, rfl, rfl, rfl, AV.int_eq (i64_succ (by omega)), trivial⟩, ⟨fun o h => by rw [← h, hstep]; exact congrArg (fun b => some (bldO b)) (by simp only [bassoc]), ⟨fun o h => h, trivial⟩⟩⟩⟩)
      · (conv => whnf)
        refine ifB_false (decide_eq_false (by omega)) ?_
        (conv => whnf)
        rw [polB_at, ← bassoc]
        refine ⟨⟨[(9000, some (bldO ((bs ++ headB p.op p.f p.n) ++ kidsB p.op p.kids true)))], ?_⟩⟩
        (conv => whnf)
        refine And.intro ⟨fun o h => by rw [← h, List.take_of_length_le (by omega)]; rfl, trivial⟩ ?_
        (conv => whnf)
end Go.Ax

namespace Go.Ax
open Go.Proofs
set_option maxRecDepth 10000
theorem formP_not {k : Int} {p : PolT} (h : formP k p = true) (h4 : p.op = 4) : p.kids.length = 1 := by
  rw [formP_at, if_neg (by omega), if_pos h4] at h
  simp at h
  exact h.1.1.1
theorem formP_leaf {k : Int} {p : PolT} (h : formP k p = true) (h4 : ¬p.op = 4) (h6 : ¬p.op = 6) (h7 : ¬p.op = 7) : p.kids = [] := by
  rw [formP_at] at h
  apply List.eq_nil_of_length_eq_zero
  repeat' split at h
  all_goals first | (exfalso; omega) | (simp at h; done) | (simp at h; simp [h])
end Go.Ax

namespace Go.Ax
open Go.Proofs
set_option maxRecDepth 10000
def rowB (x : ByteArray) : List D := [.v (.string x)]
def joinX (sep : ByteArray) (l : List ByteArray) : ByteArray := ⟨(Lib.join (l.map (·.data.toList)) sep.data.toList).toArray⟩
theorem joinX_nil (sep : ByteArray) : joinX sep [] = ⟨#[]⟩ := rfl
theorem joinX_one (sep x : ByteArray) : joinX sep [x] = x := by
  rw [joinX, List.map_cons, List.map_nil, Lib.join_one]
theorem joinX_snoc (sep x : ByteArray) {l : List ByteArray} (h : l ≠ []) : joinX sep (l ++ [x]) = (joinX sep l ++ sep) ++ x := by
  apply ByteArray.ext
  rw [joinX, List.map_append, List.map_cons, List.map_nil, join_snoc _ _ _ (by simpa using h), ByteArray.data_append, ByteArray.data_append]
  simp [joinX]
theorem joinX_next (sep : ByteArray) {l : List ByteArray} {i : Nat} (h : i < l.length) : joinX sep (l.take (i + 1)) = (joinX sep (l.take i) ++ (if i = 0 then ⟨#[]⟩ else sep)) ++ l[i] := by
  rw [List.take_succ_eq_append_getElem h]
  by_cases h0 : i = 0
  · subst h0
    rw [if_pos rfl, bnil, List.take_zero, List.nil_append, joinX_one, joinX_nil, nilb]
  · rw [if_neg h0, joinX_snoc]
    intro he
    have h2 : (l.take i).length = 0 := by rw [he]; rfl
    rw [List.length_take] at h2; omega
theorem joinX_len (sep : ByteArray) (c : Nat) : ∀ (n : Nat) (l : List ByteArray), l.length = n → (∀ x ∈ l, x.size ≤ c) → (joinX sep l).size ≤ (c + sep.size) * l.length
  | 0, l, hn, _ => by
    have := List.eq_nil_of_length_eq_zero hn
    subst this; rw [joinX_nil]; simp [bsz]
  | n + 1, l, hn, h => by
    have h1 := joinX_next sep (l := l) (i := n) (by omega)
    rw [List.take_of_length_le (by omega)] at h1
    have h2 := joinX_len sep c n (l.take n) (by rw [List.length_take]; omega) fun x hx => h x (List.mem_of_mem_take hx)
    have h3 := h l[n] (List.getElem_mem (by omega))
    have e : (c + sep.size) * l.length = (c + sep.size) * n + (c + sep.size) := by rw [hn, Nat.mul_succ]
    rw [h1, ByteArray.size_append, ByteArray.size_append, e]
    rw [List.length_take, Nat.min_eq_left (by omega)] at h2
    have : (if n = 0 then (⟨#[]⟩ : ByteArray) else sep).size ≤ sep.size := by
      split
      · exact Nat.zero_le _
      · exact Nat.le_refl _
    omega
theorem joinX_join (sep : ByteArray) (l : List ByteArray) : (Lib.join (l.map (·.data.toList)) sep.data.toList).length = (joinX sep l).size := by
  show _ = Array.size _
  simp []
theorem sjoin_ctr (g : GP) (r : Nat) (l : List ByteArray) (sep : ByteArray) (hl : l.length ≤ 2 ^ 40) (hs : (joinX sep l).size ≤ 2 ^ 46) : Ctr (ax g).E 65 ([.msl r l.length 0 l.length, .str sep].map (frz r 1 (l.map rowB))) [] (fun o => o = .ret (.str (joinX sep l)) []) := by
  have h := join_ctr g false l sep (by omega) (by rw [joinX_join]; omega)
  simp only [List.map_cons, List.map_nil, frz_whole r 1 l.length (l.map rowB) (by simp)]
  exact h
def andB : ByteArray := ⟨#[32, 38, 32]⟩
theorem app_row (L : List ByteArray) (x : ByteArray) : (L.map rowB) ++ [[.v (.string x)]] = (L ++ [x]).map rowB := by simp [rowB]
abbrev OkF (p : PairT) : Prop := (0 ≤ p.1 ∧ p.1 < 65536) ∧ 0 ≤ p.2 ∧ p.2 < 65536
def askG (sign : ByteArray) (p : PairT) : ByteArray := partB p.1 sign p.2
def askW (p : PairT) : ByteArray := (nameF p.1 ++ ⟨#[61]⟩) ++ digB p.2.toNat
theorem askG_len {sign : ByteArray} {p : PairT} (h : OkF p) (hs : sign.size ≤ 2) : (askG sign p).size ≤ 13 := by
  have h1 := digI_len h.1.2
  have h2 := digI_len h.2.2
  simp only [askG, partB, bsz, ByteArray.size_append, List.size_toArray, List.length_cons, List.length_nil]; omega
theorem askW_len {p : PairT} (h : OkF p) : (askW p).size ≤ 13 := by
  have h1 := name_len p.1
  have h2 := digI_len h.2.2
  simp only [askW, bsz, ByteArray.size_append, List.size_toArray, List.length_cons, List.length_nil]; omega
theorem map_next {α β : Type} (f : α → β) {l : List α} {i : Nat} (h : i < l.length) : (l.take (i + 1)).map f = (l.take i).map f ++ [f l[i]] := by
  rw [List.take_succ_eq_append_getElem h, List.map_append]; rfl
theorem buf_row (L : List ByteArray) (x : ByteArray) : some (AObj.buf 1 9 ((L.map rowB) ++ [[.v (.string x)]])) = some (AObj.buf 1 9 ((L ++ [x]).map rowB)) := by rw [app_row]
structure OkR (r : RuleT) : Prop where
  when : ∀ p ∈ r.when, OkF p
  guard : ∀ p ∈ r.guard, OkF p
  thn : ∀ p ∈ r.thn, OkF p
  lw : r.when.length ≤ 2 ^ 20
  lg : r.guard.length ≤ 2 ^ 20
  lt : r.thn.length ≤ 2 ^ 20
def asksB (r : RuleT) : List ByteArray := r.when.map askW ++ r.guard.map (askG ⟨#[61]⟩)
def makesB (r : RuleT) : List ByteArray := r.thn.map (askG ⟨#[58, 61]⟩)
def lineB (r : RuleT) : ByteArray := (((⟨#[111, 110, 32]⟩ ++ joinX andB (asksB r)) ++ ⟨#[32, 61, 62, 32]⟩) ++ joinX andB (makesB r)) ++ ⟨#[32, 46]⟩
theorem asks_len {r : RuleT} (h : OkR r) : (asksB r).length ≤ 2 ^ 21 ∧ ∀ x ∈ asksB r, x.size ≤ 13 := by
  refine ⟨by simp [asksB]; have := h.lw; have := h.lg; omega, fun x hx => ?_⟩
  rcases List.mem_append.1 hx with hx | hx
  · obtain ⟨p, hp, rfl⟩ := List.mem_map.1 hx
    exact askW_len (h.when p hp)
  · obtain ⟨p, hp, rfl⟩ := List.mem_map.1 hx
    exact askG_len (h.guard p hp) (by decide)
theorem makes_len {r : RuleT} (h : OkR r) : (makesB r).length ≤ 2 ^ 21 ∧ ∀ x ∈ makesB r, x.size ≤ 13 := by
  refine ⟨by simp [makesB]; have := h.lt; omega, fun x hx => ?_⟩
  obtain ⟨p, hp, rfl⟩ := List.mem_map.1 hx
  exact askG_len (h.thn p hp) (by decide)
theorem join_small {l : List ByteArray} (h : l.length ≤ 2 ^ 21 ∧ ∀ x ∈ l, x.size ≤ 13) : (joinX andB l).size ≤ 2 ^ 25 := by
  have h1 := joinX_len andB 13 _ l rfl h.2
  have h2 : andB.size = 3 := rfl
  rw [h2] at h1; omega
theorem lineB_len {r : RuleT} (h : OkR r) : (lineB r).size ≤ 2 ^ 27 := by
  have h1 := join_small (asks_len h)
  have h2 := join_small (makes_len h)
  simp only [lineB, bsz, ByteArray.size_append, List.size_toArray, List.length_cons, List.length_nil]; omega
theorem line_ctr (g : GP) (hg : ∀ w, g.G w → PowG w) (r : RuleT) (h : OkR r) : Ctr (ax g).E 50 [.dagg (rowR r)] [] (fun o => o = .ret (.str (lineB r)) []) := by
  have hlw := h.lw; have hlg := h.lg; have hlt := h.lt
  refine Ctr.body (X := ax g) _ 70 [] [.tmp 2] Tryz.func50 rfl rfl rfl rfl (by decide +kernel) rfl rfl ?_
  conv => whnf
  repeat' (first | (refine And.intro easyA ?_; conv => whnf) | (refine ifB_intro (fun hA => ?_) (fun hA => ?_) <;> (try rw [hA]) <;> (conv => whnf) <;> (first | replace hA := nrmA hA | replace hA := nrmB hA | replace hA := nrmC hA | replace hA := nrmD hA | replace hA := nrmE hA | replace hA := nrmF hA | skip) <;> (try simp only [List.length_map, cond_true, cond_false, Bool.not_eq_true', Bool.not_eq_false', beq_iff_eq, beq_eq_false_iff_ne, ne_eq] at hA)) | (rw [getD_map _ _ _ _ (by assumption)]; conv => whnf))
  refine LoopP.own 3 100 1 9 rfl rfl rfl ?_
  refine LoopP.own 4 101 1 9 rfl rfl rfl ?_
  refine LoopP.inv (X := ax g) (fun i : Nat => { f := [(1, .ptr 1 0), (3, .msl 100 i 0 i), (4, .msl 101 0 0 0), (12, .d (.sl false 2 (r.when.map rowF))), (13, .i64 r.when.length), (14, .i64 i)], h := [(100, some (.buf 1 9 (((r.when.take i).map askW).map rowB))), (101, some (.buf 1 9 [])), (1, some (.dvar 3 (rowR r)))] }) (fun i => i ≤ r.when.length) (fun i => r.when.length - i) 0 (Nat.zero_le _) ⟨⟨rfl, rfl, rfl, rfl, AV.int_eq (len_int _ _), rfl, trivial⟩, ⟨fun o h => h, fun o h => h, fun o h => h, trivial⟩⟩ fun i hi => ?_
  have hti : (((r.when.take i).map askW).map rowB).length = i := by simp; omega
  by_cases hlt : i < r.when.length
  · obtain ⟨⟨o1, o2⟩, o3, o4⟩ := h.when _ (List.getElem_mem hlt)
    have h1 := name_len r.when[i].1
    have h2 := digI_len o4
    conv => whnf
    refine ifB_true (decide_eq_true (by omega)) ?_
    conv => whnf
    repeat' (first | (refine And.intro easyA ?_; conv => whnf) | (refine ifB_intro (fun hA => ?_) (fun hA => ?_) <;> (try rw [hA]) <;> (conv => whnf) <;> (first | replace hA := nrmA hA | replace hA := nrmB hA | replace hA := nrmC hA | replace hA := nrmD hA | replace hA := nrmE hA | replace hA := nrmF hA | skip) <;> (try simp only [List.length_map, cond_true, cond_false, Bool.not_eq_true', Bool.not_eq_false', beq_iff_eq, beq_eq_false_iff_ne, ne_eq] at hA)) | (refine DrawP.intro (X := ax g) (id := 5) B50_5 (by kernel_rfl) (by decide +kernel) ?_; conv => whnf) | (rw [getD_map rowF r.when i [] hlt]; conv => whnf) | (refine CallP.det (name_ctr g _) ?_; conv => whnf) | (refine CallD.det (name_ctr g _) ?_; conv => whnf) | (refine CallP.det (digits6_ctr g hg _ ⟨o3, o4⟩) ?_; conv => whnf) | (refine CallD.det (digits6_ctr g hg _ ⟨o3, o4⟩) ?_; conv => whnf) | (refine And.intro (by simp only [bsz, ByteArray.size_append, List.size_toArray, List.length_cons, List.length_nil]; omega) ?_; conv => whnf) | (rw [getD_map _ _ _ _ (by assumption)]; conv => whnf))
    exact ⟨i + 1, by omega, by omega, ⟨⟨rfl, msl_eq (by show _ + 1 = i + 1; rw [hti]), rfl, rfl, rfl, AV.int_eq (i64_succ (by omega)), trivial⟩, ⟨fun o h => by rw [← h, map_next _ hlt]; exact buf_row _ _, fun o h => h, fun o h => h, trivial⟩⟩⟩
  · have hi2 : i = r.when.length := by omega
    conv => whnf
    refine ifB_false (decide_eq_false (by omega)) ?_
    conv => whnf
    repeat' (first | (refine And.intro easyA ?_; conv => whnf) | (refine ifB_intro (fun hA => ?_) (fun hA => ?_) <;> (try rw [hA]) <;> (conv => whnf) <;> (first | replace hA := nrmA hA | replace hA := nrmB hA | replace hA := nrmC hA | replace hA := nrmD hA | replace hA := nrmE hA | replace hA := nrmF hA | skip) <;> (try simp only [List.length_map, cond_true, cond_false, Bool.not_eq_true', Bool.not_eq_false', beq_iff_eq, beq_eq_false_iff_ne, ne_eq] at hA)) | (rw [getD_map _ _ _ _ (by assumption)]; conv => whnf))
    subst hi2
    rw [List.take_length] at hti ⊢
    clear hti hlt hi
    refine LoopP.inv (X := ax g) (fun i : Nat => { f := [(1, .ptr 1 0), (3, .msl 100 (r.when.length + i) 0 (r.when.length + i)), (4, .msl 101 0 0 0), (31, .d (.sl false 2 (r.guard.map rowF))), (32, .i64 r.guard.length), (33, .i64 i)], h := [(100, some (.buf 1 9 ((r.when.map askW ++ (r.guard.take i).map (askG ⟨#[61]⟩)).map rowB))), (101, some (.buf 1 9 [])), (1, some (.dvar 3 (rowR r)))] }) (fun i => i ≤ r.guard.length) (fun i => r.guard.length - i) 0 (Nat.zero_le _) ⟨⟨rfl, rfl, rfl, rfl, AV.int_eq (len_int _ _), rfl, trivial⟩, ⟨fun o h => by rw [← h, List.take_zero, List.map_nil, List.append_nil]; rfl, fun o h => h, fun o h => h, trivial⟩⟩ fun i hi => ?_
    have hti : ((r.when.map askW ++ (r.guard.take i).map (askG ⟨#[61]⟩)).map rowB).length = r.when.length + i := by simp; omega
    by_cases hlt : i < r.guard.length
    · obtain ⟨o12, o34⟩ := h.guard _ (List.getElem_mem hlt)
      conv => whnf
      refine ifB_true (decide_eq_true (by omega)) ?_
      conv => whnf
      repeat' (first | (refine And.intro easyA ?_; conv => whnf) | (refine ifB_intro (fun hA => ?_) (fun hA => ?_) <;> (try rw [hA]) <;> (conv => whnf) <;> (first | replace hA := nrmA hA | replace hA := nrmB hA | replace hA := nrmC hA | replace hA := nrmD hA | replace hA := nrmE hA | replace hA := nrmF hA | skip) <;> (try simp only [List.length_map, cond_true, cond_false, Bool.not_eq_true', Bool.not_eq_false', beq_iff_eq, beq_eq_false_iff_ne, ne_eq] at hA)) | (rw [getD_map rowF r.guard i [] hlt]; conv => whnf) | (refine CallP.det (part_ctr g hg _ _ _ o12 o34 (by decide)) ?_; conv => whnf) | (refine CallD.det (part_ctr g hg _ _ _ o12 o34 (by decide)) ?_; conv => whnf) | (rw [getD_map _ _ _ _ (by assumption)]; conv => whnf))
      exact ⟨i + 1, by omega, by omega, ⟨⟨rfl, msl_eq (by show _ + 1 = _ + (i + 1); rw [hti]; omega), rfl, rfl, rfl, AV.int_eq (i64_succ (by omega)), trivial⟩, ⟨fun o h => by rw [← h, map_next _ hlt, ← List.append_assoc]; exact buf_row _ _, fun o h => h, fun o h => h, trivial⟩⟩⟩
    · have hi2 : i = r.guard.length := by omega
      conv => whnf
      refine ifB_false (decide_eq_false (by omega)) ?_
      conv => whnf
      repeat' (first | (refine And.intro easyA ?_; conv => whnf) | (refine ifB_intro (fun hA => ?_) (fun hA => ?_) <;> (try rw [hA]) <;> (conv => whnf) <;> (first | replace hA := nrmA hA | replace hA := nrmB hA | replace hA := nrmC hA | replace hA := nrmD hA | replace hA := nrmE hA | replace hA := nrmF hA | skip) <;> (try simp only [List.length_map, cond_true, cond_false, Bool.not_eq_true', Bool.not_eq_false', beq_iff_eq, beq_eq_false_iff_ne, ne_eq] at hA)) | (rw [getD_map _ _ _ _ (by assumption)]; conv => whnf))
      subst hi2
      rw [List.take_length] at hti ⊢
      have hal : r.when.length + r.guard.length = (asksB r).length := by simp [asksB]
      have has : r.when.map askW ++ r.guard.map (askG ⟨#[61]⟩) = asksB r := rfl
      rw [has] at hti ⊢
      rw [hal]
      clear hti hlt hi has
      refine LoopP.inv (X := ax g) (fun i : Nat => { f := [(3, .msl 100 (asksB r).length 0 (asksB r).length), (4, .msl 101 i 0 i), (47, .d (.sl false 2 (r.thn.map rowF))), (48, .i64 r.thn.length), (49, .i64 i)], h := [(100, some (.buf 1 9 ((asksB r).map rowB))), (101, some (.buf 1 9 (((r.thn.take i).map (askG ⟨#[58, 61]⟩)).map rowB)))] }) (fun i => i ≤ r.thn.length) (fun i => r.thn.length - i) 0 (Nat.zero_le _) ⟨⟨rfl, rfl, rfl, AV.int_eq (len_int _ _), rfl, trivial⟩, ⟨fun o h => h, fun o h => h, trivial⟩⟩ fun i hi => ?_
      have hti : (((r.thn.take i).map (askG ⟨#[58, 61]⟩)).map rowB).length = i := by simp; omega
      by_cases hlt : i < r.thn.length
      · obtain ⟨o12, o34⟩ := h.thn _ (List.getElem_mem hlt)
        conv => whnf
        refine ifB_true (decide_eq_true (by omega)) ?_
        conv => whnf
        repeat' (first | (refine And.intro easyA ?_; conv => whnf) | (refine ifB_intro (fun hA => ?_) (fun hA => ?_) <;> (try rw [hA]) <;> (conv => whnf) <;> (first | replace hA := nrmA hA | replace hA := nrmB hA | replace hA := nrmC hA | replace hA := nrmD hA | replace hA := nrmE hA | replace hA := nrmF hA | skip) <;> (try simp only [List.length_map, cond_true, cond_false, Bool.not_eq_true', Bool.not_eq_false', beq_iff_eq, beq_eq_false_iff_ne, ne_eq] at hA)) | (rw [getD_map rowF r.thn i [] hlt]; conv => whnf) | (refine CallP.det (part_ctr g hg _ _ _ o12 o34 (by decide)) ?_; conv => whnf) | (refine CallD.det (part_ctr g hg _ _ _ o12 o34 (by decide)) ?_; conv => whnf) | (rw [getD_map _ _ _ _ (by assumption)]; conv => whnf))
        exact ⟨i + 1, by omega, by omega, ⟨⟨rfl, msl_eq (by show _ + 1 = i + 1; rw [hti]), rfl, rfl, AV.int_eq (i64_succ (by omega)), trivial⟩, ⟨fun o h => h, fun o h => by rw [← h, map_next _ hlt]; exact buf_row _ _, trivial⟩⟩⟩
      · have hi2 : i = (makesB r).length := by simp [makesB]; omega
        have hmk : (r.thn.take i).map (askG ⟨#[58, 61]⟩) = makesB r := by rw [List.take_of_length_le (by omega)]; rfl
        have j1 := join_small (asks_len h)
        have j2 := join_small (makes_len h)
        have l1 := (asks_len h).1
        have l2 := (makes_len h).1
        rw [hmk, hi2]
        conv => whnf
        refine ifB_false (decide_eq_false (by simp [makesB])) ?_
        conv => whnf
        repeat' (first | (refine And.intro easyA ?_; conv => whnf) | (refine ifB_intro (fun hA => ?_) (fun hA => ?_) <;> (try rw [hA]) <;> (conv => whnf) <;> (first | replace hA := nrmA hA | replace hA := nrmB hA | replace hA := nrmC hA | replace hA := nrmD hA | replace hA := nrmE hA | replace hA := nrmF hA | skip) <;> (try simp only [List.length_map, cond_true, cond_false, Bool.not_eq_true', Bool.not_eq_false', beq_iff_eq, beq_eq_false_iff_ne, ne_eq] at hA)) | (rw [getD_map _ _ _ _ (by assumption)]; conv => whnf))
        refine CallP.give 100 1 9 ((asksB r).map rowB) rfl (sjoin_ctr g 100 (asksB r) andB (by omega) (by omega)) ?_
        conv => whnf
        repeat' (first | (refine And.intro easyA ?_; conv => whnf) | (refine ifB_intro (fun hA => ?_) (fun hA => ?_) <;> (try rw [hA]) <;> (conv => whnf) <;> (first | replace hA := nrmA hA | replace hA := nrmB hA | replace hA := nrmC hA | replace hA := nrmD hA | replace hA := nrmE hA | replace hA := nrmF hA | skip) <;> (try simp only [List.length_map, cond_true, cond_false, Bool.not_eq_true', Bool.not_eq_false', beq_iff_eq, beq_eq_false_iff_ne, ne_eq] at hA)) | (refine And.intro (by simp only [bsz, ByteArray.size_append, List.size_toArray, List.length_cons, List.length_nil]; omega) ?_; conv => whnf) | (rw [getD_map _ _ _ _ (by assumption)]; conv => whnf))
        refine CallP.give 101 1 9 ((makesB r).map rowB) rfl (sjoin_ctr g 101 (makesB r) andB (by omega) (by omega)) ?_
        conv => whnf
        repeat' (first | (refine And.intro easyA ?_; conv => whnf) | (refine ifB_intro (fun hA => ?_) (fun hA => ?_) <;> (try rw [hA]) <;> (conv => whnf) <;> (first | replace hA := nrmA hA | replace hA := nrmB hA | replace hA := nrmC hA | replace hA := nrmD hA | replace hA := nrmE hA | replace hA := nrmF hA | skip) <;> (try simp only [List.length_map, cond_true, cond_false, Bool.not_eq_true', Bool.not_eq_false', beq_iff_eq, beq_eq_false_iff_ne, ne_eq] at hA)) | (refine And.intro (by simp only [bsz, ByteArray.size_append, List.size_toArray, List.length_cons, List.length_nil]; omega) ?_; conv => whnf) | (rw [getD_map _ _ _ _ (by assumption)]; conv => whnf))
        refine ⟨⟨[], ?_⟩⟩
        conv => whnf
        rfl
end Go.Ax

namespace Go.Ax
open Go.Proofs
set_option maxRecDepth 10000
structure TypR (r : RuleT) : Prop where
  when : ∀ p ∈ r.when, 0 ≤ p.2 ∧ p.2 < 65536
  guard : ∀ p ∈ r.guard, 0 ≤ p.2 ∧ p.2 < 65536
  thn : ∀ p ∈ r.thn, 0 ≤ p.2 ∧ p.2 < 65536
  lw : r.when.length ≤ 2 ^ 20
  lg : r.guard.length ≤ 2 ^ 20
  lt : r.thn.length ≤ 2 ^ 20
structure OkG (x : ProgT) : Prop where
  init : ∀ n ∈ x.init, 0 ≤ n ∧ n < 65536
  il : x.init.length ≤ 2 ^ 20
  pol : okPol x.pol
  ps : sizeP x.pol ≤ 2 ^ 20
  rules : ∀ r ∈ x.rules, TypR r
  rl : x.rules.length ≤ 2 ^ 20
theorem OkG.small {x : ProgT} (h : OkG x) : SmallG x :=
  ⟨by have := h.il; omega, by have := h.ps; omega, by have := h.rl; omega, fun r hr => ⟨by have := (h.rules r hr).lw; omega, by have := (h.rules r hr).lg; omega, by have := (h.rules r hr).lt; omega⟩⟩
theorem risesF_at {b : Int} {l : List PairT} (h : risesF b l = true) {p : PairT} (hp : p ∈ l) : 0 ≤ p.1 ∧ p.1 < b := by
  obtain ⟨i, hi, rfl⟩ := List.mem_iff_getElem.1 hp
  have := alln_at h hi
  simp [risesAt, List.getD, hi] at this
  omega
theorem ruleOk_split {k : Int} {r : RuleT} (h : ruleOk k r = true) : risesF 8 r.when = true ∧ risesF k r.guard = true ∧ risesF k r.thn = true := by
  simp [ruleOk] at h
  exact ⟨h.1.1.1.2, h.1.1.2, h.1.2⟩
theorem OkR.of {k : Int} {r : RuleT} (hk : k ≤ 60000) (ht : TypR r) (h : ruleOk k r = true) : OkR r := by
  obtain ⟨h1, h2, h3⟩ := ruleOk_split h
  exact ⟨fun p hp => ⟨by have := risesF_at h1 hp; omega, ht.when p hp⟩, fun p hp => ⟨by have := risesF_at h2 hp; omega, ht.guard p hp⟩, fun p hp => ⟨by have := risesF_at h3 hp; omega, ht.thn p hp⟩, ht.lw, ht.lg, ht.lt⟩
theorem check_zero {x : ProgT} (h : checkP x = 0) : (1 ≤ x.init.length ∧ x.init.length ≤ 4) ∧ sizeP x.pol ≤ 300 ∧ formP x.init.length x.pol = true ∧ ∀ r ∈ x.rules, ruleOk x.init.length r = true := by
  unfold checkP at h
  split at h
  · exact absurd h (by decide)
  · split at h
    · exact absurd h (by decide)
    · rename_i h1 h2
      split at h
      · rename_i h3
        exact ⟨by omega, by omega, by simpa using h2, List.all_eq_true.1 h3⟩
      · exact absurd h (by decide)
def polG (p : PolT) : ProgT := ⟨[0, 0, 0, 0], p, []⟩
theorem okPolG {p : PolT} (h : okPol p) (hs : sizeP p ≤ 2 ^ 20) : OkG (polG p) :=
  ⟨by simp [polG], by simp [polG], h, hs, by simp [polG], by simp [polG]⟩
def showPF (p : PolT) : ByteArray := if checkP (polG p) = 0 then polB p else ⟨#[]⟩
theorem showpol_ctr (g : GP) (hg : ∀ w, g.G w → PowG w) (p : PolT) (ho : okPol p) (hs : sizeP p ≤ 2 ^ 20) : Ctr (ax g).E 45 [.dagg (rowP4 p)] [] (fun o => o = .ret (.str (showPF p)) []) := by
  have hc := (check5_ctr g (polG p) (okPolG ho hs).small).le1 (xs := [.sl false 1 zero4, .i64 p.op, .i64 p.f, .u16 p.n, .sl false 4 (p.kids.map rowO4), .v (.slice none 0 0)]) ⟨.inl rfl, .inl rfl, .inl rfl, .inl rfl, .inl rfl, .inr (.inl ⟨rfl, false, 3, rfl⟩), trivial⟩
  refine Ctr.body (X := ax g) _ 13 [] [.tmp 2] Tryz.func45 rfl rfl rfl rfl (by decide +kernel) rfl rfl ?_
  conv => whnf
  repeat' (first | (refine And.intro easyA ?_; conv => whnf) | (refine ifB_intro (fun hA => ?_) (fun hA => ?_) <;> (try rw [hA]) <;> (conv => whnf) <;> (first | replace hA := nrmA hA | replace hA := nrmB hA | replace hA := nrmC hA | replace hA := nrmD hA | replace hA := nrmE hA | replace hA := nrmF hA | skip) <;> (try simp only [ne_eq] at hA)) | (refine CallP.det (any_ctr g _ _ _ _ _ _) ?_; conv => whnf) | (refine CallD.det (any_ctr g _ _ _ _ _ _) ?_; conv => whnf) | (refine CallP.det (hc) ?_; conv => whnf) | (refine CallD.det (hc) ?_; conv => whnf) | (rw [getD_map _ _ _ _ (by assumption)]; conv => whnf))
  · refine ⟨⟨[], ?_⟩⟩
    conv => whnf
    rw [showPF, if_neg (by simpa using hA)]
  · have hz : checkP (polG p) = 0 := by simpa using hA
    obtain ⟨_, h300, hf, _⟩ := check_zero hz
    have hp := pol_ctr g hg _ (by simp [polG]) _ p (Nat.le_refl _) ho hf ⟨#[]⟩ (by simp [bsz]; omega)
    rw [nilb] at hp
    have hp2 := (Ctr.fromNew bldT110 hp).swap 9000 3
    repeat' (first | (refine And.intro easyA ?_; conv => whnf) | (refine ifB_intro (fun hA => ?_) (fun hA => ?_) <;> (try rw [hA]) <;> (conv => whnf) <;> (first | replace hA := nrmA hA | replace hA := nrmB hA | replace hA := nrmC hA | replace hA := nrmD hA | replace hA := nrmE hA | replace hA := nrmF hA | skip) <;> (try simp only [List.length_map, cond_true, cond_false, Bool.not_eq_true', Bool.not_eq_false', beq_iff_eq, beq_eq_false_iff_ne, ne_eq] at hA)) | (refine CallP.upd rfl (hp2) ?_; conv => whnf) | (refine CallD.upd rfl (hp2) ?_; conv => whnf) | (rw [getD_map _ _ _ _ (by assumption)]; conv => whnf))
    refine CallP.ends rfl (string3 g _) ?_
    conv => whnf
    repeat' (first | (refine And.intro easyA ?_; conv => whnf) | (refine ifB_intro (fun hA => ?_) (fun hA => ?_) <;> (try rw [hA]) <;> (conv => whnf) <;> (first | replace hA := nrmA hA | replace hA := nrmB hA | replace hA := nrmC hA | replace hA := nrmD hA | replace hA := nrmE hA | replace hA := nrmF hA | skip) <;> (try simp only [List.length_map, cond_true, cond_false, Bool.not_eq_true', Bool.not_eq_false', beq_iff_eq, beq_eq_false_iff_ne, ne_eq] at hA)) | (rw [getD_map _ _ _ _ (by assumption)]; conv => whnf))
    refine ⟨⟨[], ?_⟩⟩
    conv => whnf
    rw [showPF, if_pos hz]
end Go.Ax

namespace Go.Ax
open Go.Proofs
set_option maxRecDepth 10000
def initB : ByteArray := ⟨#[105, 110, 105, 116]⟩
def policyB : ByteArray := ⟨#[32, 46, 10, 112, 111, 108, 105, 99, 121, 32]⟩
def rlB (b : ByteArray) (r : RuleT) : ByteArray := b ++ (lineB r ++ ⟨#[10]⟩)
def headG (x : ProgT) : ByteArray := ((x.init.foldl swB initB ++ policyB) ++ polB x.pol) ++ dotB
def progB (x : ProgT) : ByteArray := x.rules.foldl rlB (headG x)
def showGF (x : ProgT) : ByteArray := if checkP x = 0 then progB x else ⟨#[]⟩
theorem rlB_size {r : RuleT} (h : OkR r) (b : ByteArray) : (rlB b r).size ≤ b.size + 2 ^ 28 := by
  have := lineB_len h
  simp only [rlB, bsz, ByteArray.size_append, List.size_toArray, List.length_cons, List.length_nil]; omega
theorem init_size {l : List Int} (h : ∀ n ∈ l, 0 ≤ n ∧ n < 65536) (hl : l.length ≤ 2 ^ 20) (i : Nat) : ((l.take i).foldl swB initB).size ≤ 2 ^ 23 := by
  have h1 := foldl_size swB 6 (l.take i) initB fun n hn b => swB_size (h n (List.mem_of_mem_take hn)) b
  have h2 : (l.take i).length ≤ l.length := by simp; omega
  have h3 : initB.size = 4 := rfl
  omega
theorem check_rules {x : ProgT} (h : checkP x = 0) : x.rules.length ≤ 24 := by
  unfold checkP at h
  split at h
  · exact absurd h (by decide)
  · omega
theorem rules_size {l : List RuleT} {b : ByteArray} (hb : b.size ≤ 2 ^ 24) (h : ∀ r ∈ l, OkR r) (hl : l.length ≤ 24) (i : Nat) : ((l.take i).foldl rlB b).size ≤ 2 ^ 34 := by
  have h1 := foldl_size rlB (2 ^ 28) (l.take i) b fun r hr c => rlB_size (h r (List.mem_of_mem_take hr)) c
  have h2 : (l.take i).length ≤ l.length := by simp; omega
  omega
theorem showprog_ctr (g : GP) (hg : ∀ w, g.G w → PowG w) (x : ProgT) (ho : OkG x) : Ctr (ax g).E 13 [.dagg (rowG x)] [] (fun o => o = .ret (.str (showGF x)) []) := by
  have hc := check5_ctr g x ho.small
  have hil := ho.il
  have hrl := ho.rl
  refine Ctr.body (X := ax g) _ 48 [] [.tmp 2] Tryz.func13 rfl rfl rfl rfl (by decide +kernel) rfl rfl ?_
  conv => whnf
  repeat' (first | (refine And.intro easyA ?_; conv => whnf) | (refine ifB_intro (fun hA => ?_) (fun hA => ?_) <;> (try rw [hA]) <;> (conv => whnf) <;> (first | replace hA := nrmA hA | replace hA := nrmB hA | replace hA := nrmC hA | replace hA := nrmD hA | replace hA := nrmE hA | replace hA := nrmF hA | skip) <;> (try simp only [ne_eq] at hA)) | (refine CallP.det (hc) ?_; conv => whnf) | (refine CallD.det (hc) ?_; conv => whnf) | (rw [getD_map _ _ _ _ (by assumption)]; conv => whnf))
  · refine ⟨⟨[], ?_⟩⟩
    conv => whnf
    rw [showGF, if_neg (by simpa using hA)]
  · have hz : checkP x = 0 := by simpa using hA
    obtain ⟨hk, h300, hf, hr⟩ := check_zero hz
    have hr2 : ∀ r ∈ x.rules, OkR r := fun r hm => .of (by omega) (ho.rules r hm) (hr r hm)
    have hpl := polB_len (by omega) _ x.pol (Nat.le_refl _) ho.pol hf
    have w0 := (Ctr.fromNew bldT110 (write_ctr g ⟨#[]⟩ initB (by decide) (by decide))).swap 9000 3
    rw [nilb] at w0
    repeat' (first | (refine And.intro easyA ?_; conv => whnf) | (refine ifB_intro (fun hA => ?_) (fun hA => ?_) <;> (try rw [hA]) <;> (conv => whnf) <;> (first | replace hA := nrmA hA | replace hA := nrmB hA | replace hA := nrmC hA | replace hA := nrmD hA | replace hA := nrmE hA | replace hA := nrmF hA | skip) <;> (try simp only [List.length_map, cond_true, cond_false, Bool.not_eq_true', Bool.not_eq_false', beq_iff_eq, beq_eq_false_iff_ne, ne_eq] at hA)) | (refine CallP.upd rfl (w0) ?_; conv => whnf) | (refine CallD.upd rfl (w0) ?_; conv => whnf) | (rw [getD_map _ _ _ _ (by assumption)]; conv => whnf))
    refine LoopP.inv (X := ax g) (fun i : Nat => { f := [(1, .ptr 1 0), (2, .str ⟨#[]⟩), (3, .ptr 3 0), (14, .d (.sl false 1 (x.init.map rowS))), (15, .i64 x.init.length), (16, .i64 i)], h := [(1, some (.dvar 6 (rowG x))), (3, some (bldO ((x.init.take i).foldl swB initB)))] }) (fun i => i ≤ x.init.length) (fun i => x.init.length - i) 0 (Nat.zero_le _) ⟨⟨rfl, rfl, rfl, rfl, AV.int_eq (len_int _ _), rfl, trivial⟩, ⟨fun o h => h, fun o h => h, trivial⟩⟩ fun i hi => ?_
    have hz0 := init_size ho.init hil i
    by_cases hlt : i < x.init.length
    · have hn := ho.init _ (List.getElem_mem hlt)
      have hd := digI_len hn.2
      conv => whnf
      refine ifB_true (decide_eq_true (by omega)) ?_
      conv => whnf
      repeat' (first | (refine And.intro easyA ?_; conv => whnf) | (refine ifB_intro (fun hA => ?_) (fun hA => ?_) <;> (try rw [hA]) <;> (conv => whnf) <;> (first | replace hA := nrmA hA | replace hA := nrmB hA | replace hA := nrmC hA | replace hA := nrmD hA | replace hA := nrmE hA | replace hA := nrmF hA | skip) <;> (try simp only [List.length_map, cond_true, cond_false, Bool.not_eq_true', Bool.not_eq_false', beq_iff_eq, beq_eq_false_iff_ne, ne_eq] at hA)) | (rw [getD_map rowS x.init i [] hlt]; conv => whnf) | (refine CallP.det (digits6_ctr g hg _ hn) ?_; conv => whnf) | (refine CallD.det (digits6_ctr g hg _ hn) ?_; conv => whnf) | (refine And.intro (by simp only [bsz, ByteArray.size_append, List.size_toArray, List.length_cons, List.length_nil]; omega) ?_; conv => whnf) | (refine CallP.upd rfl (write3 g _ _ (by simp only [bsz, ByteArray.size_append, List.size_toArray, List.length_cons, List.length_nil]; omega) (by simp only [bsz, ByteArray.size_append, List.size_toArray, List.length_cons, List.length_nil]; omega)) ?_; conv => whnf) | (refine CallD.upd rfl (write3 g _ _ (by simp only [bsz, ByteArray.size_append, List.size_toArray, List.length_cons, List.length_nil]; omega) (by simp only [bsz, ByteArray.size_append, List.size_toArray, List.length_cons, List.length_nil]; omega)) ?_; conv => whnf) | (rw [getD_map _ _ _ _ (by assumption)]; conv => whnf))
      exact ⟨i + 1, by omega, by omega, ⟨⟨rfl, rfl, rfl, rfl, rfl, AV.int_eq (i64_succ (by omega)), trivial⟩, ⟨fun o h => h, fun o h => by rw [← h, foldl_next swB initB x.init i hlt]; rfl, trivial⟩⟩⟩
    · have hi2 : i = x.init.length := by omega
      subst hi2
      rw [List.take_length] at hz0 ⊢
      have hp := (pol_ctr g hg _ (show (x.init.length : Int) ≤ 60000 by omega) _ x.pol (Nat.le_refl _) ho.pol hf (x.init.foldl swB initB ++ policyB) (by rw [ByteArray.size_append]; have : policyB.size = 10 := rfl; omega)).swap 9000 3
      have hhd : (headG x).size ≤ 2 ^ 24 := by
        simp only [headG, ByteArray.size_append]
        have : policyB.size = 10 := rfl
        have : dotB.size = 3 := rfl
        omega
      conv => whnf
      refine ifB_false (decide_eq_false (by omega)) ?_
      conv => whnf
      repeat' (first | (refine And.intro easyA ?_; conv => whnf) | (refine ifB_intro (fun hA => ?_) (fun hA => ?_) <;> (try rw [hA]) <;> (conv => whnf) <;> (first | replace hA := nrmA hA | replace hA := nrmB hA | replace hA := nrmC hA | replace hA := nrmD hA | replace hA := nrmE hA | replace hA := nrmF hA | skip) <;> (try simp only [List.length_map, cond_true, cond_false, Bool.not_eq_true', Bool.not_eq_false', beq_iff_eq, beq_eq_false_iff_ne, ne_eq] at hA)) | (refine CallP.upd rfl (write3 g _ policyB (by have : policyB.size = 10 := rfl; omega) (by decide)) ?_; conv => whnf) | (refine CallD.upd rfl (write3 g _ policyB (by have : policyB.size = 10 := rfl; omega) (by decide)) ?_; conv => whnf) | (refine CallP.upd rfl (hp) ?_; conv => whnf) | (refine CallD.upd rfl (hp) ?_; conv => whnf) | (refine CallP.upd rfl (write3 g _ dotB (by simp only [headG, ByteArray.size_append] at hhd ⊢; omega) (by decide)) ?_; conv => whnf) | (refine CallD.upd rfl (write3 g _ dotB (by simp only [headG, ByteArray.size_append] at hhd ⊢; omega) (by decide)) ?_; conv => whnf) | (rw [getD_map _ _ _ _ (by assumption)]; conv => whnf))
      have hrl := check_rules hz
      refine LoopP.inv (X := ax g) (fun i : Nat => { f := [(1, .ptr 1 0), (2, .str ⟨#[]⟩), (3, .ptr 3 0), (34, .d (.sl false 3 (x.rules.map rowR))), (35, .i64 x.rules.length), (36, .i64 i)], h := [(3, some (bldO ((x.rules.take i).foldl rlB (headG x))))] }) (fun i => i ≤ x.rules.length) (fun i => x.rules.length - i) 0 (Nat.zero_le _) ⟨⟨rfl, rfl, rfl, rfl, AV.int_eq (len_int _ _), rfl, trivial⟩, ⟨fun o h => h, trivial⟩⟩ fun i hi => ?_
      have hz1 := rules_size hhd hr2 hrl i
      by_cases hlt : i < x.rules.length
      · have hl := hr2 _ (List.getElem_mem hlt)
        have hll := lineB_len hl
        conv => whnf
        refine ifB_true (decide_eq_true (by omega)) ?_
        conv => whnf
        repeat' (first | (refine And.intro easyA ?_; conv => whnf) | (refine ifB_intro (fun hA => ?_) (fun hA => ?_) <;> (try rw [hA]) <;> (conv => whnf) <;> (first | replace hA := nrmA hA | replace hA := nrmB hA | replace hA := nrmC hA | replace hA := nrmD hA | replace hA := nrmE hA | replace hA := nrmF hA | skip) <;> (try simp only [List.length_map, cond_true, cond_false, Bool.not_eq_true', Bool.not_eq_false', beq_iff_eq, beq_eq_false_iff_ne, ne_eq] at hA)) | (rw [getD_map rowR x.rules i [] hlt]; conv => whnf) | (refine CallP.det (line_ctr g hg _ hl) ?_; conv => whnf) | (refine CallD.det (line_ctr g hg _ hl) ?_; conv => whnf) | (refine And.intro (by simp only [bsz, ByteArray.size_append, List.size_toArray, List.length_cons, List.length_nil]; omega) ?_; conv => whnf) | (refine CallP.upd rfl (write3 g _ _ (by simp only [bsz, ByteArray.size_append, List.size_toArray, List.length_cons, List.length_nil]; omega) (by simp only [bsz, ByteArray.size_append, List.size_toArray, List.length_cons, List.length_nil]; omega)) ?_; conv => whnf) | (refine CallD.upd rfl (write3 g _ _ (by simp only [bsz, ByteArray.size_append, List.size_toArray, List.length_cons, List.length_nil]; omega) (by simp only [bsz, ByteArray.size_append, List.size_toArray, List.length_cons, List.length_nil]; omega)) ?_; conv => whnf) | (rw [getD_map _ _ _ _ (by assumption)]; conv => whnf))
        exact ⟨i + 1, by omega, by omega, ⟨⟨rfl, rfl, rfl, rfl, rfl, AV.int_eq (i64_succ (by omega)), trivial⟩, ⟨fun o h => by rw [← h, foldl_next rlB (headG x) x.rules i hlt]; rfl, trivial⟩⟩⟩
      · conv => whnf
        refine ifB_false (decide_eq_false (by omega)) ?_
        conv => whnf
        repeat' (first | (refine And.intro easyA ?_; conv => whnf) | (refine ifB_intro (fun hA => ?_) (fun hA => ?_) <;> (try rw [hA]) <;> (conv => whnf) <;> (first | replace hA := nrmA hA | replace hA := nrmB hA | replace hA := nrmC hA | replace hA := nrmD hA | replace hA := nrmE hA | replace hA := nrmF hA | skip) <;> (try simp only [List.length_map, cond_true, cond_false, Bool.not_eq_true', Bool.not_eq_false', beq_iff_eq, beq_eq_false_iff_ne, ne_eq] at hA)) | (rw [getD_map _ _ _ _ (by assumption)]; conv => whnf))
        refine CallP.ends rfl (string3 g _) ?_
        conv => whnf
        repeat' (first | (refine And.intro easyA ?_; conv => whnf) | (refine ifB_intro (fun hA => ?_) (fun hA => ?_) <;> (try rw [hA]) <;> (conv => whnf) <;> (first | replace hA := nrmA hA | replace hA := nrmB hA | replace hA := nrmC hA | replace hA := nrmD hA | replace hA := nrmE hA | replace hA := nrmF hA | skip) <;> (try simp only [List.length_map, cond_true, cond_false, Bool.not_eq_true', Bool.not_eq_false', beq_iff_eq, beq_eq_false_iff_ne, ne_eq] at hA)) | (rw [getD_map _ _ _ _ (by assumption)]; conv => whnf))
        refine ⟨⟨[], ?_⟩⟩
        conv => whnf
        rw [showGF, if_pos hz, progB, List.take_of_length_le (by omega)]
end Go.Ax

namespace Go.Ax
open Go.Proofs Go.Lib
set_option maxRecDepth 10000
def aP1 : PolT := .mk 2 3 2 []
def aP2 : PolT := .mk 5 1 1 []
def aP : PolT := .mk 6 0 0 [aP1, aP2]
def aG : ProgT := ⟨[0], aP, []⟩
def aRow : List D := [.i64 6, .i64 0, .u16 0, .sl true 4 [zrow 2 3 2, zrow 5 1 1]]
theorem aRow_le : RowL aRow (rowP4 aP) :=
  .cons (.refl _) (.cons (.refl _) (.cons (.refl _) (.cons (RowsL.dl ((RowsL.one (push_row 2 3 2)).app (RowsL.one (push_row 5 1 1)))) (.refl []))))
theorem aP_form : formP 1 aP = true := by simp [aP, aP1, aP2, formP, formsN]
theorem aP_text : polB aP = ⟨#[100, 115, 116, 61, 50, 32, 59, 32, 112, 116, 58, 61, 49]⟩ := by
  have h1 : digB (1 : Int).toNat = ⟨#[49]⟩ := by rw [show (1 : Int).toNat = 1 from rfl, digB, decDigits_one (by decide)]; rfl
  have h2 : digB (2 : Int).toNat = ⟨#[50]⟩ := by rw [show (2 : Int).toNat = 2 from rfl, digB, decDigits_one (by decide)]; rfl
  simp only [aP, aP1, aP2, polB, kidsB, headB, h1, h2, bareB, PolT.op]
  first | kernel_rfl | decide +kernel
theorem aP_size : sizeP aP = 3 := by simp [aP, aP1, aP2, sizeP, sizesP]
theorem aP_depth : depthP aP = 2 := by simp [aP, aP1, aP2, depthP, depthsP]
theorem aP_ok : okPol aP := by simp [aP, aP1, aP2, okPol, okPols]
theorem aP_form4 : formP 4 aP = true := by simp [aP, aP1, aP2, formP, formsN]
theorem aG_check : checkP aG = 0 := by
  rw [check_at aG ⟨by decide, by decide, by show sizeP aP ≤ 300; rw [aP_size]; decide, by show depthP aP ≤ 20; rw [aP_depth]; decide, by decide⟩ aP_form]
  rfl
theorem aP_check : checkP (polG aP) = 0 := by
  rw [check_at (polG aP) ⟨by decide, by decide, by show sizeP aP ≤ 300; rw [aP_size]; decide, by show depthP aP ≤ 20; rw [aP_depth]; decide, by decide⟩ aP_form4]
  rfl
def aText : ByteArray := ⟨#[105, 110, 105, 116, 32, 48, 32, 46, 10, 112, 111, 108, 105, 99, 121, 32, 100, 115, 116, 61, 50, 32, 59, 32, 112, 116, 58, 61, 49, 32, 46, 10]⟩
theorem aG_text : showGF aG = aText := by
  have h0 : digB (0 : Int).toNat = ⟨#[48]⟩ := by rw [show (0 : Int).toNat = 0 from rfl, digB, decDigits_one (by decide)]; rfl
  rw [showGF, if_pos aG_check]
  simp only [progB, headG, aG, aP_text, swB, h0, List.foldl_cons, List.foldl_nil]
  first | kernel_rfl | decide +kernel
theorem awake6_ctr (g : GP) (hg : ∀ w, g.G w → PowG w) : Ctr (ax g).E 10 [] [] (fun o => o = .ret (.bool true) []) := by
  have c1 := (showpol_ctr g hg aP aP_ok (by rw [aP_size]; decide)).leR aRow_le
  rw [showPF, if_pos aP_check, aP_text] at c1
  have c2 := (showprog_ctr g hg aG ⟨by decide, by decide, aP_ok, by show sizeP aP ≤ _; rw [aP_size]; decide, by simp [aG], by decide⟩).leR (xs := [.sl true 1 [[.u16 0]], .i64 6, .i64 0, .u16 0, .sl true 4 [zrow 2 3 2, zrow 5 1 1], .v (.slice none 0 0)])
    (.cons (RowsL.dl (RowsL.one (.refl _))) (.cons (.refl _) (.cons (.refl _) (.cons (.refl _) (.cons (RowsL.dl ((RowsL.one (push_row 2 3 2)).app (RowsL.one (push_row 5 1 1)))) (.cons (.nil false 3) (.refl [])))))))
  rw [aG_text] at c2
  refine Ctr.body (X := ax g) _ 17 [] [.tmp 0] Tryz.func10 rfl rfl rfl rfl (by decide +kernel) rfl rfl ?_
  conv => whnf
  repeat' (first | (refine And.intro easyA ?_; conv => whnf) | (refine ifB_intro (fun hA => ?_) (fun hA => ?_) <;> (try rw [hA]) <;> (conv => whnf) <;> (first | replace hA := nrmA hA | replace hA := nrmB hA | replace hA := nrmC hA | replace hA := nrmD hA | replace hA := nrmE hA | replace hA := nrmF hA | skip) <;> (try simp only [List.length_map, cond_true, cond_false, Bool.not_eq_true', Bool.not_eq_false', beq_iff_eq, beq_eq_false_iff_ne, ne_eq] at hA)) | (refine CallP.det (c1) ?_; conv => whnf) | (refine CallD.det (c1) ?_; conv => whnf) | (refine CallP.det (c2) ?_; conv => whnf) | (refine CallD.det (c2) ?_; conv => whnf) | (rw [getD_map _ _ _ _ (by assumption)]; conv => whnf))
  refine ⟨⟨[], ?_⟩⟩
  conv => whnf
  kernel_rfl
theorem fewF_at {l : List RuleT} (h : fewF l = true) : l.length ≤ 30 ∧ ∀ r ∈ l, r.when.length ≤ 10 ∧ r.guard.length ≤ 10 ∧ r.thn.length ≤ 10 := by
  simp [fewF, fewR] at h
  exact ⟨h.1, fun r hr => by have := h.2 r hr; omega⟩
structure TypS (init : List Int) (l : List StepT) (rules : List RuleT) : Prop where
  init : ∀ n ∈ init, 0 ≤ n ∧ n < 65536
  l : ∀ x ∈ l, OkSt x
  when : ∀ r ∈ rules, ∀ p ∈ r.when, 0 ≤ p.2 ∧ p.2 < 65536
  guard : ∀ r ∈ rules, ∀ p ∈ r.guard, 0 ≤ p.2 ∧ p.2 < 65536
  thn : ∀ r ∈ rules, ∀ p ∈ r.thn, 0 ≤ p.2 ∧ p.2 < 65536
theorem top_ok {l : List StepT} (h : ∀ x ∈ l, OkSt x) (h60 : l.length ≤ 60) (hne : pileF l ≠ []) : okPol (topP (pileF l)) ∧ sizeP (topP (pileF l)) ≤ 60 := by
  obtain ⟨h1, h2⟩ := fold_pile l [] (by simp [okPols]) h
  have h3 : 0 < (pileF l).length := List.length_pos_iff.2 hne
  have h4 : (pileF l).length - 1 < (pileF l).length := by omega
  have hm : topP (pileF l) ∈ pileF l := by rw [topP, List.getD, List.getElem?_eq_getElem h4]; exact List.getElem_mem h4
  refine ⟨okPols_mem h1 hm, ?_⟩
  have h5 := sizesP_mem hm
  simp only [sizesP] at h2
  rw [pileF] at h5 ⊢; omega
end Go.Ax

namespace Go.Ax
open Go.Proofs Go.RowKit Go.Shelf Go.Lib Go.ChangeShapes
theorem fit_i64 {x : D} (h : Fit (.int .i64) x) : ∃ n : Int, x = .i64 n ∧ -9223372036854775808 ≤ n ∧ n < 9223372036854775808 := by
  cases h with
  | int _ k hk => exact ⟨k, rfl, by simp [Lit.wf, IntKind.min, IntKind.max, IntKind.bits, IntKind.signed] at hk; omega⟩
theorem fit_u8 {x : D} (h : Fit (.int .u8) x) : ∃ n : Int, x = .v (.int .u8 n) ∧ 0 ≤ n ∧ n < 256 := by
  cases h with
  | int _ k hk => exact ⟨k, rfl, by simp [Lit.wf, IntKind.min, IntKind.max, IntKind.bits, IntKind.signed] at hk; omega⟩
theorem nums_of {b : Nat} {x : D} (h : Fit (.sl b [.int .u16]) x) : ∃ l : List Int, x = .sl false 1 (l.map rowS) ∧ (∀ n ∈ l, 0 ≤ n ∧ n < 65536) ∧ l.length * b ≤ reachBytes := by
  cases h with
  | sl _ _ e0 a0 b0 c0 =>
    obtain ⟨l0, r0, q0⟩ := rows_of rowS (fun n => 0 ≤ n ∧ n < 65536) (els := e0) fun el he => by
      match el, b0 el he with
      | [u], _ =>
        obtain ⟨n, rfl, hn⟩ := fit_u16 (c0 _ he 0 _ _ rfl rfl)
        exact ⟨n, rfl, hn⟩
    subst r0
    exact ⟨l0, rfl, q0, by simpa using a0⟩
theorem pairs_of {b : Nat} {x : D} (h : Fit (.sl b [.int .i64, .int .u16]) x) : ∃ l : List PairT, x = .sl false 2 (l.map rowF) ∧ ∀ p ∈ l, 0 ≤ p.2 ∧ p.2 < 65536 := by
  cases h with
  | sl _ _ e0 a0 b0 c0 =>
    obtain ⟨l0, r0, q0⟩ := rows_of rowF (fun p => 0 ≤ p.2 ∧ p.2 < 65536) (els := e0) fun el he => by
      match el, b0 el he with
      | [u, v], _ =>
        obtain ⟨n, rfl, _⟩ := fit_i64 (c0 _ he 0 _ _ rfl rfl)
        obtain ⟨m, rfl, hm⟩ := fit_u16 (c0 _ he 1 _ _ rfl rfl)
        exact ⟨(n, m), rfl, hm⟩
    subst r0
    exact ⟨l0, rfl, q0⟩
abbrev TyR (r : RuleT) : Prop := (∀ p ∈ r.when, 0 ≤ p.2 ∧ p.2 < 65536) ∧ (∀ p ∈ r.guard, 0 ≤ p.2 ∧ p.2 < 65536) ∧ ∀ p ∈ r.thn, 0 ≤ p.2 ∧ p.2 < 65536
theorem rules_of {b c : Nat} {x : D} (h : Fit (.sl b [.sl c [.int .i64, .int .u16], .sl c [.int .i64, .int .u16], .sl c [.int .i64, .int .u16]]) x) : ∃ l : List RuleT, x = .sl false 3 (l.map rowR) ∧ (∀ r ∈ l, TyR r) ∧ l.length * b ≤ reachBytes := by
  cases h with
  | sl _ _ e0 a0 b0 c0 =>
    obtain ⟨l0, r0, q0⟩ := rows_of rowR TyR (els := e0) fun el he => by
      match el, b0 el he with
      | [u, v, w], _ =>
        obtain ⟨l1, rfl, h1⟩ := pairs_of (c0 _ he 0 _ _ rfl rfl)
        obtain ⟨l2, rfl, h2⟩ := pairs_of (c0 _ he 1 _ _ rfl rfl)
        obtain ⟨l3, rfl, h3⟩ := pairs_of (c0 _ he 2 _ _ rfl rfl)
        exact ⟨⟨l1, l2, l3⟩, rfl, h1, h2, h3⟩
    subst r0
    exact ⟨l0, rfl, q0, by simpa using a0⟩
theorem steps_of {b : Nat} {x : D} (h : Fit (.sl b [.int .i64, .int .i64, .int .u16, .int .u8]) x) : ∃ l : List StepT, x = .sl false 4 (l.map rowSt) ∧ (∀ r ∈ l, OkSt r) ∧ l.length * b ≤ reachBytes := by
  cases h with
  | sl _ _ e0 a0 b0 c0 =>
    obtain ⟨l0, r0, q0⟩ := rows_of rowSt OkSt (els := e0) fun el he => by
      match el, b0 el he with
      | [u, v, w, z], _ =>
        obtain ⟨n0, rfl, _⟩ := fit_i64 (c0 _ he 0 _ _ rfl rfl)
        obtain ⟨n1, rfl, _⟩ := fit_i64 (c0 _ he 1 _ _ rfl rfl)
        obtain ⟨n2, rfl, h2⟩ := fit_u16 (c0 _ he 2 _ _ rfl rfl)
        obtain ⟨n3, rfl, h3⟩ := fit_u8 (c0 _ he 3 _ _ rfl rfl)
        exact ⟨⟨n0, n1, n2, n3⟩, rfl, h2, h3⟩
    subst r0
    exact ⟨l0, rfl, q0, by simpa using a0⟩
end Go.Ax

namespace Go.Ax
open Go.Proofs Go.Lib
set_option maxRecDepth 10000
inductive Lx where
  | w (l : List UInt8)
  | n (k : Nat)
  | m (l : List UInt8)
  | s (b : UInt8)
def Lx.txt : Lx → List UInt8
  | .w l => l
  | .n k => decDigits k
  | .m l => l
  | .s b => [b]
def Lx.tok : Lx → List TokT
  | .w l => [⟨1, ⟨l.toArray⟩, 0⟩]
  | .n k => [⟨2, ⟨#[]⟩, k⟩]
  | .m l => [⟨3, ⟨l.toArray⟩, 0⟩]
  | .s _ => []
def signs : List (List UInt8) := [[40], [41], [33], [64], [61], [59], [43], [38], [46], [58, 61], [61, 62]]
def Lx.ok : Lx → Bool
  | .w l => !l.isEmpty && decide (l.length ≤ 20) && l.all fun b => decide (97 ≤ b.toNat) && decide (b.toNat ≤ 122)
  | .n k => decide (k ≤ 65535)
  | .m l => signs.contains l
  | .s b => b == 32 || b == 10
def Lx.wl : Lx → Bool
  | .w _ => true
  | .n _ => true
  | _ => false
def sepX : List Lx → Bool
  | [] => true
  | [_] => true
  | x :: y :: r => !(x.wl && y.wl) && sepX (y :: r)
def txtX (L : List Lx) : List UInt8 := (L.map Lx.txt).flatten
def tokX (L : List Lx) : List TokT := (L.map Lx.tok).flatten
theorem txtX_app (a b : List Lx) : txtX (a ++ b) = txtX a ++ txtX b := by simp [txtX]
theorem tokX_app (a b : List Lx) : tokX (a ++ b) = tokX a ++ tokX b := by simp [tokX]
theorem txtX_cons (x : Lx) (b : List Lx) : txtX (x :: b) = x.txt ++ txtX b := by simp [txtX]
theorem tokX_cons (x : Lx) (b : List Lx) : tokX (x :: b) = x.tok ++ tokX b := by simp [tokX]
theorem sepX_mid {x : Lx} (h : x.wl = false) : ∀ (a b : List Lx), sepX a = true → sepX b = true → sepX (a ++ x :: b) = true
  | [], [], _, _ => rfl
  | [], y :: b, _, hb => by simp [sepX, h]; exact hb
  | [z], b, _, hb => by
    have := sepX_mid h [] b rfl hb
    simp only [List.nil_append] at this
    simp [sepX, h, this]
  | z :: y :: a, b, ha, hb => by
    simp only [sepX, Bool.and_eq_true] at ha
    have := sepX_mid h (y :: a) b ha.2 hb
    simp only [List.cons_append] at this ⊢
    simp [sepX, this]
    simpa using ha.1
theorem letter_cls : ∀ b : UInt8, (decide (97 ≤ b.toNat) && decide (b.toNat ≤ 122)) = true → classF ((b.toNat : Nat) : Int) = 2 := by
  have h : ∀ n, n < 256 → 97 ≤ n → n ≤ 122 → classF ((n : Nat) : Int) = 2 := by decide +kernel
  intro b hb
  simp only [Bool.and_eq_true, decide_eq_true_eq] at hb
  exact h b.toNat b.toNat_lt hb.1 hb.2
theorem sign_first : ∀ l ∈ signs, ∃ b r, l = b :: r ∧ classF ((b.toNat : Nat) : Int) = 5 ∧ b.toNat < 128 ∧ b ≠ 62 := by
  intro l hl
  simp only [signs, List.mem_cons, List.not_mem_nil, or_false] at hl
  rcases hl with rfl | rfl | rfl | rfl | rfl | rfl | rfl | rfl | rfl | rfl | rfl <;> exact ⟨_, _, rfl, by decide, by decide, by decide⟩
theorem blank_cls {b : UInt8} (h : (b == 32 || b == 10) = true) : classF ((b.toNat : Nat) : Int) = 0 ∧ b ≠ 62 := by
  rw [Bool.or_eq_true, beq_iff_eq, beq_iff_eq] at h
  rcases h with rfl | rfl <;> exact ⟨by decide, by decide⟩
theorem tw_stop {p : Ch → Bool} : ∀ {A r : List Ch}, (∀ c ∈ A, p c = true) → (∀ c, r.head? = some c → p c = false) → (A ++ r).takeWhile p = A ∧ (A ++ r).dropWhile p = r
  | [], [], _, _ => ⟨rfl, rfl⟩
  | [], c :: r, _, hr => by
    have := hr c rfl
    simp [this]
  | a :: A, r, hA, hr => by
    have ha := hA a (by simp)
    obtain ⟨h1, h2⟩ := tw_stop (A := A) (r := r) (fun c hc => hA c (by simp [hc])) hr
    simp [ha, h1, h2]
theorem first_of {x : Lx} (h : x.ok = true) : ∃ b r, x.txt = b :: r ∧ b.toNat < 128 ∧ b ≠ 62 ∧ (x.wl = false → wB (b.toNat, [b]) = false ∧ dB (b.toNat, [b]) = false) := by
  cases x with
  | w l =>
    simp only [Lx.ok, Bool.and_eq_true] at h
    cases l with
    | nil => simp at h
    | cons b r =>
      have hb := h.2
      simp only [List.all_cons, Bool.and_eq_true, decide_eq_true_eq] at hb
      exact ⟨b, r, rfl, by omega, fun e => by rw [e] at hb; exact absurd hb.1.1 (by decide), by simp [Lx.wl]⟩
  | n k =>
    cases hd : decDigits k with
    | nil => exact absurd hd (dec_ne k)
    | cons b r =>
      have hb := dec_digit k b (by rw [hd]; simp)
      exact ⟨b, r, hd, by omega, fun e => by rw [e] at hb; exact absurd hb.2 (by decide), by simp [Lx.wl]⟩
  | m l =>
    obtain ⟨b, r, rfl, h1, h2, h3⟩ := sign_first l (by simpa [Lx.ok] using h)
    refine ⟨b, r, rfl, h2, h3, fun _ => ⟨?_, ?_⟩⟩
    · simp only [wB, withinF, h1]; rfl
    · simp only [dB, isDigit, h1]; rfl
  | s b =>
    obtain ⟨h1, h2⟩ := blank_cls h
    refine ⟨b, [], rfl, ?_, h2, fun _ => ⟨?_, ?_⟩⟩
    · simp only [Lx.ok, Bool.or_eq_true, beq_iff_eq] at h
      rcases h with rfl | rfl <;> decide
    · simp only [wB, withinF, h1]; rfl
    · simp only [dB, isDigit, h1]; rfl
theorem lowC_app (a b : List UInt8) : lowC (a ++ b) = lowC a ++ lowC b := by simp [lowC]
theorem low_word {l : List UInt8} (h : (l.all fun b => decide (97 ≤ b.toNat) && decide (b.toNat ≤ 122)) = true) : ∀ c ∈ lowC l, wB c = true := fun c hc => by
  obtain ⟨b, hb, rfl⟩ := List.mem_map.1 hc
  have := letter_cls b (List.all_eq_true.1 h b hb)
  simp only [wB, withinF, this]; rfl
theorem baOf_low (l : List UInt8) : baOf (lowC l) = ⟨l.toArray⟩ := by rw [baOf, flat_low]
theorem tok_step {x : Lx} (hx : x.ok = true) (r : List Ch) (acc : List TokT) (hr : x.wl = true → ∀ c, r.head? = some c → wB c = false ∧ dB c = false) (hr2 : ∀ c, r.head? = some c → c.1 ≠ 62) : tokT (lowC x.txt ++ r) acc = tokT r (acc ++ x.tok) := by
  cases x with
  | w l =>
    simp only [Lx.ok, Bool.and_eq_true, decide_eq_true_eq] at hx
    obtain ⟨⟨hne, hlen⟩, hall⟩ := hx
    obtain ⟨e1, e2⟩ := tw_stop (p := wB) (low_word hall) fun c hc => (hr rfl c hc).1
    cases l with
    | nil => simp at hne
    | cons b l =>
      have hb := letter_cls b (by simp only [List.all_cons, Bool.and_eq_true] at hall; simpa using hall.1)
      have hst : stepC (lowC (b :: l) ++ r) = .tok ⟨1, ⟨(b :: l).toArray⟩, 0⟩ r := by
        unfold stepC
        show (if classF ((b.toNat : Nat) : Int) = 2 then _ else _) = _
        rw [if_pos hb]
        show (if 20 < ((lowC (b :: l) ++ r).takeWhile wB).length then _ else StepR.tok ⟨1, baOf ((lowC (b :: l) ++ r).takeWhile wB), 0⟩ ((lowC (b :: l) ++ r).dropWhile wB)) = _
        rw [e1, e2, if_neg (by simp [lowC]; simp at hlen; omega), baOf_low]
      show tokT ((b.toNat, [b]) :: (lowC l ++ r)) acc = _
      rw [tokT_cons, if_neg (by show ¬ classF ((b.toNat : Nat) : Int) = 0; omega), if_neg (by show ¬ classF ((b.toNat : Nat) : Int) = 1; omega)]
      have hst : stepC ((b.toNat, [b]) :: (lowC l ++ r)) = _ := hst
      rw [hst]; rfl
  | n k =>
    have hk : k ≤ 65535 := by simpa [Lx.ok] using hx
    have hd : ∀ c ∈ lowC (decDigits k), dB c = true := fun c hc => by
      obtain ⟨b, hb, rfl⟩ := List.mem_map.1 hc
      have := dec_digit k b hb
      exact isDigit_of (by omega)
    obtain ⟨e1, e2⟩ := tw_stop (p := dB) hd fun c hc => (hr rfl c hc).2
    have hn := numC_dec k hk
    have hh : headW r = false := by
      cases r with
      | nil => rfl
      | cons c r => exact (hr rfl c rfl).1
    show tokT (lowC (decDigits k) ++ r) acc = _
    cases hl : decDigits k with
    | nil => exact absurd hl (dec_ne k)
    | cons b l =>
      rw [hl] at e1 e2 hn hd
      have hb : classF ((b.toNat : Nat) : Int) = 3 := by have := hd (b.toNat, [b]) (by simp [lowC]); simpa [dB, isDigit] using this
      have hst : stepC (lowC (b :: l) ++ r) = .tok ⟨2, ⟨#[]⟩, k⟩ r := by
        unfold stepC
        show (if classF ((b.toNat : Nat) : Int) = 2 then _ else if classF ((b.toNat : Nat) : Int) = 3 then _ else _) = _
        rw [if_neg (by omega), if_pos hb]
        show (if headW ((lowC (b :: l) ++ r).dropWhile dB) then _ else match numC ((lowC (b :: l) ++ r).takeWhile dB) 0 with
          | none => _
          | some v => StepR.tok ⟨2, ⟨#[]⟩, v⟩ ((lowC (b :: l) ++ r).dropWhile dB)) = _
        rw [e1, e2, hh, hn]; rfl
      show tokT ((b.toNat, [b]) :: (lowC l ++ r)) acc = _
      rw [tokT_cons, if_neg (by show ¬ classF ((b.toNat : Nat) : Int) = 0; omega), if_neg (by show ¬ classF ((b.toNat : Nat) : Int) = 1; omega)]
      have hst : stepC ((b.toNat, [b]) :: (lowC l ++ r)) = _ := hst
      rw [hst]; rfl
  | m l =>
    have hm : l ∈ signs := by simpa [Lx.ok] using hx
    obtain ⟨b, t, rfl, hb, _⟩ := sign_first l hm
    have hst : stepC (lowC (b :: t) ++ r) = .tok ⟨3, ⟨(b :: t).toArray⟩, 0⟩ r := by
      unfold stepC
      show (if classF ((b.toNat : Nat) : Int) = 2 then _ else if classF ((b.toNat : Nat) : Int) = 3 then _ else if classF ((b.toNat : Nat) : Int) = 5 then _ else _) = _
      rw [if_neg (by omega), if_neg (by omega), if_pos hb]
      show (if sign2 (lowC (b :: t) ++ r) then StepR.tok ⟨3, baOf ((lowC (b :: t) ++ r).take 2), 0⟩ ((lowC (b :: t) ++ r).drop 2) else StepR.tok ⟨3, baOf ((lowC (b :: t) ++ r).take 1), 0⟩ ((lowC (b :: t) ++ r).drop 1)) = _
      simp only [signs, List.mem_cons, List.not_mem_nil, or_false] at hm
      rcases hm with hm | hm | hm | hm | hm | hm | hm | hm | hm | hm | hm <;> injection hm with q1 q2 <;> subst q1 <;> subst q2
      all_goals first
        | (have : sign2 (lowC [58, 61] ++ r) = true := rfl
           rw [this]; rfl)
        | (have : sign2 (lowC [61, 62] ++ r) = true := rfl
           rw [this]; rfl)
        | (cases r with
           | nil => rfl
           | cons c r =>
             have hc := hr2 c rfl
             simp [lowC, sign2, hc, baOf, flat])
    show tokT ((b.toNat, [b]) :: (lowC t ++ r)) acc = _
    rw [tokT_cons, if_neg (by show ¬ classF ((b.toNat : Nat) : Int) = 0; omega), if_neg (by show ¬ classF ((b.toNat : Nat) : Int) = 1; omega)]
    have hst : stepC ((b.toNat, [b]) :: (lowC t ++ r)) = _ := hst
    rw [hst]; rfl
  | s b =>
    obtain ⟨h1, _⟩ := blank_cls hx
    show tokT ((b.toNat, [b]) :: r) acc = tokT r (acc ++ [])
    rw [tokT_cons, if_pos h1, List.append_nil]
theorem tok_lx : ∀ (L : List Lx), (∀ x ∈ L, x.ok = true) → sepX L = true → ∀ acc, tokT (lowC (txtX L)) acc = (some (acc ++ tokX L ++ [noTok]), 0)
  | [], _, _, acc => by
    show tokT [] acc = _
    rw [tokT_nil]; simp [tokX]
  | x :: L, hok, hs, acc => by
    have hL : sepX L = true := by
      cases L with
      | nil => rfl
      | cons y L => simp only [sepX, Bool.and_eq_true] at hs; exact hs.2
    rw [txtX_cons, lowC_app, tok_step (hok x (by simp)), tok_lx L (fun y hy => hok y (by simp [hy])) hL, tokX_cons]
    · simp only [List.append_assoc]
    · intro hx c hc
      cases L with
      | nil => simp [txtX, lowC] at hc
      | cons y L =>
        simp only [sepX, Bool.and_eq_true, hx] at hs
        have hy : y.wl = false := by simpa using hs.1
        obtain ⟨b, r, e, _, _, h4⟩ := first_of (hok y (by simp))
        rw [txtX_cons, e] at hc
        simp [lowC] at hc
        subst hc
        exact h4 hy
    · intro c hc
      cases L with
      | nil => simp [txtX, lowC] at hc
      | cons y L =>
        obtain ⟨b, r, e, _, h3, _⟩ := first_of (hok y (by simp))
        rw [txtX_cons, e] at hc
        simp [lowC] at hc
        subst hc
        intro h
        apply h3
        exact UInt8.toNat_inj.1 h
end Go.Ax
