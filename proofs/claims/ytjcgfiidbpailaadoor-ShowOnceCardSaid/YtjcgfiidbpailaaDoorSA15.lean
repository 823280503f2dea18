/- What the card of this claim stands on, or the card itself: for every input, as the given row says. -/
import Derived.Test.YtjcgfiidbpailaaDoorSA08
import Derived.Test.YtjcgfiidbpailaaDoorSA10
import Derived.Test.YtjcgfiidbpailaaDoorSA14
namespace Go.Ax
open Go.Proofs
set_option maxRecDepth 10000
theorem bassoc (a b c : ByteArray) : a ++ b ++ c = a ++ (b ++ c) := by
  apply ByteArray.ext; simp only [ByteArray.data_append, Array.append_assoc]
theorem bnil (a : ByteArray) : a ++ (⟨#[]⟩ : ByteArray) = a := by apply ByteArray.ext; rw [ByteArray.data_append]; simp
theorem nilb (a : ByteArray) : (⟨#[]⟩ : ByteArray) ++ a = a := by apply ByteArray.ext; rw [ByteArray.data_append]; simp
def headB (op f n : Int) : ByteArray :=
  if op = 0 then ⟨#[100, 114, 111, 112]⟩ else if op = 1 then ⟨#[105, 100]⟩ else if op = 2 then (nameF f ++ ⟨#[61]⟩) ++ digB n.toNat
  else if op = 5 then (nameF f ++ ⟨#[58, 61]⟩) ++ digB n.toNat else if op = 3 then partB f ⟨#[61]⟩ n else if op = 4 then ⟨#[33]⟩ else ⟨#[]⟩
def sepB (op : Int) : ByteArray := if op = 6 then ⟨#[32, 59, 32]⟩ else ⟨#[32, 43, 32]⟩
def bareB (of op : Int) : Bool := decide (op ≠ 7) && (decide (op ≠ 6) || decide (of = 7))
mutual
def polB : PolT → ByteArray
  | .mk op f n kids => headB op f n ++ kidsB op kids true
def kidsB (of : Int) : List PolT → Bool → ByteArray
  | [], _ => ⟨#[]⟩
  | p :: l, first => (if first then ⟨#[]⟩ else sepB of) ++ ((if bareB of p.op then polB p else (⟨#[40]⟩ ++ polB p) ++ ⟨#[41]⟩) ++ kidsB of l false)
end
def kidB (of : Int) (p : PolT) : ByteArray := if bareB of p.op then polB p else (⟨#[40]⟩ ++ polB p) ++ ⟨#[41]⟩
theorem polB_at (p : PolT) : polB p = headB p.op p.f p.n ++ kidsB p.op p.kids true := by cases p; rw [polB]; rfl
theorem kidsB_app (of : Int) (x : PolT) : ∀ (l : List PolT) (b : Bool), kidsB of (l ++ [x]) b = (kidsB of l b ++ (if b && l.isEmpty then ⟨#[]⟩ else sepB of)) ++ kidB of x
  | [], b => by cases b <;> simp [kidsB, kidB, bnil, nilb]
  | y :: l, b => by
    rw [List.cons_append, kidsB, kidsB, kidsB_app of x l false]
    simp only [bassoc, List.isEmpty_cons, Bool.false_and, Bool.and_false, Bool.false_eq_true, if_false]
theorem kidsB_next (of : Int) {l : List PolT} {i : Nat} (h : i < l.length) : kidsB of (l.take (i + 1)) true = (kidsB of (l.take i) true ++ (if i = 0 then ⟨#[]⟩ else sepB of)) ++ kidB of l[i] := by
  rw [List.take_succ_eq_append_getElem h, kidsB_app]
  by_cases h0 : i = 0
  · subst h0; simp
  · have : (l.take i).isEmpty = false := by
      rw [List.isEmpty_eq_false_iff]; intro he
      have h2 : (l.take i).length = 0 := by rw [he]; rfl
      rw [List.length_take] at h2; omega
    simp [this, h0]
theorem name_len (f : Int) : (nameF f).size ≤ 3 := by
  unfold nameF; repeat' split
  all_goals decide
theorem formP_f {k : Int} {p : PolT} (h : formP k p = true) (hk : k ≤ 60000) : 0 ≤ p.f ∧ p.f < 60000 ∧ (p.op = 2 ∨ p.op = 5 → p.f < 8) := by
  rw [formP_at] at h
  split at h
  · simp at h; omega
  · split at h
    · simp at h; omega
    · split at h
      · simp at h; omega
      · split at h
        · simp at h; omega
        · split at h
          · simp at h; omega
          · split at h
            · simp at h; omega
            · simp at h
theorem formP_kids {k : Int} {p : PolT} (h : formP k p = true) {i : Nat} (hi : i < p.kids.length) : formP k p.kids[i] = true := by
  rw [formP_at] at h
  have key : formsN k p.kids = false → formP k p.kids[i] = true := fun hf => by
    rw [formsN_any, List.any_eq_false] at hf
    simpa using hf _ (List.getElem_mem hi)
  split at h
  · have : p.kids.length = 0 := by simp at h; simp [h.1]
    omega
  · split at h
    · simp at h; exact key h.2
    · split at h
      · simp at h; exact key h.2
      · split at h
        · have : p.kids.length = 0 := by simp at h; simp [h.1.1]
          omega
        · split at h
          · have : p.kids.length = 0 := by simp at h; simp [h.1.1]
            omega
          · split at h
            · have : p.kids.length = 0 := by simp at h; simp [h.1.1]
              omega
            · simp at h
theorem headB_len {op f n : Int} (hf : f < 65536) (hn : n < 65536) : (headB op f n).size ≤ 12 := by
  have h1 := digI_len hf
  have h2 := digI_len hn
  have h3 := name_len f
  unfold headB
  repeat' split
  all_goals first | decide | (simp only [partB, bsz, ByteArray.size_append, List.size_toArray, List.length_cons, List.length_nil]; omega)
theorem sepB_len (op : Int) : (sepB op).size = 3 := by unfold sepB; split <;> rfl
theorem kidB_len (of : Int) (p : PolT) : (kidB of p).size ≤ (polB p).size + 2 := by
  unfold kidB; split
  · omega
  · simp only [bsz, ByteArray.size_append, List.size_toArray, List.length_cons, List.length_nil]; omega
theorem kidsB_len (of : Int) (k : Nat) : ∀ (l : List PolT) (b : Bool), (∀ p ∈ l, (polB p).size + 5 ≤ k * sizeP p) → (kidsB of l b).size ≤ k * sizesP l
  | [], b, _ => by rw [kidsB]; simp [bsz]
  | p :: l, b, h => by
    have h1 := kidsB_len of k l false fun q hq => h q (List.mem_cons_of_mem _ hq)
    have h2 := h p (List.mem_cons_self ..)
    have h3 := kidB_len of p
    have h4 := sepB_len of
    rw [kidsB, sizesP, Nat.mul_add]
    simp only [kidB] at h3
    rw [ByteArray.size_append, ByteArray.size_append]
    have : (if b = true then (⟨#[]⟩ : ByteArray) else sepB of).size ≤ 3 := by
      split
      · decide
      · omega
    omega
theorem polB_len {k : Int} (hk : k ≤ 60000) : ∀ (m : Nat) (p : PolT), sizeP p ≤ m → okPol p → formP k p = true → (polB p).size + 5 ≤ 17 * sizeP p
  | 0, p, h, _, _ => by have := sizeP_pos p; omega
  | m + 1, p, hm, ho, hf => by
    have ih := polB_len hk m
    rw [polB_at, sizeP_at, ByteArray.size_append]
    rw [sizeP_at] at hm
    have ho2 := (okPol_at p).1 ho
    have h1 := headB_len (op := p.op) (f := p.f) (n := p.n) (by have := (formP_f hf hk).2.1; omega) ho2.1.2
    have hkids : (kidsB p.op p.kids true).size ≤ 17 * sizesP p.kids := kidsB_len p.op 17 p.kids true fun q hq => by
      have h3 := sizesP_mem hq
      have h4 := okPols_mem ho2.2 hq
      obtain ⟨j, hj, rfl⟩ := List.mem_iff_getElem.1 hq
      exact ih _ (by omega) h4 (formP_kids hf hj)
    omega
theorem kidsB_take {k : Int} (hk : k ≤ 60000) {p : PolT} (ho : okPol p) (hf : formP k p = true) (i : Nat) : (kidsB p.op (p.kids.take i) true).size ≤ 17 * sizesP (p.kids.take i) :=
  kidsB_len p.op 17 _ true fun q hq => by
    have hq := List.mem_of_mem_take hq
    have h4 := okPols_mem ((okPol_at p).1 ho).2 hq
    obtain ⟨j, hj, rfl⟩ := List.mem_iff_getElem.1 hq
    exact polB_len hk _ _ (Nat.le_refl _) h4 (formP_kids hf hj)
abbrev WRes (b : ByteArray) : AOut → Prop := fun o => o = .ret (.tup []) [(9000, some (bldO b))]
theorem kid_ctr (g : GP) (p q : PolT) (bs : ByteArray) (hl : (polB p).size ≤ 17 * sizeP p) (hs : bs.size + 17 * sizeP p + 2 ≤ 140737488355328) (h : ∀ b : ByteArray, b.size + 17 * sizeP p ≤ 140737488355328 → Ctr (ax g).E 36 [.ptr 9000 0, .dagg (rowP4 p)] [(9000, some (bldO b))] (WRes (b ++ polB p))) :
    Ctr (ax g).E 66 [.ptr 9000 0, .dagg (rowP4 p), .dagg (rowP4 q)] [(9000, some (bldO bs))] (WRes (bs ++ kidB q.op p)) := by
  refine Ctr.body (X := ax g) _ 35 [9000] [] Tryd.func66 rfl rfl rfl rfl (by decide +kernel) rfl rfl ?_
  conv => whnf
  repeat' (first | (refine And.intro (by first | exact rfl | decide | exact Nat.le_of_ble_eq_true rfl | exact ⟨_, rfl⟩ | exact ⟨_, _, rfl⟩ | omega | (simp only [List.length_map]; omega) | exact True.intro | (simp only [IntKind.wrap_i64, List.length_map]; omega) | (simp only [List.map_cons, List.map_nil, List.length_cons, Option.getD]; omega) | (simp only [bsz, ByteArray.size_append, List.size_toArray, List.length_cons, List.length_nil]; omega)) ?_; conv => whnf) | (refine ifB_intro (fun hA => ?_) (fun hA => ?_) <;> (try rw [hA]) <;> (conv => whnf) <;> (first | replace hA := of_decide_eq_true hA | replace hA := of_decide_eq_false hA | replace hA := eq_of_beq hA | replace hA := ne_of_beq_false hA | replace hA := bne_iff_ne.1 hA | replace hA := bne_eq_false_iff_eq.1 hA | skip) <;> (try simp only [ne_eq] at hA)) | (refine CallP.upd rfl (h _ (by first | omega | (simp only [bsz, oneB, ByteArray.size_append, List.size_toArray, List.length_cons, List.length_nil]; omega))) ?_; conv => whnf) | (refine CallD.upd rfl (h _ (by first | omega | (simp only [bsz, oneB, ByteArray.size_append, List.size_toArray, List.length_cons, List.length_nil]; omega))) ?_; conv => whnf) | (refine CallP.upd rfl (byte_ctr g _ 40 (by omega)) ?_; conv => whnf) | (refine CallD.upd rfl (byte_ctr g _ 40 (by omega)) ?_; conv => whnf) | (refine CallP.upd rfl (byte_ctr g _ 41 (by simp only [bsz, oneB, ByteArray.size_append, List.size_toArray, List.length_cons, List.length_nil]; omega)) ?_; conv => whnf) | (refine CallD.upd rfl (byte_ctr g _ 41 (by simp only [bsz, oneB, ByteArray.size_append, List.size_toArray, List.length_cons, List.length_nil]; omega)) ?_; conv => whnf))
  all_goals first
    | (rw [show kidB q.op p = polB p by simp_all [kidB, bareB]]
       refine ⟨⟨[(9000, some (bldO (bs ++ polB p)))], ?_⟩⟩
       (conv => whnf)
       refine And.intro ⟨fun o h => h, trivial⟩ ?_
       (conv => whnf))
    | (rw [show bs ++ kidB q.op p = ((bs ++ oneB 40) ++ polB p) ++ oneB 41 by rw [show kidB q.op p = (⟨#[40]⟩ ++ polB p) ++ ⟨#[41]⟩ by simp_all [kidB, bareB]]; simp only [bassoc]; rfl]
       refine ⟨⟨[(9000, some (bldO (((bs ++ oneB 40) ++ polB p) ++ oneB 41)))], ?_⟩⟩
       (conv => whnf)
       refine And.intro ⟨fun o h => h, trivial⟩ ?_
       (conv => whnf))
theorem pol_ctr (g : GP) (hg : ∀ w, g.G w → PowG w) (k : Int) (hk : k ≤ 60000) : ∀ (m : Nat) (p : PolT), sizeP p ≤ m → okPol p → formP k p = true → ∀ bs : ByteArray, bs.size + 17 * sizeP p ≤ 140737488355328 →
    Ctr (ax g).E 36 [.ptr 9000 0, .dagg (rowP4 p)] [(9000, some (bldO bs))] (WRes (bs ++ polB p))
  | 0, p, h, _, _, _, _ => by have := sizeP_pos p; omega
  | m + 1, p, hm, ho, hf, bs, hbs => by
    have ih := pol_ctr g hg k hk m
    have hf2 := formP_f hf hk
    have ho2 := (okPol_at p).1 ho
    have hl := polB_len hk _ p (Nat.le_refl _) ho hf
    have hn1 := name_len p.f
    have hd1 := digI_len (n := p.f) (by omega)
    have hd2 := digI_len (n := p.n) (by omega)
    have hsz := sizeP_at p
    have hlen := sizesP_len p.kids
    have hhl := headB_len (op := p.op) (f := p.f) (n := p.n) (by omega) ho2.1.2
    have hsl := sepB_len p.op
    refine (fun key : (∀ s, ((fun i : Nat => ({ f := [(0, .ptr 9000 0), (3, .ptr 3 0), (4, .str (sepB p.op)), (69, .d (.sl false 4 (p.kids.map rowO4))), (70, .i64 p.kids.length), (71, .i64 i)], h := [(9000, some (bldO ((bs ++ headB p.op p.f p.n) ++ kidsB p.op (p.kids.take i) true))), (3, some (.dvar 4 (rowP4 p)))] } : St)) 0).Le s → LoopP (ax g).E { nt := 88, anc := [9000] } ?c ?Q s) => ?main) ?loop
    case main =>
      refine Ctr.body (X := ax g) _ 88 [9000] [] Tryd.func36 rfl rfl rfl rfl (by decide +kernel) rfl rfl ?_
      conv => whnf
      repeat' (first | (refine And.intro (by first | exact rfl | decide | exact Nat.le_of_ble_eq_true rfl | exact ⟨_, rfl⟩ | exact ⟨_, _, rfl⟩ | omega | (simp only [List.length_map]; omega) | exact True.intro | (simp only [IntKind.wrap_i64, List.length_map]; omega) | (simp only [List.map_cons, List.map_nil, List.length_cons, Option.getD]; omega) | (simp only [bsz, ByteArray.size_append, List.size_toArray, List.length_cons, List.length_nil]; omega)) ?_; conv => whnf) | (refine ifB_intro (fun hA => ?_) (fun hA => ?_) <;> (try rw [hA]) <;> (conv => whnf) <;> (first | replace hA := of_decide_eq_true hA | replace hA := of_decide_eq_false hA | replace hA := eq_of_beq hA | replace hA := ne_of_beq_false hA | replace hA := bne_iff_ne.1 hA | replace hA := bne_eq_false_iff_eq.1 hA | skip) <;> (try simp only [List.length_map, cond_true, cond_false, Bool.not_eq_true', Bool.not_eq_false', beq_iff_eq, beq_eq_false_iff_ne, ne_eq] at hA)) | (refine CallP.det (name_ctr g _) ?_; conv => whnf) | (refine CallD.det (name_ctr g _) ?_; conv => whnf) | (refine CallP.det (digits6_ctr g hg _ (by omega)) ?_; conv => whnf) | (refine CallD.det (digits6_ctr g hg _ (by omega)) ?_; conv => whnf) | (refine CallP.det (part_ctr g hg _ _ _ (by omega) (by omega) (by decide)) ?_; conv => whnf) | (refine CallD.det (part_ctr g hg _ _ _ (by omega) (by omega) (by decide)) ?_; conv => whnf) | (refine CallP.upd rfl (write_ctr g _ _ (by simp only [bsz, List.size_toArray, List.length_cons, List.length_nil]; omega) (by simp only [bsz, List.size_toArray, List.length_cons, List.length_nil]; omega)) ?_; conv => whnf) | (refine CallD.upd rfl (write_ctr g _ _ (by simp only [partB, bsz, ByteArray.size_append, List.size_toArray, List.length_cons, List.length_nil]; omega) (by simp only [partB, bsz, ByteArray.size_append, List.size_toArray, List.length_cons, List.length_nil]; omega)) ?_; conv => whnf) | (refine CallP.upd rfl (byte_ctr g _ 33 (by omega)) ?_; conv => whnf) | (refine CallD.upd rfl (byte_ctr g _ 33 (by omega)) ?_; conv => whnf) | (refine DrawP.intro (X := ax g) (id := 8) B36_8 (by kernel_rfl) (by decide +kernel) ?_; conv => whnf) | (refine DrawP.intro (X := ax g) (id := 10) B36_10 (by kernel_rfl) (by decide +kernel) ?_; conv => whnf) | (refine DrawP.intro (X := ax g) (id := 12) B36_12 (by kernel_rfl) (by decide +kernel) ?_; conv => whnf))
      all_goals (refine key _ ?_)
      all_goals exact ⟨⟨rfl, rfl, (by first | (rw [show sepB p.op = ⟨#[32, 43, 32]⟩ from if_neg (by omega)]; rfl) | (rw [show sepB p.op = ⟨#[32, 59, 32]⟩ from if_pos (by omega)]; rfl)), rfl, AV.int_eq (len_int _ _), rfl, trivial⟩, ⟨fun o h => by rw [← h]; exact congrArg (fun b => some (bldO b)) (by simp_all [headB, kidsB, bnil, oneB]), ⟨fun o h => h, trivial⟩⟩⟩
    case loop =>
      intro s hs
      refine LoopP.inv (X := ax g) (fun i : Nat => ({ f := [(0, .ptr 9000 0), (3, .ptr 3 0), (4, .str (sepB p.op)), (69, .d (.sl false 4 (p.kids.map rowO4))), (70, .i64 p.kids.length), (71, .i64 i)], h := [(9000, some (bldO ((bs ++ headB p.op p.f p.n) ++ kidsB p.op (p.kids.take i) true))), (3, some (.dvar 4 (rowP4 p)))] } : St)) (fun i => i ≤ p.kids.length) (fun i => p.kids.length - i) 0 (Nat.zero_le _) hs fun i hi => ?_
      have hkb := kidsB_take hk ho hf i
      by_cases hlt : i < p.kids.length
      · have hnx := sizesP_next hlt
        have htk := sizesP_take p.kids (i + 1)
        have hpk := polB_len hk _ p.kids[i] (Nat.le_refl _) (okPols_mem ho2.2 (List.getElem_mem hlt)) (formP_kids hf hlt)
        have hstep := kidsB_next p.op hlt
        (conv => whnf)
        refine ifB_true (decide_eq_true (by omega)) ?_
        (conv => whnf)
        repeat' (first | (refine And.intro (by first | exact rfl | decide | exact Nat.le_of_ble_eq_true rfl | exact ⟨_, rfl⟩ | exact ⟨_, _, rfl⟩ | omega | (simp only [List.length_map]; omega) | exact True.intro | (simp only []; omega) | (simp only []; omega) | (simp only []; omega)) ?_; conv => whnf) | (refine ifB_intro (fun hA => ?_) (fun hA => ?_) <;> (try rw [hA]) <;> (conv => whnf) <;> (first | replace hA := of_decide_eq_true hA | replace hA := of_decide_eq_false hA | replace hA := eq_of_beq hA | replace hA := ne_of_beq_false hA | replace hA := bne_iff_ne.1 hA | replace hA := bne_eq_false_iff_eq.1 hA | skip) <;> (try simp only [List.length_map, cond_true, cond_false, Bool.not_eq_true', Bool.not_eq_false', beq_iff_eq, beq_eq_false_iff_ne, ne_eq] at hA)) | (rw [getD_map rowO4 p.kids i [] hlt, rowO4_at]; conv => whnf) | (refine CallP.upd rfl (write_ctr g _ _ (by simp only [ByteArray.size_append]; omega) (by omega)) ?_; conv => whnf) | (refine CallD.upd rfl (write_ctr g _ _ (by simp only [ByteArray.size_append]; omega) (by omega)) ?_; conv => whnf) | (refine CallP.upd rfl (kid_ctr g (p.kids[i]'hlt) p _ (by omega) (by simp only [ByteArray.size_append]; omega) (fun b hb => ih _ (by omega) (okPols_mem ho2.2 (List.getElem_mem hlt)) (formP_kids hf hlt) b hb)) ?_; conv => whnf) | (refine CallD.upd rfl (kid_ctr g (p.kids[i]'hlt) p _ (by omega) (by simp only [ByteArray.size_append]; omega) (fun b hb => ih _ (by omega) (okPols_mem ho2.2 (List.getElem_mem hlt)) (formP_kids hf hlt) b hb)) ?_; conv => whnf))
        all_goals
          rcases Nat.eq_zero_or_pos i with h0 | h0
          · first
              | (exfalso; omega)
              | (rw [if_pos h0, bnil] at hstep
                 exact ⟨i + 1, by omega, by omega, ⟨⟨rfl, rfl, rfl, rfl, rfl, AV.int_eq (i64_succ (by omega)), trivial⟩, ⟨fun o h => by rw [← h, hstep]; exact congrArg (fun b => some (bldO b)) (by simp only [bassoc]), ⟨fun o h => h, trivial⟩⟩⟩⟩)
          · first
              | (exfalso; omega)
              | (rw [if_neg (Nat.ne_of_gt h0)] at hstep
                 exact ⟨i + 1, by omega, by omega, ⟨⟨rfl, rfl, rfl, rfl, rfl, AV.int_eq (i64_succ (by omega)), trivial⟩, ⟨fun o h => by rw [← h, hstep]; exact congrArg (fun b => some (bldO b)) (by simp only [bassoc]), ⟨fun o h => h, trivial⟩⟩⟩⟩)
      · (conv => whnf)
        refine ifB_false (decide_eq_false (by omega)) ?_
        (conv => whnf)
        rw [polB_at, ← bassoc]
        refine ⟨⟨[(9000, some (bldO ((bs ++ headB p.op p.f p.n) ++ kidsB p.op p.kids true)))], ?_⟩⟩
        (conv => whnf)
        refine And.intro ⟨fun o h => by rw [← h, List.take_of_length_le (by omega)]; rfl, trivial⟩ ?_
        (conv => whnf)
end Go.Ax
namespace Go.Ax
open Go.Proofs
set_option maxRecDepth 10000
theorem formP_not {k : Int} {p : PolT} (h : formP k p = true) (h4 : p.op = 4) : p.kids.length = 1 := by
  rw [formP_at, if_neg (by omega), if_pos h4] at h
  simp at h
  exact h.1.1.1
theorem formP_leaf {k : Int} {p : PolT} (h : formP k p = true) (h4 : ¬p.op = 4) (h6 : ¬p.op = 6) (h7 : ¬p.op = 7) : p.kids = [] := by
  rw [formP_at] at h
  apply List.eq_nil_of_length_eq_zero
  repeat' split at h
  all_goals first | (exfalso; omega) | (simp at h; done) | (simp at h; simp [h])
end Go.Ax
namespace Go.Ax
open Go.Proofs Go.Lib
set_option maxRecDepth 10000
def fieldX (f : Int) (sign : List UInt8) (n : Int) : List Lx := [.w (nameF f).data.toList, .m sign, .n n.toNat]
def partX (f : Int) (sign : List UInt8) (n : Int) : List Lx := [.m [64], .n f.toNat, .m sign, .n n.toNat]
def headX (op f n : Int) : List Lx :=
  if op = 0 then [.w [100, 114, 111, 112]] else if op = 1 then [.w [105, 100]] else if op = 2 then fieldX f [61] n
  else if op = 5 then fieldX f [58, 61] n else if op = 3 then partX f [61] n else if op = 4 then [.m [33]] else []
def signX (op : Int) : List UInt8 := if op = 6 then [59] else [43]
def sepsX (op : Int) : List Lx := [.s 32, .m (signX op), .s 32]
mutual
def polX : PolT → List Lx
  | .mk op f n kids => headX op f n ++ kidsX op kids true
def kidsX (of : Int) : List PolT → Bool → List Lx
  | [], _ => []
  | p :: l, first => (if first then [] else sepsX of) ++ ((if bareB of p.op then polX p else .m [40] :: (polX p ++ [.m [41]])) ++ kidsX of l false)
end
def kidX (of : Int) (p : PolT) : List Lx := if bareB of p.op then polX p else .m [40] :: (polX p ++ [.m [41]])
theorem polX_at (p : PolT) : polX p = headX p.op p.f p.n ++ kidsX p.op p.kids true := by cases p; rw [polX]; rfl
theorem kidsX_cons (of : Int) (p : PolT) (l : List PolT) (b : Bool) : kidsX of (p :: l) b = (if b then [] else sepsX of) ++ (kidX of p ++ kidsX of l false) := by rw [kidsX]; rfl
theorem bdat (a b : ByteArray) : (a ++ b).data.toList = a.data.toList ++ b.data.toList := by rw [ByteArray.data_append]; simp
theorem digB_dat (n : Nat) : (digB n).data.toList = decDigits n := by simp [digB]
theorem txt_field (f : Int) (sign : List UInt8) (n : Int) : txtX (fieldX f sign n) = (nameF f).data.toList ++ (sign ++ decDigits n.toNat) := by simp [fieldX, txtX, Lx.txt]
theorem txt_part (f : Int) (sign : List UInt8) (n : Int) : txtX (partX f sign n) = 64 :: (decDigits f.toNat ++ (sign ++ decDigits n.toNat)) := by simp [partX, txtX, Lx.txt]
theorem txt_head (op f n : Int) : txtX (headX op f n) = (headB op f n).data.toList := by
  unfold headX headB
  repeat' split
  all_goals first
    | rfl
    | (rw [txt_field, bdat, bdat, digB_dat, List.append_assoc]; done)
    | (rw [txt_part, partB, bdat, bdat, bdat, digB_dat, digB_dat]; simp; done)
theorem txt_seps (op : Int) : txtX (sepsX op) = (sepB op).data.toList := by
  unfold sepsX signX sepB
  split <;> rfl
mutual
theorem txt_pol : ∀ p : PolT, txtX (polX p) = (polB p).data.toList
  | .mk op f n kids => by rw [polX, polB, txtX_app, txt_head, txt_kids op kids true, bdat]
theorem txt_kids (of : Int) : ∀ (l : List PolT) (b : Bool), txtX (kidsX of l b) = (kidsB of l b).data.toList
  | [], b => by rw [kidsX, kidsB]; rfl
  | p :: l, b => by
    have h1 := txt_pol p
    have h2 := txt_kids of l false
    rw [kidsX, kidsB, txtX_app, txtX_app, bdat, bdat, h2]
    congr 1
    · cases b
      · exact txt_seps of
      · rfl
    · congr 1
      split
      · exact h1
      · rw [txtX_cons, txtX_app, h1, bdat, bdat]; rfl
end
theorem name_ok {f : Int} (h : 0 ≤ f ∧ f < 8) : (Lx.w (nameF f).data.toList).ok = true := by
  obtain rfl | rfl | rfl | rfl | rfl | rfl | rfl | rfl : f = 0 ∨ f = 1 ∨ f = 2 ∨ f = 3 ∨ f = 4 ∨ f = 5 ∨ f = 6 ∨ f = 7 := by omega
  all_goals decide
def OkX (L : List Lx) : Prop := (∀ x ∈ L, x.ok = true) ∧ sepX L = true
theorem OkX.mid {a b : List Lx} {x : Lx} (hx : x.ok = true) (hw : x.wl = false) (ha : OkX a) (hb : OkX b) : OkX (a ++ x :: b) :=
  ⟨fun y hy => by
    rcases List.mem_append.1 hy with hy | hy
    · exact ha.1 y hy
    · rcases List.mem_cons.1 hy with rfl | hy
      · exact hx
      · exact hb.1 y hy, sepX_mid hw a b ha.2 hb.2⟩
theorem OkX.nil : OkX [] := ⟨by simp, rfl⟩
theorem OkX.field {f : Int} {sign : List UInt8} {n : Int} (hf : 0 ≤ f ∧ f < 8) (hs : (Lx.m sign).ok = true) (hn : 0 ≤ n ∧ n < 65536) : OkX (fieldX f sign n) :=
  ⟨fun x hx => by
    simp only [fieldX, List.mem_cons, List.not_mem_nil, or_false] at hx
    rcases hx with rfl | rfl | rfl
    · exact name_ok hf
    · exact hs
    · simp [Lx.ok]; omega, rfl⟩
theorem OkX.part {f : Int} {sign : List UInt8} {n : Int} (hf : 0 ≤ f ∧ f < 65536) (hs : (Lx.m sign).ok = true) (hn : 0 ≤ n ∧ n < 65536) : OkX (partX f sign n) :=
  ⟨fun x hx => by
    simp only [partX, List.mem_cons, List.not_mem_nil, or_false] at hx
    rcases hx with rfl | rfl | rfl | rfl
    · decide
    · simp [Lx.ok]; omega
    · exact hs
    · simp [Lx.ok]; omega, rfl⟩
theorem OkX.seps (op : Int) {a b : List Lx} (ha : OkX a) (hb : OkX b) : OkX (a ++ (sepsX op ++ b)) := by
  have hs : (Lx.m (signX op)).ok = true := by unfold signX; split <;> decide
  have h1 : OkX ([] ++ Lx.s 32 :: b) := OkX.mid (by decide) rfl .nil hb
  have h2 : OkX ([] ++ Lx.m (signX op) :: Lx.s 32 :: b) := OkX.mid hs rfl .nil h1
  exact OkX.mid (x := .s 32) (by decide) rfl ha h2
theorem OkX.par {a b : List Lx} (ha : OkX a) (hb : OkX b) : OkX (.m [40] :: (a ++ .m [41] :: b)) := by
  have h1 : OkX (a ++ Lx.m [41] :: b) := OkX.mid (by decide) rfl ha hb
  exact OkX.mid (x := .m [40]) (by decide) rfl .nil h1
theorem OkX.kids {of : Int} : ∀ (l : List PolT), (∀ p ∈ l, OkX (kidX of p)) → ∀ a, OkX a → OkX (a ++ kidsX of l false)
  | [], _, a, ha => by rw [kidsX, List.append_nil]; exact ha
  | p :: l, h, a, ha => by
    rw [kidsX_cons]
    exact OkX.seps of ha (OkX.kids l (fun q hq => h q (by simp [hq])) _ (h p (by simp)))
theorem formP_all {k : Int} {p : PolT} (h : formP k p = true) : ∀ q ∈ p.kids, formP k q = true := fun q hq => by
  obtain ⟨i, hi, rfl⟩ := List.getElem_of_mem hq
  exact formP_kids h hi
theorem sizeP_kid {p q : PolT} (h : q ∈ p.kids) : sizeP q < sizeP p := by
  cases p with
  | mk op f n kids => have h2 : sizeP q ≤ sizesP kids := sizesP_mem h; rw [sizeP]; omega
theorem OkX.pol {k : Int} (hk : k ≤ 60000) : ∀ (m : Nat) (p : PolT), sizeP p ≤ m → okPol p → formP k p = true → OkX (polX p)
  | 0, p, h, _, _ => by have := sizeP_pos p; omega
  | m + 1, p, hm, ho, hf => by
    obtain ⟨hn, hks⟩ := (okPol_at p).1 ho
    obtain ⟨f0, f1, f2⟩ := formP_f hf hk
    have ih : ∀ of, ∀ q ∈ p.kids, OkX (kidX of q) := fun of q hq => by
      have := sizeP_kid hq
      have hp := OkX.pol hk m q (by omega) (okPols_mem hks hq) (formP_all hf q hq)
      unfold kidX
      split
      · exact hp
      · exact OkX.par hp .nil
    have hleaf : p.kids = [] → ¬ p.op = 4 → OkX (polX p) := fun h h4 => by
      rw [polX_at, h, kidsX, List.append_nil]
      unfold headX
      split
      · exact ⟨by decide, rfl⟩
      · split
        · exact ⟨by decide, rfl⟩
        · split
          · exact OkX.field ⟨f0, f2 (.inl ‹_›)⟩ (by decide) hn
          · split
            · exact OkX.field ⟨f0, f2 (.inr ‹_›)⟩ (by decide) hn
            · split
              · exact OkX.part ⟨f0, by omega⟩ (by decide) hn
              · first | exact OkX.nil | (split; exact absurd ‹_› h4; exact OkX.nil)
    by_cases h4 : p.op = 4
    · have h1 := formP_not hf h4
      obtain ⟨q, hq⟩ : ∃ q, p.kids = [q] := List.length_eq_one_iff.1 h1
      rw [polX_at, hq, kidsX_cons, kidsX, h4]
      show OkX (headX 4 p.f p.n ++ ([] ++ (kidX 4 q ++ [])))
      rw [List.nil_append, List.append_nil]
      exact OkX.mid (x := .m [33]) (a := []) (by decide) rfl .nil (ih 4 q (by rw [hq]; simp))
    · by_cases h67 : p.op = 6 ∨ p.op = 7
      · have hh : headX p.op p.f p.n = [] := by
          unfold headX
          rcases h67 with h | h <;> rw [h] <;> rfl
        rw [polX_at, hh, List.nil_append]
        cases hks2 : p.kids with
        | nil => rw [kidsX]; exact .nil
        | cons q l =>
          rw [kidsX_cons]
          show OkX ([] ++ (kidX p.op q ++ kidsX p.op l false))
          rw [List.nil_append]
          exact OkX.kids l (fun r hr => ih _ r (by rw [hks2]; simp [hr])) _ (ih _ q (by rw [hks2]; simp))
      · exact hleaf (formP_leaf hf h4 (fun h => h67 (.inl h)) (fun h => h67 (.inr h))) h4
def mkS (l : List TokT) (h : EndT l) : SP := ⟨l, h, [], false, false⟩
theorem EndT.app {R : List TokT} (a : List TokT) (h : EndT R) : EndT (a ++ R) := by
  obtain ⟨i, rfl⟩ := h
  exact ⟨a ++ i, by simp⟩
def tW (w : ByteArray) : TokT := ⟨1, w, 0⟩
def tM (w : ByteArray) : TokT := ⟨3, w, 0⟩
def tN (n : Int) : TokT := ⟨2, ⟨#[]⟩, n⟩
theorem take_yes {t : TokT} {R : List TokT} (hk : t.kind = 1 ∨ t.kind = 3) (h : EndT (t :: R)) (hR : EndT R) : takeS t.s (mkS (t :: R) h) = (true, mkS R hR) := by
  unfold takeS
  have h1 : (peekS (mkS (t :: R) h)).data.toList = t.s.data.toList := by
    unfold peekS
    rw [if_pos (show (hdT (mkS (t :: R) h)).kind = 1 ∨ (hdT (mkS (t :: R) h)).kind = 3 from hk)]; rfl
  have h2 : (hdT (mkS (t :: R) h)).kind ≠ 0 := by show t.kind ≠ 0; omega
  rw [dif_pos ⟨h1, h2⟩]
  rfl
theorem take_no {s : ByteArray} {t : TokT} {R : List TokT} (hne : (t.kind = 1 ∨ t.kind = 3) → t.s.data.toList ≠ s.data.toList) (hs : s ≠ ⟨#[]⟩) (h : EndT (t :: R)) : takeS s (mkS (t :: R) h) = (false, mkS (t :: R) h) := by
  unfold takeS
  rw [dif_neg]
  rintro ⟨h1, _⟩
  unfold peekS at h1
  split at h1
  · rename_i hk; exact hne hk h1
  · apply hs
    have : s.data = #[] := Array.toList_inj.1 h1.symm
    cases s; simp_all
theorem list_go {α : Type} {sign : ByteArray} {one : SP → Option (α × SP)} {kt : α → List TokT} {sg : TokT} (hsk : sg.kind = 1 ∨ sg.kind = 3) (hss : sg.s = sign) (Ok : List TokT → Prop) (hOkS : ∀ R, Ok (sg :: R)) {R : List TokT} (hR : EndT R) (hok : Ok R) (hno : takeS sign (mkS R hR) = (false, mkS R hR)) :
    ∀ (l : List α), (∀ x ∈ l, ∀ R h hR, Ok R → one (mkS (kt x ++ R) h) = some (x, mkS R hR)) → ∀ (acc : List α) (n : Nat) (h : EndT ((l.flatMap fun x => sg :: kt x) ++ R)), l.length < n → listGo sign one n acc (mkS ((l.flatMap fun x => sg :: kt x) ++ R) h) = some (acc ++ l, mkS R hR)
  | [], _, acc, n, h, hn => by
    obtain ⟨n, rfl⟩ : ∃ m, n = m + 1 := ⟨n - 1, by omega⟩
    have e : takeS sign (mkS (([].flatMap fun x => sg :: kt x) ++ R) h) = (false, mkS R hR) := hno
    rw [listGo_done (by rw [e]), e, List.append_nil]
  | x :: l, hone, acc, n, h, hn => by
    obtain ⟨n, rfl⟩ : ∃ m, n = m + 1 := ⟨n - 1, by omega⟩
    have hE : EndT ((l.flatMap fun x => sg :: kt x) ++ R) := hR.app _
    have e0 : (((x :: l).flatMap fun x => sg :: kt x) ++ R) = sg :: (kt x ++ ((l.flatMap fun x => sg :: kt x) ++ R)) := by simp
    have hE2 : EndT (kt x ++ ((l.flatMap fun x => sg :: kt x) ++ R)) := hE.app _
    have e : takeS sign (mkS (((x :: l).flatMap fun x => sg :: kt x) ++ R) h) = (true, mkS _ hE2) := by
      have h' := h
      rw [e0] at h'
      have := take_yes hsk h' hE2
      rw [hss] at this
      rw [← this]
      congr 2
    have hOk : Ok ((l.flatMap fun x => sg :: kt x) ++ R) := by
      cases l with
      | nil => exact hok
      | cons y l => rw [show ((y :: l).flatMap fun x => sg :: kt x) ++ R = sg :: (kt y ++ ((l.flatMap fun x => sg :: kt x) ++ R)) from by simp]; exact hOkS _
    have h1 := hone x (by simp) _ hE2 hE hOk
    rw [listGo_more (by rw [e]) (by rw [e]; exact h1), list_go hsk hss Ok hOkS hR hok hno l (fun y hy => hone y (by simp [hy])) _ n hE (by simp at hn; omega), List.append_assoc]
    rfl
theorem list_all {α : Type} {sign : ByteArray} {one : SP → Option (α × SP)} {kt : α → List TokT} {sg : TokT} (hsk : sg.kind = 1 ∨ sg.kind = 3) (hss : sg.s = sign) (Ok : List TokT → Prop) (hOkS : ∀ R, Ok (sg :: R)) {R : List TokT} (hR : EndT R) (hok : Ok R) (hno : takeS sign (mkS R hR) = (false, mkS R hR))
    (x : α) (l : List α) (hone : ∀ y ∈ x :: l, ∀ R h hR, Ok R → one (mkS (kt y ++ R) h) = some (y, mkS R hR)) (h : EndT (kt x ++ ((l.flatMap fun x => sg :: kt x) ++ R))) : listS sign one (mkS (kt x ++ ((l.flatMap fun x => sg :: kt x) ++ R)) h) = some (x :: l, mkS R hR) := by
  have hE : EndT ((l.flatMap fun x => sg :: kt x) ++ R) := hR.app _
  have hOk : Ok ((l.flatMap fun x => sg :: kt x) ++ R) := by
    cases l with
    | nil => exact hok
    | cons y l => rw [show ((y :: l).flatMap fun x => sg :: kt x) ++ R = sg :: (kt y ++ ((l.flatMap fun x => sg :: kt x) ++ R)) from by simp]; exact hOkS _
  have hlen : ∀ l : List α, l.length ≤ (l.flatMap fun x => sg :: kt x).length := fun l => by
    induction l with
    | nil => simp
    | cons y l ih => simp only [List.flatMap_cons, List.length_append, List.length_cons]; omega
  unfold listS
  rw [hone x (by simp) _ h hE hOk]
  show listGo sign one (((l.flatMap fun x => sg :: kt x) ++ R).length + 1) [x] _ = _
  have := hlen l
  rw [list_go hsk hss Ok hOkS hR hok hno l (fun y hy => hone y (by simp [hy])) _ _ hE (by rw [List.length_append]; omega)]
  rfl
end Go.Ax
namespace Go.Ax
open Go.Proofs Go.Lib
set_option maxRecDepth 10000
theorem ba_list (s : ByteArray) : (⟨s.data.toList.toArray⟩ : ByteArray) = s := by cases s; simp
theorem tok_field {f : Int} {sign : List UInt8} {n : Int} (hn : 0 ≤ n) : tokX (fieldX f sign n) = [tW (nameF f), tM ⟨sign.toArray⟩, tN n] := by
  simp only [fieldX, tokX, List.map_cons, List.map_nil, Lx.tok, List.flatten_cons, List.flatten_nil, List.cons_append, List.nil_append, List.append_nil]
  rw [ba_list, Int.toNat_of_nonneg hn]; rfl
theorem tok_part {f : Int} {sign : List UInt8} {n : Int} (hf : 0 ≤ f) (hn : 0 ≤ n) : tokX (partX f sign n) = [tM ⟨#[64]⟩, tN f, tM ⟨sign.toArray⟩, tN n] := by
  simp only [partX, tokX, List.map_cons, List.map_nil, Lx.tok, List.flatten_cons, List.flatten_nil, List.cons_append, List.nil_append, List.append_nil]
  rw [Int.toNat_of_nonneg hn, Int.toNat_of_nonneg hf]; rfl
theorem atom_id (sum : SP → Option (PolT × SP)) (R : List TokT) (hR : EndT R) (h : EndT (tW ⟨#[105, 100]⟩ :: R)) : atomS sum (mkS (tW ⟨#[105, 100]⟩ :: R) h) = some (.mk 1 0 0 [], mkS R hR) := rfl
theorem atom_drop (sum : SP → Option (PolT × SP)) (R : List TokT) (hR : EndT R) (h : EndT (tW ⟨#[100, 114, 111, 112]⟩ :: R)) : atomS sum (mkS (tW ⟨#[100, 114, 111, 112]⟩ :: R) h) = some (.mk 0 0 0 [], mkS R hR) := rfl
theorem atom_test (sum : SP → Option (PolT × SP)) (f n : Int) (hf : 0 ≤ f ∧ f < 8) (R : List TokT) (hR : EndT R) (h : EndT (tW (nameF f) :: tM ⟨#[61]⟩ :: tN n :: R)) : atomS sum (mkS (tW (nameF f) :: tM ⟨#[61]⟩ :: tN n :: R) h) = some (.mk 2 f n [], mkS R hR) := by
  obtain rfl | rfl | rfl | rfl | rfl | rfl | rfl | rfl : f = 0 ∨ f = 1 ∨ f = 2 ∨ f = 3 ∨ f = 4 ∨ f = 5 ∨ f = 6 ∨ f = 7 := by omega
  all_goals rfl
theorem atom_put (sum : SP → Option (PolT × SP)) (f n : Int) (hf : 0 ≤ f ∧ f < 8) (R : List TokT) (hR : EndT R) (h : EndT (tW (nameF f) :: tM ⟨#[58, 61]⟩ :: tN n :: R)) : atomS sum (mkS (tW (nameF f) :: tM ⟨#[58, 61]⟩ :: tN n :: R) h) = some (.mk 5 f n [], mkS R hR) := by
  obtain rfl | rfl | rfl | rfl | rfl | rfl | rfl | rfl : f = 0 ∨ f = 1 ∨ f = 2 ∨ f = 3 ∨ f = 4 ∨ f = 5 ∨ f = 6 ∨ f = 7 := by omega
  all_goals rfl
theorem part_as (f n : Int) (R : List TokT) (hR : EndT R) (h : EndT (tM ⟨#[64]⟩ :: tN f :: tM ⟨#[58, 61]⟩ :: tN n :: R)) : partS asB (mkS (tM ⟨#[64]⟩ :: tN f :: tM ⟨#[58, 61]⟩ :: tN n :: R) h) = some ((IntKind.i64.wrap f, n), mkS R hR) := rfl
theorem atom_state (sum : SP → Option (PolT × SP)) (f n : Int) (R : List TokT) (hR : EndT R) (h : EndT (tM ⟨#[64]⟩ :: tN f :: tM ⟨#[61]⟩ :: tN n :: R)) : atomS sum (mkS (tM ⟨#[64]⟩ :: tN f :: tM ⟨#[61]⟩ :: tN n :: R) h) = some (.mk 3 (IntKind.i64.wrap f) n [], mkS R hR) := rfl
theorem atom_par (sum : SP → Option (PolT × SP)) (A R : List TokT) (hA : EndT A) (hB : EndT (tM ⟨#[41]⟩ :: R)) (hR : EndT R) (h : EndT (tM ⟨#[40]⟩ :: A)) (p : PolT) (hs : sum (mkS A hA) = some (p, mkS (tM ⟨#[41]⟩ :: R) hB)) : atomS sum (mkS (tM ⟨#[40]⟩ :: A) h) = some (p, mkS R hR) := by
  have e : atomS sum (mkS (tM ⟨#[40]⟩ :: A) h) = (sum (mkS A hA)).bind fun x => (mustS rparB x.2).bind fun q => some (x.1, q) := rfl
  rw [e, hs]
  rfl
theorem unary_atom {sum : SP → Option (PolT × SP)} {n : Nat} {t : TokT} {R : List TokT} (h : EndT (t :: R)) (hne : (t.kind = 1 ∨ t.kind = 3) → t.s.data.toList ≠ [33]) : unaryS sum (n + 1) (mkS (t :: R) h) = atomS sum (mkS (t :: R) h) := by
  have e : takeS bangB (mkS (t :: R) h) = (false, mkS (t :: R) h) := take_no hne (by decide) h
  rw [unaryS, e]
  rfl
theorem unary_not {sum : SP → Option (PolT × SP)} {n : Nat} {A R : List TokT} {p : PolT} (h : EndT (tM ⟨#[33]⟩ :: A)) (hA : EndT A) (hR : EndT R) (hs : unaryS sum n (mkS A hA) = some (p, mkS R hR)) : unaryS sum (n + 1) (mkS (tM ⟨#[33]⟩ :: A) h) = some (.mk 4 0 0 [p], mkS R hR) := by
  have e : takeS bangB (mkS (tM ⟨#[33]⟩ :: A) h) = (true, mkS A hA) := take_yes (t := tM ⟨#[33]⟩) (.inr rfl) h hA
  rw [unaryS, e]
  show (unaryS sum n (mkS A hA)).bind _ = _
  rw [hs]; rfl
def NotSemi (R : List TokT) : Prop := ∀ hR, takeS semiB (mkS R hR) = (false, mkS R hR)
def NotPlus (R : List TokT) : Prop := ∀ hR, takeS plusB (mkS R hR) = (false, mkS R hR)
theorem notSemi_plus (R : List TokT) : NotSemi (tM ⟨#[43]⟩ :: R) := fun hR => take_no (fun _ => by decide) (by decide) hR
theorem notSemi_rpar (R : List TokT) : NotSemi (tM ⟨#[41]⟩ :: R) := fun hR => take_no (fun _ => by decide) (by decide) hR
theorem notPlus_rpar (R : List TokT) : NotPlus (tM ⟨#[41]⟩ :: R) := fun hR => take_no (fun _ => by decide) (by decide) hR
theorem notSemi_dot (R : List TokT) : NotSemi (tM ⟨#[46]⟩ :: R) := fun hR => take_no (fun _ => by decide) (by decide) hR
theorem notPlus_dot (R : List TokT) : NotPlus (tM ⟨#[46]⟩ :: R) := fun hR => take_no (fun _ => by decide) (by decide) hR
def kidT (of : Int) (p : PolT) : List TokT := tokX (kidX of p)
theorem kidT_bare {of : Int} {p : PolT} (h : bareB of p.op = true) : kidT of p = tokX (polX p) := by unfold kidT kidX; rw [if_pos h]
theorem kidT_par {of : Int} {p : PolT} (h : bareB of p.op = false) : kidT of p = tM ⟨#[40]⟩ :: (tokX (polX p) ++ [tM ⟨#[41]⟩]) := by
  unfold kidT kidX; rw [if_neg (by simp [h]), tokX_cons, tokX_app]; rfl
theorem tok_kids (of : Int) : ∀ l : List PolT, tokX (kidsX of l false) = l.flatMap fun x => tM ⟨(signX of).toArray⟩ :: kidT of x
  | [] => by rw [kidsX]; rfl
  | p :: l => by
    rw [kidsX_cons, tokX_app, tokX_app, tok_kids of l, List.flatMap_cons]
    rfl
theorem tok_pol {p : PolT} {q : PolT} {l : List PolT} (h : p.op = 6 ∨ p.op = 7) (hk : p.kids = q :: l) : tokX (polX p) = kidT p.op q ++ l.flatMap fun x => tM ⟨(signX p.op).toArray⟩ :: kidT p.op x := by
  have hh : headX p.op p.f p.n = [] := by
    unfold headX
    rcases h with h | h <;> rw [h] <;> rfl
  rw [polX_at, hh, List.nil_append, hk, kidsX_cons, tokX_app, tokX_app, tok_kids]
  rfl
structure WfP (k : Int) (p : PolT) : Prop where
  ok : okPol p
  fm : formP k p = true
theorem WfP.kid {k : Int} {p q : PolT} (h : WfP k p) (hq : q ∈ p.kids) : WfP k q := ⟨okPols_mem ((okPol_at p).1 h.ok).2 hq, formP_all h.fm q hq⟩
theorem WfP.join {k : Int} {p : PolT} (h : WfP k p) (h67 : p.op = 6 ∨ p.op = 7) : p = .mk p.op 0 0 p.kids ∧ 2 ≤ p.kids.length := by
  have h1 := h.fm
  rw [formP_at, if_neg (by omega), if_neg (by omega), if_pos h67] at h1
  simp only [Bool.and_eq_true, decide_eq_true_eq, beq_iff_eq] at h1
  cases p with
  | mk op f n kids =>
    obtain ⟨⟨h2, h3, h4⟩, _⟩ := h1
    simp only [PolT.f, PolT.n] at h3 h4
    subst h3; subst h4
    exact ⟨rfl, h2⟩
theorem mkS_eq {l l' : List TokT} (e : l = l') (h : EndT l) (h' : EndT l') : mkS l h = mkS l' h' := by subst e; rfl
theorem name_bang {f : Int} (h : 0 ≤ f ∧ f < 8) : (tW (nameF f)).s.data.toList ≠ [33] := by
  obtain rfl | rfl | rfl | rfl | rfl | rfl | rfl | rfl : f = 0 ∨ f = 1 ∨ f = 2 ∨ f = 3 ∨ f = 4 ∨ f = 5 ∨ f = 6 ∨ f = 7 := by omega
  all_goals decide
theorem leaf_atom {k : Int} (hk : k ≤ 60000) {p : PolT} (h : WfP k p) (h4 : ¬ p.op = 4) (h6 : ¬ p.op = 6) (h7 : ¬ p.op = 7) (sum : SP → Option (PolT × SP)) (n : Nat) (R : List TokT) (hR : EndT R) (hA : EndT (tokX (polX p) ++ R)) : unaryS sum (n + 1) (mkS (tokX (polX p) ++ R) hA) = some (p, mkS R hR) := by
  have hkids := formP_leaf h.fm h4 h6 h7
  obtain ⟨f0, f1, f2⟩ := formP_f h.fm hk
  obtain ⟨hn, _⟩ := (okPol_at p).1 h.ok
  have ht : tokX (polX p) = tokX (headX p.op p.f p.n) := by rw [polX_at, hkids, kidsX, List.append_nil]
  have hw : IntKind.i64.wrap p.f = p.f := i64_wrap (by omega) (by omega)
  have c1 : p.op = 0 ∨ p.op = 1 → p.f = 0 ∧ p.n = 0 := fun h01 => by
    have h1 := h.fm
    rw [formP_at, if_pos h01] at h1
    simp only [Bool.and_eq_true, beq_iff_eq] at h1
    exact h1.2
  have c2 : ¬ (p.op = 0 ∨ p.op = 1) → p.op = 2 ∨ p.op = 5 ∨ p.op = 3 := fun h01 => by
    have h1 := h.fm
    rw [formP_at, if_neg h01, if_neg h4, if_neg (by omega)] at h1
    by_cases h2 : p.op = 2
    · exact .inl h2
    · by_cases h5 : p.op = 5
      · exact .inr (.inl h5)
      · by_cases h3 : p.op = 3
        · exact .inr (.inr h3)
        · rw [if_neg h2, if_neg h5, if_neg h3] at h1
          exact absurd h1 (by simp)
  have go : ∀ L, tokX (headX p.op p.f p.n) ++ R = L → (∀ hL : EndT L, unaryS sum (n + 1) (mkS L hL) = some (p, mkS R hR)) → unaryS sum (n + 1) (mkS (tokX (polX p) ++ R) hA) = some (p, mkS R hR) := fun L e hh => by
    have e2 : tokX (polX p) ++ R = L := by rw [ht, e]
    rw [mkS_eq e2 hA (e2 ▸ hA)]
    exact hh _
  clear ht
  have hF : ∀ q : PolT, q.op = p.op → q.f = p.f → q.n = p.n → q.kids = [] → q = p := fun q h1 h2 h3 h5 => by
    cases p; cases q
    simp only [PolT.op, PolT.f, PolT.n, PolT.kids] at h1 h2 h3 h5 hkids
    rw [h1, h2, h3, h5, hkids]
  by_cases h01 : p.op = 0 ∨ p.op = 1
  · obtain ⟨e1, e2⟩ := c1 h01
    rcases h01 with h0 | h0
    · have hp := hF (.mk 0 0 0 []) h0.symm e1.symm e2.symm rfl
      refine go (tW ⟨#[100, 114, 111, 112]⟩ :: R) (by rw [h0]; rfl) fun hL => ?_
      have hat := atom_drop sum R hR hL
      rw [hp] at hat
      exact (unary_atom _ (fun _ => by decide)).trans hat
    · have hp := hF (.mk 1 0 0 []) h0.symm e1.symm e2.symm rfl
      refine go (tW ⟨#[105, 100]⟩ :: R) (by rw [h0]; rfl) fun hL => ?_
      have hat := atom_id sum R hR hL
      rw [hp] at hat
      exact (unary_atom _ (fun _ => by decide)).trans hat
  · rcases c2 h01 with h2 | h2 | h2
    · have hf8 := f2 (.inl h2)
      have hp := hF (.mk 2 p.f p.n []) h2.symm rfl rfl rfl
      refine go (tW (nameF p.f) :: tM ⟨#[61]⟩ :: tN p.n :: R) (by rw [h2, show headX 2 p.f p.n = fieldX p.f [61] p.n from rfl, tok_field hn.1]; rfl) fun hL => ?_
      have hat := atom_test sum p.f p.n ⟨f0, hf8⟩ R hR hL
      rw [hp] at hat
      exact (unary_atom _ (fun _ => name_bang ⟨f0, hf8⟩)).trans hat
    · have hf8 := f2 (.inr h2)
      have hp := hF (.mk 5 p.f p.n []) h2.symm rfl rfl rfl
      refine go (tW (nameF p.f) :: tM ⟨#[58, 61]⟩ :: tN p.n :: R) (by rw [h2, show headX 5 p.f p.n = fieldX p.f [58, 61] p.n from rfl, tok_field hn.1]; rfl) fun hL => ?_
      have hat := atom_put sum p.f p.n ⟨f0, hf8⟩ R hR hL
      rw [hp] at hat
      exact (unary_atom _ (fun _ => name_bang ⟨f0, hf8⟩)).trans hat
    · have hp := hF (.mk 3 p.f p.n []) h2.symm rfl rfl rfl
      refine go (tM ⟨#[64]⟩ :: tN p.f :: tM ⟨#[61]⟩ :: tN p.n :: R) (by rw [h2, show headX 3 p.f p.n = partX p.f [61] p.n from rfl, tok_part f0 hn.1]; rfl) fun hL => ?_
      have hat := atom_state sum p.f p.n R hR hL
      rw [hw, hp] at hat
      exact (unary_atom _ (fun _ => by decide)).trans hat
structure Reads (k : Int) (p : PolT) : Prop where
  sum : ∀ m, sizeP p ≤ m → ∀ R (hR : EndT R) h, NotSemi R → NotPlus R → sumS m (mkS (tokX (polX p) ++ R) h) = some (p, mkS R hR)
  un : ∀ m n, sizeP p ≤ m → sizeP p ≤ n → ∀ of, (of = 4 ∨ of = 6) → ∀ R (hR : EndT R) h, unaryS (sumS m) n (mkS (kidT of p ++ R) h) = some (p, mkS R hR)
  sq : ∀ m n, sizeP p ≤ m → sizeP p ≤ n → ∀ R (hR : EndT R) h, NotSemi R → seqS (sumS m) n (mkS (kidT 7 p ++ R) h) = some (p, mkS R hR)
theorem joined_many {op : Int} {l : List PolT} (h : 2 ≤ l.length) : joinedS op l = .mk op 0 0 l := by unfold joinedS; rw [if_neg (by omega)]
theorem not4_kid {k : Int} {p : PolT} (h : WfP k p) (h4 : p.op = 4) : ∃ q, p = .mk 4 0 0 [q] := by
  have h1 := h.fm
  rw [formP_at, if_neg (by omega), if_pos h4] at h1
  simp only [Bool.and_eq_true, beq_iff_eq] at h1
  cases p with
  | mk op f n kids =>
    obtain ⟨⟨⟨h2, h3, h5⟩, _⟩, _⟩ := h1
    simp only [PolT.op, PolT.f, PolT.n, PolT.kids] at *
    obtain ⟨q, rfl⟩ := List.length_eq_one_iff.1 h2
    subst h3; subst h5; subst h4
    exact ⟨q, rfl⟩
theorem reads {k : Int} (hk : k ≤ 60000) : ∀ (N : Nat) (p : PolT), sizeP p ≤ N → WfP k p → Reads k p
  | 0, p, h, _ => by have := sizeP_pos p; omega
  | N + 1, p, hN, hw => by
    have ih : ∀ q ∈ p.kids, Reads k q := fun q hq => reads hk N q (by have := sizeP_kid hq; omega) (hw.kid hq)
    have hpos := sizeP_pos p
    -- bare: no sequence, no sum
    have bare : ¬ p.op = 6 → ¬ p.op = 7 → ∀ m n, sizeP p ≤ m + 1 → sizeP p ≤ n → ∀ R (hR : EndT R) h, unaryS (sumS m) n (mkS (tokX (polX p) ++ R) h) = some (p, mkS R hR) := by
      intro h6 h7 m n hm hn R hR h
      obtain ⟨n, rfl⟩ : ∃ n', n = n' + 1 := ⟨n - 1, by omega⟩
      by_cases h4 : p.op = 4
      · obtain ⟨q, hq⟩ := not4_kid hw h4
        have hqm : q ∈ p.kids := by rw [hq]; exact List.mem_singleton.2 rfl
        have hsz := sizeP_kid hqm
        have e : tokX (polX p) = tM ⟨#[33]⟩ :: kidT 4 q := by
          rw [hq, polX, kidsX_cons, kidsX, tokX_app]
          show tokX [.m [33]] ++ tokX ([] ++ (kidX 4 q ++ [])) = _
          rw [List.nil_append, List.append_nil]; rfl
        revert h
        rw [e]
        intro h
        have hA : EndT (kidT 4 q ++ R) := hR.app _
        have := (ih q hqm).un m n (by omega) (by omega) 4 (.inl rfl) R hR hA
        rw [show some (p, mkS R hR) = some (PolT.mk 4 0 0 [q], mkS R hR) from by rw [← hq]]
        exact unary_not h hA hR this
      · exact leaf_atom hk hw h4 h6 h7 _ n R hR h
    -- sequences
    have seq6 : p.op = 6 → ∀ m n, sizeP p ≤ m + 1 → sizeP p ≤ n → ∀ R (hR : EndT R) h, NotSemi R → seqS (sumS m) n (mkS (tokX (polX p) ++ R) h) = some (p, mkS R hR) := by
      intro h6 m n hm hn R hR h hns
      obtain ⟨hp, hl2⟩ := hw.join (.inl h6)
      cases hkk : p.kids with
      | nil => rw [hkk] at hl2; simp at hl2
      | cons q l =>
        have e := tok_pol (.inl h6) hkk
        rw [h6] at e
        revert h
        rw [e, List.append_assoc]
        intro h
        have hl := list_all (sign := semiB) (one := unaryS (sumS m) n) (kt := kidT 6) (sg := tM ⟨(signX 6).toArray⟩) (.inr rfl) rfl (fun _ => True) (fun _ => trivial) hR trivial (hns hR) q l
          (fun y hy R h hR _ => by
            have hym : y ∈ p.kids := by rw [hkk]; exact hy
            have := sizeP_kid hym
            exact (ih y hym).un m n (by omega) (by omega) 6 (.inr rfl) R hR h) h
        unfold seqS
        rw [hl]
        show some (joinedS 6 (q :: l), mkS R hR) = _
        rw [← hkk, joined_many hl2]
        rw [h6] at hp
        rw [← hp]
    -- as a part of a sum
    have part7 : ¬ p.op = 7 → ∀ m n, sizeP p ≤ m + 1 → sizeP p ≤ n → ∀ R (hR : EndT R) h, NotSemi R → seqS (sumS m) n (mkS (tokX (polX p) ++ R) h) = some (p, mkS R hR) := by
      intro h7 m n hm hn R hR h hns
      by_cases h6 : p.op = 6
      · exact seq6 h6 m n hm hn R hR h hns
      · have hb := bare h6 h7 m n hm hn
        have hl := list_all (sign := semiB) (one := unaryS (sumS m) n) (kt := fun x => tokX (polX x)) (sg := tM ⟨#[59]⟩) (.inr rfl) rfl (fun _ => True) (fun _ => trivial) hR trivial (hns hR) p []
          (fun y hy R' h' hR' _ => by
            obtain rfl : y = p := List.mem_singleton.1 hy
            exact hb R' hR' h') h
        unfold seqS
        have hl : listS semiB (unaryS (sumS m) n) (mkS (tokX (polX p) ++ R) h) = some ([p], mkS R hR) := hl
        rw [hl]; rfl
    have sum : ∀ m, sizeP p ≤ m → ∀ R (hR : EndT R) h, NotSemi R → NotPlus R → sumS m (mkS (tokX (polX p) ++ R) h) = some (p, mkS R hR) := by
      intro m hm R hR h hns hnp
      obtain ⟨m, rfl⟩ : ∃ m', m = m' + 1 := ⟨m - 1, by omega⟩
      by_cases h7 : p.op = 7
      · obtain ⟨hp, hl2⟩ := hw.join (.inr h7)
        cases hkk : p.kids with
        | nil => rw [hkk] at hl2; simp at hl2
        | cons q l =>
          have e := tok_pol (.inr h7) hkk
          rw [h7] at e
          revert h
          rw [e, List.append_assoc]
          intro h
          have hl := list_all (sign := plusB) (one := seqS (sumS m) (m + 1)) (kt := kidT 7) (sg := tM ⟨(signX 7).toArray⟩) (.inr rfl) rfl NotSemi (fun R => notSemi_plus R) hR hns (hnp hR) q l
            (fun y hy R h hR hn => by
              have hym : y ∈ p.kids := by rw [hkk]; exact hy
              have := sizeP_kid hym
              exact (ih y hym).sq m (m + 1) (by omega) (by omega) R hR h hn) h
          rw [sumS, hl]
          show some (joinedS 7 (q :: l), mkS R hR) = _
          rw [← hkk, joined_many hl2]
          rw [h7] at hp
          rw [← hp]
      · have hb := part7 h7 m (m + 1) hm hm
        have hl := list_all (sign := plusB) (one := seqS (sumS m) (m + 1)) (kt := fun x => tokX (polX x)) (sg := tM ⟨#[43]⟩) (.inr rfl) rfl NotSemi (fun R => notSemi_plus R) hR hns (hnp hR) p []
          (fun y hy R' h' hR' hn => by
            obtain rfl : y = p := List.mem_singleton.1 hy
            exact hb R' hR' h' hn) h
        have hl : listS plusB (seqS (sumS m) (m + 1)) (mkS (tokX (polX p) ++ R) h) = some ([p], mkS R hR) := hl
        rw [sumS, hl]; rfl
    -- in parentheses
    have par : ∀ m, sizeP p ≤ m → ∀ R (hR : EndT R) (h : EndT (tM ⟨#[40]⟩ :: ((tokX (polX p) ++ [tM ⟨#[41]⟩]) ++ R))), atomS (sumS m) (mkS (tM ⟨#[40]⟩ :: ((tokX (polX p) ++ [tM ⟨#[41]⟩]) ++ R)) h) = some (p, mkS R hR) := by
      intro m hm R hR h
      have hB : EndT (tM ⟨#[41]⟩ :: R) := hR.app [_]
      have e : (tokX (polX p) ++ [tM ⟨#[41]⟩]) ++ R = tokX (polX p) ++ (tM ⟨#[41]⟩ :: R) := by simp
      revert h
      rw [e]
      intro h
      exact atom_par _ _ R (hB.app _) hB hR h p (sum m hm _ hB _ (notSemi_rpar R) (notPlus_rpar R))
    have bang : ∀ A (h : EndT (tM ⟨#[40]⟩ :: A)) m n, unaryS (sumS m) (n + 1) (mkS (tM ⟨#[40]⟩ :: A) h) = atomS (sumS m) (mkS (tM ⟨#[40]⟩ :: A) h) := fun A h m n => unary_atom h fun _ => by decide
    refine ⟨sum, ?_, ?_⟩
    · intro m n hm hn of hof R hR h
      by_cases hb : bareB of p.op = true
      · have hb' : ¬ p.op = 6 ∧ ¬ p.op = 7 := by
          unfold bareB at hb
          simp only [Bool.and_eq_true, Bool.or_eq_true, decide_eq_true_eq] at hb
          omega
        revert h
        rw [kidT_bare hb]
        intro h
        exact bare hb'.1 hb'.2 m n (by omega) hn R hR h
      · obtain ⟨n, rfl⟩ : ∃ n', n = n' + 1 := ⟨n - 1, by omega⟩
        revert h
        rw [kidT_par (Bool.eq_false_iff.2 hb)]
        intro h
        exact (bang _ h m n).trans (par m hm R hR h)
    · intro m n hm hn R hR h hns
      by_cases h7 : p.op = 7
      · obtain ⟨n, rfl⟩ : ∃ n', n = n' + 1 := ⟨n - 1, by omega⟩
        have hbf : bareB 7 p.op = false := by rw [h7]; rfl
        have hu : ∀ R (h : EndT (kidT 7 p ++ R)) (hR : EndT R), unaryS (sumS m) (n + 1) (mkS (kidT 7 p ++ R) h) = some (p, mkS R hR) := by
          intro R h hR
          revert h
          rw [kidT_par hbf]
          intro h
          exact (bang _ h m n).trans (par m hm R hR h)
        have hl := list_all (sign := semiB) (one := unaryS (sumS m) (n + 1)) (kt := kidT 7) (sg := tM ⟨#[59]⟩) (.inr rfl) rfl (fun _ => True) (fun _ => trivial) hR trivial (hns hR) p []
          (fun y hy R' h' hR' _ => by
            obtain rfl : y = p := List.mem_singleton.1 hy
            exact hu R' h' hR') h
        have hl : listS semiB (unaryS (sumS m) (n + 1)) (mkS (kidT 7 p ++ R) h) = some ([p], mkS R hR) := hl
        unfold seqS
        rw [hl]; rfl
      · have hb : bareB 7 p.op = true := by unfold bareB; simp [h7]
        revert h
        rw [kidT_bare hb]
        intro h
        exact part7 h7 m n (by omega) hn R hR h hns
end Go.Ax
namespace Go.Ax
open Go.Proofs
set_option maxRecDepth 10000
def rowB (x : ByteArray) : List D := [.v (.string x)]
def joinX (sep : ByteArray) (l : List ByteArray) : ByteArray := ⟨(Lib.join (l.map (·.data.toList)) sep.data.toList).toArray⟩
theorem joinX_nil (sep : ByteArray) : joinX sep [] = ⟨#[]⟩ := rfl
theorem joinX_one (sep x : ByteArray) : joinX sep [x] = x := by
  rw [joinX, List.map_cons, List.map_nil, Lib.join_one]
theorem joinX_snoc (sep x : ByteArray) {l : List ByteArray} (h : l ≠ []) : joinX sep (l ++ [x]) = (joinX sep l ++ sep) ++ x := by
  apply ByteArray.ext
  rw [joinX, List.map_append, List.map_cons, List.map_nil, join_snoc _ _ _ (by simpa using h), ByteArray.data_append, ByteArray.data_append]
  simp [joinX]
theorem joinX_next (sep : ByteArray) {l : List ByteArray} {i : Nat} (h : i < l.length) : joinX sep (l.take (i + 1)) = (joinX sep (l.take i) ++ (if i = 0 then ⟨#[]⟩ else sep)) ++ l[i] := by
  rw [List.take_succ_eq_append_getElem h]
  by_cases h0 : i = 0
  · subst h0
    rw [if_pos rfl, bnil, List.take_zero, List.nil_append, joinX_one, joinX_nil, nilb]
  · rw [if_neg h0, joinX_snoc]
    intro he
    have h2 : (l.take i).length = 0 := by rw [he]; rfl
    rw [List.length_take] at h2; omega
theorem joinX_len (sep : ByteArray) (c : Nat) : ∀ (n : Nat) (l : List ByteArray), l.length = n → (∀ x ∈ l, x.size ≤ c) → (joinX sep l).size ≤ (c + sep.size) * l.length
  | 0, l, hn, _ => by
    have := List.eq_nil_of_length_eq_zero hn
    subst this; rw [joinX_nil]; simp [bsz]
  | n + 1, l, hn, h => by
    have h1 := joinX_next sep (l := l) (i := n) (by omega)
    rw [List.take_of_length_le (by omega)] at h1
    have h2 := joinX_len sep c n (l.take n) (by rw [List.length_take]; omega) fun x hx => h x (List.mem_of_mem_take hx)
    have h3 := h l[n] (List.getElem_mem (by omega))
    have e : (c + sep.size) * l.length = (c + sep.size) * n + (c + sep.size) := by rw [hn, Nat.mul_succ]
    rw [h1, ByteArray.size_append, ByteArray.size_append, e]
    rw [List.length_take, Nat.min_eq_left (by omega)] at h2
    have : (if n = 0 then (⟨#[]⟩ : ByteArray) else sep).size ≤ sep.size := by
      split
      · exact Nat.zero_le _
      · exact Nat.le_refl _
    omega
theorem joinX_join (sep : ByteArray) (l : List ByteArray) : (Lib.join (l.map (·.data.toList)) sep.data.toList).length = (joinX sep l).size := by
  show _ = Array.size _
  simp []
theorem sjoin_ctr (g : GP) (r : Nat) (l : List ByteArray) (sep : ByteArray) (hl : l.length ≤ 2 ^ 40) (hs : (joinX sep l).size ≤ 2 ^ 46) : Ctr (ax g).E 41 ([.msl r l.length 0 l.length, .str sep].map (frz r 1 (l.map rowB))) [] (fun o => o = .ret (.str (joinX sep l)) []) := by
  have h := join_ctr g false l sep (by omega) (by rw [joinX_join]; omega)
  simp only [List.map_cons, List.map_nil, frz_whole r 1 l.length (l.map rowB) (by simp)]
  exact h
def andB : ByteArray := ⟨#[32, 38, 32]⟩
theorem app_row (L : List ByteArray) (x : ByteArray) : (L.map rowB) ++ [[.v (.string x)]] = (L ++ [x]).map rowB := by simp [rowB]
abbrev OkF (p : PairT) : Prop := (0 ≤ p.1 ∧ p.1 < 65536) ∧ 0 ≤ p.2 ∧ p.2 < 65536
def askG (sign : ByteArray) (p : PairT) : ByteArray := partB p.1 sign p.2
def askW (p : PairT) : ByteArray := (nameF p.1 ++ ⟨#[61]⟩) ++ digB p.2.toNat
theorem askG_len {sign : ByteArray} {p : PairT} (h : OkF p) (hs : sign.size ≤ 2) : (askG sign p).size ≤ 13 := by
  have h1 := digI_len h.1.2
  have h2 := digI_len h.2.2
  simp only [askG, partB, bsz, ByteArray.size_append, List.size_toArray, List.length_cons, List.length_nil]; omega
theorem askW_len {p : PairT} (h : OkF p) : (askW p).size ≤ 13 := by
  have h1 := name_len p.1
  have h2 := digI_len h.2.2
  simp only [askW, bsz, ByteArray.size_append, List.size_toArray, List.length_cons, List.length_nil]; omega
theorem map_next {α β : Type} (f : α → β) {l : List α} {i : Nat} (h : i < l.length) : (l.take (i + 1)).map f = (l.take i).map f ++ [f l[i]] := by
  rw [List.take_succ_eq_append_getElem h, List.map_append]; rfl
theorem buf_row (L : List ByteArray) (x : ByteArray) : some (AObj.buf 1 9 ((L.map rowB) ++ [[.v (.string x)]])) = some (AObj.buf 1 9 ((L ++ [x]).map rowB)) := by rw [app_row]
structure OkR (r : RuleT) : Prop where
  when : ∀ p ∈ r.when, OkF p
  guard : ∀ p ∈ r.guard, OkF p
  thn : ∀ p ∈ r.thn, OkF p
  lw : r.when.length ≤ 2 ^ 20
  lg : r.guard.length ≤ 2 ^ 20
  lt : r.thn.length ≤ 2 ^ 20
def asksB (r : RuleT) : List ByteArray := r.when.map askW ++ r.guard.map (askG ⟨#[61]⟩)
def makesB (r : RuleT) : List ByteArray := r.thn.map (askG ⟨#[58, 61]⟩)
def lineB (r : RuleT) : ByteArray := (((⟨#[111, 110, 32]⟩ ++ joinX andB (asksB r)) ++ ⟨#[32, 61, 62, 32]⟩) ++ joinX andB (makesB r)) ++ ⟨#[32, 46]⟩
theorem asks_len {r : RuleT} (h : OkR r) : (asksB r).length ≤ 2 ^ 21 ∧ ∀ x ∈ asksB r, x.size ≤ 13 := by
  refine ⟨by simp [asksB]; have := h.lw; have := h.lg; omega, fun x hx => ?_⟩
  rcases List.mem_append.1 hx with hx | hx
  · obtain ⟨p, hp, rfl⟩ := List.mem_map.1 hx
    exact askW_len (h.when p hp)
  · obtain ⟨p, hp, rfl⟩ := List.mem_map.1 hx
    exact askG_len (h.guard p hp) (by decide)
theorem makes_len {r : RuleT} (h : OkR r) : (makesB r).length ≤ 2 ^ 21 ∧ ∀ x ∈ makesB r, x.size ≤ 13 := by
  refine ⟨by simp [makesB]; have := h.lt; omega, fun x hx => ?_⟩
  obtain ⟨p, hp, rfl⟩ := List.mem_map.1 hx
  exact askG_len (h.thn p hp) (by decide)
theorem join_small {l : List ByteArray} (h : l.length ≤ 2 ^ 21 ∧ ∀ x ∈ l, x.size ≤ 13) : (joinX andB l).size ≤ 2 ^ 25 := by
  have h1 := joinX_len andB 13 _ l rfl h.2
  have h2 : andB.size = 3 := rfl
  rw [h2] at h1; omega
theorem lineB_len {r : RuleT} (h : OkR r) : (lineB r).size ≤ 2 ^ 27 := by
  have h1 := join_small (asks_len h)
  have h2 := join_small (makes_len h)
  simp only [lineB, bsz, ByteArray.size_append, List.size_toArray, List.length_cons, List.length_nil]; omega
theorem line_ctr (g : GP) (hg : ∀ w, g.G w → PowG w) (r : RuleT) (h : OkR r) : Ctr (ax g).E 37 [.dagg (rowR r)] [] (fun o => o = .ret (.str (lineB r)) []) := by
  have hlw := h.lw; have hlg := h.lg; have hlt := h.lt
  refine Ctr.body (X := ax g) _ 70 [] [.tmp 2] Tryd.func37 rfl rfl rfl rfl (by decide +kernel) rfl rfl ?_
  conv => whnf
  repeat' (first | (refine And.intro (by first | exact rfl | decide | exact Nat.le_of_ble_eq_true rfl | exact ⟨_, rfl⟩ | exact ⟨_, _, rfl⟩ | omega | (simp only [List.length_map]; omega) | exact True.intro | (simp only [IntKind.wrap_i64, List.length_map]; omega) | (simp only [List.map_cons, List.map_nil, List.length_cons, Option.getD]; omega) | (simp only [bsz, ByteArray.size_append, List.size_toArray, List.length_cons, List.length_nil]; omega)) ?_; conv => whnf) | (refine ifB_intro (fun hA => ?_) (fun hA => ?_) <;> (try rw [hA]) <;> (conv => whnf) <;> (first | replace hA := of_decide_eq_true hA | replace hA := of_decide_eq_false hA | replace hA := eq_of_beq hA | replace hA := ne_of_beq_false hA | replace hA := bne_iff_ne.1 hA | replace hA := bne_eq_false_iff_eq.1 hA | skip) <;> (try simp only [List.length_map, cond_true, cond_false, Bool.not_eq_true', Bool.not_eq_false', beq_iff_eq, beq_eq_false_iff_ne, ne_eq] at hA)))
  refine LoopP.own 3 100 1 9 rfl rfl rfl ?_
  refine LoopP.own 4 101 1 9 rfl rfl rfl ?_
  refine LoopP.inv (X := ax g) (fun i : Nat => { f := [(1, .ptr 1 0), (3, .msl 100 i 0 i), (4, .msl 101 0 0 0), (12, .d (.sl false 2 (r.when.map rowF))), (13, .i64 r.when.length), (14, .i64 i)], h := [(100, some (.buf 1 9 (((r.when.take i).map askW).map rowB))), (101, some (.buf 1 9 [])), (1, some (.dvar 3 (rowR r)))] }) (fun i => i ≤ r.when.length) (fun i => r.when.length - i) 0 (Nat.zero_le _) ⟨⟨rfl, rfl, rfl, rfl, AV.int_eq (len_int _ _), rfl, trivial⟩, ⟨fun o h => h, fun o h => h, fun o h => h, trivial⟩⟩ fun i hi => ?_
  have hti : (((r.when.take i).map askW).map rowB).length = i := by simp; omega
  by_cases hlt : i < r.when.length
  · obtain ⟨⟨o1, o2⟩, o3, o4⟩ := h.when _ (List.getElem_mem hlt)
    have h1 := name_len r.when[i].1
    have h2 := digI_len o4
    conv => whnf
    refine ifB_true (decide_eq_true (by omega)) ?_
    conv => whnf
    repeat' (first | (refine And.intro (by first | exact rfl | decide | exact Nat.le_of_ble_eq_true rfl | exact ⟨_, rfl⟩ | exact ⟨_, _, rfl⟩ | omega | (simp only [List.length_map]; omega) | exact True.intro | (simp only [List.length_map]; omega) | (simp only [List.length_cons]; omega) | (simp only [bsz, ByteArray.size_append, List.size_toArray, List.length_cons, List.length_nil]; omega)) ?_; conv => whnf) | (refine ifB_intro (fun hA => ?_) (fun hA => ?_) <;> (try rw [hA]) <;> (conv => whnf) <;> (first | replace hA := of_decide_eq_true hA | replace hA := of_decide_eq_false hA | replace hA := eq_of_beq hA | replace hA := ne_of_beq_false hA | replace hA := bne_iff_ne.1 hA | replace hA := bne_eq_false_iff_eq.1 hA | skip) <;> (try simp only [List.length_map, cond_true, cond_false, Bool.not_eq_true', Bool.not_eq_false', beq_iff_eq, beq_eq_false_iff_ne, ne_eq] at hA)) | (refine DrawP.intro (X := ax g) (id := 5) B37_5 (by kernel_rfl) (by decide +kernel) ?_; conv => whnf) | (rw [getD_map rowF r.when i [] hlt]; conv => whnf) | (refine CallP.det (name_ctr g _) ?_; conv => whnf) | (refine CallD.det (name_ctr g _) ?_; conv => whnf) | (refine CallP.det (digits6_ctr g hg _ ⟨o3, o4⟩) ?_; conv => whnf) | (refine CallD.det (digits6_ctr g hg _ ⟨o3, o4⟩) ?_; conv => whnf) | (refine And.intro (by simp only [bsz, ByteArray.size_append, List.size_toArray, List.length_cons, List.length_nil]; omega) ?_; conv => whnf))
    exact ⟨i + 1, by omega, by omega, ⟨⟨rfl, msl_eq (by show _ + 1 = i + 1; rw [hti]), rfl, rfl, rfl, AV.int_eq (i64_succ (by omega)), trivial⟩, ⟨fun o h => by rw [← h, map_next _ hlt]; exact buf_row _ _, fun o h => h, fun o h => h, trivial⟩⟩⟩
  · have hi2 : i = r.when.length := by omega
    conv => whnf
    refine ifB_false (decide_eq_false (by omega)) ?_
    conv => whnf
    repeat' (first | (refine And.intro (by first | exact rfl | decide | exact Nat.le_of_ble_eq_true rfl | exact ⟨_, rfl⟩ | exact ⟨_, _, rfl⟩ | omega | (simp only [List.length_map]; omega) | exact True.intro | (simp only [IntKind.wrap_i64, List.length_map]; omega) | (simp only [List.map_cons, List.map_nil, List.length_cons, Option.getD]; omega) | (simp only [bsz, ByteArray.size_append, List.size_toArray, List.length_cons, List.length_nil]; omega)) ?_; conv => whnf) | (refine ifB_intro (fun hA => ?_) (fun hA => ?_) <;> (try rw [hA]) <;> (conv => whnf) <;> (first | replace hA := of_decide_eq_true hA | replace hA := of_decide_eq_false hA | replace hA := eq_of_beq hA | replace hA := ne_of_beq_false hA | replace hA := bne_iff_ne.1 hA | replace hA := bne_eq_false_iff_eq.1 hA | skip) <;> (try simp only [List.length_map, cond_true, cond_false, Bool.not_eq_true', Bool.not_eq_false', beq_iff_eq, beq_eq_false_iff_ne, ne_eq] at hA)))
    subst hi2
    rw [List.take_length] at hti ⊢
    clear hti hlt hi
    refine LoopP.inv (X := ax g) (fun i : Nat => { f := [(1, .ptr 1 0), (3, .msl 100 (r.when.length + i) 0 (r.when.length + i)), (4, .msl 101 0 0 0), (31, .d (.sl false 2 (r.guard.map rowF))), (32, .i64 r.guard.length), (33, .i64 i)], h := [(100, some (.buf 1 9 ((r.when.map askW ++ (r.guard.take i).map (askG ⟨#[61]⟩)).map rowB))), (101, some (.buf 1 9 [])), (1, some (.dvar 3 (rowR r)))] }) (fun i => i ≤ r.guard.length) (fun i => r.guard.length - i) 0 (Nat.zero_le _) ⟨⟨rfl, rfl, rfl, rfl, AV.int_eq (len_int _ _), rfl, trivial⟩, ⟨fun o h => by rw [← h, List.take_zero, List.map_nil, List.append_nil]; rfl, fun o h => h, fun o h => h, trivial⟩⟩ fun i hi => ?_
    have hti : ((r.when.map askW ++ (r.guard.take i).map (askG ⟨#[61]⟩)).map rowB).length = r.when.length + i := by simp; omega
    by_cases hlt : i < r.guard.length
    · obtain ⟨o12, o34⟩ := h.guard _ (List.getElem_mem hlt)
      conv => whnf
      refine ifB_true (decide_eq_true (by omega)) ?_
      conv => whnf
      repeat' (first | (refine And.intro (by first | exact rfl | decide | exact Nat.le_of_ble_eq_true rfl | exact ⟨_, rfl⟩ | exact ⟨_, _, rfl⟩ | omega | (simp only [List.length_map]; omega) | exact True.intro | (simp only [List.length_map]; omega) | (simp only [List.length_cons]; omega) | (simp only [List.length_cons, List.length_nil]; omega)) ?_; conv => whnf) | (refine ifB_intro (fun hA => ?_) (fun hA => ?_) <;> (try rw [hA]) <;> (conv => whnf) <;> (first | replace hA := of_decide_eq_true hA | replace hA := of_decide_eq_false hA | replace hA := eq_of_beq hA | replace hA := ne_of_beq_false hA | replace hA := bne_iff_ne.1 hA | replace hA := bne_eq_false_iff_eq.1 hA | skip) <;> (try simp only [List.length_map, cond_true, cond_false, Bool.not_eq_true', Bool.not_eq_false', beq_iff_eq, beq_eq_false_iff_ne, ne_eq] at hA)) | (rw [getD_map rowF r.guard i [] hlt]; conv => whnf) | (refine CallP.det (part_ctr g hg _ _ _ o12 o34 (by decide)) ?_; conv => whnf) | (refine CallD.det (part_ctr g hg _ _ _ o12 o34 (by decide)) ?_; conv => whnf))
      exact ⟨i + 1, by omega, by omega, ⟨⟨rfl, msl_eq (by show _ + 1 = _ + (i + 1); rw [hti]; omega), rfl, rfl, rfl, AV.int_eq (i64_succ (by omega)), trivial⟩, ⟨fun o h => by rw [← h, map_next _ hlt, ← List.append_assoc]; exact buf_row _ _, fun o h => h, fun o h => h, trivial⟩⟩⟩
    · have hi2 : i = r.guard.length := by omega
      conv => whnf
      refine ifB_false (decide_eq_false (by omega)) ?_
      conv => whnf
      repeat' (first | (refine And.intro (by first | exact rfl | decide | exact Nat.le_of_ble_eq_true rfl | exact ⟨_, rfl⟩ | exact ⟨_, _, rfl⟩ | omega | (simp only [List.length_map]; omega) | exact True.intro | (simp only [IntKind.wrap_i64, List.length_map]; omega) | (simp only [List.map_cons, List.map_nil, List.length_cons, Option.getD]; omega) | (simp only [bsz, ByteArray.size_append, List.size_toArray, List.length_cons, List.length_nil]; omega)) ?_; conv => whnf) | (refine ifB_intro (fun hA => ?_) (fun hA => ?_) <;> (try rw [hA]) <;> (conv => whnf) <;> (first | replace hA := of_decide_eq_true hA | replace hA := of_decide_eq_false hA | replace hA := eq_of_beq hA | replace hA := ne_of_beq_false hA | replace hA := bne_iff_ne.1 hA | replace hA := bne_eq_false_iff_eq.1 hA | skip) <;> (try simp only [List.length_map, cond_true, cond_false, Bool.not_eq_true', Bool.not_eq_false', beq_iff_eq, beq_eq_false_iff_ne, ne_eq] at hA)))
      subst hi2
      rw [List.take_length] at hti ⊢
      have hal : r.when.length + r.guard.length = (asksB r).length := by simp [asksB]
      have has : r.when.map askW ++ r.guard.map (askG ⟨#[61]⟩) = asksB r := rfl
      rw [has] at hti ⊢
      rw [hal]
      clear hti hlt hi has
      refine LoopP.inv (X := ax g) (fun i : Nat => { f := [(3, .msl 100 (asksB r).length 0 (asksB r).length), (4, .msl 101 i 0 i), (47, .d (.sl false 2 (r.thn.map rowF))), (48, .i64 r.thn.length), (49, .i64 i)], h := [(100, some (.buf 1 9 ((asksB r).map rowB))), (101, some (.buf 1 9 (((r.thn.take i).map (askG ⟨#[58, 61]⟩)).map rowB)))] }) (fun i => i ≤ r.thn.length) (fun i => r.thn.length - i) 0 (Nat.zero_le _) ⟨⟨rfl, rfl, rfl, AV.int_eq (len_int _ _), rfl, trivial⟩, ⟨fun o h => h, fun o h => h, trivial⟩⟩ fun i hi => ?_
      have hti : (((r.thn.take i).map (askG ⟨#[58, 61]⟩)).map rowB).length = i := by simp; omega
      by_cases hlt : i < r.thn.length
      · obtain ⟨o12, o34⟩ := h.thn _ (List.getElem_mem hlt)
        conv => whnf
        refine ifB_true (decide_eq_true (by omega)) ?_
        conv => whnf
        repeat' (first | (refine And.intro (by first | exact rfl | decide | exact Nat.le_of_ble_eq_true rfl | exact ⟨_, rfl⟩ | exact ⟨_, _, rfl⟩ | omega | (simp only [List.length_map]; omega) | exact True.intro | (simp only [List.length_map]; omega) | (simp only [List.length_cons]; omega) | (simp only [List.length_cons, List.length_nil]; omega)) ?_; conv => whnf) | (refine ifB_intro (fun hA => ?_) (fun hA => ?_) <;> (try rw [hA]) <;> (conv => whnf) <;> (first | replace hA := of_decide_eq_true hA | replace hA := of_decide_eq_false hA | replace hA := eq_of_beq hA | replace hA := ne_of_beq_false hA | replace hA := bne_iff_ne.1 hA | replace hA := bne_eq_false_iff_eq.1 hA | skip) <;> (try simp only [List.length_map, cond_true, cond_false, Bool.not_eq_true', Bool.not_eq_false', beq_iff_eq, beq_eq_false_iff_ne, ne_eq] at hA)) | (rw [getD_map rowF r.thn i [] hlt]; conv => whnf) | (refine CallP.det (part_ctr g hg _ _ _ o12 o34 (by decide)) ?_; conv => whnf) | (refine CallD.det (part_ctr g hg _ _ _ o12 o34 (by decide)) ?_; conv => whnf))
        exact ⟨i + 1, by omega, by omega, ⟨⟨rfl, msl_eq (by show _ + 1 = i + 1; rw [hti]), rfl, rfl, AV.int_eq (i64_succ (by omega)), trivial⟩, ⟨fun o h => h, fun o h => by rw [← h, map_next _ hlt]; exact buf_row _ _, trivial⟩⟩⟩
      · have hi2 : i = (makesB r).length := by simp [makesB]; omega
        have hmk : (r.thn.take i).map (askG ⟨#[58, 61]⟩) = makesB r := by rw [List.take_of_length_le (by omega)]; rfl
        have j1 := join_small (asks_len h)
        have j2 := join_small (makes_len h)
        have l1 := (asks_len h).1
        have l2 := (makes_len h).1
        rw [hmk, hi2]
        conv => whnf
        refine ifB_false (decide_eq_false (by simp [makesB])) ?_
        conv => whnf
        repeat' (first | (refine And.intro (by first | exact rfl | decide | exact Nat.le_of_ble_eq_true rfl | exact ⟨_, rfl⟩ | exact ⟨_, _, rfl⟩ | omega | (simp only [List.length_map]; omega) | exact True.intro | (simp only [IntKind.wrap_i64, List.length_map]; omega) | (simp only [List.map_cons, List.map_nil, List.length_cons, Option.getD]; omega) | (simp only [bsz, ByteArray.size_append, List.size_toArray, List.length_cons, List.length_nil]; omega)) ?_; conv => whnf) | (refine ifB_intro (fun hA => ?_) (fun hA => ?_) <;> (try rw [hA]) <;> (conv => whnf) <;> (first | replace hA := of_decide_eq_true hA | replace hA := of_decide_eq_false hA | replace hA := eq_of_beq hA | replace hA := ne_of_beq_false hA | replace hA := bne_iff_ne.1 hA | replace hA := bne_eq_false_iff_eq.1 hA | skip) <;> (try simp only [List.length_map, cond_true, cond_false, Bool.not_eq_true', Bool.not_eq_false', beq_iff_eq, beq_eq_false_iff_ne, ne_eq] at hA)))
        refine CallP.give 100 1 9 ((asksB r).map rowB) rfl (sjoin_ctr g 100 (asksB r) andB (by omega) (by omega)) ?_
        conv => whnf
        repeat' (first | (refine And.intro (by first | exact rfl | decide | exact Nat.le_of_ble_eq_true rfl | exact ⟨_, rfl⟩ | exact ⟨_, _, rfl⟩ | omega | (simp only [List.length_map]; omega) | exact True.intro | (simp only [IntKind.wrap_i64, List.length_map]; omega) | (simp only [List.map_cons, List.map_nil, List.length_cons, Option.getD]; omega) | (simp only [bsz, ByteArray.size_append, List.size_toArray, List.length_cons, List.length_nil]; omega)) ?_; conv => whnf) | (refine ifB_intro (fun hA => ?_) (fun hA => ?_) <;> (try rw [hA]) <;> (conv => whnf) <;> (first | replace hA := of_decide_eq_true hA | replace hA := of_decide_eq_false hA | replace hA := eq_of_beq hA | replace hA := ne_of_beq_false hA | replace hA := bne_iff_ne.1 hA | replace hA := bne_eq_false_iff_eq.1 hA | skip) <;> (try simp only [List.length_map, cond_true, cond_false, Bool.not_eq_true', Bool.not_eq_false', beq_iff_eq, beq_eq_false_iff_ne, ne_eq] at hA)) | (refine And.intro (by simp only [bsz, ByteArray.size_append, List.size_toArray, List.length_cons, List.length_nil]; omega) ?_; conv => whnf))
        refine CallP.give 101 1 9 ((makesB r).map rowB) rfl (sjoin_ctr g 101 (makesB r) andB (by omega) (by omega)) ?_
        conv => whnf
        repeat' (first | (refine And.intro (by first | exact rfl | decide | exact Nat.le_of_ble_eq_true rfl | exact ⟨_, rfl⟩ | exact ⟨_, _, rfl⟩ | omega | (simp only [List.length_map]; omega) | exact True.intro | (simp only [IntKind.wrap_i64, List.length_map]; omega) | (simp only [List.map_cons, List.map_nil, List.length_cons, Option.getD]; omega) | (simp only [bsz, ByteArray.size_append, List.size_toArray, List.length_cons, List.length_nil]; omega)) ?_; conv => whnf) | (refine ifB_intro (fun hA => ?_) (fun hA => ?_) <;> (try rw [hA]) <;> (conv => whnf) <;> (first | replace hA := of_decide_eq_true hA | replace hA := of_decide_eq_false hA | replace hA := eq_of_beq hA | replace hA := ne_of_beq_false hA | replace hA := bne_iff_ne.1 hA | replace hA := bne_eq_false_iff_eq.1 hA | skip) <;> (try simp only [List.length_map, cond_true, cond_false, Bool.not_eq_true', Bool.not_eq_false', beq_iff_eq, beq_eq_false_iff_ne, ne_eq] at hA)) | (refine And.intro (by simp only [bsz, ByteArray.size_append, List.size_toArray, List.length_cons, List.length_nil]; omega) ?_; conv => whnf))
        refine ⟨⟨[], ?_⟩⟩
        conv => whnf
        rfl
end Go.Ax
namespace Go.Ax
open Go.Proofs
set_option maxRecDepth 10000
structure TypR (r : RuleT) : Prop where
  when : ∀ p ∈ r.when, 0 ≤ p.2 ∧ p.2 < 65536
  guard : ∀ p ∈ r.guard, 0 ≤ p.2 ∧ p.2 < 65536
  thn : ∀ p ∈ r.thn, 0 ≤ p.2 ∧ p.2 < 65536
  lw : r.when.length ≤ 2 ^ 20
  lg : r.guard.length ≤ 2 ^ 20
  lt : r.thn.length ≤ 2 ^ 20
structure OkG (x : ProgT) : Prop where
  init : ∀ n ∈ x.init, 0 ≤ n ∧ n < 65536
  il : x.init.length ≤ 2 ^ 20
  pol : okPol x.pol
  ps : sizeP x.pol ≤ 2 ^ 20
  rules : ∀ r ∈ x.rules, TypR r
  rl : x.rules.length ≤ 2 ^ 20
theorem OkG.small {x : ProgT} (h : OkG x) : SmallG x :=
  ⟨by have := h.il; omega, by have := h.ps; omega, by have := h.rl; omega, fun r hr => ⟨by have := (h.rules r hr).lw; omega, by have := (h.rules r hr).lg; omega, by have := (h.rules r hr).lt; omega⟩⟩
theorem risesF_at {b : Int} {l : List PairT} (h : risesF b l = true) {p : PairT} (hp : p ∈ l) : 0 ≤ p.1 ∧ p.1 < b := by
  obtain ⟨i, hi, rfl⟩ := List.mem_iff_getElem.1 hp
  have := alln_at h hi
  simp [risesAt, List.getD, hi] at this
  omega
theorem ruleOk_split {k : Int} {r : RuleT} (h : ruleOk k r = true) : risesF 8 r.when = true ∧ risesF k r.guard = true ∧ risesF k r.thn = true := by
  simp [ruleOk] at h
  exact ⟨h.1.1.1.2, h.1.1.2, h.1.2⟩
theorem OkR.of {k : Int} {r : RuleT} (hk : k ≤ 60000) (ht : TypR r) (h : ruleOk k r = true) : OkR r := by
  obtain ⟨h1, h2, h3⟩ := ruleOk_split h
  exact ⟨fun p hp => ⟨by have := risesF_at h1 hp; omega, ht.when p hp⟩, fun p hp => ⟨by have := risesF_at h2 hp; omega, ht.guard p hp⟩, fun p hp => ⟨by have := risesF_at h3 hp; omega, ht.thn p hp⟩, ht.lw, ht.lg, ht.lt⟩
theorem check_zero {x : ProgT} (h : checkP x = 0) : (1 ≤ x.init.length ∧ x.init.length ≤ 4) ∧ sizeP x.pol ≤ 300 ∧ formP x.init.length x.pol = true ∧ ∀ r ∈ x.rules, ruleOk x.init.length r = true := by
  unfold checkP at h
  split at h
  · exact absurd h (by decide)
  · split at h
    · exact absurd h (by decide)
    · rename_i h1 h2
      split at h
      · rename_i h3
        exact ⟨by omega, by omega, by simpa using h2, List.all_eq_true.1 h3⟩
      · exact absurd h (by decide)
def polG (p : PolT) : ProgT := ⟨[0, 0, 0, 0], p, []⟩
theorem okPolG {p : PolT} (h : okPol p) (hs : sizeP p ≤ 2 ^ 20) : OkG (polG p) :=
  ⟨by simp [polG], by simp [polG], h, hs, by simp [polG], by simp [polG]⟩
def showPF (p : PolT) : ByteArray := if checkP (polG p) = 0 then polB p else ⟨#[]⟩
theorem showpol_ctr (g : GP) (hg : ∀ w, g.G w → PowG w) (p : PolT) (ho : okPol p) (hs : sizeP p ≤ 2 ^ 20) : Ctr (ax g).E 30 [.dagg (rowP4 p)] [] (fun o => o = .ret (.str (showPF p)) []) := by
  have hc := (check5_ctr g (polG p) (okPolG ho hs).small).le1 (xs := [.sl false 1 zero4, .i64 p.op, .i64 p.f, .u16 p.n, .sl false 4 (p.kids.map rowO4), .v (.slice none 0 0)]) ⟨.inl rfl, .inl rfl, .inl rfl, .inl rfl, .inl rfl, .inr (.inl ⟨rfl, false, 3, rfl⟩), trivial⟩
  refine Ctr.body (X := ax g) _ 13 [] [.tmp 2] Tryd.func30 rfl rfl rfl rfl (by decide +kernel) rfl rfl ?_
  conv => whnf
  repeat' (first | (refine And.intro (by first | exact rfl | decide | exact Nat.le_of_ble_eq_true rfl | exact ⟨_, rfl⟩ | exact ⟨_, _, rfl⟩ | exact Nat.le_refl _ | exact Int.le_refl _ | omega | (simp only []; omega) | exact True.intro | (simp only []; omega) | (simp only [List.length_cons]; omega) | (simp only [List.length_cons, List.length_nil]; omega) | exact ⟨⟨_, _, rfl, rfl, Nat.le_of_ble_eq_true rfl⟩, trivial⟩ | exact ⟨⟨_, _, rfl, rfl, Nat.le_of_ble_eq_true rfl⟩, ⟨_, _, rfl, rfl, Nat.le_of_ble_eq_true rfl⟩, trivial⟩ | exact ⟨⟨_, _, rfl, rfl, Nat.le_of_ble_eq_true rfl⟩, ⟨_, _, rfl, rfl, Nat.le_of_ble_eq_true rfl⟩, ⟨_, _, rfl, rfl, Nat.le_of_ble_eq_true rfl⟩, trivial⟩) ?_; conv => whnf) | (refine ifB_intro (fun hA => ?_) (fun hA => ?_) <;> (try rw [hA]) <;> (conv => whnf) <;> (first | replace hA := of_decide_eq_true hA | replace hA := of_decide_eq_false hA | replace hA := eq_of_beq hA | replace hA := ne_of_beq_false hA | replace hA := bne_iff_ne.1 hA | replace hA := bne_eq_false_iff_eq.1 hA | skip) <;> (try simp only [ne_eq] at hA)) | (refine CallP.det (any_ctr g _ _ _ _ _ _) ?_; conv => whnf) | (refine CallD.det (any_ctr g _ _ _ _ _ _) ?_; conv => whnf) | (refine CallP.det (hc) ?_; conv => whnf) | (refine CallD.det (hc) ?_; conv => whnf) | (rw [getD_map _ _ _ _ (by assumption)]; conv => whnf))
  · refine ⟨⟨[], ?_⟩⟩
    conv => whnf
    rw [showPF, if_neg (by simpa using hA)]
  · have hz : checkP (polG p) = 0 := by simpa using hA
    obtain ⟨_, h300, hf, _⟩ := check_zero hz
    have hp := pol_ctr g hg _ (by simp [polG]) _ p (Nat.le_refl _) ho hf ⟨#[]⟩ (by simp [bsz]; omega)
    rw [nilb] at hp
    have hp2 := (Ctr.fromNew bldT110 hp).swap 9000 3
    repeat' (first | (refine And.intro (by first | exact rfl | decide | exact Nat.le_of_ble_eq_true rfl | exact ⟨_, rfl⟩ | exact ⟨_, _, rfl⟩ | exact Nat.le_refl _ | exact Int.le_refl _ | omega | (simp only [List.length_map]; omega) | exact True.intro | (simp only [IntKind.wrap_i64, List.length_map]; omega) | (simp only [List.map_cons, List.map_nil, List.length_cons, Option.getD]; omega) | (simp only [bsz, ByteArray.size_append, List.size_toArray, List.length_cons, List.length_nil]; omega) | exact ⟨⟨_, _, rfl, rfl, Nat.le_of_ble_eq_true rfl⟩, trivial⟩ | exact ⟨⟨_, _, rfl, rfl, Nat.le_of_ble_eq_true rfl⟩, ⟨_, _, rfl, rfl, Nat.le_of_ble_eq_true rfl⟩, trivial⟩ | exact ⟨⟨_, _, rfl, rfl, Nat.le_of_ble_eq_true rfl⟩, ⟨_, _, rfl, rfl, Nat.le_of_ble_eq_true rfl⟩, ⟨_, _, rfl, rfl, Nat.le_of_ble_eq_true rfl⟩, trivial⟩) ?_; conv => whnf) | (refine ifB_intro (fun hA => ?_) (fun hA => ?_) <;> (try rw [hA]) <;> (conv => whnf) <;> (first | replace hA := of_decide_eq_true hA | replace hA := of_decide_eq_false hA | replace hA := eq_of_beq hA | replace hA := ne_of_beq_false hA | replace hA := bne_iff_ne.1 hA | replace hA := bne_eq_false_iff_eq.1 hA | skip) <;> (try simp only [List.length_map, cond_true, cond_false, Bool.not_eq_true', Bool.not_eq_false', beq_iff_eq, beq_eq_false_iff_ne, ne_eq] at hA)) | (refine CallP.upd rfl (hp2) ?_; conv => whnf) | (refine CallD.upd rfl (hp2) ?_; conv => whnf) | (rw [getD_map _ _ _ _ (by assumption)]; conv => whnf))
    refine CallP.ends rfl (string3 g _) ?_
    conv => whnf
    repeat' (first | (refine And.intro (by first | exact rfl | decide | exact Nat.le_of_ble_eq_true rfl | exact ⟨_, rfl⟩ | exact ⟨_, _, rfl⟩ | exact Nat.le_refl _ | exact Int.le_refl _ | omega | (simp only [List.length_map]; omega) | exact True.intro | (simp only [IntKind.wrap_i64, List.length_map]; omega) | (simp only [List.map_cons, List.map_nil, List.length_cons, Option.getD]; omega) | (simp only [bsz, ByteArray.size_append, List.size_toArray, List.length_cons, List.length_nil]; omega) | exact ⟨⟨_, _, rfl, rfl, Nat.le_of_ble_eq_true rfl⟩, trivial⟩ | exact ⟨⟨_, _, rfl, rfl, Nat.le_of_ble_eq_true rfl⟩, ⟨_, _, rfl, rfl, Nat.le_of_ble_eq_true rfl⟩, trivial⟩ | exact ⟨⟨_, _, rfl, rfl, Nat.le_of_ble_eq_true rfl⟩, ⟨_, _, rfl, rfl, Nat.le_of_ble_eq_true rfl⟩, ⟨_, _, rfl, rfl, Nat.le_of_ble_eq_true rfl⟩, trivial⟩) ?_; conv => whnf) | (refine ifB_intro (fun hA => ?_) (fun hA => ?_) <;> (try rw [hA]) <;> (conv => whnf) <;> (first | replace hA := of_decide_eq_true hA | replace hA := of_decide_eq_false hA | replace hA := eq_of_beq hA | replace hA := ne_of_beq_false hA | replace hA := bne_iff_ne.1 hA | replace hA := bne_eq_false_iff_eq.1 hA | skip) <;> (try simp only [List.length_map, cond_true, cond_false, Bool.not_eq_true', Bool.not_eq_false', beq_iff_eq, beq_eq_false_iff_ne, ne_eq] at hA)) | (rw [getD_map _ _ _ _ (by assumption)]; conv => whnf))
    refine ⟨⟨[], ?_⟩⟩
    conv => whnf
    rw [showPF, if_pos hz]
end Go.Ax
namespace Go.Ax
open Go.Proofs
set_option maxRecDepth 10000
def initB : ByteArray := ⟨#[105, 110, 105, 116]⟩
def policyB : ByteArray := ⟨#[32, 46, 10, 112, 111, 108, 105, 99, 121, 32]⟩
def rlB (b : ByteArray) (r : RuleT) : ByteArray := b ++ (lineB r ++ ⟨#[10]⟩)
def headG (x : ProgT) : ByteArray := ((x.init.foldl swB initB ++ policyB) ++ polB x.pol) ++ dotB
def progB (x : ProgT) : ByteArray := x.rules.foldl rlB (headG x)
def showGF (x : ProgT) : ByteArray := if checkP x = 0 then progB x else ⟨#[]⟩
theorem rlB_size {r : RuleT} (h : OkR r) (b : ByteArray) : (rlB b r).size ≤ b.size + 2 ^ 28 := by
  have := lineB_len h
  simp only [rlB, bsz, ByteArray.size_append, List.size_toArray, List.length_cons, List.length_nil]; omega
theorem init_size {l : List Int} (h : ∀ n ∈ l, 0 ≤ n ∧ n < 65536) (hl : l.length ≤ 2 ^ 20) (i : Nat) : ((l.take i).foldl swB initB).size ≤ 2 ^ 23 := by
  have h1 := foldl_size swB 6 (l.take i) initB fun n hn b => swB_size (h n (List.mem_of_mem_take hn)) b
  have h2 : (l.take i).length ≤ l.length := by simp; omega
  have h3 : initB.size = 4 := rfl
  omega
theorem check_rules {x : ProgT} (h : checkP x = 0) : x.rules.length ≤ 24 := by
  unfold checkP at h
  split at h
  · exact absurd h (by decide)
  · omega
theorem rules_size {l : List RuleT} {b : ByteArray} (hb : b.size ≤ 2 ^ 24) (h : ∀ r ∈ l, OkR r) (hl : l.length ≤ 24) (i : Nat) : ((l.take i).foldl rlB b).size ≤ 2 ^ 34 := by
  have h1 := foldl_size rlB (2 ^ 28) (l.take i) b fun r hr c => rlB_size (h r (List.mem_of_mem_take hr)) c
  have h2 : (l.take i).length ≤ l.length := by simp; omega
  omega
theorem showprog_ctr (g : GP) (hg : ∀ w, g.G w → PowG w) (x : ProgT) (ho : OkG x) : Ctr (ax g).E 21 [.dagg (rowG x)] [] (fun o => o = .ret (.str (showGF x)) []) := by
  have hc := check5_ctr g x ho.small
  have hil := ho.il
  have hrl := ho.rl
  refine Ctr.body (X := ax g) _ 48 [] [.tmp 2] Tryd.func21 rfl rfl rfl rfl (by decide +kernel) rfl rfl ?_
  conv => whnf
  repeat' (first | (refine And.intro (by first | exact rfl | decide | exact Nat.le_of_ble_eq_true rfl | exact ⟨_, rfl⟩ | exact ⟨_, _, rfl⟩ | omega | (simp only [List.length_map]; omega) | exact True.intro | (simp only [IntKind.wrap_i64, List.length_map]; omega) | (simp only [List.map_cons, List.map_nil, List.length_cons, Option.getD]; omega) | (simp only [bsz, ByteArray.size_append, List.size_toArray, List.length_cons, List.length_nil]; omega)) ?_; conv => whnf) | (refine ifB_intro (fun hA => ?_) (fun hA => ?_) <;> (try rw [hA]) <;> (conv => whnf) <;> (first | replace hA := of_decide_eq_true hA | replace hA := of_decide_eq_false hA | replace hA := eq_of_beq hA | replace hA := ne_of_beq_false hA | replace hA := bne_iff_ne.1 hA | replace hA := bne_eq_false_iff_eq.1 hA | skip) <;> (try simp only [ne_eq] at hA)) | (refine CallP.det (hc) ?_; conv => whnf) | (refine CallD.det (hc) ?_; conv => whnf))
  · refine ⟨⟨[], ?_⟩⟩
    conv => whnf
    rw [showGF, if_neg (by simpa using hA)]
  · have hz : checkP x = 0 := by simpa using hA
    obtain ⟨hk, h300, hf, hr⟩ := check_zero hz
    have hr2 : ∀ r ∈ x.rules, OkR r := fun r hm => .of (by omega) (ho.rules r hm) (hr r hm)
    have hpl := polB_len (by omega) _ x.pol (Nat.le_refl _) ho.pol hf
    have w0 := (Ctr.fromNew bldT110 (write_ctr g ⟨#[]⟩ initB (by decide) (by decide))).swap 9000 3
    rw [nilb] at w0
    repeat' (first | (refine And.intro (by first | exact rfl | decide | exact Nat.le_of_ble_eq_true rfl | exact ⟨_, rfl⟩ | exact ⟨_, _, rfl⟩ | omega | (simp only [List.length_map]; omega) | exact True.intro | (simp only [IntKind.wrap_i64, List.length_map]; omega) | (simp only [List.map_cons, List.map_nil, List.length_cons, Option.getD]; omega) | (simp only [bsz, ByteArray.size_append, List.size_toArray, List.length_cons, List.length_nil]; omega)) ?_; conv => whnf) | (refine ifB_intro (fun hA => ?_) (fun hA => ?_) <;> (try rw [hA]) <;> (conv => whnf) <;> (first | replace hA := of_decide_eq_true hA | replace hA := of_decide_eq_false hA | replace hA := eq_of_beq hA | replace hA := ne_of_beq_false hA | replace hA := bne_iff_ne.1 hA | replace hA := bne_eq_false_iff_eq.1 hA | skip) <;> (try simp only [List.length_map, cond_true, cond_false, Bool.not_eq_true', Bool.not_eq_false', beq_iff_eq, beq_eq_false_iff_ne, ne_eq] at hA)) | (refine CallP.upd rfl (w0) ?_; conv => whnf) | (refine CallD.upd rfl (w0) ?_; conv => whnf))
    refine LoopP.inv (X := ax g) (fun i : Nat => { f := [(1, .ptr 1 0), (2, .str ⟨#[]⟩), (3, .ptr 3 0), (14, .d (.sl false 1 (x.init.map rowS))), (15, .i64 x.init.length), (16, .i64 i)], h := [(1, some (.dvar 6 (rowG x))), (3, some (bldO ((x.init.take i).foldl swB initB)))] }) (fun i => i ≤ x.init.length) (fun i => x.init.length - i) 0 (Nat.zero_le _) ⟨⟨rfl, rfl, rfl, rfl, AV.int_eq (len_int _ _), rfl, trivial⟩, ⟨fun o h => h, fun o h => h, trivial⟩⟩ fun i hi => ?_
    have hz0 := init_size ho.init hil i
    by_cases hlt : i < x.init.length
    · have hn := ho.init _ (List.getElem_mem hlt)
      have hd := digI_len hn.2
      conv => whnf
      refine ifB_true (decide_eq_true (by omega)) ?_
      conv => whnf
      repeat' (first | (refine And.intro (by first | exact rfl | decide | exact Nat.le_of_ble_eq_true rfl | exact ⟨_, rfl⟩ | exact ⟨_, _, rfl⟩ | omega | (simp only [List.length_map]; omega) | exact True.intro | (simp only []; omega) | (simp only []; omega) | (simp only [bsz, List.size_toArray, List.length_cons, List.length_nil]; omega)) ?_; conv => whnf) | (refine ifB_intro (fun hA => ?_) (fun hA => ?_) <;> (try rw [hA]) <;> (conv => whnf) <;> (first | replace hA := of_decide_eq_true hA | replace hA := of_decide_eq_false hA | replace hA := eq_of_beq hA | replace hA := ne_of_beq_false hA | replace hA := bne_iff_ne.1 hA | replace hA := bne_eq_false_iff_eq.1 hA | skip) <;> (try simp only [List.length_map, cond_true, cond_false, Bool.not_eq_true', Bool.not_eq_false', beq_iff_eq, beq_eq_false_iff_ne, ne_eq] at hA)) | (rw [getD_map rowS x.init i [] hlt]; conv => whnf) | (refine CallP.det (digits6_ctr g hg _ hn) ?_; conv => whnf) | (refine CallD.det (digits6_ctr g hg _ hn) ?_; conv => whnf) | (refine And.intro (by simp only [bsz, ByteArray.size_append, List.size_toArray, List.length_cons, List.length_nil]; omega) ?_; conv => whnf) | (refine CallP.upd rfl (write3 g _ _ (by simp only [bsz, ByteArray.size_append, List.size_toArray, List.length_cons, List.length_nil]; omega) (by simp only [bsz, ByteArray.size_append, List.size_toArray, List.length_cons, List.length_nil]; omega)) ?_; conv => whnf) | (refine CallD.upd rfl (write3 g _ _ (by simp only [bsz, ByteArray.size_append, List.size_toArray, List.length_cons, List.length_nil]; omega) (by simp only [bsz, ByteArray.size_append, List.size_toArray, List.length_cons, List.length_nil]; omega)) ?_; conv => whnf))
      exact ⟨i + 1, by omega, by omega, ⟨⟨rfl, rfl, rfl, rfl, rfl, AV.int_eq (i64_succ (by omega)), trivial⟩, ⟨fun o h => h, fun o h => by rw [← h, foldl_next swB initB x.init i hlt]; rfl, trivial⟩⟩⟩
    · have hi2 : i = x.init.length := by omega
      subst hi2
      rw [List.take_length] at hz0 ⊢
      have hp := (pol_ctr g hg _ (show (x.init.length : Int) ≤ 60000 by omega) _ x.pol (Nat.le_refl _) ho.pol hf (x.init.foldl swB initB ++ policyB) (by rw [ByteArray.size_append]; have : policyB.size = 10 := rfl; omega)).swap 9000 3
      have hhd : (headG x).size ≤ 2 ^ 24 := by
        simp only [headG, ByteArray.size_append]
        have : policyB.size = 10 := rfl
        have : dotB.size = 3 := rfl
        omega
      conv => whnf
      refine ifB_false (decide_eq_false (by omega)) ?_
      conv => whnf
      repeat' (first | (refine And.intro (by first | exact rfl | decide | exact Nat.le_of_ble_eq_true rfl | exact ⟨_, rfl⟩ | exact ⟨_, _, rfl⟩ | omega | (simp only [List.length_map]; omega) | exact True.intro | (simp only [IntKind.wrap_i64, List.length_map]; omega) | (simp only [List.map_cons, List.map_nil, List.length_cons, Option.getD]; omega) | (simp only [bsz, ByteArray.size_append, List.size_toArray, List.length_cons, List.length_nil]; omega)) ?_; conv => whnf) | (refine ifB_intro (fun hA => ?_) (fun hA => ?_) <;> (try rw [hA]) <;> (conv => whnf) <;> (first | replace hA := of_decide_eq_true hA | replace hA := of_decide_eq_false hA | replace hA := eq_of_beq hA | replace hA := ne_of_beq_false hA | replace hA := bne_iff_ne.1 hA | replace hA := bne_eq_false_iff_eq.1 hA | skip) <;> (try simp only [List.length_map, cond_true, cond_false, Bool.not_eq_true', Bool.not_eq_false', beq_iff_eq, beq_eq_false_iff_ne, ne_eq] at hA)) | (refine CallP.upd rfl (write3 g _ policyB (by have : policyB.size = 10 := rfl; omega) (by decide)) ?_; conv => whnf) | (refine CallD.upd rfl (write3 g _ policyB (by have : policyB.size = 10 := rfl; omega) (by decide)) ?_; conv => whnf) | (refine CallP.upd rfl (hp) ?_; conv => whnf) | (refine CallD.upd rfl (hp) ?_; conv => whnf) | (refine CallP.upd rfl (write3 g _ dotB (by simp only [headG, ByteArray.size_append] at hhd ⊢; omega) (by decide)) ?_; conv => whnf) | (refine CallD.upd rfl (write3 g _ dotB (by simp only [headG, ByteArray.size_append] at hhd ⊢; omega) (by decide)) ?_; conv => whnf))
      have hrl := check_rules hz
      refine LoopP.inv (X := ax g) (fun i : Nat => { f := [(1, .ptr 1 0), (2, .str ⟨#[]⟩), (3, .ptr 3 0), (34, .d (.sl false 3 (x.rules.map rowR))), (35, .i64 x.rules.length), (36, .i64 i)], h := [(3, some (bldO ((x.rules.take i).foldl rlB (headG x))))] }) (fun i => i ≤ x.rules.length) (fun i => x.rules.length - i) 0 (Nat.zero_le _) ⟨⟨rfl, rfl, rfl, rfl, AV.int_eq (len_int _ _), rfl, trivial⟩, ⟨fun o h => h, trivial⟩⟩ fun i hi => ?_
      have hz1 := rules_size hhd hr2 hrl i
      by_cases hlt : i < x.rules.length
      · have hl := hr2 _ (List.getElem_mem hlt)
        have hll := lineB_len hl
        conv => whnf
        refine ifB_true (decide_eq_true (by omega)) ?_
        conv => whnf
        repeat' (first | (refine And.intro (by first | exact rfl | decide | exact Nat.le_of_ble_eq_true rfl | exact ⟨_, rfl⟩ | exact ⟨_, _, rfl⟩ | omega | (simp only [List.length_map]; omega) | exact True.intro | (simp only []; omega) | (simp only []; omega) | (simp only [bsz, List.size_toArray, List.length_cons, List.length_nil]; omega)) ?_; conv => whnf) | (refine ifB_intro (fun hA => ?_) (fun hA => ?_) <;> (try rw [hA]) <;> (conv => whnf) <;> (first | replace hA := of_decide_eq_true hA | replace hA := of_decide_eq_false hA | replace hA := eq_of_beq hA | replace hA := ne_of_beq_false hA | replace hA := bne_iff_ne.1 hA | replace hA := bne_eq_false_iff_eq.1 hA | skip) <;> (try simp only [List.length_map, cond_true, cond_false, Bool.not_eq_true', Bool.not_eq_false', beq_iff_eq, beq_eq_false_iff_ne, ne_eq] at hA)) | (rw [getD_map rowR x.rules i [] hlt]; conv => whnf) | (refine CallP.det (line_ctr g hg _ hl) ?_; conv => whnf) | (refine CallD.det (line_ctr g hg _ hl) ?_; conv => whnf) | (refine And.intro (by simp only [bsz, ByteArray.size_append, List.size_toArray, List.length_cons, List.length_nil]; omega) ?_; conv => whnf) | (refine CallP.upd rfl (write3 g _ _ (by simp only [bsz, ByteArray.size_append, List.size_toArray, List.length_cons, List.length_nil]; omega) (by simp only [bsz, ByteArray.size_append, List.size_toArray, List.length_cons, List.length_nil]; omega)) ?_; conv => whnf) | (refine CallD.upd rfl (write3 g _ _ (by simp only [bsz, ByteArray.size_append, List.size_toArray, List.length_cons, List.length_nil]; omega) (by simp only [bsz, ByteArray.size_append, List.size_toArray, List.length_cons, List.length_nil]; omega)) ?_; conv => whnf))
        exact ⟨i + 1, by omega, by omega, ⟨⟨rfl, rfl, rfl, rfl, rfl, AV.int_eq (i64_succ (by omega)), trivial⟩, ⟨fun o h => by rw [← h, foldl_next rlB (headG x) x.rules i hlt]; rfl, trivial⟩⟩⟩
      · conv => whnf
        refine ifB_false (decide_eq_false (by omega)) ?_
        conv => whnf
        repeat' (first | (refine And.intro (by first | exact rfl | decide | exact Nat.le_of_ble_eq_true rfl | exact ⟨_, rfl⟩ | exact ⟨_, _, rfl⟩ | omega | (simp only [List.length_map]; omega) | exact True.intro | (simp only [IntKind.wrap_i64, List.length_map]; omega) | (simp only [List.map_cons, List.map_nil, List.length_cons, Option.getD]; omega) | (simp only [bsz, ByteArray.size_append, List.size_toArray, List.length_cons, List.length_nil]; omega)) ?_; conv => whnf) | (refine ifB_intro (fun hA => ?_) (fun hA => ?_) <;> (try rw [hA]) <;> (conv => whnf) <;> (first | replace hA := of_decide_eq_true hA | replace hA := of_decide_eq_false hA | replace hA := eq_of_beq hA | replace hA := ne_of_beq_false hA | replace hA := bne_iff_ne.1 hA | replace hA := bne_eq_false_iff_eq.1 hA | skip) <;> (try simp only [List.length_map, cond_true, cond_false, Bool.not_eq_true', Bool.not_eq_false', beq_iff_eq, beq_eq_false_iff_ne, ne_eq] at hA)))
        refine CallP.ends rfl (string3 g _) ?_
        conv => whnf
        repeat' (first | (refine And.intro (by first | exact rfl | decide | exact Nat.le_of_ble_eq_true rfl | exact ⟨_, rfl⟩ | exact ⟨_, _, rfl⟩ | omega | (simp only [List.length_map]; omega) | exact True.intro | (simp only [IntKind.wrap_i64, List.length_map]; omega) | (simp only [List.map_cons, List.map_nil, List.length_cons, Option.getD]; omega) | (simp only [bsz, ByteArray.size_append, List.size_toArray, List.length_cons, List.length_nil]; omega)) ?_; conv => whnf) | (refine ifB_intro (fun hA => ?_) (fun hA => ?_) <;> (try rw [hA]) <;> (conv => whnf) <;> (first | replace hA := of_decide_eq_true hA | replace hA := of_decide_eq_false hA | replace hA := eq_of_beq hA | replace hA := ne_of_beq_false hA | replace hA := bne_iff_ne.1 hA | replace hA := bne_eq_false_iff_eq.1 hA | skip) <;> (try simp only [List.length_map, cond_true, cond_false, Bool.not_eq_true', Bool.not_eq_false', beq_iff_eq, beq_eq_false_iff_ne, ne_eq] at hA)))
        refine ⟨⟨[], ?_⟩⟩
        conv => whnf
        rw [showGF, if_pos hz, progB, List.take_of_length_le (by omega)]
end Go.Ax
