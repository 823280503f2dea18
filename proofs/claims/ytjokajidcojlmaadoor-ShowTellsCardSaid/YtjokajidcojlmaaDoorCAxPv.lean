import Derived.Test.YtjokajidcojlmaaDoorCAxPu

/- A policy's text: the writer. -/
namespace Go.Ax
open Go.Proofs
set_option maxRecDepth 10000

theorem bassoc (a b c : ByteArray) : a ++ b ++ c = a ++ (b ++ c) := by
  apply ByteArray.ext; simp only [ByteArray.data_append, Array.append_assoc]
theorem bnil (a : ByteArray) : a ++ (⟨#[]⟩ : ByteArray) = a := by apply ByteArray.ext; rw [ByteArray.data_append]; simp
theorem nilb (a : ByteArray) : (⟨#[]⟩ : ByteArray) ++ a = a := by apply ByteArray.ext; rw [ByteArray.data_append]; simp

def headB (op f n : Int) : ByteArray :=
  if op = 0 then ⟨#[100, 114, 111, 112]⟩ else if op = 1 then ⟨#[105, 100]⟩ else if op = 2 then (nameF f ++ ⟨#[61]⟩) ++ digB n.toNat
  else if op = 5 then (nameF f ++ ⟨#[58, 61]⟩) ++ digB n.toNat else if op = 3 then partB f ⟨#[61]⟩ n else if op = 4 then ⟨#[33]⟩ else ⟨#[]⟩
def sepB (op : Int) : ByteArray := if op = 6 then ⟨#[32, 59, 32]⟩ else ⟨#[32, 43, 32]⟩
def bareB (of op : Int) : Bool := decide (op ≠ 7) && (decide (op ≠ 6) || decide (of = 7))
mutual
def polB : PolT → ByteArray
  | .mk op f n kids => headB op f n ++ kidsB op kids true
def kidsB (of : Int) : List PolT → Bool → ByteArray
  | [], _ => ⟨#[]⟩
  | p :: l, first => (if first then ⟨#[]⟩ else sepB of) ++ ((if bareB of p.op then polB p else (⟨#[40]⟩ ++ polB p) ++ ⟨#[41]⟩) ++ kidsB of l false)
end
def kidB (of : Int) (p : PolT) : ByteArray := if bareB of p.op then polB p else (⟨#[40]⟩ ++ polB p) ++ ⟨#[41]⟩
theorem polB_at (p : PolT) : polB p = headB p.op p.f p.n ++ kidsB p.op p.kids true := by cases p; rw [polB]; rfl
theorem kidsB_app (of : Int) (x : PolT) : ∀ (l : List PolT) (b : Bool), kidsB of (l ++ [x]) b = (kidsB of l b ++ (if b && l.isEmpty then ⟨#[]⟩ else sepB of)) ++ kidB of x
  | [], b => by cases b <;> simp [kidsB, kidB, bnil, nilb]
  | y :: l, b => by
    rw [List.cons_append, kidsB, kidsB, kidsB_app of x l false]
    simp only [bassoc, List.isEmpty_cons, Bool.false_and, Bool.and_false, Bool.false_eq_true, if_false]
theorem kidsB_next (of : Int) {l : List PolT} {i : Nat} (h : i < l.length) : kidsB of (l.take (i + 1)) true = (kidsB of (l.take i) true ++ (if i = 0 then ⟨#[]⟩ else sepB of)) ++ kidB of l[i] := by
  rw [List.take_succ_eq_append_getElem h, kidsB_app]
  by_cases h0 : i = 0
  · subst h0; simp
  · have : (l.take i).isEmpty = false := by
      rw [List.isEmpty_eq_false_iff]; intro he
      have h2 : (l.take i).length = 0 := by rw [he]; rfl
      rw [List.length_take] at h2; omega
    simp [this, h0]

mutual
def okPol : PolT → Prop
  | .mk _ _ n kids => (0 ≤ n ∧ n < 65536) ∧ okPols kids
def okPols : List PolT → Prop
  | [] => True
  | p :: l => okPol p ∧ okPols l
end
theorem okPol_at (p : PolT) : okPol p ↔ (0 ≤ p.n ∧ p.n < 65536) ∧ okPols p.kids := by cases p; rw [okPol]; rfl
theorem okPols_mem : ∀ {l : List PolT} {p : PolT}, okPols l → p ∈ l → okPol p
  | [], p, _, h => by simp at h
  | q :: l, p, h, hm => by
    rw [okPols] at h
    rcases List.mem_cons.1 hm with rfl | hm
    · exact h.1
    · exact okPols_mem h.2 hm
theorem name_len (f : Int) : (nameF f).size ≤ 3 := by
  unfold nameF; repeat' split
  all_goals decide
theorem name_pos {f : Int} (h : 0 ≤ f ∧ f < 8) : 1 ≤ (nameF f).size := by
  unfold nameF; repeat' split
  all_goals first | decide | (exfalso; omega)
/-- What well formed says of a node's field. -/
theorem formP_f {k : Int} {p : PolT} (h : formP k p = true) (hk : k ≤ 60000) : 0 ≤ p.f ∧ p.f < 60000 ∧ (p.op = 2 ∨ p.op = 5 → p.f < 8) := by
  rw [formP_at] at h
  split at h
  · simp at h; omega
  · split at h
    · simp at h; omega
    · split at h
      · simp at h; omega
      · split at h
        · simp at h; omega
        · split at h
          · simp at h; omega
          · split at h
            · simp at h; omega
            · simp at h
theorem formP_kids {k : Int} {p : PolT} (h : formP k p = true) {i : Nat} (hi : i < p.kids.length) : formP k p.kids[i] = true := by
  rw [formP_at] at h
  have key : formsN k p.kids = false → formP k p.kids[i] = true := fun hf => by
    rw [formsN_any, List.any_eq_false] at hf
    simpa using hf _ (List.getElem_mem hi)
  split at h
  · have : p.kids.length = 0 := by simp at h; simp [h.1]
    omega
  · split at h
    · simp at h; exact key h.2
    · split at h
      · simp at h; exact key h.2
      · split at h
        · have : p.kids.length = 0 := by simp at h; simp [h.1.1]
          omega
        · split at h
          · have : p.kids.length = 0 := by simp at h; simp [h.1.1]
            omega
          · split at h
            · have : p.kids.length = 0 := by simp at h; simp [h.1.1]
              omega
            · simp at h
theorem headB_len {op f n : Int} (hf : f < 65536) (hn : n < 65536) : (headB op f n).size ≤ 12 := by
  have h1 := digI_len hf
  have h2 := digI_len hn
  have h3 := name_len f
  unfold headB
  repeat' split
  all_goals first | decide | (simp only [partB, bsz, ByteArray.size_append, List.size_toArray, List.length_cons, List.length_nil]; omega)
theorem sepB_len (op : Int) : (sepB op).size = 3 := by unfold sepB; split <;> rfl
theorem kidB_len (of : Int) (p : PolT) : (kidB of p).size ≤ (polB p).size + 2 := by
  unfold kidB; split
  · omega
  · simp only [bsz, ByteArray.size_append, List.size_toArray, List.length_cons, List.length_nil]; omega
theorem kidsB_len (of : Int) (k : Nat) : ∀ (l : List PolT) (b : Bool), (∀ p ∈ l, (polB p).size + 5 ≤ k * sizeP p) → (kidsB of l b).size ≤ k * sizesP l
  | [], b, _ => by rw [kidsB]; simp [bsz]
  | p :: l, b, h => by
    have h1 := kidsB_len of k l false fun q hq => h q (List.mem_cons_of_mem _ hq)
    have h2 := h p (List.mem_cons_self ..)
    have h3 := kidB_len of p
    have h4 := sepB_len of
    rw [kidsB, sizesP, Nat.mul_add]
    simp only [kidB] at h3
    rw [ByteArray.size_append, ByteArray.size_append]
    have : (if b = true then (⟨#[]⟩ : ByteArray) else sepB of).size ≤ 3 := by
      split
      · decide
      · omega
    omega
theorem polB_len {k : Int} (hk : k ≤ 60000) : ∀ (m : Nat) (p : PolT), sizeP p ≤ m → okPol p → formP k p = true → (polB p).size + 5 ≤ 17 * sizeP p
  | 0, p, h, _, _ => by have := sizeP_pos p; omega
  | m + 1, p, hm, ho, hf => by
    have ih := polB_len hk m
    rw [polB_at, sizeP_at, ByteArray.size_append]
    rw [sizeP_at] at hm
    have ho2 := (okPol_at p).1 ho
    have h1 := headB_len (op := p.op) (f := p.f) (n := p.n) (by have := (formP_f hf hk).2.1; omega) ho2.1.2
    have hkids : (kidsB p.op p.kids true).size ≤ 17 * sizesP p.kids := kidsB_len p.op 17 p.kids true fun q hq => by
      have h3 := sizesP_mem hq
      have h4 := okPols_mem ho2.2 hq
      obtain ⟨j, hj, rfl⟩ := List.mem_iff_getElem.1 hq
      exact ih _ (by omega) h4 (formP_kids hf hj)
    omega
theorem kidsB_take {k : Int} (hk : k ≤ 60000) {p : PolT} (ho : okPol p) (hf : formP k p = true) (i : Nat) : (kidsB p.op (p.kids.take i) true).size ≤ 17 * sizesP (p.kids.take i) :=
  kidsB_len p.op 17 _ true fun q hq => by
    have hq := List.mem_of_mem_take hq
    have h4 := okPols_mem ((okPol_at p).1 ho).2 hq
    obtain ⟨j, hj, rfl⟩ := List.mem_iff_getElem.1 hq
    exact polB_len hk _ _ (Nat.le_refl _) h4 (formP_kids hf hj)

abbrev WRes (b : ByteArray) : AOut → Prop := fun o => o = .ret (.tup []) [(9000, some (bldO b))]
theorem kid_ctr (g : GP) (p q : PolT) (bs : ByteArray) (hl : (polB p).size ≤ 17 * sizeP p) (hs : bs.size + 17 * sizeP p + 2 ≤ 140737488355328) (h : ∀ b : ByteArray, b.size + 17 * sizeP p ≤ 140737488355328 → Ctr (ax g).E 73 [.ptr 9000 0, .dagg (rowP4 p)] [(9000, some (bldO b))] (WRes (b ++ polB p))) :
    Ctr (ax g).E 120 [.ptr 9000 0, .dagg (rowP4 p), .dagg (rowP4 q)] [(9000, some (bldO bs))] (WRes (bs ++ kidB q.op p)) := by
  refine Ctr.body (X := ax g) _ 35 [9000] [] Tryd.func120 rfl rfl rfl rfl (by decide +kernel) rfl rfl ?_
  conv => whnf
  repeat' (first | (refine And.intro (by first | exact rfl | decide | exact Nat.le_of_ble_eq_true rfl | exact ⟨_, rfl⟩ | exact ⟨_, _, rfl⟩ | exact Nat.le_refl _ | exact Int.le_refl _ | omega | (simp only [List.length_map]; omega) | exact True.intro | (simp only [IntKind.wrap_i64, List.length_map]; omega) | (simp only [bsz, ByteArray.size_append, List.size_toArray, List.length_cons, List.length_nil]; omega) | exact ⟨⟨_, _, rfl, rfl, Nat.le_of_ble_eq_true rfl⟩, trivial⟩ | exact ⟨⟨_, _, rfl, rfl, Nat.le_of_ble_eq_true rfl⟩, ⟨_, _, rfl, rfl, Nat.le_of_ble_eq_true rfl⟩, trivial⟩ | exact ⟨⟨_, _, rfl, rfl, Nat.le_of_ble_eq_true rfl⟩, ⟨_, _, rfl, rfl, Nat.le_of_ble_eq_true rfl⟩, ⟨_, _, rfl, rfl, Nat.le_of_ble_eq_true rfl⟩, trivial⟩) ?_; conv => whnf) | (refine ifB_intro (fun hA => ?_) (fun hA => ?_) <;> (try rw [hA]) <;> (conv => whnf) <;> (first | replace hA := of_decide_eq_true hA | replace hA := of_decide_eq_false hA | replace hA := eq_of_beq hA | replace hA := ne_of_beq_false hA | skip) <;> (try simp only [List.length_map, cond_true, cond_false, Bool.not_eq_true', Bool.not_eq_false', beq_iff_eq, beq_eq_false_iff_ne, ne_eq] at hA)) | (refine CallP.upd rfl (h _ (by first | omega | (simp only [bsz, oneB, ByteArray.size_append, List.size_toArray, List.length_cons, List.length_nil]; omega))) ?_; conv => whnf) | (refine CallD.upd rfl (h _ (by first | omega | (simp only [bsz, oneB, ByteArray.size_append, List.size_toArray, List.length_cons, List.length_nil]; omega))) ?_; conv => whnf) | (refine CallP.upd rfl (byte_ctr g _ 40 (by omega)) ?_; conv => whnf) | (refine CallD.upd rfl (byte_ctr g _ 40 (by omega)) ?_; conv => whnf) | (refine CallP.upd rfl (byte_ctr g _ 41 (by simp only [bsz, oneB, ByteArray.size_append, List.size_toArray, List.length_cons, List.length_nil]; omega)) ?_; conv => whnf) | (refine CallD.upd rfl (byte_ctr g _ 41 (by simp only [bsz, oneB, ByteArray.size_append, List.size_toArray, List.length_cons, List.length_nil]; omega)) ?_; conv => whnf) | (rw [getD_map _ _ _ _ (by assumption)]; conv => whnf))
  all_goals first
    | (rw [show kidB q.op p = polB p by simp_all [kidB, bareB]]
       refine ⟨⟨[(9000, some (bldO (bs ++ polB p)))], ?_⟩⟩
       (conv => whnf)
       refine And.intro ⟨fun o h => h, trivial⟩ ?_
       (conv => whnf))
    | (rw [show bs ++ kidB q.op p = ((bs ++ oneB 40) ++ polB p) ++ oneB 41 by rw [show kidB q.op p = (⟨#[40]⟩ ++ polB p) ++ ⟨#[41]⟩ by simp_all [kidB, bareB]]; simp only [bassoc]; rfl]
       refine ⟨⟨[(9000, some (bldO (((bs ++ oneB 40) ++ polB p) ++ oneB 41)))], ?_⟩⟩
       (conv => whnf)
       refine And.intro ⟨fun o h => h, trivial⟩ ?_
       (conv => whnf))

theorem headB_pos {op f n : Int} (h : op = 0 ∨ op = 1 ∨ op = 2 ∨ op = 3 ∨ op = 5) : 0 < (headB op f n).size := by
  unfold headB
  repeat' split
  all_goals first | decide | (exfalso; omega) | (simp only [partB, bsz, ByteArray.size_append, List.size_toArray, List.length_cons, List.length_nil]; omega)

theorem pol_ctr (g : GP) (hg : ∀ w, g.G w → PowG w) (k : Int) (hk : k ≤ 60000) : ∀ (m : Nat) (p : PolT), sizeP p ≤ m → okPol p → formP k p = true → ∀ bs : ByteArray, bs.size + 17 * sizeP p ≤ 140737488355328 →
    Ctr (ax g).E 73 [.ptr 9000 0, .dagg (rowP4 p)] [(9000, some (bldO bs))] (WRes (bs ++ polB p))
  | 0, p, h, _, _, _, _ => by have := sizeP_pos p; omega
  | m + 1, p, hm, ho, hf, bs, hbs => by
    have ih := pol_ctr g hg k hk m
    have hf2 := formP_f hf hk
    have ho2 := (okPol_at p).1 ho
    have hl := polB_len hk _ p (Nat.le_refl _) ho hf
    have hn1 := name_len p.f
    have hd1 := digI_len (n := p.f) (by omega)
    have hd2 := digI_len (n := p.n) (by omega)
    have hsz := sizeP_at p
    have hlen := sizesP_len p.kids
    have hhl := headB_len (op := p.op) (f := p.f) (n := p.n) (by omega) ho2.1.2
    have hsl := sepB_len p.op
    refine (fun key : (∀ s, ((fun i : Nat => ({ f := [(0, .ptr 9000 0), (3, .ptr 3 0), (4, .str (sepB p.op)), (69, .d (.sl false 4 (p.kids.map rowO4))), (70, .i64 p.kids.length), (71, .i64 i)], h := [(9000, some (bldO ((bs ++ headB p.op p.f p.n) ++ kidsB p.op (p.kids.take i) true))), (3, some (.dvar 4 (rowP4 p)))] } : St)) 0).Le s → LoopP (ax g).E { nt := 88, anc := [9000] } ?c ?Q s) => ?main) ?loop
    case main =>
      refine Ctr.body (X := ax g) _ 88 [9000] [] Tryd.func73 rfl rfl rfl rfl (by decide +kernel) rfl rfl ?_
      conv => whnf
      repeat' (first | (refine And.intro (by first | exact rfl | decide | exact Nat.le_of_ble_eq_true rfl | exact ⟨_, rfl⟩ | exact ⟨_, _, rfl⟩ | exact Nat.le_refl _ | exact Int.le_refl _ | omega | (simp only [List.length_map]; omega) | exact True.intro | (simp only [IntKind.wrap_i64, List.length_map]; omega) | (simp only [bsz, ByteArray.size_append, List.size_toArray, List.length_cons, List.length_nil]; omega) | exact ⟨⟨_, _, rfl, rfl, Nat.le_of_ble_eq_true rfl⟩, trivial⟩ | exact ⟨⟨_, _, rfl, rfl, Nat.le_of_ble_eq_true rfl⟩, ⟨_, _, rfl, rfl, Nat.le_of_ble_eq_true rfl⟩, trivial⟩ | exact ⟨⟨_, _, rfl, rfl, Nat.le_of_ble_eq_true rfl⟩, ⟨_, _, rfl, rfl, Nat.le_of_ble_eq_true rfl⟩, ⟨_, _, rfl, rfl, Nat.le_of_ble_eq_true rfl⟩, trivial⟩) ?_; conv => whnf) | (refine ifB_intro (fun hA => ?_) (fun hA => ?_) <;> (try rw [hA]) <;> (conv => whnf) <;> (first | replace hA := of_decide_eq_true hA | replace hA := of_decide_eq_false hA | replace hA := eq_of_beq hA | replace hA := ne_of_beq_false hA | skip) <;> (try simp only [List.length_map, cond_true, cond_false, Bool.not_eq_true', Bool.not_eq_false', beq_iff_eq, beq_eq_false_iff_ne, ne_eq] at hA)) | (refine CallP.det (name_ctr g _) ?_; conv => whnf) | (refine CallD.det (name_ctr g _) ?_; conv => whnf) | (refine CallP.det (digits6_ctr g hg _ (by omega)) ?_; conv => whnf) | (refine CallD.det (digits6_ctr g hg _ (by omega)) ?_; conv => whnf) | (refine CallP.det (part_ctr g hg _ _ _ (by omega) (by omega) (by decide)) ?_; conv => whnf) | (refine CallD.det (part_ctr g hg _ _ _ (by omega) (by omega) (by decide)) ?_; conv => whnf) | (refine CallP.upd rfl (write_ctr g _ _ (by simp only [partB, bsz, ByteArray.size_append, List.size_toArray, List.length_cons, List.length_nil]; omega) (by simp only [partB, bsz, ByteArray.size_append, List.size_toArray, List.length_cons, List.length_nil]; omega)) ?_; conv => whnf) | (refine CallD.upd rfl (write_ctr g _ _ (by simp only [partB, bsz, ByteArray.size_append, List.size_toArray, List.length_cons, List.length_nil]; omega) (by simp only [partB, bsz, ByteArray.size_append, List.size_toArray, List.length_cons, List.length_nil]; omega)) ?_; conv => whnf) | (refine CallP.upd rfl (byte_ctr g _ 33 (by omega)) ?_; conv => whnf) | (refine CallD.upd rfl (byte_ctr g _ 33 (by omega)) ?_; conv => whnf) | (refine DrawP.intro (X := ax g) (id := 8) B73_8 (by kernel_rfl) (by decide +kernel) ?_; conv => whnf) | (refine DrawP.intro (X := ax g) (id := 10) B73_10 (by kernel_rfl) (by decide +kernel) ?_; conv => whnf) | (refine DrawP.intro (X := ax g) (id := 12) B73_12 (by kernel_rfl) (by decide +kernel) ?_; conv => whnf) | (rw [getD_map _ _ _ _ (by assumption)]; conv => whnf))
      all_goals (refine key _ ?_)
      all_goals exact ⟨⟨rfl, rfl, (by first | (rw [show sepB p.op = ⟨#[32, 43, 32]⟩ from if_neg (by omega)]; rfl) | (rw [show sepB p.op = ⟨#[32, 59, 32]⟩ from if_pos (by omega)]; rfl)), rfl, AV.int_eq (len_int _ _), rfl, trivial⟩, ⟨fun o h => by rw [← h]; exact congrArg (fun b => some (bldO b)) (by simp_all [headB, kidsB, bnil, oneB]), ⟨fun o h => h, trivial⟩⟩⟩
    case loop =>
      intro s hs
      refine LoopP.inv (X := ax g) (fun i : Nat => ({ f := [(0, .ptr 9000 0), (3, .ptr 3 0), (4, .str (sepB p.op)), (69, .d (.sl false 4 (p.kids.map rowO4))), (70, .i64 p.kids.length), (71, .i64 i)], h := [(9000, some (bldO ((bs ++ headB p.op p.f p.n) ++ kidsB p.op (p.kids.take i) true))), (3, some (.dvar 4 (rowP4 p)))] } : St)) (fun i => i ≤ p.kids.length) (fun i => p.kids.length - i) 0 (Nat.zero_le _) hs fun i hi => ?_
      have hkb := kidsB_take hk ho hf i
      by_cases hlt : i < p.kids.length
      · have hnx := sizesP_next hlt
        have htk := sizesP_take p.kids (i + 1)
        have hpk := polB_len hk _ p.kids[i] (Nat.le_refl _) (okPols_mem ho2.2 (List.getElem_mem hlt)) (formP_kids hf hlt)
        have hstep := kidsB_next p.op hlt
        (conv => whnf)
        refine ifB_true (decide_eq_true (by omega)) ?_
        (conv => whnf)
        repeat' (first | (refine And.intro (by first | exact rfl | decide | exact Nat.le_of_ble_eq_true rfl | exact ⟨_, rfl⟩ | exact ⟨_, _, rfl⟩ | exact Nat.le_refl _ | exact Int.le_refl _ | omega | (simp only [List.length_map]; omega) | exact True.intro | (simp only [IntKind.wrap_i64, List.length_map]; omega) | (simp only [bsz, ByteArray.size_append, List.size_toArray, List.length_cons, List.length_nil]; omega) | exact ⟨⟨_, _, rfl, rfl, Nat.le_of_ble_eq_true rfl⟩, trivial⟩ | exact ⟨⟨_, _, rfl, rfl, Nat.le_of_ble_eq_true rfl⟩, ⟨_, _, rfl, rfl, Nat.le_of_ble_eq_true rfl⟩, trivial⟩ | exact ⟨⟨_, _, rfl, rfl, Nat.le_of_ble_eq_true rfl⟩, ⟨_, _, rfl, rfl, Nat.le_of_ble_eq_true rfl⟩, ⟨_, _, rfl, rfl, Nat.le_of_ble_eq_true rfl⟩, trivial⟩) ?_; conv => whnf) | (refine ifB_intro (fun hA => ?_) (fun hA => ?_) <;> (try rw [hA]) <;> (conv => whnf) <;> (first | replace hA := of_decide_eq_true hA | replace hA := of_decide_eq_false hA | replace hA := eq_of_beq hA | replace hA := ne_of_beq_false hA | skip) <;> (try simp only [List.length_map, cond_true, cond_false, Bool.not_eq_true', Bool.not_eq_false', beq_iff_eq, beq_eq_false_iff_ne, ne_eq] at hA)) | (rw [getD_map rowO4 p.kids i [] hlt, rowO4_at]; conv => whnf) | (refine CallP.upd rfl (write_ctr g _ _ (by simp only [ByteArray.size_append]; omega) (by omega)) ?_; conv => whnf) | (refine CallD.upd rfl (write_ctr g _ _ (by simp only [ByteArray.size_append]; omega) (by omega)) ?_; conv => whnf) | (refine CallP.upd rfl (kid_ctr g (p.kids[i]'hlt) p _ (by omega) (by simp only [ByteArray.size_append]; omega) (fun b hb => ih _ (by omega) (okPols_mem ho2.2 (List.getElem_mem hlt)) (formP_kids hf hlt) b hb)) ?_; conv => whnf) | (refine CallD.upd rfl (kid_ctr g (p.kids[i]'hlt) p _ (by omega) (by simp only [ByteArray.size_append]; omega) (fun b hb => ih _ (by omega) (okPols_mem ho2.2 (List.getElem_mem hlt)) (formP_kids hf hlt) b hb)) ?_; conv => whnf) | (rw [getD_map _ _ _ _ (by assumption)]; conv => whnf))
        all_goals
          rcases Nat.eq_zero_or_pos i with h0 | h0
          · first
              | (exfalso; omega)
              | (rw [if_pos h0, bnil] at hstep
                 exact ⟨i + 1, by omega, by omega, ⟨⟨rfl, rfl, rfl, rfl, rfl, AV.int_eq (i64_succ (by omega)), trivial⟩, ⟨fun o h => by rw [← h, hstep]; exact congrArg (fun b => some (bldO b)) (by simp only [bassoc]), ⟨fun o h => h, trivial⟩⟩⟩⟩)
          · first
              | (exfalso; omega)
              | (rw [if_neg (Nat.ne_of_gt h0)] at hstep
                 exact ⟨i + 1, by omega, by omega, ⟨⟨rfl, rfl, rfl, rfl, rfl, AV.int_eq (i64_succ (by omega)), trivial⟩, ⟨fun o h => by rw [← h, hstep]; exact congrArg (fun b => some (bldO b)) (by simp only [bassoc]), ⟨fun o h => h, trivial⟩⟩⟩⟩)
      · (conv => whnf)
        refine ifB_false (decide_eq_false (by omega)) ?_
        (conv => whnf)
        rw [polB_at, ← bassoc]
        refine ⟨⟨[(9000, some (bldO ((bs ++ headB p.op p.f p.n) ++ kidsB p.op p.kids true)))], ?_⟩⟩
        (conv => whnf)
        refine And.intro ⟨fun o h => by rw [← h, List.take_of_length_le (by omega)]; rfl, trivial⟩ ?_
        (conv => whnf)
end Go.Ax
