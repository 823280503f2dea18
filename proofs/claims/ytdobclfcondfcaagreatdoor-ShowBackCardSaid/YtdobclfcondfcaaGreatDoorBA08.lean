/- What the card of this claim stands on, or the card itself: for every input, as the given row says. -/
import Derived.Lib.ValidLaws
import Derived.Lib.RuneCount
import Derived.Lib.ItoaNum
import Derived.Lib.Join
import Derived.Test.YtdobclfcondfcaaGreatDoorBA06
import Derived.Test.YtdobclfcondfcaaGreatDoorBA07

namespace Go.Ax
open Go.Proofs
set_option maxRecDepth 10000
def rowS (n : Int) : List D := [.u16 n]
theorem foldl_next {α β : Type} (f : β → α → β) (b : β) (l : List α) (i : Nat) (h : i < l.length) : (l.take (i + 1)).foldl f b = f ((l.take i).foldl f b) l[i] := by
  rw [List.take_succ_eq_append_getElem h, List.foldl_append]; rfl
theorem getD_map {α β : Type} (f : α → β) (l : List α) (i : Nat) (d : β) (h : i < l.length) : (l.map f).getD (i : Int).toNat d = f l[i] := by
  simp [List.getD, h]
end Go.Ax

namespace Go.Ax
open Go.Lib
abbrev Ch := Nat × List UInt8
def chunksN : Nat → List UInt8 → List Ch
  | 0, _ => []
  | _ + 1, [] => []
  | f + 1, b :: t => ((decodeL (b :: t)).1, (b :: t).take (decodeL (b :: t)).2) :: chunksN f ((b :: t).drop (decodeL (b :: t)).2)
def chunks (l : List UInt8) : List Ch := chunksN l.length l
def flat (cs : List Ch) : List UInt8 := cs.flatMap (·.2)
theorem chunksN_nil : ∀ f, chunksN f [] = []
  | 0 => rfl
  | _ + 1 => rfl
theorem chunksN_fuel : ∀ (f g : Nat) (l : List UInt8), l.length ≤ f → l.length ≤ g → chunksN f l = chunksN g l
  | 0, g, l, hf, _ => by
    have : l = [] := List.eq_nil_of_length_eq_zero (by omega)
    subst this; rw [chunksN_nil, chunksN_nil]
  | f + 1, 0, l, _, hg => by
    have : l = [] := List.eq_nil_of_length_eq_zero (by omega)
    subst this; rw [chunksN_nil, chunksN_nil]
  | f + 1, g + 1, [], _, _ => by rw [chunksN_nil, chunksN_nil]
  | f + 1, g + 1, b :: t, hf, hg => by
    have hw := decodeL_width (b :: t)
    simp only [chunksN]
    rw [chunksN_fuel f g _ (by simp only [List.length_drop]; omega) (by simp only [List.length_drop]; omega)]
theorem chunks_nil : chunks [] = [] := rfl
theorem chunks_step {l : List UInt8} (h : l ≠ []) : chunks l = ((decodeL l).1, l.take (decodeL l).2) :: chunks (l.drop (decodeL l).2) := by
  cases l with
  | nil => exact absurd rfl h
  | cons b t =>
    have hw := decodeL_width (b :: t)
    show chunksN (t.length + 1) (b :: t) = _
    simp only [chunksN]
    rw [chunksN_fuel t.length _ _ (by simp only [List.length_drop, List.length_cons]; omega) (Nat.le_refl _)]; rfl
theorem chunks_ne {l : List UInt8} (h : l ≠ []) : chunks l ≠ [] := by rw [chunks_step h]; simp
theorem flat_nil : flat [] = [] := rfl
theorem flat_cons (c : Ch) (cs : List Ch) : flat (c :: cs) = c.2 ++ flat cs := by simp [flat]
theorem flat_append (a b : List Ch) : flat (a ++ b) = flat a ++ flat b := by simp [flat]
theorem flat_chunks (l : List UInt8) : flat (chunks l) = l := by
  generalize hn : l.length = n
  induction n using Nat.strongRecOn generalizing l with
  | _ n ih =>
    by_cases h : l = []
    · subst h; rfl
    · have hw := decodeL_width l
      have hl : 0 < l.length := List.length_pos_iff.2 h
      rw [chunks_step h, flat_cons, ih _ (by rw [List.length_drop]; omega) _ rfl]
      exact List.take_append_drop _ _
def Edge (x : List UInt8) : Prop := (x.getD 0 0).toNat / 64 ≠ 2
theorem getD_app (l x : List UInt8) (i : Nat) : (l ++ x).getD i 0 = if i < l.length then l.getD i 0 else x.getD (i - l.length) 0 := by
  split
  · rename_i h; simp [List.getD, List.getElem?_append_left h]
  · rename_i h; simp [List.getD, List.getElem?_append_right (by omega : l.length ≤ i)]
set_option maxRecDepth 100000 in
set_option maxHeartbeats 4000000 in
theorem decodeN_cut (n m b0 b1 b2 b3 c1 c2 c3 : Nat) (hn : 1 ≤ n) (h1 : 1 < n → c1 = b1) (h2 : 2 < n → c2 = b2) (h3 : 3 < n → c3 = b3) (hm : n ≤ m)
    (e : (n = 1 → b1 / 64 ≠ 2) ∧ (n = 2 → b2 / 64 ≠ 2) ∧ (n = 3 → b3 / 64 ≠ 2) ∨ n = m) : decodeN m b0 b1 b2 b3 = decodeN n b0 c1 c2 c3 := by
  rcases Nat.lt_or_ge n 4 with hlt | hge
  · rcases (by omega : n = 1 ∨ n = 2 ∨ n = 3) with rfl | rfl | rfl
    · rcases e with ⟨e, _, _⟩ | rfl
      · have e := e rfl
        unfold decodeN
        simp only [e, and_false, false_and, if_false, show ¬ (1 < 1) by omega]
      · unfold decodeN
        simp only [and_false, false_and, if_false, show ¬ (1 < 1) by omega]
    · have h1 := h1 (by omega); subst h1
      rcases e with ⟨_, e, _⟩ | rfl
      · have e := e rfl
        unfold decodeN
        simp only [e, and_false, false_and, if_false, show ¬ (2 < 2) by omega, show 1 < m by omega, show 1 < 2 by omega]
      · unfold decodeN
        simp only [and_false, false_and, if_false, show ¬ (2 < 2) by omega]
    · have h1 := h1 (by omega); subst h1
      have h2 := h2 (by omega); subst h2
      rcases e with ⟨_, _, e⟩ | rfl
      · have e := e rfl
        unfold decodeN
        simp only [e, and_false, false_and, if_false, show ¬ (3 < 3) by omega, show 1 < m by omega, show 1 < 3 by omega, show 2 < m by omega, show 2 < 3 by omega]
      · unfold decodeN
        simp only [and_false, false_and, if_false, show ¬ (3 < 3) by omega]
  · have h1 := h1 (by omega); subst h1
    have h2 := h2 (by omega); subst h2
    have h3 := h3 (by omega); subst h3
    unfold decodeN
    simp only [show 1 < m by omega, show 2 < m by omega, show 3 < m by omega, show 1 < n by omega, show 2 < n by omega, show 3 < n by omega]
theorem decodeL_app {l x : List UInt8} (h : l ≠ []) (hx : Edge x) : decodeL (l ++ x) = decodeL l := by
  have hl : 0 < l.length := List.length_pos_iff.2 h
  rw [decodeL_N, decodeL_N]
  have g0 : (l ++ x).getD 0 0 = l.getD 0 0 := by rw [getD_app, if_pos hl]
  rw [g0]
  by_cases hxe : x = []
  · subst hxe; rw [List.append_nil]
  refine decodeN_cut _ _ _ _ _ _ _ _ _ hl (fun hh => by rw [getD_app, if_pos hh]) (fun hh => by rw [getD_app, if_pos hh]) (fun hh => by rw [getD_app, if_pos hh]) (by rw [List.length_append]; omega) (.inl ⟨fun e => ?_, fun e => ?_, fun e => ?_⟩)
  · rw [getD_app, if_neg (by omega), e]; exact hx
  · rw [getD_app, if_neg (by omega), e]; exact hx
  · rw [getD_app, if_neg (by omega), e]; exact hx
theorem chunks_app {l x : List UInt8} (hx : Edge x) : chunks (l ++ x) = chunks l ++ chunks x := by
  generalize hn : l.length = n
  induction n using Nat.strongRecOn generalizing l with
  | _ n ih =>
    by_cases h : l = []
    · subst h; rfl
    · have hw := decodeL_width l
      have hle := decodeL_le l h
      have hl : 0 < l.length := List.length_pos_iff.2 h
      rw [chunks_step (by simp [h] : l ++ x ≠ []), decodeL_app h hx, chunks_step h, List.take_append_of_le_length hle, List.drop_append_of_le_length hle, ih _ (by rw [List.length_drop]; omega) rfl]
      rfl
theorem chunks_low {b : UInt8} {t : List UInt8} (h : b.toNat < 128) : chunks (b :: t) = (b.toNat, [b]) :: chunks t := by
  rw [chunks_step (by simp), decodeL_ascii b t h]; rfl
set_option maxRecDepth 100000 in
set_option maxHeartbeats 4000000 in
theorem decodeN_short (n m b0 b1 b2 b3 c1 c2 c3 : Nat) (hn : 1 ≤ n) (h1 : 1 < n → c1 = b1) (h2 : 2 < n → c2 = b2) (h3 : 3 < n → c3 = b3) (hm : n ≤ m)
    (hw : (decodeN m b0 b1 b2 b3).2 ≤ n) : decodeN n b0 c1 c2 c3 = decodeN m b0 b1 b2 b3 := by
  rcases Nat.lt_or_ge n 4 with hlt | hge
  · rcases (by omega : n = 1 ∨ n = 2 ∨ n = 3) with rfl | rfl | rfl
    · unfold decodeN at hw ⊢
      repeat' split at hw
      all_goals simp only at hw
      all_goals repeat' split
      all_goals first | rfl | (exfalso; omega)
    · have h1 := h1 (by omega); subst h1
      unfold decodeN at hw ⊢
      repeat' split at hw
      all_goals simp only at hw
      all_goals repeat' split
      all_goals first | rfl | (exfalso; omega)
    · have h1 := h1 (by omega); subst h1
      have h2 := h2 (by omega); subst h2
      unfold decodeN at hw ⊢
      repeat' split at hw
      all_goals simp only at hw
      all_goals repeat' split
      all_goals first | rfl | (exfalso; omega)
  · have h1 := h1 (by omega); subst h1
    have h2 := h2 (by omega); subst h2
    have h3 := h3 (by omega); subst h3
    unfold decodeN
    simp only [show 1 < m by omega, show 2 < m by omega, show 3 < m by omega, show 1 < n by omega, show 2 < n by omega, show 3 < n by omega]
theorem decodeL_short {l x : List UInt8} (h : l ≠ []) (hw : (decodeL (l ++ x)).2 ≤ l.length) : decodeL l = decodeL (l ++ x) := by
  have hl : 0 < l.length := List.length_pos_iff.2 h
  rw [decodeL_N (l ++ x)] at hw ⊢
  rw [decodeL_N l]
  have g0 : (l ++ x).getD 0 0 = l.getD 0 0 := by rw [getD_app, if_pos hl]
  rw [g0] at hw ⊢
  exact decodeN_short _ _ _ _ _ _ _ _ _ hl (fun hh => by rw [getD_app, if_pos hh]) (fun hh => by rw [getD_app, if_pos hh]) (fun hh => by rw [getD_app, if_pos hh]) (by rw [List.length_append]; omega) hw
def GoodC (cs : List Ch) : Prop := chunks (flat cs) = cs
theorem good_chunks (l : List UInt8) : GoodC (chunks l) := by rw [GoodC, flat_chunks]
theorem GoodC.ne {c : Ch} {cs : List Ch} (h : GoodC (c :: cs)) : c.2 ≠ [] ∧ GoodC cs ∧ decodeL (c.2 ++ flat cs) = (c.1, c.2.length) := by
  unfold GoodC at h
  have hne : flat (c :: cs) ≠ [] := fun e => by rw [e, chunks_nil] at h; exact absurd h (by simp)
  have hw := decodeL_width (flat (c :: cs))
  have hle := decodeL_le _ hne
  rw [chunks_step hne] at h
  injection h with h1 h2
  have e2 : c.2 = (flat (c :: cs)).take (decodeL (flat (c :: cs))).2 := (congrArg Prod.snd h1).symm
  have hlen : c.2.length = (decodeL (flat (c :: cs))).2 := by rw [e2, List.length_take]; omega
  have h3 : (flat (c :: cs)).drop (decodeL (flat (c :: cs))).2 = flat cs := by
    rw [← hlen, flat_cons, List.drop_left]
  rw [h3] at h2
  refine ⟨fun e => by rw [e] at hlen; simp at hlen; omega, h2, ?_⟩
  rw [← flat_cons]
  have h5 : (decodeL (flat (c :: cs))).1 = c.1 := congrArg Prod.fst h1
  exact Prod.ext h5 hlen.symm
theorem GoodC.tail {c : Ch} {cs : List Ch} (h : GoodC (c :: cs)) : GoodC cs := h.ne.2.1
theorem GoodC.suf {a b : List Ch} (h : GoodC (a ++ b)) : GoodC b := by
  induction a with
  | nil => exact h
  | cons c a ih => exact ih h.tail
theorem GoodC.pre {a b : List Ch} (h : GoodC (a ++ b)) : GoodC a := by
  induction a with
  | nil => rfl
  | cons c a ih =>
    have h : GoodC (c :: (a ++ b)) := h
    obtain ⟨h1, h2, h3⟩ := h.ne
    have ih : chunks (flat a) = a := ih h2
    rw [flat_append, ← List.append_assoc] at h3
    have h4 := decodeL_short (l := c.2 ++ flat a) (x := flat b) (by simp [h1]) (by rw [h3]; simp)
    rw [h3] at h4
    show chunks (flat (c :: a)) = c :: a
    rw [flat_cons, chunks_step (by simp [h1]), h4]
    simp only [List.take_left, List.drop_left, ih]
def okCh (c : Ch) : Bool := !(c.1 == 65533 && c.2.length == 1)
theorem valid_chunks (l : List UInt8) : validD l = (chunks l).all okCh := by
  generalize hn : l.length = n
  induction n using Nat.strongRecOn generalizing l with
  | _ n ih =>
    by_cases h : l = []
    · subst h; rfl
    · have hw := decodeL_width l
      have hle := decodeL_le l h
      have hl : 0 < l.length := List.length_pos_iff.2 h
      rw [validD_step l h, chunks_step h, List.all_cons, ih _ (by rw [List.length_drop]; omega) _ rfl, okCh]
      simp only [List.length_take, Nat.min_eq_left hle]
      by_cases hc : (decodeL l).1 = 65533 ∧ (decodeL l).2 = 1
      · rw [if_pos hc]; simp [hc.1, hc.2]
      · rw [if_neg hc]
        have : ((decodeL l).1 == 65533 && (decodeL l).2 == 1) = false := by
          cases h1 : (decodeL l).1 == 65533 <;> cases h2 : (decodeL l).2 == 1 <;> simp_all
        rw [this]; rfl
end Go.Ax

namespace Go.Ax
open Go.Proofs Go.Lib
set_option maxRecDepth 10000
def digB (n : Nat) : ByteArray := ⟨(decDigits n).toArray⟩
end Go.Ax

namespace Go.Ax
open Go.Proofs
set_option maxRecDepth 10000
inductive PolT where
  | mk (op f n : Int) (kids : List PolT)
def PolT.op : PolT → Int | .mk a _ _ _ => a
def PolT.f : PolT → Int | .mk _ a _ _ => a
def PolT.n : PolT → Int | .mk _ _ a _ => a
def PolT.kids : PolT → List PolT | .mk _ _ _ a => a
mutual
def rowO4 : PolT → List D
  | .mk op f n kids => [.i64 op, .i64 f, .u16 n, .sl false 4 (rowsO kids)]
def rowsO : List PolT → List (List D)
  | [] => []
  | p :: l => rowO4 p :: rowsO l
end
theorem rowsO_map : ∀ l : List PolT, rowsO l = l.map rowO4
  | [] => by rw [rowsO]; rfl
  | p :: l => by rw [rowsO, rowsO_map l]; rfl
mutual
def sizeP : PolT → Nat
  | .mk _ _ _ kids => 1 + sizesP kids
def sizesP : List PolT → Nat
  | [] => 0
  | p :: l => sizeP p + sizesP l
end
mutual
def depthP : PolT → Nat
  | .mk _ _ _ kids => depthsP kids 0 + 1
def depthsP : List PolT → Nat → Nat
  | [], d => d
  | p :: l, d => depthsP l (max d (depthP p))
end
theorem sizesP_app : ∀ a b : List PolT, sizesP (a ++ b) = sizesP a + sizesP b
  | [], b => by simp [sizesP]
  | p :: a, b => by rw [List.cons_append, sizesP, sizesP, sizesP_app a b]; omega
theorem depthsP_app : ∀ (a b : List PolT) (d : Nat), depthsP (a ++ b) d = depthsP b (depthsP a d)
  | [], b, d => by simp [depthsP]
  | p :: a, b, d => by rw [List.cons_append, depthsP, depthsP, depthsP_app a b]
theorem sizeP_pos (p : PolT) : 1 ≤ sizeP p := by cases p; rw [sizeP]; omega
theorem sizesP_len : ∀ l : List PolT, l.length ≤ sizesP l
  | [] => Nat.zero_le _
  | p :: l => by have := sizesP_len l; have := sizeP_pos p; rw [sizesP, List.length_cons]; omega
theorem sizesP_mem : ∀ {l : List PolT} {p : PolT}, p ∈ l → sizeP p ≤ sizesP l
  | [], p, h => by simp at h
  | q :: l, p, h => by
    rw [sizesP]
    rcases List.mem_cons.1 h with rfl | h
    · omega
    · have := sizesP_mem h; omega
theorem sizesP_next {l : List PolT} {i : Nat} (h : i < l.length) : sizesP (l.take (i + 1)) = sizesP (l.take i) + sizeP l[i] := by
  rw [List.take_succ_eq_append_getElem h, sizesP_app]; simp [sizesP]
theorem depthsP_next {l : List PolT} {i : Nat} (h : i < l.length) : depthsP (l.take (i + 1)) 0 = max (depthsP (l.take i) 0) (depthP l[i]) := by
  rw [List.take_succ_eq_append_getElem h, depthsP_app]; simp [depthsP]
theorem sizesP_take (l : List PolT) (i : Nat) : sizesP (l.take i) ≤ sizesP l := by
  have := sizesP_app (l.take i) (l.drop i)
  rw [List.take_append_drop] at this; omega
theorem size_ctr (g : GP) : ∀ (m : Nat) (p : PolT), sizeP p ≤ m → sizeP p < 2 ^ 62 → Ctr (ax g).E 101 [.dagg (rowO4 p)] [] (fun o => o = .ret (.i64 (sizeP p)) [])
  | 0, p, h, _ => by have := sizeP_pos p; omega
  | m + 1, .mk op f n kids, hm, hs => by
    have ih := size_ctr g m
    rw [sizeP] at hm hs
    have hlen := sizesP_len kids
    rw [rowO4, rowsO_map, sizeP]
    refine Ctr.body (X := ax g) _ 19 [] [.tmp 2] Tryz.func101 rfl rfl rfl rfl (by decide +kernel) rfl rfl ?_
    conv => whnf
    repeat (refine And.intro easyE ?_; conv => whnf)
    refine LoopP.inv (X := ax g) (fun i : Nat => { f := [(1, .ptr 1 0), (2, .i64 0), (3, .i64 ((1 + sizesP (kids.take i) : Nat) : Int)), (7, .d (.sl false 4 (kids.map rowO4))), (8, .i64 kids.length), (9, .i64 i)], h := [(1, some (.dvar 4 [.i64 op, .i64 f, .u16 n, .sl false 4 (kids.map rowO4)]))] }) (fun i => i ≤ kids.length) (fun i => kids.length - i) 0 (Nat.zero_le _) ⟨⟨rfl, rfl, rfl, rfl, AV.int_eq (by simp []), rfl, trivial⟩, ⟨fun o h => h, trivial⟩⟩ fun i hi => ?_
    conv => whnf
    refine ifB_intro (fun h2 => ?_) (fun h2 => ?_)
    · have hlt : i < kids.length := by simpa using h2
      conv => whnf
      refine And.intro (by omega) ?_
      refine And.intro (by simpa using hlt) ?_
      conv => whnf
      rw [getD_map rowO4 kids i [] hlt]
      have hmem := sizesP_mem (List.getElem_mem hlt)
      have hnx := sizesP_next hlt
      have htk := sizesP_take kids (i + 1)
      have hc := ih kids[i] (by omega) (by omega)
      generalize kids[i] = x at hmem hnx hc
      obtain ⟨xo, xf, xn, xk⟩ := x
      conv => whnf
      repeat (refine And.intro easyE ?_; conv => whnf)
      refine CallP.det hc ?_
      conv => whnf
      repeat (refine And.intro easyE ?_; conv => whnf)
      exact ⟨i + 1, by omega, by omega, ⟨⟨rfl, rfl, AV.int_eq (by rw [i64_wrap (by omega) (by omega)]; rw [hnx]; omega), rfl, rfl, AV.int_eq (i64_succ (by omega)), trivial⟩, ⟨fun o h => h, trivial⟩⟩⟩
    · have hge : kids.length ≤ i := by simpa using h2
      conv => whnf
      refine ⟨⟨[], ?_⟩⟩
      conv => whnf
      rw [List.take_of_length_le hge]
mutual
theorem depthP_le : ∀ p : PolT, depthP p ≤ sizeP p
  | .mk _ _ _ kids => by have := depthsP_le kids 0; rw [depthP, sizeP]; omega
theorem depthsP_le : ∀ (l : List PolT) (d : Nat), depthsP l d ≤ d + sizesP l
  | [], d => by rw [depthsP, sizesP]; omega
  | p :: l, d => by have := depthsP_le l (max d (depthP p)); have := depthP_le p; rw [depthsP, sizesP]; omega
end
theorem max_nat (a b : Nat) : (if (a : Int) < (b : Int) then (b : Int) else (a : Int)) = ((max a b : Nat) : Int) := by
  split <;> omega
theorem depth_ctr (g : GP) : ∀ (m : Nat) (p : PolT), sizeP p ≤ m → sizeP p < 2 ^ 62 → Ctr (ax g).E 102 [.dagg (rowO4 p)] [] (fun o => o = .ret (.i64 (depthP p)) [])
  | 0, p, h, _ => by have := sizeP_pos p; omega
  | m + 1, .mk op f n kids, hm, hs => by
    have ih := depth_ctr g m
    rw [sizeP] at hm hs
    have hlen := sizesP_len kids
    rw [rowO4, rowsO_map, depthP]
    refine Ctr.body (X := ax g) _ 20 [] [.tmp 2] Tryz.func102 rfl rfl rfl rfl (by decide +kernel) rfl rfl ?_
    conv => whnf
    repeat (refine And.intro easyE ?_; conv => whnf)
    refine LoopP.inv (X := ax g) (fun i : Nat => { f := [(1, .ptr 1 0), (2, .i64 0), (3, .i64 ((depthsP (kids.take i) 0 : Nat) : Int)), (7, .d (.sl false 4 (kids.map rowO4))), (8, .i64 kids.length), (9, .i64 i)], h := [(1, some (.dvar 4 [.i64 op, .i64 f, .u16 n, .sl false 4 (kids.map rowO4)]))] }) (fun i => i ≤ kids.length) (fun i => kids.length - i) 0 (Nat.zero_le _) ⟨⟨rfl, rfl, rfl, rfl, AV.int_eq (by simp []), rfl, trivial⟩, ⟨fun o h => h, trivial⟩⟩ fun i hi => ?_
    conv => whnf
    refine ifB_intro (fun h2 => ?_) (fun h2 => ?_)
    · have hlt : i < kids.length := by simpa using h2
      conv => whnf
      refine And.intro (by omega) ?_
      refine And.intro (by simpa using hlt) ?_
      conv => whnf
      rw [getD_map rowO4 kids i [] hlt]
      have hmem := sizesP_mem (List.getElem_mem hlt)
      have hnx := depthsP_next hlt
      have hb1 := depthsP_le (kids.take i) 0
      have hb3 := depthP_le kids[i]
      have htk := sizesP_take kids (i + 1)
      have hc := ih kids[i] (by omega) (by omega)
      generalize kids[i] = x at hmem hnx hc hb3
      obtain ⟨xo, xf, xn, xk⟩ := x
      conv => whnf
      repeat (refine And.intro easyE ?_; conv => whnf)
      refine CallP.det hc ?_
      conv => whnf
      repeat (refine And.intro easyE ?_; conv => whnf)
      exact ⟨i + 1, by omega, by omega, ⟨⟨rfl, rfl, AV.int_eq (by rw [hnx]; exact max_nat _ _), rfl, rfl, AV.int_eq (i64_succ (by omega)), trivial⟩, ⟨fun o h => h, trivial⟩⟩⟩
    · have hge : kids.length ≤ i := by simpa using h2
      have hb1 := depthsP_le kids 0
      rw [List.take_of_length_le hge]
      conv => whnf
      repeat (refine And.intro easyE ?_; conv => whnf)
      refine ⟨⟨[], ?_⟩⟩
      conv => whnf
      show AOut.ret (AV.d (.v (.int .i64 (IntKind.i64.wrap ((depthsP kids 0 : Nat) + 1))))) [] = _
      rw [i64_wrap (by omega) (by omega)]; rfl
end Go.Ax

namespace Go.Ax
open Go.Proofs
set_option maxRecDepth 10000
def findP (q : PolT → Bool) : List PolT → Nat → Int
  | [], _ => -1
  | p :: l, i => if q p then i else findP q l (i + 1)
theorem findP_drop (q : PolT → Bool) (l : List PolT) (i : Nat) (h : i < l.length) : findP q (l.drop i) i = if q l[i] then (i : Int) else findP q (l.drop (i + 1)) (i + 1) := by
  rw [List.drop_eq_getElem_cons h]; rfl
theorem findP_iff (q : PolT → Bool) : ∀ (l : List PolT) (i : Nat), 0 ≤ findP q l i ↔ l.any q = true
  | [], i => by simp [findP]
  | p :: l, i => by
    show (0 ≤ if q p = true then (i : Int) else findP q l (i + 1)) ↔ _
    by_cases h : q p = true
    · rw [if_pos h]; simp [h]
    · rw [if_neg h, findP_iff q l (i + 1)]; simp [h]
theorem findP_any (q : PolT → Bool) (l : List PolT) (i : Nat) : decide (0 ≤ findP q l i) = l.any q := by
  rw [Bool.eq_iff_iff, decide_eq_true_iff]; exact findP_iff q l i
theorem indexF0_ctr (g : GP) (fn : Nat) (q : PolT → Bool) (l : List PolT) (hl : l.length < 2 ^ 62) (hq : ∀ x ∈ l, Ctr (ax g).E fn [.dagg (rowO4 x)] [] (fun o => o = .ret (.bool (q x)) [])) : Ctr (ax g).E 198 [.d (.sl false 4 (l.map rowO4)), .clo (.func fn) [] []] [] (fun o => o = .ret (.i64 (findP q l 0)) []) := by
  refine Ctr.body (X := ax g) _ 19 [] [.tmp 4] Tryz.func198 rfl rfl rfl rfl (by decide +kernel) rfl rfl ?_
  conv => whnf
  repeat (refine And.intro easyE ?_; conv => whnf)
  refine LoopP.inv (X := ax g) (fun i : Nat => { f := [(0, .d (.sl false 4 (l.map rowO4))), (1, .clo (.func fn) [] []), (4, .i64 0), (7, .i64 l.length), (8, .i64 i)], h := [] }) (fun i => i ≤ l.length ∧ findP q l 0 = findP q (l.drop i) i) (fun i => l.length - i) 0 ⟨Nat.zero_le _, rfl⟩ ⟨⟨rfl, rfl, rfl, AV.int_eq (by simp), rfl, trivial⟩, trivial⟩ fun i ⟨hi, he⟩ => ?_
  conv => whnf
  refine ifB_intro (fun h2 => ?_) (fun h2 => ?_)
  · have hlt : i < l.length := by simpa using h2
    have hd := findP_drop q l i hlt
    have hc := hq l[i] (List.getElem_mem hlt)
    conv => whnf
    repeat (refine And.intro easyE ?_; conv => whnf)
    rw [getD_map rowO4 l i [] hlt]
    generalize l[i] = x at hd hc
    obtain ⟨xo, xf, xn, xk⟩ := x
    conv => whnf
    repeat (refine And.intro easyE ?_; conv => whnf)
    refine CallP.det hc ?_
    conv => whnf
    refine ifB_intro (fun h3 => ?_) (fun h3 => ?_)
    · have h3 : q (.mk xo xf xn xk) = true := h3
      rw [h3, if_pos rfl] at hd
      conv => whnf
      refine ⟨⟨[], ?_⟩⟩
      conv => whnf
      rw [he, hd]
    · have h3 : q (.mk xo xf xn xk) = false := h3
      rw [h3] at hd
      conv => whnf
      exact ⟨i + 1, ⟨by omega, by rw [he, hd]; rfl⟩, by omega, ⟨⟨rfl, rfl, rfl, rfl, AV.int_eq (i64_succ (by omega)), trivial⟩, trivial⟩⟩
  · have hge : l.length ≤ i := by simpa using h2
    conv => whnf
    refine ⟨⟨[], ?_⟩⟩
    conv => whnf
    rw [he, List.drop_eq_nil_of_le hge]; rfl
theorem contF0_ctr (g : GP) (fn : Nat) (q : PolT → Bool) (l : List PolT) (hl : l.length < 2 ^ 62) (hq : ∀ x ∈ l, Ctr (ax g).E fn [.dagg (rowO4 x)] [] (fun o => o = .ret (.bool (q x)) [])) : Ctr (ax g).E 152 [.d (.sl false 4 (l.map rowO4)), .clo (.func fn) [] []] [] (fun o => o = .ret (.bool (l.any q)) []) := by
  refine Ctr.body (X := ax g) _ 9 [] [.tmp 4] Tryz.func152 rfl rfl rfl rfl (by decide +kernel) rfl rfl ?_
  conv => whnf
  repeat (refine And.intro easyE ?_; conv => whnf)
  refine CallP.det (indexF0_ctr g fn q l hl hq) ?_
  conv => whnf
  refine ⟨⟨[], ?_⟩⟩
  conv => whnf
  rw [← findP_any q l 0]
mutual
def predP : PolT → Bool
  | .mk op _ _ kids => if op = 0 ∨ op = 1 ∨ op = 2 ∨ op = 3 ∨ op = 4 then true else if op = 6 ∨ op = 7 then !predsN kids else false
def predsN : List PolT → Bool
  | [] => false
  | p :: l => !predP p || predsN l
end
theorem predsN_any : ∀ l : List PolT, predsN l = l.any fun p => !predP p
  | [] => by rw [predsN]; rfl
  | p :: l => by rw [predsN, predsN_any l]; rfl
theorem pred1_ctr (g : GP) (x : PolT) (h : Ctr (ax g).E 151 [.dagg (rowO4 x)] [] (fun o => o = .ret (.bool (predP x)) [])) : Ctr (ax g).E 197 [.dagg (rowO4 x)] [] (fun o => o = .ret (.bool (!predP x)) []) := by
  obtain ⟨op, f, n, kids⟩ := x
  rw [rowO4] at h ⊢
  refine Ctr.body (X := ax g) _ 6 [] [.tmp 2] Tryz.func197 rfl rfl rfl rfl (by decide +kernel) rfl rfl ?_
  conv => whnf
  repeat (refine And.intro easyE ?_; conv => whnf)
  refine CallP.det h ?_
  conv => whnf
  refine ⟨⟨[], ?_⟩⟩
  conv => whnf
theorem pred_ctr (g : GP) : ∀ (m : Nat) (p : PolT), sizeP p ≤ m → sizeP p < 2 ^ 62 → Ctr (ax g).E 151 [.dagg (rowO4 p)] [] (fun o => o = .ret (.bool (predP p)) [])
  | 0, p, h, _ => by have := sizeP_pos p; omega
  | m + 1, .mk op f n kids, hm, hs => by
    have ih := pred_ctr g m
    rw [sizeP] at hm hs
    have hlen := sizesP_len kids
    have hq : ∀ x ∈ kids, Ctr (ax g).E 197 [.dagg (rowO4 x)] [] (fun o => o = .ret (.bool (!predP x)) []) := fun x hx => by
      have := sizesP_mem hx
      exact pred1_ctr g x (ih x (by omega) (by omega))
    rw [rowO4, rowsO_map, predP]
    refine Ctr.body (X := ax g) _ 18 [] [.tmp 2] Tryz.func151 rfl rfl rfl rfl (by decide +kernel) rfl rfl ?_
    conv => whnf
    repeat (refine And.intro easyE ?_; conv => whnf)
    refine ifB_intro (fun h0 => ?_) (fun h0 => ?_)
    · have h0 : (op == 0) = true := h0
      have h0 : op = 0 := by simpa using h0
      rw [if_pos (by omega)]
      subst h0
      conv => whnf
      refine ⟨⟨[], ?_⟩⟩
      conv => whnf
    · rw [h0]
      have h0 : (op == 0) = false := h0
      have h0 : op ≠ 0 := by simpa using h0
      conv => whnf
      refine ifB_intro (fun h1 => ?_) (fun h1 => ?_)
      · have h1 : (op == 1) = true := h1
        have h1 : op = 1 := by simpa using h1
        rw [if_pos (by omega)]
        subst h1
        conv => whnf
        refine ⟨⟨[], ?_⟩⟩
        conv => whnf
      · rw [h1]
        have h1 : (op == 1) = false := h1
        have h1 : op ≠ 1 := by simpa using h1
        conv => whnf
        refine ifB_intro (fun h2 => ?_) (fun h2 => ?_)
        · have h2 : (op == 2) = true := h2
          have h2 : op = 2 := by simpa using h2
          rw [if_pos (by omega)]
          subst h2
          conv => whnf
          refine ⟨⟨[], ?_⟩⟩
          conv => whnf
        · rw [h2]
          have h2 : (op == 2) = false := h2
          have h2 : op ≠ 2 := by simpa using h2
          conv => whnf
          refine ifB_intro (fun h3 => ?_) (fun h3 => ?_)
          · have h3 : (op == 3) = true := h3
            have h3 : op = 3 := by simpa using h3
            rw [if_pos (by omega)]
            subst h3
            conv => whnf
            refine ⟨⟨[], ?_⟩⟩
            conv => whnf
          · rw [h3]
            have h3 : (op == 3) = false := h3
            have h3 : op ≠ 3 := by simpa using h3
            conv => whnf
            refine ifB_intro (fun h4 => ?_) (fun h4 => ?_)
            · have h4 : (op == 4) = true := h4
              have h4 : op = 4 := by simpa using h4
              rw [if_pos (by omega)]
              subst h4
              conv => whnf
              refine ⟨⟨[], ?_⟩⟩
              conv => whnf
            · rw [h4]
              have h4 : (op == 4) = false := h4
              have h4 : op ≠ 4 := by simpa using h4
              conv => whnf
              rw [if_neg (by omega)]
              refine ifB_intro (fun h6 => ?_) (fun h6 => ?_)
              · have h6 : (op == 6) = true := h6
                have h6 : op = 6 := by simpa using h6
                rw [if_pos (by omega)]
                subst h6
                conv => whnf
                repeat (refine And.intro easyE ?_; conv => whnf)
                refine CallP.det (contF0_ctr g 197 (fun p => !predP p) kids (by omega) hq) ?_
                rw [← predsN_any]
                conv => whnf
                refine ⟨⟨[], ?_⟩⟩
                conv => whnf
              · rw [h6]
                have h6 : (op == 6) = false := h6
                have h6 : op ≠ 6 := by simpa using h6
                conv => whnf
                refine ifB_intro (fun h7 => ?_) (fun h7 => ?_)
                · have h7 : (op == 7) = true := h7
                  have h7 : op = 7 := by simpa using h7
                  rw [if_pos (by omega)]
                  subst h7
                  conv => whnf
                  repeat (refine And.intro easyE ?_; conv => whnf)
                  refine CallP.det (contF0_ctr g 197 (fun p => !predP p) kids (by omega) hq) ?_
                  rw [← predsN_any]
                  conv => whnf
                  refine ⟨⟨[], ?_⟩⟩
                  conv => whnf
                · have h7 : (op == 7) = false := h7
                  have h7 : op ≠ 7 := by simpa using h7
                  rw [if_neg (by omega)]
                  conv => whnf
                  refine ⟨⟨[], ?_⟩⟩
                  conv => whnf
end Go.Ax

namespace Go.Ax
open Go.Proofs
set_option maxRecDepth 10000
theorem indexF1_ctr (g : GP) (fn : Nat) (k : Int) (q : PolT → Bool) (l : List PolT) (hl : l.length < 2 ^ 62) (hq : ∀ x ∈ l, Ctr (ax g).E fn [.dagg (rowO4 x), .ptr 9000 0] [(9000, some (.dvar 1 [.i64 k]))] (fun o => o = .ret (.bool (q x)) [(9000, some (.dvar 1 [.i64 k]))])) : Ctr (ax g).E 198 [.d (.sl false 4 (l.map rowO4)), .clo (.func fn) [] [.ptr 9000 0]] [(9000, some (.dvar 1 [.i64 k]))] (fun o => o = .ret (.i64 (findP q l 0)) [(9000, some (.dvar 1 [.i64 k]))]) := by
  refine Ctr.body (X := ax g) _ 19 [9000] [.tmp 4] Tryz.func198 rfl rfl rfl rfl (by decide +kernel) rfl rfl ?_
  conv => whnf
  repeat (refine And.intro easyE ?_; conv => whnf)
  refine LoopP.inv (X := ax g) (fun i : Nat => { f := [(0, .d (.sl false 4 (l.map rowO4))), (1, .clo (.func fn) [] [.ptr 9000 0]), (4, .i64 0), (7, .i64 l.length), (8, .i64 i)], h := [(9000, some (.dvar 1 [.i64 k]))] }) (fun i => i ≤ l.length ∧ findP q l 0 = findP q (l.drop i) i) (fun i => l.length - i) 0 ⟨Nat.zero_le _, rfl⟩ ⟨⟨rfl, rfl, rfl, AV.int_eq (by simp), rfl, trivial⟩, ⟨fun o h => h, trivial⟩⟩ fun i ⟨hi, he⟩ => ?_
  conv => whnf
  refine ifB_intro (fun h2 => ?_) (fun h2 => ?_)
  · have hlt : i < l.length := by simpa using h2
    have hd := findP_drop q l i hlt
    have hc := hq l[i] (List.getElem_mem hlt)
    conv => whnf
    repeat (refine And.intro easyE ?_; conv => whnf)
    rw [getD_map rowO4 l i [] hlt]
    generalize l[i] = x at hd hc
    obtain ⟨xo, xf, xn, xk⟩ := x
    conv => whnf
    repeat (refine And.intro easyE ?_; conv => whnf)
    refine CallP.upd rfl hc ?_
    conv => whnf
    refine ifB_intro (fun h3 => ?_) (fun h3 => ?_)
    · have h3 : q (.mk xo xf xn xk) = true := h3
      rw [h3, if_pos rfl] at hd
      conv => whnf
      refine ⟨⟨[(9000, some (.dvar 1 [.i64 k]))], ?_⟩⟩
      conv => whnf
      refine And.intro ⟨fun o h => h, trivial⟩ ?_
      conv => whnf
      rw [he, hd]
    · have h3 : q (.mk xo xf xn xk) = false := h3
      rw [h3] at hd
      conv => whnf
      exact ⟨i + 1, ⟨by omega, by rw [he, hd]; rfl⟩, by omega, ⟨⟨rfl, rfl, rfl, rfl, AV.int_eq (i64_succ (by omega)), trivial⟩, ⟨fun o h => h, trivial⟩⟩⟩
  · have hge : l.length ≤ i := by simpa using h2
    conv => whnf
    refine ⟨⟨[(9000, some (.dvar 1 [.i64 k]))], ?_⟩⟩
    conv => whnf
    refine And.intro ⟨fun o h => h, trivial⟩ ?_
    conv => whnf
    rw [he, List.drop_eq_nil_of_le hge]; rfl
theorem contF1_ctr (g : GP) (fn : Nat) (k : Int) (q : PolT → Bool) (l : List PolT) (hl : l.length < 2 ^ 62) (hq : ∀ x ∈ l, Ctr (ax g).E fn [.dagg (rowO4 x), .ptr 9000 0] [(9000, some (.dvar 1 [.i64 k]))] (fun o => o = .ret (.bool (q x)) [(9000, some (.dvar 1 [.i64 k]))])) : Ctr (ax g).E 152 [.d (.sl false 4 (l.map rowO4)), .clo (.func fn) [] [.ptr 9000 0]] [(9000, some (.dvar 1 [.i64 k]))] (fun o => o = .ret (.bool (l.any q)) [(9000, some (.dvar 1 [.i64 k]))]) := by
  refine Ctr.body (X := ax g) _ 9 [9000] [.tmp 4] Tryz.func152 rfl rfl rfl rfl (by decide +kernel) rfl rfl ?_
  conv => whnf
  repeat (refine And.intro easyE ?_; conv => whnf)
  refine CallP.upd rfl (indexF1_ctr g fn k q l hl hq) ?_
  conv => whnf
  refine ⟨⟨[(9000, some (.dvar 1 [.i64 k]))], ?_⟩⟩
  conv => whnf
  refine And.intro ⟨fun o h => h, trivial⟩ ?_
  conv => whnf
  rw [← findP_any q l 0]
mutual
def formP (k : Int) : PolT → Bool
  | .mk op f n kids =>
    let bare := f == 0 && n == 0
    if op = 0 ∨ op = 1 then kids.length == 0 && bare
    else if op = 4 then kids.length == 1 && bare && !predsN kids && !formsN k kids
    else if op = 6 ∨ op = 7 then decide (2 ≤ kids.length) && bare && !formsN k kids
    else if op = 2 then kids.length == 0 && decide (0 ≤ f) && decide (f < 8)
    else if op = 5 then kids.length == 0 && decide (1 ≤ f) && decide (f < 8)
    else if op = 3 then kids.length == 0 && decide (0 ≤ f) && decide (f < k)
    else false
def formsN (k : Int) : List PolT → Bool
  | [] => false
  | p :: l => !formP k p || formsN k l
end
theorem formsN_any (k : Int) : ∀ l : List PolT, formsN k l = l.any fun p => !formP k p
  | [] => by rw [formsN]; rfl
  | p :: l => by rw [formsN, formsN_any k l]; rfl
theorem form1_ctr (g : GP) (k : Int) (x : PolT) (h : Ctr (ax g).E 103 [.dagg (rowO4 x), .i64 k] [] (fun o => o = .ret (.bool (formP k x)) [])) : Ctr (ax g).E 153 [.dagg (rowO4 x), .ptr 9000 0] [(9000, some (.dvar 1 [.i64 k]))] (fun o => o = .ret (.bool (!formP k x)) [(9000, some (.dvar 1 [.i64 k]))]) := by
  obtain ⟨op, f, n, kids⟩ := x
  rw [rowO4] at h ⊢
  refine Ctr.body (X := ax g) _ 8 [9000] [.tmp 3] Tryz.func153 rfl rfl rfl rfl (by decide +kernel) rfl rfl ?_
  conv => whnf
  repeat (refine And.intro easyE ?_; conv => whnf)
  refine CallP.det h ?_
  conv => whnf
  refine ⟨⟨[(9000, some (.dvar 1 [.i64 k]))], ?_⟩⟩
  conv => whnf
  refine And.intro ⟨fun o h => h, trivial⟩ ?_
  conv => whnf
end Go.Ax

namespace Go.Ax
open Go.Proofs
set_option maxRecDepth 10000
def rowP4 (p : PolT) : List D := [.i64 p.op, .i64 p.f, .u16 p.n, .sl false 4 (p.kids.map rowO4)]
theorem rowO4_at (p : PolT) : rowO4 p = rowP4 p := by
  cases p; rw [rowO4, rowsO_map]; rfl
theorem sizeP_at (p : PolT) : sizeP p = 1 + sizesP p.kids := by cases p; rw [sizeP]; rfl
theorem depthP_at (p : PolT) : depthP p = depthsP p.kids 0 + 1 := by cases p; rw [depthP]; rfl
theorem predP_at (p : PolT) : predP p = if p.op = 0 ∨ p.op = 1 ∨ p.op = 2 ∨ p.op = 3 ∨ p.op = 4 then true else if p.op = 6 ∨ p.op = 7 then !predsN p.kids else false := by cases p; rw [predP]; rfl
theorem formP_at (k : Int) (p : PolT) : formP k p =
    if p.op = 0 ∨ p.op = 1 then p.kids.length == 0 && (p.f == 0 && p.n == 0)
    else if p.op = 4 then p.kids.length == 1 && (p.f == 0 && p.n == 0) && !predsN p.kids && !formsN k p.kids
    else if p.op = 6 ∨ p.op = 7 then decide (2 ≤ p.kids.length) && (p.f == 0 && p.n == 0) && !formsN k p.kids
    else if p.op = 2 then p.kids.length == 0 && decide (0 ≤ p.f) && decide (p.f < 8)
    else if p.op = 5 then p.kids.length == 0 && decide (1 ≤ p.f) && decide (p.f < 8)
    else if p.op = 3 then p.kids.length == 0 && decide (0 ≤ p.f) && decide (p.f < k)
    else false := by cases p; rw [formP]; rfl
theorem size_ctr' (g : GP) (p : PolT) (h : sizeP p < 2 ^ 62) : Ctr (ax g).E 101 [.dagg (rowP4 p)] [] (fun o => o = .ret (.i64 (sizeP p)) []) := by
  rw [← rowO4_at]; exact size_ctr g _ p (Nat.le_refl _) h
theorem depth_ctr' (g : GP) (p : PolT) (h : sizeP p < 2 ^ 62) : Ctr (ax g).E 102 [.dagg (rowP4 p)] [] (fun o => o = .ret (.i64 (depthP p)) []) := by
  rw [← rowO4_at]; exact depth_ctr g _ p (Nat.le_refl _) h
theorem pred_ctr' (g : GP) (p : PolT) (h : sizeP p < 2 ^ 62) : Ctr (ax g).E 151 [.dagg (rowP4 p)] [] (fun o => o = .ret (.bool (predP p)) []) := by
  rw [← rowO4_at]; exact pred_ctr g _ p (Nat.le_refl _) h
theorem getD_lit0 {α β : Type} (f : α → β) (l : List α) (d : β) (h : 0 < l.length) : (l.map f).getD (0 : Int).toNat d = f l[0] := by
  simp [List.getD, h]
theorem getD_lit1 {α β : Type} (f : α → β) (l : List α) (d : β) (h : 1 < l.length) : (l.map f).getD (1 : Int).toNat d = f l[1] := by
  simp [List.getD, h]
theorem len_int {α β : Type} (f : α → β) (l : List α) : ((l.map f).length : Int) = (l.length : Int) := by rw [List.length_map]
theorem predsN_one {l : List PolT} (h : 0 < l.length) (h1 : l.length = 1) : predsN l = !predP l[0] := by
  obtain ⟨x, hx⟩ := List.length_eq_one_iff.1 h1
  simp [hx, predsN]
theorem formsN_one {k : Int} {l : List PolT} (h : 0 < l.length) (h1 : l.length = 1) : formsN k l = !formP k l[0] := by
  obtain ⟨x, hx⟩ := List.length_eq_one_iff.1 h1
  simp [hx, formsN]
theorem form_ctr (g : GP) (k : Int) : ∀ (m : Nat) (p : PolT), sizeP p ≤ m → sizeP p < 2 ^ 62 → Ctr (ax g).E 103 [.dagg (rowP4 p), .i64 k] [] (fun o => o = .ret (.bool (formP k p)) [])
  | 0, p, h, _ => by have := sizeP_pos p; omega
  | m + 1, p, hm, hs => by
    have ih := form_ctr g k m
    rw [sizeP_at] at hm hs
    have hlen := sizesP_len p.kids
    have hq : ∀ x ∈ p.kids, Ctr (ax g).E 153 [.dagg (rowO4 x), .ptr 9000 0] [(9000, some (.dvar 1 [.i64 k]))] (fun o => o = .ret (.bool (!formP k x)) [(9000, some (.dvar 1 [.i64 k]))]) := fun x hx => by
      have := sizesP_mem hx
      exact form1_ctr g k x (by rw [rowO4_at]; exact ih x (by omega) (by omega))
    have hc := (contF1_ctr g 153 k (fun p => !formP k p) p.kids (by omega) hq).swap 9000 3
    rw [← formsN_any] at hc
    refine Ctr.body (X := ax g) _ 92 [] [.tmp 4] Tryz.func103 rfl rfl rfl rfl (by decide +kernel) rfl rfl ?_
    conv => whnf
    repeat' (first | (refine And.intro easyA ?_; conv => whnf) | (refine ifB_intro (fun hA => ?_) (fun hA => ?_) <;> (try rw [hA]) <;> (conv => whnf) <;> (first | replace hA := nrmA hA | replace hA := nrmB hA | replace hA := nrmC hA | replace hA := nrmD hA | replace hA := nrmE hA | replace hA := nrmF hA | skip) <;> (try simp only [List.length_map, cond_true] at hA)) | (refine DrawP.intro (X := ax g) (id := 9) B103_9 (by kernel_rfl) (by decide +kernel) ?_; conv => whnf) | (refine CallP.upd rfl (hc) ?_; conv => whnf) | (refine CallD.upd rfl (hc) ?_; conv => whnf) | (rw [getD_lit0 rowO4 p.kids [] (by omega), rowO4_at]; conv => whnf) | (refine CallP.det (pred_ctr' g _ (by have := sizesP_mem (List.getElem_mem (l := p.kids) (n := 0) (by omega)); omega)) ?_; conv => whnf) | (refine CallD.det (pred_ctr' g _ (by have := sizesP_mem (List.getElem_mem (l := p.kids) (n := 0) (by omega)); omega)) ?_; conv => whnf) | (refine CallP.det (ih _ (by have := sizesP_mem (List.getElem_mem (l := p.kids) (n := 0) (by omega)); omega) (by have := sizesP_mem (List.getElem_mem (l := p.kids) (n := 0) (by omega)); omega)) ?_; conv => whnf) | (refine CallD.det (ih _ (by have := sizesP_mem (List.getElem_mem (l := p.kids) (n := 0) (by omega)); omega) (by have := sizesP_mem (List.getElem_mem (l := p.kids) (n := 0) (by omega)); omega)) ?_; conv => whnf) | (rw [getD_map _ _ _ _ (by assumption)]; conv => whnf))
    all_goals (refine ⟨⟨[], ?_⟩⟩; conv => whnf)
    all_goals clear ih hq hc
    all_goals first
      | (rw [formP_at k p]; simp_all; done)
      | (rw [formP_at k p]; simp_all <;> (intros; omega))
      | (have h1 : p.kids.length = 1 := by omega
         have h0 : 0 < p.kids.length := by omega
         rw [formP_at k p, predsN_one h0 h1, formsN_one h0 h1]
         generalize predP p.kids[0] = u at *
         generalize formP k p.kids[0] = v at *
         simp_all)
end Go.Ax

namespace Go.Ax
open Go.Proofs
set_option maxRecDepth 10000
theorem rsize_ctr (g : GP) : ∀ (m : Nat) (p : PolT), sizeP p ≤ m → sizeP p < 2 ^ 62 → Ctr (ax g).E 52 [.dagg (rowP4 p)] [] (fun o => o = .ret (.i64 (sizeP p)) [])
  | 0, p, h, _ => by have := sizeP_pos p; omega
  | m + 1, p, hm, hs => by
    have ih := rsize_ctr g m
    rw [sizeP_at] at hm hs
    have hlen := sizesP_len p.kids
    refine Ctr.body (X := ax g) _ 21 [] [.tmp 2] Tryz.func52 rfl rfl rfl rfl (by decide +kernel) rfl rfl ?_
    conv => whnf
    repeat (refine And.intro easyE ?_; conv => whnf)
    refine LoopP.inv (X := ax g) (fun i : Nat => { f := [(1, .ptr 1 0), (2, .i64 0), (3, .i64 ((1 + sizesP (p.kids.take i) : Nat) : Int)), (4, .i64 i)], h := [(1, some (.dvar 4 (rowP4 p)))] }) (fun i => i ≤ p.kids.length) (fun i => p.kids.length - i) 0 (Nat.zero_le _) ⟨⟨rfl, rfl, rfl, rfl, trivial⟩, ⟨fun o h => h, trivial⟩⟩ fun i hi => ?_
    conv => whnf
    repeat (refine And.intro easyE ?_; conv => whnf)
    refine ifB_intro (fun h2 => ?_) (fun h2 => ?_)
    · have hlt : i < p.kids.length := by simpa [rowP4, D.els] using h2
      have hmem := sizesP_mem (List.getElem_mem hlt)
      have hnx := sizesP_next hlt
      have htk := sizesP_take p.kids (i + 1)
      have hc := ih p.kids[i] (by omega) (by omega)
      repeat' (first | (refine And.intro easyA ?_; conv => whnf) | (refine ifB_intro (fun hA => ?_) (fun hA => ?_) <;> (try rw [hA]) <;> (conv => whnf) <;> (first | replace hA := nrmA hA | replace hA := nrmB hA | replace hA := nrmC hA | replace hA := nrmD hA | replace hA := nrmE hA | replace hA := nrmF hA | skip) <;> (try simp only [List.length_map, cond_true, cond_false, Bool.not_eq_true', Bool.not_eq_false', beq_iff_eq, beq_eq_false_iff_ne, ne_eq] at hA) <;> (try simp only [cut, D.int, D.str, D.bool, D.els, List.drop_zero, List.drop_succ_cons, List.take_succ_cons, List.take_zero, List.getD_cons_zero, List.getD_cons_succ, Nat.add_zero, Nat.zero_add, Nat.reduceAdd, rowP4] at hA)) | (rw [getD_map rowO4 p.kids i [] hlt, rowO4_at]; conv => whnf) | (refine CallP.det (hc) ?_; conv => whnf) | (refine CallD.det (hc) ?_; conv => whnf) | (rw [getD_map _ _ _ _ (by assumption)]; conv => whnf))
      exact ⟨i + 1, by omega, by omega, ⟨⟨rfl, rfl, AV.int_eq (by rw [i64_wrap (by omega) (by omega)]; rw [hnx]; omega), AV.int_eq (i64_succ (by omega)), trivial⟩, ⟨fun o h => h, trivial⟩⟩⟩
    · have hge : p.kids.length ≤ i := by simpa [rowP4, D.els] using h2
      conv => whnf
      refine ⟨⟨[], ?_⟩⟩
      conv => whnf
      rw [List.take_of_length_le hge, sizeP_at]
theorem rdepth_ctr (g : GP) : ∀ (m : Nat) (p : PolT), sizeP p ≤ m → sizeP p < 2 ^ 62 → Ctr (ax g).E 53 [.dagg (rowP4 p)] [] (fun o => o = .ret (.i64 (depthP p)) [])
  | 0, p, h, _ => by have := sizeP_pos p; omega
  | m + 1, p, hm, hs => by
    have ih := rdepth_ctr g m
    rw [sizeP_at] at hm hs
    have hlen := sizesP_len p.kids
    refine Ctr.body (X := ax g) _ 22 [] [.tmp 2] Tryz.func53 rfl rfl rfl rfl (by decide +kernel) rfl rfl ?_
    conv => whnf
    repeat (refine And.intro easyE ?_; conv => whnf)
    refine LoopP.inv (X := ax g) (fun i : Nat => { f := [(1, .ptr 1 0), (2, .i64 0), (3, .i64 ((depthsP (p.kids.take i) 0 : Nat) : Int)), (4, .i64 i)], h := [(1, some (.dvar 4 (rowP4 p)))] }) (fun i => i ≤ p.kids.length) (fun i => p.kids.length - i) 0 (Nat.zero_le _) ⟨⟨rfl, rfl, rfl, rfl, trivial⟩, ⟨fun o h => h, trivial⟩⟩ fun i hi => ?_
    conv => whnf
    repeat (refine And.intro easyE ?_; conv => whnf)
    refine ifB_intro (fun h2 => ?_) (fun h2 => ?_)
    · have hlt : i < p.kids.length := by simpa [rowP4, D.els] using h2
      have hmem := sizesP_mem (List.getElem_mem hlt)
      have hnx := depthsP_next hlt
      have hc := ih p.kids[i] (by omega) (by omega)
      repeat' (first | (refine And.intro easyA ?_; conv => whnf) | (refine ifB_intro (fun hA => ?_) (fun hA => ?_) <;> (try rw [hA]) <;> (conv => whnf) <;> (first | replace hA := nrmA hA | replace hA := nrmB hA | replace hA := nrmC hA | replace hA := nrmD hA | replace hA := nrmE hA | replace hA := nrmF hA | skip) <;> (try simp only [List.length_map, cond_true, cond_false, Bool.not_eq_true', Bool.not_eq_false', beq_iff_eq, beq_eq_false_iff_ne, ne_eq] at hA) <;> (try simp only [cut, D.int, D.str, D.bool, D.els, List.drop_zero, List.drop_succ_cons, List.take_succ_cons, List.take_zero, List.getD_cons_zero, List.getD_cons_succ, Nat.add_zero, Nat.zero_add, Nat.reduceAdd, rowP4] at hA)) | (rw [getD_map rowO4 p.kids i [] hlt, rowO4_at]; conv => whnf) | (refine CallP.det (hc) ?_; conv => whnf) | (refine CallD.det (hc) ?_; conv => whnf) | (rw [getD_map _ _ _ _ (by assumption)]; conv => whnf))
      exact ⟨i + 1, by omega, by omega, ⟨⟨rfl, rfl, AV.int_eq (by rw [hnx]; exact max_nat _ _), AV.int_eq (i64_succ (by omega)), trivial⟩, ⟨fun o h => h, trivial⟩⟩⟩
    · have hge : p.kids.length ≤ i := by simpa [rowP4, D.els] using h2
      have hb1 := depthsP_le p.kids 0
      rw [List.take_of_length_le hge]
      conv => whnf
      repeat (refine And.intro easyE ?_; conv => whnf)
      refine ⟨⟨[], ?_⟩⟩
      conv => whnf
      show AOut.ret (AV.d (.v (.int .i64 (IntKind.i64.wrap ((depthsP p.kids 0 : Nat) + 1))))) [] = _
      rw [i64_wrap (by omega) (by omega), depthP_at]; rfl
theorem predsN_no {l : List PolT} (h : ∀ j (hj : j < l.length), predP l[j] = true) : predsN l = false := by
  rw [predsN_any, List.any_eq_false]
  intro x hx
  obtain ⟨j, hj, rfl⟩ := List.mem_iff_getElem.1 hx
  simp [h j hj]
theorem predsN_yes {l : List PolT} {i : Nat} (hi : i < l.length) (h : predP l[i] = false) : predsN l = true := by
  rw [predsN_any, List.any_eq_true]
  exact ⟨l[i], List.getElem_mem hi, by simp [h]⟩
theorem formsN_no {k : Int} {l : List PolT} (h : ∀ j (hj : j < l.length), formP k l[j] = true) : formsN k l = false := by
  rw [formsN_any, List.any_eq_false]
  intro x hx
  obtain ⟨j, hj, rfl⟩ := List.mem_iff_getElem.1 hx
  simp [h j hj]
theorem formsN_yes {k : Int} {l : List PolT} {i : Nat} (hi : i < l.length) (h : formP k l[i] = false) : formsN k l = true := by
  rw [formsN_any, List.any_eq_true]
  exact ⟨l[i], List.getElem_mem hi, by simp [h]⟩
theorem upto_step {l : List PolT} {q : PolT → Bool} {i : Nat} (hi : i < l.length) (h : ∀ j (hj : j < l.length), j < i → q l[j] = true) (hq : q l[i] = true) : ∀ j (hj : j < l.length), j < i + 1 → q l[j] = true := fun j hj hji => by
  by_cases e : j = i
  · subst e; exact hq
  · exact h j hj (by omega)
theorem pol_step {p : PolT} {i : Nat} {q : PolT → Bool} (hlt : i < p.kids.length) (he : ∀ j (hj : j < p.kids.length), j < i → q p.kids[j] = true) (h : q p.kids[i] = true) : ∀ j (hj : j < p.kids.length), j < i + 1 → q p.kids[j] = true := upto_step hlt he h
theorem rpred_ctr (g : GP) : ∀ (m : Nat) (p : PolT), sizeP p ≤ m → sizeP p < 2 ^ 62 → Ctr (ax g).E 108 [.dagg (rowP4 p)] [] (fun o => o = .ret (.bool (predP p)) [])
  | 0, p, h, _ => by have := sizeP_pos p; omega
  | m + 1, p, hm, hs => by
    have ih := rpred_ctr g m
    rw [sizeP_at] at hm hs
    have hlen := sizesP_len p.kids
    refine Ctr.body (X := ax g) _ 39 [] [.tmp 2] Tryz.func108 rfl rfl rfl rfl (by decide +kernel) rfl rfl ?_
    conv => whnf
    repeat' (first | (refine And.intro easyA ?_; conv => whnf) | (refine ifB_intro (fun hA => ?_) (fun hA => ?_) <;> (try rw [hA]) <;> (conv => whnf) <;> (first | replace hA := nrmA hA | replace hA := nrmB hA | replace hA := nrmC hA | replace hA := nrmD hA | replace hA := nrmE hA | replace hA := nrmF hA | skip) <;> (try simp only [List.length_map, cond_true, cond_false, Bool.not_eq_true', Bool.not_eq_false', beq_iff_eq, beq_eq_false_iff_ne, ne_eq] at hA)) | (rw [getD_map _ _ _ _ (by assumption)]; conv => whnf))
    all_goals first
      | (refine ⟨⟨[], ?_⟩⟩; conv => whnf
         rw [predP_at]; clear ih; simp_all <;> omega)
      | (refine LoopP.inv (X := ax g) (fun i : Nat => { f := [(1, .ptr 1 0), (2, .bool false), (3, .i64 i)], h := [(1, some (.dvar 4 (rowP4 p)))] }) (fun i => i ≤ p.kids.length ∧ ∀ j (hj : j < p.kids.length), j < i → predP p.kids[j] = true) (fun i => p.kids.length - i) 0 ⟨Nat.zero_le _, fun _ _ h => absurd h (Nat.not_lt_zero _)⟩ ⟨⟨rfl, rfl, rfl, trivial⟩, ⟨fun o h => h, trivial⟩⟩ fun i ⟨hi, he⟩ => ?_
         conv => whnf)
    all_goals
      repeat' (first | (refine And.intro easyA ?_; conv => whnf) | (refine ifB_intro (fun hA => ?_) (fun hA => ?_) <;> (try rw [hA]) <;> (conv => whnf) <;> (first | replace hA := nrmA hA | replace hA := nrmB hA | replace hA := nrmC hA | replace hA := nrmD hA | replace hA := nrmE hA | replace hA := nrmF hA | skip) <;> (try simp only [List.length_map, Bool.not_eq_true', Bool.not_eq_false'] at hA)) | (rw [getD_map rowO4 p.kids i [] (by omega), rowO4_at]; conv => whnf) | (refine CallP.det (ih _ (by have := sizesP_mem (List.getElem_mem (l := p.kids) (n := i) (by omega)); omega) (by have := sizesP_mem (List.getElem_mem (l := p.kids) (n := i) (by omega)); omega)) ?_; conv => whnf) | (refine CallD.det (ih _ (by have := sizesP_mem (List.getElem_mem (l := p.kids) (n := i) (by omega)); omega) (by have := sizesP_mem (List.getElem_mem (l := p.kids) (n := i) (by omega)); omega)) ?_; conv => whnf) | (rw [getD_map _ _ _ _ (by assumption)]; conv => whnf))
    all_goals first
      | (refine ⟨⟨[], ?_⟩⟩; conv => whnf
         rw [predP_at, predsN_no fun j hj => he j hj (by omega)]; clear ih he; simp_all; done)
      | (refine ⟨⟨[], ?_⟩⟩; conv => whnf
         rw [predP_at, predsN_yes (i := i) (by omega) (by simpa using hA)]; clear ih he; simp_all; done)
      | (refine ⟨i + 1, ⟨by omega, pol_step (by omega) he (by simpa using hA)⟩, by omega, ⟨⟨rfl, rfl, AV.int_eq (i64_succ (by omega)), trivial⟩, ⟨fun o h => h, trivial⟩⟩⟩)
theorem rform_ctr (g : GP) (k : Int) : ∀ (m : Nat) (p : PolT), sizeP p ≤ m → sizeP p < 2 ^ 62 → Ctr (ax g).E 54 [.dagg (rowP4 p), .i64 k] [] (fun o => o = .ret (.bool (formP k p)) [])
  | 0, p, h, _ => by have := sizeP_pos p; omega
  | m + 1, p, hm, hs => by
    have ih := rform_ctr g k m
    have hpr := rpred_ctr g m
    rw [sizeP_at] at hm hs
    have hlen := sizesP_len p.kids
    refine Ctr.body (X := ax g) _ 127 [] [.tmp 4] Tryz.func54 rfl rfl rfl rfl (by decide +kernel) rfl rfl ?_
    conv => whnf
    repeat' (first | (refine And.intro easyA ?_; conv => whnf) | (refine ifB_intro (fun hA => ?_) (fun hA => ?_) <;> (try rw [hA]) <;> (conv => whnf) <;> (first | replace hA := nrmA hA | replace hA := nrmB hA | replace hA := nrmC hA | replace hA := nrmD hA | replace hA := nrmE hA | replace hA := nrmF hA | skip) <;> (try simp only [List.length_map, cond_true, ne_eq] at hA)) | (rw [getD_lit0 rowO4 p.kids [] (by omega), rowO4_at]; conv => whnf) | (refine CallP.det (hpr _ (by have := sizesP_mem (List.getElem_mem (l := p.kids) (n := 0) (by omega)); omega) (by have := sizesP_mem (List.getElem_mem (l := p.kids) (n := 0) (by omega)); omega)) ?_; conv => whnf) | (refine CallD.det (hpr _ (by have := sizesP_mem (List.getElem_mem (l := p.kids) (n := 0) (by omega)); omega) (by have := sizesP_mem (List.getElem_mem (l := p.kids) (n := 0) (by omega)); omega)) ?_; conv => whnf) | (refine CallP.det (ih _ (by have := sizesP_mem (List.getElem_mem (l := p.kids) (n := 0) (by omega)); omega) (by have := sizesP_mem (List.getElem_mem (l := p.kids) (n := 0) (by omega)); omega)) ?_; conv => whnf) | (refine CallD.det (ih _ (by have := sizesP_mem (List.getElem_mem (l := p.kids) (n := 0) (by omega)); omega) (by have := sizesP_mem (List.getElem_mem (l := p.kids) (n := 0) (by omega)); omega)) ?_; conv => whnf) | (rw [getD_map _ _ _ _ (by assumption)]; conv => whnf))
    all_goals first
      | (refine LoopP.inv (X := ax g) (fun i : Nat => { f := [(1, .i64 k), (2, .ptr 2 0), (4, .bool false), (5, .i64 p.kids.length), (6, .i64 i)], h := [(2, some (.dvar 4 (rowP4 p)))] }) (fun i => i ≤ p.kids.length ∧ ∀ j (hj : j < p.kids.length), j < i → formP k p.kids[j] = true) (fun i => p.kids.length - i) 0 ⟨Nat.zero_le _, fun _ _ h => absurd h (Nat.not_lt_zero _)⟩ ⟨⟨rfl, rfl, rfl, AV.int_eq (len_int _ _), rfl, trivial⟩, ⟨fun o h => h, trivial⟩⟩ fun i ⟨hi, he⟩ => ?_
         conv => whnf)
      | (refine ⟨⟨[], ?_⟩⟩; conv => whnf)
    all_goals
      repeat' (first | (refine And.intro easyA ?_; conv => whnf) | (refine ifB_intro (fun hA => ?_) (fun hA => ?_) <;> (try rw [hA]) <;> (conv => whnf) <;> (first | replace hA := nrmA hA | replace hA := nrmB hA | replace hA := nrmC hA | replace hA := nrmD hA | replace hA := nrmE hA | replace hA := nrmF hA | skip) <;> (try simp only [Bool.not_eq_true', Bool.not_eq_false'] at hA)) | (rw [getD_map rowO4 p.kids i [] (by omega), rowO4_at]; conv => whnf) | (refine CallP.det (ih _ (by have := sizesP_mem (List.getElem_mem (l := p.kids) (n := i) (by omega)); omega) (by have := sizesP_mem (List.getElem_mem (l := p.kids) (n := i) (by omega)); omega)) ?_; conv => whnf) | (refine CallD.det (ih _ (by have := sizesP_mem (List.getElem_mem (l := p.kids) (n := i) (by omega)); omega) (by have := sizesP_mem (List.getElem_mem (l := p.kids) (n := i) (by omega)); omega)) ?_; conv => whnf) | (rw [getD_map _ _ _ _ (by assumption)]; conv => whnf))
    all_goals clear ih hpr
    all_goals first
      | (rw [formP_at k p]; simp_all; done)
      | (rw [formP_at k p]; simp_all <;> (intros; omega))
      | (have h1 : p.kids.length = 1 := by omega
         have h0 : 0 < p.kids.length := by omega
         rw [formP_at k p, predsN_one h0 h1, formsN_one h0 h1]
         generalize predP p.kids[0] = u at *
         generalize formP k p.kids[0] = v at *
         simp_all; done)
      | (refine ⟨⟨[], ?_⟩⟩; conv => whnf
         rw [formP_at, formsN_no fun j hj => he j hj (by omega)]; clear he; simp_all <;> omega)
      | (refine ⟨⟨[], ?_⟩⟩; conv => whnf
         rw [formP_at, formsN_yes (i := i) (by omega) (by simpa using hA)]; clear he; simp_all; done)
      | (refine ⟨i + 1, ⟨by omega, pol_step (by omega) he (by simpa using hA)⟩, by omega, ⟨⟨rfl, rfl, rfl, rfl, AV.int_eq (i64_succ (by omega)), trivial⟩, ⟨fun o h => h, trivial⟩⟩⟩)
end Go.Ax

namespace Go.Ax
open Go.Proofs
set_option maxRecDepth 10000
def alln (p : Nat → Bool) (n : Nat) : Bool := (List.range n).all p
theorem alln_true {p : Nat → Bool} {n : Nat} (h : ∀ j, j < n → p j = true) : alln p n = true := by
  simp only [alln, List.all_eq_true, List.mem_range]; exact h
theorem alln_false {p : Nat → Bool} {n i : Nat} (hi : i < n) (h : p i = false) : alln p n = false := by
  rw [Bool.eq_false_iff]; intro he
  simp only [alln, List.all_eq_true, List.mem_range] at he
  rw [he i hi] at h; exact absurd h (by simp)
theorem alln_at {p : Nat → Bool} {n i : Nat} (h : alln p n = true) (hi : i < n) : p i = true := by
  simp only [alln, List.all_eq_true, List.mem_range] at h; exact h i hi
theorem alln_step {p : Nat → Bool} {i : Nat} (h : ∀ j, j < i → p j = true) (hp : p i = true) : ∀ j, j < i + 1 → p j = true := fun j hj => by
  by_cases e : j = i
  · subst e; exact hp
  · exact h j (by omega)
abbrev PairT := Int × Int
def rowF (p : PairT) : List D := [.i64 p.1, .u16 p.2]
def risesAt (b : Int) (l : List PairT) (i : Nat) : Bool := decide (0 ≤ (l.getD i (0, 0)).1) && decide ((l.getD i (0, 0)).1 < b) && (decide (i = 0) || decide ((l.getD (i - 1) (0, 0)).1 < (l.getD i (0, 0)).1))
def risesF (b : Int) (l : List PairT) : Bool := alln (risesAt b l) l.length
theorem once_ctr (g : GP) (l : List PairT) (b : Int) (hl : l.length < 2 ^ 62) : Ctr (ax g).E 104 [.d (.sl false 2 (l.map rowF)), .i64 b] [] (fun o => o = .ret (.bool (risesF b l)) []) := by
  refine Ctr.body (X := ax g) _ 39 [] [.tmp 4] Tryz.func104 rfl rfl rfl rfl (by decide +kernel) rfl rfl ?_
  conv => whnf
  repeat (refine And.intro easyE ?_; conv => whnf)
  refine LoopP.inv (X := ax g) (fun i : Nat => { f := [(0, .d (.sl false 2 (l.map rowF))), (1, .i64 b), (4, .bool false), (7, .d (.sl false 2 (l.map rowF))), (8, .i64 l.length), (9, .i64 i)], h := [] }) (fun i => i ≤ l.length ∧ ∀ j, j < i → risesAt b l j = true) (fun i => l.length - i) 0 ⟨Nat.zero_le _, by omega⟩ ⟨⟨rfl, rfl, rfl, rfl, AV.int_eq (by simp), rfl, trivial⟩, trivial⟩ fun i ⟨hi, he⟩ => ?_
  conv => whnf
  refine ifB_intro (fun h2 => ?_) (fun h2 => ?_)
  · have hlt : i < l.length := by simpa using h2
    conv => whnf
    have hlt2 : i - 1 < l.length := by omega
    have key : risesAt b l i = (decide (0 ≤ l[i].1) && decide (l[i].1 < b) && (decide (i = 0) || decide (l[i - 1].1 < l[i].1))) := by simp [risesAt, List.getD, hlt, hlt2]
    repeat' (first | (refine And.intro easyA ?_; conv => whnf) | (refine ifB_intro (fun hA => ?_) (fun hA => ?_) <;> (try rw [hA]) <;> (conv => whnf) <;> (first | replace hA := nrmA hA | replace hA := nrmB hA | replace hA := nrmC hA | replace hA := nrmD hA | replace hA := nrmE hA | replace hA := nrmF hA | skip) <;> (try simp only [List.length_map, cond_true, cond_false, Bool.not_eq_true', Bool.not_eq_false', beq_iff_eq, beq_eq_false_iff_ne, ne_eq] at hA) <;> (try simp only [cut, D.int, D.str, D.bool, D.els, List.drop_zero, List.drop_succ_cons, List.take_succ_cons, List.take_zero, List.getD_cons_zero, List.getD_cons_succ, Nat.add_zero, Nat.zero_add, Nat.reduceAdd, rowF] at hA)) | (refine DrawP.intro (X := ax g) (id := 4) B104_4 (by kernel_rfl) (by decide +kernel) ?_; conv => whnf) | (rw [show IntKind.i64.wrap ((i : Int) - 1) = ((i - 1 : Nat) : Int) by rw [IntKind.wrap_i64]; omega]; rw [getD_map rowF l (i - 1) [] hlt2]; conv => whnf) | (rw [getD_map _ _ _ _ (by assumption)]; conv => whnf))
    all_goals first | (refine ⟨⟨[], ?_⟩⟩; conv => whnf) | skip
    all_goals first
      | exact congrArg (fun c => AOut.ret (AV.bool c) []) (alln_false hlt (by rw [key]; simp; omega)).symm
      | exact ⟨i + 1, ⟨by omega, alln_step he (by rw [key]; simp; omega)⟩, by omega, ⟨⟨rfl, rfl, rfl, rfl, rfl, AV.int_eq (i64_succ (by omega)), trivial⟩, trivial⟩⟩
  · have hge : l.length ≤ i := by simpa using h2
    conv => whnf
    refine ⟨⟨[], ?_⟩⟩
    conv => whnf
    rw [risesF, alln_true fun j hj => he j (by omega)]
theorem rising_ctr (g : GP) (l : List PairT) (b : Int) (hl : l.length < 2 ^ 62) : Ctr (ax g).E 55 [.d (.sl false 2 (l.map rowF)), .i64 b] [] (fun o => o = .ret (.bool (risesF b l)) []) := by
  refine Ctr.body (X := ax g) _ 45 [] [.tmp 4] Tryz.func55 rfl rfl rfl rfl (by decide +kernel) rfl rfl ?_
  conv => whnf
  repeat (refine And.intro easyE ?_; conv => whnf)
  refine LoopP.inv (X := ax g) (fun i : Nat => { f := [(0, .d (.sl false 2 (l.map rowF))), (1, .i64 b), (4, .bool false), (5, .i64 i)], h := [] }) (fun i => i ≤ l.length ∧ ∀ j, j < i → risesAt b l j = true) (fun i => l.length - i) 0 ⟨Nat.zero_le _, by omega⟩ ⟨⟨rfl, rfl, rfl, rfl, trivial⟩, trivial⟩ fun i ⟨hi, he⟩ => ?_
  conv => whnf
  refine ifB_intro (fun h2 => ?_) (fun h2 => ?_)
  · have hlt : i < l.length := by simpa using h2
    conv => whnf
    have hlt2 : i - 1 < l.length := by omega
    have key : risesAt b l i = (decide (0 ≤ l[i].1) && decide (l[i].1 < b) && (decide (i = 0) || decide (l[i - 1].1 < l[i].1))) := by simp [risesAt, List.getD, hlt, hlt2]
    repeat' (first | (refine And.intro easyA ?_; conv => whnf) | (refine ifB_intro (fun hA => ?_) (fun hA => ?_) <;> (try rw [hA]) <;> (conv => whnf) <;> (first | replace hA := nrmA hA | replace hA := nrmB hA | replace hA := nrmC hA | replace hA := nrmD hA | replace hA := nrmE hA | replace hA := nrmF hA | skip) <;> (try simp only [List.length_map, cond_true, cond_false, Bool.not_eq_true', Bool.not_eq_false', beq_iff_eq, beq_eq_false_iff_ne, ne_eq] at hA) <;> (try simp only [cut, D.int, D.str, D.bool, D.els, List.drop_zero, List.drop_succ_cons, List.take_succ_cons, List.take_zero, List.getD_cons_zero, List.getD_cons_succ, Nat.add_zero, Nat.zero_add, Nat.reduceAdd, rowF] at hA)) | (refine DrawP.intro (X := ax g) (id := 4) B55_4 (by kernel_rfl) (by decide +kernel) ?_; conv => whnf) | (rw [show IntKind.i64.wrap ((i : Int) - 1) = ((i - 1 : Nat) : Int) by rw [IntKind.wrap_i64]; omega]; rw [getD_map rowF l (i - 1) [] hlt2]; conv => whnf) | (rw [getD_map _ _ _ _ (by assumption)]; conv => whnf))
    all_goals first | (refine ⟨⟨[], ?_⟩⟩; conv => whnf) | skip
    all_goals first
      | exact congrArg (fun c => AOut.ret (AV.bool c) []) (alln_false hlt (by rw [key]; simp; omega)).symm
      | exact ⟨i + 1, ⟨by omega, alln_step he (by rw [key]; simp; omega)⟩, by omega, ⟨⟨rfl, rfl, rfl, AV.int_eq (i64_succ (by omega)), trivial⟩, trivial⟩⟩
  · have hge : l.length ≤ i := by simpa using h2
    conv => whnf
    refine ⟨⟨[], ?_⟩⟩
    conv => whnf
    rw [risesF, alln_true fun j hj => he j (by omega)]
end Go.Ax

namespace Go.Ax
open Go.Proofs
set_option maxRecDepth 10000
theorem all_yes {α : Type} {l : List α} {q : α → Bool} (h : ∀ j (hj : j < l.length), q l[j] = true) : l.all q = true := by
  rw [List.all_eq_true]; intro x hx
  obtain ⟨j, hj, rfl⟩ := List.mem_iff_getElem.1 hx
  exact h j hj
theorem all_no {α : Type} {l : List α} {q : α → Bool} {i : Nat} (hi : i < l.length) (h : q l[i] = false) : l.all q = false := by
  rw [List.all_eq_false]; exact ⟨l[i], List.getElem_mem hi, by simp [h]⟩
theorem all_step {α : Type} {l : List α} {q : α → Bool} {i : Nat} (hi : i < l.length) (h : ∀ j (hj : j < l.length), j < i → q l[j] = true) (hq : q l[i] = true) : ∀ j (hj : j < l.length), j < i + 1 → q l[j] = true := fun j hj hji => by
  by_cases e : j = i
  · subst e; exact hq
  · exact h j hj (by omega)
theorem upto0 {α : Type} {l : List α} {q : α → Bool} : ∀ j (hj : j < l.length), j < 0 → q l[j] = true := fun _ _ h => absurd h (Nat.not_lt_zero _)
structure RuleT where
  when : List PairT
  guard : List PairT
  thn : List PairT
def rowR (r : RuleT) : List D := [.sl false 2 (r.when.map rowF), .sl false 2 (r.guard.map rowF), .sl false 2 (r.thn.map rowF)]
structure ProgT where
  init : List Int
  pol : PolT
  rules : List RuleT
def rowG (x : ProgT) : List D := [.sl false 1 (x.init.map rowS), .i64 x.pol.op, .i64 x.pol.f, .u16 x.pol.n, .sl false 4 (x.pol.kids.map rowO4), .sl false 3 (x.rules.map rowR)]
def fewR (r : RuleT) : Bool := decide (r.when.length ≤ 10) && decide (r.guard.length ≤ 10) && decide (r.thn.length ≤ 10)
def fewF (l : List RuleT) : Bool := decide (l.length ≤ 30) && l.all fewR
theorem few_ctr (g : GP) (l : List RuleT) (hl : l.length < 2 ^ 62) : Ctr (ax g).E 12 [.d (.sl false 3 (l.map rowR))] [] (fun o => o = .ret (.bool (fewF l)) []) := by
  refine Ctr.body (X := ax g) _ 31 [] [.tmp 2] Tryz.func12 rfl rfl rfl rfl (by decide +kernel) rfl rfl ?_
  conv => whnf
  repeat' (first | (refine And.intro easyA ?_; conv => whnf) | (refine ifB_intro (fun hA => ?_) (fun hA => ?_) <;> (try rw [hA]) <;> (conv => whnf) <;> (first | replace hA := nrmA hA | replace hA := nrmB hA | replace hA := nrmC hA | replace hA := nrmD hA | replace hA := nrmE hA | replace hA := nrmF hA | skip) <;> (try simp only [List.length_map] at hA)) | (rw [getD_map _ _ _ _ (by assumption)]; conv => whnf))
  all_goals first
    | (refine ⟨⟨[], ?_⟩⟩; conv => whnf
       simp [fewF]; omega)
    | (refine LoopP.inv (X := ax g) (fun i : Nat => { f := [(2, .bool false), (8, .d (.sl false 3 (l.map rowR))), (9, .i64 l.length), (10, .i64 i)], h := [] }) (fun i => i ≤ l.length ∧ ∀ j (hj : j < l.length), j < i → fewR l[j] = true) (fun i => l.length - i) 0 ⟨Nat.zero_le _, upto0⟩ ⟨⟨rfl, rfl, AV.int_eq (len_int _ _), rfl, trivial⟩, trivial⟩ fun i ⟨hi, he⟩ => ?_
       conv => whnf)
  repeat' (first | (refine And.intro easyA ?_; conv => whnf) | (refine ifB_intro (fun hA => ?_) (fun hA => ?_) <;> (try rw [hA]) <;> (conv => whnf) <;> (first | replace hA := nrmA hA | replace hA := nrmB hA | replace hA := nrmC hA | replace hA := nrmD hA | replace hA := nrmE hA | replace hA := nrmF hA | skip) <;> (try simp only [List.length_map] at hA)) | (rw [getD_map rowR l i [] (by omega)]; conv => whnf) | (rw [getD_map _ _ _ _ (by assumption)]; conv => whnf))
  all_goals first
    | (refine ⟨⟨[], ?_⟩⟩; conv => whnf
       rw [fewF, all_yes fun j hj => he j hj (by omega)]; simp; omega)
    | (refine ⟨⟨[], ?_⟩⟩; conv => whnf
       rw [fewF, all_no (i := i) (by omega) (by simp [fewR]; omega)]; simp; done)
    | (refine ⟨i + 1, ⟨by omega, all_step (by omega) he (by simp [fewR]; omega)⟩, by omega, ⟨⟨rfl, rfl, rfl, AV.int_eq (i64_succ (by omega)), trivial⟩, trivial⟩⟩)
def ruleOk (k : Int) (r : RuleT) : Bool := decide (2 ≤ r.when.length) && (r.when.getD 0 (0, 0)).1 == 0 && (r.when.getD 1 (0, 0)).1 == 1 && risesF 8 r.when && risesF k r.guard && risesF k r.thn && decide (r.thn.length ≠ 0)
def checkP (x : ProgT) : Int :=
  if x.init.length < 1 ∨ 4 < x.init.length ∨ 300 < sizeP x.pol ∨ 20 < depthP x.pol ∨ 24 < x.rules.length then 2
  else if formP x.init.length x.pol = false then 11
  else if x.rules.all (ruleOk x.init.length) then 0 else 11
def SmallR (r : RuleT) : Prop := r.when.length < 2 ^ 62 ∧ r.guard.length < 2 ^ 62 ∧ r.thn.length < 2 ^ 62
structure SmallG (x : ProgT) : Prop where
  init : x.init.length < 2 ^ 62
  pol : sizeP x.pol < 2 ^ 62
  rules : x.rules.length < 2 ^ 62
  each : ∀ r ∈ x.rules, SmallR r
theorem check_at (x : ProgT) (hk : 1 ≤ x.init.length ∧ x.init.length ≤ 4 ∧ sizeP x.pol ≤ 300 ∧ depthP x.pol ≤ 20 ∧ x.rules.length ≤ 24) (hf : formP x.init.length x.pol = true) : checkP x = if x.rules.all (ruleOk x.init.length) then 0 else 11 := by
  rw [checkP, if_neg (by omega), if_neg (by simp [hf])]
theorem check_2 {x : ProgT} (h : (x.init.length : Int) < 1 ∨ 4 < (x.init.length : Int) ∨ 300 < (sizeP x.pol : Int) ∨ 20 < (depthP x.pol : Int) ∨ 24 < (x.rules.length : Int)) : AOut.ret (AV.i64 2) [] = AOut.ret (AV.i64 (checkP x)) [] := by
  rw [checkP, if_pos (by omega)]
theorem check_11 {x : ProgT} (h : ¬(x.init.length : Int) < 1 ∧ ¬4 < (x.init.length : Int) ∧ ¬300 < (sizeP x.pol : Int) ∧ ¬20 < (depthP x.pol : Int) ∧ ¬24 < (x.rules.length : Int)) (hf : formP x.init.length x.pol = false) : AOut.ret (AV.i64 11) [] = AOut.ret (AV.i64 (checkP x)) [] := by
  rw [checkP, if_neg (by omega), if_pos hf]
theorem check_no {x : ProgT} (h : ¬(x.init.length : Int) < 1 ∧ ¬4 < (x.init.length : Int) ∧ ¬300 < (sizeP x.pol : Int) ∧ ¬20 < (depthP x.pol : Int) ∧ ¬24 < (x.rules.length : Int)) (hf : formP x.init.length x.pol = true) {i : Nat} (hi : i < x.rules.length) (hr : ruleOk x.init.length x.rules[i] = false) : AOut.ret (AV.i64 11) [] = AOut.ret (AV.i64 (checkP x)) [] := by
  rw [check_at x (by omega) hf, all_no hi hr]; rfl
theorem check_ok {x : ProgT} (h : ¬(x.init.length : Int) < 1 ∧ ¬4 < (x.init.length : Int) ∧ ¬300 < (sizeP x.pol : Int) ∧ ¬20 < (depthP x.pol : Int) ∧ ¬24 < (x.rules.length : Int)) (hf : formP x.init.length x.pol = true) (hr : ∀ j (hj : j < x.rules.length), ruleOk x.init.length x.rules[j] = true) : AOut.ret (AV.i64 0) [] = AOut.ret (AV.i64 (checkP x)) [] := by
  rw [check_at x (by omega) hf, all_yes hr]; rfl
theorem ruleOk_at {k : Int} {r : RuleT} (h : 2 ≤ r.when.length) : ruleOk k r = ((r.when[0].1 == 0) && ((r.when[1].1 == 1) && (risesF 8 r.when && (risesF k r.guard && (risesF k r.thn && decide (r.thn.length ≠ 0)))))) := by
  have h0 : 0 < r.when.length := by omega
  have h1 : 1 < r.when.length := by omega
  simp [ruleOk, List.getD, h0, h1, h, Bool.and_assoc]
theorem ruleOk_no {k : Int} {r : RuleT} (h : ¬2 ≤ (r.when.length : Int)) : ruleOk k r = false := by
  have : ¬2 ≤ r.when.length := by omega
  simp [ruleOk, this]
theorem check5_ctr (g : GP) (x : ProgT) (h : SmallG x) : Ctr (ax g).E 46 [.dagg (rowG x)] [] (fun o => o = .ret (.i64 (checkP x)) []) := by
  have h1 := h.init; have h2 := h.pol; have h3 := h.rules
  refine Ctr.body (X := ax g) _ 95 [] [.tmp 2] Tryz.func46 rfl rfl rfl rfl (by decide +kernel) rfl rfl ?_
  conv => whnf
  repeat' (first | (refine And.intro easyA ?_; conv => whnf) | (refine ifB_intro (fun hA => ?_) (fun hA => ?_) <;> (try rw [hA]) <;> (conv => whnf) <;> (first | replace hA := nrmA hA | replace hA := nrmB hA | replace hA := nrmC hA | replace hA := nrmD hA | replace hA := nrmE hA | replace hA := nrmF hA | skip) <;> (try simp only [List.length_map, Bool.not_eq_true', Bool.not_eq_false'] at hA)) | (refine CallP.det (size_ctr' g x.pol h2) ?_; conv => whnf) | (refine CallD.det (size_ctr' g x.pol h2) ?_; conv => whnf) | (refine CallP.det (depth_ctr' g x.pol h2) ?_; conv => whnf) | (refine CallD.det (depth_ctr' g x.pol h2) ?_; conv => whnf) | (refine CallP.det (form_ctr g _ _ x.pol (Nat.le_refl _) h2) ?_; conv => whnf) | (refine CallD.det (form_ctr g _ _ x.pol (Nat.le_refl _) h2) ?_; conv => whnf) | (rw [getD_map _ _ _ _ (by assumption)]; conv => whnf))
  all_goals first
    | (refine ⟨⟨[], ?_⟩⟩; conv => whnf
       exact check_2 (by omega))
    | (refine ⟨⟨[], ?_⟩⟩; conv => whnf
       exact check_11 (by omega) (by simpa using hA))
    | (refine LoopP.inv (X := ax g) (fun i : Nat => { f := [(2, .i64 0), (3, .i64 x.init.length), (40, .d (.sl false 3 (x.rules.map rowR))), (41, .i64 x.rules.length), (42, .i64 i)], h := [] }) (fun i => i ≤ x.rules.length ∧ ∀ j (hj : j < x.rules.length), j < i → ruleOk x.init.length x.rules[j] = true) (fun i => x.rules.length - i) 0 ⟨Nat.zero_le _, upto0⟩ ⟨⟨rfl, AV.int_eq (len_int _ _), rfl, AV.int_eq (len_int _ _), rfl, trivial⟩, trivial⟩ fun i ⟨hi, he⟩ => ?_
       conv => whnf)
  have hf : formP x.init.length x.pol = true := by simpa using hA
  refine ifB_intro (fun h4 => ?_) (fun h4 => ?_)
  · have h4 := of_decide_eq_true h4
    have hlt : i < x.rules.length := by omega
    have hs := h.each _ (List.getElem_mem hlt)
    rw [SmallR] at hs
    obtain ⟨s1, s2, s3⟩ := hs
    conv => whnf
    repeat' (first | (refine And.intro easyA ?_; conv => whnf) | (refine ifB_intro (fun hA => ?_) (fun hA => ?_) <;> (try rw [hA]) <;> (conv => whnf) <;> (first | replace hA := nrmA hA | replace hA := nrmB hA | replace hA := nrmC hA | replace hA := nrmD hA | replace hA := nrmE hA | replace hA := nrmF hA | skip) <;> (try simp only [List.length_map, cond_false, Bool.not_eq_true', Bool.not_eq_false', ne_eq] at hA)) | (rw [getD_map rowR x.rules i [] hlt]; conv => whnf) | (rw [getD_lit0 rowF _ [] (by omega)]; conv => whnf) | (rw [getD_lit1 rowF _ [] (by omega)]; conv => whnf) | (refine CallP.det (once_ctr g _ _ (by omega)) ?_; conv => whnf) | (refine CallD.det (once_ctr g _ _ (by omega)) ?_; conv => whnf) | (rw [getD_map _ _ _ _ (by assumption)]; conv => whnf))
    all_goals first
      | (refine ⟨⟨[], ?_⟩⟩; conv => whnf
         exact check_no (by omega) hf hlt (ruleOk_no (by omega)))
      | (refine ⟨⟨[], ?_⟩⟩; conv => whnf
         exact check_no (by omega) hf hlt (by rw [ruleOk_at (by omega)]; clear he; simp_all))
      | (refine ⟨i + 1, ⟨by omega, all_step hlt he (by rw [ruleOk_at (by omega)]; clear he; simp_all)⟩, by omega, ⟨⟨rfl, rfl, rfl, rfl, AV.int_eq (i64_succ (by omega)), trivial⟩, trivial⟩⟩)
  · have h4 := of_decide_eq_false h4
    conv => whnf
    refine ⟨⟨[], ?_⟩⟩
    conv => whnf
    exact check_ok (by omega) hf fun j hj => he j hj (by omega)
theorem rcheck5_ctr (g : GP) (x : ProgT) (h : SmallG x) : Ctr (ax g).E 14 [.dagg (rowG x)] [] (fun o => o = .ret (.i64 (checkP x)) []) := by
  have h1 := h.init; have h2 := h.pol; have h3 := h.rules
  refine Ctr.body (X := ax g) _ 102 [] [.tmp 2] Tryz.func14 rfl rfl rfl rfl (by decide +kernel) rfl rfl ?_
  conv => whnf
  repeat' (first | (refine And.intro easyA ?_; conv => whnf) | (refine ifB_intro (fun hA => ?_) (fun hA => ?_) <;> (try rw [hA]) <;> (conv => whnf) <;> (first | replace hA := nrmA hA | replace hA := nrmB hA | replace hA := nrmC hA | replace hA := nrmD hA | replace hA := nrmE hA | replace hA := nrmF hA | skip) <;> (try simp only [List.length_map, Bool.not_eq_true', Bool.not_eq_false'] at hA)) | (refine CallP.det (rsize_ctr g _ x.pol (Nat.le_refl _) h2) ?_; conv => whnf) | (refine CallD.det (rsize_ctr g _ x.pol (Nat.le_refl _) h2) ?_; conv => whnf) | (refine CallP.det (rdepth_ctr g _ x.pol (Nat.le_refl _) h2) ?_; conv => whnf) | (refine CallD.det (rdepth_ctr g _ x.pol (Nat.le_refl _) h2) ?_; conv => whnf) | (refine CallP.det (rform_ctr g _ _ x.pol (Nat.le_refl _) h2) ?_; conv => whnf) | (refine CallD.det (rform_ctr g _ _ x.pol (Nat.le_refl _) h2) ?_; conv => whnf) | (rw [getD_map _ _ _ _ (by assumption)]; conv => whnf))
  all_goals first
    | (refine ⟨⟨[], ?_⟩⟩; conv => whnf
       exact check_2 (by omega))
    | (refine ⟨⟨[], ?_⟩⟩; conv => whnf
       exact check_11 (by omega) (by simpa using hA))
    | (refine LoopP.inv (X := ax g) (fun i : Nat => { f := [(1, .ptr 1 0), (2, .i64 0), (3, .i64 i)], h := [(1, some (.dvar 6 (rowG x)))] }) (fun i => i ≤ x.rules.length ∧ ∀ j (hj : j < x.rules.length), j < i → ruleOk x.init.length x.rules[j] = true) (fun i => x.rules.length - i) 0 ⟨Nat.zero_le _, upto0⟩ ⟨⟨rfl, rfl, rfl, trivial⟩, ⟨fun o h => h, trivial⟩⟩ fun i ⟨hi, he⟩ => ?_
       conv => whnf)
  have hf : formP x.init.length x.pol = true := by simpa using hA
  by_cases hlt : i < x.rules.length
  · have hs := h.each _ (List.getElem_mem hlt)
    rw [SmallR] at hs
    obtain ⟨s1, s2, s3⟩ := hs
    repeat' (first | (refine And.intro easyA ?_; conv => whnf) | (refine ifB_intro (fun hA => ?_) (fun hA => ?_) <;> (try rw [hA]) <;> (conv => whnf) <;> (first | replace hA := nrmA hA | replace hA := nrmB hA | replace hA := nrmC hA | replace hA := nrmD hA | replace hA := nrmE hA | replace hA := nrmF hA | skip) <;> (try simp only [List.length_map, cond_false, Bool.not_eq_true', Bool.not_eq_false', ne_eq] at hA)) | (rw [getD_map rowR x.rules i [] hlt]; conv => whnf) | (rw [getD_lit0 rowF _ [] (by omega)]; conv => whnf) | (rw [getD_lit1 rowF _ [] (by omega)]; conv => whnf) | (refine CallP.det (rising_ctr g _ _ (by omega)) ?_; conv => whnf) | (refine CallD.det (rising_ctr g _ _ (by omega)) ?_; conv => whnf) | (rw [getD_map _ _ _ _ (by assumption)]; conv => whnf))
    all_goals first
      | (exfalso; omega)
      | (refine ⟨⟨[], ?_⟩⟩; conv => whnf
         exact check_no (by omega) hf hlt (ruleOk_no (by omega)))
      | (refine ⟨⟨[], ?_⟩⟩; conv => whnf
         exact check_no (by omega) hf hlt (by rw [ruleOk_at (by omega)]; clear he; simp_all))
      | (refine ⟨i + 1, ⟨by omega, all_step hlt he (by rw [ruleOk_at (by omega)]; clear he; simp_all)⟩, by omega, ⟨⟨rfl, rfl, AV.int_eq (i64_succ (by omega)), trivial⟩, ⟨fun o h => h, trivial⟩⟩⟩)
  · conv => whnf
    repeat (refine And.intro easyE ?_; conv => whnf)
    refine ifB_false (by simp only [List.length_map]; exact decide_eq_false (by omega)) ?_
    conv => whnf
    refine ⟨⟨[], ?_⟩⟩
    conv => whnf
    exact check_ok (by omega) hf fun j hj => he j hj (by omega)
end Go.Ax

namespace Go.Ax
open Go.Proofs
set_option maxRecDepth 10000
def nameF (f : Int) : ByteArray :=
  if f = 0 then ⟨#[115, 119]⟩ else if f = 1 then ⟨#[112, 116]⟩ else if f = 2 then ⟨#[115, 114, 99]⟩ else if f = 3 then ⟨#[100, 115, 116]⟩
  else if f = 4 then ⟨#[116, 121, 112]⟩ else if f = 5 then ⟨#[115, 118, 99]⟩ else if f = 6 then ⟨#[118, 105, 100]⟩ else if f = 7 then ⟨#[111, 112, 116]⟩ else ⟨#[]⟩
theorem name_ctr (g : GP) (f : Int) : Ctr (ax g).E 93 [.i64 f] [] (fun o => o = .ret (.str (nameF f)) []) := by
  refine Ctr.body (X := ax g) _ 20 [] [.tmp 2] Tryz.func93 rfl rfl rfl rfl (by decide +kernel) rfl rfl ?_
  conv => whnf
  repeat' (first | (refine And.intro easyA ?_; conv => whnf) | (refine ifB_intro (fun hA => ?_) (fun hA => ?_) <;> (try rw [hA]) <;> (conv => whnf) <;> (first | replace hA := nrmA hA | replace hA := nrmB hA | replace hA := nrmC hA | replace hA := nrmD hA | replace hA := nrmE hA | replace hA := nrmF hA | skip) <;> (try simp only [List.length_map, cond_true, cond_false, Bool.not_eq_true', Bool.not_eq_false', beq_iff_eq, beq_eq_false_iff_ne, ne_eq] at hA)) | (rw [getD_map _ _ _ _ (by assumption)]; conv => whnf))
  all_goals (refine ⟨⟨[], ?_⟩⟩; (conv => whnf); simp_all [nameF])
end Go.Ax

namespace Go.Ax
open Go.Proofs
set_option maxRecDepth 10000
mutual
def okPol : PolT → Prop
  | .mk _ _ n kids => (0 ≤ n ∧ n < 65536) ∧ okPols kids
def okPols : List PolT → Prop
  | [] => True
  | p :: l => okPol p ∧ okPols l
end
theorem okPol_at (p : PolT) : okPol p ↔ (0 ≤ p.n ∧ p.n < 65536) ∧ okPols p.kids := by cases p; rw [okPol]; rfl
theorem okPols_mem : ∀ {l : List PolT} {p : PolT}, okPols l → p ∈ l → okPol p
  | [], p, _, h => by simp at h
  | q :: l, p, h, hm => by
    rw [okPols] at h
    rcases List.mem_cons.1 hm with rfl | hm
    · exact h.1
    · exact okPols_mem h.2 hm
end Go.Ax
