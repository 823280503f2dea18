/- What the card of this claim stands on, or the card itself: for every input, as the given row says. -/
import Derived.Test.YtdobclfcondfcaaGreatDoorBA07
import Derived.Test.YtdobclfcondfcaaGreatDoorBA08

namespace Go.Ax
open Go.Proofs
set_option maxRecDepth 10000
structure StepT where
  what : Int
  f : Int
  n : Int
  k : Int
def rowSt (x : StepT) : List D := [.i64 x.what, .i64 x.f, .u16 x.n, .v (.int .u8 x.k)]
def kOf (x : StepT) (n : Nat) : Nat := min x.k.toNat n
def stepP (pile : List PolT) (x : StepT) : List PolT :=
  if x.what = 0 ∨ x.what = 1 then pile ++ [.mk x.what 0 0 []]
  else if x.what = 2 ∨ x.what = 3 ∨ x.what = 5 then pile ++ [.mk x.what x.f x.n []]
  else if x.what = 4 ∧ 0 < pile.length then pile.set (pile.length - 1) (.mk 4 0 0 [pile.getD (pile.length - 1) (.mk 0 0 0 [])])
  else if x.what = 6 ∨ x.what = 7 then pile.take (pile.length - kOf x pile.length) ++ [.mk x.what 0 0 (pile.drop (pile.length - kOf x pile.length))]
  else pile
def pileF (l : List StepT) : List PolT := l.foldl stepP []
def topP (l : List PolT) : PolT := l.getD (l.length - 1) (.mk 0 0 0 [])
abbrev OkSt (x : StepT) : Prop := (0 ≤ x.n ∧ x.n < 65536) ∧ 0 ≤ x.k ∧ x.k < 256
theorem sizesP_set : ∀ (l : List PolT) (i : Nat) (p : PolT) (h : i < l.length), sizesP (l.set i p) + sizeP l[i] = sizesP l + sizeP p
  | [], i, p, h => by simp at h
  | q :: l, 0, p, h => by simp [sizesP]; omega
  | q :: l, i + 1, p, h => by
    have := sizesP_set l i p (by simpa using h)
    simp only [List.set_cons_succ, sizesP, List.getElem_cons_succ]; omega
theorem okPols_app : ∀ {a b : List PolT}, okPols (a ++ b) ↔ okPols a ∧ okPols b
  | [], b => by simp [okPols]
  | p :: a, b => by rw [List.cons_append, okPols, okPols, okPols_app, and_assoc]
theorem okPols_of : ∀ {l : List PolT}, (∀ p ∈ l, okPol p) → okPols l
  | [], _ => trivial
  | p :: l, h => ⟨h p (List.mem_cons_self ..), okPols_of fun q hq => h q (List.mem_cons_of_mem _ hq)⟩
theorem step_ok {pile : List PolT} {x : StepT} (h : okPols pile) (hx : OkSt x) : okPols (stepP pile x) := by
  unfold stepP
  split
  · exact okPols_app.2 ⟨h, by simp [okPols, okPol]⟩
  · split
    · exact okPols_app.2 ⟨h, by simp [okPols, okPol]; exact hx.1⟩
    · split
      · rename_i h4
        refine okPols_of fun p hp => ?_
        rcases List.mem_or_eq_of_mem_set hp with hp | rfl
        · exact okPols_mem h hp
        · rw [okPol]
          refine ⟨by omega, ?_⟩
          have : pile.getD (pile.length - 1) (.mk 0 0 0 []) ∈ pile := by
            have h5 : pile.length - 1 < pile.length := by omega
            simp [List.getD, h5]
          exact ⟨okPols_mem h this, trivial⟩
      · split
        · refine okPols_app.2 ⟨okPols_of fun p hp => okPols_mem h (List.mem_of_mem_take hp), ⟨?_, trivial⟩⟩
          rw [okPol]
          exact ⟨by omega, okPols_of fun p hp => okPols_mem h (List.mem_of_mem_drop hp)⟩
        · exact h
theorem step_size (pile : List PolT) (x : StepT) : sizesP (stepP pile x) ≤ sizesP pile + 1 := by
  unfold stepP
  split
  · rw [sizesP_app]; simp [sizesP, sizeP]
  · split
    · rw [sizesP_app]; simp [sizesP, sizeP]
    · split
      · rename_i h4
        have h5 : pile.length - 1 < pile.length := by omega
        have := sizesP_set pile (pile.length - 1) (.mk 4 0 0 [pile.getD (pile.length - 1) (.mk 0 0 0 [])]) h5
        have e : pile.getD (pile.length - 1) (.mk 0 0 0 []) = pile[pile.length - 1] := by simp [List.getD, h5]
        rw [e] at this ⊢
        rw [sizeP] at this
        simp only [sizesP] at this
        omega
      · split
        · have := sizesP_app (pile.take (pile.length - kOf x pile.length)) (pile.drop (pile.length - kOf x pile.length))
          rw [List.take_append_drop] at this
          rw [sizesP_app]
          simp only [sizesP, sizeP]
          omega
        · omega
theorem fold_pile : ∀ (l : List StepT) (p : List PolT), okPols p → (∀ x ∈ l, OkSt x) → okPols (l.foldl stepP p) ∧ sizesP (l.foldl stepP p) ≤ sizesP p + l.length
  | [], p, h, _ => ⟨h, by simp⟩
  | x :: l, p, h, hx => by
    have h1 := fold_pile l (stepP p x) (step_ok h (hx x (List.mem_cons_self ..))) fun y hy => hx y (List.mem_cons_of_mem _ hy)
    have h2 := step_size p x
    simp only [List.foldl_cons, List.length_cons]
    exact ⟨h1.1, by omega⟩
def zeroP : List D := [.i64 0, .i64 0, .u16 0, .v (.slice none 0 0)]
def stPile (l : List StepT) (x : Nat × List (List D)) : St := { f := [(2, .ptr 2 0), (3, .bool false), (4, .msl 5000 x.2.length 0 x.2.length), (14, .d (.sl false 4 (l.map rowSt))), (15, .i64 l.length), (16, .i64 x.1)], h := [(5000, some (.buf 4 29 x.2)), (2, some (.dvar 4 zeroP))] }
def zrow (a f n : Int) : List D := [.i64 a, .i64 f, .u16 n, .v (.slice none 0 0)]
theorem push_row (a f n : Int) : RowL (zrow a f n) (rowO4 (.mk a f n [])) := by
  rw [rowO4_at]
  exact .cons (.refl _) (.cons (.refl _) (.cons (.refl _) (.cons (.nil false 4) (.refl []))))
theorem splice_all {a b : List D} (h : a.length = b.length) : splice a b 0 = b := by
  simp [splice, ← h]
theorem not_row {r : List D} {q : PolT} (h : RowL r (rowO4 q)) : RowL [.i64 4, .i64 0, .u16 0, .sl true 4 [r]] (rowO4 (.mk 4 0 0 [q])) := by
  rw [rowO4_at]
  exact .cons (.refl _) (.cons (.refl _) (.cons (.refl _) (.cons (RowsL.dl (RowsL.one h)) (.refl []))))
def jrow (a : Int) (rows : List (List D)) : List D := [.i64 a, .i64 0, .u16 0, .sl false 4 rows]
theorem join_row {rows : List (List D)} {ps : List PolT} (a : Int) (h : RowsL rows (ps.map rowO4)) : RowL (jrow a rows) (rowO4 (.mk a 0 0 ps)) := by
  rw [rowO4_at]
  exact .cons (.refl _) (.cons (.refl _) (.cons (.refl _) (.cons (RowsL.dl h) (.refl []))))
theorem rowsL_len {rows : List (List D)} {ps : List PolT} (h : RowsL rows (ps.map rowO4)) {i : Nat} (hi : i < rows.length) : (rows.getD i []).length = 4 := by
  have h2 : i < ps.length := by have := h.1; simp at this; omega
  rw [(h.at hi).1]
  simp [List.getD, h2, rowO4_at, rowP4]
theorem pile_ctr (g : GP) (l : List StepT) (hl : l.length < 2 ^ 62) (ho : ∀ x ∈ l, OkSt x) : Ctr (ax g).E 11 [.d (.sl false 4 (l.map rowSt))] [] (fun o => (60 < l.length ∧ o = .ret (.tup [.dagg zeroP, .bool false]) []) ∨ (l.length ≤ 60 ∧ pileF l = [] ∧ o = .ret (.tup [.dagg zeroP, .bool false]) []) ∨ (l.length ≤ 60 ∧ pileF l ≠ [] ∧ ∃ r, RowL r (rowP4 (topP (pileF l))) ∧ o = .ret (.tup [.dagg r, .bool true]) [])) := by
  refine Ctr.body (X := ax g) _ 123 [] [.cell 2 29, .tmp 3] Tryz.func11 rfl rfl rfl rfl (by decide +kernel) rfl rfl ?_
  conv => whnf
  repeat' (first | (refine And.intro easyA ?_; conv => whnf) | (refine ifB_intro (fun hA => ?_) (fun hA => ?_) <;> (try rw [hA]) <;> (conv => whnf) <;> (first | replace hA := nrmA hA | replace hA := nrmB hA | replace hA := nrmC hA | replace hA := nrmD hA | replace hA := nrmE hA | replace hA := nrmF hA | skip) <;> (try simp only [List.length_map] at hA)) | (rw [getD_map _ _ _ _ (by assumption)]; conv => whnf))
  · refine ⟨⟨[], ?_⟩⟩
    conv => whnf
    repeat' (first | (refine And.intro easyA ?_; conv => whnf) | (refine ifB_intro (fun hA => ?_) (fun hA => ?_) <;> (try rw [hA]) <;> (conv => whnf) <;> (first | replace hA := nrmA hA | replace hA := nrmB hA | replace hA := nrmC hA | replace hA := nrmD hA | replace hA := nrmE hA | replace hA := nrmF hA | skip) <;> (try simp only [List.length_map, cond_true, cond_false, Bool.not_eq_true', Bool.not_eq_false', beq_iff_eq, beq_eq_false_iff_ne, ne_eq] at hA)) | (rw [getD_map _ _ _ _ (by assumption)]; conv => whnf))
    exact .inl ⟨by omega, rfl⟩
  · refine LoopP.own 4 5000 4 29 rfl rfl rfl ?_
    have h60 : l.length ≤ 60 := by omega
    refine LoopP.invS (X := ax g) (stPile l) (fun x => x.1 ≤ l.length ∧ x.2.length ≤ x.1 ∧ RowsL x.2 (((l.take x.1).foldl stepP []).map rowO4)) (fun x => l.length - x.1) (0, []) ⟨Nat.zero_le _, Nat.zero_le _, RowsL.nil⟩ (St.Le.sub ⟨⟨rfl, rfl, rfl, rfl, AV.int_eq (len_int _ _), rfl, trivial⟩, ⟨fun o h => h, fun o h => h, trivial⟩⟩) fun ⟨i, rows⟩ ⟨hi, hlen, hrow⟩ => ?_
    unfold stPile
    dsimp only at hi hlen hrow ⊢
    have hpl : rows.length = ((l.take i).foldl stepP []).length := by rw [hrow.1, List.length_map]
    by_cases hlt : i < l.length
    · obtain ⟨o1, o2⟩ := ho _ (List.getElem_mem hlt)
      have hnext : (l.take (i + 1)).foldl stepP [] = stepP ((l.take i).foldl stepP []) l[i] := foldl_next stepP [] l i hlt
      conv => whnf
      refine ifB_true (decide_eq_true (by omega)) ?_
      conv => whnf
      have hkof : (if (rows.length : Int) < IntKind.i64.wrap l[i].k then (rows.length : Int) else IntKind.i64.wrap l[i].k) = ((kOf l[i] rows.length : Nat) : Int) := by
        rw [i64_wrap (by omega) (by omega), kOf]
        split <;> omega
      have hpred : IntKind.i64.wrap ((rows.length : Int) - 1) = ((rows.length - 1 : Nat) : Int) ∨ rows.length = 0 := by
        rcases Nat.eq_zero_or_pos rows.length with h | h
        · exact .inr h
        · left; rw [IntKind.wrap_i64]; omega
      have hrl := fun (q : Nat) (hq : q < rows.length) => rowsL_len hrow hq
      repeat' (first | (refine And.intro easyA ?_; conv => whnf) | (refine ifB_intro (fun hA => ?_) (fun hA => ?_) <;> (try rw [hA]) <;> (conv => whnf) <;> (first | replace hA := nrmA hA | replace hA := nrmB hA | replace hA := nrmC hA | replace hA := nrmD hA | replace hA := nrmE hA | replace hA := nrmF hA | skip) <;> (try simp only [List.length_map, cond_true, cond_false, Bool.not_eq_true', Bool.not_eq_false', beq_iff_eq, beq_eq_false_iff_ne, ne_eq] at hA)) | (rw [getD_map rowSt l i [] hlt]; conv => whnf) | (rw [getD_map _ _ _ _ (by assumption)]; conv => whnf))
      all_goals try (exfalso; omega)
      · exact ⟨(i + 1, rows ++ [zrow l[i].what 0 0]), ⟨by show i + 1 ≤ _; omega, by simp; omega, by
          dsimp only
          rw [hnext, stepP, if_pos (by omega), List.map_append]
          exact hrow.app (RowsL.one (push_row _ _ _))⟩, by dsimp only; omega, St.Le.sub ⟨⟨rfl, rfl, msl_eq (by simp), rfl, rfl, AV.int_eq (i64_succ (by omega)), trivial⟩, ⟨fun o h => h, fun o h => h, trivial⟩⟩⟩
      · exact ⟨(i + 1, rows ++ [zrow l[i].what 0 0]), ⟨by show i + 1 ≤ _; omega, by simp; omega, by
          dsimp only
          rw [hnext, stepP, if_pos (by omega), List.map_append]
          exact hrow.app (RowsL.one (push_row _ _ _))⟩, by dsimp only; omega, St.Le.sub ⟨⟨rfl, rfl, msl_eq (by simp), rfl, rfl, AV.int_eq (i64_succ (by omega)), trivial⟩, ⟨fun o h => h, fun o h => h, trivial⟩⟩⟩
      · exact ⟨(i + 1, rows ++ [zrow l[i].what l[i].f l[i].n]), ⟨by show i + 1 ≤ _; omega, by simp; omega, by
          dsimp only
          rw [hnext, stepP, if_neg (by omega), if_pos (by omega), List.map_append]
          exact hrow.app (RowsL.one (push_row _ _ _))⟩, by dsimp only; omega, St.Le.sub ⟨⟨rfl, rfl, msl_eq (by simp), rfl, rfl, AV.int_eq (i64_succ (by omega)), trivial⟩, ⟨fun o h => h, fun o h => h, trivial⟩⟩⟩
      · exact ⟨(i + 1, rows ++ [zrow l[i].what l[i].f l[i].n]), ⟨by show i + 1 ≤ _; omega, by simp; omega, by
          dsimp only
          rw [hnext, stepP, if_neg (by omega), if_pos (by omega), List.map_append]
          exact hrow.app (RowsL.one (push_row _ _ _))⟩, by dsimp only; omega, St.Le.sub ⟨⟨rfl, rfl, msl_eq (by simp), rfl, rfl, AV.int_eq (i64_succ (by omega)), trivial⟩, ⟨fun o h => h, fun o h => h, trivial⟩⟩⟩
      · exact ⟨(i + 1, rows ++ [zrow l[i].what l[i].f l[i].n]), ⟨by show i + 1 ≤ _; omega, by simp; omega, by
          dsimp only
          rw [hnext, stepP, if_neg (by omega), if_pos (by omega), List.map_append]
          exact hrow.app (RowsL.one (push_row _ _ _))⟩, by dsimp only; omega, St.Le.sub ⟨⟨rfl, rfl, msl_eq (by simp), rfl, rfl, AV.int_eq (i64_succ (by omega)), trivial⟩, ⟨fun o h => h, fun o h => h, trivial⟩⟩⟩
      · rcases hpred with hpred | hpred
        · have hq1 : rows.length - 1 < rows.length := by omega
          have hq4 := hrl _ hq1
          have hget : rows.getD (rows.length - 1) [] = rows[rows.length - 1] := by simp [List.getD, hq1]
          have hgp := hrow.at hq1
          have hcut : cut 0 4 (rows.getD (0 + (rows.length - 1)) []) = rows.getD (rows.length - 1) [] := by rw [Nat.zero_add, cut, List.drop_zero, List.take_of_length_le (by omega)]
          rw [hpred]
          repeat' (first | (refine And.intro easyA ?_; conv => whnf) | (refine ifB_intro (fun hA => ?_) (fun hA => ?_) <;> (try rw [hA]) <;> (conv => whnf) <;> (first | replace hA := nrmA hA | replace hA := nrmB hA | replace hA := nrmC hA | replace hA := nrmD hA | replace hA := nrmE hA | replace hA := nrmF hA | skip) <;> (try simp only [List.length_map, cond_true, cond_false, Bool.not_eq_true', Bool.not_eq_false', beq_iff_eq, beq_eq_false_iff_ne, ne_eq] at hA)) | (rw [hpred]; conv => whnf) | (rw [Int.toNat_natCast]; conv => whnf) | (rw [hcut]; conv => whnf) | (refine And.intro hq4 ?_; conv => whnf) | (refine And.intro (by simp only [Nat.zero_add, hq4]; decide) ?_; conv => whnf) | (rw [getD_map _ _ _ _ (by assumption)]; conv => whnf))
          have e : rows.set (0 + (rows.length - 1)) (splice (rows.getD (0 + (rows.length - 1)) []) [.i64 4, .i64 0, .u16 0, .sl true 4 [rows.getD (rows.length - 1) []]] 0) = rows.set (rows.length - 1) [.i64 4, .i64 0, .u16 0, .sl true 4 [rows.getD (rows.length - 1) []]] := by
            rw [Nat.zero_add, splice_all hq4]
          have hmid : ((l.take i).foldl stepP []).length - 1 < ((l.take i).foldl stepP []).length := by omega
          exact ⟨(i + 1, rows.set (rows.length - 1) [.i64 4, .i64 0, .u16 0, .sl true 4 [rows.getD (rows.length - 1) []]]), ⟨by show i + 1 ≤ _; omega, by simp; omega, by
            dsimp only
            rw [hnext, stepP, if_neg (by omega), if_neg (by omega), if_pos (by omega), ← hpl, List.map_set]
            refine hrow.set _ (not_row ?_)
            have := hgp
            rw [hpl] at this ⊢
            simpa [List.getD, hmid] using this⟩, by dsimp only; omega, St.Le.sub ⟨⟨rfl, rfl, msl_eq (by simp), rfl, rfl, AV.int_eq (i64_succ (by omega)), trivial⟩, ⟨fun o h => by rw [← h, ← e]; rfl, fun o h => h, trivial⟩⟩⟩
        · exfalso; omega
      · exact ⟨(i + 1, rows), ⟨by show i + 1 ≤ _; omega, by simp; omega, by
          dsimp only
          rw [hnext, stepP, if_neg (by omega), if_neg (by omega), if_neg (by omega), if_neg (by omega)]
          exact hrow⟩, by dsimp only; omega, St.Le.sub ⟨⟨rfl, rfl, rfl, rfl, rfl, AV.int_eq (i64_succ (by omega)), trivial⟩, ⟨fun o h => h, fun o h => h, trivial⟩⟩⟩
      · skip
        have hkk : kOf l[i] rows.length ≤ rows.length := Nat.min_le_right _ _
        generalize hk : kOf l[i] rows.length = kk at hkk hkof
        have hm : IntKind.i64.wrap ((rows.length : Int) - (kk : Int)) = ((rows.length - kk : Nat) : Int) := by rw [IntKind.wrap_i64]; omega
        rw [hkof, hm]
        generalize hmm : rows.length - kk = m at hm
        have hml : m ≤ rows.length := by omega
        refine And.intro (Int.natCast_nonneg m) ?_
        conv => whnf
        refine And.intro (show (m : Int) ≤ (rows.length : Int) by omega) ?_
        conv => whnf
        repeat' (first | (refine And.intro easyA ?_; conv => whnf) | (refine ifB_intro (fun hA => ?_) (fun hA => ?_) <;> (try rw [hA]) <;> (conv => whnf) <;> (first | replace hA := nrmA hA | replace hA := nrmB hA | replace hA := nrmC hA | replace hA := nrmD hA | replace hA := nrmE hA | replace hA := nrmF hA | skip) <;> (try simp only [List.length_map, cond_true, cond_false, Bool.not_eq_true', Bool.not_eq_false', beq_iff_eq, beq_eq_false_iff_ne, ne_eq] at hA)) | (rw [getD_map _ _ _ _ (by assumption)]; conv => whnf))
        try (refine And.intro (show m + (rows.length - m) ≤ rows.length by omega) ?_; conv => whnf)
        try (refine And.intro (show (rows.length - m) * 48 ≤ 140737488355328 by omega) ?_; conv => whnf)
        repeat' (first | (refine And.intro easyA ?_; conv => whnf) | (refine ifB_intro (fun hA => ?_) (fun hA => ?_) <;> (try rw [hA]) <;> (conv => whnf) <;> (first | replace hA := nrmA hA | replace hA := nrmB hA | replace hA := nrmC hA | replace hA := nrmD hA | replace hA := nrmE hA | replace hA := nrmF hA | skip) <;> (try simp only [List.length_map, cond_true, cond_false, Bool.not_eq_true', Bool.not_eq_false', beq_iff_eq, beq_eq_false_iff_ne, ne_eq] at hA)) | (rw [getD_map _ _ _ _ (by assumption)]; conv => whnf))
        refine DrawP.weak { f := [(2, .ptr 2 0), (3, .bool false), (4, .msl 5000 rows.length 0 rows.length), (6, .ptr 6 0), (7, .i64 rows.length), (8, .i64 kk), (9, .msl 100 (rows.length - m) 0 (rows.length - m)), (14, .d (.sl false 4 (l.map rowSt))), (15, .i64 l.length), (16, .i64 i)], h := [(100, some (.buf 4 29 ((rows.drop m).take (rows.length - m)))), (5000, some (.buf 4 29 rows)), (2, some (.dvar 4 zeroP)), (6, some (.dvar 4 (rowSt l[i])))] } ?_ ?_
        · exact ⟨⟨rfl, rfl, rfl, rfl, rfl, rfl, rfl, rfl, rfl, rfl, trivial⟩, ⟨fun o h => h, fun o h => h, fun o h => h, fun o h => h, trivial⟩⟩
        refine DrawP.frz 9 100 _ 0 _ 4 29 _ rfl rfl rfl (by simp) (by omega) ?_
        refine DrawP.trunc 4 5000 5001 rows.length rows.length 4 29 rows rfl rfl rfl rfl (Nat.le_refl _) rfl ?_
        refine DrawP.weak { f := [(2, .ptr 2 0), (3, .bool false), (4, .msl 5001 rows.length 0 rows.length), (6, .ptr 6 0), (7, .i64 rows.length), (8, .i64 kk), (9, .d (.sl false 4 (rows.drop m))), (14, .d (.sl false 4 (l.map rowSt))), (15, .i64 l.length), (16, .i64 i)], h := [(5001, some (.buf 4 29 rows)), (2, some (.dvar 4 zeroP)), (6, some (.dvar 4 (rowSt l[i])))] } ?_ ?_
        · exact ⟨⟨rfl, rfl, rfl, rfl, rfl, rfl, by show AV.d (D.sl false 4 (((((rows.drop m).take (rows.length - m)).drop 0)).take (rows.length - m))) = _; rw [List.drop_zero, List.take_of_length_le (by simp), List.take_of_length_le (by simp)], rfl, rfl, rfl, trivial⟩, ⟨fun o h => by rw [← h]; show some (AObj.buf 4 29 (rows.take rows.length)) = _; rw [List.take_length], fun o h => h, fun o h => h, trivial⟩⟩
        refine DrawP.trunc 4 5001 5000 rows.length m 4 29 rows rfl rfl rfl rfl hml rfl ?_
        have hmt : (rows.take m).length = m := by simp; omega
        refine DrawP.intro (X := ax g) (id := 17) B11_17 (by kernel_rfl) (by decide +kernel) ?_
        conv => whnf
        refine And.intro hmt.symm ?_
        conv => whnf
        rw [hm]
        refine And.intro (show (0 : Int) ≤ 0 by omega) ?_
        conv => whnf
        refine And.intro (Int.natCast_nonneg m) ?_
        conv => whnf
        refine And.intro (show (m : Int) ≤ ((rows.take m).length : Int) by omega) ?_
        conv => whnf
        repeat' (first | (refine And.intro easyA ?_; conv => whnf) | (refine ifB_intro (fun hA => ?_) (fun hA => ?_) <;> (try rw [hA]) <;> (conv => whnf) <;> (first | replace hA := nrmA hA | replace hA := nrmB hA | replace hA := nrmC hA | replace hA := nrmD hA | replace hA := nrmE hA | replace hA := nrmF hA | skip) <;> (try simp only [List.length_map, cond_true, cond_false, Bool.not_eq_true', Bool.not_eq_false', beq_iff_eq, beq_eq_false_iff_ne, ne_eq] at hA)) | (rw [getD_map _ _ _ _ (by assumption)]; conv => whnf))
        exact ⟨(i + 1, rows.take m ++ [jrow l[i].what (rows.drop m)]), ⟨by show i + 1 ≤ _; omega, by simp; omega, by
          dsimp only
          rw [hnext, stepP, if_neg (by omega), if_neg (by omega), if_neg (by omega), if_pos (by omega), ← hpl, hk, hmm, List.map_append, List.map_take]
          exact (hrow.take m).app (RowsL.one (join_row _ (by rw [List.map_drop]; exact hrow.drop m)))⟩, by dsimp only; omega, St.Le.sub ⟨⟨rfl, rfl, msl_eq (by simp), rfl, rfl, AV.int_eq (i64_succ (by omega)), trivial⟩, ⟨fun o h => h, fun o h => h, trivial⟩⟩⟩
      · skip
        have hkk : kOf l[i] rows.length ≤ rows.length := Nat.min_le_right _ _
        generalize hk : kOf l[i] rows.length = kk at hkk hkof
        have hm : IntKind.i64.wrap ((rows.length : Int) - (kk : Int)) = ((rows.length - kk : Nat) : Int) := by rw [IntKind.wrap_i64]; omega
        rw [hkof, hm]
        generalize hmm : rows.length - kk = m at hm
        have hml : m ≤ rows.length := by omega
        refine And.intro (Int.natCast_nonneg m) ?_
        conv => whnf
        refine And.intro (show (m : Int) ≤ (rows.length : Int) by omega) ?_
        conv => whnf
        repeat' (first | (refine And.intro easyA ?_; conv => whnf) | (refine ifB_intro (fun hA => ?_) (fun hA => ?_) <;> (try rw [hA]) <;> (conv => whnf) <;> (first | replace hA := nrmA hA | replace hA := nrmB hA | replace hA := nrmC hA | replace hA := nrmD hA | replace hA := nrmE hA | replace hA := nrmF hA | skip) <;> (try simp only [List.length_map, cond_true, cond_false, Bool.not_eq_true', Bool.not_eq_false', beq_iff_eq, beq_eq_false_iff_ne, ne_eq] at hA)) | (rw [getD_map _ _ _ _ (by assumption)]; conv => whnf))
        try (refine And.intro (show m + (rows.length - m) ≤ rows.length by omega) ?_; conv => whnf)
        try (refine And.intro (show (rows.length - m) * 48 ≤ 140737488355328 by omega) ?_; conv => whnf)
        repeat' (first | (refine And.intro easyA ?_; conv => whnf) | (refine ifB_intro (fun hA => ?_) (fun hA => ?_) <;> (try rw [hA]) <;> (conv => whnf) <;> (first | replace hA := nrmA hA | replace hA := nrmB hA | replace hA := nrmC hA | replace hA := nrmD hA | replace hA := nrmE hA | replace hA := nrmF hA | skip) <;> (try simp only [List.length_map, cond_true, cond_false, Bool.not_eq_true', Bool.not_eq_false', beq_iff_eq, beq_eq_false_iff_ne, ne_eq] at hA)) | (rw [getD_map _ _ _ _ (by assumption)]; conv => whnf))
        refine DrawP.weak { f := [(2, .ptr 2 0), (3, .bool false), (4, .msl 5000 rows.length 0 rows.length), (6, .ptr 6 0), (7, .i64 rows.length), (8, .i64 kk), (9, .msl 100 (rows.length - m) 0 (rows.length - m)), (14, .d (.sl false 4 (l.map rowSt))), (15, .i64 l.length), (16, .i64 i)], h := [(100, some (.buf 4 29 ((rows.drop m).take (rows.length - m)))), (5000, some (.buf 4 29 rows)), (2, some (.dvar 4 zeroP)), (6, some (.dvar 4 (rowSt l[i])))] } ?_ ?_
        · exact ⟨⟨rfl, rfl, rfl, rfl, rfl, rfl, rfl, rfl, rfl, rfl, trivial⟩, ⟨fun o h => h, fun o h => h, fun o h => h, fun o h => h, trivial⟩⟩
        refine DrawP.frz 9 100 _ 0 _ 4 29 _ rfl rfl rfl (by simp) (by omega) ?_
        refine DrawP.trunc 4 5000 5001 rows.length rows.length 4 29 rows rfl rfl rfl rfl (Nat.le_refl _) rfl ?_
        refine DrawP.weak { f := [(2, .ptr 2 0), (3, .bool false), (4, .msl 5001 rows.length 0 rows.length), (6, .ptr 6 0), (7, .i64 rows.length), (8, .i64 kk), (9, .d (.sl false 4 (rows.drop m))), (14, .d (.sl false 4 (l.map rowSt))), (15, .i64 l.length), (16, .i64 i)], h := [(5001, some (.buf 4 29 rows)), (2, some (.dvar 4 zeroP)), (6, some (.dvar 4 (rowSt l[i])))] } ?_ ?_
        · exact ⟨⟨rfl, rfl, rfl, rfl, rfl, rfl, by show AV.d (D.sl false 4 (((((rows.drop m).take (rows.length - m)).drop 0)).take (rows.length - m))) = _; rw [List.drop_zero, List.take_of_length_le (by simp), List.take_of_length_le (by simp)], rfl, rfl, rfl, trivial⟩, ⟨fun o h => by rw [← h]; show some (AObj.buf 4 29 (rows.take rows.length)) = _; rw [List.take_length], fun o h => h, fun o h => h, trivial⟩⟩
        refine DrawP.trunc 4 5001 5000 rows.length m 4 29 rows rfl rfl rfl rfl hml rfl ?_
        have hmt : (rows.take m).length = m := by simp; omega
        refine DrawP.intro (X := ax g) (id := 17) B11_17 (by kernel_rfl) (by decide +kernel) ?_
        conv => whnf
        refine And.intro hmt.symm ?_
        conv => whnf
        rw [hm]
        refine And.intro (show (0 : Int) ≤ 0 by omega) ?_
        conv => whnf
        refine And.intro (Int.natCast_nonneg m) ?_
        conv => whnf
        refine And.intro (show (m : Int) ≤ ((rows.take m).length : Int) by omega) ?_
        conv => whnf
        repeat' (first | (refine And.intro easyA ?_; conv => whnf) | (refine ifB_intro (fun hA => ?_) (fun hA => ?_) <;> (try rw [hA]) <;> (conv => whnf) <;> (first | replace hA := nrmA hA | replace hA := nrmB hA | replace hA := nrmC hA | replace hA := nrmD hA | replace hA := nrmE hA | replace hA := nrmF hA | skip) <;> (try simp only [List.length_map, cond_true, cond_false, Bool.not_eq_true', Bool.not_eq_false', beq_iff_eq, beq_eq_false_iff_ne, ne_eq] at hA)) | (rw [getD_map _ _ _ _ (by assumption)]; conv => whnf))
        exact ⟨(i + 1, rows.take m ++ [jrow l[i].what (rows.drop m)]), ⟨by show i + 1 ≤ _; omega, by simp; omega, by
          dsimp only
          rw [hnext, stepP, if_neg (by omega), if_neg (by omega), if_neg (by omega), if_pos (by omega), ← hpl, hk, hmm, List.map_append, List.map_take]
          exact (hrow.take m).app (RowsL.one (join_row _ (by rw [List.map_drop]; exact hrow.drop m)))⟩, by dsimp only; omega, St.Le.sub ⟨⟨rfl, rfl, msl_eq (by simp), rfl, rfl, AV.int_eq (i64_succ (by omega)), trivial⟩, ⟨fun o h => h, fun o h => h, trivial⟩⟩⟩
      · exact ⟨(i + 1, rows), ⟨by show i + 1 ≤ _; omega, by simp; omega, by
          dsimp only
          rw [hnext, stepP, if_neg (by omega), if_neg (by omega), if_neg (by omega), if_neg (by omega)]
          exact hrow⟩, by dsimp only; omega, St.Le.sub ⟨⟨rfl, rfl, rfl, rfl, rfl, AV.int_eq (i64_succ (by omega)), trivial⟩, ⟨fun o h => h, fun o h => h, trivial⟩⟩⟩
    · have hi2 : i = l.length := by omega
      subst hi2
      rw [List.take_length] at hrow hpl
      conv => whnf
      refine ifB_false (decide_eq_false (by omega)) ?_
      conv => whnf
      repeat' (first | (refine And.intro easyA ?_; conv => whnf) | (refine ifB_intro (fun hA => ?_) (fun hA => ?_) <;> (try rw [hA]) <;> (conv => whnf) <;> (first | replace hA := nrmA hA | replace hA := nrmB hA | replace hA := nrmC hA | replace hA := nrmD hA | replace hA := nrmE hA | replace hA := nrmF hA | skip) <;> (try simp only [List.length_map, cond_true, cond_false, Bool.not_eq_true', Bool.not_eq_false', beq_iff_eq, beq_eq_false_iff_ne, ne_eq] at hA)) | (rw [getD_map _ _ _ _ (by assumption)]; conv => whnf))
      · refine ⟨⟨[], ?_⟩⟩
        conv => whnf
        repeat' (first | (refine And.intro easyA ?_; conv => whnf) | (refine ifB_intro (fun hA => ?_) (fun hA => ?_) <;> (try rw [hA]) <;> (conv => whnf) <;> (first | replace hA := nrmA hA | replace hA := nrmB hA | replace hA := nrmC hA | replace hA := nrmD hA | replace hA := nrmE hA | replace hA := nrmF hA | skip) <;> (try simp only [List.length_map, cond_true, cond_false, Bool.not_eq_true', Bool.not_eq_false', beq_iff_eq, beq_eq_false_iff_ne, ne_eq] at hA)) | (rw [getD_map _ _ _ _ (by assumption)]; conv => whnf))
        refine .inr (.inl ⟨h60, List.eq_nil_of_length_eq_zero (by rw [pileF]; omega), rfl⟩)
      · have hpos : 0 < rows.length := by omega
        have hq1 : rows.length - 1 < rows.length := by omega
        have hq4 := rowsL_len hrow hq1
        have hgp := hrow.at hq1
        have hpred : IntKind.i64.wrap ((rows.length : Int) - 1) = ((rows.length - 1 : Nat) : Int) := by rw [IntKind.wrap_i64]; omega
        have hcut : cut 0 4 (rows.getD (0 + (rows.length - 1)) []) = rows.getD (rows.length - 1) [] := by rw [Nat.zero_add, cut, List.drop_zero, List.take_of_length_le (by omega)]
        have hmid : ((l.foldl stepP []).length - 1) < (l.foldl stepP []).length := by omega
        have htop : RowL (rows.getD (rows.length - 1) []) (rowP4 (topP (pileF l))) := by
          have := hgp
          rw [hpl] at this ⊢
          rw [← rowO4_at]
          simpa [List.getD, hmid, topP, pileF] using this
        have hne : pileF l ≠ [] := fun he => by
          have : (pileF l).length = 0 := by rw [he]; rfl
          rw [pileF] at this; omega
        rw [hpred]
        repeat' (first | (refine And.intro easyA ?_; conv => whnf) | (refine ifB_intro (fun hA => ?_) (fun hA => ?_) <;> (try rw [hA]) <;> (conv => whnf) <;> (first | replace hA := nrmA hA | replace hA := nrmB hA | replace hA := nrmC hA | replace hA := nrmD hA | replace hA := nrmE hA | replace hA := nrmF hA | skip) <;> (try simp only [List.length_map, cond_true, cond_false, Bool.not_eq_true', Bool.not_eq_false', beq_iff_eq, beq_eq_false_iff_ne, ne_eq] at hA)) | (rw [hpred]; conv => whnf) | (rw [Int.toNat_natCast]; conv => whnf) | (rw [hcut]; conv => whnf) | (refine And.intro hq4 ?_; conv => whnf) | (refine And.intro (by simp only [Nat.zero_add, hq4]; decide) ?_; conv => whnf) | (rw [getD_map _ _ _ _ (by assumption)]; conv => whnf))
        refine ⟨⟨[], ?_⟩⟩
        conv => whnf
        have hcut0 : cut 0 4 (rows.getD (rows.length - 1) []) = rows.getD (rows.length - 1) [] := by rw [cut, List.drop_zero, List.take_of_length_le (by omega)]
        refine And.intro (by simp only [Nat.zero_add, hq4]; decide) ?_
        conv => whnf
        repeat' (first | (refine And.intro easyA ?_; conv => whnf) | (refine ifB_intro (fun hA => ?_) (fun hA => ?_) <;> (try rw [hA]) <;> (conv => whnf) <;> (first | replace hA := nrmA hA | replace hA := nrmB hA | replace hA := nrmC hA | replace hA := nrmD hA | replace hA := nrmE hA | replace hA := nrmF hA | skip) <;> (try simp only [List.length_map, cond_true, cond_false, Bool.not_eq_true', Bool.not_eq_false', beq_iff_eq, beq_eq_false_iff_ne, ne_eq] at hA)) | (rw [getD_map _ _ _ _ (by assumption)]; conv => whnf))
        refine .inr (.inr ⟨h60, hne, rows.getD (rows.length - 1) [], htop, ?_⟩)
        show AOut.ret (.tup [.dagg (cut 0 4 (rows.getD (rows.length - 1) [])), _]) [] = _
        rw [hcut0]
end Go.Ax

namespace Go.Ax
theorem CtrD.swapG {E : Env} {f : FuncId} {args : List AV} {hin : HL} {u u' : FrameMode} {post post' : AOut → Prop} (a b : Nat) (h : CtrD E f args hin u u' post) (hr : ∀ res ho, post (.ret res ho) → post' (.ret (res.swap a b) (HL.swap a b ho))) (hp : ∀ ch ho, post (.pan ch ho) → post' (.pan ch (HL.swap a b ho))) : CtrD E f (AV.swapL a b args) (HL.swap a b hin) u u' post' := by
  refine ⟨h.1, fun w Im ρ vs hG hIm hgl hsz hra hrel => ?_⟩
  -- the names as the contract has them
  have back : ∀ x : AV, (x.swap a b).swap a b = x := by
    intro x
    induction x using AV.rec (motive_2 := fun l => AV.swapL a b (AV.swapL a b l) = l) with
    | junk => rfl
    | d x => rfl
    | dagg cs => rfl
    | agg cs ih => simp [AV.swap, ih]
    | tup cs ih => simp [AV.swap, ih]
    | ptr q off => simp [AV.swap, swp_swp]
    | ep cs => rfl
    | msl q n off len => simp [AV.swap, swp_swp]
    | mptr q n i j => simp [AV.swap, swp_swp]
    | mp q => simp [AV.swap, swp_swp]
    | clo fn f c ih1 ih2 => simp [AV.swap, ih1, ih2]
    | ifc t x ih => simp [AV.swap, ih]
    | nil => rfl
    | cons x xs ih1 ih2 => simp [AV.swapL, ih1, ih2]
  have backO : ∀ o : AObj, (o.swap a b).swap a b = o := fun o => by
    cases o with
    | var cs =>
      have : ∀ l : List AV, AV.swapL a b (AV.swapL a b l) = l := fun l => by induction l with
        | nil => rfl
        | cons x xs ih => simp [AV.swapL, ih, back]
      simp [AObj.swap, this]
    | lbuf e els x => simp [AObj.swap, back]
    | _ => rfl
  have hρ : ∀ r, (fun q => ρ (swp a b q)) (swp a b r) = ρ r := fun r => by simp only [swp_swp]
  have hT : ∀ bk, TIn (fun q => ρ (swp a b q)) hin bk → TIn ρ (HL.swap a b hin) bk := fun bk ⟨r, o, l, h1, h2, h3⟩ => ⟨swp a b r, o.swap a b, l, by rw [lkH_swap, h1]; rfl, h2, h3⟩
  have hT' : ∀ bk, TIn ρ (HL.swap a b hin) bk → TIn (fun q => ρ (swp a b q)) hin bk := fun bk ⟨r, o, l, h1, h2, h3⟩ => by
    obtain ⟨o', h4, _⟩ := lkH_unswap h1
    exact ⟨swp a b r, o', l, h4, by simp only [swp_swp]; exact h2, h3⟩
  have := h.2 w Im (fun q => ρ (swp a b q)) vs hG hIm hgl (by rw [hsz, swapL_length]) (fun i v x h1 h2 => by
    have h3 := hra i v (x.swap a b) h1 (by rw [swapL_get, h2]; rfl)
    have h4 := h3.swap (ρ' := fun q => ρ (swp a b q)) a b hρ
    rw [back] at h4; exact h4) ⟨fun r o hr => by
      obtain ⟨l, h1, h2, h3⟩ := hrel.obj (swp a b r) (o.swap a b) (by rw [lkH_swap, hr]; rfl)
      have h4 := h2.swap (ρ' := fun q => ρ (swp a b q)) a b hρ
      rw [backO] at h4
      exact ⟨l, h1, h4, h3⟩, fun r r' o o' l l' h1 h2 hne g1 g2 => hrel.dis (swp a b r) (swp a b r') (o.swap a b) (o'.swap a b) l l' (by rw [lkH_swap, h1]; rfl) (by rw [lkH_swap, h2]; rfl) (fun e => hne (swp_inj e)) g1 g2⟩
  have aft : ∀ (w' : World) (Im' : Nat → Prop) (ρ' : Nat → Option Loc) (ho' : HL), After w Im (fun q => ρ (swp a b q)) hin w' Im' ρ' ho' → After w Im ρ (HL.swap a b hin) w' Im' (fun q => ρ' (swp a b q)) (HL.swap a b ho') := fun w' Im' ρ' ho' A => by
    have hρ' : ∀ r, (fun q => ρ' (swp a b q)) (swp a b r) = ρ' r := fun r => by simp only [swp_swp]
    refine ⟨⟨A.grows.size, A.grows.os, A.grows.tape, A.grows.output, fun bk hb hn => A.grows.block bk hb fun h => hn (hT bk h)⟩, A.im, fun bk hb => ⟨(A.imn bk hb).1, (A.imn bk hb).2.imp id fun h => h.imp id (hT bk)⟩, ⟨fun r o hr => ?_, fun r r' o o' l l' h1 h2 hne g1 g2 => ?_⟩, fun r o hr l' hl' => ?_, fun r o hr q hq => ?_⟩
    · obtain ⟨o', h4, rfl⟩ := lkH_unswap hr
      obtain ⟨l, h5, h6, h7⟩ := A.rel.obj _ o' h4
      exact ⟨l, h5, h6.swap a b hρ', fun bk hb => ⟨(h7 bk hb).1, (h7 bk hb).2.1, (h7 bk hb).2.2.imp id (hT bk)⟩⟩
    · obtain ⟨o1, h4, _⟩ := lkH_unswap h1
      obtain ⟨o2, h5, _⟩ := lkH_unswap h2
      exact A.rel.dis _ _ o1 o2 l l' h4 h5 (fun e => hne (swp_inj e)) g1 g2
    · obtain ⟨o', h4, _⟩ := lkH_unswap hr
      obtain ⟨l, h5, h6⟩ := A.anc _ o' h4 l' hl'
      simp only [swp_swp] at h5
      exact ⟨l, h5, h6⟩
    · obtain ⟨o', h4, rfl⟩ := lkH_unswap hr
      rw [mentO_swap] at hq
      have := A.cl _ o' h4 _ hq
      rw [← swp_swp a b q, lkH_swap]
      simpa using this
  refine this.mono fun e mo w' hmo => ⟨hmo.1, ?_⟩
  have he := hmo.2
  cases e with
  | returned v =>
    obtain ⟨res', ho', Im', ρ', h1, h2, h3, A⟩ := he
    have hρ' : ∀ r, (fun q => ρ' (swp a b q)) (swp a b r) = ρ' r := fun r => by simp only [swp_swp]
    refine ⟨_, _, Im', fun q => ρ' (swp a b q), hr _ _ h1, h2.swap a b hρ', fun r hr => ?_, aft _ _ _ _ A⟩
    rw [ment_swap] at hr
    have := h3 _ hr
    rw [← swp_swp a b r, lkH_swap]
    simpa using this
  | panicked ch =>
    obtain ⟨ho', Im', ρ', h1, A⟩ := he
    exact ⟨_, Im', fun q => ρ' (swp a b q), hp _ _ h1, aft _ _ _ _ A⟩
  | outgrown => exact he
end Go.Ax
