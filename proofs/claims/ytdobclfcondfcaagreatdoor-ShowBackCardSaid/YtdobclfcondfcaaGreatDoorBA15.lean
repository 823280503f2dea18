/- What the card of this claim stands on, or the card itself: for every input, as the given row says. -/
import Derived.Test.YtdobclfcondfcaaGreatDoorBA14

namespace Go.Ax
open Go.Proofs
set_option maxRecDepth 10000
def bsG (P : Nat → Bool) : Nat → Nat → Nat → Nat
  | 0, i, _ => i
  | f + 1, i, j => if i < j then (if P ((i + j) / 2) = true then bsG P f ((i + j) / 2 + 1) j else bsG P f i ((i + j) / 2)) else i
theorem bsG_range (P : Nat → Bool) : ∀ f i j, i ≤ j → i ≤ bsG P f i j ∧ bsG P f i j ≤ j
  | 0, i, j, h => ⟨Nat.le_refl _, h⟩
  | f + 1, i, j, h => by
    rw [bsG]
    split
    · split
      · have := bsG_range P f ((i + j) / 2 + 1) j (by omega); omega
      · have := bsG_range P f i ((i + j) / 2) (by omega); omega
    · omega
def upF (l : List PairT) (a : Nat) : Nat → List PairT
  | 0 => l
  | k + 1 => swp2 (upF l a k) (a + k) (a + k + 1)
theorem upF_len (l : List PairT) (a : Nat) : ∀ k, (upF l a k).length = l.length
  | 0 => rfl
  | k + 1 => by rw [upF, swp2_len, upF_len l a k]
def dnF (l : List PairT) (m : Nat) : Nat → List PairT
  | 0 => l
  | c + 1 => swp2 (dnF l m c) (m - c) (m - c - 1)
theorem dnF_len (l : List PairT) (m : Nat) : ∀ k, (dnF l m k).length = l.length
  | 0 => rfl
  | k + 1 => by rw [dnF, swp2_len, dnF_len l m k]
def stS (l : List PairT) (a m b : Nat) : Nat := if (a + b) / 2 < m then (a + b) / 2 + m - b else a
def rS (a m b : Nat) : Nat := if (a + b) / 2 < m then (a + b) / 2 else m
def stF (l : List PairT) (a m b : Nat) : Nat := bsG (fun c => !ltP l ((a + b) / 2 + m - 1 - c) c) (rS a m b - stS l a m b) (stS l a m b) (rS a m b)
def symF : Nat → List PairT → Nat → Nat → Nat → List PairT
  | 0, l, _, _, _ => l
  | f + 1, l, a, m, b =>
    if m - a = 1 then upF l a (bsG (fun h => ltP l h a) (b - m) m b - 1 - a)
    else if b - m = 1 then dnF l m (m - bsG (fun h => !ltP l m h) (m - a) a m)
    else
      let st := stF l a m b
      let en := (a + b) / 2 + m - st
      let l1 := if st < m ∧ m < en then rotF l st m en else l
      let l2 := if a < st ∧ st < (a + b) / 2 then symF f l1 a st ((a + b) / 2) else l1
      if (a + b) / 2 < en ∧ en < b then symF f l2 ((a + b) / 2) en b else l2
theorem symF_len : ∀ f l a m b, (symF f l a m b).length = l.length
  | 0, l, a, m, b => rfl
  | f + 1, l, a, m, b => by
    have ih := symF_len f
    rw [symF]
    split
    · exact upF_len _ _ _
    · split
      · exact dnF_len _ _ _
      · dsimp only
        have h1 : (if stF l a m b < m ∧ m < (a + b) / 2 + m - stF l a m b then rotF l (stF l a m b) m ((a + b) / 2 + m - stF l a m b) else l).length = l.length := by
          split
          · exact rotF_len _ _ _ _
          · rfl
        split <;> split <;> simp only [ih, h1]
theorem mid_u {n : Nat} (h : n < 2 ^ 62) : IntKind.i64.wrap ((IntKind.u64.wrap (n : Int)).fdiv (2 ^ min (Int.toNat 1) IntKind.u64.bits)) = ((n / 2 : Nat) : Int) := by
  rw [u64_nat (by omega), show (2 : Int) ^ min (Int.toNat 1) IntKind.u64.bits = 2 from by decide, Int.fdiv_eq_ediv_of_nonneg _ (by omega), IntKind.wrap_i64]
  omega
set_option maxHeartbeats 4000000 in
theorem sym_up (g : GP) (f : Nat) (l : List PairT) (hl : l.length < 2 ^ 40) (a m b : Nat) (h1 : a < m) (h2 : m < b) (hb : b ≤ l.length) (h : m - a = 1) : Ctr (ax g).E 279 [mslP l, .i64 a, .i64 m, .i64 b, .clo (.func 244) [] []] [(9100, some (bufP l))] (fun o => o = .ret (.tup []) [(9100, some (bufP (symF (f + 1) l a m b)))]) := by
  have e1 := i64_subN (a := m) (b := a) (by omega) (by omega)
  have e2 := i64_subN (a := b) (b := m) (by omega) (by omega)
  have hll : (l.map rowF).length = l.length := List.length_map _
  rw [symF]
  have d0 : (IntKind.i64.wrap ((m : Int) - (a : Int)) == 1) = true := by rw [e1, h]; rfl
  refine Ctr.body (X := ax g) _ 220 [9100] [] Tryz.func279 rfl rfl rfl rfl (by decide +kernel) rfl rfl ?_
  conv => whnf
  repeat' (first | (rw [d0]; conv => whnf) | (refine And.intro easyA ?_; conv => whnf) | (refine ifB_intro (fun hA => ?_) (fun hA => ?_) <;> (try rw [hA]) <;> (conv => whnf) <;> (first | replace hA := nrmA hA | replace hA := nrmB hA | replace hA := nrmC hA | replace hA := nrmD hA | replace hA := nrmE hA | replace hA := nrmF hA | skip) <;> (try simp only [List.length_map, cond_true, cond_false, Bool.not_eq_true', Bool.not_eq_false', beq_iff_eq, beq_eq_false_iff_ne, ne_eq] at hA)) | (rw [getD_map _ _ _ _ (by assumption)]; conv => whnf))
  rw [if_pos h]
  generalize hR : bsG (fun h => ltP l h a) (b - m) m b = R
  have hRr := bsG_range (fun h => ltP l h a) (b - m) m b (by omega)
  rw [hR] at hRr
  refine LoopP.inv (X := ax g) (fun x : Nat × Nat => { f := [(0, mslP l), (1, .i64 a), (2, .i64 m), (3, .i64 b), (4, .clo (.func 244) [] []), (10, .i64 x.1), (11, .i64 x.2)], h := [(9100, some (bufP l))] }) (fun x => m ≤ x.1 ∧ x.1 ≤ x.2 ∧ x.2 ≤ b ∧ ∃ k, x.2 - x.1 ≤ k ∧ bsG (fun h => ltP l h a) k x.1 x.2 = R) (fun x => x.2 - x.1) (m, b) ⟨Nat.le_refl _, by show m ≤ b; omega, Nat.le_refl _, b - m, Nat.le_refl _, hR⟩ ⟨⟨rfl, rfl, rfl, rfl, rfl, rfl, rfl, trivial⟩, ⟨fun o h => h, trivial⟩⟩ fun ⟨i, j⟩ ⟨hmi, hij, hjb, k, hk, hbs⟩ => ?_
  dsimp only at hmi hij hjb hk hbs ⊢
  conv => whnf
  refine ifB_intro (fun hlt => ?_) (fun hlt => ?_)
  · have hlt : i < j := by have h0 := of_decide_eq_true hlt; omega
    obtain ⟨k, rfl⟩ : ∃ q, k = q + 1 := ⟨k - 1, by omega⟩
    rw [bsG, if_pos hlt] at hbs
    have e3 := i64_addN (a := i) (b := j) (by omega)
    have e4 := mid_u (n := i + j) (by omega)
    generalize hh : (i + j) / 2 = h at *
    have hhi : i ≤ h ∧ h < j := by omega
    have g1 := rows_getW l h (by omega)
    have g2 := rows_getW l a (by omega)
    have hc := cmpF_ctr g (l.getD h p0) (l.getD a p0)
    have hlt2 : ltP l h a = true ↔ cmpI (l.getD h p0).1 (l.getD a p0).1 < 0 := by rw [cmp_lt]; exact decide_eq_true_iff
    conv => whnf
    repeat' (first | (refine And.intro easyA ?_; conv => whnf) | (refine ifB_intro (fun hA => ?_) (fun hA => ?_) <;> (try rw [hA]) <;> (conv => whnf) <;> (first | replace hA := nrmA hA | replace hA := nrmB hA | replace hA := nrmC hA | replace hA := nrmD hA | replace hA := nrmE hA | replace hA := nrmF hA | skip) <;> (try simp only [List.length_map, cond_true, cond_false, Bool.not_eq_true', Bool.not_eq_false', beq_iff_eq, beq_eq_false_iff_ne, ne_eq] at hA)) | (rw [e3]; conv => whnf) | (refine DrawP.intro (X := ax g) (id := 5) B279_5 (by kernel_rfl) (by decide +kernel) ?_; conv => whnf) | (rw [e4]; conv => whnf) | (rw [g1]; conv => whnf) | (rw [g2]; conv => whnf) | (refine CallP.det (hc) ?_; conv => whnf) | (refine CallD.det (hc) ?_; conv => whnf) | (rw [getD_map _ _ _ _ (by assumption)]; conv => whnf))
    · rw [if_pos (hlt2.2 hA)] at hbs
      exact ⟨(h + 1, j), ⟨by show m ≤ h + 1; omega, by show h + 1 ≤ j; omega, hjb, k, by show j - (h + 1) ≤ k; omega, hbs⟩, by show j - (h + 1) < j - i; omega, ⟨⟨rfl, rfl, rfl, rfl, rfl, AV.int_eq (i64_succ (by omega)), rfl, trivial⟩, ⟨fun o h => h, trivial⟩⟩⟩
    · rw [if_neg fun hx => hA (hlt2.1 hx)] at hbs
      exact ⟨(i, h), ⟨hmi, by show i ≤ h; omega, by show h ≤ b; omega, k, by show h - i ≤ k; omega, hbs⟩, by show h - i < j - i; omega, ⟨⟨rfl, rfl, rfl, rfl, rfl, rfl, rfl, trivial⟩, ⟨fun o h => h, trivial⟩⟩⟩
  · have hij2 : i = R := by
      have h0 := of_decide_eq_false hlt
      rw [← hbs]
      cases k with
      | zero => rfl
      | succ k => rw [bsG, if_neg (by omega)]
    subst hij2
    have e3 : IntKind.i64.wrap ((i : Int) - 1) = ((i - 1 : Nat) : Int) := by rw [IntKind.wrap_i64]; omega
    conv => whnf
    refine LoopP.inv (X := ax g) (fun k : Nat => { f := [(0, mslP l), (4, .clo (.func 244) [] []), (10, .i64 i), (13, .i64 ((a + k : Nat) : Int))], h := [(9100, some (bufP (upF l a k)))] }) (fun k => k ≤ i - 1 - a) (fun k => i - 1 - a - k) 0 (Nat.zero_le _) ⟨⟨rfl, rfl, rfl, rfl, trivial⟩, ⟨fun o h => h, trivial⟩⟩ fun k hk => ?_
    have hsl := upF_len l a k
    generalize hm : upF l a k = q at *
    conv => whnf
    repeat' (first | (refine And.intro easyA ?_; conv => whnf) | (refine ifB_intro (fun hA => ?_) (fun hA => ?_) <;> (try rw [hA]) <;> (conv => whnf) <;> (first | replace hA := nrmA hA | replace hA := nrmB hA | replace hA := nrmC hA | replace hA := nrmD hA | replace hA := nrmE hA | replace hA := nrmF hA | skip) <;> (try simp only [List.length_map, cond_true, cond_false, Bool.not_eq_true', Bool.not_eq_false', beq_iff_eq, beq_eq_false_iff_ne, ne_eq] at hA)) | (rw [e3]; conv => whnf) | (rw [getD_map _ _ _ _ (by assumption)]; conv => whnf))
    · have hlt : a + k < i - 1 := by omega
      have hqm : (q.map rowF).length = l.length := by rw [List.length_map, hsl]
      have e4 := i64_succ (n := a + k) (by omega)
      have g1 := rows_getW q (a + k) (by omega)
      have g2 := rows_getW q (a + k + 1) (by omega)
      have s1 := rows_setW q (a + k) (q.getD (a + k + 1) p0) (by omega)
      have g3 := rows_getW (q.set (a + k) (q.getD (a + k + 1) p0)) (a + k + 1) (by rw [List.length_set]; omega)
      have s2 := rows_setW (q.set (a + k) (q.getD (a + k + 1) p0)) (a + k + 1) (q.getD (a + k) p0) (by rw [List.length_set]; omega)
      repeat' (first | (refine And.intro easyA ?_; conv => whnf) | (refine ifB_intro (fun hA => ?_) (fun hA => ?_) <;> (try rw [hA]) <;> (conv => whnf) <;> (first | replace hA := nrmA hA | replace hA := nrmB hA | replace hA := nrmC hA | replace hA := nrmD hA | replace hA := nrmE hA | replace hA := nrmF hA | skip) <;> (try simp only [List.length_map, cond_true, cond_false, Bool.not_eq_true', Bool.not_eq_false', beq_iff_eq, beq_eq_false_iff_ne, ne_eq] at hA)) | (refine DrawP.intro (X := ax g) (id := 11) B279_11 (by kernel_rfl) (by decide +kernel) ?_; conv => whnf) | (rw [e4]; conv => whnf) | (rw [g1]; conv => whnf) | (rw [g2]; conv => whnf) | (refine And.intro (show l.length = (q.map rowF).length by omega) ?_; conv => whnf) | (refine And.intro (show 0 + ((a + k : Nat) : Int).toNat < (q.map rowF).length by omega) ?_; conv => whnf) | (rw [s1, List.length_map, List.length_set, hsl]; conv => whnf) | (rw [s1]; conv => whnf) | (rw [g3]; conv => whnf) | (rw [s2]; conv => whnf) | (refine And.intro (by simp only [List.length_map, List.length_set, hsl] <;> omega) ?_; conv => whnf) | (rw [getD_map _ _ _ _ (by assumption)]; conv => whnf))
      exact ⟨k + 1, by omega, by omega, ⟨⟨rfl, rfl, rfl, rfl, trivial⟩, ⟨fun o h' => by rw [← h', upF, hm]; rfl, trivial⟩⟩⟩
    · have hk2 : k = i - 1 - a := by omega
      subst hk2
      refine ⟨⟨[(9100, some (bufP q))], ?_⟩⟩
      conv => whnf
      repeat' (first | (refine And.intro easyA ?_; conv => whnf) | (refine ifB_intro (fun hA => ?_) (fun hA => ?_) <;> (try rw [hA]) <;> (conv => whnf) <;> (first | replace hA := nrmA hA | replace hA := nrmB hA | replace hA := nrmC hA | replace hA := nrmD hA | replace hA := nrmE hA | replace hA := nrmF hA | skip) <;> (try simp only [List.length_map, cond_true, cond_false, Bool.not_eq_true', Bool.not_eq_false', beq_iff_eq, beq_eq_false_iff_ne, ne_eq] at hA)) | (refine And.intro ⟨fun o h => h, trivial⟩ ?_; conv => whnf) | (rw [getD_map _ _ _ _ (by assumption)]; conv => whnf))
      rw [hm]
set_option maxHeartbeats 4000000 in
theorem sym_dn (g : GP) (f : Nat) (l : List PairT) (hl : l.length < 2 ^ 40) (a m b : Nat) (h1 : a < m) (h2 : m < b) (hb : b ≤ l.length) (h0 : ¬ m - a = 1) (h : b - m = 1) : Ctr (ax g).E 279 [mslP l, .i64 a, .i64 m, .i64 b, .clo (.func 244) [] []] [(9100, some (bufP l))] (fun o => o = .ret (.tup []) [(9100, some (bufP (symF (f + 1) l a m b)))]) := by
  have e1 := i64_subN (a := m) (b := a) (by omega) (by omega)
  have e2 := i64_subN (a := b) (b := m) (by omega) (by omega)
  have hll : (l.map rowF).length = l.length := List.length_map _
  rw [symF]
  have d0 : (IntKind.i64.wrap ((m : Int) - (a : Int)) == 1) = false := by rw [e1]; simp; omega
  have d1 : (IntKind.i64.wrap ((b : Int) - (m : Int)) == 1) = true := by rw [e2, h]; rfl
  refine Ctr.body (X := ax g) _ 220 [9100] [] Tryz.func279 rfl rfl rfl rfl (by decide +kernel) rfl rfl ?_
  conv => whnf
  repeat' (first | (rw [d0]; conv => whnf) | (rw [d1]; conv => whnf) | (refine And.intro easyA ?_; conv => whnf) | (refine ifB_intro (fun hA => ?_) (fun hA => ?_) <;> (try rw [hA]) <;> (conv => whnf) <;> (first | replace hA := nrmA hA | replace hA := nrmB hA | replace hA := nrmC hA | replace hA := nrmD hA | replace hA := nrmE hA | replace hA := nrmF hA | skip) <;> (try simp only [List.length_map, cond_true, cond_false, Bool.not_eq_true', Bool.not_eq_false', beq_iff_eq, beq_eq_false_iff_ne, ne_eq] at hA)) | (rw [getD_map _ _ _ _ (by assumption)]; conv => whnf))
  rw [if_neg h0, if_pos h]
  generalize hR : bsG (fun h => !ltP l m h) (m - a) a m = R
  have hRr := bsG_range (fun h => !ltP l m h) (m - a) a m (by omega)
  rw [hR] at hRr
  refine LoopP.inv (X := ax g) (fun x : Nat × Nat => { f := [(0, mslP l), (1, .i64 a), (2, .i64 m), (3, .i64 b), (4, .clo (.func 244) [] []), (14, .i64 x.1), (15, .i64 x.2)], h := [(9100, some (bufP l))] }) (fun x => a ≤ x.1 ∧ x.1 ≤ x.2 ∧ x.2 ≤ m ∧ ∃ k, x.2 - x.1 ≤ k ∧ bsG (fun h => !ltP l m h) k x.1 x.2 = R) (fun x => x.2 - x.1) (a, m) ⟨Nat.le_refl _, by show a ≤ m; omega, Nat.le_refl _, m - a, Nat.le_refl _, hR⟩ ⟨⟨rfl, rfl, rfl, rfl, rfl, rfl, rfl, trivial⟩, ⟨fun o h => h, trivial⟩⟩ fun ⟨i, j⟩ ⟨hmi, hij, hjb, k, hk, hbs⟩ => ?_
  dsimp only at hmi hij hjb hk hbs ⊢
  conv => whnf
  refine ifB_intro (fun hlt => ?_) (fun hlt => ?_)
  · have hlt : i < j := by have h0 := of_decide_eq_true hlt; omega
    obtain ⟨k, rfl⟩ : ∃ q, k = q + 1 := ⟨k - 1, by omega⟩
    rw [bsG, if_pos hlt] at hbs
    have e3 := i64_addN (a := i) (b := j) (by omega)
    have e4 := mid_u (n := i + j) (by omega)
    generalize hh : (i + j) / 2 = h at *
    have hhi : i ≤ h ∧ h < j := by omega
    have g1 := rows_getW l m (by omega)
    have g2 := rows_getW l h (by omega)
    have hc := cmpF_ctr g (l.getD m p0) (l.getD h p0)
    have hlt2 : ltP l m h = true ↔ cmpI (l.getD m p0).1 (l.getD h p0).1 < 0 := by rw [cmp_lt]; exact decide_eq_true_iff
    conv => whnf
    repeat' (first | (refine And.intro easyA ?_; conv => whnf) | (refine ifB_intro (fun hA => ?_) (fun hA => ?_) <;> (try rw [hA]) <;> (conv => whnf) <;> (first | replace hA := nrmA hA | replace hA := nrmB hA | replace hA := nrmC hA | replace hA := nrmD hA | replace hA := nrmE hA | replace hA := nrmF hA | skip) <;> (try simp only [Bool.not_eq_true', Bool.not_eq_false'] at hA)) | (rw [e3]; conv => whnf) | (refine DrawP.intro (X := ax g) (id := 17) B279_17 (by kernel_rfl) (by decide +kernel) ?_; conv => whnf) | (rw [e4]; conv => whnf) | (rw [g1]; conv => whnf) | (rw [g2]; conv => whnf) | (refine CallP.det (hc) ?_; conv => whnf) | (refine CallD.det (hc) ?_; conv => whnf) | (rw [getD_map _ _ _ _ (by assumption)]; conv => whnf))
    · have hA : ¬ cmpI (l.getD m p0).1 (l.getD h p0).1 < 0 := by simpa using hA
      rw [if_pos (by rw [Bool.eq_false_iff.2 fun hx => hA (hlt2.1 hx)]; rfl)] at hbs
      exact ⟨(h + 1, j), ⟨by show a ≤ h + 1; omega, by show h + 1 ≤ j; omega, hjb, k, by show j - (h + 1) ≤ k; omega, hbs⟩, by show j - (h + 1) < j - i; omega, ⟨⟨rfl, rfl, rfl, rfl, rfl, AV.int_eq (i64_succ (by omega)), rfl, trivial⟩, ⟨fun o h => h, trivial⟩⟩⟩
    · have hA : cmpI (l.getD m p0).1 (l.getD h p0).1 < 0 := by simpa using hA
      rw [if_neg (by rw [hlt2.2 hA]; simp)] at hbs
      exact ⟨(i, h), ⟨hmi, by show i ≤ h; omega, by show h ≤ m; omega, k, by show h - i ≤ k; omega, hbs⟩, by show h - i < j - i; omega, ⟨⟨rfl, rfl, rfl, rfl, rfl, rfl, rfl, trivial⟩, ⟨fun o h => h, trivial⟩⟩⟩
  · have hij2 : i = R := by
      have h0 := of_decide_eq_false hlt
      rw [← hbs]
      cases k with
      | zero => rfl
      | succ k => rw [bsG, if_neg (by omega)]
    subst hij2
    conv => whnf
    refine LoopP.inv (X := ax g) (fun k : Nat => { f := [(0, mslP l), (4, .clo (.func 244) [] []), (14, .i64 i), (17, .i64 ((m - k : Nat) : Int))], h := [(9100, some (bufP (dnF l m k)))] }) (fun k => k ≤ m - i) (fun k => m - i - k) 0 (Nat.zero_le _) ⟨⟨rfl, rfl, rfl, rfl, trivial⟩, ⟨fun o h => h, trivial⟩⟩ fun k hk => ?_
    have hsl := dnF_len l m k
    generalize hm : dnF l m k = q at *
    conv => whnf
    repeat' (first | (refine And.intro easyA ?_; conv => whnf) | (refine ifB_intro (fun hA => ?_) (fun hA => ?_) <;> (try rw [hA]) <;> (conv => whnf) <;> (first | replace hA := nrmA hA | replace hA := nrmB hA | replace hA := nrmC hA | replace hA := nrmD hA | replace hA := nrmE hA | replace hA := nrmF hA | skip) <;> (try simp only [List.length_map, cond_true, cond_false, Bool.not_eq_true', Bool.not_eq_false', beq_iff_eq, beq_eq_false_iff_ne, ne_eq] at hA)) | (rw [getD_map _ _ _ _ (by assumption)]; conv => whnf))
    · have hlt : k < m - i := by omega
      have hqm : (q.map rowF).length = l.length := by rw [List.length_map, hsl]
      have e4 : IntKind.i64.wrap (((m - k : Nat) : Int) - 1) = ((m - k - 1 : Nat) : Int) := by rw [IntKind.wrap_i64]; omega
      have g1 := rows_getW q (m - k) (by omega)
      have g2 := rows_getW q (m - k - 1) (by omega)
      have s1 := rows_setW q (m - k) (q.getD (m - k - 1) p0) (by omega)
      have g3 := rows_getW (q.set (m - k) (q.getD (m - k - 1) p0)) (m - k - 1) (by rw [List.length_set]; omega)
      have s2 := rows_setW (q.set (m - k) (q.getD (m - k - 1) p0)) (m - k - 1) (q.getD (m - k) p0) (by rw [List.length_set]; omega)
      repeat' (first | (refine And.intro easyA ?_; conv => whnf) | (refine ifB_intro (fun hA => ?_) (fun hA => ?_) <;> (try rw [hA]) <;> (conv => whnf) <;> (first | replace hA := nrmA hA | replace hA := nrmB hA | replace hA := nrmC hA | replace hA := nrmD hA | replace hA := nrmE hA | replace hA := nrmF hA | skip) <;> (try simp only [List.length_map, cond_true, cond_false, Bool.not_eq_true', Bool.not_eq_false', beq_iff_eq, beq_eq_false_iff_ne, ne_eq] at hA)) | (refine DrawP.intro (X := ax g) (id := 23) B279_23 (by kernel_rfl) (by decide +kernel) ?_; conv => whnf) | (rw [e4]; conv => whnf) | (rw [g1]; conv => whnf) | (rw [g2]; conv => whnf) | (refine And.intro (show l.length = (q.map rowF).length by omega) ?_; conv => whnf) | (refine And.intro (show 0 + ((m - k : Nat) : Int).toNat < (q.map rowF).length by omega) ?_; conv => whnf) | (rw [s1, List.length_map, List.length_set, hsl]; conv => whnf) | (rw [s1]; conv => whnf) | (rw [g3]; conv => whnf) | (rw [s2]; conv => whnf) | (refine And.intro (by simp only [List.length_map, List.length_set, hsl] <;> omega) ?_; conv => whnf) | (rw [getD_map _ _ _ _ (by assumption)]; conv => whnf))
      exact ⟨k + 1, by omega, by omega, ⟨⟨rfl, rfl, rfl, AV.int_eq (by omega), trivial⟩, ⟨fun o h' => by rw [← h', dnF, hm]; rfl, trivial⟩⟩⟩
    · have hk2 : k = m - i := by omega
      subst hk2
      refine ⟨⟨[(9100, some (bufP q))], ?_⟩⟩
      conv => whnf
      repeat' (first | (refine And.intro easyA ?_; conv => whnf) | (refine ifB_intro (fun hA => ?_) (fun hA => ?_) <;> (try rw [hA]) <;> (conv => whnf) <;> (first | replace hA := nrmA hA | replace hA := nrmB hA | replace hA := nrmC hA | replace hA := nrmD hA | replace hA := nrmE hA | replace hA := nrmF hA | skip) <;> (try simp only [List.length_map, cond_true, cond_false, Bool.not_eq_true', Bool.not_eq_false', beq_iff_eq, beq_eq_false_iff_ne, ne_eq] at hA)) | (refine And.intro ⟨fun o h => h, trivial⟩ ?_; conv => whnf) | (rw [getD_map _ _ _ _ (by assumption)]; conv => whnf))
      rw [hm]
end Go.Ax

namespace Go.Ax
open Go.Proofs
set_option maxRecDepth 10000
set_option maxHeartbeats 4000000 in
theorem sym_hi (g : GP) (f : Nat) (ih : ∀ (l : List PairT), l.length < 2 ^ 40 → ∀ (a m b : Nat), a < m → m < b → b ≤ l.length → b - a ≤ f → Ctr (ax g).E 279 [mslP l, .i64 a, .i64 m, .i64 b, .clo (.func 244) [] []] [(9100, some (bufP l))] (fun o => o = .ret (.tup []) [(9100, some (bufP (symF f l a m b)))])) (l : List PairT) (hl : l.length < 2 ^ 40) (a m b : Nat) (h1 : a < m) (h2 : m < b) (hb : b ≤ l.length) (hf : b - a ≤ f + 1) (h0 : ¬ m - a = 1) (h : ¬ b - m = 1) (hx : (a + b) / 2 < m) : Ctr (ax g).E 279 [mslP l, .i64 a, .i64 m, .i64 b, .clo (.func 244) [] []] [(9100, some (bufP l))] (fun o => o = .ret (.tup []) [(9100, some (bufP (symF (f + 1) l a m b)))]) := by
  have e1 := i64_subN (a := m) (b := a) (by omega) (by omega)
  have e2 := i64_subN (a := b) (b := m) (by omega) (by omega)
  have hll : (l.map rowF).length = l.length := List.length_map _
  have e3 := i64_addN (a := a) (b := b) (by omega)
  have e4 := mid_u (n := a + b) (by omega)
  have d0 : (IntKind.i64.wrap ((m : Int) - (a : Int)) == 1) = false := by rw [e1]; simp; omega
  have d1 : (IntKind.i64.wrap ((b : Int) - (m : Int)) == 1) = false := by rw [e2]; simp; omega
  have d2 : decide (IntKind.i64.wrap ((IntKind.u64.wrap (IntKind.i64.wrap ((a : Int) + (b : Int)))).fdiv (2 ^ min (Int.toNat 1) IntKind.u64.bits)) < (m : Int)) = true := by rw [e3, e4]; simp; omega
  rw [symF, if_neg h0, if_neg h]
  dsimp only
  refine Ctr.body (X := ax g) _ 220 [9100] [] Tryz.func279 rfl rfl rfl rfl (by decide +kernel) rfl rfl ?_
  conv => whnf
  repeat' (first | (rw [d0]; conv => whnf) | (rw [d1]; conv => whnf) | (rw [d2]; conv => whnf) | (refine And.intro easyA ?_; conv => whnf) | (refine ifB_intro (fun hA => ?_) (fun hA => ?_) <;> (try rw [hA]) <;> (conv => whnf) <;> (first | replace hA := nrmA hA | replace hA := nrmB hA | replace hA := nrmC hA | replace hA := nrmD hA | replace hA := nrmE hA | replace hA := nrmF hA | skip) <;> (try simp only [List.length_map, cond_true, cond_false, Bool.not_eq_true', Bool.not_eq_false', beq_iff_eq, beq_eq_false_iff_ne, ne_eq] at hA)) | (rw [getD_map _ _ _ _ (by assumption)]; conv => whnf))
  clear d2
  generalize hd : (a + b) / 2 = d at *
  have e5 := i64_addN (a := d) (b := m) (by omega)
  have e8 := i64_subN (a := d + m) (b := b) (by omega) (by omega)
  have hst : stS l a m b = d + m - b := by unfold stS; simp only [hd]; first | rw [if_pos (by omega)] | rw [if_neg (by omega)]
  have hrr : rS a m b = d := by unfold rS; simp only [hd]; first | rw [if_pos (by omega)] | rw [if_neg (by omega)]
  have hfun : (fun c => !ltP l ((a + b) / 2 + m - 1 - c) c) = (fun c => !ltP l (d + m - 1 - c) c) := by rw [hd]
  generalize hR : stF l a m b = st
  have hR0 : bsG (fun c => !ltP l (d + m - 1 - c) c) (d - (d + m - b)) (d + m - b) (d) = st := by rw [← hR, stF, hst, hrr, hfun]
  have hRr := bsG_range (fun c => !ltP l (d + m - 1 - c) c) (d - (d + m - b)) (d + m - b) (d) (by omega)
  rw [hR0] at hRr
  have e6 : IntKind.i64.wrap (((d + m : Nat) : Int) - 1) = ((d + m - 1 : Nat) : Int) := by rw [IntKind.wrap_i64]; omega
  refine LoopP.inv (X := ax g) (fun x : Nat × Nat => { f := [(0, mslP l), (1, .i64 a), (2, .i64 m), (3, .i64 b), (4, .clo (.func 244) [] []), (18, .i64 d), (19, .i64 ((d + m : Nat) : Int)), (20, .i64 x.1), (21, .i64 x.2), (22, .i64 ((d + m - 1 : Nat) : Int))], h := [(9100, some (bufP l))] }) (fun x => d + m - b ≤ x.1 ∧ x.1 ≤ x.2 ∧ x.2 ≤ d ∧ ∃ k, x.2 - x.1 ≤ k ∧ bsG (fun c => !ltP l (d + m - 1 - c) c) k x.1 x.2 = st) (fun x => x.2 - x.1) (d + m - b, d) ⟨Nat.le_refl _, by show d + m - b ≤ d; omega, Nat.le_refl _, d - (d + m - b), Nat.le_refl _, hR0⟩ ⟨⟨rfl, rfl, rfl, rfl, rfl, AV.int_eq (by first | rfl | simp only [e3, e4]), AV.int_eq (by first | rfl | simp only [e3, e4, e5]), AV.int_eq (by first | rfl | simp only [e3, e4, e5, e8]), AV.int_eq (by first | rfl | simp only [e3, e4]), AV.int_eq (by first | rfl | simp only [e3, e4, e5, e6]), trivial⟩, ⟨fun o h => h, trivial⟩⟩ fun ⟨i, j⟩ ⟨hmi, hij, hjb, k, hk, hbs⟩ => ?_
  dsimp only at hmi hij hjb hk hbs ⊢
  conv => whnf
  refine ifB_intro (fun hlt => ?_) (fun hlt => ?_)
  · have hlt : i < j := by have h0 := of_decide_eq_true hlt; omega
    obtain ⟨k, rfl⟩ : ∃ q, k = q + 1 := ⟨k - 1, by omega⟩
    rw [bsG, if_pos hlt] at hbs
    have e7 := i64_addN (a := i) (b := j) (by omega)
    have e8 := mid_u (n := i + j) (by omega)
    generalize hh : (i + j) / 2 = c at *
    have hhi : i ≤ c ∧ c < j := by omega
    have e9 := i64_subN (a := d + m - 1) (b := c) (by omega) (by omega)
    have g1 := rows_getW l (d + m - 1 - c) (by omega)
    have g2 := rows_getW l c (by omega)
    have hc := cmpF_ctr g (l.getD (d + m - 1 - c) p0) (l.getD c p0)
    have hlt2 : ltP l (d + m - 1 - c) c = true ↔ cmpI (l.getD (d + m - 1 - c) p0).1 (l.getD c p0).1 < 0 := by rw [cmp_lt]; exact decide_eq_true_iff
    conv => whnf
    repeat' (first | (refine And.intro easyA ?_; conv => whnf) | (refine ifB_intro (fun hA => ?_) (fun hA => ?_) <;> (try rw [hA]) <;> (conv => whnf) <;> (first | replace hA := nrmA hA | replace hA := nrmB hA | replace hA := nrmC hA | replace hA := nrmD hA | replace hA := nrmE hA | replace hA := nrmF hA | skip) <;> (try simp only [Bool.not_eq_true', Bool.not_eq_false'] at hA)) | (rw [e7]; conv => whnf) | (refine DrawP.intro (X := ax g) (id := 35) B279_35 (by kernel_rfl) (by decide +kernel) ?_; conv => whnf) | (rw [e8]; conv => whnf) | (rw [e9]; conv => whnf) | (rw [g1]; conv => whnf) | (rw [g2]; conv => whnf) | (refine CallP.det (hc) ?_; conv => whnf) | (refine CallD.det (hc) ?_; conv => whnf) | (rw [getD_map _ _ _ _ (by assumption)]; conv => whnf))
    · have hA : ¬ cmpI (l.getD (d + m - 1 - c) p0).1 (l.getD c p0).1 < 0 := by simpa using hA
      rw [if_pos (by rw [Bool.eq_false_iff.2 fun hx => hA (hlt2.1 hx)]; rfl)] at hbs
      exact ⟨(c + 1, j), ⟨by show d + m - b ≤ c + 1; omega, by show c + 1 ≤ j; omega, hjb, k, by show j - (c + 1) ≤ k; omega, hbs⟩, by show j - (c + 1) < j - i; omega, ⟨⟨rfl, rfl, rfl, rfl, rfl, rfl, rfl, AV.int_eq (i64_succ (by omega)), rfl, rfl, trivial⟩, ⟨fun o h => h, trivial⟩⟩⟩
    · have hA : cmpI (l.getD (d + m - 1 - c) p0).1 (l.getD c p0).1 < 0 := by simpa using hA
      rw [if_neg (by rw [hlt2.2 hA]; simp)] at hbs
      exact ⟨(i, c), ⟨hmi, by show i ≤ c; omega, by show c ≤ d; omega, k, by show c - i ≤ k; omega, hbs⟩, by show c - i < j - i; omega, ⟨⟨rfl, rfl, rfl, rfl, rfl, rfl, rfl, rfl, rfl, rfl, trivial⟩, ⟨fun o h => h, trivial⟩⟩⟩
  · have hij2 : i = st := by
      have h0 := of_decide_eq_false hlt
      rw [← hbs]
      cases k with
      | zero => rfl
      | succ k => rw [bsG, if_neg (by omega)]
    subst hij2
    have e7 := i64_subN (a := d + m) (b := i) (by omega) (by omega)
    generalize hen : d + m - i = en at *
    clear hbs hR0 hR hk
    have hbnd : en ≤ b ∧ d < b ∧ a < d ∧ i ≤ m := by omega
    obtain ⟨l1, hl1, hn1⟩ : ∃ l1, (if i < m ∧ m < en then rotF l i m en else l) = l1 ∧ l1.length = l.length := ⟨_, rfl, by split; exact rotF_len _ _ _ _; rfl⟩
    rw [hl1]
    obtain ⟨l2, hl2, hn2⟩ : ∃ l2, (if a < i ∧ i < d then symF f l1 a i d else l1) = l2 ∧ l2.length = l.length := ⟨_, rfl, by split; exact (symF_len _ _ _ _ _).trans hn1; exact hn1⟩
    rw [hl2]
    obtain ⟨l3, hl3, hn3⟩ : ∃ l3, (if d < en ∧ en < b then symF f l2 d en b else l2) = l3 ∧ l3.length = l.length := ⟨_, rfl, by split; exact (symF_len _ _ _ _ _).trans hn2; exact hn2⟩
    rw [hl3]
    have k1 : i < m ∧ m < en → Ctr (ax g).E 282 [.msl 9100 l.length 0 l.length, .i64 i, .i64 m, .i64 en, .clo (.func 244) [] []] [(9100, some (bufP l))] (fun o => o = .ret (.tup []) [(9100, some (bufP l1))]) := fun c => by
      rw [if_pos c] at hl1
      rw [← hl1]; exact rotate_ctr g l hl i m en c.1 c.2 (by omega)
    have k2 : a < i ∧ i < d → Ctr (ax g).E 279 [.msl 9100 l.length 0 l.length, .i64 a, .i64 i, .i64 d, .clo (.func 244) [] []] [(9100, some (bufP l1))] (fun o => o = .ret (.tup []) [(9100, some (bufP l2))]) := fun c => by
      rw [if_pos c] at hl2
      rw [← hl2, ← hn1]; exact ih l1 (by omega) a i d c.1 c.2 (by omega) (by omega)
    have k3 : d < en ∧ en < b → Ctr (ax g).E 279 [.msl 9100 l.length 0 l.length, .i64 d, .i64 en, .i64 b, .clo (.func 244) [] []] [(9100, some (bufP l2))] (fun o => o = .ret (.tup []) [(9100, some (bufP l3))]) := fun c => by
      rw [if_pos c] at hl3
      rw [← hl3, ← hn2]; exact ih l2 (by omega) d en b c.1 c.2 (by omega) (by omega)
    clear ih e1 e2 e3 e4 e5 e6 d0 d1 hst hrr hfun
    conv => whnf
    by_cases c1 : i < m ∧ m < en
    · have K1 := k1 c1
      have d1a : decide ((i : Int) < (m : Int)) = true := decide_eq_true (by omega)
      have d1b : decide ((m : Int) < IntKind.i64.wrap (((d + m : Nat) : Int) - (i : Int))) = true := decide_eq_true (by rw [e7]; omega)
      by_cases c2 : a < i ∧ i < d
      · have K2 := k2 c2
        have d2a : decide ((a : Int) < (i : Int)) = true := decide_eq_true (by omega)
        have d2b : decide ((i : Int) < (d : Int)) = true := decide_eq_true (by omega)
        by_cases c3 : d < en ∧ en < b
        · have K3 := k3 c3
          have d3a : decide ((d : Int) < IntKind.i64.wrap (((d + m : Nat) : Int) - (i : Int))) = true := decide_eq_true (by rw [e7]; omega)
          have d3b : decide (IntKind.i64.wrap (((d + m : Nat) : Int) - (i : Int)) < (b : Int)) = true := decide_eq_true (by rw [e7]; omega)
          repeat' (first | (rw [d1a]; conv => whnf) | (rw [d1b]; conv => whnf) | (rw [d2a]; conv => whnf) | (rw [d2b]; conv => whnf) | (rw [d3a]; conv => whnf) | (rw [d3b]; conv => whnf) | (refine And.intro easyA ?_; conv => whnf) | (refine ifB_intro (fun hA => ?_) (fun hA => ?_) <;> (try rw [hA]) <;> (conv => whnf) <;> (first | replace hA := nrmA hA | replace hA := nrmB hA | replace hA := nrmC hA | replace hA := nrmD hA | replace hA := nrmE hA | replace hA := nrmF hA | skip) <;> (try simp only [List.length_map, cond_true, cond_false, Bool.not_eq_true', Bool.not_eq_false', beq_iff_eq, beq_eq_false_iff_ne, ne_eq] at hA)) | (rw [e7]; conv => whnf) | (refine CallP.upd rfl (K1) ?_; conv => whnf) | (refine CallD.upd rfl (K1) ?_; conv => whnf) | (refine CallP.upd rfl (K2) ?_; conv => whnf) | (refine CallD.upd rfl (K2) ?_; conv => whnf) | (refine CallP.upd rfl (K3) ?_; conv => whnf) | (refine CallD.upd rfl (K3) ?_; conv => whnf) | (rw [getD_map _ _ _ _ (by assumption)]; conv => whnf))
          all_goals first
            | (refine ⟨⟨[(9100, some (bufP l3))], ?_⟩⟩
               conv => whnf
               repeat' (first | (refine And.intro easyA ?_; conv => whnf) | (refine ifB_intro (fun hA => ?_) (fun hA => ?_) <;> (try rw [hA]) <;> (conv => whnf) <;> (first | replace hA := nrmA hA | replace hA := nrmB hA | replace hA := nrmC hA | replace hA := nrmD hA | replace hA := nrmE hA | replace hA := nrmF hA | skip) <;> (try simp only [List.length_map, cond_true, cond_false, Bool.not_eq_true', Bool.not_eq_false', beq_iff_eq, beq_eq_false_iff_ne, ne_eq] at hA)) | (refine And.intro ⟨fun o h => h, trivial⟩ ?_; conv => whnf) | (rw [getD_map _ _ _ _ (by assumption)]; conv => whnf))
               all_goals first | rfl | (rw [← hl3])
               done)
            | (exfalso; omega)
        · rw [if_neg c3] at hl3
          repeat' (first | (rw [d1a]; conv => whnf) | (rw [d1b]; conv => whnf) | (rw [d2a]; conv => whnf) | (rw [d2b]; conv => whnf) | (refine And.intro easyA ?_; conv => whnf) | (refine ifB_intro (fun hA => ?_) (fun hA => ?_) <;> (try rw [hA]) <;> (conv => whnf) <;> (first | replace hA := nrmA hA | replace hA := nrmB hA | replace hA := nrmC hA | replace hA := nrmD hA | replace hA := nrmE hA | replace hA := nrmF hA | skip) <;> (try simp only [List.length_map, cond_true, cond_false, Bool.not_eq_true', Bool.not_eq_false', beq_iff_eq, beq_eq_false_iff_ne, ne_eq] at hA)) | (rw [e7]; conv => whnf) | (refine CallP.upd rfl (K1) ?_; conv => whnf) | (refine CallD.upd rfl (K1) ?_; conv => whnf) | (refine CallP.upd rfl (K2) ?_; conv => whnf) | (refine CallD.upd rfl (K2) ?_; conv => whnf) | (rw [getD_map _ _ _ _ (by assumption)]; conv => whnf))
          all_goals first
            | (refine ⟨⟨[(9100, some (bufP l2))], ?_⟩⟩
               conv => whnf
               repeat' (first | (refine And.intro easyA ?_; conv => whnf) | (refine ifB_intro (fun hA => ?_) (fun hA => ?_) <;> (try rw [hA]) <;> (conv => whnf) <;> (first | replace hA := nrmA hA | replace hA := nrmB hA | replace hA := nrmC hA | replace hA := nrmD hA | replace hA := nrmE hA | replace hA := nrmF hA | skip) <;> (try simp only [List.length_map, cond_true, cond_false, Bool.not_eq_true', Bool.not_eq_false', beq_iff_eq, beq_eq_false_iff_ne, ne_eq] at hA)) | (refine And.intro ⟨fun o h => h, trivial⟩ ?_; conv => whnf) | (rw [getD_map _ _ _ _ (by assumption)]; conv => whnf))
               all_goals first | rfl | (rw [← hl3])
               done)
            | (exfalso; omega)
      · rw [if_neg c2] at hl2
        subst hl2
        by_cases c3 : d < en ∧ en < b
        · have K3 := k3 c3
          have d3a : decide ((d : Int) < IntKind.i64.wrap (((d + m : Nat) : Int) - (i : Int))) = true := decide_eq_true (by rw [e7]; omega)
          have d3b : decide (IntKind.i64.wrap (((d + m : Nat) : Int) - (i : Int)) < (b : Int)) = true := decide_eq_true (by rw [e7]; omega)
          repeat' (first | (rw [d1a]; conv => whnf) | (rw [d1b]; conv => whnf) | (rw [d3a]; conv => whnf) | (rw [d3b]; conv => whnf) | (refine And.intro easyA ?_; conv => whnf) | (refine ifB_intro (fun hA => ?_) (fun hA => ?_) <;> (try rw [hA]) <;> (conv => whnf) <;> (first | replace hA := nrmA hA | replace hA := nrmB hA | replace hA := nrmC hA | replace hA := nrmD hA | replace hA := nrmE hA | replace hA := nrmF hA | skip) <;> (try simp only [List.length_map, cond_true, cond_false, Bool.not_eq_true', Bool.not_eq_false', beq_iff_eq, beq_eq_false_iff_ne, ne_eq] at hA)) | (rw [e7]; conv => whnf) | (refine CallP.upd rfl (K1) ?_; conv => whnf) | (refine CallD.upd rfl (K1) ?_; conv => whnf) | (refine CallP.upd rfl (K3) ?_; conv => whnf) | (refine CallD.upd rfl (K3) ?_; conv => whnf) | (rw [getD_map _ _ _ _ (by assumption)]; conv => whnf))
          all_goals first
            | (refine ⟨⟨[(9100, some (bufP l3))], ?_⟩⟩
               conv => whnf
               repeat' (first | (refine And.intro easyA ?_; conv => whnf) | (refine ifB_intro (fun hA => ?_) (fun hA => ?_) <;> (try rw [hA]) <;> (conv => whnf) <;> (first | replace hA := nrmA hA | replace hA := nrmB hA | replace hA := nrmC hA | replace hA := nrmD hA | replace hA := nrmE hA | replace hA := nrmF hA | skip) <;> (try simp only [List.length_map, cond_true, cond_false, Bool.not_eq_true', Bool.not_eq_false', beq_iff_eq, beq_eq_false_iff_ne, ne_eq] at hA)) | (refine And.intro ⟨fun o h => h, trivial⟩ ?_; conv => whnf) | (rw [getD_map _ _ _ _ (by assumption)]; conv => whnf))
               all_goals first | rfl | (rw [← hl3])
               done)
            | (exfalso; omega)
        · rw [if_neg c3] at hl3
          repeat' (first | (rw [d1a]; conv => whnf) | (rw [d1b]; conv => whnf) | (refine And.intro easyA ?_; conv => whnf) | (refine ifB_intro (fun hA => ?_) (fun hA => ?_) <;> (try rw [hA]) <;> (conv => whnf) <;> (first | replace hA := nrmA hA | replace hA := nrmB hA | replace hA := nrmC hA | replace hA := nrmD hA | replace hA := nrmE hA | replace hA := nrmF hA | skip) <;> (try simp only [List.length_map, cond_true, cond_false, Bool.not_eq_true', Bool.not_eq_false', beq_iff_eq, beq_eq_false_iff_ne, ne_eq] at hA)) | (rw [e7]; conv => whnf) | (refine CallP.upd rfl (K1) ?_; conv => whnf) | (refine CallD.upd rfl (K1) ?_; conv => whnf) | (rw [getD_map _ _ _ _ (by assumption)]; conv => whnf))
          all_goals first
            | (refine ⟨⟨[(9100, some (bufP l1))], ?_⟩⟩
               conv => whnf
               repeat' (first | (refine And.intro easyA ?_; conv => whnf) | (refine ifB_intro (fun hA => ?_) (fun hA => ?_) <;> (try rw [hA]) <;> (conv => whnf) <;> (first | replace hA := nrmA hA | replace hA := nrmB hA | replace hA := nrmC hA | replace hA := nrmD hA | replace hA := nrmE hA | replace hA := nrmF hA | skip) <;> (try simp only [List.length_map, cond_true, cond_false, Bool.not_eq_true', Bool.not_eq_false', beq_iff_eq, beq_eq_false_iff_ne, ne_eq] at hA)) | (refine And.intro ⟨fun o h => h, trivial⟩ ?_; conv => whnf) | (rw [getD_map _ _ _ _ (by assumption)]; conv => whnf))
               all_goals first | rfl | (rw [← hl3])
               done)
            | (exfalso; omega)
    · rw [if_neg c1] at hl1
      subst hl1
      by_cases c2 : a < i ∧ i < d
      · have K2 := k2 c2
        have d2a : decide ((a : Int) < (i : Int)) = true := decide_eq_true (by omega)
        have d2b : decide ((i : Int) < (d : Int)) = true := decide_eq_true (by omega)
        by_cases c3 : d < en ∧ en < b
        · have K3 := k3 c3
          have d3a : decide ((d : Int) < IntKind.i64.wrap (((d + m : Nat) : Int) - (i : Int))) = true := decide_eq_true (by rw [e7]; omega)
          have d3b : decide (IntKind.i64.wrap (((d + m : Nat) : Int) - (i : Int)) < (b : Int)) = true := decide_eq_true (by rw [e7]; omega)
          repeat' (first | (rw [d2a]; conv => whnf) | (rw [d2b]; conv => whnf) | (rw [d3a]; conv => whnf) | (rw [d3b]; conv => whnf) | (refine And.intro easyA ?_; conv => whnf) | (refine ifB_intro (fun hA => ?_) (fun hA => ?_) <;> (try rw [hA]) <;> (conv => whnf) <;> (first | replace hA := nrmA hA | replace hA := nrmB hA | replace hA := nrmC hA | replace hA := nrmD hA | replace hA := nrmE hA | replace hA := nrmF hA | skip) <;> (try simp only [List.length_map, cond_true, cond_false, Bool.not_eq_true', Bool.not_eq_false', beq_iff_eq, beq_eq_false_iff_ne, ne_eq] at hA)) | (rw [e7]; conv => whnf) | (refine CallP.upd rfl (K2) ?_; conv => whnf) | (refine CallD.upd rfl (K2) ?_; conv => whnf) | (refine CallP.upd rfl (K3) ?_; conv => whnf) | (refine CallD.upd rfl (K3) ?_; conv => whnf) | (rw [getD_map _ _ _ _ (by assumption)]; conv => whnf))
          all_goals first
            | (refine ⟨⟨[(9100, some (bufP l3))], ?_⟩⟩
               conv => whnf
               repeat' (first | (refine And.intro easyA ?_; conv => whnf) | (refine ifB_intro (fun hA => ?_) (fun hA => ?_) <;> (try rw [hA]) <;> (conv => whnf) <;> (first | replace hA := nrmA hA | replace hA := nrmB hA | replace hA := nrmC hA | replace hA := nrmD hA | replace hA := nrmE hA | replace hA := nrmF hA | skip) <;> (try simp only [List.length_map, cond_true, cond_false, Bool.not_eq_true', Bool.not_eq_false', beq_iff_eq, beq_eq_false_iff_ne, ne_eq] at hA)) | (refine And.intro ⟨fun o h => h, trivial⟩ ?_; conv => whnf) | (rw [getD_map _ _ _ _ (by assumption)]; conv => whnf))
               all_goals first | rfl | (rw [← hl3])
               done)
            | (exfalso; omega)
        · rw [if_neg c3] at hl3
          repeat' (first | (rw [d2a]; conv => whnf) | (rw [d2b]; conv => whnf) | (refine And.intro easyA ?_; conv => whnf) | (refine ifB_intro (fun hA => ?_) (fun hA => ?_) <;> (try rw [hA]) <;> (conv => whnf) <;> (first | replace hA := nrmA hA | replace hA := nrmB hA | replace hA := nrmC hA | replace hA := nrmD hA | replace hA := nrmE hA | replace hA := nrmF hA | skip) <;> (try simp only [List.length_map, cond_true, cond_false, Bool.not_eq_true', Bool.not_eq_false', beq_iff_eq, beq_eq_false_iff_ne, ne_eq] at hA)) | (rw [e7]; conv => whnf) | (refine CallP.upd rfl (K2) ?_; conv => whnf) | (refine CallD.upd rfl (K2) ?_; conv => whnf) | (rw [getD_map _ _ _ _ (by assumption)]; conv => whnf))
          all_goals first
            | (refine ⟨⟨[(9100, some (bufP l2))], ?_⟩⟩
               conv => whnf
               repeat' (first | (refine And.intro easyA ?_; conv => whnf) | (refine ifB_intro (fun hA => ?_) (fun hA => ?_) <;> (try rw [hA]) <;> (conv => whnf) <;> (first | replace hA := nrmA hA | replace hA := nrmB hA | replace hA := nrmC hA | replace hA := nrmD hA | replace hA := nrmE hA | replace hA := nrmF hA | skip) <;> (try simp only [List.length_map, cond_true, cond_false, Bool.not_eq_true', Bool.not_eq_false', beq_iff_eq, beq_eq_false_iff_ne, ne_eq] at hA)) | (refine And.intro ⟨fun o h => h, trivial⟩ ?_; conv => whnf) | (rw [getD_map _ _ _ _ (by assumption)]; conv => whnf))
               all_goals first | rfl | (rw [← hl3])
               done)
            | (exfalso; omega)
      · rw [if_neg c2] at hl2
        subst hl2
        by_cases c3 : d < en ∧ en < b
        · have K3 := k3 c3
          have d3a : decide ((d : Int) < IntKind.i64.wrap (((d + m : Nat) : Int) - (i : Int))) = true := decide_eq_true (by rw [e7]; omega)
          have d3b : decide (IntKind.i64.wrap (((d + m : Nat) : Int) - (i : Int)) < (b : Int)) = true := decide_eq_true (by rw [e7]; omega)
          repeat' (first | (rw [d3a]; conv => whnf) | (rw [d3b]; conv => whnf) | (refine And.intro easyA ?_; conv => whnf) | (refine ifB_intro (fun hA => ?_) (fun hA => ?_) <;> (try rw [hA]) <;> (conv => whnf) <;> (first | replace hA := nrmA hA | replace hA := nrmB hA | replace hA := nrmC hA | replace hA := nrmD hA | replace hA := nrmE hA | replace hA := nrmF hA | skip) <;> (try simp only [List.length_map, cond_true, cond_false, Bool.not_eq_true', Bool.not_eq_false', beq_iff_eq, beq_eq_false_iff_ne, ne_eq] at hA)) | (rw [e7]; conv => whnf) | (refine CallP.upd rfl (K3) ?_; conv => whnf) | (refine CallD.upd rfl (K3) ?_; conv => whnf) | (rw [getD_map _ _ _ _ (by assumption)]; conv => whnf))
          all_goals first
            | (refine ⟨⟨[(9100, some (bufP l3))], ?_⟩⟩
               conv => whnf
               repeat' (first | (refine And.intro easyA ?_; conv => whnf) | (refine ifB_intro (fun hA => ?_) (fun hA => ?_) <;> (try rw [hA]) <;> (conv => whnf) <;> (first | replace hA := nrmA hA | replace hA := nrmB hA | replace hA := nrmC hA | replace hA := nrmD hA | replace hA := nrmE hA | replace hA := nrmF hA | skip) <;> (try simp only [List.length_map, cond_true, cond_false, Bool.not_eq_true', Bool.not_eq_false', beq_iff_eq, beq_eq_false_iff_ne, ne_eq] at hA)) | (refine And.intro ⟨fun o h => h, trivial⟩ ?_; conv => whnf) | (rw [getD_map _ _ _ _ (by assumption)]; conv => whnf))
               all_goals first | rfl | (rw [← hl3])
               done)
            | (exfalso; omega)
        · rw [if_neg c3] at hl3
          repeat' (first | (refine And.intro easyA ?_; conv => whnf) | (refine ifB_intro (fun hA => ?_) (fun hA => ?_) <;> (try rw [hA]) <;> (conv => whnf) <;> (first | replace hA := nrmA hA | replace hA := nrmB hA | replace hA := nrmC hA | replace hA := nrmD hA | replace hA := nrmE hA | replace hA := nrmF hA | skip) <;> (try simp only [List.length_map, cond_true, cond_false, Bool.not_eq_true', Bool.not_eq_false', beq_iff_eq, beq_eq_false_iff_ne, ne_eq] at hA)) | (rw [e7]; conv => whnf) | (rw [getD_map _ _ _ _ (by assumption)]; conv => whnf))
          all_goals first
            | (refine ⟨⟨[(9100, some (bufP l))], ?_⟩⟩
               conv => whnf
               repeat' (first | (refine And.intro easyA ?_; conv => whnf) | (refine ifB_intro (fun hA => ?_) (fun hA => ?_) <;> (try rw [hA]) <;> (conv => whnf) <;> (first | replace hA := nrmA hA | replace hA := nrmB hA | replace hA := nrmC hA | replace hA := nrmD hA | replace hA := nrmE hA | replace hA := nrmF hA | skip) <;> (try simp only [List.length_map, cond_true, cond_false, Bool.not_eq_true', Bool.not_eq_false', beq_iff_eq, beq_eq_false_iff_ne, ne_eq] at hA)) | (refine And.intro ⟨fun o h => h, trivial⟩ ?_; conv => whnf) | (rw [getD_map _ _ _ _ (by assumption)]; conv => whnf))
               all_goals first | rfl | (rw [← hl3])
               done)
            | (exfalso; omega)
end Go.Ax

namespace Go.Ax
open Go.Proofs
set_option maxRecDepth 10000
set_option maxHeartbeats 4000000 in
theorem sym_lo (g : GP) (f : Nat) (ih : ∀ (l : List PairT), l.length < 2 ^ 40 → ∀ (a m b : Nat), a < m → m < b → b ≤ l.length → b - a ≤ f → Ctr (ax g).E 279 [mslP l, .i64 a, .i64 m, .i64 b, .clo (.func 244) [] []] [(9100, some (bufP l))] (fun o => o = .ret (.tup []) [(9100, some (bufP (symF f l a m b)))])) (l : List PairT) (hl : l.length < 2 ^ 40) (a m b : Nat) (h1 : a < m) (h2 : m < b) (hb : b ≤ l.length) (hf : b - a ≤ f + 1) (h0 : ¬ m - a = 1) (h : ¬ b - m = 1) (hx : ¬ (a + b) / 2 < m) : Ctr (ax g).E 279 [mslP l, .i64 a, .i64 m, .i64 b, .clo (.func 244) [] []] [(9100, some (bufP l))] (fun o => o = .ret (.tup []) [(9100, some (bufP (symF (f + 1) l a m b)))]) := by
  have e1 := i64_subN (a := m) (b := a) (by omega) (by omega)
  have e2 := i64_subN (a := b) (b := m) (by omega) (by omega)
  have hll : (l.map rowF).length = l.length := List.length_map _
  have e3 := i64_addN (a := a) (b := b) (by omega)
  have e4 := mid_u (n := a + b) (by omega)
  have d0 : (IntKind.i64.wrap ((m : Int) - (a : Int)) == 1) = false := by rw [e1]; simp; omega
  have d1 : (IntKind.i64.wrap ((b : Int) - (m : Int)) == 1) = false := by rw [e2]; simp; omega
  have d2 : decide (IntKind.i64.wrap ((IntKind.u64.wrap (IntKind.i64.wrap ((a : Int) + (b : Int)))).fdiv (2 ^ min (Int.toNat 1) IntKind.u64.bits)) < (m : Int)) = false := by rw [e3, e4]; simp; omega
  rw [symF, if_neg h0, if_neg h]
  dsimp only
  refine Ctr.body (X := ax g) _ 220 [9100] [] Tryz.func279 rfl rfl rfl rfl (by decide +kernel) rfl rfl ?_
  conv => whnf
  repeat' (first | (rw [d0]; conv => whnf) | (rw [d1]; conv => whnf) | (rw [d2]; conv => whnf) | (refine And.intro easyA ?_; conv => whnf) | (refine ifB_intro (fun hA => ?_) (fun hA => ?_) <;> (try rw [hA]) <;> (conv => whnf) <;> (first | replace hA := nrmA hA | replace hA := nrmB hA | replace hA := nrmC hA | replace hA := nrmD hA | replace hA := nrmE hA | replace hA := nrmF hA | skip) <;> (try simp only [List.length_map, cond_true, cond_false, Bool.not_eq_true', Bool.not_eq_false', beq_iff_eq, beq_eq_false_iff_ne, ne_eq] at hA)) | (rw [getD_map _ _ _ _ (by assumption)]; conv => whnf))
  clear d2
  generalize hd : (a + b) / 2 = d at *
  have e5 := i64_addN (a := d) (b := m) (by omega)
  have hst : stS l a m b = a := by unfold stS; simp only [hd]; first | rw [if_pos (by omega)] | rw [if_neg (by omega)]
  have hrr : rS a m b = m := by unfold rS; simp only [hd]; first | rw [if_pos (by omega)] | rw [if_neg (by omega)]
  have hfun : (fun c => !ltP l ((a + b) / 2 + m - 1 - c) c) = (fun c => !ltP l (d + m - 1 - c) c) := by rw [hd]
  generalize hR : stF l a m b = st
  have hR0 : bsG (fun c => !ltP l (d + m - 1 - c) c) (m - (a)) (a) (m) = st := by rw [← hR, stF, hst, hrr, hfun]
  have hRr := bsG_range (fun c => !ltP l (d + m - 1 - c) c) (m - (a)) (a) (m) (by omega)
  rw [hR0] at hRr
  have e6 : IntKind.i64.wrap (((d + m : Nat) : Int) - 1) = ((d + m - 1 : Nat) : Int) := by rw [IntKind.wrap_i64]; omega
  refine LoopP.inv (X := ax g) (fun x : Nat × Nat => { f := [(0, mslP l), (1, .i64 a), (2, .i64 m), (3, .i64 b), (4, .clo (.func 244) [] []), (18, .i64 d), (19, .i64 ((d + m : Nat) : Int)), (20, .i64 x.1), (21, .i64 x.2), (22, .i64 ((d + m - 1 : Nat) : Int))], h := [(9100, some (bufP l))] }) (fun x => a ≤ x.1 ∧ x.1 ≤ x.2 ∧ x.2 ≤ m ∧ ∃ k, x.2 - x.1 ≤ k ∧ bsG (fun c => !ltP l (d + m - 1 - c) c) k x.1 x.2 = st) (fun x => x.2 - x.1) (a, m) ⟨Nat.le_refl _, by show a ≤ m; omega, Nat.le_refl _, m - (a), Nat.le_refl _, hR0⟩ ⟨⟨rfl, rfl, rfl, rfl, rfl, AV.int_eq (by first | rfl | simp only [e3, e4]), AV.int_eq (by first | rfl | simp only [e3, e4, e5]), AV.int_eq (by first | rfl | simp only [e3, e4, e5, e6]), AV.int_eq (by first | rfl | simp only [e3, e4, e5, e6]), AV.int_eq (by first | rfl | simp only [e3, e4, e5, e6]), trivial⟩, ⟨fun o h => h, trivial⟩⟩ fun ⟨i, j⟩ ⟨hmi, hij, hjb, k, hk, hbs⟩ => ?_
  dsimp only at hmi hij hjb hk hbs ⊢
  conv => whnf
  refine ifB_intro (fun hlt => ?_) (fun hlt => ?_)
  · have hlt : i < j := by have h0 := of_decide_eq_true hlt; omega
    obtain ⟨k, rfl⟩ : ∃ q, k = q + 1 := ⟨k - 1, by omega⟩
    rw [bsG, if_pos hlt] at hbs
    have e7 := i64_addN (a := i) (b := j) (by omega)
    have e8 := mid_u (n := i + j) (by omega)
    generalize hh : (i + j) / 2 = c at *
    have hhi : i ≤ c ∧ c < j := by omega
    have e9 := i64_subN (a := d + m - 1) (b := c) (by omega) (by omega)
    have g1 := rows_getW l (d + m - 1 - c) (by omega)
    have g2 := rows_getW l c (by omega)
    have hc := cmpF_ctr g (l.getD (d + m - 1 - c) p0) (l.getD c p0)
    have hlt2 : ltP l (d + m - 1 - c) c = true ↔ cmpI (l.getD (d + m - 1 - c) p0).1 (l.getD c p0).1 < 0 := by rw [cmp_lt]; exact decide_eq_true_iff
    conv => whnf
    repeat' (first | (refine And.intro easyA ?_; conv => whnf) | (refine ifB_intro (fun hA => ?_) (fun hA => ?_) <;> (try rw [hA]) <;> (conv => whnf) <;> (first | replace hA := nrmA hA | replace hA := nrmB hA | replace hA := nrmC hA | replace hA := nrmD hA | replace hA := nrmE hA | replace hA := nrmF hA | skip) <;> (try simp only [Bool.not_eq_true', Bool.not_eq_false'] at hA)) | (rw [e7]; conv => whnf) | (refine DrawP.intro (X := ax g) (id := 35) B279_35 (by kernel_rfl) (by decide +kernel) ?_; conv => whnf) | (rw [e8]; conv => whnf) | (rw [e9]; conv => whnf) | (rw [g1]; conv => whnf) | (rw [g2]; conv => whnf) | (refine CallP.det (hc) ?_; conv => whnf) | (refine CallD.det (hc) ?_; conv => whnf) | (rw [getD_map _ _ _ _ (by assumption)]; conv => whnf))
    · have hA : ¬ cmpI (l.getD (d + m - 1 - c) p0).1 (l.getD c p0).1 < 0 := by simpa using hA
      rw [if_pos (by rw [Bool.eq_false_iff.2 fun hx => hA (hlt2.1 hx)]; rfl)] at hbs
      exact ⟨(c + 1, j), ⟨by show a ≤ c + 1; omega, by show c + 1 ≤ j; omega, hjb, k, by show j - (c + 1) ≤ k; omega, hbs⟩, by show j - (c + 1) < j - i; omega, ⟨⟨rfl, rfl, rfl, rfl, rfl, rfl, rfl, AV.int_eq (i64_succ (by omega)), rfl, rfl, trivial⟩, ⟨fun o h => h, trivial⟩⟩⟩
    · have hA : cmpI (l.getD (d + m - 1 - c) p0).1 (l.getD c p0).1 < 0 := by simpa using hA
      rw [if_neg (by rw [hlt2.2 hA]; simp)] at hbs
      exact ⟨(i, c), ⟨hmi, by show i ≤ c; omega, by show c ≤ m; omega, k, by show c - i ≤ k; omega, hbs⟩, by show c - i < j - i; omega, ⟨⟨rfl, rfl, rfl, rfl, rfl, rfl, rfl, rfl, rfl, rfl, trivial⟩, ⟨fun o h => h, trivial⟩⟩⟩
  · have hij2 : i = st := by
      have h0 := of_decide_eq_false hlt
      rw [← hbs]
      cases k with
      | zero => rfl
      | succ k => rw [bsG, if_neg (by omega)]
    subst hij2
    have e7 := i64_subN (a := d + m) (b := i) (by omega) (by omega)
    generalize hen : d + m - i = en at *
    clear hbs hR0 hR hk
    have hbnd : en ≤ b ∧ d < b ∧ a < d ∧ i ≤ m := by omega
    obtain ⟨l1, hl1, hn1⟩ : ∃ l1, (if i < m ∧ m < en then rotF l i m en else l) = l1 ∧ l1.length = l.length := ⟨_, rfl, by split; exact rotF_len _ _ _ _; rfl⟩
    rw [hl1]
    obtain ⟨l2, hl2, hn2⟩ : ∃ l2, (if a < i ∧ i < d then symF f l1 a i d else l1) = l2 ∧ l2.length = l.length := ⟨_, rfl, by split; exact (symF_len _ _ _ _ _).trans hn1; exact hn1⟩
    rw [hl2]
    obtain ⟨l3, hl3, hn3⟩ : ∃ l3, (if d < en ∧ en < b then symF f l2 d en b else l2) = l3 ∧ l3.length = l.length := ⟨_, rfl, by split; exact (symF_len _ _ _ _ _).trans hn2; exact hn2⟩
    rw [hl3]
    have k1 : i < m ∧ m < en → Ctr (ax g).E 282 [.msl 9100 l.length 0 l.length, .i64 i, .i64 m, .i64 en, .clo (.func 244) [] []] [(9100, some (bufP l))] (fun o => o = .ret (.tup []) [(9100, some (bufP l1))]) := fun c => by
      rw [if_pos c] at hl1
      rw [← hl1]; exact rotate_ctr g l hl i m en c.1 c.2 (by omega)
    have k2 : a < i ∧ i < d → Ctr (ax g).E 279 [.msl 9100 l.length 0 l.length, .i64 a, .i64 i, .i64 d, .clo (.func 244) [] []] [(9100, some (bufP l1))] (fun o => o = .ret (.tup []) [(9100, some (bufP l2))]) := fun c => by
      rw [if_pos c] at hl2
      rw [← hl2, ← hn1]; exact ih l1 (by omega) a i d c.1 c.2 (by omega) (by omega)
    have k3 : d < en ∧ en < b → Ctr (ax g).E 279 [.msl 9100 l.length 0 l.length, .i64 d, .i64 en, .i64 b, .clo (.func 244) [] []] [(9100, some (bufP l2))] (fun o => o = .ret (.tup []) [(9100, some (bufP l3))]) := fun c => by
      rw [if_pos c] at hl3
      rw [← hl3, ← hn2]; exact ih l2 (by omega) d en b c.1 c.2 (by omega) (by omega)
    clear ih e1 e2 e3 e4 e5 e6 d0 d1 hst hrr hfun
    conv => whnf
    by_cases c1 : i < m ∧ m < en
    · have K1 := k1 c1
      have d1a : decide ((i : Int) < (m : Int)) = true := decide_eq_true (by omega)
      have d1b : decide ((m : Int) < IntKind.i64.wrap (((d + m : Nat) : Int) - (i : Int))) = true := decide_eq_true (by rw [e7]; omega)
      by_cases c2 : a < i ∧ i < d
      · have K2 := k2 c2
        have d2a : decide ((a : Int) < (i : Int)) = true := decide_eq_true (by omega)
        have d2b : decide ((i : Int) < (d : Int)) = true := decide_eq_true (by omega)
        by_cases c3 : d < en ∧ en < b
        · have K3 := k3 c3
          have d3a : decide ((d : Int) < IntKind.i64.wrap (((d + m : Nat) : Int) - (i : Int))) = true := decide_eq_true (by rw [e7]; omega)
          have d3b : decide (IntKind.i64.wrap (((d + m : Nat) : Int) - (i : Int)) < (b : Int)) = true := decide_eq_true (by rw [e7]; omega)
          repeat' (first | (rw [d1a]; conv => whnf) | (rw [d1b]; conv => whnf) | (rw [d2a]; conv => whnf) | (rw [d2b]; conv => whnf) | (rw [d3a]; conv => whnf) | (rw [d3b]; conv => whnf) | (refine And.intro easyA ?_; conv => whnf) | (refine ifB_intro (fun hA => ?_) (fun hA => ?_) <;> (try rw [hA]) <;> (conv => whnf) <;> (first | replace hA := nrmA hA | replace hA := nrmB hA | replace hA := nrmC hA | replace hA := nrmD hA | replace hA := nrmE hA | replace hA := nrmF hA | skip) <;> (try simp only [List.length_map, cond_true, cond_false, Bool.not_eq_true', Bool.not_eq_false', beq_iff_eq, beq_eq_false_iff_ne, ne_eq] at hA)) | (rw [e7]; conv => whnf) | (refine CallP.upd rfl (K1) ?_; conv => whnf) | (refine CallD.upd rfl (K1) ?_; conv => whnf) | (refine CallP.upd rfl (K2) ?_; conv => whnf) | (refine CallD.upd rfl (K2) ?_; conv => whnf) | (refine CallP.upd rfl (K3) ?_; conv => whnf) | (refine CallD.upd rfl (K3) ?_; conv => whnf) | (rw [getD_map _ _ _ _ (by assumption)]; conv => whnf))
          all_goals first
            | (refine ⟨⟨[(9100, some (bufP l3))], ?_⟩⟩
               conv => whnf
               repeat' (first | (refine And.intro easyA ?_; conv => whnf) | (refine ifB_intro (fun hA => ?_) (fun hA => ?_) <;> (try rw [hA]) <;> (conv => whnf) <;> (first | replace hA := nrmA hA | replace hA := nrmB hA | replace hA := nrmC hA | replace hA := nrmD hA | replace hA := nrmE hA | replace hA := nrmF hA | skip) <;> (try simp only [List.length_map, cond_true, cond_false, Bool.not_eq_true', Bool.not_eq_false', beq_iff_eq, beq_eq_false_iff_ne, ne_eq] at hA)) | (refine And.intro ⟨fun o h => h, trivial⟩ ?_; conv => whnf) | (rw [getD_map _ _ _ _ (by assumption)]; conv => whnf))
               all_goals first | rfl | (rw [← hl3])
               done)
            | (exfalso; omega)
        · rw [if_neg c3] at hl3
          repeat' (first | (rw [d1a]; conv => whnf) | (rw [d1b]; conv => whnf) | (rw [d2a]; conv => whnf) | (rw [d2b]; conv => whnf) | (refine And.intro easyA ?_; conv => whnf) | (refine ifB_intro (fun hA => ?_) (fun hA => ?_) <;> (try rw [hA]) <;> (conv => whnf) <;> (first | replace hA := nrmA hA | replace hA := nrmB hA | replace hA := nrmC hA | replace hA := nrmD hA | replace hA := nrmE hA | replace hA := nrmF hA | skip) <;> (try simp only [List.length_map, cond_true, cond_false, Bool.not_eq_true', Bool.not_eq_false', beq_iff_eq, beq_eq_false_iff_ne, ne_eq] at hA)) | (rw [e7]; conv => whnf) | (refine CallP.upd rfl (K1) ?_; conv => whnf) | (refine CallD.upd rfl (K1) ?_; conv => whnf) | (refine CallP.upd rfl (K2) ?_; conv => whnf) | (refine CallD.upd rfl (K2) ?_; conv => whnf) | (rw [getD_map _ _ _ _ (by assumption)]; conv => whnf))
          all_goals first
            | (refine ⟨⟨[(9100, some (bufP l2))], ?_⟩⟩
               conv => whnf
               repeat' (first | (refine And.intro easyA ?_; conv => whnf) | (refine ifB_intro (fun hA => ?_) (fun hA => ?_) <;> (try rw [hA]) <;> (conv => whnf) <;> (first | replace hA := nrmA hA | replace hA := nrmB hA | replace hA := nrmC hA | replace hA := nrmD hA | replace hA := nrmE hA | replace hA := nrmF hA | skip) <;> (try simp only [List.length_map, cond_true, cond_false, Bool.not_eq_true', Bool.not_eq_false', beq_iff_eq, beq_eq_false_iff_ne, ne_eq] at hA)) | (refine And.intro ⟨fun o h => h, trivial⟩ ?_; conv => whnf) | (rw [getD_map _ _ _ _ (by assumption)]; conv => whnf))
               all_goals first | rfl | (rw [← hl3])
               done)
            | (exfalso; omega)
      · rw [if_neg c2] at hl2
        subst hl2
        by_cases c3 : d < en ∧ en < b
        · have K3 := k3 c3
          have d3a : decide ((d : Int) < IntKind.i64.wrap (((d + m : Nat) : Int) - (i : Int))) = true := decide_eq_true (by rw [e7]; omega)
          have d3b : decide (IntKind.i64.wrap (((d + m : Nat) : Int) - (i : Int)) < (b : Int)) = true := decide_eq_true (by rw [e7]; omega)
          repeat' (first | (rw [d1a]; conv => whnf) | (rw [d1b]; conv => whnf) | (rw [d3a]; conv => whnf) | (rw [d3b]; conv => whnf) | (refine And.intro easyA ?_; conv => whnf) | (refine ifB_intro (fun hA => ?_) (fun hA => ?_) <;> (try rw [hA]) <;> (conv => whnf) <;> (first | replace hA := nrmA hA | replace hA := nrmB hA | replace hA := nrmC hA | replace hA := nrmD hA | replace hA := nrmE hA | replace hA := nrmF hA | skip) <;> (try simp only [List.length_map, cond_true, cond_false, Bool.not_eq_true', Bool.not_eq_false', beq_iff_eq, beq_eq_false_iff_ne, ne_eq] at hA)) | (rw [e7]; conv => whnf) | (refine CallP.upd rfl (K1) ?_; conv => whnf) | (refine CallD.upd rfl (K1) ?_; conv => whnf) | (refine CallP.upd rfl (K3) ?_; conv => whnf) | (refine CallD.upd rfl (K3) ?_; conv => whnf) | (rw [getD_map _ _ _ _ (by assumption)]; conv => whnf))
          all_goals first
            | (refine ⟨⟨[(9100, some (bufP l3))], ?_⟩⟩
               conv => whnf
               repeat' (first | (refine And.intro easyA ?_; conv => whnf) | (refine ifB_intro (fun hA => ?_) (fun hA => ?_) <;> (try rw [hA]) <;> (conv => whnf) <;> (first | replace hA := nrmA hA | replace hA := nrmB hA | replace hA := nrmC hA | replace hA := nrmD hA | replace hA := nrmE hA | replace hA := nrmF hA | skip) <;> (try simp only [List.length_map, cond_true, cond_false, Bool.not_eq_true', Bool.not_eq_false', beq_iff_eq, beq_eq_false_iff_ne, ne_eq] at hA)) | (refine And.intro ⟨fun o h => h, trivial⟩ ?_; conv => whnf) | (rw [getD_map _ _ _ _ (by assumption)]; conv => whnf))
               all_goals first | rfl | (rw [← hl3])
               done)
            | (exfalso; omega)
        · rw [if_neg c3] at hl3
          repeat' (first | (rw [d1a]; conv => whnf) | (rw [d1b]; conv => whnf) | (refine And.intro easyA ?_; conv => whnf) | (refine ifB_intro (fun hA => ?_) (fun hA => ?_) <;> (try rw [hA]) <;> (conv => whnf) <;> (first | replace hA := nrmA hA | replace hA := nrmB hA | replace hA := nrmC hA | replace hA := nrmD hA | replace hA := nrmE hA | replace hA := nrmF hA | skip) <;> (try simp only [List.length_map, cond_true, cond_false, Bool.not_eq_true', Bool.not_eq_false', beq_iff_eq, beq_eq_false_iff_ne, ne_eq] at hA)) | (rw [e7]; conv => whnf) | (refine CallP.upd rfl (K1) ?_; conv => whnf) | (refine CallD.upd rfl (K1) ?_; conv => whnf) | (rw [getD_map _ _ _ _ (by assumption)]; conv => whnf))
          all_goals first
            | (refine ⟨⟨[(9100, some (bufP l1))], ?_⟩⟩
               conv => whnf
               repeat' (first | (refine And.intro easyA ?_; conv => whnf) | (refine ifB_intro (fun hA => ?_) (fun hA => ?_) <;> (try rw [hA]) <;> (conv => whnf) <;> (first | replace hA := nrmA hA | replace hA := nrmB hA | replace hA := nrmC hA | replace hA := nrmD hA | replace hA := nrmE hA | replace hA := nrmF hA | skip) <;> (try simp only [List.length_map, cond_true, cond_false, Bool.not_eq_true', Bool.not_eq_false', beq_iff_eq, beq_eq_false_iff_ne, ne_eq] at hA)) | (refine And.intro ⟨fun o h => h, trivial⟩ ?_; conv => whnf) | (rw [getD_map _ _ _ _ (by assumption)]; conv => whnf))
               all_goals first | rfl | (rw [← hl3])
               done)
            | (exfalso; omega)
    · rw [if_neg c1] at hl1
      subst hl1
      by_cases c2 : a < i ∧ i < d
      · have K2 := k2 c2
        have d2a : decide ((a : Int) < (i : Int)) = true := decide_eq_true (by omega)
        have d2b : decide ((i : Int) < (d : Int)) = true := decide_eq_true (by omega)
        by_cases c3 : d < en ∧ en < b
        · have K3 := k3 c3
          have d3a : decide ((d : Int) < IntKind.i64.wrap (((d + m : Nat) : Int) - (i : Int))) = true := decide_eq_true (by rw [e7]; omega)
          have d3b : decide (IntKind.i64.wrap (((d + m : Nat) : Int) - (i : Int)) < (b : Int)) = true := decide_eq_true (by rw [e7]; omega)
          repeat' (first | (rw [d2a]; conv => whnf) | (rw [d2b]; conv => whnf) | (rw [d3a]; conv => whnf) | (rw [d3b]; conv => whnf) | (refine And.intro easyA ?_; conv => whnf) | (refine ifB_intro (fun hA => ?_) (fun hA => ?_) <;> (try rw [hA]) <;> (conv => whnf) <;> (first | replace hA := nrmA hA | replace hA := nrmB hA | replace hA := nrmC hA | replace hA := nrmD hA | replace hA := nrmE hA | replace hA := nrmF hA | skip) <;> (try simp only [List.length_map, cond_true, cond_false, Bool.not_eq_true', Bool.not_eq_false', beq_iff_eq, beq_eq_false_iff_ne, ne_eq] at hA)) | (rw [e7]; conv => whnf) | (refine CallP.upd rfl (K2) ?_; conv => whnf) | (refine CallD.upd rfl (K2) ?_; conv => whnf) | (refine CallP.upd rfl (K3) ?_; conv => whnf) | (refine CallD.upd rfl (K3) ?_; conv => whnf) | (rw [getD_map _ _ _ _ (by assumption)]; conv => whnf))
          all_goals first
            | (refine ⟨⟨[(9100, some (bufP l3))], ?_⟩⟩
               conv => whnf
               repeat' (first | (refine And.intro easyA ?_; conv => whnf) | (refine ifB_intro (fun hA => ?_) (fun hA => ?_) <;> (try rw [hA]) <;> (conv => whnf) <;> (first | replace hA := nrmA hA | replace hA := nrmB hA | replace hA := nrmC hA | replace hA := nrmD hA | replace hA := nrmE hA | replace hA := nrmF hA | skip) <;> (try simp only [List.length_map, cond_true, cond_false, Bool.not_eq_true', Bool.not_eq_false', beq_iff_eq, beq_eq_false_iff_ne, ne_eq] at hA)) | (refine And.intro ⟨fun o h => h, trivial⟩ ?_; conv => whnf) | (rw [getD_map _ _ _ _ (by assumption)]; conv => whnf))
               all_goals first | rfl | (rw [← hl3])
               done)
            | (exfalso; omega)
        · rw [if_neg c3] at hl3
          repeat' (first | (rw [d2a]; conv => whnf) | (rw [d2b]; conv => whnf) | (refine And.intro easyA ?_; conv => whnf) | (refine ifB_intro (fun hA => ?_) (fun hA => ?_) <;> (try rw [hA]) <;> (conv => whnf) <;> (first | replace hA := nrmA hA | replace hA := nrmB hA | replace hA := nrmC hA | replace hA := nrmD hA | replace hA := nrmE hA | replace hA := nrmF hA | skip) <;> (try simp only [List.length_map, cond_true, cond_false, Bool.not_eq_true', Bool.not_eq_false', beq_iff_eq, beq_eq_false_iff_ne, ne_eq] at hA)) | (rw [e7]; conv => whnf) | (refine CallP.upd rfl (K2) ?_; conv => whnf) | (refine CallD.upd rfl (K2) ?_; conv => whnf) | (rw [getD_map _ _ _ _ (by assumption)]; conv => whnf))
          all_goals first
            | (refine ⟨⟨[(9100, some (bufP l2))], ?_⟩⟩
               conv => whnf
               repeat' (first | (refine And.intro easyA ?_; conv => whnf) | (refine ifB_intro (fun hA => ?_) (fun hA => ?_) <;> (try rw [hA]) <;> (conv => whnf) <;> (first | replace hA := nrmA hA | replace hA := nrmB hA | replace hA := nrmC hA | replace hA := nrmD hA | replace hA := nrmE hA | replace hA := nrmF hA | skip) <;> (try simp only [List.length_map, cond_true, cond_false, Bool.not_eq_true', Bool.not_eq_false', beq_iff_eq, beq_eq_false_iff_ne, ne_eq] at hA)) | (refine And.intro ⟨fun o h => h, trivial⟩ ?_; conv => whnf) | (rw [getD_map _ _ _ _ (by assumption)]; conv => whnf))
               all_goals first | rfl | (rw [← hl3])
               done)
            | (exfalso; omega)
      · rw [if_neg c2] at hl2
        subst hl2
        by_cases c3 : d < en ∧ en < b
        · have K3 := k3 c3
          have d3a : decide ((d : Int) < IntKind.i64.wrap (((d + m : Nat) : Int) - (i : Int))) = true := decide_eq_true (by rw [e7]; omega)
          have d3b : decide (IntKind.i64.wrap (((d + m : Nat) : Int) - (i : Int)) < (b : Int)) = true := decide_eq_true (by rw [e7]; omega)
          repeat' (first | (rw [d3a]; conv => whnf) | (rw [d3b]; conv => whnf) | (refine And.intro easyA ?_; conv => whnf) | (refine ifB_intro (fun hA => ?_) (fun hA => ?_) <;> (try rw [hA]) <;> (conv => whnf) <;> (first | replace hA := nrmA hA | replace hA := nrmB hA | replace hA := nrmC hA | replace hA := nrmD hA | replace hA := nrmE hA | replace hA := nrmF hA | skip) <;> (try simp only [List.length_map, cond_true, cond_false, Bool.not_eq_true', Bool.not_eq_false', beq_iff_eq, beq_eq_false_iff_ne, ne_eq] at hA)) | (rw [e7]; conv => whnf) | (refine CallP.upd rfl (K3) ?_; conv => whnf) | (refine CallD.upd rfl (K3) ?_; conv => whnf) | (rw [getD_map _ _ _ _ (by assumption)]; conv => whnf))
          all_goals first
            | (refine ⟨⟨[(9100, some (bufP l3))], ?_⟩⟩
               conv => whnf
               repeat' (first | (refine And.intro easyA ?_; conv => whnf) | (refine ifB_intro (fun hA => ?_) (fun hA => ?_) <;> (try rw [hA]) <;> (conv => whnf) <;> (first | replace hA := nrmA hA | replace hA := nrmB hA | replace hA := nrmC hA | replace hA := nrmD hA | replace hA := nrmE hA | replace hA := nrmF hA | skip) <;> (try simp only [List.length_map, cond_true, cond_false, Bool.not_eq_true', Bool.not_eq_false', beq_iff_eq, beq_eq_false_iff_ne, ne_eq] at hA)) | (refine And.intro ⟨fun o h => h, trivial⟩ ?_; conv => whnf) | (rw [getD_map _ _ _ _ (by assumption)]; conv => whnf))
               all_goals first | rfl | (rw [← hl3])
               done)
            | (exfalso; omega)
        · rw [if_neg c3] at hl3
          repeat' (first | (refine And.intro easyA ?_; conv => whnf) | (refine ifB_intro (fun hA => ?_) (fun hA => ?_) <;> (try rw [hA]) <;> (conv => whnf) <;> (first | replace hA := nrmA hA | replace hA := nrmB hA | replace hA := nrmC hA | replace hA := nrmD hA | replace hA := nrmE hA | replace hA := nrmF hA | skip) <;> (try simp only [List.length_map, cond_true, cond_false, Bool.not_eq_true', Bool.not_eq_false', beq_iff_eq, beq_eq_false_iff_ne, ne_eq] at hA)) | (rw [e7]; conv => whnf) | (rw [getD_map _ _ _ _ (by assumption)]; conv => whnf))
          all_goals first
            | (refine ⟨⟨[(9100, some (bufP l))], ?_⟩⟩
               conv => whnf
               repeat' (first | (refine And.intro easyA ?_; conv => whnf) | (refine ifB_intro (fun hA => ?_) (fun hA => ?_) <;> (try rw [hA]) <;> (conv => whnf) <;> (first | replace hA := nrmA hA | replace hA := nrmB hA | replace hA := nrmC hA | replace hA := nrmD hA | replace hA := nrmE hA | replace hA := nrmF hA | skip) <;> (try simp only [List.length_map, cond_true, cond_false, Bool.not_eq_true', Bool.not_eq_false', beq_iff_eq, beq_eq_false_iff_ne, ne_eq] at hA)) | (refine And.intro ⟨fun o h => h, trivial⟩ ?_; conv => whnf) | (rw [getD_map _ _ _ _ (by assumption)]; conv => whnf))
               all_goals first | rfl | (rw [← hl3])
               done)
            | (exfalso; omega)
theorem symmerge_ctr (g : GP) : ∀ (f : Nat) (l : List PairT), l.length < 2 ^ 40 → ∀ (a m b : Nat), a < m → m < b → b ≤ l.length → b - a ≤ f → Ctr (ax g).E 279 [mslP l, .i64 a, .i64 m, .i64 b, .clo (.func 244) [] []] [(9100, some (bufP l))] (fun o => o = .ret (.tup []) [(9100, some (bufP (symF f l a m b)))])
  | 0, l, hl, a, m, b, h1, h2, hb, hf => by omega
  | f + 1, l, hl, a, m, b, h1, h2, hb, hf => by
    have ih := symmerge_ctr g f
    by_cases c1 : m - a = 1
    · exact sym_up g f l hl a m b h1 h2 hb c1
    · by_cases c2 : b - m = 1
      · exact sym_dn g f l hl a m b h1 h2 hb c1 c2
      · by_cases c3 : (a + b) / 2 < m
        · exact sym_hi g f ih l hl a m b h1 h2 hb hf c1 c2 c3
        · exact sym_lo g f ih l hl a m b h1 h2 hb hf c1 c2 c3
end Go.Ax
