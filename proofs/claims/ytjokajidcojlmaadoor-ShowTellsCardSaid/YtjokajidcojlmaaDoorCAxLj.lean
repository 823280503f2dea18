import Derived.Test.YtjokajidcojlmaaDoorCAxCh
import Derived.Test.YtjokajidcojlmaaDoorCAxLi
import Derived.Test.YtjokajidcojlmaaDoorCAxV

/- The walks of layer 4: tokens as a text, both ways; tokens compared; digits. -/
namespace Go.Ax
open Go.Proofs Go.Lib
set_option maxRecDepth 10000

/-! ### digits -/
def digB (n : Nat) : ByteArray := ⟨(decDigits n).toArray⟩
theorem u8_digit (n : Nat) (h : n < 10) : IntKind.u8.wrap (IntKind.i64.wrap (48 + (n : Int))) = ((48 + n : Nat) : Int) := by
  rw [i64_wrap (by omega) (by omega), IntKind.wrap_u8]; omega
theorem i64_quo (n k : Nat) (h : n < 2 ^ 62) : IntKind.i64.wrap ((n : Int).tdiv k) = ((n / k : Nat) : Int) := by
  rw [← Int.ofNat_tdiv]
  have h1 := Nat.div_le_self n k
  generalize n / k = q at h1 ⊢
  exact i64_wrap (by omega) (by omega)
theorem digB_small (n : Nat) (h : n < 10) : digB n = bytesOf [[.v (.int .u8 ((48 + n : Nat) : Int))]] := by
  rw [digB, decDigits_one h]; rfl
theorem digB_big (n : Nat) (h : ¬ n < 10) : digB n = digB (n / 10) ++ bytesOf [[.v (.int .u8 ((48 + n % 10 : Nat) : Int))]] := by
  rw [digB, decDigits, dif_neg h, digB]
  apply ByteArray.ext
  rw [ByteArray.data_append]
  have e : UInt8.ofNat (((48 + n % 10 : Nat) : Int).toNat) = UInt8.ofNat (48 + n % 10) := by rw [Int.toNat_natCast]
  have e2 : (bytesOf [[.v (.int .u8 ((48 + n % 10 : Nat) : Int))]]).data = #[UInt8.ofNat (((48 + n % 10 : Nat) : Int).toNat)] := rfl
  rw [e2, e]
  simp
theorem dec_len_le (u : Nat) : (decDigits u).length ≤ u + 1 := by
  induction u using Nat.strongRecOn with
  | _ u ih =>
    rw [decDigits]
    split
    · simp
    · have := ih (u / 10) (by omega)
      rw [List.length_append]; simp; omega
theorem digB_size (n : Nat) : (digB n).size ≤ n + 1 := dec_len_le n
theorem digits_ctr (g : GP) : ∀ n : Nat, n < 2 ^ 62 → Ctr (ax g).E 79 [.i64 n] [] (fun o => o = .ret (.str (digB n)) []) := by
  intro n
  induction n using Nat.strongRecOn with
  | _ n ih =>
    intro hn
    refine Ctr.body (X := ax g) _ 20 [] [.tmp 2] Tryd.func79 rfl rfl rfl rfl (by decide +kernel) rfl rfl ?_
    conv => whnf
    refine ifB_intro (fun h => ?_) (fun h => ?_)
    · have h : n < 10 := by first | (have h0 := of_decide_eq_true h; omega) | (have h0 := of_decide_eq_false h; omega) | (have h0 := h; simp at h0; omega) | (have h0 := h; simp at h0; exact h0)
      conv => whnf
      repeat (refine And.intro (by first | exact rfl | decide | exact Nat.le_of_ble_eq_true rfl | exact ⟨_, rfl⟩ | exact ⟨_, _, rfl⟩ | exact Nat.le_refl _ | exact Int.le_refl _ | omega | (simp only [List.length_map]; omega)) ?_; conv => whnf)
      refine And.intro (fun q hq => ⟨_, by simpa using hq⟩) ?_
      conv => whnf
      refine ⟨⟨[], ?_⟩⟩
      conv => whnf
      rw [u8_digit n h, ← digB_small n h]
    · have h : ¬ n < 10 := by first | (have h0 := of_decide_eq_true h; omega) | (have h0 := of_decide_eq_false h; omega) | (have h0 := h; simp at h0; omega) | (have h0 := h; simp at h0; exact h0)
      conv => whnf
      refine DrawP.intro (X := ax g) (id := 3) B79_3 (by kernel_rfl) (by decide +kernel) ?_
      conv => whnf
      repeat (refine And.intro (by first | exact rfl | decide | exact Nat.le_of_ble_eq_true rfl | exact ⟨_, rfl⟩ | exact ⟨_, _, rfl⟩ | exact Nat.le_refl _ | exact Int.le_refl _ | omega | (simp only [List.length_map]; omega)) ?_; conv => whnf)
      refine CallD.arg (args' := [.i64 ((n / 10 : Nat) : Int)]) ?_ (CallD.det (ih (n / 10) (by omega) (by omega)) ?_)
      · exact congrArg (fun x => [AV.i64 x]) (i64_quo n 10 hn)
      conv => whnf
      repeat (refine And.intro (by first | exact rfl | decide | exact Nat.le_of_ble_eq_true rfl | exact ⟨_, rfl⟩ | exact ⟨_, _, rfl⟩ | exact Nat.le_refl _ | exact Int.le_refl _ | omega | (simp only [List.length_map]; omega)) ?_; conv => whnf)
      refine And.intro (fun q hq => ⟨_, by simpa using hq⟩) ?_
      conv => whnf
      refine And.intro (by have := digB_size (n / 10); have := Nat.div_le_self n 10; show (digB (n / 10)).size + 1 ≤ _; omega) ?_
      conv => whnf
      refine ⟨⟨[], ?_⟩⟩
      conv => whnf
      rw [show (n : Int).tmod 10 = ((n % 10 : Nat) : Int) from by rw [Int.ofNat_tmod]; rfl, u8_digit _ (by omega)]
      rw [digB_big n h]

/-! ### the same tokens -/
theorem getD_map {α β : Type} (f : α → β) (l : List α) (i : Nat) (d : β) (h : i < l.length) : (l.map f).getD (i : Int).toNat d = f l[i] := by
  simp [List.getD, h]
def eqK (t u : TokT) : Bool := t.kind == u.kind && (t.s.data.toList == u.s.data.toList && (t.n == u.n && true))
def allK : List TokT → List TokT → Bool
  | t :: a, u :: b => eqK t u && allK a b
  | _, _ => true
def sameK (a b : List TokT) : Bool := a.length == b.length && allK a b
theorem allK_drop {a b : List TokT} {i : Nat} (ha : i < a.length) (hb : i < b.length) : allK (a.drop i) (b.drop i) = (eqK a[i] b[i] && allK (a.drop (i + 1)) (b.drop (i + 1))) := by
  rw [List.drop_eq_getElem_cons ha, List.drop_eq_getElem_cons hb]; rfl
theorem sameK_refl (a : List TokT) : sameK a a = true := by
  have : allK a a = true := by
    induction a with
    | nil => rfl
    | cons t a ih => simp [allK, eqK, ih]
  simp [sameK, this]
theorem same_ctr (g : GP) (a b : List TokT) (ha : a.length < 2 ^ 62) : Ctr (ax g).E 28 [.d (.sl false 3 (a.map rowK)), .d (.sl false 3 (b.map rowK))] [] (fun o => o = .ret (.bool (sameK a b)) []) := by
  refine Ctr.body (X := ax g) _ 26 [] [.tmp 4] Tryd.func28 rfl rfl rfl rfl (by decide +kernel) rfl rfl ?_
  conv => whnf
  refine ifB_intro (fun h => ?_) (fun h => ?_)
  · have h : ¬ a.length = b.length := by first | (have h0 := of_decide_eq_true h; omega) | (have h0 := of_decide_eq_false h; omega) | (have h0 := h; simp at h0; omega) | (have h0 := h; simp at h0; exact h0)
    conv => whnf
    refine ⟨⟨[], ?_⟩⟩
    conv => whnf
    have : (a.length == b.length) = false := by simpa using h
    rw [sameK, this]; rfl
  · have h : a.length = b.length := by first | (have h0 := of_decide_eq_true h; omega) | (have h0 := of_decide_eq_false h; omega) | (have h0 := h; simp at h0; omega) | (have h0 := h; simp at h0; exact h0)
    conv => whnf
    have hs : sameK a b = allK a b := by rw [sameK, h, beq_self_eq_true]; rfl
    refine LoopP.inv (X := ax g) (fun i : Nat => { f := [(0, .d (.sl false 3 (a.map rowK))), (1, .d (.sl false 3 (b.map rowK))), (5, .i64 i)], h := [] }) (fun i => i ≤ a.length ∧ allK a b = allK (a.drop i) (b.drop i)) (fun i => a.length - i) 0 ⟨by omega, rfl⟩ ⟨⟨rfl, rfl, rfl, trivial⟩, trivial⟩ fun i ⟨hi, he⟩ => ?_
    conv => whnf
    refine ifB_intro (fun h2 => ?_) (fun h2 => ?_)
    · have h2 : i < a.length := by first | (have h0 := of_decide_eq_true h2; omega) | (have h0 := of_decide_eq_false h2; omega) | (have h0 := h2; simp at h0; omega) | (have h0 := h2; simp at h0; exact h0)
      conv => whnf
      refine DrawP.intro (X := ax g) (id := 6) B28_6 (by kernel_rfl) (by decide +kernel) ?_
      conv => whnf
      have h2' : i < b.length := by omega
      repeat (first | (refine And.intro (by first | exact rfl | decide | exact Nat.le_of_ble_eq_true rfl | exact ⟨_, rfl⟩ | exact ⟨_, _, rfl⟩ | exact Nat.le_refl _ | exact Int.le_refl _ | omega | (simp only [List.length_map]; omega)) ?_; conv => whnf) | rw [getD_map _ _ _ _ (by assumption)])
      refine ifB_intro (fun h3 => ?_) (fun h3 => ?_)
      · have h3 : (!eqK a[i] b[i]) = true := h3
        conv => whnf
        refine ⟨⟨[], ?_⟩⟩
        conv => whnf
        rw [hs, he, allK_drop h2 (by omega)]
        rw [Bool.not_eq_true'] at h3
        rw [h3]; rfl
      · have h3 : (!eqK a[i] b[i]) = false := h3
        rw [Bool.not_eq_false'] at h3
        conv => whnf
        exact ⟨i + 1, ⟨by omega, by rw [he, allK_drop h2 (by omega), h3]; rfl⟩, by omega, ⟨⟨rfl, rfl, AV.int_eq (i64_succ (by omega)), trivial⟩, trivial⟩⟩
    · have h2 : ¬ i < a.length := by first | (have h0 := of_decide_eq_true h2; omega) | (have h0 := of_decide_eq_false h2; omega) | (have h0 := h2; simp at h0; omega) | (have h0 := h2; simp at h0; exact h0)
      conv => whnf
      refine ⟨⟨[], ?_⟩⟩
      conv => whnf
      rw [hs, he, List.drop_eq_nil_of_le (by omega)]; rfl

/-! ### tokens as a text -/
def txtS (t : TokT) : ByteArray := ⟨(txtB t).toArray⟩
def joinS (l : List TokT) : ByteArray := ⟨(Lib.join (l.map txtB) [32]).toArray⟩
theorem txtS_num {t : TokT} (h : t.kind = 2) : txtS t = digB t.n.toNat := by rw [txtS, txtB, if_pos h]; rfl
theorem txtS_text {t : TokT} (h : t.kind ≠ 2) : txtS t = t.s := by rw [txtS, txtB, if_neg h]
theorem join_snoc (sep x : List UInt8) : ∀ (l : List (List UInt8)), l ≠ [] → Lib.join (l ++ [x]) sep = Lib.join l sep ++ sep ++ x
  | [], h => absurd rfl h
  | [a], _ => by simp [Lib.join, List.intercalate]
  | a :: b :: l, _ => by
    have := join_snoc sep x (b :: l) (by simp)
    simp only [Lib.join, List.intercalate, List.cons_append, List.intersperse_cons_cons, List.flatten_cons] at this ⊢
    rw [this]; simp
theorem joinS_snoc {l : List TokT} (t : TokT) (h : l ≠ []) : joinS (l ++ [t]) = joinS l ++ ⟨#[32]⟩ ++ txtS t := by
  apply ByteArray.ext
  rw [joinS, List.map_append, List.map_cons, List.map_nil, join_snoc _ _ _ (by simpa using h), ByteArray.data_append, ByteArray.data_append]
  simp [joinS, txtS]
theorem joinS_one (t : TokT) : joinS [t] = txtS t := by rw [joinS, List.map_cons, List.map_nil, Lib.join_one]; rfl
theorem joinS_size (l : List TokT) : (joinS l).size ≤ wt l := join_wt l
theorem wt_take (l : List TokT) (i : Nat) : wt (l.take i) ≤ wt l := by
  have := wt_app (l.take i) (l.drop i)
  rw [List.take_append_drop] at this; omega
theorem txtS_wt {l : List TokT} {i : Nat} (h : i < l.length) : (txtS l[i]).size + 1 + wt (l.take i) ≤ wt l := by
  have h1 := wt_app (l.take i) (l.drop i)
  rw [List.take_append_drop, List.drop_eq_getElem_cons h, show l[i] :: l.drop (i + 1) = [l[i]] ++ l.drop (i + 1) from rfl, wt_app, wt_one] at h1
  have : (txtS l[i]).size = (txtB l[i]).length := rfl
  omega

/-- The first so many tokens are none that end. -/
def Open (l : List TokT) (i : Nat) : Prop := ahead l = l.take i ++ ahead (l.drop i)
theorem Open.zero (l : List TokT) : Open l 0 := rfl
theorem Open.succ {l : List TokT} {i : Nat} (h : Open l i) (hi : i < l.length) (hk : l[i].kind ≠ 0) : Open l (i + 1) := by
  unfold Open at *
  rw [h, List.drop_eq_getElem_cons hi, ahead, List.takeWhile_cons, if_pos (by simpa using hk), List.take_succ_eq_append_getElem hi, List.append_assoc]
  rfl
theorem Open.ends {l : List TokT} {i : Nat} (h : Open l i) (hi : i < l.length) (hk : l[i].kind = 0) : ahead l = l.take i := by
  unfold Open at h
  rw [h, List.drop_eq_getElem_cons hi, ahead, List.takeWhile_cons, if_neg (by simp [hk]), List.append_nil]
theorem Open.over {l : List TokT} {i : Nat} (h : Open l i) (hi : l.length ≤ i) : ahead l = l.take i := by
  unfold Open at h
  rw [h, List.drop_eq_nil_of_le hi]; simp [ahead]

def NumOk (l : List TokT) : Prop := ∀ t ∈ l, 0 ≤ t.n ∧ t.n < 65536

set_option maxHeartbeats 1000000 in
theorem refjoin_ctr (g : GP) (l : List TokT) (hw : wt l ≤ 2 ^ 40) (hl : l.length < 2 ^ 40) (hn : NumOk l) : Ctr (ax g).E 26 [.d (.sl false 3 (l.map rowK))] [] (fun o => o = .ret (.str (joinS (ahead l))) []) := by
  refine Ctr.body (X := ax g) _ 46 [] [.tmp 2] Tryd.func26 rfl rfl rfl rfl (by decide +kernel) rfl rfl ?_
  conv => whnf
  refine LoopP.inv (X := ax g) (fun i : Nat => { f := [(0, .d (.sl false 3 (l.map rowK))), (3, .str (joinS (l.take i))), (4, .i64 i)], h := [] }) (fun i => i ≤ l.length ∧ Open l i) (fun i => l.length - i) 0 ⟨by omega, .zero l⟩ ⟨⟨rfl, rfl, rfl, trivial⟩, trivial⟩ fun i ⟨hi, ho⟩ => ?_
  conv => whnf
  refine ifB_intro (fun h => ?_) (fun h => ?_)
  · rw [h]
    have h : i < l.length := by first | (have h0 := of_decide_eq_true h; omega) | (have h0 := of_decide_eq_false h; omega) | (have h0 := h; simp at h0; omega) | (have h0 := h; simp at h0; exact h0)
    conv => whnf
    repeat (first | (refine And.intro (by first | exact rfl | decide | exact Nat.le_of_ble_eq_true rfl | exact ⟨_, rfl⟩ | exact ⟨_, _, rfl⟩ | exact Nat.le_refl _ | exact Int.le_refl _ | omega | (simp only [List.length_map]; omega)) ?_; conv => whnf) | rw [getD_map _ _ _ _ (by assumption)])
    refine ifB_intro (fun h2 => ?_) (fun h2 => ?_)
    · have hk : (l[i].kind != 0) = true := h2
      have hk : l[i].kind ≠ 0 := by simpa using hk
      rw [h2]
      have hst : joinS (l.take (i + 1)) = (if 0 < i then joinS (l.take i) ++ ⟨#[32]⟩ else joinS (l.take i)) ++ txtS l[i] := by
        rw [List.take_succ_eq_append_getElem h]
        split
        · rename_i h0
          exact joinS_snoc _ (List.ne_nil_of_length_pos (by rw [List.length_take]; omega))
        · rename_i h0
          have : i = 0 := by omega
          subst this
          rw [List.take_zero, List.nil_append, joinS_one]
          apply ByteArray.ext
          rw [ByteArray.data_append]; simp [joinS]; rfl
      have hsz : (joinS (l.take i)).size + 1 + (txtS l[i]).size ≤ 2 ^ 40 := by
        have := txtS_wt h; have := joinS_size (l.take i); omega
      have hle : wt (l.take i) ≤ wt l := wt_take l i
      have hjs := joinS_size (l.take i)
      have hnum := hn l[i] (List.getElem_mem h)
      conv => whnf
      refine ifB_intro (fun h3 => ?_) (fun h3 => ?_)
      · have h3 : 0 < i := by first | (have h0 := of_decide_eq_true h3; omega) | (have h0 := of_decide_eq_false h3; omega) | (have h0 := h3; simp at h0; omega) | (have h0 := h3; simp at h0; exact h0)
        conv => whnf
        rw [if_pos h3] at hst
        refine And.intro (by show (joinS (l.take i)).size + 1 ≤ _; omega) ?_
        conv => whnf
        repeat (first | (refine And.intro (by first | exact rfl | decide | exact Nat.le_of_ble_eq_true rfl | exact ⟨_, rfl⟩ | exact ⟨_, _, rfl⟩ | exact Nat.le_refl _ | exact Int.le_refl _ | omega | (simp only [List.length_map]; omega)) ?_; conv => whnf) | rw [getD_map _ _ _ _ (by assumption)])
        refine ifB_intro (fun h4 => ?_) (fun h4 => ?_)
        · have hk2 : (l[i].kind == 2) = true := h4
          have hk2 : l[i].kind = 2 := by simpa using hk2
          rw [txtS_num hk2] at hst
          conv => whnf
          repeat (first | (refine And.intro (by first | exact rfl | decide | exact Nat.le_of_ble_eq_true rfl | exact ⟨_, rfl⟩ | exact ⟨_, _, rfl⟩ | exact Nat.le_refl _ | exact Int.le_refl _ | omega | (simp only [List.length_map]; omega)) ?_; conv => whnf) | rw [getD_map _ _ _ _ (by assumption)])
          refine CallP.arg (args' := [.i64 (l[i].n.toNat : Int)]) ?_ (CallP.det (digits_ctr g _ (by omega)) ?_)
          · show [AV.i64 (IntKind.i64.wrap l[i].n)] = _
            rw [i64_wrap (by omega) (by omega), Int.toNat_of_nonneg hnum.1]
          rw [txtS_num hk2] at hsz
          conv => whnf
          try refine And.intro (show ((joinS (l.take i) ++ ⟨#[32]⟩)).size + (digB l[i].n.toNat).size ≤ 9223372036854775807 from (by rw [ByteArray.size_append]; show (joinS (l.take i)).size + 1 + _ ≤ _; omega)) ?_
          conv => whnf
          exact ⟨i + 1, ⟨by omega, ho.succ h hk⟩, by omega, ⟨⟨rfl, by rw [hst]; rfl, AV.int_eq (i64_succ (by omega)), trivial⟩, trivial⟩⟩
        · have hk2 : (l[i].kind == 2) = false := h4
          have hk2 : l[i].kind ≠ 2 := by simpa using hk2
          rw [txtS_text hk2] at hst hsz
          conv => whnf
          repeat (first | (refine And.intro (by first | exact rfl | decide | exact Nat.le_of_ble_eq_true rfl | exact ⟨_, rfl⟩ | exact ⟨_, _, rfl⟩ | exact Nat.le_refl _ | exact Int.le_refl _ | omega | (simp only [List.length_map]; omega)) ?_; conv => whnf) | rw [getD_map _ _ _ _ (by assumption)])
          try refine And.intro (show ((joinS (l.take i) ++ ⟨#[32]⟩)).size + l[i].s.size ≤ 9223372036854775807 from (by rw [ByteArray.size_append]; show (joinS (l.take i)).size + 1 + _ ≤ _; omega)) ?_
          conv => whnf
          exact ⟨i + 1, ⟨by omega, ho.succ h hk⟩, by omega, ⟨⟨rfl, by rw [hst]; rfl, AV.int_eq (i64_succ (by omega)), trivial⟩, trivial⟩⟩
      · have h3 : ¬ 0 < i := by first | (have h0 := of_decide_eq_true h3; omega) | (have h0 := of_decide_eq_false h3; omega) | (have h0 := h3; simp at h0; omega) | (have h0 := h3; simp at h0; exact h0)
        rw [if_neg h3] at hst
        conv => whnf
        repeat (first | (refine And.intro (by first | exact rfl | decide | exact Nat.le_of_ble_eq_true rfl | exact ⟨_, rfl⟩ | exact ⟨_, _, rfl⟩ | exact Nat.le_refl _ | exact Int.le_refl _ | omega | (simp only [List.length_map]; omega)) ?_; conv => whnf) | rw [getD_map _ _ _ _ (by assumption)])
        refine ifB_intro (fun h4 => ?_) (fun h4 => ?_)
        · have hk2 : (l[i].kind == 2) = true := h4
          have hk2 : l[i].kind = 2 := by simpa using hk2
          rw [txtS_num hk2] at hst
          conv => whnf
          repeat (first | (refine And.intro (by first | exact rfl | decide | exact Nat.le_of_ble_eq_true rfl | exact ⟨_, rfl⟩ | exact ⟨_, _, rfl⟩ | exact Nat.le_refl _ | exact Int.le_refl _ | omega | (simp only [List.length_map]; omega)) ?_; conv => whnf) | rw [getD_map _ _ _ _ (by assumption)])
          refine CallP.arg (args' := [.i64 (l[i].n.toNat : Int)]) ?_ (CallP.det (digits_ctr g _ (by omega)) ?_)
          · show [AV.i64 (IntKind.i64.wrap l[i].n)] = _
            rw [i64_wrap (by omega) (by omega), Int.toNat_of_nonneg hnum.1]
          rw [txtS_num hk2] at hsz
          conv => whnf
          try refine And.intro (show ((joinS (l.take i))).size + (digB l[i].n.toNat).size ≤ 9223372036854775807 from (by omega)) ?_
          conv => whnf
          exact ⟨i + 1, ⟨by omega, ho.succ h hk⟩, by omega, ⟨⟨rfl, by rw [hst]; rfl, AV.int_eq (i64_succ (by omega)), trivial⟩, trivial⟩⟩
        · have hk2 : (l[i].kind == 2) = false := h4
          have hk2 : l[i].kind ≠ 2 := by simpa using hk2
          rw [txtS_text hk2] at hst hsz
          conv => whnf
          repeat (first | (refine And.intro (by first | exact rfl | decide | exact Nat.le_of_ble_eq_true rfl | exact ⟨_, rfl⟩ | exact ⟨_, _, rfl⟩ | exact Nat.le_refl _ | exact Int.le_refl _ | omega | (simp only [List.length_map]; omega)) ?_; conv => whnf) | rw [getD_map _ _ _ _ (by assumption)])
          try refine And.intro (show ((joinS (l.take i))).size + l[i].s.size ≤ 9223372036854775807 from (by omega)) ?_
          conv => whnf
          exact ⟨i + 1, ⟨by omega, ho.succ h hk⟩, by omega, ⟨⟨rfl, by rw [hst]; rfl, AV.int_eq (i64_succ (by omega)), trivial⟩, trivial⟩⟩
    · have hk : (l[i].kind != 0) = false := h2
      have hk : l[i].kind = 0 := by simpa using hk
      rw [h2]
      conv => whnf
      refine ⟨⟨[], ?_⟩⟩
      conv => whnf
      rw [ho.ends h hk]
  · rw [h]
    have h : ¬ i < l.length := by first | (have h0 := of_decide_eq_true h; omega) | (have h0 := of_decide_eq_false h; omega) | (have h0 := h; simp at h0; omega) | (have h0 := h; simp at h0; exact h0)
    conv => whnf
    refine ⟨⟨[], ?_⟩⟩
    conv => whnf
    rw [ho.over (by omega)]

theorem frz_whole (r sz n : Nat) (els : List (List D)) (h : n = els.length) : frz r sz els (.msl r n 0 n) = .d (.sl false sz els) := by
  subst h
  have h1 : Nat.ble (0 + els.length) els.length = true := Nat.ble_eq_true_of_le (by omega)
  have h2 : Nat.beq els.length els.length = true := by simp
  have h3 : Nat.beq r r = true := by simp
  show (match r.beq r, els.length.beq els.length, (0 + els.length).ble els.length with
      | true, true, true => AV.d (D.sl false sz (List.take els.length (List.drop 0 els)))
      | _, _, _ => AV.msl r els.length 0 els.length) = AV.d (D.sl false sz els)
  rw [h1, h2, h3]
  simp
def rowT1 (t : TokT) : List D := [.v (.string (txtS t))]
/-- Join's call: the words' buffer is handed over. -/
theorem join_give (g : GP) (ws : List TokT) (hw : wt ws ≤ 2 ^ 40) (hl : ws.length < 2 ^ 40) : Ctr (ax g).E 83 ([.msl 100 ws.length 0 ws.length, .str ⟨#[32]⟩].map (frz 100 1 (ws.map rowT1))) [] (fun o => o = .ret (.str (joinS ws)) []) := by
  have e : (ws.map txtS).map (·.data.toList) = ws.map txtB := by rw [List.map_map]; exact List.map_congr_left fun t _ => by simp [txtS]
  have h := join_ctr g false (ws.map txtS) ⟨#[32]⟩ (by rw [List.length_map]; omega) (by rw [e]; have := join_wt ws; show (Lib.join (ws.map txtB) [32]).length ≤ _; omega)
  rw [e] at h
  simp only [List.map_cons, List.map_nil, frz_whole 100 1 ws.length (ws.map rowT1) (by simp)]
  rw [List.map_map] at h
  exact h

set_option maxHeartbeats 1000000 in
theorem lexjoin_ctr (g : GP) (hg : ∀ w, g.G w → LibG w) (l : List TokT) (hw : wt l ≤ 2 ^ 40) (hl : l.length < 2 ^ 40) (hn : NumOk l) : Ctr (ax g).E 25 [.d (.sl false 3 (l.map rowK))] [] (fun o => o = .ret (.str (joinS (ahead l))) []) := by
  refine Ctr.body (X := ax g) _ 35 [] [.tmp 2] Tryd.func25 rfl rfl rfl rfl (by decide +kernel) rfl rfl ?_
  conv => whnf
  refine LoopP.own 3 100 1 9 rfl rfl rfl ?_
  refine LoopP.inv (X := ax g) (fun i : Nat => { f := [(6, .d (.sl false 3 (l.map rowK))), (7, .i64 l.length), (8, .i64 i), (3, .msl 100 i 0 i)], h := [(100, some (.buf 1 9 ((l.take i).map rowT1)))] }) (fun i => i ≤ l.length ∧ Open l i) (fun i => l.length - i) 0 ⟨by omega, .zero l⟩ ⟨⟨rfl, AV.int_eq (by simp), rfl, rfl, trivial⟩, ⟨fun o h => h, trivial⟩⟩ fun i ⟨hi, ho⟩ => ?_
  conv => whnf
  refine ifB_intro (fun h => ?_) (fun h => ?_)
  · have h : i < l.length := by first | (have h0 := of_decide_eq_true h; omega) | (have h0 := of_decide_eq_false h; omega) | (have h0 := h; simp at h0; omega) | (have h0 := h; simp at h0; exact h0)
    conv => whnf
    repeat (first | (refine And.intro (by first | exact rfl | decide | exact Nat.le_of_ble_eq_true rfl | exact ⟨_, rfl⟩ | exact ⟨_, _, rfl⟩ | exact Nat.le_refl _ | exact Int.le_refl _ | omega | (simp only [List.length_map]; omega)) ?_; conv => whnf) | rw [getD_map _ _ _ _ (by assumption)])
    refine ifB_intro (fun h2 => ?_) (fun h2 => ?_)
    · have hk : (l[i].kind == 0) = true := h2
      have hk : l[i].kind = 0 := by simpa using hk
      conv => whnf
      have hti : (l.take i).length = i := by rw [List.length_take]; omega
      refine CallP.arg (args' := [.msl 100 (l.take i).length 0 (l.take i).length, .str ⟨#[32]⟩]) (by rw [hti]) ?_
      refine CallP.give 100 1 9 ((l.take i).map rowT1) rfl (join_give g (l.take i) (by have := wt_take l i; omega) (by omega)) ?_
      conv => whnf
      refine ⟨⟨[], ?_⟩⟩
      conv => whnf
      rw [(ho.ends h hk)]
    · have hk : (l[i].kind == 0) = false := h2
      have hk : l[i].kind ≠ 0 := by simpa using hk
      conv => whnf
      repeat (first | (refine And.intro (by first | exact rfl | decide | exact Nat.le_of_ble_eq_true rfl | exact ⟨_, rfl⟩ | exact ⟨_, _, rfl⟩ | exact Nat.le_refl _ | exact Int.le_refl _ | omega | (simp only [List.length_map]; omega)) ?_; conv => whnf) | rw [getD_map _ _ _ _ (by assumption)])
      refine ifB_intro (fun h4 => ?_) (fun h4 => ?_)
      · have hk2 : (l[i].kind == 2) = true := h4
        have hk2 : l[i].kind = 2 := by simpa using hk2
        conv => whnf
        repeat (first | (refine And.intro (by first | exact rfl | decide | exact Nat.le_of_ble_eq_true rfl | exact ⟨_, rfl⟩ | exact ⟨_, _, rfl⟩ | exact Nat.le_refl _ | exact Int.le_refl _ | omega | (simp only [List.length_map]; omega)) ?_; conv => whnf) | rw [getD_map _ _ _ _ (by assumption)])
        have hnum := hn l[i] (List.getElem_mem h)
        refine CallP.arg (args' := [.i64 (l[i].n.toNat : Int)]) ?_ (CallP.det (itoa_ctr g (fun w h => (hg w h).pow10) _ (by omega)) ?_)
        · show [AV.i64 (IntKind.i64.wrap l[i].n)] = _
          rw [i64_wrap (by omega) (by omega), Int.toNat_of_nonneg hnum.1]
        conv => whnf
        have hti : (l.take i).length = i := by rw [List.length_take]; omega
        have htx := (txtS_num hk2)
        repeat (first | (refine And.intro (by first | exact rfl | decide | exact Nat.le_of_ble_eq_true rfl | exact ⟨_, rfl⟩ | exact ⟨_, _, rfl⟩ | exact Nat.le_refl _ | exact Int.le_refl _ | omega | (simp only [List.length_map]; omega)) ?_; conv => whnf) | rw [getD_map _ _ _ _ (by assumption)])
        refine And.intro (by show (((l.take i).map rowT1).length + 1) * 16 ≤ 140737488355328; rw [List.length_map, hti]; omega) ?_
        conv => whnf
        exact ⟨i + 1, ⟨by omega, ho.succ h hk⟩, by omega, ⟨⟨rfl, rfl, AV.int_eq (i64_succ (by omega)), msl_eq (by show ((l.take i).map rowT1).length + 1 = i + 1; rw [List.length_map, hti]), trivial⟩, ⟨fun o h' => by
          rw [List.take_succ_eq_append_getElem h, List.map_append, List.map_cons, List.map_nil, rowT1, htx] at h'
          exact h', trivial⟩⟩⟩
      · have hk2 : (l[i].kind == 2) = false := h4
        have hk2 : l[i].kind ≠ 2 := by simpa using hk2
        conv => whnf
        repeat (first | (refine And.intro (by first | exact rfl | decide | exact Nat.le_of_ble_eq_true rfl | exact ⟨_, rfl⟩ | exact ⟨_, _, rfl⟩ | exact Nat.le_refl _ | exact Int.le_refl _ | omega | (simp only [List.length_map]; omega)) ?_; conv => whnf) | rw [getD_map _ _ _ _ (by assumption)])
        have hti : (l.take i).length = i := by rw [List.length_take]; omega
        have htx := (txtS_text hk2)
        repeat (first | (refine And.intro (by first | exact rfl | decide | exact Nat.le_of_ble_eq_true rfl | exact ⟨_, rfl⟩ | exact ⟨_, _, rfl⟩ | exact Nat.le_refl _ | exact Int.le_refl _ | omega | (simp only [List.length_map]; omega)) ?_; conv => whnf) | rw [getD_map _ _ _ _ (by assumption)])
        refine And.intro (by show (((l.take i).map rowT1).length + 1) * 16 ≤ 140737488355328; rw [List.length_map, hti]; omega) ?_
        conv => whnf
        exact ⟨i + 1, ⟨by omega, ho.succ h hk⟩, by omega, ⟨⟨rfl, rfl, AV.int_eq (i64_succ (by omega)), msl_eq (by show ((l.take i).map rowT1).length + 1 = i + 1; rw [List.length_map, hti]), trivial⟩, ⟨fun o h' => by
          rw [List.take_succ_eq_append_getElem h, List.map_append, List.map_cons, List.map_nil, rowT1, htx] at h'
          exact h', trivial⟩⟩⟩
  · have h : ¬ i < l.length := by first | (have h0 := of_decide_eq_true h; omega) | (have h0 := of_decide_eq_false h; omega) | (have h0 := h; simp at h0; omega) | (have h0 := h; simp at h0; exact h0)
    conv => whnf
    have hti : (l.take i).length = i := by rw [List.length_take]; omega
    refine CallP.arg (args' := [.msl 100 (l.take i).length 0 (l.take i).length, .str ⟨#[32]⟩]) (by rw [hti]) ?_
    refine CallP.give 100 1 9 ((l.take i).map rowT1) rfl (join_give g (l.take i) (by have := wt_take l i; omega) (by omega)) ?_
    conv => whnf
    refine ⟨⟨[], ?_⟩⟩
    conv => whnf
    rw [(ho.over (by omega))]
end Go.Ax
