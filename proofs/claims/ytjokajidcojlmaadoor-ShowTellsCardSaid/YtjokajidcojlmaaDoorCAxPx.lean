import Derived.Test.YtjokajidcojlmaaDoorCAxPw
import Derived.Test.YtjokajidcojlmaaDoorCAxLi

/- Rules as texts. -/
namespace Go.Ax
open Go.Proofs
set_option maxRecDepth 10000

def rowB (x : ByteArray) : List D := [.v (.string x)]
/-- Texts with a sign between. -/
def joinX (sep : ByteArray) (l : List ByteArray) : ByteArray := ⟨(Lib.join (l.map (·.data.toList)) sep.data.toList).toArray⟩
theorem joinX_nil (sep : ByteArray) : joinX sep [] = ⟨#[]⟩ := rfl
theorem joinX_one (sep x : ByteArray) : joinX sep [x] = x := by
  rw [joinX, List.map_cons, List.map_nil, Lib.join_one]
theorem joinX_snoc (sep x : ByteArray) {l : List ByteArray} (h : l ≠ []) : joinX sep (l ++ [x]) = (joinX sep l ++ sep) ++ x := by
  apply ByteArray.ext
  rw [joinX, List.map_append, List.map_cons, List.map_nil, join_snoc _ _ _ (by simpa using h), ByteArray.data_append, ByteArray.data_append]
  simp [joinX]
theorem joinX_next (sep : ByteArray) {l : List ByteArray} {i : Nat} (h : i < l.length) : joinX sep (l.take (i + 1)) = (joinX sep (l.take i) ++ (if i = 0 then ⟨#[]⟩ else sep)) ++ l[i] := by
  rw [List.take_succ_eq_append_getElem h]
  by_cases h0 : i = 0
  · subst h0
    rw [if_pos rfl, bnil, List.take_zero, List.nil_append, joinX_one, joinX_nil, nilb]
  · rw [if_neg h0, joinX_snoc]
    intro he
    have h2 : (l.take i).length = 0 := by rw [he]; rfl
    rw [List.length_take] at h2; omega
theorem joinX_len (sep : ByteArray) (c : Nat) : ∀ (n : Nat) (l : List ByteArray), l.length = n → (∀ x ∈ l, x.size ≤ c) → (joinX sep l).size ≤ (c + sep.size) * l.length
  | 0, l, hn, _ => by
    have := List.eq_nil_of_length_eq_zero hn
    subst this; rw [joinX_nil]; simp [bsz]
  | n + 1, l, hn, h => by
    have h1 := joinX_next sep (l := l) (i := n) (by omega)
    rw [List.take_of_length_le (by omega)] at h1
    have h2 := joinX_len sep c n (l.take n) (by rw [List.length_take]; omega) fun x hx => h x (List.mem_of_mem_take hx)
    have h3 := h l[n] (List.getElem_mem (by omega))
    have e : (c + sep.size) * l.length = (c + sep.size) * n + (c + sep.size) := by rw [hn, Nat.mul_succ]
    rw [h1, ByteArray.size_append, ByteArray.size_append, e]
    rw [List.length_take, Nat.min_eq_left (by omega)] at h2
    have : (if n = 0 then (⟨#[]⟩ : ByteArray) else sep).size ≤ sep.size := by
      split
      · exact Nat.zero_le _
      · exact Nat.le_refl _
    omega
theorem joinX_join (sep : ByteArray) (l : List ByteArray) : (Lib.join (l.map (·.data.toList)) sep.data.toList).length = (joinX sep l).size := by
  show _ = Array.size _
  simp [joinX]
/-- strings.Join, of an own buffer. -/
theorem sjoin_ctr (g : GP) (r : Nat) (l : List ByteArray) (sep : ByteArray) (hl : l.length ≤ 2 ^ 40) (hs : (joinX sep l).size ≤ 2 ^ 46) : Ctr (ax g).E 83 ([.msl r l.length 0 l.length, .str sep].map (frz r 1 (l.map rowB))) [] (fun o => o = .ret (.str (joinX sep l)) []) := by
  have h := join_ctr g false l sep (by omega) (by rw [joinX_join]; omega)
  simp only [List.map_cons, List.map_nil, frz_whole r 1 l.length (l.map rowB) (by simp)]
  exact h

def andB : ByteArray := ⟨#[32, 38, 32]⟩
theorem rjoin_ctr (g : GP) (l : List ByteArray) (hl : l.length ≤ 2 ^ 40) (c : Nat) (hc : c ≤ 2 ^ 20) (hx : ∀ x ∈ l, x.size ≤ c) : Ctr (ax g).E 82 [.d (.sl false 1 (l.map rowB))] [] (fun o => o = .ret (.str (joinX andB l)) []) := by
  refine Ctr.body (X := ax g) _ 22 [] [.tmp 2] Tryd.func82 rfl rfl rfl rfl (by decide +kernel) rfl rfl ?_
  conv => whnf
  refine LoopP.inv (X := ax g) (fun i : Nat => { f := [(0, .d (.sl false 1 (l.map rowB))), (2, .str ⟨#[]⟩), (3, .str (joinX andB (l.take i))), (4, .i64 i)], h := [] }) (fun i => i ≤ l.length) (fun i => l.length - i) 0 (Nat.zero_le _) ⟨⟨rfl, rfl, rfl, rfl, trivial⟩, trivial⟩ fun i hi => ?_
  have hj := joinX_len andB c _ (l.take i) rfl fun x hx2 => hx x (List.mem_of_mem_take hx2)
  rw [List.length_take, Nat.min_eq_left hi] at hj
  have hj2 : (joinX andB (l.take i)).size ≤ 2 ^ 62 := by
    have h1 : andB.size = 3 := rfl
    rw [h1] at hj
    have := Nat.mul_le_mul (show c + 3 ≤ 2 ^ 21 by omega) (show i ≤ 2 ^ 40 by omega)
    omega
  by_cases hlt : i < l.length
  · have hstep := joinX_next andB hlt
    have hxi := hx _ (List.getElem_mem hlt)
    conv => whnf
    refine ifB_true (by simp only [List.length_map]; exact decide_eq_true (by omega)) ?_
    conv => whnf
    repeat' (first | (refine And.intro (by first | exact rfl | decide | exact Nat.le_of_ble_eq_true rfl | exact ⟨_, rfl⟩ | exact ⟨_, _, rfl⟩ | exact Nat.le_refl _ | exact Int.le_refl _ | omega | (simp only [List.length_map]; omega) | exact True.intro | (simp only [IntKind.wrap_i64, List.length_map]; omega) | (simp only [bsz, ByteArray.size_append, List.size_toArray, List.length_cons, List.length_nil]; omega) | exact ⟨⟨_, _, rfl, rfl, Nat.le_of_ble_eq_true rfl⟩, trivial⟩ | exact ⟨⟨_, _, rfl, rfl, Nat.le_of_ble_eq_true rfl⟩, ⟨_, _, rfl, rfl, Nat.le_of_ble_eq_true rfl⟩, trivial⟩ | exact ⟨⟨_, _, rfl, rfl, Nat.le_of_ble_eq_true rfl⟩, ⟨_, _, rfl, rfl, Nat.le_of_ble_eq_true rfl⟩, ⟨_, _, rfl, rfl, Nat.le_of_ble_eq_true rfl⟩, trivial⟩) ?_; conv => whnf) | (refine ifB_intro (fun hA => ?_) (fun hA => ?_) <;> (try rw [hA]) <;> (conv => whnf) <;> (first | replace hA := of_decide_eq_true hA | replace hA := of_decide_eq_false hA | replace hA := eq_of_beq hA | replace hA := ne_of_beq_false hA | skip) <;> (try simp only [List.length_map, cond_true, cond_false, Bool.not_eq_true', Bool.not_eq_false', beq_iff_eq, beq_eq_false_iff_ne, ne_eq] at hA)) | (rw [getD_map rowB l i [] hlt]; conv => whnf) | (refine And.intro (by simp only [bsz, ByteArray.size_append, List.size_toArray, List.length_cons, List.length_nil]; omega) ?_; conv => whnf) | (rw [getD_map _ _ _ _ (by assumption)]; conv => whnf))
    all_goals
      refine ⟨i + 1, by omega, by omega, ⟨⟨rfl, rfl, ?_, AV.int_eq (i64_succ (by omega)), trivial⟩, trivial⟩⟩
      rw [hstep]
      rcases Nat.eq_zero_or_pos i with h0 | h0
      · first
          | (exfalso; omega)
          | (rw [if_pos h0, bnil]; rfl)
      · first
          | (exfalso; omega)
          | (rw [if_neg (Nat.ne_of_gt h0)]; rfl)
  · conv => whnf
    refine ifB_false (by simp only [List.length_map]; exact decide_eq_false (by omega)) ?_
    conv => whnf
    refine ⟨⟨[], ?_⟩⟩
    conv => whnf
    rw [List.take_of_length_le (by omega)]

theorem app_row (L : List ByteArray) (x : ByteArray) : (L.map rowB) ++ [[.v (.string x)]] = (L ++ [x]).map rowB := by simp [rowB]
abbrev OkF (p : PairT) : Prop := (0 ≤ p.1 ∧ p.1 < 65536) ∧ 0 ≤ p.2 ∧ p.2 < 65536
def askG (sign : ByteArray) (p : PairT) : ByteArray := partB p.1 sign p.2
def askW (p : PairT) : ByteArray := (nameF p.1 ++ ⟨#[61]⟩) ++ digB p.2.toNat
theorem askG_len {sign : ByteArray} {p : PairT} (h : OkF p) (hs : sign.size ≤ 2) : (askG sign p).size ≤ 13 := by
  have h1 := digI_len h.1.2
  have h2 := digI_len h.2.2
  simp only [askG, partB, bsz, ByteArray.size_append, List.size_toArray, List.length_cons, List.length_nil]; omega
theorem askW_len {p : PairT} (h : OkF p) : (askW p).size ≤ 13 := by
  have h1 := name_len p.1
  have h2 := digI_len h.2.2
  simp only [askW, bsz, ByteArray.size_append, List.size_toArray, List.length_cons, List.length_nil]; omega

theorem map_next {α β : Type} (f : α → β) {l : List α} {i : Nat} (h : i < l.length) : (l.take (i + 1)).map f = (l.take i).map f ++ [f l[i]] := by
  rw [List.take_succ_eq_append_getElem h, List.map_append]; rfl
theorem buf_row (L : List ByteArray) (x : ByteArray) : some (AObj.buf 1 9 ((L.map rowB) ++ [[.v (.string x)]])) = some (AObj.buf 1 9 ((L ++ [x]).map rowB)) := by rw [app_row]

theorem parts_ctr (g : GP) (l : List PairT) (sign : ByteArray) (hl : l.length < 2 ^ 30) (ho : ∀ p ∈ l, OkF p) (hs : sign.size ≤ 2) : Ctr (ax g).E 81 [.d (.sl false 2 (l.map rowF)), .str sign] [] (fun o => o = .ret (.d (.sl false 1 ((l.map (askG sign)).map rowB))) []) := by
  refine Ctr.body (X := ax g) _ 34 [] [.tmp 4] Tryd.func81 rfl rfl rfl rfl (by decide +kernel) rfl rfl ?_
  conv => whnf
  refine LoopP.own 5 100 1 9 rfl rfl rfl ?_
  refine LoopP.inv (X := ax g) (fun i : Nat => { f := [(0, .d (.sl false 2 (l.map rowF))), (1, .str sign), (5, .msl 100 i 0 i), (6, .i64 i)], h := [(100, some (.buf 1 9 (((l.take i).map (askG sign)).map rowB)))] }) (fun i => i ≤ l.length) (fun i => l.length - i) 0 (Nat.zero_le _) ⟨⟨rfl, rfl, rfl, rfl, trivial⟩, ⟨fun o h => h, trivial⟩⟩ fun i hi => ?_
  have hti : (((l.take i).map (askG sign)).map rowB).length = i := by simp; omega
  by_cases hlt : i < l.length
  · obtain ⟨⟨o1, o2⟩, o3, o4⟩ := ho _ (List.getElem_mem hlt)
    have h1 := digI_len o2
    have h2 := digI_len o4
    conv => whnf
    refine ifB_true (by simp only [List.length_map]; exact decide_eq_true (by omega)) ?_
    conv => whnf
    repeat' (first | (refine And.intro (by first | exact rfl | decide | exact Nat.le_of_ble_eq_true rfl | exact ⟨_, rfl⟩ | exact ⟨_, _, rfl⟩ | exact Nat.le_refl _ | exact Int.le_refl _ | omega | (simp only [List.length_map]; omega) | exact True.intro | (simp only [IntKind.wrap_i64, List.length_map]; omega) | (simp only [bsz, ByteArray.size_append, List.size_toArray, List.length_cons, List.length_nil]; omega) | exact ⟨⟨_, _, rfl, rfl, Nat.le_of_ble_eq_true rfl⟩, trivial⟩ | exact ⟨⟨_, _, rfl, rfl, Nat.le_of_ble_eq_true rfl⟩, ⟨_, _, rfl, rfl, Nat.le_of_ble_eq_true rfl⟩, trivial⟩ | exact ⟨⟨_, _, rfl, rfl, Nat.le_of_ble_eq_true rfl⟩, ⟨_, _, rfl, rfl, Nat.le_of_ble_eq_true rfl⟩, ⟨_, _, rfl, rfl, Nat.le_of_ble_eq_true rfl⟩, trivial⟩) ?_; conv => whnf) | (refine ifB_intro (fun hA => ?_) (fun hA => ?_) <;> (try rw [hA]) <;> (conv => whnf) <;> (first | replace hA := of_decide_eq_true hA | replace hA := of_decide_eq_false hA | replace hA := eq_of_beq hA | replace hA := ne_of_beq_false hA | skip) <;> (try simp only [List.length_map, cond_true, cond_false, Bool.not_eq_true', Bool.not_eq_false', beq_iff_eq, beq_eq_false_iff_ne, ne_eq] at hA)) | (refine DrawP.intro (X := ax g) (id := 5) B81_5 (by kernel_rfl) (by decide +kernel) ?_; conv => whnf) | (rw [getD_map rowF l i [] hlt]; conv => whnf) | (refine CallP.det (rdigits_ctr g l[i].1 (by omega)) ?_; conv => whnf) | (refine CallD.det (rdigits_ctr g l[i].1 (by omega)) ?_; conv => whnf) | (rw [i64_wrap (n := l[i].2) (by omega) (by omega)]; conv => whnf) | (refine CallP.det (rdigits_ctr g l[i].2 (by omega)) ?_; conv => whnf) | (refine CallD.det (rdigits_ctr g l[i].2 (by omega)) ?_; conv => whnf) | (refine And.intro (by simp only [bsz, ByteArray.size_append, List.size_toArray, List.length_cons, List.length_nil]; omega) ?_; conv => whnf) | (rw [getD_map _ _ _ _ (by assumption)]; conv => whnf))
    exact ⟨i + 1, by omega, by omega, ⟨⟨rfl, rfl, msl_eq (by show _ + 1 = i + 1; rw [hti]), AV.int_eq (i64_succ (by omega)), trivial⟩, ⟨fun o h => by rw [← h, map_next _ hlt]; exact buf_row _ _, trivial⟩⟩⟩
  · conv => whnf
    refine ifB_false (by simp only [List.length_map]; exact decide_eq_false (by omega)) ?_
    conv => whnf
    refine ⟨⟨[], ?_⟩⟩
    conv => whnf
    refine And.intro hti.symm ?_
    conv => whnf
    refine And.intro (by rw [hti]; omega) ?_
    conv => whnf
    have hi2 : i = l.length := by omega
    rw [List.drop_zero, List.take_of_length_le (by rw [hti]; exact Nat.le_refl _), hi2, List.take_length]

structure OkR (r : RuleT) : Prop where
  when : ∀ p ∈ r.when, OkF p
  guard : ∀ p ∈ r.guard, OkF p
  thn : ∀ p ∈ r.thn, OkF p
  lw : r.when.length ≤ 2 ^ 20
  lg : r.guard.length ≤ 2 ^ 20
  lt : r.thn.length ≤ 2 ^ 20
def asksB (r : RuleT) : List ByteArray := r.when.map askW ++ r.guard.map (askG ⟨#[61]⟩)
def makesB (r : RuleT) : List ByteArray := r.thn.map (askG ⟨#[58, 61]⟩)
def lineB (r : RuleT) : ByteArray := (((⟨#[111, 110, 32]⟩ ++ joinX andB (asksB r)) ++ ⟨#[32, 61, 62, 32]⟩) ++ joinX andB (makesB r)) ++ ⟨#[32, 46]⟩
theorem asks_len {r : RuleT} (h : OkR r) : (asksB r).length ≤ 2 ^ 21 ∧ ∀ x ∈ asksB r, x.size ≤ 13 := by
  refine ⟨by simp [asksB]; have := h.lw; have := h.lg; omega, fun x hx => ?_⟩
  rcases List.mem_append.1 hx with hx | hx
  · obtain ⟨p, hp, rfl⟩ := List.mem_map.1 hx
    exact askW_len (h.when p hp)
  · obtain ⟨p, hp, rfl⟩ := List.mem_map.1 hx
    exact askG_len (h.guard p hp) (by decide)
theorem makes_len {r : RuleT} (h : OkR r) : (makesB r).length ≤ 2 ^ 21 ∧ ∀ x ∈ makesB r, x.size ≤ 13 := by
  refine ⟨by simp [makesB]; have := h.lt; omega, fun x hx => ?_⟩
  obtain ⟨p, hp, rfl⟩ := List.mem_map.1 hx
  exact askG_len (h.thn p hp) (by decide)
theorem join_small {l : List ByteArray} (h : l.length ≤ 2 ^ 21 ∧ ∀ x ∈ l, x.size ≤ 13) : (joinX andB l).size ≤ 2 ^ 25 := by
  have h1 := joinX_len andB 13 _ l rfl h.2
  have h2 : andB.size = 3 := rfl
  rw [h2] at h1; omega
theorem lineB_len {r : RuleT} (h : OkR r) : (lineB r).size ≤ 2 ^ 27 := by
  have h1 := join_small (asks_len h)
  have h2 := join_small (makes_len h)
  simp only [lineB, bsz, ByteArray.size_append, List.size_toArray, List.length_cons, List.length_nil]; omega

theorem line_ctr (g : GP) (hg : ∀ w, g.G w → PowG w) (r : RuleT) (h : OkR r) : Ctr (ax g).E 78 [.dagg (rowR r)] [] (fun o => o = .ret (.str (lineB r)) []) := by
  have hlw := h.lw; have hlg := h.lg; have hlt := h.lt
  refine Ctr.body (X := ax g) _ 70 [] [.tmp 2] Tryd.func78 rfl rfl rfl rfl (by decide +kernel) rfl rfl ?_
  conv => whnf
  repeat' (first | (refine And.intro (by first | exact rfl | decide | exact Nat.le_of_ble_eq_true rfl | exact ⟨_, rfl⟩ | exact ⟨_, _, rfl⟩ | exact Nat.le_refl _ | exact Int.le_refl _ | omega | (simp only [List.length_map]; omega) | exact True.intro | (simp only [IntKind.wrap_i64, List.length_map]; omega) | (simp only [bsz, ByteArray.size_append, List.size_toArray, List.length_cons, List.length_nil]; omega) | exact ⟨⟨_, _, rfl, rfl, Nat.le_of_ble_eq_true rfl⟩, trivial⟩ | exact ⟨⟨_, _, rfl, rfl, Nat.le_of_ble_eq_true rfl⟩, ⟨_, _, rfl, rfl, Nat.le_of_ble_eq_true rfl⟩, trivial⟩ | exact ⟨⟨_, _, rfl, rfl, Nat.le_of_ble_eq_true rfl⟩, ⟨_, _, rfl, rfl, Nat.le_of_ble_eq_true rfl⟩, ⟨_, _, rfl, rfl, Nat.le_of_ble_eq_true rfl⟩, trivial⟩) ?_; conv => whnf) | (refine ifB_intro (fun hA => ?_) (fun hA => ?_) <;> (try rw [hA]) <;> (conv => whnf) <;> (first | replace hA := of_decide_eq_true hA | replace hA := of_decide_eq_false hA | replace hA := eq_of_beq hA | replace hA := ne_of_beq_false hA | skip) <;> (try simp only [List.length_map, cond_true, cond_false, Bool.not_eq_true', Bool.not_eq_false', beq_iff_eq, beq_eq_false_iff_ne, ne_eq] at hA)) | (rw [getD_map _ _ _ _ (by assumption)]; conv => whnf))
  refine LoopP.own 3 100 1 9 rfl rfl rfl ?_
  refine LoopP.own 4 101 1 9 rfl rfl rfl ?_
  refine LoopP.inv (X := ax g) (fun i : Nat => { f := [(1, .ptr 1 0), (3, .msl 100 i 0 i), (4, .msl 101 0 0 0), (12, .d (.sl false 2 (r.when.map rowF))), (13, .i64 r.when.length), (14, .i64 i)], h := [(100, some (.buf 1 9 (((r.when.take i).map askW).map rowB))), (101, some (.buf 1 9 [])), (1, some (.dvar 3 (rowR r)))] }) (fun i => i ≤ r.when.length) (fun i => r.when.length - i) 0 (Nat.zero_le _) ⟨⟨rfl, rfl, rfl, rfl, AV.int_eq (len_int _ _), rfl, trivial⟩, ⟨fun o h => h, fun o h => h, fun o h => h, trivial⟩⟩ fun i hi => ?_
  have hti : (((r.when.take i).map askW).map rowB).length = i := by simp; omega
  by_cases hlt : i < r.when.length
  · obtain ⟨⟨o1, o2⟩, o3, o4⟩ := h.when _ (List.getElem_mem hlt)
    have h1 := name_len r.when[i].1
    have h2 := digI_len o4
    conv => whnf
    refine ifB_true (decide_eq_true (by omega)) ?_
    conv => whnf
    repeat' (first | (refine And.intro (by first | exact rfl | decide | exact Nat.le_of_ble_eq_true rfl | exact ⟨_, rfl⟩ | exact ⟨_, _, rfl⟩ | exact Nat.le_refl _ | exact Int.le_refl _ | omega | (simp only [List.length_map]; omega) | exact True.intro | (simp only [IntKind.wrap_i64, List.length_map]; omega) | (simp only [bsz, ByteArray.size_append, List.size_toArray, List.length_cons, List.length_nil]; omega) | exact ⟨⟨_, _, rfl, rfl, Nat.le_of_ble_eq_true rfl⟩, trivial⟩ | exact ⟨⟨_, _, rfl, rfl, Nat.le_of_ble_eq_true rfl⟩, ⟨_, _, rfl, rfl, Nat.le_of_ble_eq_true rfl⟩, trivial⟩ | exact ⟨⟨_, _, rfl, rfl, Nat.le_of_ble_eq_true rfl⟩, ⟨_, _, rfl, rfl, Nat.le_of_ble_eq_true rfl⟩, ⟨_, _, rfl, rfl, Nat.le_of_ble_eq_true rfl⟩, trivial⟩) ?_; conv => whnf) | (refine ifB_intro (fun hA => ?_) (fun hA => ?_) <;> (try rw [hA]) <;> (conv => whnf) <;> (first | replace hA := of_decide_eq_true hA | replace hA := of_decide_eq_false hA | replace hA := eq_of_beq hA | replace hA := ne_of_beq_false hA | skip) <;> (try simp only [List.length_map, cond_true, cond_false, Bool.not_eq_true', Bool.not_eq_false', beq_iff_eq, beq_eq_false_iff_ne, ne_eq] at hA)) | (refine DrawP.intro (X := ax g) (id := 5) B78_5 (by kernel_rfl) (by decide +kernel) ?_; conv => whnf) | (rw [getD_map rowF r.when i [] hlt]; conv => whnf) | (refine CallP.det (name_ctr g _) ?_; conv => whnf) | (refine CallD.det (name_ctr g _) ?_; conv => whnf) | (refine CallP.det (digits6_ctr g hg _ ⟨o3, o4⟩) ?_; conv => whnf) | (refine CallD.det (digits6_ctr g hg _ ⟨o3, o4⟩) ?_; conv => whnf) | (refine And.intro (by simp only [bsz, ByteArray.size_append, List.size_toArray, List.length_cons, List.length_nil]; omega) ?_; conv => whnf) | (rw [getD_map _ _ _ _ (by assumption)]; conv => whnf))
    exact ⟨i + 1, by omega, by omega, ⟨⟨rfl, msl_eq (by show _ + 1 = i + 1; rw [hti]), rfl, rfl, rfl, AV.int_eq (i64_succ (by omega)), trivial⟩, ⟨fun o h => by rw [← h, map_next _ hlt]; exact buf_row _ _, fun o h => h, fun o h => h, trivial⟩⟩⟩
  · have hi2 : i = r.when.length := by omega
    conv => whnf
    refine ifB_false (decide_eq_false (by omega)) ?_
    conv => whnf
    repeat' (first | (refine And.intro (by first | exact rfl | decide | exact Nat.le_of_ble_eq_true rfl | exact ⟨_, rfl⟩ | exact ⟨_, _, rfl⟩ | exact Nat.le_refl _ | exact Int.le_refl _ | omega | (simp only [List.length_map]; omega) | exact True.intro | (simp only [IntKind.wrap_i64, List.length_map]; omega) | (simp only [bsz, ByteArray.size_append, List.size_toArray, List.length_cons, List.length_nil]; omega) | exact ⟨⟨_, _, rfl, rfl, Nat.le_of_ble_eq_true rfl⟩, trivial⟩ | exact ⟨⟨_, _, rfl, rfl, Nat.le_of_ble_eq_true rfl⟩, ⟨_, _, rfl, rfl, Nat.le_of_ble_eq_true rfl⟩, trivial⟩ | exact ⟨⟨_, _, rfl, rfl, Nat.le_of_ble_eq_true rfl⟩, ⟨_, _, rfl, rfl, Nat.le_of_ble_eq_true rfl⟩, ⟨_, _, rfl, rfl, Nat.le_of_ble_eq_true rfl⟩, trivial⟩) ?_; conv => whnf) | (refine ifB_intro (fun hA => ?_) (fun hA => ?_) <;> (try rw [hA]) <;> (conv => whnf) <;> (first | replace hA := of_decide_eq_true hA | replace hA := of_decide_eq_false hA | replace hA := eq_of_beq hA | replace hA := ne_of_beq_false hA | skip) <;> (try simp only [List.length_map, cond_true, cond_false, Bool.not_eq_true', Bool.not_eq_false', beq_iff_eq, beq_eq_false_iff_ne, ne_eq] at hA)) | (rw [getD_map _ _ _ _ (by assumption)]; conv => whnf))
    subst hi2
    rw [List.take_length] at hti ⊢
    clear hti hlt hi
    refine LoopP.inv (X := ax g) (fun i : Nat => { f := [(1, .ptr 1 0), (3, .msl 100 (r.when.length + i) 0 (r.when.length + i)), (4, .msl 101 0 0 0), (31, .d (.sl false 2 (r.guard.map rowF))), (32, .i64 r.guard.length), (33, .i64 i)], h := [(100, some (.buf 1 9 ((r.when.map askW ++ (r.guard.take i).map (askG ⟨#[61]⟩)).map rowB))), (101, some (.buf 1 9 [])), (1, some (.dvar 3 (rowR r)))] }) (fun i => i ≤ r.guard.length) (fun i => r.guard.length - i) 0 (Nat.zero_le _) ⟨⟨rfl, rfl, rfl, rfl, AV.int_eq (len_int _ _), rfl, trivial⟩, ⟨fun o h => by rw [← h, List.take_zero, List.map_nil, List.append_nil]; rfl, fun o h => h, fun o h => h, trivial⟩⟩ fun i hi => ?_
    have hti : ((r.when.map askW ++ (r.guard.take i).map (askG ⟨#[61]⟩)).map rowB).length = r.when.length + i := by simp; omega
    by_cases hlt : i < r.guard.length
    · obtain ⟨o12, o34⟩ := h.guard _ (List.getElem_mem hlt)
      conv => whnf
      refine ifB_true (decide_eq_true (by omega)) ?_
      conv => whnf
      repeat' (first | (refine And.intro (by first | exact rfl | decide | exact Nat.le_of_ble_eq_true rfl | exact ⟨_, rfl⟩ | exact ⟨_, _, rfl⟩ | exact Nat.le_refl _ | exact Int.le_refl _ | omega | (simp only [List.length_map]; omega) | exact True.intro | (simp only [IntKind.wrap_i64, List.length_map]; omega) | (simp only [bsz, ByteArray.size_append, List.size_toArray, List.length_cons, List.length_nil]; omega) | exact ⟨⟨_, _, rfl, rfl, Nat.le_of_ble_eq_true rfl⟩, trivial⟩ | exact ⟨⟨_, _, rfl, rfl, Nat.le_of_ble_eq_true rfl⟩, ⟨_, _, rfl, rfl, Nat.le_of_ble_eq_true rfl⟩, trivial⟩ | exact ⟨⟨_, _, rfl, rfl, Nat.le_of_ble_eq_true rfl⟩, ⟨_, _, rfl, rfl, Nat.le_of_ble_eq_true rfl⟩, ⟨_, _, rfl, rfl, Nat.le_of_ble_eq_true rfl⟩, trivial⟩) ?_; conv => whnf) | (refine ifB_intro (fun hA => ?_) (fun hA => ?_) <;> (try rw [hA]) <;> (conv => whnf) <;> (first | replace hA := of_decide_eq_true hA | replace hA := of_decide_eq_false hA | replace hA := eq_of_beq hA | replace hA := ne_of_beq_false hA | skip) <;> (try simp only [List.length_map, cond_true, cond_false, Bool.not_eq_true', Bool.not_eq_false', beq_iff_eq, beq_eq_false_iff_ne, ne_eq] at hA)) | (rw [getD_map rowF r.guard i [] hlt]; conv => whnf) | (refine CallP.det (part_ctr g hg _ _ _ o12 o34 (by decide)) ?_; conv => whnf) | (refine CallD.det (part_ctr g hg _ _ _ o12 o34 (by decide)) ?_; conv => whnf) | (rw [getD_map _ _ _ _ (by assumption)]; conv => whnf))
      exact ⟨i + 1, by omega, by omega, ⟨⟨rfl, msl_eq (by show _ + 1 = _ + (i + 1); rw [hti]; omega), rfl, rfl, rfl, AV.int_eq (i64_succ (by omega)), trivial⟩, ⟨fun o h => by rw [← h, map_next _ hlt, ← List.append_assoc]; exact buf_row _ _, fun o h => h, fun o h => h, trivial⟩⟩⟩
    · have hi2 : i = r.guard.length := by omega
      conv => whnf
      refine ifB_false (decide_eq_false (by omega)) ?_
      conv => whnf
      repeat' (first | (refine And.intro (by first | exact rfl | decide | exact Nat.le_of_ble_eq_true rfl | exact ⟨_, rfl⟩ | exact ⟨_, _, rfl⟩ | exact Nat.le_refl _ | exact Int.le_refl _ | omega | (simp only [List.length_map]; omega) | exact True.intro | (simp only [IntKind.wrap_i64, List.length_map]; omega) | (simp only [bsz, ByteArray.size_append, List.size_toArray, List.length_cons, List.length_nil]; omega) | exact ⟨⟨_, _, rfl, rfl, Nat.le_of_ble_eq_true rfl⟩, trivial⟩ | exact ⟨⟨_, _, rfl, rfl, Nat.le_of_ble_eq_true rfl⟩, ⟨_, _, rfl, rfl, Nat.le_of_ble_eq_true rfl⟩, trivial⟩ | exact ⟨⟨_, _, rfl, rfl, Nat.le_of_ble_eq_true rfl⟩, ⟨_, _, rfl, rfl, Nat.le_of_ble_eq_true rfl⟩, ⟨_, _, rfl, rfl, Nat.le_of_ble_eq_true rfl⟩, trivial⟩) ?_; conv => whnf) | (refine ifB_intro (fun hA => ?_) (fun hA => ?_) <;> (try rw [hA]) <;> (conv => whnf) <;> (first | replace hA := of_decide_eq_true hA | replace hA := of_decide_eq_false hA | replace hA := eq_of_beq hA | replace hA := ne_of_beq_false hA | skip) <;> (try simp only [List.length_map, cond_true, cond_false, Bool.not_eq_true', Bool.not_eq_false', beq_iff_eq, beq_eq_false_iff_ne, ne_eq] at hA)) | (rw [getD_map _ _ _ _ (by assumption)]; conv => whnf))
      subst hi2
      rw [List.take_length] at hti ⊢
      have hal : r.when.length + r.guard.length = (asksB r).length := by simp [asksB]
      have has : r.when.map askW ++ r.guard.map (askG ⟨#[61]⟩) = asksB r := rfl
      rw [has] at hti ⊢
      rw [hal]
      clear hti hlt hi has
      refine LoopP.inv (X := ax g) (fun i : Nat => { f := [(3, .msl 100 (asksB r).length 0 (asksB r).length), (4, .msl 101 i 0 i), (47, .d (.sl false 2 (r.thn.map rowF))), (48, .i64 r.thn.length), (49, .i64 i)], h := [(100, some (.buf 1 9 ((asksB r).map rowB))), (101, some (.buf 1 9 (((r.thn.take i).map (askG ⟨#[58, 61]⟩)).map rowB)))] }) (fun i => i ≤ r.thn.length) (fun i => r.thn.length - i) 0 (Nat.zero_le _) ⟨⟨rfl, rfl, rfl, AV.int_eq (len_int _ _), rfl, trivial⟩, ⟨fun o h => h, fun o h => h, trivial⟩⟩ fun i hi => ?_
      have hti : (((r.thn.take i).map (askG ⟨#[58, 61]⟩)).map rowB).length = i := by simp; omega
      by_cases hlt : i < r.thn.length
      · obtain ⟨o12, o34⟩ := h.thn _ (List.getElem_mem hlt)
        conv => whnf
        refine ifB_true (decide_eq_true (by omega)) ?_
        conv => whnf
        repeat' (first | (refine And.intro (by first | exact rfl | decide | exact Nat.le_of_ble_eq_true rfl | exact ⟨_, rfl⟩ | exact ⟨_, _, rfl⟩ | exact Nat.le_refl _ | exact Int.le_refl _ | omega | (simp only [List.length_map]; omega) | exact True.intro | (simp only [IntKind.wrap_i64, List.length_map]; omega) | (simp only [bsz, ByteArray.size_append, List.size_toArray, List.length_cons, List.length_nil]; omega) | exact ⟨⟨_, _, rfl, rfl, Nat.le_of_ble_eq_true rfl⟩, trivial⟩ | exact ⟨⟨_, _, rfl, rfl, Nat.le_of_ble_eq_true rfl⟩, ⟨_, _, rfl, rfl, Nat.le_of_ble_eq_true rfl⟩, trivial⟩ | exact ⟨⟨_, _, rfl, rfl, Nat.le_of_ble_eq_true rfl⟩, ⟨_, _, rfl, rfl, Nat.le_of_ble_eq_true rfl⟩, ⟨_, _, rfl, rfl, Nat.le_of_ble_eq_true rfl⟩, trivial⟩) ?_; conv => whnf) | (refine ifB_intro (fun hA => ?_) (fun hA => ?_) <;> (try rw [hA]) <;> (conv => whnf) <;> (first | replace hA := of_decide_eq_true hA | replace hA := of_decide_eq_false hA | replace hA := eq_of_beq hA | replace hA := ne_of_beq_false hA | skip) <;> (try simp only [List.length_map, cond_true, cond_false, Bool.not_eq_true', Bool.not_eq_false', beq_iff_eq, beq_eq_false_iff_ne, ne_eq] at hA)) | (rw [getD_map rowF r.thn i [] hlt]; conv => whnf) | (refine CallP.det (part_ctr g hg _ _ _ o12 o34 (by decide)) ?_; conv => whnf) | (refine CallD.det (part_ctr g hg _ _ _ o12 o34 (by decide)) ?_; conv => whnf) | (rw [getD_map _ _ _ _ (by assumption)]; conv => whnf))
        exact ⟨i + 1, by omega, by omega, ⟨⟨rfl, msl_eq (by show _ + 1 = i + 1; rw [hti]), rfl, rfl, AV.int_eq (i64_succ (by omega)), trivial⟩, ⟨fun o h => h, fun o h => by rw [← h, map_next _ hlt]; exact buf_row _ _, trivial⟩⟩⟩
      · have hi2 : i = (makesB r).length := by simp [makesB]; omega
        have hmk : (r.thn.take i).map (askG ⟨#[58, 61]⟩) = makesB r := by rw [List.take_of_length_le (by omega)]; rfl
        have j1 := join_small (asks_len h)
        have j2 := join_small (makes_len h)
        have l1 := (asks_len h).1
        have l2 := (makes_len h).1
        rw [hmk, hi2]
        conv => whnf
        refine ifB_false (decide_eq_false (by simp [makesB])) ?_
        conv => whnf
        repeat' (first | (refine And.intro (by first | exact rfl | decide | exact Nat.le_of_ble_eq_true rfl | exact ⟨_, rfl⟩ | exact ⟨_, _, rfl⟩ | exact Nat.le_refl _ | exact Int.le_refl _ | omega | (simp only [List.length_map]; omega) | exact True.intro | (simp only [IntKind.wrap_i64, List.length_map]; omega) | (simp only [bsz, ByteArray.size_append, List.size_toArray, List.length_cons, List.length_nil]; omega) | exact ⟨⟨_, _, rfl, rfl, Nat.le_of_ble_eq_true rfl⟩, trivial⟩ | exact ⟨⟨_, _, rfl, rfl, Nat.le_of_ble_eq_true rfl⟩, ⟨_, _, rfl, rfl, Nat.le_of_ble_eq_true rfl⟩, trivial⟩ | exact ⟨⟨_, _, rfl, rfl, Nat.le_of_ble_eq_true rfl⟩, ⟨_, _, rfl, rfl, Nat.le_of_ble_eq_true rfl⟩, ⟨_, _, rfl, rfl, Nat.le_of_ble_eq_true rfl⟩, trivial⟩) ?_; conv => whnf) | (refine ifB_intro (fun hA => ?_) (fun hA => ?_) <;> (try rw [hA]) <;> (conv => whnf) <;> (first | replace hA := of_decide_eq_true hA | replace hA := of_decide_eq_false hA | replace hA := eq_of_beq hA | replace hA := ne_of_beq_false hA | skip) <;> (try simp only [List.length_map, cond_true, cond_false, Bool.not_eq_true', Bool.not_eq_false', beq_iff_eq, beq_eq_false_iff_ne, ne_eq] at hA)) | (rw [getD_map _ _ _ _ (by assumption)]; conv => whnf))
        refine CallP.give 100 1 9 ((asksB r).map rowB) rfl (sjoin_ctr g 100 (asksB r) andB (by omega) (by omega)) ?_
        conv => whnf
        repeat' (first | (refine And.intro (by first | exact rfl | decide | exact Nat.le_of_ble_eq_true rfl | exact ⟨_, rfl⟩ | exact ⟨_, _, rfl⟩ | exact Nat.le_refl _ | exact Int.le_refl _ | omega | (simp only [List.length_map]; omega) | exact True.intro | (simp only [IntKind.wrap_i64, List.length_map]; omega) | (simp only [bsz, ByteArray.size_append, List.size_toArray, List.length_cons, List.length_nil]; omega) | exact ⟨⟨_, _, rfl, rfl, Nat.le_of_ble_eq_true rfl⟩, trivial⟩ | exact ⟨⟨_, _, rfl, rfl, Nat.le_of_ble_eq_true rfl⟩, ⟨_, _, rfl, rfl, Nat.le_of_ble_eq_true rfl⟩, trivial⟩ | exact ⟨⟨_, _, rfl, rfl, Nat.le_of_ble_eq_true rfl⟩, ⟨_, _, rfl, rfl, Nat.le_of_ble_eq_true rfl⟩, ⟨_, _, rfl, rfl, Nat.le_of_ble_eq_true rfl⟩, trivial⟩) ?_; conv => whnf) | (refine ifB_intro (fun hA => ?_) (fun hA => ?_) <;> (try rw [hA]) <;> (conv => whnf) <;> (first | replace hA := of_decide_eq_true hA | replace hA := of_decide_eq_false hA | replace hA := eq_of_beq hA | replace hA := ne_of_beq_false hA | skip) <;> (try simp only [List.length_map, cond_true, cond_false, Bool.not_eq_true', Bool.not_eq_false', beq_iff_eq, beq_eq_false_iff_ne, ne_eq] at hA)) | (refine And.intro (by simp only [bsz, ByteArray.size_append, List.size_toArray, List.length_cons, List.length_nil]; omega) ?_; conv => whnf) | (rw [getD_map _ _ _ _ (by assumption)]; conv => whnf))
        refine CallP.give 101 1 9 ((makesB r).map rowB) rfl (sjoin_ctr g 101 (makesB r) andB (by omega) (by omega)) ?_
        conv => whnf
        repeat' (first | (refine And.intro (by first | exact rfl | decide | exact Nat.le_of_ble_eq_true rfl | exact ⟨_, rfl⟩ | exact ⟨_, _, rfl⟩ | exact Nat.le_refl _ | exact Int.le_refl _ | omega | (simp only [List.length_map]; omega) | exact True.intro | (simp only [IntKind.wrap_i64, List.length_map]; omega) | (simp only [bsz, ByteArray.size_append, List.size_toArray, List.length_cons, List.length_nil]; omega) | exact ⟨⟨_, _, rfl, rfl, Nat.le_of_ble_eq_true rfl⟩, trivial⟩ | exact ⟨⟨_, _, rfl, rfl, Nat.le_of_ble_eq_true rfl⟩, ⟨_, _, rfl, rfl, Nat.le_of_ble_eq_true rfl⟩, trivial⟩ | exact ⟨⟨_, _, rfl, rfl, Nat.le_of_ble_eq_true rfl⟩, ⟨_, _, rfl, rfl, Nat.le_of_ble_eq_true rfl⟩, ⟨_, _, rfl, rfl, Nat.le_of_ble_eq_true rfl⟩, trivial⟩) ?_; conv => whnf) | (refine ifB_intro (fun hA => ?_) (fun hA => ?_) <;> (try rw [hA]) <;> (conv => whnf) <;> (first | replace hA := of_decide_eq_true hA | replace hA := of_decide_eq_false hA | replace hA := eq_of_beq hA | replace hA := ne_of_beq_false hA | skip) <;> (try simp only [List.length_map, cond_true, cond_false, Bool.not_eq_true', Bool.not_eq_false', beq_iff_eq, beq_eq_false_iff_ne, ne_eq] at hA)) | (refine And.intro (by simp only [bsz, ByteArray.size_append, List.size_toArray, List.length_cons, List.length_nil]; omega) ?_; conv => whnf) | (rw [getD_map _ _ _ _ (by assumption)]; conv => whnf))
        refine ⟨⟨[], ?_⟩⟩
        conv => whnf
        rfl
end Go.Ax
