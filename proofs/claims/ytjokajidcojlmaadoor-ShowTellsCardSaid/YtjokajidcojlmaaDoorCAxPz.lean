import Derived.Test.YtjokajidcojlmaaDoorCAxPy

/- A rule's text, the document's; programs' texts. -/
namespace Go.Ax
open Go.Proofs
set_option maxRecDepth 10000

theorem rjoin_give (g : GP) (r : Nat) (l : List ByteArray) (hl : l.length ≤ 2 ^ 40) (c : Nat) (hc : c ≤ 2 ^ 20) (hx : ∀ x ∈ l, x.size ≤ c) : Ctr (ax g).E 82 ([.msl r l.length 0 l.length].map (frz r 1 (l.map rowB))) [] (fun o => o = .ret (.str (joinX andB l)) []) := by
  have h := rjoin_ctr g l hl c hc hx
  simp only [List.map_cons, List.map_nil, frz_whole r 1 l.length (l.map rowB) (by simp)]
  exact h

theorem rshowrule_ctr (g : GP) (r : RuleT) (ho : TypR r) : Ctr (ax g).E 23 [.dagg (rowR r)] [] (fun o => o = .ret (.str (showRF r)) []) := by
  have hc := (rcheck5_ctr g (ruleG r) (okRuleG ho).small).le1 (xs := [.sl false 1 zero4, .i64 0, .i64 0, .u16 0, .v (.slice none 0 0), .sl true 3 [rowR r]]) ⟨.inl rfl, .inl rfl, .inl rfl, .inl rfl, .inr (.inl ⟨rfl, false, 4, rfl⟩), .inr (.inr ⟨true, 3, _, rfl, rfl⟩), trivial⟩
  refine Ctr.body (X := ax g) _ 55 [] [.tmp 2] Tryd.func23 rfl rfl rfl rfl (by decide +kernel) rfl rfl ?_
  conv => whnf
  repeat' (first | (refine And.intro (by first | exact rfl | decide | exact Nat.le_of_ble_eq_true rfl | exact ⟨_, rfl⟩ | exact ⟨_, _, rfl⟩ | exact Nat.le_refl _ | exact Int.le_refl _ | omega | (simp only [List.length_map]; omega) | exact True.intro | (simp only [IntKind.wrap_i64, List.length_map]; omega) | (simp only [bsz, ByteArray.size_append, List.size_toArray, List.length_cons, List.length_nil]; omega) | exact ⟨⟨_, _, rfl, rfl, Nat.le_of_ble_eq_true rfl⟩, trivial⟩ | exact ⟨⟨_, _, rfl, rfl, Nat.le_of_ble_eq_true rfl⟩, ⟨_, _, rfl, rfl, Nat.le_of_ble_eq_true rfl⟩, trivial⟩ | exact ⟨⟨_, _, rfl, rfl, Nat.le_of_ble_eq_true rfl⟩, ⟨_, _, rfl, rfl, Nat.le_of_ble_eq_true rfl⟩, ⟨_, _, rfl, rfl, Nat.le_of_ble_eq_true rfl⟩, trivial⟩) ?_; conv => whnf) | (refine ifB_intro (fun hA => ?_) (fun hA => ?_) <;> (try rw [hA]) <;> (conv => whnf) <;> (first | replace hA := of_decide_eq_true hA | replace hA := of_decide_eq_false hA | replace hA := eq_of_beq hA | replace hA := ne_of_beq_false hA | skip) <;> (try simp only [List.length_map, cond_true, cond_false, Bool.not_eq_true', Bool.not_eq_false', beq_iff_eq, beq_eq_false_iff_ne, ne_eq] at hA)) | (refine DrawP.intro (X := ax g) (id := 1) B23_1 (by kernel_rfl) (by decide +kernel) ?_; conv => whnf) | (refine CallP.det (hc) ?_; conv => whnf) | (refine CallD.det (hc) ?_; conv => whnf) | (rw [getD_map _ _ _ _ (by assumption)]; conv => whnf))
  · refine ⟨⟨[], ?_⟩⟩
    conv => whnf
    rw [showRF, if_neg (by simpa using hA)]
  · have hz : checkP (ruleG r) = 0 := by simpa using hA
    obtain ⟨_, _, _, hr⟩ := check_zero hz
    have hr := hr r (by simp [ruleG])
    have h := OkR.of (by simp [ruleG]) ho hr
    have hw8 := (ruleOk_split hr).1
    have hlw := h.lw; have hlg := h.lg; have hlt := h.lt
    have j1 := join_small (asks_len h)
    have j2 := join_small (makes_len h)
    refine LoopP.own 3 100 1 9 rfl rfl rfl ?_
    refine LoopP.inv (X := ax g) (fun i : Nat => { f := [(1, .ptr 1 0), (3, .msl 100 i 0 i), (4, .i64 i)], h := [(100, some (.buf 1 9 (((r.when.take i).map askW).map rowB))), (1, some (.dvar 3 (rowR r)))] }) (fun i => i ≤ r.when.length) (fun i => r.when.length - i) 0 (Nat.zero_le _) ⟨⟨rfl, rfl, rfl, trivial⟩, ⟨fun o h => h, fun o h => h, trivial⟩⟩ fun i hi => ?_
    have hti : (((r.when.take i).map askW).map rowB).length = i := by simp; omega
    by_cases hlt : i < r.when.length
    · obtain ⟨⟨o1, o2⟩, o3, o4⟩ := h.when _ (List.getElem_mem hlt)
      have o8 := risesF_at hw8 (List.getElem_mem hlt)
      have h1 := name_len r.when[i].1
      have h2 := digI_len o4
      conv => whnf
      repeat (refine And.intro (by first | exact rfl | decide | exact Nat.le_of_ble_eq_true rfl | exact ⟨_, rfl⟩ | exact ⟨_, _, rfl⟩ | exact Nat.le_refl _ | exact Int.le_refl _ | omega | (simp only [List.length_map]; omega)) ?_; conv => whnf)
      refine ifB_true (by simp only [List.length_map]; exact decide_eq_true (by omega)) ?_
      conv => whnf
      repeat' (first | (refine And.intro (by first | exact rfl | decide | exact Nat.le_of_ble_eq_true rfl | exact ⟨_, rfl⟩ | exact ⟨_, _, rfl⟩ | exact Nat.le_refl _ | exact Int.le_refl _ | omega | (simp only [List.length_map]; omega) | exact True.intro | (simp only [IntKind.wrap_i64, List.length_map]; omega) | (simp only [bsz, ByteArray.size_append, List.size_toArray, List.length_cons, List.length_nil]; omega) | exact ⟨⟨_, _, rfl, rfl, Nat.le_of_ble_eq_true rfl⟩, trivial⟩ | exact ⟨⟨_, _, rfl, rfl, Nat.le_of_ble_eq_true rfl⟩, ⟨_, _, rfl, rfl, Nat.le_of_ble_eq_true rfl⟩, trivial⟩ | exact ⟨⟨_, _, rfl, rfl, Nat.le_of_ble_eq_true rfl⟩, ⟨_, _, rfl, rfl, Nat.le_of_ble_eq_true rfl⟩, ⟨_, _, rfl, rfl, Nat.le_of_ble_eq_true rfl⟩, trivial⟩) ?_; conv => whnf) | (refine ifB_intro (fun hA => ?_) (fun hA => ?_) <;> (try rw [hA]) <;> (conv => whnf) <;> (first | replace hA := of_decide_eq_true hA | replace hA := of_decide_eq_false hA | replace hA := eq_of_beq hA | replace hA := ne_of_beq_false hA | skip) <;> (try simp only [List.length_map, cond_true, cond_false, Bool.not_eq_true', Bool.not_eq_false', beq_iff_eq, beq_eq_false_iff_ne, ne_eq] at hA)) | (refine DrawP.intro (X := ax g) (id := 7) B23_7 (by kernel_rfl) (by decide +kernel) ?_; conv => whnf) | (refine CallP.det (names_ctr g) ?_; conv => whnf) | (refine CallD.det (names_ctr g) ?_; conv => whnf) | (rw [getD_map rowF r.when i [] hlt]; conv => whnf) | (rw [names_at o8]; conv => whnf) | (refine And.intro (by simp only [List.length_map, List.length_range]; omega) ?_; conv => whnf) | (rw [i64_wrap (n := r.when[i].2) (by omega) (by omega)]; conv => whnf) | (refine CallP.det (rdigits_ctr g r.when[i].2 (by omega)) ?_; conv => whnf) | (refine CallD.det (rdigits_ctr g r.when[i].2 (by omega)) ?_; conv => whnf) | (refine And.intro (by simp only [bsz, ByteArray.size_append, List.size_toArray, List.length_cons, List.length_nil]; omega) ?_; conv => whnf) | (rw [getD_map _ _ _ _ (by assumption)]; conv => whnf))
      exact ⟨i + 1, by omega, by omega, ⟨⟨rfl, msl_eq (by show _ + 1 = i + 1; rw [hti]), AV.int_eq (i64_succ (by omega)), trivial⟩, ⟨fun o h => by rw [← h, map_next _ hlt]; exact buf_row _ _, fun o h => h, trivial⟩⟩⟩
    · have hi2 : i = r.when.length := by omega
      conv => whnf
      repeat (refine And.intro (by first | exact rfl | decide | exact Nat.le_of_ble_eq_true rfl | exact ⟨_, rfl⟩ | exact ⟨_, _, rfl⟩ | exact Nat.le_refl _ | exact Int.le_refl _ | omega | (simp only [List.length_map]; omega)) ?_; conv => whnf)
      refine ifB_false (by simp only [List.length_map]; exact decide_eq_false (by omega)) ?_
      conv => whnf
      subst hi2
      rw [List.take_length] at hti ⊢
      repeat' (first | (refine And.intro (by first | exact rfl | decide | exact Nat.le_of_ble_eq_true rfl | exact ⟨_, rfl⟩ | exact ⟨_, _, rfl⟩ | exact Nat.le_refl _ | exact Int.le_refl _ | omega | (simp only [List.length_map]; omega) | exact True.intro | (simp only [IntKind.wrap_i64, List.length_map]; omega) | (simp only [bsz, ByteArray.size_append, List.size_toArray, List.length_cons, List.length_nil]; omega) | exact ⟨⟨_, _, rfl, rfl, Nat.le_of_ble_eq_true rfl⟩, trivial⟩ | exact ⟨⟨_, _, rfl, rfl, Nat.le_of_ble_eq_true rfl⟩, ⟨_, _, rfl, rfl, Nat.le_of_ble_eq_true rfl⟩, trivial⟩ | exact ⟨⟨_, _, rfl, rfl, Nat.le_of_ble_eq_true rfl⟩, ⟨_, _, rfl, rfl, Nat.le_of_ble_eq_true rfl⟩, ⟨_, _, rfl, rfl, Nat.le_of_ble_eq_true rfl⟩, trivial⟩) ?_; conv => whnf) | (refine ifB_intro (fun hA => ?_) (fun hA => ?_) <;> (try rw [hA]) <;> (conv => whnf) <;> (first | replace hA := of_decide_eq_true hA | replace hA := of_decide_eq_false hA | replace hA := eq_of_beq hA | replace hA := ne_of_beq_false hA | skip) <;> (try simp only [List.length_map, cond_true, cond_false, Bool.not_eq_true', Bool.not_eq_false', beq_iff_eq, beq_eq_false_iff_ne, ne_eq] at hA)) | (refine CallP.det (parts_ctr g r.guard ⟨#[61]⟩ (by omega) h.guard (by decide)) ?_; conv => whnf) | (refine CallD.det (parts_ctr g r.guard ⟨#[61]⟩ (by omega) h.guard (by decide)) ?_; conv => whnf) | (rw [getD_map _ _ _ _ (by assumption)]; conv => whnf))
      have hbuf : (r.when.map askW).map rowB ++ (r.guard.map (askG ⟨#[61]⟩)).map rowB = (asksB r).map rowB := by rw [← List.map_append]; rfl
      have hn : ((r.when.map askW).map rowB).length + ((r.guard.map (askG ⟨#[61]⟩)).map rowB).length = (asksB r).length := by simp [asksB]
      refine DrawP.intro (X := ax g) (id := 9) B23_9 (by kernel_rfl) (by decide +kernel) ?_
      conv => whnf
      rw [hn, hbuf]
      refine CallD.give 100 1 9 ((asksB r).map rowB) rfl (rjoin_give g 100 (asksB r) (by have := (asks_len h).1; omega) 13 (by omega) (asks_len h).2) ?_
      conv => whnf
      repeat' (first | (refine And.intro (by first | exact rfl | decide | exact Nat.le_of_ble_eq_true rfl | exact ⟨_, rfl⟩ | exact ⟨_, _, rfl⟩ | exact Nat.le_refl _ | exact Int.le_refl _ | omega | (simp only [List.length_map]; omega) | exact True.intro | (simp only [IntKind.wrap_i64, List.length_map]; omega) | (simp only [bsz, ByteArray.size_append, List.size_toArray, List.length_cons, List.length_nil]; omega) | exact ⟨⟨_, _, rfl, rfl, Nat.le_of_ble_eq_true rfl⟩, trivial⟩ | exact ⟨⟨_, _, rfl, rfl, Nat.le_of_ble_eq_true rfl⟩, ⟨_, _, rfl, rfl, Nat.le_of_ble_eq_true rfl⟩, trivial⟩ | exact ⟨⟨_, _, rfl, rfl, Nat.le_of_ble_eq_true rfl⟩, ⟨_, _, rfl, rfl, Nat.le_of_ble_eq_true rfl⟩, ⟨_, _, rfl, rfl, Nat.le_of_ble_eq_true rfl⟩, trivial⟩) ?_; conv => whnf) | (refine ifB_intro (fun hA => ?_) (fun hA => ?_) <;> (try rw [hA]) <;> (conv => whnf) <;> (first | replace hA := of_decide_eq_true hA | replace hA := of_decide_eq_false hA | replace hA := eq_of_beq hA | replace hA := ne_of_beq_false hA | skip) <;> (try simp only [List.length_map, cond_true, cond_false, Bool.not_eq_true', Bool.not_eq_false', beq_iff_eq, beq_eq_false_iff_ne, ne_eq] at hA)) | (refine And.intro (by simp only [bsz, ByteArray.size_append, List.size_toArray, List.length_cons, List.length_nil]; omega) ?_; conv => whnf) | (refine CallP.det (parts_ctr g r.thn ⟨#[58, 61]⟩ (by omega) h.thn (by decide)) ?_; conv => whnf) | (refine CallD.det (parts_ctr g r.thn ⟨#[58, 61]⟩ (by omega) h.thn (by decide)) ?_; conv => whnf) | (refine CallP.det (rjoin_ctr g (makesB r) (by have := (makes_len h).1; omega) 13 (by omega) (makes_len h).2) ?_; conv => whnf) | (refine CallD.det (rjoin_ctr g (makesB r) (by have := (makes_len h).1; omega) 13 (by omega) (makes_len h).2) ?_; conv => whnf) | (rw [getD_map _ _ _ _ (by assumption)]; conv => whnf))
      refine ⟨⟨[], ?_⟩⟩
      conv => whnf
      rw [showRF, if_pos hz]
      rfl

def initB : ByteArray := ⟨#[105, 110, 105, 116]⟩
def policyB : ByteArray := ⟨#[32, 46, 10, 112, 111, 108, 105, 99, 121, 32]⟩
def rlB (b : ByteArray) (r : RuleT) : ByteArray := b ++ (lineB r ++ ⟨#[10]⟩)
def headG (x : ProgT) : ByteArray := ((x.init.foldl swB initB ++ policyB) ++ polB x.pol) ++ dotB
def progB (x : ProgT) : ByteArray := x.rules.foldl rlB (headG x)
def showGF (x : ProgT) : ByteArray := if checkP x = 0 then progB x else ⟨#[]⟩
theorem rlB_size {r : RuleT} (h : OkR r) (b : ByteArray) : (rlB b r).size ≤ b.size + 2 ^ 28 := by
  have := lineB_len h
  simp only [rlB, bsz, ByteArray.size_append, List.size_toArray, List.length_cons, List.length_nil]; omega
theorem init_size {l : List Int} (h : ∀ n ∈ l, 0 ≤ n ∧ n < 65536) (hl : l.length ≤ 2 ^ 20) (i : Nat) : ((l.take i).foldl swB initB).size ≤ 2 ^ 23 := by
  have h1 := foldl_size swB 6 (l.take i) initB fun n hn b => swB_size (h n (List.mem_of_mem_take hn)) b
  have h2 : (l.take i).length ≤ l.length := by simp; omega
  have h3 : initB.size = 4 := rfl
  omega

theorem check_rules {x : ProgT} (h : checkP x = 0) : x.rules.length ≤ 24 := by
  unfold checkP at h
  split at h
  · exact absurd h (by decide)
  · omega
theorem rules_size {l : List RuleT} {b : ByteArray} (hb : b.size ≤ 2 ^ 24) (h : ∀ r ∈ l, OkR r) (hl : l.length ≤ 24) (i : Nat) : ((l.take i).foldl rlB b).size ≤ 2 ^ 34 := by
  have h1 := foldl_size rlB (2 ^ 28) (l.take i) b fun r hr c => rlB_size (h r (List.mem_of_mem_take hr)) c
  have h2 : (l.take i).length ≤ l.length := by simp; omega
  omega
theorem showprog_ctr (g : GP) (hg : ∀ w, g.G w → PowG w) (x : ProgT) (ho : OkG x) : Ctr (ax g).E 20 [.dagg (rowG x)] [] (fun o => o = .ret (.str (showGF x)) []) := by
  have hc := check5_ctr g x ho.small
  have hil := ho.il
  have hrl := ho.rl
  refine Ctr.body (X := ax g) _ 48 [] [.tmp 2] Tryd.func20 rfl rfl rfl rfl (by decide +kernel) rfl rfl ?_
  conv => whnf
  repeat' (first | (refine And.intro (by first | exact rfl | decide | exact Nat.le_of_ble_eq_true rfl | exact ⟨_, rfl⟩ | exact ⟨_, _, rfl⟩ | exact Nat.le_refl _ | exact Int.le_refl _ | omega | (simp only [List.length_map]; omega) | exact True.intro | (simp only [IntKind.wrap_i64, List.length_map]; omega) | (simp only [bsz, ByteArray.size_append, List.size_toArray, List.length_cons, List.length_nil]; omega) | exact ⟨⟨_, _, rfl, rfl, Nat.le_of_ble_eq_true rfl⟩, trivial⟩ | exact ⟨⟨_, _, rfl, rfl, Nat.le_of_ble_eq_true rfl⟩, ⟨_, _, rfl, rfl, Nat.le_of_ble_eq_true rfl⟩, trivial⟩ | exact ⟨⟨_, _, rfl, rfl, Nat.le_of_ble_eq_true rfl⟩, ⟨_, _, rfl, rfl, Nat.le_of_ble_eq_true rfl⟩, ⟨_, _, rfl, rfl, Nat.le_of_ble_eq_true rfl⟩, trivial⟩) ?_; conv => whnf) | (refine ifB_intro (fun hA => ?_) (fun hA => ?_) <;> (try rw [hA]) <;> (conv => whnf) <;> (first | replace hA := of_decide_eq_true hA | replace hA := of_decide_eq_false hA | replace hA := eq_of_beq hA | replace hA := ne_of_beq_false hA | skip) <;> (try simp only [List.length_map, cond_true, cond_false, Bool.not_eq_true', Bool.not_eq_false', beq_iff_eq, beq_eq_false_iff_ne, ne_eq] at hA)) | (refine CallP.det (hc) ?_; conv => whnf) | (refine CallD.det (hc) ?_; conv => whnf) | (rw [getD_map _ _ _ _ (by assumption)]; conv => whnf))
  · refine ⟨⟨[], ?_⟩⟩
    conv => whnf
    rw [showGF, if_neg (by simpa using hA)]
  · have hz : checkP x = 0 := by simpa using hA
    obtain ⟨hk, h300, hf, hr⟩ := check_zero hz
    have hr2 : ∀ r ∈ x.rules, OkR r := fun r hm => .of (by omega) (ho.rules r hm) (hr r hm)
    have hpl := polB_len (by omega) _ x.pol (Nat.le_refl _) ho.pol hf
    have w0 := (Ctr.fromNew bldT110 (write_ctr g ⟨#[]⟩ initB (by decide) (by decide))).swap 9000 3
    rw [nilb] at w0
    repeat' (first | (refine And.intro (by first | exact rfl | decide | exact Nat.le_of_ble_eq_true rfl | exact ⟨_, rfl⟩ | exact ⟨_, _, rfl⟩ | exact Nat.le_refl _ | exact Int.le_refl _ | omega | (simp only [List.length_map]; omega) | exact True.intro | (simp only [IntKind.wrap_i64, List.length_map]; omega) | (simp only [bsz, ByteArray.size_append, List.size_toArray, List.length_cons, List.length_nil]; omega) | exact ⟨⟨_, _, rfl, rfl, Nat.le_of_ble_eq_true rfl⟩, trivial⟩ | exact ⟨⟨_, _, rfl, rfl, Nat.le_of_ble_eq_true rfl⟩, ⟨_, _, rfl, rfl, Nat.le_of_ble_eq_true rfl⟩, trivial⟩ | exact ⟨⟨_, _, rfl, rfl, Nat.le_of_ble_eq_true rfl⟩, ⟨_, _, rfl, rfl, Nat.le_of_ble_eq_true rfl⟩, ⟨_, _, rfl, rfl, Nat.le_of_ble_eq_true rfl⟩, trivial⟩) ?_; conv => whnf) | (refine ifB_intro (fun hA => ?_) (fun hA => ?_) <;> (try rw [hA]) <;> (conv => whnf) <;> (first | replace hA := of_decide_eq_true hA | replace hA := of_decide_eq_false hA | replace hA := eq_of_beq hA | replace hA := ne_of_beq_false hA | skip) <;> (try simp only [List.length_map, cond_true, cond_false, Bool.not_eq_true', Bool.not_eq_false', beq_iff_eq, beq_eq_false_iff_ne, ne_eq] at hA)) | (refine CallP.upd rfl (w0) ?_; conv => whnf) | (refine CallD.upd rfl (w0) ?_; conv => whnf) | (rw [getD_map _ _ _ _ (by assumption)]; conv => whnf))
    refine LoopP.inv (X := ax g) (fun i : Nat => { f := [(1, .ptr 1 0), (2, .str ⟨#[]⟩), (3, .ptr 3 0), (14, .d (.sl false 1 (x.init.map rowS))), (15, .i64 x.init.length), (16, .i64 i)], h := [(1, some (.dvar 6 (rowG x))), (3, some (bldO ((x.init.take i).foldl swB initB)))] }) (fun i => i ≤ x.init.length) (fun i => x.init.length - i) 0 (Nat.zero_le _) ⟨⟨rfl, rfl, rfl, rfl, AV.int_eq (len_int _ _), rfl, trivial⟩, ⟨fun o h => h, fun o h => h, trivial⟩⟩ fun i hi => ?_
    have hz0 := init_size ho.init hil i
    by_cases hlt : i < x.init.length
    · have hn := ho.init _ (List.getElem_mem hlt)
      have hd := digI_len hn.2
      conv => whnf
      refine ifB_true (decide_eq_true (by omega)) ?_
      conv => whnf
      repeat' (first | (refine And.intro (by first | exact rfl | decide | exact Nat.le_of_ble_eq_true rfl | exact ⟨_, rfl⟩ | exact ⟨_, _, rfl⟩ | exact Nat.le_refl _ | exact Int.le_refl _ | omega | (simp only [List.length_map]; omega) | exact True.intro | (simp only [IntKind.wrap_i64, List.length_map]; omega) | (simp only [bsz, ByteArray.size_append, List.size_toArray, List.length_cons, List.length_nil]; omega) | exact ⟨⟨_, _, rfl, rfl, Nat.le_of_ble_eq_true rfl⟩, trivial⟩ | exact ⟨⟨_, _, rfl, rfl, Nat.le_of_ble_eq_true rfl⟩, ⟨_, _, rfl, rfl, Nat.le_of_ble_eq_true rfl⟩, trivial⟩ | exact ⟨⟨_, _, rfl, rfl, Nat.le_of_ble_eq_true rfl⟩, ⟨_, _, rfl, rfl, Nat.le_of_ble_eq_true rfl⟩, ⟨_, _, rfl, rfl, Nat.le_of_ble_eq_true rfl⟩, trivial⟩) ?_; conv => whnf) | (refine ifB_intro (fun hA => ?_) (fun hA => ?_) <;> (try rw [hA]) <;> (conv => whnf) <;> (first | replace hA := of_decide_eq_true hA | replace hA := of_decide_eq_false hA | replace hA := eq_of_beq hA | replace hA := ne_of_beq_false hA | skip) <;> (try simp only [List.length_map, cond_true, cond_false, Bool.not_eq_true', Bool.not_eq_false', beq_iff_eq, beq_eq_false_iff_ne, ne_eq] at hA)) | (rw [getD_map rowS x.init i [] hlt]; conv => whnf) | (refine CallP.det (digits6_ctr g hg _ hn) ?_; conv => whnf) | (refine CallD.det (digits6_ctr g hg _ hn) ?_; conv => whnf) | (refine And.intro (by simp only [bsz, ByteArray.size_append, List.size_toArray, List.length_cons, List.length_nil]; omega) ?_; conv => whnf) | (refine CallP.upd rfl (write3 g _ _ (by simp only [bsz, ByteArray.size_append, List.size_toArray, List.length_cons, List.length_nil]; omega) (by simp only [bsz, ByteArray.size_append, List.size_toArray, List.length_cons, List.length_nil]; omega)) ?_; conv => whnf) | (refine CallD.upd rfl (write3 g _ _ (by simp only [bsz, ByteArray.size_append, List.size_toArray, List.length_cons, List.length_nil]; omega) (by simp only [bsz, ByteArray.size_append, List.size_toArray, List.length_cons, List.length_nil]; omega)) ?_; conv => whnf) | (rw [getD_map _ _ _ _ (by assumption)]; conv => whnf))
      exact ⟨i + 1, by omega, by omega, ⟨⟨rfl, rfl, rfl, rfl, rfl, AV.int_eq (i64_succ (by omega)), trivial⟩, ⟨fun o h => h, fun o h => by rw [← h, foldl_next swB initB x.init i hlt]; rfl, trivial⟩⟩⟩
    · have hi2 : i = x.init.length := by omega
      subst hi2
      rw [List.take_length] at hz0 ⊢
      have hp := (pol_ctr g hg _ (show (x.init.length : Int) ≤ 60000 by omega) _ x.pol (Nat.le_refl _) ho.pol hf (x.init.foldl swB initB ++ policyB) (by rw [ByteArray.size_append]; have : policyB.size = 10 := rfl; omega)).swap 9000 3
      have hhd : (headG x).size ≤ 2 ^ 24 := by
        simp only [headG, ByteArray.size_append]
        have : policyB.size = 10 := rfl
        have : dotB.size = 3 := rfl
        omega
      conv => whnf
      refine ifB_false (decide_eq_false (by omega)) ?_
      conv => whnf
      repeat' (first | (refine And.intro (by first | exact rfl | decide | exact Nat.le_of_ble_eq_true rfl | exact ⟨_, rfl⟩ | exact ⟨_, _, rfl⟩ | exact Nat.le_refl _ | exact Int.le_refl _ | omega | (simp only [List.length_map]; omega) | exact True.intro | (simp only [IntKind.wrap_i64, List.length_map]; omega) | (simp only [bsz, ByteArray.size_append, List.size_toArray, List.length_cons, List.length_nil]; omega) | exact ⟨⟨_, _, rfl, rfl, Nat.le_of_ble_eq_true rfl⟩, trivial⟩ | exact ⟨⟨_, _, rfl, rfl, Nat.le_of_ble_eq_true rfl⟩, ⟨_, _, rfl, rfl, Nat.le_of_ble_eq_true rfl⟩, trivial⟩ | exact ⟨⟨_, _, rfl, rfl, Nat.le_of_ble_eq_true rfl⟩, ⟨_, _, rfl, rfl, Nat.le_of_ble_eq_true rfl⟩, ⟨_, _, rfl, rfl, Nat.le_of_ble_eq_true rfl⟩, trivial⟩) ?_; conv => whnf) | (refine ifB_intro (fun hA => ?_) (fun hA => ?_) <;> (try rw [hA]) <;> (conv => whnf) <;> (first | replace hA := of_decide_eq_true hA | replace hA := of_decide_eq_false hA | replace hA := eq_of_beq hA | replace hA := ne_of_beq_false hA | skip) <;> (try simp only [List.length_map, cond_true, cond_false, Bool.not_eq_true', Bool.not_eq_false', beq_iff_eq, beq_eq_false_iff_ne, ne_eq] at hA)) | (refine CallP.upd rfl (write3 g _ policyB (by have : policyB.size = 10 := rfl; omega) (by decide)) ?_; conv => whnf) | (refine CallD.upd rfl (write3 g _ policyB (by have : policyB.size = 10 := rfl; omega) (by decide)) ?_; conv => whnf) | (refine CallP.upd rfl (hp) ?_; conv => whnf) | (refine CallD.upd rfl (hp) ?_; conv => whnf) | (refine CallP.upd rfl (write3 g _ dotB (by simp only [headG, ByteArray.size_append] at hhd ⊢; omega) (by decide)) ?_; conv => whnf) | (refine CallD.upd rfl (write3 g _ dotB (by simp only [headG, ByteArray.size_append] at hhd ⊢; omega) (by decide)) ?_; conv => whnf) | (rw [getD_map _ _ _ _ (by assumption)]; conv => whnf))
      have hrl := check_rules hz
      refine LoopP.inv (X := ax g) (fun i : Nat => { f := [(1, .ptr 1 0), (2, .str ⟨#[]⟩), (3, .ptr 3 0), (34, .d (.sl false 3 (x.rules.map rowR))), (35, .i64 x.rules.length), (36, .i64 i)], h := [(3, some (bldO ((x.rules.take i).foldl rlB (headG x))))] }) (fun i => i ≤ x.rules.length) (fun i => x.rules.length - i) 0 (Nat.zero_le _) ⟨⟨rfl, rfl, rfl, rfl, AV.int_eq (len_int _ _), rfl, trivial⟩, ⟨fun o h => h, trivial⟩⟩ fun i hi => ?_
      have hz1 := rules_size hhd hr2 hrl i
      by_cases hlt : i < x.rules.length
      · have hl := hr2 _ (List.getElem_mem hlt)
        have hll := lineB_len hl
        conv => whnf
        refine ifB_true (decide_eq_true (by omega)) ?_
        conv => whnf
        repeat' (first | (refine And.intro (by first | exact rfl | decide | exact Nat.le_of_ble_eq_true rfl | exact ⟨_, rfl⟩ | exact ⟨_, _, rfl⟩ | exact Nat.le_refl _ | exact Int.le_refl _ | omega | (simp only [List.length_map]; omega) | exact True.intro | (simp only [IntKind.wrap_i64, List.length_map]; omega) | (simp only [bsz, ByteArray.size_append, List.size_toArray, List.length_cons, List.length_nil]; omega) | exact ⟨⟨_, _, rfl, rfl, Nat.le_of_ble_eq_true rfl⟩, trivial⟩ | exact ⟨⟨_, _, rfl, rfl, Nat.le_of_ble_eq_true rfl⟩, ⟨_, _, rfl, rfl, Nat.le_of_ble_eq_true rfl⟩, trivial⟩ | exact ⟨⟨_, _, rfl, rfl, Nat.le_of_ble_eq_true rfl⟩, ⟨_, _, rfl, rfl, Nat.le_of_ble_eq_true rfl⟩, ⟨_, _, rfl, rfl, Nat.le_of_ble_eq_true rfl⟩, trivial⟩) ?_; conv => whnf) | (refine ifB_intro (fun hA => ?_) (fun hA => ?_) <;> (try rw [hA]) <;> (conv => whnf) <;> (first | replace hA := of_decide_eq_true hA | replace hA := of_decide_eq_false hA | replace hA := eq_of_beq hA | replace hA := ne_of_beq_false hA | skip) <;> (try simp only [List.length_map, cond_true, cond_false, Bool.not_eq_true', Bool.not_eq_false', beq_iff_eq, beq_eq_false_iff_ne, ne_eq] at hA)) | (rw [getD_map rowR x.rules i [] hlt]; conv => whnf) | (refine CallP.det (line_ctr g hg _ hl) ?_; conv => whnf) | (refine CallD.det (line_ctr g hg _ hl) ?_; conv => whnf) | (refine And.intro (by simp only [bsz, ByteArray.size_append, List.size_toArray, List.length_cons, List.length_nil]; omega) ?_; conv => whnf) | (refine CallP.upd rfl (write3 g _ _ (by simp only [bsz, ByteArray.size_append, List.size_toArray, List.length_cons, List.length_nil]; omega) (by simp only [bsz, ByteArray.size_append, List.size_toArray, List.length_cons, List.length_nil]; omega)) ?_; conv => whnf) | (refine CallD.upd rfl (write3 g _ _ (by simp only [bsz, ByteArray.size_append, List.size_toArray, List.length_cons, List.length_nil]; omega) (by simp only [bsz, ByteArray.size_append, List.size_toArray, List.length_cons, List.length_nil]; omega)) ?_; conv => whnf) | (rw [getD_map _ _ _ _ (by assumption)]; conv => whnf))
        exact ⟨i + 1, by omega, by omega, ⟨⟨rfl, rfl, rfl, rfl, rfl, AV.int_eq (i64_succ (by omega)), trivial⟩, ⟨fun o h => by rw [← h, foldl_next rlB (headG x) x.rules i hlt]; rfl, trivial⟩⟩⟩
      · conv => whnf
        refine ifB_false (decide_eq_false (by omega)) ?_
        conv => whnf
        repeat' (first | (refine And.intro (by first | exact rfl | decide | exact Nat.le_of_ble_eq_true rfl | exact ⟨_, rfl⟩ | exact ⟨_, _, rfl⟩ | exact Nat.le_refl _ | exact Int.le_refl _ | omega | (simp only [List.length_map]; omega) | exact True.intro | (simp only [IntKind.wrap_i64, List.length_map]; omega) | (simp only [bsz, ByteArray.size_append, List.size_toArray, List.length_cons, List.length_nil]; omega) | exact ⟨⟨_, _, rfl, rfl, Nat.le_of_ble_eq_true rfl⟩, trivial⟩ | exact ⟨⟨_, _, rfl, rfl, Nat.le_of_ble_eq_true rfl⟩, ⟨_, _, rfl, rfl, Nat.le_of_ble_eq_true rfl⟩, trivial⟩ | exact ⟨⟨_, _, rfl, rfl, Nat.le_of_ble_eq_true rfl⟩, ⟨_, _, rfl, rfl, Nat.le_of_ble_eq_true rfl⟩, ⟨_, _, rfl, rfl, Nat.le_of_ble_eq_true rfl⟩, trivial⟩) ?_; conv => whnf) | (refine ifB_intro (fun hA => ?_) (fun hA => ?_) <;> (try rw [hA]) <;> (conv => whnf) <;> (first | replace hA := of_decide_eq_true hA | replace hA := of_decide_eq_false hA | replace hA := eq_of_beq hA | replace hA := ne_of_beq_false hA | skip) <;> (try simp only [List.length_map, cond_true, cond_false, Bool.not_eq_true', Bool.not_eq_false', beq_iff_eq, beq_eq_false_iff_ne, ne_eq] at hA)) | (rw [getD_map _ _ _ _ (by assumption)]; conv => whnf))
        refine CallP.ends rfl (string3 g _) ?_
        conv => whnf
        repeat' (first | (refine And.intro (by first | exact rfl | decide | exact Nat.le_of_ble_eq_true rfl | exact ⟨_, rfl⟩ | exact ⟨_, _, rfl⟩ | exact Nat.le_refl _ | exact Int.le_refl _ | omega | (simp only [List.length_map]; omega) | exact True.intro | (simp only [IntKind.wrap_i64, List.length_map]; omega) | (simp only [bsz, ByteArray.size_append, List.size_toArray, List.length_cons, List.length_nil]; omega) | exact ⟨⟨_, _, rfl, rfl, Nat.le_of_ble_eq_true rfl⟩, trivial⟩ | exact ⟨⟨_, _, rfl, rfl, Nat.le_of_ble_eq_true rfl⟩, ⟨_, _, rfl, rfl, Nat.le_of_ble_eq_true rfl⟩, trivial⟩ | exact ⟨⟨_, _, rfl, rfl, Nat.le_of_ble_eq_true rfl⟩, ⟨_, _, rfl, rfl, Nat.le_of_ble_eq_true rfl⟩, ⟨_, _, rfl, rfl, Nat.le_of_ble_eq_true rfl⟩, trivial⟩) ?_; conv => whnf) | (refine ifB_intro (fun hA => ?_) (fun hA => ?_) <;> (try rw [hA]) <;> (conv => whnf) <;> (first | replace hA := of_decide_eq_true hA | replace hA := of_decide_eq_false hA | replace hA := eq_of_beq hA | replace hA := ne_of_beq_false hA | skip) <;> (try simp only [List.length_map, cond_true, cond_false, Bool.not_eq_true', Bool.not_eq_false', beq_iff_eq, beq_eq_false_iff_ne, ne_eq] at hA)) | (rw [getD_map _ _ _ _ (by assumption)]; conv => whnf))
        refine ⟨⟨[], ?_⟩⟩
        conv => whnf
        rw [showGF, if_pos hz, progB, List.take_of_length_le (by omega)]

theorem showRF_ok {k : Int} {r : RuleT} (h : ruleOk k r = true) (hk : k ≤ 4) : showRF r = lineB r := by
  have h4 := ruleOk_le h hk
  have h0 : checkP (ruleG r) = 0 := by
    rw [check_at (ruleG r) ⟨by simp [ruleG], by simp [ruleG], by simp [ruleG, dropT, sizeP, sizesP], by simp [ruleG, dropT, depthP, depthsP], by simp [ruleG]⟩ (by simp [ruleG, dropT, formP])]
    simp [ruleG, h4]
  rw [showRF, if_pos h0]

theorem rshowprog_ctr (g : GP) (x : ProgT) (ho : OkG x) : Ctr (ax g).E 21 [.dagg (rowG x)] [] (fun o => o = .ret (.str (showGF x)) []) := by
  have hc := rcheck5_ctr g x ho.small
  have hil := ho.il
  refine Ctr.body (X := ax g) _ 50 [] [.tmp 2] Tryd.func21 rfl rfl rfl rfl (by decide +kernel) rfl rfl ?_
  conv => whnf
  repeat' (first | (refine And.intro (by first | exact rfl | decide | exact Nat.le_of_ble_eq_true rfl | exact ⟨_, rfl⟩ | exact ⟨_, _, rfl⟩ | exact Nat.le_refl _ | exact Int.le_refl _ | omega | (simp only [List.length_map]; omega) | exact True.intro | (simp only [IntKind.wrap_i64, List.length_map]; omega) | (simp only [bsz, ByteArray.size_append, List.size_toArray, List.length_cons, List.length_nil]; omega) | exact ⟨⟨_, _, rfl, rfl, Nat.le_of_ble_eq_true rfl⟩, trivial⟩ | exact ⟨⟨_, _, rfl, rfl, Nat.le_of_ble_eq_true rfl⟩, ⟨_, _, rfl, rfl, Nat.le_of_ble_eq_true rfl⟩, trivial⟩ | exact ⟨⟨_, _, rfl, rfl, Nat.le_of_ble_eq_true rfl⟩, ⟨_, _, rfl, rfl, Nat.le_of_ble_eq_true rfl⟩, ⟨_, _, rfl, rfl, Nat.le_of_ble_eq_true rfl⟩, trivial⟩) ?_; conv => whnf) | (refine ifB_intro (fun hA => ?_) (fun hA => ?_) <;> (try rw [hA]) <;> (conv => whnf) <;> (first | replace hA := of_decide_eq_true hA | replace hA := of_decide_eq_false hA | replace hA := eq_of_beq hA | replace hA := ne_of_beq_false hA | skip) <;> (try simp only [List.length_map, cond_true, cond_false, Bool.not_eq_true', Bool.not_eq_false', beq_iff_eq, beq_eq_false_iff_ne, ne_eq] at hA)) | (refine CallP.det (hc) ?_; conv => whnf) | (refine CallD.det (hc) ?_; conv => whnf) | (rw [getD_map _ _ _ _ (by assumption)]; conv => whnf))
  · refine ⟨⟨[], ?_⟩⟩
    conv => whnf
    rw [showGF, if_neg (by simpa using hA)]
  · have hz : checkP x = 0 := by simpa using hA
    obtain ⟨hk, h300, hf, hr⟩ := check_zero hz
    have hrl := check_rules hz
    have hr2 : ∀ r ∈ x.rules, OkR r := fun r hm => .of (by omega) (ho.rules r hm) (hr r hm)
    have hpl := polB_len (by omega) _ x.pol (Nat.le_refl _) ho.pol hf
    have hp := rtext_ctr g _ (show (x.init.length : Int) ≤ 60000 by omega) _ x.pol (Nat.le_refl _) (by omega) ho.pol hf
    refine LoopP.inv (X := ax g) (fun i : Nat => { f := [(1, .ptr 1 0), (2, .str ⟨#[]⟩), (3, .str ((x.init.take i).foldl swB initB)), (4, .i64 i)], h := [(1, some (.dvar 6 (rowG x)))] }) (fun i => i ≤ x.init.length) (fun i => x.init.length - i) 0 (Nat.zero_le _) ⟨⟨rfl, rfl, rfl, rfl, trivial⟩, ⟨fun o h => h, trivial⟩⟩ fun i hi => ?_
    have hz0 := init_size ho.init hil i
    by_cases hlt : i < x.init.length
    · have hn := ho.init _ (List.getElem_mem hlt)
      have hd := digI_len hn.2
      conv => whnf
      repeat (refine And.intro (by first | exact rfl | decide | exact Nat.le_of_ble_eq_true rfl | exact ⟨_, rfl⟩ | exact ⟨_, _, rfl⟩ | exact Nat.le_refl _ | exact Int.le_refl _ | omega | (simp only [List.length_map]; omega)) ?_; conv => whnf)
      refine ifB_true (by simp only [List.length_map]; exact decide_eq_true (by omega)) ?_
      conv => whnf
      repeat' (first | (refine And.intro (by first | exact rfl | decide | exact Nat.le_of_ble_eq_true rfl | exact ⟨_, rfl⟩ | exact ⟨_, _, rfl⟩ | exact Nat.le_refl _ | exact Int.le_refl _ | omega | (simp only [List.length_map]; omega) | exact True.intro | (simp only [IntKind.wrap_i64, List.length_map]; omega) | (simp only [bsz, ByteArray.size_append, List.size_toArray, List.length_cons, List.length_nil]; omega) | exact ⟨⟨_, _, rfl, rfl, Nat.le_of_ble_eq_true rfl⟩, trivial⟩ | exact ⟨⟨_, _, rfl, rfl, Nat.le_of_ble_eq_true rfl⟩, ⟨_, _, rfl, rfl, Nat.le_of_ble_eq_true rfl⟩, trivial⟩ | exact ⟨⟨_, _, rfl, rfl, Nat.le_of_ble_eq_true rfl⟩, ⟨_, _, rfl, rfl, Nat.le_of_ble_eq_true rfl⟩, ⟨_, _, rfl, rfl, Nat.le_of_ble_eq_true rfl⟩, trivial⟩) ?_; conv => whnf) | (refine ifB_intro (fun hA => ?_) (fun hA => ?_) <;> (try rw [hA]) <;> (conv => whnf) <;> (first | replace hA := of_decide_eq_true hA | replace hA := of_decide_eq_false hA | replace hA := eq_of_beq hA | replace hA := ne_of_beq_false hA | skip) <;> (try simp only [List.length_map, cond_true, cond_false, Bool.not_eq_true', Bool.not_eq_false', beq_iff_eq, beq_eq_false_iff_ne, ne_eq] at hA)) | (rw [getD_map rowS x.init i [] hlt]; conv => whnf) | (rw [i64_wrap (n := x.init[i]) (by omega) (by omega)]; conv => whnf) | (refine CallP.det (rdigits_ctr g x.init[i] (by omega)) ?_; conv => whnf) | (refine CallD.det (rdigits_ctr g x.init[i] (by omega)) ?_; conv => whnf) | (refine And.intro (by simp only [bsz, ByteArray.size_append, List.size_toArray, List.length_cons, List.length_nil]; omega) ?_; conv => whnf) | (rw [getD_map _ _ _ _ (by assumption)]; conv => whnf))
      exact ⟨i + 1, by omega, by omega, ⟨⟨rfl, rfl, by rw [foldl_next swB initB x.init i hlt, swB, ← bassoc]; rfl, AV.int_eq (i64_succ (by omega)), trivial⟩, ⟨fun o h => h, trivial⟩⟩⟩
    · have hi2 : i = x.init.length := by omega
      subst hi2
      rw [List.take_length] at hz0 ⊢
      have hhd : (headG x).size ≤ 2 ^ 24 := by
        simp only [headG, ByteArray.size_append]
        have : policyB.size = 10 := rfl
        have : dotB.size = 3 := rfl
        omega
      conv => whnf
      repeat (refine And.intro (by first | exact rfl | decide | exact Nat.le_of_ble_eq_true rfl | exact ⟨_, rfl⟩ | exact ⟨_, _, rfl⟩ | exact Nat.le_refl _ | exact Int.le_refl _ | omega | (simp only [List.length_map]; omega)) ?_; conv => whnf)
      refine ifB_false (by simp only [List.length_map]; exact decide_eq_false (by omega)) ?_
      conv => whnf
      repeat' (first | (refine And.intro (by first | exact rfl | decide | exact Nat.le_of_ble_eq_true rfl | exact ⟨_, rfl⟩ | exact ⟨_, _, rfl⟩ | exact Nat.le_refl _ | exact Int.le_refl _ | omega | (simp only [List.length_map]; omega) | exact True.intro | (simp only [IntKind.wrap_i64, List.length_map]; omega) | (simp only [bsz, ByteArray.size_append, List.size_toArray, List.length_cons, List.length_nil]; omega) | exact ⟨⟨_, _, rfl, rfl, Nat.le_of_ble_eq_true rfl⟩, trivial⟩ | exact ⟨⟨_, _, rfl, rfl, Nat.le_of_ble_eq_true rfl⟩, ⟨_, _, rfl, rfl, Nat.le_of_ble_eq_true rfl⟩, trivial⟩ | exact ⟨⟨_, _, rfl, rfl, Nat.le_of_ble_eq_true rfl⟩, ⟨_, _, rfl, rfl, Nat.le_of_ble_eq_true rfl⟩, ⟨_, _, rfl, rfl, Nat.le_of_ble_eq_true rfl⟩, trivial⟩) ?_; conv => whnf) | (refine ifB_intro (fun hA => ?_) (fun hA => ?_) <;> (try rw [hA]) <;> (conv => whnf) <;> (first | replace hA := of_decide_eq_true hA | replace hA := of_decide_eq_false hA | replace hA := eq_of_beq hA | replace hA := ne_of_beq_false hA | skip) <;> (try simp only [List.length_map, cond_true, cond_false, Bool.not_eq_true', Bool.not_eq_false', beq_iff_eq, beq_eq_false_iff_ne, ne_eq] at hA)) | (refine CallP.det (hp) ?_; conv => whnf) | (refine CallD.det (hp) ?_; conv => whnf) | (refine And.intro (by simp only [bsz, ByteArray.size_append, List.size_toArray, List.length_cons, List.length_nil]; omega) ?_; conv => whnf) | (rw [getD_map _ _ _ _ (by assumption)]; conv => whnf))
      refine LoopP.inv (X := ax g) (fun i : Nat => { f := [(1, .ptr 1 0), (2, .str ⟨#[]⟩), (3, .str ((x.rules.take i).foldl rlB (headG x))), (5, .i64 i)], h := [(1, some (.dvar 6 (rowG x)))] }) (fun i => i ≤ x.rules.length) (fun i => x.rules.length - i) 0 (Nat.zero_le _) ⟨⟨rfl, rfl, rfl, rfl, trivial⟩, ⟨fun o h => h, trivial⟩⟩ fun i hi => ?_
      have hz1 := rules_size hhd hr2 hrl i
      by_cases hlt : i < x.rules.length
      · have hl := hr2 _ (List.getElem_mem hlt)
        have hll := lineB_len hl
        have hrr := rshowrule_ctr g _ (ho.rules _ (List.getElem_mem hlt))
        rw [showRF_ok (hr _ (List.getElem_mem hlt)) (by omega)] at hrr
        conv => whnf
        repeat (refine And.intro (by first | exact rfl | decide | exact Nat.le_of_ble_eq_true rfl | exact ⟨_, rfl⟩ | exact ⟨_, _, rfl⟩ | exact Nat.le_refl _ | exact Int.le_refl _ | omega | (simp only [List.length_map]; omega)) ?_; conv => whnf)
        refine ifB_true (by simp only [List.length_map]; exact decide_eq_true (by omega)) ?_
        conv => whnf
        repeat' (first | (refine And.intro (by first | exact rfl | decide | exact Nat.le_of_ble_eq_true rfl | exact ⟨_, rfl⟩ | exact ⟨_, _, rfl⟩ | exact Nat.le_refl _ | exact Int.le_refl _ | omega | (simp only [List.length_map]; omega) | exact True.intro | (simp only [IntKind.wrap_i64, List.length_map]; omega) | (simp only [bsz, ByteArray.size_append, List.size_toArray, List.length_cons, List.length_nil]; omega) | exact ⟨⟨_, _, rfl, rfl, Nat.le_of_ble_eq_true rfl⟩, trivial⟩ | exact ⟨⟨_, _, rfl, rfl, Nat.le_of_ble_eq_true rfl⟩, ⟨_, _, rfl, rfl, Nat.le_of_ble_eq_true rfl⟩, trivial⟩ | exact ⟨⟨_, _, rfl, rfl, Nat.le_of_ble_eq_true rfl⟩, ⟨_, _, rfl, rfl, Nat.le_of_ble_eq_true rfl⟩, ⟨_, _, rfl, rfl, Nat.le_of_ble_eq_true rfl⟩, trivial⟩) ?_; conv => whnf) | (refine ifB_intro (fun hA => ?_) (fun hA => ?_) <;> (try rw [hA]) <;> (conv => whnf) <;> (first | replace hA := of_decide_eq_true hA | replace hA := of_decide_eq_false hA | replace hA := eq_of_beq hA | replace hA := ne_of_beq_false hA | skip) <;> (try simp only [List.length_map, cond_true, cond_false, Bool.not_eq_true', Bool.not_eq_false', beq_iff_eq, beq_eq_false_iff_ne, ne_eq] at hA)) | (rw [getD_map rowR x.rules i [] hlt]; conv => whnf) | (refine CallP.det (hrr) ?_; conv => whnf) | (refine CallD.det (hrr) ?_; conv => whnf) | (refine And.intro (by simp only [bsz, ByteArray.size_append, List.size_toArray, List.length_cons, List.length_nil]; omega) ?_; conv => whnf) | (rw [getD_map _ _ _ _ (by assumption)]; conv => whnf))
        exact ⟨i + 1, by omega, by omega, ⟨⟨rfl, rfl, by rw [foldl_next rlB (headG x) x.rules i hlt, rlB, ← bassoc]; rfl, AV.int_eq (i64_succ (by omega)), trivial⟩, ⟨fun o h => h, trivial⟩⟩⟩
      · conv => whnf
        repeat (refine And.intro (by first | exact rfl | decide | exact Nat.le_of_ble_eq_true rfl | exact ⟨_, rfl⟩ | exact ⟨_, _, rfl⟩ | exact Nat.le_refl _ | exact Int.le_refl _ | omega | (simp only [List.length_map]; omega)) ?_; conv => whnf)
        refine ifB_false (by simp only [List.length_map]; exact decide_eq_false (by omega)) ?_
        conv => whnf
        refine ⟨⟨[], ?_⟩⟩
        conv => whnf
        rw [showGF, if_pos hz, progB, List.take_of_length_le (by omega)]
end Go.Ax
