import Derived.Test.YtjokajidcojlmaaDoorDAxSq

/- SyntaxNames, walked. -/
namespace Go.Ax
open Go.Proofs Go.Lib
set_option maxRecDepth 10000

def rowM (i : Nat) : List D := [.v (.string (nameF i))]
theorem names1_ctr (g : GP) : Ctr (ax g).E 80 [] [] (fun o => o = .ret (.d (.sl true 1 ((List.range 8).map rowM))) []) := by
  refine Ctr.body (X := ax g) _ 2 [] [.tmp 0] Tryd.func80 rfl rfl rfl rfl (by decide +kernel) rfl rfl ?_
  conv => whnf
  repeat' (first | (refine And.intro (by first | exact rfl | decide | exact Nat.le_of_ble_eq_true rfl | exact ⟨_, rfl⟩ | exact ⟨_, _, rfl⟩ | exact Nat.le_refl _ | exact Int.le_refl _ | omega | (simp only [List.length_map]; omega) | exact True.intro | (simp only [IntKind.wrap_i64, List.length_map]; omega) | (simp only [List.map_cons, List.map_nil, List.length_cons, Option.getD]; omega) | (simp only [bsz, ByteArray.size_append, List.size_toArray, List.length_cons, List.length_nil]; omega) | exact ⟨⟨_, _, rfl, rfl, Nat.le_of_ble_eq_true rfl⟩, trivial⟩ | exact ⟨⟨_, _, rfl, rfl, Nat.le_of_ble_eq_true rfl⟩, ⟨_, _, rfl, rfl, Nat.le_of_ble_eq_true rfl⟩, trivial⟩ | exact ⟨⟨_, _, rfl, rfl, Nat.le_of_ble_eq_true rfl⟩, ⟨_, _, rfl, rfl, Nat.le_of_ble_eq_true rfl⟩, ⟨_, _, rfl, rfl, Nat.le_of_ble_eq_true rfl⟩, trivial⟩) ?_; conv => whnf) | (refine ifB_intro (fun hA => ?_) (fun hA => ?_) <;> (try rw [hA]) <;> (conv => whnf) <;> (first | replace hA := of_decide_eq_true hA | replace hA := of_decide_eq_false hA | replace hA := eq_of_beq hA | replace hA := ne_of_beq_false hA | replace hA := bne_iff_ne.1 hA | replace hA := bne_eq_false_iff_eq.1 hA | skip) <;> (try simp only [List.length_map, cond_true, cond_false, Bool.not_eq_true', Bool.not_eq_false', beq_iff_eq, beq_eq_false_iff_ne, ne_eq] at hA)) | (rw [getD_map _ _ _ _ (by assumption)]; conv => whnf))
  refine ⟨⟨[], ?_⟩⟩
  conv => whnf
  rfl
theorem names1_at {i : Nat} (h : i < 8) : ((List.range 8).map rowM).getD (i : Int).toNat [] = [.v (.string (nameF i))] := by
  have := getD_map rowM (List.range 8) i [] (by simpa using h)
  rw [this, List.getElem_range, rowM]
def fieldZ (o : Option Nat) : Int := match o with
  | some i => i
  | none => -1
theorem reffield_ctr (g : GP) (w : ByteArray) : Ctr (ax g).E 70 [.str w] [] (fun o => o = .ret (.i64 (fieldZ (fieldIx w))) []) := by
  refine Ctr.body (X := ax g) _ 19 [] [.tmp 2] Tryd.func70 rfl rfl rfl rfl (by decide +kernel) rfl rfl ?_
  conv => whnf
  repeat' (first | (refine And.intro (by first | exact rfl | decide | exact Nat.le_of_ble_eq_true rfl | exact ⟨_, rfl⟩ | exact ⟨_, _, rfl⟩ | exact Nat.le_refl _ | exact Int.le_refl _ | omega | (simp only [List.length_map]; omega) | exact True.intro | (simp only [IntKind.wrap_i64, List.length_map]; omega) | (simp only [List.map_cons, List.map_nil, List.length_cons, Option.getD]; omega) | (simp only [bsz, ByteArray.size_append, List.size_toArray, List.length_cons, List.length_nil]; omega) | exact ⟨⟨_, _, rfl, rfl, Nat.le_of_ble_eq_true rfl⟩, trivial⟩ | exact ⟨⟨_, _, rfl, rfl, Nat.le_of_ble_eq_true rfl⟩, ⟨_, _, rfl, rfl, Nat.le_of_ble_eq_true rfl⟩, trivial⟩ | exact ⟨⟨_, _, rfl, rfl, Nat.le_of_ble_eq_true rfl⟩, ⟨_, _, rfl, rfl, Nat.le_of_ble_eq_true rfl⟩, ⟨_, _, rfl, rfl, Nat.le_of_ble_eq_true rfl⟩, trivial⟩) ?_; conv => whnf) | (refine ifB_intro (fun hA => ?_) (fun hA => ?_) <;> (try rw [hA]) <;> (conv => whnf) <;> (first | replace hA := of_decide_eq_true hA | replace hA := of_decide_eq_false hA | replace hA := eq_of_beq hA | replace hA := ne_of_beq_false hA | replace hA := bne_iff_ne.1 hA | replace hA := bne_eq_false_iff_eq.1 hA | skip) <;> (try simp only [List.length_map, cond_true, cond_false, Bool.not_eq_true', Bool.not_eq_false', beq_iff_eq, beq_eq_false_iff_ne, ne_eq] at hA)) | (refine CallP.det (names1_ctr g) ?_; conv => whnf) | (refine CallD.det (names1_ctr g) ?_; conv => whnf) | (rw [getD_map _ _ _ _ (by assumption)]; conv => whnf))
  refine LoopP.inv (X := ax g) (fun i : Nat => { f := [(0, .str w), (2, .i64 0), (3, .d (.sl true 1 ((List.range 8).map rowM))), (4, .i64 i)], h := [] }) (fun i => i ≤ 8 ∧ fieldIx w = fieldGo w ([0, 1, 2, 3, 4, 5, 6, 7].drop i)) (fun i => 8 - i) 0 ⟨by omega, rfl⟩ ⟨⟨rfl, rfl, rfl, rfl, trivial⟩, trivial⟩ fun i hi => ?_
  obtain ⟨hi, he⟩ := hi
  conv => whnf
  repeat' (first | (refine And.intro (by first | exact rfl | decide | exact Nat.le_of_ble_eq_true rfl | exact ⟨_, rfl⟩ | exact ⟨_, _, rfl⟩ | exact Nat.le_refl _ | exact Int.le_refl _ | omega | (simp only [List.length_map]; omega) | exact True.intro | (simp only []; omega) | (simp only []; omega) | (simp only []; omega) | exact ⟨⟨_, _, rfl, rfl, Nat.le_of_ble_eq_true rfl⟩, trivial⟩ | exact ⟨⟨_, _, rfl, rfl, Nat.le_of_ble_eq_true rfl⟩, ⟨_, _, rfl, rfl, Nat.le_of_ble_eq_true rfl⟩, trivial⟩ | exact ⟨⟨_, _, rfl, rfl, Nat.le_of_ble_eq_true rfl⟩, ⟨_, _, rfl, rfl, Nat.le_of_ble_eq_true rfl⟩, ⟨_, _, rfl, rfl, Nat.le_of_ble_eq_true rfl⟩, trivial⟩) ?_; conv => whnf) | (refine ifB_intro (fun hA => ?_) (fun hA => ?_) <;> (try rw [hA]) <;> (conv => whnf) <;> (first | replace hA := of_decide_eq_true hA | replace hA := of_decide_eq_false hA | replace hA := eq_of_beq hA | replace hA := ne_of_beq_false hA | replace hA := bne_iff_ne.1 hA | replace hA := bne_eq_false_iff_eq.1 hA | skip) <;> (try simp only [List.length_map, ne_eq] at hA)) | (rw [names1_at (by simp only [List.length_range] at *; omega)]; conv => whnf) | (rw [getD_map _ _ _ _ (by assumption)]; conv => whnf))
  · rename_i h8
    have h8 : i < 8 := by simp only [List.length_range] at h8; omega
    rw [fieldGo_drop w i h8, if_pos hA] at he
    refine ⟨⟨[], ?_⟩⟩
    conv => whnf
    rw [he]; rfl
  · rename_i h8
    have h8 : i < 8 := by simp only [List.length_range] at h8; omega
    rw [fieldGo_drop w i h8, if_neg hA] at he
    exact ⟨i + 1, ⟨by omega, he⟩, by omega, ⟨⟨rfl, rfl, rfl, AV.int_eq (i64_succ (by omega)), trivial⟩, trivial⟩⟩
  · have : i = 8 := by simp only [List.length_range] at hA; omega
    subst this
    refine ⟨⟨[], ?_⟩⟩
    conv => whnf
    rw [he]; rfl
theorem refres_ctr (g : GP) (w : ByteArray) : Ctr (ax g).E 46 [.str w] [] (fun o => o = .ret (.bool (reservedS w)) []) := by
  refine Ctr.body (X := ax g) _ 18 [] [.tmp 2] Tryd.func46 rfl rfl rfl rfl (by decide +kernel) rfl rfl ?_
  conv => whnf
  repeat' (first | (refine And.intro (by first | exact rfl | decide | exact Nat.le_of_ble_eq_true rfl | exact ⟨_, rfl⟩ | exact ⟨_, _, rfl⟩ | exact Nat.le_refl _ | exact Int.le_refl _ | omega | (simp only [List.length_map]; omega) | exact True.intro | (simp only [IntKind.wrap_i64, List.length_map]; omega) | (simp only [List.map_cons, List.map_nil, List.length_cons, Option.getD]; omega) | (simp only [bsz, ByteArray.size_append, List.size_toArray, List.length_cons, List.length_nil]; omega) | exact ⟨⟨_, _, rfl, rfl, Nat.le_of_ble_eq_true rfl⟩, trivial⟩ | exact ⟨⟨_, _, rfl, rfl, Nat.le_of_ble_eq_true rfl⟩, ⟨_, _, rfl, rfl, Nat.le_of_ble_eq_true rfl⟩, trivial⟩ | exact ⟨⟨_, _, rfl, rfl, Nat.le_of_ble_eq_true rfl⟩, ⟨_, _, rfl, rfl, Nat.le_of_ble_eq_true rfl⟩, ⟨_, _, rfl, rfl, Nat.le_of_ble_eq_true rfl⟩, trivial⟩) ?_; conv => whnf) | (refine ifB_intro (fun hA => ?_) (fun hA => ?_) <;> (try rw [hA]) <;> (conv => whnf) <;> (first | replace hA := of_decide_eq_true hA | replace hA := of_decide_eq_false hA | replace hA := eq_of_beq hA | replace hA := ne_of_beq_false hA | replace hA := bne_iff_ne.1 hA | replace hA := bne_eq_false_iff_eq.1 hA | skip) <;> (try simp only [List.length_map, cond_true, cond_false, Bool.not_eq_true', Bool.not_eq_false', beq_iff_eq, beq_eq_false_iff_ne, ne_eq] at hA)) | (refine CallP.det (reffield_ctr g w) ?_; conv => whnf) | (refine CallD.det (reffield_ctr g w) ?_; conv => whnf) | (rw [getD_map _ _ _ _ (by assumption)]; conv => whnf))
  · have hs : (fieldIx w).isSome = true := by
      cases h : fieldIx w with
      | none => rw [h] at hA; simp [fieldZ] at hA
      | some i => rfl
    refine ⟨⟨[], ?_⟩⟩
    conv => whnf
    simp [reservedS, hs]
  · have hs : (fieldIx w).isSome = false := by
      cases h : fieldIx w with
      | none => rfl
      | some i => rw [h] at hA; simp [fieldZ] at hA
    have hr : reservedS w = resWords.any (fun v => decide (v = w.data.toList)) := by
      rw [reservedS, hs, Bool.or_false]
      congr 1; funext v; rw [decide_eq_decide]; exact eq_comm
    rw [hr]
    refine LoopP.rounds (X := ax g) 10 ?_
    conv => whnf
    repeat' (first | (refine And.intro (by first | exact rfl | decide | exact Nat.le_of_ble_eq_true rfl | exact ⟨_, rfl⟩ | exact ⟨_, _, rfl⟩ | exact Nat.le_refl _ | exact Int.le_refl _ | omega | (simp only [List.length_map]; omega) | exact True.intro | (simp only [IntKind.wrap_i64, List.length_map]; omega) | (simp only [List.map_cons, List.map_nil, List.length_cons, Option.getD]; omega) | (simp only [bsz, ByteArray.size_append, List.size_toArray, List.length_cons, List.length_nil]; omega) | exact ⟨⟨_, _, rfl, rfl, Nat.le_of_ble_eq_true rfl⟩, trivial⟩ | exact ⟨⟨_, _, rfl, rfl, Nat.le_of_ble_eq_true rfl⟩, ⟨_, _, rfl, rfl, Nat.le_of_ble_eq_true rfl⟩, trivial⟩ | exact ⟨⟨_, _, rfl, rfl, Nat.le_of_ble_eq_true rfl⟩, ⟨_, _, rfl, rfl, Nat.le_of_ble_eq_true rfl⟩, ⟨_, _, rfl, rfl, Nat.le_of_ble_eq_true rfl⟩, trivial⟩) ?_; conv => whnf) | (refine ifB_intro (fun hA => ?_) (fun hA => ?_) <;> (try rw [hA]) <;> (conv => whnf) <;> (first | replace hA := of_decide_eq_true hA | replace hA := of_decide_eq_false hA | replace hA := eq_of_beq hA | replace hA := ne_of_beq_false hA | replace hA := bne_iff_ne.1 hA | replace hA := bne_eq_false_iff_eq.1 hA | skip) <;> (try simp only [ne_eq] at hA)) | (rw [getD_map _ _ _ _ (by assumption)]; conv => whnf))
    all_goals first
      | (refine ⟨⟨[], ?_⟩⟩; (conv => whnf); done)
      | (refine ⟨⟨[], ?_⟩⟩; (conv => whnf); simp_all [resWords]; done)

abbrev letT (s dd : ByteArray) : ByteArray := (((⟨#[108, 101, 116, 32]⟩ ++ s) ++ ⟨#[32, 61, 32]⟩) ++ dd) ++ ⟨#[32, 46, 32]⟩
abbrev textA (s dd : ByteArray) : ByteArray := (((⟨#[105, 110, 105, 116, 32, 48, 32, 46, 32]⟩ ++ letT s dd) ++ ⟨#[112, 111, 108, 105, 99, 121, 32, 100, 115, 116, 61]⟩) ++ s) ++ ⟨#[32, 46]⟩
abbrev textB (s dd : ByteArray) : ByteArray := ((⟨#[105, 110, 105, 116, 32, 48, 32, 46, 32]⟩ ++ letT s dd) ++ letT s dd) ++ ⟨#[112, 111, 108, 105, 99, 121, 32, 105, 100, 32, 46]⟩
abbrev textC (s : ByteArray) : ByteArray := (⟨#[105, 110, 105, 116, 32, 48, 32, 46, 32, 112, 111, 108, 105, 99, 121, 32, 100, 115, 116, 61]⟩ ++ s) ++ ⟨#[32, 46]⟩

theorem dig_bytes (n : Nat) : (bytesOf [[D.v (Value.int .u8 (IntKind.u8.wrap (48 + ((n : Nat) : Int).tmod 10)))]]).data.toList = [UInt8.ofNat (48 + n % 10)] := by
  have h1 : IntKind.u8.wrap (48 + ((n : Nat) : Int).tmod 10) = ((48 + n % 10 : Nat) : Int) := by
    rw [Int.tmod_eq_emod_of_nonneg (by omega), IntKind.wrap_u8]; omega
  rw [h1]
  show (ByteArray.empty.push (UInt8.ofNat (((48 + n % 10 : Nat) : Int).toNat))).data.toList = _
  rw [Int.toNat_natCast]
  rfl
theorem low_of {s : ByteArray} (h : ∀ j : Nat, j < s.size → 97 ≤ byteAt s j ∧ byteAt s j ≤ 122) : LowL s.data.toList := fun b hb => by
  obtain ⟨j, hj, rfl⟩ := List.mem_iff_getElem.1 hb
  have hj' : j < s.size := by rw [← len_data]; exact hj
  have := h j hj'
  have e : byteAt s j = ((s.data.toList[j]'hj).toNat : Int) := by
    unfold byteAt
    rw [dif_pos (by simpa using hj')]
    rw [Array.getElem_toList]; rfl
  rw [e] at this
  omega

theorem namesLaw_ctr (g : GP) (hg : ∀ w, g.G w → LibG w) (s : ByteArray) (hs : s.size < 2 ^ 62) (n : Nat) (hn : n < 256) : Ctr (ax g).E 10 [.str s, .d (.v (.int .u8 n))] [] (fun o => o = .ret (.bool true) []) := by
  have ha := awake5_ctr g hg
  refine Ctr.body (X := ax g) _ 108 [] [.tmp 4] Tryd.func10 rfl rfl rfl rfl (by decide +kernel) rfl rfl ?_
  conv => whnf
  repeat' (first | (refine And.intro (by first | exact rfl | decide | exact Nat.le_of_ble_eq_true rfl | exact ⟨_, rfl⟩ | exact ⟨_, _, rfl⟩ | exact Nat.le_refl _ | exact Int.le_refl _ | omega | (simp only [List.length_map]; omega) | exact True.intro | (simp only [IntKind.wrap_i64, List.length_map]; omega) | (simp only [List.map_cons, List.map_nil, List.length_cons, Option.getD]; omega) | (simp only [bsz, ByteArray.size_append, List.size_toArray, List.length_cons, List.length_nil]; omega) | exact ⟨⟨_, _, rfl, rfl, Nat.le_of_ble_eq_true rfl⟩, trivial⟩ | exact ⟨⟨_, _, rfl, rfl, Nat.le_of_ble_eq_true rfl⟩, ⟨_, _, rfl, rfl, Nat.le_of_ble_eq_true rfl⟩, trivial⟩ | exact ⟨⟨_, _, rfl, rfl, Nat.le_of_ble_eq_true rfl⟩, ⟨_, _, rfl, rfl, Nat.le_of_ble_eq_true rfl⟩, ⟨_, _, rfl, rfl, Nat.le_of_ble_eq_true rfl⟩, trivial⟩) ?_; conv => whnf) | (refine ifB_intro (fun hA => ?_) (fun hA => ?_) <;> (try rw [hA]) <;> (conv => whnf) <;> (first | replace hA := of_decide_eq_true hA | replace hA := of_decide_eq_false hA | replace hA := eq_of_beq hA | replace hA := ne_of_beq_false hA | replace hA := bne_iff_ne.1 hA | replace hA := bne_eq_false_iff_eq.1 hA | skip) <;> (try simp only [List.length_map, cond_true, cond_false, Bool.not_eq_true', Bool.not_eq_false', beq_iff_eq, beq_eq_false_iff_ne, ne_eq] at hA)) | (refine CallP.det (ha) ?_; conv => whnf) | (refine CallD.det (ha) ?_; conv => whnf) | (rw [getD_map _ _ _ _ (by assumption)]; conv => whnf))
  all_goals first
    | (refine ⟨⟨[], ?_⟩⟩; (conv => whnf); done)
    | (refine ⟨⟨[], ?_⟩⟩; (conv => whnf); rfl)
    | skip
  have h20 : 1 ≤ s.size ∧ s.size ≤ 20 := by omega
  refine LoopP.inv (X := ax g) (fun i : Nat => { f := [(0, .str s), (1, .d (.v (.int .u8 n))), (4, .bool false), (25, .i64 s.size), (26, .i64 i)], h := [] }) (fun i => i ≤ s.size ∧ ∀ j : Nat, j < i → 97 ≤ byteAt s j ∧ byteAt s j ≤ 122) (fun i => s.size - i) 0 ⟨Nat.zero_le _, fun j hj => absurd hj (by omega)⟩ ⟨⟨rfl, rfl, rfl, rfl, rfl, trivial⟩, trivial⟩ fun i ⟨hi, he⟩ => ?_
  conv => whnf
  repeat' (first | (refine And.intro (by first | exact rfl | decide | exact Nat.le_of_ble_eq_true rfl | exact ⟨_, rfl⟩ | exact ⟨_, _, rfl⟩ | exact Nat.le_refl _ | exact Int.le_refl _ | omega | (simp only [List.length_map]; omega) | exact True.intro | (simp only [IntKind.wrap_i64, List.length_map]; omega) | (simp only [List.map_cons, List.map_nil, List.length_cons, Option.getD]; omega) | (simp only [bsz, ByteArray.size_append, List.size_toArray, List.length_cons, List.length_nil]; omega) | exact ⟨⟨_, _, rfl, rfl, Nat.le_of_ble_eq_true rfl⟩, trivial⟩ | exact ⟨⟨_, _, rfl, rfl, Nat.le_of_ble_eq_true rfl⟩, ⟨_, _, rfl, rfl, Nat.le_of_ble_eq_true rfl⟩, trivial⟩ | exact ⟨⟨_, _, rfl, rfl, Nat.le_of_ble_eq_true rfl⟩, ⟨_, _, rfl, rfl, Nat.le_of_ble_eq_true rfl⟩, ⟨_, _, rfl, rfl, Nat.le_of_ble_eq_true rfl⟩, trivial⟩) ?_; conv => whnf) | (refine ifB_intro (fun hA => ?_) (fun hA => ?_) <;> (try rw [hA]) <;> (conv => whnf) <;> (first | replace hA := of_decide_eq_true hA | replace hA := of_decide_eq_false hA | replace hA := eq_of_beq hA | replace hA := ne_of_beq_false hA | replace hA := bne_iff_ne.1 hA | replace hA := bne_eq_false_iff_eq.1 hA | skip) <;> (try simp only [List.length_map, cond_true, cond_false, Bool.not_eq_true', Bool.not_eq_false', beq_iff_eq, beq_eq_false_iff_ne, ne_eq] at hA)) | (rw [getD_map _ _ _ _ (by assumption)]; conv => whnf))
  · refine ⟨⟨[], ?_⟩⟩; conv => whnf
  · refine ⟨⟨[], ?_⟩⟩; conv => whnf
  · refine ⟨i + 1, ⟨by omega, fun j hj => ?_⟩, by omega, ⟨⟨rfl, rfl, rfl, rfl, AV.int_eq (i64_succ (by omega)), trivial⟩, trivial⟩⟩
    by_cases h : j = i
    · subst h; omega
    · exact he j (by omega)
  · have hw : LowL s.data.toList := low_of fun j hj => he j (by omega)
    have hne : s.data.toList ≠ [] := fun h => by have := len_data s; rw [h] at this; simp at this; omega
    have hl : s.data.toList.length ≤ 20 := by rw [len_data]; exact h20.2
    have hsw : (⟨s.data.toList.toArray⟩ : ByteArray) = s := by cases s; simp
    refine And.intro (fun q hq => ⟨_, by simpa using hq⟩) ?_
    conv => whnf
    have hdd := dig_bytes n
    generalize bytesOf [[D.v (Value.int .u8 (IntKind.u8.wrap (48 + ((n : Nat) : Int).tmod 10)))]] = dd at hdd ⊢
    have hd10 : n % 10 < 10 := Nat.mod_lt _ (by omega)
    have hdd1 : dd.size = 1 := by rw [← len_data, hdd]; rfl
    have tA := tok_A hne hw hl hd10 (s := textA s dd) (by simp [ByteArray.data_append, Array.toList_append, hdd])
    have tB := tok_B hne hw hl hd10 (s := textB s dd) (by simp [ByteArray.data_append, Array.toList_append, hdd])
    have tC := tok_C hne hw hl (s := textC s) (by simp [ByteArray.data_append, Array.toList_append])
    obtain ⟨fA, rA⟩ := names_A tA
    obtain ⟨fB, rB⟩ := names_B tB
    obtain ⟨fC, rC⟩ := names_C tC
    rw [hsw] at rA rB rC
    have pA := parse5_ctr g hg (textA s dd) (by simp only [bsz, ByteArray.size_append, List.size_toArray, List.length_cons, List.length_nil]; omega) fA
    have pB := parse5_ctr g hg (textB s dd) (by simp only [bsz, ByteArray.size_append, List.size_toArray, List.length_cons, List.length_nil]; omega) fB
    have pC := parse5_ctr g hg (textC s) (by simp only [bsz, ByteArray.size_append, List.size_toArray, List.length_cons, List.length_nil]; omega) fC
    rw [rA] at pA; rw [rB] at pB; rw [rC] at pC
    have hr := refres_ctr g s
    cases hrs : reservedS s with
    | true =>
      rw [hrs] at pA pB pC hr
      rw [if_pos rfl] at pA pB pC
      repeat' (first | (refine And.intro (by first | exact rfl | decide | exact Nat.le_of_ble_eq_true rfl | exact ⟨_, rfl⟩ | exact ⟨_, _, rfl⟩ | exact Nat.le_refl _ | exact Int.le_refl _ | omega | (simp only [List.length_map]; omega) | exact True.intro | (simp only [IntKind.wrap_i64, List.length_map]; omega) | (simp only [List.map_cons, List.map_nil, List.length_cons, Option.getD]; omega) | (simp only [bsz, ByteArray.size_append, List.size_toArray, List.length_cons, List.length_nil]; omega) | exact ⟨⟨_, _, rfl, rfl, Nat.le_of_ble_eq_true rfl⟩, trivial⟩ | exact ⟨⟨_, _, rfl, rfl, Nat.le_of_ble_eq_true rfl⟩, ⟨_, _, rfl, rfl, Nat.le_of_ble_eq_true rfl⟩, trivial⟩ | exact ⟨⟨_, _, rfl, rfl, Nat.le_of_ble_eq_true rfl⟩, ⟨_, _, rfl, rfl, Nat.le_of_ble_eq_true rfl⟩, ⟨_, _, rfl, rfl, Nat.le_of_ble_eq_true rfl⟩, trivial⟩) ?_; conv => whnf) | (refine ifB_intro (fun hA => ?_) (fun hA => ?_) <;> (try rw [hA]) <;> (conv => whnf) <;> (first | replace hA := of_decide_eq_true hA | replace hA := of_decide_eq_false hA | replace hA := eq_of_beq hA | replace hA := ne_of_beq_false hA | replace hA := bne_iff_ne.1 hA | replace hA := bne_eq_false_iff_eq.1 hA | skip) <;> (try simp only [List.length_map, cond_true, cond_false, Bool.not_eq_true', Bool.not_eq_false', beq_iff_eq, beq_eq_false_iff_ne, ne_eq] at hA)) | (refine CallP.det (pA) ?_; conv => whnf) | (refine CallD.det (pA) ?_; conv => whnf) | (refine CallP.det (pB) ?_; conv => whnf) | (refine CallD.det (pB) ?_; conv => whnf) | (refine CallP.det (pC) ?_; conv => whnf) | (refine CallD.det (pC) ?_; conv => whnf) | (refine CallP.det (hr) ?_; conv => whnf) | (refine CallD.det (hr) ?_; conv => whnf) | (rw [getD_map _ _ _ _ (by assumption)]; conv => whnf))
      refine ⟨⟨[], ?_⟩⟩
      conv => whnf
      rfl
    | false =>
      rw [hrs] at pA pB pC hr
      rw [if_neg (by simp)] at pA pB pC
      have e1 : ((n % 10 : Nat) : Int) = IntKind.u16.wrap (((n : Nat) : Int).tmod 10) := by
        rw [Int.tmod_eq_emod_of_nonneg (by omega), IntKind.wrap_u16]; omega
      repeat' (first | (refine And.intro (by first | exact rfl | decide | exact Nat.le_of_ble_eq_true rfl | exact ⟨_, rfl⟩ | exact ⟨_, _, rfl⟩ | exact Nat.le_refl _ | exact Int.le_refl _ | omega | (simp only [List.length_map]; omega) | exact True.intro | (simp only [IntKind.wrap_i64, List.length_map]; omega) | (simp only [List.map_cons, List.map_nil, List.length_cons, Option.getD]; omega) | (simp only [bsz, ByteArray.size_append, List.size_toArray, List.length_cons, List.length_nil]; omega) | exact ⟨⟨_, _, rfl, rfl, Nat.le_of_ble_eq_true rfl⟩, trivial⟩ | exact ⟨⟨_, _, rfl, rfl, Nat.le_of_ble_eq_true rfl⟩, ⟨_, _, rfl, rfl, Nat.le_of_ble_eq_true rfl⟩, trivial⟩ | exact ⟨⟨_, _, rfl, rfl, Nat.le_of_ble_eq_true rfl⟩, ⟨_, _, rfl, rfl, Nat.le_of_ble_eq_true rfl⟩, ⟨_, _, rfl, rfl, Nat.le_of_ble_eq_true rfl⟩, trivial⟩) ?_; conv => whnf) | (refine ifB_intro (fun hA => ?_) (fun hA => ?_) <;> (try rw [hA]) <;> (conv => whnf) <;> (first | replace hA := of_decide_eq_true hA | replace hA := of_decide_eq_false hA | replace hA := eq_of_beq hA | replace hA := ne_of_beq_false hA | replace hA := bne_iff_ne.1 hA | replace hA := bne_eq_false_iff_eq.1 hA | skip) <;> (try simp only [] at hA)) | (refine CallP.det (pA) ?_; conv => whnf) | (refine CallD.det (pA) ?_; conv => whnf) | (refine CallP.det (pB) ?_; conv => whnf) | (refine CallD.det (pB) ?_; conv => whnf) | (refine CallP.det (pC) ?_; conv => whnf) | (refine CallD.det (pC) ?_; conv => whnf) | (refine CallP.det (hr) ?_; conv => whnf) | (refine CallD.det (hr) ?_; conv => whnf) | (rw [getD_map _ _ _ _ (by assumption)]; conv => whnf))
      all_goals first
        | (refine ⟨⟨[], ?_⟩⟩; (conv => whnf); rfl)
        | (refine ⟨⟨[], ?_⟩⟩; (conv => whnf); simp; done)
        | (exfalso; clear ha pA pB pC hr; simp_all; done)
        | exact absurd e1 hA

end Go.Ax
