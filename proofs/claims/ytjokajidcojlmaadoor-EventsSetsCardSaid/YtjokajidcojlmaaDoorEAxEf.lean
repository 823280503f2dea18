import Derived.Test.YtjokajidcojlmaaDoorEAxEe
import Derived.Test.YtjokajidcojlmaaDoorEAxLib
import Derived.Test.YtjokajidcojlmaaDoorEAxV
import Derived.Test.YtjokajidcojlmaaDoorEAxEnv
import Derived.Lib.ItoaNum
import Derived.Lib.Join

/- Sets of events: First, List, and the document's functions. -/
namespace Go.Ax
open Go.Proofs
set_option maxRecDepth 10000

abbrev DebT (w : World) : Prop := Lib.TabIs Tryd.prog w "math/bits.deBruijn64tab" .u8 Tryd.deB
def firstZ (s : BitVec 64) : Int := if s = 0#64 then 0 else (Lib.ctz 64 s.toNat : Nat)
theorem first_ctr (g : GP) (hg : ∀ w, g.G w → DebT w) (s : BitVec 64) : Ctr (ax g).E 52 [.u64 s] [] (fun o => o = .ret (.tup [.i64 (firstZ s), .bool (s != 0#64)]) []) := by
  have hz : ((s.toNat : Int) == 0) = (s == 0#64) := u64_beq s 0#64
  refine Ctr.body (X := ax g) _ 8 [] [.tmp 2, .tmp 3] Tryd.func52 rfl rfl rfl rfl (by decide +kernel) rfl rfl ?_
  conv => whnf
  rw [hz]
  by_cases h : s = 0#64
  · rw [show (s == 0#64) = true from by simpa using h]
    conv => whnf
    refine ⟨⟨[], ?_⟩⟩
    conv => whnf
    rw [firstZ, if_pos h, show (s != 0#64) = false from by simpa using h]
  · rw [show (s == 0#64) = false from by simpa using h]
    conv => whnf
    repeat' (first | (refine And.intro (by first | exact rfl | decide | exact Nat.le_of_ble_eq_true rfl | exact ⟨_, rfl⟩ | exact ⟨_, _, rfl⟩ | exact Nat.le_refl _ | exact Int.le_refl _ | omega | (simp only [List.length_map]; omega) | exact True.intro | (simp only [IntKind.wrap_i64, List.length_map]; omega) | (simp only [List.map_cons, List.map_nil, List.length_cons, Option.getD]; omega) | (simp only [bsz, ByteArray.size_append, List.size_toArray, List.length_cons, List.length_nil]; omega) | exact ⟨⟨_, _, rfl, rfl, Nat.le_of_ble_eq_true rfl⟩, trivial⟩ | exact ⟨⟨_, _, rfl, rfl, Nat.le_of_ble_eq_true rfl⟩, ⟨_, _, rfl, rfl, Nat.le_of_ble_eq_true rfl⟩, trivial⟩ | exact ⟨⟨_, _, rfl, rfl, Nat.le_of_ble_eq_true rfl⟩, ⟨_, _, rfl, rfl, Nat.le_of_ble_eq_true rfl⟩, ⟨_, _, rfl, rfl, Nat.le_of_ble_eq_true rfl⟩, trivial⟩) ?_; conv => whnf) | (refine ifB_intro (fun hA => ?_) (fun hA => ?_) <;> (try rw [hA]) <;> (conv => whnf) <;> (first | replace hA := of_decide_eq_true hA | replace hA := of_decide_eq_false hA | replace hA := eq_of_beq hA | replace hA := ne_of_beq_false hA | replace hA := bne_iff_ne.1 hA | replace hA := bne_eq_false_iff_eq.1 hA | skip) <;> (try simp only [List.length_map, cond_true, cond_false, Bool.not_eq_true', Bool.not_eq_false', beq_iff_eq, beq_eq_false_iff_ne, ne_eq] at hA)) | (refine CallP.det (tz_ctr g hg s) ?_; conv => whnf) | (refine CallD.det (tz_ctr g hg s) ?_; conv => whnf) | (rw [getD_map _ _ _ _ (by assumption)]; conv => whnf))
    refine ⟨⟨[], ?_⟩⟩
    conv => whnf
    rw [firstZ, if_neg h, show (s != 0#64) = true from by simpa using h]

theorem lstZ_len (s : BitVec 64) : (lstZ s).length = (lstB s).length := by simp [lstZ]
theorem lstZ_zero : lstZ 0#64 = [] := by rw [lstZ, lstB_nil _ rfl]; rfl
theorem lstZ_first (s : BitVec 64) (h : s ≠ 0#64) : lstZ s = firstZ s :: lstZ (withoutB s (firstZ s)) ∧ (lstB (withoutB s (firstZ s))).length < (lstB s).length := by
  obtain ⟨h1, h2, h3⟩ := ctz_first s h
  have h4 := lstB_first s _ h1 h2
  have e : firstZ s = ((Lib.ctz 64 s.toNat : Nat) : Int) := by rw [firstZ, if_neg h]
  rw [e]
  constructor
  · unfold lstZ
    conv => lhs; rw [h4]
    rfl
  · conv => rhs; rw [h4]
    simp
theorem list_ctr (g : GP) (hg : ∀ w, g.G w → DebT w) (s : BitVec 64) : Ctr (ax g).E 48 [.u64 s] [] (fun o => o = .ret (.d (.sl false 1 ((lstZ s).map rowZ))) []) := by
  refine Ctr.body (X := ax g) _ 25 [] [.tmp 2] Tryd.func48 rfl rfl rfl rfl (by decide +kernel) rfl rfl ?_
  conv => whnf
  repeat' (first | (refine And.intro (by first | exact rfl | decide | exact Nat.le_of_ble_eq_true rfl | exact ⟨_, rfl⟩ | exact ⟨_, _, rfl⟩ | exact Nat.le_refl _ | exact Int.le_refl _ | omega | (simp only [List.length_map]; omega) | exact True.intro | (simp only [IntKind.wrap_i64, List.length_map]; omega) | (simp only [List.map_cons, List.map_nil, List.length_cons, Option.getD]; omega) | (simp only [bsz, ByteArray.size_append, List.size_toArray, List.length_cons, List.length_nil]; omega) | exact ⟨⟨_, _, rfl, rfl, Nat.le_of_ble_eq_true rfl⟩, trivial⟩ | exact ⟨⟨_, _, rfl, rfl, Nat.le_of_ble_eq_true rfl⟩, ⟨_, _, rfl, rfl, Nat.le_of_ble_eq_true rfl⟩, trivial⟩ | exact ⟨⟨_, _, rfl, rfl, Nat.le_of_ble_eq_true rfl⟩, ⟨_, _, rfl, rfl, Nat.le_of_ble_eq_true rfl⟩, ⟨_, _, rfl, rfl, Nat.le_of_ble_eq_true rfl⟩, trivial⟩) ?_; conv => whnf) | (refine ifB_intro (fun hA => ?_) (fun hA => ?_) <;> (try rw [hA]) <;> (conv => whnf) <;> (first | replace hA := of_decide_eq_true hA | replace hA := of_decide_eq_false hA | replace hA := eq_of_beq hA | replace hA := ne_of_beq_false hA | replace hA := bne_iff_ne.1 hA | replace hA := bne_eq_false_iff_eq.1 hA | skip) <;> (try simp only [List.length_map, cond_true, cond_false, Bool.not_eq_true', Bool.not_eq_false', beq_iff_eq, beq_eq_false_iff_ne, ne_eq] at hA)) | (refine CallP.det (first_ctr g hg s) ?_; conv => whnf) | (refine CallD.det (first_ctr g hg s) ?_; conv => whnf) | (rw [getD_map _ _ _ _ (by assumption)]; conv => whnf))
  refine LoopP.own 3 900 1 3 rfl rfl rfl ?_
  refine LoopP.inv (X := ax g) (fun x : List Int × BitVec 64 => { f := [(0, .u64 x.2), (3, .msl 900 x.1.length 0 x.1.length), (4, .i64 (firstZ x.2)), (5, .bool (x.2 != 0#64))], h := [(900, some (.buf 1 3 (x.1.map rowZ)))] }) (fun x => lstZ s = x.1 ++ lstZ x.2) (fun x => (lstB x.2).length) ([], s) rfl ⟨⟨rfl, rfl, rfl, rfl, trivial⟩, ⟨fun o h => h, trivial⟩⟩ fun ⟨acc, u⟩ hI => ?_
  dsimp only at hI ⊢
  conv => whnf
  refine ifB_intro (fun h => ?_) (fun h => ?_)
  · have h : u ≠ 0#64 := by simpa using h
    obtain ⟨h1, h2⟩ := lstZ_first u h
    have hle : acc.length ≤ 64 := by
      have h5 := congrArg List.length hI
      rw [List.length_append, lstZ_len] at h5
      have := lstB_len s
      omega
    conv => whnf
    repeat' (first | (refine And.intro (by first | exact rfl | decide | exact Nat.le_of_ble_eq_true rfl | exact ⟨_, rfl⟩ | exact ⟨_, _, rfl⟩ | exact Nat.le_refl _ | exact Int.le_refl _ | omega | (simp only [List.length_map]; omega) | exact True.intro | (simp only [List.length_map]; omega) | (simp only [List.length_cons]; omega) | (simp only [List.length_cons, List.length_nil]; omega) | exact ⟨⟨_, _, rfl, rfl, Nat.le_of_ble_eq_true rfl⟩, trivial⟩ | exact ⟨⟨_, _, rfl, rfl, Nat.le_of_ble_eq_true rfl⟩, ⟨_, _, rfl, rfl, Nat.le_of_ble_eq_true rfl⟩, trivial⟩ | exact ⟨⟨_, _, rfl, rfl, Nat.le_of_ble_eq_true rfl⟩, ⟨_, _, rfl, rfl, Nat.le_of_ble_eq_true rfl⟩, ⟨_, _, rfl, rfl, Nat.le_of_ble_eq_true rfl⟩, trivial⟩) ?_; conv => whnf) | (refine ifB_intro (fun hA => ?_) (fun hA => ?_) <;> (try rw [hA]) <;> (conv => whnf) <;> (first | replace hA := of_decide_eq_true hA | replace hA := of_decide_eq_false hA | replace hA := eq_of_beq hA | replace hA := ne_of_beq_false hA | replace hA := bne_iff_ne.1 hA | replace hA := bne_eq_false_iff_eq.1 hA | skip) <;> (try simp only [List.length_map, cond_true, cond_false, Bool.not_eq_true', Bool.not_eq_false', beq_iff_eq, beq_eq_false_iff_ne, ne_eq] at hA)) | (refine CallP.det (without_ctr g u (firstZ u)) ?_; conv => whnf) | (refine CallD.det (without_ctr g u (firstZ u)) ?_; conv => whnf) | (refine CallP.det (first_ctr g hg (withoutB u (firstZ u))) ?_; conv => whnf) | (refine CallD.det (first_ctr g hg (withoutB u (firstZ u))) ?_; conv => whnf) | (refine And.intro (List.length_map _).symm ?_; conv => whnf) | (refine And.intro (by show ((acc.map rowZ).length + 1) * 8 ≤ 140737488355328; rw [List.length_map]; omega) ?_; conv => whnf) | (rw [getD_map _ _ _ _ (by assumption)]; conv => whnf))
    refine ⟨(acc ++ [firstZ u], withoutB u (firstZ u)), ?_, h2, ⟨⟨rfl, msl_eq (by simp), rfl, rfl, trivial⟩, ⟨fun o h => by rw [← h, List.map_append]; rfl, trivial⟩⟩⟩
    show lstZ s = (acc ++ [firstZ u]) ++ lstZ (withoutB u (firstZ u))
    rw [hI, h1, List.append_assoc]; rfl
  · have h : u = 0#64 := by simpa using h
    subst h
    conv => whnf
    refine ⟨⟨[], ?_⟩⟩
    conv => whnf
    rw [hI, lstZ_zero, List.append_nil]
    refine And.intro (List.length_map _).symm ?_
    conv => whnf
    refine And.intro (by rw [List.length_map]; omega) ?_
    conv => whnf
    simp
    exact List.take_of_length_le (by simp)

theorem pow2_ctr (g : GP) (e : Int) (h0 : 0 ≤ e) (h1 : e < 64) : Ctr (ax g).E 104 [.i64 e] [] (fun o => o = .ret (.u64 (bitF e)) []) := by
  obtain ⟨n, rfl⟩ : ∃ n : Nat, e = n := ⟨e.toNat, by omega⟩
  rw [bitF_in h0 h1, Int.toNat_natCast]
  have hn : n < 64 := by omega
  refine Ctr.body (X := ax g) _ 13 [] [.tmp 2] Tryd.func104 rfl rfl rfl rfl (by decide +kernel) rfl rfl ?_
  conv => whnf
  refine LoopP.inv (X := ax g) (fun i : Nat => { f := [(0, .i64 n), (3, .u64 (1#64 <<< i)), (4, .i64 i)], h := [] }) (fun i => i ≤ n) (fun i => n - i) 0 (Nat.zero_le _) ⟨⟨rfl, rfl, rfl, trivial⟩, trivial⟩ fun i hi => ?_
  conv => whnf
  refine ifB_intro (fun h => ?_) (fun h => ?_)
  · have h : i < n := by first | (have h0 := of_decide_eq_true h; omega) | (have h0 := of_decide_eq_false h; omega) | (have h0 := h; simp at h0; omega) | (have h0 := h; simp at h0; exact h0)
    conv => whnf
    have e : (2#64) * (1#64 <<< i) = 1#64 <<< (i + 1) := by
      apply BitVec.eq_of_toNat_eq
      simp only [BitVec.toNat_mul, BitVec.toNat_shiftLeft, BitVec.toNat_ofNat, Nat.shiftLeft_eq]
      have hp : 2 ^ (i + 1) = 2 * 2 ^ i := by rw [Nat.pow_succ, Nat.mul_comm]
      rw [hp, show (2 % 2 ^ 64) = 2 from rfl, show (1 % 2 ^ 64) = 1 from rfl, Nat.one_mul, Nat.one_mul, Nat.mul_mod_mod]
    exact ⟨i + 1, by omega, by omega, ⟨⟨rfl, AV.int_eq ((u64_mul 2#64 _).trans (by rw [e])), AV.int_eq (i64_succ (by omega)), trivial⟩, trivial⟩⟩
  · have h : ¬ i < n := by first | (have h0 := of_decide_eq_true h; omega) | (have h0 := of_decide_eq_false h; omega) | (have h0 := h; simp at h0; omega) | (have h0 := h; simp at h0; exact h0)
    conv => whnf
    refine ⟨⟨[], ?_⟩⟩
    conv => whnf
    have : i = n := by omega
    subst this; rfl

theorem bit_ne (n : Nat) (hn : n < 64) : (1#64 <<< n) ≠ 0#64 := fun h => by
  have := congrArg (fun x => BitVec.getLsbD x n) h
  simp only [bit_get n n hn] at this
  simp at this
theorem refhas_ctr (g : GP) (s : BitVec 64) (e : Int) : Ctr (ax g).E 54 [.u64 s, .i64 e] [] (fun o => o = .ret (.bool (hasB s e)) []) := by
  refine Ctr.body (X := ax g) _ 19 [] [.tmp 4] Tryd.func54 rfl rfl rfl rfl (by decide +kernel) rfl rfl ?_
  conv => whnf
  by_cases h : 0 ≤ e ∧ e < 64
  · have hp := pow2_ctr g e h.1 h.2
    have hd : ((s / bitF e) % 2#64 == 1#64) = hasB s e := by rw [bitF_in h.1 h.2]; exact hasB_div s e h.1 h.2
    have hne : bitF e ≠ 0#64 := by rw [bitF_in h.1 h.2]; exact bit_ne _ (by omega)
    have hz : ((bitF e).toNat : Int) ≠ 0 := fun h => hne (BitVec.eq_of_toNat_eq (by simpa using h))
    repeat' (first | (refine And.intro (by first | exact rfl | decide | exact Nat.le_of_ble_eq_true rfl | exact ⟨_, rfl⟩ | exact ⟨_, _, rfl⟩ | exact Nat.le_refl _ | exact Int.le_refl _ | omega | (simp only [List.length_map]; omega) | exact True.intro | (simp only [IntKind.wrap_i64, List.length_map]; omega) | (simp only [List.map_cons, List.map_nil, List.length_cons, Option.getD]; omega) | (simp only [bsz, ByteArray.size_append, List.size_toArray, List.length_cons, List.length_nil]; omega) | exact ⟨⟨_, _, rfl, rfl, Nat.le_of_ble_eq_true rfl⟩, trivial⟩ | exact ⟨⟨_, _, rfl, rfl, Nat.le_of_ble_eq_true rfl⟩, ⟨_, _, rfl, rfl, Nat.le_of_ble_eq_true rfl⟩, trivial⟩ | exact ⟨⟨_, _, rfl, rfl, Nat.le_of_ble_eq_true rfl⟩, ⟨_, _, rfl, rfl, Nat.le_of_ble_eq_true rfl⟩, ⟨_, _, rfl, rfl, Nat.le_of_ble_eq_true rfl⟩, trivial⟩) ?_; conv => whnf) | (refine ifB_intro (fun hA => ?_) (fun hA => ?_) <;> (try rw [hA]) <;> (conv => whnf) <;> (first | replace hA := of_decide_eq_true hA | replace hA := of_decide_eq_false hA | replace hA := eq_of_beq hA | replace hA := ne_of_beq_false hA | replace hA := bne_iff_ne.1 hA | replace hA := bne_eq_false_iff_eq.1 hA | skip) <;> (try simp only [List.length_map, cond_true, cond_false, Bool.not_eq_true', Bool.not_eq_false', beq_iff_eq, beq_eq_false_iff_ne, ne_eq] at hA)) | (refine CallP.det (hp) ?_; conv => whnf) | (refine CallD.det (hp) ?_; conv => whnf) | (refine And.intro hz ?_; conv => whnf) | (exfalso; omega) | (rw [getD_map _ _ _ _ (by assumption)]; conv => whnf))
    refine ⟨⟨[], ?_⟩⟩
    conv => whnf
    rw [u64_div]
    refine congrArg (fun z => AOut.ret (AV.bool z) []) ?_
    have h5 := u64_mod (s / bitF e) 2#64
    have h6 := u64_beq (s / bitF e % 2#64) 1#64
    rw [hd] at h6
    rw [← h6, ← h5]
    rfl
  · have hf : hasB s e = false := by
      unfold hasB
      by_cases h0 : 0 ≤ e
      · rw [BitVec.getLsbD_of_ge _ _ (by omega)]; simp
      · simp [h0]
    repeat' (first | (refine And.intro (by first | exact rfl | decide | exact Nat.le_of_ble_eq_true rfl | exact ⟨_, rfl⟩ | exact ⟨_, _, rfl⟩ | exact Nat.le_refl _ | exact Int.le_refl _ | omega | (simp only [List.length_map]; omega) | exact True.intro | (simp only [IntKind.wrap_i64, List.length_map]; omega) | (simp only [List.map_cons, List.map_nil, List.length_cons, Option.getD]; omega) | (simp only [bsz, ByteArray.size_append, List.size_toArray, List.length_cons, List.length_nil]; omega) | exact ⟨⟨_, _, rfl, rfl, Nat.le_of_ble_eq_true rfl⟩, trivial⟩ | exact ⟨⟨_, _, rfl, rfl, Nat.le_of_ble_eq_true rfl⟩, ⟨_, _, rfl, rfl, Nat.le_of_ble_eq_true rfl⟩, trivial⟩ | exact ⟨⟨_, _, rfl, rfl, Nat.le_of_ble_eq_true rfl⟩, ⟨_, _, rfl, rfl, Nat.le_of_ble_eq_true rfl⟩, ⟨_, _, rfl, rfl, Nat.le_of_ble_eq_true rfl⟩, trivial⟩) ?_; conv => whnf) | (refine ifB_intro (fun hA => ?_) (fun hA => ?_) <;> (try rw [hA]) <;> (conv => whnf) <;> (first | replace hA := of_decide_eq_true hA | replace hA := of_decide_eq_false hA | replace hA := eq_of_beq hA | replace hA := ne_of_beq_false hA | replace hA := bne_iff_ne.1 hA | replace hA := bne_eq_false_iff_eq.1 hA | skip) <;> (try simp only [List.length_map, cond_true, cond_false, Bool.not_eq_true', Bool.not_eq_false', beq_iff_eq, beq_eq_false_iff_ne, ne_eq] at hA)) | (exfalso; omega) | (rw [getD_map _ _ _ _ (by assumption)]; conv => whnf))
    all_goals
      refine ⟨⟨[], ?_⟩⟩
      conv => whnf
      rw [hf]
theorem refwith_ctr (g : GP) (s : BitVec 64) (e : Int) : Ctr (ax g).E 56 [.u64 s, .i64 e] [] (fun o => o = .ret (.u64 (withB s e)) []) := by
  refine Ctr.body (X := ax g) _ 21 [] [.tmp 4] Tryd.func56 rfl rfl rfl rfl (by decide +kernel) rfl rfl ?_
  conv => whnf
  by_cases h : 0 ≤ e ∧ e < 64
  · have hp := pow2_ctr g e h.1 h.2
    cases hh : hasB s e with
    | true =>
      have h5 := refhas_ctr g s e
      rw [hh] at h5
      repeat' (first | (refine And.intro (by first | exact rfl | decide | exact Nat.le_of_ble_eq_true rfl | exact ⟨_, rfl⟩ | exact ⟨_, _, rfl⟩ | exact Nat.le_refl _ | exact Int.le_refl _ | omega | (simp only [List.length_map]; omega) | exact True.intro | (simp only [IntKind.wrap_i64, List.length_map]; omega) | (simp only [List.map_cons, List.map_nil, List.length_cons, Option.getD]; omega) | (simp only [bsz, ByteArray.size_append, List.size_toArray, List.length_cons, List.length_nil]; omega) | exact ⟨⟨_, _, rfl, rfl, Nat.le_of_ble_eq_true rfl⟩, trivial⟩ | exact ⟨⟨_, _, rfl, rfl, Nat.le_of_ble_eq_true rfl⟩, ⟨_, _, rfl, rfl, Nat.le_of_ble_eq_true rfl⟩, trivial⟩ | exact ⟨⟨_, _, rfl, rfl, Nat.le_of_ble_eq_true rfl⟩, ⟨_, _, rfl, rfl, Nat.le_of_ble_eq_true rfl⟩, ⟨_, _, rfl, rfl, Nat.le_of_ble_eq_true rfl⟩, trivial⟩) ?_; conv => whnf) | (refine ifB_intro (fun hA => ?_) (fun hA => ?_) <;> (try rw [hA]) <;> (conv => whnf) <;> (first | replace hA := of_decide_eq_true hA | replace hA := of_decide_eq_false hA | replace hA := eq_of_beq hA | replace hA := ne_of_beq_false hA | replace hA := bne_iff_ne.1 hA | replace hA := bne_eq_false_iff_eq.1 hA | skip) <;> (try simp only [List.length_map, cond_true, cond_false, Bool.not_eq_true', Bool.not_eq_false', beq_iff_eq, beq_eq_false_iff_ne, ne_eq] at hA)) | (refine CallP.det (h5) ?_; conv => whnf) | (refine CallD.det (h5) ?_; conv => whnf) | (exfalso; omega) | (rw [getD_map _ _ _ _ (by assumption)]; conv => whnf))
      refine ⟨⟨[], ?_⟩⟩
      conv => whnf
      rw [withB_has s e hh]
    | false =>
      have h5 := refhas_ctr g s e
      rw [hh] at h5
      repeat' (first | (refine And.intro (by first | exact rfl | decide | exact Nat.le_of_ble_eq_true rfl | exact ⟨_, rfl⟩ | exact ⟨_, _, rfl⟩ | exact Nat.le_refl _ | exact Int.le_refl _ | omega | (simp only [List.length_map]; omega) | exact True.intro | (simp only [IntKind.wrap_i64, List.length_map]; omega) | (simp only [List.map_cons, List.map_nil, List.length_cons, Option.getD]; omega) | (simp only [bsz, ByteArray.size_append, List.size_toArray, List.length_cons, List.length_nil]; omega) | exact ⟨⟨_, _, rfl, rfl, Nat.le_of_ble_eq_true rfl⟩, trivial⟩ | exact ⟨⟨_, _, rfl, rfl, Nat.le_of_ble_eq_true rfl⟩, ⟨_, _, rfl, rfl, Nat.le_of_ble_eq_true rfl⟩, trivial⟩ | exact ⟨⟨_, _, rfl, rfl, Nat.le_of_ble_eq_true rfl⟩, ⟨_, _, rfl, rfl, Nat.le_of_ble_eq_true rfl⟩, ⟨_, _, rfl, rfl, Nat.le_of_ble_eq_true rfl⟩, trivial⟩) ?_; conv => whnf) | (refine ifB_intro (fun hA => ?_) (fun hA => ?_) <;> (try rw [hA]) <;> (conv => whnf) <;> (first | replace hA := of_decide_eq_true hA | replace hA := of_decide_eq_false hA | replace hA := eq_of_beq hA | replace hA := ne_of_beq_false hA | replace hA := bne_iff_ne.1 hA | replace hA := bne_eq_false_iff_eq.1 hA | skip) <;> (try simp only [List.length_map, cond_true, cond_false, Bool.not_eq_true', Bool.not_eq_false', beq_iff_eq, beq_eq_false_iff_ne, ne_eq] at hA)) | (refine CallP.det (h5) ?_; conv => whnf) | (refine CallD.det (h5) ?_; conv => whnf) | (refine CallP.det (hp) ?_; conv => whnf) | (refine CallD.det (hp) ?_; conv => whnf) | (exfalso; omega) | (rw [getD_map _ _ _ _ (by assumption)]; conv => whnf))
      refine ⟨⟨[], ?_⟩⟩
      conv => whnf
      rw [← withB_add s e hh]
      exact congrArg (fun z => AOut.ret (AV.d (.v (.int .u64 z))) []) (u64_add s (bitF e))
  · repeat' (first | (refine And.intro (by first | exact rfl | decide | exact Nat.le_of_ble_eq_true rfl | exact ⟨_, rfl⟩ | exact ⟨_, _, rfl⟩ | exact Nat.le_refl _ | exact Int.le_refl _ | omega | (simp only [List.length_map]; omega) | exact True.intro | (simp only [IntKind.wrap_i64, List.length_map]; omega) | (simp only [List.map_cons, List.map_nil, List.length_cons, Option.getD]; omega) | (simp only [bsz, ByteArray.size_append, List.size_toArray, List.length_cons, List.length_nil]; omega) | exact ⟨⟨_, _, rfl, rfl, Nat.le_of_ble_eq_true rfl⟩, trivial⟩ | exact ⟨⟨_, _, rfl, rfl, Nat.le_of_ble_eq_true rfl⟩, ⟨_, _, rfl, rfl, Nat.le_of_ble_eq_true rfl⟩, trivial⟩ | exact ⟨⟨_, _, rfl, rfl, Nat.le_of_ble_eq_true rfl⟩, ⟨_, _, rfl, rfl, Nat.le_of_ble_eq_true rfl⟩, ⟨_, _, rfl, rfl, Nat.le_of_ble_eq_true rfl⟩, trivial⟩) ?_; conv => whnf) | (refine ifB_intro (fun hA => ?_) (fun hA => ?_) <;> (try rw [hA]) <;> (conv => whnf) <;> (first | replace hA := of_decide_eq_true hA | replace hA := of_decide_eq_false hA | replace hA := eq_of_beq hA | replace hA := ne_of_beq_false hA | replace hA := bne_iff_ne.1 hA | replace hA := bne_eq_false_iff_eq.1 hA | skip) <;> (try simp only [List.length_map, cond_true, cond_false, Bool.not_eq_true', Bool.not_eq_false', beq_iff_eq, beq_eq_false_iff_ne, ne_eq] at hA)) | (exfalso; omega) | (rw [getD_map _ _ _ _ (by assumption)]; conv => whnf))
    all_goals
      refine ⟨⟨[], ?_⟩⟩
      conv => whnf
      rw [withB_out s e (by omega)]
theorem refwithout_ctr (g : GP) (s : BitVec 64) (e : Int) : Ctr (ax g).E 58 [.u64 s, .i64 e] [] (fun o => o = .ret (.u64 (withoutB s e)) []) := by
  have h5 := refhas_ctr g s e
  cases hh : hasB s e with
  | false =>
    rw [hh] at h5
    refine Ctr.body (X := ax g) _ 14 [] [.tmp 4] Tryd.func58 rfl rfl rfl rfl (by decide +kernel) rfl rfl ?_
    conv => whnf
    repeat' (first | (refine And.intro (by first | exact rfl | decide | exact Nat.le_of_ble_eq_true rfl | exact ⟨_, rfl⟩ | exact ⟨_, _, rfl⟩ | exact Nat.le_refl _ | exact Int.le_refl _ | omega | (simp only [List.length_map]; omega) | exact True.intro | (simp only [IntKind.wrap_i64, List.length_map]; omega) | (simp only [List.map_cons, List.map_nil, List.length_cons, Option.getD]; omega) | (simp only [bsz, ByteArray.size_append, List.size_toArray, List.length_cons, List.length_nil]; omega) | exact ⟨⟨_, _, rfl, rfl, Nat.le_of_ble_eq_true rfl⟩, trivial⟩ | exact ⟨⟨_, _, rfl, rfl, Nat.le_of_ble_eq_true rfl⟩, ⟨_, _, rfl, rfl, Nat.le_of_ble_eq_true rfl⟩, trivial⟩ | exact ⟨⟨_, _, rfl, rfl, Nat.le_of_ble_eq_true rfl⟩, ⟨_, _, rfl, rfl, Nat.le_of_ble_eq_true rfl⟩, ⟨_, _, rfl, rfl, Nat.le_of_ble_eq_true rfl⟩, trivial⟩) ?_; conv => whnf) | (refine ifB_intro (fun hA => ?_) (fun hA => ?_) <;> (try rw [hA]) <;> (conv => whnf) <;> (first | replace hA := of_decide_eq_true hA | replace hA := of_decide_eq_false hA | replace hA := eq_of_beq hA | replace hA := ne_of_beq_false hA | replace hA := bne_iff_ne.1 hA | replace hA := bne_eq_false_iff_eq.1 hA | skip) <;> (try simp only [List.length_map, cond_true, cond_false, Bool.not_eq_true', Bool.not_eq_false', beq_iff_eq, beq_eq_false_iff_ne, ne_eq] at hA)) | (refine CallP.det (h5) ?_; conv => whnf) | (refine CallD.det (h5) ?_; conv => whnf) | (rw [getD_map _ _ _ _ (by assumption)]; conv => whnf))
    refine ⟨⟨[], ?_⟩⟩
    conv => whnf
    rw [withoutB_hasnt s e hh]
  | true =>
    rw [hh] at h5
    have h : 0 ≤ e ∧ e < 64 := by
      unfold hasB at hh
      by_cases h0 : 0 ≤ e
      · refine ⟨h0, ?_⟩
        by_cases h1 : e < 64
        · exact h1
        · rw [BitVec.getLsbD_of_ge _ _ (by omega)] at hh; simp at hh
      · simp [h0] at hh
    have hp := pow2_ctr g e h.1 h.2
    refine Ctr.body (X := ax g) _ 14 [] [.tmp 4] Tryd.func58 rfl rfl rfl rfl (by decide +kernel) rfl rfl ?_
    conv => whnf
    repeat' (first | (refine And.intro (by first | exact rfl | decide | exact Nat.le_of_ble_eq_true rfl | exact ⟨_, rfl⟩ | exact ⟨_, _, rfl⟩ | exact Nat.le_refl _ | exact Int.le_refl _ | omega | (simp only [List.length_map]; omega) | exact True.intro | (simp only [IntKind.wrap_i64, List.length_map]; omega) | (simp only [List.map_cons, List.map_nil, List.length_cons, Option.getD]; omega) | (simp only [bsz, ByteArray.size_append, List.size_toArray, List.length_cons, List.length_nil]; omega) | exact ⟨⟨_, _, rfl, rfl, Nat.le_of_ble_eq_true rfl⟩, trivial⟩ | exact ⟨⟨_, _, rfl, rfl, Nat.le_of_ble_eq_true rfl⟩, ⟨_, _, rfl, rfl, Nat.le_of_ble_eq_true rfl⟩, trivial⟩ | exact ⟨⟨_, _, rfl, rfl, Nat.le_of_ble_eq_true rfl⟩, ⟨_, _, rfl, rfl, Nat.le_of_ble_eq_true rfl⟩, ⟨_, _, rfl, rfl, Nat.le_of_ble_eq_true rfl⟩, trivial⟩) ?_; conv => whnf) | (refine ifB_intro (fun hA => ?_) (fun hA => ?_) <;> (try rw [hA]) <;> (conv => whnf) <;> (first | replace hA := of_decide_eq_true hA | replace hA := of_decide_eq_false hA | replace hA := eq_of_beq hA | replace hA := ne_of_beq_false hA | replace hA := bne_iff_ne.1 hA | replace hA := bne_eq_false_iff_eq.1 hA | skip) <;> (try simp only [List.length_map, cond_true, cond_false, Bool.not_eq_true', Bool.not_eq_false', beq_iff_eq, beq_eq_false_iff_ne, ne_eq] at hA)) | (refine CallP.det (h5) ?_; conv => whnf) | (refine CallD.det (h5) ?_; conv => whnf) | (refine CallP.det (hp) ?_; conv => whnf) | (refine CallD.det (hp) ?_; conv => whnf) | (rw [getD_map _ _ _ _ (by assumption)]; conv => whnf))
    refine ⟨⟨[], ?_⟩⟩
    conv => whnf
    rw [← withoutB_sub s e hh]
    exact congrArg (fun z => AOut.ret (AV.d (.v (.int .u64 z))) []) (u64_sub s (bitF e))
theorem refof_ctr (g : GP) (b : Bool) (l : List Int) (hl : l.length < 2 ^ 62) : Ctr (ax g).E 59 [.d (.sl b 1 (l.map rowZ))] [] (fun o => o = .ret (.u64 (ofB l)) []) := by
  refine Ctr.body (X := ax g) _ 18 [] [.tmp 2] Tryd.func59 rfl rfl rfl rfl (by decide +kernel) rfl rfl ?_
  conv => whnf
  refine LoopP.inv (X := ax g) (fun x : Nat × BitVec 64 => { f := [(3, .u64 x.2), (0, .d (.sl b 1 (l.map rowZ))), (4, .i64 x.1)], h := [] }) (fun x => x.1 ≤ l.length ∧ ofB l = (l.drop x.1).foldl withB x.2) (fun x => l.length - x.1) (0, 0#64) ⟨Nat.zero_le _, rfl⟩ ⟨⟨rfl, rfl, rfl, trivial⟩, trivial⟩ fun ⟨i, s⟩ ⟨hi, he⟩ => ?_
  dsimp only at hi he ⊢
  conv => whnf
  refine ifB_intro (fun h => ?_) (fun h => ?_)
  · have h : i < l.length := by first | (have h0 := of_decide_eq_true h; omega) | (have h0 := of_decide_eq_false h; omega) | (have h0 := h; simp at h0; omega) | (have h0 := h; simp at h0; exact h0)
    conv => whnf
    repeat' (first | (refine And.intro (by first | exact rfl | decide | exact Nat.le_of_ble_eq_true rfl | exact ⟨_, rfl⟩ | exact ⟨_, _, rfl⟩ | exact Nat.le_refl _ | exact Int.le_refl _ | omega | (simp only [List.length_map]; omega) | exact True.intro | (simp only []; omega) | (simp only []; omega) | (simp only []; omega) | exact ⟨⟨_, _, rfl, rfl, Nat.le_of_ble_eq_true rfl⟩, trivial⟩ | exact ⟨⟨_, _, rfl, rfl, Nat.le_of_ble_eq_true rfl⟩, ⟨_, _, rfl, rfl, Nat.le_of_ble_eq_true rfl⟩, trivial⟩ | exact ⟨⟨_, _, rfl, rfl, Nat.le_of_ble_eq_true rfl⟩, ⟨_, _, rfl, rfl, Nat.le_of_ble_eq_true rfl⟩, ⟨_, _, rfl, rfl, Nat.le_of_ble_eq_true rfl⟩, trivial⟩) ?_; conv => whnf) | (refine ifB_intro (fun hA => ?_) (fun hA => ?_) <;> (try rw [hA]) <;> (conv => whnf) <;> (first | replace hA := of_decide_eq_true hA | replace hA := of_decide_eq_false hA | replace hA := eq_of_beq hA | replace hA := ne_of_beq_false hA | replace hA := bne_iff_ne.1 hA | replace hA := bne_eq_false_iff_eq.1 hA | skip) <;> (try simp only [List.length_map, cond_true, cond_false, Bool.not_eq_true', Bool.not_eq_false', beq_iff_eq, beq_eq_false_iff_ne, ne_eq] at hA)) | (refine CallP.det (refwith_ctr g s l[i]) ?_; conv => whnf) | (refine CallD.det (refwith_ctr g s l[i]) ?_; conv => whnf) | (rw [getD_map _ _ _ _ (by assumption)]; conv => whnf))
    exact ⟨(i + 1, withB s l[i]), ⟨by show i + 1 ≤ _; omega, by rw [he, ofB_drop l i h]⟩, by show _ - (i + 1) < _ - i; omega, ⟨⟨rfl, rfl, AV.int_eq (i64_succ (by omega)), trivial⟩, trivial⟩⟩
  · have h : ¬ i < l.length := by first | (have h0 := of_decide_eq_true h; omega) | (have h0 := of_decide_eq_false h; omega) | (have h0 := h; simp at h0; omega) | (have h0 := h; simp at h0; exact h0)
    conv => whnf
    refine ⟨⟨[], ?_⟩⟩
    conv => whnf
    rw [he, List.drop_eq_nil_of_le (by omega)]; rfl
end Go.Ax

/- Abstract execution: strings.Join, by the shelf's contract. -/
namespace Go.Ax
open Go.Proofs Go.RowKit Go.Shelf Go.Lib

/-- strings.Join of texts that are told. -/
theorem join_ctr (g : GP) (t : Bool) (xs : List ByteArray) (sep : ByteArray) (hN : xs.length ≤ 140737488355328) (hlen : (Lib.join (xs.map (·.data.toList)) sep.data.toList).length ≤ 140737488355328) :
    Ctr (ax g).E 83 [.d (.sl t 1 (xs.map fun x => [.v (.string x)])), .d (.v (.string sep))] [] fun o => o = .ret (.d (.v (.string ⟨(Lib.join (xs.map (·.data.toList)) sep.data.toList).toArray⟩))) [] := by
  refine ⟨⟨_, Tryd.func83, rfl, by decide +kernel⟩, fun w Im ρ vs hG hIm hgl hsz hra hrel => ?_⟩
  have h0 := hra 0 (vs.getD 0 undef) _ (by simp at hsz; simp [Array.getD, hsz]) rfl
  have h1 := hra 1 (vs.getD 1 undef) _ (by simp at hsz; simp [Array.getD, hsz]) rfl
  have hvs : vs = #[vs.getD 0 undef, vs.getD 1 undef] := by
    simp at hsz
    apply Array.ext (by simp [hsz])
    intro i h1 h2
    simp at h2
    match i with
    | 0 => simp [Array.getD, hsz]
    | 1 => simp [Array.getD, hsz]
  have hsep := h1.v
  have hfin : ∀ e w', (e = .returned (.string ⟨(Lib.join (xs.map (·.data.toList)) sep.data.toList).toArray⟩) ∧ Below w.heap.size w w') → Ends (fun o => o = .ret (.d (.v (.string ⟨(Lib.join (xs.map (·.data.toList)) sep.data.toList).toArray⟩))) []) w Im ρ [] e w' := fun e w' ⟨he, hB⟩ => by
    subst he
    exact ⟨_, [], Im, _, rfl, RA.intv _ rfl, fun r hr => by simp [AV.ment] at hr, after_below hIm hB⟩
  rw [hvs, hsep]
  have hd := h0.d_inv
  generalize hv : vs.getD 0 undef = v at hd
  generalize hels : (xs.map fun x => [D.v (.string x)]) = els at hd
  cases hd with
  | nil _ _ a cap _ =>
    have hx : xs = [] := by simpa using hels
    subst hx
    exact (Tryd.strings_Join_none a cap sep w).mono fun e w' ⟨h1, h2⟩ => hfin e w' ⟨h1, by rw [h2]; exact Below.refl _ _⟩
  | sl _ _ _ b o cap f hss hb hle _ hcc hr =>
    subst hels
    have := Tryd.strings_Join b o cap xs sep w (fun j x hj => by
      have h1 : (xs.map fun x => [D.v (.string x)])[j]? = some [D.v (.string x)] := by simp [hj]
      obtain ⟨cs, t', fz, e1, e2⟩ := hcc j 0 _ _ h1 rfl
      have e3 := (hr j 0 _ _ h1 rfl).bool
      rw [e3] at e2
      have := cell_hp e1 e2
      simpa using this) (hIm b hb) hN (by simpa using hle) hlen
    simp only [List.length_map]
    exact this.mono hfin

end Go.Ax

/- The document's digits. -/
namespace Go.Ax
open Go.Proofs Go.Lib
set_option maxRecDepth 10000

/-! ### digits -/
def digB (n : Nat) : ByteArray := ⟨(decDigits n).toArray⟩
theorem u8_digit (n : Nat) (h : n < 10) : IntKind.u8.wrap (IntKind.i64.wrap (48 + (n : Int))) = ((48 + n : Nat) : Int) := by
  rw [i64_wrap (by omega) (by omega), IntKind.wrap_u8]; omega
theorem i64_quo (n k : Nat) (h : n < 2 ^ 62) : IntKind.i64.wrap ((n : Int).tdiv k) = ((n / k : Nat) : Int) := by
  rw [← Int.ofNat_tdiv]
  have h1 := Nat.div_le_self n k
  generalize n / k = q at h1 ⊢
  exact i64_wrap (by omega) (by omega)
theorem digB_small (n : Nat) (h : n < 10) : digB n = bytesOf [[.v (.int .u8 ((48 + n : Nat) : Int))]] := by
  rw [digB, decDigits_one h]; rfl
theorem digB_big (n : Nat) (h : ¬ n < 10) : digB n = digB (n / 10) ++ bytesOf [[.v (.int .u8 ((48 + n % 10 : Nat) : Int))]] := by
  rw [digB, decDigits, dif_neg h, digB]
  apply ByteArray.ext
  rw [ByteArray.data_append]
  have e : UInt8.ofNat (((48 + n % 10 : Nat) : Int).toNat) = UInt8.ofNat (48 + n % 10) := by rw [Int.toNat_natCast]
  have e2 : (bytesOf [[.v (.int .u8 ((48 + n % 10 : Nat) : Int))]]).data = #[UInt8.ofNat (((48 + n % 10 : Nat) : Int).toNat)] := rfl
  rw [e2, e]
  simp
theorem dec_len_le (u : Nat) : (decDigits u).length ≤ u + 1 := by
  induction u using Nat.strongRecOn with
  | _ u ih =>
    rw [decDigits]
    split
    · simp
    · have := ih (u / 10) (by omega)
      rw [List.length_append]; simp; omega
theorem digB_size (n : Nat) : (digB n).size ≤ n + 1 := dec_len_le n
theorem digits_ctr (g : GP) : ∀ n : Nat, n < 2 ^ 62 → Ctr (ax g).E 79 [.i64 n] [] (fun o => o = .ret (.str (digB n)) []) := by
  intro n
  induction n using Nat.strongRecOn with
  | _ n ih =>
    intro hn
    refine Ctr.body (X := ax g) _ 20 [] [.tmp 2] Tryd.func79 rfl rfl rfl rfl (by decide +kernel) rfl rfl ?_
    conv => whnf
    refine ifB_intro (fun h => ?_) (fun h => ?_)
    · have h : n < 10 := by first | (have h0 := of_decide_eq_true h; omega) | (have h0 := of_decide_eq_false h; omega) | (have h0 := h; simp at h0; omega) | (have h0 := h; simp at h0; exact h0)
      conv => whnf
      repeat (refine And.intro (by first | exact rfl | decide | exact Nat.le_of_ble_eq_true rfl | exact ⟨_, rfl⟩ | exact ⟨_, _, rfl⟩ | exact Nat.le_refl _ | exact Int.le_refl _ | omega | (simp only [List.length_map]; omega)) ?_; conv => whnf)
      refine And.intro (fun q hq => ⟨_, by simpa using hq⟩) ?_
      conv => whnf
      refine ⟨⟨[], ?_⟩⟩
      conv => whnf
      rw [u8_digit n h, ← digB_small n h]
    · have h : ¬ n < 10 := by first | (have h0 := of_decide_eq_true h; omega) | (have h0 := of_decide_eq_false h; omega) | (have h0 := h; simp at h0; omega) | (have h0 := h; simp at h0; exact h0)
      conv => whnf
      refine DrawP.intro (X := ax g) (id := 3) B79_3 (by kernel_rfl) (by decide +kernel) ?_
      conv => whnf
      repeat (refine And.intro (by first | exact rfl | decide | exact Nat.le_of_ble_eq_true rfl | exact ⟨_, rfl⟩ | exact ⟨_, _, rfl⟩ | exact Nat.le_refl _ | exact Int.le_refl _ | omega | (simp only [List.length_map]; omega)) ?_; conv => whnf)
      refine CallD.arg (args' := [.i64 ((n / 10 : Nat) : Int)]) ?_ (CallD.det (ih (n / 10) (by omega) (by omega)) ?_)
      · exact congrArg (fun x => [AV.i64 x]) (i64_quo n 10 hn)
      conv => whnf
      repeat (refine And.intro (by first | exact rfl | decide | exact Nat.le_of_ble_eq_true rfl | exact ⟨_, rfl⟩ | exact ⟨_, _, rfl⟩ | exact Nat.le_refl _ | exact Int.le_refl _ | omega | (simp only [List.length_map]; omega)) ?_; conv => whnf)
      refine And.intro (fun q hq => ⟨_, by simpa using hq⟩) ?_
      conv => whnf
      refine And.intro (by have := digB_size (n / 10); have := Nat.div_le_self n 10; show (digB (n / 10)).size + 1 ≤ _; omega) ?_
      conv => whnf
      refine ⟨⟨[], ?_⟩⟩
      conv => whnf
      rw [show (n : Int).tmod 10 = ((n % 10 : Nat) : Int) from by rw [Int.ofNat_tmod]; rfl, u8_digit _ (by omega)]
      rw [digB_big n h]

end Go.Ax

/- Sets of events: the document's List, In; the texts. -/
namespace Go.Ax
open Go.Proofs
set_option maxRecDepth 10000

def lstTo (s : BitVec 64) (i : Nat) : List Int := ((List.range i).filter s.getLsbD).map Int.ofNat
theorem lstTo_succ (s : BitVec 64) (i : Nat) : lstTo s (i + 1) = if s.getLsbD i then lstTo s i ++ [(i : Int)] else lstTo s i := by
  unfold lstTo
  rw [List.range_succ, List.filter_append, List.map_append]
  by_cases h : s.getLsbD i = true
  · rw [if_pos h]; simp [h]
  · rw [if_neg h]; simp [h]
theorem lstTo_len (s : BitVec 64) (i : Nat) : (lstTo s i).length ≤ i := by
  unfold lstTo
  have := List.length_filter_le s.getLsbD (List.range i)
  rw [List.length_range] at this
  simpa using this
theorem lstTo_all (s : BitVec 64) : lstTo s 64 = lstZ s := rfl
theorem reflist_ctr (g : GP) (s : BitVec 64) : Ctr (ax g).E 49 [.u64 s] [] (fun o => o = .ret (.d (.sl false 1 ((lstZ s).map rowZ))) []) := by
  refine Ctr.body (X := ax g) _ 20 [] [.tmp 2] Tryd.func49 rfl rfl rfl rfl (by decide +kernel) rfl rfl ?_
  conv => whnf
  refine LoopP.own 3 901 1 3 rfl rfl rfl ?_
  refine LoopP.inv (X := ax g) (fun i : Nat => { f := [(0, .u64 s), (3, .msl 901 (lstTo s i).length 0 (lstTo s i).length), (4, .i64 i)], h := [(901, some (.buf 1 3 ((lstTo s i).map rowZ)))] }) (fun i => i ≤ 64) (fun i => 64 - i) 0 (Nat.zero_le _) ⟨⟨rfl, rfl, rfl, trivial⟩, ⟨fun o h => h, trivial⟩⟩ fun i hi => ?_
  have hlen := lstTo_len s i
  conv => whnf
  refine ifB_intro (fun h => ?_) (fun h => ?_)
  · have h : i < 64 := by first | (have h0 := of_decide_eq_true h; omega) | (have h0 := of_decide_eq_false h; omega) | (have h0 := h; simp at h0; omega) | (have h0 := h; simp at h0; exact h0)
    have hp := pow2_ctr g i (by omega) (by omega)
    have hd : ((s / bitF i) % 2#64 == 1#64) = s.getLsbD i := by
      rw [bitF_in (by omega) (by omega)]
      have h5 := hasB_div s i (by omega) (by omega)
      rw [h5]
      simp [hasB]
    have hne : bitF i ≠ 0#64 := by rw [bitF_in (by omega) (by omega)]; exact bit_ne i (by omega)
    have hz : ((bitF i).toNat : Int) ≠ 0 := fun h => hne (BitVec.eq_of_toNat_eq (by simpa using h))
    have hq : (IntKind.u64.wrap ((s.toNat : Int).tdiv (bitF i).toNat)).tmod 2 = 1 ↔ s.getLsbD i = true := by
      rw [← beq_iff_eq, u64_div, ← Bool.eq_iff_iff]
      have h5 := u64_mod (s / bitF i) 2#64
      have h6 := u64_beq (s / bitF i % 2#64) 1#64
      rw [hd] at h6
      rw [← h6, ← h5]; rfl
    have hs := lstTo_succ s i
    conv => whnf
    repeat' (first | (refine And.intro (by first | exact rfl | decide | exact Nat.le_of_ble_eq_true rfl | exact ⟨_, rfl⟩ | exact ⟨_, _, rfl⟩ | exact Nat.le_refl _ | exact Int.le_refl _ | omega | (simp only [List.length_map]; omega) | exact True.intro | (simp only [List.length_map]; omega) | (simp only [List.length_cons]; omega) | (simp only [List.length_cons, List.length_nil]; omega) | exact ⟨⟨_, _, rfl, rfl, Nat.le_of_ble_eq_true rfl⟩, trivial⟩ | exact ⟨⟨_, _, rfl, rfl, Nat.le_of_ble_eq_true rfl⟩, ⟨_, _, rfl, rfl, Nat.le_of_ble_eq_true rfl⟩, trivial⟩ | exact ⟨⟨_, _, rfl, rfl, Nat.le_of_ble_eq_true rfl⟩, ⟨_, _, rfl, rfl, Nat.le_of_ble_eq_true rfl⟩, ⟨_, _, rfl, rfl, Nat.le_of_ble_eq_true rfl⟩, trivial⟩) ?_; conv => whnf) | (refine ifB_intro (fun hA => ?_) (fun hA => ?_) <;> (try rw [hA]) <;> (conv => whnf) <;> (first | replace hA := of_decide_eq_true hA | replace hA := of_decide_eq_false hA | replace hA := eq_of_beq hA | replace hA := ne_of_beq_false hA | replace hA := bne_iff_ne.1 hA | replace hA := bne_eq_false_iff_eq.1 hA | skip) <;> (try simp only [List.length_map, cond_true, cond_false, Bool.not_eq_true', Bool.not_eq_false', beq_iff_eq, beq_eq_false_iff_ne, ne_eq] at hA)) | (refine CallP.det (hp) ?_; conv => whnf) | (refine CallD.det (hp) ?_; conv => whnf) | (refine And.intro hz ?_; conv => whnf) | (refine And.intro (List.length_map _).symm ?_; conv => whnf) | (refine And.intro (by show (((lstTo s i).map rowZ).length + 1) * 8 ≤ 140737488355328; rw [List.length_map]; omega) ?_; conv => whnf) | (rw [getD_map _ _ _ _ (by assumption)]; conv => whnf))
    · rename_i hb
      rw [if_pos (hq.1 hA)] at hs
      exact ⟨i + 1, by omega, by omega, ⟨⟨rfl, msl_eq (by rw [hs]; simp), AV.int_eq (i64_succ (by omega)), trivial⟩, ⟨fun o h => by rw [← h, hs, List.map_append]; rfl, trivial⟩⟩⟩
    · rw [if_neg (fun h => hA (hq.2 h))] at hs
      exact ⟨i + 1, by omega, by omega, ⟨⟨rfl, msl_eq (by rw [hs]), AV.int_eq (i64_succ (by omega)), trivial⟩, ⟨fun o h => by rw [← h, hs]; rfl, trivial⟩⟩⟩
  · have h : ¬ i < 64 := by first | (have h0 := of_decide_eq_true h; omega) | (have h0 := of_decide_eq_false h; omega) | (have h0 := h; simp at h0; omega) | (have h0 := h; simp at h0; exact h0)
    have : i = 64 := by omega
    subst this
    conv => whnf
    refine ⟨⟨[], ?_⟩⟩
    conv => whnf
    refine And.intro (List.length_map _).symm ?_
    conv => whnf
    refine And.intro (by rw [List.length_map]; omega) ?_
    conv => whnf
    simp
    exact List.take_of_length_le (by simp)

/-! ### In -/
theorem refin_ctr (g : GP) (a b : BitVec 64) : Ctr (ax g).E 64 [.u64 a, .u64 b] [] (fun o => o = .ret (.bool (inB a b)) []) := by
  have hall : inB a b = (lstZ a).all (hasB b) := by
    rw [Bool.eq_iff_iff, inB_iff, List.all_eq_true]
    constructor
    · intro h z hz
      obtain ⟨i, hi, rfl⟩ := List.mem_map.1 hz
      have hi := lstB_mem.1 hi
      have h64 : i < 64 := by
        by_cases h2 : i < 64; · exact h2
        · rw [BitVec.getLsbD_of_ge _ _ (by omega)] at hi; simp at hi
      have := h i h64 hi
      show (decide ((0 : Int) ≤ (i : Int)) && b.getLsbD (i : Int).toNat) = true
      simpa using this
    · intro h i hi ha
      have := h (i : Int) (List.mem_map.2 ⟨i, lstB_mem.2 ha, rfl⟩)
      have h2 : (decide ((0 : Int) ≤ (i : Int)) && b.getLsbD (i : Int).toNat) = true := this
      simpa using h2
  have hlen : (lstZ a).length ≤ 64 := by rw [lstZ_len]; exact lstB_len a
  refine Ctr.body (X := ax g) _ 22 [] [.tmp 4] Tryd.func64 rfl rfl rfl rfl (by decide +kernel) rfl rfl ?_
  conv => whnf
  repeat' (first | (refine And.intro (by first | exact rfl | decide | exact Nat.le_of_ble_eq_true rfl | exact ⟨_, rfl⟩ | exact ⟨_, _, rfl⟩ | exact Nat.le_refl _ | exact Int.le_refl _ | omega | (simp only [List.length_map]; omega) | exact True.intro | (simp only [IntKind.wrap_i64, List.length_map]; omega) | (simp only [List.map_cons, List.map_nil, List.length_cons, Option.getD]; omega) | (simp only [bsz, ByteArray.size_append, List.size_toArray, List.length_cons, List.length_nil]; omega) | exact ⟨⟨_, _, rfl, rfl, Nat.le_of_ble_eq_true rfl⟩, trivial⟩ | exact ⟨⟨_, _, rfl, rfl, Nat.le_of_ble_eq_true rfl⟩, ⟨_, _, rfl, rfl, Nat.le_of_ble_eq_true rfl⟩, trivial⟩ | exact ⟨⟨_, _, rfl, rfl, Nat.le_of_ble_eq_true rfl⟩, ⟨_, _, rfl, rfl, Nat.le_of_ble_eq_true rfl⟩, ⟨_, _, rfl, rfl, Nat.le_of_ble_eq_true rfl⟩, trivial⟩) ?_; conv => whnf) | (refine ifB_intro (fun hA => ?_) (fun hA => ?_) <;> (try rw [hA]) <;> (conv => whnf) <;> (first | replace hA := of_decide_eq_true hA | replace hA := of_decide_eq_false hA | replace hA := eq_of_beq hA | replace hA := ne_of_beq_false hA | replace hA := bne_iff_ne.1 hA | replace hA := bne_eq_false_iff_eq.1 hA | skip) <;> (try simp only [List.length_map, cond_true, cond_false, Bool.not_eq_true', Bool.not_eq_false', beq_iff_eq, beq_eq_false_iff_ne, ne_eq] at hA)) | (refine CallP.det (reflist_ctr g a) ?_; conv => whnf) | (refine CallD.det (reflist_ctr g a) ?_; conv => whnf) | (rw [getD_map _ _ _ _ (by assumption)]; conv => whnf))
  refine LoopP.inv (X := ax g) (fun i : Nat => { f := [(1, .u64 b), (5, .d (.sl false 1 ((lstZ a).map rowZ))), (6, .i64 i)], h := [] }) (fun i => i ≤ (lstZ a).length ∧ inB a b = ((lstZ a).drop i).all (hasB b)) (fun i => (lstZ a).length - i) 0 ⟨Nat.zero_le _, hall⟩ ⟨⟨rfl, rfl, rfl, trivial⟩, trivial⟩ fun i ⟨hi, he⟩ => ?_
  conv => whnf
  refine ifB_intro (fun h => ?_) (fun h => ?_)
  · have h : i < (lstZ a).length := by first | (have h0 := of_decide_eq_true h; omega) | (have h0 := of_decide_eq_false h; omega) | (have h0 := h; simp at h0; omega) | (have h0 := h; simp at h0; exact h0)
    have hd : ((lstZ a).drop i).all (hasB b) = (hasB b (lstZ a)[i] && ((lstZ a).drop (i + 1)).all (hasB b)) := by
      rw [List.drop_eq_getElem_cons h]; rfl
    rw [hd] at he
    conv => whnf
    cases hh : hasB b (lstZ a)[i] with
    | true =>
      have h5 := refhas_ctr g b (lstZ a)[i]
      rw [hh] at h5 he
      repeat' (first | (refine And.intro (by first | exact rfl | decide | exact Nat.le_of_ble_eq_true rfl | exact ⟨_, rfl⟩ | exact ⟨_, _, rfl⟩ | exact Nat.le_refl _ | exact Int.le_refl _ | omega | (simp only [List.length_map]; omega) | exact True.intro | (simp only []; omega) | (simp only []; omega) | (simp only []; omega) | exact ⟨⟨_, _, rfl, rfl, Nat.le_of_ble_eq_true rfl⟩, trivial⟩ | exact ⟨⟨_, _, rfl, rfl, Nat.le_of_ble_eq_true rfl⟩, ⟨_, _, rfl, rfl, Nat.le_of_ble_eq_true rfl⟩, trivial⟩ | exact ⟨⟨_, _, rfl, rfl, Nat.le_of_ble_eq_true rfl⟩, ⟨_, _, rfl, rfl, Nat.le_of_ble_eq_true rfl⟩, ⟨_, _, rfl, rfl, Nat.le_of_ble_eq_true rfl⟩, trivial⟩) ?_; conv => whnf) | (refine ifB_intro (fun hA => ?_) (fun hA => ?_) <;> (try rw [hA]) <;> (conv => whnf) <;> (first | replace hA := of_decide_eq_true hA | replace hA := of_decide_eq_false hA | replace hA := eq_of_beq hA | replace hA := ne_of_beq_false hA | replace hA := bne_iff_ne.1 hA | replace hA := bne_eq_false_iff_eq.1 hA | skip) <;> (try simp only [List.length_map, cond_true, cond_false, Bool.not_eq_true', Bool.not_eq_false', beq_iff_eq, beq_eq_false_iff_ne, ne_eq] at hA)) | (refine CallP.det (h5) ?_; conv => whnf) | (refine CallD.det (h5) ?_; conv => whnf) | (rw [getD_map _ _ _ _ (by assumption)]; conv => whnf))
      exact ⟨i + 1, ⟨by omega, by simpa using he⟩, by omega, ⟨⟨rfl, rfl, AV.int_eq (i64_succ (by omega)), trivial⟩, trivial⟩⟩
    | false =>
      have h5 := refhas_ctr g b (lstZ a)[i]
      rw [hh] at h5 he
      repeat' (first | (refine And.intro (by first | exact rfl | decide | exact Nat.le_of_ble_eq_true rfl | exact ⟨_, rfl⟩ | exact ⟨_, _, rfl⟩ | exact Nat.le_refl _ | exact Int.le_refl _ | omega | (simp only [List.length_map]; omega) | exact True.intro | (simp only []; omega) | (simp only []; omega) | (simp only []; omega) | exact ⟨⟨_, _, rfl, rfl, Nat.le_of_ble_eq_true rfl⟩, trivial⟩ | exact ⟨⟨_, _, rfl, rfl, Nat.le_of_ble_eq_true rfl⟩, ⟨_, _, rfl, rfl, Nat.le_of_ble_eq_true rfl⟩, trivial⟩ | exact ⟨⟨_, _, rfl, rfl, Nat.le_of_ble_eq_true rfl⟩, ⟨_, _, rfl, rfl, Nat.le_of_ble_eq_true rfl⟩, ⟨_, _, rfl, rfl, Nat.le_of_ble_eq_true rfl⟩, trivial⟩) ?_; conv => whnf) | (refine ifB_intro (fun hA => ?_) (fun hA => ?_) <;> (try rw [hA]) <;> (conv => whnf) <;> (first | replace hA := of_decide_eq_true hA | replace hA := of_decide_eq_false hA | replace hA := eq_of_beq hA | replace hA := ne_of_beq_false hA | replace hA := bne_iff_ne.1 hA | replace hA := bne_eq_false_iff_eq.1 hA | skip) <;> (try simp only [List.length_map, cond_true, cond_false, Bool.not_eq_true', Bool.not_eq_false', beq_iff_eq, beq_eq_false_iff_ne, ne_eq] at hA)) | (refine CallP.det (h5) ?_; conv => whnf) | (refine CallD.det (h5) ?_; conv => whnf) | (rw [getD_map _ _ _ _ (by assumption)]; conv => whnf))
      refine ⟨⟨[], ?_⟩⟩
      conv => whnf
      rw [he]; rfl
  · have h : ¬ i < (lstZ a).length := by first | (have h0 := of_decide_eq_true h; omega) | (have h0 := of_decide_eq_false h; omega) | (have h0 := h; simp at h0; omega) | (have h0 := h; simp at h0; exact h0)
    conv => whnf
    refine ⟨⟨[], ?_⟩⟩
    conv => whnf
    rw [he, List.drop_eq_nil_of_le (by omega)]; rfl

/-! ### texts -/
def numE (l : List Int) : List (List UInt8) := l.map fun z => Lib.decDigits z.toNat
def joinE (l : List Int) : List UInt8 := Lib.join (numE l) [44]
def textE (s : BitVec 64) : ByteArray := (⟨#[123]⟩ ++ ⟨(joinE (lstZ s)).toArray⟩) ++ ⟨#[125]⟩
theorem join_snoc (xs : List (List UInt8)) (x sep : List UInt8) (h : xs ≠ []) : Lib.join (xs ++ [x]) sep = Lib.join xs sep ++ sep ++ x := by
  obtain ⟨y, ys, rfl⟩ := List.exists_cons_of_ne_nil h
  rw [List.cons_append, Lib.join_cons, Lib.join_cons]
  simp [Lib.joinTail]
theorem lstZ_mem {s : BitVec 64} {z : Int} (h : z ∈ lstZ s) : 0 ≤ z ∧ z < 64 := by
  obtain ⟨i, hi, rfl⟩ := List.mem_map.1 h
  have hi := lstB_mem.1 hi
  have h64 : i < 64 := by
    by_cases h2 : i < 64; · exact h2
    · rw [BitVec.getLsbD_of_ge _ _ (by omega)] at hi; simp at hi
  exact ⟨Int.natCast_nonneg _, Int.ofNat_lt.2 h64⟩
theorem join_bound : ∀ (xs : List (List UInt8)) (k : Nat), (∀ x ∈ xs, x.length ≤ k) → (Lib.join xs [44]).length ≤ (k + 1) * xs.length := by
  intro xs
  induction xs with
  | nil => intro k _; simp [Lib.join_nil]
  | cons x r ih =>
    intro k h
    rw [Lib.join_length]
    have : ∀ (ys : List (List UInt8)), (∀ y ∈ ys, y.length ≤ k) → Lib.lens ys ≤ k * ys.length := by
      intro ys
      induction ys with
      | nil => intro _; simp [Lib.lens]
      | cons y ys ih2 =>
        intro h2
        have h3 := ih2 fun y hy => h2 y (by simp [hy])
        have h4 := h2 y (by simp)
        have : Lib.lens (y :: ys) = y.length + Lib.lens ys := by simp [Lib.lens]
        rw [this, List.length_cons, Nat.mul_succ]
        omega
    have h5 := this (x :: r) h
    simp only [List.length_cons, List.length_nil] at h5 ⊢
    rw [Nat.add_mul k 1]
    omega
theorem dec_small (z : Int) (h : z < 64) : (Lib.decDigits z.toNat).length ≤ 64 := by
  have := dec_len_le z.toNat
  omega
theorem joinE_bound (l : List Int) (h : ∀ z ∈ l, z < 64) (hl : l.length ≤ 64) : (joinE l).length ≤ 4160 := by
  have h1 := join_bound (numE l) 64 fun x hx => by
    obtain ⟨z, hz, rfl⟩ := List.mem_map.1 hx
    exact dec_small z (h z hz)
  have : (numE l).length = l.length := by simp [numE]
  unfold joinE
  omega
def rowB (b : ByteArray) : List D := [.v (.string b)]
def strE (l : List Int) : List ByteArray := l.map fun z => digB z.toNat
theorem frzE (r sz n : Nat) (els : List (List D)) (h : n = els.length) : frz r sz els (.msl r n 0 n) = .d (.sl false sz els) := by
  subst h
  have h1 : Nat.ble (0 + els.length) els.length = true := Nat.ble_eq_true_of_le (by omega)
  have h2 : Nat.beq els.length els.length = true := by simp
  have h3 : Nat.beq r r = true := by simp
  show (match r.beq r, els.length.beq els.length, (0 + els.length).ble els.length with
      | true, true, true => AV.d (D.sl false sz (List.take els.length (List.drop 0 els)))
      | _, _, _ => AV.msl r els.length 0 els.length) = AV.d (D.sl false sz els)
  rw [h1, h2, h3]
  simp
theorem ejoin_give (g : GP) (l : List Int) (h : ∀ z ∈ l, z < 64) (hl : l.length ≤ 64) : Ctr (ax g).E 83 ([.msl 902 l.length 0 l.length, .str ⟨#[44]⟩].map (frz 902 1 ((strE l).map rowB))) [] (fun o => o = .ret (.str ⟨(joinE l).toArray⟩) []) := by
  have e : (strE l).map (·.data.toList) = numE l := by
    unfold strE numE
    rw [List.map_map]
    exact List.map_congr_left fun z _ => by simp [digB]
  have hb := joinE_bound l h hl
  have h := join_ctr g false (strE l) ⟨#[44]⟩ (by simp [strE]; omega) (by rw [e]; show (joinE l).length ≤ _; omega)
  rw [e] at h
  simp only [List.map_cons, List.map_nil, frzE 902 1 l.length ((strE l).map rowB) (by simp [strE])]
  exact h
theorem text_ctr (g : GP) (hd : ∀ w, g.G w → DebT w) (hp : ∀ w, g.G w → PowG w) (s : BitVec 64) : Ctr (ax g).E 60 [.u64 s] [] (fun o => o = .ret (.str (textE s)) []) := by
  have hlen : (lstZ s).length ≤ 64 := by rw [lstZ_len]; exact lstB_len s
  refine Ctr.body (X := ax g) _ 23 [] [.tmp 2] Tryd.func60 rfl rfl rfl rfl (by decide +kernel) rfl rfl ?_
  conv => whnf
  repeat' (first | (refine And.intro (by first | exact rfl | decide | exact Nat.le_of_ble_eq_true rfl | exact ⟨_, rfl⟩ | exact ⟨_, _, rfl⟩ | exact Nat.le_refl _ | exact Int.le_refl _ | omega | (simp only [List.length_map]; omega) | exact True.intro | (simp only [IntKind.wrap_i64, List.length_map]; omega) | (simp only [List.map_cons, List.map_nil, List.length_cons, Option.getD]; omega) | (simp only [bsz, ByteArray.size_append, List.size_toArray, List.length_cons, List.length_nil]; omega) | exact ⟨⟨_, _, rfl, rfl, Nat.le_of_ble_eq_true rfl⟩, trivial⟩ | exact ⟨⟨_, _, rfl, rfl, Nat.le_of_ble_eq_true rfl⟩, ⟨_, _, rfl, rfl, Nat.le_of_ble_eq_true rfl⟩, trivial⟩ | exact ⟨⟨_, _, rfl, rfl, Nat.le_of_ble_eq_true rfl⟩, ⟨_, _, rfl, rfl, Nat.le_of_ble_eq_true rfl⟩, ⟨_, _, rfl, rfl, Nat.le_of_ble_eq_true rfl⟩, trivial⟩) ?_; conv => whnf) | (refine ifB_intro (fun hA => ?_) (fun hA => ?_) <;> (try rw [hA]) <;> (conv => whnf) <;> (first | replace hA := of_decide_eq_true hA | replace hA := of_decide_eq_false hA | replace hA := eq_of_beq hA | replace hA := ne_of_beq_false hA | replace hA := bne_iff_ne.1 hA | replace hA := bne_eq_false_iff_eq.1 hA | skip) <;> (try simp only [List.length_map, cond_true, cond_false, Bool.not_eq_true', Bool.not_eq_false', beq_iff_eq, beq_eq_false_iff_ne, ne_eq] at hA)) | (refine CallP.det (list_ctr g hd s) ?_; conv => whnf) | (refine CallD.det (list_ctr g hd s) ?_; conv => whnf) | (rw [getD_map _ _ _ _ (by assumption)]; conv => whnf))
  refine LoopP.own 3 902 1 9 rfl rfl rfl ?_
  refine LoopP.inv (X := ax g) (fun i : Nat => { f := [(3, .msl 902 i 0 i), (7, .d (.sl false 1 ((lstZ s).map rowZ))), (8, .i64 (lstZ s).length), (9, .i64 i)], h := [(902, some (.buf 1 9 ((strE ((lstZ s).take i)).map rowB)))] }) (fun i => i ≤ (lstZ s).length) (fun i => (lstZ s).length - i) 0 (Nat.zero_le _) ⟨⟨rfl, rfl, AV.int_eq (by simp), rfl, trivial⟩, ⟨fun o h => h, trivial⟩⟩ fun i hi => ?_
  have hti : ((strE ((lstZ s).take i)).map rowB).length = i := by simp [strE]; omega
  conv => whnf
  refine ifB_intro (fun h => ?_) (fun h => ?_)
  · have h : i < (lstZ s).length := by first | (have h0 := of_decide_eq_true h; omega) | (have h0 := of_decide_eq_false h; omega) | (have h0 := h; simp at h0; omega) | (have h0 := h; simp at h0; exact h0)
    obtain ⟨hz0, hz1⟩ := lstZ_mem (List.getElem_mem h)
    have hi5 := itoa_ctr g hp (lstZ s)[i].toNat (by omega)
    rw [show (((lstZ s)[i].toNat : Nat) : Int) = (lstZ s)[i] from by omega] at hi5
    conv => whnf
    repeat' (first | (refine And.intro (by first | exact rfl | decide | exact Nat.le_of_ble_eq_true rfl | exact ⟨_, rfl⟩ | exact ⟨_, _, rfl⟩ | exact Nat.le_refl _ | exact Int.le_refl _ | omega | (simp only [List.length_map]; omega) | exact True.intro | (simp only [List.length_map]; omega) | (simp only [List.length_cons]; omega) | (simp only [List.length_cons, List.length_nil]; omega) | exact ⟨⟨_, _, rfl, rfl, Nat.le_of_ble_eq_true rfl⟩, trivial⟩ | exact ⟨⟨_, _, rfl, rfl, Nat.le_of_ble_eq_true rfl⟩, ⟨_, _, rfl, rfl, Nat.le_of_ble_eq_true rfl⟩, trivial⟩ | exact ⟨⟨_, _, rfl, rfl, Nat.le_of_ble_eq_true rfl⟩, ⟨_, _, rfl, rfl, Nat.le_of_ble_eq_true rfl⟩, ⟨_, _, rfl, rfl, Nat.le_of_ble_eq_true rfl⟩, trivial⟩) ?_; conv => whnf) | (refine ifB_intro (fun hA => ?_) (fun hA => ?_) <;> (try rw [hA]) <;> (conv => whnf) <;> (first | replace hA := of_decide_eq_true hA | replace hA := of_decide_eq_false hA | replace hA := eq_of_beq hA | replace hA := ne_of_beq_false hA | replace hA := bne_iff_ne.1 hA | replace hA := bne_eq_false_iff_eq.1 hA | skip) <;> (try simp only [List.length_map, cond_true, cond_false, Bool.not_eq_true', Bool.not_eq_false', beq_iff_eq, beq_eq_false_iff_ne, ne_eq] at hA)) | (refine CallP.det (hi5) ?_; conv => whnf) | (refine CallD.det (hi5) ?_; conv => whnf) | (refine And.intro hti.symm ?_; conv => whnf) | (refine And.intro (by show (((strE ((lstZ s).take i)).map rowB).length + 1) * 16 ≤ 140737488355328; rw [hti]; omega) ?_; conv => whnf) | (rw [getD_map _ _ _ _ (by assumption)]; conv => whnf))
    exact ⟨i + 1, by omega, by omega, ⟨⟨msl_eq (by rw [hti]; rfl), rfl, rfl, AV.int_eq (i64_succ (by omega)), trivial⟩, ⟨fun o h' => by
      rw [List.take_succ_eq_append_getElem h, strE, List.map_append, List.map_append] at h'
      exact h', trivial⟩⟩⟩
  · have h : ¬ i < (lstZ s).length := by first | (have h0 := of_decide_eq_true h; omega) | (have h0 := of_decide_eq_false h; omega) | (have h0 := h; simp at h0; omega) | (have h0 := h; simp at h0; exact h0)
    have : i = (lstZ s).length := by omega
    subst this
    conv => whnf
    refine CallP.arg (args' := [.msl 902 (lstZ s).length 0 (lstZ s).length, .str ⟨#[44]⟩]) rfl ?_
    refine CallP.give 902 1 9 ((strE (lstZ s)).map rowB) (by rw [List.take_length]; rfl) (ejoin_give g (lstZ s) (fun z hz => (lstZ_mem hz).2) hlen) ?_
    have hb := joinE_bound (lstZ s) (fun z hz => (lstZ_mem hz).2) hlen
    conv => whnf
    refine And.intro (by show 1 + (joinE (lstZ s)).length ≤ _; omega) ?_
    conv => whnf
    refine And.intro (by rw [ByteArray.size_append]; show (1 + (joinE (lstZ s)).length) + 1 ≤ _; omega) ?_
    conv => whnf
    refine ⟨⟨[], ?_⟩⟩
    conv => whnf
    rfl

def refTo (l : List Int) (i : Nat) : ByteArray := ⟨#[123]⟩ ++ ⟨(joinE (l.take i)).toArray⟩
theorem numE_take (l : List Int) (i : Nat) (h : i < l.length) : numE (l.take (i + 1)) = numE (l.take i) ++ [Lib.decDigits l[i].toNat] := by
  rw [List.take_succ_eq_append_getElem h, numE, List.map_append]; rfl
theorem refTo_zero (l : List Int) (h : 0 < l.length) : refTo l 1 = refTo l 0 ++ digB l[0].toNat := by
  unfold refTo joinE
  rw [numE_take l 0 h, List.take_zero]
  apply ByteArray.ext
  simp [numE, Lib.join_nil, Lib.join_one, digB]
theorem refTo_succ (l : List Int) (i : Nat) (h : i < l.length) (h0 : 0 < i) : refTo l (i + 1) = (refTo l i ++ ⟨#[44]⟩) ++ digB l[i].toNat := by
  unfold refTo joinE
  rw [numE_take l i h, join_snoc _ _ _ (by
    intro h1
    have h2 : (numE (l.take i)).length = i := by simp [numE]; omega
    rw [h1, List.length_nil] at h2
    omega)]
  apply ByteArray.ext
  simp [digB, ByteArray.data_append]
theorem reftext_ctr (g : GP) (s : BitVec 64) : Ctr (ax g).E 62 [.u64 s] [] (fun o => o = .ret (.str (textE s)) []) := by
  have hlen : (lstZ s).length ≤ 64 := by rw [lstZ_len]; exact lstB_len s
  have hsz : ∀ i, (refTo (lstZ s) i).size ≤ 4161 := fun i => by
    have := joinE_bound ((lstZ s).take i) (fun z hz => (lstZ_mem (List.mem_of_mem_take hz)).2) (by rw [List.length_take]; omega)
    unfold refTo
    rw [ByteArray.size_append]
    show 1 + (joinE ((lstZ s).take i)).length ≤ _
    omega
  refine Ctr.body (X := ax g) _ 27 [] [.tmp 2] Tryd.func62 rfl rfl rfl rfl (by decide +kernel) rfl rfl ?_
  conv => whnf
  repeat' (first | (refine And.intro (by first | exact rfl | decide | exact Nat.le_of_ble_eq_true rfl | exact ⟨_, rfl⟩ | exact ⟨_, _, rfl⟩ | exact Nat.le_refl _ | exact Int.le_refl _ | omega | (simp only [List.length_map]; omega) | exact True.intro | (simp only [IntKind.wrap_i64, List.length_map]; omega) | (simp only [List.map_cons, List.map_nil, List.length_cons, Option.getD]; omega) | (simp only [bsz, ByteArray.size_append, List.size_toArray, List.length_cons, List.length_nil]; omega) | exact ⟨⟨_, _, rfl, rfl, Nat.le_of_ble_eq_true rfl⟩, trivial⟩ | exact ⟨⟨_, _, rfl, rfl, Nat.le_of_ble_eq_true rfl⟩, ⟨_, _, rfl, rfl, Nat.le_of_ble_eq_true rfl⟩, trivial⟩ | exact ⟨⟨_, _, rfl, rfl, Nat.le_of_ble_eq_true rfl⟩, ⟨_, _, rfl, rfl, Nat.le_of_ble_eq_true rfl⟩, ⟨_, _, rfl, rfl, Nat.le_of_ble_eq_true rfl⟩, trivial⟩) ?_; conv => whnf) | (refine ifB_intro (fun hA => ?_) (fun hA => ?_) <;> (try rw [hA]) <;> (conv => whnf) <;> (first | replace hA := of_decide_eq_true hA | replace hA := of_decide_eq_false hA | replace hA := eq_of_beq hA | replace hA := ne_of_beq_false hA | replace hA := bne_iff_ne.1 hA | replace hA := bne_eq_false_iff_eq.1 hA | skip) <;> (try simp only [List.length_map, cond_true, cond_false, Bool.not_eq_true', Bool.not_eq_false', beq_iff_eq, beq_eq_false_iff_ne, ne_eq] at hA)) | (refine CallP.det (reflist_ctr g s) ?_; conv => whnf) | (refine CallD.det (reflist_ctr g s) ?_; conv => whnf) | (rw [getD_map _ _ _ _ (by assumption)]; conv => whnf))
  refine LoopP.inv (X := ax g) (fun i : Nat => { f := [(3, .str (refTo (lstZ s) i)), (4, .d (.sl false 1 ((lstZ s).map rowZ))), (5, .i64 i)], h := [] }) (fun i => i ≤ (lstZ s).length) (fun i => (lstZ s).length - i) 0 (Nat.zero_le _) ⟨⟨?_, rfl, rfl, trivial⟩, trivial⟩ fun i hi => ?_
  · show AV.str (refTo (lstZ s) 0) = AV.str ⟨#[123]⟩
    have : refTo (lstZ s) 0 = ⟨#[123]⟩ := by
      unfold refTo joinE
      rw [List.take_zero]
      apply ByteArray.ext
      simp [numE, Lib.join_nil]
    rw [this]
  conv => whnf
  refine ifB_intro (fun h => ?_) (fun h => ?_)
  · have h : i < (lstZ s).length := by first | (have h0 := of_decide_eq_true h; omega) | (have h0 := of_decide_eq_false h; omega) | (have h0 := h; simp at h0; omega) | (have h0 := h; simp at h0; exact h0)
    obtain ⟨hz0, hz1⟩ := lstZ_mem (List.getElem_mem h)
    have hi5 := digits_ctr g (lstZ s)[i].toNat (by omega)
    rw [show (((lstZ s)[i].toNat : Nat) : Int) = (lstZ s)[i] from by omega] at hi5
    have h1 := hsz i
    have h2 := digB_size (lstZ s)[i].toNat
    conv => whnf
    repeat' (first | (refine And.intro (by first | exact rfl | decide | exact Nat.le_of_ble_eq_true rfl | exact ⟨_, rfl⟩ | exact ⟨_, _, rfl⟩ | exact Nat.le_refl _ | exact Int.le_refl _ | omega | (simp only [List.length_map]; omega) | exact True.intro | (simp only []; omega) | (simp only []; omega) | (simp only [bsz, ByteArray.size_append, List.size_toArray, List.length_cons, List.length_nil]; omega) | exact ⟨⟨_, _, rfl, rfl, Nat.le_of_ble_eq_true rfl⟩, trivial⟩ | exact ⟨⟨_, _, rfl, rfl, Nat.le_of_ble_eq_true rfl⟩, ⟨_, _, rfl, rfl, Nat.le_of_ble_eq_true rfl⟩, trivial⟩ | exact ⟨⟨_, _, rfl, rfl, Nat.le_of_ble_eq_true rfl⟩, ⟨_, _, rfl, rfl, Nat.le_of_ble_eq_true rfl⟩, ⟨_, _, rfl, rfl, Nat.le_of_ble_eq_true rfl⟩, trivial⟩) ?_; conv => whnf) | (refine ifB_intro (fun hA => ?_) (fun hA => ?_) <;> (try rw [hA]) <;> (conv => whnf) <;> (first | replace hA := of_decide_eq_true hA | replace hA := of_decide_eq_false hA | replace hA := eq_of_beq hA | replace hA := ne_of_beq_false hA | replace hA := bne_iff_ne.1 hA | replace hA := bne_eq_false_iff_eq.1 hA | skip) <;> (try simp only [List.length_map, cond_true, cond_false, Bool.not_eq_true', Bool.not_eq_false', beq_iff_eq, beq_eq_false_iff_ne, ne_eq] at hA)) | (refine CallP.det (hi5) ?_; conv => whnf) | (refine CallD.det (hi5) ?_; conv => whnf) | (refine And.intro (by rw [ByteArray.size_append]; show (refTo (lstZ s) i).size + 1 + _ ≤ _; omega) ?_; conv => whnf) | (rw [getD_map _ _ _ _ (by assumption)]; conv => whnf))
    · have h0 : 0 < i := by omega
      exact ⟨i + 1, by omega, by omega, ⟨⟨by rw [refTo_succ _ i h h0]; rfl, rfl, AV.int_eq (i64_succ (by omega)), trivial⟩, trivial⟩⟩
    · have h0 : i = 0 := by omega
      subst h0
      exact ⟨1, by omega, by omega, ⟨⟨by rw [refTo_zero _ h]; rfl, rfl, rfl, trivial⟩, trivial⟩⟩
  · have h : ¬ i < (lstZ s).length := by first | (have h0 := of_decide_eq_true h; omega) | (have h0 := of_decide_eq_false h; omega) | (have h0 := h; simp at h0; omega) | (have h0 := h; simp at h0; exact h0)
    have : i = (lstZ s).length := by omega
    subst this
    have h1 := hsz (lstZ s).length
    conv => whnf
    refine And.intro (by show (refTo (lstZ s) (lstZ s).length).size + 1 ≤ _; omega) ?_
    conv => whnf
    refine ⟨⟨[], ?_⟩⟩
    conv => whnf
    unfold refTo textE
    rw [List.take_length]
end Go.Ax
