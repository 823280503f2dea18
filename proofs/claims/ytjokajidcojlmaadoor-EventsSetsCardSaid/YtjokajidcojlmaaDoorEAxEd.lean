import Derived.Test.YtjokajidcojlmaaDoorEAxEb
import Derived.Test.YtjokajidcojlmaaDoorEAxEnv
import Derived.Test.YtjokajidcojlmaaDoorEAxTo

/- Sets of events: the functions. -/
namespace Go.Ax
open Go.Proofs
set_option maxRecDepth 10000

theorem bit_ctr (g : GP) (e : Int) : Ctr (ax g).E 106 [.i64 e] [] (fun o => o = .ret (.u64 (bitF e)) []) := by
  refine Ctr.body (X := ax g) _ 11 [] [.tmp 2] Tryd.func106 rfl rfl rfl rfl (by decide +kernel) rfl rfl ?_
  conv => whnf
  repeat' (first | (refine And.intro (by first | exact rfl | decide | exact Nat.le_of_ble_eq_true rfl | exact ⟨_, rfl⟩ | exact ⟨_, _, rfl⟩ | exact Nat.le_refl _ | exact Int.le_refl _ | omega | (simp only [List.length_map]; omega) | exact True.intro | (simp only [IntKind.wrap_i64, List.length_map]; omega) | (simp only [List.map_cons, List.map_nil, List.length_cons, Option.getD]; omega) | (simp only [bsz, ByteArray.size_append, List.size_toArray, List.length_cons, List.length_nil]; omega) | exact ⟨⟨_, _, rfl, rfl, Nat.le_of_ble_eq_true rfl⟩, trivial⟩ | exact ⟨⟨_, _, rfl, rfl, Nat.le_of_ble_eq_true rfl⟩, ⟨_, _, rfl, rfl, Nat.le_of_ble_eq_true rfl⟩, trivial⟩ | exact ⟨⟨_, _, rfl, rfl, Nat.le_of_ble_eq_true rfl⟩, ⟨_, _, rfl, rfl, Nat.le_of_ble_eq_true rfl⟩, ⟨_, _, rfl, rfl, Nat.le_of_ble_eq_true rfl⟩, trivial⟩) ?_; conv => whnf) | (refine ifB_intro (fun hA => ?_) (fun hA => ?_) <;> (try rw [hA]) <;> (conv => whnf) <;> (first | replace hA := of_decide_eq_true hA | replace hA := of_decide_eq_false hA | replace hA := eq_of_beq hA | replace hA := ne_of_beq_false hA | replace hA := bne_iff_ne.1 hA | replace hA := bne_eq_false_iff_eq.1 hA | skip) <;> (try simp only [List.length_map, cond_true, cond_false, Bool.not_eq_true', Bool.not_eq_false', beq_iff_eq, beq_eq_false_iff_ne, ne_eq] at hA)) | (rw [getD_map _ _ _ _ (by assumption)]; conv => whnf))
  · refine ⟨⟨[], ?_⟩⟩
    conv => whnf
    rw [bitF_out (.inl hA)]; rfl
  · rename_i h0
    refine ⟨⟨[], ?_⟩⟩
    conv => whnf
    rw [bitF_out (.inr hA)]; rfl
  · rename_i h0
    refine ⟨⟨[], ?_⟩⟩
    conv => whnf
    rw [bitF_in (by omega) (by omega)]
    exact congrArg (fun z => AOut.ret (AV.d (.v (.int .u64 z))) []) (u64_shl e.toNat)

theorem ones_ctr (g : GP) (x : BitVec 64) : Ctr (ax g).E 105 [.u64 x] [] (fun o => o = .ret (.i64 (lstB x).length) []) := by
  refine Ctr.body (X := ax g) _ 35 [] [.tmp 2] Tryd.func105 rfl rfl rfl rfl (by decide +kernel) rfl rfl ?_
  conv => whnf
  repeat' (first | (refine And.intro (by first | exact rfl | decide | exact Nat.le_of_ble_eq_true rfl | exact ⟨_, rfl⟩ | exact ⟨_, _, rfl⟩ | exact Nat.le_refl _ | exact Int.le_refl _ | omega | (simp only [List.length_map]; omega) | exact True.intro | (simp only [IntKind.wrap_i64, List.length_map]; omega) | (simp only [List.map_cons, List.map_nil, List.length_cons, Option.getD]; omega) | (simp only [bsz, ByteArray.size_append, List.size_toArray, List.length_cons, List.length_nil]; omega) | exact ⟨⟨_, _, rfl, rfl, Nat.le_of_ble_eq_true rfl⟩, trivial⟩ | exact ⟨⟨_, _, rfl, rfl, Nat.le_of_ble_eq_true rfl⟩, ⟨_, _, rfl, rfl, Nat.le_of_ble_eq_true rfl⟩, trivial⟩ | exact ⟨⟨_, _, rfl, rfl, Nat.le_of_ble_eq_true rfl⟩, ⟨_, _, rfl, rfl, Nat.le_of_ble_eq_true rfl⟩, ⟨_, _, rfl, rfl, Nat.le_of_ble_eq_true rfl⟩, trivial⟩) ?_; conv => whnf) | (refine ifB_intro (fun hA => ?_) (fun hA => ?_) <;> (try rw [hA]) <;> (conv => whnf) <;> (first | replace hA := of_decide_eq_true hA | replace hA := of_decide_eq_false hA | replace hA := eq_of_beq hA | replace hA := ne_of_beq_false hA | replace hA := bne_iff_ne.1 hA | replace hA := bne_eq_false_iff_eq.1 hA | skip) <;> (try simp only [List.length_map, cond_true, cond_false, Bool.not_eq_true', Bool.not_eq_false', beq_iff_eq, beq_eq_false_iff_ne, ne_eq] at hA)) | (rw [getD_map _ _ _ _ (by assumption)]; conv => whnf))
  refine ⟨⟨[], ?_⟩⟩
  conv => whnf
  have e1 : ∀ y : BitVec 64, (y.toNat : Int).fdiv (2 ^ min (Int.toNat 1) IntKind.u64.bits) = ((y >>> 1).toNat : Int) := fun y => u64_shr y 1 (by omega)
  have e2 : ∀ y : BitVec 64, (y.toNat : Int).fdiv (2 ^ min (Int.toNat 2) IntKind.u64.bits) = ((y >>> 2).toNat : Int) := fun y => u64_shr y 2 (by omega)
  have e4 : ∀ y : BitVec 64, (y.toNat : Int).fdiv (2 ^ min (Int.toNat 4) IntKind.u64.bits) = ((y >>> 4).toNat : Int) := fun y => u64_shr y 4 (by omega)
  have e8 : ∀ y : BitVec 64, (y.toNat : Int).fdiv (2 ^ min (Int.toNat 8) IntKind.u64.bits) = ((y >>> 8).toNat : Int) := fun y => u64_shr y 8 (by omega)
  have e16 : ∀ y : BitVec 64, (y.toNat : Int).fdiv (2 ^ min (Int.toNat 16) IntKind.u64.bits) = ((y >>> 16).toNat : Int) := fun y => u64_shr y 16 (by omega)
  have e32 : ∀ y : BitVec 64, (y.toNat : Int).fdiv (2 ^ min (Int.toNat 32) IntKind.u64.bits) = ((y >>> 32).toNat : Int) := fun y => u64_shr y 32 (by omega)
  have c1 : ∀ y : BitVec 64, IntKind.u64.wrap ((BitVec.ofInt IntKind.u64.bits y.toNat &&& BitVec.ofInt IntKind.u64.bits 6148914691236517205).toNat : Int) = ((y &&& 0x5555555555555555#64).toNat : Int) := fun y => u64_and y 0x5555555555555555#64
  have c2 : ∀ y : BitVec 64, IntKind.u64.wrap ((BitVec.ofInt IntKind.u64.bits y.toNat &&& BitVec.ofInt IntKind.u64.bits 3689348814741910323).toNat : Int) = ((y &&& 0x3333333333333333#64).toNat : Int) := fun y => u64_and y 0x3333333333333333#64
  have c4 : ∀ y : BitVec 64, IntKind.u64.wrap ((BitVec.ofInt IntKind.u64.bits y.toNat &&& BitVec.ofInt IntKind.u64.bits 1085102592571150095).toNat : Int) = ((y &&& 0x0f0f0f0f0f0f0f0f#64).toNat : Int) := fun y => u64_and y 0x0f0f0f0f0f0f0f0f#64
  simp only [e1, e2, e4, e8, e16, e32, c1, c2, c4, u64_add]
  obtain ⟨h1, h2⟩ := onesB_eq x
  have key : ∀ n : Nat, n < 2 ^ 63 → IntKind.i64.wrap ((BitVec.ofInt IntKind.i64.bits (IntKind.i64.wrap (n : Int)) &&& BitVec.ofInt IntKind.i64.bits 127).toNat : Int) = ((n % 128 : Nat) : Int) := fun n hn => by
    have hw : IntKind.i64.wrap (n : Int) = n := i64_wrap (by omega) (by omega)
    rw [hw]
    show IntKind.i64.wrap (((BitVec.ofInt 64 (n : Int)) &&& 127#64).toNat : Int) = _
    rw [BitVec.ofInt_natCast, BitVec.toNat_and, BitVec.toNat_ofNat, Nat.mod_eq_of_lt (by omega), show (127#64).toNat = 2 ^ 7 - 1 from rfl, Nat.and_two_pow_sub_one_eq_mod, i64_wrap (by omega) (by omega)]
  exact congrArg (fun z => AOut.ret (AV.d (.v (.int .i64 z))) []) ((key _ h2).trans (by rw [h1]))

theorem in_ctr (g : GP) (a b : BitVec 64) : Ctr (ax g).E 63 [.u64 a, .u64 b] [] (fun o => o = .ret (.bool (inB a b)) []) := by
  refine Ctr.body (X := ax g) _ 9 [] [.tmp 4] Tryd.func63 rfl rfl rfl rfl (by decide +kernel) rfl rfl ?_
  conv => whnf
  refine ⟨⟨[], ?_⟩⟩
  conv => whnf
  rw [u64_andNot]
  exact congrArg (fun z => AOut.ret (AV.bool z) []) (u64_beq (a &&& ~~~b) 0#64)
theorem has_ctr (g : GP) (s : BitVec 64) (e : Int) : Ctr (ax g).E 53 [.u64 s, .i64 e] [] (fun o => o = .ret (.bool (hasB s e)) []) := by
  refine Ctr.body (X := ax g) _ 10 [] [.tmp 4] Tryd.func53 rfl rfl rfl rfl (by decide +kernel) rfl rfl ?_
  conv => whnf
  repeat' (first | (refine And.intro (by first | exact rfl | decide | exact Nat.le_of_ble_eq_true rfl | exact ⟨_, rfl⟩ | exact ⟨_, _, rfl⟩ | exact Nat.le_refl _ | exact Int.le_refl _ | omega | (simp only [List.length_map]; omega) | exact True.intro | (simp only [IntKind.wrap_i64, List.length_map]; omega) | (simp only [List.map_cons, List.map_nil, List.length_cons, Option.getD]; omega) | (simp only [bsz, ByteArray.size_append, List.size_toArray, List.length_cons, List.length_nil]; omega) | exact ⟨⟨_, _, rfl, rfl, Nat.le_of_ble_eq_true rfl⟩, trivial⟩ | exact ⟨⟨_, _, rfl, rfl, Nat.le_of_ble_eq_true rfl⟩, ⟨_, _, rfl, rfl, Nat.le_of_ble_eq_true rfl⟩, trivial⟩ | exact ⟨⟨_, _, rfl, rfl, Nat.le_of_ble_eq_true rfl⟩, ⟨_, _, rfl, rfl, Nat.le_of_ble_eq_true rfl⟩, ⟨_, _, rfl, rfl, Nat.le_of_ble_eq_true rfl⟩, trivial⟩) ?_; conv => whnf) | (refine ifB_intro (fun hA => ?_) (fun hA => ?_) <;> (try rw [hA]) <;> (conv => whnf) <;> (first | replace hA := of_decide_eq_true hA | replace hA := of_decide_eq_false hA | replace hA := eq_of_beq hA | replace hA := ne_of_beq_false hA | replace hA := bne_iff_ne.1 hA | replace hA := bne_eq_false_iff_eq.1 hA | skip) <;> (try simp only [List.length_map, cond_true, cond_false, Bool.not_eq_true', Bool.not_eq_false', beq_iff_eq, beq_eq_false_iff_ne, ne_eq] at hA)) | (refine CallP.det (bit_ctr g e) ?_; conv => whnf) | (refine CallD.det (bit_ctr g e) ?_; conv => whnf) | (rw [getD_map _ _ _ _ (by assumption)]; conv => whnf))
  refine ⟨⟨[], ?_⟩⟩
  conv => whnf
  rw [u64_and, ← hasB_and]
  exact congrArg (fun z => AOut.ret (AV.bool z) []) (u64_bne (s &&& bitF e) 0#64)
theorem with_ctr (g : GP) (s : BitVec 64) (e : Int) : Ctr (ax g).E 55 [.u64 s, .i64 e] [] (fun o => o = .ret (.u64 (withB s e)) []) := by
  refine Ctr.body (X := ax g) _ 9 [] [.tmp 4] Tryd.func55 rfl rfl rfl rfl (by decide +kernel) rfl rfl ?_
  conv => whnf
  repeat' (first | (refine And.intro (by first | exact rfl | decide | exact Nat.le_of_ble_eq_true rfl | exact ⟨_, rfl⟩ | exact ⟨_, _, rfl⟩ | exact Nat.le_refl _ | exact Int.le_refl _ | omega | (simp only [List.length_map]; omega) | exact True.intro | (simp only [IntKind.wrap_i64, List.length_map]; omega) | (simp only [List.map_cons, List.map_nil, List.length_cons, Option.getD]; omega) | (simp only [bsz, ByteArray.size_append, List.size_toArray, List.length_cons, List.length_nil]; omega) | exact ⟨⟨_, _, rfl, rfl, Nat.le_of_ble_eq_true rfl⟩, trivial⟩ | exact ⟨⟨_, _, rfl, rfl, Nat.le_of_ble_eq_true rfl⟩, ⟨_, _, rfl, rfl, Nat.le_of_ble_eq_true rfl⟩, trivial⟩ | exact ⟨⟨_, _, rfl, rfl, Nat.le_of_ble_eq_true rfl⟩, ⟨_, _, rfl, rfl, Nat.le_of_ble_eq_true rfl⟩, ⟨_, _, rfl, rfl, Nat.le_of_ble_eq_true rfl⟩, trivial⟩) ?_; conv => whnf) | (refine ifB_intro (fun hA => ?_) (fun hA => ?_) <;> (try rw [hA]) <;> (conv => whnf) <;> (first | replace hA := of_decide_eq_true hA | replace hA := of_decide_eq_false hA | replace hA := eq_of_beq hA | replace hA := ne_of_beq_false hA | replace hA := bne_iff_ne.1 hA | replace hA := bne_eq_false_iff_eq.1 hA | skip) <;> (try simp only [List.length_map, cond_true, cond_false, Bool.not_eq_true', Bool.not_eq_false', beq_iff_eq, beq_eq_false_iff_ne, ne_eq] at hA)) | (refine CallP.det (bit_ctr g e) ?_; conv => whnf) | (refine CallD.det (bit_ctr g e) ?_; conv => whnf) | (rw [getD_map _ _ _ _ (by assumption)]; conv => whnf))
  refine ⟨⟨[], ?_⟩⟩
  conv => whnf
  exact congrArg (fun z => AOut.ret (AV.d (.v (.int .u64 z))) []) (u64_or s (bitF e))
theorem without_ctr (g : GP) (s : BitVec 64) (e : Int) : Ctr (ax g).E 57 [.u64 s, .i64 e] [] (fun o => o = .ret (.u64 (withoutB s e)) []) := by
  refine Ctr.body (X := ax g) _ 9 [] [.tmp 4] Tryd.func57 rfl rfl rfl rfl (by decide +kernel) rfl rfl ?_
  conv => whnf
  repeat' (first | (refine And.intro (by first | exact rfl | decide | exact Nat.le_of_ble_eq_true rfl | exact ⟨_, rfl⟩ | exact ⟨_, _, rfl⟩ | exact Nat.le_refl _ | exact Int.le_refl _ | omega | (simp only [List.length_map]; omega) | exact True.intro | (simp only [IntKind.wrap_i64, List.length_map]; omega) | (simp only [List.map_cons, List.map_nil, List.length_cons, Option.getD]; omega) | (simp only [bsz, ByteArray.size_append, List.size_toArray, List.length_cons, List.length_nil]; omega) | exact ⟨⟨_, _, rfl, rfl, Nat.le_of_ble_eq_true rfl⟩, trivial⟩ | exact ⟨⟨_, _, rfl, rfl, Nat.le_of_ble_eq_true rfl⟩, ⟨_, _, rfl, rfl, Nat.le_of_ble_eq_true rfl⟩, trivial⟩ | exact ⟨⟨_, _, rfl, rfl, Nat.le_of_ble_eq_true rfl⟩, ⟨_, _, rfl, rfl, Nat.le_of_ble_eq_true rfl⟩, ⟨_, _, rfl, rfl, Nat.le_of_ble_eq_true rfl⟩, trivial⟩) ?_; conv => whnf) | (refine ifB_intro (fun hA => ?_) (fun hA => ?_) <;> (try rw [hA]) <;> (conv => whnf) <;> (first | replace hA := of_decide_eq_true hA | replace hA := of_decide_eq_false hA | replace hA := eq_of_beq hA | replace hA := ne_of_beq_false hA | replace hA := bne_iff_ne.1 hA | replace hA := bne_eq_false_iff_eq.1 hA | skip) <;> (try simp only [List.length_map, cond_true, cond_false, Bool.not_eq_true', Bool.not_eq_false', beq_iff_eq, beq_eq_false_iff_ne, ne_eq] at hA)) | (refine CallP.det (bit_ctr g e) ?_; conv => whnf) | (refine CallD.det (bit_ctr g e) ?_; conv => whnf) | (rw [getD_map _ _ _ _ (by assumption)]; conv => whnf))
  refine ⟨⟨[], ?_⟩⟩
  conv => whnf
  exact congrArg (fun z => AOut.ret (AV.d (.v (.int .u64 z))) []) (u64_andNot s (bitF e))
def rowZ (z : Int) : List D := [.i64 z]
theorem ofB_drop (l : List Int) (i : Nat) (h : i < l.length) (s : BitVec 64) : (l.drop i).foldl withB s = (l.drop (i + 1)).foldl withB (withB s l[i]) := by
  rw [List.drop_eq_getElem_cons h]; rfl
theorem of_ctr (g : GP) (b : Bool) (l : List Int) (hl : l.length < 2 ^ 62) : Ctr (ax g).E 51 [.d (.sl b 1 (l.map rowZ))] [] (fun o => o = .ret (.u64 (ofB l)) []) := by
  refine Ctr.body (X := ax g) _ 18 [] [.tmp 2] Tryd.func51 rfl rfl rfl rfl (by decide +kernel) rfl rfl ?_
  conv => whnf
  refine LoopP.inv (X := ax g) (fun x : Nat × BitVec 64 => { f := [(3, .u64 x.2), (6, .d (.sl b 1 (l.map rowZ))), (7, .i64 l.length), (8, .i64 x.1)], h := [] }) (fun x => x.1 ≤ l.length ∧ ofB l = (l.drop x.1).foldl withB x.2) (fun x => l.length - x.1) (0, 0#64) ⟨Nat.zero_le _, rfl⟩ ⟨⟨rfl, rfl, AV.int_eq (by simp), rfl, trivial⟩, trivial⟩ fun ⟨i, s⟩ ⟨hi, he⟩ => ?_
  dsimp only at hi he ⊢
  conv => whnf
  refine ifB_intro (fun h => ?_) (fun h => ?_)
  · have h : i < l.length := by first | (have h0 := of_decide_eq_true h; omega) | (have h0 := of_decide_eq_false h; omega) | (have h0 := h; simp at h0; omega) | (have h0 := h; simp at h0; exact h0)
    conv => whnf
    repeat' (first | (refine And.intro (by first | exact rfl | decide | exact Nat.le_of_ble_eq_true rfl | exact ⟨_, rfl⟩ | exact ⟨_, _, rfl⟩ | exact Nat.le_refl _ | exact Int.le_refl _ | omega | (simp only [List.length_map]; omega) | exact True.intro | (simp only []; omega) | (simp only []; omega) | (simp only []; omega) | exact ⟨⟨_, _, rfl, rfl, Nat.le_of_ble_eq_true rfl⟩, trivial⟩ | exact ⟨⟨_, _, rfl, rfl, Nat.le_of_ble_eq_true rfl⟩, ⟨_, _, rfl, rfl, Nat.le_of_ble_eq_true rfl⟩, trivial⟩ | exact ⟨⟨_, _, rfl, rfl, Nat.le_of_ble_eq_true rfl⟩, ⟨_, _, rfl, rfl, Nat.le_of_ble_eq_true rfl⟩, ⟨_, _, rfl, rfl, Nat.le_of_ble_eq_true rfl⟩, trivial⟩) ?_; conv => whnf) | (refine ifB_intro (fun hA => ?_) (fun hA => ?_) <;> (try rw [hA]) <;> (conv => whnf) <;> (first | replace hA := of_decide_eq_true hA | replace hA := of_decide_eq_false hA | replace hA := eq_of_beq hA | replace hA := ne_of_beq_false hA | replace hA := bne_iff_ne.1 hA | replace hA := bne_eq_false_iff_eq.1 hA | skip) <;> (try simp only [List.length_map, cond_true, cond_false, Bool.not_eq_true', Bool.not_eq_false', beq_iff_eq, beq_eq_false_iff_ne, ne_eq] at hA)) | (refine CallP.det (bit_ctr g l[i]) ?_; conv => whnf) | (refine CallD.det (bit_ctr g l[i]) ?_; conv => whnf) | (rw [getD_map _ _ _ _ (by assumption)]; conv => whnf))
    exact ⟨(i + 1, withB s l[i]), ⟨by show i + 1 ≤ _; omega, by rw [he, ofB_drop l i h]⟩, by show _ - (i + 1) < _ - i; omega, ⟨⟨AV.int_eq (u64_or s _), rfl, rfl, AV.int_eq (i64_succ (by omega)), trivial⟩, trivial⟩⟩
  · have h : ¬ i < l.length := by first | (have h0 := of_decide_eq_true h; omega) | (have h0 := of_decide_eq_false h; omega) | (have h0 := h; simp at h0; omega) | (have h0 := h; simp at h0; exact h0)
    conv => whnf
    refine ⟨⟨[], ?_⟩⟩
    conv => whnf
    rw [he, List.drop_eq_nil_of_le (by omega)]; rfl

theorem len_ctr (g : GP) (s : BitVec 64) : Ctr (ax g).E 50 [.u64 s] [] (fun o => o = .ret (.i64 (lstB s).length) []) := by
  refine Ctr.body (X := ax g) _ 5 [] [.tmp 2] Tryd.func50 rfl rfl rfl rfl (by decide +kernel) rfl rfl ?_
  conv => whnf
  repeat' (first | (refine And.intro (by first | exact rfl | decide | exact Nat.le_of_ble_eq_true rfl | exact ⟨_, rfl⟩ | exact ⟨_, _, rfl⟩ | exact Nat.le_refl _ | exact Int.le_refl _ | omega | (simp only [List.length_map]; omega) | exact True.intro | (simp only [IntKind.wrap_i64, List.length_map]; omega) | (simp only [List.map_cons, List.map_nil, List.length_cons, Option.getD]; omega) | (simp only [bsz, ByteArray.size_append, List.size_toArray, List.length_cons, List.length_nil]; omega) | exact ⟨⟨_, _, rfl, rfl, Nat.le_of_ble_eq_true rfl⟩, trivial⟩ | exact ⟨⟨_, _, rfl, rfl, Nat.le_of_ble_eq_true rfl⟩, ⟨_, _, rfl, rfl, Nat.le_of_ble_eq_true rfl⟩, trivial⟩ | exact ⟨⟨_, _, rfl, rfl, Nat.le_of_ble_eq_true rfl⟩, ⟨_, _, rfl, rfl, Nat.le_of_ble_eq_true rfl⟩, ⟨_, _, rfl, rfl, Nat.le_of_ble_eq_true rfl⟩, trivial⟩) ?_; conv => whnf) | (refine ifB_intro (fun hA => ?_) (fun hA => ?_) <;> (try rw [hA]) <;> (conv => whnf) <;> (first | replace hA := of_decide_eq_true hA | replace hA := of_decide_eq_false hA | replace hA := eq_of_beq hA | replace hA := ne_of_beq_false hA | replace hA := bne_iff_ne.1 hA | replace hA := bne_eq_false_iff_eq.1 hA | skip) <;> (try simp only [List.length_map, cond_true, cond_false, Bool.not_eq_true', Bool.not_eq_false', beq_iff_eq, beq_eq_false_iff_ne, ne_eq] at hA)) | (refine CallP.det (ones_ctr g s) ?_; conv => whnf) | (refine CallD.det (ones_ctr g s) ?_; conv => whnf) | (rw [getD_map _ _ _ _ (by assumption)]; conv => whnf))
  refine ⟨⟨[], ?_⟩⟩
  conv => whnf

def lstZ (s : BitVec 64) : List Int := (lstB s).map Int.ofNat

end Go.Ax
