/- Abstract execution, part V: calls with one outcome; numbers of 64 bits. -/
import Derived.Test.YtjokajidcojlmaaDoorAxBm
import Derived.Laws.BitsLemmas
import Derived.Laws.Bits64
namespace Go.Ax

theorem CallP.det {E : Env} {k : Kn} {f : FuncId} {args : List AV} {s : St} {K : AV → HL → Prop} {KP : List PanicEntry → HL → Prop} {res : AV} (h : Ctr E f args [] fun o => o = .ret res []) (hk : K res s.h) : CallP E k f args s K KP :=
  ⟨[], _, h, fun r o h => by simp [lkH] at h, fun res' ho e => by injection e with e1 e2; subst e1; subst e2; exact ⟨fun r o h => by simp [lkH] at h, hk⟩, fun ch ho e => by simp at e⟩
theorem CallD.det {E : Env} {f : FuncId} {args : List AV} {s : St} {K : AV → HL → HL → Prop} {res : AV} (h : Ctr E f args [] fun o => o = .ret res []) (hk : K res [] []) : CallD E f args s K :=
  ⟨[], res, [], h, fun r o h => by simp [lkH] at h, hk⟩
theorem CallP.arg {E : Env} {k : Kn} {f : FuncId} {args args' : List AV} {s : St} {K : AV → HL → Prop} {KP : List PanicEntry → HL → Prop} (e : args = args') (h : CallP E k f args' s K KP) : CallP E k f args s K KP := e ▸ h
theorem CallD.arg {E : Env} {f : FuncId} {args args' : List AV} {s : St} {K : AV → HL → HL → Prop} (e : args = args') (h : CallD E f args' s K) : CallD E f args s K := e ▸ h

abbrev AV.u64 (x : BitVec 64) : AV := .d (.v (.int .u64 x.toNat))
abbrev AV.i64 (n : Int) : AV := .d (.v (.int .i64 n))
abbrev AV.bool (b : Bool) : AV := .d (.v (.bool b))
abbrev AV.str (b : ByteArray) : AV := .d (.v (.string b))
abbrev D.i64 (n : Int) : D := .v (.int .i64 n)
abbrev D.u16 (n : Int) : D := .v (.int .u16 n)
theorem msl_eq {r n n' : Nat} (h : n = n') : AV.msl r n 0 n = AV.msl r n' 0 n' := by rw [h]

theorem AV.int_eq {k : IntKind} {a b : Int} (h : a = b) : (AV.d (.v (.int k a))) = .d (.v (.int k b)) := by rw [h]
theorem AV.bool_eq {a b : Bool} (h : a = b) : (AV.d (.v (.bool a))) = .d (.v (.bool b)) := by rw [h]

theorem i64_wrap {n : Int} (h0 : -9223372036854775808 ≤ n) (h1 : n < 9223372036854775808) : IntKind.i64.wrap n = n := by rw [IntKind.wrap_i64]; omega
theorem i64_succ {n : Nat} (h1 : n < 9223372036854775807) : IntKind.i64.wrap ((n : Int) + 1) = ((n + 1 : Nat) : Int) := by rw [IntKind.wrap_i64]; omega
theorem u64_ofInt (x : BitVec 64) : BitVec.ofInt 64 (x.toNat : Int) = x := by simp
theorem u64_nat {n : Nat} (h : n < 2 ^ 64) : IntKind.u64.wrap (n : Int) = n := by rw [IntKind.wrap_u64]; omega
theorem u64_add (x y : BitVec 64) : IntKind.u64.wrap ((x.toNat : Int) + y.toNat) = (x + y).toNat := by
  rw [IntKind.wrap_u64, BitVec.toNat_add]; omega
theorem u64_sub (x y : BitVec 64) : IntKind.u64.wrap ((x.toNat : Int) - y.toNat) = (x - y).toNat := by
  have := x.isLt; have := y.isLt
  rw [IntKind.wrap_u64, BitVec.toNat_sub]; omega
theorem u64_mul (x y : BitVec 64) : IntKind.u64.wrap ((x.toNat : Int) * y.toNat) = (x * y).toNat := by
  rw [IntKind.wrap_u64, BitVec.toNat_mul]
  rw [← Int.natCast_mul]; omega
theorem u64_and (x y : BitVec 64) : IntKind.u64.wrap ((BitVec.ofInt IntKind.u64.bits x.toNat &&& BitVec.ofInt IntKind.u64.bits y.toNat).toNat : Int) = (x &&& y).toNat := by
  show IntKind.u64.wrap ((BitVec.ofInt 64 x.toNat &&& BitVec.ofInt 64 y.toNat).toNat : Int) = _
  rw [u64_ofInt, u64_ofInt]
  exact u64_nat (BitVec.isLt _)
theorem u64_or (x y : BitVec 64) : IntKind.u64.wrap ((BitVec.ofInt IntKind.u64.bits x.toNat ||| BitVec.ofInt IntKind.u64.bits y.toNat).toNat : Int) = (x ||| y).toNat := by
  show IntKind.u64.wrap ((BitVec.ofInt 64 x.toNat ||| BitVec.ofInt 64 y.toNat).toNat : Int) = _
  rw [u64_ofInt, u64_ofInt]
  exact u64_nat (BitVec.isLt _)
theorem u64_andNot (x y : BitVec 64) : IntKind.u64.wrap ((BitVec.ofInt IntKind.u64.bits x.toNat &&& ~~~BitVec.ofInt IntKind.u64.bits y.toNat).toNat : Int) = (x &&& ~~~y).toNat := by
  show IntKind.u64.wrap ((BitVec.ofInt 64 x.toNat &&& ~~~BitVec.ofInt 64 y.toNat).toNat : Int) = _
  rw [u64_ofInt, u64_ofInt]
  exact u64_nat (BitVec.isLt _)
theorem u64_div (x y : BitVec 64) : IntKind.u64.wrap ((x.toNat : Int).tdiv y.toNat) = (x / y).toNat := by
  rw [← Int.ofNat_tdiv, BitVec.toNat_udiv]
  exact u64_nat (Nat.lt_of_le_of_lt (Nat.div_le_self _ _) x.isLt)
theorem u64_mod (x y : BitVec 64) : ((x.toNat : Int).tmod y.toNat) = (x % y).toNat := by
  rw [← Int.ofNat_tmod, BitVec.toNat_umod]
theorem u64_beq (x y : BitVec 64) : ((x.toNat : Int) == (y.toNat : Int)) = (x == y) := by
  rw [Bool.eq_iff_iff, beq_iff_eq, beq_iff_eq]
  constructor
  · intro h; exact BitVec.eq_of_toNat_eq (by omega)
  · rintro rfl; rfl
theorem u64_bne (x y : BitVec 64) : ((x.toNat : Int) != (y.toNat : Int)) = (x != y) := by
  simp only [bne, u64_beq]
theorem u64_shr (x : BitVec 64) (n : Nat) (hn : n < 64) : ((x.toNat : Int).fdiv (2 ^ (min n 64))) = (x >>> n).toNat := by
  rw [Nat.min_eq_left (by omega), BitVec.toNat_ushiftRight, Nat.shiftRight_eq_div_pow]
  rw [show ((2 : Int) ^ n) = ((2 ^ n : Nat) : Int) by simp]
  rw [Int.fdiv_eq_ediv_of_nonneg _ (Int.natCast_nonneg _)]
  rfl
theorem u64_shl (n : Nat) : IntKind.u64.wrap (1 * 2 ^ (min n 64)) = ((1#64) <<< n).toNat := by
  rw [IntKind.wrap_u64, BitVec.toNat_shiftLeft, Nat.shiftLeft_eq]
  by_cases h : n ≤ 64
  · rw [Nat.min_eq_left h]
    have : ((2 : Int) ^ n) = ((2 ^ n : Nat) : Int) := by simp
    rw [this]
    simp
  · rw [Nat.min_eq_right (by omega)]
    have h1 : 2 ^ 64 ∣ 2 ^ n := Nat.pow_dvd_pow 2 (by omega)
    have h2 : (1 * 2 ^ n) % 2 ^ 64 = 0 := by rw [Nat.one_mul]; exact Nat.mod_eq_zero_of_dvd h1
    show _ = (((1 : Nat) * 2 ^ n % 2 ^ 64 : Nat) : Int)
    rw [h2]; decide

end Go.Ax
