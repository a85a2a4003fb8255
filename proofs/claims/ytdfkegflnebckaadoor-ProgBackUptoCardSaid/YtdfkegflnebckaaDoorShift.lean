/-
  The bits that Get puts together, as sums. Plain arithmetic.
-/
import Derived.Laws.BitsAllLaws
import Derived.Laws.Bits64
import Derived.Test.YtdfkegflnebckaaDoorNum
namespace Go.Proofs.YtdfkegflnebckaaDoor.W
open Go

theorem pow_eq (k : Nat) : (128 : Nat) ^ k = 2 ^ (7 * k) := by rw [Nat.pow_mul]
theorem get_lt {a x k : Nat} (ha : a < 128 ^ k) (hk : k ≤ 9) (h9 : k = 9 → x ≤ 1) : a + x % 128 * 128 ^ k < 18446744073709551616 := by
  by_cases h : k = 9
  · subst h
    have := h9 rfl
    have e : (128 : Nat) ^ 9 = 9223372036854775808 := by decide
    rw [e] at ha ⊢
    have : x % 128 * 9223372036854775808 ≤ 1 * 9223372036854775808 := Nat.mul_le_mul_right _ (by omega)
    omega
  · have hp : (128 : Nat) ^ (k + 1) ≤ 128 ^ 9 := Nat.pow_le_pow_right (by omega) (by omega)
    have e : (128 : Nat) ^ 9 = 9223372036854775808 := by decide
    rw [e, Nat.pow_succ] at hp
    have h2 : x % 128 * 128 ^ k ≤ 127 * 128 ^ k := Nat.mul_le_mul_right _ (by omega)
    omega
theorem get_or {a x k : Nat} (ha : a < 128 ^ k) (hx : x < 256) (hk : k ≤ 9) (h9 : k = 9 → x ≤ 1) :
    bits .or .u64 (a : Int) (IntKind.u64.wrap (IntKind.u64.wrap (bits .and .u8 (x : Int) 127) * 2 ^ (7 * k))) = ((a + x % 128 * 128 ^ k : Nat) : Int) := by
  have hlt := get_lt ha hk h9
  have h1 : bits .and .u8 (x : Int) 127 = ((x % 128 : Nat) : Int) := by
    have := u8_and_nat x 127 hx (by decide)
    rw [show ((127 : Nat) : Int) = 127 from rfl] at this
    rw [this]
    congr 1
    exact Nat.and_two_pow_sub_one_eq_mod x 7
  have h2 : IntKind.u64.wrap ((x % 128 : Nat) : Int) = ((x % 128 : Nat) : Int) := by rw [IntKind.wrap_u64]; omega
  have h3 : ((x % 128 : Nat) : Int) * 2 ^ (7 * k) = ((x % 128 * 128 ^ k : Nat) : Int) := by
    rw [pow_eq, Int.natCast_mul, Int.natCast_pow]
    rfl
  have h4 : IntKind.u64.wrap ((x % 128 * 128 ^ k : Nat) : Int) = ((x % 128 * 128 ^ k : Nat) : Int) := by rw [IntKind.wrap_u64]; omega
  rw [h1, h2, h3, h4, u64_or_nat _ _ (by omega) (by omega)]
  congr 1
  rw [pow_eq] at ha ⊢
  have h5 := Nat.two_pow_add_eq_or_of_lt ha (x % 128)
  rw [Nat.mul_comm (x % 128), Nat.or_comm, ← h5, Nat.add_comm]
theorem and_one {U : Nat} (h : U < 18446744073709551616) : bits .and .u64 (U : Int) 1 = ((U % 2 : Nat) : Int) := by
  have := u64_and_nat U 1 h (by decide)
  rw [show ((1 : Nat) : Int) = 1 from rfl] at this
  rw [this, Nat.and_one_is_mod]
theorem xor_ones (b : Nat) (h : b < 2 ^ 64) : (2 ^ 64 - 1) ^^^ b = 2 ^ 64 - (b + 1) := by
  apply Nat.eq_of_testBit_eq
  intro i
  rw [Nat.testBit_xor, Nat.testBit_two_pow_sub_one, Nat.testBit_two_pow_sub_succ h]
  by_cases hi : i < 64
  · simp [hi]
  · have hb : b.testBit i = false := Nat.testBit_lt_two_pow (Nat.lt_of_lt_of_le h (Nat.pow_le_pow_right (by omega) (by omega)))
    simp [hi, hb]
theorem not_shl {n : Int} (h0 : -9223372036854775808 ≤ n) (h1 : n < 0) : bits .xor .u64 IntKind.u64.max (IntKind.u64.wrap (IntKind.u64.wrap n * 2)) = (zig n : Int) := by
  have e1 : IntKind.u64.wrap (IntKind.u64.wrap n * 2) = ((18446744073709551616 - (-n).toNat * 2 : Nat) : Int) := by
    rw [IntKind.wrap_u64, IntKind.wrap_u64]
    omega
  have e2 : IntKind.u64.max = ((2 ^ 64 - 1 : Nat) : Int) := by decide
  rw [e1, e2, bits_xor_u64_nat _ _ (by decide) (by omega), xor_ones _ (by omega)]
  unfold zig
  rw [if_pos h1]
  omega
theorem and_127 {k : Nat} (h : k < 18446744073709551616) : bits .and .u64 (k : Int) 127 = ((k % 128 : Nat) : Int) := by
  have := u64_and_nat k 127 h (by decide)
  rw [show ((127 : Nat) : Int) = 127 from rfl] at this
  rw [this]
  congr 1
  exact Nat.and_two_pow_sub_one_eq_mod k 7
end Go.Proofs.YtdfkegflnebckaaDoor.W
