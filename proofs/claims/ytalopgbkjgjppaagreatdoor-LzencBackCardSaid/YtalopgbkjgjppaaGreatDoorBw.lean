/- And, or on numbers, as plain reckoning. -/
import Derived.Laws.BitsLemmas
import Derived.IntWalk
namespace Go.Cas

theorem wr_u32 (n : Int) (h0 : 0 ≤ n) (h1 : n < 2 ^ 32) : IntKind.u32.wrap n = n := by simp [IntKind.wrap, IntKind.bits, IntKind.signed]; omega
theorem wr_u8 (n : Int) (h0 : 0 ≤ n) (h1 : n < 2 ^ 8) : IntKind.u8.wrap n = n := by simp [IntKind.wrap, IntKind.bits, IntKind.signed]; omega
theorem wr_i64 (n : Int) (h0 : 0 ≤ n) (h1 : n < 2 ^ 62) : IntKind.i64.wrap n = n := IntWalk.i64_in _ (by omega)

theorem and_u32 (a b : Nat) (ha : a < 2 ^ 32) (hb : b < 2 ^ 32) : bits .and .u32 (a : Int) (b : Int) = ((a &&& b : Nat) : Int) := (bits_nat .u32 32 (by decide) wr_u32 a b ha hb).1
theorem and_u8 (a b : Nat) (ha : a < 2 ^ 8) (hb : b < 2 ^ 8) : bits .and .u8 (a : Int) (b : Int) = ((a &&& b : Nat) : Int) := (bits_nat .u8 8 (by decide) wr_u8 a b ha hb).1
theorem and_i64 (a b : Nat) (ha : a < 2 ^ 62) (hb : b < 2 ^ 62) : bits .and .i64 (a : Int) (b : Int) = ((a &&& b : Nat) : Int) := (bits_nat .i64 62 (by decide) wr_i64 a b ha hb).1
theorem or_u32 (a b : Nat) (ha : a < 2 ^ 32) (hb : b < 2 ^ 32) : bits .or .u32 (a : Int) (b : Int) = ((a ||| b : Nat) : Int) := (bits_nat .u32 32 (by decide) wr_u32 a b ha hb).2
theorem or_i64 (a b : Nat) (ha : a < 2 ^ 62) (hb : b < 2 ^ 62) : bits .or .i64 (a : Int) (b : Int) = ((a ||| b : Nat) : Int) := (bits_nat .i64 62 (by decide) wr_i64 a b ha hb).2

theorem and1_u32 (a : Nat) (ha : a < 2 ^ 32) : bits .and .u32 (a : Int) 1 = ((a % 2 : Nat) : Int) := by
  have := and_u32 a 1 ha (by decide); rw [Nat.and_one_is_mod] at this; exact this
theorem and1_u8 (a : Nat) (ha : a < 2 ^ 8) : bits .and .u8 (a : Int) 1 = ((a % 2 : Nat) : Int) := by
  have := and_u8 a 1 ha (by decide); rw [Nat.and_one_is_mod] at this; exact this
theorem and1_i64 (a : Nat) (ha : a < 2 ^ 62) : bits .and .i64 (a : Int) 1 = ((a % 2 : Nat) : Int) := by
  have := and_i64 a 1 ha (by decide); rw [Nat.and_one_is_mod] at this; exact this

/-- Two times a number, or a bit. -/
theorem or_bit {m b : Nat} (hb : b ≤ 1) : (2 * m) ||| b = 2 * m + b := by
  have := Nat.two_pow_add_eq_or_of_lt (i := 1) (b := b) (by omega) m
  simpa using this.symm
/-- Bits that lie above others. -/
theorem or_join {m b i : Nat} (hb : b < 2 ^ i) : (m * 2 ^ i) ||| b = m * 2 ^ i + b := by
  have := Nat.two_pow_add_eq_or_of_lt (i := i) (b := b) hb m
  rw [Nat.mul_comm]
  exact this.symm
end Go.Cas
