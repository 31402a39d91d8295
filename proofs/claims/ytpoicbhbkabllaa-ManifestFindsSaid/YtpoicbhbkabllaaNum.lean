/- The model's integer operations at UInt8, UInt32, UInt64, as rules of the walk: a value of such a kind is written by its UInt. No condition. -/
import Derived.WalkKit
import Derived.Laws.BitsAllLaws
namespace Go.Proofs.Ytpoicbhbkabllaa
set_option linter.unusedSimpArgs false
set_option linter.unusedVariables false

theorem u8_lt (x : UInt8) : x.toNat < 256 := x.toNat_lt
theorem u16_lt (x : UInt16) : x.toNat < 65536 := x.toNat_lt
theorem u32_lt (x : UInt32) : x.toNat < 4294967296 := x.toNat_lt
theorem u64_lt (x : UInt64) : x.toNat < 18446744073709551616 := x.toNat_lt

/-! conversions -/
theorem wrap_u8_u8 (x : UInt8) : IntKind.u8.wrap (x.toNat : Int) = (x.toNat : Int) := by rw [IntKind.wrap_u8']; have := u8_lt x; omega
theorem wrap_u8_u32 (x : UInt32) : IntKind.u8.wrap (x.toNat : Int) = (x.toUInt8.toNat : Int) := by
  rw [IntKind.wrap_u8', UInt32.toNat_toUInt8]; simp
theorem wrap_u8_u64 (x : UInt64) : IntKind.u8.wrap (x.toNat : Int) = (x.toUInt8.toNat : Int) := by
  rw [IntKind.wrap_u8', UInt64.toNat_toUInt8]; simp
theorem wrap_u32_u8 (x : UInt8) : IntKind.u32.wrap (x.toNat : Int) = (x.toUInt32.toNat : Int) := by
  rw [IntKind.wrap_u32', UInt8.toNat_toUInt32]; have := u8_lt x; omega
theorem wrap_u32_u32 (x : UInt32) : IntKind.u32.wrap (x.toNat : Int) = (x.toNat : Int) := by rw [IntKind.wrap_u32']; have := u32_lt x; omega
theorem wrap_u32_u64 (x : UInt64) : IntKind.u32.wrap (x.toNat : Int) = (x.toUInt32.toNat : Int) := by
  rw [IntKind.wrap_u32', UInt64.toNat_toUInt32]; simp
theorem wrap_u64 (n : Int) : IntKind.u64.wrap n = n % 18446744073709551616 := by simp [IntKind.wrap, IntKind.bits, IntKind.signed]
theorem wrap_i64 (n : Int) : IntKind.i64.wrap n = (n + 9223372036854775808) % 18446744073709551616 - 9223372036854775808 := by
  simp [IntKind.wrap, IntKind.bits, IntKind.signed]
  omega
theorem wrap_u64_u8 (x : UInt8) : IntKind.u64.wrap (x.toNat : Int) = (x.toUInt64.toNat : Int) := by
  rw [wrap_u64, UInt8.toNat_toUInt64]; have := u8_lt x; omega
theorem wrap_u64_u32 (x : UInt32) : IntKind.u64.wrap (x.toNat : Int) = (x.toUInt64.toNat : Int) := by
  rw [wrap_u64, UInt32.toNat_toUInt64]; have := u32_lt x; omega
theorem wrap_u64_u64 (x : UInt64) : IntKind.u64.wrap (x.toNat : Int) = (x.toNat : Int) := by rw [wrap_u64]; have := u64_lt x; omega
theorem wrap_i64_u8 (x : UInt8) : IntKind.i64.wrap (x.toNat : Int) = (x.toNat : Int) := by rw [wrap_i64]; have := u8_lt x; omega
theorem wrap_i64_u32 (x : UInt32) : IntKind.i64.wrap (x.toNat : Int) = (x.toNat : Int) := by rw [wrap_i64]; have := u32_lt x; omega

/-! bits -/
theorem and_u8 (a b : UInt8) : bits .and .u8 (a.toNat : Int) (b.toNat : Int) = ((a &&& b).toNat : Int) := by rw [u8_and_nat _ _ (u8_lt a) (u8_lt b), UInt8.toNat_and]
theorem or_u8 (a b : UInt8) : bits .or .u8 (a.toNat : Int) (b.toNat : Int) = ((a ||| b).toNat : Int) := by rw [u8_or_nat _ _ (u8_lt a) (u8_lt b), UInt8.toNat_or]
theorem xor_u8 (a b : UInt8) : bits .xor .u8 (a.toNat : Int) (b.toNat : Int) = ((a ^^^ b).toNat : Int) := by rw [u8_xor_nat _ _ (u8_lt a) (u8_lt b), UInt8.toNat_xor]
theorem and_u32 (a b : UInt32) : bits .and .u32 (a.toNat : Int) (b.toNat : Int) = ((a &&& b).toNat : Int) := by rw [u32_and_nat _ _ (u32_lt a) (u32_lt b), UInt32.toNat_and]
theorem or_u32 (a b : UInt32) : bits .or .u32 (a.toNat : Int) (b.toNat : Int) = ((a ||| b).toNat : Int) := by rw [u32_or_nat _ _ (u32_lt a) (u32_lt b), UInt32.toNat_or]
theorem xor_u32 (a b : UInt32) : bits .xor .u32 (a.toNat : Int) (b.toNat : Int) = ((a ^^^ b).toNat : Int) := by rw [u32_xor_nat _ _ (u32_lt a) (u32_lt b), UInt32.toNat_xor]
theorem and_u64 (a b : UInt64) : bits .and .u64 (a.toNat : Int) (b.toNat : Int) = ((a &&& b).toNat : Int) := by rw [u64_and_nat _ _ (u64_lt a) (u64_lt b), UInt64.toNat_and]
theorem or_u64 (a b : UInt64) : bits .or .u64 (a.toNat : Int) (b.toNat : Int) = ((a ||| b).toNat : Int) := by rw [u64_or_nat _ _ (u64_lt a) (u64_lt b), UInt64.toNat_or]
theorem xor_u64 (a b : UInt64) : bits .xor .u64 (a.toNat : Int) (b.toNat : Int) = ((a ^^^ b).toNat : Int) := by rw [u64_xor_nat _ _ (u64_lt a) (u64_lt b), UInt64.toNat_xor]

/-! shifts by a literal -/
theorem shr_u32 (a : UInt32) (k : Nat) (hk : k < 32) : ((a.toNat : Int)).fdiv (2 ^ k) = ((a >>> (UInt32.ofNat k)).toNat : Int) := by
  have h : (UInt32.ofNat k).toNat % 32 = k := by rw [UInt32.toNat_ofNat']; omega
  rw [UInt32.toNat_shiftRight, h, Nat.shiftRight_eq_div_pow, Int.fdiv_eq_ediv_of_nonneg _ (by exact Int.le_of_lt (Int.pow_pos (by decide)))]
  simp
theorem shr_u64 (a : UInt64) (k : Nat) (hk : k < 64) : ((a.toNat : Int)).fdiv (2 ^ k) = ((a >>> (UInt64.ofNat k)).toNat : Int) := by
  have h : (UInt64.ofNat k).toNat % 64 = k := by rw [UInt64.toNat_ofNat']; omega
  rw [UInt64.toNat_shiftRight, h, Nat.shiftRight_eq_div_pow, Int.fdiv_eq_ediv_of_nonneg _ (by exact Int.le_of_lt (Int.pow_pos (by decide)))]
  simp
theorem not_u32 (a : UInt32) : IntKind.u32.wrap (-(a.toNat : Int) - 1) = ((~~~a).toNat : Int) := by
  have := u32_lt a
  rw [IntKind.wrap_u32', UInt32.toNat_not]; simp only [UInt32.size]; omega
theorem not_u64 (a : UInt64) : IntKind.u64.wrap (-(a.toNat : Int) - 1) = ((~~~a).toNat : Int) := by
  have := u64_lt a
  rw [wrap_u64, UInt64.toNat_not]; simp only [UInt64.size]; omega
theorem mul_u32 (a b : UInt32) : IntKind.u32.wrap ((a.toNat : Int) * (b.toNat : Int)) = ((a * b).toNat : Int) := by
  rw [IntKind.wrap_u32', UInt32.toNat_mul]; simp
theorem mul_u64 (a b : UInt64) : IntKind.u64.wrap ((a.toNat : Int) * (b.toNat : Int)) = ((a * b).toNat : Int) := by
  rw [wrap_u64, UInt64.toNat_mul]; simp
theorem add_u32 (a b : UInt32) : IntKind.u32.wrap ((a.toNat : Int) + (b.toNat : Int)) = ((a + b).toNat : Int) := by
  rw [IntKind.wrap_u32', UInt32.toNat_add]; simp
theorem add_u64 (a b : UInt64) : IntKind.u64.wrap ((a.toNat : Int) + (b.toNat : Int)) = ((a + b).toNat : Int) := by
  rw [wrap_u64, UInt64.toNat_add]; simp

theorem compl_u32 (a : UInt32) : bits .xor .u32 IntKind.u32.max (a.toNat : Int) = ((~~~a).toNat : Int) := by
  have h : (-1 : UInt32) ^^^ a = ~~~a := by rw [UInt32.xor_comm, UInt32.xor_neg_one]
  rw [← h, ← xor_u32]; rfl
theorem compl_u64 (a : UInt64) : bits .xor .u64 IntKind.u64.max (a.toNat : Int) = ((~~~a).toNat : Int) := by
  have h : (-1 : UInt64) ^^^ a = ~~~a := by rw [UInt64.xor_comm, UInt64.xor_neg_one]
  rw [← h, ← xor_u64]; rfl

/-! in the walk's own forms: a conversion to uint8 is '% 256', a shift is a division -/
theorem mod_u8_u32 (x : UInt32) : (x.toNat : Int) % 256 = (x.toUInt8.toNat : Int) := by rw [← wrap_u8_u32, IntKind.wrap_u8']
theorem mod_u8_u64 (x : UInt64) : (x.toNat : Int) % 256 = (x.toUInt8.toNat : Int) := by rw [← wrap_u8_u64, IntKind.wrap_u8']
theorem div_u32 (x : UInt32) (k : Nat) (hk : k < 32) (d : Int) (hd : d = 2 ^ k) : (x.toNat : Int) / d = ((x >>> UInt32.ofNat k).toNat : Int) := by
  rw [hd, ← shr_u32 x k hk, Int.fdiv_eq_ediv_of_nonneg _ (by exact Int.le_of_lt (Int.pow_pos (by decide)))]
theorem div_u64 (x : UInt64) (k : Nat) (hk : k < 64) (d : Int) (hd : d = 2 ^ k) : (x.toNat : Int) / d = ((x >>> UInt64.ofNat k).toNat : Int) := by
  rw [hd, ← shr_u64 x k hk, Int.fdiv_eq_ediv_of_nonneg _ (by exact Int.le_of_lt (Int.pow_pos (by decide)))]
end Go.Proofs.Ytpoicbhbkabllaa
