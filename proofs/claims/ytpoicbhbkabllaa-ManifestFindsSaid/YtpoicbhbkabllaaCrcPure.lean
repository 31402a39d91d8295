/- The cyclic redundancy check in plain Lean: the table's way and the bit's way are one. No condition. -/
import Derived.WalkKit
namespace Go.Proofs.Ytpoicbhbkabllaa
set_option linter.unusedSimpArgs false
set_option linter.unusedVariables false

def poly : UInt32 := 3988292384
/-- one bit -/
def stp (x : UInt32) : UInt32 := (x >>> 1) ^^^ (poly * (x &&& 1))
def stps : Nat → UInt32 → UInt32
  | 0, x => x
  | n + 1, x => stps n (stp x)
theorem stps_succ (n : Nat) (x : UInt32) : stps (n + 1) x = stp (stps n x) := by
  induction n generalizing x with
  | zero => rfl
  | succ n ih => rw [stps, ih]; rfl
theorem stps_add (m n : Nat) (x : UInt32) : stps (m + n) x = stps n (stps m x) := by
  induction m generalizing x with
  | zero => simp [stps]
  | succ m ih => rw [Nat.succ_add, stps, ih]; rfl
/-- the table -/
def tabN (i : Nat) : UInt32 := stps 8 (UInt32.ofNat i)
/-- one byte, by the table -/
def upd (x : UInt32) (c : UInt8) : UInt32 := tabN (x.toUInt8 ^^^ c).toNat ^^^ (x >>> 8)
/-- one byte, bit by bit -/
def updB (x : UInt32) (c : UInt8) : UInt32 := stps 8 (x ^^^ c.toUInt32)
def run (x : UInt32) (l : List UInt8) : UInt32 := l.foldl upd x
def crcOf (l : List UInt8) : UInt32 := ~~~ (run 4294967295 l)
theorem run_append (x : UInt32) (a b : List UInt8) : run x (a ++ b) = run (run x a) b := by simp [run]
theorem run_snoc (x : UInt32) (a : List UInt8) (c : UInt8) : run x (a ++ [c]) = upd (run x a) c := by simp [run]

/-! it is linear -/
theorem bit0 (x : UInt32) : x &&& 1 = 0 ∨ x &&& 1 = 1 := by
  have h : (x &&& 1).toNat = x.toNat % 2 := by rw [UInt32.toNat_and]; exact Nat.and_one_is_mod _
  rcases Nat.mod_two_eq_zero_or_one x.toNat with e | e
  · left; apply UInt32.toNat_inj.1; rw [h, e]; rfl
  · right; apply UInt32.toNat_inj.1; rw [h, e]; rfl
theorem stp_xor (a b : UInt32) : stp (a ^^^ b) = stp a ^^^ stp b := by
  have hs : (a ^^^ b) >>> 1 = (a >>> 1) ^^^ (b >>> 1) := by
    apply UInt32.toNat_inj.1
    simp [UInt32.toNat_shiftRight, UInt32.toNat_xor, Nat.shiftRight_xor_distrib]
  have hb : (a ^^^ b) &&& 1 = (a &&& 1) ^^^ (b &&& 1) := by
    apply UInt32.toNat_inj.1
    rw [UInt32.toNat_and, UInt32.toNat_xor, UInt32.toNat_xor, UInt32.toNat_and, UInt32.toNat_and, Nat.and_xor_distrib_right]
  unfold stp
  rw [hs, hb]
  rcases bit0 a with ha | ha <;> rcases bit0 b with hb' | hb' <;> rw [ha, hb']
  · simp
  · simp [UInt32.xor_assoc]
  · simp only [UInt32.xor_zero, UInt32.mul_zero, UInt32.mul_one]
    rw [UInt32.xor_assoc, UInt32.xor_assoc, UInt32.xor_comm (b >>> 1)]
  · have : poly * (1 ^^^ 1 : UInt32) = 0 := by decide
    rw [this]
    simp only [UInt32.mul_one, UInt32.xor_zero]
    rw [UInt32.xor_assoc, UInt32.xor_comm poly, UInt32.xor_assoc (b >>> 1), UInt32.xor_self, UInt32.xor_zero]
theorem stps_xor (n : Nat) (a b : UInt32) : stps n (a ^^^ b) = stps n a ^^^ stps n b := by
  induction n generalizing a b with
  | zero => rfl
  | succ n ih => rw [stps, stp_xor, ih]; rfl
theorem stps_zero (n : Nat) : stps n 0 = 0 := by
  induction n with
  | zero => rfl
  | succ n ih => rw [stps, show stp 0 = 0 from by decide, ih]
/-- bits above the lowest eight are moved down -/
theorem stp_even (x : UInt32) (h : x.toNat % 2 = 0) : stp x = x >>> 1 := by
  have : x &&& 1 = 0 := by
    apply UInt32.toNat_inj.1
    rw [UInt32.toNat_and, show (1 : UInt32).toNat = 1 from rfl, Nat.and_one_is_mod, h]; rfl
  simp [stp, this]
theorem stps_high (n : Nat) (x : UInt32) (h : x.toNat % 2 ^ n = 0) (hn : n ≤ 8) : (stps n x).toNat = x.toNat / 2 ^ n := by
  induction n generalizing x with
  | zero => simp [stps]
  | succ n ih =>
    have h2 : x.toNat % 2 = 0 := by
      have := Nat.mod_mod_of_dvd x.toNat (show 2 ∣ 2 ^ (n + 1) from ⟨2 ^ n, by rw [Nat.pow_succ, Nat.mul_comm]⟩)
      rw [h] at this; simpa using this.symm
    have e : (x >>> 1).toNat = x.toNat / 2 := by simp [UInt32.toNat_shiftRight, Nat.shiftRight_eq_div_pow]
    rw [stps, stp_even x h2, ih (x >>> 1) (by
      rw [e]
      have : x.toNat = 2 * (x.toNat / 2) := by omega
      rw [this, Nat.pow_succ, Nat.mul_comm (2 ^ n), Nat.mul_mod_mul_left] at h
      omega) (by omega), e, Nat.div_div_eq_div_mul, Nat.pow_succ, Nat.mul_comm 2]
theorem upd_bits (x : UInt32) (c : UInt8) : upd x c = updB x c := by
  have hx : x ^^^ c.toUInt32 = ((x.toUInt8 ^^^ c).toUInt32) ^^^ (x &&& 4294967040) := by
    apply UInt32.toNat_inj.1
    apply Nat.eq_of_testBit_eq
    intro i
    simp only [UInt32.toNat_xor, UInt8.toNat_toUInt32, UInt8.toNat_xor, UInt32.toNat_toUInt8, UInt32.toNat_and, Nat.testBit_xor, Nat.testBit_and]
    rw [Nat.testBit_mod_two_pow]
    have hm : (4294967040 : UInt32).toNat = (2 ^ 24 - 1) * 2 ^ 8 := rfl
    rw [hm, Nat.testBit_mul_two_pow, Nat.testBit_two_pow_sub_one]
    by_cases h : i < 8
    · have h8 : ¬ 8 ≤ i := by omega
      simp [h, h8]
    · have h8 : 8 ≤ i := by omega
      have hc : c.toNat.testBit i = false := Nat.testBit_lt_two_pow (Nat.lt_of_lt_of_le c.toNat_lt (Nat.pow_le_pow_right (by omega) h8))
      by_cases h32 : i < 32
      · have : i - 8 < 24 := by omega
        simp [h, h8, hc, this]
      · have hxx : x.toNat.testBit i = false := Nat.testBit_lt_two_pow (Nat.lt_of_lt_of_le x.toNat_lt (Nat.pow_le_pow_right (by omega) (by omega)))
        simp [h, hc, hxx]
  have hl : (x &&& 4294967040).toNat = x.toNat / 256 * 256 := by
    apply Nat.eq_of_testBit_eq
    intro i
    rw [UInt32.toNat_and, Nat.testBit_and]
    have hm : (4294967040 : UInt32).toNat = (2 ^ 24 - 1) * 2 ^ 8 := rfl
    rw [hm, show (256 : Nat) = 2 ^ 8 from rfl, Nat.testBit_mul_two_pow, Nat.testBit_mul_two_pow, Nat.testBit_two_pow_sub_one, Nat.testBit_div_two_pow]
    by_cases h : 8 ≤ i
    · by_cases h32 : i < 32
      · have : i - 8 < 24 := by omega
        simp [h, this]
      · have hxx : x.toNat.testBit i = false := Nat.testBit_lt_two_pow (Nat.lt_of_lt_of_le x.toNat_lt (Nat.pow_le_pow_right (by omega) (by omega)))
        simp [h, hxx]
    · simp [h]
  have hi : stps 8 (x &&& 4294967040) = x >>> 8 := by
    apply UInt32.toNat_inj.1
    rw [stps_high 8 _ (by rw [hl]; simp) (by omega), hl]
    simp [UInt32.toNat_shiftRight, Nat.shiftRight_eq_div_pow]
  unfold updB
  rw [hx, stps_xor, hi]
  unfold upd tabN
  congr 2
  apply UInt32.toNat_inj.1
  rw [UInt32.toNat_ofNat', UInt8.toNat_toUInt32]
  have := (x.toUInt8 ^^^ c).toNat_lt
  omega

theorem crc_example : crcOf [49, 50, 51, 52, 53, 54, 55, 56, 57] = 3421780262 := by decide +kernel

end Go.Proofs.Ytpoicbhbkabllaa
