/- frame in plain Lean: a section's bytes, what is read of bytes -/
import Derived.Test.YtpoicbhbkabllaaPagePure
namespace Go.Proofs.Ytpoicbhbkabllaa
set_option linter.unusedSimpArgs false
set_option linter.unusedVariables false
open Go.RowKit

/-- a section's bytes -/
def frameOf (k : UInt8) (l : List UInt8) : List UInt8 := markOf (k :: four (UInt32.ofNat l.length)) ++ markOf l
theorem frameOf_length (k : UInt8) (l : List UInt8) : (frameOf k l).length = l.length + 13 := by
  simp [frameOf, markOf_length, four_length]; omega
/-- the length that the head tells -/
def sLen (b : List UInt8) : Nat := (b.getD 1 0).toNat + 256 * (b.getD 2 0).toNat + 65536 * (b.getD 3 0).toNat + 16777216 * (b.getD 4 0).toNat
def sE (b : List UInt8) : Int :=
  if b.length < 9 then 2 else if fitsB (b.take 9) = false then 5 else if 1048576 < sLen b then 4 else if b.length < sLen b + 13 then 2
  else if fitsB ((b.drop 9).take (sLen b + 4)) then 0 else 5
def sL (b : List UInt8) : List UInt8 := if sE b = 0 then (b.drop 9).take (sLen b) else []
def sN (b : List UInt8) : Nat := if sE b = 0 then sLen b + 13 else 0
def sK (b : List UInt8) : UInt8 := if sE b = 0 then b.getD 0 0 else 0

theorem sLen_lt (b : List UInt8) : sLen b < 4294967296 := by
  have h1 := u8_lt (b.getD 1 0)
  have h2 := u8_lt (b.getD 2 0)
  have h3 := u8_lt (b.getD 3 0)
  have h4 := u8_lt (b.getD 4 0)
  unfold sLen
  omega

/-- the head's five bytes -/
theorem frameOf_eq (k : UInt8) (l : List UInt8) : frameOf k l = k :: four (UInt32.ofNat l.length) ++ (four (crcOf (k :: four (UInt32.ofNat l.length))) ++ markOf l) := by
  simp [frameOf, markOf]
theorem sLen_frame (k : UInt8) (l t : List UInt8) (h : l.length < 4294967296) : sLen (frameOf k l ++ t) = l.length := by
  rw [frameOf_eq]
  show (UInt32.ofNat l.length).toUInt8.toNat + 256 * ((UInt32.ofNat l.length) >>> 8).toUInt8.toNat + 65536 * ((UInt32.ofNat l.length) >>> 16).toUInt8.toNat + 16777216 * ((UInt32.ofNat l.length) >>> 24).toUInt8.toNat = l.length
  have e : (UInt32.ofNat l.length).toNat = l.length := by rw [UInt32.toNat_ofNat']; omega
  generalize UInt32.ofNat l.length = x at *
  have h0 := mod_u8_u32 x
  have h1 := fourAt1 x
  have h2 := fourAt2 x
  have h3 := fourAt3 x
  simp only [fourAt, four, List.getD_cons_zero, List.getD_cons_succ] at h1 h2 h3
  omega
theorem take9_frame (k : UInt8) (l t : List UInt8) : (frameOf k l ++ t).take 9 = markOf (k :: four (UInt32.ofNat l.length)) := by
  unfold frameOf
  rw [List.append_assoc, List.take_left' (by simp [markOf_length, four_length])]
theorem drop9_frame (k : UInt8) (l t : List UInt8) : (frameOf k l ++ t).drop 9 = markOf l ++ t := by
  unfold frameOf
  rw [List.append_assoc, List.drop_left' (by simp [markOf_length, four_length])]
theorem sE_frame (k : UInt8) (l t : List UInt8) (h : l.length ≤ 1048576) : sE (frameOf k l ++ t) = 0 := by
  have hn := sLen_frame k l t (by omega)
  have hl : (frameOf k l ++ t).length = l.length + 13 + t.length := by simp [frameOf_length]
  unfold sE
  rw [hn, take9_frame, drop9_frame, fitsB_mark, if_neg (by omega), if_neg (by simp), if_neg (by omega), if_neg (by omega), List.take_left' (by simp [markOf_length]), fitsB_mark]
  rfl
theorem sL_frame (k : UInt8) (l t : List UInt8) (h : l.length ≤ 1048576) : sL (frameOf k l ++ t) = l := by
  unfold sL
  rw [if_pos (sE_frame k l t h), sLen_frame k l t (by omega), drop9_frame]
  simp [markOf]
theorem sN_frame (k : UInt8) (l t : List UInt8) (h : l.length ≤ 1048576) : sN (frameOf k l ++ t) = l.length + 13 := by
  unfold sN
  rw [if_pos (sE_frame k l t h), sLen_frame k l t (by omega)]
theorem sK_frame (k : UInt8) (l t : List UInt8) (h : l.length ≤ 1048576) : sK (frameOf k l ++ t) = k := by
  unfold sK
  rw [if_pos (sE_frame k l t h), frameOf_eq]
  rfl

/-! ### bits at int -/
theorem ofInt_i64 (a : Nat) (ha : a < 9223372036854775808) : (BitVec.ofInt 64 (a : Int)).toNat = a := by
  rw [BitVec.ofInt_natCast, BitVec.toNat_ofNat]; exact Nat.mod_eq_of_lt (by omega)
theorem or_i64 (a b : Nat) (ha : a < 9223372036854775808) (hb : b < 9223372036854775808) : bits .or .i64 (a : Int) (b : Int) = ((a ||| b : Nat) : Int) := by
  have hx : a ||| b < 2 ^ 63 := Nat.or_lt_two_pow (by omega) (by omega)
  show IntKind.i64.wrap ((BitVec.ofInt 64 (a : Int) ||| BitVec.ofInt 64 (b : Int)).toNat : Int) = _
  rw [BitVec.toNat_or, ofInt_i64 a ha, ofInt_i64 b hb, wrap_i64]
  omega
theorem or_add (k a b : Nat) (ha : a < 2 ^ k) : a ||| (2 ^ k * b) = a + 2 ^ k * b := by
  rw [Nat.or_comm, Nat.add_comm, Nat.two_pow_add_eq_or_of_lt ha]
theorem or_i64_add (a c : Int) (k b : Nat) (n : Nat) (hn : a = (n : Int)) (hc : c = ((2 ^ k * b : Nat) : Int)) (ha : n < 2 ^ k) (h1 : n < 9223372036854775808) (h2 : 2 ^ k * b < 9223372036854775808) :
    bits .or .i64 a c = ((n + 2 ^ k * b : Nat) : Int) := by
  rw [hn, hc, or_i64 _ _ h1 h2, or_add _ _ _ ha]
/-- the head's length as frame.Get reads it -/
theorem head_or (a b c d : UInt8) :
    bits .or .i64 (bits .or .i64 (bits .or .i64 (a.toNat : Int) ((b.toNat : Int) * 256)) ((c.toNat : Int) * 65536)) ((d.toNat : Int) * 16777216)
      = ((a.toNat + 256 * b.toNat + 65536 * c.toNat + 16777216 * d.toNat : Nat) : Int) := by
  have h1 := u8_lt a
  have h2 := u8_lt b
  have h3 := u8_lt c
  have h4 := u8_lt d
  rw [or_i64_add (a.toNat : Int) _ 8 b.toNat a.toNat rfl (by omega) (by omega) (by omega) (by omega),
    or_i64_add _ _ 16 c.toNat (a.toNat + 2 ^ 8 * b.toNat) rfl (by omega) (by omega) (by omega) (by omega),
    or_i64_add _ _ 24 d.toNat (a.toNat + 2 ^ 8 * b.toNat + 2 ^ 16 * c.toNat) rfl (by omega) (by omega) (by omega) (by omega)]
end Go.Proofs.Ytpoicbhbkabllaa
