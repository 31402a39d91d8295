/- a head that tells of too many bytes -/
import Derived.Test.YtneihfmacljjbaaFramePure
namespace Go.Proofs.Ytneihfmacljjbaa
set_option linter.unusedSimpArgs false
set_option linter.unusedVariables false
open Go.RowKit

theorem sLen_head (k : UInt8) (n : Nat) (t : List UInt8) (h : n < 4294967296) : sLen (k :: four (UInt32.ofNat n) ++ t) = n := by
  show (UInt32.ofNat n).toUInt8.toNat + 256 * ((UInt32.ofNat n) >>> 8).toUInt8.toNat + 65536 * ((UInt32.ofNat n) >>> 16).toUInt8.toNat + 16777216 * ((UInt32.ofNat n) >>> 24).toUInt8.toNat = n
  have e : (UInt32.ofNat n).toNat = n := by rw [UInt32.toNat_ofNat']; omega
  generalize UInt32.ofNat n = x at *
  have h0 := mod_u8_u32 x
  have h1 := fourAt1 x
  have h2 := fourAt2 x
  have h3 := fourAt3 x
  simp only [fourAt, four, List.getD_cons_zero, List.getD_cons_succ] at h1 h2 h3
  omega
theorem sE_big (k : UInt8) (n : Nat) (t : List UInt8) (h : n < 4294967296) (hn : 1048576 < n) : sE (markOf (k :: four (UInt32.ofNat n)) ++ t) = 4 := by
  have hl : (markOf (k :: four (UInt32.ofNat n))).length = 9 := by rw [markOf_length]; rfl
  have ht : (markOf (k :: four (UInt32.ofNat n)) ++ t).take 9 = markOf (k :: four (UInt32.ofNat n)) := by rw [List.take_left' hl]
  have hs : sLen (markOf (k :: four (UInt32.ofNat n)) ++ t) = n := by
    have : markOf (k :: four (UInt32.ofNat n)) ++ t = k :: four (UInt32.ofNat n) ++ (four (crcOf (k :: four (UInt32.ofNat n))) ++ t) := by simp [markOf]
    rw [this, sLen_head _ _ _ h]
  unfold sE
  rw [hs, ht, fitsB_mark, if_neg (by simp [hl]), if_neg (by simp), if_pos hn]
theorem sN_big (k : UInt8) (n : Nat) (t : List UInt8) (h : n < 4294967296) (hn : 1048576 < n) : sN (markOf (k :: four (UInt32.ofNat n)) ++ t) = 0 := by
  unfold sN; rw [sE_big k n t h hn]; rfl
end Go.Proofs.Ytneihfmacljjbaa
