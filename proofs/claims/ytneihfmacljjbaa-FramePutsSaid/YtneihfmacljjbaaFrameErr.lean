/- a section of which one byte is turned isn't read -/
import Derived.Test.YtneihfmacljjbaaFrameBig
import Derived.Test.YtneihfmacljjbaaCrcErr
namespace Go.Proofs.Ytneihfmacljjbaa
set_option linter.unusedSimpArgs false
set_option linter.unusedVariables false
open Go.RowKit

theorem turned_set (l : List UInt8) (i : Nat) (d : UInt8) (hi : i < (markOf l).length) (hd : d ≠ 0) : fitsB ((markOf l).set i ((markOf l).getD i 0 ^^^ d)) = false := by
  have hm : markOf l = (markOf l).take i ++ (markOf l)[i] :: (markOf l).drop (i + 1) := by
    rw [List.getElem_cons_drop hi, List.take_append_drop]
  have hs : (markOf l).set i ((markOf l).getD i 0 ^^^ d) = (markOf l).take i ++ ((markOf l)[i] ^^^ d) :: (markOf l).drop (i + 1) := by
    rw [List.set_eq_take_append_cons_drop, if_pos hi]
    simp [hi]
  rw [hs]
  exact turned_byte l _ _ _ d hm hd

theorem getD_left (a b : List UInt8) (i : Nat) (h : i < a.length) : (a ++ b).getD i 0 = a.getD i 0 := by
  rw [List.getD_eq_getElem?_getD, List.getD_eq_getElem?_getD, List.getElem?_append_left h]
theorem getD_right (a b : List UInt8) (i : Nat) (h : a.length ≤ i) : (a ++ b).getD i 0 = b.getD (i - a.length) 0 := by
  rw [List.getD_eq_getElem?_getD, List.getD_eq_getElem?_getD, List.getElem?_append_right h]
theorem sE_turned (k : UInt8) (l more : List UInt8) (i : Nat) (d : UInt8) (h : l.length ≤ 1048576) (hi : i < l.length + 13) (hd : d ≠ 0) :
    sE ((frameOf k l).set i ((frameOf k l).getD i 0 ^^^ d) ++ more) = 5 := by
  have hA : (markOf (k :: four (UInt32.ofNat l.length))).length = 9 := by rw [markOf_length]; rfl
  have hB : (markOf l).length = l.length + 4 := markOf_length l
  unfold frameOf
  rcases Nat.lt_or_ge i 9 with h9 | h9
  · have e1 : (markOf (k :: four (UInt32.ofNat l.length)) ++ markOf l).set i ((markOf (k :: four (UInt32.ofNat l.length)) ++ markOf l).getD i 0 ^^^ d)
        = (markOf (k :: four (UInt32.ofNat l.length))).set i ((markOf (k :: four (UInt32.ofNat l.length))).getD i 0 ^^^ d) ++ markOf l := by
      rw [List.set_append_left _ _ (by omega), getD_left _ _ _ (by omega)]
    have ht := turned_set (k :: four (UInt32.ofNat l.length)) i d (by omega) hd
    rw [e1, List.append_assoc]
    unfold sE
    rw [if_neg (by simp [hA]), List.take_left' (by simp [hA]), ht, if_pos rfl]
  · have e1 : (markOf (k :: four (UInt32.ofNat l.length)) ++ markOf l).set i ((markOf (k :: four (UInt32.ofNat l.length)) ++ markOf l).getD i 0 ^^^ d)
        = markOf (k :: four (UInt32.ofNat l.length)) ++ (markOf l).set (i - 9) ((markOf l).getD (i - 9) 0 ^^^ d) := by
      rw [List.set_append_right _ _ (by omega), getD_right _ _ _ (by omega), hA]
    have ht := turned_set l (i - 9) d (by omega) hd
    rw [e1, List.append_assoc]
    have hs : sLen (markOf (k :: four (UInt32.ofNat l.length)) ++ ((markOf l).set (i - 9) ((markOf l).getD (i - 9) 0 ^^^ d) ++ more)) = l.length := by
      have : markOf (k :: four (UInt32.ofNat l.length)) ++ ((markOf l).set (i - 9) ((markOf l).getD (i - 9) 0 ^^^ d) ++ more) = k :: four (UInt32.ofNat l.length) ++ (four (crcOf (k :: four (UInt32.ofNat l.length))) ++ ((markOf l).set (i - 9) ((markOf l).getD (i - 9) 0 ^^^ d) ++ more)) := by simp [markOf]
      rw [this, sLen_head _ _ _ (by omega)]
    unfold sE
    rw [hs, if_neg (by simp [hA]), List.take_left' hA, fitsB_mark, if_neg (by simp), if_neg (by omega), if_neg (by simp [hA, hB]; omega), List.drop_left' hA, List.take_left' (by simp [hB]), ht]
    rfl
end Go.Proofs.Ytneihfmacljjbaa
