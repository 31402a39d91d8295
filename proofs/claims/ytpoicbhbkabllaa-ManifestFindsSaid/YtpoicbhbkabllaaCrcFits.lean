/- crc.Fits: bytes without their check, or the error. The row is a readable slice of at most 2^40 bytes. -/
import Derived.Test.YtpoicbhbkabllaaEqual8
import Derived.Test.YtpoicbhbkabllaaCrcMark
namespace Go.Proofs.Ytpoicbhbkabllaa
set_option linter.unusedSimpArgs false
set_option linter.unusedVariables false
open Go.RowKit

def fitsB (l : List UInt8) : Bool := decide (4 ≤ l.length ∧ markOf (l.take (l.length - 4)) = l)
def fitsL (l : List UInt8) : List UInt8 := if fitsB l then l.take (l.length - 4) else []
def fitsE (l : List UInt8) : Int := if l.length < 4 then 2 else if fitsB l then 0 else 5

theorem fitsB_mark (l : List UInt8) : fitsB (markOf l) = true := by
  have h : (markOf l).take ((markOf l).length - 4) = l := by rw [markOf_length]; simp [markOf]
  unfold fitsB
  rw [h, markOf_length]
  simp
theorem fitsE_mark (l : List UInt8) : fitsE (markOf l) = 0 := by
  unfold fitsE; rw [fitsB_mark, if_neg (by rw [markOf_length]; omega)]; rfl
theorem fitsL_mark (l : List UInt8) : fitsL (markOf l) = l := by
  unfold fitsL; rw [fitsB_mark, if_pos rfl, markOf_length]; simp [markOf]

set_option maxRecDepth 100000 in
set_option maxHeartbeats 800000 in
theorem fits_any (w : World) (v : Value) (l : List UInt8) (hby : By w w.heap.size v l) (hsz : l.length ≤ 1099511627776) :
    Calls Try.prog 81 #[v] w fun e w' => ∃ v', e = .returned (.tuple #[v', .int .i64 (fitsE l)]) ∧ Ow w' w.heap.size v' (fitsL l) ∧ Below w.heap.size w w' := by
  have hby0 := hby
  obtain ⟨A, c, rfl, hc1, hc2, hrd⟩ := hby
  unfold maxLen at hc2
  by_cases h4 : l.length < 4
  · have hE : fitsE l = 2 := by simp [fitsE, h4]
    have hL : fitsL l = [] := by
      have : fitsB l = false := by simp [fitsB]; omega
      simp [fitsL, this]
    rw [hE, hL]
    clear hE hL
    go_enter Try.func81, Try.ntmps81
    go_wp2_with fail
    go_ret2
    exact ⟨_, rfl, Ow.nil_ _ _, Below.refl _ _⟩
  · have hown : By w w.heap.size (.slice A (l.length - 4) c) (l.take (l.length - 4)) := by
      refine ⟨A, c, by simp, by simp; omega, hc2, ?_⟩
      have := hrd.front (k := l.length - 4) (by omega)
      simpa [b8s, List.map_take] using this
    have hlt : (l.take (l.length - 4)).length = l.length - 4 := by simp
    have HE : Hid (fitsE l = if markOf (l.take (l.length - 4)) = l then 0 else 5) := by
      unfold Hid fitsE fitsB
      rw [if_neg h4]
      by_cases hm : markOf (l.take (l.length - 4)) = l
      · rw [if_pos (by simp [hm]; omega), if_pos hm]
      · rw [if_neg (by simp [hm]), if_neg hm]
    have HL : Hid (fitsL l = if markOf (l.take (l.length - 4)) = l then l.take (l.length - 4) else []) := by
      unfold Hid fitsL fitsB
      by_cases hm : markOf (l.take (l.length - 4)) = l
      · rw [if_pos (by simp [hm]; omega), if_pos hm]
      · rw [if_neg (by simp [hm]), if_neg hm]
    have Hlt := Lib.hid hlt
    clear hlt
    generalize fitsE l = E at *
    generalize fitsL l = L at *
    generalize l.take (l.length - 4) = l0 at *
    by_cases hm : markOf l0 = l
    all_goals
      go_enter Try.func81, Try.ntmps81
      go_wp2_with fail
      refine (clone8 _ _ l0 hown (by rw [Hlt.out]; omega)).mono ?_
      rintro e w1 ⟨v1, rfl, hown1, hb1⟩
      go_wp2_with fail
      refine (mark_any _ _ l0 hown1.by_ (by rw [Hlt.out]; omega)).mono ?_
      rintro e w2 ⟨v2, rfl, hown2, hb2⟩
      have hb02 := bstep hb1 hb2
      go_wp2_with fail
      refine (equal8 _ _ _ _ _ _ _ hown2.by_ (hby0.below hb02)).mono ?_
      rintro e w3 ⟨rfl, hb3⟩
    · rw [decide_eq_true hm]
      have Hm := Lib.hid hm
      clear hm
      go_wp2_with fail
      go_ret2
      refine ⟨v1, by rw [HE.out, if_pos Hm.out]; rfl, ?_, bstep hb02 hb3⟩
      rw [HL.out, if_pos Hm.out]
      exact (hown1.below_ hb2).below_ hb3
    · rw [decide_eq_false hm]
      have Hm := Lib.hid hm
      clear hm
      go_wp2_with fail
      go_ret2
      refine ⟨_, by rw [HE.out, if_neg Hm.out]; rfl, ?_, bstep hb02 hb3⟩
      rw [HL.out, if_neg Hm.out]
      exact Ow.nil_ _ _
end Go.Proofs.Ytpoicbhbkabllaa
