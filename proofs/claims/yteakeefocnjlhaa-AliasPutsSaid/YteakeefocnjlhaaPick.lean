/- pick.Total, palmerref17.Total, pick.Alias -/
import Derived.Test.YteakeefocnjlhaaAMay2
import Derived.BigQuiet
namespace Go.Proofs.Yteakeefocnjlhaa
set_option linter.unusedSimpArgs false
set_option linter.unusedVariables false
open Go.RowKit

def ptotal (l : List GArc) : Nat := if gmay l = true then gsum l * l.length else 0
theorem gmay_sum {l : List GArc} (h : gmay l = true) : gsum l ≤ 2147483647 := by
  unfold gmay at h
  simp at h
  exact h.2
theorem ptotal_nbrs (l : List GArc) : ptotal l = if nbrs l = true then gsum l * l.length else 0 := by
  unfold ptotal nbrs
  rcases Nat.eq_zero_or_pos l.length with h | h
  · simp [h]
  · simp [h]

set_option maxRecDepth 100000 in
set_option maxHeartbeats 800000 in
theorem ptotal_any (w : World) (B : Nat) (v : Value) (l : List GArc) (hl : l.length ≤ 4294967296) (h : ByA w B v l) (hB : B ≤ w.heap.size) :
    Calls Try.prog 68 #[v] w fun e w' => e = .returned (.int .u64 (ptotal l : Nat)) ∧ Below w.heap.size w w' := by
  obtain ⟨A, c, rfl, hc1, hc2⟩ := h.form
  unfold maxLen at hc2
  have hmy := gmay_any w B _ l hl h hB
  have hsum := fun W h hW => gsum_any W B (.slice A l.length c) l hl h hW
  have Hsum := Lib.hid hsum
  clear hsum
  unfold ptotal
  cases hm : gmay l with
  | false =>
    rw [hm] at hmy
    go_enter Try.func68, Try.ntmps68
    clear hm
    go_wp2_with fail
    refine hmy.mono ?_
    rintro _ w1 ⟨rfl, hb1⟩
    go_wp2_with fail
    go_ret
    exact ⟨rfl, hb1⟩
  | true =>
    have hs := gmay_sum hm
    rw [hm] at hmy
    have hmb : gsum l * l.length ≤ 2147483647 * 4294967296 := Nat.mul_le_mul hs hl
    have hmul : IntKind.u64.wrap ((gsum l : Int) * (l.length : Int)) = ((gsum l * l.length : Nat) : Int) := by
      rw [← Int.natCast_mul, wrap_u64]; omega
    have Hmul := Lib.hid hmul
    clear hmul
    go_enter Try.func68, Try.ntmps68
    clear hm
    go_wp2_with fail
    refine hmy.mono ?_
    rintro _ w1 ⟨rfl, hb1⟩
    go_wp2_with fail
    refine (Hsum.out w1 (h.below (hb1.mono hB)) (Nat.le_trans hB hb1.size)).mono ?_
    rintro _ w2 ⟨rfl, hb2⟩
    have hmul := Hmul.out
    go_wp2_with fail
    go_ret
    exact ⟨by first | rfl | simp, bstep hb1 hb2⟩

set_option maxRecDepth 100000 in
set_option maxHeartbeats 800000 in
theorem rtotal_any (w : World) (B : Nat) (v : Value) (l : List GArc) (hl : l.length ≤ 4294967296) (h : ByA w B v l) :
    Calls Try.prog 48 #[v] w fun e w' => e = .returned (.int .u64 (ptotal l : Nat)) ∧ ∃ q, w' = w.drewN q := by
  obtain ⟨A, c, rfl, hc1, hc2⟩ := h.form
  unfold maxLen at hc2
  have hmy := nbrs_any w B _ l hl h
  have hsum := fun q => rgsum_any (w.drewN q) B (.slice A l.length c) l hl h
  have Hsum := Lib.hid hsum
  clear hsum
  rw [ptotal_nbrs]
  cases hm : nbrs l with
  | false =>
    rw [hm] at hmy
    go_enter Try.func48, Try.ntmps48
    clear hm
    go_wp2_with fail
    refine hmy.mono ?_
    rintro _ _ ⟨rfl, q, rfl⟩
    go_wp2_with fail
    go_ret
    exact ⟨rfl, q, rfl⟩
  | true =>
    have hs : gsum l ≤ 2147483647 := gmay_sum (by unfold nbrs at hm; simp at hm; exact hm.2)
    rw [hm] at hmy
    have hmb : gsum l * l.length ≤ 2147483647 * 4294967296 := Nat.mul_le_mul hs hl
    have hmul : IntKind.u64.wrap ((gsum l : Int) * (l.length : Int)) = ((gsum l * l.length : Nat) : Int) := by
      rw [← Int.natCast_mul, wrap_u64]; omega
    have Hmul := Lib.hid hmul
    clear hmul
    go_enter Try.func48, Try.ntmps48
    clear hm
    go_wp2_with fail
    refine hmy.mono ?_
    rintro _ _ ⟨rfl, q, rfl⟩
    go_wp2_with fail
    refine (Hsum.out q).mono ?_
    rintro _ _ ⟨rfl, rfl⟩
    have hmul := Hmul.out
    go_wp2_with fail
    go_ret
    exact ⟨by first | rfl | simp, q, rfl⟩
end Go.Proofs.Yteakeefocnjlhaa
