/- a nil reader; palmerlaw03.awake -/
import Derived.Test.YteakeefocnjlhaaVarMore
namespace Go.Proofs.Yteakeefocnjlhaa
set_option linter.unusedSimpArgs false
set_option linter.unusedVariables false
open Go.RowKit

set_option maxRecDepth 100000 in
set_option maxHeartbeats 800000 in
theorem nnum_any (w : World) (most : Nat) (hm : most < 18446744073709551616) : Calls Try.prog 22 #[.pointer none, .int .u64 (most : Int)] w fun ev w' => ev = .returned (.int .u64 0) ∧ w = w' := by
  go_enter Try.func22, Try.ntmps22
  go_wp2_with fail
  go_ret
  exact ⟨rfl, rfl⟩
set_option maxRecDepth 100000 in
set_option maxHeartbeats 800000 in
theorem nsigned_any (w : World) : Calls Try.prog 28 #[.pointer none] w fun ev w' => ev = .returned (.int .i64 0) ∧ w = w' := by
  have hn := nnum_any w 18446744073709551615 (by decide)
  rw [show (((18446744073709551615 : Nat) : Int)) = 18446744073709551615 from rfl] at hn
  have hand := and1_u64 0 (by decide)
  have hx0 := xor0_i64 0 (by omega) (by omega)
  simp at hand
  go_enter Try.func28, Try.ntmps28
  go_wp2_with fail
  refine hn.mono ?_
  rintro _ _ ⟨rfl, rfl⟩
  go_wp2_with fail
  go_ret
  exact ⟨rfl, rfl⟩
set_option maxRecDepth 100000 in
set_option maxHeartbeats 800000 in
theorem nbytes_any (w : World) (n : Int) : Calls Try.prog 29 #[.pointer none, .int .i64 n] w fun ev w' => ev = .returned (.slice none 0 0) ∧ w = w' := by
  go_enter Try.func29, Try.ntmps29
  go_wp2_with fail
  go_ret
  exact ⟨rfl, rfl⟩
set_option maxRecDepth 100000 in
set_option maxHeartbeats 800000 in
theorem nleft_any (w : World) : Calls Try.prog 30 #[.pointer none] w fun ev w' => ev = .returned (.int .i64 0) ∧ w = w' := by
  go_enter Try.func30, Try.ntmps30
  go_wp2_with fail
  go_ret
  exact ⟨rfl, rfl⟩
set_option maxRecDepth 100000 in
set_option maxHeartbeats 800000 in
theorem nerr_any (w : World) : Calls Try.prog 31 #[.pointer none] w fun ev w' => ev = .returned (.int .i64 0) ∧ w = w' := by
  go_enter Try.func31, Try.ntmps31
  go_wp2_with fail
  go_ret
  exact ⟨rfl, rfl⟩
set_option maxRecDepth 100000 in
set_option maxHeartbeats 800000 in
theorem nend_any (w : World) : Calls Try.prog 23 #[.pointer none] w fun ev w' => ev = .returned (.int .i64 0) ∧ w = w' := by
  go_enter Try.func23, Try.ntmps23
  go_wp2_with fail
  refine (nleft_any w).mono ?_
  rintro _ _ ⟨rfl, rfl⟩
  go_wp2_with fail
  refine (nerr_any w).mono ?_
  rintro _ _ ⟨rfl, rfl⟩
  go_wp2_with fail
  go_ret
  exact ⟨rfl, rfl⟩
theorem vput300 : vput 300 = [172, 2] := by
  rw [vput_ge (by decide), vput_lt (by decide)]
  rfl
set_option maxRecDepth 100000 in
set_option maxHeartbeats 800000 in
theorem awake03 (w : World) : Calls Try.prog 20 #[] w fun e w' => e = .returned (.bool true) ∧ Below w.heap.size w w' := by
  have hp := vput_any w w.heap.size (.slice none 0 0) [] (Ow.nil_ _ _) 300 (by decide) (by simp) (Nat.le_refl _)
  rw [vput300, List.nil_append, show ((300 : Nat) : Int) = 300 from rfl] at hp
  have hs : bst [172, 2] = { data := #[172, 2] } := rfl
  have Hp := Lib.hid hp
  clear hp
  go_enter Try.func20, Try.ntmps20
  go_wp2_with fail
  refine Hp.out.mono ?_
  rintro _ w1 ⟨v1, rfl, hown1, hext1⟩
  have hc := conv8 hown1.by_
  rw [hs] at hc
  go_wp2_with fail
  go_ret
  exact ⟨rfl, hext1.below (Nat.le_refl _) (by simp [Value.ownBlock])⟩
end Go.Proofs.Yteakeefocnjlhaa
