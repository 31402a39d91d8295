/- palmerlaw05.awake returns true -/
import Derived.Test.YtneihfmacljjbaaFrameWalk
namespace Go.Proofs.Ytneihfmacljjbaa
set_option linter.unusedSimpArgs false
set_option linter.unusedVariables false
open Go.RowKit

set_option maxRecDepth 100000 in
set_option maxHeartbeats 800000 in
theorem awake05 (w : World) : Calls Try.prog 29 #[] w fun e w' => e = .returned (.bool true) ∧ Below w.heap.size w w' := by
  have hp := fput_any w w.heap.size (.slice none 0 0) [] (Ow.nil_ _ _) 7 (.slice none 0 0) [] By.nil_ (by simp) (by simp) (Nat.le_refl _)
  rw [show ((((7 : UInt8)).toNat : Nat) : Int) = 7 from rfl, List.nil_append] at hp
  have hl : (frameOf 7 []).length = 13 := frameOf_length _ _
  have h0 : (frameOf 7 [])[0]? = some 7 := rfl
  generalize frameOf 7 [] = f at *
  go_enter Try.func29, Try.ntmps29
  go_wp2_with fail
  refine hp.mono ?_
  rintro e w1 ⟨v1, rfl, hown1, hext1⟩
  have hb := hext1.below (Nat.le_refl _) (by simp [Value.ownBlock])
  obtain ⟨A, c, rfl, hc1, hc2, hf⟩ := hown1.form_
  obtain ⟨g, rfl, hg1, hg2⟩ := hf (by omega)
  have hx := hown1.cell_ rfl 0 7 h0
  rw [show ((((7 : UInt8)).toNat : Nat) : Int) = 7 from rfl] at hx
  rw [hl] at hc1 ⊢
  unfold maxLen at hc2
  clear hp hown1 hext1 h0
  go_wp2_with fail
  go_ret
  exact ⟨rfl, hb⟩
end Go.Proofs.Ytneihfmacljjbaa
