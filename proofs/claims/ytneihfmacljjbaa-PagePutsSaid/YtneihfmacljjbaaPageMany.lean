/- page.Many and the document's Many are one function of the size. No condition. -/
import Derived.Test.YtneihfmacljjbaaPageRef
namespace Go.Proofs.Ytneihfmacljjbaa
set_option linter.unusedSimpArgs false
set_option linter.unusedVariables false
open Go.RowKit

def manyOf (n : Int) : Int := if n ≤ 0 then 0 else (n - 1) / 112 + 1
set_option maxHeartbeats 400000 in
theorem many_any (w : World) (n : Int) (h1 : -9223372036854775808 ≤ n) (h2 : n ≤ 9223372036854775807) :
    Calls Try.prog 26 #[.int .i64 n] w fun e w' => e = .returned (.int .i64 (manyOf n)) ∧ w = w' := by
  by_cases h : n ≤ 0
  · have hm : manyOf n = 0 := by simp [manyOf, h]
    rw [hm]
    clear hm
    go_enter Try.func26, Try.ntmps26
    go_wp2_with fail
    go_ret
    exact ⟨rfl, rfl⟩
  · have hm : manyOf n = (n - 1) / 112 + 1 := by simp [manyOf, h]
    rw [hm]
    clear hm
    have hn : 1 ≤ n := by omega
    clear h
    go_enter Try.func26, Try.ntmps26
    go_wp2_with fail
    go_ret
    exact ⟨rfl, rfl⟩
set_option maxHeartbeats 400000 in
theorem rmany_any (w : World) (n : Int) (h1 : -9223372036854775808 ≤ n) (h2 : n ≤ 9223372036854775807) :
    Calls Try.prog 27 #[.int .i64 n] w fun e w' => e = .returned (.int .i64 (manyOf n)) ∧ w = w' := by
  by_cases h : n ≤ 0
  · have hm : manyOf n = 0 := by simp [manyOf, h]
    rw [hm]
    clear hm
    go_enter Try.func27, Try.ntmps27
    go_wp2_with fail
    go_ret
    exact ⟨rfl, rfl⟩
  · have hn : 1 ≤ n := by omega
    by_cases hr : 0 < n % 112
    · have hm : manyOf n = n / 112 + 1 := by simp [manyOf, h]; omega
      rw [hm]
      clear hm h
      go_enter Try.func27, Try.ntmps27
      go_wp2_with fail
      go_ret
      exact ⟨rfl, rfl⟩
    · have hm : manyOf n = n / 112 := by simp [manyOf, h]; omega
      rw [hm]
      clear hm h
      go_enter Try.func27, Try.ntmps27
      go_wp2_with fail
      go_ret
      exact ⟨rfl, rfl⟩
theorem many113 : manyOf 113 = 2 := by decide
theorem many112 : manyOf 112 = 1 := by decide
set_option maxHeartbeats 400000 in
theorem awake08 (w : World) : Calls Try.prog 21 #[] w fun e w' => e = .returned (.bool true) ∧ Below w.heap.size w w' := by
  have h1 := many_any w 113 (by omega) (by omega)
  have h2 := many_any w 112 (by omega) (by omega)
  rw [many113] at h1
  rw [many112] at h2
  have H1 := Lib.hid h1
  have H2 := Lib.hid h2
  clear h1 h2
  go_enter Try.func21, Try.ntmps21
  go_wp2_with fail
  refine H1.out.mono ?_
  rintro e w1 ⟨rfl, rfl⟩
  go_wp2_with fail
  refine H2.out.mono ?_
  rintro e w1 ⟨rfl, rfl⟩
  go_wp2_with fail
  go_ret
  exact ⟨rfl, Below.refl _ _⟩
end Go.Proofs.Ytneihfmacljjbaa
