/- page.Many and the document's Many are one function of the size. No condition. -/
import Derived.Test.YtpoicbhbkabllaaBytes
namespace Go.Proofs.Ytpoicbhbkabllaa
set_option linter.unusedSimpArgs false
set_option linter.unusedVariables false
open Go.RowKit

def manyOf (n : Int) : Int := if n ≤ 0 then 0 else (n - 1) / 112 + 1
set_option maxHeartbeats 400000 in
theorem many_any (w : World) (n : Int) (h1 : -9223372036854775808 ≤ n) (h2 : n ≤ 9223372036854775807) :
    Calls Try.prog 86 #[.int .i64 n] w fun e w' => e = .returned (.int .i64 (manyOf n)) ∧ w = w' := by
  by_cases h : n ≤ 0
  · have hm : manyOf n = 0 := by simp [manyOf, h]
    rw [hm]
    clear hm
    go_enter Try.func86, Try.ntmps86
    go_wp2_with fail
    go_ret
    exact ⟨rfl, rfl⟩
  · have hm : manyOf n = (n - 1) / 112 + 1 := by simp [manyOf, h]
    rw [hm]
    clear hm
    have hn : 1 ≤ n := by omega
    clear h
    go_enter Try.func86, Try.ntmps86
    go_wp2_with fail
    go_ret
    exact ⟨rfl, rfl⟩
set_option maxHeartbeats 400000 in
theorem rmany_any (w : World) (n : Int) (h1 : -9223372036854775808 ≤ n) (h2 : n ≤ 9223372036854775807) :
    Calls Try.prog 63 #[.int .i64 n] w fun e w' => e = .returned (.int .i64 (manyOf n)) ∧ w = w' := by
  by_cases h : n ≤ 0
  · have hm : manyOf n = 0 := by simp [manyOf, h]
    rw [hm]
    clear hm
    go_enter Try.func63, Try.ntmps63
    go_wp2_with fail
    go_ret
    exact ⟨rfl, rfl⟩
  · have hn : 1 ≤ n := by omega
    by_cases hr : 0 < n % 112
    · have hm : manyOf n = n / 112 + 1 := by simp [manyOf, h]; omega
      rw [hm]
      clear hm h
      go_enter Try.func63, Try.ntmps63
      go_wp2_with fail
      go_ret
      exact ⟨rfl, rfl⟩
    · have hm : manyOf n = n / 112 := by simp [manyOf, h]; omega
      rw [hm]
      clear hm h
      go_enter Try.func63, Try.ntmps63
      go_wp2_with fail
      go_ret
      exact ⟨rfl, rfl⟩
end Go.Proofs.Ytpoicbhbkabllaa
