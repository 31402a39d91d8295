/- palmerlaw05.great: where it says no, the bodies have at most 2000 bytes together, and there are at most 50 -/
import Derived.Test.YtneihfmacljjbaaFrameSame
namespace Go.Proofs.Ytneihfmacljjbaa
set_option linter.unusedSimpArgs false
set_option linter.unusedVariables false
open Go.RowKit

def sumS (ss : List Sect) : Nat := (ss.map fun s => s.2.length).sum
theorem sumS_take (ss : List Sect) (k : Nat) (s : Sect) (h : ss[k]? = some s) : sumS (ss.take (k + 1)) = sumS (ss.take k) + s.2.length := by
  unfold sumS
  rw [List.take_add_one, h]
  simp

set_option maxRecDepth 100000 in
set_option maxHeartbeats 1600000 in
theorem great_any (w : World) (B : Nat) (v : Value) (ss : List Sect) (hs : ByS w B v ss) (hB : B ≤ w.heap.size) :
    Calls Try.prog 28 #[v] w fun e w' => (e = .returned (.bool true) ∨ (e = .returned (.bool false) ∧ sumS ss ≤ 2000 ∧ ss.length ≤ 50)) ∧ Below w.heap.size w w' := by
  obtain ⟨A, c, vs, rfl, ha1, ha2, _, _, _⟩ := id hs
  unfold maxLen at ha2
  go_enter Try.func28, Try.ntmps28
  go_wp2_with fail
  go_loop [3, 4] (fun x i => ∃ k n : Nat, k ≤ ss.length ∧ i = .int .i64 k ∧ x = .int .i64 n ∧ n ≤ 5000 ∧ (n ≤ 2000 → sumS (ss.take k) = n)) (fun _ i => ss.length - (intOf i).toNat)
  case atStart => exact ⟨0, 0, by omega, rfl, rfl, by omega, fun _ => rfl⟩
  case round =>
    obtain ⟨k, n, hk, rfl, rfl, hn, hsum⟩ := hrel
    by_cases hlt : k < ss.length
    · by_cases hn2 : n ≤ 2000
      · have hx : ss[k]? = some (ss[k]'hlt) := List.getElem?_eq_getElem hlt
        have hst := sumS_take ss k _ hx
        rw [hsum hn2] at hst
        obtain ⟨ad, u, rfl, hab, hc0, hc1, hu⟩ := hs.at_ k _ hx
        rw [← add_add, show (ad.add (k * 2)).add 1 = { block := (ad.add (k * 2)).block, off := (ad.add (k * 2)).off + 1 } from by simp [Addr.add]] at hc1
        generalize ss[k]'hlt = x at *
        obtain ⟨xk, xl⟩ := x
        obtain ⟨A2, c2, rfl, h1, h2, _⟩ := hu
        unfold maxLen at h2
        simp only at hst h1
        go_wp2_with fail
        refine ⟨⟨k + 1, n + min xl.length 3000, by omega, by go_num, ?_, by omega, fun h => by rw [hst]; omega⟩, by simp [intOf]; omega⟩
        congr 1
        split <;> omega
      · go_wp2_with fail
        go_ret
        exact ⟨.inl (by first | rfl | (simp; omega)), Below.refl _ _⟩
    · obtain rfl : k = ss.length := by omega
      rw [List.take_of_length_le (Nat.le_refl _)] at hsum
      have Hsum := Lib.hid hsum
      clear hsum
      by_cases hn2 : n ≤ 2000
      · by_cases h50 : 50 < ss.length
        · go_wp2_with fail
          go_ret
          exact ⟨.inl (by first | rfl | (simp; omega)), Below.refl _ _⟩
        · go_wp2_with fail
          go_ret
          exact ⟨.inr ⟨by first | rfl | (simp; omega), by have := Hsum.out hn2; omega, by omega⟩, Below.refl _ _⟩
      · go_wp2_with fail
        go_ret
        exact ⟨.inl (by first | rfl | (simp; omega)), Below.refl _ _⟩
end Go.Proofs.Ytneihfmacljjbaa
