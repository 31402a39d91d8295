/- slices.Equal at bytes. -/
import Derived.Test.YtpoicbhbkabllaaBytes
namespace Go.Proofs.Ytpoicbhbkabllaa
set_option linter.unusedSimpArgs false
set_option linter.unusedVariables false
open Go.RowKit

set_option maxHeartbeats 400000 in
/-- slices.Equal at bytes: whether they are the same -/
theorem equal8 (w : World) (B1 B2 : Nat) (v1 v2 : Value) (l1 l2 : List UInt8) (h1 : By w B1 v1 l1) (h2 : By w B2 v2 l2) :
    Calls Try.prog 95 #[v1, v2] w fun e w' => e = .returned (.bool (decide (l1 = l2))) ∧ Below w.heap.size w w' := by
  obtain ⟨A1, c1, rfl, hc1, hm1, hr1⟩ := h1
  obtain ⟨A2, c2, rfl, hc2, hm2, hr2⟩ := h2
  unfold maxLen at hm1 hm2
  by_cases hlen : l1.length = l2.length
  · have Hlen := Lib.hid hlen
    generalize hn2 : l2.length = n at *
    subst hlen
    have Hn2 := Lib.hid hn2
    clear hn2
    go_enter Try.func95, Try.ntmps95
    go_wp2
    go_loopw [13] (fun i wr => ∃ k : Nat, k ≤ l1.length ∧ i = .int .i64 k ∧ l1.take k = l2.take k ∧ ∃ q, wr = w.drewN q) (fun i _ => l1.length - (intOf i).toNat)
    case atStart => exact ⟨0, by omega, rfl, by simp, 0, rfl⟩
    case round =>
      obtain ⟨k, hk, rfl, ht, q, rfl⟩ := hrel
      by_cases hlt : k < l1.length
      · obtain ⟨ad1, rfl, _, hcs1⟩ := hr1.ad (by omega)
        obtain ⟨ad2, rfl, _, hcs2⟩ := hr2.ad (by omega)
        have hk2 : k < l2.length := by rw [Hn2.out]; exact hlt
        have hx1 := hcs1 k _ (b8s_get l1 k hlt)
        have hx2 := hcs2 k _ (b8s_get l2 k hk2)
        have ht1 := List.take_succ_eq_append_getElem hlt
        have ht2 := List.take_succ_eq_append_getElem hk2
        have Ht := Lib.hid ht
        have Ht1 := Lib.hid ht1
        have Ht2 := Lib.hid ht2
        clear hcs1 hcs2 ht ht1 ht2 hr1 hr2
        have hne : l1[k] ≠ l2[k] → l1 ≠ l2 := fun h e => h (by subst e; rfl)
        have Hne := Lib.hid hne
        clear hne
        generalize l1[k] = b1 at *
        generalize l2[k] = b2 at *
        go_wp2
        go_quiet (fail)
        go_wp2
        · rename_i he
          have hb : b1 ≠ b2 := fun e => by subst e; simp at he
          go_ret
          refine ⟨?_, bdrewN (bdrewN (Below.refl _ _) _) _⟩
          rw [decide_eq_false (Hne.out hb)]; rfl
        · rename_i he
          have hb : b1 = b2 := UInt8.toNat_inj.1 (by simp at he; omega)
          exact ⟨⟨k + 1, by omega, by go_num, by rw [Ht1.out, Ht2.out, Ht.out, hb], q + nq, rfl⟩, by simp [intOf]; omega⟩
      · obtain rfl : k = l1.length := by omega
        go_wp2
        go_ret
        refine ⟨?_, bdrewN (Below.refl _ _) _⟩
        have : l1 = l2 := by
          rw [List.take_length, ← Hn2.out, List.take_length] at ht; exact ht
        rw [decide_eq_true this]; rfl
  · have hne : ((l1.length : Int) == (l2.length : Int)) = false := by simp; omega
    go_enter Try.func95, Try.ntmps95
    go_wp2
    go_ret
    refine ⟨?_, Below.refl _ _⟩
    rw [decide_eq_false (fun e => hlen (by rw [e]))]; rfl
theorem getD_get (l : List UInt8) (i : Nat) (h : i < l.length) : l[i]? = some (l.getD i 0) := by simp [List.getD_eq_getElem?_getD, h]
end Go.Proofs.Ytpoicbhbkabllaa
