/- alias.Count -/
import Derived.Test.YteakeefocnjlhaaCell
namespace Go.Proofs.Yteakeefocnjlhaa
set_option linter.unusedSimpArgs false
set_option linter.unusedVariables false
open Go.RowKit

set_option maxRecDepth 100000 in
set_option maxHeartbeats 3200000 in
theorem acount_any (w : World) (B : Nat) (v : Value) (l : List GCell) (W : Nat) (hW : W < 18446744073709551616) (to : Int) (hl : l.length ≤ 4294967296) (h : ByC w B v l) (hB : B ≤ w.heap.size) :
    Calls Try.prog 59 #[v, .int .u64 (W : Int), .int .i64 to] w fun e w' => e = .returned (.int .u64 (cnt W to l : Nat)) ∧ Below w.heap.size w w' := by
  obtain ⟨A, c, rfl, hc1, hc2⟩ := h.form
  unfold maxLen at hc2
  have hlt := cntK_lt W to l
  have Hlt := Lib.hid hlt
  clear hlt
  go_enter Try.func59, Try.ntmps59
  go_wp2_with fail
  go_loopw [7, 13] (fun x i wr => ∃ k : Nat, k ≤ l.length ∧ i = .int .i64 k ∧ x = .int .u64 (cntK W to l k : Nat) ∧ Below w.heap.size w wr) (fun _ i _ => l.length - (intOf i).toNat)
  case atStart => exact ⟨0, by omega, rfl, rfl, Below.refl _ _⟩
  case round =>
    obtain ⟨k, hk, rfl, rfl, hbl⟩ := hrel
    have hbz := hbl.size
    by_cases hlt : k < l.length
    · obtain ⟨ad, rfl, hab, hx0, hx1⟩ := (h.below (hbl.mono hB)).cells k hlt
      have hsn := cntK_succ W to l k hlt
      have h1 := Hlt.out k
      have hcu := u64_lt (l[k]).cut
      have hot := u32_lt (l[k]).oth
      have hst : ∀ n, cstep W to k l[k] n = cstep W to k ⟨l[k].cut, l[k].oth⟩ n := fun _ => rfl
      rw [hst] at hsn
      unfold cstep at hsn
      simp only at hsn
      generalize (l[k]).cut.toNat = cut at *
      generalize (l[k]).oth.toNat = oth at *
      generalize cntK W to l k = n at *
      clear hst
      have e1 : W < cut ∨ cut ≤ W := by omega
      have e2 : ((k : Int) == to) = true ∨ ((k : Int) == to) = false := by cases ((k : Int) == to) <;> simp
      have e3 : ((oth : Int) == to) = true ∨ ((oth : Int) == to) = false := by cases ((oth : Int) == to) <;> simp
      have hmin : min (cut : Int) (W : Int) = ((if W < cut then W else cut : Nat) : Int) := by split <;> omega
      rcases e1 with h5 | h5 <;> rcases e2 with h6 | h6 <;> rcases e3 with h7 | h7
      all_goals
        have h6' := h6
        have h7' := h7
        simp at h6' h7'
        simp only [h5, h6', h7', if_true, if_false, Nat.not_lt.2 h5] at hsn hmin
        have Hsn := Lib.hid hsn
        have H5 := Lib.hid h5
        clear hsn h6' h7'
        go_wp2_with fail
        go_roundw
        case rel => exact ⟨k + 1, by omega, by go_num, by rw [Hsn.out]; first | done | (go_num; done) | (have := H5.out; simp only [wrap_u64]; first | omega | (congr 1; omega) | (congr 1; congr 1; omega)), hbl.trans ((balloc _ _).mono hbz)⟩
        case measure => simp [intOf]; omega
    · obtain rfl : k = l.length := by omega
      go_wp2_with fail
      go_ret
      exact ⟨rfl, hbl⟩
end Go.Proofs.Yteakeefocnjlhaa
