/- the document's neighbours: Sum, May, Put, Same -/
import Derived.Test.YteakeefocnjlhaaGapsMay
import Derived.Test.YteakeefocnjlhaaVarRefMore
namespace Go.Proofs.Yteakeefocnjlhaa
set_option linter.unusedSimpArgs false
set_option linter.unusedVariables false
open Go.RowKit

set_option maxRecDepth 100000 in
set_option maxHeartbeats 800000 in
theorem rgsum_any (w : World) (B : Nat) (v : Value) (l : List GArc) (hl : l.length ≤ 4294967296) (h : ByA w B v l) :
    Calls Try.prog 51 #[v] w fun e w' => e = .returned (.int .u64 (gsum l : Nat)) ∧ w = w' := by
  obtain ⟨A, c, rfl, hc1, hc2⟩ := h.form
  unfold maxLen at hc2
  have hlt := fun k => gsum_lt (l.take k)
  have Hlt := Lib.hid hlt
  clear hlt
  go_enter Try.func51, Try.ntmps51
  go_wp2_with fail
  go_loop [3, 7] (fun x i => ∃ k : Nat, k ≤ l.length ∧ i = .int .i64 k ∧ x = .int .u64 (gsum (l.take k) : Nat)) (fun _ i => l.length - (intOf i).toNat)
  case atStart => exact ⟨0, by omega, rfl, rfl⟩
  case round =>
    obtain ⟨k, hk, rfl, rfl⟩ := hrel
    by_cases hlt : k < l.length
    · obtain ⟨ad, rfl, hab, hx0, hx1⟩ := h.cells k hlt
      have hsn := gsum_snoc l k hlt
      have h1 := Hlt.out k
      have h2 : (l.take k).length ≤ 4294967296 := by simp; omega
      have h3 : gsum (l.take k) ≤ 18446744069414584320 := by
        have := Nat.mul_le_mul_right 4294967295 h2
        omega
      have Hsn := Lib.hid hsn
      have hwt := u32_lt (l[k]).wt
      clear hsn h1 h2
      generalize l[k] = a at *
      generalize gsum (l.take k) = S at *
      go_wp2_with fail
      go_round
      case rel => exact ⟨k + 1, by omega, by go_num, by rw [Hsn.out]; go_num⟩
      case measure => simp [intOf]; omega
    · obtain rfl : k = l.length := by omega
      rw [List.take_length]
      go_wp2_with fail
      go_ret
      exact ⟨rfl, rfl⟩

set_option maxRecDepth 100000 in
set_option maxHeartbeats 1600000 in
theorem rgmay_any (w : World) (B : Nat) (v : Value) (l : List GArc) (hl : l.length ≤ 4294967296) (h : ByA w B v l) :
    Calls Try.prog 25 #[v] w fun e w' => e = .returned (.bool (gmay l)) ∧ ∃ q, w' = w.drewN q := by
  obtain ⟨A, c, rfl, hc1, hc2⟩ := h.form
  unfold maxLen at hc2
  have hsum := fun q => rgsum_any (w.drewN q) B (.slice A l.length c) l hl h
  have hgm : gmay l = (rise none l && decide (gsum l ≤ 2147483647)) := rfl
  have hno := fun k h hk => gmay_take l k h hk
  have Hsum := Lib.hid hsum
  have Hno := Lib.hid hno
  have Hgm := Lib.hid hgm
  clear hsum hno hgm
  go_enter Try.func25, Try.ntmps25
  go_wp2_with fail
  go_loopw [6] (fun i wr => ∃ k : Nat, k ≤ l.length ∧ i = .int .i64 k ∧ rise none (l.take k) = true ∧ ∃ q, wr = w.drewN q) (fun i _ => l.length - (intOf i).toNat)
  case atStart => exact ⟨0, by omega, rfl, rfl, 0, rfl⟩
  case round =>
    obtain ⟨k, hk, rfl, hri, q, rfl⟩ := hrel
    by_cases hlt : k < l.length
    · obtain ⟨ad, rfl, hab, hx0, hx1⟩ := h.cells k hlt
      have hstep := rise_snoc l k hlt
      rw [hri, Bool.true_and] at hstep
      have hno := Hno.out k hlt
      have hst : stepOk l k l[k] = ((l[k]).wt != 0 && (k == 0 || match l[k - 1]? with | some b => decide (b.to < (l[k]).to) | none => true)) := rfl
      by_cases hw0 : (l[k]).wt = 0
      · rw [hw0] at hst
        simp at hst
        have hf := hno hst
        have Hf := Lib.hid hf
        have hwt : (((l[k]).wt.toNat : Nat) : Int) = 0 := by rw [hw0]; rfl
        rw [hwt] at hx1
        clear hst hf hno hstep hwt hw0
        generalize l[k] = a at *
        go_wp2_with fail
        go_quiet (fail)
        go_wp2_with fail
        go_ret
        rw [Hf.out]
        exact ⟨rfl, q + nq, by simp⟩
      · have hwn : decide ((((l[k]).wt.toNat : Nat) : Int) < 1) = false := by
          have : (l[k]).wt.toNat ≠ 0 := fun e => hw0 (UInt32.toNat_inj.1 (by simpa using e))
          simp; omega
        have hwn' : ((l[k]).wt != 0) = true := by simpa using hw0
        rw [hwn', Bool.true_and] at hst
        rcases Nat.eq_zero_or_pos k with hk0 | hk0
        · have h0' : (k == 0) = true := by simpa using hk0
          rw [h0', Bool.true_or] at hst
          rw [hst] at hstep
          have hk0i : decide (0 < k) = false := by simp; omega
          have Hstep := Lib.hid hstep
          clear hst hstep hno hwn' hw0 h0' hk0
          generalize l[k] = a at *
          go_wp2_with fail
          go_quiet (fail)
          go_wp2_with fail
          go_roundw
          case rel => exact ⟨k + 1, by omega, by go_num, Hstep.out, q + nq, by simp⟩
          case measure => simp [intOf]; omega
        · obtain ⟨m, rfl⟩ : ∃ m, k = m + 1 := ⟨k - 1, by omega⟩
          have h0' : (m + 1 == 0) = false := by simp
          have hm : m < l.length := by omega
          rw [h0', Bool.false_or, Nat.add_sub_cancel, List.getElem?_eq_getElem hm] at hst
          obtain ⟨ad', e, _, hy0, hy1⟩ := h.cells m hm
          injection e with e
          subst e
          simp only at hst
          rw [hst] at hstep hno
          have Hstep := Lib.hid hstep
          have Hno1 := Lib.hid hno
          clear hst hstep hno hwn' hw0 h0'
          generalize l[m + 1] = a at *
          generalize l[m] = b at *
          by_cases hlo : b.to < a.to
          · have hle : decide ((a.to.toNat : Int) ≤ (b.to.toNat : Int)) = false := by
              have := UInt32.lt_iff_toNat_lt.1 hlo
              simp; omega
            have hle' : decide (a.to.toNat ≤ b.to.toNat) = false := by
              have := UInt32.lt_iff_toNat_lt.1 hlo
              simp; omega
            have hlt' : (decide (b.to < a.to)) = true := by simpa using hlo
            rw [hlt'] at Hstep
            clear hlo hlt' Hno1
            go_wp2_with fail
            go_quiet (fail)
            go_wp2_with fail
            go_roundw
            case rel => exact ⟨m + 1 + 1, by omega, by go_num, Hstep.out, q + nq, by simp⟩
            case measure => simp [intOf]; omega
          · have hle : decide ((a.to.toNat : Int) ≤ (b.to.toNat : Int)) = true := by
              have : ¬ b.to.toNat < a.to.toNat := fun h => hlo (UInt32.lt_iff_toNat_lt.2 h)
              simp; omega
            have hle' : decide (a.to.toNat ≤ b.to.toNat) = true := by
              have : ¬ b.to.toNat < a.to.toNat := fun h => hlo (UInt32.lt_iff_toNat_lt.2 h)
              simp; omega
            have hf := Hno1.out (by simpa using hlo)
            have Hf := Lib.hid hf
            clear hlo hf Hstep Hno1
            go_wp2_with fail
            go_quiet (fail)
            go_wp2_with fail
            go_ret
            rw [Hf.out]
            exact ⟨rfl, q + nq, by simp⟩
    · obtain rfl : k = l.length := by omega
      rw [List.take_length] at hri
      have hs := Hsum.out q
      have hgm := Hgm.out
      rw [hri, Bool.true_and] at hgm
      have HG := Lib.hid hgm
      clear hgm Hgm
      generalize gsum l = S at *
      have Hs := Lib.hid hs
      clear hs
      go_wp2_with fail
      refine Hs.out.mono ?_
      rintro _ _ ⟨rfl, rfl⟩
      go_wp2_with fail
      go_ret
      rw [HG.out]
      exact ⟨congrArg (fun b => Ending.returned (Value.bool b)) (decide_eq_decide.2 (by omega)), q, rfl⟩
end Go.Proofs.Yteakeefocnjlhaa
