/- alias.May -/
import Derived.Test.YteakeefocnjlhaaAMay
namespace Go.Proofs.Yteakeefocnjlhaa
set_option linter.unusedSimpArgs false
set_option linter.unusedVariables false
open Go.RowKit

set_option maxRecDepth 100000 in
set_option maxHeartbeats 3200000 in
theorem amay_any (w : World) (B B2 : Nat) (v v2 : Value) (l : List GArc) (t : List GCell) (hl : l.length ≤ 4294967296) (ht : t.length ≤ 4294967296) (h : ByA w B v l) (h2 : ByC w B2 v2 t) (hB : B ≤ w.heap.size) (hB2 : B2 ≤ w.heap.size) :
    Calls Try.prog 63 #[v, v2] w fun e w' => e = .returned (.bool (mayOk l t)) ∧ Below w.heap.size w w' := by
  obtain ⟨A, c, rfl, hc1, hc2⟩ := h.form
  obtain ⟨A2, c2, rfl, hd1, hd2⟩ := h2.form
  unfold maxLen at hc2 hd2
  have hmy := gmay_any w B _ l hl h hB
  have hS := gsum_lt l
  have hSS : gsum l < 18446744073709551616 := by omega
  have hsum := fun W h hW => gsum_any W B (.slice A l.length c) l hl h hW
  have hcn := fun W h hW => counts_any W B2 (.slice A2 t.length c2) t (gsum l) hSS ht h hW
  have hno1 := @mayOk_no1 l t
  have hno2 := @mayOk_no2 l t
  have hno3 := @mayOk_no3 l t
  have hno4 := @mayOk_no4 l t
  have hyes := @mayOk_yes l t
  have hcl := fun j => cntK_lt (gsum l) j t t.length
  have Hmy := Lib.hid hmy
  have Hsum := Lib.hid hsum
  have Hcn := Lib.hid hcn
  have Hno1 := Lib.hid hno1
  have Hno2 := Lib.hid hno2
  have Hno3 := Lib.hid hno3
  have Hno4 := Lib.hid hno4
  have Hyes := Lib.hid hyes
  have Hcl := Lib.hid hcl
  clear hmy hsum hcn hno1 hno2 hno3 hno4 hyes hS hcl
  by_cases h0 : 0 < l.length
  · have hz1 : ((l.length : Int) == 0) = false := beq_eq_false_iff_ne.2 (by omega)
    have hz2 : (l.length == 0) = false := beq_eq_false_iff_ne.2 (by omega)
    have Hz := Lib.hid h0
    clear h0
    by_cases hlt : l.length = t.length
    · have Hlt := Lib.hid hlt
      have hle2 : ((l.length : Int) != (t.length : Int)) = false := by simp [hlt]
      have hle1 : ((l.length : Int) == (t.length : Int)) = true := by simp [hlt]
      clear hlt
      go_enter Try.func63, Try.ntmps63
      go_wp2_with fail
      refine Hmy.out.mono ?_
      rintro _ w1 ⟨rfl, hb1⟩
      cases hm : gmay l with
      | false =>
        have hf := Lib.hid (Hno1.out (by unfold nbrs; rw [hm, Bool.and_false]))
        clear hm
        go_wp2_with fail
        go_ret
        rw [hf.out]
        exact ⟨rfl, hb1⟩
      | true =>
        have Hnb : nbrs l = true := by unfold nbrs; rw [hm, decide_eq_true Hz.out]; rfl
        have hnb := Lib.hid Hnb
        clear hm Hnb
        go_wp2_with fail
        refine (Hsum.out w1 (h.below (hb1.mono hB)) (Nat.le_trans hB hb1.size)).mono ?_
        rintro _ w2 ⟨rfl, hb2⟩
        have hb02 := bstep hb1 hb2
        go_wp2_with fail
        refine (Hcn.out w2 (ByC.below h2 (hb02.mono hB2)) (Nat.le_trans hB2 hb02.size)).mono ?_
        rintro _ w3 ⟨vo, rfl, hvo, hb3⟩
        have hb03 := bstep hb02 hb3
        cases hg : cgood (gsum l) t.length t with
        | false =>
          have hf := Lib.hid (Hno3.out hg)
          clear hg hvo
          go_wp2_with fail
          go_loopw [6, 7] (fun o i wr => o = .bool false ∧ i = .int .i64 0 ∧ wr = w3) (fun _ _ _ => 0)
          case atStart => exact ⟨rfl, rfl, rfl⟩
          case round =>
            obtain ⟨rfl, rfl, rfl⟩ := hrel
            go_wp2_with fail
            go_ret
            rw [hf.out]
            exact ⟨rfl, hb03⟩
        | true =>
          obtain ⟨rfl, hbx⟩ := hvo hg
          have Hgk := Lib.hid hg
          clear hg hvo
          go_wp2_with fail
          go_loopw [6, 7] (fun o i wr => ∃ (k : Nat) (ob : Bool), k ≤ l.length ∧ o = .bool ob ∧ i = .int .i64 k ∧ (if ob = true then (∀ j (hj : j < k) (hl : j < l.length), cnt (gsum l) (j : Int) t = l.length * (l[j]).wt.toNat) else mayOk l t = false) ∧ ∃ q, wr = w3.drewN q) (fun _ i _ => l.length - (intOf i).toNat)
          case atStart => exact ⟨0, true, by omega, rfl, rfl, fun j hj => absurd hj (Nat.not_lt_zero _), 0, rfl⟩
          case round =>
            obtain ⟨k, ob, hk, rfl, rfl, hall, q, rfl⟩ := hrel
            cases ob with
            | false =>
              have hf := Lib.hid (show mayOk l t = false by simpa using hall)
              clear hall
              go_wp2_with fail
              go_ret
              rw [hf.out]
              exact ⟨rfl, bdrewN hb03 q⟩
            | true =>
              rw [if_pos rfl] at hall
              have Hall := Lib.hid hall
              clear hall
              by_cases hkl : k < l.length
              · obtain ⟨ad, rfl, hab, hx0, hx1⟩ := ByA.cells (h.below (hb03.mono hB)) k hkl
                have hwt := u32_lt (l[k]).wt
                have hno := Hno4.out k hkl
                have hkt : k < t.length := by have := Hlt.out; omega
                have hcnk : cnt (gsum l) (k : Int) t < 18446744073709551616 := Hcl.out k
                have hmb : l.length * (l[k]).wt.toNat ≤ 4294967296 * 4294967295 := Nat.mul_le_mul hl (by omega)
                have hmul : IntKind.u64.wrap ((l.length : Int) * ((l[k]).wt.toNat : Int)) = ((l.length * (l[k]).wt.toNat : Nat) : Int) := by
                  rw [← Int.natCast_mul, wrap_u64]; omega
                have hrd : w3.cell? { block := w2.heap.size, off := k } = some (.int .u64 ((cnt (gsum l) (k : Int) t : Nat) : Int)) := hbx.cell k _ (cntRow_get (gsum l) t _ t.length k hkt)
                have hbd : decide ((k : Int) < (t.length : Int)) = true := by simp; omega
                by_cases he : cnt (gsum l) (k : Int) t = l.length * (l[k]).wt.toNat
                · have hn2 : (((cnt (gsum l) (k : Int) t : Nat) : Int) == ((l.length * (l[k]).wt.toNat : Nat) : Int)) = true := by rw [he]; simp
                  have hrel2 : ∀ j (hj : j < k + 1) (hl : j < l.length), cnt (gsum l) (j : Int) t = l.length * (l[j]).wt.toNat := fun j hj hl => by
                    rcases Nat.lt_or_ge j k with h | h
                    · exact Hall.out j h hl
                    · obtain rfl : j = k := by omega
                      exact he
                  have Hrel2 := Lib.hid hrel2
                  clear hno he hrel2
                  generalize (l[k]).wt.toNat = wt at *
                  generalize hpp : l.length * wt = p at *
                  generalize hcc : cnt (gsum l) (k : Int) t = cv at *
                  clear hpp hcc
                  go_wp2_with fail
                  go_quiet (fail)
                  go_wp2_with fail
                  go_roundw
                  case rel => exact ⟨k + 1, true, by omega, rfl, by go_num, Hrel2.out, q + nq, by simp⟩
                  case measure => simp [intOf]; omega
                · have hf := Lib.hid (hno he)
                  have hn2 : (((cnt (gsum l) (k : Int) t : Nat) : Int) == ((l.length * (l[k]).wt.toNat : Nat) : Int)) = false := by simp; omega
                  clear hno he
                  generalize (l[k]).wt.toNat = wt at *
                  generalize hpp : l.length * wt = p at *
                  generalize hcc : cnt (gsum l) (k : Int) t = cv at *
                  clear hpp hcc
                  go_wp2_with fail
                  go_quiet (fail)
                  go_wp2_with fail
                  go_roundw
                  case rel => exact ⟨k + 1, false, by omega, rfl, by go_num, by simpa using hf.out, q + nq, by simp⟩
                  case measure => simp [intOf]; omega
              · obtain rfl : k = l.length := by omega
                have hf := Lib.hid (Hyes.out hnb.out Hlt.out Hgk.out (fun j hj => Hall.out j hj hj))
                go_wp2_with fail
                go_ret
                rw [hf.out]
                exact ⟨rfl, bdrewN hb03 q⟩
    · have hf := Lib.hid (Hno2.out hlt)
      have hle1 : ((l.length : Int) == (t.length : Int)) = false := beq_eq_false_iff_ne.2 (by omega)
      have hle2 : ((l.length : Int) != (t.length : Int)) = true := by simp; omega
      clear hlt
      go_enter Try.func63, Try.ntmps63
      go_wp2_with fail
      go_ret
      rw [hf.out]
      exact ⟨rfl, Below.refl _ _⟩
  · have hz : l.length = 0 := by omega
    have hf := Lib.hid (Hno1.out (by unfold nbrs; rw [hz]; rfl))
    have hz1 : ((l.length : Int) == 0) = true := by simp [hz]
    have hz2 : (l.length == 0) = true := by simp [hz]
    clear h0 hz
    go_enter Try.func63, Try.ntmps63
    go_wp2_with fail
    go_ret
    rw [hf.out]
    exact ⟨rfl, Below.refl _ _⟩
end Go.Proofs.Yteakeefocnjlhaa
