/- pick.Alias -/
import Derived.Test.YteakeefocnjlhaaPick
namespace Go.Proofs.Yteakeefocnjlhaa
set_option linter.unusedSimpArgs false
set_option linter.unusedVariables false
open Go.RowKit

/-- the neighbour that a draw comes to -/
def palias (l : List GArc) (t : List GCell) (x : Nat) : Nat × Bool :=
  if l.length = t.length ∧ x < ptotal l then
    let c := (t[x / gsum l]?).getD ⟨0, 0⟩
    if x % gsum l < c.cut.toNat then (x / gsum l, true) else if c.oth.toNat < l.length then (c.oth.toNat, true) else (0, false)
  else (0, false)
theorem palias_no {l : List GArc} {t : List GCell} {x : Nat} (h : ¬ (l.length = t.length ∧ x < ptotal l)) : palias l t x = (0, false) := by
  unfold palias; rw [if_neg h]
theorem ptotal_pos {l : List GArc} {x : Nat} (h : x < ptotal l) : gmay l = true ∧ 0 < gsum l ∧ x / gsum l < l.length ∧ gsum l ≤ 2147483647 := by
  unfold ptotal at h
  split at h
  · rename_i hg
    have h0 : 0 < gsum l := Nat.pos_of_ne_zero fun e => by rw [e] at h; simp at h
    exact ⟨hg, h0, Nat.div_lt_of_lt_mul h, gmay_sum hg⟩
  · omega
theorem palias_yes {l : List GArc} {t : List GCell} {x : Nat} (hlt : l.length = t.length) (hx : x < ptotal l) (hk : x / gsum l < t.length) :
    palias l t x = if x % gsum l < (t[x / gsum l]).cut.toNat then (x / gsum l, true) else if (t[x / gsum l]).oth.toNat < l.length then ((t[x / gsum l]).oth.toNat, true) else (0, false) := by
  unfold palias
  rw [if_pos ⟨hlt, hx⟩, List.getElem?_eq_getElem hk]
  rfl

set_option maxRecDepth 100000 in
set_option maxHeartbeats 1600000 in
theorem palias_any (w : World) (B B2 : Nat) (v v2 : Value) (l : List GArc) (t : List GCell) (x : Nat) (hx : x < 18446744073709551616) (hl : l.length ≤ 4294967296) (ht : t.length ≤ 4294967296) (h : ByA w B v l) (h2 : ByC w B2 v2 t) (hB : B ≤ w.heap.size) (hB2 : B2 ≤ w.heap.size) :
    Calls Try.prog 46 #[v, v2, .int .u64 (x : Int)] w fun e w' => e = .returned (.tuple #[.int .i64 ((palias l t x).1 : Nat), .bool (palias l t x).2]) ∧ Below w.heap.size w w' := by
  obtain ⟨A, c, rfl, hc1, hc2⟩ := h.form
  obtain ⟨A2, c2, rfl, hd1, hd2⟩ := h2.form
  unfold maxLen at hc2 hd2
  have hS := gsum_lt l
  have htot := ptotal_any w B _ l hl h hB
  have hsum := fun W h hW => gsum_any W B (.slice A l.length c) l hl h hW
  have Hsum := Lib.hid hsum
  have Htot := Lib.hid htot
  clear hsum htot
  by_cases hlt : l.length = t.length
  · have hle1 : ((l.length : Int) == (t.length : Int)) = true := by simp [hlt]
    have hle2 : ((l.length : Int) != (t.length : Int)) = false := by simp [hlt]
    have hpt : ptotal l < 18446744073709551616 := by
      unfold ptotal
      split
      · rename_i hg
        have := Nat.mul_le_mul (gmay_sum hg) hl
        omega
      · omega
    by_cases hxt : x < ptotal l
    · obtain ⟨hg, hW0, hk, hW1⟩ := ptotal_pos hxt
      have hkt : x / gsum l < t.length := by omega
      have hpa := palias_yes hlt hxt hkt
      have hge : decide (ptotal l ≤ x) = false := decide_eq_false (by omega)
      obtain ⟨ad, rfl, hab, hx0, hx1⟩ := ByC.cells h2 (x / gsum l) hkt
      have hcu := u64_lt (t[x / gsum l]).cut
      have hot := u32_lt (t[x / gsum l]).oth
      have Hpa := Lib.hid hpa
      have hcs : ∀ W, Below w.heap.size w W → W.cell? (ad.add (x / gsum l * 2)) = some (.int .u64 ((t[x / gsum l]).cut.toNat : Int)) ∧ W.cell? { block := (ad.add (x / gsum l * 2)).block, off := (ad.add (x / gsum l * 2)).off + 1 } = some (.int .u32 ((t[x / gsum l]).oth.toNat : Int)) := fun W hW =>
        ⟨(hW.cell (by rw [add_block]; omega)).trans hx0, (hW.cell (by show (ad.add (x / gsum l * 2)).block < _; rw [add_block]; omega)).trans hx1⟩
      have Hcs := Lib.hid hcs
      clear hpa hcs hx0 hx1
      have Hlt := Lib.hid hlt
      generalize (t[x / gsum l]).cut.toNat = cut at *
      generalize (t[x / gsum l]).oth.toNat = oth at *
      have hq : Int.tdiv (x : Int) (gsum l : Int) = ((x / gsum l : Nat) : Int) := rfl
      have hr : Int.tmod (x : Int) (gsum l : Int) = ((x % gsum l : Nat) : Int) := rfl
      have hn0 : ((gsum l : Int) == 0) = false := beq_eq_false_iff_ne.2 (by omega)
      have hn1 : ¬ ((gsum l : Nat) = 0) := by omega
      have hkb : decide (((x / gsum l : Nat) : Int) < (t.length : Int)) = true := decide_eq_true (by omega)
      have hrl : x % gsum l < gsum l := Nat.mod_lt _ hW0
      clear hlt hxt hg hW0 hk
      go_enter Try.func46, Try.ntmps46
      go_wp2_with fail
      refine Htot.out.mono ?_
      rintro _ w1 ⟨rfl, hb1⟩
      go_wp2_with fail
      refine (Hsum.out w1 (h.below (hb1.mono hB)) (Nat.le_trans hB hb1.size)).mono ?_
      rintro _ w2 ⟨rfl, hb2⟩
      have hb02 := bstep hb1 hb2
      obtain ⟨hx0, hx1⟩ := Hcs.out w2 hb02
      generalize hqq : x / gsum l = qd at *
      generalize hrr : x % gsum l = rm at *
      generalize gsum l = S at *
      have hqb : qd ≤ 9223372036854775807 := by omega
      have hb3 := bstep hb02 (balloc w2 (.cells #[.int .u64 (cut : Int), .int .u32 (oth : Int)] 83))
      have Hb3 := Lib.hid hb3
      clear hb3 hqq hrr
      by_cases hc : rm < cut
      · have hp := Lib.hid ((Hpa.out).trans (if_pos hc))
        have hd : decide (rm < cut) = true := decide_eq_true hc
        clear hc
        go_wp2_with fail
        go_quiet (fail)
        go_wp2_with fail
        go_ret2
        rw [hp.out]
        exact ⟨rfl, bdrewN Hb3.out _⟩
      · have hp := Lib.hid ((Hpa.out).trans (if_neg hc))
        have hd : decide (rm < cut) = false := decide_eq_false hc
        clear hc
        by_cases ho : oth < l.length
        · have hp2 := Lib.hid ((hp.out).trans (if_pos ho))
          have hd2 : decide (oth < l.length) = true := decide_eq_true ho
          clear ho
          go_wp2_with fail
          go_quiet (fail)
          go_wp2_with fail
          go_ret2
          rw [hp2.out]
          exact ⟨rfl, bdrewN Hb3.out _⟩
        · have hp2 := Lib.hid ((hp.out).trans (if_neg ho))
          have hd2 : decide (oth < l.length) = false := decide_eq_false ho
          clear ho
          go_wp2_with fail
          go_quiet (fail)
          go_wp2_with fail
          go_ret2
          rw [hp2.out]
          exact ⟨rfl, bdrewN Hb3.out _⟩
    · have hpa := palias_no (l := l) (t := t) (x := x) (fun e => hxt e.2)
      have hge : decide (ptotal l ≤ x) = true := decide_eq_true (by omega)
      have Hpa := Lib.hid hpa
      clear hpa hxt hlt
      go_enter Try.func46, Try.ntmps46
      go_wp2_with fail
      refine Htot.out.mono ?_
      rintro _ w1 ⟨rfl, hb1⟩
      go_wp2_with fail
      go_ret2
      rw [Hpa.out]
      exact ⟨rfl, hb1⟩
  · have hle1 : ((l.length : Int) == (t.length : Int)) = false := beq_eq_false_iff_ne.2 (by omega)
    have hle2 : ((l.length : Int) != (t.length : Int)) = true := by simp; omega
    have hpa := palias_no (l := l) (t := t) (x := x) (fun e => hlt e.1)
    have Hpa := Lib.hid hpa
    clear hpa hlt
    go_enter Try.func46, Try.ntmps46
    go_wp2_with fail
    go_ret2
    rw [Hpa.out]
    exact ⟨rfl, Below.refl _ _⟩
end Go.Proofs.Yteakeefocnjlhaa
