/- palmerref16.To; how often each neighbour is met by going through all draws -/
import Derived.Test.YteakeefocnjlhaaBuild
import Derived.Test.YteakeefocnjlhaaMet
namespace Go.Proofs.Yteakeefocnjlhaa
set_option linter.unusedSimpArgs false
set_option linter.unusedVariables false
open Go.RowKit

/-- by the table that is built -/
theorem met_btab (l : List GArc) (hl : l.length ≤ 1048576) (hg : gsum l ≤ 2147483647) (k : Nat) (hk : k < l.length) : metC (gsum l) (btab l) k (gsum l * l.length) = l.length * (l[k]).wt.toNat := by
  have h1 := metC_all (gsum l) (btab l) k fun c hc => (btab_ok l hl hg c hc).1
  rw [btab_len l hl hg, btab_n l hl hg k hk] at h1
  exact h1
theorem toP_lt (l : List GArc) (hl : l.length ≤ 1048576) (hg : gsum l ≤ 2147483647) (x : Nat) (hx : x < gsum l * l.length) : toP (gsum l) (btab l) x < l.length := by
  have hlen := btab_len l hl hg
  have hd : x / gsum l < l.length := Nat.div_lt_of_lt_mul hx
  unfold toP
  simp only [List.getElem?_eq_getElem (show x / gsum l < (btab l).length by omega), Option.getD_some]
  split
  · exact hd
  · exact (btab_ok l hl hg _ (List.getElem_mem _)).2
/-- the row of what was met -/
def metRow (W : Nat) (t : List GCell) (n x : Nat) : List Value := (List.range n).map fun (j : Nat) => Value.int .u64 ((metC W t j x : Nat) : Int)
theorem metRow_len (W : Nat) (t : List GCell) (n x : Nat) : (metRow W t n x).length = n := by simp [metRow]
theorem metRow_get (W : Nat) (t : List GCell) (n x j : Nat) (hj : j < n) : (metRow W t n x)[j]? = some (.int .u64 ((metC W t j x : Nat) : Int)) := by simp [metRow, List.getElem?_range hj]
theorem metRow_step (W : Nat) (t : List GCell) (n x : Nat) (h : toP W t x < n) : (metRow W t n x).set (toP W t x) (.int .u64 ((metC W t (toP W t x) x + 1 : Nat) : Int)) = metRow W t n (x + 1) := by
  apply List.ext_getElem?
  intro j
  rcases Nat.lt_or_ge j n with hj | hj
  · rw [metRow_get W t n (x + 1) j hj, List.getElem?_set, metRow_get W t n x j hj, metRow_len, metC]
    by_cases h1 : toP W t x = j
    · subst h1; simp [h]
    · rw [if_neg h1, if_neg h1]; rfl
  · rw [List.getElem?_eq_none (by simp [metRow]; omega), List.getElem?_eq_none (by rw [metRow_len]; omega)]
theorem metRow_zero (W : Nat) (t : List GCell) (n : Nat) (l : List GCell) : metRow W t n 0 = cntRow W l n 0 := by simp [metRow, cntRow, metC, cntK]

set_option maxRecDepth 100000 in
set_option maxHeartbeats 1600000 in
theorem rto_any (w : World) (B : Nat) (v : Value) (t : List GCell) (W x : Nat) (hW : 0 < W) (hW2 : W < 18446744073709551616) (hx : x < 18446744073709551616) (ht : t.length ≤ 4294967296) (h : ByC w B v t) (hk : x / W < t.length) :
    Calls Try.prog 58 #[v, .int .u64 (W : Int), .int .u64 (x : Int)] w fun e w' => e = .returned (.int .i64 (toP W t x : Nat)) ∧ Below w.heap.size w w' := by
  obtain ⟨A, c, rfl, hc1, hc2⟩ := h.form
  unfold maxLen at hc2
  obtain ⟨ad, rfl, hab, hx0, hx1⟩ := ByC.cells h (x / W) hk
  have hcu := u64_lt (t[x / W]).cut
  have hot := u32_lt (t[x / W]).oth
  have hto : toP W t x = if x % W < (t[x / W]).cut.toNat then x / W else (t[x / W]).oth.toNat := by
    unfold toP
    simp only [List.getElem?_eq_getElem hk, Option.getD_some]
  have Hto := Lib.hid hto
  clear hto
  have hq : (x : Int) / (W : Int) = ((x / W : Nat) : Int) := rfl
  have hr : (x : Int) % (W : Int) = ((x % W : Nat) : Int) := rfl
  have hn0 : ((W : Int) == 0) = false := beq_eq_false_iff_ne.2 (by omega)
  have hn1 : ¬ (W = 0) := by omega
  have hkb : decide (((x / W : Nat) : Int) < (t.length : Int)) = true := decide_eq_true (by omega)
  have hrl : x % W < W := Nat.mod_lt _ hW
  have hb3 := balloc w (.cells #[.int .u64 ((t[x / W]).cut.toNat : Int), .int .u32 ((t[x / W]).oth.toNat : Int)] 83)
  generalize toP W t x = R at *
  generalize (t[x / W]).cut.toNat = cut at *
  generalize (t[x / W]).oth.toNat = oth at *
  have Hb3 := Lib.hid hb3
  clear hb3
  generalize hqq : x / W = qd at *
  generalize hrr : x % W = rm at *
  have hqb : qd ≤ 9223372036854775807 := by omega
  clear hqq hrr
  go_enter Try.func58, Try.ntmps58
  go_wp2_with fail
  by_cases hc : rm < cut
  · have hp := Lib.hid ((Hto.out).trans (if_pos hc))
    have hd : decide (rm < cut) = true := decide_eq_true hc
    clear hc
    go_wp2_with fail
    go_quiet (fail)
    go_wp2_with fail
    go_ret
    rw [hp.out]
    exact ⟨rfl, bdrewN Hb3.out _⟩
  · have hp := Lib.hid ((Hto.out).trans (if_neg hc))
    have hd : decide (rm < cut) = false := decide_eq_false hc
    clear hc
    go_wp2_with fail
    go_quiet (fail)
    go_wp2_with fail
    go_ret
    rw [hp.out]
    exact ⟨rfl, bdrewN Hb3.out _⟩
end Go.Proofs.Yteakeefocnjlhaa
