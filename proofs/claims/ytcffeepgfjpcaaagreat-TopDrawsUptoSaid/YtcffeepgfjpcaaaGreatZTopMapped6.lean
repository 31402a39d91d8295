/- The law 'TopMapped' returns true for every input, and each argument reads behind the call as it read before. For arguments of bulk at most 1048576. -/
import Derived.Test.YtcffeepgfjpcaaaGreatZTopMapped5
import Derived.WalkMore
import Derived.Laws.EntriesVeiled
import Derived.Deep.LoopGhost
import Derived.Test.YtcffeepgfjpcaaaGreatRows
import Derived.WalkKit
import Derived.ProofKit
import Derived.OpenShut
import Derived.ShutString
import Derived.ChangeOld
import Derived.Below
import Derived.JoinedCond
namespace Go.Proofs.YtcffeepgfjpcaaaGreat
set_option linter.unusedSimpArgs false
set_option linter.unusedVariables false
open Go.RowKit Go.Shelf
attribute [local go_sem] Oper.semAt_some

/-- the pieces of a cell -/
def pcA (S to i : Nat) (c : GCell) : List (Nat × Nat) := if i = to ∧ 0 < c.cut.toNat then [(i * S, c.cut.toNat)] else []
def pcB (S to i : Nat) (c : GCell) : List (Nat × Nat) := if c.oth.toNat = to ∧ c.cut.toNat < S then [(i * S + c.cut.toNat, S - c.cut.toNat)] else []
def pc1 (S to i : Nat) (c : GCell) : List (Nat × Nat) := pcA S to i c ++ pcB S to i c
/-- the pieces of the cells from number o on -/
def pcs (S to : Nat) : Nat → List GCell → List (Nat × Nat)
  | _, [] => []
  | o, c :: r => pc1 S to o c ++ pcs S to (o + 1) r
theorem pcs_append (S to : Nat) : ∀ (a b : List GCell) (o : Nat), pcs S to o (a ++ b) = pcs S to o a ++ pcs S to (o + a.length) b
  | [], b, o => by simp [pcs]
  | c :: r, b, o => by
    simp only [List.cons_append, pcs, pcs_append S to r b (o + 1), List.length_cons, List.append_assoc]
    rw [show o + 1 + r.length = o + (r.length + 1) from by omega]
theorem pcs_snoc (S to : Nat) (t : List GCell) (k : Nat) (hk : k < t.length) : pcs S to 0 (t.take (k + 1)) = pcs S to 0 (t.take k) ++ pc1 S to k t[k] := by
  rw [List.take_add_one, List.getElem?_eq_getElem hk, Option.toList_some, pcs_append, List.length_take, Nat.min_eq_left (by omega), Nat.zero_add]
  simp [pcs]
theorem pcs_rest (S to : Nat) (t : List GCell) (k : Nat) (hk : k < t.length) : pcs S to 0 t = pcs S to 0 (t.take k) ++ pc1 S to k t[k] ++ pcs S to (k + 1) (t.drop (k + 1)) := by
  rw [← pcs_snoc S to t k hk]
  have := pcs_append S to (t.take (k + 1)) (t.drop (k + 1)) 0
  rw [List.take_append_drop, List.length_take, Nat.min_eq_left (by omega), Nat.zero_add] at this
  exact this

set_option maxRecDepth 100000 in
set_option maxHeartbeats 1000000 in
theorem pieces_in (F : Fence) (n : Nat) (h1 : F.fn 53) (hro : F.round = none) (A : Option Addr) (len cap : Nat) (S to : Int) (w : World) :
    CallsIn F n Tryz.prog 53 #[.slice A len cap, .int .u64 S, .int .i64 to] w fun e w' => e = .returned (.func (.func 81) #[] #[.pointer (some ⟨w.heap.size, 0, none⟩), .pointer (some ⟨w.heap.size + 1, 0, none⟩), .pointer (some ⟨w.heap.size + 1 + 1, 0, none⟩)]) ∧
      w' = ((w.alloc (.cells #[.slice A len cap] 56)).alloc (.cells #[.int .u64 S] 23)).alloc (.cells #[.int .i64 to] 3) := by
  refine callsIn_of_wp Tryz.func53 rfl h1 ?_ hro
  simp only [Tryz.ntmps53, List.size_toArray, List.length_cons, List.length_nil, Nat.reduceAdd, Nat.reduceSub, Array.replicate_succ, Array.replicate_zero, List.push_toArray, List.append_toArray, List.nil_append, List.cons_append]
  gi_wp2
  go_ret
  exact ⟨rfl, rfl⟩

def encP (x : Nat × Nat) : Array Value := #[.agg #[.int .u64 (x.1 : Int), .int .u64 (x.2 : Int)]]

set_option maxRecDepth 100000 in
set_option maxHeartbeats 6400000 in
theorem pieces1_in (F : Fence) (n : Nat) (h7 : F.fn 81) (hro : F.round = none) (hn : 1 ≤ n) (l Bs B0 : Nat) (B : Nat → Prop) (A : Option Addr) (cap : Nat) (t : List GCell) (S to : Nat) (hl : t.length ≤ 1048576) (hS : S ≤ 2147483647) (hok : ∀ c ∈ t, c.cut.toNat ≤ S) (hto : to < 1048576) (J Jx : List (Nat × Nat) → World → Prop)
    (hBs : ∀ j, j < 3 → ¬ B (Bs + j)) (hBB : ∀ k, B k → B0 ≤ k)
    (hY : ∀ pre x W, J pre W → pre.length < (pcs S to 0 t).length → YieldAt F (n - 1) Tryz.prog l (encP x) W fun e W' =>
      (e = .returned (.bool true) ∧ J (pre ++ [x]) W' ∧ Kp B W W') ∨ (e = .returned (.bool false) ∧ Jx (pre ++ [x]) W'))
    (W : World) (hBW : ∀ k, B k → k < W.heap.size) (hJ : AbidesFrom W.heap.size J) (hc0 : W.cell? ⟨Bs, 0, none⟩ = some (.slice A t.length cap)) (hc1 : W.cell? ⟨Bs + 1, 0, none⟩ = some (.int .u64 (S : Int))) (hc2 : W.cell? ⟨Bs + 1 + 1, 0, none⟩ = some (.int .i64 (to : Int))) (hrow : ByC W B0 (.slice A t.length cap) t) (h0 : J [] W) :
    CallsIn F n Tryz.prog 81 #[.func (.yield l) #[] #[], .pointer (some ⟨Bs, 0, none⟩), .pointer (some ⟨Bs + 1, 0, none⟩), .pointer (some ⟨Bs + 1 + 1, 0, none⟩)] W fun e W' => (∃ v, e = .returned v) ∧
      ((∃ ys, ys = pcs S to 0 t ∧ J ys W') ∨ (∃ pre, pre <+: pcs S to 0 t ∧ Jx pre W')) := by
  obtain ⟨_, hl1, hl2⟩ := hrow.len_
  unfold maxLen at hl2
  have hB0' := hBs 0 (by omega)
  have hB1' := hBs 1 (by omega)
  have hB2' : ¬ B (Bs + 1 + 1) := hBs 2 (by omega)
  rw [Nat.add_zero] at hB0'
  have hsn := pcs_snoc S to t
  have hre := pcs_rest S to t
  have Hsn := Lib.hid hsn
  have Hre := Lib.hid hre
  have Hok := Lib.hid hok
  clear hsn hre hok hBs
  refine callsIn_of_wp Tryz.func81 rfl h7 ?_ hro
  simp only [Tryz.ntmps81, List.size_toArray, List.length_cons, List.length_nil, Nat.reduceAdd, Nat.reduceSub, Array.replicate_succ, Array.replicate_zero, List.push_toArray, List.append_toArray, List.nil_append, List.cons_append]
  gi_wp2
  gi_loopw [10] (fun i wr => ∃ k : Nat, k ≤ t.length ∧ i = .int .i64 k ∧ J (pcs S to 0 (t.take k)) wr ∧ Kp B W wr ∧ W.heap.size ≤ wr.heap.size)
    (fun i _ => t.length - (intOf i).toNat)
  case atStart => exact ⟨0, Nat.zero_le _, rfl, h0, Kp.refl _ _, Nat.le_refl _⟩
  case round =>
    obtain ⟨k, hk, rfl, hJs, hkp, hsz⟩ := hrel
    have Hkp := Lib.hid hkp
    by_cases hlt : k < t.length
    · obtain ⟨ad, rfl, hab, hx0, hx1⟩ := (hkp.byC hBB hrow).cells k hlt
      have hcu := Hok.out _ (List.getElem_mem hlt)
      have hot := u32_lt (t[k]).oth
      have hsnk := Hsn.out k hlt
      have hrek := Hre.out k hlt
      unfold pc1 pcA pcB at hsnk hrek
      generalize (t[k]).cut.toNat = cut at *
      generalize (t[k]).oth.toNat = oth at *
      have hm2 : k * S ≤ 1048576 * 2147483647 := Nat.mul_le_mul (by omega) hS
      have hmul : IntKind.u64.wrap ((k : Int) * (S : Int)) = ((k * S : Nat) : Int) := by
        rw [← Int.natCast_mul, wrap_u64]; omega
      have Hsnk := Lib.hid hsnk
      have Hrek := Lib.hid hrek
      clear hsnk hrek
      generalize hP : k * S = p at *
      clear hP
      have hbx := BoxAt.new_ 106 wr [.int .u64 (cut : Int), .int .u32 (oth : Int)]
      have Hbx := Lib.hid hbx
      have hd0 := hkp.cell hc0 hB0'
      have hd1 := hkp.cell hc1 hB1'
      have hd2 := hkp.cell hc2 hB2'
      have hJ1 : J (pcs S to 0 (t.take k)) (wr.alloc (.cells #[.int .u64 (cut : Int), .int .u32 (oth : Int)] 106)) := hJ _ _ _ none hJs (World.grownBy_alloc wr _ none) (fun r e => by cases e)
      have hk1 := Lib.hid (hkp.trans (Kp.alloc B wr (.cells #[.int .u64 (cut : Int), .int .u32 (oth : Int)] 106)))
      have hsz1 : W.heap.size ≤ (wr.alloc (.cells #[.int .u64 (cut : Int), .int .u32 (oth : Int)] 106)).heap.size := hk1.out.size
      have hgc : ¬ B wr.heap.size := fun hb => by have := hBW _ hb; omega
      have hJ1' := Lib.hid hJ1
      have hka := (Kp.alloc B wr (.cells #[.int .u64 (cut : Int), .int .u32 (oth : Int)] 106))
      have he1 := hka.cell hd1 hB1'
      have he2 := hka.cell hd2 hB2'
      have he0 := hka.cell hd0 hB0'
      clear hkp hbx hJs hJ1 hka
      have hlenK := Lib.hid hlt
      have hsub : IntKind.u64.wrap ((S : Int) - (cut : Int)) = ((S - cut : Nat) : Int) := by rw [wrap_u64]; omega
      have ecast : ((p + cut : Nat) : Int) = (p : Int) + (cut : Int) := by omega
      by_cases hA : k = to ∧ 0 < cut
      · obtain ⟨hA1, hA2⟩ := hA
        have hA3 : ((k : Int) == (to : Int)) = true := by simp [hA1]
        have hA4 : decide (0 < cut) = true := decide_eq_true hA2
        obtain ⟨fn, tmps, assign, body, hy, hR⟩ := hY _ (p, cut) _ hJ1'.out (by rw [Hrek.out, if_pos ⟨hA1, hA2⟩]; simp only [List.length_append, List.length_cons, List.length_nil]; omega)
        dsimp only [encP] at hy
        have HA : Hid (k = to ∧ 0 < cut) := ⟨hA1, hA2⟩
        clear hA1 hA2
        gi_wp2
        refine hR.mono ?_
        clear hR hy
        rintro e W3 (⟨rfl, hJ3, hk3⟩ | ⟨rfl, hJx3⟩)
        · have Hbx3 := Lib.hid (hk3.box hgc Hbx.out)
          have hw0 := Hbx3.out.cell 0 _ rfl
          have hw1 := Hbx3.out.cell 1 _ rfl
          have hf1 := hk3.cell he1 hB1'
          have hf2 := hk3.cell he2 hB2'
          have Hk3 := Lib.hid (hk1.out.trans hk3)
          have hsz3 : W.heap.size ≤ W3.heap.size := Hk3.out.size
          have HJ3 := Lib.hid hJ3
          clear hk3 hJ3 he0 he1 he2 hx0 hx1 hd0 hd1 hd2
          by_cases hBc : oth = to ∧ cut < S
          · obtain ⟨hB1, hB2⟩ := hBc
            have hB3 : ((oth : Int) == (to : Int)) = true := by simp [hB1]
            have hB4 : decide (cut < S) = true := decide_eq_true hB2
            obtain ⟨fn, tmps, assign, body, hy, hR⟩ := hY _ (p + cut, S - cut) _ HJ3.out (by rw [Hrek.out, if_pos HA.out, if_pos ⟨hB1, hB2⟩]; simp only [List.length_append, List.length_cons, List.length_nil]; omega)
            dsimp only [encP] at hy
            rw [ecast] at hy
            have HB : Hid (oth = to ∧ cut < S) := ⟨hB1, hB2⟩
            clear hB1 hB2
            gi_wp2
            refine hR.mono ?_
            clear hR hy
            rintro e W4 (⟨rfl, hJ4, hk4⟩ | ⟨rfl, hJx4⟩)
            · have HJ4 := Lib.hid hJ4
              have Hk4 := Lib.hid (Hk3.out.trans hk4)
              have hsz4 : W.heap.size ≤ W4.heap.size := Hk4.out.size
              clear hk4 hJ4 hw0 hw1 hf1 hf2
              gi_wp2
              go_roundw
              case rel => exact ⟨k + 1, by omega, by go_num, by rw [Hsnk.out, if_pos HA.out, if_pos HB.out]; simpa using HJ4.out, Hk4.out, hsz4⟩
              case measure => simp [intOf]; omega
            · gi_wp2
              refine bodyPost_ret (results_none rfl _ _ _) rfl ?_
              exact ⟨⟨_, rfl⟩, .inr ⟨_, ⟨pcs S to (k + 1) (t.drop (k + 1)), by rw [Hrek.out, if_pos HA.out, if_pos HB.out]; simp⟩, hJx4⟩⟩
          · have hB1 : ((oth : Int) == (to : Int)) = false ∨ (((oth : Int) == (to : Int)) = true ∧ decide (cut < S) = false) := by
              by_cases h : oth = to
              · right; exact ⟨by simp [h], decide_eq_false (fun h2 => hBc ⟨h, h2⟩)⟩
              · left; exact beq_eq_false_iff_ne.2 (by omega)
            have HB := Lib.hid hBc
            clear hBc
            rcases hB1 with hB1 | ⟨hB1, hB2⟩
            all_goals
              gi_wp2
              try (refine ⟨fun _ h => (by cases h), ?_⟩; gi_wp2)
              go_roundw
              case rel => exact ⟨k + 1, by omega, by go_num, by rw [Hsnk.out, if_pos HA.out, if_neg HB.out]; simpa using HJ3.out, Hk3.out, hsz3⟩
              case measure => simp [intOf]; omega
        · gi_wp2
          refine bodyPost_ret (results_none rfl _ _ _) rfl ?_
          exact ⟨⟨_, rfl⟩, .inr ⟨_, ⟨(if oth = to ∧ cut < S then [(p + cut, S - cut)] else []) ++ pcs S to (k + 1) (t.drop (k + 1)), by rw [Hrek.out, if_pos HA.out]; simp⟩, hJx3⟩⟩
      · have hA1 : ((k : Int) == (to : Int)) = false ∨ (((k : Int) == (to : Int)) = true ∧ decide (0 < cut) = false) := by
          by_cases h : k = to
          · right; exact ⟨by simp [h], decide_eq_false (fun h2 => hA ⟨h, h2⟩)⟩
          · left; exact beq_eq_false_iff_ne.2 (by omega)
        have HA := Lib.hid hA
        clear hA
        by_cases hBc : oth = to ∧ cut < S
        · obtain ⟨hB1, hB2⟩ := hBc
          have hB3 : ((oth : Int) == (to : Int)) = true := by simp [hB1]
          have hB4 : decide (cut < S) = true := decide_eq_true hB2
          obtain ⟨fn, tmps, assign, body, hy, hR⟩ := hY _ (p + cut, S - cut) _ hJ1'.out (by rw [Hrek.out, if_neg HA.out, if_pos ⟨hB1, hB2⟩]; simp only [List.length_append, List.length_cons, List.length_nil]; omega)
          dsimp only [encP] at hy
          rw [ecast] at hy
          have HB : Hid (oth = to ∧ cut < S) := ⟨hB1, hB2⟩
          clear hB1 hB2
          rcases hA1 with hA1 | ⟨hA1, hA2⟩
          all_goals
            gi_wp2
            try (refine ⟨fun _ h => (by cases h), ?_⟩; gi_wp2)
            refine hR.mono ?_
            clear hR hy
            rintro e W4 (⟨rfl, hJ4, hk4⟩ | ⟨rfl, hJx4⟩)
            · have HJ4 := Lib.hid hJ4
              have Hk4 := Lib.hid (hk1.out.trans hk4)
              have hsz4 : W.heap.size ≤ W4.heap.size := Hk4.out.size
              clear hk4 hJ4 he0 he1 he2 hx0 hx1 hd0 hd1 hd2
              gi_wp2
              go_roundw
              case rel => exact ⟨k + 1, by omega, by go_num, by rw [Hsnk.out, if_neg HA.out, if_pos HB.out]; simpa using HJ4.out, Hk4.out, hsz4⟩
              case measure => simp [intOf]; omega
            · gi_wp2
              refine bodyPost_ret (results_none rfl _ _ _) rfl ?_
              exact ⟨⟨_, rfl⟩, .inr ⟨_, ⟨pcs S to (k + 1) (t.drop (k + 1)), by rw [Hrek.out, if_neg HA.out, if_pos HB.out]; simp⟩, hJx4⟩⟩
        · have hB1 : ((oth : Int) == (to : Int)) = false ∨ (((oth : Int) == (to : Int)) = true ∧ decide (cut < S) = false) := by
            by_cases h : oth = to
            · right; exact ⟨by simp [h], decide_eq_false (fun h2 => hBc ⟨h, h2⟩)⟩
            · left; exact beq_eq_false_iff_ne.2 (by omega)
          have hnew : J (pcs S to 0 (t.take (k + 1))) (wr.alloc (.cells #[.int .u64 (cut : Int), .int .u32 (oth : Int)] 106)) := by
            rw [Hsnk.out, if_neg HA.out, if_neg hBc]; simpa using hJ1'.out
          have Hnew := Lib.hid hnew
          clear hnew hBc
          rcases hA1 with hA1 | ⟨hA1, hA2⟩ <;> rcases hB1 with hB1 | ⟨hB1, hB2⟩
          all_goals
            gi_wp2
            try (refine ⟨fun _ h => (by cases h), ?_⟩; gi_wp2)
            try (refine ⟨fun _ h => (by cases h), ?_⟩; gi_wp2)
            go_roundw
            case rel => exact ⟨k + 1, by omega, by go_num, Hnew.out, hk1.out, hsz1⟩
            case measure => simp [intOf]; omega
    · obtain rfl : k = t.length := by omega
      rw [List.take_length] at hJs
      clear hkp
      gi_wp2
      go_end0
      exact ⟨⟨_, rfl⟩, .inl ⟨_, rfl, hJs⟩⟩
end Go.Proofs.YtcffeepgfjpcaaaGreat

namespace Go.Proofs.YtcffeepgfjpcaaaGreat
set_option linter.unusedSimpArgs false
set_option linter.unusedVariables false
open Go.RowKit

def toP (W : Nat) (t : List GCell) (x : Nat) : Nat :=
  let c := (t[x / W]?).getD ⟨0, 0⟩
  if x % W < c.cut.toNat then x / W else c.oth.toNat
def metC (W : Nat) (t : List GCell) (k : Nat) : Nat → Nat
  | 0 => 0
  | x + 1 => metC W t k x + (if toP W t x = k then 1 else 0)
theorem metC_le (W : Nat) (t : List GCell) (k : Nat) : ∀ x, metC W t k x ≤ x
  | 0 => Nat.le_refl _
  | x + 1 => by
    have := metC_le W t k x
    rw [metC]
    split <;> omega
theorem metC_cell (W : Nat) (t : List GCell) (k i : Nat) (c : GCell) (hc : t[i]? = some c) (hcW : c.cut.toNat ≤ W) : ∀ m, m ≤ W → metC W t k (W * i + m) = metC W t k (W * i) + ((if i = k then min m c.cut.toNat else 0) + (if c.oth.toNat = k then m - min m c.cut.toNat else 0))
  | 0, _ => by simp
  | m + 1, h => by
    have ih := metC_cell W t k i c hc hcW m (by omega)
    rw [show W * i + (m + 1) = (W * i + m) + 1 from rfl, metC, ih]
    have hd : (W * i + m) / W = i := by rw [Nat.mul_add_div (by omega), Nat.div_eq_of_lt (by omega)]; rfl
    have hm : (W * i + m) % W = m := by rw [Nat.mul_add_mod, Nat.mod_eq_of_lt (by omega)]
    have ht : toP W t (W * i + m) = if m < c.cut.toNat then i else c.oth.toNat := by
      unfold toP
      simp only [hd, hm, hc, Option.getD_some]
    rw [ht]
    by_cases h1 : m < c.cut.toNat
    · rw [if_pos h1, Nat.min_eq_left (by omega), Nat.min_eq_left (by omega)]
      by_cases h2 : i = k
      · rw [if_pos h2, if_pos h2, if_pos h2]
        by_cases h3 : c.oth.toNat = k
        · rw [if_pos h3, if_pos h3]; omega
        · rw [if_neg h3, if_neg h3]; omega
      · rw [if_neg h2, if_neg h2, if_neg h2]
        by_cases h3 : c.oth.toNat = k
        · rw [if_pos h3, if_pos h3]; omega
        · rw [if_neg h3, if_neg h3]
    · rw [if_neg h1, Nat.min_eq_right (by omega), Nat.min_eq_right (by omega)]
      by_cases h3 : c.oth.toNat = k
      · rw [if_pos h3, if_pos h3, if_pos h3]; omega
      · rw [if_neg h3, if_neg h3, if_neg h3]; omega
theorem metC_take (W : Nat) (t : List GCell) (k : Nat) (hok : ∀ c ∈ t, c.cut.toNat ≤ W) : ∀ n, n ≤ t.length → metC W t k (W * n) = ncntF W k 0 (t.take n)
  | 0, _ => by simp [metC, ncntF]
  | n + 1, h => by
    have ih := metC_take W t k hok n (by omega)
    have hc := metC_cell W t k n t[n] (List.getElem?_eq_getElem (by omega)) (hok _ (List.getElem_mem _)) W (Nat.le_refl _)
    have hcW := hok _ (List.getElem_mem (show n < t.length by omega))
    rw [Nat.mul_succ, hc, ih, List.take_add_one, List.getElem?_eq_getElem (by omega), Option.toList_some, ncntF_snoc, List.length_take, Nat.min_eq_left (by omega : n ≤ t.length), Nat.zero_add]
    unfold ncell
    rw [Nat.min_comm]
theorem metC_all (W : Nat) (t : List GCell) (k : Nat) (hok : ∀ c ∈ t, c.cut.toNat ≤ W) : metC W t k (W * t.length) = ncntF W k 0 t := by
  rw [metC_take W t k hok _ (Nat.le_refl _), List.take_length]

theorem toP_at (S : Nat) (t : List GCell) (o m : Nat) (c : GCell) (hc : t[o]? = some c) (hm : m < S) : toP S t (S * o + m) = if m < c.cut.toNat then o else c.oth.toNat := by
  have hd : (S * o + m) / S = o := by rw [Nat.mul_add_div (by omega), Nat.div_eq_of_lt hm]; rfl
  have hmm : (S * o + m) % S = m := by rw [Nat.mul_add_mod, Nat.mod_eq_of_lt hm]
  unfold toP
  simp only [hd, hmm, hc, Option.getD_some]
theorem metC_mono (S : Nat) (t : List GCell) (k : Nat) : ∀ {a b : Nat}, a ≤ b → metC S t k a ≤ metC S t k b
  | a, 0, h => by rw [show a = 0 from by omega]; exact Nat.le_refl _
  | a, b + 1, h => by
    rcases Nat.lt_or_ge a (b + 1) with h1 | h1
    · have := metC_mono S t k (show a ≤ b by omega)
      rw [metC]; omega
    · rw [show a = b + 1 from by omega]; exact Nat.le_refl _
/-- of two draws that come to k the lower one has fewer below it -/
theorem metC_lt (S : Nat) (t : List GCell) (k a b : Nat) (ha : toP S t a = k) (hab : a < b) : metC S t k a < metC S t k b := by
  have h1 := metC_mono S t k (show a + 1 ≤ b by omega)
  rw [metC, if_pos ha] at h1
  omega
def remapL (y x : Nat) : List (Nat × Nat) → Option Nat
  | [] => none
  | p :: r => if x < p.1 + p.2 then (if p.1 ≤ x then some (y + (x - p.1)) else none) else remapL (y + p.2) x r
def backL (left : Nat) : List (Nat × Nat) → Option Nat
  | [] => none
  | p :: r => if left < p.2 then some (p.1 + left) else backL (left - p.2) r
theorem pcs_drop (S to : Nat) (t : List GCell) (o : Nat) (ho : o < t.length) : pcs S to o (t.drop o) = pcA S to o t[o] ++ (pcB S to o t[o] ++ pcs S to (o + 1) (t.drop (o + 1))) := by
  rw [List.drop_eq_getElem_cons ho, pcs, pc1, List.append_assoc]
theorem remapL_at (S to : Nat) (t : List GCell) (hok : ∀ c ∈ t, c.cut.toNat ≤ S) (y x : Nat) (hto : toP S t x = to) (hx : x < S * t.length) : ∀ (d o : Nat), o + d = t.length → S * o ≤ x → remapL (y + metC S t to (S * o)) x (pcs S to o (t.drop o)) = some (y + metC S t to x)
  | 0, o, hd, hox => by
    rw [show o = t.length from by omega] at hox
    omega
  | d + 1, o, hd, hox => by
    have ho : o < t.length := by omega
    have hcS := hok _ (List.getElem_mem ho)
    have hc : t[o]? = some t[o] := List.getElem?_eq_getElem ho
    rw [pcs_drop S to t o ho]
    generalize t[o] = c at *
    have hall := metC_cell S t to o c hc hcS S (Nat.le_refl _)
    rw [Nat.min_eq_right hcS] at hall
    have hS1 : S * (o + 1) = S * o + S := Nat.mul_succ S o
    rw [← hS1] at hall
    have hoS : o * S = S * o := Nat.mul_comm o S
    rcases Nat.lt_or_ge x (S * (o + 1)) with hlt | hge
    · obtain ⟨m, hm⟩ : ∃ m, x = S * o + m := ⟨x - S * o, by omega⟩
      have hmS : m < S := by omega
      have htp := toP_at S t o m c hc hmS
      have hmt := metC_cell S t to o c hc hcS m (by omega)
      rw [← hm] at htp hmt
      rw [hto] at htp
      by_cases h1 : m < c.cut.toNat
      · rw [if_pos h1] at htp
        rw [Nat.min_eq_left (by omega), if_pos htp.symm] at hmt
        unfold pcA
        rw [if_pos ⟨htp.symm, by omega⟩]
        simp only [List.cons_append, List.nil_append]
        rw [remapL, if_pos (by simp only; omega), if_pos (by simp only; omega), hmt]
        simp only [Nat.sub_self, ite_self]
        congr 1
        omega
      · rw [if_neg h1] at htp
        rw [Nat.min_eq_right (by omega), if_pos htp.symm] at hmt
        have hB : pcB S to o c = [(o * S + c.cut.toNat, S - c.cut.toNat)] := by unfold pcB; rw [if_pos ⟨htp.symm, by omega⟩]
        rw [hB]
        unfold pcA
        by_cases h2 : o = to ∧ 0 < c.cut.toNat
        · rw [if_pos h2]
          rw [if_pos h2.1] at hmt
          simp only [List.cons_append, List.nil_append]
          rw [remapL, if_neg (by simp only; omega), remapL, if_pos (by simp only; omega), if_pos (by simp only; omega), hmt]
          congr 1
          first | omega | (simp only; omega)
        · rw [if_neg h2]
          simp only [List.cons_append, List.nil_append]
          rw [remapL, if_pos (by simp only; omega), if_pos (by simp only; omega), hmt]
          congr 1
          try simp only
          by_cases h3 : o = to
          · rw [if_pos h3]; have : ¬ 0 < c.cut.toNat := fun h => h2 ⟨h3, h⟩; omega
          · rw [if_neg h3]; omega
    · have ih := remapL_at S to t hok y x hto hx d (o + 1) (by omega) hge
      rw [← ih, hall]
      unfold pcA pcB
      by_cases h2 : o = to ∧ 0 < c.cut.toNat
      · rw [if_pos h2, if_pos h2.1]
        simp only [List.cons_append, List.nil_append]
        rw [remapL, if_neg (by simp only; omega)]
        by_cases h3 : c.oth.toNat = to ∧ c.cut.toNat < S
        · rw [if_pos h3, if_pos h3.1]
          simp only [List.cons_append, List.nil_append]
          rw [remapL, if_neg (by simp only; omega)]
          congr 1
          first | omega | (simp only; omega)
        · rw [if_neg h3]
          simp only [List.nil_append]
          congr 1
          try simp only
          by_cases h4 : c.oth.toNat = to
          · rw [if_pos h4]; have : ¬ c.cut.toNat < S := fun h => h3 ⟨h4, h⟩; omega
          · rw [if_neg h4]; omega
      · rw [if_neg h2]
        simp only [List.nil_append]
        have hA : (if o = to then c.cut.toNat else 0) = 0 := by
          by_cases h5 : o = to
          · rw [if_pos h5]; have : ¬ 0 < c.cut.toNat := fun h => h2 ⟨h5, h⟩; omega
          · rw [if_neg h5]
        rw [hA]
        by_cases h3 : c.oth.toNat = to ∧ c.cut.toNat < S
        · rw [if_pos h3, if_pos h3.1]
          simp only [List.cons_append, List.nil_append]
          rw [remapL, if_neg (by simp only; omega)]
          congr 1
          first | omega | (simp only; omega)
        · rw [if_neg h3]
          simp only [List.nil_append]
          congr 1
          by_cases h4 : c.oth.toNat = to
          · rw [if_pos h4]; have : ¬ c.cut.toNat < S := fun h => h3 ⟨h4, h⟩; omega
          · rw [if_neg h4]; omega
theorem backL_at (S to : Nat) (t : List GCell) (hok : ∀ c ∈ t, c.cut.toNat ≤ S) (left : Nat) (hlt : left < metC S t to (S * t.length)) : ∀ (d o : Nat), o + d = t.length → metC S t to (S * o) ≤ left →
    ∃ x, backL (left - metC S t to (S * o)) (pcs S to o (t.drop o)) = some x ∧ toP S t x = to ∧ metC S t to x = left ∧ x < S * t.length
  | 0, o, hd, hol => by
    rw [show o = t.length from by omega] at hol
    omega
  | d + 1, o, hd, hol => by
    have ho : o < t.length := by omega
    have hcS := hok _ (List.getElem_mem ho)
    have hc : t[o]? = some t[o] := List.getElem?_eq_getElem ho
    rw [pcs_drop S to t o ho]
    generalize t[o] = c at *
    have hall := metC_cell S t to o c hc hcS S (Nat.le_refl _)
    rw [Nat.min_eq_right hcS] at hall
    have hS1 : S * (o + 1) = S * o + S := Nat.mul_succ S o
    have hSle : S * (o + 1) ≤ S * t.length := Nat.mul_le_mul (Nat.le_refl _) (by omega)
    rw [← hS1] at hall
    have hoS : o * S = S * o := Nat.mul_comm o S
    generalize hM : metC S t to (S * o) = M0 at *
    have hcell : ∀ m, m ≤ S → metC S t to (S * o + m) = M0 + ((if o = to then min m c.cut.toNat else 0) + (if c.oth.toNat = to then m - min m c.cut.toNat else 0)) := fun m hm => by rw [metC_cell S t to o c hc hcS m hm, hM]
    have hrest : ∀ q, q = (if o = to then c.cut.toNat else 0) + (if c.oth.toNat = to then S - c.cut.toNat else 0) → q ≤ left - M0 → ∃ x, backL (left - M0 - q) (pcs S to (o + 1) (t.drop (o + 1))) = some x ∧ toP S t x = to ∧ metC S t to x = left ∧ x < S * t.length := fun q hq h => by
      have ih := backL_at S to t hok left hlt d (o + 1) (by omega) (by omega)
      rw [hall, ← hq] at ih
      rwa [show left - M0 - q = left - (M0 + q) from by omega]
    have Hrest := Lib.hid hrest
    clear hrest
    unfold pcA pcB
    by_cases h2 : o = to ∧ 0 < c.cut.toNat
    · rw [if_pos h2]
      simp only [if_pos h2.1] at hcell
      simp only [List.cons_append, List.nil_append]
      rw [backL]
      by_cases h5 : left - M0 < c.cut.toNat
      · rw [if_pos h5]
        refine ⟨_, rfl, ?_, ?_, ?_⟩
        · simp only; rw [hoS, toP_at S t o (left - M0) c hc (by omega), if_pos h5]; exact h2.1
        · simp only; rw [hoS, hcell _ (by omega), Nat.min_eq_left (by omega), Nat.sub_self, ite_self]; omega
        · simp only; omega
      · rw [if_neg h5]
        by_cases h3 : c.oth.toNat = to ∧ c.cut.toNat < S
        · rw [if_pos h3]
          simp only [if_pos h3.1] at hcell
          simp only [List.cons_append, List.nil_append]
          rw [backL]
          by_cases h6 : left - M0 - c.cut.toNat < S - c.cut.toNat
          · rw [if_pos h6]
            refine ⟨_, rfl, ?_, ?_, ?_⟩
            · simp only; rw [show o * S + c.cut.toNat + (left - M0 - c.cut.toNat) = S * o + (left - M0) from by omega, toP_at S t o (left - M0) c hc (by omega), if_neg h5]; exact h3.1
            · simp only; rw [show o * S + c.cut.toNat + (left - M0 - c.cut.toNat) = S * o + (left - M0) from by omega, hcell _ (by omega), Nat.min_eq_right (by omega)]; omega
            · simp only; omega
          · rw [if_neg h6]
            rw [show left - M0 - c.cut.toNat - (S - c.cut.toNat) = left - M0 - (c.cut.toNat + (S - c.cut.toNat)) from by omega]
            exact Hrest.out _ (by rw [if_pos h2.1, if_pos h3.1]) (by omega)
        · rw [if_neg h3]
          have hB : (if c.oth.toNat = to then S - c.cut.toNat else 0) = 0 := by
            by_cases h4 : c.oth.toNat = to
            · rw [if_pos h4]; have : ¬ c.cut.toNat < S := fun h => h3 ⟨h4, h⟩; omega
            · rw [if_neg h4]
          simp only [List.nil_append]
          exact Hrest.out _ (by rw [hB, if_pos h2.1]; rfl) (by omega)
    · rw [if_neg h2]
      have hA : (if o = to then c.cut.toNat else 0) = 0 := by
        by_cases h5 : o = to
        · rw [if_pos h5]; have : ¬ 0 < c.cut.toNat := fun h => h2 ⟨h5, h⟩; omega
        · rw [if_neg h5]
      simp only [List.nil_append]
      by_cases h3 : c.oth.toNat = to ∧ c.cut.toNat < S
      · rw [if_pos h3]
        simp only [if_pos h3.1] at hcell
        simp only [List.cons_append, List.nil_append]
        rw [backL]
        by_cases h6 : left - M0 < S - c.cut.toNat
        · rw [if_pos h6]
          refine ⟨_, rfl, ?_, ?_, ?_⟩
          · simp only; rw [show o * S + c.cut.toNat + (left - M0) = S * o + (c.cut.toNat + (left - M0)) from by omega, toP_at S t o _ c hc (by omega), if_neg (by omega)]; exact h3.1
          · simp only; rw [show o * S + c.cut.toNat + (left - M0) = S * o + (c.cut.toNat + (left - M0)) from by omega, hcell _ (by omega), Nat.min_eq_right (by omega)]
            by_cases h5 : o = to
            · rw [if_pos h5] at hA ⊢; omega
            · rw [if_neg h5]; omega
          · simp only; omega
        · rw [if_neg h6]
          exact Hrest.out _ (by rw [hA, if_pos h3.1, Nat.zero_add]) (by omega)
      · rw [if_neg h3]
        have hB : (if c.oth.toNat = to then S - c.cut.toNat else 0) = 0 := by
          by_cases h4 : c.oth.toNat = to
          · rw [if_pos h4]; have : ¬ c.cut.toNat < S := fun h => h3 ⟨h4, h⟩; omega
          · rw [if_neg h4]
        simp only [List.nil_append]
        exact Hrest.out 0 (by rw [hA, hB]) (by omega)
end Go.Proofs.YtcffeepgfjpcaaaGreat

namespace Go.Proofs.YtcffeepgfjpcaaaGreat
set_option linter.unusedSimpArgs false
set_option linter.unusedVariables false
open Go.RowKit Go.Shelf
attribute [local go_sem] Oper.semAt_some

theorem pieces_stops (F : Fence) (n : Nat) (h7 : F.fn 81) (hro : F.round = none) (hn : 1 ≤ n) (Bs B0 : Nat) (B : Nat → Prop) (A : Option Addr) (cap : Nat) (t : List GCell) (S to : Nat) (hl : t.length ≤ 1048576) (hS : S ≤ 2147483647) (hok : ∀ c ∈ t, c.cut.toNat ≤ S) (hto : to < 1048576) (w : World)
    (hBs : Bs + 2 < w.heap.size) (hnB : ∀ j, j < 3 → ¬ B (Bs + j)) (hBB : ∀ k, B k → B0 ≤ k) (hBW : ∀ k, B k → k < w.heap.size) (hB0 : B0 ≤ w.heap.size)
    (hc0 : w.cell? ⟨Bs, 0, none⟩ = some (.slice A t.length cap)) (hc1 : w.cell? ⟨Bs + 1, 0, none⟩ = some (.int .u64 (S : Int))) (hc2 : w.cell? ⟨Bs + 1 + 1, 0, none⟩ = some (.int .i64 (to : Int))) (hrow : ByC w B0 (.slice A t.length cap) t) :
    SeqStopsK F n Tryz.prog 81 #[.pointer (some ⟨Bs, 0, none⟩), .pointer (some ⟨Bs + 1, 0, none⟩), .pointer (some ⟨Bs + 1 + 1, 0, none⟩)] encP (Kp B) (fun ys => ys = pcs S to 0 t)
      (fun pre => pre <+: pcs S to 0 t) (pcs S to 0 t).length w := fun l J Jx W hW hJ _ hY h0 =>
  pieces1_in F n h7 hro hn l Bs B0 B A cap t S to hl hS hok hto J Jx hnB hBB hY W (fun k hk => Nat.lt_of_lt_of_le (hBW k hk) hW.size) hJ ((hW.cell (p := ⟨Bs, 0, none⟩) (by show Bs < _; omega)).trans hc0) ((hW.cell (p := ⟨Bs + 1, 0, none⟩) (by show Bs + 1 < _; omega)).trans hc1) ((hW.cell (p := ⟨Bs + 1 + 1, 0, none⟩) (by show Bs + 1 + 1 < _; omega)).trans hc2) (hrow.below (hW.mono hB0)) h0

/-- what the loop adds up, and where it ends -/
def ysum (y0 : Int) (pre : List (Nat × Nat)) : Int := pre.foldl (fun s p => IntKind.u64.wrap (s + (p.2 : Int))) y0
theorem ysum_snoc (y0 : Int) (pre : List (Nat × Nat)) (p : Nat × Nat) : ysum y0 (pre ++ [p]) = IntKind.u64.wrap (ysum y0 pre + (p.2 : Int)) := by simp [ysum]
def rmp (l : List GArc) (t : List GCell) (x : Nat) : Nat × Bool :=
  if (palias l t x).2 = true ∧ mayOk l t = true then (frontAt l (palias l t x).1 + metC (gsum l) t (palias l t x).1 x, true) else (0, false)
theorem palias_toP {l : List GArc} {t : List GCell} {x : Nat} (h : (palias l t x).2 = true) : toP (gsum l) t x = (palias l t x).1 := by
  by_cases hc : l.length = t.length ∧ x < ptotal l
  · obtain ⟨hg, hW0, hk, hW1⟩ := ptotal_pos hc.2
    have hk2 : x / gsum l < t.length := by omega
    rw [palias_yes hc.1 hc.2 hk2] at h ⊢
    unfold toP
    simp only [List.getElem?_eq_getElem hk2, Option.getD_some]
    split
    · rfl
    · rename_i h1
      rw [if_neg h1] at h
      split
      · rfl
      · rename_i h2
        rw [if_neg h2] at h
        cases h
  · rw [palias_no hc] at h; cases h
theorem pcs_b (S to : Nat) : ∀ (t : List GCell) (o : Nat), (∀ c ∈ t, c.cut.toNat ≤ S) → (∀ p ∈ pcs S to o t, p.1 + p.2 ≤ (o + t.length) * S) ∧ ((pcs S to o t).map (·.2)).sum ≤ t.length * S
  | [], o, _ => by simp [pcs]
  | c :: r, o, h => by
    have hc := h c (by simp)
    obtain ⟨ih1, ih2⟩ := pcs_b S to r (o + 1) fun c hc => h c (by simp [hc])
    have e1 : (o + (c :: r).length) * S = (o + 1 + r.length) * S := by rw [List.length_cons]; congr 1; omega
    have e2 : (o + 1) * S ≤ (o + 1 + r.length) * S := Nat.mul_le_mul (by omega) (Nat.le_refl _)
    have e3 : (o + 1) * S = o * S + S := Nat.succ_mul o S
    have e4 : (c :: r).length * S = r.length * S + S := by rw [List.length_cons, Nat.succ_mul]
    rw [e1, e4]
    refine ⟨fun p hp => ?_, ?_⟩
    · rw [pcs, pc1, List.mem_append, List.mem_append] at hp
      rcases hp with (hp | hp) | hp
      · unfold pcA at hp
        split at hp
        · simp at hp; subst hp; simp only; omega
        · simp at hp
      · unfold pcB at hp
        split at hp
        · simp at hp; subst hp; simp only; omega
        · simp at hp
      · exact ih1 p hp
    · rw [pcs, pc1, List.map_append, List.map_append, List.sum_append, List.sum_append]
      have hA : ((pcA S to o c).map (·.2)).sum ≤ c.cut.toNat := by
        unfold pcA; split <;> simp
      have hB : ((pcB S to o c).map (·.2)).sum ≤ S - c.cut.toNat := by
        unfold pcB; split <;> simp
      omega
theorem palias_lt {l : List GArc} {t : List GCell} {x : Nat} (h : (palias l t x).2 = true) : (palias l t x).1 < l.length ∧ x < ptotal l ∧ l.length = t.length := by
  by_cases hc : l.length = t.length ∧ x < ptotal l
  · refine ⟨?_, hc.2, hc.1⟩
    obtain ⟨hg, hW0, hk, hW1⟩ := ptotal_pos hc.2
    have hk2 : x / gsum l < t.length := by omega
    rw [palias_yes hc.1 hc.2 hk2] at h ⊢
    split
    · exact hk
    · rename_i h1
      rw [if_neg h1] at h
      split
      · assumption
      · rename_i h2
        rw [if_neg h2] at h
        cases h
  · rw [palias_no hc] at h; cases h
theorem mayOk_cut {l : List GArc} {t : List GCell} (h : mayOk l t = true) : ∀ c ∈ t, c.cut.toNat ≤ gsum l := by
  have hg : cgood (gsum l) t.length t = true := by
    cases hc : cgood (gsum l) t.length t with
    | true => rfl
    | false => rw [mayOk_no3 hc] at h; cases h
  intro c hc
  have := List.all_eq_true.1 hg c hc
  simp at this
  exact this.1
/-- what the program's test and sum say, is what is meant -/
theorem remap_none (x : Nat) : ∀ (ps : List (Nat × Nat)) (y : Nat), (∀ p ∈ ps, p.1 + p.2 < 18446744073709551616) → (∀ p ∈ ps, decide ((x : Int) < IntKind.u64.wrap ((p.1 : Int) + (p.2 : Int))) = false) → remapL y x ps = none
  | [], _, _, _ => rfl
  | p :: r, y, hb, h => by
    have h1 := h p (by simp)
    have h2 := hb p (by simp)
    have h3 : ¬ x < p.1 + p.2 := by
      rw [decide_eq_false_iff_not, wrap_u64] at h1
      omega
    rw [remapL, if_neg h3]
    exact remap_none x r _ (fun p hp => hb p (by simp [hp])) (fun p hp => h p (by simp [hp]))
theorem remap_some (x : Nat) : ∀ (ini : List (Nat × Nat)) (last : Nat × Nat) (rest : List (Nat × Nat)) (y : Nat), (∀ p ∈ ini ++ [last], p.1 + p.2 < 18446744073709551616) → y + ((ini.map (·.2)).sum) < 18446744073709551616 → (∀ p ∈ ini, decide ((x : Int) < IntKind.u64.wrap ((p.1 : Int) + (p.2 : Int))) = false) →
    decide ((x : Int) < IntKind.u64.wrap ((last.1 : Int) + (last.2 : Int))) = true → remapL y x (ini ++ [last] ++ rest) = (if last.1 ≤ x then some (y + (ini.map (·.2)).sum + (x - last.1)) else none) ∧ ysum (y : Int) ini = ((y + (ini.map (·.2)).sum : Nat) : Int)
  | [], last, rest, y, hb, hs, h, hl => by
    have h2 := hb last (by simp)
    have h3 : x < last.1 + last.2 := by
      rw [decide_eq_true_eq, wrap_u64] at hl
      omega
    simp [remapL, h3, ysum]
  | p :: r, last, rest, y, hb, hs, h, hl => by
    have h1 := h p (by simp)
    have h2 := hb p (by simp)
    have h3 : ¬ x < p.1 + p.2 := by
      rw [decide_eq_false_iff_not, wrap_u64] at h1
      omega
    simp only [List.map_cons, List.sum_cons] at hs ⊢
    have ih := remap_some x r last rest (y + p.2) (fun q hq => hb q (by simp at hq ⊢; rcases hq with hq | hq <;> simp [hq])) (by omega) (fun q hq => h q (by simp [hq])) hl
    simp only [List.cons_append]
    rw [remapL, if_neg h3, ih.1]
    refine ⟨by rw [show y + (p.2 + (List.map (fun x => x.2) r).sum) = y + p.2 + (List.map (fun x => x.2) r).sum from by omega], ?_⟩
    show ysum (IntKind.u64.wrap ((y : Int) + (p.2 : Int))) r = _
    rw [show IntKind.u64.wrap ((y : Int) + (p.2 : Int)) = ((y + p.2 : Nat) : Int) from by rw [wrap_u64]; omega, ih.2]
    omega

set_option maxRecDepth 100000 in
set_option maxHeartbeats 6400000 in
theorem remap_any (w : World) (B0 : Nat) (v v2 : Value) (l : List GArc) (t : List GCell) (x : Nat) (hx : x < 18446744073709551616) (hl : l.length ≤ 1048576) (ht : t.length ≤ 1048576) (h : ByA w B0 v l) (h2 : ByC w B0 v2 t) (hB : B0 ≤ w.heap.size) :
    Calls Tryz.prog 25 #[v, v2, .int .u64 (x : Int)] w fun e w' => e = .returned (.tuple #[.int .u64 ((rmp l t x).1 : Nat), .bool (rmp l t x).2]) ∧ Below w.heap.size w w' := by
  obtain ⟨A, c, rfl, hc1, hc2⟩ := h.form
  obtain ⟨A2, c2, rfl, hd1, hd2⟩ := h2.form
  unfold maxLen at hc2 hd2
  have hbx0 := BoxAt.new_ 23 w [.int .u64 (x : Int)]
  have hbx1 := hbx0.alloc (.cells #[.int .u64 0] 23)
  have hbx2 := hbx1.alloc (.cells #[.bool false] 4)
  have hby0 := BoxAt.new_ 23 (w.alloc (.cells #[.int .u64 (x : Int)] 23)) [.int .u64 0]
  have hby1 := hby0.alloc (.cells #[.bool false] 4)
  have hbz0 := BoxAt.new_ 4 ((w.alloc (.cells #[.int .u64 (x : Int)] 23)).alloc (.cells #[.int .u64 0] 23)) [.bool false]
  rw [World.size_alloc] at hby1
  rw [World.size_alloc, World.size_alloc] at hbz0
  have hb03 := bstep (bstep (balloc w (.cells #[.int .u64 (x : Int)] 23)) (balloc _ (.cells #[.int .u64 0] 23))) (balloc _ (.cells #[.bool false] 4))
  have hz3 : (((w.alloc (.cells #[.int .u64 (x : Int)] 23)).alloc (.cells #[.int .u64 0] 23)).alloc (.cells #[.bool false] 4)).heap.size = w.heap.size + 3 := by simp
  refine (callsIn_wide (n := 5)).1 ?_
  refine callsIn_of_wp_marks Tryz.func25 rfl trivial ?_ rfl
  simp only [Tryz.ntmps25, List.size_toArray, List.length_cons, List.length_nil, Nat.reduceAdd, Nat.reduceSub, Array.replicate_succ, Array.replicate_zero, List.push_toArray, List.append_toArray, List.nil_append, List.cons_append]
  gi_wp2
  generalize ((w.alloc (.cells #[.int .u64 (x : Int)] 23)).alloc (.cells #[.int .u64 0] 23)).alloc (.cells #[.bool false] 4) = w3 at *
  have hpa := palias_any w3 B0 B0 _ _ l t x hx (by omega) (by omega) (h.below (hb03.mono hB)) (h2.below (hb03.mono hB)) (by omega) (by omega)
  have Hpa := Lib.hid hpa
  have Hb03 := Lib.hid hb03
  have Hx2 := Lib.hid hbx2
  have Hy1 := Lib.hid hby1
  have Hz0 := Lib.hid hbz0
  have H1 := Lib.hid h
  have H2 := Lib.hid h2
  clear hpa hb03 hbx0 hbx1 hbx2 hby0 hby1 hbz0 h h2
  have hlt := @palias_lt l t x
  have htp := @palias_toP l t x
  have hrm : rmp l t x = if (palias l t x).2 = true ∧ mayOk l t = true then (frontAt l (palias l t x).1 + metC (gsum l) t (palias l t x).1 x, true) else (0, false) := rfl
  have Hlt := Lib.hid hlt
  have Htp := Lib.hid htp
  have Hrm := Lib.hid hrm
  clear hlt htp hrm
  generalize hRR : rmp l t x = R at *
  have HRR := Lib.hid hRR
  clear hRR
  generalize (palias l t x).1 = to at *
  generalize (palias l t x).2 = ok at *
  refine ⟨trivial, ?_⟩
  refine (callsIn_wide.2 Hpa.out).mono ?_
  rintro _ w4 ⟨rfl, hb4⟩
  have hb04 := Hb03.out.trans (hb4.mono (by omega))
  have hz4 := hb4.size
  have Hx4 := Lib.hid (Hx2.out.below (by omega) hb4)
  have Hy4 := Lib.hid (Hy1.out.below (by omega) hb4)
  have Hz4 := Lib.hid (Hz0.out.below (by omega) hb4)
  have Hb04 := Lib.hid hb04
  clear hb4 hb04 Hx2 Hy1 Hz0 Hb03 Hpa
  cases ok with
  | false =>
    have hR := Hrm.out
    rw [if_neg (by simp)] at hR
    have HR := Lib.hid hR
    have hy1 := Hy4.out.frozen 0
    have hz1 := Hz4.out.frozen 0
    have hy2 := Hy4.out.cell 0 _ rfl
    have hz2 := Hz4.out.cell 0 _ rfl
    clear hR
    gi_wp2
    refine ⟨trivial, ?_⟩
    gi_wp2
    have hy5 := (Hy4.out.put 0 (.int .u64 0)).other ⟨w.heap.size + 1 + 1, 0, none⟩ (.bool false) (by show w.heap.size + 1 + 1 ≠ w.heap.size + 1; omega)
    have hz5 := (Hz4.out.other ⟨w.heap.size + 1, 0, none⟩ (.int .u64 0) (by show w.heap.size + 1 ≠ w.heap.size + 1 + 1; omega)).put 0 (.bool false)
    have hy6 := hy5.cell 0 _ rfl
    have hz6 := hz5.cell 0 _ rfl
    have hb5 := (Hb04.out.setCell (p := ⟨w.heap.size + 1, 0, none⟩) (by show w.heap.size ≤ w.heap.size + 1; omega) (.int .u64 0)).setCell (p := ⟨w.heap.size + 1 + 1, 0, none⟩) (by show w.heap.size ≤ w.heap.size + 1 + 1; omega) (.bool false)
    refine ⟨.tuple #[.int .u64 0, .bool false], ?_, by rw [HRR.out, HR.out]; rfl, hb5⟩
    simp [results, Tryz.f25, go_sem, hy6, hz6]
    try rfl
  | true =>
    obtain ⟨hto, hxt, hlt⟩ := Hlt.out rfl
    have Htp1 := Lib.hid (Htp.out rfl)
    clear Hlt Htp
    obtain ⟨hgm, hW0, hk0, hW1⟩ := ptotal_pos hxt
    have Hpt : Hid (ptotal l = gsum l * l.length) := by show ptotal l = _; unfold ptotal; rw [if_pos hgm]
    have Hxt := Lib.hid hxt
    have Hlt := Lib.hid hlt
    clear hgm hk0 hxt hlt
    have hmy := amay_any w4 B0 B0 (.slice A l.length c) (.slice A2 t.length c2) l t (by omega) (by omega) (H1.out.below (Hb04.out.mono hB)) (H2.out.below (Hb04.out.mono hB)) (by omega) (by omega)
    have hcut := @mayOk_cut l t
    have Hcut := Lib.hid hcut
    have Hmy := Lib.hid hmy
    clear hmy hcut
    generalize mayOk l t = my at *
    gi_wp2
    refine ⟨trivial, ?_⟩
    refine (callsIn_wide.2 Hmy.out).mono ?_
    rintro _ w5 ⟨rfl, hb5⟩
    have hb05 := Hb04.out.trans (hb5.mono (by omega))
    have hz5 := hb5.size
    have Hx5 := Lib.hid (Hx4.out.below (by omega) hb5)
    have Hy5 := Lib.hid (Hy4.out.below (by omega) hb5)
    have Hz5 := Lib.hid (Hz4.out.below (by omega) hb5)
    have Hb05 := Lib.hid hb05
    clear hb5 hb05 Hx4 Hy4 Hz4 Hb04 Hmy
    cases my with
    | false =>
      have hR := Hrm.out
      rw [if_neg (by simp)] at hR
      have HR := Lib.hid hR
      have hy1 := Hy5.out.frozen 0
      have hz1 := Hz5.out.frozen 0
      have hy2 := Hy5.out.cell 0 _ rfl
      have hz2 := Hz5.out.cell 0 _ rfl
      clear hR
      gi_wp2
      have hy5 := (Hy5.out.put 0 (.int .u64 0)).other ⟨w.heap.size + 1 + 1, 0, none⟩ (.bool false) (by show w.heap.size + 1 + 1 ≠ w.heap.size + 1; omega)
      have hz5 := (Hz5.out.other ⟨w.heap.size + 1, 0, none⟩ (.int .u64 0) (by show w.heap.size + 1 ≠ w.heap.size + 1 + 1; omega)).put 0 (.bool false)
      have hy6 := hy5.cell 0 _ rfl
      have hz6 := hz5.cell 0 _ rfl
      have hb5 := (Hb05.out.setCell (p := ⟨w.heap.size + 1, 0, none⟩) (by show w.heap.size ≤ w.heap.size + 1; omega) (.int .u64 0)).setCell (p := ⟨w.heap.size + 1 + 1, 0, none⟩) (by show w.heap.size ≤ w.heap.size + 1 + 1; omega) (.bool false)
      refine ⟨.tuple #[.int .u64 0, .bool false], ?_, by rw [HRR.out, HR.out]; rfl, hb5⟩
      simp [results, Tryz.f25, go_sem, hy6, hz6]
      try rfl
    | true =>
      have hcut := Hcut.out rfl
      have Hcut2 := Lib.hid hcut
      clear hcut Hcut
      have hR := Hrm.out
      rw [if_pos (by simp)] at hR
      have HR := Lib.hid hR
      clear hR Hrm
      have hfr := front_any w5 B0 (.slice A l.length c) l to hto hl hW1 (H1.out.below (Hb05.out.mono hB)) (by omega)
      have Hfr := Lib.hid hfr
      clear hfr
      gi_wp2
      refine ⟨trivial, ?_⟩
      refine (callsIn_wide.2 Hfr.out).mono ?_
      rintro _ w6 ⟨rfl, hb6⟩
      have hb06 := Hb05.out.trans (hb6.mono (by omega))
      have hz6 := hb6.size
      have hx6 := Hx5.out.below (by omega) hb6
      have hy6 := Hy5.out.below (by omega) hb6
      have hz6b := Hz5.out.below (by omega) hb6
      have hf6 : frontAt l to ≤ 1048576 * 2147483647 := Nat.mul_le_mul hl (Nat.le_trans (gsum_take_le l to) hW1)
      have hqb := BoxAt.new_ 23 w6 [.int .u64 (frontAt l to : Nat)]
      have hba := balloc w6 (.cells #[.int .u64 (frontAt l to : Nat)] 23)
      have Hq7 := Lib.hid hqb
      have Hx7 := Lib.hid (hx6.alloc (.cells #[.int .u64 (frontAt l to : Nat)] 23))
      have Hy7 := Lib.hid (hy6.alloc (.cells #[.int .u64 (frontAt l to : Nat)] 23))
      have Hz7 := Lib.hid (hz6b.alloc (.cells #[.int .u64 (frontAt l to : Nat)] 23))
      have Hb07 := Lib.hid (hb06.trans (hba.mono (by omega)))
      clear hb6 hb06 hx6 hy6 hz6b hqb hba Hx5 Hy5 Hz5 Hb05 Hfr
      gi_wp2
      generalize hg6 : w6.heap.size = g6 at *
      have hz7 : (w6.alloc (.cells #[.int .u64 (frontAt l to : Nat)] 23)).heap.size = g6 + 1 := by simp [hg6]
      generalize w6.alloc (.cells #[.int .u64 (frontAt l to : Nat)] 23) = w7 at *
      refine ⟨trivial, ?_⟩
      refine (callsIn_wide.2 (gsum_any w7 B0 (.slice A l.length c) l (by omega) (H1.out.below (Hb07.out.mono hB)) (by omega))).mono ?_
      rintro _ w8 ⟨rfl, hb8⟩
      have hz8 := hb8.size
      have hx8 := Hx7.out.below (by omega) hb8
      have hy8 := Hy7.out.below (by omega) hb8
      have hz8b := Hz7.out.below (by omega) hb8
      have hq8 := Hq7.out.below (by omega) hb8
      have hb08 := Hb07.out.trans (hb8.mono (by omega))
      have Hx8 := Lib.hid hx8
      have Hy8 := Lib.hid hy8
      have Hz8 := Lib.hid hz8b
      have Hq8 := Lib.hid hq8
      have Hb08 := Lib.hid hb08
      clear hx8 hy8 hz8b hq8 hb08 hb8 Hx7 Hy7 Hz7 Hq7 Hb07
      gi_wp2
      refine ⟨trivial, ?_⟩
      refine (pieces_in Fence.wide 4 trivial rfl _ _ _ _ _ _).mono ?_
      rintro _ _ ⟨rfl, rfl⟩
      gi_wp2
      have hp0 := BoxAt.new_ 56 w8 [.slice A2 t.length c2]
      have hp1 := BoxAt.new_ 23 (w8.alloc (.cells #[.slice A2 t.length c2] 56)) [.int .u64 (gsum l : Nat)]
      have hp2 := BoxAt.new_ 3 ((w8.alloc (.cells #[.slice A2 t.length c2] 56)).alloc (.cells #[.int .u64 (gsum l : Nat)] 23)) [.int .i64 (to : Int)]
      rw [World.size_alloc] at hp1
      rw [World.size_alloc, World.size_alloc] at hp2
      have hp0' := (hp0.alloc (.cells #[.int .u64 (gsum l : Nat)] 23)).alloc (.cells #[.int .i64 (to : Int)] 3)
      have hp1' := hp1.alloc (.cells #[.int .i64 (to : Int)] 3)
      have hba9 := bstep (bstep (balloc w8 (.cells #[.slice A2 t.length c2] 56)) (balloc _ (.cells #[.int .u64 (gsum l : Nat)] 23))) (balloc _ (.cells #[.int .i64 (to : Int)] 3))
      have hz9 : (((w8.alloc (.cells #[.slice A2 t.length c2] 56)).alloc (.cells #[.int .u64 (gsum l : Nat)] 23)).alloc (.cells #[.int .i64 (to : Int)] 3)).heap.size = w8.heap.size + 3 := by simp
      have hx9 := ((Hx8.out.alloc (.cells #[.slice A2 t.length c2] 56)).alloc (.cells #[.int .u64 (gsum l : Nat)] 23)).alloc (.cells #[.int .i64 (to : Int)] 3)
      have hy9 := ((Hy8.out.alloc (.cells #[.slice A2 t.length c2] 56)).alloc (.cells #[.int .u64 (gsum l : Nat)] 23)).alloc (.cells #[.int .i64 (to : Int)] 3)
      have hz9b := ((Hz8.out.alloc (.cells #[.slice A2 t.length c2] 56)).alloc (.cells #[.int .u64 (gsum l : Nat)] 23)).alloc (.cells #[.int .i64 (to : Int)] 3)
      have hq9 := ((Hq8.out.alloc (.cells #[.slice A2 t.length c2] 56)).alloc (.cells #[.int .u64 (gsum l : Nat)] 23)).alloc (.cells #[.int .i64 (to : Int)] 3)
      have hb09 := Hb08.out.trans (hba9.mono (by omega))
      generalize ((w8.alloc (.cells #[.slice A2 t.length c2] 56)).alloc (.cells #[.int .u64 (gsum l : Nat)] 23)).alloc (.cells #[.int .i64 (to : Int)] 3) = w9 at *
      generalize hg8 : w8.heap.size = g8 at *
      have hc0 := hp0'.cell 0 _ rfl
      have hc1' := hp1'.cell 0 _ rfl
      have hc2' := hp2.cell 0 _ rfl
      have Hx9 := Lib.hid hx9
      have Hy9 := Lib.hid hy9
      have Hz9 := Lib.hid hz9b
      have Hq9 := Lib.hid hq9
      have Hb09 := Lib.hid hb09
      clear hp0 hp1 hp2 hp0' hp1' hba9 hx9 hy9 hz9b hq9 hb09 Hx8 Hy8 Hz8 Hq8 Hb08
      refine wpIn_rangeFunc_ownH rfl (by omega) (gf := 81) (lb := #[.pointer (some ⟨g8, 0, none⟩), .pointer (some ⟨g8 + 1, 0, none⟩), .pointer (some ⟨g8 + 1 + 1, 0, none⟩)]) rfl trivial (enters_of Tryz.func81 (by kernel_rfl) rfl)
        (pieces_stops Fence.wide 4 trivial rfl (by omega) g8 B0 (fun k => k = g6) A2 c2 t (gsum l) to (by omega) hW1 Hcut2.out (by omega) w9 (by omega) (fun j hj => by omega) (by rintro k rfl; omega) (by rintro k rfl; omega) (by omega) hc0 hc1' hc2' (H2.out.below (Hb09.out.mono hB))) Kp.trans (fun W l o o' h1 h2 h3 h4 => Kp.putObj _ w9.heap.size W l o o' h1 h2 h3 h4) (Below.refl _ _) (fun _ => rfl)
        (fun pre W => ((∀ p ∈ pre, decide ((x : Int) < IntKind.u64.wrap ((p.1 : Int) + (p.2 : Int))) = false) ∧ BoxAt 23 W g6 [.int .u64 (ysum (frontAt l to : Nat) pre)] ∧ BoxAt 23 W w.heap.size [.int .u64 (x : Int)] ∧ BoxAt 23 W (w.heap.size + 1) [.int .u64 0] ∧ BoxAt 4 W (w.heap.size + 1 + 1) [.bool false] ∧ w9.heap.size ≤ W.heap.size) ∧ Below w.heap.size w W)
        (fun cd pre W => (cd = .ret ∧ ∃ ini last, pre = ini ++ [last] ∧ (∀ p ∈ ini, decide ((x : Int) < IntKind.u64.wrap ((p.1 : Int) + (p.2 : Int))) = false) ∧ decide ((x : Int) < IntKind.u64.wrap ((last.1 : Int) + (last.2 : Int))) = true ∧ BoxAt 23 W (w.heap.size + 1) [.int .u64 (IntKind.u64.wrap (IntKind.u64.wrap (ysum (frontAt l to : Nat) ini + (x : Int)) - (last.1 : Int)))] ∧ BoxAt 4 W (w.heap.size + 1 + 1) [.bool true]) ∧ Below w.heap.size w W)
        (OwnFrom.and (Own.from (fun s X Y row hs hg hr => ⟨hs.1, hs.2.1.ownk hg hr, hs.2.2.1.ownk hg hr, hs.2.2.2.1.ownk hg hr, hs.2.2.2.2.1.ownk hg hr, Nat.le_trans hs.2.2.2.2.2 hg.size⟩) _) (ownFrom_below (Nat.le_refl _) (by omega)))
        (fun cd => OwnFrom.and (Own.from (fun s X Y row hs hg hr => by obtain ⟨e0, ini, last, e1, e2, e3, e4, e5⟩ := hs; exact ⟨e0, ini, last, e1, e2, e3, e4.ownk hg hr, e5.ownk hg hr⟩) _) (ownFrom_below (Nat.le_refl _) (by omega)))
        ⟨⟨by simp, Hq9.out, Hx9.out, Hy9.out, Hz9.out, Nat.le_refl _⟩, Hb09.out⟩
        (fun p a' W => ∃ Bx, w9.heap.size ≤ Bx ∧ BoxAt 118 W Bx [.int .u64 (p.1 : Int), .int .u64 (p.2 : Int)] ∧ a' = { tmps := #[.slice A l.length c, .slice A2 t.length c2, .int .u64 (x : Int), undef, undef, .pointer (some ⟨w.heap.size, 0, none⟩), .pointer (some ⟨w.heap.size + 1, 0, none⟩), .pointer (some ⟨w.heap.size + 1 + 1, 0, none⟩), .int .i64 (to : Int), .bool true, .pointer (some ⟨g6, 0, none⟩), .pointer (some ⟨Bx, 0, none⟩),
          .tuple #[.int .i64 (to : Int), .bool true], .slice A l.length c, .slice A2 t.length c2, .int .u64 (x : Int), .tuple #[.int .i64 (to : Int), .bool true], .int .i64 (to : Int), .bool true, .bool true, .bool false, .bool false, .slice A l.length c, .slice A2 t.length c2, .bool true, .bool false, .bool false, .slice A l.length c, .int .i64 (to : Int),
          .int .u64 (frontAt l to : Nat), .slice A2 t.length c2, .slice A l.length c, .int .u64 (gsum l : Nat), .int .i64 (to : Int), .func (.func 81) #[] #[.pointer (some ⟨g8, 0, none⟩), .pointer (some ⟨g8 + 1, 0, none⟩), .pointer (some ⟨g8 + 1 + 1, 0, none⟩)], .agg #[.int .u64 (p.1 : Int), .int .u64 (p.2 : Int)],
          undef, undef, undef, undef, undef, undef, undef, undef, undef, undef, undef, undef, undef, undef, undef, undef, undef], defers := [] })
        (fun p a' _ X Y row hs hg hr => by obtain ⟨Bx, h1, h2, h3⟩ := hs; exact ⟨Bx, h1, h2.ownk hg (fun r e => (hr r e).2), h3⟩)
        ?assign ?body ?done ?stop
      case assign =>
        rintro lq pre p W K ⟨⟨i1, i2, i3, i4, i5, i6⟩, hBW⟩ hK
        dsimp only [encP]
        gi_wp2
        exact hK _ _ ((KeepsOthers.alloc _ _).from _) (Kp.alloc _ _ _) ⟨⟨i1, i2.alloc _, i3.alloc _, i4.alloc _, i5.alloc _, by simp; omega⟩, hBW.alloc hBW.size _⟩ ⟨W.heap.size, i6, BoxAt.new_ 118 W _, rfl⟩
      case body =>
        rintro lq pre p a' W hlq hr0 ⟨⟨i1, i2, i3, i4, i5, i6⟩, hBW⟩ ⟨Bx, hBx, bX, rfl⟩ hlt
        have hx0 := i3.cell 0 _ rfl
        have hp0 := bX.cell 0 _ rfl
        have hp1 := bX.cell 1 _ rfl
        have hq0 := i2.cell 0 _ rfl
        have hqf := i2.frozen 0
        have hy0 := i4.cell 0 _ rfl
        have hyf := i4.frozen 0
        have hz0 := i5.cell 0 _ rfl
        have hzf := i5.frozen 0
        have hss := ysum_snoc (frontAt l to : Nat) pre p
        have Hss := Lib.hid hss
        have I1 := Lib.hid i1
        clear hss i1
        generalize hys : ysum (frontAt l to : Nat) pre = ys at *
        have Hys := Lib.hid hys
        clear hys
        cases hd : decide ((x : Int) < IntKind.u64.wrap ((p.1 : Int) + (p.2 : Int))) with
        | true =>
          have Hd := Lib.hid hd
          gi_wp2
          refine ⟨((KeepsOthers.setCell _ _ _).trans (KeepsOthers.setCell _ _ _)).from _, ⟨rfl, pre, p, rfl, I1.out, Hd.out, ?_, ?_⟩, ?_⟩
          · rw [Hys.out]
            exact (i4.put 0 _).other _ _ (by show w.heap.size + 1 + 1 ≠ w.heap.size + 1; omega)
          · exact (i5.other _ _ (by show w.heap.size + 1 ≠ w.heap.size + 1 + 1; omega)).put 0 _
          · exact (hBW.setCell (p := ⟨w.heap.size + 1, 0, none⟩) (by show w.heap.size ≤ w.heap.size + 1; omega) _).setCell (p := ⟨w.heap.size + 1 + 1, 0, none⟩) (by show w.heap.size ≤ w.heap.size + 1 + 1; omega) _
        | false =>
          have Hd := Lib.hid hd
          gi_wp2
          refine ⟨(KeepsOthers.setCell _ _ _).from _, Kp.set _ _ _ rfl, ⟨fun q hq => ?_, ?_, i3.other _ _ (by show g6 ≠ w.heap.size; omega), i4.other _ _ (by show g6 ≠ w.heap.size + 1; omega), i5.other _ _ (by show g6 ≠ w.heap.size + 1 + 1; omega), by simp [World.setCell]; exact i6⟩, hBW.setCell (p := ⟨g6, 0, none⟩) (by show w.heap.size ≤ g6; omega) _⟩
          · rw [List.mem_append, List.mem_singleton] at hq
            rcases hq with hq | rfl
            · exact I1.out q hq
            · exact Hd.out
          · rw [Hss.out]; exact i2.put 0 _
      case done =>
        rintro D ys W hD rfl ⟨⟨i1, i2, i3, i4, i5, i6⟩, hBW⟩ hK
        exfalso
        have hrl := remapL_at (gsum l) to t Hcut2.out (frontAt l to) x Htp1.out (by rw [← Hlt.out, ← Hpt.out]; exact Hxt.out) t.length 0 (by omega) (by omega)
        rw [List.drop_zero] at hrl
        obtain ⟨b1, b2⟩ := pcs_b (gsum l) to t 0 Hcut2.out
        have hb : (0 + t.length) * gsum l ≤ 1048576 * 2147483647 := Nat.mul_le_mul (by omega) hW1
        rw [remap_none x _ _ (fun p hp => by have := b1 p hp; omega) i1] at hrl
        cases hrl
      case stop =>
        rintro D cd pre W hD ⟨rest, hpre⟩ ⟨⟨rfl, ini, last, e1, e2, e3, e4, e5⟩, hBW⟩ hK
        subst e1
        have hrl := remapL_at (gsum l) to t Hcut2.out (frontAt l to) x Htp1.out (by rw [← Hlt.out, ← Hpt.out]; exact Hxt.out) t.length 0 (by omega) (by omega)
        rw [List.drop_zero, Nat.mul_zero] at hrl
        obtain ⟨b1, b2⟩ := pcs_b (gsum l) to t 0 Hcut2.out
        have hb : (0 + t.length) * gsum l ≤ 1048576 * 2147483647 := Nat.mul_le_mul (by omega) hW1
        have hb' : t.length * gsum l ≤ 1048576 * 2147483647 := Nat.mul_le_mul (by omega) hW1
        rw [← hpre] at hrl b1 b2
        rw [List.map_append, List.map_append, List.sum_append, List.sum_append] at b2
        obtain ⟨h5, h6⟩ := remap_some x ini last rest (frontAt l to) (fun p hp => by have := b1 p (List.mem_append_left _ hp); omega) (by omega) e2 e3
        have hm0 : metC (gsum l) t to 0 = 0 := rfl
        rw [hm0, Nat.add_zero, h5] at hrl
        rw [h6] at e4
        split at hrl
        · rename_i hle
          have h7 := Option.some.inj hrl
          have hml := metC_le (gsum l) t to x
          have hxl : x < 1048576 * 2147483647 := by
            have h8 := Hxt.out
            rw [Hpt.out] at h8
            have : gsum l * l.length ≤ 2147483647 * 1048576 := Nat.mul_le_mul hW1 hl
            omega
          have hval : IntKind.u64.wrap (IntKind.u64.wrap (((frontAt l to + (ini.map (·.2)).sum : Nat) : Int) + (x : Int)) - (last.1 : Int)) = ((frontAt l to + metC (gsum l) t to x : Nat) : Int) := by
            rw [wrap_u64, wrap_u64]; omega
          rw [hval] at e4
          have hy0 := e4.cell 0 _ rfl
          have hz0 := e5.cell 0 _ rfl
          have HB := Lib.hid hBW
          clear e2 e3 e4 e5 h5 h6 h7 hrl b1 b2 hpre hBW hval
          gi_wp2
          refine ⟨by simp, .inl ⟨_, _, rfl, run_takeDeferred hK, ?_⟩⟩
          have hy5 := cell_kept hy0 (grownBy_putObj' _ D (.deferred none)) (fun r e => by cases e; exact ⟨_, hK, rfl⟩)
          have hz5 := cell_kept hz0 (grownBy_putObj' _ D (.deferred none)) (fun r e => by cases e; exact ⟨_, hK, rfl⟩)
          refine ⟨.tuple #[.int .u64 ((frontAt l to + metC (gsum l) t to x : Nat) : Int), .bool true], ?_, by rw [HRR.out, HR.out], HB.out.trans (belowK_b (w := w) (Nat.le_refl _) W D _ _ (by omega) hK rfl rfl)⟩
          simp [results, Tryz.f25, go_sem, hy5, hz5]
          try rfl
        · cases hrl
end Go.Proofs.YtcffeepgfjpcaaaGreat

namespace Go.Proofs.YtcffeepgfjpcaaaGreat
set_option linter.unusedSimpArgs false
set_option linter.unusedVariables false
open Go.RowKit

set_option maxRecDepth 100000 in
set_option maxHeartbeats 3200000 in
theorem cand_any (w : World) (g B : Nat) (hB : B ≤ w.heap.size) (gv vs vp : Value) (j : GJob) (id : Nat) (l : List UInt32) (hb : BoxAt 85 w g (walkC gv vs j id vp)) (hpl : ByU w B vp l) (hl : l.length ≤ 1048576) (hl0 : 0 < l.length) (hid : id < 4294967296)
    (uk ut ua : UInt64) (hk : uk.toNat = id) (ht : ut.toNat + 1 = l.length) (tr : Nat) (htr : tr ≤ 1048575) (hua : ua.toNat = 2 * tr + 1) (va vt : Value) (arcs : List GArc) (t : List GCell) (ha : ByA w B va arcs) (hc : ByC w B vt t) (hal : arcs.length ≤ 1048576) (htl : t.length ≤ 1048576)
    (d y i : Nat) (hd : d = belowU (drawU j.seed uk ut ua) (ptotal arcs)) (hy : y = (rmp arcs t d).1) (hi : i = (ival arcs y).1) (hil : i < arcs.length) (hd64 : d < 18446744073709551616) (hy64 : y < 18446744073709551616) (hpt : ptotal arcs < 18446744073709551616) :
    Calls Tryz.prog 64 #[.pointer (some ⟨g, 0, none⟩), va, vt, .int .u64 (tr : Int)] w fun e w' => e = .returned (.int .u32 ((arcs.getD i ⟨0, 0⟩).to.toNat : Int)) ∧ Below w.heap.size w w' := by
  have h1 := fun W (hW : Below w.heap.size w W) => ptotal_any W B va arcs (by omega) (ha.below (hW.mono hB)) (by have := hW.size; omega)
  have h2 := fun W (hW : Below w.heap.size w W) => drawW_any W g B gv vs vp j id l (hb.below hb.lt hW) (hpl.below (hW.mono hB)) hl hl0 hid tr 1 (ptotal arcs) (by omega) (by omega) hpt uk ut ua hk ht hua
  have h3 := fun W (hW : Below w.heap.size w W) => remap_any W B va vt arcs t d hd64 hal htl (ha.below (hW.mono hB)) (hc.below (hW.mono hB)) (by have := hW.size; omega)
  have h4 := fun W (hW : Below w.heap.size w W) => interval_any W B va arcs y hy64 hal (ha.below (hW.mono hB)) (by have := hW.size; omega)
  obtain ⟨A, c, rfl, hc1, hc2⟩ := ha.form
  rw [← hd] at h2
  rw [← hy] at h3
  rw [← hi] at h4
  have hg : arcs.getD i ⟨0, 0⟩ = arcs[i] := by simp [List.getD, hil]
  rw [hg]
  obtain ⟨x, hx⟩ : ∃ x, x = (arcs[i]).to.toNat := ⟨_, rfl⟩
  rw [← hx]
  have Hx := Lib.hid hx
  clear hx
  obtain ⟨b3, hb3⟩ : ∃ b, b = (rmp arcs t d).2 := ⟨_, rfl⟩
  obtain ⟨b4, hb4⟩ : ∃ b, b = (ival arcs y).2 := ⟨_, rfl⟩
  rw [← hb3] at h3
  rw [← hb4] at h4
  have H1 := Lib.hid h1
  have H2 := Lib.hid h2
  have H3 := Lib.hid h3
  have H4 := Lib.hid h4
  have Ha := Lib.hid ha
  clear h1 h2 h3 h4 hb3 hb4 hd hy hi hg hb hpl hc ha
  generalize ptotal arcs = T at *
  go_enter Tryz.func64, Tryz.ntmps64
  go_wp2_with fail
  refine (H1.out w (Below.refl _ _)).mono ?_
  rintro _ w1 ⟨rfl, hb1⟩
  have Hb1 := Lib.hid hb1
  clear hb1
  go_wp2_with fail
  refine (H2.out w1 Hb1.out).mono ?_
  rintro _ w2 ⟨rfl, hb2⟩
  have Hb2 := Lib.hid (bstep Hb1.out hb2)
  clear hb2 Hb1
  go_wp2_with fail
  refine (H3.out w2 Hb2.out).mono ?_
  rintro _ w3 ⟨rfl, hb3⟩
  have Hb3 := Lib.hid (bstep Hb2.out hb3)
  clear hb3 Hb2
  go_wp2_with fail
  refine (H4.out w3 Hb3.out).mono ?_
  rintro _ w4 ⟨rfl, hb4⟩
  have Hb4 := Lib.hid (bstep Hb3.out hb4)
  clear hb4 Hb3
  obtain ⟨ad, rfl, hab, hx0, hx1⟩ := (Ha.out.below (Hb4.out.mono hB)).cells i hil
  rw [← Hx.out] at hx0
  clear hx1
  go_wp2_with fail
  go_ret
  exact ⟨rfl, Hb4.out⟩
end Go.Proofs.YtcffeepgfjpcaaaGreat

namespace Go.Proofs.YtcffeepgfjpcaaaGreat
set_option linter.unusedSimpArgs false
set_option linter.unusedVariables false
open Go.RowKit

def biasW (p q : Nat) (back near : Bool) : Nat := if back then q else if near then p * q else p
set_option maxRecDepth 100000 in
set_option maxHeartbeats 800000 in
theorem scale_any (w : World) (p q : Nat) (hp : p < 4294967296) (hq : q < 4294967296) : Calls Tryz.prog 20 #[.int .u32 (p : Int), .int .u32 (q : Int)] w fun e w' => e = .returned (.int .u64 ((p * q : Nat) : Int)) ∧ w' = w := by
  have hm : p * q ≤ 4294967295 * 4294967295 := Nat.mul_le_mul (by omega) (by omega)
  have hw : IntKind.u64.wrap ((p : Int) * (q : Int)) = ((p * q : Nat) : Int) := by
    rw [wrap_u64, ← Int.natCast_mul]
    omega
  have Hw := Lib.hid hw
  clear hw
  generalize p * q = pq at *
  go_enter Tryz.func20, Tryz.ntmps20
  go_wp2_with fail
  go_ret
  rw [← Hw.out]
  exact ⟨rfl, rfl⟩
set_option maxRecDepth 100000 in
set_option maxHeartbeats 800000 in
theorem weight_any (w : World) (p q : Nat) (hp : p < 4294967296) (hq : q < 4294967296) (back near : Bool) : Calls Tryz.prog 43 #[.int .u32 (p : Int), .int .u32 (q : Int), .bool back, .bool near] w fun e w' => e = .returned (.int .u64 (biasW p q back near : Nat)) ∧ w' = w := by
  have hsc := fun W => scale_any W p q hp hq
  have Hsc := Lib.hid hsc
  clear hsc
  unfold biasW
  cases back with
  | true =>
    go_enter Tryz.func43, Tryz.ntmps43
    go_wp2_with fail
    go_ret
    exact ⟨rfl, rfl⟩
  | false =>
    cases near with
    | true =>
      go_enter Tryz.func43, Tryz.ntmps43
      go_wp2_with fail
      refine (Hsc.out _).mono ?_
      rintro _ _ ⟨rfl, rfl⟩
      go_wp2_with fail
      go_ret
      exact ⟨rfl, rfl⟩
    | false =>
      go_enter Tryz.func43, Tryz.ntmps43
      go_wp2_with fail
      go_ret
      exact ⟨rfl, rfl⟩
set_option maxRecDepth 100000 in
set_option maxHeartbeats 800000 in
theorem accepts_any (w : World) (p q u : Nat) (hp : p < 4294967296) (hq : q < 4294967296) (back near : Bool) : Calls Tryz.prog 17 #[.int .u32 (p : Int), .int .u32 (q : Int), .bool back, .bool near, .int .u64 (u : Int)] w fun e w' => e = .returned (.bool (decide (u < biasW p q back near))) ∧ w' = w := by
  have hsc := fun W => weight_any W p q hp hq back near
  have Hsc := Lib.hid hsc
  clear hsc
  generalize biasW p q back near = bw at *
  go_enter Tryz.func17, Tryz.ntmps17
  go_wp2_with fail
  refine (Hsc.out _).mono ?_
  rintro _ _ ⟨rfl, rfl⟩
  go_wp2_with fail
  go_ret
  exact ⟨by simp, rfl⟩
end Go.Proofs.YtcffeepgfjpcaaaGreat

namespace Go.Proofs.YtcffeepgfjpcaaaGreat
set_option linter.unusedSimpArgs false
set_option linter.unusedVariables false
open Go.RowKit

def takesJ (j : GJob) (n to ah u : Nat) (nr : Bool) : Bool := decide (j.kind.toNat ≠ 2) || (decide (n = 1) || decide (u < biasW j.p.toNat j.q.toNat (decide (to = ah)) nr))
set_option maxRecDepth 100000 in
set_option maxHeartbeats 3200000 in
theorem takes_any22 (w : World) (g B : Nat) (hB : B ≤ w.heap.size) (gv vs vp : Value) (j : GJob) (id : Nat) (l : List UInt32) (hb : BoxAt 85 w g (walkC gv vs j id vp)) (hpl : ByU w B vp l) (hl : l.length ≤ 1048576) (hl0 : 0 < l.length) (hid : id < 4294967296)
    (uk ut ua : UInt64) (hk : uk.toNat = id) (ht : ut.toNat + 1 = l.length) (tr : Nat) (htr : tr ≤ 1048575) (hua : ua.toNat = 2 * tr) (to : Nat) (hto : to < 4294967296) (nr : Bool) (ah : Nat) (hah : 2 ≤ l.length → ah = (l.getD (l.length - 2) 0).toNat)
    (hnear : ∀ W, Below w.heap.size w W → Calls Tryz.prog 18 #[gv, .int .u32 (ah : Int), .int .u32 (to : Int)] W fun e W' => e = .returned (.bool nr) ∧ Below W.heap.size W W')
    (u : Nat) (hu : u = belowU (drawU j.seed uk ut ua) (j.p.toNat * j.q.toNat)) (r : Bool) (hr : r = takesJ j l.length to ah u nr) :
    Calls Tryz.prog 65 #[.pointer (some ⟨g, 0, none⟩), .int .u32 (to : Int), .int .u64 (tr : Int)] w fun e w' => e = .returned (.bool r) ∧ Below w.heap.size w w' := by
  have hp := u32_lt j.p
  have hq := u32_lt j.q
  have hk8 := u8_lt j.kind
  have hpq : j.p.toNat * j.q.toNat ≤ 4294967295 * 4294967295 := Nat.mul_le_mul (by omega) (by omega)
  have hd := fun W (hW : Below w.heap.size w W) => drawW_any W g B gv vs vp j id l (hb.below hb.lt hW) (hpl.below (hW.mono hB)) hl hl0 hid tr 0 (j.p.toNat * j.q.toNat) (by omega) (by omega) (by omega) uk ut ua hk ht (by omega)
  have hat := fun (h2 : 2 ≤ l.length) => at_any w g B gv vs vp j id l hb hpl hl 1 (l.length - 2) (by omega)
  have hat2 : 2 ≤ l.length → Calls Tryz.prog 62 #[.pointer (some ⟨g, 0, none⟩), .int .i64 1] w fun e w' => e = .returned (.int .u32 (ah : Int)) ∧ Below w.heap.size w w' := fun h2 => by
    have := hat h2
    rw [← hah h2] at this
    exact this
  rw [← hu] at hd
  unfold takesJ at hr
  obtain ⟨A, c, rfl, hc1, hc2⟩ := hpl.form
  unfold maxLen at hc2
  obtain ⟨kd, hkd⟩ : ∃ kd, kd = j.kind.toNat := ⟨_, rfl⟩
  obtain ⟨p, hp'⟩ : ∃ p, p = j.p.toNat := ⟨_, rfl⟩
  obtain ⟨q, hq'⟩ : ∃ q, q = j.q.toNat := ⟨_, rfl⟩
  have X : Hid (BoxAt 85 w g (gv :: .int .u8 (kd : Int) :: .int .u64 (j.seed.toNat : Int) :: .int .u32 (j.len.toNat : Int) :: .int .u32 (j.walks.toNat : Int) :: vs :: .int .u32 (j.stop.toNat : Int) :: .int .u32 (j.of_.toNat : Int) :: .int .u32 (p : Int) :: .int .u32 (q : Int) :: (jobC j vs).drop 9 ++ [.int .u32 (id : Int), .slice A l.length c])) := Lib.hid (by rw [hkd, hp', hq']; exact hb)
  rw [← hkd] at hr hk8
  rw [← hp'] at hr hd hp hpq
  rw [← hq'] at hr hd hq hpq
  have hc1' := X.out.cell 1 _ rfl
  have hc17 := X.out.cell 17 _ rfl
  have HD := Lib.hid hd
  have HR := Lib.hid hr
  have HN := Lib.hid hnear
  have HA := Lib.hid hat2
  clear hd hr hnear hat hat2 hb hpl hu hah hkd hp' hq' hk ht hua
  go_enter Tryz.func65, Tryz.ntmps65
  by_cases hk2 : kd = 2
  · have hkb : ((kd : Int) == 2) = true := by simp [hk2]
    have hkn : ((kd : Int) != 2) = false := by simp [hk2]
    by_cases hn1 : l.length = 1
    · have hlb : ((l.length : Int) == 1) = true := by simp [hn1]
      have HT : Hid (r = true) := Lib.hid (by rw [HR.out]; simp [hn1])
      clear hn1
      go_wp2_with fail
      go_ret
      exact ⟨by rw [HT.out]; rfl, Below.refl _ _⟩
    · have hlb : ((l.length : Int) == 1) = false := beq_eq_false_iff_ne.2 (by omega)
      obtain ⟨bk, hbk⟩ : ∃ bk, bk = decide (to = ah) := ⟨_, rfl⟩
      have HR2 : Hid (r = decide (u < biasW p q bk nr)) := Lib.hid (by rw [HR.out, hbk]; simp [hk2, hn1])
      have HBK : Hid (decide ((to : Int) = (ah : Int)) = bk) := Lib.hid (by rw [hbk]; exact decide_eq_decide.2 (by omega))
      clear hbk
      go_wp2_with fail
      refine (HA.out (by omega)).mono ?_
      rintro _ w1 ⟨rfl, hb1⟩
      have Hb1 := Lib.hid hb1
      clear hb1
      go_upto_region 4 with fail
      refine wp_region_typed [some 25, some 26, some 27, some 28, some 29, some 30, some 31, some 32, some 33, some 34, some 35, some 36, some 37, some 38, some 8] [25, 26, 27, 28, 29, 30, 31, 32, 33, 34, 35, 36, 37, 38, 8]
        [Ph.is (.pointer (some ⟨g, 0, none⟩)),
          Ph.is (.int .u64 (tr : Int)),
          Ph.is (.pointer (some ⟨g, 0, none⟩)),
          Ph.is (.pointer (some ⟨g, 0, none⟩)),
          Ph.is (.pointer (some ⟨g, 1, none⟩)),
          Ph.is (.pointer (some ⟨g, 8, none⟩)),
          Ph.is (.int .u32 (p : Int)),
          Ph.is (.pointer (some ⟨g, 0, none⟩)),
          Ph.is (.pointer (some ⟨g, 0, none⟩)),
          Ph.is (.pointer (some ⟨g, 1, none⟩)),
          Ph.is (.pointer (some ⟨g, 9, none⟩)),
          Ph.is (.int .u32 (q : Int)),
          Ph.is (.int .u64 ((p * q : Nat) : Int)),
          Ph.is (.int .u64 (u : Int)),
          Ph.is (.int .u64 (u : Int))] rfl rfl (by kernel_rfl) (by kernel_rfl) ?_ ?_
      · refine ⟨?_, ?_, ?_, ?_, ?_, ?_, ?_, ?_, ?_, ?_, ?_, ?_, ?_, ?_, ?_, trivial⟩
        · -- 0: slot 25 := Op.move t0
          refine ob_yes fun f w' hb hp => ?_
          simp [PreOf, factOf, valOf, Ph.is, Ph.by_, Ph.any, Region.binds] at hp
          refine ⟨by simp [Gd, valOf, hp], ?_⟩
          refine mild_val (.pointer (some ⟨g, 0, none⟩)) ?_ rfl
          simp [execOp, evalF, hp]
        · -- 1: slot 26 := Op.move t2
          refine ob_yes fun f w' hb hp => ?_
          simp [PreOf, factOf, valOf, Ph.is, Ph.by_, Ph.any, Region.binds] at hp
          refine ⟨by simp [Gd, valOf, hp], ?_⟩
          refine mild_val (.int .u64 (tr : Int)) ?_ rfl
          simp [execOp, evalF, hp]
        · -- 2: slot 27 := Op.move t0
          refine ob_yes fun f w' hb hp => ?_
          simp [PreOf, factOf, valOf, Ph.is, Ph.by_, Ph.any, Region.binds] at hp
          refine ⟨by simp [Gd, valOf, hp], ?_⟩
          refine mild_val (.pointer (some ⟨g, 0, none⟩)) ?_ rfl
          simp [execOp, evalF, hp]
        · -- 3: slot 28 := Op.nilCheck t27
          refine ob_yes fun f w' hb hp => ?_
          simp [PreOf, factOf, valOf, Ph.is, Ph.by_, Ph.any, Region.binds] at hp
          refine ⟨by simp [Gd, valOf, hp], ?_⟩
          refine mild_val (.pointer (some ⟨g, 0, none⟩)) ?_ rfl
          simp [execOp, evalF, hp, go_sem]
        · -- 4: slot 29 := Op.fieldAddr 85 t28 1
          refine ob_yes fun f w' hb hp => ?_
          simp [PreOf, factOf, valOf, Ph.is, Ph.by_, Ph.any, Region.binds] at hp
          refine ⟨by simp [Gd, valOf, hp], ?_⟩
          refine mild_val (.pointer (some ⟨g, 1, none⟩)) ?_ rfl
          simp [execOp, evalF, hp, go_sem]
        · -- 5: slot 30 := Op.fieldAddr 29 t29 7
          refine ob_yes fun f w' hb hp => ?_
          simp [PreOf, factOf, valOf, Ph.is, Ph.by_, Ph.any, Region.binds] at hp
          refine ⟨by simp [Gd, valOf, hp], ?_⟩
          refine mild_val (.pointer (some ⟨g, 8, none⟩)) ?_ rfl
          simp [execOp, evalF, hp, go_sem]
        · -- 6: slot 31 := Op.load 24 t30
          refine ob_yes fun f w' hb hp => ?_
          simp [PreOf, factOf, valOf, Ph.is, Ph.by_, Ph.any, Region.binds] at hp
          refine ⟨by simp [Gd, valOf, hp], ?_⟩
          refine mild_val (.int .u32 (p : Int)) ?_ rfl
          have hc := (X.out.below X.out.lt (Hb1.out.trans (hb.mono (by have := Hb1.out.size; omega)))).cell 8 _ rfl
          simp [execOp, evalF, hp, hc, go_sem]
        · -- 7: slot 32 := Op.move t0
          refine ob_yes fun f w' hb hp => ?_
          simp [PreOf, factOf, valOf, Ph.is, Ph.by_, Ph.any, Region.binds] at hp
          refine ⟨by simp [Gd, valOf, hp], ?_⟩
          refine mild_val (.pointer (some ⟨g, 0, none⟩)) ?_ rfl
          simp [execOp, evalF, hp]
        · -- 8: slot 33 := Op.nilCheck t32
          refine ob_yes fun f w' hb hp => ?_
          simp [PreOf, factOf, valOf, Ph.is, Ph.by_, Ph.any, Region.binds] at hp
          refine ⟨by simp [Gd, valOf, hp], ?_⟩
          refine mild_val (.pointer (some ⟨g, 0, none⟩)) ?_ rfl
          simp [execOp, evalF, hp, go_sem]
        · -- 9: slot 34 := Op.fieldAddr 85 t33 1
          refine ob_yes fun f w' hb hp => ?_
          simp [PreOf, factOf, valOf, Ph.is, Ph.by_, Ph.any, Region.binds] at hp
          refine ⟨by simp [Gd, valOf, hp], ?_⟩
          refine mild_val (.pointer (some ⟨g, 1, none⟩)) ?_ rfl
          simp [execOp, evalF, hp, go_sem]
        · -- 10: slot 35 := Op.fieldAddr 29 t34 8
          refine ob_yes fun f w' hb hp => ?_
          simp [PreOf, factOf, valOf, Ph.is, Ph.by_, Ph.any, Region.binds] at hp
          refine ⟨by simp [Gd, valOf, hp], ?_⟩
          refine mild_val (.pointer (some ⟨g, 9, none⟩)) ?_ rfl
          simp [execOp, evalF, hp, go_sem]
        · -- 11: slot 36 := Op.load 24 t35
          refine ob_yes fun f w' hb hp => ?_
          simp [PreOf, factOf, valOf, Ph.is, Ph.by_, Ph.any, Region.binds] at hp
          refine ⟨by simp [Gd, valOf, hp], ?_⟩
          refine mild_val (.int .u32 (q : Int)) ?_ rfl
          have hc := (X.out.below X.out.lt (Hb1.out.trans (hb.mono (by have := Hb1.out.size; omega)))).cell 9 _ rfl
          simp [execOp, evalF, hp, hc, go_sem]
        · -- 12: slot 37 := Op.call   value (Operand.func 20), args := #[t31, t36], argTypes := #[24, 24]  
          refine ob_yes fun f w' hb hp => ?_
          simp [PreOf, factOf, valOf, Ph.is, Ph.by_, Ph.any, Region.binds] at hp
          refine ⟨by simp [Gd, valOf, hp], ?_⟩
          refine mild_call 20 _ _ Tryz.f20 Tryz.func20 (by kernel_rfl) (by kernel_rfl) rfl ?_
          simp [evalF, hp, Ph.is, Ph.by_, Ph.any]
          refine (scale_any w' p q (by omega) (by omega)).mono fun ev w8 h => ?_
          obtain ⟨rfl, rfl⟩ := h
          exact ⟨by simp, Below.refl _ _⟩
        · -- 13: slot 38 := Op.call   value (Operand.func 99), args := #[t25, t26, const (0:u64), t37], argTypes := #[83, 23, 23, 23]  
          refine ob_yes fun f w' hb hp => ?_
          simp [PreOf, factOf, valOf, Ph.is, Ph.by_, Ph.any, Region.binds] at hp
          refine ⟨by simp [Gd, valOf, hp], ?_⟩
          refine mild_call 99 _ _ Tryz.f99 Tryz.func99 (by kernel_rfl) (by kernel_rfl) rfl ?_
          simp [evalF, hp, Ph.is, Ph.by_, Ph.any]
          refine (HD.out w' (Hb1.out.trans (hb.mono (by have := Hb1.out.size; omega)))).mono fun ev w8 h => ?_
          obtain ⟨rfl, h2⟩ := h
          exact ⟨rfl, h2⟩
        · -- 14: slot 8 := Op.assign t38
          refine ob_yes fun f w' hb hp => ?_
          simp [PreOf, factOf, valOf, Ph.is, Ph.by_, Ph.any, Region.binds] at hp
          refine ⟨by simp [Gd, valOf, hp], ?_⟩
          refine mild_val (.int .u64 (u : Int)) ?_ rfl
          simp [execOp, evalF, hp]
      · intro f w8 hb8 hp
        simp only [PostOf, Ph.is, Ph.by_, Ph.any] at hp
        obtain ⟨h0, h1, h2, h3, h4, h5, h6, h7, h8, h9, h10, h11, h12, h13, h14, _⟩ := hp
        simp only [fills, List.foldl_cons, List.foldl_nil, Act.put, List.setIfInBounds_toArray, List.set_cons_zero, List.set_cons_succ, h0, h1, h2, h3, h4, h5, h6, h7, h8, h9, h10, h11, h12, h13, h14]
        clear h0 h1 h2 h3 h4 h5 h6 h7 h8 h9 h10 h11 h12 h13 h14
        have Hb2 := Lib.hid (bstep Hb1.out hb8)
        go_upto_region 5 with fail
        refine wp_region_typed [some 39, some 40, some 41, some 42, some 43, some 44, some 45, some 46, some 47, some 48, some 49, some 50, some 51, some 52, some 53, some 54, some 55, some 56, some 57, some 58, some 59, some 60, some 6] [39, 40, 41, 42, 43, 44, 45, 46, 47, 48, 49, 50, 51, 52, 53, 54, 55, 56, 57, 58, 59, 60, 6]
          [Ph.is (.pointer (some ⟨g, 0, none⟩)),
            Ph.is (.pointer (some ⟨g, 0, none⟩)),
            Ph.is (.pointer (some ⟨g, 1, none⟩)),
            Ph.is (.pointer (some ⟨g, 8, none⟩)),
            Ph.is (.int .u32 (p : Int)),
            Ph.is (.pointer (some ⟨g, 0, none⟩)),
            Ph.is (.pointer (some ⟨g, 0, none⟩)),
            Ph.is (.pointer (some ⟨g, 1, none⟩)),
            Ph.is (.pointer (some ⟨g, 9, none⟩)),
            Ph.is (.int .u32 (q : Int)),
            Ph.is (.int .u32 (to : Int)),
            Ph.is (.int .u32 (ah : Int)),
            Ph.is (.bool bk),
            Ph.is (.pointer (some ⟨g, 0, none⟩)),
            Ph.is (.pointer (some ⟨g, 0, none⟩)),
            Ph.is (.pointer (some ⟨g, 0, none⟩)),
            Ph.is (gv),
            Ph.is (.int .u32 (ah : Int)),
            Ph.is (.int .u32 (to : Int)),
            Ph.is (.bool nr),
            Ph.is (.int .u64 (u : Int)),
            Ph.is (.bool r),
            Ph.is (.bool r)] rfl rfl (by kernel_rfl) (by kernel_rfl) ?_ ?_
        · refine ⟨?_, ?_, ?_, ?_, ?_, ?_, ?_, ?_, ?_, ?_, ?_, ?_, ?_, ?_, ?_, ?_, ?_, ?_, ?_, ?_, ?_, ?_, ?_, trivial⟩
          · -- 0: slot 39 := Op.move t0
            refine ob_yes fun f w' hb hp => ?_
            simp [PreOf, factOf, valOf, Ph.is, Ph.by_, Ph.any, Region.binds] at hp
            refine ⟨by simp [Gd, valOf, hp], ?_⟩
            refine mild_val (.pointer (some ⟨g, 0, none⟩)) ?_ rfl
            simp [execOp, evalF, hp]
          · -- 1: slot 40 := Op.nilCheck t39
            refine ob_yes fun f w' hb hp => ?_
            simp [PreOf, factOf, valOf, Ph.is, Ph.by_, Ph.any, Region.binds] at hp
            refine ⟨by simp [Gd, valOf, hp], ?_⟩
            refine mild_val (.pointer (some ⟨g, 0, none⟩)) ?_ rfl
            simp [execOp, evalF, hp, go_sem]
          · -- 2: slot 41 := Op.fieldAddr 85 t40 1
            refine ob_yes fun f w' hb hp => ?_
            simp [PreOf, factOf, valOf, Ph.is, Ph.by_, Ph.any, Region.binds] at hp
            refine ⟨by simp [Gd, valOf, hp], ?_⟩
            refine mild_val (.pointer (some ⟨g, 1, none⟩)) ?_ rfl
            simp [execOp, evalF, hp, go_sem]
          · -- 3: slot 42 := Op.fieldAddr 29 t41 7
            refine ob_yes fun f w' hb hp => ?_
            simp [PreOf, factOf, valOf, Ph.is, Ph.by_, Ph.any, Region.binds] at hp
            refine ⟨by simp [Gd, valOf, hp], ?_⟩
            refine mild_val (.pointer (some ⟨g, 8, none⟩)) ?_ rfl
            simp [execOp, evalF, hp, go_sem]
          · -- 4: slot 43 := Op.load 24 t42
            refine ob_yes fun f w' hb hp => ?_
            simp [PreOf, factOf, valOf, Ph.is, Ph.by_, Ph.any, Region.binds] at hp
            refine ⟨by simp [Gd, valOf, hp], ?_⟩
            refine mild_val (.int .u32 (p : Int)) ?_ rfl
            have hc := (X.out.below X.out.lt (Hb2.out.trans (hb.mono (by have := Hb2.out.size; omega)))).cell 8 _ rfl
            simp [execOp, evalF, hp, hc, go_sem]
          · -- 5: slot 44 := Op.move t0
            refine ob_yes fun f w' hb hp => ?_
            simp [PreOf, factOf, valOf, Ph.is, Ph.by_, Ph.any, Region.binds] at hp
            refine ⟨by simp [Gd, valOf, hp], ?_⟩
            refine mild_val (.pointer (some ⟨g, 0, none⟩)) ?_ rfl
            simp [execOp, evalF, hp]
          · -- 6: slot 45 := Op.nilCheck t44
            refine ob_yes fun f w' hb hp => ?_
            simp [PreOf, factOf, valOf, Ph.is, Ph.by_, Ph.any, Region.binds] at hp
            refine ⟨by simp [Gd, valOf, hp], ?_⟩
            refine mild_val (.pointer (some ⟨g, 0, none⟩)) ?_ rfl
            simp [execOp, evalF, hp, go_sem]
          · -- 7: slot 46 := Op.fieldAddr 85 t45 1
            refine ob_yes fun f w' hb hp => ?_
            simp [PreOf, factOf, valOf, Ph.is, Ph.by_, Ph.any, Region.binds] at hp
            refine ⟨by simp [Gd, valOf, hp], ?_⟩
            refine mild_val (.pointer (some ⟨g, 1, none⟩)) ?_ rfl
            simp [execOp, evalF, hp, go_sem]
          · -- 8: slot 47 := Op.fieldAddr 29 t46 8
            refine ob_yes fun f w' hb hp => ?_
            simp [PreOf, factOf, valOf, Ph.is, Ph.by_, Ph.any, Region.binds] at hp
            refine ⟨by simp [Gd, valOf, hp], ?_⟩
            refine mild_val (.pointer (some ⟨g, 9, none⟩)) ?_ rfl
            simp [execOp, evalF, hp, go_sem]
          · -- 9: slot 48 := Op.load 24 t47
            refine ob_yes fun f w' hb hp => ?_
            simp [PreOf, factOf, valOf, Ph.is, Ph.by_, Ph.any, Region.binds] at hp
            refine ⟨by simp [Gd, valOf, hp], ?_⟩
            refine mild_val (.int .u32 (q : Int)) ?_ rfl
            have hc := (X.out.below X.out.lt (Hb2.out.trans (hb.mono (by have := Hb2.out.size; omega)))).cell 9 _ rfl
            simp [execOp, evalF, hp, hc, go_sem]
          · -- 10: slot 49 := Op.move t1
            refine ob_yes fun f w' hb hp => ?_
            simp [PreOf, factOf, valOf, Ph.is, Ph.by_, Ph.any, Region.binds] at hp
            refine ⟨by simp [Gd, valOf, hp], ?_⟩
            refine mild_val (.int .u32 (to : Int)) ?_ rfl
            simp [execOp, evalF, hp]
          · -- 11: slot 50 := Op.move t7
            refine ob_yes fun f w' hb hp => ?_
            simp [PreOf, factOf, valOf, Ph.is, Ph.by_, Ph.any, Region.binds] at hp
            refine ⟨by simp [Gd, valOf, hp], ?_⟩
            refine mild_val (.int .u32 (ah : Int)) ?_ rfl
            simp [execOp, evalF, hp]
          · -- 12: slot 51 := Op.binOp BinOp.eql 24 t49 t50 24
            refine ob_yes fun f w' hb hp => ?_
            simp [PreOf, factOf, valOf, Ph.is, Ph.by_, Ph.any, Region.binds] at hp
            refine ⟨by simp [Gd, valOf, hp], ?_⟩
            refine mild_val (.bool bk) ?_ rfl
            simp [execOp, evalF, hp, go_sem]
            exact HBK.out
          · -- 13: slot 52 := Op.move t0
            refine ob_yes fun f w' hb hp => ?_
            simp [PreOf, factOf, valOf, Ph.is, Ph.by_, Ph.any, Region.binds] at hp
            refine ⟨by simp [Gd, valOf, hp], ?_⟩
            refine mild_val (.pointer (some ⟨g, 0, none⟩)) ?_ rfl
            simp [execOp, evalF, hp]
          · -- 14: slot 53 := Op.nilCheck t52
            refine ob_yes fun f w' hb hp => ?_
            simp [PreOf, factOf, valOf, Ph.is, Ph.by_, Ph.any, Region.binds] at hp
            refine ⟨by simp [Gd, valOf, hp], ?_⟩
            refine mild_val (.pointer (some ⟨g, 0, none⟩)) ?_ rfl
            simp [execOp, evalF, hp, go_sem]
          · -- 15: slot 54 := Op.fieldAddr 85 t53 0
            refine ob_yes fun f w' hb hp => ?_
            simp [PreOf, factOf, valOf, Ph.is, Ph.by_, Ph.any, Region.binds] at hp
            refine ⟨by simp [Gd, valOf, hp], ?_⟩
            refine mild_val (.pointer (some ⟨g, 0, none⟩)) ?_ rfl
            simp [execOp, evalF, hp, go_sem]
          · -- 16: slot 55 := Op.load 32 t54
            refine ob_yes fun f w' hb hp => ?_
            simp [PreOf, factOf, valOf, Ph.is, Ph.by_, Ph.any, Region.binds] at hp
            refine ⟨by simp [Gd, valOf, hp], ?_⟩
            refine mild_val (gv) ?_ rfl
            have hc := (X.out.below X.out.lt (Hb2.out.trans (hb.mono (by have := Hb2.out.size; omega)))).cell 0 _ rfl
            simp [execOp, evalF, hp, hc, go_sem]
          · -- 17: slot 56 := Op.move t7
            refine ob_yes fun f w' hb hp => ?_
            simp [PreOf, factOf, valOf, Ph.is, Ph.by_, Ph.any, Region.binds] at hp
            refine ⟨by simp [Gd, valOf, hp], ?_⟩
            refine mild_val (.int .u32 (ah : Int)) ?_ rfl
            simp [execOp, evalF, hp]
          · -- 18: slot 57 := Op.move t1
            refine ob_yes fun f w' hb hp => ?_
            simp [PreOf, factOf, valOf, Ph.is, Ph.by_, Ph.any, Region.binds] at hp
            refine ⟨by simp [Gd, valOf, hp], ?_⟩
            refine mild_val (.int .u32 (to : Int)) ?_ rfl
            simp [execOp, evalF, hp]
          · -- 19: slot 58 := Op.call   value (Operand.func 18), args := #[t55, t56, t57], argTypes := #[32, 24, 24]  
            refine ob_yes fun f w' hb hp => ?_
            simp [PreOf, factOf, valOf, Ph.is, Ph.by_, Ph.any, Region.binds] at hp
            refine ⟨by simp [Gd, valOf, hp], ?_⟩
            refine mild_call 18 _ _ Tryz.f18 Tryz.func18 (by kernel_rfl) (by kernel_rfl) rfl ?_
            simp [evalF, hp, Ph.is, Ph.by_, Ph.any]
            refine (HN.out w' (Hb2.out.trans (hb.mono (by have := Hb2.out.size; omega)))).mono fun ev w8 h => ?_
            obtain ⟨rfl, h2⟩ := h
            exact ⟨rfl, h2⟩
          · -- 20: slot 59 := Op.move t8
            refine ob_yes fun f w' hb hp => ?_
            simp [PreOf, factOf, valOf, Ph.is, Ph.by_, Ph.any, Region.binds] at hp
            refine ⟨by simp [Gd, valOf, hp], ?_⟩
            refine mild_val (.int .u64 (u : Int)) ?_ rfl
            simp [execOp, evalF, hp]
          · -- 21: slot 60 := Op.call   value (Operand.func 17), args := #[t43, t48, t51, t58, t59], argTypes := #[24, 24, 4, 4, 23]  
            refine ob_yes fun f w' hb hp => ?_
            simp [PreOf, factOf, valOf, Ph.is, Ph.by_, Ph.any, Region.binds] at hp
            refine ⟨by simp [Gd, valOf, hp], ?_⟩
            refine mild_call 17 _ _ Tryz.f17 Tryz.func17 (by kernel_rfl) (by kernel_rfl) rfl ?_
            simp [evalF, hp, Ph.is, Ph.by_, Ph.any]
            refine (accepts_any w' p q u (by omega) (by omega) bk nr).mono fun ev w8 h => ?_
            obtain ⟨rfl, rfl⟩ := h
            exact ⟨by rw [HR2.out], Below.refl _ _⟩
          · -- 22: slot 6 := Op.assign t60
            refine ob_yes fun f w' hb hp => ?_
            simp [PreOf, factOf, valOf, Ph.is, Ph.by_, Ph.any, Region.binds] at hp
            refine ⟨by simp [Gd, valOf, hp], ?_⟩
            refine mild_val (.bool r) ?_ rfl
            simp [execOp, evalF, hp]
        · intro f w9 hb9 hp
          simp only [PostOf, Ph.is, Ph.by_, Ph.any] at hp
          obtain ⟨h0, h1, h2, h3, h4, h5, h6, h7, h8, h9, h10, h11, h12, h13, h14, h15, h16, h17, h18, h19, h20, h21, h22, _⟩ := hp
          simp only [fills, List.foldl_cons, List.foldl_nil, Act.put, List.setIfInBounds_toArray, List.set_cons_zero, List.set_cons_succ, h0, h1, h2, h3, h4, h5, h6, h7, h8, h9, h10, h11, h12, h13, h14, h15, h16, h17, h18, h19, h20, h21, h22]
          clear h0 h1 h2 h3 h4 h5 h6 h7 h8 h9 h10 h11 h12 h13 h14 h15 h16 h17 h18 h19 h20 h21 h22
          go_wp2_with fail
          go_ret
          exact ⟨rfl, bstep Hb2.out hb9⟩
  · have hkb : ((kd : Int) == 2) = false := beq_eq_false_iff_ne.2 (by omega)
    have hkn : ((kd : Int) != 2) = true := by simp; omega
    have HT : Hid (r = true) := Lib.hid (by rw [HR.out]; simp [hk2])
    go_wp2_with fail
    go_ret
    exact ⟨by rw [HT.out]; rfl, Below.refl _ _⟩
end Go.Proofs.YtcffeepgfjpcaaaGreat

namespace Go.Proofs.YtcffeepgfjpcaaaGreat
set_option linter.unusedSimpArgs false
set_option linter.unusedVariables false
open Go.RowKit

/-- the neighbour of a try: t: the table of the arcs l -/
def candP (j : GJob) (uk ut : UInt64) (l : List GArc) (t : List GCell) (tr : Nat) : UInt32 :=
  (l.getD (ival l (rmp l t (belowU (drawU j.seed uk ut (UInt64.ofNat (2 * tr + 1))) (ptotal l))).1).1 ⟨0, 0⟩).to
def testP (j : GJob) (uk ut : UInt64) (tr : Nat) : Nat := belowU (drawU j.seed uk ut (UInt64.ofNat (2 * tr))) (j.p.toNat * j.q.toNat)
/-- the first try, from tr on, whose neighbour is taken; near: is there an arc from ahead? -/
def tryP (j : GJob) (uk ut : UInt64) (n ah : Nat) (near : UInt32 → Bool) (l : List GArc) (t : List GCell) : Nat → Nat → Option UInt32
  | 0, _ => none
  | k + 1, tr => if takesJ j n (candP j uk ut l t tr).toNat ah (testP j uk ut tr) (near (candP j uk ut l t tr)) = true then some (candP j uk ut l t tr) else tryP j uk ut n ah near l t k (tr + 1)
def nearP (R : List GRow) (v t : UInt32) : Bool := (arcsR R v).any fun a => a.to == t
/-- the next vertex; tab: the table of arcs -/
def nextP (R : List GRow) (tab : List GArc → List GCell) (j : GJob) (uk : UInt64) (path : List UInt32) : Option UInt32 :=
  let l := arcsR R (path.getD (path.length - 1) 0)
  let ut := UInt64.ofNat (path.length - 1)
  if l.length = 0 then none
  else if backJ j uk ut = true then some (path.getD 0 0)
  else tryP j uk ut path.length (path.getD (path.length - 2) 0).toNat (nearP R (path.getD (path.length - 2) 0)) l (tab l) j.tries.toNat 0
def goesP (R : List GRow) (tab : List GArc → List GCell) (j : GJob) (uk : UInt64) : Nat → List UInt32 → List UInt32
  | 0, path => path
  | k + 1, path => match nextP R tab j uk path with
    | none => path
    | some v => goesP R tab j uk k (path ++ [v])
end Go.Proofs.YtcffeepgfjpcaaaGreat

namespace Go.Proofs.YtcffeepgfjpcaaaGreat
set_option linter.unusedSimpArgs false
set_option linter.unusedVariables false
open Go.RowKit

theorem mayOk_parts {l : List GArc} {t : List GCell} (h : mayOk l t = true) : l.length = t.length ∧ nbrs l = true ∧ (∀ c ∈ t, c.cut.toNat ≤ gsum l ∧ c.oth.toNat < t.length) ∧ ∀ k (hk : k < l.length), cnt (gsum l) (k : Int) t = l.length * (l[k]).wt.toNat := by
  refine ⟨?_, ?_, ?_, ?_⟩
  · exact Decidable.byContradiction fun e => by rw [mayOk_no2 e] at h; cases h
  · cases hn : nbrs l with
    | true => rfl
    | false => rw [mayOk_no1 hn] at h; cases h
  · have hg : cgood (gsum l) t.length t = true := by
      cases hc : cgood (gsum l) t.length t with
      | true => rfl
      | false => rw [mayOk_no3 hc] at h; cases h
    intro c hc
    have := List.all_eq_true.1 hg c hc
    simp at this
    exact this
  · intro k hk
    exact Decidable.byContradiction fun e => by rw [mayOk_no4 k hk e] at h; cases h
/-- by a table that is right each draw comes to a neighbour -/
theorem palias_ok {l : List GArc} {t : List GCell} (h : mayOk l t = true) {x : Nat} (hx : x < ptotal l) : palias l t x = (toP (gsum l) t x, true) ∧ toP (gsum l) t x < l.length := by
  obtain ⟨h1, h2, h3, h4⟩ := mayOk_parts h
  obtain ⟨hg, hW0, hk, hW1⟩ := ptotal_pos hx
  have hk2 : x / gsum l < t.length := by omega
  have hc := h3 _ (List.getElem_mem hk2)
  rw [palias_yes h1 hx hk2]
  have ht : toP (gsum l) t x = if x % gsum l < (t[x / gsum l]).cut.toNat then x / gsum l else (t[x / gsum l]).oth.toNat := by
    unfold toP
    simp only [List.getElem?_eq_getElem hk2, Option.getD_some]
  rw [ht]
  split
  · exact ⟨rfl, hk⟩
  · exact ⟨by rw [if_pos (by omega)], by omega⟩
theorem rmp_ok {l : List GArc} {t : List GCell} (h : mayOk l t = true) {x : Nat} (hx : x < ptotal l) : rmp l t x = (frontAt l (toP (gsum l) t x) + metC (gsum l) t (toP (gsum l) t x) x, true) := by
  obtain ⟨h1, _⟩ := palias_ok h hx
  unfold rmp
  rw [h1, if_pos ⟨rfl, h⟩]
theorem ptotal_eq {l : List GArc} {x : Nat} (hx : x < ptotal l) : ptotal l = gsum l * l.length := by
  obtain ⟨hg, _⟩ := ptotal_pos hx
  unfold ptotal
  rw [if_pos hg]
/-- all draws that come to a neighbour -/
theorem met_all {l : List GArc} {t : List GCell} (h : mayOk l t = true) (hl : t.length ≤ 1048576) (hg : gsum l ≤ 2147483647) (k : Nat) (hk : k < l.length) : metC (gsum l) t k (gsum l * t.length) = l.length * (l[k]).wt.toNat := by
  obtain ⟨h1, h2, h3, h4⟩ := mayOk_parts h
  have h5 := h4 k hk
  have h6 := metC_all (gsum l) t k fun c hc => (h3 c hc).1
  rw [cnt_n, ← h6, Nat.mod_eq_of_lt] at h5
  · exact h5
  · have := metC_le (gsum l) t k (gsum l * t.length)
    have : gsum l * t.length ≤ 2147483647 * 1048576 := Nat.mul_le_mul hg hl
    omega
end Go.Proofs.YtcffeepgfjpcaaaGreat

namespace Go.Proofs.YtcffeepgfjpcaaaGreat
set_option linter.unusedSimpArgs false
set_option linter.unusedVariables false
open Go.RowKit Go.Shelf
attribute [local go_sem] Oper.semAt_some

/-- what the loop takes away, and where it ends -/
def lsub (y0 : Int) (pre : List (Nat × Nat)) : Int := pre.foldl (fun s p => IntKind.u64.wrap (s - (p.2 : Int))) y0
theorem lsub_snoc (y0 : Int) (pre : List (Nat × Nat)) (p : Nat × Nat) : lsub y0 (pre ++ [p]) = IntKind.u64.wrap (lsub y0 pre - (p.2 : Int)) := by simp [lsub]
/-- none of them holds what is left when it is its turn -/
def passed (y0 : Int) : List (Nat × Nat) → Prop
  | [] => True
  | p :: r => decide (y0 < (p.2 : Int)) = false ∧ passed (IntKind.u64.wrap (y0 - (p.2 : Int))) r
theorem passed_snoc : ∀ (pre : List (Nat × Nat)) (y0 : Int) (p : Nat × Nat), passed y0 pre → decide (lsub y0 pre < (p.2 : Int)) = false → passed y0 (pre ++ [p])
  | [], y0, p, _, h => ⟨h, trivial⟩
  | q :: r, y0, p, h, h2 => ⟨h.1, passed_snoc r _ p h.2 h2⟩
theorem back_none : ∀ (ps : List (Nat × Nat)) (left : Nat), left < 18446744073709551616 → passed (left : Int) ps → backL left ps = none
  | [], _, _, _ => rfl
  | p :: r, left, hl, h => by
    have h1 : ¬ left < p.2 := by
      have := h.1
      rw [decide_eq_false_iff_not] at this
      omega
    rw [backL, if_neg h1]
    refine back_none r _ (by omega) ?_
    have e : IntKind.u64.wrap ((left : Int) - (p.2 : Int)) = ((left - p.2 : Nat) : Int) := by rw [wrap_u64]; omega
    rw [← e]
    exact h.2
theorem back_some : ∀ (ini : List (Nat × Nat)) (last : Nat × Nat) (rest : List (Nat × Nat)) (left : Nat), left < 18446744073709551616 → passed (left : Int) ini → decide (lsub (left : Int) ini < (last.2 : Int)) = true →
    ∃ r : Nat, lsub (left : Int) ini = (r : Int) ∧ r ≤ left ∧ backL left (ini ++ [last] ++ rest) = some (last.1 + r)
  | [], last, rest, left, hl, h, h2 => by
    have h3 : left < last.2 := by
      rw [decide_eq_true_eq] at h2
      simp only [lsub, List.foldl_nil] at h2
      omega
    exact ⟨left, rfl, Nat.le_refl _, by simp [backL, h3]⟩
  | p :: r, last, rest, left, hl, h, h2 => by
    have h1 : ¬ left < p.2 := by
      have := h.1
      rw [decide_eq_false_iff_not] at this
      omega
    have e : IntKind.u64.wrap ((left : Int) - (p.2 : Int)) = ((left - p.2 : Nat) : Int) := by rw [wrap_u64]; omega
    have e2 : lsub (left : Int) (p :: r) = lsub ((left - p.2 : Nat) : Int) r := by rw [← e]; rfl
    have h3 := h.2
    rw [e] at h3
    rw [e2] at h2 ⊢
    obtain ⟨q, q1, q2, q3⟩ := back_some r last rest (left - p.2) (by omega) h3 h2
    refine ⟨q, q1, by omega, ?_⟩
    simp only [List.cons_append]
    rw [backL, if_neg h1]
    exact q3
/-- the draw that is mapped to a number -/
def bck (l : List GArc) (t : List GCell) (y : Nat) : Nat × Bool :=
  if y < ptotal l ∧ mayOk l t = true then
    match backL (y - frontAt l (ivalN l y)) (pcs (gsum l) (ivalN l y) 0 t) with
    | some x => (x, true)
    | none => (0, false)
  else (0, false)
theorem ivalN_in {l : List GArc} {y : Nat} (hy : y < ptotal l) : ivalN l y < l.length ∧ frontAt l (ivalN l y) ≤ y ∧ y < frontAt l (ivalN l y + 1) := by
  have hall : y < frontAt l l.length := by rw [frontAt_all, ← ptotal_eq hy]; exact hy
  have : ∀ n, n ≤ l.length → y < frontAt l n → ∃ k, k < n ∧ frontAt l k ≤ y ∧ y < frontAt l (k + 1) := by
    intro n
    induction n with
    | zero => intro _ h; rw [frontAt_zero] at h; omega
    | succ n ih =>
      intro hn h
      rcases Nat.lt_or_ge y (frontAt l n) with h1 | h1
      · obtain ⟨k, h2, h3, h4⟩ := ih (by omega) h1
        exact ⟨k, by omega, h3, h4⟩
      · exact ⟨n, by omega, h1, h⟩
  obtain ⟨k, h2, h3, h4⟩ := this l.length (Nat.le_refl _) hall
  rw [ivalN_at l y k h2 h3 h4]
  exact ⟨h2, h3, h4⟩
/-- the number of a draw is told back -/
theorem bck_ok {l : List GArc} {t : List GCell} (h : mayOk l t = true) (hl : l.length ≤ 1048576) {y : Nat} (hy : y < ptotal l) :
    ∃ x, bck l t y = (x, true) ∧ backL (y - frontAt l (ivalN l y)) (pcs (gsum l) (ivalN l y) 0 t) = some x ∧ x < ptotal l ∧ toP (gsum l) t x = ivalN l y ∧ frontAt l (ivalN l y) + metC (gsum l) t (ivalN l y) x = y := by
  obtain ⟨h1, h2, h3, h4⟩ := mayOk_parts h
  obtain ⟨hk, hf1, hf2⟩ := ivalN_in hy
  obtain ⟨hg, hW0, _, hW1⟩ := ptotal_pos hy
  have hma := met_all h (by omega) hW1 (ivalN l y) hk
  have hfs := frontAt_succ l (ivalN l y) hk
  obtain ⟨x, q1, q2, q3, q4⟩ := backL_at (gsum l) (ivalN l y) t (fun c hc => (h3 c hc).1) (y - frontAt l (ivalN l y)) (by rw [hma]; omega) t.length 0 (by omega) (by rw [Nat.mul_zero]; exact Nat.zero_le _)
  rw [Nat.mul_zero, List.drop_zero] at q1
  have hm0 : metC (gsum l) t (ivalN l y) 0 = 0 := rfl
  rw [hm0, Nat.sub_zero] at q1
  refine ⟨x, ?_, q1, by rw [ptotal_eq hy, h1]; exact q4, q2, by omega⟩
  unfold bck
  rw [if_pos ⟨hy, h⟩, q1]
theorem bck_no {l : List GArc} {t : List GCell} {y : Nat} (h : ¬ (y < ptotal l ∧ mayOk l t = true)) : bck l t y = (0, false) := by
  unfold bck
  rw [if_neg h]

set_option maxRecDepth 100000 in
set_option maxHeartbeats 1600000 in
theorem found_any (w : World) (g : Nat) (a b : Nat) (left : Int) (h : BoxAt 23 w g [.int .u64 left]) :
    Calls Tryz.prog 54 #[.agg #[.int .u64 (a : Int), .int .u64 (b : Int)], .pointer (some ⟨g, 0, none⟩)] w fun e w' => e = .returned (.bool (decide (left < (b : Int)))) ∧ w' = w.alloc (.cells #[.int .u64 (a : Int), .int .u64 (b : Int)] 118) := by
  have hx := (h.alloc (.cells #[.int .u64 (a : Int), .int .u64 (b : Int)] 118)).cell 0 _ rfl
  go_enter Tryz.func54, Tryz.ntmps54
  go_wp2_with fail
  go_ret
  exact ⟨rfl, rfl⟩

set_option maxRecDepth 100000 in
set_option maxHeartbeats 6400000 in
theorem back_any (w : World) (B0 : Nat) (v v2 : Value) (l : List GArc) (t : List GCell) (y : Nat) (hy : y < 18446744073709551616) (hl : l.length ≤ 1048576) (ht : t.length ≤ 1048576) (h : ByA w B0 v l) (h2 : ByC w B0 v2 t) (hB : B0 ≤ w.heap.size) :
    Calls Tryz.prog 27 #[v, v2, .int .u64 (y : Int)] w fun e w' => e = .returned (.tuple #[.int .u64 ((bck l t y).1 : Nat), .bool (bck l t y).2]) ∧ Below w.heap.size w w' := by
  obtain ⟨A, c, rfl, hc1, hc2⟩ := h.form
  obtain ⟨A2, c2, rfl, hd1, hd2⟩ := h2.form
  unfold maxLen at hc2 hd2
  have hby0 := BoxAt.new_ 23 w [.int .u64 0]
  have hby1 := hby0.alloc (.cells #[.bool false] 4)
  have hbz0 := BoxAt.new_ 4 (w.alloc (.cells #[.int .u64 0] 23)) [.bool false]
  rw [World.size_alloc] at hbz0
  have hb03 := bstep (balloc w (.cells #[.int .u64 0] 23)) (balloc _ (.cells #[.bool false] 4))
  have hz3 : ((w.alloc (.cells #[.int .u64 0] 23)).alloc (.cells #[.bool false] 4)).heap.size = w.heap.size + 2 := by simp
  refine (callsIn_wide (n := 5)).1 ?_
  refine callsIn_of_wp_marks Tryz.func27 rfl trivial ?_ rfl
  simp only [Tryz.ntmps27, List.size_toArray, List.length_cons, List.length_nil, Nat.reduceAdd, Nat.reduceSub, Array.replicate_succ, Array.replicate_zero, List.push_toArray, List.append_toArray, List.nil_append, List.cons_append]
  gi_wp2
  refine wpIn_wide.2 ?_
  go_step3
  refine (wpIn_wide (n := 5)).1 ?_
  gi_wp2
  generalize (w.alloc (.cells #[.int .u64 0] 23)).alloc (.cells #[.bool false] 4) = w3 at *
  have hpa := interval_any w3 B0 _ l y hy hl (h.below (hb03.mono hB)) (by omega)
  have Hpa := Lib.hid hpa
  have Hb03 := Lib.hid hb03
  have Hy1 := Lib.hid hby1
  have Hz0 := Lib.hid hbz0
  have H1 := Lib.hid h
  have H2 := Lib.hid h2
  clear hpa hb03 hby0 hby1 hbz0 h h2
  have hrm : bck l t y = if y < ptotal l ∧ mayOk l t = true then (match backL (y - frontAt l (ivalN l y)) (pcs (gsum l) (ivalN l y) 0 t) with | some x => (x, true) | none => (0, false)) else (0, false) := rfl
  have hiv : ival l y = if y < ptotal l then (ivalN l y, true) else (0, false) := rfl
  have hok := fun h => @bck_ok l t h hl y
  have hno := @bck_no l t y
  have Hok := Lib.hid hok
  have Hno := Lib.hid hno
  have Hiv := Lib.hid hiv
  clear hrm hiv hok hno
  by_cases hyt : y < ptotal l
  · obtain ⟨hgm, hW0, hk0, hW1⟩ := ptotal_pos hyt
    obtain ⟨hkl, hkf1, hkf2⟩ := ivalN_in hyt
    have hi := Hiv.out
    rw [if_pos hyt] at hi
    have hpa := Hpa.out
    rw [hi] at hpa
    have Hpa2 := Lib.hid hpa
    have Hyt := Lib.hid hyt
    clear hpa Hpa hgm hk0 hyt hkf2 hi Hiv
    refine ⟨trivial, ?_⟩
    refine (callsIn_wide.2 Hpa2.out).mono ?_
    rintro _ w4 ⟨rfl, hb4⟩
    have hb04 := Hb03.out.trans (hb4.mono (by omega))
    have hz4 := hb4.size
    have Hy4 := Lib.hid (Hy1.out.below (by omega) hb4)
    have Hz4 := Lib.hid (Hz0.out.below (by omega) hb4)
    have Hb04 := Lib.hid hb04
    clear hb4 hb04 Hy1 Hz0 Hb03 Hpa2
    have hmy := amay_any w4 B0 B0 (.slice A l.length c) (.slice A2 t.length c2) l t (by omega) (by omega) (H1.out.below (Hb04.out.mono hB)) (H2.out.below (Hb04.out.mono hB)) (by omega) (by omega)
    have hcut := @mayOk_cut l t
    have Hcut := Lib.hid hcut
    have Hmy := Lib.hid hmy
    clear hmy hcut
    generalize mayOk l t = my at *
    generalize hto : ivalN l y = to at *
    have Hto := Lib.hid hto
    clear hto
    gi_wp2
    refine ⟨trivial, ?_⟩
    refine (callsIn_wide.2 Hmy.out).mono ?_
    rintro _ w5 ⟨rfl, hb5⟩
    have hb05 := Hb04.out.trans (hb5.mono (by omega))
    have hz5 := hb5.size
    have Hy5 := Lib.hid (Hy4.out.below (by omega) hb5)
    have Hz5 := Lib.hid (Hz4.out.below (by omega) hb5)
    have Hb05 := Lib.hid hb05
    clear hb5 hb05 Hy4 Hz4 Hb04 Hmy
    cases my with
    | false =>
      have hR := Hno.out (by simp)
      have HR := Lib.hid hR
      have hy1 := Hy5.out.frozen 0
      have hz1 := Hz5.out.frozen 0
      have hy2 := Hy5.out.cell 0 _ rfl
      have hz2 := Hz5.out.cell 0 _ rfl
      clear hR
      gi_wp2
      have hy5 := (Hy5.out.put 0 (.int .u64 0)).other ⟨w.heap.size + 1, 0, none⟩ (.bool false) (by show w.heap.size + 1 ≠ w.heap.size; omega)
      have hz5 := (Hz5.out.other ⟨w.heap.size, 0, none⟩ (.int .u64 0) (by show w.heap.size ≠ w.heap.size + 1; omega)).put 0 (.bool false)
      have hy6 := hy5.cell 0 _ rfl
      have hz6 := hz5.cell 0 _ rfl
      have hb5 := (Hb05.out.setCell (p := ⟨w.heap.size, 0, none⟩) (by show w.heap.size ≤ w.heap.size; omega) (.int .u64 0)).setCell (p := ⟨w.heap.size + 1, 0, none⟩) (by show w.heap.size ≤ w.heap.size + 1; omega) (.bool false)
      rw [Exit.noGoto_ret]
      refine ⟨.tuple #[.int .u64 0, .bool false], ?_, by rw [HR.out]; rfl, hb5⟩
      simp [results, Tryz.f27, go_sem, hy6, hz6]
      try rfl
    | true =>
      have hcut := Hcut.out rfl
      have Hcut2 := Lib.hid hcut
      have hR := Hok.out rfl Hyt.out
      have HR := Lib.hid hR
      clear hcut Hcut hR Hok Hno
      have hfr := front_any w5 B0 (.slice A l.length c) l to hkl hl hW1 (H1.out.below (Hb05.out.mono hB)) (by omega)
      have Hfr := Lib.hid hfr
      clear hfr
      gi_wp2
      refine ⟨trivial, ?_⟩
      refine (callsIn_wide.2 Hfr.out).mono ?_
      rintro _ w6 ⟨rfl, hb6⟩
      have hb06 := Hb05.out.trans (hb6.mono (by omega))
      have hz6 := hb6.size
      have hy6 := Hy5.out.below (by omega) hb6
      have hz6b := Hz5.out.below (by omega) hb6
      obtain ⟨left, hleft⟩ : ∃ left, left = y - frontAt l to := ⟨_, rfl⟩
      have hsub : IntKind.u64.wrap ((y : Int) - (frontAt l to : Int)) = (left : Int) := by rw [wrap_u64]; omega
      have hleb : left < 18446744073709551616 := by omega
      rw [← hleft] at HR
      have Hleft := Lib.hid hleft
      clear hleft
      have hqb := (BoxAt.new_ 23 w6 [.int .u64 (left : Int)]).alloc (.cells #[.func (.func 54) #[] #[.pointer (some ⟨w6.heap.size, 0, none⟩)]] 119)
      have hfb := BoxAt.new_ 119 (w6.alloc (.cells #[.int .u64 (left : Int)] 23)) [.func (.func 54) #[] #[.pointer (some ⟨w6.heap.size, 0, none⟩)]]
      rw [World.size_alloc] at hfb
      have hba := bstep (balloc w6 (.cells #[.int .u64 (left : Int)] 23)) (balloc _ (.cells #[.func (.func 54) #[] #[.pointer (some ⟨w6.heap.size, 0, none⟩)]] 119))
      have hz7 : ((w6.alloc (.cells #[.int .u64 (left : Int)] 23)).alloc (.cells #[.func (.func 54) #[] #[.pointer (some ⟨w6.heap.size, 0, none⟩)]] 119)).heap.size = w6.heap.size + 2 := by simp
      have Hq7 := Lib.hid hqb
      have Hf7 := Lib.hid hfb
      have Hy7 := Lib.hid (hy6.below (by omega) hba)
      have Hz7 := Lib.hid (hz6b.below (by omega) hba)
      have Hb07 := Lib.hid (hb06.trans (hba.mono (by omega)))
      clear hb6 hb06 hy6 hz6b hqb hfb hba Hy5 Hz5 Hb05 Hfr
      gi_wp2
      generalize ((w6.alloc (.cells #[.int .u64 (left : Int)] 23)).alloc (.cells #[.func (.func 54) #[] #[.pointer (some ⟨w6.heap.size, 0, none⟩)]] 119)) = w7 at *
      generalize hg6 : w6.heap.size = g6 at *
      refine wpIn_wide.2 ?_
      go_step3
      gi_wp2
      refine ⟨trivial, ?_⟩
      refine (callsIn_wide.2 (gsum_any w7 B0 (.slice A l.length c) l (by omega) (H1.out.below (Hb07.out.mono hB)) (by omega))).mono ?_
      rintro _ w8 ⟨rfl, hb8⟩
      have hz8 := hb8.size
      have hy8 := Hy7.out.below (by omega) hb8
      have hz8b := Hz7.out.below (by omega) hb8
      have hq8 := Hq7.out.below (by omega) hb8
      have hf8 := Hf7.out.below (by omega) hb8
      have hb08 := Hb07.out.trans (hb8.mono (by omega))
      have Hy8 := Lib.hid hy8
      have Hz8 := Lib.hid hz8b
      have Hq8 := Lib.hid hq8
      have Hf8 := Lib.hid hf8
      have Hb08 := Lib.hid hb08
      clear hy8 hz8b hq8 hf8 hb08 hb8 Hy7 Hz7 Hq7 Hf7 Hb07
      gi_wp2
      refine ⟨trivial, ?_⟩
      refine (pieces_in Fence.wide 4 trivial rfl _ _ _ _ _ _).mono ?_
      rintro _ _ ⟨rfl, rfl⟩
      gi_wp2
      have hp0 := BoxAt.new_ 56 w8 [.slice A2 t.length c2]
      have hp1 := BoxAt.new_ 23 (w8.alloc (.cells #[.slice A2 t.length c2] 56)) [.int .u64 (gsum l : Nat)]
      have hp2 := BoxAt.new_ 3 ((w8.alloc (.cells #[.slice A2 t.length c2] 56)).alloc (.cells #[.int .u64 (gsum l : Nat)] 23)) [.int .i64 (to : Int)]
      rw [World.size_alloc] at hp1
      rw [World.size_alloc, World.size_alloc] at hp2
      have hp0' := (hp0.alloc (.cells #[.int .u64 (gsum l : Nat)] 23)).alloc (.cells #[.int .i64 (to : Int)] 3)
      have hp1' := hp1.alloc (.cells #[.int .i64 (to : Int)] 3)
      have hba9 := bstep (bstep (balloc w8 (.cells #[.slice A2 t.length c2] 56)) (balloc _ (.cells #[.int .u64 (gsum l : Nat)] 23))) (balloc _ (.cells #[.int .i64 (to : Int)] 3))
      have hz9 : (((w8.alloc (.cells #[.slice A2 t.length c2] 56)).alloc (.cells #[.int .u64 (gsum l : Nat)] 23)).alloc (.cells #[.int .i64 (to : Int)] 3)).heap.size = w8.heap.size + 3 := by simp
      have hy9 := ((Hy8.out.alloc (.cells #[.slice A2 t.length c2] 56)).alloc (.cells #[.int .u64 (gsum l : Nat)] 23)).alloc (.cells #[.int .i64 (to : Int)] 3)
      have hz9b := ((Hz8.out.alloc (.cells #[.slice A2 t.length c2] 56)).alloc (.cells #[.int .u64 (gsum l : Nat)] 23)).alloc (.cells #[.int .i64 (to : Int)] 3)
      have hq9 := ((Hq8.out.alloc (.cells #[.slice A2 t.length c2] 56)).alloc (.cells #[.int .u64 (gsum l : Nat)] 23)).alloc (.cells #[.int .i64 (to : Int)] 3)
      have hf9 := ((Hf8.out.alloc (.cells #[.slice A2 t.length c2] 56)).alloc (.cells #[.int .u64 (gsum l : Nat)] 23)).alloc (.cells #[.int .i64 (to : Int)] 3)
      have hb09 := Hb08.out.trans (hba9.mono (by omega))
      generalize ((w8.alloc (.cells #[.slice A2 t.length c2] 56)).alloc (.cells #[.int .u64 (gsum l : Nat)] 23)).alloc (.cells #[.int .i64 (to : Int)] 3) = w9 at *
      generalize hg8 : w8.heap.size = g8 at *
      have hc0 := hp0'.cell 0 _ rfl
      have hc1' := hp1'.cell 0 _ rfl
      have hc2' := hp2.cell 0 _ rfl
      have Hy9 := Lib.hid hy9
      have Hz9 := Lib.hid hz9b
      have Hq9 := Lib.hid hq9
      have Hf9 := Lib.hid hf9
      have Hb09 := Lib.hid hb09
      clear hp0 hp1 hp2 hp0' hp1' hba9 hy9 hz9b hq9 hf9 hb09 Hy8 Hz8 Hq8 Hf8 Hb08
      refine wpIn_rangeFunc_ownH rfl (by omega) (gf := 81) (lb := #[.pointer (some ⟨g8, 0, none⟩), .pointer (some ⟨g8 + 1, 0, none⟩), .pointer (some ⟨g8 + 1 + 1, 0, none⟩)]) rfl trivial (enters_of Tryz.func81 (by kernel_rfl) rfl)
        (pieces_stops Fence.wide 4 trivial rfl (by omega) g8 B0 (fun k => k = g6) A2 c2 t (gsum l) to (by omega) hW1 Hcut2.out (by omega) w9 (by omega) (fun j hj => by omega) (by rintro k rfl; omega) (by rintro k rfl; omega) (by omega) hc0 hc1' hc2' (H2.out.below (Hb09.out.mono hB))) Kp.trans (fun W l o o' h1 h2 h3 h4 => Kp.putObj _ w9.heap.size W l o o' h1 h2 h3 h4) (Below.refl _ _) (fun _ => rfl)
        (fun pre W => (passed (left : Int) pre ∧ BoxAt 23 W g6 [.int .u64 (lsub (left : Int) pre)] ∧ BoxAt 119 W (g6 + 1) [.func (.func 54) #[] #[.pointer (some ⟨g6, 0, none⟩)]] ∧ BoxAt 23 W w.heap.size [.int .u64 0] ∧ BoxAt 4 W (w.heap.size + 1) [.bool false] ∧ w9.heap.size ≤ W.heap.size) ∧ Below w.heap.size w W)
        (fun cd pre W => (cd = .ret ∧ ∃ ini last, pre = ini ++ [last] ∧ passed (left : Int) ini ∧ decide (lsub (left : Int) ini < (last.2 : Int)) = true ∧ BoxAt 23 W w.heap.size [.int .u64 (IntKind.u64.wrap ((last.1 : Int) + lsub (left : Int) ini))] ∧ BoxAt 4 W (w.heap.size + 1) [.bool true]) ∧ Below w.heap.size w W)
        (OwnFrom.and (Own.from (fun s X Y row hs hg hr => ⟨hs.1, hs.2.1.ownk hg hr, hs.2.2.1.ownk hg hr, hs.2.2.2.1.ownk hg hr, hs.2.2.2.2.1.ownk hg hr, Nat.le_trans hs.2.2.2.2.2 hg.size⟩) _) (ownFrom_below (Nat.le_refl _) (by omega)))
        (fun cd => OwnFrom.and (Own.from (fun s X Y row hs hg hr => by obtain ⟨e0, ini, last, e1, e2, e3, e4, e5⟩ := hs; exact ⟨e0, ini, last, e1, e2, e3, e4.ownk hg hr, e5.ownk hg hr⟩) _) (ownFrom_below (Nat.le_refl _) (by omega)))
        ⟨⟨trivial, Hq9.out, Hf9.out, Hy9.out, Hz9.out, Nat.le_refl _⟩, Hb09.out⟩
        (fun p a' W => ∃ Bx, w9.heap.size ≤ Bx ∧ BoxAt 118 W Bx [.int .u64 (p.1 : Int), .int .u64 (p.2 : Int)] ∧ a' = Act.mk #[.slice A l.length c, .slice A2 t.length c2, .int .u64 (y : Int), undef, undef, undef, .pointer (some ⟨w.heap.size, 0, none⟩), .pointer (some ⟨w.heap.size + 1, 0, none⟩), .int .i64 (to : Int), .bool true, .pointer (some ⟨g6, 0, none⟩), .pointer (some ⟨g6 + 1, 0, none⟩), .pointer (some ⟨Bx, 0, none⟩),
          .tuple #[.int .i64 (to : Int), .bool true], .slice A l.length c, .int .u64 (y : Int), .tuple #[.int .i64 (to : Int), .bool true], .int .i64 (to : Int), .bool true, .bool true, .bool false, .bool false, .slice A l.length c, .slice A2 t.length c2, .bool true, .bool false, .bool false, .int .u64 (y : Int), .slice A l.length c, .int .i64 (to : Int),
          .int .u64 (frontAt l to : Nat), .int .u64 (left : Int), .func (.func 54) #[] #[.pointer (some ⟨g6, 0, none⟩)], .slice A2 t.length c2, .slice A l.length c, .int .u64 (gsum l : Nat), .int .i64 (to : Int), .func (.func 81) #[] #[.pointer (some ⟨g8, 0, none⟩), .pointer (some ⟨g8 + 1, 0, none⟩), .pointer (some ⟨g8 + 1 + 1, 0, none⟩)], .agg #[.int .u64 (p.1 : Int), .int .u64 (p.2 : Int)],
          undef, undef, undef, undef, undef, undef, undef, undef, undef, undef, undef, undef] [])
        (fun p a' _ X Y row hs hg hr => by obtain ⟨Bx, h1, h2, h3⟩ := hs; exact ⟨Bx, h1, h2.ownk hg (fun r e => (hr r e).2), h3⟩)
        ?assign ?body ?done ?stop
      case assign =>
        rintro lq pre p W K ⟨⟨i1, i2, i3, i4, i5, i6⟩, hBW⟩ hK
        dsimp only [encP]
        gi_wp2
        exact hK _ _ ((KeepsOthers.alloc _ _).from _) (Kp.alloc _ _ _) ⟨⟨i1, i2.alloc _, i3.alloc _, i4.alloc _, i5.alloc _, by simp; omega⟩, hBW.alloc hBW.size _⟩ ⟨W.heap.size, i6, BoxAt.new_ 118 W _, rfl⟩
      case body =>
        rintro lq pre p a' W hlq hr0 ⟨⟨i1, i2, i3, i4, i5, i6⟩, hBW⟩ ⟨Bx, hBx, bX, rfl⟩ hlt
        have hp0 := bX.cell 0 _ rfl
        have hp1 := bX.cell 1 _ rfl
        have hf0 := i3.cell 0 _ rfl
        have hss := lsub_snoc (left : Int) pre p
        have hps := passed_snoc pre (left : Int) p i1
        have Hss := Lib.hid hss
        have Hps := Lib.hid hps
        have I1 := Lib.hid i1
        clear hss hps i1
        generalize hys : lsub (left : Int) pre = ys at *
        have Hys := Lib.hid hys
        clear hys
        have hfd := found_any W g6 p.1 p.2 ys i2
        have Hfd := Lib.hid hfd
        have I2 := Lib.hid i2
        have I3 := Lib.hid i3
        have I4 := Lib.hid i4
        have I5 := Lib.hid i5
        have HX := Lib.hid bX
        have HBW := Lib.hid hBW
        clear hfd i2 i3 i4 i5 bX hBW
        gi_wp2
        refine ⟨trivial, ?_⟩
        refine (CallsIn.inRound lq (callsIn_wide.2 Hfd.out)).mono ?_
        rintro _ _ ⟨rfl, rfl⟩
        have j2 := I2.out.alloc (.cells #[.int .u64 (p.1 : Int), .int .u64 (p.2 : Int)] 118)
        have j3 := I3.out.alloc (.cells #[.int .u64 (p.1 : Int), .int .u64 (p.2 : Int)] 118)
        have j4 := I4.out.alloc (.cells #[.int .u64 (p.1 : Int), .int .u64 (p.2 : Int)] 118)
        have j5 := I5.out.alloc (.cells #[.int .u64 (p.1 : Int), .int .u64 (p.2 : Int)] 118)
        have jX := HX.out.alloc (.cells #[.int .u64 (p.1 : Int), .int .u64 (p.2 : Int)] 118)
        have jBW := HBW.out.alloc HBW.out.size (.cells #[.int .u64 (p.1 : Int), .int .u64 (p.2 : Int)] 118)
        have jk := KeepsOthers.alloc W (.cells #[.int .u64 (p.1 : Int), .int .u64 (p.2 : Int)] 118)
        have jp := Kp.alloc (fun k => k = g6) W (.cells #[.int .u64 (p.1 : Int), .int .u64 (p.2 : Int)] 118)
        have jz : w9.heap.size ≤ (W.alloc (.cells #[.int .u64 (p.1 : Int), .int .u64 (p.2 : Int)] 118)).heap.size := by simp; omega
        clear hp0 hp1 hf0 I2 I3 I4 I5 HX HBW Hfd
        generalize W.alloc (.cells #[.int .u64 (p.1 : Int), .int .u64 (p.2 : Int)] 118) = W1 at *
        have hp0 := jX.cell 0 _ rfl
        have hp1 := jX.cell 1 _ rfl
        have hq0 := j2.cell 0 _ rfl
        have hqf := j2.frozen 0
        have hy0 := j4.cell 0 _ rfl
        have hyf := j4.frozen 0
        have hz0 := j5.cell 0 _ rfl
        have hzf := j5.frozen 0
        cases hd : decide (ys < (p.2 : Int)) with
        | true =>
          have Hd := Lib.hid hd
          clear hd
          gi_wp2
          refine ⟨(jk.trans ((KeepsOthers.setCell _ _ _).trans (KeepsOthers.setCell _ _ _))).from _, ⟨rfl, pre, p, rfl, I1.out, by rw [Hys.out]; exact Hd.out, ?_, ?_⟩, ?_⟩
          · rw [Hys.out]
            exact (j4.put 0 _).other _ _ (by show w.heap.size + 1 ≠ w.heap.size; omega)
          · exact (j5.other _ _ (by show w.heap.size ≠ w.heap.size + 1; omega)).put 0 _
          · exact (jBW.setCell (p := ⟨w.heap.size, 0, none⟩) (Nat.le_refl _) _).setCell (p := ⟨w.heap.size + 1, 0, none⟩) (by show w.heap.size ≤ w.heap.size + 1; omega) _
        | false =>
          have Hd := Lib.hid hd
          clear hd
          gi_wp2
          refine ⟨(jk.trans (KeepsOthers.setCell _ _ _)).from _, jp.trans (Kp.set _ _ _ rfl), ⟨Hps.out (by first | exact Hd.out | (rw [Hys.out]; exact Hd.out)), ?_, j3.other _ _ (by show g6 ≠ g6 + 1; omega), j4.other _ _ (by show g6 ≠ w.heap.size; omega), j5.other _ _ (by show g6 ≠ w.heap.size + 1; omega), by simp [World.setCell]; exact jz⟩, jBW.setCell (p := ⟨g6, 0, none⟩) (by show w.heap.size ≤ g6; omega) _⟩
          rw [Hss.out]; exact j2.put 0 _
      case done =>
        rintro D ys W hD rfl ⟨⟨i1, i2, i3, i4, i5, i6⟩, hBW⟩ hK
        exfalso
        obtain ⟨x, q1, q2, q3, q4, q5⟩ := HR.out
        rw [back_none _ _ hleb i1] at q2
        cases q2
      case stop =>
        rintro D cd pre W hD ⟨rest, hpre⟩ ⟨⟨rfl, ini, last, e1, e2, e3, e4, e5⟩, hBW⟩ hK
        subst e1
        obtain ⟨x, q1, q2, q3, q4, q5⟩ := HR.out
        obtain ⟨r, r1, r2, r3⟩ := back_some ini last rest left hleb e2 e3
        rw [← hpre, r3] at q2
        have h7 := Option.some.inj q2
        have hxl : x < 1048576 * 2147483647 := by
          have : gsum l * l.length ≤ 2147483647 * 1048576 := Nat.mul_le_mul hW1 hl
          rw [ptotal_eq q3] at q3
          omega
        have hval : IntKind.u64.wrap ((last.1 : Int) + lsub (left : Int) ini) = (x : Int) := by
          rw [r1, wrap_u64]; omega
        rw [hval] at e4
        have hy0 := e4.cell 0 _ rfl
        have hz0 := e5.cell 0 _ rfl
        have HB := Lib.hid hBW
        have Q1 := Lib.hid q1
        clear e2 e3 e4 e5 q1 q2 q3 q4 q5 r1 r2 r3 h7 hpre hBW hval
        gi_wp2
        rw [Exit.noGoto_ret]
        refine ⟨by simp, .inl ⟨_, _, rfl, run_takeDeferred hK, ?_⟩⟩
        have hy5 := cell_kept hy0 (grownBy_putObj' _ D (.deferred none)) (fun r e => by cases e; exact ⟨_, hK, rfl⟩)
        have hz5 := cell_kept hz0 (grownBy_putObj' _ D (.deferred none)) (fun r e => by cases e; exact ⟨_, hK, rfl⟩)
        refine ⟨.tuple #[.int .u64 (x : Int), .bool true], ?_, by rw [Q1.out], HB.out.trans (belowK_b (w := w) (Nat.le_refl _) W D _ _ (by omega) hK rfl rfl)⟩
        simp [results, Tryz.f27, go_sem, hy5, hz5]
        try rfl
  · have hi := Hiv.out
    rw [if_neg hyt] at hi
    have hpa := Hpa.out
    rw [hi] at hpa
    have Hpa2 := Lib.hid hpa
    have hR := Hno.out (fun e => hyt e.1)
    have HR := Lib.hid hR
    clear hpa Hpa hR hyt hi Hiv
    refine ⟨trivial, ?_⟩
    refine (callsIn_wide.2 Hpa2.out).mono ?_
    rintro _ w4 ⟨rfl, hb4⟩
    have hb04 := Hb03.out.trans (hb4.mono (by omega))
    have hz4 := hb4.size
    have Hy4 := Lib.hid (Hy1.out.below (by omega) hb4)
    have Hz4 := Lib.hid (Hz0.out.below (by omega) hb4)
    have Hb04 := Lib.hid hb04
    have hy1 := Hy4.out.frozen 0
    have hz1 := Hz4.out.frozen 0
    have hy2 := Hy4.out.cell 0 _ rfl
    have hz2 := Hz4.out.cell 0 _ rfl
    clear hb4 hb04
    gi_wp2
    refine ⟨trivial, ?_⟩
    gi_wp2
    have hy5 := (Hy4.out.put 0 (.int .u64 0)).other ⟨w.heap.size + 1, 0, none⟩ (.bool false) (by show w.heap.size + 1 ≠ w.heap.size; omega)
    have hz5 := (Hz4.out.other ⟨w.heap.size, 0, none⟩ (.int .u64 0) (by show w.heap.size ≠ w.heap.size + 1; omega)).put 0 (.bool false)
    have hy6 := hy5.cell 0 _ rfl
    have hz6 := hz5.cell 0 _ rfl
    have hb5 := (Hb04.out.setCell (p := ⟨w.heap.size, 0, none⟩) (by show w.heap.size ≤ w.heap.size; omega) (.int .u64 0)).setCell (p := ⟨w.heap.size + 1, 0, none⟩) (by show w.heap.size ≤ w.heap.size + 1; omega) (.bool false)
    rw [Exit.noGoto_ret]
    refine ⟨.tuple #[.int .u64 0, .bool false], ?_, by rw [HR.out]; rfl, hb5⟩
    simp [results, Tryz.f27, go_sem, hy6, hz6]
    try rfl
end Go.Proofs.YtcffeepgfjpcaaaGreat

namespace Go.Proofs.YtcffeepgfjpcaaaGreat
set_option linter.unusedSimpArgs false
set_option linter.unusedVariables false
open Go.RowKit

theorem one_to_one {l : List GArc} {t : List GCell} (h : mayOk l t = true) (hl : l.length ≤ 1048576) {x : Nat} (hx : x < ptotal l) :
    frontAt l (toP (gsum l) t x) + metC (gsum l) t (toP (gsum l) t x) x < ptotal l ∧ ivalN l (frontAt l (toP (gsum l) t x) + metC (gsum l) t (toP (gsum l) t x) x) = toP (gsum l) t x ∧
      bck l t (frontAt l (toP (gsum l) t x) + metC (gsum l) t (toP (gsum l) t x) x) = (x, true) := by
  obtain ⟨h1, h2, h3, h4⟩ := mayOk_parts h
  obtain ⟨hg, hW0, _, hW1⟩ := ptotal_pos hx
  have htl := (palias_ok h hx).2
  have hma := met_all h (by omega) hW1 _ htl
  have hfs := frontAt_succ l _ htl
  have hlt := metC_lt (gsum l) t (toP (gsum l) t x) x (gsum l * t.length) rfl (by rw [← h1, ← ptotal_eq hx]; exact hx)
  have hmo := frontAt_mono l (show toP (gsum l) t x + 1 ≤ l.length by omega)
  rw [frontAt_all, ← ptotal_eq hx] at hmo
  generalize hto : toP (gsum l) t x = to at *
  generalize hy : frontAt l to + metC (gsum l) t to x = y at *
  have hyt : y < ptotal l := by omega
  have hiv := ivalN_at l y to htl (by omega) (by omega)
  refine ⟨hyt, hiv, ?_⟩
  obtain ⟨x', q1, _, q3, q4, q5⟩ := bck_ok h hl hyt
  rw [hiv] at q4 q5
  have hxx : x' = x := by
    rcases Nat.lt_trichotomy x' x with c | c | c
    · have := metC_lt (gsum l) t to x' x q4 c
      omega
    · exact c
    · have := metC_lt (gsum l) t to x x' hto c
      omega
  rw [q1, hxx]
end Go.Proofs.YtcffeepgfjpcaaaGreat

namespace Go.Proofs.YtcffeepgfjpcaaaGreat
set_option linter.unusedSimpArgs false
set_option linter.unusedVariables false
open Go.RowKit

theorem gsum_posN {l : List GArc} (h : nbrs l = true) : 0 < gsum l := by
  obtain ⟨h1, h2⟩ := nbrs_gmay h
  rw [gmay_parts] at h1
  cases l with
  | nil => simp at h2
  | cons a t =>
    have h3 := h1.1
    simp only [rise, Bool.and_eq_true] at h3
    have h4 : a.wt ≠ 0 := by simpa using h3.1.1
    have h5 : a.wt.toNat ≠ 0 := fun e => h4 (UInt32.toNat_inj.1 e)
    simp [gsum]
    omega
theorem ptotal_posN {l : List GArc} (h : nbrs l = true) : 0 < ptotal l := by
  obtain ⟨h1, h2⟩ := nbrs_gmay h
  unfold ptotal
  rw [if_pos h1]
  exact Nat.mul_pos (gsum_posN h) h2
theorem ptotal_ltN {l : List GArc} (h : nbrs l = true) (hl : l.length ≤ 1048576) : ptotal l < 4611686018427387904 := by
  obtain ⟨h1, h2⟩ := nbrs_gmay h
  unfold ptotal
  rw [if_pos h1]
  have := gmay_sum' h1
  calc gsum l * l.length ≤ 2147483647 * 1048576 := Nat.mul_le_mul this hl
    _ < _ := by decide
theorem cand_facts {l : List GArc} (h : nbrs l = true) (hl : l.length ≤ 1048576) {d : Nat} (hd : d < ptotal l) :
    (rmp l (btab l) d).1 < ptotal l ∧ (ival l (rmp l (btab l) d).1).1 < l.length := by
  have hm := btab_may l hl h (gmay_sum' (nbrs_gmay h).1)
  obtain ⟨h1, h2, h3⟩ := one_to_one hm hl hd
  rw [rmp_ok hm hd]
  refine ⟨h1, ?_⟩
  unfold ival
  rw [if_pos h1]
  simp only
  rw [h2]
  exact (palias_ok hm hd).2
/-- is a vertex among the arcs' ends? -/
theorem near_found {l : List GArc} {t : UInt32} {i : Nat} {b : Bool} (hr : rise none l = true) (h : FoundAt l t.toNat i b) : b = l.any fun a => a.to == t := by
  obtain ⟨h1, h2, h3, rfl⟩ := h
  rw [Bool.eq_iff_iff]
  simp only [decide_eq_true_eq, List.any_eq_true, beq_iff_eq]
  constructor
  · rintro ⟨hi, e⟩
    exact ⟨l[i], List.getElem_mem hi, UInt32.toNat_inj.1 e⟩
  · rintro ⟨a, ha, e⟩
    obtain ⟨k, hk, rfl⟩ := List.mem_iff_getElem.1 ha
    have hki : i ≤ k := by
      rcases Nat.lt_or_ge k i with hlt | hge
      · have := h2 k hk hlt
        rw [e] at this
        omega
      · exact hge
    refine ⟨by omega, ?_⟩
    have h4 := h3 i (by omega) (Nat.le_refl _)
    have h5 : (l[i]'(by omega)).to.toNat ≤ t.toNat := by
      rw [← e]
      rcases Nat.eq_or_lt_of_le hki with rfl | hlt
      · exact Nat.le_refl _
      · exact Nat.le_of_lt (rise_lt l hr i k hlt hk)
    omega
/-- what a graph's rows are -/
structure RGood (R : List GRow) : Prop where
  len : R.length ≤ 1048576
  up : R.Pairwise fun a b => a.fr.toNat < b.fr.toNat
  row : ∀ v, arcsR R v = [] ∨ nbrs (arcsR R v) = true
  al : ∀ v, (arcsR R v).length ≤ 1048576
theorem RGood.rise {R : List GRow} (h : RGood R) (v : UInt32) : rise none (arcsR R v) = true := by
  rcases h.row v with h | h
  · rw [h]; rfl
  · exact (gmay_parts.1 (nbrs_gmay h).1).1
theorem near_any (w : World) (B g : Nat) (R : List GRow) (hR : RGood R) (v t : UInt32) (h : GraphAt w B g R) (hB : B ≤ w.heap.size) :
    Calls Tryz.prog 18 #[.pointer (some ⟨g, 0, none⟩), .int .u32 (v.toNat : Int), .int .u32 (t.toNat : Int)] w fun e w' => e = .returned (.bool (nearP R v t)) ∧ Below w.heap.size w w' := by
  refine (gnear_any w B g R v t h hB hR.len hR.up (hR.al v) (hR.rise v)).mono ?_
  rintro e w' ⟨i, b, rfl, hf, hb⟩
  rw [near_found (hR.rise v) hf]
  exact ⟨rfl, hb⟩
/-- one try, plainly: the neighbour -/
theorem candP_any (w : World) (g B : Nat) (hB : B ≤ w.heap.size) (gv vs vp : Value) (j : GJob) (id : Nat) (l : List UInt32) (hb : BoxAt 85 w g (walkC gv vs j id vp)) (hpl : ByU w B vp l) (hl : l.length ≤ 1048576) (hl0 : 0 < l.length) (hid : id < 4294967296)
    (uk ut : UInt64) (hk : uk.toNat = id) (ht : ut.toNat + 1 = l.length) (tr : Nat) (htr : tr ≤ 1048575) (va vt : Value) (arcs : List GArc) (ha : ByA w B va arcs) (hc : ByC w B vt (btab arcs)) (hal : arcs.length ≤ 1048576) (hn : nbrs arcs = true) :
    Calls Tryz.prog 64 #[.pointer (some ⟨g, 0, none⟩), va, vt, .int .u64 (tr : Int)] w fun e w' => e = .returned (.int .u32 ((candP j uk ut arcs (btab arcs) tr).toNat : Int)) ∧ Below w.heap.size w w' := by
  have hpt := ptotal_ltN hn hal
  have hd := belowU_lt (drawU j.seed uk ut (UInt64.ofNat (2 * tr + 1))) (ptotal arcs) (ptotal_posN hn)
  obtain ⟨h1, h2⟩ := cand_facts hn hal hd
  have hbl := btab_len arcs hal (gmay_sum' (nbrs_gmay hn).1)
  refine (cand_any w g B hB gv vs vp j id l hb hpl hl hl0 hid uk ut (UInt64.ofNat (2 * tr + 1)) hk ht tr htr ?_ va vt arcs (btab arcs) ha hc hal (by rw [hbl]; exact hal) _ _ _ rfl rfl rfl h2 (by omega) (by omega) (by omega)).mono ?_
  · rw [UInt64.toNat_ofNat']
    exact Nat.mod_eq_of_lt (by omega)
  · rintro e w' ⟨rfl, hbw⟩
    exact ⟨rfl, hbw⟩
theorem takesP_any (w : World) (g B gg : Nat) (hB : B ≤ w.heap.size) (vs vp : Value) (R : List GRow) (hR : RGood R) (hg : GraphAt w B gg R) (j : GJob) (id : Nat) (l : List UInt32) (hb : BoxAt 85 w g (walkC (.pointer (some ⟨gg, 0, none⟩)) vs j id vp)) (hpl : ByU w B vp l)
    (hl : l.length ≤ 1048576) (hl0 : 0 < l.length) (hid : id < 4294967296) (uk ut : UInt64) (hk : uk.toNat = id) (ht : ut.toNat + 1 = l.length) (tr : Nat) (htr : tr ≤ 1048575) (to : UInt32) (ah : UInt32) (hah : ah = l.getD (l.length - 2) 0) :
    Calls Tryz.prog 65 #[.pointer (some ⟨g, 0, none⟩), .int .u32 (to.toNat : Int), .int .u64 (tr : Int)] w fun e w' => e = .returned (.bool (takesJ j l.length to.toNat ah.toNat (testP j uk ut tr) (nearP R ah to))) ∧ Below w.heap.size w w' := by
  refine takes_any22 w g B hB _ vs vp j id l hb hpl hl hl0 hid uk ut (UInt64.ofNat (2 * tr)) hk ht tr htr ?_ to.toNat (u32_lt to) (nearP R ah to) ah.toNat (fun _ => by rw [hah]) (fun W hW => near_any W B gg R hR ah to (hg.below (hW.mono hB)) (by have := hW.size; omega)) _ rfl _ rfl
  rw [UInt64.toNat_ofNat']
  exact Nat.mod_eq_of_lt (by omega)
end Go.Proofs.YtcffeepgfjpcaaaGreat

namespace Go.Proofs.YtcffeepgfjpcaaaGreat
set_option linter.unusedSimpArgs false
set_option linter.unusedVariables false

theorem wtE_wsum (l : List GEdge) (v t : UInt32) : wtE l v t = wsum l v t := by
  have key : ∀ (l : List GEdge) (n : Nat), l.foldl (fun n x => if x.fr = v ∧ x.to = t then n + x.wt.toNat else n) n = n + wsum l v t := by
    intro l
    induction l with
    | nil => intro n; simp [wsum]
    | cons x r ih =>
      intro n
      rw [List.foldl_cons, ih]
      have : wsum (x :: r) v t = wsum [x] v t + wsum r v t := wsum_append [x] r v t
      rw [this, wsum_one]
      split <;> omega
  have := key l 0
  rwa [Nat.zero_add] at this
theorem oneW_wt (ws : List (List UInt8)) (h : (oneW ws).2.1 = true) : (oneW ws).1.wt ≠ 0 := by
  have hm := numW_le (ws.getD 2 []) 2147483647
  unfold oneW at h ⊢
  repeat' split at h
  all_goals first
    | (cases h; done)
    | skip
  · rename_i h1 h2 h3 h4 h5 h6 h7 h8
    simp only [if_neg h1, if_neg h2, if_neg h3, if_neg h4, if_neg h5, if_pos h6, if_neg h7, if_neg h8]
    intro e
    have e2 := congrArg UInt32.toNat e
    rw [UInt32.toNat_ofNat'] at e2
    have : (0 : UInt32).toNat = 0 := rfl
    omega
  · rename_i h1 h2 h3 h4 h5 h6
    simp only [if_neg h1, if_neg h2, if_neg h3, if_neg h4, if_neg h5, if_neg h6]
    decide
theorem readE_wt : ∀ (ls : List (List UInt8)) (i : Nat) (out : List GEdge), (∀ x ∈ out, x.wt ≠ 0) → ∀ x ∈ (readE ls i out).1, x.wt ≠ 0
  | [], i, out, h => h
  | a :: t, i, out, h => by
    unfold readE
    split
    · intro x hx; simp at hx
    · refine readE_wt t (i + 1) _ ?_
      split
      · rename_i h2
        intro x hx
        rcases List.mem_append.1 hx with hx | hx
        · exact h x hx
        · rw [List.mem_singleton] at hx; rw [hx]; exact oneW_wt _ h2
      · exact h
theorem nodup_len : ∀ (a b : List UInt32), a.Nodup → (∀ x ∈ a, x ∈ b) → a.length ≤ b.length
  | [], b, _, _ => Nat.zero_le _
  | x :: t, b, hn, hs => by
    rw [List.nodup_cons] at hn
    have hx := hs x (by simp)
    have h1 := List.length_erase_of_mem hx
    have h2 := nodup_len t (b.erase x) hn.2 fun y hy => (List.mem_erase_of_ne (fun e => hn.1 (by rw [← e]; exact hy))).2 (hs y (by simp [hy]))
    have h3 : 0 < b.length := List.length_pos_of_mem hx
    rw [List.length_cons]
    omega
theorem rise_nodup : ∀ (l : List GArc) (p : Option UInt32), rise p l = true → (l.map (·.to)).Nodup
  | [], _, _ => List.nodup_nil
  | a :: l, p, h => by
    have h2 : rise (some a.to) l = true := by rw [rise_cons] at h; simp only [Bool.and_eq_true] at h; exact h.2
    rw [List.map_cons, List.nodup_cons]
    refine ⟨fun hm => ?_, rise_nodup l _ h2⟩
    obtain ⟨b, hb, e⟩ := List.mem_map.1 hm
    have := (rise_to l (some a.to) b h2 hb).1
    simp only at this
    rw [e] at this
    omega
theorem up_nodup : ∀ (R : List GRow), (R.Pairwise fun a b => a.fr.toNat < b.fr.toNat) → (R.map (·.fr)).Nodup
  | [], _ => List.nodup_nil
  | r :: R, h => by
    rw [List.pairwise_cons] at h
    rw [List.map_cons, List.nodup_cons]
    refine ⟨fun hm => ?_, up_nodup R h.2⟩
    obtain ⟨b, hb, e⟩ := List.mem_map.1 hm
    have := h.1 b hb
    rw [e] at this
    omega
theorem wsum_pos (l : List GEdge) (v t : UInt32) (h : 0 < wsum l v t) : ∃ x ∈ l, x.fr = v ∧ x.to = t := by
  induction l with
  | nil => simp [wsum] at h
  | cons x r ih =>
    have e : wsum (x :: r) v t = wsum [x] v t + wsum r v t := wsum_append [x] r v t
    rw [e, wsum_one] at h
    by_cases hx : x.fr = v ∧ x.to = t
    · exact ⟨x, by simp, hx⟩
    · rw [if_neg hx, Nat.zero_add] at h
      obtain ⟨y, hy, h2⟩ := ih h
      exact ⟨y, by simp [hy], h2⟩
theorem RowsOk.alen {l : List GEdge} {R : List GRow} (h : RowsOk l R) (v : UInt32) : (arcsR R v).length ≤ l.length := by
  obtain ⟨h1, _, h3, _⟩ := h.arcs v
  have hr := (gmay_parts.1 h3).1
  have := nodup_len _ (l.map (·.to)) (rise_nodup _ none hr) (fun t ht => by
    obtain ⟨b, hb, rfl⟩ := List.mem_map.1 ht
    have hw := (rise_to _ none b hr hb).2
    have e := asum_at _ none b hr hb
    rw [h1] at e
    have hp : 0 < wsum l v b.to := by
      rw [e]
      rcases Nat.eq_zero_or_pos b.wt.toNat with h0 | h0
      · exact absurd (UInt32.toNat_inj.1 (by rw [h0]; rfl)) hw
      · exact h0
    obtain ⟨x, hx, _, hx2⟩ := wsum_pos l v b.to hp
    exact List.mem_map.2 ⟨x, hx, hx2⟩)
  simpa using this
theorem RowsOk.rlen {l : List GEdge} {R : List GRow} (h : RowsOk l R) : R.length ≤ l.length := by
  have := nodup_len _ (l.map (·.fr)) (up_nodup R h.up) (fun t ht => by
    obtain ⟨r, hr, rfl⟩ := List.mem_map.1 ht
    obtain ⟨x, hx, e⟩ := (h.mem r.fr).1 ⟨r, hr, rfl⟩
    exact List.mem_map.2 ⟨x, hx, e⟩)
  simpa using this
theorem RowsOk.good {l : List GEdge} {R : List GRow} (h : RowsOk l R) (hl : l.length ≤ 1048576) : RGood R := by
  refine ⟨Nat.le_trans h.rlen hl, h.up, fun v => ?_, fun v => Nat.le_trans (h.alen v) hl⟩
  obtain ⟨_, _, h3, _⟩ := h.arcs v
  cases ha : arcsR R v with
  | nil => exact .inl rfl
  | cons a t =>
    refine .inr ?_
    rw [ha] at h3
    unfold nbrs
    rw [h3]
    rfl
end Go.Proofs.YtcffeepgfjpcaaaGreat

namespace Go.Proofs.YtcffeepgfjpcaaaGreat
set_option linter.unusedSimpArgs false
set_option linter.unusedVariables false
open Go.RowKit

theorem run_slice_u32 (w : World) (a : Int) : (Instr.buildSlice 25 1 #[(0, .int .u32 a)]).run Tryz.prog w =
    .ok (.slice (some ⟨w.heap.size, 0, none⟩) 1 1) (w.alloc (.cells #[.int .u32 a] 24)) := by
  obtain ⟨it, hit, hz0, hz1, hby⟩ := info_parts infoU32
  refine run_buildSlice w _ _ 1 _ _ it _ Tryz.underlying25 hit hz0 (by rw [hz1]; decide) (by rw [hz1]; decide) ?_
  rw [hz1, show cU32.n = 1 from rfl]
  exact fill_whole 1 _ [.int .u32 a] (by first | rfl | simp) (by first | rfl | simp)
theorem goesP_none {R : List GRow} {tab : List GArc → List GCell} {j : GJob} {uk : UInt64} {k : Nat} {path : List UInt32} (h : nextP R tab j uk path = none) : goesP R tab j uk (k + 1) path = path := by rw [goesP, h]
theorem goesP_some {R : List GRow} {tab : List GArc → List GCell} {j : GJob} {uk : UInt64} {k : Nat} {path : List UInt32} {v : UInt32} (h : nextP R tab j uk path = some v) : goesP R tab j uk (k + 1) path = goesP R tab j uk k (path ++ [v]) := by rw [goesP, h]
set_option maxRecDepth 100000 in
set_option maxHeartbeats 6400000 in
theorem goes_any (w : World) (B g gg : Nat) (hB : B ≤ w.heap.size) (hBg : B ≤ g) (R : List GRow) (hR : RGood R) (hg : GraphAt w B gg R) (vs_ vp0 : Value) (j : GJob) (id : Nat) (hid : id < 4294967296) (uk : UInt64) (hk : uk.toNat = id) (x0 : UInt32)
    (hb : BoxAt 85 w g (walkC (.pointer (some ⟨gg, 0, none⟩)) vs_ j id vp0)) (hp : OwnF 24 cU32 w B vp0 [x0]) (hlen : j.len.toNat ≤ 1048574) (htr : j.tries.toNat ≤ 1048575) :
    Calls Tryz.prog 36 #[.pointer (some ⟨g, 0, none⟩)] w fun e w' => e = .returned (.tuple #[]) ∧ ∃ vp', BoxAt 85 w' g (walkC (.pointer (some ⟨gg, 0, none⟩)) vs_ j id vp') ∧ OwnF 24 cU32 w' B vp' (goesP R btab j uk j.len.toNat [x0]) ∧ Below B w w' := by
  have hc3 := hb.cell 3 _ rfl
  obtain ⟨fin, hfin⟩ : ∃ fin, fin = goesP R btab j uk j.len.toNat [x0] := ⟨_, rfl⟩
  rw [← hfin]
  have Hfin := Lib.hid hfin.symm
  have Hb := Lib.hid hb
  have Hp := Lib.hid hp
  have HR := Lib.hid hR
  have HG := Lib.hid hg
  have Hk := Lib.hid hk
  obtain ⟨ln, hln⟩ : ∃ ln, ln = j.len.toNat := ⟨_, rfl⟩
  rw [← hln] at hc3 hlen Hfin
  have Hln := Lib.hid hln
  clear hb hp hR hg hfin hk hln
  go_enter Tryz.func36, Tryz.ntmps36
  go_step3
  go_wp2_with fail
  go_step3
  go_wp2_with fail
  clear hc3
  go_loopg [12] ln (fun gk s12 wr => ∃ (n : Nat) (path : List UInt32) (vp : Value), n + gk = ln ∧ s12 = .int .u32 (n : Int) ∧ path.length = n + 1 ∧ BoxAt 85 wr g (walkC (.pointer (some ⟨gg, 0, none⟩)) vs_ j id vp) ∧ OwnF 24 cU32 wr B vp path ∧ Below B w wr ∧ goesP R btab j uk gk path = fin)
  case atStart => exact ⟨0, [x0], vp0, by omega, rfl, rfl, Hb.out, Hp.out, Below.refl _ _, Hfin.out⟩
  case round =>
    obtain ⟨n, path, vp, hn, rfl, hpl, i1, i2, i3, i4⟩ := hrel
    obtain ⟨Ap, cp, rfl, hcp1, hcp2, hAp⟩ := i2.form'
    unfold maxLen at hcp2
    obtain ⟨gp, rfl, hgp1, hgp2⟩ := hAp (by omega)
    have hs3 := i3.size
    have X := Lib.hid i1
    have O := Lib.hid i2
    have H3 := Lib.hid i3
    have H4 := Lib.hid i4
    have HpL := Lib.hid hpl
    clear i1 i2 i3 i4 Hb Hp Hfin hpl
    cases gk with
    | zero =>
      have hd : decide ((n : Int) < (ln : Int)) = false := decide_eq_false (by omega)
      go_wp2_with fail
      have hf : path = fin := H4.out
      rw [Exit.noGoto_normal]
      go_end0
      rw [← hf]
      exact ⟨rfl, _, X.out, O.out, H3.out⟩
    | succ m =>
      have hd : decide ((n : Int) < (ln : Int)) = true := decide_eq_true (by omega)
      obtain ⟨lv, hlv⟩ : ∃ lv, lv = path.getD n 0 := ⟨_, rfl⟩
      obtain ⟨arcs, harcs⟩ : ∃ arcs, arcs = arcsR R lv := ⟨_, rfl⟩
      have hbyu : ByU wr wr.heap.size (Value.slice (some ⟨gp, 0, none⟩) path.length cp) path := O.out.rowLt.mono (fun _ h => h) (fun _ h => h.elim)
      have HAt := Lib.hid (fun W (hW : Below wr.heap.size wr W) => by
        have := at_any W g wr.heap.size (.pointer (some ⟨gg, 0, none⟩)) vs_ (Value.slice (some ⟨gp, 0, none⟩) path.length cp) j id path (X.out.below X.out.lt hW) (hbyu.below hW) (by rw [HpL.out]; omega) 0 n (by rw [HpL.out]; omega)
        rw [← hlv] at this
        exact this)
      have hsB : B ≤ wr.heap.size := by omega
      have HArcs := Lib.hid (fun W (hW : Below wr.heap.size wr W) => by
        have := garcs_any W B gg R lv ((HG.out.below H3.out).below (hW.mono hsB)) (by have := hW.size; omega) HR.out.len HR.out.up (HR.out.al lv)
        rw [← harcs] at this
        exact this)
      have Hlv := Lib.hid hlv
      have Harcs := Lib.hid harcs
      have hal : arcs.length ≤ 1048576 := by rw [harcs]; exact HR.out.al lv
      clear hlv harcs hbyu
      go_upto_region 2 with fail
      refine wp_region_typed [some 14, some 15, some 16, some 17, some 18, some 19, some 20, some 2] [14, 15, 16, 17, 18, 19, 20, 2]
        [Ph.is (.pointer (some ⟨g, 0, none⟩)),
          Ph.is (.pointer (some ⟨g, 0, none⟩)),
          Ph.is (.pointer (some ⟨g, 0, none⟩)),
          Ph.is (.pointer (some ⟨gg, 0, none⟩)),
          Ph.is (.pointer (some ⟨g, 0, none⟩)),
          Ph.is (.int .u32 (lv.toNat : Int)),
          Ph.ownA wr.heap.size arcs,
          Ph.ownA wr.heap.size arcs] rfl rfl (by kernel_rfl) (by kernel_rfl) ?_ ?_
      · refine ⟨?_, ?_, ?_, ?_, ?_, ?_, ?_, ?_, trivial⟩
        · -- 0: slot 14 := Op.move t0
          refine ob_yes fun f w' hb hp => ?_
          simp [PreOf, factOf, valOf, Ph.is, Ph.by_, Ph.any, Region.binds, Ph.ownA] at hp
          refine ⟨by simp [Gd, valOf, hp], ?_⟩
          refine mild_val (.pointer (some ⟨g, 0, none⟩)) ?_ rfl
          simp [execOp, evalF, hp]
        · -- 1: slot 15 := Op.nilCheck t14
          refine ob_yes fun f w' hb hp => ?_
          simp [PreOf, factOf, valOf, Ph.is, Ph.by_, Ph.any, Region.binds, Ph.ownA] at hp
          refine ⟨by simp [Gd, valOf, hp], ?_⟩
          refine mild_val (.pointer (some ⟨g, 0, none⟩)) ?_ rfl
          simp [execOp, evalF, hp, go_sem]
        · -- 2: slot 16 := Op.fieldAddr 85 t15 0
          refine ob_yes fun f w' hb hp => ?_
          simp [PreOf, factOf, valOf, Ph.is, Ph.by_, Ph.any, Region.binds, Ph.ownA] at hp
          refine ⟨by simp [Gd, valOf, hp], ?_⟩
          refine mild_val (.pointer (some ⟨g, 0, none⟩)) ?_ rfl
          simp [execOp, evalF, hp, go_sem]
        · -- 3: slot 17 := Op.load 32 t16
          refine ob_yes fun f w' hb hp => ?_
          simp [PreOf, factOf, valOf, Ph.is, Ph.by_, Ph.any, Region.binds, Ph.ownA] at hp
          refine ⟨by simp [Gd, valOf, hp], ?_⟩
          refine mild_val (.pointer (some ⟨gg, 0, none⟩)) ?_ rfl
          have hc := (X.out.below X.out.lt hb).cell 0 _ rfl
          simp [execOp, evalF, hp, hc, go_sem]
        · -- 4: slot 18 := Op.move t0
          refine ob_yes fun f w' hb hp => ?_
          simp [PreOf, factOf, valOf, Ph.is, Ph.by_, Ph.any, Region.binds, Ph.ownA] at hp
          refine ⟨by simp [Gd, valOf, hp], ?_⟩
          refine mild_val (.pointer (some ⟨g, 0, none⟩)) ?_ rfl
          simp [execOp, evalF, hp]
        · -- 5: slot 19 := Op.call   value (Operand.func 62), args := #[t18, const (0:i64)], argTypes := #[83, 3]  
          refine ob_yes fun f w' hb hp => ?_
          simp [PreOf, factOf, valOf, Ph.is, Ph.by_, Ph.any, Region.binds, Ph.ownA] at hp
          refine ⟨by simp [Gd, valOf, hp], ?_⟩
          refine mild_call 62 _ _ Tryz.f62 Tryz.func62 (by kernel_rfl) (by kernel_rfl) rfl ?_
          simp [evalF, hp, Ph.is, Ph.by_, Ph.any, Ph.ownA]
          refine (HAt.out w' hb).mono fun ev w8 h => ?_
          obtain ⟨rfl, h2⟩ := h
          exact ⟨rfl, h2⟩
        · -- 6: slot 20 := Op.call   value (Operand.func 16), args := #[t17, t19], argTypes := #[32, 24]  
          refine ob_yes fun f w' hb hp => ?_
          simp [PreOf, factOf, valOf, Ph.is, Ph.by_, Ph.any, Region.binds, Ph.ownA] at hp
          refine ⟨by simp [Gd, valOf, hp], ?_⟩
          refine mild_call 16 _ _ Tryz.f16 Tryz.func16 (by kernel_rfl) (by kernel_rfl) rfl ?_
          simp [evalF, hp, Ph.is, Ph.by_, Ph.any, Ph.ownA]
          refine (HArcs.out w' hb).mono fun ev w8 h => ?_
          obtain ⟨va, rfl, ho, h2⟩ := h
          exact ⟨_, rfl, h2, ho.more hb.size⟩
        · -- 7: slot 2 := Op.assign t20
          refine ob_yes fun f w' hb hp => ?_
          simp [PreOf, factOf, valOf, Ph.is, Ph.by_, Ph.any, Region.binds, Ph.ownA] at hp
          refine ⟨by simp [Gd, valOf, hp], ?_⟩
          exact mild_val (f 20) (by simp [execOp, evalF]) (by first | exact hp.1 | simpa [Ph.ownA] using hp)
      · intro f w2 hb2 hp
        simp only [PostOf, Ph.is, Ph.by_, Ph.any, Ph.ownA] at hp
        obtain ⟨h0, h1, h2, h3, h4, h5, h6, h7, _⟩ := hp
        simp only [fills, List.foldl_cons, List.foldl_nil, Act.put, List.setIfInBounds_toArray, List.set_cons_zero, List.set_cons_succ, h0, h1, h2, h3, h4, h5]
        clear h0 h1 h2 h3 h4 h5
        generalize f 20 = v20 at *
        generalize f 2 = v2 at *
        obtain ⟨A20, c20, rfl, hc20a, hc20b, _⟩ := h7.form'
        unfold maxLen at hc20b
        have hw2 := hb2
        have Hb2 := Lib.hid hb2
        have H20 := Lib.hid h7
        have hs2 := hw2.size
        clear h6 h7 hb2 hw2 HAt HArcs
        have hbyA : ByA w2 w2.heap.size (.slice A20 arcs.length c20) arcs := H20.out.rowLt.mono (fun _ h => h) (fun _ h => h.elim)
        obtain ⟨ut, hut⟩ : ∃ ut, ut = UInt64.ofNat n := ⟨_, rfl⟩
        have hut2 : ut.toNat + 1 = path.length := by
          rw [hut, UInt64.toNat_ofNat', HpL.out, Nat.mod_eq_of_lt (by omega)]
        have hnx : nextP R btab j uk path = if arcs.length = 0 then none else if backJ j uk ut = true then some (path.getD 0 0) else tryP j uk ut path.length (path.getD (path.length - 2) 0).toNat (nearP R (path.getD (path.length - 2) 0)) arcs (btab arcs) j.tries.toNat 0 := by
          unfold nextP
          simp only [show path.length - 1 = n by rw [HpL.out]; rfl]
          rw [← Hlv.out, ← Harcs.out, ← hut]
        have Hnx := Lib.hid hnx
        have Hut2 := Lib.hid hut2
        have H20b := Lib.hid hbyA
        clear hut hut2 hnx hbyA
        by_cases ha0 : arcs = []
        · have hbn := build_no w2 w2.heap.size _ arcs (by omega) H20b.out (Nat.le_refl _) (by rw [ha0]; rfl)
          have Hbn := Lib.hid hbn
          have Ha0 := Lib.hid ha0
          clear hbn ha0
          go_wp2_with fail
          refine Hbn.out.mono ?_
          rintro _ w3 ⟨rfl, hb3⟩
          have Hb3 := Lib.hid hb3
          have hs3' := hb3.size
          clear hb3
          go_wp2_with fail
          have hf : path = fin := by
            rw [← H4.out]
            exact (goesP_none (by rw [Hnx.out, if_pos (by rw [Ha0.out]; rfl)])).symm
          try rw [Exit.noGoto_normal]
          go_end0
          have hb23 := bstep Hb2.out Hb3.out
          rw [← hf]
          exact ⟨rfl, _, X.out.bl_ hb23, O.out.below_ hb23, H3.out.trans (hb23.mono (by omega))⟩
        · have hnb : nbrs arcs = true := by
            rcases HR.out.row lv with h | h
            · rw [← Harcs.out] at h; exact absurd h ha0
            · rw [← Harcs.out] at h; exact h
          have hbn := build_any w2 w2.heap.size _ arcs (by omega) H20b.out (Nat.le_refl _) hnb
          have hpos : ¬ arcs.length = 0 := fun h => ha0 (List.eq_nil_of_length_eq_zero h)
          have hbl := btab_len arcs hal (gmay_sum' (nbrs_gmay hnb).1)
          have Hnb := Lib.hid hnb
          have Hbn := Lib.hid hbn
          have Hpos := Lib.hid hpos
          have Hbl := Lib.hid hbl
          clear hnb hbn hpos ha0 hbl
          go_wp2_with fail
          refine Hbn.out.mono ?_
          rintro _ w3 ⟨vt, rfl, ho3, hb3⟩
          obtain ⟨At, ct, rfl, _⟩ := ho3.form'
          have hb23 := bstep Hb2.out hb3
          have hs3' := hb3.size
          have hs23 := hb23.size
          have X3 := Lib.hid (X.out.bl_ hb23)
          have O3 := Lib.hid (O.out.below_ hb23)
          have H33 := Lib.hid (H3.out.trans (hb23.mono (by omega)))
          have hA3 : ByA w3 w3.heap.size (.slice A20 arcs.length c20) arcs := (H20b.out.below hb3).mono (fun _ h => by omega) (fun _ h => h)
          have hC3 : ByC w3 w3.heap.size (.slice At (btab arcs).length ct) (btab arcs) := ho3.rowLt.mono (fun _ h => h) (fun _ h => h.elim)
          have hU3 : ByU w3 w3.heap.size (Value.slice (some ⟨gp, 0, none⟩) path.length cp) path := O3.out.rowLt.mono (fun _ h => h) (fun _ h => h.elim)
          have hbk := back_any22 w3 g w3.heap.size (Nat.le_refl _) (.pointer (some ⟨gg, 0, none⟩)) vs_ (Value.slice (some ⟨gp, 0, none⟩) path.length cp) j id path X3.out hU3 (by rw [HpL.out]; omega) (by rw [HpL.out]; omega) hid uk ut Hk.out Hut2.out _ rfl
          have Hbk := Lib.hid hbk
          have HA3 := Lib.hid hA3
          have HC3 := Lib.hid hC3
          clear hbk hA3 hC3 hU3 ho3 hb3 hb23 Hbn X O H3 Hb2 H20 H20b
          go_wp2_with fail
          refine Hbk.out.mono ?_
          rintro _ w4 ⟨rfl, hb4⟩
          have hs4 := hb4.size
          have X4 := Lib.hid (X3.out.bl_ hb4)
          have O4 := Lib.hid (O3.out.below_ hb4)
          have H34 := Lib.hid (H33.out.trans (hb4.mono (by omega)))
          have HA4 : Hid (ByA w4 w4.heap.size (.slice A20 arcs.length c20) arcs) := Lib.hid ((HA3.out.below hb4).mono (fun _ h => by omega) (fun _ h => h))
          have HC4 : Hid (ByC w4 w4.heap.size (.slice At (btab arcs).length ct) (btab arcs)) := Lib.hid ((HC3.out.below hb4).mono (fun _ h => by omega) (fun _ h => h))
          clear hb4 X3 O3 H33 HA3 HC3 Hbk
          obtain ⟨tab, htab⟩ : ∃ tab, tab = btab arcs := ⟨_, rfl⟩
          have Htab := Lib.hid htab
          rw [← htab] at HC4 Hnx
          rw [← htab]
          clear htab
          cases hbj : backJ j uk ut with
          | true =>
            have Hbj := Lib.hid hbj
            obtain ⟨x0v, hx0v⟩ : ∃ x0v, x0v = path.getD 0 0 := ⟨_, rfl⟩
            have Hx0v := Lib.hid hx0v
            have Hx0 : Hid (∀ W', OwnF 24 cU32 W' B (Value.slice (some ⟨gp, 0, none⟩) path.length cp) path → W'.cell? ⟨gp, 0, none⟩ = some (.int .u32 (x0v.toNat : Int))) := Lib.hid fun W' ho => by
              have hy : ByU W' W'.heap.size (Value.slice (some ⟨gp, 0, none⟩) path.length cp) path := ho.rowLt.mono (fun _ h => h) (fun _ h => h.elim)
              obtain ⟨ad, e, _, hc⟩ := ByU.cells hy 0 (by rw [HpL.out]; omega)
              injection e with e
              subst e
              rw [add_zero'] at hc
              rw [hc, hx0v]
              simp [List.getD, HpL.out]
            have Hlp : Hid (0 < path.length) := Lib.hid (by rw [HpL.out]; omega)
            have hpl20 : path.length ≤ 1048576 := by rw [HpL.out]; omega
            have hgs : g < w4.heap.size := X4.out.lt
            clear hbj hx0v
            go_upto_region 6 with fail
            refine wp_region_mixSL (ds := [30, 31, 32, 33, 34, 35, 36, 37, 38, 39, 40, 41, 42, 43, 44]) 16 (fun bb vs W' => BoxAt 85 W' g (walkC (.pointer (some ⟨gg, 0, none⟩)) vs_ j id (cond (bb 15) (vs 12) (Value.slice (some ⟨gp, 0, none⟩) path.length cp))) ∧ Chg (fun k => k = g ∨ (Value.slice (some ⟨gp, 0, none⟩) path.length cp).ownBlock = some k) w4 W' ∧ OwnF 24 cU32 W' B (cond (bb 12) (vs 12) (Value.slice (some ⟨gp, 0, none⟩) path.length cp)) (path ++ cond (bb 12) [x0v] []) ∧ TmpT 24 [.int .u32 (x0v.toNat : Int)] W' (bb 11) (bb 12) (vs 11) ∧ (bb 15 = true → bb 12 = true) ∧ (bb 15 = true → bb 4 = true) ∧ (bb 15 = true → bb 8 = true) ∧ (bb 12 = true → bb 10 = true) ∧ (bb 11 = true → bb 10 = true)) [some 30, some 31, some 32, some 33, some 34, some 35, some 36, some 37, some 38, some 39, some 40, some 41, some 42, some 43, some 44, none]
              [fun v => v = .pointer (some ⟨g, 0, none⟩), fun v => v = .pointer (some ⟨g, 0, none⟩), fun v => v = .pointer (some ⟨g, 0, none⟩), fun v => v = .pointer (some ⟨g, 17, none⟩), fun v => v = (Value.slice (some ⟨gp, 0, none⟩) path.length cp), fun v => v = .pointer (some ⟨g, 0, none⟩), fun v => v = .pointer (some ⟨g, 0, none⟩), fun v => v = .pointer (some ⟨g, 17, none⟩), fun v => v = (Value.slice (some ⟨gp, 0, none⟩) path.length cp), fun v => v = .pointer (some ⟨gp, 0, none⟩), fun v => v = .int .u32 (x0v.toNat : Int), fun _ => True, fun _ => True, fun v => v = .pointer (some ⟨g, 0, none⟩), fun v => v = .pointer (some ⟨g, 17, none⟩), fun _ => True]
              rfl rfl rfl (by kernel_rfl) (by kernel_rfl) ?_ (fun _ => ⟨X4.out, Chg.ofBelow ⟨rfl, rfl, rfl, Nat.le_refl _, fun _ _ => rfl⟩, by simpa using (show OwnF 24 cU32 w4.drew B (Value.slice (some ⟨gp, 0, none⟩) path.length cp) path from OwnR.below_ O4.out (Below.refl _ _).drew), fun h _ => (by cases h), fun h => (by cases h), fun h => (by cases h), fun h => (by cases h), fun h => (by cases h), fun h => (by cases h)⟩) ?_
            · refine ⟨?_, ?_, ?_, ?_, ?_, ?_, ?_, ?_, ?_, ?_, ?_, ?_, ?_, ?_, ?_, ?_, trivial⟩
              · -- 0: slot 30 := Op.move t0
                refine obS_yes fun f bb w' hj hs hd hp => ?_
                simp [PreO, factO, valOf, Region.binds] at hp hd
                refine ⟨by simp [Gd, valOf, hp], ?_⟩
                refine mildS_val (.pointer (some ⟨g, 0, none⟩)) (w' := w') ?_ rfl (by simpa using hj)
                simp [execOp, evalF, hp, go_sem]
              · -- 1: slot 31 := Op.move t0
                refine obS_yes fun f bb w' hj hs hd hp => ?_
                simp [PreO, factO, valOf, Region.binds] at hp hd
                refine ⟨by simp [Gd, valOf, hp], ?_⟩
                refine mildS_val (.pointer (some ⟨g, 0, none⟩)) (w' := w') ?_ rfl (by simpa using hj)
                simp [execOp, evalF, hp, go_sem]
              · -- 2: slot 32 := Op.nilCheck t31
                refine obS_yes fun f bb w' hj hs hd hp => ?_
                simp [PreO, factO, valOf, Region.binds] at hp hd
                refine ⟨by simp [Gd, valOf, hp], ?_⟩
                refine mildS_val (.pointer (some ⟨g, 0, none⟩)) (w' := w') ?_ rfl (by simpa using hj)
                simp [execOp, evalF, hp, go_sem]
              · -- 3: slot 33 := Op.fieldAddr 85 t32 3
                refine obS_yes fun f bb w' hj hs hd hp => ?_
                simp [PreO, factO, valOf, Region.binds] at hp hd
                refine ⟨by simp [Gd, valOf, hp], ?_⟩
                refine mildS_val (.pointer (some ⟨g, 17, none⟩)) (w' := w') ?_ rfl (by simpa using hj)
                simp [execOp, evalF, hp, go_sem]
              · -- 4: slot 34 := Op.load 25 t33
                refine obS_yes fun f bb w' hj hs hd hp => ?_
                simp [PreO, factO, valOf, Region.binds] at hp hd
                refine ⟨by simp [Gd, valOf, hp], ?_⟩
                have h15 : bb 15 = false := by cases hx : bb 15 with | false => rfl | true => rw [hj.2.2.2.2.2.1 hx] at hs; cases hs
                have hc : w'.cell? ⟨g, 17, none⟩ = some ((Value.slice (some ⟨gp, 0, none⟩) path.length cp)) := by have h := hj.1; rw [h15] at h; exact BoxAt.cell h 17 _ rfl
                refine mildS_val ((Value.slice (some ⟨gp, 0, none⟩) path.length cp)) (w' := w') ?_ rfl (by obtain ⟨j1, j2, j3, j4, j5, j6, j7, j8, j9⟩ := hj; exact ⟨by simpa using j1, j2, by simpa using j3, by simpa using j4, by simpa using j5, by simp, by simpa using j7, by simpa using j8, by simpa using j9⟩)
                simp [execOp, evalF, hp, go_sem, hc]
              · -- 5: slot 35 := Op.move t0
                refine obS_yes fun f bb w' hj hs hd hp => ?_
                simp [PreO, factO, valOf, Region.binds] at hp hd
                refine ⟨by simp [Gd, valOf, hp], ?_⟩
                refine mildS_val (.pointer (some ⟨g, 0, none⟩)) (w' := w') ?_ rfl (by simpa using hj)
                simp [execOp, evalF, hp, go_sem]
              · -- 6: slot 36 := Op.nilCheck t35
                refine obS_yes fun f bb w' hj hs hd hp => ?_
                simp [PreO, factO, valOf, Region.binds] at hp hd
                refine ⟨by simp [Gd, valOf, hp], ?_⟩
                refine mildS_val (.pointer (some ⟨g, 0, none⟩)) (w' := w') ?_ rfl (by simpa using hj)
                simp [execOp, evalF, hp, go_sem]
              · -- 7: slot 37 := Op.fieldAddr 85 t36 3
                refine obS_yes fun f bb w' hj hs hd hp => ?_
                simp [PreO, factO, valOf, Region.binds] at hp hd
                refine ⟨by simp [Gd, valOf, hp], ?_⟩
                refine mildS_val (.pointer (some ⟨g, 17, none⟩)) (w' := w') ?_ rfl (by simpa using hj)
                simp [execOp, evalF, hp, go_sem]
              · -- 8: slot 38 := Op.load 25 t37
                refine obS_yes fun f bb w' hj hs hd hp => ?_
                simp [PreO, factO, valOf, Region.binds] at hp hd
                refine ⟨by simp [Gd, valOf, hp], ?_⟩
                have h15 : bb 15 = false := by cases hx : bb 15 with | false => rfl | true => rw [hj.2.2.2.2.2.2.1 hx] at hs; cases hs
                have hc : w'.cell? ⟨g, 17, none⟩ = some ((Value.slice (some ⟨gp, 0, none⟩) path.length cp)) := by have h := hj.1; rw [h15] at h; exact BoxAt.cell h 17 _ rfl
                refine mildS_val ((Value.slice (some ⟨gp, 0, none⟩) path.length cp)) (w' := w') ?_ rfl (by obtain ⟨j1, j2, j3, j4, j5, j6, j7, j8, j9⟩ := hj; exact ⟨by simpa using j1, j2, by simpa using j3, by simpa using j4, by simpa using j5, by simpa using j6, by simp, by simpa using j8, by simpa using j9⟩)
                simp [execOp, evalF, hp, go_sem, hc]
              · -- 9: slot 39 := Op.indexAddr 25 t38 (const (0:i64))
                refine obS_yes fun f bb w' hj hs hd hp => ?_
                simp [PreO, factO, valOf, Region.binds] at hp hd
                refine ⟨by simp [Gd, valOf, hp], ?_⟩
                have hlp : 0 < path.length := Hlp.out
                refine mildS_val (.pointer (some ⟨gp, 0, none⟩)) (w' := w') ?_ rfl (by simpa using hj)
                simp [execOp, evalF, hp, go_sem, Instr.indexAt, Addr.add, hlp]
              · -- 10: slot 40 := Op.load 24 t39
                refine obS_yes fun f bb w' hj hs hd hp => ?_
                simp [PreO, factO, valOf, Region.binds] at hp hd
                refine ⟨by simp [Gd, valOf, hp], ?_⟩
                have h12 : bb 12 = false := by cases hx : bb 12 with | false => rfl | true => rw [hj.2.2.2.2.2.2.2.1 hx] at hs; cases hs
                have hc : w'.cell? ⟨gp, 0, none⟩ = some (.int .u32 (x0v.toNat : Int)) := by
                  have h3 := hj.2.2.1
                  rw [h12] at h3
                  exact Hx0.out w' (by simpa using h3)
                refine mildS_val (.int .u32 (x0v.toNat : Int)) (w' := w') ?_ rfl (by obtain ⟨j1, j2, j3, j4, j5, j6, j7, j8, j9⟩ := hj; exact ⟨by simpa using j1, j2, by simpa using j3, by simpa using j4, by simpa using j5, by simpa using j6, by simpa using j7, by simp, by simp⟩)
                simp [execOp, evalF, hp, go_sem, hc]
              · -- 11: slot 41 := Op.buildSlice 25 1 #[(0, t40)]
                refine obS_yes fun f bb w' hj hs hd hp => ?_
                simp [PreO, factO, valOf, Region.binds] at hp hd
                refine ⟨by simp [Gd, valOf, hp], ?_⟩
                have h10 : bb 10 = true := by first | exact hd | exact hd.1 | exact hd.2
                obtain ⟨j1, j2, j3, j4, j5, j6, j7, j8, j9⟩ := hj
                refine mildS_val (.slice (some ⟨w'.heap.size, 0, none⟩) 1 1) (w' := w'.alloc (.cells #[.int .u32 (x0v.toNat : Int)] 24)) ?_ trivial ⟨by simpa using j1.bl_ (balloc _ _), j2.trans (Chg.ofBelow (balloc _ _)), by simpa using j3.below_ (balloc _ _), fun _ _ => ⟨_, by simp, BoxAt.new_ _ _ [.int .u32 (x0v.toNat : Int)]⟩, by simpa using j5, by simpa using j6, by simpa using j7, by simpa using j8, fun _ => by simp [h10]⟩
                have hr := run_slice_u32 w' (x0v.toNat : Int)
                simp [execOp, evalF, hp, hr]
              · -- 12: slot 42 := Op.call   builtin append, args := #[t34, t41], argTypes := #[25, 25]  
                refine obS_yes fun f bb w' hj hs hd hp => ?_
                simp [PreO, factO, valOf, Region.binds] at hp hd
                refine ⟨by simp [Gd, valOf, hp], ?_⟩
                obtain ⟨j1, j2, j3, j4, j5, j6, j7, j8, j9⟩ := hj
                have h15 : bb 15 = false := by cases hx : bb 15 with | false => rfl | true => rw [j5 hx] at hs; cases hs
                have h11 : bb 11 = true := hd.2
                have h4 : bb 4 = true := hd.1
                have h10 := j9 h11
                obtain ⟨q, hv11, hq⟩ := j4 h11 hs
                have k4 : OwnF 24 cU32 w' B (Value.slice (some ⟨gp, 0, none⟩) path.length cp) path := by rw [hs] at j3; simpa using j3
                have k1 := j1
                rw [h15] at k1
                refine mildS_ex (exec_appR (C := cU32) (O := fun _ => True) (.tmp 34) (.tmp 41) 25 rfl Tryz.underlying25 infoU32 (by kernel_rfl) (by decide) (by decide) k4 (rowOfBoxT (y := x0v) hq ⟨rfl, trivial⟩) (by simp [evalF, hp]) (by simpa [evalF, valOf] using hv11) (by simp only [List.length_singleton]; omega) (Nat.le_trans (by omega) j2.size)) ?_
                intro v' w3 g1 g2
                refine ⟨trivial, ?_, j2.trans (Chg.ofGrown g2.gr fun k e => .inr e), by simpa using g1, by simp [TmpT], by simp [h15], by simp [h15], by simp [h15], fun _ => by simp [h10], by simpa using j9⟩
                simp only [h15]
                exact boxKeptT (by decide) k4 g2 k1
              · -- 13: slot 43 := Op.nilCheck t30
                refine obS_yes fun f bb w' hj hs hd hp => ?_
                simp [PreO, factO, valOf, Region.binds] at hp hd
                refine ⟨by simp [Gd, valOf, hp], ?_⟩
                refine mildS_val (.pointer (some ⟨g, 0, none⟩)) (w' := w') ?_ rfl (by simpa using hj)
                simp [execOp, evalF, hp, go_sem]
              · -- 14: slot 44 := Op.fieldAddr 85 t43 3
                refine obS_yes fun f bb w' hj hs hd hp => ?_
                simp [PreO, factO, valOf, Region.binds] at hp hd
                refine ⟨by simp [Gd, valOf, hp], ?_⟩
                refine mildS_val (.pointer (some ⟨g, 17, none⟩)) (w' := w') ?_ rfl (by simpa using hj)
                simp [execOp, evalF, hp, go_sem]
              · -- 15: slot None := Op.store 25 t44 t42
                refine obS_yes fun f bb w' hj hs hd hp => ?_
                simp [PreO, factO, valOf, Region.binds] at hp hd
                refine ⟨by simp [Gd, valOf, hp], ?_⟩
                have h12 : bb 12 = true := (by first | exact hd.1 | exact hd | exact hd.2.1 | exact hd.2 | exact hd.2.2.1 | exact hd.2.2 | exact hd.2.2.2.1 | exact hd.2.2.2 | exact hd.2.2.2.2.1 | exact hd.2.2.2.2 | exact hd.2.2.2.2.2.1 | exact hd.2.2.2.2.2 | exact hd.2.2.2.2.2.2.1 | exact hd.2.2.2.2.2.2 | exact hd.2.2.2.2.2.2.2.1 | exact hd.2.2.2.2.2.2.2 | exact hd.2.2.2.2.2.2.2.2.1 | exact hd.2.2.2.2.2.2.2.2 | exact hd.2.2.2.2.2.2.2.2.2.1 | exact hd.2.2.2.2.2.2.2.2.2 | exact hd.2.2.2.2.2.2.2.2.2.2.1 | exact hd.2.2.2.2.2.2.2.2.2.2 | exact hd.2.2.2.2.2.2.2.2.2.2.2.1 | exact hd.2.2.2.2.2.2.2.2.2.2.2 | exact hd.2.2.2.2.2.2.2.2.2.2.2.2.1 | exact hd.2.2.2.2.2.2.2.2.2.2.2.2 | exact hd.2.2.2.2.2.2.2.2.2.2.2.2.2.1 | exact hd.2.2.2.2.2.2.2.2.2.2.2.2.2 | exact hd.2.2.2.2.2.2.2.2.2.2.2.2.2.2.1 | exact hd.2.2.2.2.2.2.2.2.2.2.2.2.2.2 | exact hd.2.2.2.2.2.2.2.2.2.2.2.2.2.2.2.1 | exact hd.2.2.2.2.2.2.2.2.2.2.2.2.2.2.2)
                have h4 : bb 4 = true := (by first | exact hd.1 | exact hd | exact hd.2.1 | exact hd.2 | exact hd.2.2.1 | exact hd.2.2 | exact hd.2.2.2.1 | exact hd.2.2.2 | exact hd.2.2.2.2.1 | exact hd.2.2.2.2 | exact hd.2.2.2.2.2.1 | exact hd.2.2.2.2.2 | exact hd.2.2.2.2.2.2.1 | exact hd.2.2.2.2.2.2 | exact hd.2.2.2.2.2.2.2.1 | exact hd.2.2.2.2.2.2.2 | exact hd.2.2.2.2.2.2.2.2.1 | exact hd.2.2.2.2.2.2.2.2 | exact hd.2.2.2.2.2.2.2.2.2.1 | exact hd.2.2.2.2.2.2.2.2.2 | exact hd.2.2.2.2.2.2.2.2.2.2.1 | exact hd.2.2.2.2.2.2.2.2.2.2 | exact hd.2.2.2.2.2.2.2.2.2.2.2.1 | exact hd.2.2.2.2.2.2.2.2.2.2.2 | exact hd.2.2.2.2.2.2.2.2.2.2.2.2.1 | exact hd.2.2.2.2.2.2.2.2.2.2.2.2 | exact hd.2.2.2.2.2.2.2.2.2.2.2.2.2.1 | exact hd.2.2.2.2.2.2.2.2.2.2.2.2.2 | exact hd.2.2.2.2.2.2.2.2.2.2.2.2.2.2.1 | exact hd.2.2.2.2.2.2.2.2.2.2.2.2.2.2 | exact hd.2.2.2.2.2.2.2.2.2.2.2.2.2.2.2.1 | exact hd.2.2.2.2.2.2.2.2.2.2.2.2.2.2.2)
                have h8 : bb 8 = true := (by first | exact hd.1 | exact hd | exact hd.2.1 | exact hd.2 | exact hd.2.2.1 | exact hd.2.2 | exact hd.2.2.2.1 | exact hd.2.2.2 | exact hd.2.2.2.2.1 | exact hd.2.2.2.2 | exact hd.2.2.2.2.2.1 | exact hd.2.2.2.2.2 | exact hd.2.2.2.2.2.2.1 | exact hd.2.2.2.2.2.2 | exact hd.2.2.2.2.2.2.2.1 | exact hd.2.2.2.2.2.2.2 | exact hd.2.2.2.2.2.2.2.2.1 | exact hd.2.2.2.2.2.2.2.2 | exact hd.2.2.2.2.2.2.2.2.2.1 | exact hd.2.2.2.2.2.2.2.2.2 | exact hd.2.2.2.2.2.2.2.2.2.2.1 | exact hd.2.2.2.2.2.2.2.2.2.2 | exact hd.2.2.2.2.2.2.2.2.2.2.2.1 | exact hd.2.2.2.2.2.2.2.2.2.2.2 | exact hd.2.2.2.2.2.2.2.2.2.2.2.2.1 | exact hd.2.2.2.2.2.2.2.2.2.2.2.2 | exact hd.2.2.2.2.2.2.2.2.2.2.2.2.2.1 | exact hd.2.2.2.2.2.2.2.2.2.2.2.2.2 | exact hd.2.2.2.2.2.2.2.2.2.2.2.2.2.2.1 | exact hd.2.2.2.2.2.2.2.2.2.2.2.2.2.2 | exact hd.2.2.2.2.2.2.2.2.2.2.2.2.2.2.2.1 | exact hd.2.2.2.2.2.2.2.2.2.2.2.2.2.2.2)
                obtain ⟨j1, j2, j3, j4, j5, j6, j7, j8, j9⟩ := hj
                have hc := j1.cell 17 _ rfl
                have hf := j1.frozen 17
                have k4 : OwnF 24 cU32 w' B (f 42) (path ++ [x0v]) := by have h := j3; rw [h12] at h; exact h
                obtain ⟨A9, c9, e9, _, _, _⟩ := k4.form'
                refine mildS_skip (w' := w'.setCell ⟨g, 17, none⟩ (f 42)) ?_ trivial ⟨?_, j2.trans (Chg.set _ _ _ (.inl rfl)), ?_, ?_, by simp [h12], by simp [h4], by simp [h8], by simpa using j8, by simpa using j9⟩
                · simp [execOp, evalF, hp, go_sem, hc, hf, e9]
                · exact j1.put 17 (f 42)
                · exact ownSetT (by decide) j3 j1 17 (f 42)
                · simpa using TmpT.set (by decide) j4 j1 17 (f 42)
            · intro f bb wd hall hj hp
              simp only [PostO] at hp
              obtain ⟨e0, e1, e2, e3, e4, e5, e6, e7, e8, e9, e10, _, _, e13, e14, _, _⟩ := hp
              simp only [fills, List.foldl_cons, List.foldl_nil, Act.put, List.setIfInBounds_toArray, List.set_cons_zero, List.set_cons_succ, e0, e1, e2, e3, e4, e5, e6, e7, e8, e9, e10, e13, e14]
              clear e0 e1 e2 e3 e4 e5 e6 e7 e8 e9 e10 e13 e14
              simp only [List.drop_succ_cons, List.drop_zero]
              obtain ⟨j1, j2, j3, j4, j5, j6, j7, j8, j9⟩ := hj
              have b12 : bb 12 = true := hall 12 (by decide)
              have b15 : bb 15 = true := hall 15 (by decide)
              rw [b15] at j1
              rw [b12] at j3
              have k1 : BoxAt 85 wd g (walkC (.pointer (some ⟨gg, 0, none⟩)) vs_ j id (f 42)) := j1
              have k4 : OwnF 24 cU32 wd B (f 42) (path ++ [x0v]) := j3
              have K1 := Lib.hid k1
              have K4 := Lib.hid k4
              have J2 := Lib.hid j2
              have hn' : IntKind.u32.wrap ((n : Int) + 1) = (n : Int) + 1 := by rw [IntKind.wrap_u32']; omega
              clear j1 j2 j3 j4 j5 j6 j7 j8 j9 k1 k4
              generalize f 42 = vq at *
              go_wp2_with fail
              go_roundg m
              case measure => omega
              case rel =>
                refine ⟨n + 1, path ++ [x0v], vq, by omega, by go_num, by rw [List.length_append, List.length_singleton, HpL.out], K1.out, K4.out, H34.out.trans (J2.out.below (by omega) fun q hq => ?_), ?_⟩
                · rcases hq with rfl | hq
                  · exact hBg
                  · exact (O4.out.blk q hq).1
                · rw [← H4.out]
                  exact (goesP_some (by rw [Hnx.out, if_neg Hpos.out, if_pos Hbj.out, Hx0v.out])).symm
          | false =>
            have Hbj := Lib.hid hbj
            obtain ⟨tn, htn⟩ : ∃ tn, tn = j.tries.toNat := ⟨_, rfl⟩
            have hc10 : w4.cell? ⟨g, 10, none⟩ = some (.int .u32 (tn : Int)) := by rw [htn]; exact X4.out.cell 10 _ rfl
            obtain ⟨ah, hah⟩ : ∃ ah, ah = path.getD (path.length - 2) 0 := ⟨_, rfl⟩
            obtain ⟨nx, hnx2⟩ : ∃ nx, nx = tryP j uk ut path.length ah.toNat (nearP R ah) arcs tab tn 0 := ⟨_, rfl⟩
            have Hnx2 := Lib.hid hnx2.symm
            have hnx3 : nextP R btab j uk path = nx := by
              rw [Hnx.out, if_neg Hpos.out, if_neg (by rw [hbj]; decide), ← hah, ← htn, hnx2]
            have Hnx3 := Lib.hid hnx3
            have Hah := Lib.hid hah
            have htr2 : tn ≤ 1048575 := by omega
            have Htn := Lib.hid htn
            clear hbj hnx2 hnx3 hah htn htr
            go_wp2_with fail
            clear hc10
            go_loopg [51] tn (fun g2 s51 wy => ∃ k : Nat, k + g2 = tn ∧ s51 = .int .u64 (k : Int) ∧ tryP j uk ut path.length ah.toNat (nearP R ah) arcs tab g2 k = nx ∧ Below w4.heap.size w4 wy)
            case atStart => exact ⟨0, by omega, rfl, Hnx2.out, Below.refl _ _⟩
            case round =>
              obtain ⟨k, hkg, rfl, htp, hbl⟩ := hrel
              have hsy := hbl.size
              have X5 := Lib.hid (X4.out.bl_ hbl)
              have O5 := Lib.hid (OwnR.below_ O4.out hbl)
              have H35 := Lib.hid (H34.out.trans (hbl.mono (by omega)))
              have HA5 : Hid (ByA wr wr.heap.size (.slice A20 arcs.length c20) arcs) := Lib.hid ((HA4.out.below hbl).mono (fun _ h => by omega) (fun _ h => h))
              have HC5 : Hid (ByC wr wr.heap.size (.slice At tab.length ct) tab) := Lib.hid ((HC4.out.below hbl).mono (fun _ h => by omega) (fun _ h => h))
              have Hbl5 := Lib.hid hbl
              have Htp := Lib.hid htp
              clear hbl htp X4 O4 H34 HA4 HC4
              cases gk with
              | zero =>
                have hd2 : decide ((k : Int) < (tn : Int)) = false := decide_eq_false (by omega)
                go_wp2_with fail
                have hf : path = fin := by
                  rw [← H4.out]
                  have := Htp.out
                  rw [tryP] at this
                  exact (goesP_none (by rw [Hnx3.out, ← this])).symm
                try rw [Exit.noGoto_normal]
                go_end0
                rw [← hf]
                exact ⟨rfl, _, X5.out, O5.out, H35.out⟩
              | succ m2 =>
                have hd2 : decide ((k : Int) < (tn : Int)) = true := decide_eq_true (by omega)
                have hU5 : ByU wr wr.heap.size (Value.slice (some ⟨gp, 0, none⟩) path.length cp) path := O5.out.rowLt.mono (fun _ h => h) (fun _ h => h.elim)
                have hcd := candP_any wr g wr.heap.size (Nat.le_refl _) (.pointer (some ⟨gg, 0, none⟩)) vs_ (Value.slice (some ⟨gp, 0, none⟩) path.length cp) j id path X5.out hU5 (by rw [HpL.out]; omega) (by rw [HpL.out]; omega) hid uk ut Hk.out Hut2.out k (by omega) (.slice A20 arcs.length c20) (.slice At tab.length ct) arcs HA5.out (by rw [← Htab.out]; exact HC5.out) hal Hnb.out
                rw [← Htab.out] at hcd
                obtain ⟨to, hto⟩ : ∃ to, to = candP j uk ut arcs tab k := ⟨_, rfl⟩
                rw [← hto] at hcd
                have Hcd := Lib.hid hcd
                have htp := Htp.out
                rw [tryP, ← hto] at htp
                have Htp2 := Lib.hid htp
                clear hcd htp hto hU5 Htp
                go_wp2_with fail
                refine Hcd.out.mono ?_
                rintro _ w5 ⟨rfl, hb5⟩
                have hs5 := hb5.size
                have X6 := Lib.hid (X5.out.bl_ hb5)
                have O6 := Lib.hid (OwnR.below_ O5.out hb5)
                have H36 := Lib.hid (H35.out.trans (hb5.mono (by omega)))
                have Hbl6 := Lib.hid (bstep Hbl5.out hb5)
                have hU6 : ByU w5 w5.heap.size (Value.slice (some ⟨gp, 0, none⟩) path.length cp) path := O6.out.rowLt.mono (fun _ h => h) (fun _ h => h.elim)
                have htk := takesP_any w5 g w5.heap.size gg (Nat.le_refl _) vs_ (Value.slice (some ⟨gp, 0, none⟩) path.length cp) R HR.out ((HG.out.below H36.out).more (by omega)) j id path X6.out hU6 (by rw [HpL.out]; omega) (by rw [HpL.out]; omega) hid uk ut Hk.out Hut2.out k (by omega) to ah Hah.out
                obtain ⟨tr_, htr_⟩ : ∃ tr_, tr_ = takesJ j path.length to.toNat ah.toNat (testP j uk ut k) (nearP R ah to) := ⟨_, rfl⟩
                have htp := Htp2.out
                rw [← htr_] at htk htp
                have Htk := Lib.hid htk
                have Htp := Lib.hid htp
                clear htk htp htr_ hU6 Hcd Htp2 X5 O5 H35 HA5 HC5 Hbl5 hb5
                go_wp2_with fail
                refine Htk.out.mono ?_
                rintro _ w6 ⟨rfl, hb6⟩
                have hs6 := hb6.size
                have X7 := Lib.hid (X6.out.bl_ hb6)
                have O7 := Lib.hid (OwnR.below_ O6.out hb6)
                have H37 := Lib.hid (H36.out.trans (hb6.mono (by omega)))
                have Hbl7 := Lib.hid (bstep Hbl6.out hb6)
                clear Htk X6 O6 H36 Hbl6 hb6
                cases tr_ with
                | false =>
                  go_wp2_with fail
                  go_roundg m2
                  case measure => omega
                  case rel =>
                    have := Htp.out
                    rw [if_neg (by decide)] at this
                    exact ⟨k + 1, by omega, by go_num, this, Hbl7.out⟩
                | true =>
                  have hc7 := X7.out.cell 17 _ rfl
                  have hn' : IntKind.u32.wrap ((n : Int) + 1) = (n : Int) + 1 := by rw [IntKind.wrap_u32']; omega
                  have hpl20 : path.length ≤ 1048576 := by rw [HpL.out]; omega
                  go_wp2_with (
                    (with_reducible refine wpList_app1R (C := cU32) ?_ (.tmp 67) (.tmp 69) 25 ?_ Tryz.underlying25 infoU32 ?_ ?_ ?_ [.int .u32 (to.toNat : Int)] O7.out (y := to) ?_ ?_ ?_ ?_ ?_ ?_); exact rfl; exact rfl; exact (by kernel_rfl); exact (by decide); exact (by decide); exact ⟨rfl, trivial⟩; exact rfl; exact rfl; exact (by omega); exact (by omega)
                    intro v8 w8 ho8 hx8
                    obtain ⟨A8, c8, rfl, _⟩ := ho8.form'
                    have X8 := Lib.hid (boxKeptT (by decide) O7.out hx8 X7.out)
                    have hc8 := X8.out.cell 17 _ rfl
                    have hf8 := X8.out.frozen 17
                    have Ho8 := Lib.hid ho8
                    have Hx8 := Lib.hid hx8
                    clear ho8 hx8)
                  go_roundg m
                  case measure => omega
                  case rel =>
                    have hnt : nx = some to := by
                      have := Htp.out
                      rw [if_pos trivial] at this
                      exact this.symm
                    have hll : (path ++ [to]).length = path.length + 1 := by rw [List.length_append, List.length_singleton]
                    refine ⟨n + 1, path ++ [to], .slice A8 (path.length + 1) c8, by omega, by go_num, by rw [hll, HpL.out], X8.out.put 17 _, ?_, (H37.out.trans (Hx8.out.below (by omega) fun q hq => (O7.out.blk q hq).1)).setCell (p := ⟨g, 17, none⟩) hBg _, ?_⟩
                    · have := ownSetT (by decide) Ho8.out X8.out 17 (.slice A8 (path.length + 1) c8)
                      rw [hll] at this
                      exact this
                    · rw [← H4.out]
                      exact (goesP_some (by rw [Hnx3.out, hnt])).symm
end Go.Proofs.YtcffeepgfjpcaaaGreat

namespace Go.Proofs.YtcffeepgfjpcaaaGreat
set_option linter.unusedSimpArgs false
set_option linter.unusedVariables false
open Go.RowKit

/-- a walker's walk over rows -/
def pathP (R : List GRow) (j : GJob) (id : Nat) : List UInt32 := if id < walkersJ j then goesP R btab j (UInt64.ofNat id) j.len.toNat [j.srcs.getD (srcJ j id) 0] else []
set_option maxRecDepth 100000 in
theorem build_walks (W : World) (gg : Nat) (vs : Value) (j : GJob) (id q : Nat) : (Instr.build 85 #[(0, .pointer (some ⟨gg, 0, none⟩)), (1, .agg (jobC j vs).toArray), (2, .int .u32 (id : Int)), (3, .slice (some ⟨q, 0, none⟩) 1 1)]).run Tryz.prog W = .ok (.agg (walkC (.pointer (some ⟨gg, 0, none⟩)) vs j id (.slice (some ⟨q, 0, none⟩) 1 1)).toArray) W :=
  run_build W _ _ _ (by kernel_rfl)
theorem wpList_build_walks {ops : Array Oper} {rest : List Oper} {o : Oper} {a : Act} {w : World} {Q : Exit → Act → World → Prop} (hgd : o.guard = none) (x0 x1 x2 x3 : Operand) (ho : o.op = .build 85 #[(0, x0), (1, x1), (2, x2), (3, x3)])
    (gg : Nat) (vs : Value) (j : GJob) (id q : Nat) (h0 : a.eval x0 = .pointer (some ⟨gg, 0, none⟩)) (h1 : a.eval x1 = .agg (jobC j vs).toArray) (h2 : a.eval x2 = .int .u32 (id : Int)) (h3 : a.eval x3 = .slice (some ⟨q, 0, none⟩) 1 1)
    (h : wpList Tryz.prog ops Q rest (a.put o.dst (.agg (walkC (.pointer (some ⟨gg, 0, none⟩)) vs j id (.slice (some ⟨q, 0, none⟩) 1 1)).toArray)) w) : wpList Tryz.prog ops Q (o :: rest) a w :=
  wpList_plain hgd fun K hK => by
    unfold Oper.wp execOp
    simp only [ho, List.map_toArray, List.map_cons, List.map_nil, h0, h1, h2, h3, Sem.run_bind, build_walks, Result.andThen_ok]
    exact hK _ _ h
set_option maxRecDepth 100000 in
set_option maxHeartbeats 3200000 in
theorem path_any (w : World) (gg : Nat) (R : List GRow) (hR : RGood R) (hg : GraphAt w w.heap.size gg R) (v : Value) (j : GJob) (id : Nat) (hid : id < 4294967296) (h : JobAt w w.heap.size v j) (hnd : j.srcs.Nodup) (hs : SortOk j.srcs) (hlen : j.len.toNat ≤ 1048574) (htr : j.tries.toNat ≤ 1048575) :
    Calls Tryz.prog 11 #[.pointer (some ⟨gg, 0, none⟩), v, .int .u32 (id : Int)] w fun e w' => ∃ vp, e = .returned vp ∧ OwnF 24 cU32 w' w.heap.size vp (pathP R j id) ∧ Below w.heap.size w w' := by
  obtain ⟨fin, hfin⟩ : ∃ fin, fin = pathP R j id := ⟨_, rfl⟩
  rw [← hfin]
  have Hfin := Lib.hid hfin
  clear hfin
  obtain ⟨is, his⟩ : ∃ is, is = decide (id < walkersJ j) := ⟨_, rfl⟩
  have hm := fun W (hW : Below w.heap.size w W) => new_any W v j id hid (h.step hW) hnd hs is his
  obtain ⟨vs, rfl, hby⟩ := h
  obtain ⟨w0, hw0⟩ : ∃ w0, w0 = w.alloc (.cells (jobC j vs).toArray 29) := ⟨_, rfl⟩
  have hb0 : Below w.heap.size w w0 := by rw [hw0]; exact balloc _ _
  have hx0 : BoxAt 29 w0 w.heap.size (jobC j vs) := by rw [hw0]; exact BoxAt.new_ _ _ _
  have hz0 : w0.heap.size = w.heap.size + 1 := by rw [hw0]; simp
  have hbd := fun W q => build_walks W gg vs j id q
  have Hw0 := Lib.hid hw0
  have Hb0 := Lib.hid hb0
  have X0 := Lib.hid hx0
  have Hm := Lib.hid hm
  have His := Lib.hid his
  have HR := Lib.hid hR
  have HG := Lib.hid hg
  clear hw0 hb0 hx0 hm his hR hg
  go_enter Tryz.func11, Tryz.ntmps11
  go_wp2_with (first
    | (rw [← Hw0.out])
    | ((with_reducible refine wpList_load_agg ?_ 29 (.tmp 4) ?_ ⟨w.heap.size, 0, none⟩ ?_ (jobC j vs) X0.out.cells Tryz.underlying29 ?_ ?_ ?_); exact rfl; exact rfl; exact rfl; exact rfl; exact infoJob15))
  refine (Hm.out w0 Hb0.out).mono ?_
  rintro _ w1 ⟨rfl, hb1⟩
  obtain ⟨na, hna⟩ : ∃ na, na = newA j id := ⟨_, rfl⟩
  obtain ⟨nt, hnt⟩ : ∃ nt, nt = newAt j id := ⟨_, rfl⟩
  rw [← hna, ← hnt]
  obtain ⟨w2, hw2⟩ : ∃ w2, w2 = w1.alloc (.cells (walkerC na nt).toArray 80) := ⟨_, rfl⟩
  have hb2 : Below w1.heap.size w1 w2 := by rw [hw2]; exact balloc _ _
  have hx2 : BoxAt 80 w2 w1.heap.size (walkerC na nt) := by rw [hw2]; exact BoxAt.new_ _ _ _
  have hb02 := bstep Hb0.out (bstep hb1 hb2)
  have X2 := Lib.hid (X0.out.bl_ (bstep hb1 hb2))
  have hc2 := hx2.cell 2 _ rfl
  have hs1 := hb1.size
  have hz2 : w2.heap.size = w1.heap.size + 1 := by rw [hw2]; simp
  have hs02 := hb02.size
  have Hb2 := Lib.hid hb02
  have Hw2 := Lib.hid hw2
  have Hnt := Lib.hid hnt
  have Hz2 := Lib.hid hz2
  have Hone : Hid (∀ u ∈ walkerC na nt, u.oneCell' = true) := Lib.hid fun u hu => by
    simp [walkerC] at hu
    rcases hu with rfl | rfl | rfl | rfl <;> rfl
  clear hb1 hb2 hx2 hw2 hb02 hna hnt Hm hz2 Hw0 Hb0 X0
  cases is with
  | false =>
    have hno : ¬ id < walkersJ j := fun h => by have := His.out; rw [decide_eq_true h] at this; cases this
    have hp : pathP R j id = [] := by unfold pathP; rw [if_neg hno]
    have Hp := Lib.hid hp
    clear hno hp
    go_wp2_with (first
      | ((with_reducible refine wpList_alloc_z ?_ 80 ?_ infoWalker (walkerC 0 0) ?_ ?_); exact rfl; exact rfl; exact rfl)
      | ((with_reducible refine wpList_store_new ?_ 80 (.tmp 7) (.tmp 14) ?_ (walkerC 0 0) (walkerC na nt) ?_ ?_ ?_ ?_ Hone.out ?_); exact rfl; exact rfl; exact rfl; exact rfl; exact infoWalker7; exact rfl; rw [← Hw2.out]))
    go_ret
    rw [Hfin.out, Hp.out]
    exact ⟨_, rfl, OwnF.nil_ _ _, Hb2.out⟩
  | true =>
    have hlt : id < walkersJ j := by
      have := His.out
      exact of_decide_eq_true this.symm
    obtain ⟨x0, hx0⟩ : ∃ x0, x0 = j.srcs.getD (srcJ j id) 0 := ⟨_, rfl⟩
    have hp : pathP R j id = goesP R btab j (UInt64.ofNat id) j.len.toNat [x0] := by unfold pathP; rw [if_pos hlt, hx0]
    have hnt2 : nt = x0.toNat := by rw [Hnt.out]; unfold newAt; rw [if_pos hlt, hx0]
    subst hnt2
    rw [← Hfin.out] at hp
    obtain ⟨w3, hw3⟩ : ∃ w3, w3 = w2.alloc (.cells #[.int .u32 (x0.toNat : Int)] 24) := ⟨_, rfl⟩
    obtain ⟨w4, hw4⟩ : ∃ w4, w4 = w3.alloc (.cells (walkC (.pointer (some ⟨gg, 0, none⟩)) vs j id (.slice (some ⟨w2.heap.size, 0, none⟩) 1 1)).toArray 85) := ⟨_, rfl⟩
    have hz3 : w3.heap.size = w2.heap.size + 1 := by rw [hw3]; simp
    have hb3 : Below w2.heap.size w2 w3 := by rw [hw3]; exact balloc _ _
    have hb4 : Below w3.heap.size w3 w4 := by rw [hw4]; exact balloc _ _
    have hz4 : w4.heap.size = w3.heap.size + 1 := by rw [hw4]; simp
    have hX4 : BoxAt 85 w4 w3.heap.size (walkC (.pointer (some ⟨gg, 0, none⟩)) vs j id (.slice (some ⟨w2.heap.size, 0, none⟩) 1 1)) := by rw [hw4]; exact BoxAt.new_ _ _ _
    have hO3 : OwnF 24 cU32 w3 w.heap.size (.slice (some ⟨w2.heap.size, 0, none⟩) 1 1) [x0] := by
      rw [hw3]
      exact (OwnR.new_ (C := cU32) (S := fun _ => False) (xs := [x0]) w2 [[.int .u32 (x0.toNat : Int)]] rfl (by simp [maxLen]) (fun i cs x h1 h2 => by
        match i, h1, h2 with
        | 0, h1, h2 => injection h1 with h1; injection h2 with h2; subst h1; subst h2; exact ⟨rfl, trivial⟩) (fun _ h => h.elim)).more (by omega)
    have hbw4 := bstep Hb2.out (bstep hb3 hb4)
    have hgo := goes_any w4 w.heap.size w3.heap.size gg (by omega) (by omega) R HR.out (HG.out.below hbw4) vs (.slice (some ⟨w2.heap.size, 0, none⟩) 1 1) j id hid (UInt64.ofNat id) (by rw [UInt64.toNat_ofNat']; exact Nat.mod_eq_of_lt (by omega)) x0 hX4 (OwnR.below_ hO3 hb4) hlen htr
    have Hgo := Lib.hid hgo
    have Hw3 := Lib.hid hw3
    have Hw4 := Lib.hid hw4
    have Hbw4 := Lib.hid hbw4
    have Hz4 := Lib.hid hz4
    rw [← hp] at Hgo
    have hX2 := X2.out.cells
    clear hgo hw3 hw4 hbw4 hb3 hb4 hX4 hO3 hz3 hz4 hlt hp hx0
    go_upto_region 4 with (first
      | ((with_reducible refine wpList_alloc_z ?_ 80 ?_ infoWalker (walkerC 0 0) ?_ ?_); exact rfl; exact rfl; exact rfl)
      | ((with_reducible refine wpList_store_new ?_ 80 (.tmp 7) (.tmp 14) ?_ (walkerC 0 0) (walkerC na x0.toNat) ?_ ?_ ?_ ?_ Hone.out ?_); exact rfl; exact rfl; exact rfl; exact rfl; exact infoWalker7; exact rfl; rw [← Hw2.out])
      | ((with_reducible refine wpList_load_agg ?_ 29 (.tmp 4) ?_ ⟨w.heap.size, 0, none⟩ ?_ (jobC j vs) X2.out.cells Tryz.underlying29 ?_ ?_ ?_); exact rfl; exact rfl; exact rfl; exact rfl; exact infoJob15))
    go_wp2_with (first
      | ((with_reducible refine wpList_load_agg ?_ 29 (.tmp 4) ?_ ⟨w.heap.size, 0, none⟩ ?_ (jobC j vs) X2.out.cells Tryz.underlying29 ?_ ?_ ?_); exact rfl; exact rfl; exact rfl; exact rfl; exact infoJob15)
      | ((with_reducible refine wpList_build_walks ?_ (.tmp 18) (.tmp 19) (.tmp 20) (.tmp 23) ?_ gg vs j id w2.heap.size ?_ ?_ ?_ ?_ ?_); exact rfl; exact rfl; exact rfl; exact rfl; exact rfl; exact rfl; rw [← Hw3.out])
      | (rw [← Hw4.out]))
    refine Hgo.out.mono ?_
    rintro _ w5 ⟨rfl, vp, hX5, hO5, hb5⟩
    obtain ⟨A5, c5, rfl, _⟩ := hO5.form'
    have hc17 := hX5.cell 17 _ rfl
    have HO5 := Lib.hid hO5
    have Hb5 := Lib.hid (Hbw4.out.trans hb5)
    clear hX5 hO5 hb5
    go_wp2_with fail
    go_ret
    exact ⟨_, rfl, HO5.out, Hb5.out⟩
end Go.Proofs.YtcffeepgfjpcaaaGreat

namespace Go.Proofs.YtcffeepgfjpcaaaGreat
set_option linter.unusedSimpArgs false
set_option linter.unusedVariables false
open Go.RowKit

def beginJ : GJob := ⟨0, 0, 10, 1, [], 0, 1, 1, 1, 100, 10, 1024, 4096, 64, 64⟩
def zeroJ : GJob := ⟨0, 0, 0, 0, [], 0, 0, 0, 0, 0, 0, 0, 0, 0, 0⟩
theorem infoJobZ : (Tryz.prog.info? 29).map (fun i => (i.zero, i.size, i.bytes)) = some (some (.agg (jobC zeroJ (.slice none 0 0)).toArray), 15, 88) := by kernel_rfl
theorem infoJob_15 : (Tryz.prog.info? 29).map (·.size) = some 15 := by kernel_rfl
theorem jobC_one (j : GJob) (A : Option Addr) (n c : Nat) : ∀ u ∈ jobC j (.slice A n c), u.oneCell' = true := by
  intro u hu
  simp only [jobC, List.mem_cons, List.not_mem_nil, or_false] at hu
  rcases hu with rfl | rfl | rfl | rfl | rfl | rfl | rfl | rfl | rfl | rfl | rfl | rfl | rfl | rfl | rfl <;> rfl
set_option maxRecDepth 100000 in
set_option maxHeartbeats 800000 in
theorem jbegin_any (w : World) : Calls Tryz.prog 55 #[] w fun e w' => e = .returned (.agg (jobC beginJ (.slice none 0 0)).toArray) ∧ Below w.heap.size w w' := by
  have Hone : Hid (∀ u ∈ jobC beginJ (.slice none 0 0), u.oneCell' = true) := Lib.hid (jobC_one _ _ _ _)
  go_enter Tryz.func55, Tryz.ntmps55
  go_wp2_with (first
    | (refine wpList_alloc_z rfl 29 rfl infoJobZ (jobC zeroJ (.slice none 0 0)) rfl ?_)
    | (refine wpList_store_newX rfl 29 (.tmp 0) (.tmp 2) rfl (jobC zeroJ (.slice none 0 0)) (jobC beginJ (.slice none 0 0)) rfl rfl infoJob_15 rfl Hone.out ?_
       intro w4 hbx4 hb4 hz4))
  refine bodyPost_ret (results_c rfl _ _ w.heap.size (jobC beginJ (.slice none 0 0)) rfl (fun j v hj => (hbx4.cells j v hj : _)) Tryz.underlying29 rfl infoJob_15) rfl ?_
  exact ⟨rfl, hb4⟩
end Go.Proofs.YtcffeepgfjpcaaaGreat

namespace Go.Proofs.YtcffeepgfjpcaaaGreat
set_option linter.unusedSimpArgs false
set_option linter.unusedVariables false
open Go.RowKit

theorem nbrs_one (x : UInt32) : nbrs [⟨x, 1⟩] = true := by simp [nbrs, gmay, rise, gsum]
theorem pick_len1 (l : List GArc) (hn : nbrs l = true) (h1 : l.length = 1) (d : Nat) (hd : d < ptotal l) : (ival l (rmp l (btab l) d).1).1 = 0 := by
  have h := (cand_facts hn (by omega) hd).2
  omega
theorem candP_len1 (j : GJob) (uk ut : UInt64) (tr : Nat) (l : List GArc) (hn : nbrs l = true) (h1 : l.length = 1) : candP j uk ut l (btab l) tr = (l.getD 0 ⟨0, 0⟩).to := by
  have hd := belowU_lt (drawU j.seed uk ut (UInt64.ofNat (2 * tr + 1))) (ptotal l) (ptotal_posN hn)
  unfold candP
  rw [pick_len1 l hn h1 _ hd]
theorem candP_one (j : GJob) (uk ut : UInt64) (tr : Nat) (x : UInt32) : candP j uk ut [⟨x, 1⟩] (btab [⟨x, 1⟩]) tr = x := candP_len1 j uk ut tr [⟨x, 1⟩] (nbrs_one x) rfl
def awJ : GJob := { beginJ with srcs := [1], len := 3 }
def awR : List GRow := [⟨1, [⟨2, 1⟩]⟩, ⟨2, [⟨1, 1⟩]⟩]
def awE : List GEdge := [⟨1, 2, 1⟩, ⟨2, 1, 1⟩]
theorem aw_next1 (path : List UInt32) (uk : UInt64) (v x : UInt32) (hv : path.getD (path.length - 1) 0 = v) (ha : arcsR awR v = [⟨x, 1⟩]) : nextP awR btab awJ uk path = some x := by
  unfold nextP
  simp only [hv, ha]
  have hb : backJ awJ uk (UInt64.ofNat (path.length - 1)) = false := by unfold backJ awJ beginJ; simp
  rw [if_neg (by simp), if_neg (by rw [hb]; decide)]
  have ht : awJ.tries.toNat = 99 + 1 := rfl
  rw [ht, tryP, candP_one]
  have hk : takesJ awJ path.length x.toNat (path.getD (path.length - 2) 0).toNat (testP awJ uk (UInt64.ofNat (path.length - 1)) 0) (nearP awR (path.getD (path.length - 2) 0) x) = true := by unfold takesJ awJ beginJ; simp
  rw [if_pos hk]
theorem aw_path : pathP awR awJ 0 = [1, 2, 1, 2] := by
  have hw : walkersJ awJ = 1 := by decide
  unfold pathP
  rw [if_pos (by rw [hw]; decide)]
  have hs : awJ.srcs.getD (srcJ awJ 0) 0 = 1 := by
    unfold srcJ
    rw [if_pos (by rw [hw]; decide)]
    rfl
  rw [hs, show awJ.len.toNat = 2 + 1 from rfl]
  have h1 : ∀ uk k, goesP awR btab awJ uk (k + 1) [1] = goesP awR btab awJ uk k [1, 2] := fun uk k => goesP_some (aw_next1 [1] uk 1 2 rfl rfl)
  have h2 : ∀ uk k, goesP awR btab awJ uk (k + 1) [1, 2] = goesP awR btab awJ uk k [1, 2, 1] := fun uk k => goesP_some (aw_next1 [1, 2] uk 2 1 rfl rfl)
  have h3 : ∀ uk k, goesP awR btab awJ uk (k + 1) [1, 2, 1] = goesP awR btab awJ uk k [1, 2, 1, 2] := fun uk k => goesP_some (aw_next1 [1, 2, 1] uk 1 2 rfl rfl)
  have h4 : ∀ uk, goesP awR btab awJ uk 0 [1, 2, 1, 2] = [1, 2, 1, 2] := fun uk => rfl
  rw [h1]
  show goesP awR btab awJ (UInt64.ofNat 0) (1 + 1) [1, 2] = _
  rw [h2]
  show goesP awR btab awJ (UInt64.ofNat 0) (0 + 1) [1, 2, 1] = _
  rw [h3, h4]
theorem aw_arcs (v : UInt32) : arcsR awR v = [⟨2, 1⟩] ∨ arcsR awR v = [⟨1, 1⟩] ∨ arcsR awR v = [] := by
  unfold arcsR awR
  simp only [List.find?]
  cases h1 : ((1 : UInt32) == v) with
  | true => exact .inl rfl
  | false =>
    cases h2 : ((2 : UInt32) == v) with
    | true => exact .inr (.inl rfl)
    | false => exact .inr (.inr rfl)
theorem aw_good : RGood awR := by
  refine ⟨by simp [awR], by simp [awR], fun v => ?_, fun v => ?_⟩
  · rcases aw_arcs v with h | h | h
    · rw [h]; exact .inr (nbrs_one 2)
    · rw [h]; exact .inr (nbrs_one 1)
    · exact .inl h
  · rcases aw_arcs v with h | h | h <;> rw [h] <;> decide
/-- the rows of the example's edges -/
theorem aw_rows {L : List GEdge} (hp : L.Perm awE) (hs : L.Pairwise fun a b => a.num ≤ b.num) : mrow L ⟨0, []⟩ [] = some awR := by
  have hse : awE.Pairwise fun a b => a.num ≤ b.num := by decide
  have e : L = awE := hp.eq_of_pairwise (fun a b _ _ h1 h2 => GEdge.num_inj (Nat.le_antisymm h1 h2)) hs hse
  subst e
  decide
end Go.Proofs.YtcffeepgfjpcaaaGreat

namespace Go.Proofs.YtcffeepgfjpcaaaGreat
set_option linter.unusedSimpArgs false
set_option linter.unusedVariables false
open Go.RowKit Go.Shelf

theorem blen_any (W : World) (n : Nat) (hn : n ≤ 4294967296) : Calls Tryz.prog 57 #[.int .u64 (n : Int)] W fun e w' => e = .returned (.int .i64 (Lib.bitLen n : Nat)) ∧ w' = W := by
  have h := Any.bits_Len (SlLaysF0.n15.bits (P := Tryz.prog) (ρ := sortL_ren) { sortL with }) (n : Int) W (by omega) (by omega)
  rwa [Int.toNat_natCast] at h
set_option maxRecDepth 100000 in
theorem isort_one (w : World) (v : Value) : Calls Tryz.prog 137 #[v, .int .i64 0, .int .i64 1] w fun e w' => e = .returned (.tuple #[]) ∧ w' = w := by
  go_enter Tryz.func137, Tryz.ntmps137
  go_wp2_with fail
  refine wp_loop_rounds 1 ?_
  rw [rounds_succ]
  go_wp2
  go_end0
  exact ⟨rfl, rfl⟩
set_option maxRecDepth 100000 in
theorem pdq_one (w : World) (v : Value) (lim : Nat) : Calls Tryz.prog 132 #[v, .int .i64 0, .int .i64 1, .int .i64 (lim : Int)] w fun e w' => e = .returned (.tuple #[]) ∧ w' = w := by
  have hi := fun W => isort_one W v
  have Hi := Lib.hid hi
  clear hi
  go_enter Tryz.func132, Tryz.ntmps132
  go_wp2_with fail
  refine wp_loop_rounds 1 ?_
  rw [rounds_succ]
  go_wp2_with fail
  refine (Hi.out _).mono ?_
  rintro _ _ ⟨rfl, rfl⟩
  go_wp2_with fail
  (try simp only [Exit.inBlock, Exit.then]); refine bodyPost_ret (results_none rfl _ _ _) rfl ?_
  exact ⟨rfl, rfl⟩
set_option maxRecDepth 100000 in
theorem sort_one (x : UInt32) : SortOk [x] := by
  intro W base v ho hb
  have ho2 := ho
  obtain ⟨A, c, rfl, _⟩ := ho2.form'
  have hp := fun W' n => pdq_one W' (.slice A 1 c) n
  have hl := fun W' => blen_any W' 1 (by omega)
  have Hp := Lib.hid hp
  have Hl := Lib.hid hl
  have Ho := Lib.hid ho
  clear hp hl ho ho2
  go_enter Tryz.func127, Tryz.ntmps127
  go_wp2_with fail
  refine (Hl.out _).mono ?_
  rintro _ _ ⟨rfl, rfl⟩
  go_wp2_with fail
  refine (Hp.out _ _).mono ?_
  rintro _ _ ⟨rfl, rfl⟩
  go_wp2_with fail
  go_end0
  exact ⟨rfl, [x], List.Perm.refl _, Ho.out, Chg.refl _ _⟩
end Go.Proofs.YtcffeepgfjpcaaaGreat

namespace Go.Proofs.YtcffeepgfjpcaaaGreat
set_option linter.unusedSimpArgs false
set_option linter.unusedVariables false
open Go.RowKit

set_option maxRecDepth 100000 in
set_option maxHeartbeats 1600000 in
theorem same_u (w : World) (B : Nat) (hB : B ≤ w.heap.size) (va vb : Value) (a b : List UInt32) (ha : ByU w B va a) (hb : ByU w B vb b) (hla : a.length ≤ 1048576) (hlb : b.length ≤ 1048576) (r : Bool) (hr : r = decide (a = b)) :
    Calls Tryz.prog 13 #[va, vb] w fun e w' => e = .returned (.bool r) ∧ Below w.heap.size w w' := by
  obtain ⟨A, c, rfl, hc1, hc2⟩ := ha.form
  obtain ⟨A2, c2, rfl, hc3, hc4⟩ := hb.form
  unfold maxLen at hc2 hc4
  have Hr := Lib.hid hr
  clear hr
  by_cases hl : a.length = b.length
  · have hd : ((a.length : Int) == (b.length : Int)) = true := by simp [hl]
    have hd2 : ((a.length : Int) != (b.length : Int)) = false := by simp [hl]
    have Hl := Lib.hid hl
    obtain ⟨n, hn⟩ : ∃ n, n = a.length := ⟨_, rfl⟩
    obtain ⟨m, hm⟩ : ∃ m, m = b.length := ⟨_, rfl⟩
    have hn2 := hn
    have Ha := Lib.hid ha
    have Hb := Lib.hid hb
    clear ha hb hl
    go_enter Tryz.func13, Tryz.ntmps13
    clear hn hm hn2
    go_wp2_with fail
    go_loopw [13] (fun iv wr => ∃ k : Nat, iv = .int .i64 k ∧ k ≤ a.length ∧ (∀ i, (h1 : i < a.length) → (h2 : i < b.length) → i < k → a[i] = b[i]) ∧ Below w.heap.size w wr) (fun iv _ => a.length - (intOf iv).toNat)
    case atStart => exact ⟨0, rfl, by omega, fun i _ _ h => by omega, Below.refl _ _⟩
    case round =>
      obtain ⟨k, rfl, hk, hsm, hbr⟩ := hrel
      have Hsm := Lib.hid hsm
      have Hbr := Lib.hid hbr
      clear hsm hbr
      by_cases hlt : k < a.length
      · have hlt2 : k < b.length := by have := Hl.out; omega
        have hdk : decide ((k : Int) < (a.length : Int)) = true := decide_eq_true (by omega)
        obtain ⟨ad, rfl, hab, hx0⟩ := (Ha.out.below (Hbr.out.mono hB)).cells k hlt
        obtain ⟨ad2, rfl, hab2, hy0⟩ := (Hb.out.below (Hbr.out.mono hB)).cells k hlt2
        by_cases hxy : a[k] = b[k]
        · have hq : (((a[k]).toNat : Int) == ((b[k]).toNat : Int)) = true := by simp [hxy]
          have hq2 : (((a[k]).toNat : Int) != ((b[k]).toNat : Int)) = false := by simp [hxy]
          have HXY := Lib.hid hxy
          clear hxy
          generalize (a[k]).toNat = xa at *
          generalize (b[k]).toNat = xb at *
          go_wp2_with fail
          go_quiet (fail)
          go_wp2_with fail
          go_roundw
          case rel =>
            refine ⟨k + 1, by go_num, by omega, fun i h1 h2 hi => ?_, bdrewN Hbr.out nq⟩
            rcases Nat.lt_or_ge i k with hik | hik
            · exact Hsm.out i h1 h2 hik
            · have : i = k := by omega
              subst this
              exact HXY.out
          case measure => simp [intOf]; omega
        · have hne : (a[k]).toNat ≠ (b[k]).toNat := fun e => hxy (UInt32.toNat_inj.1 e)
          have Hrt : Hid (r = false) := Lib.hid (by rw [Hr.out]; exact decide_eq_false fun e => hxy (by subst e; rfl))
          clear hxy
          generalize (a[k]).toNat = xa at *
          generalize (b[k]).toNat = xb at *
          have hq : ((xa : Int) == (xb : Int)) = false := beq_eq_false_iff_ne.2 (by omega)
          have hq2 : ((xa : Int) != (xb : Int)) = true := by simp; omega
          go_wp2_with fail
          go_quiet (fail)
          go_wp2_with fail
          go_ret
          exact ⟨by rw [Hrt.out]; rfl, bdrewN Hbr.out nq⟩
      · have hdk : decide ((k : Int) < (a.length : Int)) = false := decide_eq_false (by omega)
        have he : a = b := List.ext_getElem Hl.out fun i h1 h2 => Hsm.out i h1 h2 (by omega)
        have Hrt : Hid (r = true) := Lib.hid (by rw [Hr.out]; exact decide_eq_true he)
        clear he
        go_wp2_with fail
        go_ret
        exact ⟨by rw [Hrt.out]; rfl, Hbr.out⟩
  · have hd : ((a.length : Int) == (b.length : Int)) = false := beq_eq_false_iff_ne.2 (by omega)
    have hd2 : ((a.length : Int) != (b.length : Int)) = true := by simp; omega
    have Hrt : Hid (r = false) := Lib.hid (by rw [Hr.out]; exact decide_eq_false fun e => hl (by rw [e]))
    have hne : ¬ (a.length : Int) = (b.length : Int) := by omega
    go_enter Tryz.func13, Tryz.ntmps13
    go_wp2_with fail
    go_ret
    exact ⟨by rw [Hrt.out]; rfl, Below.refl _ _⟩
end Go.Proofs.YtcffeepgfjpcaaaGreat

namespace Go.Proofs.YtcffeepgfjpcaaaGreat
set_option linter.unusedSimpArgs false
set_option linter.unusedVariables false
open Go.RowKit

/-- a load of a struct under a guard that says yes -/
theorem wpList_load_aggGT {ops : Array Oper} {rest : List Oper} {o : Oper} {a : Act} {w : World} {Q : Exit → Act → World → Prop} (hw : Region.wanted o (yielded ops a.tmps) = true) (T : TypeId) (x : Operand) (ho : o.op = .load T x)
    (ad : Addr) (hx : a.eval x = .pointer (some ad)) (cs : List Value) (hc : ∀ (j : Nat) (v : Value), cs[j]? = some v → w.cell? (ad.add j) = some v) {d : TypeDesc} (hu : Tryz.prog.underlying T = some d)
    (hd : (match d with | .struct _ | .array _ _ => true | _ => false) = true) (hi : (Tryz.prog.info? T).map (·.size) = some cs.length)
    (h : wpList Tryz.prog ops Q rest (a.put o.dst (.agg cs.toArray)) w) : wpList Tryz.prog ops Q (o :: rest) a w :=
  BigFrame.wpList_want hw fun K hK => by
    unfold Oper.wp execOp
    simp only [ho, hx, Instr.loadAt, Instr.sureAddr, Sem.run_bind, Sem.run_pure, Result.andThen_ok, run_loadVar_cells w ad T cs hc hu hd hi]
    exact hK _ _ h
theorem flat_u32 : ∀ l : List UInt32, (l.map fun x => [Value.int .u32 (x.toNat : Int)]).flatten = l.map fun x => Value.int .u32 (x.toNat : Int)
  | [] => rfl
  | a :: t => by rw [List.map_cons, List.flatten_cons, flat_u32 t]; rfl
theorem awE_by (w : World) : ByE (w.alloc (.cells #[.int .u32 1, .int .u32 2, .int .u32 1, .int .u32 2, .int .u32 1, .int .u32 1] 55)) (w.heap.size + 1) (.slice (some ⟨w.heap.size, 0, none⟩) 2 2) awE := by
  refine ⟨_, 2, rfl, Nat.le_refl _, by simp [maxLen], fun _ => ⟨_, rfl, Nat.lt_succ_self _, fun i x hx => ?_⟩⟩
  have hb : BoxAt 55 (w.alloc (.cells #[.int .u32 1, .int .u32 2, .int .u32 1, .int .u32 2, .int .u32 1, .int .u32 1] 55)) w.heap.size [.int .u32 1, .int .u32 2, .int .u32 1, .int .u32 2, .int .u32 1, .int .u32 1] := BoxAt.new_ _ _ _
  match i, hx with
  | 0, hx =>
    injection hx with hx
    subst hx
    refine ⟨_, ⟨rfl, trivial⟩, fun j u hu => ?_⟩
    refine hb.cells (0 * cEdge.n + j) u ?_
    match j, hu with
    | 0, hu => exact hu
    | 1, hu => exact hu
    | 2, hu => exact hu
  | 1, hx =>
    injection hx with hx
    subst hx
    refine ⟨_, ⟨rfl, trivial⟩, fun j u hu => ?_⟩
    refine hb.cells (1 * cEdge.n + j) u ?_
    match j, hu with
    | 0, hu => exact hu
    | 1, hu => exact hu
    | 2, hu => exact hu
theorem byU_new (w : World) (l : List UInt32) (hm : l.length ≤ maxLen) (n : Nat) (hn : n = l.length) : OwnF 24 cU32 (w.alloc (.cells (l.map fun x => Value.int .u32 (x.toNat : Int)).toArray 24)) w.heap.size (.slice (some ⟨w.heap.size, 0, none⟩) n n) l := by
  subst hn
  have := OwnR.new_ (C := cU32) (E := 24) (S := fun _ => False) (xs := l) w (l.map fun x => [Value.int .u32 (x.toNat : Int)]) (by simp) hm (fun i cs x h1 h2 => by
    rw [List.getElem?_map, h2] at h1
    injection h1 with h1
    exact ⟨h1.symm, trivial⟩) (fun _ h => h.elim)
  rw [flat_u32] at this
  exact this
set_option maxRecDepth 100000 in
set_option maxHeartbeats 3200000 in
theorem awake_in (w : World) : Calls Tryz.prog 30 #[] w fun e w' => e = .returned (.bool true) ∧ Below w.heap.size w w' := by
  obtain ⟨w1, hw1⟩ : ∃ w1, w1 = w.alloc (.cells #[.int .u32 1, .int .u32 2, .int .u32 1, .int .u32 2, .int .u32 1, .int .u32 1] 55) := ⟨_, rfl⟩
  have hb1 : Below w.heap.size w w1 := by rw [hw1]; exact balloc _ _
  have hz1 : w1.heap.size = w.heap.size + 1 := by rw [hw1]; simp
  have hby : ByE w1 w1.heap.size (.slice (some ⟨w.heap.size, 0, none⟩) 2 2) awE := by rw [hz1, hw1]; exact awE_by w
  have hgo := gof_any w1 _ awE hby (by decide)
  have hbd : ∀ W, (Instr.build 55 #[(0, .int .u32 1), (1, .int .u32 2), (2, .int .u32 1)]).run Tryz.prog W = .ok (.agg #[.int .u32 1, .int .u32 2, .int .u32 1]) W := fun W => run_build W _ _ _ (by kernel_rfl)
  have hbe : ∀ W, (Instr.build 55 #[(0, .int .u32 2), (1, .int .u32 1), (2, .int .u32 1)]).run Tryz.prog W = .ok (.agg #[.int .u32 2, .int .u32 1, .int .u32 1]) W := fun W => run_build W _ _ _ (by kernel_rfl)
  have Hgo := Lib.hid hgo
  have Hb1 := Lib.hid hb1
  have Hw1 := Lib.hid hw1
  have Hz1 := Lib.hid hz1
  clear hgo hb1 hby hw1 hz1
  go_enter Tryz.func30, Tryz.ntmps30
  go_wp2_with fail
  rw [← Hw1.out]
  refine Hgo.out.mono ?_
  rintro e w2 ⟨hb2, (⟨⟨x, hx, hx0⟩, rfl⟩ | ⟨_, L, hp, hs, h⟩)⟩
  · exfalso
    revert hx0
    revert x
    decide
  have hr := aw_rows hp hs
  rcases h with ⟨h1, _⟩ | ⟨R, g, h1, rfl, hgB, hG⟩
  · rw [h1] at hr; cases hr
  rw [h1] at hr
  injection hr with hr
  subst hr
  have Hb2 := Lib.hid (bstep Hb1.out hb2)
  have HG := Lib.hid hG
  have hs2 : w.heap.size ≤ w2.heap.size := Hb2.out.size
  clear hp hs h1 hb2 hG hgB Hgo Hb1 Hw1 Hz1
  have hbg := fun W => jbegin_any W
  have Hbg := Lib.hid hbg
  clear hbg
  go_wp2_with fail
  refine (Hbg.out w2).mono ?_
  rintro _ w3 ⟨rfl, hb3⟩
  obtain ⟨w4, hw4⟩ : ∃ w4, w4 = w3.alloc (.cells (jobC beginJ (.slice none 0 0)).toArray 29) := ⟨_, rfl⟩
  obtain ⟨w5, hw5⟩ : ∃ w5, w5 = w4.alloc (.cells #[.int .u32 1] 24) := ⟨_, rfl⟩
  have hb4 : Below w3.heap.size w3 w4 := by rw [hw4]; exact balloc _ _
  have hb5 : Below w4.heap.size w4 w5 := by rw [hw5]; exact balloc _ _
  have hz4 : w4.heap.size = w3.heap.size + 1 := by rw [hw4]; simp
  have hz5 : w5.heap.size = w4.heap.size + 1 := by rw [hw5]; simp
  have hX4 : BoxAt 29 w4 w3.heap.size (jobC beginJ (.slice none 0 0)) := by rw [hw4]; exact BoxAt.new_ _ _ _
  have hX5 := hX4.bl_ hb5
  have hU5 : OwnF 24 cU32 w5 w4.heap.size (.slice (some ⟨w4.heap.size, 0, none⟩) 1 1) [1] := by rw [hw5]; exact byU_new w4 [1] (by simp [maxLen]) 1 rfl
  have hc4 := hX5.cell 4 _ rfl
  have hf4 := hX5.frozen 4
  have hX6 := hX5.put 4 (.slice (some ⟨w4.heap.size, 0, none⟩) 1 1)
  have hc2 := hX6.cell 2 _ rfl
  have hf2 := hX6.frozen 2
  have hX7 := hX6.put 2 (.int .u32 3)
  obtain ⟨w7, hw7⟩ : ∃ w7, w7 = (w5.setCell ⟨w3.heap.size, 4, none⟩ (.slice (some ⟨w4.heap.size, 0, none⟩) 1 1)).setCell ⟨w3.heap.size, 2, none⟩ (.int .u32 3) := ⟨_, rfl⟩
  rw [← hw7] at hX7
  have hX7' : BoxAt 29 w7 w3.heap.size (jobC awJ (.slice (some ⟨w4.heap.size, 0, none⟩) 1 1)) := hX7
  have hch : Chg (fun k => k = w3.heap.size) w5 w7 := by rw [hw7]; exact (Chg.set (P := fun k => k = w3.heap.size) _ ⟨w3.heap.size, 4, none⟩ _ rfl).trans (Chg.set (P := fun k => k = w3.heap.size) _ ⟨w3.heap.size, 2, none⟩ _ rfl)
  have hs3 := hb3.size
  have hs7 := hch.size
  have hbw7 : Below w2.heap.size w2 w7 := ((hb3.trans ((bstep hb4 hb5).mono (by omega)))).trans (hch.below (by omega) fun k hk => by omega)
  have hU7 : ByU w7 w7.heap.size (.slice (some ⟨w4.heap.size, 0, none⟩) 1 1) [1] := ((OwnR.chgT hU5 hch (fun k hk e => by injection hk with hk; simp only at hk; omega) (fun _ h => h.elim)).rowLt).mono (fun _ h => h) (fun _ h => h.elim)
  have hpa := path_any w7 g awR aw_good ((HG.out.below hbw7).more hbw7.size) (.agg (jobC awJ (.slice (some ⟨w4.heap.size, 0, none⟩) 1 1)).toArray) awJ 0 (by omega) ⟨_, rfl, hU7⟩ (by simp [awJ]) (sort_one 1) (by decide) (by decide)
  rw [aw_path] at hpa
  simp only [Int.natCast_zero] at hpa
  have Hpa := Lib.hid hpa
  have Hw4 := Lib.hid hw4
  have Hw5 := Lib.hid hw5
  have Hw7 := Lib.hid hw7
  have X7 := Lib.hid hX7'
  have Hbw7 := Lib.hid (bstep Hb2.out hbw7)
  have Hone : Hid (∀ u ∈ jobC beginJ (.slice none 0 0), u.oneCell' = true) := Lib.hid (jobC_one beginJ none 0 0)
  clear hpa hw4 hw5 hw7 hX7 hX7' hX6 hX5 hX4 hU5 hU7 hch hbw7 hb3 hb4 hb5 hs3 hz4 hz5 Hbg
  go_wp2_with (first
    | ((with_reducible refine wpList_alloc_z ?_ 29 ?_ infoJobZ (jobC zeroJ (.slice none 0 0)) ?_ ?_); exact rfl; exact rfl; exact rfl)
    | ((with_reducible refine wpList_store_new ?_ 29 (.tmp 3) (.tmp 11) ?_ (jobC zeroJ (.slice none 0 0)) (jobC beginJ (.slice none 0 0)) ?_ ?_ ?_ ?_ Hone.out ?_); exact rfl; exact rfl; exact rfl; exact rfl; exact infoJob_15; exact rfl; rw [← Hw4.out])
    | (rw [← Hw5.out])
    | (rw [← Hw7.out])
    | ((with_reducible refine wpList_load_aggGT ?_ 29 (.tmp 3) ?_ ⟨w3.heap.size, 0, none⟩ ?_ (jobC awJ (.slice (some ⟨w4.heap.size, 0, none⟩) 1 1)) X7.out.cells Tryz.underlying29 ?_ ?_ ?_); exact rfl; exact rfl; exact rfl; exact rfl; exact infoJob_15))
  refine Hpa.out.mono ?_
  rintro _ w8 ⟨vp, rfl, hO8, hb8⟩
  obtain ⟨w9, hw9⟩ : ∃ w9, w9 = w8.alloc (.cells #[.int .u32 1, .int .u32 2, .int .u32 1, .int .u32 2] 24) := ⟨_, rfl⟩
  have hb9 : Below w8.heap.size w8 w9 := by rw [hw9]; exact balloc _ _
  have hU9 : OwnF 24 cU32 w9 w8.heap.size (.slice (some ⟨w8.heap.size, 0, none⟩) 4 4) [1, 2, 1, 2] := by rw [hw9]; exact byU_new w8 [1, 2, 1, 2] (by simp [maxLen]) 4 rfl
  have hO9 := OwnR.below_ hO8 hb9
  have hsm := same_u w9 w9.heap.size (Nat.le_refl _) vp (.slice (some ⟨w8.heap.size, 0, none⟩) 4 4) [1, 2, 1, 2] [1, 2, 1, 2] (hO9.rowLt.mono (fun _ h => h) (fun _ h => h.elim)) (hU9.rowLt.mono (fun _ h => h) (fun _ h => h.elim)) (by decide) (by decide) true (by decide)
  have Hsm := Lib.hid hsm
  have Hw9 := Lib.hid hw9
  have Hb9 := Lib.hid (bstep Hbw7.out (bstep hb8 hb9))
  clear hsm hw9 hb8 hb9 hU9 hO9 hO8 Hpa
  go_wp2_with fail
  rw [← Hw9.out]
  refine Hsm.out.mono ?_
  rintro _ w10 ⟨rfl, hb10⟩
  have Hb10 := Lib.hid (bstep Hb9.out hb10)
  clear hb10
  go_wp2_with fail
  go_ret
  exact ⟨rfl, Hb10.out⟩
theorem awake_any22 (w : World) : Calls Tryz.prog 9 #[] w fun e w' => e = .returned (.bool true) ∧ Below w.heap.size w w' := by
  have h := awake_in w
  have H := Lib.hid h
  clear h
  go_enter Tryz.func9, Tryz.ntmps9
  go_wp2_with fail
  refine H.out.mono ?_
  rintro _ w1 ⟨rfl, hb1⟩
  go_wp2_with fail
  go_ret
  exact ⟨rfl, hb1⟩
end Go.Proofs.YtcffeepgfjpcaaaGreat

namespace Go.Proofs.YtcffeepgfjpcaaaGreat
set_option linter.unusedSimpArgs false
set_option linter.unusedVariables false
open Go.RowKit

theorem map_facts {l : List GArc} {t : List GCell} (h : mayOk l t = true) (hl : l.length ≤ 1048576) {x y : Nat} (hx : x < ptotal l) (hy : y < ptotal l) :
    ∃ a b k : Nat, rmp l t x = (a, true) ∧ rmp l t y = (b, true) ∧ palias l t x = (k, true) ∧ ival l a = (k, true) ∧ bck l t a = (x, true) ∧ a < ptotal l ∧ b < ptotal l ∧ (a = b ↔ x = y) := by
  obtain ⟨a1, a2, a3⟩ := one_to_one h hl hx
  obtain ⟨b1, b2, b3⟩ := one_to_one h hl hy
  refine ⟨_, _, _, rmp_ok h hx, rmp_ok h hy, (palias_ok h hx).1, ?_, a3, a1, b1, ⟨fun e => ?_, fun e => by subst e; rfl⟩⟩
  · unfold ival
    rw [if_pos a1, a2]
  · rw [e, b3] at a3
    injection a3 with a3
    exact a3.symm
theorem ptotal_small (l : List GArc) (hl : l.length ≤ 1048576) : ptotal l < 18446744073709551616 := by
  rw [ptotal_nbrs]
  split
  · rename_i h
    have := (gmay_parts.1 (nbrs_gmay h).1).2
    have h2 : gsum l * l.length ≤ 2147483647 * 1048576 := Nat.mul_le_mul this hl
    omega
  · omega
set_option maxRecDepth 100000 in
set_option maxHeartbeats 3200000 in
theorem tmapped_walk (w : World) (A : Option Addr) (c : Nat) (b : List UInt8) (hby : By w w.heap.size (.slice A b.length c) b) (hl : b.length ≤ 1048576) (v : UInt32) (x y : Nat) (hx : x < 18446744073709551616) (hy : y < 18446744073709551616) :
    Calls Tryz.prog 6 #[.slice A b.length c, .int .u32 (v.toNat : Int), .int .u64 (x : Int), .int .u64 (y : Int)] w fun e w' => e = .returned (.bool true) ∧ Below w.heap.size w w' := by
  have hrr := rread12_any w _ b hby hl
  have haw := fun W => awake_any22 W
  obtain ⟨R, hR⟩ : ∃ R, R = readE (linesP b) 0 [] := ⟨_, rfl⟩
  rw [← hR] at hrr
  have HR := Lib.hid hR
  have Hrr := Lib.hid hrr
  have Haw := Lib.hid haw
  have Hby := Lib.hid hby
  clear hR hrr haw hby
  go_enter Tryz.func6, Tryz.ntmps6
  go_wp2_with fail
  refine Hrr.out.mono ?_
  rintro _ w1 ⟨vl, rfl, hol, hb1⟩
  obtain ⟨Al, cl, rfl, _⟩ := hol.form'
  have Hol := Lib.hid hol
  have Hb1 := Lib.hid hb1
  clear hol hb1 Hrr
  obtain ⟨l, hlx⟩ : ∃ l, l = R.1 := ⟨_, rfl⟩
  obtain ⟨er, her⟩ : ∃ er, er = R.2.2 := ⟨_, rfl⟩
  obtain ⟨ln, hln⟩ : ∃ ln, ln = R.2.1 := ⟨_, rfl⟩
  rw [← hlx, ← her, ← hln]
  rw [← hlx] at Hol
  have Hlx := Lib.hid hlx
  have Her := Lib.hid her
  have Hln := Lib.hid hln
  clear hlx her hln
  by_cases hbig : 1500 < b.length ∨ ¬ er = 0 ∨ 60 < l.length
  · have hcs : decide ((1500 : Int) < (b.length : Int)) = true ∨ (decide ((1500 : Int) < (b.length : Int)) = false ∧ (er != 0) = true) ∨ (decide ((1500 : Int) < (b.length : Int)) = false ∧ (er != 0) = false ∧ decide ((60 : Int) < (l.length : Int)) = true) := by
      by_cases h1 : 1500 < b.length
      · exact .inl (decide_eq_true (by omega))
      · by_cases h2 : er = 0
        · exact .inr (.inr ⟨decide_eq_false (by omega), by simp [bne, h2], decide_eq_true (by omega)⟩)
        · exact .inr (.inl ⟨decide_eq_false (by omega), by simp [bne, h2]⟩)
    clear hbig
    rcases hcs with d1 | ⟨d1, d2⟩ | ⟨d1, d2, d3⟩
    all_goals
      go_wp2_with fail
      refine (Haw.out _).mono ?_
      rintro _ w2 ⟨rfl, hb2⟩
      go_wp2_with fail
      go_ret
      exact ⟨rfl, Hb1.out.trans (hb2.mono Hb1.out.size)⟩
  · have d1 : decide ((1500 : Int) < (b.length : Int)) = false := decide_eq_false (by omega)
    have he0 : er = 0 := by omega
    have hl60 : l.length ≤ 60 := by omega
    have d2 : (er != 0) = false := by simp [bne, he0]
    have d3 : decide ((60 : Int) < (l.length : Int)) = false := decide_eq_false (by omega)
    have hb15 : b.length ≤ 1500 := by omega
    have htr := tread_any w1 A c b ((Hby.out.below Hb1.out).more Hb1.out.size) (by omega)
    rw [← HR.out, ← Hlx.out, ← Her.out, ← Hln.out, he0] at htr
    have hwt : ∀ x ∈ l, x.wt ≠ 0 := by rw [Hlx.out, HR.out]; exact readE_wt _ _ _ (fun x h => by simp at h)
    have Htr := Lib.hid htr
    have Hwt := Lib.hid hwt
    clear hbig htr hwt he0 Her
    go_wp2_with fail
    refine Htr.out.mono ?_
    rintro _ w2 ⟨v2, rfl, ho2, hb2⟩
    have hgo := gof_any w2 v2 l (ho2.rowLt.mono (fun _ h => h) (fun _ h => h.elim)) (by omega)
    have Hgo := Lib.hid hgo
    have Hb2 := Lib.hid (Hb1.out.trans (hb2.mono Hb1.out.size))
    clear hgo ho2 hb2 Htr
    go_wp2_with fail
    refine Hgo.out.mono ?_
    rintro _ w3 ⟨hb3, (⟨⟨q, hq, h0⟩, rfl⟩ | ⟨_, L, hp, hs, (⟨hm, rfl⟩ | ⟨Rw, g, hm, rfl, hgs, hG⟩)⟩)⟩
    · exact absurd h0 (Hwt.out q hq)
    · have Hb3 := Lib.hid (Hb2.out.trans (hb3.mono Hb2.out.size))
      clear hb3 hm hp hs
      go_wp2_with fail
      refine (Haw.out _).mono ?_
      rintro _ w4 ⟨rfl, hb4⟩
      go_wp2_with fail
      go_ret
      exact ⟨rfl, Hb3.out.trans (hb4.mono Hb3.out.size)⟩
    · have hok := mrow_ok l L Rw hp (Hwt.out) hs hm
      have hgd := hok.good (by omega)
      have hal : (arcsR Rw v).length ≤ 60 := Nat.le_trans (hok.alen v) hl60
      have hga := garcs_any w3 w3.heap.size g Rw v hG (Nat.le_refl _) hgd.len hgd.up (hgd.al v)
      have hnb := hgd.row v
      obtain ⟨arcs, har⟩ : ∃ arcs, arcs = arcsR Rw v := ⟨_, rfl⟩
      rw [← har] at hal hga hnb
      have Hga := Lib.hid hga
      have Hnb := Lib.hid hnb
      have Hb3 := Lib.hid (Hb2.out.trans (hb3.mono Hb2.out.size))
      clear hb3 hm hp hs hok hgd hga hnb har hG hgs Hgo
      go_wp2_with fail
      refine Hga.out.mono ?_
      rintro _ w4 ⟨va, rfl, hoa, hb4⟩
      have hA4 : ByA w4 w4.heap.size va arcs := hoa.rowLt.mono (fun _ h => h) (fun _ h => h.elim)
      have HA4 := Lib.hid hA4
      have Hb4 := Lib.hid (Hb3.out.trans (hb4.mono Hb3.out.size))
      have htot := ptotal_any w4 w4.heap.size va arcs (by omega) hA4 (Nat.le_refl _)
      have hts := ptotal_small arcs (by omega)
      have Htot := Lib.hid htot
      have Hts := Lib.hid hts
      clear hoa hA4 hb4 htot hts Hga Hb3
      go_wp2_with fail
      refine Htot.out.mono ?_
      rintro _ w5 ⟨rfl, hb5⟩
      have HA5 := Lib.hid ((HA4.out.below hb5).more hb5.size)
      have Hb5 := Lib.hid (Hb4.out.trans (hb5.mono Hb4.out.size))
      clear hb5 Htot HA4
      by_cases hbig2 : ptotal arcs ≤ x ∨ ptotal arcs ≤ y
      · have hcs : decide (ptotal arcs ≤ x) = true ∨ (decide (ptotal arcs ≤ x) = false ∧ decide (ptotal arcs ≤ y) = true) := by
          by_cases h1 : ptotal arcs ≤ x
          · exact .inl (decide_eq_true h1)
          · exact .inr ⟨decide_eq_false h1, decide_eq_true (by omega)⟩
        have hiv := interval_any w5 w5.heap.size va arcs (ptotal arcs) Hts.out (by omega) HA5.out (Nat.le_refl _)
        have hin : ival arcs (ptotal arcs) = (0, false) := by unfold ival; rw [if_neg (by omega)]
        rw [hin] at hiv
        have Hiv := Lib.hid hiv
        clear hbig2 hiv hin
        generalize ptotal arcs = tot at *
        rcases hcs with e1 | ⟨e1, e2⟩
        all_goals
          go_wp2_with fail
          refine Hiv.out.mono ?_
          rintro _ w6 ⟨rfl, hb6⟩
          go_wp2_with fail
          refine (Haw.out _).mono ?_
          rintro _ w7 ⟨rfl, hb7⟩
          go_wp2_with fail
          go_ret
          exact ⟨rfl, (Hb5.out.trans (hb6.mono Hb5.out.size)).trans (hb7.mono (Nat.le_trans Hb5.out.size hb6.size))⟩
      · have hxt : x < ptotal arcs := by omega
        have hyt : y < ptotal arcs := by omega
        have hnb : nbrs arcs = true := by
          rcases Hnb.out with h | h
          · rw [h] at hxt
            exact absurd hxt (by simp [ptotal_nbrs, nbrs])
          · exact h
        have hgs := (gmay_parts.1 (nbrs_gmay hnb).1).2
        have hmy := btab_may arcs (by omega) hnb hgs
        have hbl := btab_len arcs (by omega) hgs
        obtain ⟨a, b2, k, f1, f2, f3, f4, f5, f6, f7, f8⟩ := map_facts hmy (by omega) hxt hyt
        have hbu := build_any w5 w5.heap.size va arcs (by omega) HA5.out (Nat.le_refl _) hnb
        have hr1 := fun (W : World) (B : Nat) (vt : Value) (h : ByA W B va arcs) (h2 : ByC W B vt (btab arcs)) (hB : B ≤ W.heap.size) => remap_any W B va vt arcs (btab arcs) x hx (by omega) (by omega) h h2 hB
        have hr2 := fun (W : World) (B : Nat) (vt : Value) (h : ByA W B va arcs) (h2 : ByC W B vt (btab arcs)) (hB : B ≤ W.heap.size) => remap_any W B va vt arcs (btab arcs) y hy (by omega) (by omega) h h2 hB
        have hr3 := fun (W : World) (B : Nat) (vt : Value) (h : ByA W B va arcs) (h2 : ByC W B vt (btab arcs)) (hB : B ≤ W.heap.size) => palias_any W B B va vt arcs (btab arcs) x hx (by omega) (by omega) h h2 hB hB
        have hr4 := fun (W : World) (B : Nat) (h : ByA W B va arcs) (hB : B ≤ W.heap.size) => interval_any W B va arcs a (by have := Hts.out; omega) (by omega) h hB
        have hr5 := fun (W : World) (B : Nat) (vt : Value) (h : ByA W B va arcs) (h2 : ByC W B vt (btab arcs)) (hB : B ≤ W.heap.size) => back_any W B va vt arcs (btab arcs) a (by have := Hts.out; omega) (by omega) (by omega) h h2 hB
        rw [f1] at hr1
        rw [f2] at hr2
        rw [f3] at hr3
        rw [f4] at hr4
        rw [f5] at hr5
        have d4 : decide (ptotal arcs ≤ x) = false := decide_eq_false (by omega)
        have d5 : decide (ptotal arcs ≤ y) = false := decide_eq_false (by omega)
        have d6 : decide (a < ptotal arcs) = true := decide_eq_true f6
        have d7 : decide (b2 < ptotal arcs) = true := decide_eq_true f7
        have d8 : ((((a : Int)) == (b2 : Int)) = true ∧ (((x : Int)) == (y : Int)) = true) ∨ ((((a : Int)) == (b2 : Int)) = false ∧ (((x : Int)) == (y : Int)) = false) := by
          by_cases h : x = y
          · exact .inl ⟨by rw [f8.2 h]; simp, by rw [h]; simp⟩
          · exact .inr ⟨beq_eq_false_iff_ne.2 fun e => h (f8.1 (by omega)), beq_eq_false_iff_ne.2 fun e => h (by omega)⟩
        have Hbu := Lib.hid hbu
        have Hr1 := Lib.hid hr1
        have Hr2 := Lib.hid hr2
        have Hr3 := Lib.hid hr3
        have Hr4 := Lib.hid hr4
        have Hr5 := Lib.hid hr5
        have D8 := Lib.hid d8
        clear hbig2 hxt hyt hnb hgs hmy hbl f1 f2 f3 f4 f5 f6 f7 f8 hbu hr1 hr2 hr3 hr4 hr5 d8 Hnb
        generalize ptotal arcs = tot at *
        generalize btab arcs = tb at *
        go_wp2_with fail
        refine Hbu.out.mono ?_
        rintro _ w6 ⟨vt, rfl, hot, hb6⟩
        have HA6 := Lib.hid ((HA5.out.below hb6).more hb6.size)
        have HT6 := Lib.hid (show ByC w6 w6.heap.size vt tb from hot.rowLt.mono (fun _ h => h) (fun _ h => h.elim))
        have Hb6 := Lib.hid (Hb5.out.trans (hb6.mono Hb5.out.size))
        clear hot hb6 Hbu HA5 Hb5
        go_wp2_with fail
        refine (Hr1.out w6 _ vt HA6.out HT6.out (Nat.le_refl _)).mono ?_
        rintro _ w7 ⟨rfl, hb7⟩
        have HA7 := Lib.hid ((HA6.out.below hb7).more hb7.size)
        have HT7 := Lib.hid ((HT6.out.below hb7).more hb7.size)
        have Hb7 := Lib.hid (Hb6.out.trans (hb7.mono Hb6.out.size))
        clear hb7 HA6 HT6 Hb6
        go_wp2_with fail
        refine (Hr2.out w7 _ vt HA7.out HT7.out (Nat.le_refl _)).mono ?_
        rintro _ w8 ⟨rfl, hb8⟩
        have HA8 := Lib.hid ((HA7.out.below hb8).more hb8.size)
        have HT8 := Lib.hid ((HT7.out.below hb8).more hb8.size)
        have Hb8 := Lib.hid (Hb7.out.trans (hb8.mono Hb7.out.size))
        clear hb8 HA7 HT7 Hb7
        go_wp2_with fail
        refine (Hr3.out w8 _ vt HA8.out HT8.out (Nat.le_refl _)).mono ?_
        rintro _ w9 ⟨rfl, hb9⟩
        have HA9 := Lib.hid ((HA8.out.below hb9).more hb9.size)
        have HT9 := Lib.hid ((HT8.out.below hb9).more hb9.size)
        have Hb9 := Lib.hid (Hb8.out.trans (hb9.mono Hb8.out.size))
        clear hb9 HA8 HT8 Hb8
        go_wp2_with fail
        refine (Hr4.out w9 _ HA9.out (Nat.le_refl _)).mono ?_
        rintro _ w10 ⟨rfl, hb10⟩
        have HA10 := Lib.hid ((HA9.out.below hb10).more hb10.size)
        have HT10 := Lib.hid ((HT9.out.below hb10).more hb10.size)
        have Hb10 := Lib.hid (Hb9.out.trans (hb10.mono Hb9.out.size))
        clear hb10 HA9 HT9 Hb9
        go_wp2_with fail
        refine (Hr5.out w10 _ vt HA10.out HT10.out (Nat.le_refl _)).mono ?_
        rintro _ w11 ⟨rfl, hb11⟩
        have Hb11 := Lib.hid (Hb10.out.trans (hb11.mono Hb10.out.size))
        clear hb11 HA10 HT10 Hb10
        rcases D8.out with ⟨q1, q2⟩ | ⟨q1, q2⟩
        all_goals
          go_wp2_with fail
          refine (Haw.out _).mono ?_
          rintro _ w12 ⟨rfl, hb12⟩
          go_wp2_with fail
          go_ret
          exact ⟨rfl, Hb11.out.trans (hb12.mono Hb11.out.size)⟩
end Go.Proofs.YtcffeepgfjpcaaaGreat

namespace Go.Proofs.YtcffeepgfjpcaaaGreat
set_option linter.unusedVariables false

theorem bulk_one {H : Type} (d : DataW H) : 1 ≤ Rows.uptoBulk d := by
  cases d with
  | lit l => cases l <;> simp [Rows.uptoBulk]
  | _ => simp [Rows.uptoBulk]
theorem bulk_all {H : Type} (l : List (DataW H)) : l.length ≤ Rows.uptoBulkAll l := by
  induction l with
  | nil => simp [Rows.uptoBulkAll]
  | cons x r ih => have := bulk_one x; simp only [Rows.uptoBulkAll, List.length_cons]; omega
theorem bulk_len {H : Type} {enc : TypeId × Value → H} {w : World} {T e : TypeId} (ht : Tryz.prog.underlying T = some (.slice e)) {A : Option Addr} {n c : Nat} {d : DataW H} {p : List MemPlace} {ds gs : List (DataW H)}
    (h : DataW.Trod enc Tryz.prog w 0 (fun _ => true) true T (.slice A n c) d p) (hk : Rows.uptoSmall H (d :: ds ++ gs) = true) : n ≤ 1048576 := by
  have hb : Rows.uptoBulkAll (d :: (ds ++ gs)) ≤ 1048576 := of_decide_eq_true hk
  simp only [Rows.uptoBulkAll] at hb
  obtain ⟨m, h⟩ := h
  rcases DataW.trod_slice ht h with ⟨h0, _⟩ | ⟨a, len, cap, elems, rest, n2, q1, q2, q3, q4, hl, hm, hlen, hel, q5⟩
  · simp [Value.cells] at h0
    omega
  · injection q3 with q3 _
    have e : n = len := by
      simp [Value.cells] at q2
      exact q2.2.1
    have h1 := bulk_all (elems.map (·.1))
    rw [List.length_map, hlen] at h1
    rw [q3] at hb
    simp only [Rows.uptoBulk] at hb
    omega
end Go.Proofs.YtcffeepgfjpcaaaGreat

namespace Go.Proofs.YtcffeepgfjpcaaaGreat.topMapped
open Go.Proofs.YtcffeepgfjpcaaaGreat
open Go.ChangeShapes Go.WideShapes Go.ChangeAt Go.RowKit
set_option linter.unusedVariables false
set_option linter.unusedSimpArgs false

theorem own : ownKnob Tryz.prog.godebug = none := by kernel_rfl
theorem laidOut : laidOutB Tryz.prog = true := by kernel_rfl

set_option maxRecDepth 100000 in
theorem walk (v0 v1 v2 v3 : Value) (w : World) (h0 : InC w 40 [v0]) (h1 : InC w 24 [v1]) (h2 : InC w 23 [v2]) (h3 : InC w 23 [v3]) (hn : ∀ A n c, v0 = .slice A n c → n ≤ 1048576) :
    Calls Tryz.prog 6 #[v0, v1, v2, v3] w fun e w' => e = .returned (.bool true) ∧ Below w.heap.size w w' := by
  obtain ⟨b, hb⟩ := h0.bytes
  obtain ⟨v, e1, _⟩ := InC.u32 (S := fun _ => True) Tryz.underlying24 h1
  obtain ⟨x, e2, _⟩ := InC.u64 (S := fun _ => True) Tryz.underlying23 h2
  obtain ⟨y, e3, _⟩ := InC.u64 (S := fun _ => True) Tryz.underlying23 h3
  injection e1 with e1
  injection e2 with e2
  injection e3 with e3
  subst e1; subst e2; subst e3
  obtain ⟨A, c, rfl, _⟩ := id hb
  exact tmapped_walk w A c b hb (hn A _ c rfl) v x.toNat y.toNat x.toNat_lt y.toNat_lt

set_option maxRecDepth 100000 in
theorem lifted (os : Os) (started : os.Started) (H : Type) (enc : TypeId × Value → H) (Fi : Stop.Interp) :
    ReturnsInHanded {} Tryz.checked os 6 .any ((Rows.OpenSpec.upto Rows.topMappedSpec).pre6 enc Tryz.prog Tryz.f6 Rows.topMappedUptoRow.domain false) (((Rows.OpenSpec.upto Rows.topMappedSpec).at Fi).post enc Tryz.prog Tryz.f6 false true false false) := by
  refine returnsInHanded_of_cond (C := Tryz.checked) (s := Rows.OpenSpec.upto Rows.topMappedSpec) (k := Rows.uptoSmall) rfl own started (by kernel_rfl) Tryz.func6
    (OpenSpec.witness (enc := enc) (C := Tryz.checked) (s := Rows.OpenSpec.upto Rows.topMappedSpec) (k := Rows.uptoSmall) rfl false ⟨#[], #[.slice none 0 0, .int .u32 0, .int .u64 0, .int .u64 0], []⟩ 8 (by kernel_rfl) (by kernel_rfl) (by kernel_rfl)
      (x := ([.nil, .lit (.int .u32 0), .lit (.int .u64 0), .lit (.int .u64 0)], [], [])) (by kernel_rfl) rfl (by kernel_rfl)) ?_
  intro W base args ds gs before hval0 hW _ hk _
  have hval : ∀ (j : Nat) t v, Tryz.f6.params[j]? = some t → args[j]? = some v → Value.okWide Tryz.prog W .any base t v := hval0
  have hW' := hW
  obtain ⟨p, q, hA0, hV, rfl, hfz, hnd⟩ := hW
  have hA : DataW.TrodAll enc Tryz.prog W 0 (fun _ => true) true Tryz.f6.params.toList args.toList ds p := hA0
  rw [Tryz.params6] at hA hval
  obtain ⟨v0, vs0, d0, ds0, p0, q0, hargs, rfl, rfl, h0, r0⟩ := trodAll_cons hA
  obtain ⟨v1, vs1, d1, ds1, p1, q1, rfl, rfl, rfl, h1, r1⟩ := trodAll_cons r0
  obtain ⟨v2, vs2, d2, ds2, p2, q2, rfl, rfl, rfl, h2, r2⟩ := trodAll_cons r1
  obtain ⟨v3, vs3, d3, ds3, p3, q3, rfl, rfl, rfl, h3, r3⟩ := trodAll_cons r2
  obtain ⟨rfl, rfl, rfl⟩ := trodAll_nil r3
  obtain rfl : args = #[v0, v1, v2, v3] := by cases args; simp_all
  obtain ⟨rfl, rfl⟩ := trodVars_none hV
  have k0 := h0
  have lt0 : ∀ x ∈ p0, x.block < W.heap.size := by obtain ⟨m, hm⟩ := k0; exact DataW.trod_lt m _ _ _ hm
  have i0 := InC.of h0
  obtain ⟨a0, len0, cap0, rfl⟩ := okWide_slice Tryz.underlying40 (hval 0 40 v0 rfl rfl)
  have j0 : InC W 40 [_] := i0
  have k1 := h1
  have lt1 : ∀ x ∈ p1, x.block < W.heap.size := by obtain ⟨m, hm⟩ := k1; exact DataW.trod_lt m _ _ _ hm
  have i1 := InC.of h1
  obtain ⟨a1, rfl⟩ := okWide_int Tryz.underlying24 (hval 1 24 v1 rfl rfl)
  have j1 : InC W 24 [_] := i1
  have k2 := h2
  have lt2 : ∀ x ∈ p2, x.block < W.heap.size := by obtain ⟨m, hm⟩ := k2; exact DataW.trod_lt m _ _ _ hm
  have i2 := InC.of h2
  obtain ⟨a2, rfl⟩ := okWide_int Tryz.underlying23 (hval 2 23 v2 rfl rfl)
  have j2 : InC W 23 [_] := i2
  have k3 := h3
  have lt3 : ∀ x ∈ p3, x.block < W.heap.size := by obtain ⟨m, hm⟩ := k3; exact DataW.trod_lt m _ _ _ hm
  have i3 := InC.of h3
  obtain ⟨a3, rfl⟩ := okWide_int Tryz.underlying23 (hval 3 23 v3 rfl rfl)
  have j3 : InC W 23 [_] := i3
  clear hA0 hval0
  have hb0 := bulk_len (e := 5) Tryz.underlying40 h0 hk
  refine (walk _ _ _ _ W j0 j1 j2 j3 (fun A n c e => by injection e with _ e2 _; subst e2; exact hb0)).mono fun e W' ⟨he, bel⟩ => ?_
  subst he
  exact ⟨_, rfl, _, _, _, [], _, [], hW', trodAll_mk1 (shut_bool Tryz.underlying4 _), (trodAll_cons_mk (Below.trod laidOut (by kernel_rfl) (of_decide_eq_true (by kernel_rfl)) k0 bel lt0) (trodAll_cons_mk (Below.trod laidOut (by kernel_rfl) (of_decide_eq_true (by kernel_rfl)) k1 bel lt1) (trodAll_cons_mk (Below.trod laidOut (by kernel_rfl) (of_decide_eq_true (by kernel_rfl)) k2 bel lt2) (trodAll_cons_mk (Below.trod laidOut (by kernel_rfl) (of_decide_eq_true (by kernel_rfl)) k3 bel lt3) trodAll_mk0)))), rfl, bel.frame _, fun h => by cases h⟩

theorem over : Rows.topMappedUptoRow.holds Tryz.pinned (Rows.OpenSpec.upto Rows.topMappedSpec) :=
  OpenClaim.holds_of_cond 6 Tryz.f6 rfl rfl rfl rfl rfl rfl rfl ⟨rfl, rfl, rfl, rfl, rfl⟩ rfl rfl rfl rfl rfl (by kernel_rfl) Tryz.func6 (by kernel_rfl)
    (of_decide_eq_true (by kernel_rfl)) (by unfold Func.isWrapper; first | (rw [if_pos (by decide +kernel)]; kernel_rfl) | (rw [if_neg (by decide +kernel)]; exact ⟨rfl, rfl⟩))
    (fun os started H enc _ Fi => lifted os started H enc Fi)

theorem proved : Rows.TopMappedUptoSaid := over
#print axioms proved
end Go.Proofs.YtcffeepgfjpcaaaGreat.topMapped
