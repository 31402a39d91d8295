/- pick.pieces: an iterator over the pieces of a neighbour -/
import Derived.Test.YteakeefocnjlhaaFront
namespace Go.Proofs.Yteakeefocnjlhaa
set_option linter.unusedSimpArgs false
set_option linter.unusedVariables false
open Go.RowKit Go.Shelf
attribute [local go_sem] Oper.semAt_some

/-- the pieces of a cell -/
def pcA (S to i : Nat) (c : GCell) : List (Nat × Nat) := if i = to ∧ 0 < c.cut.toNat then [(i * S, c.cut.toNat)] else []
def pcB (S to i : Nat) (c : GCell) : List (Nat × Nat) := if c.oth.toNat = to ∧ c.cut.toNat < S then [(i * S + c.cut.toNat, S - c.cut.toNat)] else []
def pc1 (S to i : Nat) (c : GCell) : List (Nat × Nat) := pcA S to i c ++ pcB S to i c
/-- the pieces of the cells from number o on -/
def pcs (S to : Nat) : Nat → List GCell → List (Nat × Nat)
  | _, [] => []
  | o, c :: r => pc1 S to o c ++ pcs S to (o + 1) r
theorem pcs_append (S to : Nat) : ∀ (a b : List GCell) (o : Nat), pcs S to o (a ++ b) = pcs S to o a ++ pcs S to (o + a.length) b
  | [], b, o => by simp [pcs]
  | c :: r, b, o => by
    simp only [List.cons_append, pcs, pcs_append S to r b (o + 1), List.length_cons, List.append_assoc]
    rw [show o + 1 + r.length = o + (r.length + 1) from by omega]
theorem pcs_snoc (S to : Nat) (t : List GCell) (k : Nat) (hk : k < t.length) : pcs S to 0 (t.take (k + 1)) = pcs S to 0 (t.take k) ++ pc1 S to k t[k] := by
  rw [List.take_add_one, List.getElem?_eq_getElem hk, Option.toList_some, pcs_append, List.length_take, Nat.min_eq_left (by omega), Nat.zero_add]
  simp [pcs]
theorem pcs_rest (S to : Nat) (t : List GCell) (k : Nat) (hk : k < t.length) : pcs S to 0 t = pcs S to 0 (t.take k) ++ pc1 S to k t[k] ++ pcs S to (k + 1) (t.drop (k + 1)) := by
  rw [← pcs_snoc S to t k hk]
  have := pcs_append S to (t.take (k + 1)) (t.drop (k + 1)) 0
  rw [List.take_append_drop, List.length_take, Nat.min_eq_left (by omega), Nat.zero_add] at this
  exact this

set_option maxRecDepth 100000 in
set_option maxHeartbeats 1000000 in
theorem pieces_in (F : Fence) (n : Nat) (h1 : F.fn 75) (hro : F.round = none) (A : Option Addr) (len cap : Nat) (S to : Int) (w : World) :
    CallsIn F n Try.prog 75 #[.slice A len cap, .int .u64 S, .int .i64 to] w fun e w' => e = .returned (.func (.func 86) #[] #[.pointer (some ⟨w.heap.size, 0, none⟩), .pointer (some ⟨w.heap.size + 1, 0, none⟩), .pointer (some ⟨w.heap.size + 1 + 1, 0, none⟩)]) ∧
      w' = ((w.alloc (.cells #[.slice A len cap] 67)).alloc (.cells #[.int .u64 S] 26)).alloc (.cells #[.int .i64 to] 3) := by
  refine callsIn_of_wp Try.func75 rfl h1 ?_ hro
  simp only [Try.ntmps75, List.size_toArray, List.length_cons, List.length_nil, Nat.reduceAdd, Nat.reduceSub, Array.replicate_succ, Array.replicate_zero, List.push_toArray, List.append_toArray, List.nil_append, List.cons_append]
  gi_wp2
  go_ret
  exact ⟨rfl, rfl⟩

def encP (x : Nat × Nat) : Array Value := #[.agg #[.int .u64 (x.1 : Int), .int .u64 (x.2 : Int)]]

set_option maxRecDepth 100000 in
set_option maxHeartbeats 6400000 in
theorem pieces1_in (F : Fence) (n : Nat) (h7 : F.fn 86) (hro : F.round = none) (hn : 1 ≤ n) (l Bs B0 : Nat) (B : Nat → Prop) (A : Option Addr) (cap : Nat) (t : List GCell) (S to : Nat) (hl : t.length ≤ 1048576) (hS : S ≤ 2147483647) (hok : ∀ c ∈ t, c.cut.toNat ≤ S) (hto : to < 1048576) (J Jx : List (Nat × Nat) → World → Prop)
    (hBs : ∀ j, j < 3 → ¬ B (Bs + j)) (hBB : ∀ k, B k → B0 ≤ k)
    (hY : ∀ pre x W, J pre W → pre.length < (pcs S to 0 t).length → YieldAt F (n - 1) Try.prog l (encP x) W fun e W' =>
      (e = .returned (.bool true) ∧ J (pre ++ [x]) W' ∧ Kp B W W') ∨ (e = .returned (.bool false) ∧ Jx (pre ++ [x]) W'))
    (W : World) (hBW : ∀ k, B k → k < W.heap.size) (hJ : AbidesFrom W.heap.size J) (hc0 : W.cell? ⟨Bs, 0, none⟩ = some (.slice A t.length cap)) (hc1 : W.cell? ⟨Bs + 1, 0, none⟩ = some (.int .u64 (S : Int))) (hc2 : W.cell? ⟨Bs + 1 + 1, 0, none⟩ = some (.int .i64 (to : Int))) (hrow : ByC W B0 (.slice A t.length cap) t) (h0 : J [] W) :
    CallsIn F n Try.prog 86 #[.func (.yield l) #[] #[], .pointer (some ⟨Bs, 0, none⟩), .pointer (some ⟨Bs + 1, 0, none⟩), .pointer (some ⟨Bs + 1 + 1, 0, none⟩)] W fun e W' => (∃ v, e = .returned v) ∧
      ((∃ ys, ys = pcs S to 0 t ∧ J ys W') ∨ (∃ pre, pre <+: pcs S to 0 t ∧ Jx pre W')) := by
  obtain ⟨_, hl1, hl2⟩ := hrow.len_
  unfold maxLen at hl2
  have hB0' := hBs 0 (by omega)
  have hB1' := hBs 1 (by omega)
  have hB2' : ¬ B (Bs + 1 + 1) := hBs 2 (by omega)
  rw [Nat.add_zero] at hB0'
  have hsn := pcs_snoc S to t
  have hre := pcs_rest S to t
  have Hsn := Lib.hid hsn
  have Hre := Lib.hid hre
  have Hok := Lib.hid hok
  clear hsn hre hok hBs
  refine callsIn_of_wp Try.func86 rfl h7 ?_ hro
  simp only [Try.ntmps86, List.size_toArray, List.length_cons, List.length_nil, Nat.reduceAdd, Nat.reduceSub, Array.replicate_succ, Array.replicate_zero, List.push_toArray, List.append_toArray, List.nil_append, List.cons_append]
  gi_wp2
  gi_loopw [10] (fun i wr => ∃ k : Nat, k ≤ t.length ∧ i = .int .i64 k ∧ J (pcs S to 0 (t.take k)) wr ∧ Kp B W wr ∧ W.heap.size ≤ wr.heap.size)
    (fun i _ => t.length - (intOf i).toNat)
  case atStart => exact ⟨0, Nat.zero_le _, rfl, h0, Kp.refl _ _, Nat.le_refl _⟩
  case round =>
    obtain ⟨k, hk, rfl, hJs, hkp, hsz⟩ := hrel
    have Hkp := Lib.hid hkp
    by_cases hlt : k < t.length
    · obtain ⟨ad, rfl, hab, hx0, hx1⟩ := (hkp.byC hBB hrow).cells k hlt
      have hcu := Hok.out _ (List.getElem_mem hlt)
      have hot := u32_lt (t[k]).oth
      have hsnk := Hsn.out k hlt
      have hrek := Hre.out k hlt
      unfold pc1 pcA pcB at hsnk hrek
      generalize (t[k]).cut.toNat = cut at *
      generalize (t[k]).oth.toNat = oth at *
      have hm2 : k * S ≤ 1048576 * 2147483647 := Nat.mul_le_mul (by omega) hS
      have hmul : IntKind.u64.wrap ((k : Int) * (S : Int)) = ((k * S : Nat) : Int) := by
        rw [← Int.natCast_mul, wrap_u64]; omega
      have Hsnk := Lib.hid hsnk
      have Hrek := Lib.hid hrek
      clear hsnk hrek
      generalize hP : k * S = p at *
      clear hP
      have hbx := BoxAt.new_ 83 wr [.int .u64 (cut : Int), .int .u32 (oth : Int)]
      have Hbx := Lib.hid hbx
      have hd0 := hkp.cell hc0 hB0'
      have hd1 := hkp.cell hc1 hB1'
      have hd2 := hkp.cell hc2 hB2'
      have hJ1 : J (pcs S to 0 (t.take k)) (wr.alloc (.cells #[.int .u64 (cut : Int), .int .u32 (oth : Int)] 83)) := hJ _ _ _ none hJs (World.grownBy_alloc wr _ none) (fun r e => by cases e)
      have hk1 := Lib.hid (hkp.trans (Kp.alloc B wr (.cells #[.int .u64 (cut : Int), .int .u32 (oth : Int)] 83)))
      have hsz1 : W.heap.size ≤ (wr.alloc (.cells #[.int .u64 (cut : Int), .int .u32 (oth : Int)] 83)).heap.size := hk1.out.size
      have hgc : ¬ B wr.heap.size := fun hb => by have := hBW _ hb; omega
      have hJ1' := Lib.hid hJ1
      have hka := (Kp.alloc B wr (.cells #[.int .u64 (cut : Int), .int .u32 (oth : Int)] 83))
      have he1 := hka.cell hd1 hB1'
      have he2 := hka.cell hd2 hB2'
      have he0 := hka.cell hd0 hB0'
      clear hkp hbx hJs hJ1 hka
      have hlenK := Lib.hid hlt
      have hsub : IntKind.u64.wrap ((S : Int) - (cut : Int)) = ((S - cut : Nat) : Int) := by rw [wrap_u64]; omega
      have ecast : ((p + cut : Nat) : Int) = (p : Int) + (cut : Int) := by omega
      by_cases hA : k = to ∧ 0 < cut
      · obtain ⟨hA1, hA2⟩ := hA
        have hA3 : ((k : Int) == (to : Int)) = true := by simp [hA1]
        have hA4 : decide (0 < cut) = true := decide_eq_true hA2
        obtain ⟨fn, tmps, assign, body, hy, hR⟩ := hY _ (p, cut) _ hJ1'.out (by rw [Hrek.out, if_pos ⟨hA1, hA2⟩]; simp only [List.length_append, List.length_cons, List.length_nil]; omega)
        dsimp only [encP] at hy
        have HA : Hid (k = to ∧ 0 < cut) := ⟨hA1, hA2⟩
        clear hA1 hA2
        gi_wp2
        refine hR.mono ?_
        clear hR hy
        rintro e W3 (⟨rfl, hJ3, hk3⟩ | ⟨rfl, hJx3⟩)
        · have Hbx3 := Lib.hid (hk3.box hgc Hbx.out)
          have hw0 := Hbx3.out.cell 0 _ rfl
          have hw1 := Hbx3.out.cell 1 _ rfl
          have hf1 := hk3.cell he1 hB1'
          have hf2 := hk3.cell he2 hB2'
          have Hk3 := Lib.hid (hk1.out.trans hk3)
          have hsz3 : W.heap.size ≤ W3.heap.size := Hk3.out.size
          have HJ3 := Lib.hid hJ3
          clear hk3 hJ3 he0 he1 he2 hx0 hx1 hd0 hd1 hd2
          by_cases hBc : oth = to ∧ cut < S
          · obtain ⟨hB1, hB2⟩ := hBc
            have hB3 : ((oth : Int) == (to : Int)) = true := by simp [hB1]
            have hB4 : decide (cut < S) = true := decide_eq_true hB2
            obtain ⟨fn, tmps, assign, body, hy, hR⟩ := hY _ (p + cut, S - cut) _ HJ3.out (by rw [Hrek.out, if_pos HA.out, if_pos ⟨hB1, hB2⟩]; simp only [List.length_append, List.length_cons, List.length_nil]; omega)
            dsimp only [encP] at hy
            rw [ecast] at hy
            have HB : Hid (oth = to ∧ cut < S) := ⟨hB1, hB2⟩
            clear hB1 hB2
            gi_wp2
            refine hR.mono ?_
            clear hR hy
            rintro e W4 (⟨rfl, hJ4, hk4⟩ | ⟨rfl, hJx4⟩)
            · have HJ4 := Lib.hid hJ4
              have Hk4 := Lib.hid (Hk3.out.trans hk4)
              have hsz4 : W.heap.size ≤ W4.heap.size := Hk4.out.size
              clear hk4 hJ4 hw0 hw1 hf1 hf2
              gi_wp2
              go_roundw
              case rel => exact ⟨k + 1, by omega, by go_num, by rw [Hsnk.out, if_pos HA.out, if_pos HB.out]; simpa using HJ4.out, Hk4.out, hsz4⟩
              case measure => simp [intOf]; omega
            · gi_wp2
              refine bodyPost_ret (results_none rfl _ _ _) rfl ?_
              exact ⟨⟨_, rfl⟩, .inr ⟨_, ⟨pcs S to (k + 1) (t.drop (k + 1)), by rw [Hrek.out, if_pos HA.out, if_pos HB.out]; simp⟩, hJx4⟩⟩
          · have hB1 : ((oth : Int) == (to : Int)) = false ∨ (((oth : Int) == (to : Int)) = true ∧ decide (cut < S) = false) := by
              by_cases h : oth = to
              · right; exact ⟨by simp [h], decide_eq_false (fun h2 => hBc ⟨h, h2⟩)⟩
              · left; exact beq_eq_false_iff_ne.2 (by omega)
            have HB := Lib.hid hBc
            clear hBc
            rcases hB1 with hB1 | ⟨hB1, hB2⟩
            all_goals
              gi_wp2
              try (refine ⟨fun _ h => (by cases h), ?_⟩; gi_wp2)
              go_roundw
              case rel => exact ⟨k + 1, by omega, by go_num, by rw [Hsnk.out, if_pos HA.out, if_neg HB.out]; simpa using HJ3.out, Hk3.out, hsz3⟩
              case measure => simp [intOf]; omega
        · gi_wp2
          refine bodyPost_ret (results_none rfl _ _ _) rfl ?_
          exact ⟨⟨_, rfl⟩, .inr ⟨_, ⟨(if oth = to ∧ cut < S then [(p + cut, S - cut)] else []) ++ pcs S to (k + 1) (t.drop (k + 1)), by rw [Hrek.out, if_pos HA.out]; simp⟩, hJx3⟩⟩
      · have hA1 : ((k : Int) == (to : Int)) = false ∨ (((k : Int) == (to : Int)) = true ∧ decide (0 < cut) = false) := by
          by_cases h : k = to
          · right; exact ⟨by simp [h], decide_eq_false (fun h2 => hA ⟨h, h2⟩)⟩
          · left; exact beq_eq_false_iff_ne.2 (by omega)
        have HA := Lib.hid hA
        clear hA
        by_cases hBc : oth = to ∧ cut < S
        · obtain ⟨hB1, hB2⟩ := hBc
          have hB3 : ((oth : Int) == (to : Int)) = true := by simp [hB1]
          have hB4 : decide (cut < S) = true := decide_eq_true hB2
          obtain ⟨fn, tmps, assign, body, hy, hR⟩ := hY _ (p + cut, S - cut) _ hJ1'.out (by rw [Hrek.out, if_neg HA.out, if_pos ⟨hB1, hB2⟩]; simp only [List.length_append, List.length_cons, List.length_nil]; omega)
          dsimp only [encP] at hy
          rw [ecast] at hy
          have HB : Hid (oth = to ∧ cut < S) := ⟨hB1, hB2⟩
          clear hB1 hB2
          rcases hA1 with hA1 | ⟨hA1, hA2⟩
          all_goals
            gi_wp2
            try (refine ⟨fun _ h => (by cases h), ?_⟩; gi_wp2)
            refine hR.mono ?_
            clear hR hy
            rintro e W4 (⟨rfl, hJ4, hk4⟩ | ⟨rfl, hJx4⟩)
            · have HJ4 := Lib.hid hJ4
              have Hk4 := Lib.hid (hk1.out.trans hk4)
              have hsz4 : W.heap.size ≤ W4.heap.size := Hk4.out.size
              clear hk4 hJ4 he0 he1 he2 hx0 hx1 hd0 hd1 hd2
              gi_wp2
              go_roundw
              case rel => exact ⟨k + 1, by omega, by go_num, by rw [Hsnk.out, if_neg HA.out, if_pos HB.out]; simpa using HJ4.out, Hk4.out, hsz4⟩
              case measure => simp [intOf]; omega
            · gi_wp2
              refine bodyPost_ret (results_none rfl _ _ _) rfl ?_
              exact ⟨⟨_, rfl⟩, .inr ⟨_, ⟨pcs S to (k + 1) (t.drop (k + 1)), by rw [Hrek.out, if_neg HA.out, if_pos HB.out]; simp⟩, hJx4⟩⟩
        · have hB1 : ((oth : Int) == (to : Int)) = false ∨ (((oth : Int) == (to : Int)) = true ∧ decide (cut < S) = false) := by
            by_cases h : oth = to
            · right; exact ⟨by simp [h], decide_eq_false (fun h2 => hBc ⟨h, h2⟩)⟩
            · left; exact beq_eq_false_iff_ne.2 (by omega)
          have hnew : J (pcs S to 0 (t.take (k + 1))) (wr.alloc (.cells #[.int .u64 (cut : Int), .int .u32 (oth : Int)] 83)) := by
            rw [Hsnk.out, if_neg HA.out, if_neg hBc]; simpa using hJ1'.out
          have Hnew := Lib.hid hnew
          clear hnew hBc
          rcases hA1 with hA1 | ⟨hA1, hA2⟩ <;> rcases hB1 with hB1 | ⟨hB1, hB2⟩
          all_goals
            gi_wp2
            try (refine ⟨fun _ h => (by cases h), ?_⟩; gi_wp2)
            try (refine ⟨fun _ h => (by cases h), ?_⟩; gi_wp2)
            go_roundw
            case rel => exact ⟨k + 1, by omega, by go_num, Hnew.out, hk1.out, hsz1⟩
            case measure => simp [intOf]; omega
    · obtain rfl : k = t.length := by omega
      rw [List.take_length] at hJs
      clear hkp
      gi_wp2
      go_end0
      exact ⟨⟨_, rfl⟩, .inl ⟨_, rfl, hJs⟩⟩
end Go.Proofs.Yteakeefocnjlhaa
