/- The document's disks: Good, Read, New, deed (printed by wip/gen/rdisk2.py) -/
import Derived.Test.YtpoicbhbkabllaaRDisk
namespace Go.Proofs.Ytpoicbhbkabllaa
set_option linter.unusedSimpArgs false
set_option linter.unusedVariables false
open Go.RowKit

theorem readRE_off {m : RD} {i : Int} (h : m.off = true) : readRE m i = 6 := by unfold readRE; rw [if_pos h]
theorem readRE_in {m : RD} {i : Int} (h : m.off = false) (hi : 0 ≤ i ∧ i < m.count) : readRE m i = 0 := by unfold readRE; rw [if_neg (by simp [h]), if_pos hi]
theorem readRE_out {m : RD} {i : Int} (h : m.off = false) (hi : ¬ (0 ≤ i ∧ i < m.count)) : readRE m i = 9 := by unfold readRE; rw [if_neg (by simp [h]), if_neg hi]
theorem readRL_no {m : RD} {i : Int} (h : readRE m i ≠ 0) : readRL m i = [] := by unfold readRL; rw [if_pos h]
theorem readRL_yes {m : RD} {i : Int} (h : readRE m i = 0) : readRL m i = lastR m.wait i (goodR m i) := by unfold readRL; rw [if_neg (by simp [h])]
theorem BoxAt.blw {T : TypeId} {w w' : World} {g : Nat} {cs : List Value} (h : BoxAt T w g cs) (hb : Below w.heap.size w w') : BoxAt T w' g cs := h.below h.lt hb
set_option maxRecDepth 100000 in
set_option maxHeartbeats 1600000 in
theorem rgood (w : World) (O : Nat → Prop) (v : Value) (m : RD) (i : Int) (hO : ∀ k, O k → k < w.heap.size) (hl : m.made.length ≤ 1000000) (h : RDV w O v m) :
    Calls Try.prog 49 #[v, .int .i64 i] w fun e w' => e = .returned (.string (bst (goodR m i))) ∧ Below w.heap.size w w' := by
  obtain ⟨v1, v2, rfl, h1, h2, h3, h4⟩ := h
  have hb0 := balloc w (.cells #[.int .i64 m.count, .bool m.off, .int .i64 m.fuse, v1, v2] 42)
  have hbx := BoxAt.new_ 42 w [.int .i64 m.count, .bool m.off, .int .i64 m.fuse, v1, v2]
  have hz : w.heap.size < (w.alloc (.cells #[.int .i64 m.count, .bool m.off, .int .i64 m.fuse, v1, v2] 42)).heap.size := by simp
  have Hb0 := Lib.hid hb0
  have Hbx := Lib.hid hbx
  have H1 := Lib.hid (h1.below hb0 hO)
  have HO := Lib.hid hO
  clear hb0 hbx h1 h2 h3 h4 hO
  go_enter Try.func49, Try.ntmps49
  go_wp2_with fail
  generalize w.alloc (.cells #[.int .i64 m.count, .bool m.off, .int .i64 m.fuse, v1, v2] 42) = w1 at *
  refine wp_region_typed [some 5, some 6, some 7, some 8, some 9, some 4] [5, 6, 7, 8, 9, 4]
    [Ph.is (.pointer (some ⟨w.heap.size, 3, none⟩)),
      Ph.is (v1),
      Ph.is (.int .i64 i),
      Ph.is (.string (bst zerosL)),
      Ph.is (.string (bst (goodR m i))),
      Ph.is (.string (bst (goodR m i)))] rfl rfl (by kernel_rfl) (by kernel_rfl) ?_ ?_
  · refine ⟨?_, ?_, ?_, ?_, ?_, ?_, trivial⟩
    · -- 0: slot 5 := Op.fieldAddr 42 t2 3
      refine ob_yes fun f w' hb hp => ?_
      simp [PreOf, factOf, valOf, Ph.is, Ph.by_, Ph.any, Region.binds] at hp
      refine ⟨by simp [Gd, valOf, hp], ?_⟩
      refine mild_val (.pointer (some ⟨w.heap.size, 3, none⟩)) ?_ rfl
      simp [execOp, evalF, hp, go_sem]
    · -- 1: slot 6 := Op.load 40 t5
      refine ob_yes fun f w' hb hp => ?_
      simp [PreOf, factOf, valOf, Ph.is, Ph.by_, Ph.any, Region.binds] at hp
      refine ⟨by simp [Gd, valOf, hp], ?_⟩
      refine mild_val v1 ?_ rfl
      have hc := (Hbx.out.blw hb).cell 3 _ rfl
      simp [execOp, evalF, hp, hc, go_sem]
    · -- 2: slot 7 := Op.move t1
      refine ob_yes fun f w' hb hp => ?_
      simp [PreOf, factOf, valOf, Ph.is, Ph.by_, Ph.any, Region.binds] at hp
      refine ⟨by simp [Gd, valOf, hp], ?_⟩
      refine mild_val (.int .i64 i) ?_ rfl
      simp [execOp, evalF, hp]
    · -- 3: slot 8 := Op.call   value (Operand.func 74), args := #[], argTypes := #[]  
      refine ob_yes fun f w' hb hp => ?_
      simp [PreOf, factOf, valOf, Ph.is, Ph.by_, Ph.any, Region.binds] at hp
      refine ⟨by simp [Gd, valOf, hp], ?_⟩
      refine mild_call 74 _ _ Try.f74 Try.func74 (by kernel_rfl) (by kernel_rfl) rfl ?_
      simp [evalF, hp, Ph.is, Ph.by_, Ph.any]
      refine (rzeros w').mono fun ev w2 h => ?_
      obtain ⟨rfl, h2⟩ := h
      first | exact ⟨_, rfl, h2, rfl⟩ | exact ⟨rfl, h2⟩ | simpa using h2
    · -- 4: slot 9 := Op.call   value (Operand.func 48), args := #[t6, t7, t8], argTypes := #[40, 3, 9]  
      refine ob_yes fun f w' hb hp => ?_
      simp [PreOf, factOf, valOf, Ph.is, Ph.by_, Ph.any, Region.binds] at hp
      refine ⟨by simp [Gd, valOf, hp], ?_⟩
      refine mild_call 48 _ _ Try.f48 Try.func48 (by kernel_rfl) (by kernel_rfl) rfl ?_
      simp [evalF, hp, Ph.is, Ph.by_, Ph.any]
      refine (rlast w' _ v1 m.made i zerosL hl (H1.out.below hb (fun k hk => Nat.lt_trans (HO.out k hk) hz))).mono fun ev w2 h => ?_
      obtain ⟨rfl, rfl⟩ := h
      first | exact ⟨_, rfl, Below.refl _ _, rfl⟩ | exact ⟨rfl, Below.refl _ _⟩ | exact Below.refl _ _ | simpa using Below.refl _ _
    · -- 5: slot 4 := Op.assign t9
      refine ob_yes fun f w' hb hp => ?_
      simp [PreOf, factOf, valOf, Ph.is, Ph.by_, Ph.any, Region.binds] at hp
      refine ⟨by simp [Gd, valOf, hp], ?_⟩
      refine mild_val (.string (bst (goodR m i))) ?_ rfl
      simp [execOp, evalF, hp]
  · intro f w2 hb2 hp
    simp only [PostOf, Ph.is, Ph.by_, Ph.any] at hp
    obtain ⟨h0, h1, h2, h3, h4, h5, _⟩ := hp
    simp only [fills, List.foldl_cons, List.foldl_nil, Act.put, List.setIfInBounds_toArray, List.set_cons_zero, List.set_cons_succ, h0, h1, h2, h3, h4, h5]
    clear h0 h1 h2 h3 h4 h5
    have hb3 := Hb0.out.trans (hb2.mono (by omega))
    go_wp2_with fail
    go_ret
    exact ⟨rfl, hb3⟩
set_option maxRecDepth 100000 in
set_option maxHeartbeats 1600000 in
theorem rread (w : World) (O : Nat → Prop) (v : Value) (m : RD) (i : Int) (hO : ∀ k, O k → k < w.heap.size) (hl : m.made.length ≤ 1000000) (hl2 : m.wait.length ≤ 1000000) (h : RDV w O v m) :
    Calls Try.prog 25 #[v, .int .i64 i] w fun e w' => e = .returned (.tuple #[.string (bst (readRL m i)), .int .i64 (readRE m i)]) ∧ Below w.heap.size w w' := by
  obtain ⟨cn, of, fu, md, wt⟩ := m
  simp only at hl hl2
  have Hv := Lib.hid h
  obtain ⟨v1, v2, rfl, h1, h2, h3, h4⟩ := h
  simp only at h1 h2 h3 h4
  have hb0 := balloc w (.cells #[.int .i64 cn, .bool of, .int .i64 fu, v1, v2] 42)
  have hbx := BoxAt.new_ 42 w [.int .i64 cn, .bool of, .int .i64 fu, v1, v2]
  have hz : w.heap.size < (w.alloc (.cells #[.int .i64 cn, .bool of, .int .i64 fu, v1, v2] 42)).heap.size := by simp
  have hc1 := hbx.cell 1 _ rfl
  have hc0 := hbx.cell 0 _ rfl
  have Hb0 := Lib.hid hb0
  have Hbx := Lib.hid hbx
  have H2 := Lib.hid (h2.below hb0 hO)
  have HO := Lib.hid hO
  have Hv1 := Lib.hid (Hv.out.below hb0 hO)
  clear hb0 hbx h1 h2 h3 h4 Hv hO
  dsimp only
  cases of with
  | true =>
    rw [readRE_off rfl, readRL_no (by rw [readRE_off rfl]; decide)]
    go_enter Try.func25, Try.ntmps25
    go_wp2_with fail
    go_ret2
    exact ⟨rfl, Hb0.out⟩
  | false =>
    by_cases hi : 0 ≤ i ∧ i < cn
    · rw [readRE_in rfl hi, readRL_yes (readRE_in rfl hi)]
      have hd1 : decide (i < 0) = false := decide_eq_false (by omega)
      have hd2 : decide (cn ≤ i) = false := decide_eq_false (by omega)
      clear hi
      go_enter Try.func25, Try.ntmps25
      go_wp2_with fail
      clear hc0 hc1
      generalize w.alloc (.cells #[.int .i64 cn, .bool false, .int .i64 fu, v1, v2] 42) = w1 at *
      refine wp_region_typed [some 16, some 17, some 18, some 19, some 20, some 21, some 22, some 4, some 5] [16, 17, 18, 19, 20, 21, 22, 4, 5]
        [Ph.is (.pointer (some ⟨w.heap.size, 4, none⟩)),
          Ph.is (v2),
          Ph.is (.int .i64 i),
          Ph.is (.agg #[.int .i64 cn, .bool false, .int .i64 fu, v1, v2]),
          Ph.is (.int .i64 i),
          Ph.is (.string (bst (goodR ⟨cn, false, fu, md, wt⟩ i))),
          Ph.is (.string (bst (lastR wt i (goodR ⟨cn, false, fu, md, wt⟩ i)))),
          Ph.is (.string (bst (lastR wt i (goodR ⟨cn, false, fu, md, wt⟩ i)))),
          Ph.is (.int .i64 0)] rfl rfl (by kernel_rfl) (by kernel_rfl) ?_ ?_
      · refine ⟨?_, ?_, ?_, ?_, ?_, ?_, ?_, ?_, ?_, trivial⟩
        · -- 0: slot 16 := Op.fieldAddr 42 t2 4
          refine ob_yes fun f w' hb hp => ?_
          simp [PreOf, factOf, valOf, Ph.is, Ph.by_, Ph.any, Region.binds] at hp
          refine ⟨by simp [Gd, valOf, hp], ?_⟩
          refine mild_val (.pointer (some ⟨w.heap.size, 4, none⟩)) ?_ rfl
          simp [execOp, evalF, hp, go_sem]
        · -- 1: slot 17 := Op.load 40 t16
          refine ob_yes fun f w' hb hp => ?_
          simp [PreOf, factOf, valOf, Ph.is, Ph.by_, Ph.any, Region.binds] at hp
          refine ⟨by simp [Gd, valOf, hp], ?_⟩
          refine mild_val v2 ?_ rfl
          have hc := (Hbx.out.blw hb).cell 4 _ rfl
          simp [execOp, evalF, hp, hc, go_sem]
        · -- 2: slot 18 := Op.move t1
          refine ob_yes fun f w' hb hp => ?_
          simp [PreOf, factOf, valOf, Ph.is, Ph.by_, Ph.any, Region.binds] at hp
          refine ⟨by simp [Gd, valOf, hp], ?_⟩
          refine mild_val (.int .i64 i) ?_ rfl
          simp [execOp, evalF, hp]
        · -- 3: slot 19 := Op.load 42 t2
          refine ob_yes fun f w' hb hp => ?_
          simp [PreOf, factOf, valOf, Ph.is, Ph.by_, Ph.any, Region.binds] at hp
          refine ⟨by simp [Gd, valOf, hp], ?_⟩
          refine mild_val (.agg #[.int .i64 cn, .bool false, .int .i64 fu, v1, v2]) ?_ rfl
          have hl := run_loadVar_cells w' ⟨w.heap.size, 0, none⟩ 42 [.int .i64 cn, .bool false, .int .i64 fu, v1, v2] (Hbx.out.blw hb).cells Try.underlying42 rfl (by kernel_rfl)
          simp only [execOp, evalF, List.contains_eq_mem, Instr.loadAt, Instr.sureAddr, Sem.run_bind, Sem.run_pure, Result.andThen_ok]
          simp [hp, hl]
        · -- 4: slot 20 := Op.move t1
          refine ob_yes fun f w' hb hp => ?_
          simp [PreOf, factOf, valOf, Ph.is, Ph.by_, Ph.any, Region.binds] at hp
          refine ⟨by simp [Gd, valOf, hp], ?_⟩
          refine mild_val (.int .i64 i) ?_ rfl
          simp [execOp, evalF, hp]
        · -- 5: slot 21 := Op.call   value (Operand.func 49), args := #[t19, t20], argTypes := #[42, 3]  
          refine ob_yes fun f w' hb hp => ?_
          simp [PreOf, factOf, valOf, Ph.is, Ph.by_, Ph.any, Region.binds] at hp
          refine ⟨by simp [Gd, valOf, hp], ?_⟩
          refine mild_call 49 _ _ Try.f49 Try.func49 (by kernel_rfl) (by kernel_rfl) rfl ?_
          simp [evalF, hp, Ph.is, Ph.by_, Ph.any]
          refine (rgood w' _ _ ⟨cn, false, fu, md, wt⟩ i (fun k hk => Nat.lt_of_lt_of_le (Nat.lt_trans (HO.out k hk) hz) hb.size) hl (Hv1.out.below hb (fun k hk => Nat.lt_trans (HO.out k hk) hz))).mono fun ev w2 h => ?_
          obtain ⟨rfl, h2⟩ := h
          first | exact ⟨_, rfl, h2, rfl⟩ | exact ⟨rfl, h2⟩ | simpa using h2
        · -- 6: slot 22 := Op.call   value (Operand.func 48), args := #[t17, t18, t21], argTypes := #[40, 3, 9]  
          refine ob_yes fun f w' hb hp => ?_
          simp [PreOf, factOf, valOf, Ph.is, Ph.by_, Ph.any, Region.binds] at hp
          refine ⟨by simp [Gd, valOf, hp], ?_⟩
          refine mild_call 48 _ _ Try.f48 Try.func48 (by kernel_rfl) (by kernel_rfl) rfl ?_
          simp [evalF, hp, Ph.is, Ph.by_, Ph.any]
          refine (rlast w' _ v2 wt i (goodR ⟨cn, false, fu, md, wt⟩ i) hl2 (H2.out.below hb (fun k hk => Nat.lt_trans (HO.out k hk) hz))).mono fun ev w2 h => ?_
          obtain ⟨rfl, rfl⟩ := h
          first | exact ⟨_, rfl, Below.refl _ _, rfl⟩ | exact ⟨rfl, Below.refl _ _⟩ | exact Below.refl _ _ | simpa using Below.refl _ _
        · -- 7: slot 4 := Op.assign t22
          refine ob_yes fun f w' hb hp => ?_
          simp [PreOf, factOf, valOf, Ph.is, Ph.by_, Ph.any, Region.binds] at hp
          refine ⟨by simp [Gd, valOf, hp], ?_⟩
          refine mild_val (.string (bst (lastR wt i (goodR ⟨cn, false, fu, md, wt⟩ i)))) ?_ rfl
          simp [execOp, evalF, hp]
        · -- 8: slot 5 := Op.assign (const (0:i64))
          refine ob_yes fun f w' hb hp => ?_
          simp [PreOf, factOf, valOf, Ph.is, Ph.by_, Ph.any, Region.binds] at hp
          refine ⟨by simp [Gd, valOf, hp], ?_⟩
          refine mild_val (.int .i64 0) ?_ rfl
          simp [execOp, evalF, hp, go_sem]
      · intro f w2 hb2 hp
        simp only [PostOf, Ph.is, Ph.by_, Ph.any] at hp
        obtain ⟨h0, h1, h2, h3, h4, h5, h6, h7, h8, _⟩ := hp
        simp only [fills, List.foldl_cons, List.foldl_nil, Act.put, List.setIfInBounds_toArray, List.set_cons_zero, List.set_cons_succ, h0, h1, h2, h3, h4, h5, h6, h7, h8]
        clear h0 h1 h2 h3 h4 h5 h6 h7 h8
        have hb3 := Hb0.out.trans (hb2.mono (by omega))
        go_wp2_with fail
        go_ret2
        exact ⟨rfl, hb3⟩
    · rw [readRE_out rfl hi, readRL_no (by rw [readRE_out rfl hi]; decide)]
      by_cases hi0 : i < 0
      · have hd1 : decide (i < 0) = true := decide_eq_true hi0
        clear hi hi0
        go_enter Try.func25, Try.ntmps25
        go_wp2_with fail
        go_ret2
        exact ⟨rfl, Hb0.out⟩
      · have hd1 : decide (i < 0) = false := decide_eq_false hi0
        have hd2 : decide (cn ≤ i) = true := decide_eq_true (by omega)
        clear hi hi0
        go_enter Try.func25, Try.ntmps25
        go_wp2_with fail
        go_ret2
        exact ⟨rfl, Hb0.out⟩
end Go.Proofs.Ytpoicbhbkabllaa
