/- palmerref09.file, palmerref09.May (printed by wip/gen/manf.py) -/
import Derived.Test.YtpoicbhbkabllaaManW
namespace Go.Proofs.Ytpoicbhbkabllaa
set_option linter.unusedSimpArgs false
set_option linter.unusedVariables false
open Go.RowKit

theorem blocksOk_succ (prev : List MFile) (l : List Int) (a : Nat) : blocksOk prev l (a + 1) = (blocksOk prev l a && blockOk prev l a) := by
  unfold blocksOk
  rw [List.range_succ, List.all_append]
  simp
theorem blocksOk_false (prev : List MFile) (l : List Int) (a : Nat) (h : blocksOk prev l (a + 1) = false) (n : Nat) (ha : a < n) : blocksOk prev l n = false := by
  unfold blocksOk at h ⊢
  rw [List.all_eq_false] at h ⊢
  obtain ⟨x, hx, hx2⟩ := h
  exact ⟨x, by simp at hx ⊢; omega, hx2⟩
theorem blockOk_eq (prev : List MFile) (l : List Int) (a : Nat) (ha : a < l.length) : blockOk prev l a = (!(decide (l[a] < 32) || decide (65536 ≤ l[a]) || decide (l[a] ∈ l.take a)) && prev.all fun p => !decide (l[a] ∈ p.blocks)) := by
  unfold blockOk
  rw [List.getD_eq_getElem?_getD, List.getElem?_eq_getElem ha]
  rfl
set_option maxRecDepth 100000 in
set_option maxHeartbeats 6400000 in
theorem rfile_any (w : World) (v : Value) (m : MMan) (h : MAt w w.heap.size v m) (i : Nat) (hi : i < m.files.length) :
    Calls Try.prog 51 #[v, .int .i64 i] w fun e w' => e = .returned (.bool (fileR m.next (m.files.take i) m.files[i])) ∧ Below w.heap.size w w' := by
  obtain ⟨vf, rfl, hf⟩ := h
  obtain ⟨A, c, rfl, hc1, hc2⟩ := hf.form
  unfold maxLen at hc2
  obtain ⟨_, ad, vb, rfl, hab, hbI, hfo, hcl⟩ := hf.cells i hi
  obtain ⟨Ab, cb, rfl, hcb1, hcb2⟩ := hbI.form
  unfold maxLen at hcb2
  have hnl := hfo.1
  unfold maxLen at hnl
  generalize hfk : m.files[i] = fl at *
  have hid := u32_lt fl.id
  have hnx := u32_lt m.next
  have hsz : (bst fl.name).size = fl.name.length := rfl
  obtain ⟨w1, hw1⟩ : ∃ w1, w1 = w.alloc (.cells (encM m (.slice (some ad) m.files.length c)).toArray 56) := ⟨_, rfl⟩
  obtain ⟨wf, hwf⟩ : ∃ wf, wf = w1.alloc (.cells (encF fl (.slice Ab fl.blocks.length cb)).toArray 62) := ⟨_, rfl⟩
  have hb1 : Below w.heap.size w w1 := by rw [hw1]; exact balloc w _
  have hbf : Below w1.heap.size w1 wf := by rw [hwf]; exact balloc w1 _
  have hx1 : BoxAt 56 w1 w.heap.size (encM m (.slice (some ad) m.files.length c)) := by rw [hw1]; exact BoxAt.new_ _ _ _
  have hxf : BoxAt 62 wf w1.heap.size (encF fl (.slice Ab fl.blocks.length cb)) := by rw [hwf]; exact BoxAt.new_ _ _ _
  have hz1 : w1.heap.size = w.heap.size + 1 := by rw [hw1]; simp
  have hzf : wf.heap.size = w.heap.size + 1 + 1 := by rw [hwf]; simp [hz1]
  have hb12 : Below w.heap.size w wf := bstep hb1 hbf
  have hcl1 : ∀ (j : Nat) (u : Value), (encF fl (.slice Ab fl.blocks.length cb))[j]? = some u → w1.cell? ((ad.add (i * 4)).add j) = some u := fun j u hu => (hb1.cell (by rw [add_block, add_block]; exact hab)).trans (hcl j u hu)
  have m2_1 := hx1.cell 2 _ rfl
  have Hw1 := Lib.hid hw1
  have Hwf := Lib.hid hwf
  have Xm := Lib.hid (hx1.blwM hbf)
  rw [hz1] at hxf
  have Xf := Lib.hid hxf
  have Hf := Lib.hid (hf.below hb12)
  have HbI := Lib.hid (hbI.below hb12)
  have Hb := Lib.hid hb12
  have Hcl := Lib.hid hcl1
  have Hfk := Lib.hid hfk
  clear hw1 hwf hx1 hxf hf hb1 hbf hb12 hcl hcl1 hbI hfk
  go_enter Try.func51, Try.ntmps51
  go_upto_region 1 with (fail)
  rw [← Hw1.out]
  go_upto_region 2 with (first
    | (refine wpList_load_agg rfl 62 (.tmp 12) rfl (ad.add (i * 4)) rfl (encF fl (.slice Ab fl.blocks.length cb)) Hcl.out Try.underlying62 rfl info_file4 ?_)
    | (refine wpList_alloc_z rfl 62 rfl info_file zeroFc zeroF_cells ?_)
    | (refine wpList_store_new rfl 62 (.tmp 5) (.tmp 13) rfl zeroFc (encF fl (.slice Ab fl.blocks.length cb)) rfl rfl info_file4 rfl (encF_one _ _ rfl) ?_))
  simp only [Act.put, List.setIfInBounds_toArray, List.set_cons_zero, List.set_cons_succ]
  rw [← Hwf.out]
  simp only [hz1]
  clear m2_1 Hcl Hw1 Hwf
  have hbas : basicF m.next fl = !(decide (fl.name.length < 1) || decide (32 < fl.name.length) || decide (m.next.toNat ≤ fl.id.toNat) || decide (fl.size < 0) || decide (manyOf fl.size ≠ (fl.blocks.length : Int))) := rfl
  obtain ⟨b1, hb1⟩ : ∃ b, b = decide (fl.name.length < 1) := ⟨_, rfl⟩
  obtain ⟨b2, hq2⟩ : ∃ b, b = decide (32 < fl.name.length) := ⟨_, rfl⟩
  obtain ⟨b3, hb3⟩ : ∃ b, b = decide (m.next.toNat ≤ fl.id.toNat) := ⟨_, rfl⟩
  obtain ⟨b4, hb4⟩ : ∃ b, b = decide (fl.size < 0) := ⟨_, rfl⟩
  obtain ⟨b5, hb5⟩ : ∃ b, b = decide (manyOf fl.size ≠ (fl.blocks.length : Int)) := ⟨_, rfl⟩
  rw [← hb1, ← hq2, ← hb3, ← hb4, ← hb5] at hbas
  have B1 := Lib.hid hb1
  have B2 := Lib.hid hq2
  have B3 := Lib.hid hb3
  have B4 := Lib.hid hb4
  have B5 := Lib.hid hb5
  have Hbas := Lib.hid hbas
  clear hb1 hq2 hb3 hb4 hb5 hbas
  refine wp_region_typed [some 14, some 15, some 16, some 17, some 18, some 19, some 20, some 21, some 22, some 23, some 24, some 25, some 26, some 27, some 28, some 29, some 30, some 31, some 32, some 33, some 34, some 35, some 36, some 37, some 38, some 39, some 40, some 41, some 42, some 43, some 44] [14, 15, 16, 17, 18, 19, 20, 21, 22, 23, 24, 25, 26, 27, 28, 29, 30, 31, 32, 33, 34, 35, 36, 37, 38, 39, 40, 41, 42, 43, 44]
    [Ph.is (.pointer (some ⟨w.heap.size + 1, 0, none⟩)),
      Ph.is (.string (bst fl.name)),
      Ph.is (.int .i64 (fl.name.length : Int)),
      Ph.is (.bool b1),
      Ph.is (.bool (b1)),
      Ph.is (bif b1 then undef else .pointer (some ⟨w.heap.size + 1, 0, none⟩)),
      Ph.is (bif b1 then undef else .string (bst fl.name)),
      Ph.is (bif b1 then undef else .int .i64 (fl.name.length : Int)),
      Ph.is (bif b1 then undef else .bool b2),
      Ph.is (.bool (b1 || b2)),
      Ph.is (.bool ((b1 || b2))),
      Ph.is (bif (b1 || b2) then undef else .pointer (some ⟨w.heap.size + 1, 1, none⟩)),
      Ph.is (bif (b1 || b2) then undef else .int .u32 (fl.id.toNat : Int)),
      Ph.is (bif (b1 || b2) then undef else .pointer (some ⟨w.heap.size, 1, none⟩)),
      Ph.is (bif (b1 || b2) then undef else .int .u32 (m.next.toNat : Int)),
      Ph.is (bif (b1 || b2) then undef else .bool b3),
      Ph.is (.bool (b1 || b2 || b3)),
      Ph.is (.bool ((b1 || b2 || b3))),
      Ph.is (bif (b1 || b2 || b3) then undef else .pointer (some ⟨w.heap.size + 1, 2, none⟩)),
      Ph.is (bif (b1 || b2 || b3) then undef else .int .i64 fl.size),
      Ph.is (bif (b1 || b2 || b3) then undef else .bool b4),
      Ph.is (.bool (b1 || b2 || b3 || b4)),
      Ph.is (.bool ((b1 || b2 || b3 || b4))),
      Ph.is (bif (b1 || b2 || b3 || b4) then undef else .pointer (some ⟨w.heap.size + 1, 2, none⟩)),
      Ph.is (bif (b1 || b2 || b3 || b4) then undef else .int .i64 fl.size),
      Ph.is (bif (b1 || b2 || b3 || b4) then undef else .int .i64 (manyOf fl.size)),
      Ph.is (bif (b1 || b2 || b3 || b4) then undef else .pointer (some ⟨w.heap.size + 1, 3, none⟩)),
      Ph.is (bif (b1 || b2 || b3 || b4) then undef else .slice Ab fl.blocks.length cb),
      Ph.is (bif (b1 || b2 || b3 || b4) then undef else .int .i64 (fl.blocks.length : Int)),
      Ph.is (bif (b1 || b2 || b3 || b4) then undef else .bool b5),
      Ph.is (.bool (b1 || b2 || b3 || b4 || b5))] rfl rfl (by kernel_rfl) (by kernel_rfl) ?_ ?_
  · refine ⟨?_, ?_, ?_, ?_, ?_, ?_, ?_, ?_, ?_, ?_, ?_, ?_, ?_, ?_, ?_, ?_, ?_, ?_, ?_, ?_, ?_, ?_, ?_, ?_, ?_, ?_, ?_, ?_, ?_, ?_, ?_, trivial⟩
    · -- 0: slot 14 := Op.fieldAddr 62 t5 0
      refine ob_yes fun f w' hb hp => ?_
      simp [PreOf, factOf, valOf, Ph.is, Ph.any, Region.binds] at hp
      refine ⟨by simp [Gd, valOf, hp], ?_⟩
      refine mild_val (.pointer (some ⟨w.heap.size + 1, 0, none⟩)) ?_ (by simp [Ph.is])
      simp [execOp, evalF, hp, go_sem]
    · -- 1: slot 15 := Op.load 9 t14
      refine ob_yes fun f w' hb hp => ?_
      simp [PreOf, factOf, valOf, Ph.is, Ph.any, Region.binds] at hp
      refine ⟨by simp [Gd, valOf, hp], ?_⟩
      have hc := (Xf.out.blwM hb).cell 0 _ rfl
      refine mild_val (.string (bst fl.name)) ?_ (by simp [Ph.is])
      simp [execOp, evalF, hp, hc, go_sem]
    · -- 2: slot 16 := Op.call   builtin len, args := #[t15], argTypes := #[9]  
      refine ob_yes fun f w' hb hp => ?_
      simp [PreOf, factOf, valOf, Ph.is, Ph.any, Region.binds] at hp
      refine ⟨by simp [Gd, valOf, hp], ?_⟩
      refine mild_val (.int .i64 (fl.name.length : Int)) ?_ (by simp [Ph.is])
      simp [execOp, evalF, hp, go_sem, hsz]
    · -- 3: slot 17 := Op.binOp BinOp.lss 3 t16 (const (1:i64)) 3
      refine ob_yes fun f w' hb hp => ?_
      simp [PreOf, factOf, valOf, Ph.is, Ph.any, Region.binds] at hp
      refine ⟨by simp [Gd, valOf, hp], ?_⟩
      refine mild_val (.bool b1) ?_ (by simp [Ph.is])
      simp [execOp, evalF, hp, go_sem]
      first | done | (rw [B1.out]; try first | rfl | exact decide_eq_decide.2 (by omega) | (simp; done) | (simp <;> omega) | (simp <;> rfl))
    · -- 4: slot 18 := Op.move t17
      refine ob_yes fun f w' hb hp => ?_
      simp [PreOf, factOf, valOf, Ph.is, Ph.any, Region.binds] at hp
      refine ⟨by simp [Gd, valOf, hp], ?_⟩
      refine mild_val (.bool (b1)) ?_ (by simp [Ph.is])
      simp [execOp, evalF, hp, go_sem]
    · -- 5: slot 19 := Op.fieldAddr 62 t5 0
      cases hG : (b1) with
      | true =>
        refine ob_no fun f w' hb hp => ?_
        simp [PreOf, factOf, valOf, Ph.is, Ph.any, Region.binds, hG] at hp
        exact ⟨by simp [Gd, valOf, hp], by simp [Ph.is]⟩
      | false =>
        refine ob_yes fun f w' hb hp => ?_
        simp [PreOf, factOf, valOf, Ph.is, Ph.any, Region.binds, hG] at hp
        refine ⟨by simp [Gd, valOf, hp], ?_⟩
        refine mild_val (.pointer (some ⟨w.heap.size + 1, 0, none⟩)) ?_ (by simp [Ph.is, hG])
        simp [execOp, evalF, hp, go_sem, hG]
    · -- 6: slot 20 := Op.load 9 t19
      cases hG : (b1) with
      | true =>
        refine ob_no fun f w' hb hp => ?_
        simp [PreOf, factOf, valOf, Ph.is, Ph.any, Region.binds, hG] at hp
        exact ⟨by simp [Gd, valOf, hp], by simp [Ph.is]⟩
      | false =>
        refine ob_yes fun f w' hb hp => ?_
        simp [PreOf, factOf, valOf, Ph.is, Ph.any, Region.binds, hG] at hp
        refine ⟨by simp [Gd, valOf, hp], ?_⟩
        have hc := (Xf.out.blwM hb).cell 0 _ rfl
        refine mild_val (.string (bst fl.name)) ?_ (by simp [Ph.is, hG])
        simp [execOp, evalF, hp, hc, go_sem, hG]
    · -- 7: slot 21 := Op.call   builtin len, args := #[t20], argTypes := #[9]  
      cases hG : (b1) with
      | true =>
        refine ob_no fun f w' hb hp => ?_
        simp [PreOf, factOf, valOf, Ph.is, Ph.any, Region.binds, hG] at hp
        exact ⟨by simp [Gd, valOf, hp], by simp [Ph.is]⟩
      | false =>
        refine ob_yes fun f w' hb hp => ?_
        simp [PreOf, factOf, valOf, Ph.is, Ph.any, Region.binds, hG] at hp
        refine ⟨by simp [Gd, valOf, hp], ?_⟩
        refine mild_val (.int .i64 (fl.name.length : Int)) ?_ (by simp [Ph.is, hG])
        simp [execOp, evalF, hp, go_sem, hsz, hG]
    · -- 8: slot 22 := Op.binOp BinOp.gtr 3 t21 (const (32:i64)) 3
      cases hG : (b1) with
      | true =>
        refine ob_no fun f w' hb hp => ?_
        simp [PreOf, factOf, valOf, Ph.is, Ph.any, Region.binds, hG] at hp
        exact ⟨by simp [Gd, valOf, hp], by simp [Ph.is]⟩
      | false =>
        refine ob_yes fun f w' hb hp => ?_
        simp [PreOf, factOf, valOf, Ph.is, Ph.any, Region.binds, hG] at hp
        refine ⟨by simp [Gd, valOf, hp], ?_⟩
        refine mild_val (.bool b2) ?_ (by simp [Ph.is, hG])
        simp [execOp, evalF, hp, go_sem, hG]
        first | done | (rw [B2.out]; try first | rfl | exact decide_eq_decide.2 (by omega) | (simp; done) | (simp <;> omega) | (simp <;> rfl))
    · -- 9: slot 23 := Op.pick t18 (const (Value.bool true)) t22
      cases hG : (b1) with
      | true =>
        refine ob_yes fun f w' hb hp => ?_
        simp [PreOf, factOf, valOf, Ph.is, Ph.any, Region.binds, hG] at hp
        refine ⟨by simp [Gd, valOf, hp], ?_⟩
        refine mild_val (.bool (b1 || b2)) ?_ (by simp [Ph.is, hG])
        simp [execOp, evalF, hp, go_sem, hG]
      | false =>
        refine ob_yes fun f w' hb hp => ?_
        simp [PreOf, factOf, valOf, Ph.is, Ph.any, Region.binds, hG] at hp
        refine ⟨by simp [Gd, valOf, hp], ?_⟩
        refine mild_val (.bool (b1 || b2)) ?_ (by simp [Ph.is, hG])
        simp [execOp, evalF, hp, go_sem, hG]
    · -- 10: slot 24 := Op.move t23
      refine ob_yes fun f w' hb hp => ?_
      simp [PreOf, factOf, valOf, Ph.is, Ph.any, Region.binds] at hp
      refine ⟨by simp [Gd, valOf, hp], ?_⟩
      refine mild_val (.bool ((b1 || b2))) ?_ (by simp [Ph.is])
      simp [execOp, evalF, hp, go_sem]
    · -- 11: slot 25 := Op.fieldAddr 62 t5 1
      cases hG : ((b1 || b2)) with
      | true =>
        refine ob_no fun f w' hb hp => ?_
        simp [PreOf, factOf, valOf, Ph.is, Ph.any, Region.binds, hG] at hp
        exact ⟨by simp [Gd, valOf, hp], by simp [Ph.is]⟩
      | false =>
        refine ob_yes fun f w' hb hp => ?_
        simp [PreOf, factOf, valOf, Ph.is, Ph.any, Region.binds, hG] at hp
        refine ⟨by simp [Gd, valOf, hp], ?_⟩
        refine mild_val (.pointer (some ⟨w.heap.size + 1, 1, none⟩)) ?_ (by simp [Ph.is, hG])
        simp [execOp, evalF, hp, go_sem, hG]
    · -- 12: slot 26 := Op.load 53 t25
      cases hG : ((b1 || b2)) with
      | true =>
        refine ob_no fun f w' hb hp => ?_
        simp [PreOf, factOf, valOf, Ph.is, Ph.any, Region.binds, hG] at hp
        exact ⟨by simp [Gd, valOf, hp], by simp [Ph.is]⟩
      | false =>
        refine ob_yes fun f w' hb hp => ?_
        simp [PreOf, factOf, valOf, Ph.is, Ph.any, Region.binds, hG] at hp
        refine ⟨by simp [Gd, valOf, hp], ?_⟩
        have hc := (Xf.out.blwM hb).cell 1 _ rfl
        refine mild_val (.int .u32 (fl.id.toNat : Int)) ?_ (by simp [Ph.is, hG])
        simp [execOp, evalF, hp, hc, go_sem, hG]
    · -- 13: slot 27 := Op.fieldAddr 56 t2 1
      cases hG : ((b1 || b2)) with
      | true =>
        refine ob_no fun f w' hb hp => ?_
        simp [PreOf, factOf, valOf, Ph.is, Ph.any, Region.binds, hG] at hp
        exact ⟨by simp [Gd, valOf, hp], by simp [Ph.is]⟩
      | false =>
        refine ob_yes fun f w' hb hp => ?_
        simp [PreOf, factOf, valOf, Ph.is, Ph.any, Region.binds, hG] at hp
        refine ⟨by simp [Gd, valOf, hp], ?_⟩
        refine mild_val (.pointer (some ⟨w.heap.size, 1, none⟩)) ?_ (by simp [Ph.is, hG])
        simp [execOp, evalF, hp, go_sem, hG]
    · -- 14: slot 28 := Op.load 53 t27
      cases hG : ((b1 || b2)) with
      | true =>
        refine ob_no fun f w' hb hp => ?_
        simp [PreOf, factOf, valOf, Ph.is, Ph.any, Region.binds, hG] at hp
        exact ⟨by simp [Gd, valOf, hp], by simp [Ph.is]⟩
      | false =>
        refine ob_yes fun f w' hb hp => ?_
        simp [PreOf, factOf, valOf, Ph.is, Ph.any, Region.binds, hG] at hp
        refine ⟨by simp [Gd, valOf, hp], ?_⟩
        have hc := (Xm.out.blwM hb).cell 1 _ rfl
        refine mild_val (.int .u32 (m.next.toNat : Int)) ?_ (by simp [Ph.is, hG])
        simp [execOp, evalF, hp, hc, go_sem, hG]
    · -- 15: slot 29 := Op.binOp BinOp.geq 53 t26 t28 53
      cases hG : ((b1 || b2)) with
      | true =>
        refine ob_no fun f w' hb hp => ?_
        simp [PreOf, factOf, valOf, Ph.is, Ph.any, Region.binds, hG] at hp
        exact ⟨by simp [Gd, valOf, hp], by simp [Ph.is]⟩
      | false =>
        refine ob_yes fun f w' hb hp => ?_
        simp [PreOf, factOf, valOf, Ph.is, Ph.any, Region.binds, hG] at hp
        refine ⟨by simp [Gd, valOf, hp], ?_⟩
        refine mild_val (.bool b3) ?_ (by simp [Ph.is, hG])
        simp [execOp, evalF, hp, go_sem, hG]
        first | done | (rw [B3.out]; try first | rfl | exact decide_eq_decide.2 (by omega) | (simp; done) | (simp <;> omega) | (simp <;> rfl))
    · -- 16: slot 30 := Op.pick t24 (const (Value.bool true)) t29
      cases hG : ((b1 || b2)) with
      | true =>
        refine ob_yes fun f w' hb hp => ?_
        simp [PreOf, factOf, valOf, Ph.is, Ph.any, Region.binds, hG] at hp
        refine ⟨by simp [Gd, valOf, hp], ?_⟩
        refine mild_val (.bool (b1 || b2 || b3)) ?_ (by simp [Ph.is, hG])
        simp [execOp, evalF, hp, go_sem, hG]
      | false =>
        refine ob_yes fun f w' hb hp => ?_
        simp [PreOf, factOf, valOf, Ph.is, Ph.any, Region.binds, hG] at hp
        refine ⟨by simp [Gd, valOf, hp], ?_⟩
        refine mild_val (.bool (b1 || b2 || b3)) ?_ (by simp [Ph.is, hG])
        simp [execOp, evalF, hp, go_sem, hG]
    · -- 17: slot 31 := Op.move t30
      refine ob_yes fun f w' hb hp => ?_
      simp [PreOf, factOf, valOf, Ph.is, Ph.any, Region.binds] at hp
      refine ⟨by simp [Gd, valOf, hp], ?_⟩
      refine mild_val (.bool ((b1 || b2 || b3))) ?_ (by simp [Ph.is])
      simp [execOp, evalF, hp, go_sem]
    · -- 18: slot 32 := Op.fieldAddr 62 t5 2
      cases hG : ((b1 || b2 || b3)) with
      | true =>
        refine ob_no fun f w' hb hp => ?_
        simp [PreOf, factOf, valOf, Ph.is, Ph.any, Region.binds, hG] at hp
        exact ⟨by simp [Gd, valOf, hp], by simp [Ph.is]⟩
      | false =>
        refine ob_yes fun f w' hb hp => ?_
        simp [PreOf, factOf, valOf, Ph.is, Ph.any, Region.binds, hG] at hp
        refine ⟨by simp [Gd, valOf, hp], ?_⟩
        refine mild_val (.pointer (some ⟨w.heap.size + 1, 2, none⟩)) ?_ (by simp [Ph.is, hG])
        simp [execOp, evalF, hp, go_sem, hG]
    · -- 19: slot 33 := Op.load 3 t32
      cases hG : ((b1 || b2 || b3)) with
      | true =>
        refine ob_no fun f w' hb hp => ?_
        simp [PreOf, factOf, valOf, Ph.is, Ph.any, Region.binds, hG] at hp
        exact ⟨by simp [Gd, valOf, hp], by simp [Ph.is]⟩
      | false =>
        refine ob_yes fun f w' hb hp => ?_
        simp [PreOf, factOf, valOf, Ph.is, Ph.any, Region.binds, hG] at hp
        refine ⟨by simp [Gd, valOf, hp], ?_⟩
        have hc := (Xf.out.blwM hb).cell 2 _ rfl
        refine mild_val (.int .i64 fl.size) ?_ (by simp [Ph.is, hG])
        simp [execOp, evalF, hp, hc, go_sem, hG]
    · -- 20: slot 34 := Op.binOp BinOp.lss 3 t33 (const (0:i64)) 3
      cases hG : ((b1 || b2 || b3)) with
      | true =>
        refine ob_no fun f w' hb hp => ?_
        simp [PreOf, factOf, valOf, Ph.is, Ph.any, Region.binds, hG] at hp
        exact ⟨by simp [Gd, valOf, hp], by simp [Ph.is]⟩
      | false =>
        refine ob_yes fun f w' hb hp => ?_
        simp [PreOf, factOf, valOf, Ph.is, Ph.any, Region.binds, hG] at hp
        refine ⟨by simp [Gd, valOf, hp], ?_⟩
        refine mild_val (.bool b4) ?_ (by simp [Ph.is, hG])
        simp [execOp, evalF, hp, go_sem, hG]
        first | done | (rw [B4.out]; try first | rfl | exact decide_eq_decide.2 (by omega) | (simp; done) | (simp <;> omega) | (simp <;> rfl))
    · -- 21: slot 35 := Op.pick t31 (const (Value.bool true)) t34
      cases hG : ((b1 || b2 || b3)) with
      | true =>
        refine ob_yes fun f w' hb hp => ?_
        simp [PreOf, factOf, valOf, Ph.is, Ph.any, Region.binds, hG] at hp
        refine ⟨by simp [Gd, valOf, hp], ?_⟩
        refine mild_val (.bool (b1 || b2 || b3 || b4)) ?_ (by simp [Ph.is, hG])
        simp [execOp, evalF, hp, go_sem, hG]
      | false =>
        refine ob_yes fun f w' hb hp => ?_
        simp [PreOf, factOf, valOf, Ph.is, Ph.any, Region.binds, hG] at hp
        refine ⟨by simp [Gd, valOf, hp], ?_⟩
        refine mild_val (.bool (b1 || b2 || b3 || b4)) ?_ (by simp [Ph.is, hG])
        simp [execOp, evalF, hp, go_sem, hG]
    · -- 22: slot 36 := Op.move t35
      refine ob_yes fun f w' hb hp => ?_
      simp [PreOf, factOf, valOf, Ph.is, Ph.any, Region.binds] at hp
      refine ⟨by simp [Gd, valOf, hp], ?_⟩
      refine mild_val (.bool ((b1 || b2 || b3 || b4))) ?_ (by simp [Ph.is])
      simp [execOp, evalF, hp, go_sem]
    · -- 23: slot 37 := Op.fieldAddr 62 t5 2
      cases hG : ((b1 || b2 || b3 || b4)) with
      | true =>
        refine ob_no fun f w' hb hp => ?_
        simp [PreOf, factOf, valOf, Ph.is, Ph.any, Region.binds, hG] at hp
        exact ⟨by simp [Gd, valOf, hp], by simp [Ph.is]⟩
      | false =>
        refine ob_yes fun f w' hb hp => ?_
        simp [PreOf, factOf, valOf, Ph.is, Ph.any, Region.binds, hG] at hp
        refine ⟨by simp [Gd, valOf, hp], ?_⟩
        refine mild_val (.pointer (some ⟨w.heap.size + 1, 2, none⟩)) ?_ (by simp [Ph.is, hG])
        simp [execOp, evalF, hp, go_sem, hG]
    · -- 24: slot 38 := Op.load 3 t37
      cases hG : ((b1 || b2 || b3 || b4)) with
      | true =>
        refine ob_no fun f w' hb hp => ?_
        simp [PreOf, factOf, valOf, Ph.is, Ph.any, Region.binds, hG] at hp
        exact ⟨by simp [Gd, valOf, hp], by simp [Ph.is]⟩
      | false =>
        refine ob_yes fun f w' hb hp => ?_
        simp [PreOf, factOf, valOf, Ph.is, Ph.any, Region.binds, hG] at hp
        refine ⟨by simp [Gd, valOf, hp], ?_⟩
        have hc := (Xf.out.blwM hb).cell 2 _ rfl
        refine mild_val (.int .i64 fl.size) ?_ (by simp [Ph.is, hG])
        simp [execOp, evalF, hp, hc, go_sem, hG]
    · -- 25: slot 39 := Op.call   value (Operand.func 63), args := #[t38], argTypes := #[3]  
      cases hG : ((b1 || b2 || b3 || b4)) with
      | true =>
        refine ob_no fun f w' hb hp => ?_
        simp [PreOf, factOf, valOf, Ph.is, Ph.any, Region.binds, hG] at hp
        exact ⟨by simp [Gd, valOf, hp], by simp [Ph.is]⟩
      | false =>
        refine ob_yes fun f w' hb hp => ?_
        simp [PreOf, factOf, valOf, Ph.is, Ph.any, Region.binds, hG] at hp
        refine ⟨by simp [Gd, valOf, hp], ?_⟩
        refine mild_call 63 _ _ Try.f63 Try.func63 (by kernel_rfl) (by kernel_rfl) rfl ?_
        simp [evalF, hp, Ph.is, Ph.any, hG]
        refine (rmany_any w' fl.size hfo.2.1 hfo.2.2).mono fun ev w2 h => ?_
        obtain ⟨rfl, rfl⟩ := h
        first | exact ⟨_, rfl, Below.refl _ _, rfl⟩ | exact ⟨rfl, Below.refl _ _⟩ | exact Below.refl _ _ | simpa using Below.refl _ _
    · -- 26: slot 40 := Op.fieldAddr 62 t5 3
      cases hG : ((b1 || b2 || b3 || b4)) with
      | true =>
        refine ob_no fun f w' hb hp => ?_
        simp [PreOf, factOf, valOf, Ph.is, Ph.any, Region.binds, hG] at hp
        exact ⟨by simp [Gd, valOf, hp], by simp [Ph.is]⟩
      | false =>
        refine ob_yes fun f w' hb hp => ?_
        simp [PreOf, factOf, valOf, Ph.is, Ph.any, Region.binds, hG] at hp
        refine ⟨by simp [Gd, valOf, hp], ?_⟩
        refine mild_val (.pointer (some ⟨w.heap.size + 1, 3, none⟩)) ?_ (by simp [Ph.is, hG])
        simp [execOp, evalF, hp, go_sem, hG]
    · -- 27: slot 41 := Op.load 60 t40
      cases hG : ((b1 || b2 || b3 || b4)) with
      | true =>
        refine ob_no fun f w' hb hp => ?_
        simp [PreOf, factOf, valOf, Ph.is, Ph.any, Region.binds, hG] at hp
        exact ⟨by simp [Gd, valOf, hp], by simp [Ph.is]⟩
      | false =>
        refine ob_yes fun f w' hb hp => ?_
        simp [PreOf, factOf, valOf, Ph.is, Ph.any, Region.binds, hG] at hp
        refine ⟨by simp [Gd, valOf, hp], ?_⟩
        have hc := (Xf.out.blwM hb).cell 3 _ rfl
        refine mild_val (.slice Ab fl.blocks.length cb) ?_ (by simp [Ph.is, hG])
        simp [execOp, evalF, hp, hc, go_sem, hG]
    · -- 28: slot 42 := Op.call   builtin len, args := #[t41], argTypes := #[60]  
      cases hG : ((b1 || b2 || b3 || b4)) with
      | true =>
        refine ob_no fun f w' hb hp => ?_
        simp [PreOf, factOf, valOf, Ph.is, Ph.any, Region.binds, hG] at hp
        exact ⟨by simp [Gd, valOf, hp], by simp [Ph.is]⟩
      | false =>
        refine ob_yes fun f w' hb hp => ?_
        simp [PreOf, factOf, valOf, Ph.is, Ph.any, Region.binds, hG] at hp
        refine ⟨by simp [Gd, valOf, hp], ?_⟩
        refine mild_val (.int .i64 (fl.blocks.length : Int)) ?_ (by simp [Ph.is, hG])
        simp [execOp, evalF, hp, go_sem, hG]
    · -- 29: slot 43 := Op.binOp BinOp.neq 3 t39 t42 3
      cases hG : ((b1 || b2 || b3 || b4)) with
      | true =>
        refine ob_no fun f w' hb hp => ?_
        simp [PreOf, factOf, valOf, Ph.is, Ph.any, Region.binds, hG] at hp
        exact ⟨by simp [Gd, valOf, hp], by simp [Ph.is]⟩
      | false =>
        refine ob_yes fun f w' hb hp => ?_
        simp [PreOf, factOf, valOf, Ph.is, Ph.any, Region.binds, hG] at hp
        refine ⟨by simp [Gd, valOf, hp], ?_⟩
        refine mild_val (.bool b5) ?_ (by simp [Ph.is, hG])
        simp [execOp, evalF, hp, go_sem, hG]
        first | done | (rw [B5.out]; try first | rfl | exact decide_eq_decide.2 (by omega) | (simp; done) | (simp <;> omega) | (simp <;> rfl))
    · -- 30: slot 44 := Op.pick t36 (const (Value.bool true)) t43
      cases hG : ((b1 || b2 || b3 || b4)) with
      | true =>
        refine ob_yes fun f w' hb hp => ?_
        simp [PreOf, factOf, valOf, Ph.is, Ph.any, Region.binds, hG] at hp
        refine ⟨by simp [Gd, valOf, hp], ?_⟩
        refine mild_val (.bool (b1 || b2 || b3 || b4 || b5)) ?_ (by simp [Ph.is, hG])
        simp [execOp, evalF, hp, go_sem, hG]
      | false =>
        refine ob_yes fun f w' hb hp => ?_
        simp [PreOf, factOf, valOf, Ph.is, Ph.any, Region.binds, hG] at hp
        refine ⟨by simp [Gd, valOf, hp], ?_⟩
        refine mild_val (.bool (b1 || b2 || b3 || b4 || b5)) ?_ (by simp [Ph.is, hG])
        simp [execOp, evalF, hp, go_sem, hG]
  · intro f w2 hb2 hp
    simp only [PostOf, Ph.is, Ph.any] at hp
    obtain ⟨h0, h1, h2, h3, h4, h5, h6, h7, h8, h9, h10, h11, h12, h13, h14, h15, h16, h17, h18, h19, h20, h21, h22, h23, h24, h25, h26, h27, h28, h29, h30, _⟩ := hp
    simp only [fills, List.foldl_cons, List.foldl_nil, Act.put, List.setIfInBounds_toArray, List.set_cons_zero, List.set_cons_succ, h0, h1, h2, h3, h4, h9, h10, h16, h17, h21, h22, h30]
    clear h0 h1 h2 h3 h4 h9 h10 h16 h17 h21 h22 h30 h5 h6 h7 h8 h11 h12 h13 h14 h15 h18 h19 h20 h23 h24 h25 h26 h27 h28 h29
    generalize f 19 = v19
    generalize f 20 = v20
    generalize f 21 = v21
    generalize f 22 = v22
    generalize f 25 = v25
    generalize f 26 = v26
    generalize f 27 = v27
    generalize f 28 = v28
    generalize f 29 = v29
    generalize f 32 = v32
    generalize f 33 = v33
    generalize f 34 = v34
    generalize f 37 = v37
    generalize f 38 = v38
    generalize f 39 = v39
    generalize f 40 = v40
    generalize f 41 = v41
    generalize f 42 = v42
    generalize f 43 = v43
    have hb0 := Hb.out.trans (hb2.mono (by omega))
    have hbf : Below wf.heap.size wf w2 := hb2
    have Hb0 := Lib.hid hb0
    have Hb0' := Hb
    have Hbf := Lib.hid hbf
    clear hb0 hbf hb2
    cases hB : (b1 || b2 || b3 || b4 || b5) with
    | true =>
      rw [hB] at Hbas
      have hr : fileR m.next (m.files.take i) fl = false := by unfold fileR; rw [Hbas.out]; rfl
      have Hr := Lib.hid hr
      clear hr
      go_wp2_with fail
      go_ret
      exact ⟨by rw [Hr.out]; rfl, Hb0.out⟩
    | false =>
      rw [hB] at Hbas
      have hr : fileR m.next (m.files.take i) fl = ((m.files.take i).all (fun p => besideF p fl) && blocksOk (m.files.take i) fl.blocks fl.blocks.length) := by unfold fileR; rw [Hbas.out]; simp
      have Hr := Lib.hid hr
      clear hr
      go_wp2_with fail
      go_loopw [6] (fun iv wr => ∃ p : Nat, p ≤ i ∧ iv = .int .i64 p ∧ (m.files.take p).all (fun q => besideF q fl) = true ∧ Below wf.heap.size wf wr) (fun iv _ => i - (intOf iv).toNat)
      case atStart => exact ⟨0, by omega, rfl, rfl, Hbf.out⟩
      case round =>
        obtain ⟨p, hp0, rfl, hbes, hbr⟩ := hrel
        have Hbr := Lib.hid hbr
        clear hbr
        by_cases hlt : p < i
        · have hpl : p < m.files.length := by omega
          obtain ⟨_, ad', vp, e, hab', hpI, hpo, hcp⟩ := Hf.out.cells p hpl
          injection e with e
          subst e
          obtain ⟨Ap, cp, rfl, hcp1, hcp2⟩ := hpI.form
          have hsn : (m.files.take (p + 1)).all (fun q => besideF q fl) = besideF m.files[p] fl := by
            rw [List.take_add_one, List.getElem?_eq_getElem hpl, Option.toList_some, List.all_append, hbes]; simp
          have hin : besideF m.files[p] fl = false → (m.files.take i).all (fun q => besideF q fl) = false := fun h => by
            rw [List.all_eq_false]
            exact ⟨m.files[p], by rw [List.mem_take_iff_getElem]; exact ⟨p, by omega, rfl⟩, by rw [h]; simp⟩
          generalize hpk : m.files[p] = pf at *
          have hpid := u32_lt pf.id
          have Hsn := Lib.hid hsn
          have Hin := Lib.hid hin
          have Hcp := Lib.hid hcp
          have hbs : besideF pf fl = !(decide (pf.id = fl.id) || !(bless pf.name fl.name)) := rfl
          have hidc : decide ((pf.id.toNat : Int) = (fl.id.toNat : Int)) = decide (pf.id = fl.id) := decide_eq_decide.2 (by rw [← UInt32.toNat_inj]; omega)
          obtain ⟨c1, hc1⟩ : ∃ b, b = decide ((pf.id.toNat : Int) = (fl.id.toNat : Int)) := ⟨_, rfl⟩
          obtain ⟨c2, hc2⟩ : ∃ b, b = !(bless pf.name fl.name) := ⟨_, rfl⟩
          rw [← hidc, ← hc1, ← hc2] at hbs
          have C1 := Lib.hid hc1
          have C2 := Lib.hid hc2
          have Hbs := Lib.hid hbs
          have ha1 := add_mid' (ad.add (p * 4)) 1 (by decide)
          have ha0 : ((ad.add (p * 4)).add 0) = ad.add (p * 4) := by simp [Addr.add]
          clear hsn hin hcp hbs hidc hc1 hc2 hpI hpo hpk
          go_wp2_with fail
          refine wp_region_typed [some 50, some 51, some 52, some 53, some 54, some 55, some 56, some 57, some 58, some 59, some 60, some 61, some 62, some 63, some 64, some 65, some 66, some 67, some 68, some 69] [50, 51, 52, 53, 54, 55, 56, 57, 58, 59, 60, 61, 62, 63, 64, 65, 66, 67, 68, 69]
            [Ph.is (.pointer (some ⟨w.heap.size, 2, none⟩)),
              Ph.is (.slice (some ad) m.files.length c),
              Ph.is (.int .i64 (p : Int)),
              Ph.is (.pointer (some (ad.add (p * 4)))),
              Ph.is (.pointer (some { block := (ad.add (p * 4)).block, off := (ad.add (p * 4)).off + 1 })),
              Ph.is (.int .u32 (pf.id.toNat : Int)),
              Ph.is (.pointer (some ⟨w.heap.size + 1, 1, none⟩)),
              Ph.is (.int .u32 (fl.id.toNat : Int)),
              Ph.is (.bool c1),
              Ph.is (.bool (c1)),
              Ph.is (bif c1 then undef else .pointer (some ⟨w.heap.size, 2, none⟩)),
              Ph.is (bif c1 then undef else .slice (some ad) m.files.length c),
              Ph.is (bif c1 then undef else .int .i64 (p : Int)),
              Ph.is (bif c1 then undef else .pointer (some (ad.add (p * 4)))),
              Ph.is (bif c1 then undef else .pointer (some (ad.add (p * 4)))),
              Ph.is (bif c1 then undef else .string (bst pf.name)),
              Ph.is (bif c1 then undef else .pointer (some ⟨w.heap.size + 1, 0, none⟩)),
              Ph.is (bif c1 then undef else .string (bst fl.name)),
              Ph.is (bif c1 then undef else .bool c2),
              Ph.is (.bool (c1 || c2))] rfl rfl (by kernel_rfl) (by kernel_rfl) ?_ ?_
          · refine ⟨?_, ?_, ?_, ?_, ?_, ?_, ?_, ?_, ?_, ?_, ?_, ?_, ?_, ?_, ?_, ?_, ?_, ?_, ?_, ?_, trivial⟩
            · -- 0: slot 50 := Op.fieldAddr 56 t2 2
              refine ob_yes fun f w' hb hp => ?_
              simp [PreOf, factOf, valOf, Ph.is, Ph.any, Region.binds] at hp
              refine ⟨by simp [Gd, valOf, hp], ?_⟩
              refine mild_val (.pointer (some ⟨w.heap.size, 2, none⟩)) ?_ (by simp [Ph.is])
              simp [execOp, evalF, hp, go_sem]
            · -- 1: slot 51 := Op.load 54 t50
              refine ob_yes fun f w' hb hp => ?_
              simp [PreOf, factOf, valOf, Ph.is, Ph.any, Region.binds] at hp
              refine ⟨by simp [Gd, valOf, hp], ?_⟩
              have hc := (Xm.out.blwM (Hbr.out.trans (hb.mono Hbr.out.size))).cell 2 _ rfl
              refine mild_val (.slice (some ad) m.files.length c) ?_ (by simp [Ph.is])
              simp [execOp, evalF, hp, hc, go_sem]
            · -- 2: slot 52 := Op.move t6
              refine ob_yes fun f w' hb hp => ?_
              simp [PreOf, factOf, valOf, Ph.is, Ph.any, Region.binds] at hp
              refine ⟨by simp [Gd, valOf, hp], ?_⟩
              refine mild_val (.int .i64 (p : Int)) ?_ (by simp [Ph.is])
              simp [execOp, evalF, hp, go_sem]
            · -- 3: slot 53 := Op.indexAddr 54 t51 t52
              refine ob_yes fun f w' hb hp => ?_
              simp [PreOf, factOf, valOf, Ph.is, Ph.any, Region.binds] at hp
              refine ⟨by simp [Gd, valOf, hp], ?_⟩
              refine mild_val (.pointer (some (ad.add (p * 4)))) ?_ (by simp [Ph.is])
              simp [execOp, evalF, hp, go_sem, hpl]
            · -- 4: slot 54 := Op.fieldAddr 62 t53 1
              refine ob_yes fun f w' hb hp => ?_
              simp [PreOf, factOf, valOf, Ph.is, Ph.any, Region.binds] at hp
              refine ⟨by simp [Gd, valOf, hp], ?_⟩
              refine mild_val (.pointer (some { block := (ad.add (p * 4)).block, off := (ad.add (p * 4)).off + 1 })) ?_ (by simp [Ph.is])
              simp [execOp, evalF, hp, go_sem]
            · -- 5: slot 55 := Op.load 53 t54
              refine ob_yes fun f w' hb hp => ?_
              simp [PreOf, factOf, valOf, Ph.is, Ph.any, Region.binds] at hp
              refine ⟨by simp [Gd, valOf, hp], ?_⟩
              have hc := ((Hbr.out.trans (hb.mono Hbr.out.size)).cell (p := (ad.add (p * 4)).add 1) (by rw [add_block, add_block]; omega)).trans (Hcp.out 1 _ rfl)
              rw [ha1] at hc
              refine mild_val (.int .u32 (pf.id.toNat : Int)) ?_ (by simp [Ph.is])
              simp [execOp, evalF, hp, hc, go_sem]
            · -- 6: slot 56 := Op.fieldAddr 62 t5 1
              refine ob_yes fun f w' hb hp => ?_
              simp [PreOf, factOf, valOf, Ph.is, Ph.any, Region.binds] at hp
              refine ⟨by simp [Gd, valOf, hp], ?_⟩
              refine mild_val (.pointer (some ⟨w.heap.size + 1, 1, none⟩)) ?_ (by simp [Ph.is])
              simp [execOp, evalF, hp, go_sem]
            · -- 7: slot 57 := Op.load 53 t56
              refine ob_yes fun f w' hb hp => ?_
              simp [PreOf, factOf, valOf, Ph.is, Ph.any, Region.binds] at hp
              refine ⟨by simp [Gd, valOf, hp], ?_⟩
              have hc := (Xf.out.blwM (Hbr.out.trans (hb.mono Hbr.out.size))).cell 1 _ rfl
              refine mild_val (.int .u32 (fl.id.toNat : Int)) ?_ (by simp [Ph.is])
              simp [execOp, evalF, hp, hc, go_sem]
            · -- 8: slot 58 := Op.binOp BinOp.eql 53 t55 t57 53
              refine ob_yes fun f w' hb hp => ?_
              simp [PreOf, factOf, valOf, Ph.is, Ph.any, Region.binds] at hp
              refine ⟨by simp [Gd, valOf, hp], ?_⟩
              refine mild_val (.bool c1) ?_ (by simp [Ph.is])
              simp [execOp, evalF, hp, go_sem]
              first | done | (rw [C1.out]; try first | rfl | exact decide_eq_decide.2 (by omega) | (simp; done) | (simp <;> omega) | (simp <;> rfl))
            · -- 9: slot 59 := Op.move t58
              refine ob_yes fun f w' hb hp => ?_
              simp [PreOf, factOf, valOf, Ph.is, Ph.any, Region.binds] at hp
              refine ⟨by simp [Gd, valOf, hp], ?_⟩
              refine mild_val (.bool (c1)) ?_ (by simp [Ph.is])
              simp [execOp, evalF, hp, go_sem]
            · -- 10: slot 60 := Op.fieldAddr 56 t2 2
              cases hG : (c1) with
              | true =>
                refine ob_no fun f w' hb hp => ?_
                simp [PreOf, factOf, valOf, Ph.is, Ph.any, Region.binds, hG] at hp
                exact ⟨by simp [Gd, valOf, hp], by simp [Ph.is]⟩
              | false =>
                refine ob_yes fun f w' hb hp => ?_
                simp [PreOf, factOf, valOf, Ph.is, Ph.any, Region.binds, hG] at hp
                refine ⟨by simp [Gd, valOf, hp], ?_⟩
                refine mild_val (.pointer (some ⟨w.heap.size, 2, none⟩)) ?_ (by simp [Ph.is, hG])
                simp [execOp, evalF, hp, go_sem, hG]
            · -- 11: slot 61 := Op.load 54 t60
              cases hG : (c1) with
              | true =>
                refine ob_no fun f w' hb hp => ?_
                simp [PreOf, factOf, valOf, Ph.is, Ph.any, Region.binds, hG] at hp
                exact ⟨by simp [Gd, valOf, hp], by simp [Ph.is]⟩
              | false =>
                refine ob_yes fun f w' hb hp => ?_
                simp [PreOf, factOf, valOf, Ph.is, Ph.any, Region.binds, hG] at hp
                refine ⟨by simp [Gd, valOf, hp], ?_⟩
                have hc := (Xm.out.blwM (Hbr.out.trans (hb.mono Hbr.out.size))).cell 2 _ rfl
                refine mild_val (.slice (some ad) m.files.length c) ?_ (by simp [Ph.is, hG])
                simp [execOp, evalF, hp, hc, go_sem, hG]
            · -- 12: slot 62 := Op.move t6
              cases hG : (c1) with
              | true =>
                refine ob_no fun f w' hb hp => ?_
                simp [PreOf, factOf, valOf, Ph.is, Ph.any, Region.binds, hG] at hp
                exact ⟨by simp [Gd, valOf, hp], by simp [Ph.is]⟩
              | false =>
                refine ob_yes fun f w' hb hp => ?_
                simp [PreOf, factOf, valOf, Ph.is, Ph.any, Region.binds, hG] at hp
                refine ⟨by simp [Gd, valOf, hp], ?_⟩
                refine mild_val (.int .i64 (p : Int)) ?_ (by simp [Ph.is, hG])
                simp [execOp, evalF, hp, go_sem, hG]
            · -- 13: slot 63 := Op.indexAddr 54 t61 t62
              cases hG : (c1) with
              | true =>
                refine ob_no fun f w' hb hp => ?_
                simp [PreOf, factOf, valOf, Ph.is, Ph.any, Region.binds, hG] at hp
                exact ⟨by simp [Gd, valOf, hp], by simp [Ph.is]⟩
              | false =>
                refine ob_yes fun f w' hb hp => ?_
                simp [PreOf, factOf, valOf, Ph.is, Ph.any, Region.binds, hG] at hp
                refine ⟨by simp [Gd, valOf, hp], ?_⟩
                refine mild_val (.pointer (some (ad.add (p * 4)))) ?_ (by simp [Ph.is, hG])
                simp [execOp, evalF, hp, go_sem, hpl, hG]
            · -- 14: slot 64 := Op.fieldAddr 62 t63 0
              cases hG : (c1) with
              | true =>
                refine ob_no fun f w' hb hp => ?_
                simp [PreOf, factOf, valOf, Ph.is, Ph.any, Region.binds, hG] at hp
                exact ⟨by simp [Gd, valOf, hp], by simp [Ph.is]⟩
              | false =>
                refine ob_yes fun f w' hb hp => ?_
                simp [PreOf, factOf, valOf, Ph.is, Ph.any, Region.binds, hG] at hp
                refine ⟨by simp [Gd, valOf, hp], ?_⟩
                refine mild_val (.pointer (some (ad.add (p * 4)))) ?_ (by simp [Ph.is, hG])
                simp [execOp, evalF, hp, go_sem, hG]
            · -- 15: slot 65 := Op.load 9 t64
              cases hG : (c1) with
              | true =>
                refine ob_no fun f w' hb hp => ?_
                simp [PreOf, factOf, valOf, Ph.is, Ph.any, Region.binds, hG] at hp
                exact ⟨by simp [Gd, valOf, hp], by simp [Ph.is]⟩
              | false =>
                refine ob_yes fun f w' hb hp => ?_
                simp [PreOf, factOf, valOf, Ph.is, Ph.any, Region.binds, hG] at hp
                refine ⟨by simp [Gd, valOf, hp], ?_⟩
                have hc := ((Hbr.out.trans (hb.mono Hbr.out.size)).cell (p := (ad.add (p * 4)).add 0) (by rw [add_block, add_block]; omega)).trans (Hcp.out 0 _ rfl)
                rw [ha0] at hc
                refine mild_val (.string (bst pf.name)) ?_ (by simp [Ph.is, hG])
                simp [execOp, evalF, hp, hc, go_sem, hG]
            · -- 16: slot 66 := Op.fieldAddr 62 t5 0
              cases hG : (c1) with
              | true =>
                refine ob_no fun f w' hb hp => ?_
                simp [PreOf, factOf, valOf, Ph.is, Ph.any, Region.binds, hG] at hp
                exact ⟨by simp [Gd, valOf, hp], by simp [Ph.is]⟩
              | false =>
                refine ob_yes fun f w' hb hp => ?_
                simp [PreOf, factOf, valOf, Ph.is, Ph.any, Region.binds, hG] at hp
                refine ⟨by simp [Gd, valOf, hp], ?_⟩
                refine mild_val (.pointer (some ⟨w.heap.size + 1, 0, none⟩)) ?_ (by simp [Ph.is, hG])
                simp [execOp, evalF, hp, go_sem, hG]
            · -- 17: slot 67 := Op.load 9 t66
              cases hG : (c1) with
              | true =>
                refine ob_no fun f w' hb hp => ?_
                simp [PreOf, factOf, valOf, Ph.is, Ph.any, Region.binds, hG] at hp
                exact ⟨by simp [Gd, valOf, hp], by simp [Ph.is]⟩
              | false =>
                refine ob_yes fun f w' hb hp => ?_
                simp [PreOf, factOf, valOf, Ph.is, Ph.any, Region.binds, hG] at hp
                refine ⟨by simp [Gd, valOf, hp], ?_⟩
                have hc := (Xf.out.blwM (Hbr.out.trans (hb.mono Hbr.out.size))).cell 0 _ rfl
                refine mild_val (.string (bst fl.name)) ?_ (by simp [Ph.is, hG])
                simp [execOp, evalF, hp, hc, go_sem, hG]
            · -- 18: slot 68 := Op.binOp BinOp.geq 9 t65 t67 9
              cases hG : (c1) with
              | true =>
                refine ob_no fun f w' hb hp => ?_
                simp [PreOf, factOf, valOf, Ph.is, Ph.any, Region.binds, hG] at hp
                exact ⟨by simp [Gd, valOf, hp], by simp [Ph.is]⟩
              | false =>
                refine ob_yes fun f w' hb hp => ?_
                simp [PreOf, factOf, valOf, Ph.is, Ph.any, Region.binds, hG] at hp
                refine ⟨by simp [Gd, valOf, hp], ?_⟩
                refine mild_val (.bool c2) ?_ (by simp [Ph.is, hG])
                simp [execOp, evalF, hp, go_sem, hG, Op.stringOp, bst_toList]
                first | done | (rw [C2.out]; try first | rfl | exact decide_eq_decide.2 (by omega) | (simp; done) | (simp <;> omega) | (simp <;> rfl))
            · -- 19: slot 69 := Op.pick t59 (const (Value.bool true)) t68
              cases hG : (c1) with
              | true =>
                refine ob_yes fun f w' hb hp => ?_
                simp [PreOf, factOf, valOf, Ph.is, Ph.any, Region.binds, hG] at hp
                refine ⟨by simp [Gd, valOf, hp], ?_⟩
                refine mild_val (.bool (c1 || c2)) ?_ (by simp [Ph.is, hG])
                simp [execOp, evalF, hp, go_sem, hG]
              | false =>
                refine ob_yes fun f w' hb hp => ?_
                simp [PreOf, factOf, valOf, Ph.is, Ph.any, Region.binds, hG] at hp
                refine ⟨by simp [Gd, valOf, hp], ?_⟩
                refine mild_val (.bool (c1 || c2)) ?_ (by simp [Ph.is, hG])
                simp [execOp, evalF, hp, go_sem, hG]
          · intro f w2 hb2 hp
            simp only [PostOf, Ph.is, Ph.any] at hp
            obtain ⟨h0, h1, h2, h3, h4, h5, h6, h7, h8, h9, h10, h11, h12, h13, h14, h15, h16, h17, h18, h19, _⟩ := hp
            simp only [fills, List.foldl_cons, List.foldl_nil, Act.put, List.setIfInBounds_toArray, List.set_cons_zero, List.set_cons_succ, h0, h1, h2, h3, h4, h5, h6, h7, h8, h9, h19]
            clear h0 h1 h2 h3 h4 h5 h6 h7 h8 h9 h19 h10 h11 h12 h13 h14 h15 h16 h17 h18
            generalize f 60 = v60
            generalize f 61 = v61
            generalize f 62 = v62
            generalize f 63 = v63
            generalize f 64 = v64
            generalize f 65 = v65
            generalize f 66 = v66
            generalize f 67 = v67
            generalize f 68 = v68
            have hb3 := Hbr.out.trans (hb2.mono Hbr.out.size)
            cases hC : (c1 || c2) with
            | true =>
              rw [hC] at Hbs
              go_wp2_with fail
              go_ret
              exact ⟨by rw [Hr.out, Hin.out (by rw [Hbs.out]; rfl)]; rfl, Hb0'.out.trans (hb3.mono (by omega))⟩
            | false =>
              rw [hC] at Hbs
              go_wp2_with fail
              go_roundw
              case rel => exact ⟨p + 1, by omega, by go_num, by rw [Hsn.out, Hbs.out]; rfl, hb3⟩
              case measure => simp [intOf]; omega
        · obtain rfl : p = i := by omega
          rw [hbes, Bool.true_and] at Hr
          have m3_r := (Xf.out.blwM Hbr.out).cell 3 _ rfl
          clear hbes
          go_wp2_with fail
          go_loopw [73] (fun iv wr => ∃ a : Nat, a ≤ fl.blocks.length ∧ iv = .int .i64 a ∧ blocksOk (m.files.take p) fl.blocks a = true ∧ Below wf.heap.size wf wr) (fun iv _ => fl.blocks.length - (intOf iv).toNat)
          case atStart => exact ⟨0, by omega, rfl, rfl, Hbr.out⟩
          case round =>
            clear m3_r Hbr
            obtain ⟨a, ha, rfl, hok, hbr⟩ := hrel
            have Hbr := Lib.hid hbr
            clear hbr
            by_cases hat : a < fl.blocks.length
            · obtain ⟨_, ad2, rfl, hab2, hca, hx1, hx2⟩ := HbI.out.cells a hat
              have hsn := blocksOk_succ (m.files.take p) fl.blocks a
              have hfa := fun h => blocksOk_false (m.files.take p) fl.blocks a h fl.blocks.length hat
              have hbo := blockOk_eq (m.files.take p) fl.blocks a hat
              rw [hok, Bool.true_and] at hsn
              
              generalize hxx : fl.blocks[a] = x at *
              obtain ⟨d1, hd1⟩ : ∃ b, b = decide (x < 32) := ⟨_, rfl⟩
              obtain ⟨d2, hd2⟩ : ∃ b, b = decide (65536 ≤ x) := ⟨_, rfl⟩
              obtain ⟨d3, hd3⟩ : ∃ b, b = decide (x ∈ fl.blocks.take a) := ⟨_, rfl⟩
              rw [← hd1, ← hd2, ← hd3] at hbo
              rw [← hsn] at hbo
              have D1 := Lib.hid hd1
              have D2 := Lib.hid hd2
              have D3 := Lib.hid hd3
              have Hbo := Lib.hid hbo
              have Hfa := Lib.hid hfa
              have Hca := Lib.hid hca
              clear hd1 hd2 hd3 hbo hfa hca hsn hok hxx
              go_wp2_with fail
              refine wp_region_typed [some 76, some 77, some 78, some 79, some 80, some 81, some 82, some 83, some 84, some 85, some 86, some 87, some 88, some 89, some 90, some 91, some 92, some 93, some 94, some 95, some 96, some 97, some 98, some 99, some 100, some 101] [76, 77, 78, 79, 80, 81, 82, 83, 84, 85, 86, 87, 88, 89, 90, 91, 92, 93, 94, 95, 96, 97, 98, 99, 100, 101]
                [Ph.is (.pointer (some ⟨w.heap.size + 1, 3, none⟩)),
                  Ph.is (.slice (some ad2) fl.blocks.length cb),
                  Ph.is (.int .i64 (a : Int)),
                  Ph.is (.pointer (some (ad2.add a))),
                  Ph.is (.int .i64 x),
                  Ph.is (.bool d1),
                  Ph.is (.bool (d1)),
                  Ph.is (bif d1 then undef else .pointer (some ⟨w.heap.size + 1, 3, none⟩)),
                  Ph.is (bif d1 then undef else .slice (some ad2) fl.blocks.length cb),
                  Ph.is (bif d1 then undef else .int .i64 (a : Int)),
                  Ph.is (bif d1 then undef else .pointer (some (ad2.add a))),
                  Ph.is (bif d1 then undef else .int .i64 x),
                  Ph.is (bif d1 then undef else .bool d2),
                  Ph.is (.bool (d1 || d2)),
                  Ph.is (.bool ((d1 || d2))),
                  Ph.is (bif (d1 || d2) then undef else .pointer (some ⟨w.heap.size + 1, 3, none⟩)),
                  Ph.is (bif (d1 || d2) then undef else .slice (some ad2) fl.blocks.length cb),
                  Ph.is (bif (d1 || d2) then undef else .int .i64 (a : Int)),
                  Ph.is (bif (d1 || d2) then undef else .pointer (some (ad2.add a))),
                  Ph.is (bif (d1 || d2) then undef else .int .i64 x),
                  Ph.is (bif (d1 || d2) then undef else .pointer (some ⟨w.heap.size + 1, 3, none⟩)),
                  Ph.is (bif (d1 || d2) then undef else .slice (some ad2) fl.blocks.length cb),
                  Ph.is (bif (d1 || d2) then undef else .int .i64 (a : Int)),
                  Ph.is (bif (d1 || d2) then undef else .slice (some ad2) a cb),
                  Ph.is (bif (d1 || d2) then undef else .bool d3),
                  Ph.is (.bool (d1 || d2 || d3))] rfl rfl (by kernel_rfl) (by kernel_rfl) ?_ ?_
              · refine ⟨?_, ?_, ?_, ?_, ?_, ?_, ?_, ?_, ?_, ?_, ?_, ?_, ?_, ?_, ?_, ?_, ?_, ?_, ?_, ?_, ?_, ?_, ?_, ?_, ?_, ?_, trivial⟩
                · -- 0: slot 76 := Op.fieldAddr 62 t5 3
                  refine ob_yes fun f w' hb hp => ?_
                  simp [PreOf, factOf, valOf, Ph.is, Ph.any, Region.binds] at hp
                  refine ⟨by simp [Gd, valOf, hp], ?_⟩
                  refine mild_val (.pointer (some ⟨w.heap.size + 1, 3, none⟩)) ?_ (by simp [Ph.is])
                  simp [execOp, evalF, hp, go_sem]
                · -- 1: slot 77 := Op.load 60 t76
                  refine ob_yes fun f w' hb hp => ?_
                  simp [PreOf, factOf, valOf, Ph.is, Ph.any, Region.binds] at hp
                  refine ⟨by simp [Gd, valOf, hp], ?_⟩
                  have hc := (Xf.out.blwM (Hbr.out.trans (hb.mono Hbr.out.size))).cell 3 _ rfl
                  refine mild_val (.slice (some ad2) fl.blocks.length cb) ?_ (by simp [Ph.is])
                  simp [execOp, evalF, hp, hc, go_sem]
                · -- 2: slot 78 := Op.move t7
                  refine ob_yes fun f w' hb hp => ?_
                  simp [PreOf, factOf, valOf, Ph.is, Ph.any, Region.binds] at hp
                  refine ⟨by simp [Gd, valOf, hp], ?_⟩
                  refine mild_val (.int .i64 (a : Int)) ?_ (by simp [Ph.is])
                  simp [execOp, evalF, hp, go_sem]
                · -- 3: slot 79 := Op.indexAddr 60 t77 t78
                  refine ob_yes fun f w' hb hp => ?_
                  simp [PreOf, factOf, valOf, Ph.is, Ph.any, Region.binds] at hp
                  refine ⟨by simp [Gd, valOf, hp], ?_⟩
                  refine mild_val (.pointer (some (ad2.add a))) ?_ (by simp [Ph.is])
                  simp [execOp, evalF, hp, go_sem, hat]
                · -- 4: slot 80 := Op.load 3 t79
                  refine ob_yes fun f w' hb hp => ?_
                  simp [PreOf, factOf, valOf, Ph.is, Ph.any, Region.binds] at hp
                  refine ⟨by simp [Gd, valOf, hp], ?_⟩
                  have hc := ((Hbr.out.trans (hb.mono Hbr.out.size)).cell (p := ad2.add a) (by rw [add_block]; omega)).trans Hca.out
                  refine mild_val (.int .i64 x) ?_ (by simp [Ph.is])
                  simp [execOp, evalF, hp, hc, go_sem]
                · -- 5: slot 81 := Op.binOp BinOp.lss 3 t80 (const (32:i64)) 3
                  refine ob_yes fun f w' hb hp => ?_
                  simp [PreOf, factOf, valOf, Ph.is, Ph.any, Region.binds] at hp
                  refine ⟨by simp [Gd, valOf, hp], ?_⟩
                  refine mild_val (.bool d1) ?_ (by simp [Ph.is])
                  simp [execOp, evalF, hp, go_sem]
                  first | done | (rw [D1.out]; try first | rfl | exact decide_eq_decide.2 (by omega) | (simp; done) | (simp <;> omega) | (simp <;> rfl))
                · -- 6: slot 82 := Op.move t81
                  refine ob_yes fun f w' hb hp => ?_
                  simp [PreOf, factOf, valOf, Ph.is, Ph.any, Region.binds] at hp
                  refine ⟨by simp [Gd, valOf, hp], ?_⟩
                  refine mild_val (.bool (d1)) ?_ (by simp [Ph.is])
                  simp [execOp, evalF, hp, go_sem]
                · -- 7: slot 83 := Op.fieldAddr 62 t5 3
                  cases hG : (d1) with
                  | true =>
                    refine ob_no fun f w' hb hp => ?_
                    simp [PreOf, factOf, valOf, Ph.is, Ph.any, Region.binds, hG] at hp
                    exact ⟨by simp [Gd, valOf, hp], by simp [Ph.is]⟩
                  | false =>
                    refine ob_yes fun f w' hb hp => ?_
                    simp [PreOf, factOf, valOf, Ph.is, Ph.any, Region.binds, hG] at hp
                    refine ⟨by simp [Gd, valOf, hp], ?_⟩
                    refine mild_val (.pointer (some ⟨w.heap.size + 1, 3, none⟩)) ?_ (by simp [Ph.is, hG])
                    simp [execOp, evalF, hp, go_sem, hG]
                · -- 8: slot 84 := Op.load 60 t83
                  cases hG : (d1) with
                  | true =>
                    refine ob_no fun f w' hb hp => ?_
                    simp [PreOf, factOf, valOf, Ph.is, Ph.any, Region.binds, hG] at hp
                    exact ⟨by simp [Gd, valOf, hp], by simp [Ph.is]⟩
                  | false =>
                    refine ob_yes fun f w' hb hp => ?_
                    simp [PreOf, factOf, valOf, Ph.is, Ph.any, Region.binds, hG] at hp
                    refine ⟨by simp [Gd, valOf, hp], ?_⟩
                    have hc := (Xf.out.blwM (Hbr.out.trans (hb.mono Hbr.out.size))).cell 3 _ rfl
                    refine mild_val (.slice (some ad2) fl.blocks.length cb) ?_ (by simp [Ph.is, hG])
                    simp [execOp, evalF, hp, hc, go_sem, hG]
                · -- 9: slot 85 := Op.move t7
                  cases hG : (d1) with
                  | true =>
                    refine ob_no fun f w' hb hp => ?_
                    simp [PreOf, factOf, valOf, Ph.is, Ph.any, Region.binds, hG] at hp
                    exact ⟨by simp [Gd, valOf, hp], by simp [Ph.is]⟩
                  | false =>
                    refine ob_yes fun f w' hb hp => ?_
                    simp [PreOf, factOf, valOf, Ph.is, Ph.any, Region.binds, hG] at hp
                    refine ⟨by simp [Gd, valOf, hp], ?_⟩
                    refine mild_val (.int .i64 (a : Int)) ?_ (by simp [Ph.is, hG])
                    simp [execOp, evalF, hp, go_sem, hG]
                · -- 10: slot 86 := Op.indexAddr 60 t84 t85
                  cases hG : (d1) with
                  | true =>
                    refine ob_no fun f w' hb hp => ?_
                    simp [PreOf, factOf, valOf, Ph.is, Ph.any, Region.binds, hG] at hp
                    exact ⟨by simp [Gd, valOf, hp], by simp [Ph.is]⟩
                  | false =>
                    refine ob_yes fun f w' hb hp => ?_
                    simp [PreOf, factOf, valOf, Ph.is, Ph.any, Region.binds, hG] at hp
                    refine ⟨by simp [Gd, valOf, hp], ?_⟩
                    refine mild_val (.pointer (some (ad2.add a))) ?_ (by simp [Ph.is, hG])
                    simp [execOp, evalF, hp, go_sem, hat, hG]
                · -- 11: slot 87 := Op.load 3 t86
                  cases hG : (d1) with
                  | true =>
                    refine ob_no fun f w' hb hp => ?_
                    simp [PreOf, factOf, valOf, Ph.is, Ph.any, Region.binds, hG] at hp
                    exact ⟨by simp [Gd, valOf, hp], by simp [Ph.is]⟩
                  | false =>
                    refine ob_yes fun f w' hb hp => ?_
                    simp [PreOf, factOf, valOf, Ph.is, Ph.any, Region.binds, hG] at hp
                    refine ⟨by simp [Gd, valOf, hp], ?_⟩
                    have hc := ((Hbr.out.trans (hb.mono Hbr.out.size)).cell (p := ad2.add a) (by rw [add_block]; omega)).trans Hca.out
                    refine mild_val (.int .i64 x) ?_ (by simp [Ph.is, hG])
                    simp [execOp, evalF, hp, hc, go_sem, hG]
                · -- 12: slot 88 := Op.binOp BinOp.geq 3 t87 (const (65536:i64)) 3
                  cases hG : (d1) with
                  | true =>
                    refine ob_no fun f w' hb hp => ?_
                    simp [PreOf, factOf, valOf, Ph.is, Ph.any, Region.binds, hG] at hp
                    exact ⟨by simp [Gd, valOf, hp], by simp [Ph.is]⟩
                  | false =>
                    refine ob_yes fun f w' hb hp => ?_
                    simp [PreOf, factOf, valOf, Ph.is, Ph.any, Region.binds, hG] at hp
                    refine ⟨by simp [Gd, valOf, hp], ?_⟩
                    refine mild_val (.bool d2) ?_ (by simp [Ph.is, hG])
                    simp [execOp, evalF, hp, go_sem, hG]
                    first | done | (rw [D2.out]; try first | rfl | exact decide_eq_decide.2 (by omega) | (simp; done) | (simp <;> omega) | (simp <;> rfl))
                · -- 13: slot 89 := Op.pick t82 (const (Value.bool true)) t88
                  cases hG : (d1) with
                  | true =>
                    refine ob_yes fun f w' hb hp => ?_
                    simp [PreOf, factOf, valOf, Ph.is, Ph.any, Region.binds, hG] at hp
                    refine ⟨by simp [Gd, valOf, hp], ?_⟩
                    refine mild_val (.bool (d1 || d2)) ?_ (by simp [Ph.is, hG])
                    simp [execOp, evalF, hp, go_sem, hG]
                  | false =>
                    refine ob_yes fun f w' hb hp => ?_
                    simp [PreOf, factOf, valOf, Ph.is, Ph.any, Region.binds, hG] at hp
                    refine ⟨by simp [Gd, valOf, hp], ?_⟩
                    refine mild_val (.bool (d1 || d2)) ?_ (by simp [Ph.is, hG])
                    simp [execOp, evalF, hp, go_sem, hG]
                · -- 14: slot 90 := Op.move t89
                  refine ob_yes fun f w' hb hp => ?_
                  simp [PreOf, factOf, valOf, Ph.is, Ph.any, Region.binds] at hp
                  refine ⟨by simp [Gd, valOf, hp], ?_⟩
                  refine mild_val (.bool ((d1 || d2))) ?_ (by simp [Ph.is])
                  simp [execOp, evalF, hp, go_sem]
                · -- 15: slot 91 := Op.fieldAddr 62 t5 3
                  cases hG : ((d1 || d2)) with
                  | true =>
                    refine ob_no fun f w' hb hp => ?_
                    simp [PreOf, factOf, valOf, Ph.is, Ph.any, Region.binds, hG] at hp
                    exact ⟨by simp [Gd, valOf, hp], by simp [Ph.is]⟩
                  | false =>
                    refine ob_yes fun f w' hb hp => ?_
                    simp [PreOf, factOf, valOf, Ph.is, Ph.any, Region.binds, hG] at hp
                    refine ⟨by simp [Gd, valOf, hp], ?_⟩
                    refine mild_val (.pointer (some ⟨w.heap.size + 1, 3, none⟩)) ?_ (by simp [Ph.is, hG])
                    simp [execOp, evalF, hp, go_sem, hG]
                · -- 16: slot 92 := Op.load 60 t91
                  cases hG : ((d1 || d2)) with
                  | true =>
                    refine ob_no fun f w' hb hp => ?_
                    simp [PreOf, factOf, valOf, Ph.is, Ph.any, Region.binds, hG] at hp
                    exact ⟨by simp [Gd, valOf, hp], by simp [Ph.is]⟩
                  | false =>
                    refine ob_yes fun f w' hb hp => ?_
                    simp [PreOf, factOf, valOf, Ph.is, Ph.any, Region.binds, hG] at hp
                    refine ⟨by simp [Gd, valOf, hp], ?_⟩
                    have hc := (Xf.out.blwM (Hbr.out.trans (hb.mono Hbr.out.size))).cell 3 _ rfl
                    refine mild_val (.slice (some ad2) fl.blocks.length cb) ?_ (by simp [Ph.is, hG])
                    simp [execOp, evalF, hp, hc, go_sem, hG]
                · -- 17: slot 93 := Op.move t7
                  cases hG : ((d1 || d2)) with
                  | true =>
                    refine ob_no fun f w' hb hp => ?_
                    simp [PreOf, factOf, valOf, Ph.is, Ph.any, Region.binds, hG] at hp
                    exact ⟨by simp [Gd, valOf, hp], by simp [Ph.is]⟩
                  | false =>
                    refine ob_yes fun f w' hb hp => ?_
                    simp [PreOf, factOf, valOf, Ph.is, Ph.any, Region.binds, hG] at hp
                    refine ⟨by simp [Gd, valOf, hp], ?_⟩
                    refine mild_val (.int .i64 (a : Int)) ?_ (by simp [Ph.is, hG])
                    simp [execOp, evalF, hp, go_sem, hG]
                · -- 18: slot 94 := Op.indexAddr 60 t92 t93
                  cases hG : ((d1 || d2)) with
                  | true =>
                    refine ob_no fun f w' hb hp => ?_
                    simp [PreOf, factOf, valOf, Ph.is, Ph.any, Region.binds, hG] at hp
                    exact ⟨by simp [Gd, valOf, hp], by simp [Ph.is]⟩
                  | false =>
                    refine ob_yes fun f w' hb hp => ?_
                    simp [PreOf, factOf, valOf, Ph.is, Ph.any, Region.binds, hG] at hp
                    refine ⟨by simp [Gd, valOf, hp], ?_⟩
                    refine mild_val (.pointer (some (ad2.add a))) ?_ (by simp [Ph.is, hG])
                    simp [execOp, evalF, hp, go_sem, hat, hG]
                · -- 19: slot 95 := Op.load 3 t94
                  cases hG : ((d1 || d2)) with
                  | true =>
                    refine ob_no fun f w' hb hp => ?_
                    simp [PreOf, factOf, valOf, Ph.is, Ph.any, Region.binds, hG] at hp
                    exact ⟨by simp [Gd, valOf, hp], by simp [Ph.is]⟩
                  | false =>
                    refine ob_yes fun f w' hb hp => ?_
                    simp [PreOf, factOf, valOf, Ph.is, Ph.any, Region.binds, hG] at hp
                    refine ⟨by simp [Gd, valOf, hp], ?_⟩
                    have hc := ((Hbr.out.trans (hb.mono Hbr.out.size)).cell (p := ad2.add a) (by rw [add_block]; omega)).trans Hca.out
                    refine mild_val (.int .i64 x) ?_ (by simp [Ph.is, hG])
                    simp [execOp, evalF, hp, hc, go_sem, hG]
                · -- 20: slot 96 := Op.fieldAddr 62 t5 3
                  cases hG : ((d1 || d2)) with
                  | true =>
                    refine ob_no fun f w' hb hp => ?_
                    simp [PreOf, factOf, valOf, Ph.is, Ph.any, Region.binds, hG] at hp
                    exact ⟨by simp [Gd, valOf, hp], by simp [Ph.is]⟩
                  | false =>
                    refine ob_yes fun f w' hb hp => ?_
                    simp [PreOf, factOf, valOf, Ph.is, Ph.any, Region.binds, hG] at hp
                    refine ⟨by simp [Gd, valOf, hp], ?_⟩
                    refine mild_val (.pointer (some ⟨w.heap.size + 1, 3, none⟩)) ?_ (by simp [Ph.is, hG])
                    simp [execOp, evalF, hp, go_sem, hG]
                · -- 21: slot 97 := Op.load 60 t96
                  cases hG : ((d1 || d2)) with
                  | true =>
                    refine ob_no fun f w' hb hp => ?_
                    simp [PreOf, factOf, valOf, Ph.is, Ph.any, Region.binds, hG] at hp
                    exact ⟨by simp [Gd, valOf, hp], by simp [Ph.is]⟩
                  | false =>
                    refine ob_yes fun f w' hb hp => ?_
                    simp [PreOf, factOf, valOf, Ph.is, Ph.any, Region.binds, hG] at hp
                    refine ⟨by simp [Gd, valOf, hp], ?_⟩
                    have hc := (Xf.out.blwM (Hbr.out.trans (hb.mono Hbr.out.size))).cell 3 _ rfl
                    refine mild_val (.slice (some ad2) fl.blocks.length cb) ?_ (by simp [Ph.is, hG])
                    simp [execOp, evalF, hp, hc, go_sem, hG]
                · -- 22: slot 98 := Op.move t7
                  cases hG : ((d1 || d2)) with
                  | true =>
                    refine ob_no fun f w' hb hp => ?_
                    simp [PreOf, factOf, valOf, Ph.is, Ph.any, Region.binds, hG] at hp
                    exact ⟨by simp [Gd, valOf, hp], by simp [Ph.is]⟩
                  | false =>
                    refine ob_yes fun f w' hb hp => ?_
                    simp [PreOf, factOf, valOf, Ph.is, Ph.any, Region.binds, hG] at hp
                    refine ⟨by simp [Gd, valOf, hp], ?_⟩
                    refine mild_val (.int .i64 (a : Int)) ?_ (by simp [Ph.is, hG])
                    simp [execOp, evalF, hp, go_sem, hG]
                · -- 23: slot 99 := Op.slice 60 t97 none (some t98) none
                  cases hG : ((d1 || d2)) with
                  | true =>
                    refine ob_no fun f w' hb hp => ?_
                    simp [PreOf, factOf, valOf, Ph.is, Ph.any, Region.binds, hG] at hp
                    exact ⟨by simp [Gd, valOf, hp], by simp [Ph.is]⟩
                  | false =>
                    refine ob_yes fun f w' hb hp => ?_
                    simp [PreOf, factOf, valOf, Ph.is, Ph.any, Region.binds, hG] at hp
                    refine ⟨by simp [Gd, valOf, hp], ?_⟩
                    refine mild_val (.slice (some ad2) a cb) ?_ (by simp [Ph.is, hG])
                    simp [execOp, evalF, hp, go_sem, hG]
                    first | done | (have := hat; omega)
                · -- 24: slot 100 := Op.call   value (Operand.func 75), args := #[t95, t99], argTypes := #[3, 60]  
                  cases hG : ((d1 || d2)) with
                  | true =>
                    refine ob_no fun f w' hb hp => ?_
                    simp [PreOf, factOf, valOf, Ph.is, Ph.any, Region.binds, hG] at hp
                    exact ⟨by simp [Gd, valOf, hp], by simp [Ph.is]⟩
                  | false =>
                    refine ob_yes fun f w' hb hp => ?_
                    simp [PreOf, factOf, valOf, Ph.is, Ph.any, Region.binds, hG] at hp
                    refine ⟨by simp [Gd, valOf, hp], ?_⟩
                    refine mild_call 75 _ _ Try.f75 Try.func75 (by kernel_rfl) (by kernel_rfl) rfl ?_
                    simp [evalF, hp, Ph.is, Ph.any, hG]
                    have hd := among_any w' w.heap.size (.slice (some ad2) a cb) (fl.blocks.take a) x (by have e := (HbI.out.below ((Hbr.out.trans (hb.mono Hbr.out.size)).mono (by omega))).front (k := a) (by omega); exact e)
                    rw [← D3.out] at hd
                    refine (hd).mono fun ev w2 h => ?_
                    obtain ⟨rfl, rfl⟩ := h
                    first | exact ⟨_, rfl, Below.refl _ _, rfl⟩ | exact ⟨rfl, Below.refl _ _⟩ | exact Below.refl _ _ | simpa using Below.refl _ _
                · -- 25: slot 101 := Op.pick t90 (const (Value.bool true)) t100
                  cases hG : ((d1 || d2)) with
                  | true =>
                    refine ob_yes fun f w' hb hp => ?_
                    simp [PreOf, factOf, valOf, Ph.is, Ph.any, Region.binds, hG] at hp
                    refine ⟨by simp [Gd, valOf, hp], ?_⟩
                    refine mild_val (.bool (d1 || d2 || d3)) ?_ (by simp [Ph.is, hG])
                    simp [execOp, evalF, hp, go_sem, hG]
                  | false =>
                    refine ob_yes fun f w' hb hp => ?_
                    simp [PreOf, factOf, valOf, Ph.is, Ph.any, Region.binds, hG] at hp
                    refine ⟨by simp [Gd, valOf, hp], ?_⟩
                    refine mild_val (.bool (d1 || d2 || d3)) ?_ (by simp [Ph.is, hG])
                    simp [execOp, evalF, hp, go_sem, hG]
              · intro f w2 hb2 hp
                simp only [PostOf, Ph.is, Ph.any] at hp
                obtain ⟨h0, h1, h2, h3, h4, h5, h6, h7, h8, h9, h10, h11, h12, h13, h14, h15, h16, h17, h18, h19, h20, h21, h22, h23, h24, h25, _⟩ := hp
                simp only [fills, List.foldl_cons, List.foldl_nil, Act.put, List.setIfInBounds_toArray, List.set_cons_zero, List.set_cons_succ, h0, h1, h2, h3, h4, h5, h6, h13, h14, h25]
                clear h0 h1 h2 h3 h4 h5 h6 h13 h14 h25 h7 h8 h9 h10 h11 h12 h15 h16 h17 h18 h19 h20 h21 h22 h23 h24
                generalize f 83 = v83
                generalize f 84 = v84
                generalize f 85 = v85
                generalize f 86 = v86
                generalize f 87 = v87
                generalize f 88 = v88
                generalize f 91 = v91
                generalize f 92 = v92
                generalize f 93 = v93
                generalize f 94 = v94
                generalize f 95 = v95
                generalize f 96 = v96
                generalize f 97 = v97
                generalize f 98 = v98
                generalize f 99 = v99
                generalize f 100 = v100
                have hb3 := Hbr.out.trans (hb2.mono Hbr.out.size)
                have Hb3 := Lib.hid hb3
                clear hb2 hb3 Hbr
                cases hD : (d1 || d2 || d3) with
                | true =>
                  rw [hD] at Hbo
                  go_wp2_with fail
                  go_ret
                  exact ⟨by rw [Hr.out, Hfa.out (by rw [Hbo.out]; rfl)]; rfl, Hb0'.out.trans (Hb3.out.mono (by omega))⟩
                | false =>
                  rw [hD] at Hbo
                  go_wp2_with fail
                  go_loopw [8] (fun iv wr => ∃ q : Nat, q ≤ p ∧ iv = .int .i64 q ∧ (m.files.take q).all (fun f => !decide (x ∈ f.blocks)) = true ∧ Below wf.heap.size wf wr) (fun iv _ => p - (intOf iv).toNat)
                  case atStart => exact ⟨0, by omega, rfl, rfl, Hb3.out⟩
                  case round =>
                    obtain ⟨q, hq0, rfl, hall, hbr⟩ := hrel
                    have Hbr2 := Lib.hid hbr
                    clear hbr
                    by_cases hlt : q < p
                    · have hql : q < m.files.length := by omega
                      obtain ⟨_, ad', vp, e, hab', hpI, hpo, hcp⟩ := Hf.out.cells q hql
                      injection e with e
                      subst e
                      obtain ⟨Ap, cp, rfl, hcp1, hcp2⟩ := hpI.form
                      have hsn : (m.files.take (q + 1)).all (fun f => !decide (x ∈ f.blocks)) = !decide (x ∈ (m.files[q]).blocks) := by
                        rw [List.take_add_one, List.getElem?_eq_getElem hql, Option.toList_some, List.all_append, hall]; simp
                      have hin : decide (x ∈ (m.files[q]).blocks) = true → (m.files.take p).all (fun f => !decide (x ∈ f.blocks)) = false := fun h => by
                        rw [List.all_eq_false]
                        exact ⟨m.files[q], by rw [List.mem_take_iff_getElem]; exact ⟨q, by omega, rfl⟩, by rw [h]; simp⟩
                      generalize hpk : m.files[q] = pf at *
                      obtain ⟨e1, he1⟩ : ∃ b, b = decide (x ∈ pf.blocks) := ⟨_, rfl⟩
                      rw [← he1] at hsn hin
                      have Hsn := Lib.hid hsn
                      have Hin := Lib.hid hin
                      have Hcp := Lib.hid hcp
                      have HpI := Lib.hid hpI
                      have E1 := Lib.hid he1
                      have ha3 := add_mid' (ad.add (q * 4)) 3 (by decide)
                      clear hsn hin hcp he1 hpI hpo hpk hall
                      go_wp2_with fail
                      refine wp_region_typed [some 107, some 108, some 109, some 110, some 111, some 112, some 113, some 114, some 115, some 116, some 117, some 118] [107, 108, 109, 110, 111, 112, 113, 114, 115, 116, 117, 118]
                        [Ph.is (.pointer (some ⟨w.heap.size + 1, 3, none⟩)),
                          Ph.is (.slice (some ad2) fl.blocks.length cb),
                          Ph.is (.int .i64 (a : Int)),
                          Ph.is (.pointer (some (ad2.add a))),
                          Ph.is (.int .i64 x),
                          Ph.is (.pointer (some ⟨w.heap.size, 2, none⟩)),
                          Ph.is (.slice (some ad) m.files.length c),
                          Ph.is (.int .i64 (q : Int)),
                          Ph.is (.pointer (some (ad.add (q * 4)))),
                          Ph.is (.pointer (some { block := (ad.add (q * 4)).block, off := (ad.add (q * 4)).off + 3 })),
                          Ph.is (.slice Ap pf.blocks.length cp),
                          Ph.is (.bool e1)] rfl rfl (by kernel_rfl) (by kernel_rfl) ?_ ?_
                      · refine ⟨?_, ?_, ?_, ?_, ?_, ?_, ?_, ?_, ?_, ?_, ?_, ?_, trivial⟩
                        · -- 0: slot 107 := Op.fieldAddr 62 t5 3
                          refine ob_yes fun f w' hb hp => ?_
                          simp [PreOf, factOf, valOf, Ph.is, Ph.any, Region.binds] at hp
                          refine ⟨by simp [Gd, valOf, hp], ?_⟩
                          refine mild_val (.pointer (some ⟨w.heap.size + 1, 3, none⟩)) ?_ (by simp [Ph.is])
                          simp [execOp, evalF, hp, go_sem]
                        · -- 1: slot 108 := Op.load 60 t107
                          refine ob_yes fun f w' hb hp => ?_
                          simp [PreOf, factOf, valOf, Ph.is, Ph.any, Region.binds] at hp
                          refine ⟨by simp [Gd, valOf, hp], ?_⟩
                          have hc := (Xf.out.blwM (Hbr2.out.trans (hb.mono Hbr2.out.size))).cell 3 _ rfl
                          refine mild_val (.slice (some ad2) fl.blocks.length cb) ?_ (by simp [Ph.is])
                          simp [execOp, evalF, hp, hc, go_sem]
                        · -- 2: slot 109 := Op.move t7
                          refine ob_yes fun f w' hb hp => ?_
                          simp [PreOf, factOf, valOf, Ph.is, Ph.any, Region.binds] at hp
                          refine ⟨by simp [Gd, valOf, hp], ?_⟩
                          refine mild_val (.int .i64 (a : Int)) ?_ (by simp [Ph.is])
                          simp [execOp, evalF, hp, go_sem]
                        · -- 3: slot 110 := Op.indexAddr 60 t108 t109
                          refine ob_yes fun f w' hb hp => ?_
                          simp [PreOf, factOf, valOf, Ph.is, Ph.any, Region.binds] at hp
                          refine ⟨by simp [Gd, valOf, hp], ?_⟩
                          refine mild_val (.pointer (some (ad2.add a))) ?_ (by simp [Ph.is])
                          simp [execOp, evalF, hp, go_sem, hat]
                        · -- 4: slot 111 := Op.load 3 t110
                          refine ob_yes fun f w' hb hp => ?_
                          simp [PreOf, factOf, valOf, Ph.is, Ph.any, Region.binds] at hp
                          refine ⟨by simp [Gd, valOf, hp], ?_⟩
                          have hc := ((Hbr2.out.trans (hb.mono Hbr2.out.size)).cell (p := ad2.add a) (by rw [add_block]; omega)).trans Hca.out
                          refine mild_val (.int .i64 x) ?_ (by simp [Ph.is])
                          simp [execOp, evalF, hp, hc, go_sem]
                        · -- 5: slot 112 := Op.fieldAddr 56 t2 2
                          refine ob_yes fun f w' hb hp => ?_
                          simp [PreOf, factOf, valOf, Ph.is, Ph.any, Region.binds] at hp
                          refine ⟨by simp [Gd, valOf, hp], ?_⟩
                          refine mild_val (.pointer (some ⟨w.heap.size, 2, none⟩)) ?_ (by simp [Ph.is])
                          simp [execOp, evalF, hp, go_sem]
                        · -- 6: slot 113 := Op.load 54 t112
                          refine ob_yes fun f w' hb hp => ?_
                          simp [PreOf, factOf, valOf, Ph.is, Ph.any, Region.binds] at hp
                          refine ⟨by simp [Gd, valOf, hp], ?_⟩
                          have hc := (Xm.out.blwM (Hbr2.out.trans (hb.mono Hbr2.out.size))).cell 2 _ rfl
                          refine mild_val (.slice (some ad) m.files.length c) ?_ (by simp [Ph.is])
                          simp [execOp, evalF, hp, hc, go_sem]
                        · -- 7: slot 114 := Op.move t8
                          refine ob_yes fun f w' hb hp => ?_
                          simp [PreOf, factOf, valOf, Ph.is, Ph.any, Region.binds] at hp
                          refine ⟨by simp [Gd, valOf, hp], ?_⟩
                          refine mild_val (.int .i64 (q : Int)) ?_ (by simp [Ph.is])
                          simp [execOp, evalF, hp, go_sem]
                        · -- 8: slot 115 := Op.indexAddr 54 t113 t114
                          refine ob_yes fun f w' hb hp => ?_
                          simp [PreOf, factOf, valOf, Ph.is, Ph.any, Region.binds] at hp
                          refine ⟨by simp [Gd, valOf, hp], ?_⟩
                          refine mild_val (.pointer (some (ad.add (q * 4)))) ?_ (by simp [Ph.is])
                          simp [execOp, evalF, hp, go_sem, hql]
                        · -- 9: slot 116 := Op.fieldAddr 62 t115 3
                          refine ob_yes fun f w' hb hp => ?_
                          simp [PreOf, factOf, valOf, Ph.is, Ph.any, Region.binds] at hp
                          refine ⟨by simp [Gd, valOf, hp], ?_⟩
                          refine mild_val (.pointer (some { block := (ad.add (q * 4)).block, off := (ad.add (q * 4)).off + 3 })) ?_ (by simp [Ph.is])
                          simp [execOp, evalF, hp, go_sem]
                        · -- 10: slot 117 := Op.load 60 t116
                          refine ob_yes fun f w' hb hp => ?_
                          simp [PreOf, factOf, valOf, Ph.is, Ph.any, Region.binds] at hp
                          refine ⟨by simp [Gd, valOf, hp], ?_⟩
                          have hc := ((Hbr2.out.trans (hb.mono Hbr2.out.size)).cell (p := (ad.add (q * 4)).add 3) (by rw [add_block, add_block]; omega)).trans (Hcp.out 3 _ rfl)
                          rw [ha3] at hc
                          refine mild_val (.slice Ap pf.blocks.length cp) ?_ (by simp [Ph.is])
                          simp [execOp, evalF, hp, hc, go_sem]
                        · -- 11: slot 118 := Op.call   value (Operand.func 75), args := #[t111, t117], argTypes := #[3, 60]  
                          refine ob_yes fun f w' hb hp => ?_
                          simp [PreOf, factOf, valOf, Ph.is, Ph.any, Region.binds] at hp
                          refine ⟨by simp [Gd, valOf, hp], ?_⟩
                          refine mild_call 75 _ _ Try.f75 Try.func75 (by kernel_rfl) (by kernel_rfl) rfl ?_
                          simp [evalF, hp, Ph.is, Ph.any]
                          have hd := among_any w' w.heap.size (.slice Ap pf.blocks.length cp) pf.blocks x (HpI.out.below ((Hbr2.out.trans (hb.mono Hbr2.out.size)).mono (by omega)))
                          rw [← E1.out] at hd
                          refine (hd).mono fun ev w2 h => ?_
                          obtain ⟨rfl, rfl⟩ := h
                          first | exact ⟨_, rfl, Below.refl _ _, rfl⟩ | exact ⟨rfl, Below.refl _ _⟩ | exact Below.refl _ _ | simpa using Below.refl _ _
                      · intro f w2 hb2 hp
                        simp only [PostOf, Ph.is, Ph.any] at hp
                        obtain ⟨h0, h1, h2, h3, h4, h5, h6, h7, h8, h9, h10, h11, _⟩ := hp
                        simp only [fills, List.foldl_cons, List.foldl_nil, Act.put, List.setIfInBounds_toArray, List.set_cons_zero, List.set_cons_succ, h0, h1, h2, h3, h4, h5, h6, h7, h8, h9, h10, h11]
                        clear h0 h1 h2 h3 h4 h5 h6 h7 h8 h9 h10 h11
                        have hb4 := Hbr2.out.trans (hb2.mono Hbr2.out.size)
                        have Hb4 := Lib.hid hb4
                        clear hb2 hb4
                        cases e1 with
                        | true =>
                          go_wp2_with fail
                          go_ret
                          exact ⟨by rw [Hr.out, Hfa.out (by rw [Hbo.out, Hin.out (by first | rfl | trivial)]; rfl)]; rfl, Hb0'.out.trans (Hb4.out.mono (by omega))⟩
                        | false =>
                          go_wp2_with fail
                          go_roundw
                          case rel => exact ⟨q + 1, by omega, by go_num, by rw [Hsn.out]; rfl, Hb4.out⟩
                          case measure => simp [intOf]; omega
                    · obtain rfl : q = p := by omega
                      rw [hall, Bool.and_true] at Hbo
                      go_wp2_with fail
                      go_roundw
                      case rel => exact ⟨a + 1, by omega, by go_num, by rw [Hbo.out]; rfl, Hbr2.out⟩
                      case measure => simp [intOf]; omega
            · obtain rfl : a = fl.blocks.length := by omega
              go_wp2_with fail
              go_ret
              exact ⟨by rw [Hr.out, hok]; rfl, Hb0'.out.trans (Hbr.out.mono (by omega))⟩
end Go.Proofs.Ytpoicbhbkabllaa
