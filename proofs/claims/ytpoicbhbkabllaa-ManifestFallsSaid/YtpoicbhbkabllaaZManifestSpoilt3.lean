/- Lemmas for the law ManifestSpoilt: palmerref09.file, palmerref09.May (printed by wip/gen/manf.py); palmerref09.May; Sets (maps to struct{}); manifest.right (printed by wip/gen/manm.py); append(b, s...): a string's bytes behind an own row.; A call within a region of the mixed law.; manifest.body (printed by wip/gen/manb.py); slices.Equal at bytes.; The cyclic redundancy check in plain Lean: the table's way and the bit's way are one. No condition.; crc.table gives the table of the check's bytes. No condition.; crc.Sum gives the check of all rows' bytes, one behind the other. The rows are readable slices.; crc.Mark is the bytes with their check, in memory of one's own; crc.Fits tells whether bytes end in their check. The rows are readable slices of at most 2^40 bytes.; crc.Fits: bytes without their check, or the error. The row is a readable slice of at most 2^40 bytes.; What the check finds: bits turned within 32, and one byte turned, are never missed. Plain Lean. No condition.; Pages in plain Lean: what a page's block is; the code's test and the document's are one; what is found. No condition.; frame in plain Lean: a section's bytes, what is read of bytes; append(s, make([]byte, n)...) onto an own row of bytes. No condition beyond the size.; a Section in memory: a block of two cells; frame.Put, frame.Get compute what the plain functions say; The obligations of the law of one world-changing operation, one by one.. No condition. -/
import Derived.Test.YtpoicbhbkabllaaZManifestSpoilt2
import Derived.Maps.OwnSet
import Derived.Lib.AppendStr
import Derived.WalkKit
import Derived.Test.YtpoicbhbkabllaaRows
import Derived.Lib.AppendZerosOnto
import Derived.Deep.WholeRow
namespace Go.Proofs.Ytpoicbhbkabllaa
set_option linter.unusedSimpArgs false
set_option linter.unusedVariables false
open Go.RowKit

theorem blocksOk_succ (prev : List MFile) (l : List Int) (a : Nat) : blocksOk prev l (a + 1) = (blocksOk prev l a && blockOk prev l a) := by
  unfold blocksOk
  rw [List.range_succ, List.all_append]
  simp
theorem blocksOk_false (prev : List MFile) (l : List Int) (a : Nat) (h : blocksOk prev l (a + 1) = false) (n : Nat) (ha : a < n) : blocksOk prev l n = false := by
  unfold blocksOk at h ⊢
  rw [List.all_eq_false] at h ⊢
  obtain ⟨x, hx, hx2⟩ := h
  exact ⟨x, by simp at hx ⊢; omega, hx2⟩
theorem blockOk_eq (prev : List MFile) (l : List Int) (a : Nat) (ha : a < l.length) : blockOk prev l a = (!(decide (l[a] < 32) || decide (65536 ≤ l[a]) || decide (l[a] ∈ l.take a)) && prev.all fun p => !decide (l[a] ∈ p.blocks)) := by
  unfold blockOk
  rw [List.getD_eq_getElem?_getD, List.getElem?_eq_getElem ha]
  rfl
set_option maxRecDepth 100000 in
set_option maxHeartbeats 6400000 in
theorem rfile_any (w : World) (v : Value) (m : MMan) (h : MAt w w.heap.size v m) (i : Nat) (hi : i < m.files.length) :
    Calls Try.prog 51 #[v, .int .i64 i] w fun e w' => e = .returned (.bool (fileR m.next (m.files.take i) m.files[i])) ∧ Below w.heap.size w w' := by
  obtain ⟨vf, rfl, hf⟩ := h
  obtain ⟨A, c, rfl, hc1, hc2⟩ := hf.form
  unfold maxLen at hc2
  obtain ⟨_, ad, vb, rfl, hab, hbI, hfo, hcl⟩ := hf.cells i hi
  obtain ⟨Ab, cb, rfl, hcb1, hcb2⟩ := hbI.form
  unfold maxLen at hcb2
  have hnl := hfo.1
  unfold maxLen at hnl
  generalize hfk : m.files[i] = fl at *
  have hid := u32_lt fl.id
  have hnx := u32_lt m.next
  have hsz : (bst fl.name).size = fl.name.length := rfl
  obtain ⟨w1, hw1⟩ : ∃ w1, w1 = w.alloc (.cells (encM m (.slice (some ad) m.files.length c)).toArray 56) := ⟨_, rfl⟩
  obtain ⟨wf, hwf⟩ : ∃ wf, wf = w1.alloc (.cells (encF fl (.slice Ab fl.blocks.length cb)).toArray 62) := ⟨_, rfl⟩
  have hb1 : Below w.heap.size w w1 := by rw [hw1]; exact balloc w _
  have hbf : Below w1.heap.size w1 wf := by rw [hwf]; exact balloc w1 _
  have hx1 : BoxAt 56 w1 w.heap.size (encM m (.slice (some ad) m.files.length c)) := by rw [hw1]; exact BoxAt.new_ _ _ _
  have hxf : BoxAt 62 wf w1.heap.size (encF fl (.slice Ab fl.blocks.length cb)) := by rw [hwf]; exact BoxAt.new_ _ _ _
  have hz1 : w1.heap.size = w.heap.size + 1 := by rw [hw1]; simp
  have hzf : wf.heap.size = w.heap.size + 1 + 1 := by rw [hwf]; simp [hz1]
  have hb12 : Below w.heap.size w wf := bstep hb1 hbf
  have hcl1 : ∀ (j : Nat) (u : Value), (encF fl (.slice Ab fl.blocks.length cb))[j]? = some u → w1.cell? ((ad.add (i * 4)).add j) = some u := fun j u hu => (hb1.cell (by rw [add_block, add_block]; exact hab)).trans (hcl j u hu)
  have m2_1 := hx1.cell 2 _ rfl
  have Hw1 := Lib.hid hw1
  have Hwf := Lib.hid hwf
  have Xm := Lib.hid (hx1.blwM hbf)
  rw [hz1] at hxf
  have Xf := Lib.hid hxf
  have Hf := Lib.hid (hf.below hb12)
  have HbI := Lib.hid (hbI.below hb12)
  have Hb := Lib.hid hb12
  have Hcl := Lib.hid hcl1
  have Hfk := Lib.hid hfk
  clear hw1 hwf hx1 hxf hf hb1 hbf hb12 hcl hcl1 hbI hfk
  go_enter Try.func51, Try.ntmps51
  go_upto_region 1 with (fail)
  rw [← Hw1.out]
  go_upto_region 2 with (first
    | (refine wpList_load_agg rfl 62 (.tmp 12) rfl (ad.add (i * 4)) rfl (encF fl (.slice Ab fl.blocks.length cb)) Hcl.out Try.underlying62 rfl info_file4 ?_)
    | (refine wpList_alloc_z rfl 62 rfl info_file zeroFc zeroF_cells ?_)
    | (refine wpList_store_new rfl 62 (.tmp 5) (.tmp 13) rfl zeroFc (encF fl (.slice Ab fl.blocks.length cb)) rfl rfl info_file4 rfl (encF_one _ _ rfl) ?_))
  simp only [Act.put, List.setIfInBounds_toArray, List.set_cons_zero, List.set_cons_succ]
  rw [← Hwf.out]
  simp only [hz1]
  clear m2_1 Hcl Hw1 Hwf
  have hbas : basicF m.next fl = !(decide (fl.name.length < 1) || decide (32 < fl.name.length) || decide (m.next.toNat ≤ fl.id.toNat) || decide (fl.size < 0) || decide (manyOf fl.size ≠ (fl.blocks.length : Int))) := rfl
  obtain ⟨b1, hb1⟩ : ∃ b, b = decide (fl.name.length < 1) := ⟨_, rfl⟩
  obtain ⟨b2, hq2⟩ : ∃ b, b = decide (32 < fl.name.length) := ⟨_, rfl⟩
  obtain ⟨b3, hb3⟩ : ∃ b, b = decide (m.next.toNat ≤ fl.id.toNat) := ⟨_, rfl⟩
  obtain ⟨b4, hb4⟩ : ∃ b, b = decide (fl.size < 0) := ⟨_, rfl⟩
  obtain ⟨b5, hb5⟩ : ∃ b, b = decide (manyOf fl.size ≠ (fl.blocks.length : Int)) := ⟨_, rfl⟩
  rw [← hb1, ← hq2, ← hb3, ← hb4, ← hb5] at hbas
  have B1 := Lib.hid hb1
  have B2 := Lib.hid hq2
  have B3 := Lib.hid hb3
  have B4 := Lib.hid hb4
  have B5 := Lib.hid hb5
  have Hbas := Lib.hid hbas
  clear hb1 hq2 hb3 hb4 hb5 hbas
  refine wp_region_typed [some 14, some 15, some 16, some 17, some 18, some 19, some 20, some 21, some 22, some 23, some 24, some 25, some 26, some 27, some 28, some 29, some 30, some 31, some 32, some 33, some 34, some 35, some 36, some 37, some 38, some 39, some 40, some 41, some 42, some 43, some 44] [14, 15, 16, 17, 18, 19, 20, 21, 22, 23, 24, 25, 26, 27, 28, 29, 30, 31, 32, 33, 34, 35, 36, 37, 38, 39, 40, 41, 42, 43, 44]
    [Ph.is (.pointer (some ⟨w.heap.size + 1, 0, none⟩)),
      Ph.is (.string (bst fl.name)),
      Ph.is (.int .i64 (fl.name.length : Int)),
      Ph.is (.bool b1),
      Ph.is (.bool (b1)),
      Ph.is (bif b1 then undef else .pointer (some ⟨w.heap.size + 1, 0, none⟩)),
      Ph.is (bif b1 then undef else .string (bst fl.name)),
      Ph.is (bif b1 then undef else .int .i64 (fl.name.length : Int)),
      Ph.is (bif b1 then undef else .bool b2),
      Ph.is (.bool (b1 || b2)),
      Ph.is (.bool ((b1 || b2))),
      Ph.is (bif (b1 || b2) then undef else .pointer (some ⟨w.heap.size + 1, 1, none⟩)),
      Ph.is (bif (b1 || b2) then undef else .int .u32 (fl.id.toNat : Int)),
      Ph.is (bif (b1 || b2) then undef else .pointer (some ⟨w.heap.size, 1, none⟩)),
      Ph.is (bif (b1 || b2) then undef else .int .u32 (m.next.toNat : Int)),
      Ph.is (bif (b1 || b2) then undef else .bool b3),
      Ph.is (.bool (b1 || b2 || b3)),
      Ph.is (.bool ((b1 || b2 || b3))),
      Ph.is (bif (b1 || b2 || b3) then undef else .pointer (some ⟨w.heap.size + 1, 2, none⟩)),
      Ph.is (bif (b1 || b2 || b3) then undef else .int .i64 fl.size),
      Ph.is (bif (b1 || b2 || b3) then undef else .bool b4),
      Ph.is (.bool (b1 || b2 || b3 || b4)),
      Ph.is (.bool ((b1 || b2 || b3 || b4))),
      Ph.is (bif (b1 || b2 || b3 || b4) then undef else .pointer (some ⟨w.heap.size + 1, 2, none⟩)),
      Ph.is (bif (b1 || b2 || b3 || b4) then undef else .int .i64 fl.size),
      Ph.is (bif (b1 || b2 || b3 || b4) then undef else .int .i64 (manyOf fl.size)),
      Ph.is (bif (b1 || b2 || b3 || b4) then undef else .pointer (some ⟨w.heap.size + 1, 3, none⟩)),
      Ph.is (bif (b1 || b2 || b3 || b4) then undef else .slice Ab fl.blocks.length cb),
      Ph.is (bif (b1 || b2 || b3 || b4) then undef else .int .i64 (fl.blocks.length : Int)),
      Ph.is (bif (b1 || b2 || b3 || b4) then undef else .bool b5),
      Ph.is (.bool (b1 || b2 || b3 || b4 || b5))] rfl rfl (by kernel_rfl) (by kernel_rfl) ?_ ?_
  · refine ⟨?_, ?_, ?_, ?_, ?_, ?_, ?_, ?_, ?_, ?_, ?_, ?_, ?_, ?_, ?_, ?_, ?_, ?_, ?_, ?_, ?_, ?_, ?_, ?_, ?_, ?_, ?_, ?_, ?_, ?_, ?_, trivial⟩
    · -- 0: slot 14 := Op.fieldAddr 62 t5 0
      refine ob_yes fun f w' hb hp => ?_
      simp [PreOf, factOf, valOf, Ph.is, Ph.any, Region.binds] at hp
      refine ⟨by simp [Gd, valOf, hp], ?_⟩
      refine mild_val (.pointer (some ⟨w.heap.size + 1, 0, none⟩)) ?_ (by simp [Ph.is])
      simp [execOp, evalF, hp, go_sem]
    · -- 1: slot 15 := Op.load 9 t14
      refine ob_yes fun f w' hb hp => ?_
      simp [PreOf, factOf, valOf, Ph.is, Ph.any, Region.binds] at hp
      refine ⟨by simp [Gd, valOf, hp], ?_⟩
      have hc := (Xf.out.blwM hb).cell 0 _ rfl
      refine mild_val (.string (bst fl.name)) ?_ (by simp [Ph.is])
      simp [execOp, evalF, hp, hc, go_sem]
    · -- 2: slot 16 := Op.call   builtin len, args := #[t15], argTypes := #[9]  
      refine ob_yes fun f w' hb hp => ?_
      simp [PreOf, factOf, valOf, Ph.is, Ph.any, Region.binds] at hp
      refine ⟨by simp [Gd, valOf, hp], ?_⟩
      refine mild_val (.int .i64 (fl.name.length : Int)) ?_ (by simp [Ph.is])
      simp [execOp, evalF, hp, go_sem, hsz]
    · -- 3: slot 17 := Op.binOp BinOp.lss 3 t16 (const (1:i64)) 3
      refine ob_yes fun f w' hb hp => ?_
      simp [PreOf, factOf, valOf, Ph.is, Ph.any, Region.binds] at hp
      refine ⟨by simp [Gd, valOf, hp], ?_⟩
      refine mild_val (.bool b1) ?_ (by simp [Ph.is])
      simp [execOp, evalF, hp, go_sem]
      first | done | (rw [B1.out]; try first | rfl | exact decide_eq_decide.2 (by omega) | (simp; done) | (simp <;> omega) | (simp <;> rfl))
    · -- 4: slot 18 := Op.move t17
      refine ob_yes fun f w' hb hp => ?_
      simp [PreOf, factOf, valOf, Ph.is, Ph.any, Region.binds] at hp
      refine ⟨by simp [Gd, valOf, hp], ?_⟩
      refine mild_val (.bool (b1)) ?_ (by simp [Ph.is])
      simp [execOp, evalF, hp, go_sem]
    · -- 5: slot 19 := Op.fieldAddr 62 t5 0
      cases hG : (b1) with
      | true =>
        refine ob_no fun f w' hb hp => ?_
        simp [PreOf, factOf, valOf, Ph.is, Ph.any, Region.binds, hG] at hp
        exact ⟨by simp [Gd, valOf, hp], by simp [Ph.is]⟩
      | false =>
        refine ob_yes fun f w' hb hp => ?_
        simp [PreOf, factOf, valOf, Ph.is, Ph.any, Region.binds, hG] at hp
        refine ⟨by simp [Gd, valOf, hp], ?_⟩
        refine mild_val (.pointer (some ⟨w.heap.size + 1, 0, none⟩)) ?_ (by simp [Ph.is, hG])
        simp [execOp, evalF, hp, go_sem, hG]
    · -- 6: slot 20 := Op.load 9 t19
      cases hG : (b1) with
      | true =>
        refine ob_no fun f w' hb hp => ?_
        simp [PreOf, factOf, valOf, Ph.is, Ph.any, Region.binds, hG] at hp
        exact ⟨by simp [Gd, valOf, hp], by simp [Ph.is]⟩
      | false =>
        refine ob_yes fun f w' hb hp => ?_
        simp [PreOf, factOf, valOf, Ph.is, Ph.any, Region.binds, hG] at hp
        refine ⟨by simp [Gd, valOf, hp], ?_⟩
        have hc := (Xf.out.blwM hb).cell 0 _ rfl
        refine mild_val (.string (bst fl.name)) ?_ (by simp [Ph.is, hG])
        simp [execOp, evalF, hp, hc, go_sem, hG]
    · -- 7: slot 21 := Op.call   builtin len, args := #[t20], argTypes := #[9]  
      cases hG : (b1) with
      | true =>
        refine ob_no fun f w' hb hp => ?_
        simp [PreOf, factOf, valOf, Ph.is, Ph.any, Region.binds, hG] at hp
        exact ⟨by simp [Gd, valOf, hp], by simp [Ph.is]⟩
      | false =>
        refine ob_yes fun f w' hb hp => ?_
        simp [PreOf, factOf, valOf, Ph.is, Ph.any, Region.binds, hG] at hp
        refine ⟨by simp [Gd, valOf, hp], ?_⟩
        refine mild_val (.int .i64 (fl.name.length : Int)) ?_ (by simp [Ph.is, hG])
        simp [execOp, evalF, hp, go_sem, hsz, hG]
    · -- 8: slot 22 := Op.binOp BinOp.gtr 3 t21 (const (32:i64)) 3
      cases hG : (b1) with
      | true =>
        refine ob_no fun f w' hb hp => ?_
        simp [PreOf, factOf, valOf, Ph.is, Ph.any, Region.binds, hG] at hp
        exact ⟨by simp [Gd, valOf, hp], by simp [Ph.is]⟩
      | false =>
        refine ob_yes fun f w' hb hp => ?_
        simp [PreOf, factOf, valOf, Ph.is, Ph.any, Region.binds, hG] at hp
        refine ⟨by simp [Gd, valOf, hp], ?_⟩
        refine mild_val (.bool b2) ?_ (by simp [Ph.is, hG])
        simp [execOp, evalF, hp, go_sem, hG]
        first | done | (rw [B2.out]; try first | rfl | exact decide_eq_decide.2 (by omega) | (simp; done) | (simp <;> omega) | (simp <;> rfl))
    · -- 9: slot 23 := Op.pick t18 (const (Value.bool true)) t22
      cases hG : (b1) with
      | true =>
        refine ob_yes fun f w' hb hp => ?_
        simp [PreOf, factOf, valOf, Ph.is, Ph.any, Region.binds, hG] at hp
        refine ⟨by simp [Gd, valOf, hp], ?_⟩
        refine mild_val (.bool (b1 || b2)) ?_ (by simp [Ph.is, hG])
        simp [execOp, evalF, hp, go_sem, hG]
      | false =>
        refine ob_yes fun f w' hb hp => ?_
        simp [PreOf, factOf, valOf, Ph.is, Ph.any, Region.binds, hG] at hp
        refine ⟨by simp [Gd, valOf, hp], ?_⟩
        refine mild_val (.bool (b1 || b2)) ?_ (by simp [Ph.is, hG])
        simp [execOp, evalF, hp, go_sem, hG]
    · -- 10: slot 24 := Op.move t23
      refine ob_yes fun f w' hb hp => ?_
      simp [PreOf, factOf, valOf, Ph.is, Ph.any, Region.binds] at hp
      refine ⟨by simp [Gd, valOf, hp], ?_⟩
      refine mild_val (.bool ((b1 || b2))) ?_ (by simp [Ph.is])
      simp [execOp, evalF, hp, go_sem]
    · -- 11: slot 25 := Op.fieldAddr 62 t5 1
      cases hG : ((b1 || b2)) with
      | true =>
        refine ob_no fun f w' hb hp => ?_
        simp [PreOf, factOf, valOf, Ph.is, Ph.any, Region.binds, hG] at hp
        exact ⟨by simp [Gd, valOf, hp], by simp [Ph.is]⟩
      | false =>
        refine ob_yes fun f w' hb hp => ?_
        simp [PreOf, factOf, valOf, Ph.is, Ph.any, Region.binds, hG] at hp
        refine ⟨by simp [Gd, valOf, hp], ?_⟩
        refine mild_val (.pointer (some ⟨w.heap.size + 1, 1, none⟩)) ?_ (by simp [Ph.is, hG])
        simp [execOp, evalF, hp, go_sem, hG]
    · -- 12: slot 26 := Op.load 53 t25
      cases hG : ((b1 || b2)) with
      | true =>
        refine ob_no fun f w' hb hp => ?_
        simp [PreOf, factOf, valOf, Ph.is, Ph.any, Region.binds, hG] at hp
        exact ⟨by simp [Gd, valOf, hp], by simp [Ph.is]⟩
      | false =>
        refine ob_yes fun f w' hb hp => ?_
        simp [PreOf, factOf, valOf, Ph.is, Ph.any, Region.binds, hG] at hp
        refine ⟨by simp [Gd, valOf, hp], ?_⟩
        have hc := (Xf.out.blwM hb).cell 1 _ rfl
        refine mild_val (.int .u32 (fl.id.toNat : Int)) ?_ (by simp [Ph.is, hG])
        simp [execOp, evalF, hp, hc, go_sem, hG]
    · -- 13: slot 27 := Op.fieldAddr 56 t2 1
      cases hG : ((b1 || b2)) with
      | true =>
        refine ob_no fun f w' hb hp => ?_
        simp [PreOf, factOf, valOf, Ph.is, Ph.any, Region.binds, hG] at hp
        exact ⟨by simp [Gd, valOf, hp], by simp [Ph.is]⟩
      | false =>
        refine ob_yes fun f w' hb hp => ?_
        simp [PreOf, factOf, valOf, Ph.is, Ph.any, Region.binds, hG] at hp
        refine ⟨by simp [Gd, valOf, hp], ?_⟩
        refine mild_val (.pointer (some ⟨w.heap.size, 1, none⟩)) ?_ (by simp [Ph.is, hG])
        simp [execOp, evalF, hp, go_sem, hG]
    · -- 14: slot 28 := Op.load 53 t27
      cases hG : ((b1 || b2)) with
      | true =>
        refine ob_no fun f w' hb hp => ?_
        simp [PreOf, factOf, valOf, Ph.is, Ph.any, Region.binds, hG] at hp
        exact ⟨by simp [Gd, valOf, hp], by simp [Ph.is]⟩
      | false =>
        refine ob_yes fun f w' hb hp => ?_
        simp [PreOf, factOf, valOf, Ph.is, Ph.any, Region.binds, hG] at hp
        refine ⟨by simp [Gd, valOf, hp], ?_⟩
        have hc := (Xm.out.blwM hb).cell 1 _ rfl
        refine mild_val (.int .u32 (m.next.toNat : Int)) ?_ (by simp [Ph.is, hG])
        simp [execOp, evalF, hp, hc, go_sem, hG]
    · -- 15: slot 29 := Op.binOp BinOp.geq 53 t26 t28 53
      cases hG : ((b1 || b2)) with
      | true =>
        refine ob_no fun f w' hb hp => ?_
        simp [PreOf, factOf, valOf, Ph.is, Ph.any, Region.binds, hG] at hp
        exact ⟨by simp [Gd, valOf, hp], by simp [Ph.is]⟩
      | false =>
        refine ob_yes fun f w' hb hp => ?_
        simp [PreOf, factOf, valOf, Ph.is, Ph.any, Region.binds, hG] at hp
        refine ⟨by simp [Gd, valOf, hp], ?_⟩
        refine mild_val (.bool b3) ?_ (by simp [Ph.is, hG])
        simp [execOp, evalF, hp, go_sem, hG]
        first | done | (rw [B3.out]; try first | rfl | exact decide_eq_decide.2 (by omega) | (simp; done) | (simp <;> omega) | (simp <;> rfl))
    · -- 16: slot 30 := Op.pick t24 (const (Value.bool true)) t29
      cases hG : ((b1 || b2)) with
      | true =>
        refine ob_yes fun f w' hb hp => ?_
        simp [PreOf, factOf, valOf, Ph.is, Ph.any, Region.binds, hG] at hp
        refine ⟨by simp [Gd, valOf, hp], ?_⟩
        refine mild_val (.bool (b1 || b2 || b3)) ?_ (by simp [Ph.is, hG])
        simp [execOp, evalF, hp, go_sem, hG]
      | false =>
        refine ob_yes fun f w' hb hp => ?_
        simp [PreOf, factOf, valOf, Ph.is, Ph.any, Region.binds, hG] at hp
        refine ⟨by simp [Gd, valOf, hp], ?_⟩
        refine mild_val (.bool (b1 || b2 || b3)) ?_ (by simp [Ph.is, hG])
        simp [execOp, evalF, hp, go_sem, hG]
    · -- 17: slot 31 := Op.move t30
      refine ob_yes fun f w' hb hp => ?_
      simp [PreOf, factOf, valOf, Ph.is, Ph.any, Region.binds] at hp
      refine ⟨by simp [Gd, valOf, hp], ?_⟩
      refine mild_val (.bool ((b1 || b2 || b3))) ?_ (by simp [Ph.is])
      simp [execOp, evalF, hp, go_sem]
    · -- 18: slot 32 := Op.fieldAddr 62 t5 2
      cases hG : ((b1 || b2 || b3)) with
      | true =>
        refine ob_no fun f w' hb hp => ?_
        simp [PreOf, factOf, valOf, Ph.is, Ph.any, Region.binds, hG] at hp
        exact ⟨by simp [Gd, valOf, hp], by simp [Ph.is]⟩
      | false =>
        refine ob_yes fun f w' hb hp => ?_
        simp [PreOf, factOf, valOf, Ph.is, Ph.any, Region.binds, hG] at hp
        refine ⟨by simp [Gd, valOf, hp], ?_⟩
        refine mild_val (.pointer (some ⟨w.heap.size + 1, 2, none⟩)) ?_ (by simp [Ph.is, hG])
        simp [execOp, evalF, hp, go_sem, hG]
    · -- 19: slot 33 := Op.load 3 t32
      cases hG : ((b1 || b2 || b3)) with
      | true =>
        refine ob_no fun f w' hb hp => ?_
        simp [PreOf, factOf, valOf, Ph.is, Ph.any, Region.binds, hG] at hp
        exact ⟨by simp [Gd, valOf, hp], by simp [Ph.is]⟩
      | false =>
        refine ob_yes fun f w' hb hp => ?_
        simp [PreOf, factOf, valOf, Ph.is, Ph.any, Region.binds, hG] at hp
        refine ⟨by simp [Gd, valOf, hp], ?_⟩
        have hc := (Xf.out.blwM hb).cell 2 _ rfl
        refine mild_val (.int .i64 fl.size) ?_ (by simp [Ph.is, hG])
        simp [execOp, evalF, hp, hc, go_sem, hG]
    · -- 20: slot 34 := Op.binOp BinOp.lss 3 t33 (const (0:i64)) 3
      cases hG : ((b1 || b2 || b3)) with
      | true =>
        refine ob_no fun f w' hb hp => ?_
        simp [PreOf, factOf, valOf, Ph.is, Ph.any, Region.binds, hG] at hp
        exact ⟨by simp [Gd, valOf, hp], by simp [Ph.is]⟩
      | false =>
        refine ob_yes fun f w' hb hp => ?_
        simp [PreOf, factOf, valOf, Ph.is, Ph.any, Region.binds, hG] at hp
        refine ⟨by simp [Gd, valOf, hp], ?_⟩
        refine mild_val (.bool b4) ?_ (by simp [Ph.is, hG])
        simp [execOp, evalF, hp, go_sem, hG]
        first | done | (rw [B4.out]; try first | rfl | exact decide_eq_decide.2 (by omega) | (simp; done) | (simp <;> omega) | (simp <;> rfl))
    · -- 21: slot 35 := Op.pick t31 (const (Value.bool true)) t34
      cases hG : ((b1 || b2 || b3)) with
      | true =>
        refine ob_yes fun f w' hb hp => ?_
        simp [PreOf, factOf, valOf, Ph.is, Ph.any, Region.binds, hG] at hp
        refine ⟨by simp [Gd, valOf, hp], ?_⟩
        refine mild_val (.bool (b1 || b2 || b3 || b4)) ?_ (by simp [Ph.is, hG])
        simp [execOp, evalF, hp, go_sem, hG]
      | false =>
        refine ob_yes fun f w' hb hp => ?_
        simp [PreOf, factOf, valOf, Ph.is, Ph.any, Region.binds, hG] at hp
        refine ⟨by simp [Gd, valOf, hp], ?_⟩
        refine mild_val (.bool (b1 || b2 || b3 || b4)) ?_ (by simp [Ph.is, hG])
        simp [execOp, evalF, hp, go_sem, hG]
    · -- 22: slot 36 := Op.move t35
      refine ob_yes fun f w' hb hp => ?_
      simp [PreOf, factOf, valOf, Ph.is, Ph.any, Region.binds] at hp
      refine ⟨by simp [Gd, valOf, hp], ?_⟩
      refine mild_val (.bool ((b1 || b2 || b3 || b4))) ?_ (by simp [Ph.is])
      simp [execOp, evalF, hp, go_sem]
    · -- 23: slot 37 := Op.fieldAddr 62 t5 2
      cases hG : ((b1 || b2 || b3 || b4)) with
      | true =>
        refine ob_no fun f w' hb hp => ?_
        simp [PreOf, factOf, valOf, Ph.is, Ph.any, Region.binds, hG] at hp
        exact ⟨by simp [Gd, valOf, hp], by simp [Ph.is]⟩
      | false =>
        refine ob_yes fun f w' hb hp => ?_
        simp [PreOf, factOf, valOf, Ph.is, Ph.any, Region.binds, hG] at hp
        refine ⟨by simp [Gd, valOf, hp], ?_⟩
        refine mild_val (.pointer (some ⟨w.heap.size + 1, 2, none⟩)) ?_ (by simp [Ph.is, hG])
        simp [execOp, evalF, hp, go_sem, hG]
    · -- 24: slot 38 := Op.load 3 t37
      cases hG : ((b1 || b2 || b3 || b4)) with
      | true =>
        refine ob_no fun f w' hb hp => ?_
        simp [PreOf, factOf, valOf, Ph.is, Ph.any, Region.binds, hG] at hp
        exact ⟨by simp [Gd, valOf, hp], by simp [Ph.is]⟩
      | false =>
        refine ob_yes fun f w' hb hp => ?_
        simp [PreOf, factOf, valOf, Ph.is, Ph.any, Region.binds, hG] at hp
        refine ⟨by simp [Gd, valOf, hp], ?_⟩
        have hc := (Xf.out.blwM hb).cell 2 _ rfl
        refine mild_val (.int .i64 fl.size) ?_ (by simp [Ph.is, hG])
        simp [execOp, evalF, hp, hc, go_sem, hG]
    · -- 25: slot 39 := Op.call   value (Operand.func 63), args := #[t38], argTypes := #[3]  
      cases hG : ((b1 || b2 || b3 || b4)) with
      | true =>
        refine ob_no fun f w' hb hp => ?_
        simp [PreOf, factOf, valOf, Ph.is, Ph.any, Region.binds, hG] at hp
        exact ⟨by simp [Gd, valOf, hp], by simp [Ph.is]⟩
      | false =>
        refine ob_yes fun f w' hb hp => ?_
        simp [PreOf, factOf, valOf, Ph.is, Ph.any, Region.binds, hG] at hp
        refine ⟨by simp [Gd, valOf, hp], ?_⟩
        refine mild_call 63 _ _ Try.f63 Try.func63 (by kernel_rfl) (by kernel_rfl) rfl ?_
        simp [evalF, hp, Ph.is, Ph.any, hG]
        refine (rmany_any w' fl.size hfo.2.1 hfo.2.2).mono fun ev w2 h => ?_
        obtain ⟨rfl, rfl⟩ := h
        first | exact ⟨_, rfl, Below.refl _ _, rfl⟩ | exact ⟨rfl, Below.refl _ _⟩ | exact Below.refl _ _ | simpa using Below.refl _ _
    · -- 26: slot 40 := Op.fieldAddr 62 t5 3
      cases hG : ((b1 || b2 || b3 || b4)) with
      | true =>
        refine ob_no fun f w' hb hp => ?_
        simp [PreOf, factOf, valOf, Ph.is, Ph.any, Region.binds, hG] at hp
        exact ⟨by simp [Gd, valOf, hp], by simp [Ph.is]⟩
      | false =>
        refine ob_yes fun f w' hb hp => ?_
        simp [PreOf, factOf, valOf, Ph.is, Ph.any, Region.binds, hG] at hp
        refine ⟨by simp [Gd, valOf, hp], ?_⟩
        refine mild_val (.pointer (some ⟨w.heap.size + 1, 3, none⟩)) ?_ (by simp [Ph.is, hG])
        simp [execOp, evalF, hp, go_sem, hG]
    · -- 27: slot 41 := Op.load 60 t40
      cases hG : ((b1 || b2 || b3 || b4)) with
      | true =>
        refine ob_no fun f w' hb hp => ?_
        simp [PreOf, factOf, valOf, Ph.is, Ph.any, Region.binds, hG] at hp
        exact ⟨by simp [Gd, valOf, hp], by simp [Ph.is]⟩
      | false =>
        refine ob_yes fun f w' hb hp => ?_
        simp [PreOf, factOf, valOf, Ph.is, Ph.any, Region.binds, hG] at hp
        refine ⟨by simp [Gd, valOf, hp], ?_⟩
        have hc := (Xf.out.blwM hb).cell 3 _ rfl
        refine mild_val (.slice Ab fl.blocks.length cb) ?_ (by simp [Ph.is, hG])
        simp [execOp, evalF, hp, hc, go_sem, hG]
    · -- 28: slot 42 := Op.call   builtin len, args := #[t41], argTypes := #[60]  
      cases hG : ((b1 || b2 || b3 || b4)) with
      | true =>
        refine ob_no fun f w' hb hp => ?_
        simp [PreOf, factOf, valOf, Ph.is, Ph.any, Region.binds, hG] at hp
        exact ⟨by simp [Gd, valOf, hp], by simp [Ph.is]⟩
      | false =>
        refine ob_yes fun f w' hb hp => ?_
        simp [PreOf, factOf, valOf, Ph.is, Ph.any, Region.binds, hG] at hp
        refine ⟨by simp [Gd, valOf, hp], ?_⟩
        refine mild_val (.int .i64 (fl.blocks.length : Int)) ?_ (by simp [Ph.is, hG])
        simp [execOp, evalF, hp, go_sem, hG]
    · -- 29: slot 43 := Op.binOp BinOp.neq 3 t39 t42 3
      cases hG : ((b1 || b2 || b3 || b4)) with
      | true =>
        refine ob_no fun f w' hb hp => ?_
        simp [PreOf, factOf, valOf, Ph.is, Ph.any, Region.binds, hG] at hp
        exact ⟨by simp [Gd, valOf, hp], by simp [Ph.is]⟩
      | false =>
        refine ob_yes fun f w' hb hp => ?_
        simp [PreOf, factOf, valOf, Ph.is, Ph.any, Region.binds, hG] at hp
        refine ⟨by simp [Gd, valOf, hp], ?_⟩
        refine mild_val (.bool b5) ?_ (by simp [Ph.is, hG])
        simp [execOp, evalF, hp, go_sem, hG]
        first | done | (rw [B5.out]; try first | rfl | exact decide_eq_decide.2 (by omega) | (simp; done) | (simp <;> omega) | (simp <;> rfl))
    · -- 30: slot 44 := Op.pick t36 (const (Value.bool true)) t43
      cases hG : ((b1 || b2 || b3 || b4)) with
      | true =>
        refine ob_yes fun f w' hb hp => ?_
        simp [PreOf, factOf, valOf, Ph.is, Ph.any, Region.binds, hG] at hp
        refine ⟨by simp [Gd, valOf, hp], ?_⟩
        refine mild_val (.bool (b1 || b2 || b3 || b4 || b5)) ?_ (by simp [Ph.is, hG])
        simp [execOp, evalF, hp, go_sem, hG]
      | false =>
        refine ob_yes fun f w' hb hp => ?_
        simp [PreOf, factOf, valOf, Ph.is, Ph.any, Region.binds, hG] at hp
        refine ⟨by simp [Gd, valOf, hp], ?_⟩
        refine mild_val (.bool (b1 || b2 || b3 || b4 || b5)) ?_ (by simp [Ph.is, hG])
        simp [execOp, evalF, hp, go_sem, hG]
  · intro f w2 hb2 hp
    simp only [PostOf, Ph.is, Ph.any] at hp
    obtain ⟨h0, h1, h2, h3, h4, h5, h6, h7, h8, h9, h10, h11, h12, h13, h14, h15, h16, h17, h18, h19, h20, h21, h22, h23, h24, h25, h26, h27, h28, h29, h30, _⟩ := hp
    simp only [fills, List.foldl_cons, List.foldl_nil, Act.put, List.setIfInBounds_toArray, List.set_cons_zero, List.set_cons_succ, h0, h1, h2, h3, h4, h9, h10, h16, h17, h21, h22, h30]
    clear h0 h1 h2 h3 h4 h9 h10 h16 h17 h21 h22 h30 h5 h6 h7 h8 h11 h12 h13 h14 h15 h18 h19 h20 h23 h24 h25 h26 h27 h28 h29
    generalize f 19 = v19
    generalize f 20 = v20
    generalize f 21 = v21
    generalize f 22 = v22
    generalize f 25 = v25
    generalize f 26 = v26
    generalize f 27 = v27
    generalize f 28 = v28
    generalize f 29 = v29
    generalize f 32 = v32
    generalize f 33 = v33
    generalize f 34 = v34
    generalize f 37 = v37
    generalize f 38 = v38
    generalize f 39 = v39
    generalize f 40 = v40
    generalize f 41 = v41
    generalize f 42 = v42
    generalize f 43 = v43
    have hb0 := Hb.out.trans (hb2.mono (by omega))
    have hbf : Below wf.heap.size wf w2 := hb2
    have Hb0 := Lib.hid hb0
    have Hb0' := Hb
    have Hbf := Lib.hid hbf
    clear hb0 hbf hb2
    cases hB : (b1 || b2 || b3 || b4 || b5) with
    | true =>
      rw [hB] at Hbas
      have hr : fileR m.next (m.files.take i) fl = false := by unfold fileR; rw [Hbas.out]; rfl
      have Hr := Lib.hid hr
      clear hr
      go_wp2_with fail
      go_ret
      exact ⟨by rw [Hr.out]; rfl, Hb0.out⟩
    | false =>
      rw [hB] at Hbas
      have hr : fileR m.next (m.files.take i) fl = ((m.files.take i).all (fun p => besideF p fl) && blocksOk (m.files.take i) fl.blocks fl.blocks.length) := by unfold fileR; rw [Hbas.out]; simp
      have Hr := Lib.hid hr
      clear hr
      go_wp2_with fail
      go_loopw [6] (fun iv wr => ∃ p : Nat, p ≤ i ∧ iv = .int .i64 p ∧ (m.files.take p).all (fun q => besideF q fl) = true ∧ Below wf.heap.size wf wr) (fun iv _ => i - (intOf iv).toNat)
      case atStart => exact ⟨0, by omega, rfl, rfl, Hbf.out⟩
      case round =>
        obtain ⟨p, hp0, rfl, hbes, hbr⟩ := hrel
        have Hbr := Lib.hid hbr
        clear hbr
        by_cases hlt : p < i
        · have hpl : p < m.files.length := by omega
          obtain ⟨_, ad', vp, e, hab', hpI, hpo, hcp⟩ := Hf.out.cells p hpl
          injection e with e
          subst e
          obtain ⟨Ap, cp, rfl, hcp1, hcp2⟩ := hpI.form
          have hsn : (m.files.take (p + 1)).all (fun q => besideF q fl) = besideF m.files[p] fl := by
            rw [List.take_add_one, List.getElem?_eq_getElem hpl, Option.toList_some, List.all_append, hbes]; simp
          have hin : besideF m.files[p] fl = false → (m.files.take i).all (fun q => besideF q fl) = false := fun h => by
            rw [List.all_eq_false]
            exact ⟨m.files[p], by rw [List.mem_take_iff_getElem]; exact ⟨p, by omega, rfl⟩, by rw [h]; simp⟩
          generalize hpk : m.files[p] = pf at *
          have hpid := u32_lt pf.id
          have Hsn := Lib.hid hsn
          have Hin := Lib.hid hin
          have Hcp := Lib.hid hcp
          have hbs : besideF pf fl = !(decide (pf.id = fl.id) || !(bless pf.name fl.name)) := rfl
          have hidc : decide ((pf.id.toNat : Int) = (fl.id.toNat : Int)) = decide (pf.id = fl.id) := decide_eq_decide.2 (by rw [← UInt32.toNat_inj]; omega)
          obtain ⟨c1, hc1⟩ : ∃ b, b = decide ((pf.id.toNat : Int) = (fl.id.toNat : Int)) := ⟨_, rfl⟩
          obtain ⟨c2, hc2⟩ : ∃ b, b = !(bless pf.name fl.name) := ⟨_, rfl⟩
          rw [← hidc, ← hc1, ← hc2] at hbs
          have C1 := Lib.hid hc1
          have C2 := Lib.hid hc2
          have Hbs := Lib.hid hbs
          have ha1 := add_mid' (ad.add (p * 4)) 1 (by decide)
          have ha0 : ((ad.add (p * 4)).add 0) = ad.add (p * 4) := by simp [Addr.add]
          clear hsn hin hcp hbs hidc hc1 hc2 hpI hpo hpk
          go_wp2_with fail
          refine wp_region_typed [some 50, some 51, some 52, some 53, some 54, some 55, some 56, some 57, some 58, some 59, some 60, some 61, some 62, some 63, some 64, some 65, some 66, some 67, some 68, some 69] [50, 51, 52, 53, 54, 55, 56, 57, 58, 59, 60, 61, 62, 63, 64, 65, 66, 67, 68, 69]
            [Ph.is (.pointer (some ⟨w.heap.size, 2, none⟩)),
              Ph.is (.slice (some ad) m.files.length c),
              Ph.is (.int .i64 (p : Int)),
              Ph.is (.pointer (some (ad.add (p * 4)))),
              Ph.is (.pointer (some { block := (ad.add (p * 4)).block, off := (ad.add (p * 4)).off + 1 })),
              Ph.is (.int .u32 (pf.id.toNat : Int)),
              Ph.is (.pointer (some ⟨w.heap.size + 1, 1, none⟩)),
              Ph.is (.int .u32 (fl.id.toNat : Int)),
              Ph.is (.bool c1),
              Ph.is (.bool (c1)),
              Ph.is (bif c1 then undef else .pointer (some ⟨w.heap.size, 2, none⟩)),
              Ph.is (bif c1 then undef else .slice (some ad) m.files.length c),
              Ph.is (bif c1 then undef else .int .i64 (p : Int)),
              Ph.is (bif c1 then undef else .pointer (some (ad.add (p * 4)))),
              Ph.is (bif c1 then undef else .pointer (some (ad.add (p * 4)))),
              Ph.is (bif c1 then undef else .string (bst pf.name)),
              Ph.is (bif c1 then undef else .pointer (some ⟨w.heap.size + 1, 0, none⟩)),
              Ph.is (bif c1 then undef else .string (bst fl.name)),
              Ph.is (bif c1 then undef else .bool c2),
              Ph.is (.bool (c1 || c2))] rfl rfl (by kernel_rfl) (by kernel_rfl) ?_ ?_
          · refine ⟨?_, ?_, ?_, ?_, ?_, ?_, ?_, ?_, ?_, ?_, ?_, ?_, ?_, ?_, ?_, ?_, ?_, ?_, ?_, ?_, trivial⟩
            · -- 0: slot 50 := Op.fieldAddr 56 t2 2
              refine ob_yes fun f w' hb hp => ?_
              simp [PreOf, factOf, valOf, Ph.is, Ph.any, Region.binds] at hp
              refine ⟨by simp [Gd, valOf, hp], ?_⟩
              refine mild_val (.pointer (some ⟨w.heap.size, 2, none⟩)) ?_ (by simp [Ph.is])
              simp [execOp, evalF, hp, go_sem]
            · -- 1: slot 51 := Op.load 54 t50
              refine ob_yes fun f w' hb hp => ?_
              simp [PreOf, factOf, valOf, Ph.is, Ph.any, Region.binds] at hp
              refine ⟨by simp [Gd, valOf, hp], ?_⟩
              have hc := (Xm.out.blwM (Hbr.out.trans (hb.mono Hbr.out.size))).cell 2 _ rfl
              refine mild_val (.slice (some ad) m.files.length c) ?_ (by simp [Ph.is])
              simp [execOp, evalF, hp, hc, go_sem]
            · -- 2: slot 52 := Op.move t6
              refine ob_yes fun f w' hb hp => ?_
              simp [PreOf, factOf, valOf, Ph.is, Ph.any, Region.binds] at hp
              refine ⟨by simp [Gd, valOf, hp], ?_⟩
              refine mild_val (.int .i64 (p : Int)) ?_ (by simp [Ph.is])
              simp [execOp, evalF, hp, go_sem]
            · -- 3: slot 53 := Op.indexAddr 54 t51 t52
              refine ob_yes fun f w' hb hp => ?_
              simp [PreOf, factOf, valOf, Ph.is, Ph.any, Region.binds] at hp
              refine ⟨by simp [Gd, valOf, hp], ?_⟩
              refine mild_val (.pointer (some (ad.add (p * 4)))) ?_ (by simp [Ph.is])
              simp [execOp, evalF, hp, go_sem, hpl]
            · -- 4: slot 54 := Op.fieldAddr 62 t53 1
              refine ob_yes fun f w' hb hp => ?_
              simp [PreOf, factOf, valOf, Ph.is, Ph.any, Region.binds] at hp
              refine ⟨by simp [Gd, valOf, hp], ?_⟩
              refine mild_val (.pointer (some { block := (ad.add (p * 4)).block, off := (ad.add (p * 4)).off + 1 })) ?_ (by simp [Ph.is])
              simp [execOp, evalF, hp, go_sem]
            · -- 5: slot 55 := Op.load 53 t54
              refine ob_yes fun f w' hb hp => ?_
              simp [PreOf, factOf, valOf, Ph.is, Ph.any, Region.binds] at hp
              refine ⟨by simp [Gd, valOf, hp], ?_⟩
              have hc := ((Hbr.out.trans (hb.mono Hbr.out.size)).cell (p := (ad.add (p * 4)).add 1) (by rw [add_block, add_block]; omega)).trans (Hcp.out 1 _ rfl)
              rw [ha1] at hc
              refine mild_val (.int .u32 (pf.id.toNat : Int)) ?_ (by simp [Ph.is])
              simp [execOp, evalF, hp, hc, go_sem]
            · -- 6: slot 56 := Op.fieldAddr 62 t5 1
              refine ob_yes fun f w' hb hp => ?_
              simp [PreOf, factOf, valOf, Ph.is, Ph.any, Region.binds] at hp
              refine ⟨by simp [Gd, valOf, hp], ?_⟩
              refine mild_val (.pointer (some ⟨w.heap.size + 1, 1, none⟩)) ?_ (by simp [Ph.is])
              simp [execOp, evalF, hp, go_sem]
            · -- 7: slot 57 := Op.load 53 t56
              refine ob_yes fun f w' hb hp => ?_
              simp [PreOf, factOf, valOf, Ph.is, Ph.any, Region.binds] at hp
              refine ⟨by simp [Gd, valOf, hp], ?_⟩
              have hc := (Xf.out.blwM (Hbr.out.trans (hb.mono Hbr.out.size))).cell 1 _ rfl
              refine mild_val (.int .u32 (fl.id.toNat : Int)) ?_ (by simp [Ph.is])
              simp [execOp, evalF, hp, hc, go_sem]
            · -- 8: slot 58 := Op.binOp BinOp.eql 53 t55 t57 53
              refine ob_yes fun f w' hb hp => ?_
              simp [PreOf, factOf, valOf, Ph.is, Ph.any, Region.binds] at hp
              refine ⟨by simp [Gd, valOf, hp], ?_⟩
              refine mild_val (.bool c1) ?_ (by simp [Ph.is])
              simp [execOp, evalF, hp, go_sem]
              first | done | (rw [C1.out]; try first | rfl | exact decide_eq_decide.2 (by omega) | (simp; done) | (simp <;> omega) | (simp <;> rfl))
            · -- 9: slot 59 := Op.move t58
              refine ob_yes fun f w' hb hp => ?_
              simp [PreOf, factOf, valOf, Ph.is, Ph.any, Region.binds] at hp
              refine ⟨by simp [Gd, valOf, hp], ?_⟩
              refine mild_val (.bool (c1)) ?_ (by simp [Ph.is])
              simp [execOp, evalF, hp, go_sem]
            · -- 10: slot 60 := Op.fieldAddr 56 t2 2
              cases hG : (c1) with
              | true =>
                refine ob_no fun f w' hb hp => ?_
                simp [PreOf, factOf, valOf, Ph.is, Ph.any, Region.binds, hG] at hp
                exact ⟨by simp [Gd, valOf, hp], by simp [Ph.is]⟩
              | false =>
                refine ob_yes fun f w' hb hp => ?_
                simp [PreOf, factOf, valOf, Ph.is, Ph.any, Region.binds, hG] at hp
                refine ⟨by simp [Gd, valOf, hp], ?_⟩
                refine mild_val (.pointer (some ⟨w.heap.size, 2, none⟩)) ?_ (by simp [Ph.is, hG])
                simp [execOp, evalF, hp, go_sem, hG]
            · -- 11: slot 61 := Op.load 54 t60
              cases hG : (c1) with
              | true =>
                refine ob_no fun f w' hb hp => ?_
                simp [PreOf, factOf, valOf, Ph.is, Ph.any, Region.binds, hG] at hp
                exact ⟨by simp [Gd, valOf, hp], by simp [Ph.is]⟩
              | false =>
                refine ob_yes fun f w' hb hp => ?_
                simp [PreOf, factOf, valOf, Ph.is, Ph.any, Region.binds, hG] at hp
                refine ⟨by simp [Gd, valOf, hp], ?_⟩
                have hc := (Xm.out.blwM (Hbr.out.trans (hb.mono Hbr.out.size))).cell 2 _ rfl
                refine mild_val (.slice (some ad) m.files.length c) ?_ (by simp [Ph.is, hG])
                simp [execOp, evalF, hp, hc, go_sem, hG]
            · -- 12: slot 62 := Op.move t6
              cases hG : (c1) with
              | true =>
                refine ob_no fun f w' hb hp => ?_
                simp [PreOf, factOf, valOf, Ph.is, Ph.any, Region.binds, hG] at hp
                exact ⟨by simp [Gd, valOf, hp], by simp [Ph.is]⟩
              | false =>
                refine ob_yes fun f w' hb hp => ?_
                simp [PreOf, factOf, valOf, Ph.is, Ph.any, Region.binds, hG] at hp
                refine ⟨by simp [Gd, valOf, hp], ?_⟩
                refine mild_val (.int .i64 (p : Int)) ?_ (by simp [Ph.is, hG])
                simp [execOp, evalF, hp, go_sem, hG]
            · -- 13: slot 63 := Op.indexAddr 54 t61 t62
              cases hG : (c1) with
              | true =>
                refine ob_no fun f w' hb hp => ?_
                simp [PreOf, factOf, valOf, Ph.is, Ph.any, Region.binds, hG] at hp
                exact ⟨by simp [Gd, valOf, hp], by simp [Ph.is]⟩
              | false =>
                refine ob_yes fun f w' hb hp => ?_
                simp [PreOf, factOf, valOf, Ph.is, Ph.any, Region.binds, hG] at hp
                refine ⟨by simp [Gd, valOf, hp], ?_⟩
                refine mild_val (.pointer (some (ad.add (p * 4)))) ?_ (by simp [Ph.is, hG])
                simp [execOp, evalF, hp, go_sem, hpl, hG]
            · -- 14: slot 64 := Op.fieldAddr 62 t63 0
              cases hG : (c1) with
              | true =>
                refine ob_no fun f w' hb hp => ?_
                simp [PreOf, factOf, valOf, Ph.is, Ph.any, Region.binds, hG] at hp
                exact ⟨by simp [Gd, valOf, hp], by simp [Ph.is]⟩
              | false =>
                refine ob_yes fun f w' hb hp => ?_
                simp [PreOf, factOf, valOf, Ph.is, Ph.any, Region.binds, hG] at hp
                refine ⟨by simp [Gd, valOf, hp], ?_⟩
                refine mild_val (.pointer (some (ad.add (p * 4)))) ?_ (by simp [Ph.is, hG])
                simp [execOp, evalF, hp, go_sem, hG]
            · -- 15: slot 65 := Op.load 9 t64
              cases hG : (c1) with
              | true =>
                refine ob_no fun f w' hb hp => ?_
                simp [PreOf, factOf, valOf, Ph.is, Ph.any, Region.binds, hG] at hp
                exact ⟨by simp [Gd, valOf, hp], by simp [Ph.is]⟩
              | false =>
                refine ob_yes fun f w' hb hp => ?_
                simp [PreOf, factOf, valOf, Ph.is, Ph.any, Region.binds, hG] at hp
                refine ⟨by simp [Gd, valOf, hp], ?_⟩
                have hc := ((Hbr.out.trans (hb.mono Hbr.out.size)).cell (p := (ad.add (p * 4)).add 0) (by rw [add_block, add_block]; omega)).trans (Hcp.out 0 _ rfl)
                rw [ha0] at hc
                refine mild_val (.string (bst pf.name)) ?_ (by simp [Ph.is, hG])
                simp [execOp, evalF, hp, hc, go_sem, hG]
            · -- 16: slot 66 := Op.fieldAddr 62 t5 0
              cases hG : (c1) with
              | true =>
                refine ob_no fun f w' hb hp => ?_
                simp [PreOf, factOf, valOf, Ph.is, Ph.any, Region.binds, hG] at hp
                exact ⟨by simp [Gd, valOf, hp], by simp [Ph.is]⟩
              | false =>
                refine ob_yes fun f w' hb hp => ?_
                simp [PreOf, factOf, valOf, Ph.is, Ph.any, Region.binds, hG] at hp
                refine ⟨by simp [Gd, valOf, hp], ?_⟩
                refine mild_val (.pointer (some ⟨w.heap.size + 1, 0, none⟩)) ?_ (by simp [Ph.is, hG])
                simp [execOp, evalF, hp, go_sem, hG]
            · -- 17: slot 67 := Op.load 9 t66
              cases hG : (c1) with
              | true =>
                refine ob_no fun f w' hb hp => ?_
                simp [PreOf, factOf, valOf, Ph.is, Ph.any, Region.binds, hG] at hp
                exact ⟨by simp [Gd, valOf, hp], by simp [Ph.is]⟩
              | false =>
                refine ob_yes fun f w' hb hp => ?_
                simp [PreOf, factOf, valOf, Ph.is, Ph.any, Region.binds, hG] at hp
                refine ⟨by simp [Gd, valOf, hp], ?_⟩
                have hc := (Xf.out.blwM (Hbr.out.trans (hb.mono Hbr.out.size))).cell 0 _ rfl
                refine mild_val (.string (bst fl.name)) ?_ (by simp [Ph.is, hG])
                simp [execOp, evalF, hp, hc, go_sem, hG]
            · -- 18: slot 68 := Op.binOp BinOp.geq 9 t65 t67 9
              cases hG : (c1) with
              | true =>
                refine ob_no fun f w' hb hp => ?_
                simp [PreOf, factOf, valOf, Ph.is, Ph.any, Region.binds, hG] at hp
                exact ⟨by simp [Gd, valOf, hp], by simp [Ph.is]⟩
              | false =>
                refine ob_yes fun f w' hb hp => ?_
                simp [PreOf, factOf, valOf, Ph.is, Ph.any, Region.binds, hG] at hp
                refine ⟨by simp [Gd, valOf, hp], ?_⟩
                refine mild_val (.bool c2) ?_ (by simp [Ph.is, hG])
                simp [execOp, evalF, hp, go_sem, hG, Op.stringOp, bst_toList]
                first | done | (rw [C2.out]; try first | rfl | exact decide_eq_decide.2 (by omega) | (simp; done) | (simp <;> omega) | (simp <;> rfl))
            · -- 19: slot 69 := Op.pick t59 (const (Value.bool true)) t68
              cases hG : (c1) with
              | true =>
                refine ob_yes fun f w' hb hp => ?_
                simp [PreOf, factOf, valOf, Ph.is, Ph.any, Region.binds, hG] at hp
                refine ⟨by simp [Gd, valOf, hp], ?_⟩
                refine mild_val (.bool (c1 || c2)) ?_ (by simp [Ph.is, hG])
                simp [execOp, evalF, hp, go_sem, hG]
              | false =>
                refine ob_yes fun f w' hb hp => ?_
                simp [PreOf, factOf, valOf, Ph.is, Ph.any, Region.binds, hG] at hp
                refine ⟨by simp [Gd, valOf, hp], ?_⟩
                refine mild_val (.bool (c1 || c2)) ?_ (by simp [Ph.is, hG])
                simp [execOp, evalF, hp, go_sem, hG]
          · intro f w2 hb2 hp
            simp only [PostOf, Ph.is, Ph.any] at hp
            obtain ⟨h0, h1, h2, h3, h4, h5, h6, h7, h8, h9, h10, h11, h12, h13, h14, h15, h16, h17, h18, h19, _⟩ := hp
            simp only [fills, List.foldl_cons, List.foldl_nil, Act.put, List.setIfInBounds_toArray, List.set_cons_zero, List.set_cons_succ, h0, h1, h2, h3, h4, h5, h6, h7, h8, h9, h19]
            clear h0 h1 h2 h3 h4 h5 h6 h7 h8 h9 h19 h10 h11 h12 h13 h14 h15 h16 h17 h18
            generalize f 60 = v60
            generalize f 61 = v61
            generalize f 62 = v62
            generalize f 63 = v63
            generalize f 64 = v64
            generalize f 65 = v65
            generalize f 66 = v66
            generalize f 67 = v67
            generalize f 68 = v68
            have hb3 := Hbr.out.trans (hb2.mono Hbr.out.size)
            cases hC : (c1 || c2) with
            | true =>
              rw [hC] at Hbs
              go_wp2_with fail
              go_ret
              exact ⟨by rw [Hr.out, Hin.out (by rw [Hbs.out]; rfl)]; rfl, Hb0'.out.trans (hb3.mono (by omega))⟩
            | false =>
              rw [hC] at Hbs
              go_wp2_with fail
              go_roundw
              case rel => exact ⟨p + 1, by omega, by go_num, by rw [Hsn.out, Hbs.out]; rfl, hb3⟩
              case measure => simp [intOf]; omega
        · obtain rfl : p = i := by omega
          rw [hbes, Bool.true_and] at Hr
          have m3_r := (Xf.out.blwM Hbr.out).cell 3 _ rfl
          clear hbes
          go_wp2_with fail
          go_loopw [73] (fun iv wr => ∃ a : Nat, a ≤ fl.blocks.length ∧ iv = .int .i64 a ∧ blocksOk (m.files.take p) fl.blocks a = true ∧ Below wf.heap.size wf wr) (fun iv _ => fl.blocks.length - (intOf iv).toNat)
          case atStart => exact ⟨0, by omega, rfl, rfl, Hbr.out⟩
          case round =>
            clear m3_r Hbr
            obtain ⟨a, ha, rfl, hok, hbr⟩ := hrel
            have Hbr := Lib.hid hbr
            clear hbr
            by_cases hat : a < fl.blocks.length
            · obtain ⟨_, ad2, rfl, hab2, hca, hx1, hx2⟩ := HbI.out.cells a hat
              have hsn := blocksOk_succ (m.files.take p) fl.blocks a
              have hfa := fun h => blocksOk_false (m.files.take p) fl.blocks a h fl.blocks.length hat
              have hbo := blockOk_eq (m.files.take p) fl.blocks a hat
              rw [hok, Bool.true_and] at hsn
              
              generalize hxx : fl.blocks[a] = x at *
              obtain ⟨d1, hd1⟩ : ∃ b, b = decide (x < 32) := ⟨_, rfl⟩
              obtain ⟨d2, hd2⟩ : ∃ b, b = decide (65536 ≤ x) := ⟨_, rfl⟩
              obtain ⟨d3, hd3⟩ : ∃ b, b = decide (x ∈ fl.blocks.take a) := ⟨_, rfl⟩
              rw [← hd1, ← hd2, ← hd3] at hbo
              rw [← hsn] at hbo
              have D1 := Lib.hid hd1
              have D2 := Lib.hid hd2
              have D3 := Lib.hid hd3
              have Hbo := Lib.hid hbo
              have Hfa := Lib.hid hfa
              have Hca := Lib.hid hca
              clear hd1 hd2 hd3 hbo hfa hca hsn hok hxx
              go_wp2_with fail
              refine wp_region_typed [some 76, some 77, some 78, some 79, some 80, some 81, some 82, some 83, some 84, some 85, some 86, some 87, some 88, some 89, some 90, some 91, some 92, some 93, some 94, some 95, some 96, some 97, some 98, some 99, some 100, some 101] [76, 77, 78, 79, 80, 81, 82, 83, 84, 85, 86, 87, 88, 89, 90, 91, 92, 93, 94, 95, 96, 97, 98, 99, 100, 101]
                [Ph.is (.pointer (some ⟨w.heap.size + 1, 3, none⟩)),
                  Ph.is (.slice (some ad2) fl.blocks.length cb),
                  Ph.is (.int .i64 (a : Int)),
                  Ph.is (.pointer (some (ad2.add a))),
                  Ph.is (.int .i64 x),
                  Ph.is (.bool d1),
                  Ph.is (.bool (d1)),
                  Ph.is (bif d1 then undef else .pointer (some ⟨w.heap.size + 1, 3, none⟩)),
                  Ph.is (bif d1 then undef else .slice (some ad2) fl.blocks.length cb),
                  Ph.is (bif d1 then undef else .int .i64 (a : Int)),
                  Ph.is (bif d1 then undef else .pointer (some (ad2.add a))),
                  Ph.is (bif d1 then undef else .int .i64 x),
                  Ph.is (bif d1 then undef else .bool d2),
                  Ph.is (.bool (d1 || d2)),
                  Ph.is (.bool ((d1 || d2))),
                  Ph.is (bif (d1 || d2) then undef else .pointer (some ⟨w.heap.size + 1, 3, none⟩)),
                  Ph.is (bif (d1 || d2) then undef else .slice (some ad2) fl.blocks.length cb),
                  Ph.is (bif (d1 || d2) then undef else .int .i64 (a : Int)),
                  Ph.is (bif (d1 || d2) then undef else .pointer (some (ad2.add a))),
                  Ph.is (bif (d1 || d2) then undef else .int .i64 x),
                  Ph.is (bif (d1 || d2) then undef else .pointer (some ⟨w.heap.size + 1, 3, none⟩)),
                  Ph.is (bif (d1 || d2) then undef else .slice (some ad2) fl.blocks.length cb),
                  Ph.is (bif (d1 || d2) then undef else .int .i64 (a : Int)),
                  Ph.is (bif (d1 || d2) then undef else .slice (some ad2) a cb),
                  Ph.is (bif (d1 || d2) then undef else .bool d3),
                  Ph.is (.bool (d1 || d2 || d3))] rfl rfl (by kernel_rfl) (by kernel_rfl) ?_ ?_
              · refine ⟨?_, ?_, ?_, ?_, ?_, ?_, ?_, ?_, ?_, ?_, ?_, ?_, ?_, ?_, ?_, ?_, ?_, ?_, ?_, ?_, ?_, ?_, ?_, ?_, ?_, ?_, trivial⟩
                · -- 0: slot 76 := Op.fieldAddr 62 t5 3
                  refine ob_yes fun f w' hb hp => ?_
                  simp [PreOf, factOf, valOf, Ph.is, Ph.any, Region.binds] at hp
                  refine ⟨by simp [Gd, valOf, hp], ?_⟩
                  refine mild_val (.pointer (some ⟨w.heap.size + 1, 3, none⟩)) ?_ (by simp [Ph.is])
                  simp [execOp, evalF, hp, go_sem]
                · -- 1: slot 77 := Op.load 60 t76
                  refine ob_yes fun f w' hb hp => ?_
                  simp [PreOf, factOf, valOf, Ph.is, Ph.any, Region.binds] at hp
                  refine ⟨by simp [Gd, valOf, hp], ?_⟩
                  have hc := (Xf.out.blwM (Hbr.out.trans (hb.mono Hbr.out.size))).cell 3 _ rfl
                  refine mild_val (.slice (some ad2) fl.blocks.length cb) ?_ (by simp [Ph.is])
                  simp [execOp, evalF, hp, hc, go_sem]
                · -- 2: slot 78 := Op.move t7
                  refine ob_yes fun f w' hb hp => ?_
                  simp [PreOf, factOf, valOf, Ph.is, Ph.any, Region.binds] at hp
                  refine ⟨by simp [Gd, valOf, hp], ?_⟩
                  refine mild_val (.int .i64 (a : Int)) ?_ (by simp [Ph.is])
                  simp [execOp, evalF, hp, go_sem]
                · -- 3: slot 79 := Op.indexAddr 60 t77 t78
                  refine ob_yes fun f w' hb hp => ?_
                  simp [PreOf, factOf, valOf, Ph.is, Ph.any, Region.binds] at hp
                  refine ⟨by simp [Gd, valOf, hp], ?_⟩
                  refine mild_val (.pointer (some (ad2.add a))) ?_ (by simp [Ph.is])
                  simp [execOp, evalF, hp, go_sem, hat]
                · -- 4: slot 80 := Op.load 3 t79
                  refine ob_yes fun f w' hb hp => ?_
                  simp [PreOf, factOf, valOf, Ph.is, Ph.any, Region.binds] at hp
                  refine ⟨by simp [Gd, valOf, hp], ?_⟩
                  have hc := ((Hbr.out.trans (hb.mono Hbr.out.size)).cell (p := ad2.add a) (by rw [add_block]; omega)).trans Hca.out
                  refine mild_val (.int .i64 x) ?_ (by simp [Ph.is])
                  simp [execOp, evalF, hp, hc, go_sem]
                · -- 5: slot 81 := Op.binOp BinOp.lss 3 t80 (const (32:i64)) 3
                  refine ob_yes fun f w' hb hp => ?_
                  simp [PreOf, factOf, valOf, Ph.is, Ph.any, Region.binds] at hp
                  refine ⟨by simp [Gd, valOf, hp], ?_⟩
                  refine mild_val (.bool d1) ?_ (by simp [Ph.is])
                  simp [execOp, evalF, hp, go_sem]
                  first | done | (rw [D1.out]; try first | rfl | exact decide_eq_decide.2 (by omega) | (simp; done) | (simp <;> omega) | (simp <;> rfl))
                · -- 6: slot 82 := Op.move t81
                  refine ob_yes fun f w' hb hp => ?_
                  simp [PreOf, factOf, valOf, Ph.is, Ph.any, Region.binds] at hp
                  refine ⟨by simp [Gd, valOf, hp], ?_⟩
                  refine mild_val (.bool (d1)) ?_ (by simp [Ph.is])
                  simp [execOp, evalF, hp, go_sem]
                · -- 7: slot 83 := Op.fieldAddr 62 t5 3
                  cases hG : (d1) with
                  | true =>
                    refine ob_no fun f w' hb hp => ?_
                    simp [PreOf, factOf, valOf, Ph.is, Ph.any, Region.binds, hG] at hp
                    exact ⟨by simp [Gd, valOf, hp], by simp [Ph.is]⟩
                  | false =>
                    refine ob_yes fun f w' hb hp => ?_
                    simp [PreOf, factOf, valOf, Ph.is, Ph.any, Region.binds, hG] at hp
                    refine ⟨by simp [Gd, valOf, hp], ?_⟩
                    refine mild_val (.pointer (some ⟨w.heap.size + 1, 3, none⟩)) ?_ (by simp [Ph.is, hG])
                    simp [execOp, evalF, hp, go_sem, hG]
                · -- 8: slot 84 := Op.load 60 t83
                  cases hG : (d1) with
                  | true =>
                    refine ob_no fun f w' hb hp => ?_
                    simp [PreOf, factOf, valOf, Ph.is, Ph.any, Region.binds, hG] at hp
                    exact ⟨by simp [Gd, valOf, hp], by simp [Ph.is]⟩
                  | false =>
                    refine ob_yes fun f w' hb hp => ?_
                    simp [PreOf, factOf, valOf, Ph.is, Ph.any, Region.binds, hG] at hp
                    refine ⟨by simp [Gd, valOf, hp], ?_⟩
                    have hc := (Xf.out.blwM (Hbr.out.trans (hb.mono Hbr.out.size))).cell 3 _ rfl
                    refine mild_val (.slice (some ad2) fl.blocks.length cb) ?_ (by simp [Ph.is, hG])
                    simp [execOp, evalF, hp, hc, go_sem, hG]
                · -- 9: slot 85 := Op.move t7
                  cases hG : (d1) with
                  | true =>
                    refine ob_no fun f w' hb hp => ?_
                    simp [PreOf, factOf, valOf, Ph.is, Ph.any, Region.binds, hG] at hp
                    exact ⟨by simp [Gd, valOf, hp], by simp [Ph.is]⟩
                  | false =>
                    refine ob_yes fun f w' hb hp => ?_
                    simp [PreOf, factOf, valOf, Ph.is, Ph.any, Region.binds, hG] at hp
                    refine ⟨by simp [Gd, valOf, hp], ?_⟩
                    refine mild_val (.int .i64 (a : Int)) ?_ (by simp [Ph.is, hG])
                    simp [execOp, evalF, hp, go_sem, hG]
                · -- 10: slot 86 := Op.indexAddr 60 t84 t85
                  cases hG : (d1) with
                  | true =>
                    refine ob_no fun f w' hb hp => ?_
                    simp [PreOf, factOf, valOf, Ph.is, Ph.any, Region.binds, hG] at hp
                    exact ⟨by simp [Gd, valOf, hp], by simp [Ph.is]⟩
                  | false =>
                    refine ob_yes fun f w' hb hp => ?_
                    simp [PreOf, factOf, valOf, Ph.is, Ph.any, Region.binds, hG] at hp
                    refine ⟨by simp [Gd, valOf, hp], ?_⟩
                    refine mild_val (.pointer (some (ad2.add a))) ?_ (by simp [Ph.is, hG])
                    simp [execOp, evalF, hp, go_sem, hat, hG]
                · -- 11: slot 87 := Op.load 3 t86
                  cases hG : (d1) with
                  | true =>
                    refine ob_no fun f w' hb hp => ?_
                    simp [PreOf, factOf, valOf, Ph.is, Ph.any, Region.binds, hG] at hp
                    exact ⟨by simp [Gd, valOf, hp], by simp [Ph.is]⟩
                  | false =>
                    refine ob_yes fun f w' hb hp => ?_
                    simp [PreOf, factOf, valOf, Ph.is, Ph.any, Region.binds, hG] at hp
                    refine ⟨by simp [Gd, valOf, hp], ?_⟩
                    have hc := ((Hbr.out.trans (hb.mono Hbr.out.size)).cell (p := ad2.add a) (by rw [add_block]; omega)).trans Hca.out
                    refine mild_val (.int .i64 x) ?_ (by simp [Ph.is, hG])
                    simp [execOp, evalF, hp, hc, go_sem, hG]
                · -- 12: slot 88 := Op.binOp BinOp.geq 3 t87 (const (65536:i64)) 3
                  cases hG : (d1) with
                  | true =>
                    refine ob_no fun f w' hb hp => ?_
                    simp [PreOf, factOf, valOf, Ph.is, Ph.any, Region.binds, hG] at hp
                    exact ⟨by simp [Gd, valOf, hp], by simp [Ph.is]⟩
                  | false =>
                    refine ob_yes fun f w' hb hp => ?_
                    simp [PreOf, factOf, valOf, Ph.is, Ph.any, Region.binds, hG] at hp
                    refine ⟨by simp [Gd, valOf, hp], ?_⟩
                    refine mild_val (.bool d2) ?_ (by simp [Ph.is, hG])
                    simp [execOp, evalF, hp, go_sem, hG]
                    first | done | (rw [D2.out]; try first | rfl | exact decide_eq_decide.2 (by omega) | (simp; done) | (simp <;> omega) | (simp <;> rfl))
                · -- 13: slot 89 := Op.pick t82 (const (Value.bool true)) t88
                  cases hG : (d1) with
                  | true =>
                    refine ob_yes fun f w' hb hp => ?_
                    simp [PreOf, factOf, valOf, Ph.is, Ph.any, Region.binds, hG] at hp
                    refine ⟨by simp [Gd, valOf, hp], ?_⟩
                    refine mild_val (.bool (d1 || d2)) ?_ (by simp [Ph.is, hG])
                    simp [execOp, evalF, hp, go_sem, hG]
                  | false =>
                    refine ob_yes fun f w' hb hp => ?_
                    simp [PreOf, factOf, valOf, Ph.is, Ph.any, Region.binds, hG] at hp
                    refine ⟨by simp [Gd, valOf, hp], ?_⟩
                    refine mild_val (.bool (d1 || d2)) ?_ (by simp [Ph.is, hG])
                    simp [execOp, evalF, hp, go_sem, hG]
                · -- 14: slot 90 := Op.move t89
                  refine ob_yes fun f w' hb hp => ?_
                  simp [PreOf, factOf, valOf, Ph.is, Ph.any, Region.binds] at hp
                  refine ⟨by simp [Gd, valOf, hp], ?_⟩
                  refine mild_val (.bool ((d1 || d2))) ?_ (by simp [Ph.is])
                  simp [execOp, evalF, hp, go_sem]
                · -- 15: slot 91 := Op.fieldAddr 62 t5 3
                  cases hG : ((d1 || d2)) with
                  | true =>
                    refine ob_no fun f w' hb hp => ?_
                    simp [PreOf, factOf, valOf, Ph.is, Ph.any, Region.binds, hG] at hp
                    exact ⟨by simp [Gd, valOf, hp], by simp [Ph.is]⟩
                  | false =>
                    refine ob_yes fun f w' hb hp => ?_
                    simp [PreOf, factOf, valOf, Ph.is, Ph.any, Region.binds, hG] at hp
                    refine ⟨by simp [Gd, valOf, hp], ?_⟩
                    refine mild_val (.pointer (some ⟨w.heap.size + 1, 3, none⟩)) ?_ (by simp [Ph.is, hG])
                    simp [execOp, evalF, hp, go_sem, hG]
                · -- 16: slot 92 := Op.load 60 t91
                  cases hG : ((d1 || d2)) with
                  | true =>
                    refine ob_no fun f w' hb hp => ?_
                    simp [PreOf, factOf, valOf, Ph.is, Ph.any, Region.binds, hG] at hp
                    exact ⟨by simp [Gd, valOf, hp], by simp [Ph.is]⟩
                  | false =>
                    refine ob_yes fun f w' hb hp => ?_
                    simp [PreOf, factOf, valOf, Ph.is, Ph.any, Region.binds, hG] at hp
                    refine ⟨by simp [Gd, valOf, hp], ?_⟩
                    have hc := (Xf.out.blwM (Hbr.out.trans (hb.mono Hbr.out.size))).cell 3 _ rfl
                    refine mild_val (.slice (some ad2) fl.blocks.length cb) ?_ (by simp [Ph.is, hG])
                    simp [execOp, evalF, hp, hc, go_sem, hG]
                · -- 17: slot 93 := Op.move t7
                  cases hG : ((d1 || d2)) with
                  | true =>
                    refine ob_no fun f w' hb hp => ?_
                    simp [PreOf, factOf, valOf, Ph.is, Ph.any, Region.binds, hG] at hp
                    exact ⟨by simp [Gd, valOf, hp], by simp [Ph.is]⟩
                  | false =>
                    refine ob_yes fun f w' hb hp => ?_
                    simp [PreOf, factOf, valOf, Ph.is, Ph.any, Region.binds, hG] at hp
                    refine ⟨by simp [Gd, valOf, hp], ?_⟩
                    refine mild_val (.int .i64 (a : Int)) ?_ (by simp [Ph.is, hG])
                    simp [execOp, evalF, hp, go_sem, hG]
                · -- 18: slot 94 := Op.indexAddr 60 t92 t93
                  cases hG : ((d1 || d2)) with
                  | true =>
                    refine ob_no fun f w' hb hp => ?_
                    simp [PreOf, factOf, valOf, Ph.is, Ph.any, Region.binds, hG] at hp
                    exact ⟨by simp [Gd, valOf, hp], by simp [Ph.is]⟩
                  | false =>
                    refine ob_yes fun f w' hb hp => ?_
                    simp [PreOf, factOf, valOf, Ph.is, Ph.any, Region.binds, hG] at hp
                    refine ⟨by simp [Gd, valOf, hp], ?_⟩
                    refine mild_val (.pointer (some (ad2.add a))) ?_ (by simp [Ph.is, hG])
                    simp [execOp, evalF, hp, go_sem, hat, hG]
                · -- 19: slot 95 := Op.load 3 t94
                  cases hG : ((d1 || d2)) with
                  | true =>
                    refine ob_no fun f w' hb hp => ?_
                    simp [PreOf, factOf, valOf, Ph.is, Ph.any, Region.binds, hG] at hp
                    exact ⟨by simp [Gd, valOf, hp], by simp [Ph.is]⟩
                  | false =>
                    refine ob_yes fun f w' hb hp => ?_
                    simp [PreOf, factOf, valOf, Ph.is, Ph.any, Region.binds, hG] at hp
                    refine ⟨by simp [Gd, valOf, hp], ?_⟩
                    have hc := ((Hbr.out.trans (hb.mono Hbr.out.size)).cell (p := ad2.add a) (by rw [add_block]; omega)).trans Hca.out
                    refine mild_val (.int .i64 x) ?_ (by simp [Ph.is, hG])
                    simp [execOp, evalF, hp, hc, go_sem, hG]
                · -- 20: slot 96 := Op.fieldAddr 62 t5 3
                  cases hG : ((d1 || d2)) with
                  | true =>
                    refine ob_no fun f w' hb hp => ?_
                    simp [PreOf, factOf, valOf, Ph.is, Ph.any, Region.binds, hG] at hp
                    exact ⟨by simp [Gd, valOf, hp], by simp [Ph.is]⟩
                  | false =>
                    refine ob_yes fun f w' hb hp => ?_
                    simp [PreOf, factOf, valOf, Ph.is, Ph.any, Region.binds, hG] at hp
                    refine ⟨by simp [Gd, valOf, hp], ?_⟩
                    refine mild_val (.pointer (some ⟨w.heap.size + 1, 3, none⟩)) ?_ (by simp [Ph.is, hG])
                    simp [execOp, evalF, hp, go_sem, hG]
                · -- 21: slot 97 := Op.load 60 t96
                  cases hG : ((d1 || d2)) with
                  | true =>
                    refine ob_no fun f w' hb hp => ?_
                    simp [PreOf, factOf, valOf, Ph.is, Ph.any, Region.binds, hG] at hp
                    exact ⟨by simp [Gd, valOf, hp], by simp [Ph.is]⟩
                  | false =>
                    refine ob_yes fun f w' hb hp => ?_
                    simp [PreOf, factOf, valOf, Ph.is, Ph.any, Region.binds, hG] at hp
                    refine ⟨by simp [Gd, valOf, hp], ?_⟩
                    have hc := (Xf.out.blwM (Hbr.out.trans (hb.mono Hbr.out.size))).cell 3 _ rfl
                    refine mild_val (.slice (some ad2) fl.blocks.length cb) ?_ (by simp [Ph.is, hG])
                    simp [execOp, evalF, hp, hc, go_sem, hG]
                · -- 22: slot 98 := Op.move t7
                  cases hG : ((d1 || d2)) with
                  | true =>
                    refine ob_no fun f w' hb hp => ?_
                    simp [PreOf, factOf, valOf, Ph.is, Ph.any, Region.binds, hG] at hp
                    exact ⟨by simp [Gd, valOf, hp], by simp [Ph.is]⟩
                  | false =>
                    refine ob_yes fun f w' hb hp => ?_
                    simp [PreOf, factOf, valOf, Ph.is, Ph.any, Region.binds, hG] at hp
                    refine ⟨by simp [Gd, valOf, hp], ?_⟩
                    refine mild_val (.int .i64 (a : Int)) ?_ (by simp [Ph.is, hG])
                    simp [execOp, evalF, hp, go_sem, hG]
                · -- 23: slot 99 := Op.slice 60 t97 none (some t98) none
                  cases hG : ((d1 || d2)) with
                  | true =>
                    refine ob_no fun f w' hb hp => ?_
                    simp [PreOf, factOf, valOf, Ph.is, Ph.any, Region.binds, hG] at hp
                    exact ⟨by simp [Gd, valOf, hp], by simp [Ph.is]⟩
                  | false =>
                    refine ob_yes fun f w' hb hp => ?_
                    simp [PreOf, factOf, valOf, Ph.is, Ph.any, Region.binds, hG] at hp
                    refine ⟨by simp [Gd, valOf, hp], ?_⟩
                    refine mild_val (.slice (some ad2) a cb) ?_ (by simp [Ph.is, hG])
                    simp [execOp, evalF, hp, go_sem, hG]
                    first | done | (have := hat; omega)
                · -- 24: slot 100 := Op.call   value (Operand.func 75), args := #[t95, t99], argTypes := #[3, 60]  
                  cases hG : ((d1 || d2)) with
                  | true =>
                    refine ob_no fun f w' hb hp => ?_
                    simp [PreOf, factOf, valOf, Ph.is, Ph.any, Region.binds, hG] at hp
                    exact ⟨by simp [Gd, valOf, hp], by simp [Ph.is]⟩
                  | false =>
                    refine ob_yes fun f w' hb hp => ?_
                    simp [PreOf, factOf, valOf, Ph.is, Ph.any, Region.binds, hG] at hp
                    refine ⟨by simp [Gd, valOf, hp], ?_⟩
                    refine mild_call 75 _ _ Try.f75 Try.func75 (by kernel_rfl) (by kernel_rfl) rfl ?_
                    simp [evalF, hp, Ph.is, Ph.any, hG]
                    have hd := among_any w' w.heap.size (.slice (some ad2) a cb) (fl.blocks.take a) x (by have e := (HbI.out.below ((Hbr.out.trans (hb.mono Hbr.out.size)).mono (by omega))).front (k := a) (by omega); exact e)
                    rw [← D3.out] at hd
                    refine (hd).mono fun ev w2 h => ?_
                    obtain ⟨rfl, rfl⟩ := h
                    first | exact ⟨_, rfl, Below.refl _ _, rfl⟩ | exact ⟨rfl, Below.refl _ _⟩ | exact Below.refl _ _ | simpa using Below.refl _ _
                · -- 25: slot 101 := Op.pick t90 (const (Value.bool true)) t100
                  cases hG : ((d1 || d2)) with
                  | true =>
                    refine ob_yes fun f w' hb hp => ?_
                    simp [PreOf, factOf, valOf, Ph.is, Ph.any, Region.binds, hG] at hp
                    refine ⟨by simp [Gd, valOf, hp], ?_⟩
                    refine mild_val (.bool (d1 || d2 || d3)) ?_ (by simp [Ph.is, hG])
                    simp [execOp, evalF, hp, go_sem, hG]
                  | false =>
                    refine ob_yes fun f w' hb hp => ?_
                    simp [PreOf, factOf, valOf, Ph.is, Ph.any, Region.binds, hG] at hp
                    refine ⟨by simp [Gd, valOf, hp], ?_⟩
                    refine mild_val (.bool (d1 || d2 || d3)) ?_ (by simp [Ph.is, hG])
                    simp [execOp, evalF, hp, go_sem, hG]
              · intro f w2 hb2 hp
                simp only [PostOf, Ph.is, Ph.any] at hp
                obtain ⟨h0, h1, h2, h3, h4, h5, h6, h7, h8, h9, h10, h11, h12, h13, h14, h15, h16, h17, h18, h19, h20, h21, h22, h23, h24, h25, _⟩ := hp
                simp only [fills, List.foldl_cons, List.foldl_nil, Act.put, List.setIfInBounds_toArray, List.set_cons_zero, List.set_cons_succ, h0, h1, h2, h3, h4, h5, h6, h13, h14, h25]
                clear h0 h1 h2 h3 h4 h5 h6 h13 h14 h25 h7 h8 h9 h10 h11 h12 h15 h16 h17 h18 h19 h20 h21 h22 h23 h24
                generalize f 83 = v83
                generalize f 84 = v84
                generalize f 85 = v85
                generalize f 86 = v86
                generalize f 87 = v87
                generalize f 88 = v88
                generalize f 91 = v91
                generalize f 92 = v92
                generalize f 93 = v93
                generalize f 94 = v94
                generalize f 95 = v95
                generalize f 96 = v96
                generalize f 97 = v97
                generalize f 98 = v98
                generalize f 99 = v99
                generalize f 100 = v100
                have hb3 := Hbr.out.trans (hb2.mono Hbr.out.size)
                have Hb3 := Lib.hid hb3
                clear hb2 hb3 Hbr
                cases hD : (d1 || d2 || d3) with
                | true =>
                  rw [hD] at Hbo
                  go_wp2_with fail
                  go_ret
                  exact ⟨by rw [Hr.out, Hfa.out (by rw [Hbo.out]; rfl)]; rfl, Hb0'.out.trans (Hb3.out.mono (by omega))⟩
                | false =>
                  rw [hD] at Hbo
                  go_wp2_with fail
                  go_loopw [8] (fun iv wr => ∃ q : Nat, q ≤ p ∧ iv = .int .i64 q ∧ (m.files.take q).all (fun f => !decide (x ∈ f.blocks)) = true ∧ Below wf.heap.size wf wr) (fun iv _ => p - (intOf iv).toNat)
                  case atStart => exact ⟨0, by omega, rfl, rfl, Hb3.out⟩
                  case round =>
                    obtain ⟨q, hq0, rfl, hall, hbr⟩ := hrel
                    have Hbr2 := Lib.hid hbr
                    clear hbr
                    by_cases hlt : q < p
                    · have hql : q < m.files.length := by omega
                      obtain ⟨_, ad', vp, e, hab', hpI, hpo, hcp⟩ := Hf.out.cells q hql
                      injection e with e
                      subst e
                      obtain ⟨Ap, cp, rfl, hcp1, hcp2⟩ := hpI.form
                      have hsn : (m.files.take (q + 1)).all (fun f => !decide (x ∈ f.blocks)) = !decide (x ∈ (m.files[q]).blocks) := by
                        rw [List.take_add_one, List.getElem?_eq_getElem hql, Option.toList_some, List.all_append, hall]; simp
                      have hin : decide (x ∈ (m.files[q]).blocks) = true → (m.files.take p).all (fun f => !decide (x ∈ f.blocks)) = false := fun h => by
                        rw [List.all_eq_false]
                        exact ⟨m.files[q], by rw [List.mem_take_iff_getElem]; exact ⟨q, by omega, rfl⟩, by rw [h]; simp⟩
                      generalize hpk : m.files[q] = pf at *
                      obtain ⟨e1, he1⟩ : ∃ b, b = decide (x ∈ pf.blocks) := ⟨_, rfl⟩
                      rw [← he1] at hsn hin
                      have Hsn := Lib.hid hsn
                      have Hin := Lib.hid hin
                      have Hcp := Lib.hid hcp
                      have HpI := Lib.hid hpI
                      have E1 := Lib.hid he1
                      have ha3 := add_mid' (ad.add (q * 4)) 3 (by decide)
                      clear hsn hin hcp he1 hpI hpo hpk hall
                      go_wp2_with fail
                      refine wp_region_typed [some 107, some 108, some 109, some 110, some 111, some 112, some 113, some 114, some 115, some 116, some 117, some 118] [107, 108, 109, 110, 111, 112, 113, 114, 115, 116, 117, 118]
                        [Ph.is (.pointer (some ⟨w.heap.size + 1, 3, none⟩)),
                          Ph.is (.slice (some ad2) fl.blocks.length cb),
                          Ph.is (.int .i64 (a : Int)),
                          Ph.is (.pointer (some (ad2.add a))),
                          Ph.is (.int .i64 x),
                          Ph.is (.pointer (some ⟨w.heap.size, 2, none⟩)),
                          Ph.is (.slice (some ad) m.files.length c),
                          Ph.is (.int .i64 (q : Int)),
                          Ph.is (.pointer (some (ad.add (q * 4)))),
                          Ph.is (.pointer (some { block := (ad.add (q * 4)).block, off := (ad.add (q * 4)).off + 3 })),
                          Ph.is (.slice Ap pf.blocks.length cp),
                          Ph.is (.bool e1)] rfl rfl (by kernel_rfl) (by kernel_rfl) ?_ ?_
                      · refine ⟨?_, ?_, ?_, ?_, ?_, ?_, ?_, ?_, ?_, ?_, ?_, ?_, trivial⟩
                        · -- 0: slot 107 := Op.fieldAddr 62 t5 3
                          refine ob_yes fun f w' hb hp => ?_
                          simp [PreOf, factOf, valOf, Ph.is, Ph.any, Region.binds] at hp
                          refine ⟨by simp [Gd, valOf, hp], ?_⟩
                          refine mild_val (.pointer (some ⟨w.heap.size + 1, 3, none⟩)) ?_ (by simp [Ph.is])
                          simp [execOp, evalF, hp, go_sem]
                        · -- 1: slot 108 := Op.load 60 t107
                          refine ob_yes fun f w' hb hp => ?_
                          simp [PreOf, factOf, valOf, Ph.is, Ph.any, Region.binds] at hp
                          refine ⟨by simp [Gd, valOf, hp], ?_⟩
                          have hc := (Xf.out.blwM (Hbr2.out.trans (hb.mono Hbr2.out.size))).cell 3 _ rfl
                          refine mild_val (.slice (some ad2) fl.blocks.length cb) ?_ (by simp [Ph.is])
                          simp [execOp, evalF, hp, hc, go_sem]
                        · -- 2: slot 109 := Op.move t7
                          refine ob_yes fun f w' hb hp => ?_
                          simp [PreOf, factOf, valOf, Ph.is, Ph.any, Region.binds] at hp
                          refine ⟨by simp [Gd, valOf, hp], ?_⟩
                          refine mild_val (.int .i64 (a : Int)) ?_ (by simp [Ph.is])
                          simp [execOp, evalF, hp, go_sem]
                        · -- 3: slot 110 := Op.indexAddr 60 t108 t109
                          refine ob_yes fun f w' hb hp => ?_
                          simp [PreOf, factOf, valOf, Ph.is, Ph.any, Region.binds] at hp
                          refine ⟨by simp [Gd, valOf, hp], ?_⟩
                          refine mild_val (.pointer (some (ad2.add a))) ?_ (by simp [Ph.is])
                          simp [execOp, evalF, hp, go_sem, hat]
                        · -- 4: slot 111 := Op.load 3 t110
                          refine ob_yes fun f w' hb hp => ?_
                          simp [PreOf, factOf, valOf, Ph.is, Ph.any, Region.binds] at hp
                          refine ⟨by simp [Gd, valOf, hp], ?_⟩
                          have hc := ((Hbr2.out.trans (hb.mono Hbr2.out.size)).cell (p := ad2.add a) (by rw [add_block]; omega)).trans Hca.out
                          refine mild_val (.int .i64 x) ?_ (by simp [Ph.is])
                          simp [execOp, evalF, hp, hc, go_sem]
                        · -- 5: slot 112 := Op.fieldAddr 56 t2 2
                          refine ob_yes fun f w' hb hp => ?_
                          simp [PreOf, factOf, valOf, Ph.is, Ph.any, Region.binds] at hp
                          refine ⟨by simp [Gd, valOf, hp], ?_⟩
                          refine mild_val (.pointer (some ⟨w.heap.size, 2, none⟩)) ?_ (by simp [Ph.is])
                          simp [execOp, evalF, hp, go_sem]
                        · -- 6: slot 113 := Op.load 54 t112
                          refine ob_yes fun f w' hb hp => ?_
                          simp [PreOf, factOf, valOf, Ph.is, Ph.any, Region.binds] at hp
                          refine ⟨by simp [Gd, valOf, hp], ?_⟩
                          have hc := (Xm.out.blwM (Hbr2.out.trans (hb.mono Hbr2.out.size))).cell 2 _ rfl
                          refine mild_val (.slice (some ad) m.files.length c) ?_ (by simp [Ph.is])
                          simp [execOp, evalF, hp, hc, go_sem]
                        · -- 7: slot 114 := Op.move t8
                          refine ob_yes fun f w' hb hp => ?_
                          simp [PreOf, factOf, valOf, Ph.is, Ph.any, Region.binds] at hp
                          refine ⟨by simp [Gd, valOf, hp], ?_⟩
                          refine mild_val (.int .i64 (q : Int)) ?_ (by simp [Ph.is])
                          simp [execOp, evalF, hp, go_sem]
                        · -- 8: slot 115 := Op.indexAddr 54 t113 t114
                          refine ob_yes fun f w' hb hp => ?_
                          simp [PreOf, factOf, valOf, Ph.is, Ph.any, Region.binds] at hp
                          refine ⟨by simp [Gd, valOf, hp], ?_⟩
                          refine mild_val (.pointer (some (ad.add (q * 4)))) ?_ (by simp [Ph.is])
                          simp [execOp, evalF, hp, go_sem, hql]
                        · -- 9: slot 116 := Op.fieldAddr 62 t115 3
                          refine ob_yes fun f w' hb hp => ?_
                          simp [PreOf, factOf, valOf, Ph.is, Ph.any, Region.binds] at hp
                          refine ⟨by simp [Gd, valOf, hp], ?_⟩
                          refine mild_val (.pointer (some { block := (ad.add (q * 4)).block, off := (ad.add (q * 4)).off + 3 })) ?_ (by simp [Ph.is])
                          simp [execOp, evalF, hp, go_sem]
                        · -- 10: slot 117 := Op.load 60 t116
                          refine ob_yes fun f w' hb hp => ?_
                          simp [PreOf, factOf, valOf, Ph.is, Ph.any, Region.binds] at hp
                          refine ⟨by simp [Gd, valOf, hp], ?_⟩
                          have hc := ((Hbr2.out.trans (hb.mono Hbr2.out.size)).cell (p := (ad.add (q * 4)).add 3) (by rw [add_block, add_block]; omega)).trans (Hcp.out 3 _ rfl)
                          rw [ha3] at hc
                          refine mild_val (.slice Ap pf.blocks.length cp) ?_ (by simp [Ph.is])
                          simp [execOp, evalF, hp, hc, go_sem]
                        · -- 11: slot 118 := Op.call   value (Operand.func 75), args := #[t111, t117], argTypes := #[3, 60]  
                          refine ob_yes fun f w' hb hp => ?_
                          simp [PreOf, factOf, valOf, Ph.is, Ph.any, Region.binds] at hp
                          refine ⟨by simp [Gd, valOf, hp], ?_⟩
                          refine mild_call 75 _ _ Try.f75 Try.func75 (by kernel_rfl) (by kernel_rfl) rfl ?_
                          simp [evalF, hp, Ph.is, Ph.any]
                          have hd := among_any w' w.heap.size (.slice Ap pf.blocks.length cp) pf.blocks x (HpI.out.below ((Hbr2.out.trans (hb.mono Hbr2.out.size)).mono (by omega)))
                          rw [← E1.out] at hd
                          refine (hd).mono fun ev w2 h => ?_
                          obtain ⟨rfl, rfl⟩ := h
                          first | exact ⟨_, rfl, Below.refl _ _, rfl⟩ | exact ⟨rfl, Below.refl _ _⟩ | exact Below.refl _ _ | simpa using Below.refl _ _
                      · intro f w2 hb2 hp
                        simp only [PostOf, Ph.is, Ph.any] at hp
                        obtain ⟨h0, h1, h2, h3, h4, h5, h6, h7, h8, h9, h10, h11, _⟩ := hp
                        simp only [fills, List.foldl_cons, List.foldl_nil, Act.put, List.setIfInBounds_toArray, List.set_cons_zero, List.set_cons_succ, h0, h1, h2, h3, h4, h5, h6, h7, h8, h9, h10, h11]
                        clear h0 h1 h2 h3 h4 h5 h6 h7 h8 h9 h10 h11
                        have hb4 := Hbr2.out.trans (hb2.mono Hbr2.out.size)
                        have Hb4 := Lib.hid hb4
                        clear hb2 hb4
                        cases e1 with
                        | true =>
                          go_wp2_with fail
                          go_ret
                          exact ⟨by rw [Hr.out, Hfa.out (by rw [Hbo.out, Hin.out (by first | rfl | trivial)]; rfl)]; rfl, Hb0'.out.trans (Hb4.out.mono (by omega))⟩
                        | false =>
                          go_wp2_with fail
                          go_roundw
                          case rel => exact ⟨q + 1, by omega, by go_num, by rw [Hsn.out]; rfl, Hb4.out⟩
                          case measure => simp [intOf]; omega
                    · obtain rfl : q = p := by omega
                      rw [hall, Bool.and_true] at Hbo
                      go_wp2_with fail
                      go_roundw
                      case rel => exact ⟨a + 1, by omega, by go_num, by rw [Hbo.out]; rfl, Hbr2.out⟩
                      case measure => simp [intOf]; omega
            · obtain rfl : a = fl.blocks.length := by omega
              go_wp2_with fail
              go_ret
              exact ⟨by rw [Hr.out, hok]; rfl, Hb0'.out.trans (Hbr.out.mono (by omega))⟩
end Go.Proofs.Ytpoicbhbkabllaa

namespace Go.Proofs.Ytpoicbhbkabllaa
set_option linter.unusedSimpArgs false
set_option linter.unusedVariables false
open Go.RowKit

theorem sum_mem_le : ∀ (l : List Nat) (x : Nat), x ∈ l → x ≤ l.sum
  | [], _, h => by cases h
  | y :: l, x, h => by
    rw [List.sum_cons]
    rcases List.mem_cons.1 h with rfl | h
    · omega
    · have := sum_mem_le l x h; omega
theorem nums_len (l : List Int) : (nums l).length ≤ l.length * 11 := by
  induction l with
  | nil => simp [nums]
  | cons x l ih =>
    have e : nums (x :: l) = vput (u64Of x) ++ nums l := rfl
    have := (vput_len64 (u64Of x) (u64Of_lt x)).2
    rw [e, List.length_append, List.length_cons]
    omega
theorem flat_len_le (l : List MFile) (B : Nat) (h : ∀ f ∈ l, (bodyF f).length ≤ B) : (l.flatMap bodyF).length ≤ l.length * B := by
  induction l with
  | nil => simp
  | cons f l ih =>
    rw [List.flatMap_cons, List.length_append, List.length_cons, Nat.add_mul]
    have := h f (by simp)
    have := ih fun g hg => h g (by simp [hg])
    omega
theorem small_file (m : MMan) (hg : greatM m = false) (f : MFile) (hf : f ∈ m.files) (hb : basicF m.next f = true) : f.name.length ≤ 32 ∧ 1 ≤ f.name.length ∧ f.blocks.length ≤ 2999 := by
  unfold greatM at hg
  simp only [Bool.or_eq_false_iff, decide_eq_false_iff_not] at hg
  unfold basicF at hb
  simp only [Bool.not_eq_true', Bool.or_eq_false_iff, decide_eq_false_iff_not] at hb
  have := sum_mem_le (m.files.map fun f => min f.blocks.length 3000 + min f.name.length 3000) _ (List.mem_map.2 ⟨f, hf, rfl⟩)
  have h2 : greatN m.files = (m.files.map fun f => min f.blocks.length 3000 + min f.name.length 3000).sum := rfl
  omega
theorem bodyF_small (m : MMan) (hg : greatM m = false) (f : MFile) (hf : f ∈ m.files) (hb : basicF m.next f = true) : (bodyF f).length ≤ 40000 := by
  obtain ⟨h1, h2, h3⟩ := small_file m hg f hf hb
  rw [bodyF_len]
  have := nums_len f.blocks
  have := (vput_len64 f.name.length (by omega)).2
  have := (vput_len64 f.id.toNat (by have := u32_lt f.id; omega)).2
  have := (vput_len64 (u64Of f.size) (u64Of_lt _)).2
  omega
theorem filesR_basic (m : MMan) (h : filesR m m.files.length = true) (f : MFile) (hf : f ∈ m.files) : basicF m.next f = true := by
  obtain ⟨i, hi, rfl⟩ := List.mem_iff_getElem.1 hf
  have := filesR_at m _ i h hi (Nat.le_refl _)
  unfold fileR at this
  simp only [Bool.and_eq_true] at this
  exact this.1.1
theorem bodyM_small (m : MMan) (hg : greatM m = false) (h : filesR m m.files.length = true) : (bodyM m).length ≤ 2400033 := by
  have hn : m.files.length ≤ 60 := by
    unfold greatM at hg
    simp only [Bool.or_eq_false_iff, decide_eq_false_iff_not] at hg
    omega
  have := flat_len_le m.files 40000 fun f hf => bodyF_small m hg f hf (filesR_basic m h f hf)
  rw [bodyM_len]
  have := (vput_len64 m.ver.toNat (u64_lt _)).2
  have := (vput_len64 m.next.toNat (by have := u32_lt m.next; omega)).2
  have := (vput_len64 m.files.length (by omega)).2
  omega
theorem info_man3 : (Try.prog.info? 56).map (·.size) = some 3 := by kernel_rfl
set_option maxRecDepth 100000 in
set_option maxHeartbeats 1600000 in
theorem rmay_any' (w : World) (v : Value) (m : MMan) (h : MAt w w.heap.size v m) (hg : filesR m m.files.length = true → (bodyM m).length ≤ 274877906944) :
    Calls Try.prog 29 #[v] w fun e w' => e = .returned (.bool (mayM m)) ∧ Below w.heap.size w w' := by
  obtain ⟨vf, rfl, hf⟩ := h
  obtain ⟨A, c, rfl, hc1, hc2⟩ := hf.form
  unfold maxLen at hc2
  obtain ⟨w1, hw1⟩ : ∃ w1, w1 = w.alloc (.cells (encM m (.slice A m.files.length c)).toArray 56) := ⟨_, rfl⟩
  have hb1 : Below w.heap.size w w1 := by rw [hw1]; exact balloc w _
  have hx1 : BoxAt 56 w1 w.heap.size (encM m (.slice A m.files.length c)) := by rw [hw1]; exact BoxAt.new_ _ _ _
  have hz1 : w1.heap.size = w.heap.size + 1 := by rw [hw1]; simp
  have hf1 := hf.below hb1
  have hc2x := hx1.cell 2 _ rfl
  have Hw1 := Lib.hid hw1
  have Hx1 := Lib.hid hx1
  have Hf1 := Lib.hid hf1
  have Hb1 := Lib.hid hb1
  have Hg := Lib.hid hg
  clear hw1 hx1 hf1 hb1 hf hg
  go_enter Try.func29, Try.ntmps29
  go_upto_region 1 with (fail)
  rw [← Hw1.out]
  go_wp2_with fail
  go_loopw [7] (fun iv wr => ∃ k : Nat, k ≤ m.files.length ∧ iv = .int .i64 k ∧ filesR m k = true ∧ Below w1.heap.size w1 wr) (fun i _ => m.files.length - (intOf i).toNat)
  case atStart => exact ⟨0, by omega, rfl, rfl, Below.refl _ _⟩
  case round =>
    obtain ⟨k, hk, rfl, hfr, hbr⟩ := hrel
    have Hbr := Lib.hid hbr
    have Hld := Lib.hid (Hx1.out.blwM hbr).cells
    have hsz := hbr.size
    clear hbr hc2x
    by_cases hlt : k < m.files.length
    · have hs := filesR_succ m k hlt
      rw [hfr, Bool.true_and] at hs
      have hfa := fun h => filesR_false m (k + 1) h m.files.length (by omega)
      have Hs := Lib.hid hs
      have Hfa := Lib.hid hfa
      clear hs hfa hfr
      go_wp2_with (refine wpList_load_agg rfl 56 (.tmp 1) rfl ⟨w.heap.size, 0, none⟩ rfl (encM m (.slice A m.files.length c)) Hld.out Try.underlying56 rfl info_man3 ?_)
      refine (rfile_any wr _ m ⟨_, rfl, (Hf1.out.below (Hbr.out.mono (by omega))).more (by omega)⟩ k hlt).mono ?_
      rintro _ w2 ⟨rfl, hb2⟩
      have Hb3 := Lib.hid (bstep Hbr.out hb2)
      clear hb2
      cases hR : fileR m.next (m.files.take k) m.files[k] with
      | true =>
        rw [hR] at Hs
        go_wp2_with fail
        go_roundw
        case rel => exact ⟨k + 1, by omega, by go_num, Hs.out, Hb3.out⟩
        case measure => simp [intOf]; omega
      | false =>
        rw [hR] at Hs
        have hm : mayM m = false := by unfold mayM; rw [Hfa.out Hs.out]; rfl
        have Hm := Lib.hid hm
        clear hm
        go_wp2_with fail
        go_ret
        exact ⟨by rw [Hm.out]; rfl, Hb1.out.trans (Hb3.out.mono (by omega))⟩
    · obtain rfl : k = m.files.length := by omega
      have hsm := Hg.out hfr
      have hm : mayM m = decide ((bodyM m).length + 13 ≤ 2048) := by unfold mayM; rw [hfr]; rfl
      have Hm := Lib.hid hm
      clear hm hfr
      go_wp2_with (refine wpList_load_agg rfl 56 (.tmp 1) rfl ⟨w.heap.size, 0, none⟩ rfl (encM m (.slice A m.files.length c)) Hld.out Try.underlying56 rfl info_man3 ?_)
      refine (rbody_any wr _ m ⟨_, rfl, (Hf1.out.below (Hbr.out.mono (by omega))).more (by omega)⟩ (by omega)).mono ?_
      rintro _ w2 ⟨v2, rfl, how2, hb2⟩
      obtain ⟨A2, c2, rfl, hd1, hd2⟩ := how2.form_
      have Hb3 := Lib.hid (bstep Hbr.out hb2)
      generalize (bodyM m).length = L at *
      clear how2 hb2
      go_wp2_with fail
      go_ret
      rw [Hm.out]
      exact ⟨by first | rfl | (simp; omega), Hb1.out.trans (Hb3.out.mono (by omega))⟩
theorem rmay_any (w : World) (v : Value) (m : MMan) (h : MAt w w.heap.size v m) (hg : greatM m = false) :
    Calls Try.prog 29 #[v] w fun e w' => e = .returned (.bool (mayM m)) ∧ Below w.heap.size w w' :=
  rmay_any' w v m h fun hf => by have := bodyM_small m hg hf; omega
end Go.Proofs.Ytpoicbhbkabllaa

namespace Go.Proofs.Ytpoicbhbkabllaa
set_option linter.unusedSimpArgs false
set_option linter.unusedVariables false
open Go.RowKit Go.Maps

/-- block b is a set of at most n numbers: those of S -/
def MSet (k : TypeId) (q : IntKind) (w : World) (b n : Nat) (S : List Int) : Prop :=
  ∃ D : DataW Unit, w.ownsMap Try.prog k unitElem b n D ∧ ∀ x, (Lit.int q x).wf = true → Maps.has D (.int q x) = decide (x ∈ S)
theorem MSet.lt {k : TypeId} {q : IntKind} {w : World} {b n : Nat} {S : List Int} (h : MSet k q w b n S) : b < w.heap.size := by obtain ⟨D, h, _⟩ := h; exact h.lt
theorem MSet.congr {k : TypeId} {q : IntKind} {w : World} {b n : Nat} {S S' : List Int} (h : MSet k q w b n S) (hS : ∀ x, x ∈ S ↔ x ∈ S') : MSet k q w b n S' := by
  obtain ⟨D, h, hh⟩ := h
  exact ⟨D, h, fun x hx => (hh x hx).trans (decide_eq_decide.2 (hS x))⟩
theorem MSet.kept {k : TypeId} {q : IntKind} {w w' : World} {b n : Nat} {S : List Int} (h : MSet k q w b n S) {row : Option Nat} (hg : w.grownBy w' row) (hne : some b ≠ row) : MSet k q w' b n S := by
  obtain ⟨D, h, hh⟩ := h
  exact ⟨D, h.kept hg hne, hh⟩
theorem MSet.blw {k : TypeId} {q : IntKind} {w w' : World} {b n : Nat} {S : List Int} (h : MSet k q w b n S) (hb : Below w.heap.size w w') : MSet k q w' b n S :=
  h.kept (row := none) ⟨hb.os, hb.tape, hb.output, hb.size, fun i hi _ => hb.block i hi⟩ (by simp)
theorem MSet.mono {k : TypeId} {q : IntKind} {w : World} {b n n' : Nat} {S : List Int} (h : MSet k q w b n S) (hn : n ≤ n') : MSet k q w b n' S := by
  obtain ⟨D, h, hh⟩ := h
  exact ⟨D, h.mono hn, hh⟩
theorem MSet.new_ (k : TypeId) (q : IntKind) (w : World) : MSet k q (w.alloc (.map #[] 0)) w.heap.size 0 [] :=
  ⟨.map [], World.ownsMap_made _ _ _ _, fun x _ => by simp [Maps.has]⟩
theorem zero_none (w : World) : (zeroValue 152).run Try.prog w = .ok (.agg #[]) w := by kernel_rfl
theorem wpList_setLook {ops : Array Oper} {rest : List Oper} {o : Oper} {a : Act} {w : World} {Q : Exit → Act → World → Prop} (hg : o.guard = none) (m x : Operand) (t k : TypeId) (q : IntKind) (hop : o.op = .lookup t m x true)
    (hk : Try.prog.underlying k = some (.int q)) (ht : Try.prog.underlying t = some (.map k 152)) (b n : Nat) (S : List Int) (hm : a.eval m = .map (some b)) (hs : MSet k q w b n S) (y : Int) (hy : (Lit.int q y).wf = true)
    (hx : a.eval x = .int q y) (h : wpList Try.prog ops Q rest (a.put o.dst (.tuple #[.agg #[], .bool (decide (y ∈ S))])) w) : wpList Try.prog ops Q (o :: rest) a w := by
  obtain ⟨D, hD, hh⟩ := hs
  refine wpList_lookup_own_unit _ hg m x t hop k _ (int_keyed hk) ht (zero_none _) b n D hm hD _ _ hx (keyOf_int_mk hk hy) ?_
  rw [hh y hy]
  exact h
theorem wpList_setPut {ops : Array Oper} {rest : List Oper} {o : Oper} {a : Act} {w : World} {Q : Exit → Act → World → Prop} (hg : o.guard = none) (m x v : Operand) (t k : TypeId) (q : IntKind) (hop : o.op = .mapUpdate t m x v)
    (hk : Try.prog.underlying k = some (.int q)) (ht : Try.prog.underlying t = some (.map k 152)) (b n : Nat) (S : List Int) (hm : a.eval m = .map (some b)) (hs : MSet k q w b n S) (hn : n < maxLen) (y : Int) (hy : (Lit.int q y).wf = true)
    (hx : a.eval x = .int q y) (hv : a.eval v = .agg #[]) (h : ∀ w', MSet k q w' b (n + 1) (y :: S) → w.grownBy w' (some b) → wpList Try.prog ops Q rest (a.put o.dst undef) w') : wpList Try.prog ops Q (o :: rest) a w := by
  obtain ⟨D, hD, hh⟩ := hs
  refine wpList_mapUpdate_own _ hg m x v t hop k _ (int_keyed hk) ht unitElem b n D hm hD hn _ _ _ hx hv (keyOf_int_mk hk hy) _ [] unitElem_mk ?_
  intro w' h1 h2
  refine h w' ⟨_, h1, fun z hz => ?_⟩ h2
  by_cases he : z = y
  · subst he
    rw [Maps.has_put_same hD.isMap (by simp [WideAt.IsKeyLit])]
    simp
  · rw [Maps.has_put_other (by simpa using he), hh z hz]
    simp [he]
/-- all but the blocks m1, m2 stay -/
structure Bt (m1 m2 : Nat) (w w' : World) : Prop where
  os : w'.os = w.os
  tape : w'.tape = w.tape
  output : w'.output = w.output
  size : w.heap.size ≤ w'.heap.size
  block : ∀ k, k < w.heap.size → k ≠ m1 → k ≠ m2 → w'.heap[k]? = w.heap[k]?
theorem Bt.of {m1 m2 : Nat} {w w' : World} (h : Below w.heap.size w w') : Bt m1 m2 w w' := ⟨h.os, h.tape, h.output, h.size, fun k hk _ _ => h.block k hk⟩
theorem Bt.trans {m1 m2 : Nat} {a b c : World} (h : Bt m1 m2 a b) (k : Bt m1 m2 b c) : Bt m1 m2 a c :=
  ⟨k.os.trans h.os, k.tape.trans h.tape, k.output.trans h.output, Nat.le_trans h.size k.size, fun i hi h1 h2 => (k.block i (Nat.lt_of_lt_of_le hi h.size) h1 h2).trans (h.block i hi h1 h2)⟩
theorem Bt.grown {m1 m2 m : Nat} {a b c : World} (h : Bt m1 m2 a b) (hg : b.grownBy c (some m)) (hm : m = m1 ∨ m = m2) : Bt m1 m2 a c :=
  h.trans ⟨hg.os, hg.tape, hg.output, hg.size, fun k hk h1 h2 => hg.block k hk (fun e => by injection e with e; rcases hm with hm | hm <;> omega)⟩
theorem Bt.step {m1 m2 : Nat} {a b c : World} (h : Bt m1 m2 a b) (hb : Below b.heap.size b c) : Bt m1 m2 a c := h.trans (Bt.of hb)
theorem Bt.low {m1 m2 B : Nat} {w w' : World} (h : Bt m1 m2 w w') (h1 : B ≤ m1) (h2 : B ≤ m2) (hB : B ≤ w.heap.size) : Below B w w' :=
  ⟨h.os, h.tape, h.output, h.size, fun k hk => h.block k (by omega) (by omega) (by omega)⟩
theorem Bt.box {m1 m2 g : Nat} {T : TypeId} {cs : List Value} {w w' : World} (h : Bt m1 m2 w w') (hx : BoxAt T w g cs) (h1 : g ≠ m1) (h2 : g ≠ m2) : BoxAt T w' g cs := (h.block g hx.lt h1 h2).trans hx
def blkC (S2 : List Int) (l : List Int) (a : Nat) : Bool := !(decide (l.getD a 0 ∈ l.take a ++ S2) || decide (l.getD a 0 < 32) || decide (65536 ≤ l.getD a 0))
def blksC (S2 : List Int) (l : List Int) (n : Nat) : Bool := (List.range n).all (blkC S2 l)
/-- manifest.right's answer -/
def rightC (next : UInt32) (S1 S2 : List Int) (f : MFile) : Bool := basicF next f && !(decide ((f.id.toNat : Int) ∈ S1)) && blksC S2 f.blocks f.blocks.length
theorem blksC_succ (S2 l : List Int) (a : Nat) : blksC S2 l (a + 1) = (blksC S2 l a && blkC S2 l a) := by
  unfold blksC
  rw [List.range_succ, List.all_append]
  simp
theorem blksC_false (S2 l : List Int) (a : Nat) (h : blksC S2 l (a + 1) = false) (n : Nat) (ha : a < n) : blksC S2 l n = false := by
  unfold blksC at h ⊢
  rw [List.all_eq_false] at h ⊢
  obtain ⟨x, hx, hx2⟩ := h
  exact ⟨x, by simp at hx ⊢; omega, hx2⟩
theorem blkC_eq (S2 l : List Int) (a : Nat) (ha : a < l.length) : blkC S2 l a = !(decide (l[a] ∈ l.take a ++ S2) || decide (l[a] < 32) || decide (65536 ≤ l[a])) := by
  unfold blkC
  rw [List.getD_eq_getElem?_getD, List.getElem?_eq_getElem ha]
  rfl
theorem mem_snocL {x y : Int} {a b : List Int} : y ∈ x :: (a ++ b) ↔ y ∈ a ++ [x] ++ b := by
  rw [List.mem_cons, List.mem_append, List.mem_append, List.mem_append, List.mem_singleton]
  constructor
  · rintro (h | h | h)
    · exact .inl (.inr h)
    · exact .inl (.inl h)
    · exact .inr h
  · rintro ((h | h) | h)
    · exact .inr (.inl h)
    · exact .inl h
    · exact .inr (.inr h)
theorem wf_u32 (x : UInt32) : (Lit.int .u32 (x.toNat : Int)).wf = true := by
  have := u32_lt x
  have e1 : IntKind.u32.min = 0 := by decide
  have e2 : IntKind.u32.max = 4294967295 := by decide
  simp [Lit.wf, e1, e2]
  omega
theorem wf_i64 (x : Int) (h1 : -9223372036854775808 ≤ x) (h2 : x ≤ 9223372036854775807) : (Lit.int .i64 x).wf = true := by
  have e1 : IntKind.i64.min = -9223372036854775808 := by decide
  have e2 : IntKind.i64.max = 9223372036854775807 := by decide
  simp [Lit.wf, e1, e2]
  omega
theorem info_none0 : (Try.prog.info? 152).map (fun i => (i.zero, i.size, i.bytes)) = some (some (.agg #[]), 0, 0) := by kernel_rfl

set_option maxRecDepth 100000 in
set_option maxHeartbeats 6400000 in
theorem right_any (w : World) (B : Nat) (hBw : B ≤ w.heap.size) (fl : MFile) (v : Value) (next : UInt32) (m1 m2 n1 n2 : Nat) (S1 S2 : List Int) (hI : ByI w B v fl.blocks) (hfo : fileOk fl)
    (h1 : MSet 53 .u32 w m1 n1 S1) (h2 : MSet 3 .i64 w m2 n2 S2) (hne : m1 ≠ m2) (hB1 : B ≤ m1) (hB2 : B ≤ m2) (hn1 : n1 < 1000000000000) (hn2 : n2 + fl.blocks.length < 1000000000000) :
    Calls Try.prog 79 #[.agg (encF fl v).toArray, .int .u32 (next.toNat : Int), .map (some m1), .map (some m2)] w fun e w' =>
      e = .returned (.bool (rightC next S1 S2 fl)) ∧ (rightC next S1 S2 fl = true → MSet 53 .u32 w' m1 (n1 + 1) ((fl.id.toNat : Int) :: S1) ∧ MSet 3 .i64 w' m2 (n2 + fl.blocks.length) (fl.blocks ++ S2)) ∧ Bt m1 m2 w w' := by
  obtain ⟨Ab, cb, rfl, hcb1, hcb2⟩ := hI.form
  unfold maxLen at hcb2
  have hnl := hfo.1
  unfold maxLen at hnl
  have hid := u32_lt fl.id
  have hnx := u32_lt next
  have hsz : (bst fl.name).size = fl.name.length := rfl
  have hm1 := h1.lt
  have hm2 := h2.lt
  obtain ⟨wf, hwf⟩ : ∃ wf, wf = w.alloc (.cells (encF fl (.slice Ab fl.blocks.length cb)).toArray 62) := ⟨_, rfl⟩
  have hbf : Below w.heap.size w wf := by rw [hwf]; exact balloc w _
  have hxf : BoxAt 62 wf w.heap.size (encF fl (.slice Ab fl.blocks.length cb)) := by rw [hwf]; exact BoxAt.new_ _ _ _
  have hzf : wf.heap.size = w.heap.size + 1 := by rw [hwf]; simp
  have Hwf := Lib.hid hwf
  have Xf := Lib.hid hxf
  have HI := Lib.hid hI
  have Hb := Lib.hid hbf
  have H1 := Lib.hid h1
  have H2 := Lib.hid h2
  have Hne := Lib.hid hne
  clear hwf hxf hI hbf h1 h2 hne
  go_enter Try.func79, Try.ntmps79
  go_upto_region 1 with (fail)
  rw [← Hwf.out]
  clear Hwf
  have hbas : basicF next fl = !(decide (fl.name.length < 1) || decide (32 < fl.name.length) || decide (next.toNat ≤ fl.id.toNat) || decide (fl.size < 0) || decide (manyOf fl.size ≠ (fl.blocks.length : Int))) := rfl
  obtain ⟨b1, hb1⟩ : ∃ b, b = decide (fl.name.length < 1) := ⟨_, rfl⟩
  obtain ⟨b2, hq2⟩ : ∃ b, b = decide (32 < fl.name.length) := ⟨_, rfl⟩
  obtain ⟨b3, hb3⟩ : ∃ b, b = decide (next.toNat ≤ fl.id.toNat) := ⟨_, rfl⟩
  obtain ⟨b4, hb4⟩ : ∃ b, b = decide (fl.size < 0) := ⟨_, rfl⟩
  obtain ⟨b5, hb5⟩ : ∃ b, b = decide (manyOf fl.size ≠ (fl.blocks.length : Int)) := ⟨_, rfl⟩
  rw [← hb1, ← hq2, ← hb3, ← hb4, ← hb5] at hbas
  have B1 := Lib.hid hb1
  have B2 := Lib.hid hq2
  have B3 := Lib.hid hb3
  have B4 := Lib.hid hb4
  have B5 := Lib.hid hb5
  have Hbas := Lib.hid hbas
  clear hb1 hq2 hb3 hb4 hb5 hbas
  refine wp_region_typed [some 15, some 16, some 17, some 18, some 19, some 20, some 21, some 22, some 23, some 24, some 25, some 26, some 27, some 28, some 29, some 30, some 31, some 32, some 33, some 34, some 35, some 36, some 37, some 38, some 39, some 40, some 41, some 42, some 43, some 44] [15, 16, 17, 18, 19, 20, 21, 22, 23, 24, 25, 26, 27, 28, 29, 30, 31, 32, 33, 34, 35, 36, 37, 38, 39, 40, 41, 42, 43, 44]
    [Ph.is (.pointer (some ⟨w.heap.size, 0, none⟩)),
      Ph.is (.string (bst fl.name)),
      Ph.is (.int .i64 (fl.name.length : Int)),
      Ph.is (.bool b1),
      Ph.is (.bool (b1)),
      Ph.is (bif b1 then undef else .pointer (some ⟨w.heap.size, 0, none⟩)),
      Ph.is (bif b1 then undef else .string (bst fl.name)),
      Ph.is (bif b1 then undef else .int .i64 (fl.name.length : Int)),
      Ph.is (bif b1 then undef else .bool b2),
      Ph.is (.bool (b1 || b2)),
      Ph.is (.bool ((b1 || b2))),
      Ph.is (bif (b1 || b2) then undef else .pointer (some ⟨w.heap.size, 1, none⟩)),
      Ph.is (bif (b1 || b2) then undef else .int .u32 (fl.id.toNat : Int)),
      Ph.is (bif (b1 || b2) then undef else .int .u32 (next.toNat : Int)),
      Ph.is (bif (b1 || b2) then undef else .bool b3),
      Ph.is (.bool (b1 || b2 || b3)),
      Ph.is (.bool ((b1 || b2 || b3))),
      Ph.is (bif (b1 || b2 || b3) then undef else .pointer (some ⟨w.heap.size, 2, none⟩)),
      Ph.is (bif (b1 || b2 || b3) then undef else .int .i64 fl.size),
      Ph.is (bif (b1 || b2 || b3) then undef else .bool b4),
      Ph.is (.bool (b1 || b2 || b3 || b4)),
      Ph.is (.bool ((b1 || b2 || b3 || b4))),
      Ph.is (bif (b1 || b2 || b3 || b4) then undef else .pointer (some ⟨w.heap.size, 2, none⟩)),
      Ph.is (bif (b1 || b2 || b3 || b4) then undef else .int .i64 fl.size),
      Ph.is (bif (b1 || b2 || b3 || b4) then undef else .int .i64 (manyOf fl.size)),
      Ph.is (bif (b1 || b2 || b3 || b4) then undef else .pointer (some ⟨w.heap.size, 3, none⟩)),
      Ph.is (bif (b1 || b2 || b3 || b4) then undef else .slice Ab fl.blocks.length cb),
      Ph.is (bif (b1 || b2 || b3 || b4) then undef else .int .i64 (fl.blocks.length : Int)),
      Ph.is (bif (b1 || b2 || b3 || b4) then undef else .bool b5),
      Ph.is (.bool (b1 || b2 || b3 || b4 || b5))] rfl rfl (by kernel_rfl) (by kernel_rfl) ?_ ?_
  · refine ⟨?_, ?_, ?_, ?_, ?_, ?_, ?_, ?_, ?_, ?_, ?_, ?_, ?_, ?_, ?_, ?_, ?_, ?_, ?_, ?_, ?_, ?_, ?_, ?_, ?_, ?_, ?_, ?_, ?_, ?_, trivial⟩
    · -- 0: slot 15 := Op.fieldAddr 62 t4 0
      refine ob_yes fun f w' hb hp => ?_
      simp [PreOf, factOf, valOf, Ph.is, Ph.any, Region.binds] at hp
      refine ⟨by simp [Gd, valOf, hp], ?_⟩
      refine mild_val (.pointer (some ⟨w.heap.size, 0, none⟩)) ?_ (by simp [Ph.is])
      simp [execOp, evalF, hp, go_sem]
    · -- 1: slot 16 := Op.load 9 t15
      refine ob_yes fun f w' hb hp => ?_
      simp [PreOf, factOf, valOf, Ph.is, Ph.any, Region.binds] at hp
      refine ⟨by simp [Gd, valOf, hp], ?_⟩
      have hc := (Xf.out.blwM hb).cell 0 _ rfl
      refine mild_val (.string (bst fl.name)) ?_ (by simp [Ph.is])
      simp [execOp, evalF, hp, hc, go_sem]
    · -- 2: slot 17 := Op.call   builtin len, args := #[t16], argTypes := #[9]  
      refine ob_yes fun f w' hb hp => ?_
      simp [PreOf, factOf, valOf, Ph.is, Ph.any, Region.binds] at hp
      refine ⟨by simp [Gd, valOf, hp], ?_⟩
      refine mild_val (.int .i64 (fl.name.length : Int)) ?_ (by simp [Ph.is])
      simp [execOp, evalF, hp, go_sem, hsz]
    · -- 3: slot 18 := Op.binOp BinOp.eql 3 t17 (const (0:i64)) 3
      refine ob_yes fun f w' hb hp => ?_
      simp [PreOf, factOf, valOf, Ph.is, Ph.any, Region.binds] at hp
      refine ⟨by simp [Gd, valOf, hp], ?_⟩
      refine mild_val (.bool b1) ?_ (by simp [Ph.is])
      simp [execOp, evalF, hp, go_sem]
      first | done | (rw [B1.out]; try first | rfl | exact decide_eq_decide.2 (by omega) | (simp; done) | (simp <;> omega) | (simp <;> rfl))
    · -- 4: slot 19 := Op.move t18
      refine ob_yes fun f w' hb hp => ?_
      simp [PreOf, factOf, valOf, Ph.is, Ph.any, Region.binds] at hp
      refine ⟨by simp [Gd, valOf, hp], ?_⟩
      refine mild_val (.bool (b1)) ?_ (by simp [Ph.is])
      simp [execOp, evalF, hp, go_sem]
    · -- 5: slot 20 := Op.fieldAddr 62 t4 0
      cases hG : (b1) with
      | true =>
        refine ob_no fun f w' hb hp => ?_
        simp [PreOf, factOf, valOf, Ph.is, Ph.any, Region.binds, hG] at hp
        exact ⟨by simp [Gd, valOf, hp], by simp [Ph.is]⟩
      | false =>
        refine ob_yes fun f w' hb hp => ?_
        simp [PreOf, factOf, valOf, Ph.is, Ph.any, Region.binds, hG] at hp
        refine ⟨by simp [Gd, valOf, hp], ?_⟩
        refine mild_val (.pointer (some ⟨w.heap.size, 0, none⟩)) ?_ (by simp [Ph.is, hG])
        simp [execOp, evalF, hp, go_sem, hG]
    · -- 6: slot 21 := Op.load 9 t20
      cases hG : (b1) with
      | true =>
        refine ob_no fun f w' hb hp => ?_
        simp [PreOf, factOf, valOf, Ph.is, Ph.any, Region.binds, hG] at hp
        exact ⟨by simp [Gd, valOf, hp], by simp [Ph.is]⟩
      | false =>
        refine ob_yes fun f w' hb hp => ?_
        simp [PreOf, factOf, valOf, Ph.is, Ph.any, Region.binds, hG] at hp
        refine ⟨by simp [Gd, valOf, hp], ?_⟩
        have hc := (Xf.out.blwM hb).cell 0 _ rfl
        refine mild_val (.string (bst fl.name)) ?_ (by simp [Ph.is, hG])
        simp [execOp, evalF, hp, hc, go_sem, hG]
    · -- 7: slot 22 := Op.call   builtin len, args := #[t21], argTypes := #[9]  
      cases hG : (b1) with
      | true =>
        refine ob_no fun f w' hb hp => ?_
        simp [PreOf, factOf, valOf, Ph.is, Ph.any, Region.binds, hG] at hp
        exact ⟨by simp [Gd, valOf, hp], by simp [Ph.is]⟩
      | false =>
        refine ob_yes fun f w' hb hp => ?_
        simp [PreOf, factOf, valOf, Ph.is, Ph.any, Region.binds, hG] at hp
        refine ⟨by simp [Gd, valOf, hp], ?_⟩
        refine mild_val (.int .i64 (fl.name.length : Int)) ?_ (by simp [Ph.is, hG])
        simp [execOp, evalF, hp, go_sem, hsz, hG]
    · -- 8: slot 23 := Op.binOp BinOp.gtr 3 t22 (const (32:i64)) 3
      cases hG : (b1) with
      | true =>
        refine ob_no fun f w' hb hp => ?_
        simp [PreOf, factOf, valOf, Ph.is, Ph.any, Region.binds, hG] at hp
        exact ⟨by simp [Gd, valOf, hp], by simp [Ph.is]⟩
      | false =>
        refine ob_yes fun f w' hb hp => ?_
        simp [PreOf, factOf, valOf, Ph.is, Ph.any, Region.binds, hG] at hp
        refine ⟨by simp [Gd, valOf, hp], ?_⟩
        refine mild_val (.bool b2) ?_ (by simp [Ph.is, hG])
        simp [execOp, evalF, hp, go_sem, hG]
        first | done | (rw [B2.out]; try first | rfl | exact decide_eq_decide.2 (by omega) | (simp; done) | (simp <;> omega) | (simp <;> rfl))
    · -- 9: slot 24 := Op.pick t19 (const (Value.bool true)) t23
      cases hG : (b1) with
      | true =>
        refine ob_yes fun f w' hb hp => ?_
        simp [PreOf, factOf, valOf, Ph.is, Ph.any, Region.binds, hG] at hp
        refine ⟨by simp [Gd, valOf, hp], ?_⟩
        refine mild_val (.bool (b1 || b2)) ?_ (by simp [Ph.is, hG])
        simp [execOp, evalF, hp, go_sem, hG]
      | false =>
        refine ob_yes fun f w' hb hp => ?_
        simp [PreOf, factOf, valOf, Ph.is, Ph.any, Region.binds, hG] at hp
        refine ⟨by simp [Gd, valOf, hp], ?_⟩
        refine mild_val (.bool (b1 || b2)) ?_ (by simp [Ph.is, hG])
        simp [execOp, evalF, hp, go_sem, hG]
    · -- 10: slot 25 := Op.move t24
      refine ob_yes fun f w' hb hp => ?_
      simp [PreOf, factOf, valOf, Ph.is, Ph.any, Region.binds] at hp
      refine ⟨by simp [Gd, valOf, hp], ?_⟩
      refine mild_val (.bool ((b1 || b2))) ?_ (by simp [Ph.is])
      simp [execOp, evalF, hp, go_sem]
    · -- 11: slot 26 := Op.fieldAddr 62 t4 1
      cases hG : ((b1 || b2)) with
      | true =>
        refine ob_no fun f w' hb hp => ?_
        simp [PreOf, factOf, valOf, Ph.is, Ph.any, Region.binds, hG] at hp
        exact ⟨by simp [Gd, valOf, hp], by simp [Ph.is]⟩
      | false =>
        refine ob_yes fun f w' hb hp => ?_
        simp [PreOf, factOf, valOf, Ph.is, Ph.any, Region.binds, hG] at hp
        refine ⟨by simp [Gd, valOf, hp], ?_⟩
        refine mild_val (.pointer (some ⟨w.heap.size, 1, none⟩)) ?_ (by simp [Ph.is, hG])
        simp [execOp, evalF, hp, go_sem, hG]
    · -- 12: slot 27 := Op.load 53 t26
      cases hG : ((b1 || b2)) with
      | true =>
        refine ob_no fun f w' hb hp => ?_
        simp [PreOf, factOf, valOf, Ph.is, Ph.any, Region.binds, hG] at hp
        exact ⟨by simp [Gd, valOf, hp], by simp [Ph.is]⟩
      | false =>
        refine ob_yes fun f w' hb hp => ?_
        simp [PreOf, factOf, valOf, Ph.is, Ph.any, Region.binds, hG] at hp
        refine ⟨by simp [Gd, valOf, hp], ?_⟩
        have hc := (Xf.out.blwM hb).cell 1 _ rfl
        refine mild_val (.int .u32 (fl.id.toNat : Int)) ?_ (by simp [Ph.is, hG])
        simp [execOp, evalF, hp, hc, go_sem, hG]
    · -- 13: slot 28 := Op.move t1
      cases hG : ((b1 || b2)) with
      | true =>
        refine ob_no fun f w' hb hp => ?_
        simp [PreOf, factOf, valOf, Ph.is, Ph.any, Region.binds, hG] at hp
        exact ⟨by simp [Gd, valOf, hp], by simp [Ph.is]⟩
      | false =>
        refine ob_yes fun f w' hb hp => ?_
        simp [PreOf, factOf, valOf, Ph.is, Ph.any, Region.binds, hG] at hp
        refine ⟨by simp [Gd, valOf, hp], ?_⟩
        refine mild_val (.int .u32 (next.toNat : Int)) ?_ (by simp [Ph.is, hG])
        simp [execOp, evalF, hp, go_sem, hG]
    · -- 14: slot 29 := Op.binOp BinOp.geq 53 t27 t28 53
      cases hG : ((b1 || b2)) with
      | true =>
        refine ob_no fun f w' hb hp => ?_
        simp [PreOf, factOf, valOf, Ph.is, Ph.any, Region.binds, hG] at hp
        exact ⟨by simp [Gd, valOf, hp], by simp [Ph.is]⟩
      | false =>
        refine ob_yes fun f w' hb hp => ?_
        simp [PreOf, factOf, valOf, Ph.is, Ph.any, Region.binds, hG] at hp
        refine ⟨by simp [Gd, valOf, hp], ?_⟩
        refine mild_val (.bool b3) ?_ (by simp [Ph.is, hG])
        simp [execOp, evalF, hp, go_sem, hG]
        first | done | (rw [B3.out]; try first | rfl | exact decide_eq_decide.2 (by omega) | (simp; done) | (simp <;> omega) | (simp <;> rfl))
    · -- 15: slot 30 := Op.pick t25 (const (Value.bool true)) t29
      cases hG : ((b1 || b2)) with
      | true =>
        refine ob_yes fun f w' hb hp => ?_
        simp [PreOf, factOf, valOf, Ph.is, Ph.any, Region.binds, hG] at hp
        refine ⟨by simp [Gd, valOf, hp], ?_⟩
        refine mild_val (.bool (b1 || b2 || b3)) ?_ (by simp [Ph.is, hG])
        simp [execOp, evalF, hp, go_sem, hG]
      | false =>
        refine ob_yes fun f w' hb hp => ?_
        simp [PreOf, factOf, valOf, Ph.is, Ph.any, Region.binds, hG] at hp
        refine ⟨by simp [Gd, valOf, hp], ?_⟩
        refine mild_val (.bool (b1 || b2 || b3)) ?_ (by simp [Ph.is, hG])
        simp [execOp, evalF, hp, go_sem, hG]
    · -- 16: slot 31 := Op.move t30
      refine ob_yes fun f w' hb hp => ?_
      simp [PreOf, factOf, valOf, Ph.is, Ph.any, Region.binds] at hp
      refine ⟨by simp [Gd, valOf, hp], ?_⟩
      refine mild_val (.bool ((b1 || b2 || b3))) ?_ (by simp [Ph.is])
      simp [execOp, evalF, hp, go_sem]
    · -- 17: slot 32 := Op.fieldAddr 62 t4 2
      cases hG : ((b1 || b2 || b3)) with
      | true =>
        refine ob_no fun f w' hb hp => ?_
        simp [PreOf, factOf, valOf, Ph.is, Ph.any, Region.binds, hG] at hp
        exact ⟨by simp [Gd, valOf, hp], by simp [Ph.is]⟩
      | false =>
        refine ob_yes fun f w' hb hp => ?_
        simp [PreOf, factOf, valOf, Ph.is, Ph.any, Region.binds, hG] at hp
        refine ⟨by simp [Gd, valOf, hp], ?_⟩
        refine mild_val (.pointer (some ⟨w.heap.size, 2, none⟩)) ?_ (by simp [Ph.is, hG])
        simp [execOp, evalF, hp, go_sem, hG]
    · -- 18: slot 33 := Op.load 3 t32
      cases hG : ((b1 || b2 || b3)) with
      | true =>
        refine ob_no fun f w' hb hp => ?_
        simp [PreOf, factOf, valOf, Ph.is, Ph.any, Region.binds, hG] at hp
        exact ⟨by simp [Gd, valOf, hp], by simp [Ph.is]⟩
      | false =>
        refine ob_yes fun f w' hb hp => ?_
        simp [PreOf, factOf, valOf, Ph.is, Ph.any, Region.binds, hG] at hp
        refine ⟨by simp [Gd, valOf, hp], ?_⟩
        have hc := (Xf.out.blwM hb).cell 2 _ rfl
        refine mild_val (.int .i64 fl.size) ?_ (by simp [Ph.is, hG])
        simp [execOp, evalF, hp, hc, go_sem, hG]
    · -- 19: slot 34 := Op.binOp BinOp.lss 3 t33 (const (0:i64)) 3
      cases hG : ((b1 || b2 || b3)) with
      | true =>
        refine ob_no fun f w' hb hp => ?_
        simp [PreOf, factOf, valOf, Ph.is, Ph.any, Region.binds, hG] at hp
        exact ⟨by simp [Gd, valOf, hp], by simp [Ph.is]⟩
      | false =>
        refine ob_yes fun f w' hb hp => ?_
        simp [PreOf, factOf, valOf, Ph.is, Ph.any, Region.binds, hG] at hp
        refine ⟨by simp [Gd, valOf, hp], ?_⟩
        refine mild_val (.bool b4) ?_ (by simp [Ph.is, hG])
        simp [execOp, evalF, hp, go_sem, hG]
        first | done | (rw [B4.out]; try first | rfl | exact decide_eq_decide.2 (by omega) | (simp; done) | (simp <;> omega) | (simp <;> rfl))
    · -- 20: slot 35 := Op.pick t31 (const (Value.bool true)) t34
      cases hG : ((b1 || b2 || b3)) with
      | true =>
        refine ob_yes fun f w' hb hp => ?_
        simp [PreOf, factOf, valOf, Ph.is, Ph.any, Region.binds, hG] at hp
        refine ⟨by simp [Gd, valOf, hp], ?_⟩
        refine mild_val (.bool (b1 || b2 || b3 || b4)) ?_ (by simp [Ph.is, hG])
        simp [execOp, evalF, hp, go_sem, hG]
      | false =>
        refine ob_yes fun f w' hb hp => ?_
        simp [PreOf, factOf, valOf, Ph.is, Ph.any, Region.binds, hG] at hp
        refine ⟨by simp [Gd, valOf, hp], ?_⟩
        refine mild_val (.bool (b1 || b2 || b3 || b4)) ?_ (by simp [Ph.is, hG])
        simp [execOp, evalF, hp, go_sem, hG]
    · -- 21: slot 36 := Op.move t35
      refine ob_yes fun f w' hb hp => ?_
      simp [PreOf, factOf, valOf, Ph.is, Ph.any, Region.binds] at hp
      refine ⟨by simp [Gd, valOf, hp], ?_⟩
      refine mild_val (.bool ((b1 || b2 || b3 || b4))) ?_ (by simp [Ph.is])
      simp [execOp, evalF, hp, go_sem]
    · -- 22: slot 37 := Op.fieldAddr 62 t4 2
      cases hG : ((b1 || b2 || b3 || b4)) with
      | true =>
        refine ob_no fun f w' hb hp => ?_
        simp [PreOf, factOf, valOf, Ph.is, Ph.any, Region.binds, hG] at hp
        exact ⟨by simp [Gd, valOf, hp], by simp [Ph.is]⟩
      | false =>
        refine ob_yes fun f w' hb hp => ?_
        simp [PreOf, factOf, valOf, Ph.is, Ph.any, Region.binds, hG] at hp
        refine ⟨by simp [Gd, valOf, hp], ?_⟩
        refine mild_val (.pointer (some ⟨w.heap.size, 2, none⟩)) ?_ (by simp [Ph.is, hG])
        simp [execOp, evalF, hp, go_sem, hG]
    · -- 23: slot 38 := Op.load 3 t37
      cases hG : ((b1 || b2 || b3 || b4)) with
      | true =>
        refine ob_no fun f w' hb hp => ?_
        simp [PreOf, factOf, valOf, Ph.is, Ph.any, Region.binds, hG] at hp
        exact ⟨by simp [Gd, valOf, hp], by simp [Ph.is]⟩
      | false =>
        refine ob_yes fun f w' hb hp => ?_
        simp [PreOf, factOf, valOf, Ph.is, Ph.any, Region.binds, hG] at hp
        refine ⟨by simp [Gd, valOf, hp], ?_⟩
        have hc := (Xf.out.blwM hb).cell 2 _ rfl
        refine mild_val (.int .i64 fl.size) ?_ (by simp [Ph.is, hG])
        simp [execOp, evalF, hp, hc, go_sem, hG]
    · -- 24: slot 39 := Op.call   value (Operand.func 86), args := #[t38], argTypes := #[3]  
      cases hG : ((b1 || b2 || b3 || b4)) with
      | true =>
        refine ob_no fun f w' hb hp => ?_
        simp [PreOf, factOf, valOf, Ph.is, Ph.any, Region.binds, hG] at hp
        exact ⟨by simp [Gd, valOf, hp], by simp [Ph.is]⟩
      | false =>
        refine ob_yes fun f w' hb hp => ?_
        simp [PreOf, factOf, valOf, Ph.is, Ph.any, Region.binds, hG] at hp
        refine ⟨by simp [Gd, valOf, hp], ?_⟩
        refine mild_call 86 _ _ Try.f86 Try.func86 (by kernel_rfl) (by kernel_rfl) rfl ?_
        simp [evalF, hp, Ph.is, Ph.any, hG]
        refine (many_any w' fl.size hfo.2.1 hfo.2.2).mono fun ev w2 h => ?_
        obtain ⟨rfl, rfl⟩ := h
        first | exact ⟨_, rfl, Below.refl _ _, rfl⟩ | exact ⟨rfl, Below.refl _ _⟩ | exact Below.refl _ _ | simpa using Below.refl _ _
    · -- 25: slot 40 := Op.fieldAddr 62 t4 3
      cases hG : ((b1 || b2 || b3 || b4)) with
      | true =>
        refine ob_no fun f w' hb hp => ?_
        simp [PreOf, factOf, valOf, Ph.is, Ph.any, Region.binds, hG] at hp
        exact ⟨by simp [Gd, valOf, hp], by simp [Ph.is]⟩
      | false =>
        refine ob_yes fun f w' hb hp => ?_
        simp [PreOf, factOf, valOf, Ph.is, Ph.any, Region.binds, hG] at hp
        refine ⟨by simp [Gd, valOf, hp], ?_⟩
        refine mild_val (.pointer (some ⟨w.heap.size, 3, none⟩)) ?_ (by simp [Ph.is, hG])
        simp [execOp, evalF, hp, go_sem, hG]
    · -- 26: slot 41 := Op.load 60 t40
      cases hG : ((b1 || b2 || b3 || b4)) with
      | true =>
        refine ob_no fun f w' hb hp => ?_
        simp [PreOf, factOf, valOf, Ph.is, Ph.any, Region.binds, hG] at hp
        exact ⟨by simp [Gd, valOf, hp], by simp [Ph.is]⟩
      | false =>
        refine ob_yes fun f w' hb hp => ?_
        simp [PreOf, factOf, valOf, Ph.is, Ph.any, Region.binds, hG] at hp
        refine ⟨by simp [Gd, valOf, hp], ?_⟩
        have hc := (Xf.out.blwM hb).cell 3 _ rfl
        refine mild_val (.slice Ab fl.blocks.length cb) ?_ (by simp [Ph.is, hG])
        simp [execOp, evalF, hp, hc, go_sem, hG]
    · -- 27: slot 42 := Op.call   builtin len, args := #[t41], argTypes := #[60]  
      cases hG : ((b1 || b2 || b3 || b4)) with
      | true =>
        refine ob_no fun f w' hb hp => ?_
        simp [PreOf, factOf, valOf, Ph.is, Ph.any, Region.binds, hG] at hp
        exact ⟨by simp [Gd, valOf, hp], by simp [Ph.is]⟩
      | false =>
        refine ob_yes fun f w' hb hp => ?_
        simp [PreOf, factOf, valOf, Ph.is, Ph.any, Region.binds, hG] at hp
        refine ⟨by simp [Gd, valOf, hp], ?_⟩
        refine mild_val (.int .i64 (fl.blocks.length : Int)) ?_ (by simp [Ph.is, hG])
        simp [execOp, evalF, hp, go_sem, hG]
    · -- 28: slot 43 := Op.binOp BinOp.neq 3 t39 t42 3
      cases hG : ((b1 || b2 || b3 || b4)) with
      | true =>
        refine ob_no fun f w' hb hp => ?_
        simp [PreOf, factOf, valOf, Ph.is, Ph.any, Region.binds, hG] at hp
        exact ⟨by simp [Gd, valOf, hp], by simp [Ph.is]⟩
      | false =>
        refine ob_yes fun f w' hb hp => ?_
        simp [PreOf, factOf, valOf, Ph.is, Ph.any, Region.binds, hG] at hp
        refine ⟨by simp [Gd, valOf, hp], ?_⟩
        refine mild_val (.bool b5) ?_ (by simp [Ph.is, hG])
        simp [execOp, evalF, hp, go_sem, hG]
        first | done | (rw [B5.out]; try first | rfl | exact decide_eq_decide.2 (by omega) | (simp; done) | (simp <;> omega) | (simp <;> rfl))
    · -- 29: slot 44 := Op.pick t36 (const (Value.bool true)) t43
      cases hG : ((b1 || b2 || b3 || b4)) with
      | true =>
        refine ob_yes fun f w' hb hp => ?_
        simp [PreOf, factOf, valOf, Ph.is, Ph.any, Region.binds, hG] at hp
        refine ⟨by simp [Gd, valOf, hp], ?_⟩
        refine mild_val (.bool (b1 || b2 || b3 || b4 || b5)) ?_ (by simp [Ph.is, hG])
        simp [execOp, evalF, hp, go_sem, hG]
      | false =>
        refine ob_yes fun f w' hb hp => ?_
        simp [PreOf, factOf, valOf, Ph.is, Ph.any, Region.binds, hG] at hp
        refine ⟨by simp [Gd, valOf, hp], ?_⟩
        refine mild_val (.bool (b1 || b2 || b3 || b4 || b5)) ?_ (by simp [Ph.is, hG])
        simp [execOp, evalF, hp, go_sem, hG]
  · intro f w2 hb2 hp
    simp only [PostOf, Ph.is, Ph.any] at hp
    obtain ⟨h0, h1, h2, h3, h4, h5, h6, h7, h8, h9, h10, h11, h12, h13, h14, h15, h16, h17, h18, h19, h20, h21, h22, h23, h24, h25, h26, h27, h28, h29, _⟩ := hp
    simp only [fills, List.foldl_cons, List.foldl_nil, Act.put, List.setIfInBounds_toArray, List.set_cons_zero, List.set_cons_succ, h0, h1, h2, h3, h4, h9, h10, h15, h16, h20, h21, h29]
    clear h0 h1 h2 h3 h4 h9 h10 h15 h16 h20 h21 h29 h5 h6 h7 h8 h11 h12 h13 h14 h17 h18 h19 h22 h23 h24 h25 h26 h27 h28
    generalize f 20 = v20
    generalize f 21 = v21
    generalize f 22 = v22
    generalize f 23 = v23
    generalize f 26 = v26
    generalize f 27 = v27
    generalize f 28 = v28
    generalize f 29 = v29
    generalize f 32 = v32
    generalize f 33 = v33
    generalize f 34 = v34
    generalize f 37 = v37
    generalize f 38 = v38
    generalize f 39 = v39
    generalize f 40 = v40
    generalize f 41 = v41
    generalize f 42 = v42
    generalize f 43 = v43
    have hb0 := bstep Hb.out (hb2.mono (by omega))
    have Hb0 : Hid (Bt m1 m2 w w2) := Lib.hid (Bt.of hb0)
    have Xf2 := Lib.hid (Xf.out.blwM hb2)
    have K1 := Lib.hid (H1.out.blw hb0)
    have K2 := Lib.hid (H2.out.blw hb0)
    have hs0 := hb0.size
    have hs1 := hb2.size
    clear hb0 hb2
    cases hB : (b1 || b2 || b3 || b4 || b5) with
    | true =>
      have hr : rightC next S1 S2 fl = false := by unfold rightC; rw [Hbas.out, hB]; rfl
      have Hr := Lib.hid hr
      clear hr
      go_wp2_with fail
      go_ret
      refine ⟨by rw [Hr.out]; rfl, fun h => ?_, Hb0.out⟩
      rw [Hr.out] at h
      cases h
    | false =>
      rw [hB] at Hbas
      clear B1 B2 B3 B4 B5
      have hc1 := Xf2.out.cell 1 _ rfl
      go_upto_region 4 with (first
        | (at_lookup; refine wpList_setLook rfl (.tmp 46) (.tmp 48) _ 53 .u32 rfl Try.underlying53 Try.underlying135 m1 n1 S1 rfl K1.out _ (wf_u32 fl.id) rfl ?_)
        | (refine wpList_alloc_z rfl 152 rfl info_none0 [] rfl ?_)
        | (refine wpList_store_new rfl 152 (.tmp 9) (.tmp 50) rfl [] [] rfl rfl info_none0 rfl (by simp) ?_))
      obtain ⟨w3, hw3⟩ : ∃ w3, w3 = w2.alloc (.cells #[] 152) := ⟨_, rfl⟩
      rw [← hw3]
      have hb3 : Below w2.heap.size w2 w3 := by rw [hw3]; exact balloc w2 _
      have hs3 := hb3.size
      have Hb3 := Lib.hid (Hb0.out.step hb3)
      have X3 := Lib.hid (Xf2.out.blwM hb3)
      have L1 := Lib.hid (K1.out.blw hb3)
      have L2 := Lib.hid (K2.out.blw hb3)
      clear hw3 hb3 hc1 K1 K2 Xf2 Hb0
      cases hD : decide ((fl.id.toNat : Int) ∈ S1) with
      | true =>
        have hr : rightC next S1 S2 fl = false := by unfold rightC; rw [hD]; simp
        have Hr := Lib.hid hr
        clear hr
        go_wp2_with fail
        go_ret
        refine ⟨by rw [Hr.out]; rfl, fun h => ?_, Hb3.out⟩
        rw [Hr.out] at h
        cases h
      | false =>
        have hr : rightC next S1 S2 fl = blksC S2 fl.blocks fl.blocks.length := by unfold rightC; rw [Hbas.out, hD]; rfl
        have Hr := Lib.hid hr
        have hc1 := X3.out.cell 1 _ rfl
        clear hr
        go_upto_region 7 with ((at_mapUpdate; refine wpList_setPut rfl (.tmp 53) (.tmp 55) (.tmp 56) _ 53 .u32 rfl Try.underlying53 Try.underlying135 m1 n1 S1 rfl L1.out (by unfold maxLen; omega) _ (wf_u32 fl.id) rfl rfl ?_; intro w4 M1 hg4))
        have hs4 := hg4.size
        have Hb4 := Lib.hid (Hb3.out.grown hg4 (.inl rfl))
        have X4 := Lib.hid (X3.out.grown hg4 (by simp; omega))
        have M2 := Lib.hid (L2.out.kept hg4 (fun e => Hne.out (by injection e with e; exact e.symm)))
        replace M1 := Lib.hid M1
        have hc3 := X4.out.cell 3 _ rfl
        clear hg4 hc1 L1 L2 X3 Hb3
        go_wp2_with fail
        go_loopw [60] (fun iv wr => ∃ k : Nat, k ≤ fl.blocks.length ∧ iv = .int .i64 k ∧ blksC S2 fl.blocks k = true ∧ w4.heap.size ≤ wr.heap.size ∧ Bt m1 m2 w wr ∧
          MSet 53 .u32 wr m1 (n1 + 1) ((fl.id.toNat : Int) :: S1) ∧ MSet 3 .i64 wr m2 (n2 + k) (fl.blocks.take k ++ S2)) (fun i _ => fl.blocks.length - (intOf i).toNat)
        case atStart => exact ⟨0, by omega, rfl, rfl, Nat.le_refl _, Hb4.out, M1.out, M2.out⟩
        case round =>
          obtain ⟨k, hk, rfl, hbk, hsr, hbr, hr1, hr2⟩ := hrel
          have Hbr := Lib.hid hbr
          have R1 := Lib.hid hr1
          have R2 := Lib.hid hr2
          have Hbk := Lib.hid hbk
          clear hbr hr1 hr2 hbk hc3
          by_cases hlt : k < fl.blocks.length
          · obtain ⟨_, ad, rfl, hab, hcell, hx1, hx2⟩ := (HI.out.below (Hbr.out.low hB1 hB2 hBw)).cells k hlt
            have hbs := blksC_succ S2 fl.blocks k
            rw [Hbk.out, Bool.true_and, blkC_eq S2 _ k hlt] at hbs
            have hbf := fun h => blksC_false S2 fl.blocks k h fl.blocks.length hlt
            have htk : fl.blocks.take (k + 1) = fl.blocks.take k ++ [fl.blocks[k]] := by rw [List.take_add_one, List.getElem?_eq_getElem hlt]; rfl
            generalize fl.blocks[k] = x at *
            obtain ⟨d1, hd1⟩ : ∃ b, b = decide (x ∈ fl.blocks.take k ++ S2) := ⟨_, rfl⟩
            obtain ⟨d2, hd2⟩ : ∃ b, b = decide (x < 32) := ⟨_, rfl⟩
            obtain ⟨d3, hd3⟩ : ∃ b, b = decide (65536 ≤ x) := ⟨_, rfl⟩
            rw [← hd1, ← hd2, ← hd3] at hbs
            have D1 := Lib.hid hd1
            have D2 := Lib.hid hd2
            have D3 := Lib.hid hd3
            have Hbs := Lib.hid hbs
            have Hbf := Lib.hid hbf
            have Htk := Lib.hid htk
            have Hx := Lib.hid (wf_i64 x hx1 hx2)
            clear hd1 hd2 hd3 hbs hbf htk
            go_upto_region 11 with (first
              | (at_lookup; refine wpList_setLook rfl (.tmp 65) (.tmp 66) _ 3 .i64 rfl Try.underlying3 Try.underlying136 m2 (n2 + k) (fl.blocks.take k ++ S2) rfl R2.out x Hx.out rfl ?_; rw [← D1.out])
              | (refine wpList_alloc_z rfl 152 rfl info_none0 [] rfl ?_)
              | (refine wpList_store_new rfl 152 (.tmp 13) (.tmp 68) rfl [] [] rfl rfl info_none0 rfl (by simp) ?_))
            obtain ⟨w5, hw5⟩ : ∃ w5, w5 = wr.alloc (.cells #[] 152) := ⟨_, rfl⟩
            rw [← hw5]
            have hb5 : Below wr.heap.size wr w5 := by rw [hw5]; exact balloc wr _
            have hs5 := hb5.size
            have Hb5 := Lib.hid (Hbr.out.step hb5)
            have Q1 := Lib.hid (R1.out.blw hb5)
            have Q2 := Lib.hid (R2.out.blw hb5)
            clear hw5 hb5 R1 R2 hcell
            have hbad : (d1 || d2 || d3) = true → rightC next S1 S2 fl = false := fun h => by rw [Hr.out]; exact Hbf.out (by rw [Hbs.out, h]; rfl)
            have Hbad := Lib.hid hbad
            clear hbad
            cases hd1 : d1 with
            | true =>
              subst hd1
              go_wp2_with fail
              go_ret
              have hr := Hbad.out rfl
              refine ⟨by rw [hr]; rfl, fun h => ?_, Hb5.out⟩
              rw [hr] at h
              cases h
            | false =>
              subst hd1
              cases hd2 : d2 with
              | true =>
                subst hd2
                have hd := D2.out.symm
                go_wp2_with fail
                go_ret
                have hr := Hbad.out rfl
                refine ⟨by rw [hr]; rfl, fun h => ?_, Hb5.out⟩
                rw [hr] at h
                cases h
              | false =>
                subst hd2
                have hd := D2.out.symm
                cases hd3 : d3 with
                | true =>
                  subst hd3
                  have hd' := D3.out.symm
                  go_wp2_with fail
                  go_ret
                  have hr := Hbad.out rfl
                  refine ⟨by rw [hr]; rfl, fun h => ?_, Hb5.out⟩
                  rw [hr] at h
                  cases h
                | false =>
                  subst hd3
                  have hd' := D3.out.symm
                  go_wp2_with ((at_mapUpdate; refine wpList_setPut rfl (.tmp 79) (.tmp 80) (.tmp 81) _ 3 .i64 rfl Try.underlying3 Try.underlying136 m2 (n2 + k) (fl.blocks.take k ++ S2) rfl Q2.out (by unfold maxLen; omega) x Hx.out rfl rfl ?_; intro w6 P2 hg6))
                  have hs6 := hg6.size
                  go_roundw
                  case rel => exact ⟨k + 1, by omega, by go_num, Hbs.out, by omega, Hb5.out.grown hg6 (.inr rfl), Q1.out.kept hg6 (fun e => Hne.out (by injection e)), P2.congr (fun y => by rw [Htk.out]; exact mem_snocL)⟩
                  case measure => simp [intOf]; omega
          · obtain rfl : k = fl.blocks.length := by omega
            have Hr2 := Lib.hid (Hr.out.trans Hbk.out)
            rw [List.take_length] at R2
            go_wp2_with fail
            go_ret
            exact ⟨by rw [Hr2.out]; rfl, fun _ => ⟨R1.out, R2.out⟩, Hbr.out⟩
end Go.Proofs.Ytpoicbhbkabllaa

namespace Go.Proofs.Ytpoicbhbkabllaa
set_option linter.unusedSimpArgs false
set_option linter.unusedVariables false
open Go.RowKit

theorem strCells_bst (l : List UInt8) : Lib.strCells (bst l) = b8s l := by simp [Lib.strCells, bst, b8s, b8]
theorem bst_size (l : List UInt8) : (bst l).size = l.length := rfl
theorem wpList_apps {ops : Array Oper} {rest : List Oper} {o : Oper} {a : Act} {w : World} {Q : Exit → Act → World → Prop} (hgd : o.guard = none) (s x : Operand)
    (ho : o.op = .call { callee := .builtin .append, args := #[s, x], argTypes := #[30, 9] })
    {base : Nat} {v : Value} {l : List UInt8} (l2 : List UInt8) (hown : Ow w base v l) (hs : a.eval s = v) (hx : a.eval x = .string (bst l2))
    (hsz : l.length + l2.length ≤ 140737488355328) (hbase : base ≤ w.heap.size)
    (h : ∀ v' w', Ow w' base v' (l ++ l2) → Ext w w' v v' → wpList Try.prog ops Q rest (a.put o.dst v') w') : wpList Try.prog ops Q (o :: rest) a w := by
  obtain ⟨i, hi, hz0, hz1, hz2⟩ := info_parts info8
  have hu8 := Try.underlying30
  have hust := Try.underlying9
  refine wpList_plain hgd fun K hK => ?_
  obtain ⟨v', w', hr, h2, h3, h4⟩ := Lib.run_append_own_string (P := Try.prog) w base 30 9 o.type 5 i hu8 hust hi hz0 hz1 hz2 v l.length (b8s l) hown (bst l2)
    (by rw [bst_size]; unfold maxLen; omega) (by rw [bst_size]; omega) hbase
  have hat : v'.ownBlock = v.ownBlock ∨ v'.ownBlock = some w.heap.size := by
    rcases hown.2 with ⟨rfl, hn⟩ | ⟨g, cap, cur, rfl, hbg, hg, hnc, hcm, hcs, htake⟩
    · by_cases hm : l2.length = 0
      · exact .inl (by rw [h4.2 ⟨rfl, hm⟩])
      · have hk := run_append_nil_string (P := Try.prog) w 30 9 o.type 5 i (.int .u8 0) hu8 hust hi hz0 (bst l2) (by rw [bst_size]; omega) (by rw [bst_size]; omega) (by rw [bst_size, hz2]; omega)
        rw [hr] at hk
        injection hk with hk1 _
        exact .inr (by rw [hk1]; rfl)
    · by_cases hroom : l.length + (bst l2).size ≤ cap
      · have hcs' : cur.size = cap := by simpa using hcs
        have hk := Lib.run_append_room_string (P := Try.prog) w 30 9 o.type 5 i hu8 hust hi hz1 g l.length cap cur hg (bst l2) hroom (by omega)
        rw [hr] at hk
        injection hk with hk1 _
        exact .inl (by rw [hk1]; rfl)
      · have holds : ∀ j u, (b8s l)[j]? = some u → w.cell? ((⟨g, 0, none⟩ : Addr).add j) = some u := hown.cells (g := g) rfl
        have hk := Lib.run_append_grow_string (P := Try.prog) w 30 9 o.type 5 i (.int .u8 0) hu8 hust hi hz0 ⟨g, 0, none⟩ l.length cap (b8s l) (by rw [hz1, b8s_length]; omega) holds (bst l2) (by omega) (by rw [bst_size]; omega)
          (by rw [hz2]; exact growslice_fits (by omega) (by rw [bst_size]; omega))
        rw [hr] at hk
        injection hk with hk1 _
        exact .inr (by rw [hk1]; rfl)
  unfold Oper.wp execOp
  simp only [ho, resolve, invoke, builtin, Sem.run_bind, Sem.run_pure, Result.andThen_ok, List.map_toArray, List.map_cons, List.map_nil, hs, hx, hr]
  refine hK _ _ (h v' w' ?_ ⟨h3, ?_⟩)
  · unfold Ow
    rw [List.length_append, b8s_append, ← strCells_bst l2]
    exact h2
  · rcases hat with h5 | h5
    · exact .inl h5
    · exact .inr fun k hk => by rw [h5] at hk; injection hk with hk; omega
end Go.Proofs.Ytpoicbhbkabllaa

namespace Go.Proofs.Ytpoicbhbkabllaa
set_option linter.unusedSimpArgs false
set_option linter.unusedVariables false
open Go.RowKit

theorem mildM_call {P : Program} {i : Nat} {J : (Nat → Bool) → (Nat → Value) → World → Prop} {d : Option Nat} {q : Value → Prop} {w' : World} {b : Nat → Bool} {vs : Nat → Value} {ρ : Operand → Value} (f : Nat) (args : Array Operand) (ts : Array TypeId) (fn : Func) (hf : P.funcs[f]? = some fn) (hn : (fn.name == "runtime.NumGoroutine") = false) (hb : fn.body.isNone = false)
    {t : TypeId} {pos : String} {af : Array Edge} {g : Option (Nat × Bool)} (hρ : ρ (.func f) = .func (.func f) #[] #[])
    (h : Calls P f (args.map ρ) w' (fun e w'' => ∃ v, e = .returned v ∧ q (dstVal d v) ∧ J (fun s => if s = i then true else b s) (fun s => if s = i then dstVal d v else vs s) w'')) :
    mildM P d q i J b vs ((execOp ρ { dst := d, op := .call { callee := .value (.func f), args := args, argTypes := ts }, type := t, pos := pos, after := af, guard := g }).run P w') := by
  have hr : (execOp ρ { dst := d, op := .call { callee := .value (.func f), args := args, argTypes := ts }, type := t, pos := pos, after := af, guard := g }).run P w' = .ok (.enter f (args.map ρ)) w' := by
    simp [execOp, resolve, hρ, Deferred.ofValue, invoke, callFunc, hf]
    rw [if_neg (by simpa using hn), if_neg (by intro h; simp [h] at hb)]
  rw [hr]
  exact h
theorem calls_args {P : Program} {f : Nat} {args args' : Array Value} {w : World} {Q : Ending → World → Prop} (h : args = args') (k : Calls P f args' w Q) : Calls P f args w Q := h ▸ k
end Go.Proofs.Ytpoicbhbkabllaa

namespace Go.Proofs.Ytpoicbhbkabllaa
set_option linter.unusedSimpArgs false
set_option linter.unusedVariables false
open Go.RowKit

theorem WrB.drew {T : TypeId} {g : Nat} {cs : List Value} {w1 w : World} {v : Value} {l : List UInt8} (h : WrB T w1 w g cs v l) : WrB T w1 w.drew g cs v l := ⟨h.own, h.blw.drew, h.box, h.ne⟩

set_option maxRecDepth 100000 in
set_option maxHeartbeats 3200000 in
theorem body_any (w : World) (v : Value) (m : MMan) (h : MAt w w.heap.size v m) (hsz : (bodyM m).length ≤ 274877906944) :
    Calls Try.prog 78 #[v] w fun e w' => ∃ v', e = .returned v' ∧ Ow w' w.heap.size v' (bodyM m) ∧ Below w.heap.size w w' := by
  obtain ⟨vf, rfl, hf⟩ := h
  obtain ⟨A, c, rfl, hc1, hc2⟩ := hf.form
  unfold maxLen at hc2
  obtain ⟨w1, hw1⟩ : ∃ w1, w1 = w.alloc (.cells (encM m (.slice A m.files.length c)).toArray 56) := ⟨_, rfl⟩
  have hb1 : Below w.heap.size w w1 := by rw [hw1]; exact balloc w _
  have hx1 : BoxAt 56 w1 w.heap.size (encM m (.slice A m.files.length c)) := by rw [hw1]; exact BoxAt.new_ _ _ _
  have hz1 : w.heap.size < w1.heap.size := by rw [hw1]; simp
  have hf1 := hf.below hb1
  have hc0x := hx1.cell 0 _ rfl
  have Hw1 := Lib.hid hw1
  have Hx1 := Lib.hid hx1
  have Hf1 := Lib.hid hf1
  have Hb1 := Lib.hid hb1
  have hml := bodyM_len m
  have hver := u64_lt m.ver
  have hnx := u32_lt m.next
  clear hw1 hx1 hf1 hb1 hf
  go_enter Try.func78, Try.ntmps78
  go_upto_region 1 with (fail)
  rw [← Hw1.out]
  go_wp2_with fail
  refine (vput_any w1 w1.heap.size _ [] (Ow.nil_ _ _) m.ver.toNat hver (by simp) (Nat.le_refl _)).mono ?_
  rintro _ w2 ⟨v2, rfl, how2, hx2⟩
  rw [List.nil_append] at how2
  have H2 : Hid (Wr w1 w2 v2 (vput m.ver.toNat)) := Lib.hid ⟨how2, hx2.below (Nat.le_refl _) (by simp [Value.ownBlock])⟩
  have m1_2 := (Hx1.out.blwM H2.out.blw).cell 1 _ rfl
  clear how2 hx2 hc0x
  go_wp2_with fail
  refine (vput_any w2 w1.heap.size _ _ H2.out.own m.next.toNat (by omega) (by (try simp only [List.length_append] at *); omega) H2.out.blw.size).mono ?_
  rintro _ w3 ⟨v3, rfl, ho3, hx3⟩
  have H3 := Lib.hid (H2.out.num (Below.refl _ _) hx3 ho3)
  clear ho3 hx3
  have m2_3 := (Hx1.out.blwM H3.out.blw).cell 2 _ rfl
  go_wp2_with fail
  refine (vput_any w3 w1.heap.size _ _ H3.out.own m.files.length (by omega) (by (try simp only [List.length_append] at *); omega) H3.out.blw.size).mono ?_
  rintro _ w4 ⟨v4, rfl, ho4, hx4⟩
  have H4 := Lib.hid (H3.out.num (Below.refl _ _) hx4 ho4)
  clear ho4 hx4
  have m2_4 := (Hx1.out.blwM H4.out.blw).cell 2 _ rfl
  have H4' : Hid (Wr w1 w4 v4 (vput m.ver.toNat ++ vput m.next.toNat ++ vput m.files.length)) := H4
  have hpre : (vput m.ver.toNat ++ vput m.next.toNat ++ vput m.files.length).length + (m.files.flatMap bodyF).length ≤ 274877906944 := by simp only [List.length_append]; omega
  have hbm : bodyM m = vput m.ver.toNat ++ vput m.next.toNat ++ vput m.files.length ++ m.files.flatMap bodyF := rfl
  have Hbm := Lib.hid hbm
  clear hbm hml hsz H4 H3 H2
  generalize vput m.ver.toNat ++ vput m.next.toNat ++ vput m.files.length = pre at *
  clear m1_2 m2_3
  go_wp2_with fail
  go_loopw [3, 25] (fun b i wr => ∃ k : Nat, k ≤ m.files.length ∧ i = .int .i64 k ∧ Wr w1 wr b (pre ++ (m.files.take k).flatMap bodyF)) (fun _ i _ => m.files.length - (intOf i).toNat)
  case atStart => exact ⟨0, by omega, rfl, by simpa using H4'.out⟩
  case round =>
    obtain ⟨k, hk, rfl, HW⟩ := hrel
    replace HW := Lib.hid HW
    by_cases hlt : k < m.files.length
    · have hle := flat_take_le bodyF m.files k hlt
      have hsc := flat_take_succ bodyF m.files k hlt
      have hbl := bodyF_len m.files[k]
      obtain ⟨_, ad, vb, rfl, hab, hbI, hfo, hcl⟩ := Hf1.out.cells k hlt
      obtain ⟨Ab, cb, rfl, hcb1, hcb2⟩ := hbI.form
      unfold maxLen at hcb2
      have hnl := hfo.1
      unfold maxLen at hnl
      have hbf : bodyF m.files[k] = vput m.files[k].name.length ++ m.files[k].name ++ vput m.files[k].id.toNat ++ vput (u64Of m.files[k].size) ++ nums m.files[k].blocks := rfl
      generalize hfk : m.files[k] = fl at *
      have hid := u32_lt fl.id
      have hsu := u64Of_lt fl.size
      have hsw := u64Of_wrap fl.size
      have Hsc := Lib.hid hsc
      have Hcl : Hid (∀ (j : Nat) (u : Value), (encF fl (.slice Ab fl.blocks.length cb))[j]? = some u → wr.cell? ((ad.add (k * 4)).add j) = some u) := Lib.hid fun j u hu => (HW.out.blw.cell (by rw [add_block, add_block]; omega)).trans (hcl j u hu)
      have HbI := Lib.hid hbI
      have Hbf := Lib.hid hbf
      have hsz : (bst fl.name).size = fl.name.length := rfl
      have hpl : (pre ++ (m.files.take k).flatMap bodyF).length + (bodyF fl).length ≤ 274877906944 := by simp only [List.length_append]; omega
      have m2_k := (Hx1.out.blwM HW.out.blw).cell 2 _ rfl
      clear hsc hcl hbI hfo hle hbf m2_4 hfk hpre
      generalize (m.files.take k).flatMap bodyF = mid at *
      go_upto_region 7 with (first
        | (refine wpList_load_agg rfl 62 (.tmp 27) rfl (ad.add (k * 4)) rfl (encF fl (.slice Ab fl.blocks.length cb)) Hcl.out Try.underlying62 rfl info_file4 ?_)
        | (refine wpList_alloc_z rfl 62 rfl info_file zeroFc zeroF_cells ?_)
        | (refine wpList_store_new rfl 62 (.tmp 5) (.tmp 28) rfl zeroFc (encF fl (.slice Ab fl.blocks.length cb)) rfl rfl info_file4 rfl (encF_one _ _ rfl) ?_))
      have H5 := Lib.hid (HW.out.put 62 (encF fl (.slice Ab fl.blocks.length cb)))
      clear Hcl m2_k
      generalize hg : wr.heap.size = g at *
      generalize wr.alloc (.cells (encF fl (.slice Ab fl.blocks.length cb)).toArray 62) = w5 at *
      have hcv : IntKind.u64.wrap (fl.name.length : Int) = (fl.name.length : Int) := by rw [wrap_u64]; omega
      simp only [Act.put, List.setIfInBounds_toArray, List.set_cons_zero, List.set_cons_succ]
      refine wp_region_mixL (ds := [29, 30, 31, 32, 33, 34, 35, 36]) 8 (fun bb vs W' => BoxAt 62 W' g (encF fl (.slice Ab fl.blocks.length cb)) ∧ (bb 5 = false → W' = w5.drew) ∧ (bb 5 = true → WrB 62 w1 W' g (encF fl (.slice Ab fl.blocks.length cb)) (vs 5) (pre ++ mid ++ vput fl.name.length))) [some 29, some 30, some 31, some 32, some 33, some 34, some 35, some 36]
        [fun v => v = u3, fun v => v = .pointer (some ⟨g, 0, none⟩), fun v => v = .string (bst fl.name), fun v => v = .int .i64 (fl.name.length : Int), fun v => v = .int .u64 (fl.name.length : Int), fun _ => True, fun v => v = .pointer (some ⟨g, 0, none⟩), fun v => v = .string (bst fl.name)]
        rfl rfl rfl (by kernel_rfl) (by kernel_rfl) ?_ (fun _ => ⟨H5.out.box, fun _ => rfl, fun h => by cases h⟩) ?_
      · refine ⟨?_, ?_, ?_, ?_, ?_, ?_, ?_, ?_, trivial⟩
        · -- 0: slot 29 := Op.move t3
          refine obM_yes fun f bb w' hj hs hd hp => ?_
          simp [PreO, factO, valOf, Region.binds] at hp hd
          refine ⟨by simp [Gd, valOf, hp], ?_⟩
          refine mildM_val (u3) (w' := w') ?_ rfl (by simpa using hj)
          simp [execOp, evalF, hp, go_sem]
        · -- 1: slot 30 := Op.fieldAddr 62 t5 0
          refine obM_yes fun f bb w' hj hs hd hp => ?_
          simp [PreO, factO, valOf, Region.binds] at hp hd
          refine ⟨by simp [Gd, valOf, hp], ?_⟩
          refine mildM_val (.pointer (some ⟨g, 0, none⟩)) (w' := w') ?_ rfl (by simpa using hj)
          simp [execOp, evalF, hp, go_sem]
        · -- 2: slot 31 := Op.load 9 t30
          refine obM_yes fun f bb w' hj hs hd hp => ?_
          simp [PreO, factO, valOf, Region.binds] at hp hd
          refine ⟨by simp [Gd, valOf, hp], ?_⟩
          have hc := hj.1.cell 0 _ rfl
          refine mildM_val (.string (bst fl.name)) (w' := w') ?_ rfl (by simpa using hj)
          simp [execOp, evalF, hp, go_sem, hc]
        · -- 3: slot 32 := Op.call   builtin len, args := #[t31], argTypes := #[9]  
          refine obM_yes fun f bb w' hj hs hd hp => ?_
          simp [PreO, factO, valOf, Region.binds] at hp hd
          refine ⟨by simp [Gd, valOf, hp], ?_⟩
          refine mildM_val (.int .i64 (fl.name.length : Int)) (w' := w') ?_ rfl (by simpa using hj)
          simp [execOp, evalF, hp, go_sem, hsz]
        · -- 4: slot 33 := Op.convert 3 33 t32
          refine obM_yes fun f bb w' hj hs hd hp => ?_
          simp [PreO, factO, valOf, Region.binds] at hp hd
          refine ⟨by simp [Gd, valOf, hp], ?_⟩
          refine mildM_val (.int .u64 (fl.name.length : Int)) (w' := w') ?_ rfl (by simpa using hj)
          simp [execOp, evalF, hp, go_sem, hcv]
        · -- 5: slot 34 := Op.call   value (Operand.func 93), args := #[t29, t33], argTypes := #[30, 33]  
          refine obM_yes fun f bb w' hj hs hd hp => ?_
          simp [PreO, factO, valOf, Region.binds] at hp hd
          refine ⟨by simp [Gd, valOf, hp], ?_⟩
          have hw' := hj.2.1 hs
          subst hw'
          refine mildM_call 93 _ _ Try.f93 Try.func93 (by kernel_rfl) (by kernel_rfl) rfl ?_
          refine calls_args (args' := #[u3, .int .u64 (fl.name.length : Int)]) (by simp [evalF, hp]) ?_
          refine (vput_any w5.drew w1.heap.size u3 (pre ++ mid) H5.out.drew.own fl.name.length (by omega) (by (try simp only [List.length_append] at *); omega) H5.out.blw.size).mono ?_
          rintro _ w9 ⟨v', rfl, ho, hx⟩
          have hr := H5.out.drew.num (Below.refl _ _) hx ho
          exact ⟨_, rfl, trivial, hr.box, fun h => (by cases h), fun _ => hr⟩
        · -- 6: slot 35 := Op.fieldAddr 62 t5 0
          refine obM_yes fun f bb w' hj hs hd hp => ?_
          simp [PreO, factO, valOf, Region.binds] at hp hd
          refine ⟨by simp [Gd, valOf, hp], ?_⟩
          refine mildM_val (.pointer (some ⟨g, 0, none⟩)) (w' := w') ?_ rfl (by simpa using hj)
          simp [execOp, evalF, hp, go_sem]
        · -- 7: slot 36 := Op.load 9 t35
          refine obM_yes fun f bb w' hj hs hd hp => ?_
          simp [PreO, factO, valOf, Region.binds] at hp hd
          refine ⟨by simp [Gd, valOf, hp], ?_⟩
          have hc := hj.1.cell 0 _ rfl
          refine mildM_val (.string (bst fl.name)) (w' := w') ?_ rfl (by simpa using hj)
          simp [execOp, evalF, hp, go_sem, hc]
      · intro f bb wd hall hj hp
        simp only [PostO] at hp
        obtain ⟨e0, e1, e2, e3, e4, _, e6, e7, _⟩ := hp
        simp only [fills, List.foldl_cons, List.foldl_nil, Act.put, List.setIfInBounds_toArray, List.set_cons_zero, List.set_cons_succ, e0, e1, e2, e3, e4, e6, e7]
        clear e0 e1 e2 e3 e4 e6 e7
        simp only [List.drop_succ_cons, List.drop_zero]
        have H6 := Lib.hid (hj.2.2 (by simp [hall]))
        clear hj H5
        go_wp2_with (at_builtin
                     refine wpList_apps rfl (.tmp 34) (.tmp 36) rfl fl.name H6.out.own rfl rfl (by (try simp only [List.length_append] at *); omega) H6.out.blw.size ?_
                     intro v7 w7 ho7 hx7
                     have H7 := Lib.hid (H6.out.num (Below.refl _ _) hx7 ho7)
                     clear ho7 hx7
                     have q1_7 := H7.out.box.cell 1 _ rfl)
        refine (vput_any w7 w1.heap.size _ _ H7.out.own fl.id.toNat (by omega) (by (try simp only [List.length_append] at *); omega) H7.out.blw.size).mono ?_
        rintro _ w8 ⟨v8, rfl, ho8, hx8⟩
        have H8 := Lib.hid (H7.out.num (Below.refl _ _) hx8 ho8)
        clear ho8 hx8
        have q2_8 := H8.out.box.cell 2 _ rfl
        go_wp2_with fail
        refine (vput_any w8 w1.heap.size _ _ H8.out.own (u64Of fl.size) hsu (by (try simp only [List.length_append] at *); omega) H8.out.blw.size).mono ?_
        rintro _ w9 ⟨v9, rfl, ho9, hx9⟩
        have H9 := Lib.hid (H8.out.num (Below.refl _ _) hx9 ho9)
        clear ho9 hx9
        have q3_9 := H9.out.box.cell 3 _ rfl
        have H9' : Hid (WrB 62 w1 w9 g (encF fl (.slice Ab fl.blocks.length cb)) v9 (pre ++ mid ++ vput fl.name.length ++ fl.name ++ vput fl.id.toNat ++ vput (u64Of fl.size))) := H9
        have hpl2 : (pre ++ mid ++ vput fl.name.length ++ fl.name ++ vput fl.id.toNat ++ vput (u64Of fl.size)).length + (nums fl.blocks).length ≤ 274877906944 := by simp only [List.length_append] at *; omega
        have hbm2 : pre ++ mid ++ bodyF fl = pre ++ mid ++ vput fl.name.length ++ fl.name ++ vput fl.id.toNat ++ vput (u64Of fl.size) ++ nums fl.blocks := by rw [Hbf.out]; simp only [List.append_assoc]
        have Hbm2 := Lib.hid hbm2
        clear H9 H8 H7 H6 hbl hpl Hbf hbm2
        generalize pre ++ mid ++ vput fl.name.length ++ fl.name ++ vput fl.id.toNat ++ vput (u64Of fl.size) = pf at *
        go_wp2_with fail
        go_loopw [3, 51] (fun b i wr => ∃ j : Nat, j ≤ fl.blocks.length ∧ i = .int .i64 j ∧ WrB 62 w1 wr g (encF fl (.slice Ab fl.blocks.length cb)) b (pf ++ nums (fl.blocks.take j))) (fun _ i _ => fl.blocks.length - (intOf i).toNat)
        case atStart => exact ⟨0, by omega, rfl, by simpa [nums] using H9'.out⟩
        case round =>
          obtain ⟨j, hj, rfl, HV⟩ := hrel
          replace HV := Lib.hid HV
          by_cases hjt : j < fl.blocks.length
          · have hns := nums_succ fl.blocks j hjt
            have hnle := nums_le fl.blocks j hjt
            obtain ⟨_, ad2, rfl, hab2, hcj, hj1, hj2⟩ := (HbI.out.below (HV.out.blw.mono (by omega))).cells j hjt
            have Hns := Lib.hid hns
            have hxu := u64Of_lt fl.blocks[j]
            have hxw := u64Of_wrap fl.blocks[j]
            have hql : (pf ++ nums (fl.blocks.take j)).length + (vput (u64Of fl.blocks[j])).length ≤ 274877906944 := by simp only [List.length_append]; omega
            have q3_j := HV.out.box.cell 3 _ rfl
            clear hns hnle hpl2
            generalize fl.blocks[j] = x at *
            generalize nums (fl.blocks.take j) = nj at *
            go_wp2_with fail
            refine (vput_any wr w1.heap.size _ _ HV.out.own (u64Of x) hxu (by (try simp only [List.length_append] at *); omega) HV.out.blw.size).mono ?_
            rintro _ w11 ⟨v11, rfl, ho11, hx11⟩
            have H11 := Lib.hid (HV.out.num (Below.refl _ _) hx11 ho11)
            clear ho11 hx11
            
            go_wp2_with fail
            go_roundw
            case rel => exact ⟨j + 1, by omega, by go_num, by rw [Hns.out, ← List.append_assoc]; exact H11.out⟩
            case measure => simp [intOf]; omega
          · obtain rfl : j = fl.blocks.length := by omega
            rw [List.take_length] at HV
            go_wp2_with fail
            go_roundw
            case rel => exact ⟨k + 1, by omega, by go_num, by rw [Hsc.out, ← List.append_assoc, Hbm2.out]; exact HV.out.wr⟩
            case measure => simp [intOf]; omega
    · obtain rfl : k = m.files.length := by omega
      rw [List.take_length] at HW
      go_wp2_with fail
      go_ret
      exact ⟨_, rfl, by rw [Hbm.out]; exact HW.out.own.mono (Nat.le_of_lt hz1), Hb1.out.trans (HW.out.blw.mono (Nat.le_of_lt hz1))⟩
end Go.Proofs.Ytpoicbhbkabllaa

namespace Go.Proofs.Ytpoicbhbkabllaa
set_option linter.unusedSimpArgs false
set_option linter.unusedVariables false
open Go.RowKit

set_option maxHeartbeats 400000 in
/-- slices.Equal at bytes: whether they are the same -/
theorem equal8 (w : World) (B1 B2 : Nat) (v1 v2 : Value) (l1 l2 : List UInt8) (h1 : By w B1 v1 l1) (h2 : By w B2 v2 l2) :
    Calls Try.prog 95 #[v1, v2] w fun e w' => e = .returned (.bool (decide (l1 = l2))) ∧ Below w.heap.size w w' := by
  obtain ⟨A1, c1, rfl, hc1, hm1, hr1⟩ := h1
  obtain ⟨A2, c2, rfl, hc2, hm2, hr2⟩ := h2
  unfold maxLen at hm1 hm2
  by_cases hlen : l1.length = l2.length
  · have Hlen := Lib.hid hlen
    generalize hn2 : l2.length = n at *
    subst hlen
    have Hn2 := Lib.hid hn2
    clear hn2
    go_enter Try.func95, Try.ntmps95
    go_wp2
    go_loopw [13] (fun i wr => ∃ k : Nat, k ≤ l1.length ∧ i = .int .i64 k ∧ l1.take k = l2.take k ∧ ∃ q, wr = w.drewN q) (fun i _ => l1.length - (intOf i).toNat)
    case atStart => exact ⟨0, by omega, rfl, by simp, 0, rfl⟩
    case round =>
      obtain ⟨k, hk, rfl, ht, q, rfl⟩ := hrel
      by_cases hlt : k < l1.length
      · obtain ⟨ad1, rfl, _, hcs1⟩ := hr1.ad (by omega)
        obtain ⟨ad2, rfl, _, hcs2⟩ := hr2.ad (by omega)
        have hk2 : k < l2.length := by rw [Hn2.out]; exact hlt
        have hx1 := hcs1 k _ (b8s_get l1 k hlt)
        have hx2 := hcs2 k _ (b8s_get l2 k hk2)
        have ht1 := List.take_succ_eq_append_getElem hlt
        have ht2 := List.take_succ_eq_append_getElem hk2
        have Ht := Lib.hid ht
        have Ht1 := Lib.hid ht1
        have Ht2 := Lib.hid ht2
        clear hcs1 hcs2 ht ht1 ht2 hr1 hr2
        have hne : l1[k] ≠ l2[k] → l1 ≠ l2 := fun h e => h (by subst e; rfl)
        have Hne := Lib.hid hne
        clear hne
        generalize l1[k] = b1 at *
        generalize l2[k] = b2 at *
        go_wp2
        go_quiet (fail)
        go_wp2
        · rename_i he
          have hb : b1 ≠ b2 := fun e => by subst e; simp at he
          go_ret
          refine ⟨?_, bdrewN (bdrewN (Below.refl _ _) _) _⟩
          rw [decide_eq_false (Hne.out hb)]; rfl
        · rename_i he
          have hb : b1 = b2 := UInt8.toNat_inj.1 (by simp at he; omega)
          exact ⟨⟨k + 1, by omega, by go_num, by rw [Ht1.out, Ht2.out, Ht.out, hb], q + nq, rfl⟩, by simp [intOf]; omega⟩
      · obtain rfl : k = l1.length := by omega
        go_wp2
        go_ret
        refine ⟨?_, bdrewN (Below.refl _ _) _⟩
        have : l1 = l2 := by
          rw [List.take_length, ← Hn2.out, List.take_length] at ht; exact ht
        rw [decide_eq_true this]; rfl
  · have hne : ((l1.length : Int) == (l2.length : Int)) = false := by simp; omega
    go_enter Try.func95, Try.ntmps95
    go_wp2
    go_ret
    refine ⟨?_, Below.refl _ _⟩
    rw [decide_eq_false (fun e => hlen (by rw [e]))]; rfl
theorem getD_get8 (l : List UInt8) (i : Nat) (h : i < l.length) : l[i]? = some (l.getD i 0) := by simp [List.getD_eq_getElem?_getD, h]
end Go.Proofs.Ytpoicbhbkabllaa

namespace Go.Proofs.Ytpoicbhbkabllaa
set_option linter.unusedSimpArgs false
set_option linter.unusedVariables false

def poly : UInt32 := 3988292384
/-- one bit -/
def stp (x : UInt32) : UInt32 := (x >>> 1) ^^^ (poly * (x &&& 1))
def stps : Nat → UInt32 → UInt32
  | 0, x => x
  | n + 1, x => stps n (stp x)
theorem stps_succ (n : Nat) (x : UInt32) : stps (n + 1) x = stp (stps n x) := by
  induction n generalizing x with
  | zero => rfl
  | succ n ih => rw [stps, ih]; rfl
theorem stps_add (m n : Nat) (x : UInt32) : stps (m + n) x = stps n (stps m x) := by
  induction m generalizing x with
  | zero => simp [stps]
  | succ m ih => rw [Nat.succ_add, stps, ih]; rfl
/-- the table -/
def tabN (i : Nat) : UInt32 := stps 8 (UInt32.ofNat i)
/-- one byte, by the table -/
def upd (x : UInt32) (c : UInt8) : UInt32 := tabN (x.toUInt8 ^^^ c).toNat ^^^ (x >>> 8)
/-- one byte, bit by bit -/
def updB (x : UInt32) (c : UInt8) : UInt32 := stps 8 (x ^^^ c.toUInt32)
def run (x : UInt32) (l : List UInt8) : UInt32 := l.foldl upd x
def crcOf (l : List UInt8) : UInt32 := ~~~ (run 4294967295 l)
theorem run_append (x : UInt32) (a b : List UInt8) : run x (a ++ b) = run (run x a) b := by simp [run]
theorem run_snoc (x : UInt32) (a : List UInt8) (c : UInt8) : run x (a ++ [c]) = upd (run x a) c := by simp [run]

/-! it is linear -/
theorem bit0 (x : UInt32) : x &&& 1 = 0 ∨ x &&& 1 = 1 := by
  have h : (x &&& 1).toNat = x.toNat % 2 := by rw [UInt32.toNat_and]; exact Nat.and_one_is_mod _
  rcases Nat.mod_two_eq_zero_or_one x.toNat with e | e
  · left; apply UInt32.toNat_inj.1; rw [h, e]; rfl
  · right; apply UInt32.toNat_inj.1; rw [h, e]; rfl
theorem stp_xor (a b : UInt32) : stp (a ^^^ b) = stp a ^^^ stp b := by
  have hs : (a ^^^ b) >>> 1 = (a >>> 1) ^^^ (b >>> 1) := by
    apply UInt32.toNat_inj.1
    simp [UInt32.toNat_shiftRight, UInt32.toNat_xor, Nat.shiftRight_xor_distrib]
  have hb : (a ^^^ b) &&& 1 = (a &&& 1) ^^^ (b &&& 1) := by
    apply UInt32.toNat_inj.1
    rw [UInt32.toNat_and, UInt32.toNat_xor, UInt32.toNat_xor, UInt32.toNat_and, UInt32.toNat_and, Nat.and_xor_distrib_right]
  unfold stp
  rw [hs, hb]
  rcases bit0 a with ha | ha <;> rcases bit0 b with hb' | hb' <;> rw [ha, hb']
  · simp
  · simp [UInt32.xor_assoc]
  · simp only [UInt32.xor_zero, UInt32.mul_zero, UInt32.mul_one]
    rw [UInt32.xor_assoc, UInt32.xor_assoc, UInt32.xor_comm (b >>> 1)]
  · have : poly * (1 ^^^ 1 : UInt32) = 0 := by decide
    rw [this]
    simp only [UInt32.mul_one, UInt32.xor_zero]
    rw [UInt32.xor_assoc, UInt32.xor_comm poly, UInt32.xor_assoc (b >>> 1), UInt32.xor_self, UInt32.xor_zero]
theorem stps_xor (n : Nat) (a b : UInt32) : stps n (a ^^^ b) = stps n a ^^^ stps n b := by
  induction n generalizing a b with
  | zero => rfl
  | succ n ih => rw [stps, stp_xor, ih]; rfl
theorem stps_zero (n : Nat) : stps n 0 = 0 := by
  induction n with
  | zero => rfl
  | succ n ih => rw [stps, show stp 0 = 0 from by decide, ih]
/-- bits above the lowest eight are moved down -/
theorem stp_even (x : UInt32) (h : x.toNat % 2 = 0) : stp x = x >>> 1 := by
  have : x &&& 1 = 0 := by
    apply UInt32.toNat_inj.1
    rw [UInt32.toNat_and, show (1 : UInt32).toNat = 1 from rfl, Nat.and_one_is_mod, h]; rfl
  simp [stp, this]
theorem stps_high (n : Nat) (x : UInt32) (h : x.toNat % 2 ^ n = 0) (hn : n ≤ 8) : (stps n x).toNat = x.toNat / 2 ^ n := by
  induction n generalizing x with
  | zero => simp [stps]
  | succ n ih =>
    have h2 : x.toNat % 2 = 0 := by
      have := Nat.mod_mod_of_dvd x.toNat (show 2 ∣ 2 ^ (n + 1) from ⟨2 ^ n, by rw [Nat.pow_succ, Nat.mul_comm]⟩)
      rw [h] at this; simpa using this.symm
    have e : (x >>> 1).toNat = x.toNat / 2 := by simp [UInt32.toNat_shiftRight, Nat.shiftRight_eq_div_pow]
    rw [stps, stp_even x h2, ih (x >>> 1) (by
      rw [e]
      have : x.toNat = 2 * (x.toNat / 2) := by omega
      rw [this, Nat.pow_succ, Nat.mul_comm (2 ^ n), Nat.mul_mod_mul_left] at h
      omega) (by omega), e, Nat.div_div_eq_div_mul, Nat.pow_succ, Nat.mul_comm 2]
theorem upd_bits (x : UInt32) (c : UInt8) : upd x c = updB x c := by
  have hx : x ^^^ c.toUInt32 = ((x.toUInt8 ^^^ c).toUInt32) ^^^ (x &&& 4294967040) := by
    apply UInt32.toNat_inj.1
    apply Nat.eq_of_testBit_eq
    intro i
    simp only [UInt32.toNat_xor, UInt8.toNat_toUInt32, UInt8.toNat_xor, UInt32.toNat_toUInt8, UInt32.toNat_and, Nat.testBit_xor, Nat.testBit_and]
    rw [Nat.testBit_mod_two_pow]
    have hm : (4294967040 : UInt32).toNat = (2 ^ 24 - 1) * 2 ^ 8 := rfl
    rw [hm, Nat.testBit_mul_two_pow, Nat.testBit_two_pow_sub_one]
    by_cases h : i < 8
    · have h8 : ¬ 8 ≤ i := by omega
      simp [h, h8]
    · have h8 : 8 ≤ i := by omega
      have hc : c.toNat.testBit i = false := Nat.testBit_lt_two_pow (Nat.lt_of_lt_of_le c.toNat_lt (Nat.pow_le_pow_right (by omega) h8))
      by_cases h32 : i < 32
      · have : i - 8 < 24 := by omega
        simp [h, h8, hc, this]
      · have hxx : x.toNat.testBit i = false := Nat.testBit_lt_two_pow (Nat.lt_of_lt_of_le x.toNat_lt (Nat.pow_le_pow_right (by omega) (by omega)))
        simp [h, hc, hxx]
  have hl : (x &&& 4294967040).toNat = x.toNat / 256 * 256 := by
    apply Nat.eq_of_testBit_eq
    intro i
    rw [UInt32.toNat_and, Nat.testBit_and]
    have hm : (4294967040 : UInt32).toNat = (2 ^ 24 - 1) * 2 ^ 8 := rfl
    rw [hm, show (256 : Nat) = 2 ^ 8 from rfl, Nat.testBit_mul_two_pow, Nat.testBit_mul_two_pow, Nat.testBit_two_pow_sub_one, Nat.testBit_div_two_pow]
    by_cases h : 8 ≤ i
    · by_cases h32 : i < 32
      · have : i - 8 < 24 := by omega
        simp [h, this]
      · have hxx : x.toNat.testBit i = false := Nat.testBit_lt_two_pow (Nat.lt_of_lt_of_le x.toNat_lt (Nat.pow_le_pow_right (by omega) (by omega)))
        simp [h, hxx]
    · simp [h]
  have hi : stps 8 (x &&& 4294967040) = x >>> 8 := by
    apply UInt32.toNat_inj.1
    rw [stps_high 8 _ (by rw [hl]; simp) (by omega), hl]
    simp [UInt32.toNat_shiftRight, Nat.shiftRight_eq_div_pow]
  unfold updB
  rw [hx, stps_xor, hi]
  unfold upd tabN
  congr 2
  apply UInt32.toNat_inj.1
  rw [UInt32.toNat_ofNat', UInt8.toNat_toUInt32]
  have := (x.toUInt8 ^^^ c).toNat_lt
  omega

theorem crc_example : crcOf [49, 50, 51, 52, 53, 54, 55, 56, 57] = 3421780262 := by decide +kernel

end Go.Proofs.Ytpoicbhbkabllaa

namespace Go.Proofs.Ytpoicbhbkabllaa
set_option linter.unusedSimpArgs false
set_option linter.unusedVariables false
open Go.RowKit

def tabUpTo (k : Nat) : Array Value := Array.ofFn (n := 256) fun i => if i.val < k then .int .u32 ((tabN i).toNat : Int) else .int .u32 0
def tabA : Array Value := tabUpTo 256
def zeroA : Array Value := Array.replicate 256 (.int .u32 0)
theorem tabUpTo_zero : tabUpTo 0 = zeroA := by
  apply Array.ext
  · simp [tabUpTo, zeroA]
  · intro i h1 h2; simp [tabUpTo, zeroA]
theorem tabUpTo_get (k : Nat) (h : k < 256) : (tabUpTo k)[k]? = some (.int .u32 0) := by simp [tabUpTo, h]
theorem tabUpTo_size (k : Nat) : (tabUpTo k).size = 256 := by simp [tabUpTo]
theorem tabUpTo_at (k i : Nat) (h : i < (tabUpTo k).size) : (tabUpTo k)[i] = if i < k then .int .u32 ((tabN i).toNat : Int) else .int .u32 0 := by simp [tabUpTo]
theorem tabUpTo_set (k : Nat) (h : k < 256) : (tabUpTo k).setIfInBounds k (.int .u32 ((stps 8 (UInt32.ofNat k)).toNat : Int)) = tabUpTo (k + 1) := by
  apply Array.ext
  · simp [tabUpTo_size]
  · intro i h1 h2
    rw [Array.getElem_setIfInBounds (by simpa using h1), tabUpTo_at, tabUpTo_at]
    by_cases e : k = i
    · subst e; simp [tabN]
    · rw [if_neg e]
      by_cases hl : i < k
      · rw [if_pos hl, if_pos (by omega)]
      · rw [if_neg hl, if_neg (by omega)]
theorem tabA_get (c : UInt8) : tabA[c.toNat]? = some (.int .u32 ((tabN c.toNat).toNat : Int)) := by
  have := c.toNat_lt
  simp [tabA, tabUpTo, this]
theorem tabA_one : ∀ v ∈ tabA.toList, v.oneCell' = true := by
  intro v hv
  obtain ⟨i, hi, rfl⟩ := List.mem_iff_getElem.1 hv
  rw [Array.getElem_toList]
  simp only [tabA, tabUpTo_at]
  split <;> rfl
theorem tabA_size : tabA.size = 256 := by simp [tabA, tabUpTo]

theorem zeroTab (w : World) : (zeroValue 163).run Try.prog w = .ok (.agg zeroA) w := by kernel_rfl
theorem infoTab : (Try.prog.info? 163).map (·.size) = some 256 := by kernel_rfl
theorem stp_walk (x : UInt32) : bits BinOp.xor IntKind.u32 ((x.toNat : Int) / 2) (3988292384 * ((x.toNat : Int) % 2)) = ((stp x).toNat : Int) := by
  have h1 : ((x.toNat : Int) / (2 : Int)) = ((x >>> 1).toNat : Int) := by simp [UInt32.toNat_shiftRight, Nat.shiftRight_eq_div_pow]
  have h2 : 3988292384 * ((x.toNat : Int) % 2) = ((poly * (x &&& 1)).toNat : Int) := by
    rw [← mul_u32, UInt32.toNat_and, show (1 : UInt32).toNat = 1 from rfl, Nat.and_one_is_mod, IntKind.wrap_u32', show (poly.toNat : Int) = 3988292384 from rfl]
    omega
  rw [h1, h2, xor_u32]; rfl
theorem wrapk (k : Nat) (h : k < 256) : IntKind.u32.wrap (k : Int) = ((UInt32.ofNat k).toNat : Int) := by
  rw [IntKind.wrap_u32', UInt32.toNat_ofNat']; omega

set_option maxRecDepth 100000 in
set_option maxHeartbeats 400000 in
theorem table_any (w : World) :
    Calls Try.prog 103 #[] w fun e w' => e = .returned (.agg tabA) ∧ Below w.heap.size w w' := by
  have hz := zeroTab
  have ha1 := fun x : UInt32 => and_u32 x 1
  simp only [show (((1 : UInt32).toNat : Nat) : Int) = 1 from rfl] at ha1
  go_enter Try.func103, Try.ntmps103
  go_wp2
  go_loopw [5] (fun i wr => ∃ k : Nat, k ≤ 256 ∧ i = .int .i64 k ∧ wr = (w.alloc (Obj.cells zeroA 163)).alloc (Obj.cells (tabUpTo k) 163)) (fun i _ => 256 - (intOf i).toNat)
  case atStart => exact ⟨0, by omega, rfl, by rw [tabUpTo_zero]⟩
  case round =>
    obtain ⟨k, hk, rfl, rfl⟩ := hrel
    by_cases hlt : k < 256
    · have hw := wrapk k hlt
      go_wp2
      go_loop [3,10] (fun x i => ∃ j : Nat, j ≤ 8 ∧ i = .int .i64 j ∧ x = .int .u32 ((stps j (UInt32.ofNat k)).toNat : Int)) (fun _ i => 8 - (intOf i).toNat)
      case atStart => exact ⟨0, by omega, rfl, rfl⟩
      case round =>
        obtain ⟨j, hj, rfl, rfl⟩ := hrel
        by_cases hlt2 : j < 8
        · go_wp2
          go_round
          case rel => exact ⟨j + 1, by omega, by go_num, by rw [stps_succ, stp_walk]⟩
          case measure => simp [intOf]; omega
        · obtain rfl : j = 8 := by omega
          have hc := tabUpTo_get k hlt
          have hs := tabUpTo_set k hlt
          go_wp2
          go_roundw
          case rel => exact ⟨k + 1, by omega, by go_num, rfl⟩
          case measure => simp [intOf]; omega
    · obtain rfl : k = 256 := by omega
      have h0 : (((w.alloc (Obj.cells zeroA 163)).alloc (Obj.cells (tabUpTo 256) 163))).heap[w.heap.size]? = some (.cells zeroA 163 (0, 0)) := heap_alloc2_old w _ _
      go_wp2_with (first
        | (refine wpList_load_row rfl 163 _ rfl (w.heap.size + 1) rfl 163 tabA (0, 0) _ (by exact heap_alloc2_new w _ _) Try.underlying163 rfl (by rw [tabA_size]; exact infoTab) ?_)
        | (refine wpList_store_row rfl 163 (.tmp 0) _ rfl w.heap.size tabA rfl rfl 163 zeroA (by exact h0) (by rw [tabA_size]; exact infoTab) (by rw [tabA_size]; rfl) tabA_one ?_))
      refine bodyPost_ret (results_cell_row rfl _ _ w.heap.size 163 tabA (0, 0) _ rfl (setRow_heap _ _ zeroA _ _ _ h0) Try.underlying163 rfl (by rw [tabA_size]; exact infoTab)) rfl ⟨rfl, ?_⟩
      exact bsetRow (((Below.refl _ _).alloc (Nat.le_refl _) _).alloc (by simp) _) (Nat.le_refl _) _
end Go.Proofs.Ytpoicbhbkabllaa

namespace Go.Proofs.Ytpoicbhbkabllaa
set_option linter.unusedSimpArgs false
set_option linter.unusedVariables false
open Go.RowKit

theorem tabW (a : Addr) (g : Nat) (w : World) (h : w.heap[g]? = some (.cells tabA 163 (0, 0))) (c : UInt8) : w.cell? ⟨g, c.toNat, none⟩ = some (.int .u32 ((tabN c.toNat).toNat : Int)) := by
  rw [cell_of_row w g _ tabA _ _ h, tabA_get]
theorem shr8 (x : UInt32) : ((x.toNat : Int)).fdiv 256 = ((x >>> 8).toNat : Int) := shr_u32 x 8 (by omega)

set_option maxRecDepth 100000 in
set_option maxHeartbeats 400000 in
theorem sum_any (A : Option Addr) (n c : Nat) (vs : List Value) (ls : List (List UInt8)) (w : World) (hn : vs.length = n) (hr : Rd w w.heap.size 1 A n vs) (hlen : vs.length = ls.length) (hm : n ≤ maxLen)
    (hby : ∀ k (h : k < vs.length) (h' : k < ls.length), By w w.heap.size vs[k] ls[k]) :
    Calls Try.prog 101 #[.slice A n c] w fun e w' => e = .returned (.int .u32 ((crcOf ls.flatten).toNat : Int)) ∧ Below w.heap.size w w' := by
  subst hn
  have hz := zeroTab
  unfold maxLen at hm
  have Hlen := Lib.hid hlen
  clear hlen
  go_enter Try.func101, Try.ntmps101
  go_wp2_with (first
    | (go_at_call 103; refine (table_any _).mono ?_; rintro e w1 ⟨rfl, hb1⟩)
    | (refine wpList_store_row rfl 163 (.tmp 3) _ rfl w1.heap.size tabA rfl rfl 163 zeroA (by exact heap_alloc_new w1 _) (by rw [tabA_size]; exact infoTab) (by rw [tabA_size]; rfl) tabA_one ?_))
  have hg : ((w1.alloc (Obj.cells zeroA 163)).setRow w1.heap.size tabA).heap[w1.heap.size]? = some (.cells tabA 163 (0, 0)) := setRow_heap _ _ zeroA _ _ _ (heap_alloc_new w1 _)
  have hb2 : Below w.heap.size w ((w1.alloc (Obj.cells zeroA 163)).setRow w1.heap.size tabA) := bsetRow (hb1.alloc hb1.size _) hb1.size _
  generalize (w1.alloc (Obj.cells zeroA 163)).setRow w1.heap.size tabA = W at *
  generalize w1.heap.size = g at *
  have hr2 := hr.below hb2
  go_loop [4, 12] (fun x i => ∃ k : Nat, k ≤ vs.length ∧ i = .int .i64 k ∧ x = .int .u32 ((run 4294967295 (ls.take k).flatten).toNat : Int)) (fun _ i => vs.length - (intOf i).toNat)
  case atStart => exact ⟨0, by omega, rfl, rfl⟩
  case round =>
    obtain ⟨k, hk, rfl, rfl⟩ := hrel
    by_cases hlt : k < vs.length
    · obtain ⟨ad, rfl, hadb, hcs⟩ := hr2.ad (by omega)
      have hk2 : k < ls.length := by rw [← Hlen.out]; exact hlt
      obtain ⟨A', c', hv, hc1, hc2, hrd⟩ := hby k hlt hk2
      have hcell := hcs k _ (List.getElem?_eq_getElem hlt)
      rw [hv] at hcell
      have hstep : run 4294967295 (ls.take (k + 1)).flatten = run (run 4294967295 (ls.take k).flatten) ls[k] := by
        rw [List.take_succ_eq_append_getElem hk2, List.flatten_append, run_append]; simp
      have Hstep := Lib.hid hstep
      have hrd2 := hrd.below hb2
      clear hv hcs hstep hrd
      generalize ls[k] = l at *
      generalize run 4294967295 (ls.take k).flatten = x0 at *
      unfold maxLen at hc2
      go_wp2
      go_loop [4, 18] (fun x i => ∃ j : Nat, j ≤ l.length ∧ i = .int .i64 j ∧ x = .int .u32 ((run x0 (l.take j)).toNat : Int)) (fun _ i => l.length - (intOf i).toNat)
      case atStart => exact ⟨0, by omega, rfl, rfl⟩
      case round =>
        obtain ⟨j, hj, rfl, rfl⟩ := hrel
        by_cases hlt2 : j < l.length
        · obtain ⟨ad', rfl, hadb', hcs'⟩ := hrd2.ad (by omega)
          have hcell2 := hcs' j _ (b8s_get l j hlt2)
          clear hcs'
          have hst2 : run x0 (l.take (j + 1)) = upd (run x0 (l.take j)) l[j] := by rw [List.take_succ_eq_append_getElem hlt2, run_snoc]
          have Hst2 := Lib.hid hst2
          clear hst2
          generalize l[j] = b at *
          generalize run x0 (l.take j) = x at *
          have hc2 := xor_u8 x.toUInt8 b
          rw [← mod_u8_u32] at hc2
          have hc4 := tabW ad g W hg (x.toUInt8 ^^^ b)
          have hc6 : bits BinOp.xor IntKind.u32 ((tabN (x.toUInt8 ^^^ b).toNat).toNat : Int) ((x.toNat : Int) / 256) = ((upd x b).toNat : Int) := by
            rw [div_u32 x 8 (by omega) 256 rfl]; exact xor_u32 _ _
          generalize upd x b = r at *
          generalize x.toUInt8 ^^^ b = q at *
          generalize tabN q.toNat = t at *
          have hc5 := u8_lt q
          go_wp2
          go_round
          case rel => exact ⟨j + 1, by omega, by go_num, by rw [Hst2.out]⟩
          case measure => simp [intOf]; omega
        · obtain rfl : j = l.length := by omega
          go_wp2
          go_round
          case rel => exact ⟨k + 1, by omega, by go_num, by rw [Hstep.out, List.take_length]⟩
          case measure => simp [intOf]; omega
    · obtain rfl : k = vs.length := by omega
      go_wp2
      go_ret
      refine ⟨?_, hb2⟩
      rw [Hlen.out, List.take_length]
      show Ending.returned (.int .u32 _) = _
      rw [compl_u32]; rfl
end Go.Proofs.Ytpoicbhbkabllaa

namespace Go.Proofs.Ytpoicbhbkabllaa
set_option linter.unusedSimpArgs false
set_option linter.unusedVariables false
open Go.RowKit

def four (x : UInt32) : List UInt8 := [x.toUInt8, (x >>> 8).toUInt8, (x >>> 16).toUInt8, (x >>> 24).toUInt8]
def markOf (l : List UInt8) : List UInt8 := l ++ four (crcOf l)
theorem four_length (x : UInt32) : (four x).length = 4 := rfl
theorem markOf_length (l : List UInt8) : (markOf l).length = l.length + 4 := by simp [markOf, four_length]
def fourAt (x : UInt32) (k : Nat) : UInt8 := (four x).getD k 0
theorem four_succ (x : UInt32) (k : Nat) (h : k < 4) : (four x).take (k + 1) = (four x).take k ++ [fourAt x k] := by
  rcases (show k = 0 ∨ k = 1 ∨ k = 2 ∨ k = 3 by omega) with rfl | rfl | rfl | rfl <;> rfl
theorem four_full (x : UInt32) : (four x).take 4 = four x := rfl
/-- the walk's own form of 'byte(x >> (8*k))' -/
theorem fourAt0 (x : UInt32) : (x.toNat : Int) % 256 = ((fourAt x 0).toNat : Int) := mod_u8_u32 x
theorem fourAt1 (x : UInt32) : (x.toNat : Int) / 256 % 256 = ((fourAt x 1).toNat : Int) := by rw [div_u32 x 8 (by omega) 256 rfl]; exact mod_u8_u32 _
theorem fourAt2 (x : UInt32) : (x.toNat : Int) / 65536 % 256 = ((fourAt x 2).toNat : Int) := by rw [div_u32 x 16 (by omega) 65536 rfl]; exact mod_u8_u32 _
theorem fourAt3 (x : UInt32) : (x.toNat : Int) / 16777216 % 256 = ((fourAt x 3).toNat : Int) := by rw [div_u32 x 24 (by omega) 16777216 rfl]; exact mod_u8_u32 _

set_option maxRecDepth 100000 in
set_option maxHeartbeats 800000 in
theorem mark_any (w : World) (v : Value) (l : List UInt8) (hby : By w w.heap.size v l) (hsz : l.length ≤ 1099511627776) :
    Calls Try.prog 92 #[v] w fun e w' => ∃ v', e = .returned v' ∧ Ow w' w.heap.size v' (markOf l) ∧ Below w.heap.size w w' := by
  have hby0 := hby
  obtain ⟨A, c, rfl, hc1, hc2, hrd⟩ := hby
  go_enter Try.func92, Try.ntmps92
  go_wp2_with (first
    | (go_at_call 94; refine (clone8 _ _ l hby0 (by omega)).mono ?_; rintro e w1 ⟨v1, rfl, hown1, hb1⟩)
    | (go_at_call 101; go_loud (refine (sum_any _ 1 1 [.slice A l.length c] [l] _ rfl (rd1 w1 _ _ rfl) rfl (by decide) (one_by ((hby0.step hb1).alloc (Nat.le_refl _) _ |>.more (by simp)))).mono ?_); rintro e w2 ⟨rfl, hb2⟩))
  have hb12 : Below w1.heap.size w1 w2 := bstep (balloc _ _) hb2
  have hown2 := hown1.below_ hb12
  have hb02 : Below w.heap.size w w2 := bstep hb1 hb12
  have Hres : Hid (markOf l = l ++ four (crcOf l)) := rfl
  clear hown1 hb12 hb1 hb2
  generalize crcOf l = x at *
  go_loopw [3, 5] (fun v n wr => ∃ k : Nat, k ≤ 4 ∧ n = .int .i64 k ∧ Ow wr w.heap.size v (l ++ (four x).take k) ∧ Below w.heap.size w wr) (fun _ n _ => 4 - (intOf n).toNat)
  case atStart => exact ⟨0, by omega, rfl, by simpa using hown2, hb02⟩
  case round =>
    obtain ⟨k, hk, rfl, hown, hb⟩ := hrel
    by_cases hlt : k < 4
    · have hs := four_succ x k hlt
      have Hs := Lib.hid hs
      clear hs
      have h0 := fourAt0 x
      have h1 := fourAt1 x
      have h2 := fourAt2 x
      have h3 := fourAt3 x
      have hlen4 : (l ++ (four x).take k).length ≤ l.length + 4 := by simp [four_length]; omega
      rcases (show k = 0 ∨ k = 1 ∨ k = 2 ∨ k = 3 by omega) with rfl | rfl | rfl | rfl
      all_goals
        go_wp2_with (first
          | (at_builtin
             refine wpList_app8 rfl (.tmp 15) (.tmp 21) rfl (hown.alloc _) (By.new_ wr [fourAt x _] (by simp [maxLen])) rfl rfl (by simp only [List.length_singleton]; omega) (by have := hb.size; simp; omega) ?_
             intro v3 w3 hown3 hext3))
        have hb3 : Below w.heap.size w w3 := hb.trans (((Below.refl _ _).alloc hb.size _).trans (hext3.below (by have := hb.size; simp; omega) (fun k hk => (hown.blk k hk).1)))
        go_roundw
        case rel =>
          first
            | exact ⟨1, by omega, rfl, by rw [Hs.out, ← List.append_assoc]; exact hown3, hb3⟩
            | exact ⟨2, by omega, rfl, by rw [Hs.out, ← List.append_assoc]; exact hown3, hb3⟩
            | exact ⟨3, by omega, rfl, by rw [Hs.out, ← List.append_assoc]; exact hown3, hb3⟩
            | exact ⟨4, by omega, rfl, by rw [Hs.out, ← List.append_assoc]; exact hown3, hb3⟩
        case measure => simp [intOf]
    · obtain rfl : k = 4 := by omega
      go_wp2
      go_ret
      exact ⟨_, rfl, by rw [Hres.out]; exact hown, hb⟩
end Go.Proofs.Ytpoicbhbkabllaa

namespace Go.Proofs.Ytpoicbhbkabllaa
set_option linter.unusedSimpArgs false
set_option linter.unusedVariables false
open Go.RowKit

def fitsB (l : List UInt8) : Bool := decide (4 ≤ l.length ∧ markOf (l.take (l.length - 4)) = l)
def fitsL (l : List UInt8) : List UInt8 := if fitsB l then l.take (l.length - 4) else []
def fitsE (l : List UInt8) : Int := if l.length < 4 then 2 else if fitsB l then 0 else 5

theorem fitsB_mark (l : List UInt8) : fitsB (markOf l) = true := by
  have h : (markOf l).take ((markOf l).length - 4) = l := by rw [markOf_length]; simp [markOf]
  unfold fitsB
  rw [h, markOf_length]
  simp
theorem fitsE_mark (l : List UInt8) : fitsE (markOf l) = 0 := by
  unfold fitsE; rw [fitsB_mark, if_neg (by rw [markOf_length]; omega)]; rfl
theorem fitsL_mark (l : List UInt8) : fitsL (markOf l) = l := by
  unfold fitsL; rw [fitsB_mark, if_pos rfl, markOf_length]; simp [markOf]

set_option maxRecDepth 100000 in
set_option maxHeartbeats 800000 in
theorem fits_any (w : World) (v : Value) (l : List UInt8) (hby : By w w.heap.size v l) (hsz : l.length ≤ 1099511627776) :
    Calls Try.prog 81 #[v] w fun e w' => ∃ v', e = .returned (.tuple #[v', .int .i64 (fitsE l)]) ∧ Ow w' w.heap.size v' (fitsL l) ∧ Below w.heap.size w w' := by
  have hby0 := hby
  obtain ⟨A, c, rfl, hc1, hc2, hrd⟩ := hby
  unfold maxLen at hc2
  by_cases h4 : l.length < 4
  · have hE : fitsE l = 2 := by simp [fitsE, h4]
    have hL : fitsL l = [] := by
      have : fitsB l = false := by simp [fitsB]; omega
      simp [fitsL, this]
    rw [hE, hL]
    clear hE hL
    go_enter Try.func81, Try.ntmps81
    go_wp2_with fail
    go_ret2
    exact ⟨_, rfl, Ow.nil_ _ _, Below.refl _ _⟩
  · have hown : By w w.heap.size (.slice A (l.length - 4) c) (l.take (l.length - 4)) := by
      refine ⟨A, c, by simp, by simp; omega, hc2, ?_⟩
      have := hrd.front (k := l.length - 4) (by omega)
      simpa [b8s, List.map_take] using this
    have hlt : (l.take (l.length - 4)).length = l.length - 4 := by simp
    have HE : Hid (fitsE l = if markOf (l.take (l.length - 4)) = l then 0 else 5) := by
      unfold Hid fitsE fitsB
      rw [if_neg h4]
      by_cases hm : markOf (l.take (l.length - 4)) = l
      · rw [if_pos (by simp [hm]; omega), if_pos hm]
      · rw [if_neg (by simp [hm]), if_neg hm]
    have HL : Hid (fitsL l = if markOf (l.take (l.length - 4)) = l then l.take (l.length - 4) else []) := by
      unfold Hid fitsL fitsB
      by_cases hm : markOf (l.take (l.length - 4)) = l
      · rw [if_pos (by simp [hm]; omega), if_pos hm]
      · rw [if_neg (by simp [hm]), if_neg hm]
    have Hlt := Lib.hid hlt
    clear hlt
    generalize fitsE l = E at *
    generalize fitsL l = L at *
    generalize l.take (l.length - 4) = l0 at *
    by_cases hm : markOf l0 = l
    all_goals
      go_enter Try.func81, Try.ntmps81
      go_wp2_with fail
      refine (clone8 _ _ l0 hown (by rw [Hlt.out]; omega)).mono ?_
      rintro e w1 ⟨v1, rfl, hown1, hb1⟩
      go_wp2_with fail
      refine (mark_any _ _ l0 hown1.by_ (by rw [Hlt.out]; omega)).mono ?_
      rintro e w2 ⟨v2, rfl, hown2, hb2⟩
      have hb02 := bstep hb1 hb2
      go_wp2_with fail
      refine (equal8 _ _ _ _ _ _ _ hown2.by_ (hby0.below hb02)).mono ?_
      rintro e w3 ⟨rfl, hb3⟩
    · rw [decide_eq_true hm]
      have Hm := Lib.hid hm
      clear hm
      go_wp2_with fail
      go_ret2
      refine ⟨v1, by rw [HE.out, if_pos Hm.out]; rfl, ?_, bstep hb02 hb3⟩
      rw [HL.out, if_pos Hm.out]
      exact (hown1.below_ hb2).below_ hb3
    · rw [decide_eq_false hm]
      have Hm := Lib.hid hm
      clear hm
      go_wp2_with fail
      go_ret2
      refine ⟨_, by rw [HE.out, if_neg Hm.out]; rfl, ?_, bstep hb02 hb3⟩
      rw [HL.out, if_neg Hm.out]
      exact Ow.nil_ _ _
end Go.Proofs.Ytpoicbhbkabllaa

namespace Go.Proofs.Ytpoicbhbkabllaa
set_option linter.unusedSimpArgs false
set_option linter.unusedVariables false

/-! ### no state but 0 comes to 0 -/
theorem stp_zero (x : UInt32) (h : stp x = 0) : x = 0 := by
  have hx := x.toNat_lt
  unfold stp at h
  rcases bit0 x with hb | hb
  · rw [hb] at h
    simp only [UInt32.mul_zero, UInt32.xor_zero] at h
    have h1 : x.toNat / 2 = 0 := by
      have := congrArg UInt32.toNat h
      simpa [UInt32.toNat_shiftRight, Nat.shiftRight_eq_div_pow] using this
    have h2 : x.toNat % 2 = 0 := by
      have := congrArg UInt32.toNat hb
      rw [UInt32.toNat_and, show (1 : UInt32).toNat = 1 from rfl, Nat.and_one_is_mod] at this
      exact this
    apply UInt32.toNat_inj.1
    show x.toNat = 0
    omega
  · rw [hb] at h
    exfalso
    have h1 : x >>> 1 = poly := by
      have : (x >>> 1) ^^^ poly * 1 = 0 := h
      rw [UInt32.mul_one] at this
      have h2 : ((x >>> 1) ^^^ poly) ^^^ poly = 0 ^^^ poly := by rw [this]
      rw [UInt32.xor_assoc, UInt32.xor_self, UInt32.xor_zero, UInt32.zero_xor] at h2
      exact h2
    have h2 : x.toNat / 2 = 3988292384 := by
      have := congrArg UInt32.toNat h1
      rw [UInt32.toNat_shiftRight] at this
      simpa [Nat.shiftRight_eq_div_pow, poly] using this
    omega
theorem stps_ne (n : Nat) (x : UInt32) (h : x ≠ 0) : stps n x ≠ 0 := by
  induction n generalizing x with
  | zero => exact h
  | succ n ih => exact ih (stp x) (fun e => h (stp_zero x e))
/-- bits above the lowest n are moved down (any n) -/
theorem stps_down (n : Nat) (x : UInt32) (h : x.toNat % 2 ^ n = 0) : (stps n x).toNat = x.toNat / 2 ^ n := by
  induction n generalizing x with
  | zero => simp [stps]
  | succ n ih =>
    have h2 : x.toNat % 2 = 0 := by
      have := Nat.mod_mod_of_dvd x.toNat (show 2 ∣ 2 ^ (n + 1) from ⟨2 ^ n, by rw [Nat.pow_succ, Nat.mul_comm]⟩)
      rw [h] at this; simpa using this.symm
    have e : (x >>> 1).toNat = x.toNat / 2 := by simp [UInt32.toNat_shiftRight, Nat.shiftRight_eq_div_pow]
    rw [stps, stp_even x h2, ih (x >>> 1) (by
      rw [e]
      have : x.toNat = 2 * (x.toNat / 2) := by omega
      rw [this, Nat.pow_succ, Nat.mul_comm (2 ^ n), Nat.mul_mod_mul_left] at h
      omega), e, Nat.div_div_eq_div_mul, Nat.pow_succ, Nat.mul_comm 2]
theorem stps_two (k : Nat) (hk : k < 32) : stps k (UInt32.ofNat (2 ^ k)) = 1 := by
  have hp : 2 ^ k < 2 ^ 32 := Nat.pow_lt_pow_right (by omega) hk
  have e : (UInt32.ofNat (2 ^ k)).toNat = 2 ^ k := by rw [UInt32.toNat_ofNat']; exact Nat.mod_eq_of_lt hp
  apply UInt32.toNat_inj.1
  rw [stps_down k _ (by rw [e]; exact Nat.mod_self _), e]
  exact Nat.div_self (Nat.two_pow_pos k)

/-! ### a byte turned -/
theorem upd_xor (x y : UInt32) (c d : UInt8) : upd (x ^^^ y) (c ^^^ d) = upd x c ^^^ stps 8 (y ^^^ d.toUInt32) := by
  rw [upd_bits, upd_bits]
  unfold updB
  rw [← stps_xor]
  congr 1
  have : (c ^^^ d).toUInt32 = c.toUInt32 ^^^ d.toUInt32 := by
    apply UInt32.toNat_inj.1
    simp [UInt32.toNat_xor, UInt8.toNat_xor]
  rw [this, UInt32.xor_assoc, UInt32.xor_assoc, ← UInt32.xor_assoc y, UInt32.xor_comm y, UInt32.xor_assoc]
theorem run_xor (x y : UInt32) (l : List UInt8) : run (x ^^^ y) l = run x l ^^^ stps (8 * l.length) y := by
  induction l generalizing x y with
  | nil => rfl
  | cons c l ih =>
    show run (upd (x ^^^ y) c) l = run (upd x c) l ^^^ _
    have h : upd (x ^^^ y) c = upd x c ^^^ stps 8 y := by
      have := upd_xor x y c 0
      simpa using this
    rw [h, ih, List.length_cons, Nat.mul_add, Nat.add_comm (8 * l.length), Nat.mul_one, stps_add]
theorem run_turn (s : UInt32) (a c : List UInt8) (b d : UInt8) : run s (a ++ (b ^^^ d) :: c) = run s (a ++ b :: c) ^^^ stps (8 * c.length + 8) d.toUInt32 := by
  rw [run_append, run_append]
  show run (upd (run s a) (b ^^^ d)) c = run (upd (run s a) b) c ^^^ _
  have h : upd (run s a) (b ^^^ d) = upd (run s a) b ^^^ stps 8 d.toUInt32 := by
    have := upd_xor (run s a) 0 b d
    simpa using this
  rw [h, run_xor, ← stps_add, Nat.add_comm]

/-! ### what was marked comes to one state -/
theorem shl_down (y : UInt8) (k : Nat) (hk : k ≤ 16) : stps 8 (UInt32.ofNat (y.toNat * 2 ^ (k + 8))) = UInt32.ofNat (y.toNat * 2 ^ k) := by
  have hy := y.toNat_lt
  have hp : 2 ^ (k + 8) ≤ 2 ^ 24 := Nat.pow_le_pow_right (by omega) (by omega)
  have hp2 : 2 ^ k ≤ 2 ^ 16 := Nat.pow_le_pow_right (by omega) hk
  have e : (UInt32.ofNat (y.toNat * 2 ^ (k + 8))).toNat = y.toNat * 2 ^ (k + 8) := by
    rw [UInt32.toNat_ofNat']
    refine Nat.mod_eq_of_lt ?_
    calc y.toNat * 2 ^ (k + 8) ≤ 255 * 2 ^ 24 := Nat.mul_le_mul (by omega) hp
      _ < 2 ^ 32 := by omega
  apply UInt32.toNat_inj.1
  rw [stps_down 8 _ (by rw [e, Nat.pow_add, ← Nat.mul_assoc]; exact Nat.mul_mod_left _ _), e, UInt32.toNat_ofNat']
  rw [Nat.pow_add, ← Nat.mul_assoc, Nat.mul_div_cancel _ (by omega), Nat.mod_eq_of_lt]
  calc y.toNat * 2 ^ k ≤ 255 * 2 ^ 16 := Nat.mul_le_mul (by omega) hp2
    _ < 2 ^ 32 := by omega
def le4 (a b c d : UInt8) : UInt32 := a.toUInt32 ^^^ (UInt32.ofNat (b.toNat * 2 ^ 8) ^^^ (UInt32.ofNat (c.toNat * 2 ^ 16) ^^^ UInt32.ofNat (d.toNat * 2 ^ 24)))
theorem u32_of_u8 (y : UInt8) : UInt32.ofNat (y.toNat * 2 ^ 0) = y.toUInt32 := by
  apply UInt32.toNat_inj.1
  have := y.toNat_lt
  rw [UInt32.toNat_ofNat', UInt8.toNat_toUInt32]
  omega
theorem run_four (s : UInt32) (a b c d : UInt8) : run s [a, b, c, d] = stps 32 (s ^^^ le4 a b c d) := by
  show upd (upd (upd (upd s a) b) c) d = _
  rw [upd_bits, upd_bits, upd_bits, upd_bits]
  unfold updB le4
  rw [show (32 : Nat) = 8 + (8 + (8 + 8)) from rfl, stps_add, stps_add, stps_add]
  rw [← UInt32.xor_assoc s, stps_xor 8 (s ^^^ a.toUInt32), stps_xor 8 (UInt32.ofNat (b.toNat * 2 ^ 8)), stps_xor 8 (UInt32.ofNat (c.toNat * 2 ^ 16))]
  rw [shl_down b 0 (by omega), shl_down c 8 (by omega), shl_down d 16 (by omega), u32_of_u8]
  rw [← UInt32.xor_assoc, stps_xor 8 (stps 8 (s ^^^ a.toUInt32) ^^^ b.toUInt32), stps_xor 8 (UInt32.ofNat (c.toNat * 2 ^ 8))]
  rw [shl_down c 0 (by omega), shl_down d 8 (by omega), u32_of_u8, ← UInt32.xor_assoc]
  rw [stps_xor 8 (stps 8 (stps 8 (s ^^^ a.toUInt32) ^^^ b.toUInt32) ^^^ c.toUInt32), shl_down d 0 (by omega), u32_of_u8]
theorem arith1 (n : Nat) : n / 65536 * 65536 + n / 256 % 256 * 256 = n / 256 * 256 := by omega
theorem arith2 (n : Nat) : n / 256 * 256 + n % 256 = n := by omega
theorem le4_four (x : UInt32) : le4 x.toUInt8 (x >>> 8).toUInt8 (x >>> 16).toUInt8 (x >>> 24).toUInt8 = x := by
  have hx := x.toNat_lt
  have e8 : (x >>> 8).toUInt8.toNat = x.toNat / 256 % 256 := by simp [UInt32.toNat_shiftRight, Nat.shiftRight_eq_div_pow]
  have e16 : (x >>> 16).toUInt8.toNat = x.toNat / 65536 % 256 := by simp [UInt32.toNat_shiftRight, Nat.shiftRight_eq_div_pow]
  have e24 : (x >>> 24).toUInt8.toNat = x.toNat / 16777216 % 256 := by simp [UInt32.toNat_shiftRight, Nat.shiftRight_eq_div_pow]
  have e0 : x.toUInt8.toNat = x.toNat % 256 := by simp
  unfold le4
  apply UInt32.toNat_inj.1
  rw [UInt32.toNat_xor, UInt32.toNat_xor, UInt32.toNat_xor, UInt8.toNat_toUInt32, UInt32.toNat_ofNat', UInt32.toNat_ofNat', UInt32.toNat_ofNat', e0, e8, e16, e24]
  generalize x.toNat = n at *
  rw [Nat.mod_eq_of_lt (show n / 256 % 256 * 2 ^ 8 < 2 ^ 32 by show n / 256 % 256 * 256 < 4294967296; omega), Nat.mod_eq_of_lt (show n / 65536 % 256 * 2 ^ 16 < 2 ^ 32 by show n / 65536 % 256 * 65536 < 4294967296; omega), Nat.mod_eq_of_lt (show n / 16777216 % 256 * 2 ^ 24 < 2 ^ 32 by show n / 16777216 % 256 * 16777216 < 4294967296; omega)]
  have hj : ∀ (i a b : Nat), b < 2 ^ i → b ^^^ (a * 2 ^ i) = a * 2 ^ i + b := by
    intro i a b hb
    apply Nat.eq_of_testBit_eq
    intro j
    rw [Nat.testBit_xor, Nat.testBit_mul_two_pow, Nat.mul_comm a, Nat.testBit_two_pow_mul_add _ hb]
    by_cases h : j < i
    · have : ¬ i ≤ j := by omega
      simp [h, this]
    · have h2 : i ≤ j := by omega
      have : b.testBit j = false := Nat.testBit_lt_two_pow (Nat.lt_of_lt_of_le hb (Nat.pow_le_pow_right (by omega) h2))
      simp [h, h2, this]
  rw [hj 24 (n / 16777216 % 256) (n / 65536 % 256 * 2 ^ 16) (by show n / 65536 % 256 * 65536 < 16777216; omega)]
  have h3 : n / 16777216 % 256 * 2 ^ 24 + n / 65536 % 256 * 2 ^ 16 = (n / 65536) * 2 ^ 16 := by show n / 16777216 % 256 * 16777216 + n / 65536 % 256 * 65536 = (n / 65536) * 65536; omega
  rw [h3]
  rw [hj 16 (n / 65536) (n / 256 % 256 * 2 ^ 8) (by show n / 256 % 256 * 256 < 65536; omega)]
  have h4 : n / 65536 * 2 ^ 16 + n / 256 % 256 * 2 ^ 8 = (n / 256) * 2 ^ 8 := arith1 n
  rw [h4, hj 8 (n / 256) (n % 256) (by show n % 256 < 256; omega)]
  exact arith2 n
def endState : UInt32 := stps 32 4294967295
theorem run_mark (l : List UInt8) : run 4294967295 (markOf l) = endState := by
  unfold markOf
  rw [run_append]
  unfold four
  rw [run_four, le4_four]
  unfold crcOf endState
  congr 1
  show run 4294967295 l ^^^ ~~~ run 4294967295 l = (-1 : UInt32)
  rw [← UInt32.xor_neg_one, ← UInt32.xor_assoc, UInt32.xor_self, UInt32.zero_xor]
theorem not_fits (m : List UInt8) (h : run 4294967295 m ≠ endState) : fitsB m = false := by
  unfold fitsB
  rw [decide_eq_false]
  rintro ⟨_, h2⟩
  apply h
  rw [← h2]
  exact run_mark _

/-- one byte turned -/
theorem turned_byte (l a c : List UInt8) (b d : UInt8) (h : markOf l = a ++ b :: c) (hd : d ≠ 0) : fitsB (a ++ (b ^^^ d) :: c) = false := by
  apply not_fits
  rw [run_turn, ← h, run_mark]
  intro e
  have h2 : stps (8 * c.length + 8) d.toUInt32 = 0 := by
    have h3 : endState ^^^ (endState ^^^ stps (8 * c.length + 8) d.toUInt32) = endState ^^^ endState := by rw [e]
    rw [← UInt32.xor_assoc, UInt32.xor_self, UInt32.zero_xor] at h3
    exact h3
  refine stps_ne _ _ ?_ h2
  intro e2
  apply hd
  apply UInt8.toNat_inj.1
  have := congrArg UInt32.toNat e2
  simpa using this

/-! ### bits turned within 32 -/
def bit8 (q : Nat) : UInt8 := UInt8.ofNat (2 ^ (q % 8))
/-- bit number q turned -/
def flip (m : List UInt8) (q : Nat) : List UInt8 := m.set (q / 8) (m.getD (q / 8) 0 ^^^ bit8 q)
theorem flip_length (m : List UInt8) (q : Nat) : (flip m q).length = m.length := by simp [flip]
theorem bit8_u32 (q : Nat) : (bit8 q).toUInt32 = UInt32.ofNat (2 ^ (q % 8)) := by
  have hp : 2 ^ (q % 8) < 2 ^ 8 := Nat.pow_lt_pow_right (by omega) (by omega)
  apply UInt32.toNat_inj.1
  rw [UInt8.toNat_toUInt32, UInt32.toNat_ofNat']
  unfold bit8
  rw [UInt8.toNat_ofNat']
  generalize 2 ^ (q % 8) = z at *
  have hz : z < 256 := hp
  show z % 256 = z % 4294967296
  omega
theorem run_flip (s : UInt32) (m : List UInt8) (q : Nat) (hq : q < 8 * m.length) : run s (flip m q) = run s m ^^^ stps (8 * m.length - q) 1 := by
  have hi : q / 8 < m.length := by omega
  have hm : m = m.take (q / 8) ++ m[q / 8] :: m.drop (q / 8 + 1) := by
    rw [List.getElem_cons_drop hi, List.take_append_drop]
  have hf : flip m q = m.take (q / 8) ++ (m[q / 8] ^^^ bit8 q) :: m.drop (q / 8 + 1) := by
    unfold flip
    rw [List.set_eq_take_append_cons_drop, if_pos hi]
    simp [hi]
  rw [hf, run_turn, ← hm, bit8_u32]
  congr 1
  have h1 : 8 * (m.drop (q / 8 + 1)).length + 8 = q % 8 + (8 * m.length - q) := by rw [List.length_drop]; omega
  rw [h1, stps_add, stps_two _ (by omega)]
/-- the first k bits of x turned, from bit number p on -/
def burst (x : UInt32) (p : Nat) : Nat → List UInt8 → List UInt8
  | 0, m => m
  | k + 1, m => if x.toNat / 2 ^ k % 2 = 1 then flip (burst x p k m) (p + k) else burst x p k m
theorem burst_length (x : UInt32) (p k : Nat) (m : List UInt8) : (burst x p k m).length = m.length := by
  induction k with
  | zero => rfl
  | succ k ih => unfold burst; split <;> simp [flip_length, ih]
theorem mod_succ_xor (n k : Nat) : n % 2 ^ (k + 1) = if n / 2 ^ k % 2 = 1 then (n % 2 ^ k) ^^^ 2 ^ k else n % 2 ^ k := by
  have h1 : n % 2 ^ (k + 1) = 2 ^ k * (n / 2 ^ k % 2) + n % 2 ^ k := by
    rw [Nat.pow_succ, Nat.mod_mul, Nat.add_comm]
  have hlt : n % 2 ^ k < 2 ^ k := Nat.mod_lt _ (Nat.two_pow_pos k)
  rw [h1]
  split
  · rename_i h
    rw [h]
    apply Nat.eq_of_testBit_eq
    intro j
    rw [Nat.testBit_two_pow_mul_add _ hlt, Nat.testBit_xor, Nat.testBit_two_pow]
    by_cases hj : j < k
    · have : ¬ k = j := by omega
      simp [hj, this]
    · have hb : (n % 2 ^ k).testBit j = false := Nat.testBit_lt_two_pow (Nat.lt_of_lt_of_le hlt (Nat.pow_le_pow_right (by omega) (by omega)))
      rw [if_neg hj, hb]
      by_cases e : k = j
      · subst e; simp
      · have : j - k ≠ 0 := by omega
        rw [decide_eq_false e]
        cases h9 : Nat.testBit 1 (j - k) with
        | false => rfl
        | true => exact absurd (Nat.testBit_one_eq_true_iff_self_eq_zero.1 h9) this
  · rename_i h
    have : n / 2 ^ k % 2 = 0 := by omega
    rw [this]; simp
theorem run_burst (s x : UInt32) (p : Nat) (m : List UInt8) (hp : p + 32 ≤ 8 * m.length) : ∀ k, k ≤ 32 → run s (burst x p k m) = run s m ^^^ stps (8 * m.length - p) (UInt32.ofNat (x.toNat % 2 ^ k))
  | 0, _ => by
    have : x.toNat % 2 ^ 0 = 0 := by simp [Nat.mod_one]
    rw [this]
    show run s m = run s m ^^^ stps _ 0
    rw [stps_zero, UInt32.xor_zero]
  | k + 1, hk => by
    have ih := run_burst s x p m hp k (by omega)
    unfold burst
    rw [mod_succ_xor]
    split
    · rw [run_flip _ _ _ (by rw [burst_length]; omega), ih, burst_length]
      have h1 : UInt32.ofNat ((x.toNat % 2 ^ k) ^^^ 2 ^ k) = UInt32.ofNat (x.toNat % 2 ^ k) ^^^ UInt32.ofNat (2 ^ k) := by
        apply UInt32.toNat_inj.1
        have hp : 2 ^ k < 2 ^ 32 := Nat.pow_lt_pow_right (by omega) (by omega)
        have hlt : x.toNat % 2 ^ k < 2 ^ k := Nat.mod_lt _ (Nat.two_pow_pos k)
        rw [UInt32.toNat_xor, UInt32.toNat_ofNat', UInt32.toNat_ofNat', UInt32.toNat_ofNat', Nat.mod_eq_of_lt (show x.toNat % 2 ^ k < 2 ^ 32 by omega), Nat.mod_eq_of_lt hp, Nat.mod_eq_of_lt]
        exact Nat.xor_lt_two_pow (by omega) hp
      rw [h1, stps_xor, UInt32.xor_assoc]
      congr 2
      have h2 : 8 * m.length - p = k + (8 * m.length - (p + k)) := by omega
      rw [h2, stps_add, stps_two k (by omega)]
    · exact ih
theorem burst_found (l : List UInt8) (x : UInt32) (p : Nat) (hx : x ≠ 0) (hp : p + 32 ≤ 8 * (markOf l).length) : fitsB (burst x p 32 (markOf l)) = false := by
  apply not_fits
  rw [run_burst _ _ _ _ hp 32 (by omega), run_mark]
  intro e
  have h3 : endState ^^^ (endState ^^^ stps (8 * (markOf l).length - p) (UInt32.ofNat (x.toNat % 2 ^ 32))) = endState ^^^ endState := by rw [e]
  rw [← UInt32.xor_assoc, UInt32.xor_self, UInt32.zero_xor] at h3
  refine stps_ne _ _ ?_ h3
  have h4 : x.toNat % 2 ^ 32 = x.toNat := Nat.mod_eq_of_lt x.toNat_lt
  rw [h4]
  simpa using hx

end Go.Proofs.Ytpoicbhbkabllaa

namespace Go.Proofs.Ytpoicbhbkabllaa
set_option linter.unusedSimpArgs false
set_option linter.unusedVariables false

def zeros (n : Nat) : List UInt8 := List.replicate n 0
def headOf (file place : UInt32) (b : List UInt8) : List UInt8 := four file ++ four place ++ four (UInt32.ofNat b.length) ++ b
def bodyOf (file place : UInt32) (b : List UInt8) : List UInt8 := headOf file place b ++ zeros (112 - b.length)
def pageOf (file place : UInt32) (b : List UInt8) : List UInt8 := markOf (bodyOf file place b)
def putL (file place : UInt32) (b : List UInt8) : List UInt8 := if 112 < b.length then [] else pageOf file place b
def putE (b : List UInt8) : Int := if 112 < b.length then 4 else 0
theorem headOf_length (file place : UInt32) (b : List UInt8) : (headOf file place b).length = 12 + b.length := by simp [headOf, four_length]; omega
theorem bodyOf_length (file place : UInt32) (b : List UInt8) (h : b.length ≤ 112) : (bodyOf file place b).length = 124 := by
  simp [bodyOf, headOf_length, zeros]; omega
theorem pageOf_length (file place : UInt32) (b : List UInt8) (h : b.length ≤ 112) : (pageOf file place b).length = 128 := by
  rw [pageOf, markOf_length, bodyOf_length _ _ _ h]

/-! ### the parts of a page -/
theorem take_four (x : UInt32) (l : List UInt8) : (four x ++ l).take 4 = four x := by simp [four]
theorem drop_four (x : UInt32) (l : List UInt8) : (four x ++ l).drop 4 = l := by simp [four]
theorem four_inj {x y : UInt32} (h : four x = four y) : x = y := by
  unfold four at h
  simp only [List.cons.injEq, and_true] at h
  obtain ⟨h1, h2, h3, h4⟩ := h
  rw [← le4_four x, ← le4_four y, h1, h2, h3, h4]
theorem pageOf_eq (file place : UInt32) (b : List UInt8) : pageOf file place b = four file ++ (four place ++ (four (UInt32.ofNat b.length) ++ (b ++ (zeros (112 - b.length) ++ four (crcOf (bodyOf file place b)))))) := by
  unfold pageOf markOf
  simp only [bodyOf, headOf, List.append_assoc]
theorem page_file (file place : UInt32) (b : List UInt8) : (pageOf file place b).take 4 = four file := by rw [pageOf_eq, take_four]
theorem page_place (file place : UInt32) (b : List UInt8) : ((pageOf file place b).drop 4).take 4 = four place := by rw [pageOf_eq, drop_four, take_four]
theorem page_len (file place : UInt32) (b : List UInt8) : ((pageOf file place b).drop 8).take 4 = four (UInt32.ofNat b.length) := by
  rw [show (8 : Nat) = 4 + 4 from rfl, ← List.drop_drop, pageOf_eq, drop_four, drop_four, take_four]
theorem page_rest (file place : UInt32) (b : List UInt8) : (pageOf file place b).drop 12 = b ++ (zeros (112 - b.length) ++ four (crcOf (bodyOf file place b))) := by
  rw [show (12 : Nat) = 4 + (4 + 4) from rfl, ← List.drop_drop, ← List.drop_drop, pageOf_eq, drop_four, drop_four, drop_four]
theorem page_fits (file place : UInt32) (b : List UInt8) : fitsB (pageOf file place b) = true := fitsB_mark _

/-! ### the code's test -/
def lenAt (l : List UInt8) : Nat := min (l.getD 8 0).toNat 112
def inOf (l : List UInt8) : List UInt8 := (l.drop 12).take (lenAt l)
def getB (l : List UInt8) (file place : UInt32) : Bool := decide (l.length = 128 ∧ pageOf file place (inOf l) = l)
def getL (l : List UInt8) (file place : UInt32) : List UInt8 := if getB l file place then inOf l else []
def getE (l : List UInt8) (file place : UInt32) : Int := if l.length ≠ 128 then 3 else if getB l file place then 0 else 5
theorem inOf_le (l : List UInt8) : (inOf l).length ≤ 112 := by simp [inOf, lenAt]; omega

theorem four_getD0 (x : UInt32) (l : List UInt8) : (four x ++ l).getD 0 0 = x.toUInt8 := rfl
theorem lenAt_page (file place : UInt32) (b : List UInt8) (h : b.length ≤ 112) : lenAt (pageOf file place b) = b.length := by
  unfold lenAt
  have : (pageOf file place b).getD 8 0 = (UInt32.ofNat b.length).toUInt8 := by
    rw [pageOf_eq]; rfl
  rw [this, UInt32.toNat_toUInt8, UInt32.toNat_ofNat']
  omega
theorem inOf_page (file place : UInt32) (b : List UInt8) (h : b.length ≤ 112) : inOf (pageOf file place b) = b := by
  unfold inOf
  rw [lenAt_page _ _ _ h, page_rest]
  simp
theorem getB_page (file place f2 p2 : UInt32) (b : List UInt8) (h : b.length ≤ 112) : getB (pageOf file place b) f2 p2 = decide (f2 = file ∧ p2 = place) := by
  unfold getB
  rw [inOf_page _ _ _ h, pageOf_length _ _ _ h, decide_eq_decide]
  constructor
  · rintro ⟨_, e⟩
    have h1 := congrArg (fun l => l.take 4) e
    have h2 := congrArg (fun l => (l.drop 4).take 4) e
    simp only [page_file, page_place] at h1 h2
    exact ⟨four_inj h1, four_inj h2⟩
  · rintro ⟨rfl, rfl⟩
    exact ⟨rfl, rfl⟩
theorem getB_fits (l : List UInt8) (file place : UInt32) (h : getB l file place = true) : fitsB l = true := by
  unfold getB at h
  have := (of_decide_eq_true h).2
  rw [← this]
  exact page_fits _ _ _

/-! ### the document's test -/
def leAt (l : List UInt8) : Nat := (l.getD 8 0).toNat + 256 * (l.getD 9 0).toNat + 65536 * (l.getD 10 0).toNat + 16777216 * (l.getD 11 0).toNat
def refB (l : List UInt8) (file place : UInt32) : Prop :=
  l.length = 128 ∧ fitsB l = true ∧ l.take 4 = four file ∧ (l.drop 4).take 4 = four place ∧ leAt l ≤ 112 ∧ ∀ i, 12 + leAt l ≤ i → i < 124 → l.getD i 0 = 0
theorem four_of_le (a b c d : UInt8) (n : Nat) (h : n = a.toNat + 256 * b.toNat + 65536 * c.toNat + 16777216 * d.toNat) : four (UInt32.ofNat n) = [a, b, c, d] := by
  have ha := a.toNat_lt
  have hb := b.toNat_lt
  have hc := c.toNat_lt
  have hd := d.toNat_lt
  have hn : (UInt32.ofNat n).toNat = n := by rw [UInt32.toNat_ofNat']; omega
  have e0 : (UInt32.ofNat n).toUInt8 = a := by apply UInt8.toNat_inj.1; rw [UInt32.toNat_toUInt8, hn]; omega
  have e1 : ((UInt32.ofNat n) >>> 8).toUInt8 = b := by
    apply UInt8.toNat_inj.1
    have : ((UInt32.ofNat n) >>> 8).toUInt8.toNat = (UInt32.ofNat n).toNat / 256 % 256 := by simp [UInt32.toNat_shiftRight, Nat.shiftRight_eq_div_pow]
    rw [this, hn]; omega
  have e2 : ((UInt32.ofNat n) >>> 16).toUInt8 = c := by
    apply UInt8.toNat_inj.1
    have : ((UInt32.ofNat n) >>> 16).toUInt8.toNat = (UInt32.ofNat n).toNat / 65536 % 256 := by simp [UInt32.toNat_shiftRight, Nat.shiftRight_eq_div_pow]
    rw [this, hn]; omega
  have e3 : ((UInt32.ofNat n) >>> 24).toUInt8 = d := by
    apply UInt8.toNat_inj.1
    have : ((UInt32.ofNat n) >>> 24).toUInt8.toNat = (UInt32.ofNat n).toNat / 16777216 % 256 := by simp [UInt32.toNat_shiftRight, Nat.shiftRight_eq_div_pow]
    rw [this, hn]; omega
  unfold four
  rw [e0, e1, e2, e3]
theorem le_four (n : Nat) (hn : n < 4294967296) (l : List UInt8) (h : (l.drop 8).take 4 = four (UInt32.ofNat n)) : leAt l = n := by
  have h8 : l.getD 8 0 = (UInt32.ofNat n).toUInt8 := by
    have := congrArg (fun x => x.getD 0 0) h
    simpa [List.getD_eq_getElem?_getD, List.getElem?_take, List.getElem?_drop, four] using this
  have h9 : l.getD 9 0 = ((UInt32.ofNat n) >>> 8).toUInt8 := by
    have := congrArg (fun x => x.getD 1 0) h
    simpa [List.getD_eq_getElem?_getD, List.getElem?_take, List.getElem?_drop, four] using this
  have h10 : l.getD 10 0 = ((UInt32.ofNat n) >>> 16).toUInt8 := by
    have := congrArg (fun x => x.getD 2 0) h
    simpa [List.getD_eq_getElem?_getD, List.getElem?_take, List.getElem?_drop, four] using this
  have h11 : l.getD 11 0 = ((UInt32.ofNat n) >>> 24).toUInt8 := by
    have := congrArg (fun x => x.getD 3 0) h
    simpa [List.getD_eq_getElem?_getD, List.getElem?_take, List.getElem?_drop, four] using this
  have hn' : (UInt32.ofNat n).toNat = n := by rw [UInt32.toNat_ofNat']; omega
  unfold leAt
  rw [h8, h9, h10, h11]
  simp [UInt32.toNat_shiftRight, Nat.shiftRight_eq_div_pow, Nat.mod_eq_of_lt hn]
  omega
theorem four_leAt (l : List UInt8) (h : 12 ≤ l.length) : (l.drop 8).take 4 = four (UInt32.ofNat (leAt l)) := by
  rw [four_of_le (l.getD 8 0) (l.getD 9 0) (l.getD 10 0) (l.getD 11 0) (leAt l) rfl]
  apply List.ext_getElem?
  intro i
  have hg : ∀ k, k < l.length → l[k]? = some (l.getD k 0) := fun k hk => by simp [List.getD_eq_getElem?_getD, hk]
  rw [List.getElem?_take]
  by_cases hi : i < 4
  · rw [if_pos hi, List.getElem?_drop, hg _ (by omega)]
    rcases (show i = 0 ∨ i = 1 ∨ i = 2 ∨ i = 3 by omega) with rfl | rfl | rfl | rfl <;> rfl
  · rw [if_neg hi]
    simp; omega
/-- the two tests are one -/
theorem get_ref (l : List UInt8) (file place : UInt32) : getB l file place = true ↔ refB l file place := by
  constructor
  · intro h
    have hf := getB_fits l file place h
    unfold getB at h
    obtain ⟨hl, hp⟩ := of_decide_eq_true h
    have hle := inOf_le l
    have h4 := page_len file place (inOf l)
    rw [hp] at h4
    have hn := le_four (inOf l).length (by omega) l h4
    have h1 := page_file file place (inOf l)
    have h2 := page_place file place (inOf l)
    have h3 := page_rest file place (inOf l)
    rw [hp] at h1 h2 h3
    refine ⟨hl, hf, h1, h2, by rw [hn]; exact hle, ?_⟩
    intro i hi1 hi2
    rw [hn] at hi1
    have : l.getD i 0 = (l.drop 12).getD (i - 12) 0 := by
      simp only [List.getD_eq_getElem?_getD, List.getElem?_drop]
      rw [show 12 + (i - 12) = i by omega]
    rw [this, h3, List.getD_eq_getElem?_getD, List.getElem?_append_right (by omega), List.getElem?_append_left (by simp [zeros]; omega)]
    simp only [zeros, List.getElem?_replicate]
    split <;> rfl
  · rintro ⟨hl, hf, h1, h2, h3, h4⟩
    unfold getB
    rw [decide_eq_true]
    refine ⟨hl, ?_⟩
    have hlow : lenAt l = leAt l := by
      unfold lenAt
      have : leAt l = (l.getD 8 0).toNat + 256 * (l.getD 9 0).toNat + 65536 * (l.getD 10 0).toNat + 16777216 * (l.getD 11 0).toNat := rfl
      omega
    have hin : (inOf l).length = leAt l := by
      unfold inOf; rw [List.length_take, List.length_drop, hl, hlow]; omega
    have hb : bodyOf file place (inOf l) = l.take 124 := by
      have e1 : l.take 124 = l.take 4 ++ ((l.drop 4).take 4 ++ ((l.drop 8).take 4 ++ ((l.drop 12).take (leAt l) ++ (l.drop (12 + leAt l)).take (112 - leAt l)))) := by
        rw [show (124 : Nat) = 4 + (4 + (4 + (leAt l + (112 - leAt l)))) by omega]
        rw [List.take_add, List.take_add, List.take_add, List.take_add, List.drop_drop, List.drop_drop, List.drop_drop]
      rw [e1, h1, h2, four_leAt l (by omega)]
      unfold bodyOf headOf
      rw [hin]
      simp only [List.append_assoc]
      congr 3
      unfold inOf
      rw [hlow]
      congr 1
      apply List.ext_getElem?
      intro i
      simp only [zeros, List.getElem?_replicate, List.getElem?_take, List.getElem?_drop]
      split
      · have := h4 (12 + leAt l + i) (by omega) (by omega)
        rw [List.getD_eq_getElem?_getD, List.getElem?_eq_getElem (by omega)] at this
        rw [List.getElem?_eq_getElem (by omega)]
        simpa using this.symm
      · rfl
    unfold pageOf
    rw [hb]
    unfold fitsB at hf
    have := (of_decide_eq_true hf).2
    rwa [hl] at this
theorem ref_in (l : List UInt8) (file place : UInt32) (h : refB l file place) : inOf l = (l.drop 12).take (leAt l) := by
  obtain ⟨_, _, _, _, h3, _⟩ := h
  have hlow : lenAt l = leAt l := by
    unfold lenAt
    have : leAt l = (l.getD 8 0).toNat + 256 * (l.getD 9 0).toNat + 65536 * (l.getD 10 0).toNat + 16777216 * (l.getD 11 0).toNat := rfl
    omega
  unfold inOf; rw [hlow]
/-- a page of which one byte is turned -/
theorem getB_turned (file place f2 p2 : UInt32) (b : List UInt8) (at_ : Nat) (by_ : UInt8) (h : b.length ≤ 112) (ha : at_ < 128) (hby : by_ ≠ 0) :
    getB ((pageOf file place b).set at_ ((pageOf file place b).getD at_ 0 ^^^ by_)) f2 p2 = false := by
  have hl := pageOf_length file place b h
  have ha' : at_ < (pageOf file place b).length := by omega
  cases hg : getB ((pageOf file place b).set at_ ((pageOf file place b).getD at_ 0 ^^^ by_)) f2 p2 with
  | false => rfl
  | true =>
    exfalso
    have hf := getB_fits _ _ _ hg
    have hm : pageOf file place b = (pageOf file place b).take at_ ++ (pageOf file place b)[at_] :: (pageOf file place b).drop (at_ + 1) := by
      rw [List.getElem_cons_drop ha', List.take_append_drop]
    have hs : (pageOf file place b).set at_ ((pageOf file place b).getD at_ 0 ^^^ by_) = (pageOf file place b).take at_ ++ ((pageOf file place b)[at_] ^^^ by_) :: (pageOf file place b).drop (at_ + 1) := by
      rw [List.set_eq_take_append_cons_drop, if_pos ha']
      simp [ha']
    have := turned_byte (bodyOf file place b) _ _ _ by_ hm hby
    rw [hs, this] at hf
    cases hf
end Go.Proofs.Ytpoicbhbkabllaa

namespace Go.Proofs.Ytpoicbhbkabllaa
set_option linter.unusedSimpArgs false
set_option linter.unusedVariables false
open Go.RowKit

/-- a section's bytes -/
def frameOf (k : UInt8) (l : List UInt8) : List UInt8 := markOf (k :: four (UInt32.ofNat l.length)) ++ markOf l
theorem frameOf_length (k : UInt8) (l : List UInt8) : (frameOf k l).length = l.length + 13 := by
  simp [frameOf, markOf_length, four_length]; omega
/-- the length that the head tells -/
def sLen (b : List UInt8) : Nat := (b.getD 1 0).toNat + 256 * (b.getD 2 0).toNat + 65536 * (b.getD 3 0).toNat + 16777216 * (b.getD 4 0).toNat
def sE (b : List UInt8) : Int :=
  if b.length < 9 then 2 else if fitsB (b.take 9) = false then 5 else if 1048576 < sLen b then 4 else if b.length < sLen b + 13 then 2
  else if fitsB ((b.drop 9).take (sLen b + 4)) then 0 else 5
def sL (b : List UInt8) : List UInt8 := if sE b = 0 then (b.drop 9).take (sLen b) else []
def sN (b : List UInt8) : Nat := if sE b = 0 then sLen b + 13 else 0
def sK (b : List UInt8) : UInt8 := if sE b = 0 then b.getD 0 0 else 0

theorem sLen_lt (b : List UInt8) : sLen b < 4294967296 := by
  have h1 := u8_lt (b.getD 1 0)
  have h2 := u8_lt (b.getD 2 0)
  have h3 := u8_lt (b.getD 3 0)
  have h4 := u8_lt (b.getD 4 0)
  unfold sLen
  omega

/-- the head's five bytes -/
theorem frameOf_eq (k : UInt8) (l : List UInt8) : frameOf k l = k :: four (UInt32.ofNat l.length) ++ (four (crcOf (k :: four (UInt32.ofNat l.length))) ++ markOf l) := by
  simp [frameOf, markOf]
theorem sLen_frame (k : UInt8) (l t : List UInt8) (h : l.length < 4294967296) : sLen (frameOf k l ++ t) = l.length := by
  rw [frameOf_eq]
  show (UInt32.ofNat l.length).toUInt8.toNat + 256 * ((UInt32.ofNat l.length) >>> 8).toUInt8.toNat + 65536 * ((UInt32.ofNat l.length) >>> 16).toUInt8.toNat + 16777216 * ((UInt32.ofNat l.length) >>> 24).toUInt8.toNat = l.length
  have e : (UInt32.ofNat l.length).toNat = l.length := by rw [UInt32.toNat_ofNat']; omega
  generalize UInt32.ofNat l.length = x at *
  have h0 := mod_u8_u32 x
  have h1 := fourAt1 x
  have h2 := fourAt2 x
  have h3 := fourAt3 x
  simp only [fourAt, four, List.getD_cons_zero, List.getD_cons_succ] at h1 h2 h3
  omega
theorem take9_frame (k : UInt8) (l t : List UInt8) : (frameOf k l ++ t).take 9 = markOf (k :: four (UInt32.ofNat l.length)) := by
  unfold frameOf
  rw [List.append_assoc, List.take_left' (by simp [markOf_length, four_length])]
theorem drop9_frame (k : UInt8) (l t : List UInt8) : (frameOf k l ++ t).drop 9 = markOf l ++ t := by
  unfold frameOf
  rw [List.append_assoc, List.drop_left' (by simp [markOf_length, four_length])]
theorem sE_frame (k : UInt8) (l t : List UInt8) (h : l.length ≤ 1048576) : sE (frameOf k l ++ t) = 0 := by
  have hn := sLen_frame k l t (by omega)
  have hl : (frameOf k l ++ t).length = l.length + 13 + t.length := by simp [frameOf_length]
  unfold sE
  rw [hn, take9_frame, drop9_frame, fitsB_mark, if_neg (by omega), if_neg (by simp), if_neg (by omega), if_neg (by omega), List.take_left' (by simp [markOf_length]), fitsB_mark]
  rfl
theorem sL_frame (k : UInt8) (l t : List UInt8) (h : l.length ≤ 1048576) : sL (frameOf k l ++ t) = l := by
  unfold sL
  rw [if_pos (sE_frame k l t h), sLen_frame k l t (by omega), drop9_frame]
  simp [markOf]
theorem sN_frame (k : UInt8) (l t : List UInt8) (h : l.length ≤ 1048576) : sN (frameOf k l ++ t) = l.length + 13 := by
  unfold sN
  rw [if_pos (sE_frame k l t h), sLen_frame k l t (by omega)]
theorem sK_frame (k : UInt8) (l t : List UInt8) (h : l.length ≤ 1048576) : sK (frameOf k l ++ t) = k := by
  unfold sK
  rw [if_pos (sE_frame k l t h), frameOf_eq]
  rfl

/-! ### bits at int -/
theorem ofInt_i64 (a : Nat) (ha : a < 9223372036854775808) : (BitVec.ofInt 64 (a : Int)).toNat = a := by
  rw [BitVec.ofInt_natCast, BitVec.toNat_ofNat]; exact Nat.mod_eq_of_lt (by omega)
theorem or_i64 (a b : Nat) (ha : a < 9223372036854775808) (hb : b < 9223372036854775808) : bits .or .i64 (a : Int) (b : Int) = ((a ||| b : Nat) : Int) := by
  have hx : a ||| b < 2 ^ 63 := Nat.or_lt_two_pow (by omega) (by omega)
  show IntKind.i64.wrap ((BitVec.ofInt 64 (a : Int) ||| BitVec.ofInt 64 (b : Int)).toNat : Int) = _
  rw [BitVec.toNat_or, ofInt_i64 a ha, ofInt_i64 b hb, wrap_i64]
  omega
theorem or_add (k a b : Nat) (ha : a < 2 ^ k) : a ||| (2 ^ k * b) = a + 2 ^ k * b := by
  rw [Nat.or_comm, Nat.add_comm, Nat.two_pow_add_eq_or_of_lt ha]
theorem or_i64_add (a c : Int) (k b : Nat) (n : Nat) (hn : a = (n : Int)) (hc : c = ((2 ^ k * b : Nat) : Int)) (ha : n < 2 ^ k) (h1 : n < 9223372036854775808) (h2 : 2 ^ k * b < 9223372036854775808) :
    bits .or .i64 a c = ((n + 2 ^ k * b : Nat) : Int) := by
  rw [hn, hc, or_i64 _ _ h1 h2, or_add _ _ _ ha]
/-- the head's length as frame.Get reads it -/
theorem head_or (a b c d : UInt8) :
    bits .or .i64 (bits .or .i64 (bits .or .i64 (a.toNat : Int) ((b.toNat : Int) * 256)) ((c.toNat : Int) * 65536)) ((d.toNat : Int) * 16777216)
      = ((a.toNat + 256 * b.toNat + 65536 * c.toNat + 16777216 * d.toNat : Nat) : Int) := by
  have h1 := u8_lt a
  have h2 := u8_lt b
  have h3 := u8_lt c
  have h4 := u8_lt d
  rw [or_i64_add (a.toNat : Int) _ 8 b.toNat a.toNat rfl (by omega) (by omega) (by omega) (by omega),
    or_i64_add _ _ 16 c.toNat (a.toNat + 2 ^ 8 * b.toNat) rfl (by omega) (by omega) (by omega) (by omega),
    or_i64_add _ _ 24 d.toNat (a.toNat + 2 ^ 8 * b.toNat + 2 ^ 16 * c.toNat) rfl (by omega) (by omega) (by omega) (by omega)]
end Go.Proofs.Ytpoicbhbkabllaa

namespace Go.Proofs.Ytpoicbhbkabllaa
set_option linter.unusedSimpArgs false
set_option linter.unusedVariables false
open Go.RowKit

theorem zeroCells8 (n : Nat) : Builtin.zeroCells (Value.cells (.int .u8 0)) n = (b8s (List.replicate n 0)).toArray := by
  apply Array.ext
  · simp [Builtin.zeroCells, Value.cells, b8s]
  · intro i h1 h2
    simp [Builtin.zeroCells, Value.cells, b8s, b8, Nat.mod_one]

theorem run_zero8 (w : World) (base : Nat) (v : Value) (l : List UInt8) (hown : Ow w base v l) (n : Nat) (ty : TypeId) (hsz : l.length + n ≤ 140737488355328) (hbase : base ≤ w.heap.size) :
    ∃ v' w', (Builtin.append_ #[30, 3] ty #[v, .int .i64 (n : Int)]).run Try.prog w = .ok v' w' ∧ Ow w' base v' (l ++ List.replicate n 0) ∧ Ext w w' v v' := by
  obtain ⟨i, hi, hz0, hz1, hz2⟩ := info_parts info8
  have hw : IntKind.i64.wrap (n : Int) = n := by rw [wrap_i64]; omega
  have hneg : ¬ ((n : Int) < 0) := by omega
  have h48i : ¬ (281474976710656 < (n : Int)) := by omega
  by_cases hn : n = 0
  · subst hn
    refine ⟨v, w, ?_, by simpa using hown, Ext.refl _ _⟩
    obtain ⟨A, c, rfl, hc, _, _⟩ := hown.form_
    cases A with
    | none => simp [Builtin.append_, run_underlying Try.underlying30, run_underlying Try.underlying3, sizeOf, typeInfo, hi, hz1, hz2, asInt, asIntOf, wrap_i64, hc]
    | some a => simp [Builtin.append_, run_underlying Try.underlying30, run_underlying Try.underlying3, sizeOf, typeInfo, hi, hz1, hz2, asInt, asIntOf, wrap_i64, hc, storeCells]
  · have h0 : 0 < n := by omega
    -- a new row
    have grows : ∀ (bs : Option Addr) (cap : Nat), cap < l.length + n → (Builtin.firstCells 1 l.length (.slice bs l.length cap)).run Try.prog w.drew = .ok (b8s l).toArray w.drew → v = .slice bs l.length cap →
        ∃ v' w', (Builtin.append_ #[30, 3] ty #[v, .int .i64 (n : Int)]).run Try.prog w = .ok v' w' ∧ Ow w' base v' (l ++ List.replicate n 0) ∧ Ext w w' v v' := by
      intro bs cap hcap hf hv
      have hr := Lib.run_append_grow_zeros (P := Try.prog) w 30 3 ty 5 i (.int .u8 0) .i64 .i64 Try.underlying30 Try.underlying3 hi hz0 bs l.length cap (b8s l) (by rw [hz1]; exact hf) n h0 (by omega) hcap (by omega) (by rw [hz2]; omega)
        (growslice_fits hcap (by rw [hz2]; omega))
      rw [← hv] at hr
      have hge := grownCap_ge w (l.length + n) cap 5
      have hcm := grownCap_le_maxLen w (l.length + n) cap 5 (by unfold maxLen; omega)
      generalize grownCap w (l.length + n) cap 5 = nc at *
      refine ⟨_, _, hr, ⟨by simp [b8s], .inr ⟨w.heap.size, nc, _, by simp, hbase, heap_alloc_new w.drew _, by simpa using hge, hcm, ?_, ?_⟩⟩, ⟨⟨rfl, rfl, rfl, by simp, fun k hk _ => heap_alloc_old w.drew _ hk⟩, .inr fun k hk => ?_⟩⟩
      · simp [Builtin.zeroCells, Value.cells, b8s]; omega
      · rw [zeroCells8, Array.toList_append, Array.toList_append, b8s_append]
        exact List.take_left' (by simp [b8s])
      · simp [Value.ownBlock] at hk
        omega
    rcases hown.2 with ⟨hv, hl0⟩ | ⟨g, cap, cur, hv, hb, hg, hnc, hcm, hcs, htake⟩
    · have hl : l = [] := List.eq_nil_of_length_eq_zero hl0
      subst hl
      exact grows none 0 (by simpa using h0) rfl hv
    · by_cases hroom : l.length + n ≤ cap
      · have hst := run_storeCells_at Try.prog g l.length 5 (b8s (List.replicate n 0)) 0 cur w hg (by simp [b8s]; omega) (b8s_one _)
        simp only [Nat.add_zero] at hst
        have hr : (Builtin.append_ #[30, 3] ty #[v, .int .i64 (n : Int)]).run Try.prog w = .ok (.slice (some ⟨g, 0, none⟩) (l.length + n) cap) (w.setRow g (cur.toList.take l.length ++ b8s (List.replicate n 0) ++ cur.toList.drop (l.length + (b8s (List.replicate n 0)).length)).toArray) := by
          rw [hv]
          simp [Builtin.append_, run_underlying Try.underlying30, run_underlying Try.underlying3, sizeOf, typeInfo, zeroValue, hi, hz0, hz1, hz2, asInt, asIntOf, hw, hneg, h48i, hroom, hn, zeroCells8, Addr.add_lit, hst]
        refine ⟨_, _, hr, ⟨by simp [b8s], .inr ⟨g, cap, _, by simp, hb, setRow_heap w g cur _ _ _ hg, by simpa using hroom, hcm, ?_, ?_⟩⟩, ⟨⟨rfl, rfl, rfl, by simp, fun k _ hk => setRow_other w g k _ (fun e => hk (by rw [hv]; simp [Value.ownBlock, e]))⟩, .inl (by rw [hv]; rfl)⟩⟩
        · simp [b8s]; omega
        · have e1 : cur.toList.take l.length = b8s l := by simpa using htake
          rw [e1]
          rw [List.take_append_of_le_length (by simp [b8s])]
          rw [List.take_of_length_le (by simp [b8s])]
          simp [b8s]
      · have hcells : ∀ j u, (b8s l)[j]? = some u → w.cell? ((⟨g, 0, none⟩ : Addr).add j) = some u := World.ownsRow.cells hown (g := g) (by rw [hv]; rfl)
        refine grows (some ⟨g, 0, none⟩) cap (by omega) ?_ hv
        have := run_loadCells_list (P := Try.prog) w.drew ⟨g, 0, none⟩ (b8s l) hcells
        simpa [Builtin.firstCells, b8s] using this

theorem wpList_zero8 {ops : Array Oper} {rest : List Oper} {o : Oper} {a : Act} {w : World} {Q : Exit → Act → World → Prop} (hgd : o.guard = none) (s x : Operand)
    (ho : o.op = .call { callee := .builtin .append, args := #[s, x], argTypes := #[30, 3] })
    {base : Nat} {v : Value} {l : List UInt8} (hown : Ow w base v l) (n : Nat) (hs : a.eval s = v) (hx : a.eval x = .int .i64 (n : Int))
    (hsz : l.length + n ≤ 140737488355328) (hbase : base ≤ w.heap.size)
    (h : ∀ v' w', Ow w' base v' (l ++ List.replicate n 0) → Ext w w' v v' → wpList Try.prog ops Q rest (a.put o.dst v') w') : wpList Try.prog ops Q (o :: rest) a w := by
  obtain ⟨v', w', hr, h2, h3⟩ := run_zero8 w base v l hown n o.type hsz hbase
  exact Lib.wpList_append_run w hgd s x _ _ ho v _ hs hx v' w' hr (h v' w' h2 h3)
end Go.Proofs.Ytpoicbhbkabllaa

namespace Go.Proofs.Ytpoicbhbkabllaa
set_option linter.unusedSimpArgs false
set_option linter.unusedVariables false
open Go.RowKit

theorem infoSec : (Try.prog.info? 108).map (·.size) = some 2 := by kernel_rfl
/-- block g holds a Section -/
def SecAt (w : World) (g : Nat) (k v : Value) : Prop := w.heap[g]? = some (.cells #[k, v] 108 (0, 0))
theorem gsetRow (w : World) (g : Nat) (cs : Array Value) : w.grownBy (w.setRow g cs) (some g) :=
  ⟨rfl, rfl, rfl, by simp, fun i _ hne => setRow_other w g i cs (fun e => hne (by rw [e]))⟩
theorem SecAt.new_ (w : World) (k v : Value) : SecAt (w.alloc (.cells #[k, v] 108)) w.heap.size k v := heap_alloc_new w _
theorem SecAt.alloc {w : World} {g : Nat} {k v : Value} (h : SecAt w g k v) (hg : g < w.heap.size) (o : Obj) : SecAt (w.alloc o) g k v := (heap_alloc_old w o hg).trans h
theorem SecAt.below {w w' : World} {g B : Nat} {k v : Value} (h : SecAt w g k v) (hg : g < B) (hb : Below B w w') : SecAt w' g k v := (hb.block g hg).trans h
theorem SecAt.put {w : World} {g : Nat} {k v : Value} (h : SecAt w g k v) (k' v' : Value) : SecAt (w.setRow g #[k', v']) g k' v' := setRow_heap _ _ _ _ _ _ h
theorem SecAt.other {w : World} {g : Nat} {k v : Value} (h : SecAt w g k v) (g' : Nat) (hne : g ≠ g') (cs : Array Value) : SecAt (w.setRow g' cs) g k v := (setRow_other w g' g cs hne).trans h
theorem SecAt.lt {w : World} {g : Nat} {k v : Value} (h : SecAt w g k v) : g < w.heap.size := (Array.getElem?_eq_some_iff.1 h).1
theorem SecAt.cell0 {w : World} {g : Nat} {k v : Value} (h : SecAt w g k v) : w.cell? { block := g, off := 0 } = some k := by
  unfold SecAt at h; simp [World.cell?, h]
theorem SecAt.cell1 {w : World} {g : Nat} {k v : Value} (h : SecAt w g k v) : w.cell? { block := g, off := 1 } = some v := by
  unfold SecAt at h; simp [World.cell?, h]
theorem Ow.setRow_ {w : World} {base : Nat} {v : Value} {l : List UInt8} (h : Ow w base v l) {g : Nat} (hg : g < base) (cs : Array Value) : Ow (w.setRow g cs) base v l :=
  h.keep (gsetRow w g cs) (by
    cases hv : v.ownBlock with
    | none => exact .inl rfl
    | some k => exact .inr (fun e => by injection e with e; have := (h.blk k hv).1; omega))
theorem By.setRow_ {w : World} {B : Nat} {v : Value} {l : List UInt8} (h : By w B v l) {g : Nat} (hg : B ≤ g) (cs : Array Value) : By (w.setRow g cs) B v l :=
  h.below (bsetRow (Below.refl _ _) hg cs)

theorem results_sec {fn : Func} {p q r : Tmp} (h : fn.results = #[.cell p 108, .tmp q, .tmp r]) (tmps : Array Value) (w : World) (g : Nat) (k v : Value)
    (hp : tmps.getD p undef = .pointer (some ⟨g, 0, none⟩)) (hs : SecAt w g k v) :
    (results fn tmps).run Try.prog w = .ok (.tuple #[.agg #[k, v], tmps.getD q undef, tmps.getD r undef]) w := by
  have hp' : tmps[p]?.getD undef = .pointer (some ⟨g, 0, none⟩) := by simpa using hp
  have hr := run_loadVar_row w g 108 108 #[k, v] (0, 0) _ hs Try.underlying108 rfl infoSec
  simp [results, h, hp', asAddr, hr]

theorem wpList_store_sec {ops : Array Oper} {rest : List Oper} {o : Oper} {a : Act} {w : World} {Q : Exit → Act → World → Prop} (hgd : o.guard = none) (x y : Operand) (ho : o.op = .store 108 x y)
    (g : Nat) (k v k' v' : Value) (hx : a.eval x = .pointer (some ⟨g, 0, none⟩)) (hy : a.eval y = .agg #[k', v']) (hs : SecAt w g k v) (h1 : k'.oneCell' = true) (h2 : v'.oneCell' = true)
    (h : SecAt (w.setRow g #[k', v']) g k' v' → wpList Try.prog ops Q rest (a.put o.dst undef) (w.setRow g #[k', v'])) : wpList Try.prog ops Q (o :: rest) a w :=
  wpList_store_row hgd 108 x y ho g #[k', v'] hx hy 108 #[k, v] hs infoSec rfl (by
    intro u hu
    simp at hu
    rcases hu with rfl | rfl
    · exact h1
    · exact h2) (h (hs.put k' v'))
theorem wpList_load_sec {ops : Array Oper} {rest : List Oper} {o : Oper} {a : Act} {w : World} {Q : Exit → Act → World → Prop} (hgd : o.guard = none) (x : Operand) (ho : o.op = .load 108 x)
    (g : Nat) (k v : Value) (hx : a.eval x = .pointer (some ⟨g, 0, none⟩)) (hs : SecAt w g k v)
    (h : wpList Try.prog ops Q rest (a.put o.dst (.agg #[k, v])) w) : wpList Try.prog ops Q (o :: rest) a w :=
  wpList_load_row hgd 108 x ho g hx 108 #[k, v] (0, 0) _ hs Try.underlying108 rfl infoSec h
end Go.Proofs.Ytpoicbhbkabllaa

namespace Go.Proofs.Ytpoicbhbkabllaa
set_option linter.unusedSimpArgs false
set_option linter.unusedVariables false
open Go.RowKit

set_option maxRecDepth 100000 in
set_option maxHeartbeats 800000 in
theorem fput_any (w : World) (base : Nat) (v0 : Value) (l0 : List UInt8) (hown : Ow w base v0 l0) (k : UInt8) (v : Value) (l : List UInt8) (hby : By w base v l) (hsz : l.length ≤ 1048576) (hsz0 : l0.length ≤ 1099511627776)
    (hbase : base ≤ w.heap.size) :
    Calls Try.prog 77 #[v0, .agg #[.int .u8 (k.toNat : Int), v]] w fun e w' => ∃ v', e = .returned (.tuple #[v', .int .i64 0]) ∧ Ow w' base v' (l0 ++ frameOf k l) ∧ Ext w w' v0 v' := by
  have hby0 := hby
  obtain ⟨A, c, rfl, hc1, hc2, hrd⟩ := hby
  obtain ⟨A0, c0, rfl, hd1, hd2, hf0⟩ := hown.form_
  unfold maxLen at hc2 hd2
  have hx : (UInt32.ofNat l.length).toNat = l.length := by rw [UInt32.toNat_ofNat']; omega
  have h0 := fourAt0 (UInt32.ofNat l.length)
  have h1 := fourAt1 (UInt32.ofNat l.length)
  have h2 := fourAt2 (UInt32.ofNat l.length)
  have h3 := fourAt3 (UInt32.ofNat l.length)
  rw [hx] at h0 h1 h2 h3
  have h2' : (l.length : Int) / 65536 = ((fourAt (UInt32.ofNat l.length) 2).toNat : Int) := by omega
  have h3' : (l.length : Int) / 16777216 = ((fourAt (UInt32.ofNat l.length) 3).toNat : Int) := by omega
  clear h2 h3
  have hg : (UInt32.ofNat l.length).toNat < 4294967296 := u32_lt _
  have hcl : (k :: four (UInt32.ofNat l.length)).length = 5 := rfl
  have HF : Hid (frameOf k l = markOf (k :: four (UInt32.ofNat l.length)) ++ markOf l) := by unfold Hid; rfl
  have hby := By.new_ (w.alloc (.cells #[.int .u8 (k.toNat : Int), .slice A l.length c] 108)) (k :: four (UInt32.ofNat l.length)) (by simp [four_length, maxLen])
  have hv : (b8s (k :: four (UInt32.ofNat l.length))).toArray = #[.int .u8 (k.toNat : Int), .int .u8 ((fourAt (UInt32.ofNat l.length) 0).toNat : Int), .int .u8 ((fourAt (UInt32.ofNat l.length) 1).toNat : Int), .int .u8 ((fourAt (UInt32.ofNat l.length) 2).toNat : Int), .int .u8 ((fourAt (UInt32.ofNat l.length) 3).toNat : Int)] := rfl
  rw [hv] at hby
  clear hv
  have g0 := u8_lt (fourAt (UInt32.ofNat l.length) 0)
  have g1 := u8_lt (fourAt (UInt32.ofNat l.length) 1)
  generalize fourAt (UInt32.ofNat l.length) 0 = b0 at *
  generalize fourAt (UInt32.ofNat l.length) 1 = b1 at *
  generalize fourAt (UInt32.ofNat l.length) 2 = b2 at *
  generalize fourAt (UInt32.ofNat l.length) 3 = b3 at *
  generalize k :: four (UInt32.ofNat l.length) = hd at *
  have hml : (markOf hd).length = 9 := by rw [markOf_length]; omega
  rw [hcl] at hby
  clear hx hg
  go_enter Try.func77, Try.ntmps77
  go_wp2_with fail
  have hby1 := hby.more (B' := (w.heap.size + 1 + 1)) (by simp)
  refine (mark_any _ _ hd (by simpa using hby1) (by rw [hcl]; decide)).mono ?_
  rintro e w1 ⟨v1, rfl, hown1, hb1⟩
  have hb01 := bstep (bstep (balloc w _) (balloc _ _)) hb1
  have hown01 : Ow w1 base (.slice A0 l0.length c0) l0 := ((hown.alloc _).alloc _).below_ hb1
  have hbox1 : w1.cell? ⟨w.heap.size, 1, none⟩ = some (.slice A l.length c) := by
    rw [hb1.cell (by simp; omega), World.cell?_alloc_lt _ _ _ (by simp)]
    rw [World.cell?_alloc_new]; rfl
  have hb1v : By w1 base (.slice A l.length c) l := hby0.below (hb01.mono hbase)
  have hs1 := hb01.size
  have hne0 : ∀ k, (Value.slice A0 l0.length c0).ownBlock = some k → base ≤ k ∧ k < w.heap.size := hown.blk
  have hlt1 : w.heap.size < w1.heap.size := by have := hb1.size; simp at this; omega
  have hstep : ∀ (w2 : World) (v2 : Value), Ext w1 w2 (.slice A0 l0.length c0) v2 → w2.cell? { block := w.heap.size, off := 1 } = some (.slice A l.length c) ∧ By w2 base (.slice A l.length c) l := by
    intro w2 v2 hext2
    refine ⟨?_, hb1v.below (hext2.below (Nat.le_trans hbase hs1) fun k hk => (hne0 k hk).1)⟩
    rw [hext2.gr.cell_far _ hlt1 (fun e => absurd (show w.heap.size < w.heap.size from (hne0 _ e.symm).2) (by omega))]
    exact hbox1
  have Hstep := Lib.hid hstep
  clear hstep
  clear hne0 hf0 h0 h1 h2' h3' g0 g1 hby hby1 hrd
  go_wp2_with (
               at_builtin
               refine wpList_app8 rfl (.tmp 13) (.tmp 28) rfl hown01 hown1.by_ rfl rfl (by omega) (Nat.le_trans hbase hs1) ?_
               intro v2 w2 hown2 hext2
               have hs2 := hext2.gr.size
               have hbox2 := (Hstep.out w2 v2 hext2).1)
  have hb2v := (Hstep.out w2 v2 hext2).2
  refine (mark_any _ _ l (hb2v.more (Nat.le_trans (Nat.le_trans hbase hs1) hs2)) (by omega)).mono ?_
  rintro e w3 ⟨v3, rfl, hown3, hb3⟩
  have hown23 := hown2.below_ hb3
  have hml2 : (markOf l).length = l.length + 4 := markOf_length _
  have hs3 := hb3.size
  have hx1 := hext2.after hb01 _ rfl
  have hx3 := hx1.then_ hb3
  have hal : (l0 ++ markOf hd).length = l0.length + 9 := by rw [List.length_append, hml]
  go_wp2_with (
               at_builtin
               refine wpList_app8 rfl (.tmp 30) (.tmp 33) rfl hown23 hown3.by_ rfl rfl (by omega) (Nat.le_trans hbase hx3.gr.size) ?_
               intro v4 w4 hown4 hext4)
  go_ret2
  refine ⟨_, rfl, ?_, hx3.trans hext4⟩
  rw [HF.out, ← List.append_assoc]
  exact hown4

/-- too long a body isn't put -/
theorem fput_long (w : World) (v0 : Value) (k : UInt8) (A : Option Addr) (n c : Nat) (hn : 1048576 < n) (hc1 : n ≤ c) (hc2 : c ≤ maxLen) :
    Calls Try.prog 77 #[v0, .agg #[.int .u8 (k.toNat : Int), .slice A n c]] w fun e w' => e = .returned (.tuple #[v0, .int .i64 4]) ∧ Below w.heap.size w w' := by
  unfold maxLen at hc2
  go_enter Try.func77, Try.ntmps77
  go_wp2_with fail
  go_ret2
  exact ⟨rfl, balloc _ _⟩

set_option maxRecDepth 100000 in
set_option maxHeartbeats 1600000 in
theorem fget_any (w : World) (v : Value) (l : List UInt8) (hby : By w w.heap.size v l) (hsz : l.length ≤ 1099511627776) :
    Calls Try.prog 58 #[v] w fun e w' => ∃ v', e = .returned (.tuple #[.agg #[.int .u8 ((sK l).toNat : Int), v'], .int .i64 ((sN l : Nat) : Int), .int .i64 (sE l)]) ∧ Ow w' w.heap.size v' (sL l) ∧ Below w.heap.size w w' := by
  have hby0 := hby
  obtain ⟨A, c, rfl, hc1, hc2, hrd⟩ := hby
  unfold maxLen at hc2
  by_cases h9 : l.length < 9
  · have hE : sE l = 2 := by simp [sE, h9]
    have hL : sL l = [] := by simp [sL, hE]
    have hN : sN l = 0 := by simp [sN, hE]
    have hK : sK l = 0 := by simp [sK, hE]
    rw [hE, hL, hN, hK]
    clear hE hL hN hK
    go_enter Try.func58, Try.ntmps58
    go_wp2_with fail
    refine bodyPost_ret (v := .tuple #[.agg #[.int .u8 0, .slice none 0 0], .int .i64 0, .int .i64 2]) (by simp [results, Try.results58, go_sem]) rfl ?_
    exact ⟨_, rfl, Ow.nil_ _ _, balloc _ _⟩
  · have hcut : By w w.heap.size (.slice A 9 c) (l.take 9) := hby0.front_ (by omega)
    have ht9 : (l.take 9).length = 9 := by simp; omega
    cases hf : fitsB (l.take 9) with
    | false =>
      have hE : sE l = 5 := by simp [sE, h9, hf]
      have hL : sL l = [] := by simp [sL, hE]
      have hN : sN l = 0 := by simp [sN, hE]
      have hK : sK l = 0 := by simp [sK, hE]
      have hE9 : fitsE (l.take 9) = 5 := by unfold fitsE; rw [hf, ht9]; rfl
      have hL9 : fitsL (l.take 9) = [] := by unfold fitsL; rw [hf]; rfl
      rw [hE, hL, hN, hK]
      clear hE hL hN hK hrd
      generalize l.take 9 = t9 at *
      go_enter Try.func58, Try.ntmps58
      go_wp2_with fail
      refine (fits_any _ _ t9 ((hcut.alloc (Nat.le_refl _) _).more (by simp)) (by omega)).mono ?_
      rw [hE9, hL9]
      rintro e w1 ⟨v1, rfl, hown1, hb1⟩
      have hb01 := bstep (balloc w _) hb1
      have hs1 : SecAt w1 w.heap.size (.int .u8 0) (.slice none 0 0) := (SecAt.new_ w _ _).below (by simp) hb1
      go_wp2_with (refine wpList_store_sec rfl (.tmp 2) _ rfl w.heap.size _ _ (.int .u8 0) (.slice none 0 0) rfl rfl hs1 rfl rfl ?_
                   intro hs2)
      refine bodyPost_ret (results_sec rfl _ _ _ _ _ rfl hs2) rfl ?_
      exact ⟨_, rfl, Ow.nil_ _ _, bsetRow hb01 (Nat.le_refl _) _⟩
    | true =>
      obtain ⟨ad, rfl, _, _⟩ := hrd.ad (by omega)
      have hL9 : fitsL (l.take 9) = l.take 5 := by unfold fitsL; rw [hf, ht9]; simp [List.take_take]
      have hE9 : fitsE (l.take 9) = 0 := by unfold fitsE; rw [hf, ht9]; rfl
      have hle : sLen l = (l.getD 1 0).toNat + 256 * (l.getD 2 0).toNat + 65536 * (l.getD 3 0).toNat + 16777216 * (l.getD 4 0).toNat := rfl
      have hlt := sLen_lt l
      have hE : sE l = if 1048576 < sLen l then 4 else if l.length < sLen l + 13 then 2 else if fitsB ((l.drop 9).take (sLen l + 4)) then 0 else 5 := by
        unfold sE; rw [if_neg h9, hf, if_neg (by simp)]
      have hN : sN l = if sE l = 0 then sLen l + 13 else 0 := rfl
      have hL : sL l = if sE l = 0 then (l.drop 9).take (sLen l) else [] := rfl
      have hK : sK l = if sE l = 0 then l.getD 0 0 else 0 := rfl
      have hlen5 : (l.take 5).length = 5 := by simp; omega
      have hg : ∀ i, i < 5 → (l.take 5)[i]? = some (l.getD i 0) := by
        intro i hi
        rw [List.getElem?_take, if_pos hi]
        exact getD_get8 l i (by omega)
      have hcut2 : ∀ k, k ≤ l.length - 9 → By w w.heap.size (.slice (if c = 9 then some ad else some { block := ad.block, off := ad.off + 9 }) k (c - 9)) ((l.drop 9).take k) := fun k hk =>
        (hby0.back_ (k := 9) (by omega)).front_ (by simp; omega)
      have HE := Lib.hid hE
      have HN := Lib.hid hN
      have HL := Lib.hid hL
      have HK := Lib.hid hK
      have Hg := Lib.hid hg
      have Hle := Lib.hid hle
      have Hcut2 := Lib.hid hcut2
      clear hE hN hL hK hg hle hcut2 hrd
      generalize sE l = E at *
      generalize sN l = N at *
      generalize sL l = L at *
      generalize sK l = K0 at *
      generalize l.take 9 = t9 at *
      generalize l.take 5 = t5 at *
      go_enter Try.func58, Try.ntmps58
      go_wp2_with fail
      refine (fits_any _ _ t9 ((hcut.alloc (Nat.le_refl _) _).more (by simp)) (by omega)).mono ?_
      rw [hE9, hL9]
      rintro e w1 ⟨v1, rfl, hown1, hb1⟩
      have hb01 := bstep (balloc w _) hb1
      have hs1 : SecAt w1 w.heap.size (.int .u8 0) (.slice none 0 0) := (SecAt.new_ w _ _).below (by simp) hb1
      obtain ⟨A1, c1, rfl, hd1, hd2, hf1⟩ := hown1.form_
      obtain ⟨g1, rfl, hg1, hg2⟩ := hf1 (by omega)
      have hx0 := hown1.cell_ rfl 0 _ (Hg.out 0 (by omega))
      have hx1 := hown1.cell_ rfl 1 _ (Hg.out 1 (by omega))
      have hx2 := hown1.cell_ rfl 2 _ (Hg.out 2 (by omega))
      have hx3 := hown1.cell_ rfl 3 _ (Hg.out 3 (by omega))
      have hx4 := hown1.cell_ rfl 4 _ (Hg.out 4 (by omega))
      rw [hlen5] at hd1 hown1
      unfold maxLen at hd2
      generalize l.getD 0 0 = x0 at *
      generalize l.getD 1 0 = x1 at *
      generalize l.getD 2 0 = x2 at *
      generalize l.getD 3 0 = x3 at *
      generalize l.getD 4 0 = x4 at *
      have hhead := head_or x1 x2 x3 x4
      rw [← Hle.out] at hhead
      have b1 := u8_lt x1
      have b2 := u8_lt x2
      have b3 := u8_lt x3
      have b4 := u8_lt x4
      rw [hlen5]
      go_wp2_with fail
      go_quiet (fail)
      clear hx1 hx2 hx3 hx4 hhead
      generalize sLen l = n at *
      have hs2 : SecAt (w1.drewN nq) w.heap.size (.int .u8 0) (.slice none 0 0) := hs1
      have hb2 : Below w.heap.size w (w1.drewN nq) := bdrewN hb01 nq
      have hx2 : (w1.drewN nq).cell? { block := g1, off := 0 } = some (.int .u8 (x0.toNat : Int)) := hx0
      have hown2 : Ow (w1.drewN nq) (w.heap.size + 1) (.slice (some ⟨g1, 0, none⟩) 5 c1) t5 := by simpa using (show Ow (w1.drewN nq) _ _ _ from hown1)
      clear hs1 hb01 hx0 hb1 hown1
      generalize w1.drewN nq = W at *
      by_cases hbig : 1048576 < n
      · have e1 : E = 4 := by rw [HE.out, if_pos hbig]
        have e2 : N = 0 := by rw [HN.out, e1]; rfl
        have e3 : L = [] := by rw [HL.out, e1]; rfl
        have e4 : K0 = 0 := by rw [HK.out, e1]; rfl
        subst e1
        subst e2
        subst e3
        subst e4
        clear HE HN HL HK Hcut2 Hle
        go_wp2_with (refine wpList_store_sec rfl (.tmp 2) _ rfl w.heap.size _ _ (.int .u8 0) (.slice none 0 0) rfl rfl hs2 rfl rfl ?_
                     intro hs3)
        refine bodyPost_ret (results_sec rfl _ _ _ _ _ rfl hs3) rfl ?_
        exact ⟨_, rfl, Ow.nil_ _ _, bsetRow hb2 (Nat.le_refl _) _⟩
      · by_cases hsh : l.length < n + 13
        · have e1 : E = 2 := by rw [HE.out, if_neg hbig, if_pos hsh]
          have e2 : N = 0 := by rw [HN.out, e1]; rfl
          have e3 : L = [] := by rw [HL.out, e1]; rfl
          have e4 : K0 = 0 := by rw [HK.out, e1]; rfl
          subst e1
          subst e2
          subst e3
          subst e4
          clear HE HN HL HK Hcut2 Hle
          go_wp2_with (refine wpList_store_sec rfl (.tmp 2) _ rfl w.heap.size _ _ (.int .u8 0) (.slice none 0 0) rfl rfl hs2 rfl rfl ?_
                       intro hs3)
          refine bodyPost_ret (results_sec rfl _ _ _ _ _ rfl hs3) rfl ?_
          exact ⟨_, rfl, Ow.nil_ _ _, bsetRow hb2 (Nat.le_refl _) _⟩
        · have hc3 := Hcut2.out (n + 4) (by omega)
          have hlen3 : ((l.drop 9).take (n + 4)).length = n + 4 := by simp; omega
          have htk : ((l.drop 9).take (n + 4)).take (((l.drop 9).take (n + 4)).length - 4) = (l.drop 9).take n := by
            rw [hlen3, List.take_take]; congr 1; omega
          have hc9 : ¬ c = 9 := by omega
          rw [if_neg hc9] at hc3
          have HtL : Hid (fitsL ((l.drop 9).take (n + 4)) = if fitsB ((l.drop 9).take (n + 4)) then (l.drop 9).take n else []) := by
            unfold Hid fitsL; rw [htk]
          have HtE : Hid (fitsE ((l.drop 9).take (n + 4)) = if fitsB ((l.drop 9).take (n + 4)) then 0 else 5) := by
            unfold Hid fitsE; rw [if_neg (by omega)]
          clear htk Hcut2
          rw [if_neg hbig, if_neg hsh] at HE
          generalize (l.drop 9).take (n + 4) = tn at *
          generalize (l.drop 9).take n = own at *
          go_wp2_with fail
          rw [show 9 + n - 5 = n + 4 from by omega]
          refine (fits_any _ _ tn (hc3.step hb2) (by omega)).mono ?_
          rw [HtE.out, HtL.out]
          cases hfb : fitsB tn with
          | false =>
            have e1 : E = 5 := by rw [HE.out, hfb]; rfl
            have e2 : N = 0 := by rw [HN.out, e1]; rfl
            have e3 : L = [] := by rw [HL.out, e1]; rfl
            have e4 : K0 = 0 := by rw [HK.out, e1]; rfl
            subst e1
            subst e2
            subst e3
            subst e4
            clear HE HN HL HK Hle HtE HtL
            rintro e w3 ⟨v3, rfl, hown3, hb3⟩
            have hb23 := bstep hb2 hb3
            have hs3 := hs2.below hs2.lt hb3
            go_wp2_with (refine wpList_store_sec rfl (.tmp 2) _ rfl w.heap.size _ _ (.int .u8 0) (.slice none 0 0) rfl rfl hs3 rfl rfl ?_
                         intro hs4)
            refine bodyPost_ret (results_sec rfl _ _ _ _ _ rfl hs4) rfl ?_
            exact ⟨_, rfl, Ow.nil_ _ _, bsetRow hb23 (Nat.le_refl _) _⟩
          | true =>
            have e1 : E = 0 := by rw [HE.out, hfb]; rfl
            have e2 : N = n + 13 := by rw [HN.out, e1]; rfl
            have e3 : L = own := by rw [HL.out, e1]; rfl
            have e4 : K0 = x0 := by rw [HK.out, e1]; rfl
            subst e1
            subst e2
            subst e3
            subst e4
            clear HE HN HL HK Hle HtE HtL
            rintro e w3 ⟨v3, rfl, hown3, hb3⟩
            have hb23 := bstep hb2 hb3
            have hs3 := hs2.below hs2.lt hb3
            have hx3 : w3.cell? { block := g1, off := 0 } = some (.int .u8 (K0.toNat : Int)) := (hb3.cell (hown2.blk g1 rfl).2).trans hx2
            rw [if_pos rfl] at hown3
            obtain ⟨A3, c3, rfl, hd31, hd32, hf3⟩ := hown3.form_
            have hgs := hs2.lt
            go_wp2_with (refine wpList_store_sec rfl (.tmp 2) _ rfl w.heap.size _ _ (.int .u8 (K0.toNat : Int)) (.slice A3 L.length c3) rfl rfl hs3 rfl rfl ?_
                         intro hs4)
            have hown4 := (hown3.setRow_ hgs #[.int .u8 (K0.toNat : Int), .slice A3 L.length c3]).mono (Nat.le_of_lt hgs)
            refine bodyPost_ret (results_sec rfl _ _ _ _ _ rfl hs4) rfl ?_
            refine ⟨_, ?_, hown4, bsetRow hb23 (Nat.le_refl _) _⟩
            simp; omega

end Go.Proofs.Ytpoicbhbkabllaa

namespace Go.Proofs.Ytpoicbhbkabllaa
set_option linter.unusedSimpArgs false
set_option linter.unusedVariables false
open Go.RowKit

def ObOAll (P : Program) (dl : List (Option Nat)) (Φ : List (Value → Prop)) (ds : List Nat) (a : Act) (s : Nat) (J : Bool → Value → World → Prop) : Nat → List Oper → List (Value → Prop) → Prop
  | _, [], _ => True
  | _, _ :: _, [] => False
  | i, o :: os, ph :: phs => ObO P dl Φ ds a s J i ph o ∧ ObOAll P dl Φ ds a s J (i + 1) os phs
theorem obOAll_get {P : Program} {dl : List (Option Nat)} {Φ : List (Value → Prop)} {ds : List Nat} {a : Act} {s : Nat} {J : Bool → Value → World → Prop} : ∀ (os : List Oper) (phs : List (Value → Prop)) (k : Nat), ObOAll P dl Φ ds a s J k os phs →
    ∀ (i : Nat) (o : Oper), os[i]? = some o → ObO P dl Φ ds a s J (k + i) (phs.getD i fun _ => True) o
  | [], _, _, _ => fun i o h => by simp at h
  | _ :: _, [], _, h => h.elim
  | x :: os, ph :: phs, k, h => fun i o ho => by
    cases i with
    | zero => obtain rfl : x = o := by simpa using ho
              exact h.1
    | succ i =>
      have := obOAll_get os phs (k + 1) h.2 i o (by simpa using ho)
      rw [show k + (i + 1) = k + 1 + i by omega]
      simpa using this
section
variable {P : Program} {dl : List (Option Nat)} {Φ : List (Value → Prop)} {ds : List Nat} {a : Act} {w : World} {s i : Nat} {J : Bool → Value → World → Prop} {ph : Value → Prop} {o : Oper}
theorem obO_yes (h : ∀ f b w', J b (valOf dl f s) w' → (i = s → b = false) → PreO dl Φ f o.after.toList → Gd dl f o.guard ∧ mildO P w' o.dst ph i s J ((execOp (evalF ds f a) o).run P w')) : ObO P dl Φ ds a s J i ph o := by
  intro f b w' h1 h2 h3
  have := h f b w' h1 h2 h3
  exact ⟨fun _ => this.2, fun hn => absurd this.1 hn⟩
theorem mildO_val {d : Option Nat} {q : Value → Prop} {r : Result Next} {w' : World} (u : Value) (hi : i ≠ s) (hr : r = .ok (.value u) w') (hq : q (dstVal d u)) : mildO P w' d q i s J r := by
  subst hr
  exact ⟨hi, rfl, hq⟩
theorem mildO_call {d : Option Nat} {q : Value → Prop} {w' : World} {ρ : Operand → Value} (f : Nat) (args : Array Operand) (ts : Array TypeId) (fn : Func) (hi : i = s) (hf : P.funcs[f]? = some fn) (hn : (fn.name == "runtime.NumGoroutine") = false) (hb : fn.body.isNone = false)
    {t : TypeId} {pos : String} {af : Array Edge} {g : Option (Nat × Bool)} (hρ : ρ (.func f) = .func (.func f) #[] #[])
    (h : Calls P f (args.map ρ) w' (fun e w3 => ∃ v, e = .returned v ∧ J true (dstVal d v) w3 ∧ q (dstVal d v))) :
    mildO P w' d q i s J ((execOp ρ { dst := d, op := .call { callee := .value (.func f), args := args, argTypes := ts }, type := t, pos := pos, after := af, guard := g }).run P w') := by
  have hr : (execOp ρ { dst := d, op := .call { callee := .value (.func f), args := args, argTypes := ts }, type := t, pos := pos, after := af, guard := g }).run P w' = .ok (.enter f (args.map ρ)) w' := by
    simp [execOp, resolve, hρ, Deferred.ofValue, invoke, callFunc, hf]
    rw [if_neg (by simpa using hn), if_neg (by intro h; simp [h] at hb)]
  rw [hr]
  exact ⟨hi, h⟩
end
theorem wp_region_oneL {P : Program} {a : Act} {w : World} {Q : Exit → Act → World → Prop} {id : Nat} {L : List Oper} {ds : List Nat} (n s : Nat) (J : Bool → Value → World → Prop) (dl : List (Option Nat)) (Φ : List (Value → Prop)) (hsn : s < (L.take n).length) (hdl : (L.take n).map (·.dst) = dl) (hds : dstsOf_ (L.take n) = ds) (hm : P.follows .mixedOrders = true)
    (hn : typedB (L.take n) a.tmps.size = true) (ht : tailB (L.take n) (L.drop n) = true) (hob : ObOAll P dl Φ ds a s J 0 (L.take n) Φ) (h0 : ∀ v, J false v w.drew)
    (hQ : ∀ f w', J true (valOf dl f s) w' → PostO f dl Φ → wpList P L.toArray Q (L.drop n) (fills ds f a) w') : (Code.region id L.toArray true).wp P Q a w :=
  wp_region_one n s J dl Φ hsn hdl hds hm hn ht (fun i o ho => by simpa using obOAll_get _ _ 0 hob i o ho) h0 hQ
end Go.Proofs.Ytpoicbhbkabllaa
