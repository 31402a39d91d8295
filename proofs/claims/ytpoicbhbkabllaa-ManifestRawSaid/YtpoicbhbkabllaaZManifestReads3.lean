/- Lemmas for the law ManifestReads: manifest.body (printed by wip/gen/manb.py); slices.Equal at bytes.; The cyclic redundancy check in plain Lean: the table's way and the bit's way are one. No condition.; crc.table gives the table of the check's bytes. No condition.; crc.Sum gives the check of all rows' bytes, one behind the other. The rows are readable slices.; crc.Mark is the bytes with their check, in memory of one's own; crc.Fits tells whether bytes end in their check. The rows are readable slices of at most 2^40 bytes.; crc.Fits: bytes without their check, or the error. The row is a readable slice of at most 2^40 bytes.; What the check finds: bits turned within 32, and one byte turned, are never missed. Plain Lean. No condition.; Pages in plain Lean: what a page's block is; the code's test and the document's are one; what is found. No condition.; frame in plain Lean: a section's bytes, what is read of bytes; append(s, make([]byte, n)...) onto an own row of bytes. No condition beyond the size.; a Section in memory: a block of two cells; frame.Put, frame.Get compute what the plain functions say; The obligations of the law of one world-changing operation, one by one.; manifest.May (printed by wip/gen/mann.py); manifest.Put; What is read of a manifest's bytes, plainly; how a manifest that is being read lies in memory; Disks: the document's, in plain, and that it agrees with the program's.; What a round keeps; whole things loaded, stored and made within a fence.; The document's disks: how one lies in memory; ze. No condition. -/
import Derived.Test.YtpoicbhbkabllaaZManifestReads2
import Derived.WalkKit
import Derived.Test.YtpoicbhbkabllaaRows
import Derived.Lib.AppendZerosOnto
import Derived.Deep.WholeRow
import Derived.Carry
import Derived.RangeFuncNested
import Derived.RangeFuncBound
import Derived.RangeFuncCalls
import Derived.RangeFuncLeaves
import Derived.RangeFuncBox
import Derived.Shelf.Abstract
import Derived.Shelf.RegionOpen
import Derived.OwnWalkIn
import Derived.TacticsInMore
import Derived.LoopNIn
import Derived.LoopIn
import Derived.Deep.MidRow
namespace Go.Proofs.Ytpoicbhbkabllaa
set_option linter.unusedSimpArgs false
set_option linter.unusedVariables false
open Go.RowKit

theorem WrB.drew {T : TypeId} {g : Nat} {cs : List Value} {w1 w : World} {v : Value} {l : List UInt8} (h : WrB T w1 w g cs v l) : WrB T w1 w.drew g cs v l := ⟨h.own, h.blw.drew, h.box, h.ne⟩

set_option maxRecDepth 100000 in
set_option maxHeartbeats 3200000 in
theorem body_any (w : World) (v : Value) (m : MMan) (h : MAt w w.heap.size v m) (hsz : (bodyM m).length ≤ 274877906944) :
    Calls Try.prog 78 #[v] w fun e w' => ∃ v', e = .returned v' ∧ Ow w' w.heap.size v' (bodyM m) ∧ Below w.heap.size w w' := by
  obtain ⟨vf, rfl, hf⟩ := h
  obtain ⟨A, c, rfl, hc1, hc2⟩ := hf.form
  unfold maxLen at hc2
  obtain ⟨w1, hw1⟩ : ∃ w1, w1 = w.alloc (.cells (encM m (.slice A m.files.length c)).toArray 56) := ⟨_, rfl⟩
  have hb1 : Below w.heap.size w w1 := by rw [hw1]; exact balloc w _
  have hx1 : BoxAt 56 w1 w.heap.size (encM m (.slice A m.files.length c)) := by rw [hw1]; exact BoxAt.new_ _ _ _
  have hz1 : w.heap.size < w1.heap.size := by rw [hw1]; simp
  have hf1 := hf.below hb1
  have hc0x := hx1.cell 0 _ rfl
  have Hw1 := Lib.hid hw1
  have Hx1 := Lib.hid hx1
  have Hf1 := Lib.hid hf1
  have Hb1 := Lib.hid hb1
  have hml := bodyM_len m
  have hver := u64_lt m.ver
  have hnx := u32_lt m.next
  clear hw1 hx1 hf1 hb1 hf
  go_enter Try.func78, Try.ntmps78
  go_upto_region 1 with (fail)
  rw [← Hw1.out]
  go_wp2_with fail
  refine (vput_any w1 w1.heap.size _ [] (Ow.nil_ _ _) m.ver.toNat hver (by simp) (Nat.le_refl _)).mono ?_
  rintro _ w2 ⟨v2, rfl, how2, hx2⟩
  rw [List.nil_append] at how2
  have H2 : Hid (Wr w1 w2 v2 (vput m.ver.toNat)) := Lib.hid ⟨how2, hx2.below (Nat.le_refl _) (by simp [Value.ownBlock])⟩
  have m1_2 := (Hx1.out.blwM H2.out.blw).cell 1 _ rfl
  clear how2 hx2 hc0x
  go_wp2_with fail
  refine (vput_any w2 w1.heap.size _ _ H2.out.own m.next.toNat (by omega) (by (try simp only [List.length_append] at *); omega) H2.out.blw.size).mono ?_
  rintro _ w3 ⟨v3, rfl, ho3, hx3⟩
  have H3 := Lib.hid (H2.out.num (Below.refl _ _) hx3 ho3)
  clear ho3 hx3
  have m2_3 := (Hx1.out.blwM H3.out.blw).cell 2 _ rfl
  go_wp2_with fail
  refine (vput_any w3 w1.heap.size _ _ H3.out.own m.files.length (by omega) (by (try simp only [List.length_append] at *); omega) H3.out.blw.size).mono ?_
  rintro _ w4 ⟨v4, rfl, ho4, hx4⟩
  have H4 := Lib.hid (H3.out.num (Below.refl _ _) hx4 ho4)
  clear ho4 hx4
  have m2_4 := (Hx1.out.blwM H4.out.blw).cell 2 _ rfl
  have H4' : Hid (Wr w1 w4 v4 (vput m.ver.toNat ++ vput m.next.toNat ++ vput m.files.length)) := H4
  have hpre : (vput m.ver.toNat ++ vput m.next.toNat ++ vput m.files.length).length + (m.files.flatMap bodyF).length ≤ 274877906944 := by simp only [List.length_append]; omega
  have hbm : bodyM m = vput m.ver.toNat ++ vput m.next.toNat ++ vput m.files.length ++ m.files.flatMap bodyF := rfl
  have Hbm := Lib.hid hbm
  clear hbm hml hsz H4 H3 H2
  generalize vput m.ver.toNat ++ vput m.next.toNat ++ vput m.files.length = pre at *
  clear m1_2 m2_3
  go_wp2_with fail
  go_loopw [3, 25] (fun b i wr => ∃ k : Nat, k ≤ m.files.length ∧ i = .int .i64 k ∧ Wr w1 wr b (pre ++ (m.files.take k).flatMap bodyF)) (fun _ i _ => m.files.length - (intOf i).toNat)
  case atStart => exact ⟨0, by omega, rfl, by simpa using H4'.out⟩
  case round =>
    obtain ⟨k, hk, rfl, HW⟩ := hrel
    replace HW := Lib.hid HW
    by_cases hlt : k < m.files.length
    · have hle := flat_take_le bodyF m.files k hlt
      have hsc := flat_take_succ bodyF m.files k hlt
      have hbl := bodyF_len m.files[k]
      obtain ⟨_, ad, vb, rfl, hab, hbI, hfo, hcl⟩ := Hf1.out.cells k hlt
      obtain ⟨Ab, cb, rfl, hcb1, hcb2⟩ := hbI.form
      unfold maxLen at hcb2
      have hnl := hfo.1
      unfold maxLen at hnl
      have hbf : bodyF m.files[k] = vput m.files[k].name.length ++ m.files[k].name ++ vput m.files[k].id.toNat ++ vput (u64Of m.files[k].size) ++ nums m.files[k].blocks := rfl
      generalize hfk : m.files[k] = fl at *
      have hid := u32_lt fl.id
      have hsu := u64Of_lt fl.size
      have hsw := u64Of_wrap fl.size
      have Hsc := Lib.hid hsc
      have Hcl : Hid (∀ (j : Nat) (u : Value), (encF fl (.slice Ab fl.blocks.length cb))[j]? = some u → wr.cell? ((ad.add (k * 4)).add j) = some u) := Lib.hid fun j u hu => (HW.out.blw.cell (by rw [add_block, add_block]; omega)).trans (hcl j u hu)
      have HbI := Lib.hid hbI
      have Hbf := Lib.hid hbf
      have hsz : (bst fl.name).size = fl.name.length := rfl
      have hpl : (pre ++ (m.files.take k).flatMap bodyF).length + (bodyF fl).length ≤ 274877906944 := by simp only [List.length_append]; omega
      have m2_k := (Hx1.out.blwM HW.out.blw).cell 2 _ rfl
      clear hsc hcl hbI hfo hle hbf m2_4 hfk hpre
      generalize (m.files.take k).flatMap bodyF = mid at *
      go_upto_region 7 with (first
        | (refine wpList_load_agg rfl 62 (.tmp 27) rfl (ad.add (k * 4)) rfl (encF fl (.slice Ab fl.blocks.length cb)) Hcl.out Try.underlying62 rfl info_file4 ?_)
        | (refine wpList_alloc_z rfl 62 rfl info_file zeroFc zeroF_cells ?_)
        | (refine wpList_store_new rfl 62 (.tmp 5) (.tmp 28) rfl zeroFc (encF fl (.slice Ab fl.blocks.length cb)) rfl rfl info_file4 rfl (encF_one _ _ rfl) ?_))
      have H5 := Lib.hid (HW.out.put 62 (encF fl (.slice Ab fl.blocks.length cb)))
      clear Hcl m2_k
      generalize hg : wr.heap.size = g at *
      generalize wr.alloc (.cells (encF fl (.slice Ab fl.blocks.length cb)).toArray 62) = w5 at *
      have hcv : IntKind.u64.wrap (fl.name.length : Int) = (fl.name.length : Int) := by rw [wrap_u64]; omega
      simp only [Act.put, List.setIfInBounds_toArray, List.set_cons_zero, List.set_cons_succ]
      refine wp_region_mixL (ds := [29, 30, 31, 32, 33, 34, 35, 36]) 8 (fun bb vs W' => BoxAt 62 W' g (encF fl (.slice Ab fl.blocks.length cb)) ∧ (bb 5 = false → W' = w5.drew) ∧ (bb 5 = true → WrB 62 w1 W' g (encF fl (.slice Ab fl.blocks.length cb)) (vs 5) (pre ++ mid ++ vput fl.name.length))) [some 29, some 30, some 31, some 32, some 33, some 34, some 35, some 36]
        [fun v => v = u3, fun v => v = .pointer (some ⟨g, 0, none⟩), fun v => v = .string (bst fl.name), fun v => v = .int .i64 (fl.name.length : Int), fun v => v = .int .u64 (fl.name.length : Int), fun _ => True, fun v => v = .pointer (some ⟨g, 0, none⟩), fun v => v = .string (bst fl.name)]
        rfl rfl rfl (by kernel_rfl) (by kernel_rfl) ?_ (fun _ => ⟨H5.out.box, fun _ => rfl, fun h => by cases h⟩) ?_
      · refine ⟨?_, ?_, ?_, ?_, ?_, ?_, ?_, ?_, trivial⟩
        · -- 0: slot 29 := Op.move t3
          refine obM_yes fun f bb w' hj hs hd hp => ?_
          simp [PreO, factO, valOf, Region.binds] at hp hd
          refine ⟨by simp [Gd, valOf, hp], ?_⟩
          refine mildM_val (u3) (w' := w') ?_ rfl (by simpa using hj)
          simp [execOp, evalF, hp, go_sem]
        · -- 1: slot 30 := Op.fieldAddr 62 t5 0
          refine obM_yes fun f bb w' hj hs hd hp => ?_
          simp [PreO, factO, valOf, Region.binds] at hp hd
          refine ⟨by simp [Gd, valOf, hp], ?_⟩
          refine mildM_val (.pointer (some ⟨g, 0, none⟩)) (w' := w') ?_ rfl (by simpa using hj)
          simp [execOp, evalF, hp, go_sem]
        · -- 2: slot 31 := Op.load 9 t30
          refine obM_yes fun f bb w' hj hs hd hp => ?_
          simp [PreO, factO, valOf, Region.binds] at hp hd
          refine ⟨by simp [Gd, valOf, hp], ?_⟩
          have hc := hj.1.cell 0 _ rfl
          refine mildM_val (.string (bst fl.name)) (w' := w') ?_ rfl (by simpa using hj)
          simp [execOp, evalF, hp, go_sem, hc]
        · -- 3: slot 32 := Op.call   builtin len, args := #[t31], argTypes := #[9]  
          refine obM_yes fun f bb w' hj hs hd hp => ?_
          simp [PreO, factO, valOf, Region.binds] at hp hd
          refine ⟨by simp [Gd, valOf, hp], ?_⟩
          refine mildM_val (.int .i64 (fl.name.length : Int)) (w' := w') ?_ rfl (by simpa using hj)
          simp [execOp, evalF, hp, go_sem, hsz]
        · -- 4: slot 33 := Op.convert 3 33 t32
          refine obM_yes fun f bb w' hj hs hd hp => ?_
          simp [PreO, factO, valOf, Region.binds] at hp hd
          refine ⟨by simp [Gd, valOf, hp], ?_⟩
          refine mildM_val (.int .u64 (fl.name.length : Int)) (w' := w') ?_ rfl (by simpa using hj)
          simp [execOp, evalF, hp, go_sem, hcv]
        · -- 5: slot 34 := Op.call   value (Operand.func 93), args := #[t29, t33], argTypes := #[30, 33]  
          refine obM_yes fun f bb w' hj hs hd hp => ?_
          simp [PreO, factO, valOf, Region.binds] at hp hd
          refine ⟨by simp [Gd, valOf, hp], ?_⟩
          have hw' := hj.2.1 hs
          subst hw'
          refine mildM_call 93 _ _ Try.f93 Try.func93 (by kernel_rfl) (by kernel_rfl) rfl ?_
          refine calls_args (args' := #[u3, .int .u64 (fl.name.length : Int)]) (by simp [evalF, hp]) ?_
          refine (vput_any w5.drew w1.heap.size u3 (pre ++ mid) H5.out.drew.own fl.name.length (by omega) (by (try simp only [List.length_append] at *); omega) H5.out.blw.size).mono ?_
          rintro _ w9 ⟨v', rfl, ho, hx⟩
          have hr := H5.out.drew.num (Below.refl _ _) hx ho
          exact ⟨_, rfl, trivial, hr.box, fun h => (by cases h), fun _ => hr⟩
        · -- 6: slot 35 := Op.fieldAddr 62 t5 0
          refine obM_yes fun f bb w' hj hs hd hp => ?_
          simp [PreO, factO, valOf, Region.binds] at hp hd
          refine ⟨by simp [Gd, valOf, hp], ?_⟩
          refine mildM_val (.pointer (some ⟨g, 0, none⟩)) (w' := w') ?_ rfl (by simpa using hj)
          simp [execOp, evalF, hp, go_sem]
        · -- 7: slot 36 := Op.load 9 t35
          refine obM_yes fun f bb w' hj hs hd hp => ?_
          simp [PreO, factO, valOf, Region.binds] at hp hd
          refine ⟨by simp [Gd, valOf, hp], ?_⟩
          have hc := hj.1.cell 0 _ rfl
          refine mildM_val (.string (bst fl.name)) (w' := w') ?_ rfl (by simpa using hj)
          simp [execOp, evalF, hp, go_sem, hc]
      · intro f bb wd hall hj hp
        simp only [PostO] at hp
        obtain ⟨e0, e1, e2, e3, e4, _, e6, e7, _⟩ := hp
        simp only [fills, List.foldl_cons, List.foldl_nil, Act.put, List.setIfInBounds_toArray, List.set_cons_zero, List.set_cons_succ, e0, e1, e2, e3, e4, e6, e7]
        clear e0 e1 e2 e3 e4 e6 e7
        simp only [List.drop_succ_cons, List.drop_zero]
        have H6 := Lib.hid (hj.2.2 (by simp [hall]))
        clear hj H5
        go_wp2_with (at_builtin
                     refine wpList_apps rfl (.tmp 34) (.tmp 36) rfl fl.name H6.out.own rfl rfl (by (try simp only [List.length_append] at *); omega) H6.out.blw.size ?_
                     intro v7 w7 ho7 hx7
                     have H7 := Lib.hid (H6.out.num (Below.refl _ _) hx7 ho7)
                     clear ho7 hx7
                     have q1_7 := H7.out.box.cell 1 _ rfl)
        refine (vput_any w7 w1.heap.size _ _ H7.out.own fl.id.toNat (by omega) (by (try simp only [List.length_append] at *); omega) H7.out.blw.size).mono ?_
        rintro _ w8 ⟨v8, rfl, ho8, hx8⟩
        have H8 := Lib.hid (H7.out.num (Below.refl _ _) hx8 ho8)
        clear ho8 hx8
        have q2_8 := H8.out.box.cell 2 _ rfl
        go_wp2_with fail
        refine (vput_any w8 w1.heap.size _ _ H8.out.own (u64Of fl.size) hsu (by (try simp only [List.length_append] at *); omega) H8.out.blw.size).mono ?_
        rintro _ w9 ⟨v9, rfl, ho9, hx9⟩
        have H9 := Lib.hid (H8.out.num (Below.refl _ _) hx9 ho9)
        clear ho9 hx9
        have q3_9 := H9.out.box.cell 3 _ rfl
        have H9' : Hid (WrB 62 w1 w9 g (encF fl (.slice Ab fl.blocks.length cb)) v9 (pre ++ mid ++ vput fl.name.length ++ fl.name ++ vput fl.id.toNat ++ vput (u64Of fl.size))) := H9
        have hpl2 : (pre ++ mid ++ vput fl.name.length ++ fl.name ++ vput fl.id.toNat ++ vput (u64Of fl.size)).length + (nums fl.blocks).length ≤ 274877906944 := by simp only [List.length_append] at *; omega
        have hbm2 : pre ++ mid ++ bodyF fl = pre ++ mid ++ vput fl.name.length ++ fl.name ++ vput fl.id.toNat ++ vput (u64Of fl.size) ++ nums fl.blocks := by rw [Hbf.out]; simp only [List.append_assoc]
        have Hbm2 := Lib.hid hbm2
        clear H9 H8 H7 H6 hbl hpl Hbf hbm2
        generalize pre ++ mid ++ vput fl.name.length ++ fl.name ++ vput fl.id.toNat ++ vput (u64Of fl.size) = pf at *
        go_wp2_with fail
        go_loopw [3, 51] (fun b i wr => ∃ j : Nat, j ≤ fl.blocks.length ∧ i = .int .i64 j ∧ WrB 62 w1 wr g (encF fl (.slice Ab fl.blocks.length cb)) b (pf ++ nums (fl.blocks.take j))) (fun _ i _ => fl.blocks.length - (intOf i).toNat)
        case atStart => exact ⟨0, by omega, rfl, by simpa [nums] using H9'.out⟩
        case round =>
          obtain ⟨j, hj, rfl, HV⟩ := hrel
          replace HV := Lib.hid HV
          by_cases hjt : j < fl.blocks.length
          · have hns := nums_succ fl.blocks j hjt
            have hnle := nums_le fl.blocks j hjt
            obtain ⟨_, ad2, rfl, hab2, hcj, hj1, hj2⟩ := (HbI.out.below (HV.out.blw.mono (by omega))).cells j hjt
            have Hns := Lib.hid hns
            have hxu := u64Of_lt fl.blocks[j]
            have hxw := u64Of_wrap fl.blocks[j]
            have hql : (pf ++ nums (fl.blocks.take j)).length + (vput (u64Of fl.blocks[j])).length ≤ 274877906944 := by simp only [List.length_append]; omega
            have q3_j := HV.out.box.cell 3 _ rfl
            clear hns hnle hpl2
            generalize fl.blocks[j] = x at *
            generalize nums (fl.blocks.take j) = nj at *
            go_wp2_with fail
            refine (vput_any wr w1.heap.size _ _ HV.out.own (u64Of x) hxu (by (try simp only [List.length_append] at *); omega) HV.out.blw.size).mono ?_
            rintro _ w11 ⟨v11, rfl, ho11, hx11⟩
            have H11 := Lib.hid (HV.out.num (Below.refl _ _) hx11 ho11)
            clear ho11 hx11
            
            go_wp2_with fail
            go_roundw
            case rel => exact ⟨j + 1, by omega, by go_num, by rw [Hns.out, ← List.append_assoc]; exact H11.out⟩
            case measure => simp [intOf]; omega
          · obtain rfl : j = fl.blocks.length := by omega
            rw [List.take_length] at HV
            go_wp2_with fail
            go_roundw
            case rel => exact ⟨k + 1, by omega, by go_num, by rw [Hsc.out, ← List.append_assoc, Hbm2.out]; exact HV.out.wr⟩
            case measure => simp [intOf]; omega
    · obtain rfl : k = m.files.length := by omega
      rw [List.take_length] at HW
      go_wp2_with fail
      go_ret
      exact ⟨_, rfl, by rw [Hbm.out]; exact HW.out.own.mono (Nat.le_of_lt hz1), Hb1.out.trans (HW.out.blw.mono (Nat.le_of_lt hz1))⟩
end Go.Proofs.Ytpoicbhbkabllaa

namespace Go.Proofs.Ytpoicbhbkabllaa
set_option linter.unusedSimpArgs false
set_option linter.unusedVariables false
open Go.RowKit

set_option maxHeartbeats 400000 in
/-- slices.Equal at bytes: whether they are the same -/
theorem equal8 (w : World) (B1 B2 : Nat) (v1 v2 : Value) (l1 l2 : List UInt8) (h1 : By w B1 v1 l1) (h2 : By w B2 v2 l2) :
    Calls Try.prog 95 #[v1, v2] w fun e w' => e = .returned (.bool (decide (l1 = l2))) ∧ Below w.heap.size w w' := by
  obtain ⟨A1, c1, rfl, hc1, hm1, hr1⟩ := h1
  obtain ⟨A2, c2, rfl, hc2, hm2, hr2⟩ := h2
  unfold maxLen at hm1 hm2
  by_cases hlen : l1.length = l2.length
  · have Hlen := Lib.hid hlen
    generalize hn2 : l2.length = n at *
    subst hlen
    have Hn2 := Lib.hid hn2
    clear hn2
    go_enter Try.func95, Try.ntmps95
    go_wp2
    go_loopw [13] (fun i wr => ∃ k : Nat, k ≤ l1.length ∧ i = .int .i64 k ∧ l1.take k = l2.take k ∧ ∃ q, wr = w.drewN q) (fun i _ => l1.length - (intOf i).toNat)
    case atStart => exact ⟨0, by omega, rfl, by simp, 0, rfl⟩
    case round =>
      obtain ⟨k, hk, rfl, ht, q, rfl⟩ := hrel
      by_cases hlt : k < l1.length
      · obtain ⟨ad1, rfl, _, hcs1⟩ := hr1.ad (by omega)
        obtain ⟨ad2, rfl, _, hcs2⟩ := hr2.ad (by omega)
        have hk2 : k < l2.length := by rw [Hn2.out]; exact hlt
        have hx1 := hcs1 k _ (b8s_get l1 k hlt)
        have hx2 := hcs2 k _ (b8s_get l2 k hk2)
        have ht1 := List.take_succ_eq_append_getElem hlt
        have ht2 := List.take_succ_eq_append_getElem hk2
        have Ht := Lib.hid ht
        have Ht1 := Lib.hid ht1
        have Ht2 := Lib.hid ht2
        clear hcs1 hcs2 ht ht1 ht2 hr1 hr2
        have hne : l1[k] ≠ l2[k] → l1 ≠ l2 := fun h e => h (by subst e; rfl)
        have Hne := Lib.hid hne
        clear hne
        generalize l1[k] = b1 at *
        generalize l2[k] = b2 at *
        go_wp2
        go_quiet (fail)
        go_wp2
        · rename_i he
          have hb : b1 ≠ b2 := fun e => by subst e; simp at he
          go_ret
          refine ⟨?_, bdrewN (bdrewN (Below.refl _ _) _) _⟩
          rw [decide_eq_false (Hne.out hb)]; rfl
        · rename_i he
          have hb : b1 = b2 := UInt8.toNat_inj.1 (by simp at he; omega)
          exact ⟨⟨k + 1, by omega, by go_num, by rw [Ht1.out, Ht2.out, Ht.out, hb], q + nq, rfl⟩, by simp [intOf]; omega⟩
      · obtain rfl : k = l1.length := by omega
        go_wp2
        go_ret
        refine ⟨?_, bdrewN (Below.refl _ _) _⟩
        have : l1 = l2 := by
          rw [List.take_length, ← Hn2.out, List.take_length] at ht; exact ht
        rw [decide_eq_true this]; rfl
  · have hne : ((l1.length : Int) == (l2.length : Int)) = false := by simp; omega
    go_enter Try.func95, Try.ntmps95
    go_wp2
    go_ret
    refine ⟨?_, Below.refl _ _⟩
    rw [decide_eq_false (fun e => hlen (by rw [e]))]; rfl
theorem getD_get (l : List UInt8) (i : Nat) (h : i < l.length) : l[i]? = some (l.getD i 0) := by simp [List.getD_eq_getElem?_getD, h]
end Go.Proofs.Ytpoicbhbkabllaa

namespace Go.Proofs.Ytpoicbhbkabllaa
set_option linter.unusedSimpArgs false
set_option linter.unusedVariables false

def poly : UInt32 := 3988292384
/-- one bit -/
def stp (x : UInt32) : UInt32 := (x >>> 1) ^^^ (poly * (x &&& 1))
def stps : Nat → UInt32 → UInt32
  | 0, x => x
  | n + 1, x => stps n (stp x)
theorem stps_succ (n : Nat) (x : UInt32) : stps (n + 1) x = stp (stps n x) := by
  induction n generalizing x with
  | zero => rfl
  | succ n ih => rw [stps, ih]; rfl
theorem stps_add (m n : Nat) (x : UInt32) : stps (m + n) x = stps n (stps m x) := by
  induction m generalizing x with
  | zero => simp [stps]
  | succ m ih => rw [Nat.succ_add, stps, ih]; rfl
/-- the table -/
def tabN (i : Nat) : UInt32 := stps 8 (UInt32.ofNat i)
/-- one byte, by the table -/
def upd (x : UInt32) (c : UInt8) : UInt32 := tabN (x.toUInt8 ^^^ c).toNat ^^^ (x >>> 8)
/-- one byte, bit by bit -/
def updB (x : UInt32) (c : UInt8) : UInt32 := stps 8 (x ^^^ c.toUInt32)
def run (x : UInt32) (l : List UInt8) : UInt32 := l.foldl upd x
def crcOf (l : List UInt8) : UInt32 := ~~~ (run 4294967295 l)
theorem run_append (x : UInt32) (a b : List UInt8) : run x (a ++ b) = run (run x a) b := by simp [run]
theorem run_snoc (x : UInt32) (a : List UInt8) (c : UInt8) : run x (a ++ [c]) = upd (run x a) c := by simp [run]

/-! it is linear -/
theorem bit0 (x : UInt32) : x &&& 1 = 0 ∨ x &&& 1 = 1 := by
  have h : (x &&& 1).toNat = x.toNat % 2 := by rw [UInt32.toNat_and]; exact Nat.and_one_is_mod _
  rcases Nat.mod_two_eq_zero_or_one x.toNat with e | e
  · left; apply UInt32.toNat_inj.1; rw [h, e]; rfl
  · right; apply UInt32.toNat_inj.1; rw [h, e]; rfl
theorem stp_xor (a b : UInt32) : stp (a ^^^ b) = stp a ^^^ stp b := by
  have hs : (a ^^^ b) >>> 1 = (a >>> 1) ^^^ (b >>> 1) := by
    apply UInt32.toNat_inj.1
    simp [UInt32.toNat_shiftRight, UInt32.toNat_xor, Nat.shiftRight_xor_distrib]
  have hb : (a ^^^ b) &&& 1 = (a &&& 1) ^^^ (b &&& 1) := by
    apply UInt32.toNat_inj.1
    rw [UInt32.toNat_and, UInt32.toNat_xor, UInt32.toNat_xor, UInt32.toNat_and, UInt32.toNat_and, Nat.and_xor_distrib_right]
  unfold stp
  rw [hs, hb]
  rcases bit0 a with ha | ha <;> rcases bit0 b with hb' | hb' <;> rw [ha, hb']
  · simp
  · simp [UInt32.xor_assoc]
  · simp only [UInt32.xor_zero, UInt32.mul_zero, UInt32.mul_one]
    rw [UInt32.xor_assoc, UInt32.xor_assoc, UInt32.xor_comm (b >>> 1)]
  · have : poly * (1 ^^^ 1 : UInt32) = 0 := by decide
    rw [this]
    simp only [UInt32.mul_one, UInt32.xor_zero]
    rw [UInt32.xor_assoc, UInt32.xor_comm poly, UInt32.xor_assoc (b >>> 1), UInt32.xor_self, UInt32.xor_zero]
theorem stps_xor (n : Nat) (a b : UInt32) : stps n (a ^^^ b) = stps n a ^^^ stps n b := by
  induction n generalizing a b with
  | zero => rfl
  | succ n ih => rw [stps, stp_xor, ih]; rfl
theorem stps_zero (n : Nat) : stps n 0 = 0 := by
  induction n with
  | zero => rfl
  | succ n ih => rw [stps, show stp 0 = 0 from by decide, ih]
/-- bits above the lowest eight are moved down -/
theorem stp_even (x : UInt32) (h : x.toNat % 2 = 0) : stp x = x >>> 1 := by
  have : x &&& 1 = 0 := by
    apply UInt32.toNat_inj.1
    rw [UInt32.toNat_and, show (1 : UInt32).toNat = 1 from rfl, Nat.and_one_is_mod, h]; rfl
  simp [stp, this]
theorem stps_high (n : Nat) (x : UInt32) (h : x.toNat % 2 ^ n = 0) (hn : n ≤ 8) : (stps n x).toNat = x.toNat / 2 ^ n := by
  induction n generalizing x with
  | zero => simp [stps]
  | succ n ih =>
    have h2 : x.toNat % 2 = 0 := by
      have := Nat.mod_mod_of_dvd x.toNat (show 2 ∣ 2 ^ (n + 1) from ⟨2 ^ n, by rw [Nat.pow_succ, Nat.mul_comm]⟩)
      rw [h] at this; simpa using this.symm
    have e : (x >>> 1).toNat = x.toNat / 2 := by simp [UInt32.toNat_shiftRight, Nat.shiftRight_eq_div_pow]
    rw [stps, stp_even x h2, ih (x >>> 1) (by
      rw [e]
      have : x.toNat = 2 * (x.toNat / 2) := by omega
      rw [this, Nat.pow_succ, Nat.mul_comm (2 ^ n), Nat.mul_mod_mul_left] at h
      omega) (by omega), e, Nat.div_div_eq_div_mul, Nat.pow_succ, Nat.mul_comm 2]
theorem upd_bits (x : UInt32) (c : UInt8) : upd x c = updB x c := by
  have hx : x ^^^ c.toUInt32 = ((x.toUInt8 ^^^ c).toUInt32) ^^^ (x &&& 4294967040) := by
    apply UInt32.toNat_inj.1
    apply Nat.eq_of_testBit_eq
    intro i
    simp only [UInt32.toNat_xor, UInt8.toNat_toUInt32, UInt8.toNat_xor, UInt32.toNat_toUInt8, UInt32.toNat_and, Nat.testBit_xor, Nat.testBit_and]
    rw [Nat.testBit_mod_two_pow]
    have hm : (4294967040 : UInt32).toNat = (2 ^ 24 - 1) * 2 ^ 8 := rfl
    rw [hm, Nat.testBit_mul_two_pow, Nat.testBit_two_pow_sub_one]
    by_cases h : i < 8
    · have h8 : ¬ 8 ≤ i := by omega
      simp [h, h8]
    · have h8 : 8 ≤ i := by omega
      have hc : c.toNat.testBit i = false := Nat.testBit_lt_two_pow (Nat.lt_of_lt_of_le c.toNat_lt (Nat.pow_le_pow_right (by omega) h8))
      by_cases h32 : i < 32
      · have : i - 8 < 24 := by omega
        simp [h, h8, hc, this]
      · have hxx : x.toNat.testBit i = false := Nat.testBit_lt_two_pow (Nat.lt_of_lt_of_le x.toNat_lt (Nat.pow_le_pow_right (by omega) (by omega)))
        simp [h, hc, hxx]
  have hl : (x &&& 4294967040).toNat = x.toNat / 256 * 256 := by
    apply Nat.eq_of_testBit_eq
    intro i
    rw [UInt32.toNat_and, Nat.testBit_and]
    have hm : (4294967040 : UInt32).toNat = (2 ^ 24 - 1) * 2 ^ 8 := rfl
    rw [hm, show (256 : Nat) = 2 ^ 8 from rfl, Nat.testBit_mul_two_pow, Nat.testBit_mul_two_pow, Nat.testBit_two_pow_sub_one, Nat.testBit_div_two_pow]
    by_cases h : 8 ≤ i
    · by_cases h32 : i < 32
      · have : i - 8 < 24 := by omega
        simp [h, this]
      · have hxx : x.toNat.testBit i = false := Nat.testBit_lt_two_pow (Nat.lt_of_lt_of_le x.toNat_lt (Nat.pow_le_pow_right (by omega) (by omega)))
        simp [h, hxx]
    · simp [h]
  have hi : stps 8 (x &&& 4294967040) = x >>> 8 := by
    apply UInt32.toNat_inj.1
    rw [stps_high 8 _ (by rw [hl]; simp) (by omega), hl]
    simp [UInt32.toNat_shiftRight, Nat.shiftRight_eq_div_pow]
  unfold updB
  rw [hx, stps_xor, hi]
  unfold upd tabN
  congr 2
  apply UInt32.toNat_inj.1
  rw [UInt32.toNat_ofNat', UInt8.toNat_toUInt32]
  have := (x.toUInt8 ^^^ c).toNat_lt
  omega

theorem crc_example : crcOf [49, 50, 51, 52, 53, 54, 55, 56, 57] = 3421780262 := by decide +kernel

end Go.Proofs.Ytpoicbhbkabllaa

namespace Go.Proofs.Ytpoicbhbkabllaa
set_option linter.unusedSimpArgs false
set_option linter.unusedVariables false
open Go.RowKit

def tabUpTo (k : Nat) : Array Value := Array.ofFn (n := 256) fun i => if i.val < k then .int .u32 ((tabN i).toNat : Int) else .int .u32 0
def tabA : Array Value := tabUpTo 256
def zeroA : Array Value := Array.replicate 256 (.int .u32 0)
theorem tabUpTo_zero : tabUpTo 0 = zeroA := by
  apply Array.ext
  · simp [tabUpTo, zeroA]
  · intro i h1 h2; simp [tabUpTo, zeroA]
theorem tabUpTo_get (k : Nat) (h : k < 256) : (tabUpTo k)[k]? = some (.int .u32 0) := by simp [tabUpTo, h]
theorem tabUpTo_size (k : Nat) : (tabUpTo k).size = 256 := by simp [tabUpTo]
theorem tabUpTo_at (k i : Nat) (h : i < (tabUpTo k).size) : (tabUpTo k)[i] = if i < k then .int .u32 ((tabN i).toNat : Int) else .int .u32 0 := by simp [tabUpTo]
theorem tabUpTo_set (k : Nat) (h : k < 256) : (tabUpTo k).setIfInBounds k (.int .u32 ((stps 8 (UInt32.ofNat k)).toNat : Int)) = tabUpTo (k + 1) := by
  apply Array.ext
  · simp [tabUpTo_size]
  · intro i h1 h2
    rw [Array.getElem_setIfInBounds (by simpa using h1), tabUpTo_at, tabUpTo_at]
    by_cases e : k = i
    · subst e; simp [tabN]
    · rw [if_neg e]
      by_cases hl : i < k
      · rw [if_pos hl, if_pos (by omega)]
      · rw [if_neg hl, if_neg (by omega)]
theorem tabA_get (c : UInt8) : tabA[c.toNat]? = some (.int .u32 ((tabN c.toNat).toNat : Int)) := by
  have := c.toNat_lt
  simp [tabA, tabUpTo, this]
theorem tabA_one : ∀ v ∈ tabA.toList, v.oneCell' = true := by
  intro v hv
  obtain ⟨i, hi, rfl⟩ := List.mem_iff_getElem.1 hv
  rw [Array.getElem_toList]
  simp only [tabA, tabUpTo_at]
  split <;> rfl
theorem tabA_size : tabA.size = 256 := by simp [tabA, tabUpTo]

theorem zeroTab (w : World) : (zeroValue 163).run Try.prog w = .ok (.agg zeroA) w := by kernel_rfl
theorem infoTab : (Try.prog.info? 163).map (·.size) = some 256 := by kernel_rfl
theorem stp_walk (x : UInt32) : bits BinOp.xor IntKind.u32 ((x.toNat : Int) / 2) (3988292384 * ((x.toNat : Int) % 2)) = ((stp x).toNat : Int) := by
  have h1 : ((x.toNat : Int) / (2 : Int)) = ((x >>> 1).toNat : Int) := by simp [UInt32.toNat_shiftRight, Nat.shiftRight_eq_div_pow]
  have h2 : 3988292384 * ((x.toNat : Int) % 2) = ((poly * (x &&& 1)).toNat : Int) := by
    rw [← mul_u32, UInt32.toNat_and, show (1 : UInt32).toNat = 1 from rfl, Nat.and_one_is_mod, IntKind.wrap_u32', show (poly.toNat : Int) = 3988292384 from rfl]
    omega
  rw [h1, h2, xor_u32]; rfl
theorem wrapk (k : Nat) (h : k < 256) : IntKind.u32.wrap (k : Int) = ((UInt32.ofNat k).toNat : Int) := by
  rw [IntKind.wrap_u32', UInt32.toNat_ofNat']; omega

set_option maxRecDepth 100000 in
set_option maxHeartbeats 400000 in
theorem table_any (w : World) :
    Calls Try.prog 103 #[] w fun e w' => e = .returned (.agg tabA) ∧ Below w.heap.size w w' := by
  have hz := zeroTab
  have ha1 := fun x : UInt32 => and_u32 x 1
  simp only [show (((1 : UInt32).toNat : Nat) : Int) = 1 from rfl] at ha1
  go_enter Try.func103, Try.ntmps103
  go_wp2
  go_loopw [5] (fun i wr => ∃ k : Nat, k ≤ 256 ∧ i = .int .i64 k ∧ wr = (w.alloc (Obj.cells zeroA 163)).alloc (Obj.cells (tabUpTo k) 163)) (fun i _ => 256 - (intOf i).toNat)
  case atStart => exact ⟨0, by omega, rfl, by rw [tabUpTo_zero]⟩
  case round =>
    obtain ⟨k, hk, rfl, rfl⟩ := hrel
    by_cases hlt : k < 256
    · have hw := wrapk k hlt
      go_wp2
      go_loop [3,10] (fun x i => ∃ j : Nat, j ≤ 8 ∧ i = .int .i64 j ∧ x = .int .u32 ((stps j (UInt32.ofNat k)).toNat : Int)) (fun _ i => 8 - (intOf i).toNat)
      case atStart => exact ⟨0, by omega, rfl, rfl⟩
      case round =>
        obtain ⟨j, hj, rfl, rfl⟩ := hrel
        by_cases hlt2 : j < 8
        · go_wp2
          go_round
          case rel => exact ⟨j + 1, by omega, by go_num, by rw [stps_succ, stp_walk]⟩
          case measure => simp [intOf]; omega
        · obtain rfl : j = 8 := by omega
          have hc := tabUpTo_get k hlt
          have hs := tabUpTo_set k hlt
          go_wp2
          go_roundw
          case rel => exact ⟨k + 1, by omega, by go_num, rfl⟩
          case measure => simp [intOf]; omega
    · obtain rfl : k = 256 := by omega
      have h0 : (((w.alloc (Obj.cells zeroA 163)).alloc (Obj.cells (tabUpTo 256) 163))).heap[w.heap.size]? = some (.cells zeroA 163 (0, 0)) := heap_alloc2_old w _ _
      go_wp2_with (first
        | (refine wpList_load_row rfl 163 _ rfl (w.heap.size + 1) rfl 163 tabA (0, 0) _ (by exact heap_alloc2_new w _ _) Try.underlying163 rfl (by rw [tabA_size]; exact infoTab) ?_)
        | (refine wpList_store_row rfl 163 (.tmp 0) _ rfl w.heap.size tabA rfl rfl 163 zeroA (by exact h0) (by rw [tabA_size]; exact infoTab) (by rw [tabA_size]; rfl) tabA_one ?_))
      refine bodyPost_ret (results_cell_row rfl _ _ w.heap.size 163 tabA (0, 0) _ rfl (setRow_heap _ _ zeroA _ _ _ h0) Try.underlying163 rfl (by rw [tabA_size]; exact infoTab)) rfl ⟨rfl, ?_⟩
      exact bsetRow (((Below.refl _ _).alloc (Nat.le_refl _) _).alloc (by simp) _) (Nat.le_refl _) _
end Go.Proofs.Ytpoicbhbkabllaa

namespace Go.Proofs.Ytpoicbhbkabllaa
set_option linter.unusedSimpArgs false
set_option linter.unusedVariables false
open Go.RowKit

theorem tabW (a : Addr) (g : Nat) (w : World) (h : w.heap[g]? = some (.cells tabA 163 (0, 0))) (c : UInt8) : w.cell? ⟨g, c.toNat, none⟩ = some (.int .u32 ((tabN c.toNat).toNat : Int)) := by
  rw [cell_of_row w g _ tabA _ _ h, tabA_get]
theorem shr8 (x : UInt32) : ((x.toNat : Int)).fdiv 256 = ((x >>> 8).toNat : Int) := shr_u32 x 8 (by omega)

set_option maxRecDepth 100000 in
set_option maxHeartbeats 400000 in
theorem sum_any (A : Option Addr) (n c : Nat) (vs : List Value) (ls : List (List UInt8)) (w : World) (hn : vs.length = n) (hr : Rd w w.heap.size 1 A n vs) (hlen : vs.length = ls.length) (hm : n ≤ maxLen)
    (hby : ∀ k (h : k < vs.length) (h' : k < ls.length), By w w.heap.size vs[k] ls[k]) :
    Calls Try.prog 101 #[.slice A n c] w fun e w' => e = .returned (.int .u32 ((crcOf ls.flatten).toNat : Int)) ∧ Below w.heap.size w w' := by
  subst hn
  have hz := zeroTab
  unfold maxLen at hm
  have Hlen := Lib.hid hlen
  clear hlen
  go_enter Try.func101, Try.ntmps101
  go_wp2_with (first
    | (go_at_call 103; refine (table_any _).mono ?_; rintro e w1 ⟨rfl, hb1⟩)
    | (refine wpList_store_row rfl 163 (.tmp 3) _ rfl w1.heap.size tabA rfl rfl 163 zeroA (by exact heap_alloc_new w1 _) (by rw [tabA_size]; exact infoTab) (by rw [tabA_size]; rfl) tabA_one ?_))
  have hg : ((w1.alloc (Obj.cells zeroA 163)).setRow w1.heap.size tabA).heap[w1.heap.size]? = some (.cells tabA 163 (0, 0)) := setRow_heap _ _ zeroA _ _ _ (heap_alloc_new w1 _)
  have hb2 : Below w.heap.size w ((w1.alloc (Obj.cells zeroA 163)).setRow w1.heap.size tabA) := bsetRow (hb1.alloc hb1.size _) hb1.size _
  generalize (w1.alloc (Obj.cells zeroA 163)).setRow w1.heap.size tabA = W at *
  generalize w1.heap.size = g at *
  have hr2 := hr.below hb2
  go_loop [4, 12] (fun x i => ∃ k : Nat, k ≤ vs.length ∧ i = .int .i64 k ∧ x = .int .u32 ((run 4294967295 (ls.take k).flatten).toNat : Int)) (fun _ i => vs.length - (intOf i).toNat)
  case atStart => exact ⟨0, by omega, rfl, rfl⟩
  case round =>
    obtain ⟨k, hk, rfl, rfl⟩ := hrel
    by_cases hlt : k < vs.length
    · obtain ⟨ad, rfl, hadb, hcs⟩ := hr2.ad (by omega)
      have hk2 : k < ls.length := by rw [← Hlen.out]; exact hlt
      obtain ⟨A', c', hv, hc1, hc2, hrd⟩ := hby k hlt hk2
      have hcell := hcs k _ (List.getElem?_eq_getElem hlt)
      rw [hv] at hcell
      have hstep : run 4294967295 (ls.take (k + 1)).flatten = run (run 4294967295 (ls.take k).flatten) ls[k] := by
        rw [List.take_succ_eq_append_getElem hk2, List.flatten_append, run_append]; simp
      have Hstep := Lib.hid hstep
      have hrd2 := hrd.below hb2
      clear hv hcs hstep hrd
      generalize ls[k] = l at *
      generalize run 4294967295 (ls.take k).flatten = x0 at *
      unfold maxLen at hc2
      go_wp2
      go_loop [4, 18] (fun x i => ∃ j : Nat, j ≤ l.length ∧ i = .int .i64 j ∧ x = .int .u32 ((run x0 (l.take j)).toNat : Int)) (fun _ i => l.length - (intOf i).toNat)
      case atStart => exact ⟨0, by omega, rfl, rfl⟩
      case round =>
        obtain ⟨j, hj, rfl, rfl⟩ := hrel
        by_cases hlt2 : j < l.length
        · obtain ⟨ad', rfl, hadb', hcs'⟩ := hrd2.ad (by omega)
          have hcell2 := hcs' j _ (b8s_get l j hlt2)
          clear hcs'
          have hst2 : run x0 (l.take (j + 1)) = upd (run x0 (l.take j)) l[j] := by rw [List.take_succ_eq_append_getElem hlt2, run_snoc]
          have Hst2 := Lib.hid hst2
          clear hst2
          generalize l[j] = b at *
          generalize run x0 (l.take j) = x at *
          have hc2 := xor_u8 x.toUInt8 b
          rw [← mod_u8_u32] at hc2
          have hc4 := tabW ad g W hg (x.toUInt8 ^^^ b)
          have hc6 : bits BinOp.xor IntKind.u32 ((tabN (x.toUInt8 ^^^ b).toNat).toNat : Int) ((x.toNat : Int) / 256) = ((upd x b).toNat : Int) := by
            rw [div_u32 x 8 (by omega) 256 rfl]; exact xor_u32 _ _
          generalize upd x b = r at *
          generalize x.toUInt8 ^^^ b = q at *
          generalize tabN q.toNat = t at *
          have hc5 := u8_lt q
          go_wp2
          go_round
          case rel => exact ⟨j + 1, by omega, by go_num, by rw [Hst2.out]⟩
          case measure => simp [intOf]; omega
        · obtain rfl : j = l.length := by omega
          go_wp2
          go_round
          case rel => exact ⟨k + 1, by omega, by go_num, by rw [Hstep.out, List.take_length]⟩
          case measure => simp [intOf]; omega
    · obtain rfl : k = vs.length := by omega
      go_wp2
      go_ret
      refine ⟨?_, hb2⟩
      rw [Hlen.out, List.take_length]
      show Ending.returned (.int .u32 _) = _
      rw [compl_u32]; rfl
end Go.Proofs.Ytpoicbhbkabllaa

namespace Go.Proofs.Ytpoicbhbkabllaa
set_option linter.unusedSimpArgs false
set_option linter.unusedVariables false
open Go.RowKit

def four (x : UInt32) : List UInt8 := [x.toUInt8, (x >>> 8).toUInt8, (x >>> 16).toUInt8, (x >>> 24).toUInt8]
def markOf (l : List UInt8) : List UInt8 := l ++ four (crcOf l)
theorem four_length (x : UInt32) : (four x).length = 4 := rfl
theorem markOf_length (l : List UInt8) : (markOf l).length = l.length + 4 := by simp [markOf, four_length]
def fourAt (x : UInt32) (k : Nat) : UInt8 := (four x).getD k 0
theorem four_succ (x : UInt32) (k : Nat) (h : k < 4) : (four x).take (k + 1) = (four x).take k ++ [fourAt x k] := by
  rcases (show k = 0 ∨ k = 1 ∨ k = 2 ∨ k = 3 by omega) with rfl | rfl | rfl | rfl <;> rfl
theorem four_full (x : UInt32) : (four x).take 4 = four x := rfl
/-- the walk's own form of 'byte(x >> (8*k))' -/
theorem fourAt0 (x : UInt32) : (x.toNat : Int) % 256 = ((fourAt x 0).toNat : Int) := mod_u8_u32 x
theorem fourAt1 (x : UInt32) : (x.toNat : Int) / 256 % 256 = ((fourAt x 1).toNat : Int) := by rw [div_u32 x 8 (by omega) 256 rfl]; exact mod_u8_u32 _
theorem fourAt2 (x : UInt32) : (x.toNat : Int) / 65536 % 256 = ((fourAt x 2).toNat : Int) := by rw [div_u32 x 16 (by omega) 65536 rfl]; exact mod_u8_u32 _
theorem fourAt3 (x : UInt32) : (x.toNat : Int) / 16777216 % 256 = ((fourAt x 3).toNat : Int) := by rw [div_u32 x 24 (by omega) 16777216 rfl]; exact mod_u8_u32 _

set_option maxRecDepth 100000 in
set_option maxHeartbeats 800000 in
theorem mark_any (w : World) (v : Value) (l : List UInt8) (hby : By w w.heap.size v l) (hsz : l.length ≤ 1099511627776) :
    Calls Try.prog 92 #[v] w fun e w' => ∃ v', e = .returned v' ∧ Ow w' w.heap.size v' (markOf l) ∧ Below w.heap.size w w' := by
  have hby0 := hby
  obtain ⟨A, c, rfl, hc1, hc2, hrd⟩ := hby
  go_enter Try.func92, Try.ntmps92
  go_wp2_with (first
    | (go_at_call 94; refine (clone8 _ _ l hby0 (by omega)).mono ?_; rintro e w1 ⟨v1, rfl, hown1, hb1⟩)
    | (go_at_call 101; go_loud (refine (sum_any _ 1 1 [.slice A l.length c] [l] _ rfl (rd1 w1 _ _ rfl) rfl (by decide) (one_by ((hby0.step hb1).alloc (Nat.le_refl _) _ |>.more (by simp)))).mono ?_); rintro e w2 ⟨rfl, hb2⟩))
  have hb12 : Below w1.heap.size w1 w2 := bstep (balloc _ _) hb2
  have hown2 := hown1.below_ hb12
  have hb02 : Below w.heap.size w w2 := bstep hb1 hb12
  have Hres : Hid (markOf l = l ++ four (crcOf l)) := rfl
  clear hown1 hb12 hb1 hb2
  generalize crcOf l = x at *
  go_loopw [3, 5] (fun v n wr => ∃ k : Nat, k ≤ 4 ∧ n = .int .i64 k ∧ Ow wr w.heap.size v (l ++ (four x).take k) ∧ Below w.heap.size w wr) (fun _ n _ => 4 - (intOf n).toNat)
  case atStart => exact ⟨0, by omega, rfl, by simpa using hown2, hb02⟩
  case round =>
    obtain ⟨k, hk, rfl, hown, hb⟩ := hrel
    by_cases hlt : k < 4
    · have hs := four_succ x k hlt
      have Hs := Lib.hid hs
      clear hs
      have h0 := fourAt0 x
      have h1 := fourAt1 x
      have h2 := fourAt2 x
      have h3 := fourAt3 x
      have hlen4 : (l ++ (four x).take k).length ≤ l.length + 4 := by simp [four_length]; omega
      rcases (show k = 0 ∨ k = 1 ∨ k = 2 ∨ k = 3 by omega) with rfl | rfl | rfl | rfl
      all_goals
        go_wp2_with (first
          | (at_builtin
             refine wpList_app8 rfl (.tmp 15) (.tmp 21) rfl (hown.alloc _) (By.new_ wr [fourAt x _] (by simp [maxLen])) rfl rfl (by simp only [List.length_singleton]; omega) (by have := hb.size; simp; omega) ?_
             intro v3 w3 hown3 hext3))
        have hb3 : Below w.heap.size w w3 := hb.trans (((Below.refl _ _).alloc hb.size _).trans (hext3.below (by have := hb.size; simp; omega) (fun k hk => (hown.blk k hk).1)))
        go_roundw
        case rel =>
          first
            | exact ⟨1, by omega, rfl, by rw [Hs.out, ← List.append_assoc]; exact hown3, hb3⟩
            | exact ⟨2, by omega, rfl, by rw [Hs.out, ← List.append_assoc]; exact hown3, hb3⟩
            | exact ⟨3, by omega, rfl, by rw [Hs.out, ← List.append_assoc]; exact hown3, hb3⟩
            | exact ⟨4, by omega, rfl, by rw [Hs.out, ← List.append_assoc]; exact hown3, hb3⟩
        case measure => simp [intOf]
    · obtain rfl : k = 4 := by omega
      go_wp2
      go_ret
      exact ⟨_, rfl, by rw [Hres.out]; exact hown, hb⟩
end Go.Proofs.Ytpoicbhbkabllaa

namespace Go.Proofs.Ytpoicbhbkabllaa
set_option linter.unusedSimpArgs false
set_option linter.unusedVariables false
open Go.RowKit

def fitsB (l : List UInt8) : Bool := decide (4 ≤ l.length ∧ markOf (l.take (l.length - 4)) = l)
def fitsL (l : List UInt8) : List UInt8 := if fitsB l then l.take (l.length - 4) else []
def fitsE (l : List UInt8) : Int := if l.length < 4 then 2 else if fitsB l then 0 else 5

theorem fitsB_mark (l : List UInt8) : fitsB (markOf l) = true := by
  have h : (markOf l).take ((markOf l).length - 4) = l := by rw [markOf_length]; simp [markOf]
  unfold fitsB
  rw [h, markOf_length]
  simp
theorem fitsE_mark (l : List UInt8) : fitsE (markOf l) = 0 := by
  unfold fitsE; rw [fitsB_mark, if_neg (by rw [markOf_length]; omega)]; rfl
theorem fitsL_mark (l : List UInt8) : fitsL (markOf l) = l := by
  unfold fitsL; rw [fitsB_mark, if_pos rfl, markOf_length]; simp [markOf]

set_option maxRecDepth 100000 in
set_option maxHeartbeats 800000 in
theorem fits_any (w : World) (v : Value) (l : List UInt8) (hby : By w w.heap.size v l) (hsz : l.length ≤ 1099511627776) :
    Calls Try.prog 81 #[v] w fun e w' => ∃ v', e = .returned (.tuple #[v', .int .i64 (fitsE l)]) ∧ Ow w' w.heap.size v' (fitsL l) ∧ Below w.heap.size w w' := by
  have hby0 := hby
  obtain ⟨A, c, rfl, hc1, hc2, hrd⟩ := hby
  unfold maxLen at hc2
  by_cases h4 : l.length < 4
  · have hE : fitsE l = 2 := by simp [fitsE, h4]
    have hL : fitsL l = [] := by
      have : fitsB l = false := by simp [fitsB]; omega
      simp [fitsL, this]
    rw [hE, hL]
    clear hE hL
    go_enter Try.func81, Try.ntmps81
    go_wp2_with fail
    go_ret2
    exact ⟨_, rfl, Ow.nil_ _ _, Below.refl _ _⟩
  · have hown : By w w.heap.size (.slice A (l.length - 4) c) (l.take (l.length - 4)) := by
      refine ⟨A, c, by simp, by simp; omega, hc2, ?_⟩
      have := hrd.front (k := l.length - 4) (by omega)
      simpa [b8s, List.map_take] using this
    have hlt : (l.take (l.length - 4)).length = l.length - 4 := by simp
    have HE : Hid (fitsE l = if markOf (l.take (l.length - 4)) = l then 0 else 5) := by
      unfold Hid fitsE fitsB
      rw [if_neg h4]
      by_cases hm : markOf (l.take (l.length - 4)) = l
      · rw [if_pos (by simp [hm]; omega), if_pos hm]
      · rw [if_neg (by simp [hm]), if_neg hm]
    have HL : Hid (fitsL l = if markOf (l.take (l.length - 4)) = l then l.take (l.length - 4) else []) := by
      unfold Hid fitsL fitsB
      by_cases hm : markOf (l.take (l.length - 4)) = l
      · rw [if_pos (by simp [hm]; omega), if_pos hm]
      · rw [if_neg (by simp [hm]), if_neg hm]
    have Hlt := Lib.hid hlt
    clear hlt
    generalize fitsE l = E at *
    generalize fitsL l = L at *
    generalize l.take (l.length - 4) = l0 at *
    by_cases hm : markOf l0 = l
    all_goals
      go_enter Try.func81, Try.ntmps81
      go_wp2_with fail
      refine (clone8 _ _ l0 hown (by rw [Hlt.out]; omega)).mono ?_
      rintro e w1 ⟨v1, rfl, hown1, hb1⟩
      go_wp2_with fail
      refine (mark_any _ _ l0 hown1.by_ (by rw [Hlt.out]; omega)).mono ?_
      rintro e w2 ⟨v2, rfl, hown2, hb2⟩
      have hb02 := bstep hb1 hb2
      go_wp2_with fail
      refine (equal8 _ _ _ _ _ _ _ hown2.by_ (hby0.below hb02)).mono ?_
      rintro e w3 ⟨rfl, hb3⟩
    · rw [decide_eq_true hm]
      have Hm := Lib.hid hm
      clear hm
      go_wp2_with fail
      go_ret2
      refine ⟨v1, by rw [HE.out, if_pos Hm.out]; rfl, ?_, bstep hb02 hb3⟩
      rw [HL.out, if_pos Hm.out]
      exact (hown1.below_ hb2).below_ hb3
    · rw [decide_eq_false hm]
      have Hm := Lib.hid hm
      clear hm
      go_wp2_with fail
      go_ret2
      refine ⟨_, by rw [HE.out, if_neg Hm.out]; rfl, ?_, bstep hb02 hb3⟩
      rw [HL.out, if_neg Hm.out]
      exact Ow.nil_ _ _
end Go.Proofs.Ytpoicbhbkabllaa

namespace Go.Proofs.Ytpoicbhbkabllaa
set_option linter.unusedSimpArgs false
set_option linter.unusedVariables false

/-! ### no state but 0 comes to 0 -/
theorem stp_zero (x : UInt32) (h : stp x = 0) : x = 0 := by
  have hx := x.toNat_lt
  unfold stp at h
  rcases bit0 x with hb | hb
  · rw [hb] at h
    simp only [UInt32.mul_zero, UInt32.xor_zero] at h
    have h1 : x.toNat / 2 = 0 := by
      have := congrArg UInt32.toNat h
      simpa [UInt32.toNat_shiftRight, Nat.shiftRight_eq_div_pow] using this
    have h2 : x.toNat % 2 = 0 := by
      have := congrArg UInt32.toNat hb
      rw [UInt32.toNat_and, show (1 : UInt32).toNat = 1 from rfl, Nat.and_one_is_mod] at this
      exact this
    apply UInt32.toNat_inj.1
    show x.toNat = 0
    omega
  · rw [hb] at h
    exfalso
    have h1 : x >>> 1 = poly := by
      have : (x >>> 1) ^^^ poly * 1 = 0 := h
      rw [UInt32.mul_one] at this
      have h2 : ((x >>> 1) ^^^ poly) ^^^ poly = 0 ^^^ poly := by rw [this]
      rw [UInt32.xor_assoc, UInt32.xor_self, UInt32.xor_zero, UInt32.zero_xor] at h2
      exact h2
    have h2 : x.toNat / 2 = 3988292384 := by
      have := congrArg UInt32.toNat h1
      rw [UInt32.toNat_shiftRight] at this
      simpa [Nat.shiftRight_eq_div_pow, poly] using this
    omega
theorem stps_ne (n : Nat) (x : UInt32) (h : x ≠ 0) : stps n x ≠ 0 := by
  induction n generalizing x with
  | zero => exact h
  | succ n ih => exact ih (stp x) (fun e => h (stp_zero x e))
/-- bits above the lowest n are moved down (any n) -/
theorem stps_down (n : Nat) (x : UInt32) (h : x.toNat % 2 ^ n = 0) : (stps n x).toNat = x.toNat / 2 ^ n := by
  induction n generalizing x with
  | zero => simp [stps]
  | succ n ih =>
    have h2 : x.toNat % 2 = 0 := by
      have := Nat.mod_mod_of_dvd x.toNat (show 2 ∣ 2 ^ (n + 1) from ⟨2 ^ n, by rw [Nat.pow_succ, Nat.mul_comm]⟩)
      rw [h] at this; simpa using this.symm
    have e : (x >>> 1).toNat = x.toNat / 2 := by simp [UInt32.toNat_shiftRight, Nat.shiftRight_eq_div_pow]
    rw [stps, stp_even x h2, ih (x >>> 1) (by
      rw [e]
      have : x.toNat = 2 * (x.toNat / 2) := by omega
      rw [this, Nat.pow_succ, Nat.mul_comm (2 ^ n), Nat.mul_mod_mul_left] at h
      omega), e, Nat.div_div_eq_div_mul, Nat.pow_succ, Nat.mul_comm 2]
theorem stps_two (k : Nat) (hk : k < 32) : stps k (UInt32.ofNat (2 ^ k)) = 1 := by
  have hp : 2 ^ k < 2 ^ 32 := Nat.pow_lt_pow_right (by omega) hk
  have e : (UInt32.ofNat (2 ^ k)).toNat = 2 ^ k := by rw [UInt32.toNat_ofNat']; exact Nat.mod_eq_of_lt hp
  apply UInt32.toNat_inj.1
  rw [stps_down k _ (by rw [e]; exact Nat.mod_self _), e]
  exact Nat.div_self (Nat.two_pow_pos k)

/-! ### a byte turned -/
theorem upd_xor (x y : UInt32) (c d : UInt8) : upd (x ^^^ y) (c ^^^ d) = upd x c ^^^ stps 8 (y ^^^ d.toUInt32) := by
  rw [upd_bits, upd_bits]
  unfold updB
  rw [← stps_xor]
  congr 1
  have : (c ^^^ d).toUInt32 = c.toUInt32 ^^^ d.toUInt32 := by
    apply UInt32.toNat_inj.1
    simp [UInt32.toNat_xor, UInt8.toNat_xor]
  rw [this, UInt32.xor_assoc, UInt32.xor_assoc, ← UInt32.xor_assoc y, UInt32.xor_comm y, UInt32.xor_assoc]
theorem run_xor (x y : UInt32) (l : List UInt8) : run (x ^^^ y) l = run x l ^^^ stps (8 * l.length) y := by
  induction l generalizing x y with
  | nil => rfl
  | cons c l ih =>
    show run (upd (x ^^^ y) c) l = run (upd x c) l ^^^ _
    have h : upd (x ^^^ y) c = upd x c ^^^ stps 8 y := by
      have := upd_xor x y c 0
      simpa using this
    rw [h, ih, List.length_cons, Nat.mul_add, Nat.add_comm (8 * l.length), Nat.mul_one, stps_add]
theorem run_turn (s : UInt32) (a c : List UInt8) (b d : UInt8) : run s (a ++ (b ^^^ d) :: c) = run s (a ++ b :: c) ^^^ stps (8 * c.length + 8) d.toUInt32 := by
  rw [run_append, run_append]
  show run (upd (run s a) (b ^^^ d)) c = run (upd (run s a) b) c ^^^ _
  have h : upd (run s a) (b ^^^ d) = upd (run s a) b ^^^ stps 8 d.toUInt32 := by
    have := upd_xor (run s a) 0 b d
    simpa using this
  rw [h, run_xor, ← stps_add, Nat.add_comm]

/-! ### what was marked comes to one state -/
theorem shl_down (y : UInt8) (k : Nat) (hk : k ≤ 16) : stps 8 (UInt32.ofNat (y.toNat * 2 ^ (k + 8))) = UInt32.ofNat (y.toNat * 2 ^ k) := by
  have hy := y.toNat_lt
  have hp : 2 ^ (k + 8) ≤ 2 ^ 24 := Nat.pow_le_pow_right (by omega) (by omega)
  have hp2 : 2 ^ k ≤ 2 ^ 16 := Nat.pow_le_pow_right (by omega) hk
  have e : (UInt32.ofNat (y.toNat * 2 ^ (k + 8))).toNat = y.toNat * 2 ^ (k + 8) := by
    rw [UInt32.toNat_ofNat']
    refine Nat.mod_eq_of_lt ?_
    calc y.toNat * 2 ^ (k + 8) ≤ 255 * 2 ^ 24 := Nat.mul_le_mul (by omega) hp
      _ < 2 ^ 32 := by omega
  apply UInt32.toNat_inj.1
  rw [stps_down 8 _ (by rw [e, Nat.pow_add, ← Nat.mul_assoc]; exact Nat.mul_mod_left _ _), e, UInt32.toNat_ofNat']
  rw [Nat.pow_add, ← Nat.mul_assoc, Nat.mul_div_cancel _ (by omega), Nat.mod_eq_of_lt]
  calc y.toNat * 2 ^ k ≤ 255 * 2 ^ 16 := Nat.mul_le_mul (by omega) hp2
    _ < 2 ^ 32 := by omega
def le4 (a b c d : UInt8) : UInt32 := a.toUInt32 ^^^ (UInt32.ofNat (b.toNat * 2 ^ 8) ^^^ (UInt32.ofNat (c.toNat * 2 ^ 16) ^^^ UInt32.ofNat (d.toNat * 2 ^ 24)))
theorem u32_of_u8 (y : UInt8) : UInt32.ofNat (y.toNat * 2 ^ 0) = y.toUInt32 := by
  apply UInt32.toNat_inj.1
  have := y.toNat_lt
  rw [UInt32.toNat_ofNat', UInt8.toNat_toUInt32]
  omega
theorem run_four (s : UInt32) (a b c d : UInt8) : run s [a, b, c, d] = stps 32 (s ^^^ le4 a b c d) := by
  show upd (upd (upd (upd s a) b) c) d = _
  rw [upd_bits, upd_bits, upd_bits, upd_bits]
  unfold updB le4
  rw [show (32 : Nat) = 8 + (8 + (8 + 8)) from rfl, stps_add, stps_add, stps_add]
  rw [← UInt32.xor_assoc s, stps_xor 8 (s ^^^ a.toUInt32), stps_xor 8 (UInt32.ofNat (b.toNat * 2 ^ 8)), stps_xor 8 (UInt32.ofNat (c.toNat * 2 ^ 16))]
  rw [shl_down b 0 (by omega), shl_down c 8 (by omega), shl_down d 16 (by omega), u32_of_u8]
  rw [← UInt32.xor_assoc, stps_xor 8 (stps 8 (s ^^^ a.toUInt32) ^^^ b.toUInt32), stps_xor 8 (UInt32.ofNat (c.toNat * 2 ^ 8))]
  rw [shl_down c 0 (by omega), shl_down d 8 (by omega), u32_of_u8, ← UInt32.xor_assoc]
  rw [stps_xor 8 (stps 8 (stps 8 (s ^^^ a.toUInt32) ^^^ b.toUInt32) ^^^ c.toUInt32), shl_down d 0 (by omega), u32_of_u8]
theorem arith1 (n : Nat) : n / 65536 * 65536 + n / 256 % 256 * 256 = n / 256 * 256 := by omega
theorem arith2 (n : Nat) : n / 256 * 256 + n % 256 = n := by omega
theorem le4_four (x : UInt32) : le4 x.toUInt8 (x >>> 8).toUInt8 (x >>> 16).toUInt8 (x >>> 24).toUInt8 = x := by
  have hx := x.toNat_lt
  have e8 : (x >>> 8).toUInt8.toNat = x.toNat / 256 % 256 := by simp [UInt32.toNat_shiftRight, Nat.shiftRight_eq_div_pow]
  have e16 : (x >>> 16).toUInt8.toNat = x.toNat / 65536 % 256 := by simp [UInt32.toNat_shiftRight, Nat.shiftRight_eq_div_pow]
  have e24 : (x >>> 24).toUInt8.toNat = x.toNat / 16777216 % 256 := by simp [UInt32.toNat_shiftRight, Nat.shiftRight_eq_div_pow]
  have e0 : x.toUInt8.toNat = x.toNat % 256 := by simp
  unfold le4
  apply UInt32.toNat_inj.1
  rw [UInt32.toNat_xor, UInt32.toNat_xor, UInt32.toNat_xor, UInt8.toNat_toUInt32, UInt32.toNat_ofNat', UInt32.toNat_ofNat', UInt32.toNat_ofNat', e0, e8, e16, e24]
  generalize x.toNat = n at *
  rw [Nat.mod_eq_of_lt (show n / 256 % 256 * 2 ^ 8 < 2 ^ 32 by show n / 256 % 256 * 256 < 4294967296; omega), Nat.mod_eq_of_lt (show n / 65536 % 256 * 2 ^ 16 < 2 ^ 32 by show n / 65536 % 256 * 65536 < 4294967296; omega), Nat.mod_eq_of_lt (show n / 16777216 % 256 * 2 ^ 24 < 2 ^ 32 by show n / 16777216 % 256 * 16777216 < 4294967296; omega)]
  have hj : ∀ (i a b : Nat), b < 2 ^ i → b ^^^ (a * 2 ^ i) = a * 2 ^ i + b := by
    intro i a b hb
    apply Nat.eq_of_testBit_eq
    intro j
    rw [Nat.testBit_xor, Nat.testBit_mul_two_pow, Nat.mul_comm a, Nat.testBit_two_pow_mul_add _ hb]
    by_cases h : j < i
    · have : ¬ i ≤ j := by omega
      simp [h, this]
    · have h2 : i ≤ j := by omega
      have : b.testBit j = false := Nat.testBit_lt_two_pow (Nat.lt_of_lt_of_le hb (Nat.pow_le_pow_right (by omega) h2))
      simp [h, h2, this]
  rw [hj 24 (n / 16777216 % 256) (n / 65536 % 256 * 2 ^ 16) (by show n / 65536 % 256 * 65536 < 16777216; omega)]
  have h3 : n / 16777216 % 256 * 2 ^ 24 + n / 65536 % 256 * 2 ^ 16 = (n / 65536) * 2 ^ 16 := by show n / 16777216 % 256 * 16777216 + n / 65536 % 256 * 65536 = (n / 65536) * 65536; omega
  rw [h3]
  rw [hj 16 (n / 65536) (n / 256 % 256 * 2 ^ 8) (by show n / 256 % 256 * 256 < 65536; omega)]
  have h4 : n / 65536 * 2 ^ 16 + n / 256 % 256 * 2 ^ 8 = (n / 256) * 2 ^ 8 := arith1 n
  rw [h4, hj 8 (n / 256) (n % 256) (by show n % 256 < 256; omega)]
  exact arith2 n
def endState : UInt32 := stps 32 4294967295
theorem run_mark (l : List UInt8) : run 4294967295 (markOf l) = endState := by
  unfold markOf
  rw [run_append]
  unfold four
  rw [run_four, le4_four]
  unfold crcOf endState
  congr 1
  show run 4294967295 l ^^^ ~~~ run 4294967295 l = (-1 : UInt32)
  rw [← UInt32.xor_neg_one, ← UInt32.xor_assoc, UInt32.xor_self, UInt32.zero_xor]
theorem not_fits (m : List UInt8) (h : run 4294967295 m ≠ endState) : fitsB m = false := by
  unfold fitsB
  rw [decide_eq_false]
  rintro ⟨_, h2⟩
  apply h
  rw [← h2]
  exact run_mark _

/-- one byte turned -/
theorem turned_byte (l a c : List UInt8) (b d : UInt8) (h : markOf l = a ++ b :: c) (hd : d ≠ 0) : fitsB (a ++ (b ^^^ d) :: c) = false := by
  apply not_fits
  rw [run_turn, ← h, run_mark]
  intro e
  have h2 : stps (8 * c.length + 8) d.toUInt32 = 0 := by
    have h3 : endState ^^^ (endState ^^^ stps (8 * c.length + 8) d.toUInt32) = endState ^^^ endState := by rw [e]
    rw [← UInt32.xor_assoc, UInt32.xor_self, UInt32.zero_xor] at h3
    exact h3
  refine stps_ne _ _ ?_ h2
  intro e2
  apply hd
  apply UInt8.toNat_inj.1
  have := congrArg UInt32.toNat e2
  simpa using this

/-! ### bits turned within 32 -/
def bit8 (q : Nat) : UInt8 := UInt8.ofNat (2 ^ (q % 8))
/-- bit number q turned -/
def flip (m : List UInt8) (q : Nat) : List UInt8 := m.set (q / 8) (m.getD (q / 8) 0 ^^^ bit8 q)
theorem flip_length (m : List UInt8) (q : Nat) : (flip m q).length = m.length := by simp [flip]
theorem bit8_u32 (q : Nat) : (bit8 q).toUInt32 = UInt32.ofNat (2 ^ (q % 8)) := by
  have hp : 2 ^ (q % 8) < 2 ^ 8 := Nat.pow_lt_pow_right (by omega) (by omega)
  apply UInt32.toNat_inj.1
  rw [UInt8.toNat_toUInt32, UInt32.toNat_ofNat']
  unfold bit8
  rw [UInt8.toNat_ofNat']
  generalize 2 ^ (q % 8) = z at *
  have hz : z < 256 := hp
  show z % 256 = z % 4294967296
  omega
theorem run_flip (s : UInt32) (m : List UInt8) (q : Nat) (hq : q < 8 * m.length) : run s (flip m q) = run s m ^^^ stps (8 * m.length - q) 1 := by
  have hi : q / 8 < m.length := by omega
  have hm : m = m.take (q / 8) ++ m[q / 8] :: m.drop (q / 8 + 1) := by
    rw [List.getElem_cons_drop hi, List.take_append_drop]
  have hf : flip m q = m.take (q / 8) ++ (m[q / 8] ^^^ bit8 q) :: m.drop (q / 8 + 1) := by
    unfold flip
    rw [List.set_eq_take_append_cons_drop, if_pos hi]
    simp [hi]
  rw [hf, run_turn, ← hm, bit8_u32]
  congr 1
  have h1 : 8 * (m.drop (q / 8 + 1)).length + 8 = q % 8 + (8 * m.length - q) := by rw [List.length_drop]; omega
  rw [h1, stps_add, stps_two _ (by omega)]
/-- the first k bits of x turned, from bit number p on -/
def burst (x : UInt32) (p : Nat) : Nat → List UInt8 → List UInt8
  | 0, m => m
  | k + 1, m => if x.toNat / 2 ^ k % 2 = 1 then flip (burst x p k m) (p + k) else burst x p k m
theorem burst_length (x : UInt32) (p k : Nat) (m : List UInt8) : (burst x p k m).length = m.length := by
  induction k with
  | zero => rfl
  | succ k ih => unfold burst; split <;> simp [flip_length, ih]
theorem mod_succ_xor (n k : Nat) : n % 2 ^ (k + 1) = if n / 2 ^ k % 2 = 1 then (n % 2 ^ k) ^^^ 2 ^ k else n % 2 ^ k := by
  have h1 : n % 2 ^ (k + 1) = 2 ^ k * (n / 2 ^ k % 2) + n % 2 ^ k := by
    rw [Nat.pow_succ, Nat.mod_mul, Nat.add_comm]
  have hlt : n % 2 ^ k < 2 ^ k := Nat.mod_lt _ (Nat.two_pow_pos k)
  rw [h1]
  split
  · rename_i h
    rw [h]
    apply Nat.eq_of_testBit_eq
    intro j
    rw [Nat.testBit_two_pow_mul_add _ hlt, Nat.testBit_xor, Nat.testBit_two_pow]
    by_cases hj : j < k
    · have : ¬ k = j := by omega
      simp [hj, this]
    · have hb : (n % 2 ^ k).testBit j = false := Nat.testBit_lt_two_pow (Nat.lt_of_lt_of_le hlt (Nat.pow_le_pow_right (by omega) (by omega)))
      rw [if_neg hj, hb]
      by_cases e : k = j
      · subst e; simp
      · have : j - k ≠ 0 := by omega
        rw [decide_eq_false e]
        cases h9 : Nat.testBit 1 (j - k) with
        | false => rfl
        | true => exact absurd (Nat.testBit_one_eq_true_iff_self_eq_zero.1 h9) this
  · rename_i h
    have : n / 2 ^ k % 2 = 0 := by omega
    rw [this]; simp
theorem run_burst (s x : UInt32) (p : Nat) (m : List UInt8) (hp : p + 32 ≤ 8 * m.length) : ∀ k, k ≤ 32 → run s (burst x p k m) = run s m ^^^ stps (8 * m.length - p) (UInt32.ofNat (x.toNat % 2 ^ k))
  | 0, _ => by
    have : x.toNat % 2 ^ 0 = 0 := by simp [Nat.mod_one]
    rw [this]
    show run s m = run s m ^^^ stps _ 0
    rw [stps_zero, UInt32.xor_zero]
  | k + 1, hk => by
    have ih := run_burst s x p m hp k (by omega)
    unfold burst
    rw [mod_succ_xor]
    split
    · rw [run_flip _ _ _ (by rw [burst_length]; omega), ih, burst_length]
      have h1 : UInt32.ofNat ((x.toNat % 2 ^ k) ^^^ 2 ^ k) = UInt32.ofNat (x.toNat % 2 ^ k) ^^^ UInt32.ofNat (2 ^ k) := by
        apply UInt32.toNat_inj.1
        have hp : 2 ^ k < 2 ^ 32 := Nat.pow_lt_pow_right (by omega) (by omega)
        have hlt : x.toNat % 2 ^ k < 2 ^ k := Nat.mod_lt _ (Nat.two_pow_pos k)
        rw [UInt32.toNat_xor, UInt32.toNat_ofNat', UInt32.toNat_ofNat', UInt32.toNat_ofNat', Nat.mod_eq_of_lt (show x.toNat % 2 ^ k < 2 ^ 32 by omega), Nat.mod_eq_of_lt hp, Nat.mod_eq_of_lt]
        exact Nat.xor_lt_two_pow (by omega) hp
      rw [h1, stps_xor, UInt32.xor_assoc]
      congr 2
      have h2 : 8 * m.length - p = k + (8 * m.length - (p + k)) := by omega
      rw [h2, stps_add, stps_two k (by omega)]
    · exact ih
theorem burst_found (l : List UInt8) (x : UInt32) (p : Nat) (hx : x ≠ 0) (hp : p + 32 ≤ 8 * (markOf l).length) : fitsB (burst x p 32 (markOf l)) = false := by
  apply not_fits
  rw [run_burst _ _ _ _ hp 32 (by omega), run_mark]
  intro e
  have h3 : endState ^^^ (endState ^^^ stps (8 * (markOf l).length - p) (UInt32.ofNat (x.toNat % 2 ^ 32))) = endState ^^^ endState := by rw [e]
  rw [← UInt32.xor_assoc, UInt32.xor_self, UInt32.zero_xor] at h3
  refine stps_ne _ _ ?_ h3
  have h4 : x.toNat % 2 ^ 32 = x.toNat := Nat.mod_eq_of_lt x.toNat_lt
  rw [h4]
  simpa using hx

end Go.Proofs.Ytpoicbhbkabllaa

namespace Go.Proofs.Ytpoicbhbkabllaa
set_option linter.unusedSimpArgs false
set_option linter.unusedVariables false

def zeros (n : Nat) : List UInt8 := List.replicate n 0
def headOf (file place : UInt32) (b : List UInt8) : List UInt8 := four file ++ four place ++ four (UInt32.ofNat b.length) ++ b
def bodyOf (file place : UInt32) (b : List UInt8) : List UInt8 := headOf file place b ++ zeros (112 - b.length)
def pageOf (file place : UInt32) (b : List UInt8) : List UInt8 := markOf (bodyOf file place b)
def putL (file place : UInt32) (b : List UInt8) : List UInt8 := if 112 < b.length then [] else pageOf file place b
def putE (b : List UInt8) : Int := if 112 < b.length then 4 else 0
theorem headOf_length (file place : UInt32) (b : List UInt8) : (headOf file place b).length = 12 + b.length := by simp [headOf, four_length]; omega
theorem bodyOf_length (file place : UInt32) (b : List UInt8) (h : b.length ≤ 112) : (bodyOf file place b).length = 124 := by
  simp [bodyOf, headOf_length, zeros]; omega
theorem pageOf_length (file place : UInt32) (b : List UInt8) (h : b.length ≤ 112) : (pageOf file place b).length = 128 := by
  rw [pageOf, markOf_length, bodyOf_length _ _ _ h]

/-! ### the parts of a page -/
theorem take_four (x : UInt32) (l : List UInt8) : (four x ++ l).take 4 = four x := by simp [four]
theorem drop_four (x : UInt32) (l : List UInt8) : (four x ++ l).drop 4 = l := by simp [four]
theorem four_inj {x y : UInt32} (h : four x = four y) : x = y := by
  unfold four at h
  simp only [List.cons.injEq, and_true] at h
  obtain ⟨h1, h2, h3, h4⟩ := h
  rw [← le4_four x, ← le4_four y, h1, h2, h3, h4]
theorem pageOf_eq (file place : UInt32) (b : List UInt8) : pageOf file place b = four file ++ (four place ++ (four (UInt32.ofNat b.length) ++ (b ++ (zeros (112 - b.length) ++ four (crcOf (bodyOf file place b)))))) := by
  unfold pageOf markOf
  simp only [bodyOf, headOf, List.append_assoc]
theorem page_file (file place : UInt32) (b : List UInt8) : (pageOf file place b).take 4 = four file := by rw [pageOf_eq, take_four]
theorem page_place (file place : UInt32) (b : List UInt8) : ((pageOf file place b).drop 4).take 4 = four place := by rw [pageOf_eq, drop_four, take_four]
theorem page_len (file place : UInt32) (b : List UInt8) : ((pageOf file place b).drop 8).take 4 = four (UInt32.ofNat b.length) := by
  rw [show (8 : Nat) = 4 + 4 from rfl, ← List.drop_drop, pageOf_eq, drop_four, drop_four, take_four]
theorem page_rest (file place : UInt32) (b : List UInt8) : (pageOf file place b).drop 12 = b ++ (zeros (112 - b.length) ++ four (crcOf (bodyOf file place b))) := by
  rw [show (12 : Nat) = 4 + (4 + 4) from rfl, ← List.drop_drop, ← List.drop_drop, pageOf_eq, drop_four, drop_four, drop_four]
theorem page_fits (file place : UInt32) (b : List UInt8) : fitsB (pageOf file place b) = true := fitsB_mark _

/-! ### the code's test -/
def lenAt (l : List UInt8) : Nat := min (l.getD 8 0).toNat 112
def inOf (l : List UInt8) : List UInt8 := (l.drop 12).take (lenAt l)
def getB (l : List UInt8) (file place : UInt32) : Bool := decide (l.length = 128 ∧ pageOf file place (inOf l) = l)
def getL (l : List UInt8) (file place : UInt32) : List UInt8 := if getB l file place then inOf l else []
def getE (l : List UInt8) (file place : UInt32) : Int := if l.length ≠ 128 then 3 else if getB l file place then 0 else 5
theorem inOf_le (l : List UInt8) : (inOf l).length ≤ 112 := by simp [inOf, lenAt]; omega

theorem four_getD0 (x : UInt32) (l : List UInt8) : (four x ++ l).getD 0 0 = x.toUInt8 := rfl
theorem lenAt_page (file place : UInt32) (b : List UInt8) (h : b.length ≤ 112) : lenAt (pageOf file place b) = b.length := by
  unfold lenAt
  have : (pageOf file place b).getD 8 0 = (UInt32.ofNat b.length).toUInt8 := by
    rw [pageOf_eq]; rfl
  rw [this, UInt32.toNat_toUInt8, UInt32.toNat_ofNat']
  omega
theorem inOf_page (file place : UInt32) (b : List UInt8) (h : b.length ≤ 112) : inOf (pageOf file place b) = b := by
  unfold inOf
  rw [lenAt_page _ _ _ h, page_rest]
  simp
theorem getB_page (file place f2 p2 : UInt32) (b : List UInt8) (h : b.length ≤ 112) : getB (pageOf file place b) f2 p2 = decide (f2 = file ∧ p2 = place) := by
  unfold getB
  rw [inOf_page _ _ _ h, pageOf_length _ _ _ h, decide_eq_decide]
  constructor
  · rintro ⟨_, e⟩
    have h1 := congrArg (fun l => l.take 4) e
    have h2 := congrArg (fun l => (l.drop 4).take 4) e
    simp only [page_file, page_place] at h1 h2
    exact ⟨four_inj h1, four_inj h2⟩
  · rintro ⟨rfl, rfl⟩
    exact ⟨rfl, rfl⟩
theorem getB_fits (l : List UInt8) (file place : UInt32) (h : getB l file place = true) : fitsB l = true := by
  unfold getB at h
  have := (of_decide_eq_true h).2
  rw [← this]
  exact page_fits _ _ _

/-! ### the document's test -/
def leAt (l : List UInt8) : Nat := (l.getD 8 0).toNat + 256 * (l.getD 9 0).toNat + 65536 * (l.getD 10 0).toNat + 16777216 * (l.getD 11 0).toNat
def refB (l : List UInt8) (file place : UInt32) : Prop :=
  l.length = 128 ∧ fitsB l = true ∧ l.take 4 = four file ∧ (l.drop 4).take 4 = four place ∧ leAt l ≤ 112 ∧ ∀ i, 12 + leAt l ≤ i → i < 124 → l.getD i 0 = 0
theorem four_of_le (a b c d : UInt8) (n : Nat) (h : n = a.toNat + 256 * b.toNat + 65536 * c.toNat + 16777216 * d.toNat) : four (UInt32.ofNat n) = [a, b, c, d] := by
  have ha := a.toNat_lt
  have hb := b.toNat_lt
  have hc := c.toNat_lt
  have hd := d.toNat_lt
  have hn : (UInt32.ofNat n).toNat = n := by rw [UInt32.toNat_ofNat']; omega
  have e0 : (UInt32.ofNat n).toUInt8 = a := by apply UInt8.toNat_inj.1; rw [UInt32.toNat_toUInt8, hn]; omega
  have e1 : ((UInt32.ofNat n) >>> 8).toUInt8 = b := by
    apply UInt8.toNat_inj.1
    have : ((UInt32.ofNat n) >>> 8).toUInt8.toNat = (UInt32.ofNat n).toNat / 256 % 256 := by simp [UInt32.toNat_shiftRight, Nat.shiftRight_eq_div_pow]
    rw [this, hn]; omega
  have e2 : ((UInt32.ofNat n) >>> 16).toUInt8 = c := by
    apply UInt8.toNat_inj.1
    have : ((UInt32.ofNat n) >>> 16).toUInt8.toNat = (UInt32.ofNat n).toNat / 65536 % 256 := by simp [UInt32.toNat_shiftRight, Nat.shiftRight_eq_div_pow]
    rw [this, hn]; omega
  have e3 : ((UInt32.ofNat n) >>> 24).toUInt8 = d := by
    apply UInt8.toNat_inj.1
    have : ((UInt32.ofNat n) >>> 24).toUInt8.toNat = (UInt32.ofNat n).toNat / 16777216 % 256 := by simp [UInt32.toNat_shiftRight, Nat.shiftRight_eq_div_pow]
    rw [this, hn]; omega
  unfold four
  rw [e0, e1, e2, e3]
theorem le_four (n : Nat) (hn : n < 4294967296) (l : List UInt8) (h : (l.drop 8).take 4 = four (UInt32.ofNat n)) : leAt l = n := by
  have h8 : l.getD 8 0 = (UInt32.ofNat n).toUInt8 := by
    have := congrArg (fun x => x.getD 0 0) h
    simpa [List.getD_eq_getElem?_getD, List.getElem?_take, List.getElem?_drop, four] using this
  have h9 : l.getD 9 0 = ((UInt32.ofNat n) >>> 8).toUInt8 := by
    have := congrArg (fun x => x.getD 1 0) h
    simpa [List.getD_eq_getElem?_getD, List.getElem?_take, List.getElem?_drop, four] using this
  have h10 : l.getD 10 0 = ((UInt32.ofNat n) >>> 16).toUInt8 := by
    have := congrArg (fun x => x.getD 2 0) h
    simpa [List.getD_eq_getElem?_getD, List.getElem?_take, List.getElem?_drop, four] using this
  have h11 : l.getD 11 0 = ((UInt32.ofNat n) >>> 24).toUInt8 := by
    have := congrArg (fun x => x.getD 3 0) h
    simpa [List.getD_eq_getElem?_getD, List.getElem?_take, List.getElem?_drop, four] using this
  have hn' : (UInt32.ofNat n).toNat = n := by rw [UInt32.toNat_ofNat']; omega
  unfold leAt
  rw [h8, h9, h10, h11]
  simp [UInt32.toNat_shiftRight, Nat.shiftRight_eq_div_pow, Nat.mod_eq_of_lt hn]
  omega
theorem four_leAt (l : List UInt8) (h : 12 ≤ l.length) : (l.drop 8).take 4 = four (UInt32.ofNat (leAt l)) := by
  rw [four_of_le (l.getD 8 0) (l.getD 9 0) (l.getD 10 0) (l.getD 11 0) (leAt l) rfl]
  apply List.ext_getElem?
  intro i
  have hg : ∀ k, k < l.length → l[k]? = some (l.getD k 0) := fun k hk => by simp [List.getD_eq_getElem?_getD, hk]
  rw [List.getElem?_take]
  by_cases hi : i < 4
  · rw [if_pos hi, List.getElem?_drop, hg _ (by omega)]
    rcases (show i = 0 ∨ i = 1 ∨ i = 2 ∨ i = 3 by omega) with rfl | rfl | rfl | rfl <;> rfl
  · rw [if_neg hi]
    simp; omega
/-- the two tests are one -/
theorem get_ref (l : List UInt8) (file place : UInt32) : getB l file place = true ↔ refB l file place := by
  constructor
  · intro h
    have hf := getB_fits l file place h
    unfold getB at h
    obtain ⟨hl, hp⟩ := of_decide_eq_true h
    have hle := inOf_le l
    have h4 := page_len file place (inOf l)
    rw [hp] at h4
    have hn := le_four (inOf l).length (by omega) l h4
    have h1 := page_file file place (inOf l)
    have h2 := page_place file place (inOf l)
    have h3 := page_rest file place (inOf l)
    rw [hp] at h1 h2 h3
    refine ⟨hl, hf, h1, h2, by rw [hn]; exact hle, ?_⟩
    intro i hi1 hi2
    rw [hn] at hi1
    have : l.getD i 0 = (l.drop 12).getD (i - 12) 0 := by
      simp only [List.getD_eq_getElem?_getD, List.getElem?_drop]
      rw [show 12 + (i - 12) = i by omega]
    rw [this, h3, List.getD_eq_getElem?_getD, List.getElem?_append_right (by omega), List.getElem?_append_left (by simp [zeros]; omega)]
    simp only [zeros, List.getElem?_replicate]
    split <;> rfl
  · rintro ⟨hl, hf, h1, h2, h3, h4⟩
    unfold getB
    rw [decide_eq_true]
    refine ⟨hl, ?_⟩
    have hlow : lenAt l = leAt l := by
      unfold lenAt
      have : leAt l = (l.getD 8 0).toNat + 256 * (l.getD 9 0).toNat + 65536 * (l.getD 10 0).toNat + 16777216 * (l.getD 11 0).toNat := rfl
      omega
    have hin : (inOf l).length = leAt l := by
      unfold inOf; rw [List.length_take, List.length_drop, hl, hlow]; omega
    have hb : bodyOf file place (inOf l) = l.take 124 := by
      have e1 : l.take 124 = l.take 4 ++ ((l.drop 4).take 4 ++ ((l.drop 8).take 4 ++ ((l.drop 12).take (leAt l) ++ (l.drop (12 + leAt l)).take (112 - leAt l)))) := by
        rw [show (124 : Nat) = 4 + (4 + (4 + (leAt l + (112 - leAt l)))) by omega]
        rw [List.take_add, List.take_add, List.take_add, List.take_add, List.drop_drop, List.drop_drop, List.drop_drop]
      rw [e1, h1, h2, four_leAt l (by omega)]
      unfold bodyOf headOf
      rw [hin]
      simp only [List.append_assoc]
      congr 3
      unfold inOf
      rw [hlow]
      congr 1
      apply List.ext_getElem?
      intro i
      simp only [zeros, List.getElem?_replicate, List.getElem?_take, List.getElem?_drop]
      split
      · have := h4 (12 + leAt l + i) (by omega) (by omega)
        rw [List.getD_eq_getElem?_getD, List.getElem?_eq_getElem (by omega)] at this
        rw [List.getElem?_eq_getElem (by omega)]
        simpa using this.symm
      · rfl
    unfold pageOf
    rw [hb]
    unfold fitsB at hf
    have := (of_decide_eq_true hf).2
    rwa [hl] at this
theorem ref_in (l : List UInt8) (file place : UInt32) (h : refB l file place) : inOf l = (l.drop 12).take (leAt l) := by
  obtain ⟨_, _, _, _, h3, _⟩ := h
  have hlow : lenAt l = leAt l := by
    unfold lenAt
    have : leAt l = (l.getD 8 0).toNat + 256 * (l.getD 9 0).toNat + 65536 * (l.getD 10 0).toNat + 16777216 * (l.getD 11 0).toNat := rfl
    omega
  unfold inOf; rw [hlow]
/-- a page of which one byte is turned -/
theorem getB_turned (file place f2 p2 : UInt32) (b : List UInt8) (at_ : Nat) (by_ : UInt8) (h : b.length ≤ 112) (ha : at_ < 128) (hby : by_ ≠ 0) :
    getB ((pageOf file place b).set at_ ((pageOf file place b).getD at_ 0 ^^^ by_)) f2 p2 = false := by
  have hl := pageOf_length file place b h
  have ha' : at_ < (pageOf file place b).length := by omega
  cases hg : getB ((pageOf file place b).set at_ ((pageOf file place b).getD at_ 0 ^^^ by_)) f2 p2 with
  | false => rfl
  | true =>
    exfalso
    have hf := getB_fits _ _ _ hg
    have hm : pageOf file place b = (pageOf file place b).take at_ ++ (pageOf file place b)[at_] :: (pageOf file place b).drop (at_ + 1) := by
      rw [List.getElem_cons_drop ha', List.take_append_drop]
    have hs : (pageOf file place b).set at_ ((pageOf file place b).getD at_ 0 ^^^ by_) = (pageOf file place b).take at_ ++ ((pageOf file place b)[at_] ^^^ by_) :: (pageOf file place b).drop (at_ + 1) := by
      rw [List.set_eq_take_append_cons_drop, if_pos ha']
      simp [ha']
    have := turned_byte (bodyOf file place b) _ _ _ by_ hm hby
    rw [hs, this] at hf
    cases hf
end Go.Proofs.Ytpoicbhbkabllaa

namespace Go.Proofs.Ytpoicbhbkabllaa
set_option linter.unusedSimpArgs false
set_option linter.unusedVariables false
open Go.RowKit

/-- a section's bytes -/
def frameOf (k : UInt8) (l : List UInt8) : List UInt8 := markOf (k :: four (UInt32.ofNat l.length)) ++ markOf l
theorem frameOf_length (k : UInt8) (l : List UInt8) : (frameOf k l).length = l.length + 13 := by
  simp [frameOf, markOf_length, four_length]; omega
/-- the length that the head tells -/
def sLen (b : List UInt8) : Nat := (b.getD 1 0).toNat + 256 * (b.getD 2 0).toNat + 65536 * (b.getD 3 0).toNat + 16777216 * (b.getD 4 0).toNat
def sE (b : List UInt8) : Int :=
  if b.length < 9 then 2 else if fitsB (b.take 9) = false then 5 else if 1048576 < sLen b then 4 else if b.length < sLen b + 13 then 2
  else if fitsB ((b.drop 9).take (sLen b + 4)) then 0 else 5
def sL (b : List UInt8) : List UInt8 := if sE b = 0 then (b.drop 9).take (sLen b) else []
def sN (b : List UInt8) : Nat := if sE b = 0 then sLen b + 13 else 0
def sK (b : List UInt8) : UInt8 := if sE b = 0 then b.getD 0 0 else 0

theorem sLen_lt (b : List UInt8) : sLen b < 4294967296 := by
  have h1 := u8_lt (b.getD 1 0)
  have h2 := u8_lt (b.getD 2 0)
  have h3 := u8_lt (b.getD 3 0)
  have h4 := u8_lt (b.getD 4 0)
  unfold sLen
  omega

/-- the head's five bytes -/
theorem frameOf_eq (k : UInt8) (l : List UInt8) : frameOf k l = k :: four (UInt32.ofNat l.length) ++ (four (crcOf (k :: four (UInt32.ofNat l.length))) ++ markOf l) := by
  simp [frameOf, markOf]
theorem sLen_frame (k : UInt8) (l t : List UInt8) (h : l.length < 4294967296) : sLen (frameOf k l ++ t) = l.length := by
  rw [frameOf_eq]
  show (UInt32.ofNat l.length).toUInt8.toNat + 256 * ((UInt32.ofNat l.length) >>> 8).toUInt8.toNat + 65536 * ((UInt32.ofNat l.length) >>> 16).toUInt8.toNat + 16777216 * ((UInt32.ofNat l.length) >>> 24).toUInt8.toNat = l.length
  have e : (UInt32.ofNat l.length).toNat = l.length := by rw [UInt32.toNat_ofNat']; omega
  generalize UInt32.ofNat l.length = x at *
  have h0 := mod_u8_u32 x
  have h1 := fourAt1 x
  have h2 := fourAt2 x
  have h3 := fourAt3 x
  simp only [fourAt, four, List.getD_cons_zero, List.getD_cons_succ] at h1 h2 h3
  omega
theorem take9_frame (k : UInt8) (l t : List UInt8) : (frameOf k l ++ t).take 9 = markOf (k :: four (UInt32.ofNat l.length)) := by
  unfold frameOf
  rw [List.append_assoc, List.take_left' (by simp [markOf_length, four_length])]
theorem drop9_frame (k : UInt8) (l t : List UInt8) : (frameOf k l ++ t).drop 9 = markOf l ++ t := by
  unfold frameOf
  rw [List.append_assoc, List.drop_left' (by simp [markOf_length, four_length])]
theorem sE_frame (k : UInt8) (l t : List UInt8) (h : l.length ≤ 1048576) : sE (frameOf k l ++ t) = 0 := by
  have hn := sLen_frame k l t (by omega)
  have hl : (frameOf k l ++ t).length = l.length + 13 + t.length := by simp [frameOf_length]
  unfold sE
  rw [hn, take9_frame, drop9_frame, fitsB_mark, if_neg (by omega), if_neg (by simp), if_neg (by omega), if_neg (by omega), List.take_left' (by simp [markOf_length]), fitsB_mark]
  rfl
theorem sL_frame (k : UInt8) (l t : List UInt8) (h : l.length ≤ 1048576) : sL (frameOf k l ++ t) = l := by
  unfold sL
  rw [if_pos (sE_frame k l t h), sLen_frame k l t (by omega), drop9_frame]
  simp [markOf]
theorem sN_frame (k : UInt8) (l t : List UInt8) (h : l.length ≤ 1048576) : sN (frameOf k l ++ t) = l.length + 13 := by
  unfold sN
  rw [if_pos (sE_frame k l t h), sLen_frame k l t (by omega)]
theorem sK_frame (k : UInt8) (l t : List UInt8) (h : l.length ≤ 1048576) : sK (frameOf k l ++ t) = k := by
  unfold sK
  rw [if_pos (sE_frame k l t h), frameOf_eq]
  rfl

/-! ### bits at int -/
theorem ofInt_i64 (a : Nat) (ha : a < 9223372036854775808) : (BitVec.ofInt 64 (a : Int)).toNat = a := by
  rw [BitVec.ofInt_natCast, BitVec.toNat_ofNat]; exact Nat.mod_eq_of_lt (by omega)
theorem or_i64 (a b : Nat) (ha : a < 9223372036854775808) (hb : b < 9223372036854775808) : bits .or .i64 (a : Int) (b : Int) = ((a ||| b : Nat) : Int) := by
  have hx : a ||| b < 2 ^ 63 := Nat.or_lt_two_pow (by omega) (by omega)
  show IntKind.i64.wrap ((BitVec.ofInt 64 (a : Int) ||| BitVec.ofInt 64 (b : Int)).toNat : Int) = _
  rw [BitVec.toNat_or, ofInt_i64 a ha, ofInt_i64 b hb, wrap_i64]
  omega
theorem or_add (k a b : Nat) (ha : a < 2 ^ k) : a ||| (2 ^ k * b) = a + 2 ^ k * b := by
  rw [Nat.or_comm, Nat.add_comm, Nat.two_pow_add_eq_or_of_lt ha]
theorem or_i64_add (a c : Int) (k b : Nat) (n : Nat) (hn : a = (n : Int)) (hc : c = ((2 ^ k * b : Nat) : Int)) (ha : n < 2 ^ k) (h1 : n < 9223372036854775808) (h2 : 2 ^ k * b < 9223372036854775808) :
    bits .or .i64 a c = ((n + 2 ^ k * b : Nat) : Int) := by
  rw [hn, hc, or_i64 _ _ h1 h2, or_add _ _ _ ha]
/-- the head's length as frame.Get reads it -/
theorem head_or (a b c d : UInt8) :
    bits .or .i64 (bits .or .i64 (bits .or .i64 (a.toNat : Int) ((b.toNat : Int) * 256)) ((c.toNat : Int) * 65536)) ((d.toNat : Int) * 16777216)
      = ((a.toNat + 256 * b.toNat + 65536 * c.toNat + 16777216 * d.toNat : Nat) : Int) := by
  have h1 := u8_lt a
  have h2 := u8_lt b
  have h3 := u8_lt c
  have h4 := u8_lt d
  rw [or_i64_add (a.toNat : Int) _ 8 b.toNat a.toNat rfl (by omega) (by omega) (by omega) (by omega),
    or_i64_add _ _ 16 c.toNat (a.toNat + 2 ^ 8 * b.toNat) rfl (by omega) (by omega) (by omega) (by omega),
    or_i64_add _ _ 24 d.toNat (a.toNat + 2 ^ 8 * b.toNat + 2 ^ 16 * c.toNat) rfl (by omega) (by omega) (by omega) (by omega)]
end Go.Proofs.Ytpoicbhbkabllaa

namespace Go.Proofs.Ytpoicbhbkabllaa
set_option linter.unusedSimpArgs false
set_option linter.unusedVariables false
open Go.RowKit

theorem zeroCells8 (n : Nat) : Builtin.zeroCells (Value.cells (.int .u8 0)) n = (b8s (List.replicate n 0)).toArray := by
  apply Array.ext
  · simp [Builtin.zeroCells, Value.cells, b8s]
  · intro i h1 h2
    simp [Builtin.zeroCells, Value.cells, b8s, b8, Nat.mod_one]

theorem run_zero8 (w : World) (base : Nat) (v : Value) (l : List UInt8) (hown : Ow w base v l) (n : Nat) (ty : TypeId) (hsz : l.length + n ≤ 140737488355328) (hbase : base ≤ w.heap.size) :
    ∃ v' w', (Builtin.append_ #[30, 3] ty #[v, .int .i64 (n : Int)]).run Try.prog w = .ok v' w' ∧ Ow w' base v' (l ++ List.replicate n 0) ∧ Ext w w' v v' := by
  obtain ⟨i, hi, hz0, hz1, hz2⟩ := info_parts info8
  have hw : IntKind.i64.wrap (n : Int) = n := by rw [wrap_i64]; omega
  have hneg : ¬ ((n : Int) < 0) := by omega
  have h48i : ¬ (281474976710656 < (n : Int)) := by omega
  by_cases hn : n = 0
  · subst hn
    refine ⟨v, w, ?_, by simpa using hown, Ext.refl _ _⟩
    obtain ⟨A, c, rfl, hc, _, _⟩ := hown.form_
    cases A with
    | none => simp [Builtin.append_, run_underlying Try.underlying30, run_underlying Try.underlying3, sizeOf, typeInfo, hi, hz1, hz2, asInt, asIntOf, wrap_i64, hc]
    | some a => simp [Builtin.append_, run_underlying Try.underlying30, run_underlying Try.underlying3, sizeOf, typeInfo, hi, hz1, hz2, asInt, asIntOf, wrap_i64, hc, storeCells]
  · have h0 : 0 < n := by omega
    -- a new row
    have grows : ∀ (bs : Option Addr) (cap : Nat), cap < l.length + n → (Builtin.firstCells 1 l.length (.slice bs l.length cap)).run Try.prog w.drew = .ok (b8s l).toArray w.drew → v = .slice bs l.length cap →
        ∃ v' w', (Builtin.append_ #[30, 3] ty #[v, .int .i64 (n : Int)]).run Try.prog w = .ok v' w' ∧ Ow w' base v' (l ++ List.replicate n 0) ∧ Ext w w' v v' := by
      intro bs cap hcap hf hv
      have hr := Lib.run_append_grow_zeros (P := Try.prog) w 30 3 ty 5 i (.int .u8 0) .i64 .i64 Try.underlying30 Try.underlying3 hi hz0 bs l.length cap (b8s l) (by rw [hz1]; exact hf) n h0 (by omega) hcap (by omega) (by rw [hz2]; omega)
        (growslice_fits hcap (by rw [hz2]; omega))
      rw [← hv] at hr
      have hge := grownCap_ge w (l.length + n) cap 5
      have hcm := grownCap_le_maxLen w (l.length + n) cap 5 (by unfold maxLen; omega)
      generalize grownCap w (l.length + n) cap 5 = nc at *
      refine ⟨_, _, hr, ⟨by simp [b8s], .inr ⟨w.heap.size, nc, _, by simp, hbase, heap_alloc_new w.drew _, by simpa using hge, hcm, ?_, ?_⟩⟩, ⟨⟨rfl, rfl, rfl, by simp, fun k hk _ => heap_alloc_old w.drew _ hk⟩, .inr fun k hk => ?_⟩⟩
      · simp [Builtin.zeroCells, Value.cells, b8s]; omega
      · rw [zeroCells8, Array.toList_append, Array.toList_append, b8s_append]
        exact List.take_left' (by simp [b8s])
      · simp [Value.ownBlock] at hk
        omega
    rcases hown.2 with ⟨hv, hl0⟩ | ⟨g, cap, cur, hv, hb, hg, hnc, hcm, hcs, htake⟩
    · have hl : l = [] := List.eq_nil_of_length_eq_zero hl0
      subst hl
      exact grows none 0 (by simpa using h0) rfl hv
    · by_cases hroom : l.length + n ≤ cap
      · have hst := run_storeCells_at Try.prog g l.length 5 (b8s (List.replicate n 0)) 0 cur w hg (by simp [b8s]; omega) (b8s_one _)
        simp only [Nat.add_zero] at hst
        have hr : (Builtin.append_ #[30, 3] ty #[v, .int .i64 (n : Int)]).run Try.prog w = .ok (.slice (some ⟨g, 0, none⟩) (l.length + n) cap) (w.setRow g (cur.toList.take l.length ++ b8s (List.replicate n 0) ++ cur.toList.drop (l.length + (b8s (List.replicate n 0)).length)).toArray) := by
          rw [hv]
          simp [Builtin.append_, run_underlying Try.underlying30, run_underlying Try.underlying3, sizeOf, typeInfo, zeroValue, hi, hz0, hz1, hz2, asInt, asIntOf, hw, hneg, h48i, hroom, hn, zeroCells8, Addr.add_lit, hst]
        refine ⟨_, _, hr, ⟨by simp [b8s], .inr ⟨g, cap, _, by simp, hb, setRow_heap w g cur _ _ _ hg, by simpa using hroom, hcm, ?_, ?_⟩⟩, ⟨⟨rfl, rfl, rfl, by simp, fun k _ hk => setRow_other w g k _ (fun e => hk (by rw [hv]; simp [Value.ownBlock, e]))⟩, .inl (by rw [hv]; rfl)⟩⟩
        · simp [b8s]; omega
        · have e1 : cur.toList.take l.length = b8s l := by simpa using htake
          rw [e1]
          rw [List.take_append_of_le_length (by simp [b8s])]
          rw [List.take_of_length_le (by simp [b8s])]
          simp [b8s]
      · have hcells : ∀ j u, (b8s l)[j]? = some u → w.cell? ((⟨g, 0, none⟩ : Addr).add j) = some u := World.ownsRow.cells hown (g := g) (by rw [hv]; rfl)
        refine grows (some ⟨g, 0, none⟩) cap (by omega) ?_ hv
        have := run_loadCells_list (P := Try.prog) w.drew ⟨g, 0, none⟩ (b8s l) hcells
        simpa [Builtin.firstCells, b8s] using this

theorem wpList_zero8 {ops : Array Oper} {rest : List Oper} {o : Oper} {a : Act} {w : World} {Q : Exit → Act → World → Prop} (hgd : o.guard = none) (s x : Operand)
    (ho : o.op = .call { callee := .builtin .append, args := #[s, x], argTypes := #[30, 3] })
    {base : Nat} {v : Value} {l : List UInt8} (hown : Ow w base v l) (n : Nat) (hs : a.eval s = v) (hx : a.eval x = .int .i64 (n : Int))
    (hsz : l.length + n ≤ 140737488355328) (hbase : base ≤ w.heap.size)
    (h : ∀ v' w', Ow w' base v' (l ++ List.replicate n 0) → Ext w w' v v' → wpList Try.prog ops Q rest (a.put o.dst v') w') : wpList Try.prog ops Q (o :: rest) a w := by
  obtain ⟨v', w', hr, h2, h3⟩ := run_zero8 w base v l hown n o.type hsz hbase
  exact Lib.wpList_append_run w hgd s x _ _ ho v _ hs hx v' w' hr (h v' w' h2 h3)
end Go.Proofs.Ytpoicbhbkabllaa

namespace Go.Proofs.Ytpoicbhbkabllaa
set_option linter.unusedSimpArgs false
set_option linter.unusedVariables false
open Go.RowKit

theorem infoSec : (Try.prog.info? 108).map (·.size) = some 2 := by kernel_rfl
/-- block g holds a Section -/
def SecAt (w : World) (g : Nat) (k v : Value) : Prop := w.heap[g]? = some (.cells #[k, v] 108 (0, 0))
theorem gsetRow (w : World) (g : Nat) (cs : Array Value) : w.grownBy (w.setRow g cs) (some g) :=
  ⟨rfl, rfl, rfl, by simp, fun i _ hne => setRow_other w g i cs (fun e => hne (by rw [e]))⟩
theorem SecAt.new_ (w : World) (k v : Value) : SecAt (w.alloc (.cells #[k, v] 108)) w.heap.size k v := heap_alloc_new w _
theorem SecAt.alloc {w : World} {g : Nat} {k v : Value} (h : SecAt w g k v) (hg : g < w.heap.size) (o : Obj) : SecAt (w.alloc o) g k v := (heap_alloc_old w o hg).trans h
theorem SecAt.below {w w' : World} {g B : Nat} {k v : Value} (h : SecAt w g k v) (hg : g < B) (hb : Below B w w') : SecAt w' g k v := (hb.block g hg).trans h
theorem SecAt.put {w : World} {g : Nat} {k v : Value} (h : SecAt w g k v) (k' v' : Value) : SecAt (w.setRow g #[k', v']) g k' v' := setRow_heap _ _ _ _ _ _ h
theorem SecAt.other {w : World} {g : Nat} {k v : Value} (h : SecAt w g k v) (g' : Nat) (hne : g ≠ g') (cs : Array Value) : SecAt (w.setRow g' cs) g k v := (setRow_other w g' g cs hne).trans h
theorem SecAt.lt {w : World} {g : Nat} {k v : Value} (h : SecAt w g k v) : g < w.heap.size := (Array.getElem?_eq_some_iff.1 h).1
theorem SecAt.cell0 {w : World} {g : Nat} {k v : Value} (h : SecAt w g k v) : w.cell? { block := g, off := 0 } = some k := by
  unfold SecAt at h; simp [World.cell?, h]
theorem SecAt.cell1 {w : World} {g : Nat} {k v : Value} (h : SecAt w g k v) : w.cell? { block := g, off := 1 } = some v := by
  unfold SecAt at h; simp [World.cell?, h]
theorem Ow.setRow_ {w : World} {base : Nat} {v : Value} {l : List UInt8} (h : Ow w base v l) {g : Nat} (hg : g < base) (cs : Array Value) : Ow (w.setRow g cs) base v l :=
  h.keep (gsetRow w g cs) (by
    cases hv : v.ownBlock with
    | none => exact .inl rfl
    | some k => exact .inr (fun e => by injection e with e; have := (h.blk k hv).1; omega))
theorem By.setRow_ {w : World} {B : Nat} {v : Value} {l : List UInt8} (h : By w B v l) {g : Nat} (hg : B ≤ g) (cs : Array Value) : By (w.setRow g cs) B v l :=
  h.below (bsetRow (Below.refl _ _) hg cs)

theorem results_sec {fn : Func} {p q r : Tmp} (h : fn.results = #[.cell p 108, .tmp q, .tmp r]) (tmps : Array Value) (w : World) (g : Nat) (k v : Value)
    (hp : tmps.getD p undef = .pointer (some ⟨g, 0, none⟩)) (hs : SecAt w g k v) :
    (results fn tmps).run Try.prog w = .ok (.tuple #[.agg #[k, v], tmps.getD q undef, tmps.getD r undef]) w := by
  have hp' : tmps[p]?.getD undef = .pointer (some ⟨g, 0, none⟩) := by simpa using hp
  have hr := run_loadVar_row w g 108 108 #[k, v] (0, 0) _ hs Try.underlying108 rfl infoSec
  simp [results, h, hp', asAddr, hr]

theorem wpList_store_sec {ops : Array Oper} {rest : List Oper} {o : Oper} {a : Act} {w : World} {Q : Exit → Act → World → Prop} (hgd : o.guard = none) (x y : Operand) (ho : o.op = .store 108 x y)
    (g : Nat) (k v k' v' : Value) (hx : a.eval x = .pointer (some ⟨g, 0, none⟩)) (hy : a.eval y = .agg #[k', v']) (hs : SecAt w g k v) (h1 : k'.oneCell' = true) (h2 : v'.oneCell' = true)
    (h : SecAt (w.setRow g #[k', v']) g k' v' → wpList Try.prog ops Q rest (a.put o.dst undef) (w.setRow g #[k', v'])) : wpList Try.prog ops Q (o :: rest) a w :=
  wpList_store_row hgd 108 x y ho g #[k', v'] hx hy 108 #[k, v] hs infoSec rfl (by
    intro u hu
    simp at hu
    rcases hu with rfl | rfl
    · exact h1
    · exact h2) (h (hs.put k' v'))
theorem wpList_load_sec {ops : Array Oper} {rest : List Oper} {o : Oper} {a : Act} {w : World} {Q : Exit → Act → World → Prop} (hgd : o.guard = none) (x : Operand) (ho : o.op = .load 108 x)
    (g : Nat) (k v : Value) (hx : a.eval x = .pointer (some ⟨g, 0, none⟩)) (hs : SecAt w g k v)
    (h : wpList Try.prog ops Q rest (a.put o.dst (.agg #[k, v])) w) : wpList Try.prog ops Q (o :: rest) a w :=
  wpList_load_row hgd 108 x ho g hx 108 #[k, v] (0, 0) _ hs Try.underlying108 rfl infoSec h
end Go.Proofs.Ytpoicbhbkabllaa

namespace Go.Proofs.Ytpoicbhbkabllaa
set_option linter.unusedSimpArgs false
set_option linter.unusedVariables false
open Go.RowKit

set_option maxRecDepth 100000 in
set_option maxHeartbeats 800000 in
theorem fput_any (w : World) (base : Nat) (v0 : Value) (l0 : List UInt8) (hown : Ow w base v0 l0) (k : UInt8) (v : Value) (l : List UInt8) (hby : By w base v l) (hsz : l.length ≤ 1048576) (hsz0 : l0.length ≤ 1099511627776)
    (hbase : base ≤ w.heap.size) :
    Calls Try.prog 77 #[v0, .agg #[.int .u8 (k.toNat : Int), v]] w fun e w' => ∃ v', e = .returned (.tuple #[v', .int .i64 0]) ∧ Ow w' base v' (l0 ++ frameOf k l) ∧ Ext w w' v0 v' := by
  have hby0 := hby
  obtain ⟨A, c, rfl, hc1, hc2, hrd⟩ := hby
  obtain ⟨A0, c0, rfl, hd1, hd2, hf0⟩ := hown.form_
  unfold maxLen at hc2 hd2
  have hx : (UInt32.ofNat l.length).toNat = l.length := by rw [UInt32.toNat_ofNat']; omega
  have h0 := fourAt0 (UInt32.ofNat l.length)
  have h1 := fourAt1 (UInt32.ofNat l.length)
  have h2 := fourAt2 (UInt32.ofNat l.length)
  have h3 := fourAt3 (UInt32.ofNat l.length)
  rw [hx] at h0 h1 h2 h3
  have h2' : (l.length : Int) / 65536 = ((fourAt (UInt32.ofNat l.length) 2).toNat : Int) := by omega
  have h3' : (l.length : Int) / 16777216 = ((fourAt (UInt32.ofNat l.length) 3).toNat : Int) := by omega
  clear h2 h3
  have hg : (UInt32.ofNat l.length).toNat < 4294967296 := u32_lt _
  have hcl : (k :: four (UInt32.ofNat l.length)).length = 5 := rfl
  have HF : Hid (frameOf k l = markOf (k :: four (UInt32.ofNat l.length)) ++ markOf l) := by unfold Hid; rfl
  have hby := By.new_ (w.alloc (.cells #[.int .u8 (k.toNat : Int), .slice A l.length c] 108)) (k :: four (UInt32.ofNat l.length)) (by simp [four_length, maxLen])
  have hv : (b8s (k :: four (UInt32.ofNat l.length))).toArray = #[.int .u8 (k.toNat : Int), .int .u8 ((fourAt (UInt32.ofNat l.length) 0).toNat : Int), .int .u8 ((fourAt (UInt32.ofNat l.length) 1).toNat : Int), .int .u8 ((fourAt (UInt32.ofNat l.length) 2).toNat : Int), .int .u8 ((fourAt (UInt32.ofNat l.length) 3).toNat : Int)] := rfl
  rw [hv] at hby
  clear hv
  have g0 := u8_lt (fourAt (UInt32.ofNat l.length) 0)
  have g1 := u8_lt (fourAt (UInt32.ofNat l.length) 1)
  generalize fourAt (UInt32.ofNat l.length) 0 = b0 at *
  generalize fourAt (UInt32.ofNat l.length) 1 = b1 at *
  generalize fourAt (UInt32.ofNat l.length) 2 = b2 at *
  generalize fourAt (UInt32.ofNat l.length) 3 = b3 at *
  generalize k :: four (UInt32.ofNat l.length) = hd at *
  have hml : (markOf hd).length = 9 := by rw [markOf_length]; omega
  rw [hcl] at hby
  clear hx hg
  go_enter Try.func77, Try.ntmps77
  go_wp2_with fail
  have hby1 := hby.more (B' := (w.heap.size + 1 + 1)) (by simp)
  refine (mark_any _ _ hd (by simpa using hby1) (by rw [hcl]; decide)).mono ?_
  rintro e w1 ⟨v1, rfl, hown1, hb1⟩
  have hb01 := bstep (bstep (balloc w _) (balloc _ _)) hb1
  have hown01 : Ow w1 base (.slice A0 l0.length c0) l0 := ((hown.alloc _).alloc _).below_ hb1
  have hbox1 : w1.cell? ⟨w.heap.size, 1, none⟩ = some (.slice A l.length c) := by
    rw [hb1.cell (by simp; omega), World.cell?_alloc_lt _ _ _ (by simp)]
    rw [World.cell?_alloc_new]; rfl
  have hb1v : By w1 base (.slice A l.length c) l := hby0.below (hb01.mono hbase)
  have hs1 := hb01.size
  have hne0 : ∀ k, (Value.slice A0 l0.length c0).ownBlock = some k → base ≤ k ∧ k < w.heap.size := hown.blk
  have hlt1 : w.heap.size < w1.heap.size := by have := hb1.size; simp at this; omega
  have hstep : ∀ (w2 : World) (v2 : Value), Ext w1 w2 (.slice A0 l0.length c0) v2 → w2.cell? { block := w.heap.size, off := 1 } = some (.slice A l.length c) ∧ By w2 base (.slice A l.length c) l := by
    intro w2 v2 hext2
    refine ⟨?_, hb1v.below (hext2.below (Nat.le_trans hbase hs1) fun k hk => (hne0 k hk).1)⟩
    rw [hext2.gr.cell_far _ hlt1 (fun e => absurd (show w.heap.size < w.heap.size from (hne0 _ e.symm).2) (by omega))]
    exact hbox1
  have Hstep := Lib.hid hstep
  clear hstep
  clear hne0 hf0 h0 h1 h2' h3' g0 g1 hby hby1 hrd
  go_wp2_with (
               at_builtin
               refine wpList_app8 rfl (.tmp 13) (.tmp 28) rfl hown01 hown1.by_ rfl rfl (by omega) (Nat.le_trans hbase hs1) ?_
               intro v2 w2 hown2 hext2
               have hs2 := hext2.gr.size
               have hbox2 := (Hstep.out w2 v2 hext2).1)
  have hb2v := (Hstep.out w2 v2 hext2).2
  refine (mark_any _ _ l (hb2v.more (Nat.le_trans (Nat.le_trans hbase hs1) hs2)) (by omega)).mono ?_
  rintro e w3 ⟨v3, rfl, hown3, hb3⟩
  have hown23 := hown2.below_ hb3
  have hml2 : (markOf l).length = l.length + 4 := markOf_length _
  have hs3 := hb3.size
  have hx1 := hext2.after hb01 _ rfl
  have hx3 := hx1.then_ hb3
  have hal : (l0 ++ markOf hd).length = l0.length + 9 := by rw [List.length_append, hml]
  go_wp2_with (
               at_builtin
               refine wpList_app8 rfl (.tmp 30) (.tmp 33) rfl hown23 hown3.by_ rfl rfl (by omega) (Nat.le_trans hbase hx3.gr.size) ?_
               intro v4 w4 hown4 hext4)
  go_ret2
  refine ⟨_, rfl, ?_, hx3.trans hext4⟩
  rw [HF.out, ← List.append_assoc]
  exact hown4

/-- too long a body isn't put -/
theorem fput_long (w : World) (v0 : Value) (k : UInt8) (A : Option Addr) (n c : Nat) (hn : 1048576 < n) (hc1 : n ≤ c) (hc2 : c ≤ maxLen) :
    Calls Try.prog 77 #[v0, .agg #[.int .u8 (k.toNat : Int), .slice A n c]] w fun e w' => e = .returned (.tuple #[v0, .int .i64 4]) ∧ Below w.heap.size w w' := by
  unfold maxLen at hc2
  go_enter Try.func77, Try.ntmps77
  go_wp2_with fail
  go_ret2
  exact ⟨rfl, balloc _ _⟩

set_option maxRecDepth 100000 in
set_option maxHeartbeats 1600000 in
theorem fget_any (w : World) (v : Value) (l : List UInt8) (hby : By w w.heap.size v l) (hsz : l.length ≤ 1099511627776) :
    Calls Try.prog 58 #[v] w fun e w' => ∃ v', e = .returned (.tuple #[.agg #[.int .u8 ((sK l).toNat : Int), v'], .int .i64 ((sN l : Nat) : Int), .int .i64 (sE l)]) ∧ Ow w' w.heap.size v' (sL l) ∧ Below w.heap.size w w' := by
  have hby0 := hby
  obtain ⟨A, c, rfl, hc1, hc2, hrd⟩ := hby
  unfold maxLen at hc2
  by_cases h9 : l.length < 9
  · have hE : sE l = 2 := by simp [sE, h9]
    have hL : sL l = [] := by simp [sL, hE]
    have hN : sN l = 0 := by simp [sN, hE]
    have hK : sK l = 0 := by simp [sK, hE]
    rw [hE, hL, hN, hK]
    clear hE hL hN hK
    go_enter Try.func58, Try.ntmps58
    go_wp2_with fail
    refine bodyPost_ret (v := .tuple #[.agg #[.int .u8 0, .slice none 0 0], .int .i64 0, .int .i64 2]) (by simp [results, Try.results58, go_sem]) rfl ?_
    exact ⟨_, rfl, Ow.nil_ _ _, balloc _ _⟩
  · have hcut : By w w.heap.size (.slice A 9 c) (l.take 9) := hby0.front_ (by omega)
    have ht9 : (l.take 9).length = 9 := by simp; omega
    cases hf : fitsB (l.take 9) with
    | false =>
      have hE : sE l = 5 := by simp [sE, h9, hf]
      have hL : sL l = [] := by simp [sL, hE]
      have hN : sN l = 0 := by simp [sN, hE]
      have hK : sK l = 0 := by simp [sK, hE]
      have hE9 : fitsE (l.take 9) = 5 := by unfold fitsE; rw [hf, ht9]; rfl
      have hL9 : fitsL (l.take 9) = [] := by unfold fitsL; rw [hf]; rfl
      rw [hE, hL, hN, hK]
      clear hE hL hN hK hrd
      generalize l.take 9 = t9 at *
      go_enter Try.func58, Try.ntmps58
      go_wp2_with fail
      refine (fits_any _ _ t9 ((hcut.alloc (Nat.le_refl _) _).more (by simp)) (by omega)).mono ?_
      rw [hE9, hL9]
      rintro e w1 ⟨v1, rfl, hown1, hb1⟩
      have hb01 := bstep (balloc w _) hb1
      have hs1 : SecAt w1 w.heap.size (.int .u8 0) (.slice none 0 0) := (SecAt.new_ w _ _).below (by simp) hb1
      go_wp2_with (refine wpList_store_sec rfl (.tmp 2) _ rfl w.heap.size _ _ (.int .u8 0) (.slice none 0 0) rfl rfl hs1 rfl rfl ?_
                   intro hs2)
      refine bodyPost_ret (results_sec rfl _ _ _ _ _ rfl hs2) rfl ?_
      exact ⟨_, rfl, Ow.nil_ _ _, bsetRow hb01 (Nat.le_refl _) _⟩
    | true =>
      obtain ⟨ad, rfl, _, _⟩ := hrd.ad (by omega)
      have hL9 : fitsL (l.take 9) = l.take 5 := by unfold fitsL; rw [hf, ht9]; simp [List.take_take]
      have hE9 : fitsE (l.take 9) = 0 := by unfold fitsE; rw [hf, ht9]; rfl
      have hle : sLen l = (l.getD 1 0).toNat + 256 * (l.getD 2 0).toNat + 65536 * (l.getD 3 0).toNat + 16777216 * (l.getD 4 0).toNat := rfl
      have hlt := sLen_lt l
      have hE : sE l = if 1048576 < sLen l then 4 else if l.length < sLen l + 13 then 2 else if fitsB ((l.drop 9).take (sLen l + 4)) then 0 else 5 := by
        unfold sE; rw [if_neg h9, hf, if_neg (by simp)]
      have hN : sN l = if sE l = 0 then sLen l + 13 else 0 := rfl
      have hL : sL l = if sE l = 0 then (l.drop 9).take (sLen l) else [] := rfl
      have hK : sK l = if sE l = 0 then l.getD 0 0 else 0 := rfl
      have hlen5 : (l.take 5).length = 5 := by simp; omega
      have hg : ∀ i, i < 5 → (l.take 5)[i]? = some (l.getD i 0) := by
        intro i hi
        rw [List.getElem?_take, if_pos hi]
        exact getD_get l i (by omega)
      have hcut2 : ∀ k, k ≤ l.length - 9 → By w w.heap.size (.slice (if c = 9 then some ad else some { block := ad.block, off := ad.off + 9 }) k (c - 9)) ((l.drop 9).take k) := fun k hk =>
        (hby0.back_ (k := 9) (by omega)).front_ (by simp; omega)
      have HE := Lib.hid hE
      have HN := Lib.hid hN
      have HL := Lib.hid hL
      have HK := Lib.hid hK
      have Hg := Lib.hid hg
      have Hle := Lib.hid hle
      have Hcut2 := Lib.hid hcut2
      clear hE hN hL hK hg hle hcut2 hrd
      generalize sE l = E at *
      generalize sN l = N at *
      generalize sL l = L at *
      generalize sK l = K0 at *
      generalize l.take 9 = t9 at *
      generalize l.take 5 = t5 at *
      go_enter Try.func58, Try.ntmps58
      go_wp2_with fail
      refine (fits_any _ _ t9 ((hcut.alloc (Nat.le_refl _) _).more (by simp)) (by omega)).mono ?_
      rw [hE9, hL9]
      rintro e w1 ⟨v1, rfl, hown1, hb1⟩
      have hb01 := bstep (balloc w _) hb1
      have hs1 : SecAt w1 w.heap.size (.int .u8 0) (.slice none 0 0) := (SecAt.new_ w _ _).below (by simp) hb1
      obtain ⟨A1, c1, rfl, hd1, hd2, hf1⟩ := hown1.form_
      obtain ⟨g1, rfl, hg1, hg2⟩ := hf1 (by omega)
      have hx0 := hown1.cell_ rfl 0 _ (Hg.out 0 (by omega))
      have hx1 := hown1.cell_ rfl 1 _ (Hg.out 1 (by omega))
      have hx2 := hown1.cell_ rfl 2 _ (Hg.out 2 (by omega))
      have hx3 := hown1.cell_ rfl 3 _ (Hg.out 3 (by omega))
      have hx4 := hown1.cell_ rfl 4 _ (Hg.out 4 (by omega))
      rw [hlen5] at hd1 hown1
      unfold maxLen at hd2
      generalize l.getD 0 0 = x0 at *
      generalize l.getD 1 0 = x1 at *
      generalize l.getD 2 0 = x2 at *
      generalize l.getD 3 0 = x3 at *
      generalize l.getD 4 0 = x4 at *
      have hhead := head_or x1 x2 x3 x4
      rw [← Hle.out] at hhead
      have b1 := u8_lt x1
      have b2 := u8_lt x2
      have b3 := u8_lt x3
      have b4 := u8_lt x4
      rw [hlen5]
      go_wp2_with fail
      go_quiet (fail)
      clear hx1 hx2 hx3 hx4 hhead
      generalize sLen l = n at *
      have hs2 : SecAt (w1.drewN nq) w.heap.size (.int .u8 0) (.slice none 0 0) := hs1
      have hb2 : Below w.heap.size w (w1.drewN nq) := bdrewN hb01 nq
      have hx2 : (w1.drewN nq).cell? { block := g1, off := 0 } = some (.int .u8 (x0.toNat : Int)) := hx0
      have hown2 : Ow (w1.drewN nq) (w.heap.size + 1) (.slice (some ⟨g1, 0, none⟩) 5 c1) t5 := by simpa using (show Ow (w1.drewN nq) _ _ _ from hown1)
      clear hs1 hb01 hx0 hb1 hown1
      generalize w1.drewN nq = W at *
      by_cases hbig : 1048576 < n
      · have e1 : E = 4 := by rw [HE.out, if_pos hbig]
        have e2 : N = 0 := by rw [HN.out, e1]; rfl
        have e3 : L = [] := by rw [HL.out, e1]; rfl
        have e4 : K0 = 0 := by rw [HK.out, e1]; rfl
        subst e1
        subst e2
        subst e3
        subst e4
        clear HE HN HL HK Hcut2 Hle
        go_wp2_with (refine wpList_store_sec rfl (.tmp 2) _ rfl w.heap.size _ _ (.int .u8 0) (.slice none 0 0) rfl rfl hs2 rfl rfl ?_
                     intro hs3)
        refine bodyPost_ret (results_sec rfl _ _ _ _ _ rfl hs3) rfl ?_
        exact ⟨_, rfl, Ow.nil_ _ _, bsetRow hb2 (Nat.le_refl _) _⟩
      · by_cases hsh : l.length < n + 13
        · have e1 : E = 2 := by rw [HE.out, if_neg hbig, if_pos hsh]
          have e2 : N = 0 := by rw [HN.out, e1]; rfl
          have e3 : L = [] := by rw [HL.out, e1]; rfl
          have e4 : K0 = 0 := by rw [HK.out, e1]; rfl
          subst e1
          subst e2
          subst e3
          subst e4
          clear HE HN HL HK Hcut2 Hle
          go_wp2_with (refine wpList_store_sec rfl (.tmp 2) _ rfl w.heap.size _ _ (.int .u8 0) (.slice none 0 0) rfl rfl hs2 rfl rfl ?_
                       intro hs3)
          refine bodyPost_ret (results_sec rfl _ _ _ _ _ rfl hs3) rfl ?_
          exact ⟨_, rfl, Ow.nil_ _ _, bsetRow hb2 (Nat.le_refl _) _⟩
        · have hc3 := Hcut2.out (n + 4) (by omega)
          have hlen3 : ((l.drop 9).take (n + 4)).length = n + 4 := by simp; omega
          have htk : ((l.drop 9).take (n + 4)).take (((l.drop 9).take (n + 4)).length - 4) = (l.drop 9).take n := by
            rw [hlen3, List.take_take]; congr 1; omega
          have hc9 : ¬ c = 9 := by omega
          rw [if_neg hc9] at hc3
          have HtL : Hid (fitsL ((l.drop 9).take (n + 4)) = if fitsB ((l.drop 9).take (n + 4)) then (l.drop 9).take n else []) := by
            unfold Hid fitsL; rw [htk]
          have HtE : Hid (fitsE ((l.drop 9).take (n + 4)) = if fitsB ((l.drop 9).take (n + 4)) then 0 else 5) := by
            unfold Hid fitsE; rw [if_neg (by omega)]
          clear htk Hcut2
          rw [if_neg hbig, if_neg hsh] at HE
          generalize (l.drop 9).take (n + 4) = tn at *
          generalize (l.drop 9).take n = own at *
          go_wp2_with fail
          rw [show 9 + n - 5 = n + 4 from by omega]
          refine (fits_any _ _ tn (hc3.step hb2) (by omega)).mono ?_
          rw [HtE.out, HtL.out]
          cases hfb : fitsB tn with
          | false =>
            have e1 : E = 5 := by rw [HE.out, hfb]; rfl
            have e2 : N = 0 := by rw [HN.out, e1]; rfl
            have e3 : L = [] := by rw [HL.out, e1]; rfl
            have e4 : K0 = 0 := by rw [HK.out, e1]; rfl
            subst e1
            subst e2
            subst e3
            subst e4
            clear HE HN HL HK Hle HtE HtL
            rintro e w3 ⟨v3, rfl, hown3, hb3⟩
            have hb23 := bstep hb2 hb3
            have hs3 := hs2.below hs2.lt hb3
            go_wp2_with (refine wpList_store_sec rfl (.tmp 2) _ rfl w.heap.size _ _ (.int .u8 0) (.slice none 0 0) rfl rfl hs3 rfl rfl ?_
                         intro hs4)
            refine bodyPost_ret (results_sec rfl _ _ _ _ _ rfl hs4) rfl ?_
            exact ⟨_, rfl, Ow.nil_ _ _, bsetRow hb23 (Nat.le_refl _) _⟩
          | true =>
            have e1 : E = 0 := by rw [HE.out, hfb]; rfl
            have e2 : N = n + 13 := by rw [HN.out, e1]; rfl
            have e3 : L = own := by rw [HL.out, e1]; rfl
            have e4 : K0 = x0 := by rw [HK.out, e1]; rfl
            subst e1
            subst e2
            subst e3
            subst e4
            clear HE HN HL HK Hle HtE HtL
            rintro e w3 ⟨v3, rfl, hown3, hb3⟩
            have hb23 := bstep hb2 hb3
            have hs3 := hs2.below hs2.lt hb3
            have hx3 : w3.cell? { block := g1, off := 0 } = some (.int .u8 (K0.toNat : Int)) := (hb3.cell (hown2.blk g1 rfl).2).trans hx2
            rw [if_pos rfl] at hown3
            obtain ⟨A3, c3, rfl, hd31, hd32, hf3⟩ := hown3.form_
            have hgs := hs2.lt
            go_wp2_with (refine wpList_store_sec rfl (.tmp 2) _ rfl w.heap.size _ _ (.int .u8 (K0.toNat : Int)) (.slice A3 L.length c3) rfl rfl hs3 rfl rfl ?_
                         intro hs4)
            have hown4 := (hown3.setRow_ hgs #[.int .u8 (K0.toNat : Int), .slice A3 L.length c3]).mono (Nat.le_of_lt hgs)
            refine bodyPost_ret (results_sec rfl _ _ _ _ _ rfl hs4) rfl ?_
            refine ⟨_, ?_, hown4, bsetRow hb23 (Nat.le_refl _) _⟩
            simp; omega

end Go.Proofs.Ytpoicbhbkabllaa

namespace Go.Proofs.Ytpoicbhbkabllaa
set_option linter.unusedSimpArgs false
set_option linter.unusedVariables false
open Go.RowKit

def ObOAll (P : Program) (dl : List (Option Nat)) (Φ : List (Value → Prop)) (ds : List Nat) (a : Act) (s : Nat) (J : Bool → Value → World → Prop) : Nat → List Oper → List (Value → Prop) → Prop
  | _, [], _ => True
  | _, _ :: _, [] => False
  | i, o :: os, ph :: phs => ObO P dl Φ ds a s J i ph o ∧ ObOAll P dl Φ ds a s J (i + 1) os phs
theorem obOAll_get {P : Program} {dl : List (Option Nat)} {Φ : List (Value → Prop)} {ds : List Nat} {a : Act} {s : Nat} {J : Bool → Value → World → Prop} : ∀ (os : List Oper) (phs : List (Value → Prop)) (k : Nat), ObOAll P dl Φ ds a s J k os phs →
    ∀ (i : Nat) (o : Oper), os[i]? = some o → ObO P dl Φ ds a s J (k + i) (phs.getD i fun _ => True) o
  | [], _, _, _ => fun i o h => by simp at h
  | _ :: _, [], _, h => h.elim
  | x :: os, ph :: phs, k, h => fun i o ho => by
    cases i with
    | zero => obtain rfl : x = o := by simpa using ho
              exact h.1
    | succ i =>
      have := obOAll_get os phs (k + 1) h.2 i o (by simpa using ho)
      rw [show k + (i + 1) = k + 1 + i by omega]
      simpa using this
section
variable {P : Program} {dl : List (Option Nat)} {Φ : List (Value → Prop)} {ds : List Nat} {a : Act} {w : World} {s i : Nat} {J : Bool → Value → World → Prop} {ph : Value → Prop} {o : Oper}
theorem obO_yes (h : ∀ f b w', J b (valOf dl f s) w' → (i = s → b = false) → PreO dl Φ f o.after.toList → Gd dl f o.guard ∧ mildO P w' o.dst ph i s J ((execOp (evalF ds f a) o).run P w')) : ObO P dl Φ ds a s J i ph o := by
  intro f b w' h1 h2 h3
  have := h f b w' h1 h2 h3
  exact ⟨fun _ => this.2, fun hn => absurd this.1 hn⟩
theorem mildO_val {d : Option Nat} {q : Value → Prop} {r : Result Next} {w' : World} (u : Value) (hi : i ≠ s) (hr : r = .ok (.value u) w') (hq : q (dstVal d u)) : mildO P w' d q i s J r := by
  subst hr
  exact ⟨hi, rfl, hq⟩
theorem mildO_call {d : Option Nat} {q : Value → Prop} {w' : World} {ρ : Operand → Value} (f : Nat) (args : Array Operand) (ts : Array TypeId) (fn : Func) (hi : i = s) (hf : P.funcs[f]? = some fn) (hn : (fn.name == "runtime.NumGoroutine") = false) (hb : fn.body.isNone = false)
    {t : TypeId} {pos : String} {af : Array Edge} {g : Option (Nat × Bool)} (hρ : ρ (.func f) = .func (.func f) #[] #[])
    (h : Calls P f (args.map ρ) w' (fun e w3 => ∃ v, e = .returned v ∧ J true (dstVal d v) w3 ∧ q (dstVal d v))) :
    mildO P w' d q i s J ((execOp ρ { dst := d, op := .call { callee := .value (.func f), args := args, argTypes := ts }, type := t, pos := pos, after := af, guard := g }).run P w') := by
  have hr : (execOp ρ { dst := d, op := .call { callee := .value (.func f), args := args, argTypes := ts }, type := t, pos := pos, after := af, guard := g }).run P w' = .ok (.enter f (args.map ρ)) w' := by
    simp [execOp, resolve, hρ, Deferred.ofValue, invoke, callFunc, hf]
    rw [if_neg (by simpa using hn), if_neg (by intro h; simp [h] at hb)]
  rw [hr]
  exact ⟨hi, h⟩
end
theorem wp_region_oneL {P : Program} {a : Act} {w : World} {Q : Exit → Act → World → Prop} {id : Nat} {L : List Oper} {ds : List Nat} (n s : Nat) (J : Bool → Value → World → Prop) (dl : List (Option Nat)) (Φ : List (Value → Prop)) (hsn : s < (L.take n).length) (hdl : (L.take n).map (·.dst) = dl) (hds : dstsOf_ (L.take n) = ds) (hm : P.follows .mixedOrders = true)
    (hn : typedB (L.take n) a.tmps.size = true) (ht : tailB (L.take n) (L.drop n) = true) (hob : ObOAll P dl Φ ds a s J 0 (L.take n) Φ) (h0 : ∀ v, J false v w.drew)
    (hQ : ∀ f w', J true (valOf dl f s) w' → PostO f dl Φ → wpList P L.toArray Q (L.drop n) (fills ds f a) w') : (Code.region id L.toArray true).wp P Q a w :=
  wp_region_one n s J dl Φ hsn hdl hds hm hn ht (fun i o ho => by simpa using obOAll_get _ _ 0 hob i o ho) h0 hQ
end Go.Proofs.Ytpoicbhbkabllaa

namespace Go.Proofs.Ytpoicbhbkabllaa
set_option linter.unusedSimpArgs false
set_option linter.unusedVariables false
open Go.RowKit Go.Maps

theorem obO_no {P : Program} {dl : List (Option Nat)} {Φ : List (Value → Prop)} {ds : List Nat} {a : Act} {s i : Nat} {J : Bool → Value → World → Prop} {ph : Value → Prop} {o : Oper}
    (h : ∀ f, PreO dl Φ f o.after.toList → ¬ Gd dl f o.guard ∧ ph undef) (hi : i ≠ s) : ObO P dl Φ ds a s J i ph o :=
  fun f b w' _ _ h3 => ⟨fun hg => absurd hg (h f h3).1, fun _ => ⟨(h f h3).2, hi⟩⟩
theorem Bt.pre_drew {m1 m2 : Nat} {a b : World} (h : Bt m1 m2 a.drew b) : Bt m1 m2 a b := ⟨h.os, h.tape, h.output, h.size, h.block⟩
theorem cell_of_block {w w' : World} {p : Addr} (h : w'.heap[p.block]? = w.heap[p.block]?) : w'.cell? p = w.cell? p := by unfold World.cell?; rw [h]
def idsOf (l : List MFile) : List Int := l.map fun f => (f.id.toNat : Int)
def blksOf (l : List MFile) : List Int := l.flatMap (·.blocks)
def nblk (l : List MFile) : Nat := (l.map fun f => f.blocks.length).sum
theorem beside_all (f : MFile) : ∀ prev : List MFile, prev.all (fun p => besideF p f) = (!(decide ((f.id.toNat : Int) ∈ idsOf prev)) && prev.all fun p => bless p.name f.name)
  | [] => by simp [idsOf]
  | p :: t => by
    have hi : (p.id = f.id) ↔ ((f.id.toNat : Int) = (p.id.toNat : Int)) := by
      rw [← UInt32.toNat_inj]
      omega
    rw [List.all_cons, List.all_cons, beside_all f t]
    unfold besideF idsOf
    simp only [List.map_cons, List.mem_cons]
    by_cases h1 : p.id = f.id
    · have := hi.1 h1
      simp [h1]
    · have h2 : ¬ ((f.id.toNat : Int) = (p.id.toNat : Int)) := fun e => h1 (hi.2 e)
      simp only [h1, h2, decide_false, Bool.false_or, false_or, Bool.not_not]
      cases bless p.name f.name <;> simp
theorem notin_all (x : Int) : ∀ prev : List MFile, prev.all (fun p => !decide (x ∈ p.blocks)) = !decide (x ∈ blksOf prev)
  | [] => by simp [blksOf]
  | p :: t => by
    rw [List.all_cons, notin_all x t]
    have e : blksOf (p :: t) = p.blocks ++ blksOf t := rfl
    rw [e]
    simp only [List.mem_append]
    by_cases h1 : x ∈ p.blocks <;> simp [h1]
theorem blkC_same (prev : List MFile) (l : List Int) (a : Nat) : blockOk prev l a = blkC (blksOf prev) l a := by
  unfold blockOk blkC
  rw [notin_all]
  generalize l.getD a 0 = x
  simp only [List.mem_append]
  by_cases h1 : x ∈ l.take a <;> by_cases h2 : x ∈ blksOf prev <;> by_cases h3 : x < 32 <;> by_cases h4 : 65536 ≤ x <;> simp [h1, h2, h3, h4]
theorem blksC_same (prev : List MFile) (l : List Int) (n : Nat) : blocksOk prev l n = blksC (blksOf prev) l n := by
  unfold blocksOk blksC
  congr 1
  funext a
  exact blkC_same prev l a
theorem filesR_rise (m : MMan) (k : Nat) (hk : k ≤ m.files.length) (h : filesR m k = true) (a b : Nat) (hb : b < k) (hab : a < b) : bless (m.files[a]'(by omega)).name (m.files[b]'(by omega)).name = true := by
  have := filesR_at m k b h hb hk
  unfold fileR at this
  rw [beside_all] at this
  simp only [Bool.and_eq_true, List.all_eq_true] at this
  refine this.1.2.2 _ ?_
  rw [List.mem_take_iff_getElem]
  exact ⟨a, by omega, rfl⟩
/-- one file's turn, as the code tells it -/
theorem round_eq (m : MMan) (k : Nat) (hk : k < m.files.length) (h : filesR m k = true) : fileR m.next (m.files.take k) m.files[k] =
    ((decide (k = 0) || bless (m.files[k - 1]'(by omega)).name m.files[k].name) && rightC m.next (idsOf (m.files.take k)) (blksOf (m.files.take k)) m.files[k]) := by
  have hall : (m.files.take k).all (fun p => bless p.name m.files[k].name) = (decide (k = 0) || bless (m.files[k - 1]'(by omega)).name m.files[k].name) := by
    by_cases h0 : k = 0
    · subst h0
      simp
    · simp only [h0, decide_false, Bool.false_or]
      cases hb : bless (m.files[k - 1]'(by omega)).name m.files[k].name with
      | true =>
        rw [List.all_eq_true]
        intro p hp
        obtain ⟨a, ha, rfl⟩ := List.mem_take_iff_getElem.1 hp
        have ha' : a < k := by omega
        rcases Nat.lt_or_ge a (k - 1) with hl | hl
        · exact bless_trans _ _ _ (filesR_rise m k (by omega) h a (k - 1) (by omega) hl) hb
        · obtain rfl : a = k - 1 := by omega
          exact hb
      | false =>
        rw [List.all_eq_false]
        refine ⟨m.files[k - 1]'(by omega), ?_, by simp [hb]⟩
        rw [List.mem_take_iff_getElem]
        exact ⟨k - 1, by omega, rfl⟩
  unfold fileR rightC
  rw [beside_all, hall, blksC_same]
  generalize basicF m.next m.files[k] = q1
  generalize decide ((m.files[k].id.toNat : Int) ∈ idsOf (m.files.take k)) = q2
  generalize (decide (k = 0) || bless (m.files[k - 1]'(by omega)).name m.files[k].name) = q3
  generalize blksC (blksOf (m.files.take k)) m.files[k].blocks m.files[k].blocks.length = q4
  cases q1 <;> cases q2 <;> cases q3 <;> cases q4 <;> rfl
theorem vput_pos (n : Nat) (h : n < 18446744073709551616) : 1 ≤ (vput n).length := (vput_len64 n h).1
theorem nums_ge (l : List Int) : l.length ≤ (nums l).length := by
  induction l with
  | nil => simp [nums]
  | cons x l ih =>
    have e : nums (x :: l) = vput (u64Of x) ++ nums l := rfl
    have := vput_pos (u64Of x) (u64Of_lt x)
    rw [e, List.length_append, List.length_cons]
    omega
theorem nblk_le : ∀ l : List MFile, nblk l ≤ (l.flatMap bodyF).length
  | [] => by simp [nblk]
  | f :: t => by
    have e : nblk (f :: t) = f.blocks.length + nblk t := by simp [nblk]
    rw [e, List.flatMap_cons, List.length_append, bodyF_len]
    have := nblk_le t
    have := nums_ge f.blocks
    omega
theorem len_le : ∀ l : List MFile, l.length ≤ (l.flatMap bodyF).length
  | [] => by simp
  | f :: t => by
    rw [List.flatMap_cons, List.length_append, bodyF_len, List.length_cons]
    have := len_le t
    have := vput_pos f.id.toNat (by have := u32_lt f.id; omega)
    omega
theorem nblk_take (l : List MFile) (k : Nat) (hk : k < l.length) : nblk (l.take (k + 1)) = nblk (l.take k) + l[k].blocks.length := by
  unfold nblk
  rw [List.take_add_one, List.getElem?_eq_getElem hk, Option.toList_some, List.map_append, List.sum_append]
  simp
theorem nblk_take_le (l : List MFile) (k : Nat) (hk : k < l.length) : nblk (l.take k) + l[k].blocks.length ≤ (l.flatMap bodyF).length := by
  rw [← nblk_take l k hk]
  refine Nat.le_trans (nblk_le _) ?_
  have e : l.flatMap bodyF = (l.take (k + 1)).flatMap bodyF ++ (l.drop (k + 1)).flatMap bodyF := by rw [← List.flatMap_append, List.take_append_drop]
  rw [e, List.length_append]
  omega
theorem ids_take (l : List MFile) (k : Nat) (hk : k < l.length) (x : Int) : x ∈ (l[k].id.toNat : Int) :: idsOf (l.take k) ↔ x ∈ idsOf (l.take (k + 1)) := by
  unfold idsOf
  rw [List.take_add_one, List.getElem?_eq_getElem hk, Option.toList_some, List.map_append, List.mem_append, List.mem_cons]
  simp only [List.map_cons, List.map_nil, List.mem_singleton]
  exact Or.comm
theorem blks_take (l : List MFile) (k : Nat) (hk : k < l.length) (x : Int) : x ∈ l[k].blocks ++ blksOf (l.take k) ↔ x ∈ blksOf (l.take (k + 1)) := by
  unfold blksOf
  rw [List.take_add_one, List.getElem?_eq_getElem hk, Option.toList_some, List.flatMap_append, List.mem_append, List.mem_append, List.flatMap_cons, List.flatMap_nil, List.append_nil]
  exact Or.comm

set_option maxRecDepth 100000 in
set_option maxHeartbeats 6400000 in
theorem may_any (w : World) (v : Value) (m : MMan) (h : MAt w w.heap.size v m) (hsz : (bodyM m).length ≤ 274877906944) :
    Calls Try.prog 54 #[v] w fun e w' => e = .returned (.bool (mayM m)) ∧ Below w.heap.size w w' := by
  obtain ⟨vf, rfl, hf⟩ := h
  obtain ⟨A, c, rfl, hc1, hc2⟩ := hf.form
  unfold maxLen at hc2
  have hfb : (m.files.flatMap bodyF).length ≤ 274877906944 := by have := bodyM_len m; omega
  have hnf : m.files.length ≤ 274877906944 := Nat.le_trans (len_le m.files) hfb
  have hnx := u32_lt m.next
  obtain ⟨w0, hw0⟩ : ∃ w0, w0 = w.alloc (.cells (encM m (.slice A m.files.length c)).toArray 56) := ⟨_, rfl⟩
  have hb0 : Below w.heap.size w w0 := by rw [hw0]; exact balloc w _
  have hx0 : BoxAt 56 w0 w.heap.size (encM m (.slice A m.files.length c)) := by rw [hw0]; exact BoxAt.new_ _ _ _
  have hz0 : w0.heap.size = w.heap.size + 1 := by rw [hw0]; simp
  obtain ⟨w1, hw1⟩ : ∃ w1, w1 = (w0.alloc (.map #[] 0)).alloc (.map #[] 0) := ⟨_, rfl⟩
  have hb01 : Below w0.heap.size w0 w1 := by rw [hw1]; exact bstep (balloc w0 _) (balloc _ _)
  have hz1 : w1.heap.size = w.heap.size + 1 + 1 + 1 := by rw [hw1]; simp [hz0]
  have hS1 : MSet 53 .u32 w1 (w.heap.size + 1) 0 [] := by rw [hw1, ← hz0]; exact (MSet.new_ _ _ w0).blw (balloc _ _)
  have hS2 : MSet 3 .i64 w1 (w.heap.size + 1 + 1) 0 [] := by
    have := MSet.new_ 3 .i64 (w0.alloc (.map #[] 0))
    rw [World.size_alloc, hz0] at this
    rw [hw1]
    exact this
  have hmm := @run_makeMap Try.prog
  have hx1 := hx0.blwM hb01
  have hb1 := bstep hb0 hb01
  have Hw0 := Lib.hid hw0
  have Hw1 := Lib.hid hw1
  have X1 := Lib.hid hx1
  have Hb1 := Lib.hid hb1
  have Hf := Lib.hid hf
  have hc2x := hx1.cell 2 _ rfl
  clear hw0 hw1 hx0 hx1 hb0 hb01 hb1 hf
  go_enter Try.func54, Try.ntmps54
  go_upto_region 1 with (fail)
  rw [← Hw0.out]
  go_upto_region 2 with (fail)
  rw [← Hw1.out]
  try simp only [hz0, World.size_alloc]
  go_wp2_with fail
  go_loopw [14] (fun iv wr => ∃ k : Nat, k ≤ m.files.length ∧ iv = .int .i64 k ∧ filesR m k = true ∧ Bt (w.heap.size + 1) (w.heap.size + 1 + 1) w1 wr ∧
    MSet 53 .u32 wr (w.heap.size + 1) k (idsOf (m.files.take k)) ∧ MSet 3 .i64 wr (w.heap.size + 1 + 1) (nblk (m.files.take k)) (blksOf (m.files.take k))) (fun i _ => m.files.length - (intOf i).toNat)
  case atStart => exact ⟨0, by omega, rfl, rfl, Bt.of (Below.refl _ _), hS1, hS2⟩
  case round =>
    obtain ⟨k, hk, rfl, hfr, hbr, hr1, hr2⟩ := hrel
    have Hbr := Lib.hid hbr
    have hsz := hbr.size
    have Hfr := Lib.hid hfr
    have Xm := Lib.hid (hbr.box X1.out (by omega) (by omega))
    have Hwr := Lib.hid (Hb1.out.trans (hbr.low (B := w.heap.size) (by omega) (by omega) (by omega)))
    clear hbr hc2x hfr hS1 hS2 Hw0 Hw1 hmm
    by_cases hlt : k < m.files.length
    · have hs := filesR_succ m k hlt
      rw [Hfr.out, Bool.true_and, round_eq m k hlt Hfr.out] at hs
      have hfa := fun h => filesR_false m (k + 1) h m.files.length (by omega)
      have hmf : filesR m (k + 1) = false → mayM m = false := fun h => by unfold mayM; rw [hfa h]; rfl
      obtain ⟨_, ad, vb, rfl, hab, hbI, hfo, hcl⟩ := (Hf.out.below Hwr.out).cells k hlt
      obtain ⟨Ab, cb, rfl, hcb1, hcb2⟩ := hbI.form
      have hids := ids_take m.files k hlt
      have hblk := blks_take m.files k hlt
      have hnb := nblk_take_le m.files k hlt
      have hnt := nblk_take m.files k hlt
      have hpv : ∀ p, k = p + 1 → ∃ pv : MFile, m.files[k - 1]'(by omega) = pv ∧ wr.cell? (ad.add (p * 4)) = some (.string (bst pv.name)) := fun p hp => by
        obtain ⟨_, ad', vb', e, _, _, _, hcl'⟩ := (Hf.out.below Hwr.out).cells p (by omega)
        injection e with e
        subst e
        have e3 : m.files[k - 1]'(by omega) = m.files[p]'(by omega) := by congr 1; omega
        refine ⟨_, e3, ?_⟩
        have := hcl' 0 _ rfl
        rw [Addr.add, if_pos rfl] at this
        exact this
      have hkl : ∀ p, k = p + 1 → p < m.files.length := fun p hp => by omega
      generalize hfk : m.files[k] = fl at *
      have hid := u32_lt fl.id
      have Hids := Lib.hid hids
      have Hblk := Lib.hid hblk
      have Hnt := Lib.hid hnt
      have Hcl := Lib.hid hcl
      have Hs := Lib.hid hs
      have Hmf := Lib.hid hmf
      have Hpv := Lib.hid hpv
      have R1 := Lib.hid hr1
      have R2 := Lib.hid hr2
      have HbI := Lib.hid hbI
      obtain ⟨w5, hw5⟩ : ∃ w5, w5 = wr.alloc (.cells (encF fl (.slice Ab fl.blocks.length cb)).toArray 62) := ⟨_, rfl⟩
      obtain ⟨g, hg⟩ : ∃ g, g = wr.heap.size := ⟨_, rfl⟩
      have hb5 : Below wr.heap.size wr w5 := by rw [hw5]; exact balloc wr _
      have hx5 : BoxAt 62 w5 g (encF fl (.slice Ab fl.blocks.length cb)) := by rw [hw5, hg]; exact BoxAt.new_ _ _ _
      have hz5 : w5.heap.size = g + 1 := by rw [hw5, hg]; simp
      have Hx5 := Lib.hid (And.intro hx5 (Xm.out.blwM hb5))
      have Hb5 := Lib.hid (Hbr.out.step hb5)
      have Hb5w := Lib.hid hb5
      have Hlow := Lib.hid (Hwr.out.trans (hb5.mono (show w.heap.size ≤ wr.heap.size by omega)))
      obtain ⟨r, hr⟩ : ∃ r, r = rightC m.next (idsOf (m.files.take k)) (blksOf (m.files.take k)) fl := ⟨_, rfl⟩
      obtain ⟨Post5, hP5⟩ : ∃ Q : World → Prop, Q = fun W' => (r = true → MSet 53 .u32 W' (w.heap.size + 1) (k + 1) ((fl.id.toNat : Int) :: idsOf (m.files.take k)) ∧ MSet 3 .i64 W' (w.heap.size + 1 + 1) (nblk (m.files.take k) + fl.blocks.length) (fl.blocks ++ blksOf (m.files.take k))) := ⟨_, rfl⟩
      have hcall := right_any w5.drew w.heap.size (show w.heap.size ≤ w5.heap.size by omega) fl (.slice Ab fl.blocks.length cb) m.next (w.heap.size + 1) (w.heap.size + 1 + 1) k (nblk (m.files.take k)) (idsOf (m.files.take k)) (blksOf (m.files.take k))
        ((hbI.below (hb5.mono (by omega))).below (Below.refl _ _).drew) hfo ((R1.out.blw hb5).blw (Below.refl _ _).drew) ((R2.out.blw hb5).blw (Below.refl _ _).drew) (by omega) (by omega) (by omega) (by omega) (by omega)
      rw [← hr] at hcall
      have hcall2 : Calls Try.prog 79 #[.agg (encF fl (.slice Ab fl.blocks.length cb)).toArray, .int .u32 (m.next.toNat : Int), .map (some (w.heap.size + 1)), .map (some (w.heap.size + 1 + 1))] w5.drew fun e w' =>
          e = .returned (.bool r) ∧ Bt (w.heap.size + 1) (w.heap.size + 1 + 1) w5.drew w' ∧ Post5 w' := hcall.mono (by rintro e w' ⟨h1, h2, h3⟩; rw [hP5]; exact ⟨h1, h3, h2⟩)
      have Hcall := Lib.hid hcall2
      have Hr := Lib.hid hr
      have HP5 := Lib.hid hP5
      rw [← hr] at Hs
      have Hw5 := Lib.hid hw5
      have Hg := Lib.hid hg
      clear hids hblk hnt hcl hs hmf hfa hpv hr1 hr2 hbI hx5 hb5 hw5 hcall hcall2 hr hP5 hfk
      go_upto_region 5 with (first
        | (refine wpList_load_agg rfl 62 (.tmp 17) rfl (ad.add (k * 4)) rfl (encF fl (.slice Ab fl.blocks.length cb)) Hcl.out Try.underlying62 rfl info_file4 ?_)
        | (refine wpList_alloc_z rfl 62 rfl info_file zeroFc zeroF_cells ?_)
        | (refine wpList_store_new rfl 62 (.tmp 6) (.tmp 18) rfl zeroFc (encF fl (.slice Ab fl.blocks.length cb)) rfl rfl info_file4 rfl (encF_one _ _ rfl) ?_))
      simp only [Act.put, List.setIfInBounds_toArray, List.set_cons_zero, List.set_cons_succ]
      rw [← Hw5.out]
      rw [← Hg.out]
      clear Hcl Hw5
      have hgl : g < w5.heap.size := by omega
      have hgg : w.heap.size + 1 + 1 < g := by have := Hg.out; omega
      by_cases h0 : k = 0
      · have H0 := Lib.hid h0
        have hs2 : filesR m (k + 1) = r := by rw [Hs.out]; simp [h0]
        have Hs2 := Lib.hid hs2
        clear hs2 h0
        refine wp_region_oneL (ds := [19, 20, 21, 22, 23, 24, 25, 26, 27, 28, 29, 30, 31, 32, 33, 34, 35, 36, 37, 38, 39, 40, 41]) 23 20 (fun b v W' => BoxAt 62 W' g (encF fl (.slice Ab fl.blocks.length cb)) ∧ BoxAt 56 W' w.heap.size (encM m (.slice (some ad) m.files.length c)) ∧ Bt (w.heap.size + 1) (w.heap.size + 1 + 1) w5 W' ∧ (b = false → W' = w5.drew) ∧ (b = true → Post5 W')) [some 19, some 20, some 21, some 22, some 23, some 24, some 25, some 26, some 27, some 28, some 29, some 30, some 31, some 32, some 33, some 34, some 35, some 36, some 37, some 38, some 39, some 40, some 41]
          [fun v => v = .int .i64 (k : Int), fun v => v = .bool false, fun v => v = .bool false, fun v => v = undef, fun v => v = undef, fun v => v = undef, fun v => v = undef, fun v => v = undef, fun v => v = undef, fun v => v = undef, fun v => v = undef, fun v => v = undef, fun v => v = undef, fun v => v = .bool false, fun v => v = .bool false, fun v => v = .agg (encF fl (.slice Ab fl.blocks.length cb)).toArray, fun v => v = .pointer (some ⟨w.heap.size, 1, none⟩), fun v => v = .int .u32 (m.next.toNat : Int), fun v => v = .map (some (w.heap.size + 1)), fun v => v = .map (some (w.heap.size + 1 + 1)), fun v => v = .bool r, fun v => v = .bool (!r), fun v => v = .bool (!r)]
          (by decide) rfl rfl rfl (by kernel_rfl) (by kernel_rfl) ?_ (fun _ => ⟨Hx5.out.1, Hx5.out.2, Bt.of (Below.refl _ _).drew, fun _ => rfl, fun h => by cases h⟩) ?_
        · refine ⟨?_, ?_, ?_, ?_, ?_, ?_, ?_, ?_, ?_, ?_, ?_, ?_, ?_, ?_, ?_, ?_, ?_, ?_, ?_, ?_, ?_, ?_, ?_, trivial⟩
          · -- 0: slot 19 := Op.move t5
            refine obO_yes fun f b w' hj hs hp => ?_
            simp [PreO, factO, valOf, Region.binds] at hp
            refine ⟨by simp [Gd, valOf, hp], ?_⟩
            refine mildO_val (.int .i64 (k : Int)) (by decide) ?_ rfl
            simp [execOp, evalF, hp, go_sem]
          · -- 1: slot 20 := Op.binOp BinOp.gtr 3 t19 (const (0:i64)) 3
            refine obO_yes fun f b w' hj hs hp => ?_
            simp [PreO, factO, valOf, Region.binds] at hp
            refine ⟨by simp [Gd, valOf, hp], ?_⟩
            refine mildO_val (.bool false) (by decide) ?_ rfl
            simp [execOp, evalF, hp, go_sem]
            first | done | exact H0.out
          · -- 2: slot 21 := Op.move t20
            refine obO_yes fun f b w' hj hs hp => ?_
            simp [PreO, factO, valOf, Region.binds] at hp
            refine ⟨by simp [Gd, valOf, hp], ?_⟩
            refine mildO_val (.bool false) (by decide) ?_ rfl
            simp [execOp, evalF, hp, go_sem]
          · -- 3: slot 22 := Op.fieldAddr 62 t6 0
            exact obO_no (fun f hp => ⟨by simp [PreO, factO, valOf, Region.binds] at hp; simp [Gd, valOf, hp], rfl⟩) (by decide)
          · -- 4: slot 23 := Op.load 9 t22
            exact obO_no (fun f hp => ⟨by simp [PreO, factO, valOf, Region.binds] at hp; simp [Gd, valOf, hp], rfl⟩) (by decide)
          · -- 5: slot 24 := Op.fieldAddr 56 t1 2
            exact obO_no (fun f hp => ⟨by simp [PreO, factO, valOf, Region.binds] at hp; simp [Gd, valOf, hp], rfl⟩) (by decide)
          · -- 6: slot 25 := Op.load 54 t24
            exact obO_no (fun f hp => ⟨by simp [PreO, factO, valOf, Region.binds] at hp; simp [Gd, valOf, hp], rfl⟩) (by decide)
          · -- 7: slot 26 := Op.move t5
            exact obO_no (fun f hp => ⟨by simp [PreO, factO, valOf, Region.binds] at hp; simp [Gd, valOf, hp], rfl⟩) (by decide)
          · -- 8: slot 27 := Op.binOp BinOp.sub 3 t26 (const (1:i64)) 3
            exact obO_no (fun f hp => ⟨by simp [PreO, factO, valOf, Region.binds] at hp; simp [Gd, valOf, hp], rfl⟩) (by decide)
          · -- 9: slot 28 := Op.indexAddr 54 t25 t27
            exact obO_no (fun f hp => ⟨by simp [PreO, factO, valOf, Region.binds] at hp; simp [Gd, valOf, hp], rfl⟩) (by decide)
          · -- 10: slot 29 := Op.fieldAddr 62 t28 0
            exact obO_no (fun f hp => ⟨by simp [PreO, factO, valOf, Region.binds] at hp; simp [Gd, valOf, hp], rfl⟩) (by decide)
          · -- 11: slot 30 := Op.load 9 t29
            exact obO_no (fun f hp => ⟨by simp [PreO, factO, valOf, Region.binds] at hp; simp [Gd, valOf, hp], rfl⟩) (by decide)
          · -- 12: slot 31 := Op.binOp BinOp.leq 9 t23 t30 9
            exact obO_no (fun f hp => ⟨by simp [PreO, factO, valOf, Region.binds] at hp; simp [Gd, valOf, hp], rfl⟩) (by decide)
          · -- 13: slot 32 := Op.pick t21 t31 (const (Value.bool false))
            refine obO_yes fun f b w' hj hs hp => ?_
            simp [PreO, factO, valOf, Region.binds] at hp
            refine ⟨by simp [Gd, valOf, hp], ?_⟩
            refine mildO_val (.bool false) (by decide) ?_ rfl
            simp [execOp, evalF, hp, go_sem]
          · -- 14: slot 33 := Op.move t32
            refine obO_yes fun f b w' hj hs hp => ?_
            simp [PreO, factO, valOf, Region.binds] at hp
            refine ⟨by simp [Gd, valOf, hp], ?_⟩
            refine mildO_val (.bool false) (by decide) ?_ rfl
            simp [execOp, evalF, hp, go_sem]
          · -- 15: slot 34 := Op.load 62 t6
            refine obO_yes fun f b w' hj hs hp => ?_
            simp [PreO, factO, valOf, Region.binds] at hp
            refine ⟨by simp [Gd, valOf, hp], ?_⟩
            have hr := run_loadVar_cells w' ⟨g, 0, none⟩ 62 (encF fl (.slice Ab fl.blocks.length cb)) hj.1.cells Try.underlying62 rfl info_file4
            refine mildO_val (.agg (encF fl (.slice Ab fl.blocks.length cb)).toArray) (by decide) ?_ rfl
            simp [execOp, evalF, hp, Instr.loadAt, Instr.sureAddr, hr]
          · -- 16: slot 35 := Op.fieldAddr 56 t1 1
            refine obO_yes fun f b w' hj hs hp => ?_
            simp [PreO, factO, valOf, Region.binds] at hp
            refine ⟨by simp [Gd, valOf, hp], ?_⟩
            refine mildO_val (.pointer (some ⟨w.heap.size, 1, none⟩)) (by decide) ?_ rfl
            simp [execOp, evalF, hp, go_sem]
          · -- 17: slot 36 := Op.load 53 t35
            refine obO_yes fun f b w' hj hs hp => ?_
            simp [PreO, factO, valOf, Region.binds] at hp
            refine ⟨by simp [Gd, valOf, hp], ?_⟩
            have hc := hj.2.1.cell 1 _ rfl
            refine mildO_val (.int .u32 (m.next.toNat : Int)) (by decide) ?_ rfl
            simp [execOp, evalF, hp, hc, go_sem]
          · -- 18: slot 37 := Op.move t3
            refine obO_yes fun f b w' hj hs hp => ?_
            simp [PreO, factO, valOf, Region.binds] at hp
            refine ⟨by simp [Gd, valOf, hp], ?_⟩
            refine mildO_val (.map (some (w.heap.size + 1))) (by decide) ?_ rfl
            simp [execOp, evalF, hp, go_sem]
          · -- 19: slot 38 := Op.move t4
            refine obO_yes fun f b w' hj hs hp => ?_
            simp [PreO, factO, valOf, Region.binds] at hp
            refine ⟨by simp [Gd, valOf, hp], ?_⟩
            refine mildO_val (.map (some (w.heap.size + 1 + 1))) (by decide) ?_ rfl
            simp [execOp, evalF, hp, go_sem]
          · -- 20: slot 39 := Op.call   value (Operand.func 79), args := #[t34, t36, t37, t38], argTypes := #[62, 53, 135, 136]  
            refine obO_yes fun f b w' hj hs hp => ?_
            simp [PreO, factO, valOf, Region.binds] at hp
            refine ⟨by simp [Gd, valOf, hp], ?_⟩
            have hb := hs rfl
            have hw' := hj.2.2.2.1 hb
            subst hw'
            refine mildO_call 79 _ _ Try.f79 rfl Try.func79 (by kernel_rfl) (by kernel_rfl) rfl ?_
            refine calls_args (args' := #[.agg (encF fl (.slice Ab fl.blocks.length cb)).toArray, .int .u32 (m.next.toNat : Int), .map (some (w.heap.size + 1)), .map (some (w.heap.size + 1 + 1))]) (by simp [evalF, hp]) ?_
            refine Hcall.out.mono ?_
            rintro _ w9 ⟨rfl, hb9, hp9⟩
            exact ⟨_, rfl, ⟨hb9.box hj.1 (by omega) (by omega), hb9.box hj.2.1 (by omega) (by omega), hb9.pre_drew, fun h => (by cases h), fun _ => hp9⟩, rfl⟩
          · -- 21: slot 40 := Op.unOp UnOp.not 4 t39
            refine obO_yes fun f b w' hj hs hp => ?_
            simp [PreO, factO, valOf, Region.binds] at hp
            refine ⟨by simp [Gd, valOf, hp], ?_⟩
            refine mildO_val (.bool (!r)) (by decide) ?_ rfl
            simp [execOp, evalF, hp, go_sem]
          · -- 22: slot 41 := Op.pick t33 (const (Value.bool true)) t40
            refine obO_yes fun f b w' hj hs hp => ?_
            simp [PreO, factO, valOf, Region.binds] at hp
            refine ⟨by simp [Gd, valOf, hp], ?_⟩
            refine mildO_val (.bool (!r)) (by decide) ?_ rfl
            simp [execOp, evalF, hp, go_sem]
        · intro f wd hj hp
          simp only [PostO] at hp
          obtain ⟨e0, e1, e2, e3, e4, e5, e6, e7, e8, e9, e10, e11, e12, e13, e14, e15, e16, e17, e18, e19, e20, e21, e22, _⟩ := hp
          simp only [fills, List.foldl_cons, List.foldl_nil, Act.put, List.setIfInBounds_toArray, List.set_cons_zero, List.set_cons_succ, e0, e1, e2, e3, e4, e5, e6, e7, e8, e9, e10, e11, e12, e13, e14, e15, e16, e17, e18, e19, e20, e21, e22]
          clear e0 e1 e2 e3 e4 e5 e6 e7 e8 e9 e10 e11 e12 e13 e14 e15 e16 e17 e18 e19 e20 e21 e22
          simp only [List.drop_succ_cons, List.drop_zero]
          obtain ⟨hjx, hjm, hjb, _, hjp⟩ := hj
          have hP := hjp rfl
          rw [HP5.out] at hP
          have Hj := Lib.hid (Hb5.out.trans hjb)
          have HP := Lib.hid hP
          clear hjx hjm hjb hjp hP
          cases hrr : r with
          | true =>
            have hP2 := HP.out hrr
            rw [hrr] at Hs2
            have P1 := Lib.hid (hP2.1.congr Hids.out)
            have P2 := Lib.hid (hP2.2.congr Hblk.out)
            rw [← Hnt.out] at P2
            clear hP2 HP
            go_wp2_with fail
            go_roundw
            case rel => exact ⟨k + 1, by omega, by go_num, Hs2.out, Hj.out, P1.out, P2.out⟩
            case measure => simp [intOf]; omega
          | false =>
            rw [hrr] at Hs2
            have hm := Hmf.out Hs2.out
            have Hm := Lib.hid hm
            clear hm HP
            go_wp2_with fail
            go_ret
            exact ⟨by rw [Hm.out]; rfl, Hb1.out.trans (Hj.out.low (by omega) (by omega) (by omega))⟩
      · obtain ⟨p, hp⟩ : ∃ p, k = p + 1 := ⟨k - 1, by omega⟩
        obtain ⟨pv, hpve, hpvc⟩ := Hpv.out p hp
        have hpl : p < m.files.length := by omega
        have hpv5 := (Hb5w.out.cell (p := ad.add (p * 4)) (by rw [add_block]; omega)).trans hpvc
        have Hpv5 := Lib.hid hpv5
        have hs2 : filesR m (k + 1) = (bless pv.name fl.name && r) := by rw [Hs.out, hpve]; simp [h0]
        have Hp := Lib.hid hp
        clear hpve hpvc hpv5 hp h0 Hpv
        cases hless : bless pv.name fl.name with
        | false =>
          have Hle : Hid (bless fl.name pv.name = true ∨ fl.name = pv.name) := by
            rcases bless_total fl.name pv.name with h | h | h
            · exact .inl h
            · exact .inr h
            · rw [h] at hless; cases hless
          rw [hless] at hs2
          have hm := Hmf.out hs2
          have Hm := Lib.hid hm
          clear hm hs2
          refine wp_region_typed [some 19, some 20, some 21, some 22, some 23, some 24, some 25, some 26, some 27, some 28, some 29, some 30, some 31, some 32, some 33, some 34, some 35, some 36, some 37, some 38, some 39, some 40, some 41] [19, 20, 21, 22, 23, 24, 25, 26, 27, 28, 29, 30, 31, 32, 33, 34, 35, 36, 37, 38, 39, 40, 41]
            [Ph.is (.int .i64 (k : Int)),
              Ph.is (.bool true),
              Ph.is (.bool true),
              Ph.is (.pointer (some ⟨g, 0, none⟩)),
              Ph.is (.string (bst fl.name)),
              Ph.is (.pointer (some ⟨w.heap.size, 2, none⟩)),
              Ph.is (.slice (some ad) m.files.length c),
              Ph.is (.int .i64 (k : Int)),
              Ph.is (.int .i64 (p : Int)),
              Ph.is (.pointer (some (ad.add (p * 4)))),
              Ph.is (.pointer (some (ad.add (p * 4)))),
              Ph.is (.string (bst pv.name)),
              Ph.is (.bool true),
              Ph.is (.bool true),
              Ph.is (.bool true),
              Ph.is undef,
              Ph.is undef,
              Ph.is undef,
              Ph.is undef,
              Ph.is undef,
              Ph.is undef,
              Ph.is undef,
              Ph.is (.bool true)] rfl rfl (by kernel_rfl) (by kernel_rfl) ?_ ?_
          · refine ⟨?_, ?_, ?_, ?_, ?_, ?_, ?_, ?_, ?_, ?_, ?_, ?_, ?_, ?_, ?_, ?_, ?_, ?_, ?_, ?_, ?_, ?_, ?_, trivial⟩
            · -- 0: slot 19 := Op.move t5
              refine ob_yes fun f w' hb hp => ?_
              simp [PreOf, factOf, valOf, Ph.is, Ph.by_, Ph.any, Region.binds] at hp
              refine ⟨by simp [Gd, valOf, hp], ?_⟩
              refine mild_val (.int .i64 (k : Int)) ?_ rfl
              simp [execOp, evalF, hp]
            · -- 1: slot 20 := Op.binOp BinOp.gtr 3 t19 (const (0:i64)) 3
              refine ob_yes fun f w' hb hp => ?_
              simp [PreOf, factOf, valOf, Ph.is, Ph.by_, Ph.any, Region.binds] at hp
              refine ⟨by simp [Gd, valOf, hp], ?_⟩
              refine mild_val (.bool true) ?_ rfl
              simp [execOp, evalF, hp, go_sem]
              first | done | (have := Hp.out; omega)
            · -- 2: slot 21 := Op.move t20
              refine ob_yes fun f w' hb hp => ?_
              simp [PreOf, factOf, valOf, Ph.is, Ph.by_, Ph.any, Region.binds] at hp
              refine ⟨by simp [Gd, valOf, hp], ?_⟩
              refine mild_val (.bool true) ?_ rfl
              simp [execOp, evalF, hp]
            · -- 3: slot 22 := Op.fieldAddr 62 t6 0
              refine ob_yes fun f w' hb hp => ?_
              simp [PreOf, factOf, valOf, Ph.is, Ph.by_, Ph.any, Region.binds] at hp
              refine ⟨by simp [Gd, valOf, hp], ?_⟩
              refine mild_val (.pointer (some ⟨g, 0, none⟩)) ?_ rfl
              simp [execOp, evalF, hp, go_sem]
            · -- 4: slot 23 := Op.load 9 t22
              refine ob_yes fun f w' hb hp => ?_
              simp [PreOf, factOf, valOf, Ph.is, Ph.by_, Ph.any, Region.binds] at hp
              refine ⟨by simp [Gd, valOf, hp], ?_⟩
              refine mild_val (.string (bst fl.name)) ?_ rfl
              have hc := (Hx5.out.1.blwM hb).cell 0 _ rfl
              simp [execOp, evalF, hp, hc, go_sem]
            · -- 5: slot 24 := Op.fieldAddr 56 t1 2
              refine ob_yes fun f w' hb hp => ?_
              simp [PreOf, factOf, valOf, Ph.is, Ph.by_, Ph.any, Region.binds] at hp
              refine ⟨by simp [Gd, valOf, hp], ?_⟩
              refine mild_val (.pointer (some ⟨w.heap.size, 2, none⟩)) ?_ rfl
              simp [execOp, evalF, hp, go_sem]
            · -- 6: slot 25 := Op.load 54 t24
              refine ob_yes fun f w' hb hp => ?_
              simp [PreOf, factOf, valOf, Ph.is, Ph.by_, Ph.any, Region.binds] at hp
              refine ⟨by simp [Gd, valOf, hp], ?_⟩
              refine mild_val (.slice (some ad) m.files.length c) ?_ rfl
              have hc := (Hx5.out.2.blwM hb).cell 2 _ rfl
              simp [execOp, evalF, hp, hc, go_sem]
            · -- 7: slot 26 := Op.move t5
              refine ob_yes fun f w' hb hp => ?_
              simp [PreOf, factOf, valOf, Ph.is, Ph.by_, Ph.any, Region.binds] at hp
              refine ⟨by simp [Gd, valOf, hp], ?_⟩
              refine mild_val (.int .i64 (k : Int)) ?_ rfl
              simp [execOp, evalF, hp]
            · -- 8: slot 27 := Op.binOp BinOp.sub 3 t26 (const (1:i64)) 3
              refine ob_yes fun f w' hb hp => ?_
              simp [PreOf, factOf, valOf, Ph.is, Ph.by_, Ph.any, Region.binds] at hp
              refine ⟨by simp [Gd, valOf, hp], ?_⟩
              refine mild_val (.int .i64 (p : Int)) ?_ rfl
              simp [execOp, evalF, hp, go_sem]
              first | done | (rw [wrap_i64]; have := Hp.out; omega) | (have := Hp.out; omega)
            · -- 9: slot 28 := Op.indexAddr 54 t25 t27
              refine ob_yes fun f w' hb hp => ?_
              simp [PreOf, factOf, valOf, Ph.is, Ph.by_, Ph.any, Region.binds] at hp
              refine ⟨by simp [Gd, valOf, hp], ?_⟩
              refine mild_val (.pointer (some (ad.add (p * 4)))) ?_ rfl
              simp [execOp, evalF, hp, go_sem, hpl]
            · -- 10: slot 29 := Op.fieldAddr 62 t28 0
              refine ob_yes fun f w' hb hp => ?_
              simp [PreOf, factOf, valOf, Ph.is, Ph.by_, Ph.any, Region.binds] at hp
              refine ⟨by simp [Gd, valOf, hp], ?_⟩
              refine mild_val (.pointer (some (ad.add (p * 4)))) ?_ rfl
              simp [execOp, evalF, hp, go_sem]
            · -- 11: slot 30 := Op.load 9 t29
              refine ob_yes fun f w' hb hp => ?_
              simp [PreOf, factOf, valOf, Ph.is, Ph.by_, Ph.any, Region.binds] at hp
              refine ⟨by simp [Gd, valOf, hp], ?_⟩
              refine mild_val (.string (bst pv.name)) ?_ rfl
              have hc := (hb.cell (p := ad.add (p * 4)) (by rw [add_block]; omega)).trans Hpv5.out
              simp [execOp, evalF, hp, hc, go_sem]
            · -- 12: slot 31 := Op.binOp BinOp.leq 9 t23 t30 9
              refine ob_yes fun f w' hb hp => ?_
              simp [PreOf, factOf, valOf, Ph.is, Ph.by_, Ph.any, Region.binds] at hp
              refine ⟨by simp [Gd, valOf, hp], ?_⟩
              refine mild_val (.bool true) ?_ rfl
              simp [execOp, evalF, hp, go_sem, Op.stringOp, bst_toList, hless]
              first | done | exact Hle.out
            · -- 13: slot 32 := Op.pick t21 t31 (const (Value.bool false))
              refine ob_yes fun f w' hb hp => ?_
              simp [PreOf, factOf, valOf, Ph.is, Ph.by_, Ph.any, Region.binds] at hp
              refine ⟨by simp [Gd, valOf, hp], ?_⟩
              refine mild_val (.bool true) ?_ rfl
              simp [execOp, evalF, hp, go_sem]
            · -- 14: slot 33 := Op.move t32
              refine ob_yes fun f w' hb hp => ?_
              simp [PreOf, factOf, valOf, Ph.is, Ph.by_, Ph.any, Region.binds] at hp
              refine ⟨by simp [Gd, valOf, hp], ?_⟩
              refine mild_val (.bool true) ?_ rfl
              simp [execOp, evalF, hp]
            · -- 15: slot 34 := Op.load 62 t6
              refine ob_no fun f w' hb hp => ?_
              simp [PreOf, factOf, valOf, Ph.is, Ph.by_, Ph.any, Region.binds] at hp
              exact ⟨by simp [Gd, valOf, hp], rfl⟩
            · -- 16: slot 35 := Op.fieldAddr 56 t1 1
              refine ob_no fun f w' hb hp => ?_
              simp [PreOf, factOf, valOf, Ph.is, Ph.by_, Ph.any, Region.binds] at hp
              exact ⟨by simp [Gd, valOf, hp], rfl⟩
            · -- 17: slot 36 := Op.load 53 t35
              refine ob_no fun f w' hb hp => ?_
              simp [PreOf, factOf, valOf, Ph.is, Ph.by_, Ph.any, Region.binds] at hp
              exact ⟨by simp [Gd, valOf, hp], rfl⟩
            · -- 18: slot 37 := Op.move t3
              refine ob_no fun f w' hb hp => ?_
              simp [PreOf, factOf, valOf, Ph.is, Ph.by_, Ph.any, Region.binds] at hp
              exact ⟨by simp [Gd, valOf, hp], rfl⟩
            · -- 19: slot 38 := Op.move t4
              refine ob_no fun f w' hb hp => ?_
              simp [PreOf, factOf, valOf, Ph.is, Ph.by_, Ph.any, Region.binds] at hp
              exact ⟨by simp [Gd, valOf, hp], rfl⟩
            · -- 20: slot 39 := Op.call   value (Operand.func 79), args := #[t34, t36, t37, t38], argTypes := #[62, 53, 135, 136]  
              refine ob_no fun f w' hb hp => ?_
              simp [PreOf, factOf, valOf, Ph.is, Ph.by_, Ph.any, Region.binds] at hp
              exact ⟨by simp [Gd, valOf, hp], rfl⟩
            · -- 21: slot 40 := Op.unOp UnOp.not 4 t39
              refine ob_no fun f w' hb hp => ?_
              simp [PreOf, factOf, valOf, Ph.is, Ph.by_, Ph.any, Region.binds] at hp
              exact ⟨by simp [Gd, valOf, hp], rfl⟩
            · -- 22: slot 41 := Op.pick t33 (const (Value.bool true)) t40
              refine ob_yes fun f w' hb hp => ?_
              simp [PreOf, factOf, valOf, Ph.is, Ph.by_, Ph.any, Region.binds] at hp
              refine ⟨by simp [Gd, valOf, hp], ?_⟩
              refine mild_val (.bool true) ?_ rfl
              simp [execOp, evalF, hp, go_sem]
          · intro f w2 hb2 hp
            simp only [PostOf, Ph.is, Ph.by_, Ph.any] at hp
            obtain ⟨h0, h1, h2, h3, h4, h5, h6, h7, h8, h9, h10, h11, h12, h13, h14, h15, h16, h17, h18, h19, h20, h21, h22, _⟩ := hp
            simp only [fills, List.foldl_cons, List.foldl_nil, Act.put, List.setIfInBounds_toArray, List.set_cons_zero, List.set_cons_succ, h0, h1, h2, h3, h4, h5, h6, h7, h8, h9, h10, h11, h12, h13, h14, h15, h16, h17, h18, h19, h20, h21, h22]
            clear h0 h1 h2 h3 h4 h5 h6 h7 h8 h9 h10 h11 h12 h13 h14 h15 h16 h17 h18 h19 h20 h21 h22
            have Hend := Lib.hid (Hlow.out.trans (hb2.mono (show w.heap.size ≤ w5.heap.size by omega)))
            clear hb2
            go_wp2_with fail
            go_ret
            exact ⟨by rw [Hm.out]; rfl, Hend.out⟩
        | true =>
          have Hle : Hid (bless fl.name pv.name = false ∧ ¬ fl.name = pv.name) := by
            refine ⟨?_, fun e => ?_⟩
            · cases hx : bless fl.name pv.name with
              | false => rfl
              | true => have := bless_trans _ _ _ hless hx; rw [bless_irrefl] at this; cases this
            · rw [e, bless_irrefl] at hless; cases hless
          rw [hless, Bool.true_and] at hs2
          have Hs2 := Lib.hid hs2
          clear hs2
          refine wp_region_oneL (ds := [19, 20, 21, 22, 23, 24, 25, 26, 27, 28, 29, 30, 31, 32, 33, 34, 35, 36, 37, 38, 39, 40, 41]) 23 20 (fun b v W' => BoxAt 62 W' g (encF fl (.slice Ab fl.blocks.length cb)) ∧ BoxAt 56 W' w.heap.size (encM m (.slice (some ad) m.files.length c)) ∧ Bt (w.heap.size + 1) (w.heap.size + 1 + 1) w5 W' ∧ (b = false → W' = w5.drew) ∧ (b = true → Post5 W')) [some 19, some 20, some 21, some 22, some 23, some 24, some 25, some 26, some 27, some 28, some 29, some 30, some 31, some 32, some 33, some 34, some 35, some 36, some 37, some 38, some 39, some 40, some 41]
            [fun v => v = .int .i64 (k : Int), fun v => v = .bool true, fun v => v = .bool true, fun v => v = .pointer (some ⟨g, 0, none⟩), fun v => v = .string (bst fl.name), fun v => v = .pointer (some ⟨w.heap.size, 2, none⟩), fun v => v = .slice (some ad) m.files.length c, fun v => v = .int .i64 (k : Int), fun v => v = .int .i64 (p : Int), fun v => v = .pointer (some (ad.add (p * 4))), fun v => v = .pointer (some (ad.add (p * 4))), fun v => v = .string (bst pv.name), fun v => v = .bool false, fun v => v = .bool false, fun v => v = .bool false, fun v => v = .agg (encF fl (.slice Ab fl.blocks.length cb)).toArray, fun v => v = .pointer (some ⟨w.heap.size, 1, none⟩), fun v => v = .int .u32 (m.next.toNat : Int), fun v => v = .map (some (w.heap.size + 1)), fun v => v = .map (some (w.heap.size + 1 + 1)), fun v => v = .bool r, fun v => v = .bool (!r), fun v => v = .bool (!r)]
            (by decide) rfl rfl rfl (by kernel_rfl) (by kernel_rfl) ?_ (fun _ => ⟨Hx5.out.1, Hx5.out.2, Bt.of (Below.refl _ _).drew, fun _ => rfl, fun h => by cases h⟩) ?_
          · refine ⟨?_, ?_, ?_, ?_, ?_, ?_, ?_, ?_, ?_, ?_, ?_, ?_, ?_, ?_, ?_, ?_, ?_, ?_, ?_, ?_, ?_, ?_, ?_, trivial⟩
            · -- 0: slot 19 := Op.move t5
              refine obO_yes fun f b w' hj hs hp => ?_
              simp [PreO, factO, valOf, Region.binds] at hp
              refine ⟨by simp [Gd, valOf, hp], ?_⟩
              refine mildO_val (.int .i64 (k : Int)) (by decide) ?_ rfl
              simp [execOp, evalF, hp, go_sem]
            · -- 1: slot 20 := Op.binOp BinOp.gtr 3 t19 (const (0:i64)) 3
              refine obO_yes fun f b w' hj hs hp => ?_
              simp [PreO, factO, valOf, Region.binds] at hp
              refine ⟨by simp [Gd, valOf, hp], ?_⟩
              refine mildO_val (.bool true) (by decide) ?_ rfl
              simp [execOp, evalF, hp, go_sem]
              first | done | (have := Hp.out; omega)
            · -- 2: slot 21 := Op.move t20
              refine obO_yes fun f b w' hj hs hp => ?_
              simp [PreO, factO, valOf, Region.binds] at hp
              refine ⟨by simp [Gd, valOf, hp], ?_⟩
              refine mildO_val (.bool true) (by decide) ?_ rfl
              simp [execOp, evalF, hp, go_sem]
            · -- 3: slot 22 := Op.fieldAddr 62 t6 0
              refine obO_yes fun f b w' hj hs hp => ?_
              simp [PreO, factO, valOf, Region.binds] at hp
              refine ⟨by simp [Gd, valOf, hp], ?_⟩
              refine mildO_val (.pointer (some ⟨g, 0, none⟩)) (by decide) ?_ rfl
              simp [execOp, evalF, hp, go_sem]
            · -- 4: slot 23 := Op.load 9 t22
              refine obO_yes fun f b w' hj hs hp => ?_
              simp [PreO, factO, valOf, Region.binds] at hp
              refine ⟨by simp [Gd, valOf, hp], ?_⟩
              have hc := hj.1.cell 0 _ rfl
              refine mildO_val (.string (bst fl.name)) (by decide) ?_ rfl
              simp [execOp, evalF, hp, hc, go_sem]
            · -- 5: slot 24 := Op.fieldAddr 56 t1 2
              refine obO_yes fun f b w' hj hs hp => ?_
              simp [PreO, factO, valOf, Region.binds] at hp
              refine ⟨by simp [Gd, valOf, hp], ?_⟩
              refine mildO_val (.pointer (some ⟨w.heap.size, 2, none⟩)) (by decide) ?_ rfl
              simp [execOp, evalF, hp, go_sem]
            · -- 6: slot 25 := Op.load 54 t24
              refine obO_yes fun f b w' hj hs hp => ?_
              simp [PreO, factO, valOf, Region.binds] at hp
              refine ⟨by simp [Gd, valOf, hp], ?_⟩
              have hc := hj.2.1.cell 2 _ rfl
              refine mildO_val (.slice (some ad) m.files.length c) (by decide) ?_ rfl
              simp [execOp, evalF, hp, hc, go_sem]
            · -- 7: slot 26 := Op.move t5
              refine obO_yes fun f b w' hj hs hp => ?_
              simp [PreO, factO, valOf, Region.binds] at hp
              refine ⟨by simp [Gd, valOf, hp], ?_⟩
              refine mildO_val (.int .i64 (k : Int)) (by decide) ?_ rfl
              simp [execOp, evalF, hp, go_sem]
            · -- 8: slot 27 := Op.binOp BinOp.sub 3 t26 (const (1:i64)) 3
              refine obO_yes fun f b w' hj hs hp => ?_
              simp [PreO, factO, valOf, Region.binds] at hp
              refine ⟨by simp [Gd, valOf, hp], ?_⟩
              refine mildO_val (.int .i64 (p : Int)) (by decide) ?_ rfl
              simp [execOp, evalF, hp, go_sem]
              first | done | (rw [wrap_i64]; have := Hp.out; omega) | (have := Hp.out; omega)
            · -- 9: slot 28 := Op.indexAddr 54 t25 t27
              refine obO_yes fun f b w' hj hs hp => ?_
              simp [PreO, factO, valOf, Region.binds] at hp
              refine ⟨by simp [Gd, valOf, hp], ?_⟩
              refine mildO_val (.pointer (some (ad.add (p * 4)))) (by decide) ?_ rfl
              simp [execOp, evalF, hp, go_sem, hpl]
            · -- 10: slot 29 := Op.fieldAddr 62 t28 0
              refine obO_yes fun f b w' hj hs hp => ?_
              simp [PreO, factO, valOf, Region.binds] at hp
              refine ⟨by simp [Gd, valOf, hp], ?_⟩
              refine mildO_val (.pointer (some (ad.add (p * 4)))) (by decide) ?_ rfl
              simp [execOp, evalF, hp, go_sem]
            · -- 11: slot 30 := Op.load 9 t29
              refine obO_yes fun f b w' hj hs hp => ?_
              simp [PreO, factO, valOf, Region.binds] at hp
              refine ⟨by simp [Gd, valOf, hp], ?_⟩
              have hc := hj.2.2.1.block (ad.add (p * 4)).block (by rw [add_block]; omega) (by rw [add_block]; omega) (by rw [add_block]; omega)
              have hc2 : w'.cell? (ad.add (p * 4)) = some (.string (bst pv.name)) := (cell_of_block hc).trans Hpv5.out
              refine mildO_val (.string (bst pv.name)) (by decide) ?_ rfl
              simp [execOp, evalF, hp, hc2, go_sem]
            · -- 12: slot 31 := Op.binOp BinOp.leq 9 t23 t30 9
              refine obO_yes fun f b w' hj hs hp => ?_
              simp [PreO, factO, valOf, Region.binds] at hp
              refine ⟨by simp [Gd, valOf, hp], ?_⟩
              refine mildO_val (.bool false) (by decide) ?_ rfl
              simp [execOp, evalF, hp, go_sem, Op.stringOp, bst_toList, hless]
              first | done | exact Hle.out
            · -- 13: slot 32 := Op.pick t21 t31 (const (Value.bool false))
              refine obO_yes fun f b w' hj hs hp => ?_
              simp [PreO, factO, valOf, Region.binds] at hp
              refine ⟨by simp [Gd, valOf, hp], ?_⟩
              refine mildO_val (.bool false) (by decide) ?_ rfl
              simp [execOp, evalF, hp, go_sem]
            · -- 14: slot 33 := Op.move t32
              refine obO_yes fun f b w' hj hs hp => ?_
              simp [PreO, factO, valOf, Region.binds] at hp
              refine ⟨by simp [Gd, valOf, hp], ?_⟩
              refine mildO_val (.bool false) (by decide) ?_ rfl
              simp [execOp, evalF, hp, go_sem]
            · -- 15: slot 34 := Op.load 62 t6
              refine obO_yes fun f b w' hj hs hp => ?_
              simp [PreO, factO, valOf, Region.binds] at hp
              refine ⟨by simp [Gd, valOf, hp], ?_⟩
              have hr := run_loadVar_cells w' ⟨g, 0, none⟩ 62 (encF fl (.slice Ab fl.blocks.length cb)) hj.1.cells Try.underlying62 rfl info_file4
              refine mildO_val (.agg (encF fl (.slice Ab fl.blocks.length cb)).toArray) (by decide) ?_ rfl
              simp [execOp, evalF, hp, Instr.loadAt, Instr.sureAddr, hr]
            · -- 16: slot 35 := Op.fieldAddr 56 t1 1
              refine obO_yes fun f b w' hj hs hp => ?_
              simp [PreO, factO, valOf, Region.binds] at hp
              refine ⟨by simp [Gd, valOf, hp], ?_⟩
              refine mildO_val (.pointer (some ⟨w.heap.size, 1, none⟩)) (by decide) ?_ rfl
              simp [execOp, evalF, hp, go_sem]
            · -- 17: slot 36 := Op.load 53 t35
              refine obO_yes fun f b w' hj hs hp => ?_
              simp [PreO, factO, valOf, Region.binds] at hp
              refine ⟨by simp [Gd, valOf, hp], ?_⟩
              have hc := hj.2.1.cell 1 _ rfl
              refine mildO_val (.int .u32 (m.next.toNat : Int)) (by decide) ?_ rfl
              simp [execOp, evalF, hp, hc, go_sem]
            · -- 18: slot 37 := Op.move t3
              refine obO_yes fun f b w' hj hs hp => ?_
              simp [PreO, factO, valOf, Region.binds] at hp
              refine ⟨by simp [Gd, valOf, hp], ?_⟩
              refine mildO_val (.map (some (w.heap.size + 1))) (by decide) ?_ rfl
              simp [execOp, evalF, hp, go_sem]
            · -- 19: slot 38 := Op.move t4
              refine obO_yes fun f b w' hj hs hp => ?_
              simp [PreO, factO, valOf, Region.binds] at hp
              refine ⟨by simp [Gd, valOf, hp], ?_⟩
              refine mildO_val (.map (some (w.heap.size + 1 + 1))) (by decide) ?_ rfl
              simp [execOp, evalF, hp, go_sem]
            · -- 20: slot 39 := Op.call   value (Operand.func 79), args := #[t34, t36, t37, t38], argTypes := #[62, 53, 135, 136]  
              refine obO_yes fun f b w' hj hs hp => ?_
              simp [PreO, factO, valOf, Region.binds] at hp
              refine ⟨by simp [Gd, valOf, hp], ?_⟩
              have hb := hs rfl
              have hw' := hj.2.2.2.1 hb
              subst hw'
              refine mildO_call 79 _ _ Try.f79 rfl Try.func79 (by kernel_rfl) (by kernel_rfl) rfl ?_
              refine calls_args (args' := #[.agg (encF fl (.slice Ab fl.blocks.length cb)).toArray, .int .u32 (m.next.toNat : Int), .map (some (w.heap.size + 1)), .map (some (w.heap.size + 1 + 1))]) (by simp [evalF, hp]) ?_
              refine Hcall.out.mono ?_
              rintro _ w9 ⟨rfl, hb9, hp9⟩
              exact ⟨_, rfl, ⟨hb9.box hj.1 (by omega) (by omega), hb9.box hj.2.1 (by omega) (by omega), hb9.pre_drew, fun h => (by cases h), fun _ => hp9⟩, rfl⟩
            · -- 21: slot 40 := Op.unOp UnOp.not 4 t39
              refine obO_yes fun f b w' hj hs hp => ?_
              simp [PreO, factO, valOf, Region.binds] at hp
              refine ⟨by simp [Gd, valOf, hp], ?_⟩
              refine mildO_val (.bool (!r)) (by decide) ?_ rfl
              simp [execOp, evalF, hp, go_sem]
            · -- 22: slot 41 := Op.pick t33 (const (Value.bool true)) t40
              refine obO_yes fun f b w' hj hs hp => ?_
              simp [PreO, factO, valOf, Region.binds] at hp
              refine ⟨by simp [Gd, valOf, hp], ?_⟩
              refine mildO_val (.bool (!r)) (by decide) ?_ rfl
              simp [execOp, evalF, hp, go_sem]
          · intro f wd hj hp
            simp only [PostO] at hp
            obtain ⟨e0, e1, e2, e3, e4, e5, e6, e7, e8, e9, e10, e11, e12, e13, e14, e15, e16, e17, e18, e19, e20, e21, e22, _⟩ := hp
            simp only [fills, List.foldl_cons, List.foldl_nil, Act.put, List.setIfInBounds_toArray, List.set_cons_zero, List.set_cons_succ, e0, e1, e2, e3, e4, e5, e6, e7, e8, e9, e10, e11, e12, e13, e14, e15, e16, e17, e18, e19, e20, e21, e22]
            clear e0 e1 e2 e3 e4 e5 e6 e7 e8 e9 e10 e11 e12 e13 e14 e15 e16 e17 e18 e19 e20 e21 e22
            simp only [List.drop_succ_cons, List.drop_zero]
            obtain ⟨hjx, hjm, hjb, _, hjp⟩ := hj
            have hP := hjp rfl
            rw [HP5.out] at hP
            have Hj := Lib.hid (Hb5.out.trans hjb)
            have HP := Lib.hid hP
            clear hjx hjm hjb hjp hP
            cases hrr : r with
            | true =>
              have hP2 := HP.out hrr
              rw [hrr] at Hs2
              have P1 := Lib.hid (hP2.1.congr Hids.out)
              have P2 := Lib.hid (hP2.2.congr Hblk.out)
              rw [← Hnt.out] at P2
              clear hP2 HP
              go_wp2_with fail
              go_roundw
              case rel => exact ⟨k + 1, by omega, by go_num, Hs2.out, Hj.out, P1.out, P2.out⟩
              case measure => simp [intOf]; omega
            | false =>
              rw [hrr] at Hs2
              have hm := Hmf.out Hs2.out
              have Hm := Lib.hid hm
              clear hm HP
              go_wp2_with fail
              go_ret
              exact ⟨by rw [Hm.out]; rfl, Hb1.out.trans (Hj.out.low (by omega) (by omega) (by omega))⟩
    · obtain rfl : k = m.files.length := by omega
      have hm : mayM m = decide ((bodyM m).length + 13 ≤ 2048) := by unfold mayM; rw [Hfr.out]; rfl
      have Hm := Lib.hid hm
      clear hm hr1 hr2
      go_wp2_with (refine wpList_load_agg rfl 56 (.tmp 1) rfl ⟨w.heap.size, 0, none⟩ rfl (encM m (.slice A m.files.length c)) Xm.out.cells Try.underlying56 rfl info_man3 ?_)
      refine (body_any wr _ m ⟨_, rfl, (Hf.out.below Hwr.out).more (by omega)⟩ (by omega)).mono ?_
      rintro _ w2 ⟨v2, rfl, how2, hb2⟩
      have hb12 := how2.by_
      obtain ⟨A2, c2, rfl, hd1, hd2⟩ := how2.form_
      have Hb3 := Lib.hid (Hwr.out.trans (hb2.mono (show w.heap.size ≤ wr.heap.size by omega)))
      have Hby := Lib.hid hb12
      have hs2 := hb2.size
      generalize bodyM m = L at *
      clear how2 hb2 hb12 Xm
      go_wp2_with fail
      by_cases hlong : L.length ≤ 1048576
      · refine (fput_any w2 w2.heap.size _ [] (Ow.nil_ _ _) 77 _ L Hby.out hlong (by simp) (Nat.le_refl _)).mono ?_
        rintro _ w3 ⟨v3, rfl, ho3, hx3⟩
        rw [List.nil_append] at ho3
        obtain ⟨A3, c3, rfl, he1, he2⟩ := ho3.form_
        have Hb4 := Lib.hid (bstepB Hb3.out (hx3.below (Nat.le_refl _) (by simp [Value.ownBlock])) (by omega))
        have hfl := frameOf_length 77 L
        generalize frameOf 77 L = FL at *
        clear ho3 hx3
        go_wp2_with fail
        go_ret
        exact ⟨by rw [Hm.out]; (try simp); (try omega), Hb4.out⟩
      · refine (fput_long w2 _ 77 A2 L.length c2 (by omega) hd1 hd2.1).mono ?_
        rintro _ w3 ⟨rfl, hb3⟩
        have Hb4 := Lib.hid (bstepB Hb3.out hb3 (by omega))
        have hm : mayM m = false := by rw [Hm.out]; simp; omega
        have Hm2 := Lib.hid hm
        clear hb3 hm
        go_wp2_with fail
        go_ret
        exact ⟨by rw [Hm2.out]; rfl, Hb4.out⟩
end Go.Proofs.Ytpoicbhbkabllaa

namespace Go.Proofs.Ytpoicbhbkabllaa
set_option linter.unusedSimpArgs false
set_option linter.unusedVariables false
open Go.RowKit

/-- a manifest's whole slot -/
def slotM (m : MMan) : List UInt8 := frameOf 77 (bodyM m) ++ List.replicate (2048 - ((bodyM m).length + 13)) 0
theorem slotM_length (m : MMan) (h : mayM m = true) : (slotM m).length = 2048 := by
  unfold mayM at h
  simp only [Bool.and_eq_true, decide_eq_true_eq] at h
  simp only [slotM, List.length_append, frameOf_length, List.length_replicate]
  omega
theorem mayM_len (m : MMan) (h : mayM m = true) : (bodyM m).length + 13 ≤ 2048 := by
  unfold mayM at h
  simp only [Bool.and_eq_true, decide_eq_true_eq] at h
  exact h.2
theorem put_no (w : World) (v : Value) (m : MMan) (h : MAt w w.heap.size v m) (hsz : (bodyM m).length ≤ 274877906944) (hm : mayM m = false) :
    Calls Try.prog 53 #[v] w fun e w' => e = .returned (.tuple #[.slice none 0 0, .int .i64 3]) ∧ Below w.heap.size w w' := by
  obtain ⟨vf, rfl, hf⟩ := h
  obtain ⟨A, c, rfl, hc1, hc2⟩ := hf.form
  unfold maxLen at hc2
  obtain ⟨w0, hw0⟩ : ∃ w0, w0 = w.alloc (.cells (encM m (.slice A m.files.length c)).toArray 56) := ⟨_, rfl⟩
  have hb0 : Below w.heap.size w w0 := by rw [hw0]; exact balloc w _
  have hx0 : BoxAt 56 w0 w.heap.size (encM m (.slice A m.files.length c)) := by rw [hw0]; exact BoxAt.new_ _ _ _
  have Hw0 := Lib.hid hw0
  have X0 := Lib.hid hx0
  have Hb0 := Lib.hid hb0
  have Hf := Lib.hid ((hf.below hb0).more hb0.size)
  have Hm := Lib.hid hm
  clear hw0 hx0 hb0 hf hm
  go_enter Try.func53, Try.ntmps53
  go_upto_region 1 with (fail)
  rw [← Hw0.out]
  go_wp2_with (refine wpList_load_agg rfl 56 (.tmp 1) rfl ⟨w.heap.size, 0, none⟩ rfl (encM m (.slice A m.files.length c)) X0.out.cells Try.underlying56 rfl info_man3 ?_)
  refine (may_any w0 _ m ⟨_, rfl, Hf.out⟩ hsz).mono ?_
  rintro _ w1 ⟨rfl, hb1⟩
  rw [Hm.out]
  have Hb1 := Lib.hid (bstep Hb0.out hb1)
  clear hb1
  go_wp2_with fail
  go_ret2
  exact ⟨rfl, Hb1.out⟩
set_option maxRecDepth 100000 in
set_option maxHeartbeats 1600000 in
theorem put_any (w : World) (v : Value) (m : MMan) (h : MAt w w.heap.size v m) (hm : mayM m = true) :
    Calls Try.prog 53 #[v] w fun e w' => ∃ v', e = .returned (.tuple #[v', .int .i64 0]) ∧ Ow w' w.heap.size v' (slotM m) ∧ Below w.heap.size w w' := by
  have hsz := mayM_len m hm
  obtain ⟨vf, rfl, hf⟩ := h
  obtain ⟨A, c, rfl, hc1, hc2⟩ := hf.form
  unfold maxLen at hc2
  obtain ⟨w0, hw0⟩ : ∃ w0, w0 = w.alloc (.cells (encM m (.slice A m.files.length c)).toArray 56) := ⟨_, rfl⟩
  have hb0 : Below w.heap.size w w0 := by rw [hw0]; exact balloc w _
  have hx0 : BoxAt 56 w0 w.heap.size (encM m (.slice A m.files.length c)) := by rw [hw0]; exact BoxAt.new_ _ _ _
  have Hw0 := Lib.hid hw0
  have X0 := Lib.hid hx0
  have Hb0 := Lib.hid hb0
  have Hf := Lib.hid ((hf.below hb0).more hb0.size)
  have Hm := Lib.hid hm
  clear hw0 hx0 hb0 hf hm
  go_enter Try.func53, Try.ntmps53
  go_upto_region 1 with (fail)
  rw [← Hw0.out]
  go_wp2_with (refine wpList_load_agg rfl 56 (.tmp 1) rfl ⟨w.heap.size, 0, none⟩ rfl (encM m (.slice A m.files.length c)) X0.out.cells Try.underlying56 rfl info_man3 ?_)
  refine (may_any w0 _ m ⟨_, rfl, Hf.out⟩ (by omega)).mono ?_
  rintro _ w1 ⟨rfl, hb1⟩
  rw [Hm.out]
  have X1 := Lib.hid (X0.out.blwM hb1)
  have Hf1 := Lib.hid ((Hf.out.below hb1).more hb1.size)
  have Hb1 := Lib.hid (bstep Hb0.out hb1)
  clear hb1
  go_wp2_with (refine wpList_load_agg rfl 56 (.tmp 1) rfl ⟨w.heap.size, 0, none⟩ rfl (encM m (.slice A m.files.length c)) X1.out.cells Try.underlying56 rfl info_man3 ?_)
  refine (body_any w1 _ m ⟨_, rfl, Hf1.out⟩ (by omega)).mono ?_
  rintro _ w2 ⟨v2, rfl, how2, hb2⟩
  have hb12 := how2.by_
  obtain ⟨A2, c2, rfl, hd1, hd2⟩ := how2.form_
  have Hb2 := Lib.hid (bstep Hb1.out hb2)
  have Hby := Lib.hid hb12
  have hs2 := Hb2.out.size
  have hsl : slotM m = frameOf 77 (bodyM m) ++ List.replicate (2048 - ((bodyM m).length + 13)) 0 := rfl
  have Hsl := Lib.hid hsl
  generalize bodyM m = L at *
  clear how2 hb2 hb12 hsl
  go_wp2_with fail
  refine (fput_any w2 w2.heap.size _ [] (Ow.nil_ _ _) 77 _ L Hby.out (by omega) (by simp) (Nat.le_refl _)).mono ?_
  rintro _ w3 ⟨v3, rfl, ho3, hx3⟩
  rw [List.nil_append] at ho3
  have Hb3 := Lib.hid (bstep Hb2.out (hx3.below (Nat.le_refl _) (by simp [Value.ownBlock])))
  have ho4 := ho3.mono hs2
  obtain ⟨A3, c3, rfl, he1, he2⟩ := ho3.form_
  have hfl := frameOf_length 77 L
  rw [hfl] at ho4
  have Ho4 := Lib.hid ho4
  have hs3 := Hb3.out.size
  generalize frameOf 77 L = FL at *
  have hN : (2048 - ((L.length : Int) + 13)) = ((2048 - (L.length + 13) : Nat) : Int) := by omega
  have HN := Lib.hid hN
  clear hN
  clear ho3 ho4 hx3
  go_wp2_with (at_builtin
               refine wpList_zero8 rfl (.tmp 16) (.tmp 19) rfl Ho4.out (2048 - (L.length + 13)) rfl (congrArg (Value.int .i64) HN.out) (by omega) hs3 ?_
               intro v5 w5 ho5 hx5
               have Hb5 := Lib.hid (Hb3.out.trans (hx5.below hs3 fun q hq => (Ho4.out.blk q hq).1))
               have Ho5 := Lib.hid ho5
               clear ho5 hx5)
  go_ret2
  exact ⟨_, rfl, by rw [Hsl.out]; exact Ho5.out, Hb5.out⟩
/-- the document's example -/
def emptyM : MMan := ⟨0, 0, []⟩
theorem mayM_empty : mayM emptyM = true := by decide +kernel
theorem slotM_empty : (slotM emptyM).length = 2048 ∧ (slotM emptyM)[0]? = some 77 ∧ (slotM emptyM)[1]? = some 3 := by decide +kernel
theorem MAt.empty (w : World) (B : Nat) : MAt w B (.agg (encM emptyM (.slice none 0 0)).toArray) emptyM := ⟨_, rfl, RowOn.nil_⟩
set_option maxRecDepth 100000 in
set_option maxHeartbeats 1600000 in
theorem awake09 (w : World) : Calls Try.prog 30 #[] w fun e w' => e = .returned (.bool true) ∧ Below w.heap.size w w' := by
  have hp := Lib.hid (fun W => put_any W _ emptyM (MAt.empty W _) mayM_empty)
  have hq := Lib.hid (fun W => may_any W _ emptyM (MAt.empty W _) (by decide +kernel))
  obtain ⟨h1, h2, h3⟩ := slotM_empty
  rw [mayM_empty] at hq
  generalize slotM emptyM = L at *
  go_enter Try.func30, Try.ntmps30
  go_wp2_with fail
  refine (hp.out w).mono ?_
  rintro _ w1 ⟨v1, rfl, ho1, hb1⟩
  obtain ⟨A1, c1, rfl, hd1, hd2, hd3⟩ := ho1.form_
  obtain ⟨g, rfl, hg1, hg2⟩ := hd3 (by omega)
  have hc0 := ho1.cell_ rfl 0 _ h2
  have hc1 := ho1.cell_ rfl 1 _ h3
  have Hb1 := Lib.hid hb1
  clear ho1 hb1 h2 h3 hp
  go_wp2_with fail
  refine (hq.out _).mono ?_
  rintro _ w2 ⟨rfl, hb2⟩
  have Hb2 := Lib.hid (bstep Hb1.out hb2)
  clear hb2
  go_wp2_with fail
  go_ret
  exact ⟨rfl, Hb2.out⟩
end Go.Proofs.Ytpoicbhbkabllaa

namespace Go.Proofs.Ytpoicbhbkabllaa
set_option linter.unusedSimpArgs false
set_option linter.unusedVariables false
open Go.RowKit

/-- blocks: so many are to come -/
def rblk : Nat → List Int → List UInt8 → Int → List Int × List UInt8 × Int
  | 0, acc, l, e => (acc, l, e)
  | n + 1, acc, l, e => if e ≠ 0 then (acc, l, e) else rblk n (acc ++ [((numS 65536 l e).1 : Int)]) (numS 65536 l e).2.1 (numS 65536 l e).2.2
def rf1 (l : List UInt8) (e : Int) : Nat × List UInt8 × Int := numS 32 l e
def rf2 (l : List UInt8) (e : Int) : List UInt8 × List UInt8 × Int := bytesS ((rf1 l e).1 : Int) (rf1 l e).2.1 (rf1 l e).2.2
def rf3 (l : List UInt8) (e : Int) : Nat × List UInt8 × Int := numS 4294967295 (rf2 l e).2.1 (rf2 l e).2.2
def rf4 (l : List UInt8) (e : Int) : Nat × List UInt8 × Int := numS 7340032 (rf3 l e).2.1 (rf3 l e).2.2
def rf5 (l : List UInt8) (e : Int) : List Int × List UInt8 × Int := rblk (manyOf ((rf4 l e).1 : Int)).toNat [] (rf4 l e).2.1 (rf4 l e).2.2
/-- one file -/
def rfileP (l : List UInt8) (e : Int) : MFile × List UInt8 × Int := (⟨(rf2 l e).1, UInt32.ofNat (rf3 l e).1, ((rf4 l e).1 : Int), (rf5 l e).1⟩, (rf5 l e).2.1, (rf5 l e).2.2)
def rfilesP : Nat → List MFile → List UInt8 → Int → List MFile × List UInt8 × Int
  | 0, acc, l, e => (acc, l, e)
  | n + 1, acc, l, e => if e ≠ 0 then (acc, l, e) else rfilesP n (acc ++ [(rfileP l e).1]) (rfileP l e).2.1 (rfileP l e).2.2
def rm1 (l : List UInt8) : Nat × List UInt8 × Int := numS 18446744073709551615 l 0
def rm2 (l : List UInt8) : Nat × List UInt8 × Int := numS 4294967295 (rm1 l).2.1 (rm1 l).2.2
def rm3 (l : List UInt8) : Nat × List UInt8 × Int := numS 2048 (rm2 l).2.1 (rm2 l).2.2
def rm4 (l : List UInt8) : List MFile × List UInt8 × Int := rfilesP (rm3 l).1 [] (rm3 l).2.1 (rm3 l).2.2
def rmanP (l : List UInt8) : MMan := ⟨UInt64.ofNat (rm1 l).1, UInt32.ofNat (rm2 l).1, (rm4 l).1⟩

section
variable {P : Nat → Prop} {w w' : World}
theorem OwnR.chg {α : Type} {E : TypeId} {C : Cdc α} {base : Nat} {S : Nat → Prop} {v : Value} {xs : List α} (h : OwnR E C w base S v xs) (hc : Chg P w w') (hv : ∀ k, v.ownBlock = some k → ¬ P k) (hS : ∀ k, S k → ¬ P k) : OwnR E C w' base S v xs := by
  have hb := h.blk
  obtain ⟨css, hl, ⟨h1, h2⟩, h3, h4⟩ := h
  refine ⟨css, hl, ⟨h1, ?_⟩, fun i cs x hcs hx => C.keep (h3 i cs x hcs hx) fun p hp => World.cell?_of_block (hc.block p.block (h4 _ hp).1 (hS _ hp)), fun k hk => ⟨Nat.lt_of_lt_of_le (h4 k hk).1 hc.size, (h4 k hk).2⟩⟩
  rcases h2 with h2 | ⟨g, cap, cur, e, hg, h5, r⟩
  · exact .inl h2
  · have hk := hb g (by rw [e]; rfl)
    exact .inr ⟨g, cap, cur, e, hg, (hc.block g hk.2 (hv g (by rw [e]; rfl))).trans h5, r⟩
theorem OwnR.rowOwn {α : Type} {E : TypeId} {C : Cdc α} {base : Nat} {S : Nat → Prop} {v : Value} {xs : List α} (h : OwnR E C w base S v xs) : RowOn C w (fun k => v.ownBlock = some k) S v xs := by
  have h0 := h.row
  rcases h.form with ⟨rfl, rfl⟩ | ⟨g, cap, rfl, h1, h2, _, _⟩
  · exact RowOn.nil_
  · obtain ⟨A, c, e, hc1, hc2, h3⟩ := h0
    injection e with e1 e2 e3
    subst e1
    exact ⟨_, cap, rfl, h1, h2, fun hn => by
      obtain ⟨ad, e4, _, h5⟩ := h3 hn
      injection e4 with e4
      subst e4
      exact ⟨_, rfl, rfl, h5⟩⟩
end
/-- the manifest that is made: its box gm, its files' rows below hi -/
def MP (gm hi : Nat) (m : MMan) (W : World) : Prop :=
  ∃ vf S, BoxAt 56 W gm (encM m vf) ∧ OwnR 62 cFile W (gm + 1) S vf m.files ∧ (∀ k, S k → gm < k ∧ k < hi) ∧ ∀ k, vf.ownBlock = some k → k < hi
theorem MP.keep {gm hi : Nat} {m : MMan} {W W' : World} {P : Nat → Prop} (h : MP gm hi m W) (hc : Chg P W W') (hp : ∀ k, P k → k < gm ∨ hi ≤ k) (hgm : gm < hi) : MP gm hi m W' := by
  obtain ⟨vf, S, h1, h2, h3, h4⟩ := h
  refine ⟨vf, S, h1.chg hc (fun hx => by have := hp _ hx; omega), h2.chg hc (fun k hk hx => ?_) (fun k hk hx => ?_), h3, h4⟩
  · have h5 := (h2.blk k hk).1
    have := h4 k hk
    have := hp k hx
    omega
  · have := h3 k hk
    have := hp k hx
    omega
theorem MP.more {gm hi hi' : Nat} {m : MMan} {W : World} (h : MP gm hi m W) (hh : hi ≤ hi') : MP gm hi' m W := by
  obtain ⟨vf, S, h1, h2, h3, h4⟩ := h
  exact ⟨vf, S, h1, h2, fun k hk => ⟨(h3 k hk).1, by have := (h3 k hk).2; omega⟩, fun k hk => by have := h4 k hk; omega⟩
/-- the file that is made: its box gf -/
def FP (gf : Nat) (f : MFile) (W : World) : Prop := ∃ vb, BoxAt 62 W gf (encF f vb) ∧ OwnF 3 cInt W (gf + 1) vb f.blocks
theorem FP.keep {gf : Nat} {f : MFile} {W W' : World} {P : Nat → Prop} (h : FP gf f W) (hc : Chg P W W') (hp : ∀ k, P k → k < gf) : FP gf f W' := by
  obtain ⟨vb, h1, h2⟩ := h
  exact ⟨vb, h1.chg hc (fun hx => by have := hp _ hx; omega), h2.chg hc (fun k hk hx => by have := (h2.blk k hk).1; have := hp k hx; omega) (fun _ h => h.elim)⟩
/-- a manifest among new blocks (from lo on) -/
def MIn (w : World) (lo : Nat) (v : Value) (m : MMan) : Prop := ∃ vf, v = .agg (encM m vf).toArray ∧ RowOn cFile w (fun k => lo ≤ k ∧ k < w.heap.size) (fun k => lo ≤ k ∧ k < w.heap.size) vf m.files
theorem MIn.mat {w : World} {lo : Nat} {v : Value} {m : MMan} (h : MIn w lo v m) : MAt w w.heap.size v m := by
  obtain ⟨vf, e, h⟩ := h
  exact ⟨vf, e, h.mono (fun k hk => hk.2) (fun k hk => hk.2)⟩
theorem MIn.chg {w w' : World} {lo : Nat} {v : Value} {m : MMan} {P : Nat → Prop} (h : MIn w lo v m) (hc : Chg P w w') (hp : ∀ k, P k → k < lo) : MIn w' lo v m := by
  obtain ⟨vf, e, h⟩ := h
  have hk : ∀ p : Addr, (lo ≤ p.block ∧ p.block < w.heap.size) → w'.cell? p = w.cell? p := fun p hq => World.cell?_of_block (hc.block p.block hq.2 fun hx => by have := hp _ hx; omega)
  have := hc.size
  exact ⟨vf, e, (h.keep hk hk).mono (fun k hk => ⟨hk.1, by omega⟩) (fun k hk => ⟨hk.1, by omega⟩)⟩
theorem MIn.step {w w' : World} {lo : Nat} {v : Value} {m : MMan} (h : MIn w lo v m) (hb : Below w.heap.size w w') : MIn w' lo v m := h.chg (P := fun _ => False) (Chg.ofBelow hb) (fun _ h => h.elim)
theorem MIn.low {w : World} {lo lo' : Nat} {v : Value} {m : MMan} (h : MIn w lo v m) (hl : lo' ≤ lo) : MIn w lo' v m := by
  obtain ⟨vf, e, h⟩ := h
  exact ⟨vf, e, h.mono (fun k hk => ⟨by omega, hk.2⟩) (fun k hk => ⟨by omega, hk.2⟩)⟩
def zeroMc : List Value := [.int .u64 0, .int .u32 0, .slice none 0 0]
theorem info_manz : (Try.prog.info? 56).map (fun i => (i.zero, i.size, i.bytes)) = some (some (.agg zeroMc.toArray), 3, 40) := by kernel_rfl
theorem zeroM_cells : (Value.agg zeroMc.toArray).cells = zeroMc.toArray := rfl
theorem info_i64 : (Try.prog.info? 3).map (fun i => (i.zero, i.size, i.bytes)) = some (some (.int .i64 0), cInt.n, 8) := by kernel_rfl
theorem info_fileC : (Try.prog.info? 62).map (fun i => (i.zero, i.size, i.bytes)) = some (some (.agg zeroFc.toArray), cFile.n, 56) := by kernel_rfl
theorem encM_one (m : MMan) (v : Value) (hv : v.oneCell' = true) : ∀ u ∈ encM m v, u.oneCell' = true := fun u hu => by
  simp [encM] at hu
  rcases hu with rfl | rfl | rfl
  · rfl
  · rfl
  · exact hv
theorem manyOf_nat (n : Nat) : manyOf (n : Int) = (((manyOf (n : Int)).toNat : Nat) : Int) := by unfold manyOf; split <;> omega
theorem manyOf_le (n : Nat) (h : n ≤ 7340032) : (manyOf (n : Int)).toNat ≤ 65536 := by unfold manyOf; split <;> omega
end Go.Proofs.Ytpoicbhbkabllaa

namespace Go.Proofs.Ytpoicbhbkabllaa
set_option linter.unusedSimpArgs false
set_option linter.unusedVariables false

abbrev RW := Int × List UInt8
structure RD where
  count : Int
  off : Bool
  fuse : Int
  made : List RW
  wait : List RW
def lastR (l : List RW) (i : Int) (b : List UInt8) : List UInt8 := l.foldl (fun b x => if x.1 = i then x.2 else b) b
def zerosL : List UInt8 := List.replicate 128 0
def goodR (m : RD) (i : Int) : List UInt8 := lastR m.made i zerosL
def readRE (m : RD) (i : Int) : Int := if m.off = true then 6 else if 0 ≤ i ∧ i < m.count then 0 else 9
def readRL (m : RD) (i : Int) : List UInt8 := if readRE m i ≠ 0 then [] else lastR m.wait i (goodR m i)
def putMade (l : List RW) (x : RW) : List RW := l.filter (fun y => decide (y.1 ≠ x.1)) ++ [x]
def putRD (m : RD) (x : RW) : RD := { m with made := putMade m.made x }
def deedRE (m : RD) : Int := if m.fuse = 0 then 6 else 0
def deedRD (m : RD) : RD := if m.fuse = 0 then { m with off := true } else if 0 < m.fuse then { m with fuse := m.fuse - 1 } else m
def writeRE (m : RD) (i : Int) (b : List UInt8) : Int := if readRE m i ≠ 0 then readRE m i else if b.length ≠ 128 then 3 else deedRE m
def writeRD (m : RD) (i : Int) (b : List UInt8) : RD :=
  if readRE m i ≠ 0 then m else if b.length ≠ 128 then m else if deedRE m ≠ 0 then deedRD m else { deedRD m with wait := m.wait ++ [(i, b)] }
def syncRE (m : RD) : Int := if m.off = true then 6 else deedRE m
def syncRD (m : RD) : RD := if m.off = true then m else if deedRE m ≠ 0 then deedRD m else { (m.wait.foldl putRD (deedRD m)) with wait := [] }
def backRS (keep torn k : Nat) (x : RW) (m : RD) : RD := if bitAt keep k = true then putRD m x else if bitAt torn k = true then putRD m (x.1, x.2.take 64 ++ (goodR m x.1).drop 64) else m
def backRL (keep torn : Nat) : Nat → List RW → RD → RD
  | _, [], m => m
  | k, x :: t, m => backRL keep torn (k + 1) t (backRS keep torn k x m)
def backRD (m : RD) (keep torn : Nat) : RD := { backRL keep torn 0 m.wait m with wait := [], off := false, fuse := -1 }
def spoilRE (m : RD) (i at_ : Int) : Int := if 0 ≤ i ∧ i < m.count ∧ 0 ≤ at_ ∧ at_ < 128 then 0 else 9
def spoilRD (m : RD) (i at_ : Int) (c : UInt8) : RD := if spoilRE m i at_ ≠ 0 then m else putRD m (i, (goodR m i).set at_.toNat ((goodR m i).getD at_.toNat 0 ^^^ c))
def newR (n : Int) : RD := { count := n, off := false, fuse := -1, made := [], wait := [] }

/-! ### the last one -/
theorem lastR_snoc (l : List RW) (x : RW) (i : Int) (b : List UInt8) : lastR (l ++ [x]) i b = if x.1 = i then x.2 else lastR l i b := by simp [lastR]
theorem lastR_filter (k i : Int) (h : k ≠ i) : ∀ (l : List RW) (b : List UInt8), lastR (l.filter (fun y => decide (y.1 ≠ k))) i b = lastR l i b
  | [], _ => rfl
  | x :: l, b => by
    rw [List.filter_cons]
    by_cases hx : x.1 = k
    · have hxi : ¬ x.1 = i := fun e => h (hx.symm.trans e)
      rw [if_neg (by simp [hx]), lastR_filter k i h l b]
      show _ = lastR l i (if x.1 = i then x.2 else b)
      rw [if_neg hxi]
    · rw [if_pos (by simp [hx])]
      exact lastR_filter k i h l (if x.1 = i then x.2 else b)
theorem lastR_put (l : List RW) (x : RW) (i : Int) (b : List UInt8) : lastR (putMade l x) i b = if x.1 = i then x.2 else lastR l i b := by
  unfold putMade
  rw [lastR_snoc]
  by_cases h : x.1 = i
  · rw [if_pos h, if_pos h]
  · rw [if_neg h, if_neg h, lastR_filter _ _ h]
theorem lastR_wt (wt : List Wt) (i : Nat) : ∀ b : Blk, lastR (wt.map fun x => ((x.1 : Int), x.2.1)) (i : Int) b.1 = (lastW wt i b).1 := by
  induction wt with
  | nil => intro b; rfl
  | cons x t ih =>
    intro b
    have := ih (if x.1 = i then x.2 else b)
    show lastR (t.map _) (i : Int) (if (x.1 : Int) = (i : Int) then x.2.1 else b.1) = (lastW t i (if x.1 = i then x.2 else b)).1
    rw [← this]
    congr 1
    by_cases h : x.1 = i
    · rw [if_pos h, if_pos (by omega)]
    · rw [if_neg h, if_neg (by omega)]

/-! ### that both agree -/
structure RelD (d : DState) (m : RD) : Prop where
  count : m.count = (d.bl.length : Int)
  off : m.off = d.off
  fuse : m.fuse = d.fuse
  good : ∀ i, i < d.bl.length → goodR m (i : Int) = (d.bl.getD i zeroB).1
  wait : m.wait = d.wt.map fun x => ((x.1 : Int), x.2.1)
theorem rel_mayE {d : DState} {m : RD} (h : RelD d m) (i : Int) : readRE m i = mayE d i := by unfold readRE mayE; rw [h.off, h.count]
theorem mayE_in {d : DState} {i : Int} (h : mayE d i = 0) : 0 ≤ i ∧ i < (d.bl.length : Int) := by
  unfold mayE at h
  split at h
  · cases h
  · split at h
    · assumption
    · cases h
theorem rel_read {d : DState} {m : RD} (h : RelD d m) (i : Int) : readRL m i = readL d i := by
  unfold readRL readL
  rw [rel_mayE h]
  by_cases hm : mayE d i ≠ 0
  · rw [if_pos hm, if_pos hm]
  · rw [if_neg hm, if_neg hm]
    have hi := mayE_in (by simpa using hm)
    obtain ⟨k, rfl⟩ : ∃ k : Nat, i = (k : Int) := ⟨i.toNat, by omega⟩
    rw [h.good k (by omega), h.wait, Int.toNat_natCast, lastR_wt]
    rfl
theorem rel_deedE {d : DState} {m : RD} (h : RelD d m) : deedRE m = deedE d := by unfold deedRE deedE; rw [h.fuse]
theorem rel_deed {d : DState} {m : RD} (h : RelD d m) : RelD (deedD d) (deedRD m) := by
  unfold deedD deedRD
  rw [h.fuse]
  split
  · exact ⟨h.count, rfl, rfl, h.good, h.wait⟩
  · split
    · exact ⟨h.count, h.off, rfl, h.good, h.wait⟩
    · exact h
theorem rel_writeE {d : DState} {m : RD} (h : RelD d m) (i : Int) (b : List UInt8) : writeRE m i b = writeE d i b := by unfold writeRE writeE; rw [rel_mayE h, rel_deedE h]
theorem deedRD_wait (m : RD) : (deedRD m).wait = m.wait := by unfold deedRD; split <;> (try split) <;> rfl
theorem deedRD_made (m : RD) : (deedRD m).made = m.made := by unfold deedRD; split <;> (try split) <;> rfl
theorem rel_write {d : DState} {m : RD} (h : RelD d m) (i : Int) (b : List UInt8) : RelD (writeD d i b) (writeRD m i b) := by
  unfold writeD writeRD
  rw [rel_mayE h, rel_deedE h]
  by_cases hm : mayE d i ≠ 0
  · rw [if_pos hm, if_pos hm]; exact h
  · rw [if_neg hm, if_neg hm]
    by_cases hb : b.length = 128
    · rw [dif_pos hb, if_neg (show ¬ b.length ≠ 128 by simp [hb])]
      have hd := rel_deed h
      by_cases he : deedE d ≠ 0
      · rw [if_pos he, if_pos he]; exact hd
      · rw [if_neg he, if_neg he]
        have hi := mayE_in (by simpa using hm)
        refine ⟨hd.count, hd.off, hd.fuse, hd.good, ?_⟩
        show m.wait ++ [(i, b)] = (d.wt ++ [(i.toNat, (⟨b, hb⟩ : Blk))]).map _
        rw [List.map_append, h.wait]
        simp only [List.map_cons, List.map_nil]
        rw [Int.toNat_of_nonneg hi.1]
    · rw [dif_neg hb, if_pos hb]; exact h
theorem rel_put {d : DState} {m : RD} (h : RelD d m) (k : Nat) (c : Blk) (hk : k < d.bl.length) : RelD { d with bl := d.bl.set k c } (putRD m ((k : Int), c.1)) := by
  refine ⟨by simp only [List.length_set]; exact h.count, h.off, h.fuse, fun i hi => ?_, h.wait⟩
  simp only [List.length_set] at hi
  show lastR (putMade m.made ((k : Int), c.1)) (i : Int) zerosL = ((d.bl.set k c).getD i zeroB).1
  rw [lastR_put]
  rw [List.getD_eq_getElem?_getD, List.getElem?_set]
  by_cases hik : k = i
  · subst hik
    rw [if_pos rfl, if_pos rfl, if_pos hk]
    rfl
  · rw [if_neg (by simp; omega), if_neg hik]
    have := h.good i hi
    unfold goodR at this
    rw [this, List.getD_eq_getElem?_getD]
theorem putRD_wait (m : RD) (x : RW) : (putRD m x).wait = m.wait := rfl
theorem rel_syncs (m0w : List RW) (wt : List Wt) : ∀ (d : DState) (m : RD), RelD d m → (∀ x ∈ wt, x.1 < d.bl.length) →
    RelD { d with bl := syncBl wt d.bl } ((wt.map fun x => ((x.1 : Int), x.2.1)).foldl putRD m) := by
  induction wt with
  | nil => intro d m h _; exact h
  | cons x t ih =>
    intro d m h hx
    have h1 := rel_put h x.1 x.2 (hx x (by simp))
    have := ih { d with bl := d.bl.set x.1 x.2 } _ h1 (fun y hy => by simp only [List.length_set]; exact hx y (by simp [hy]))
    exact this
theorem foldl_putRD_wait (l : List RW) : ∀ m : RD, (l.foldl putRD m).wait = m.wait := by
  induction l with
  | nil => intro m; rfl
  | cons x t ih => intro m; exact ih _
theorem rel_syncE {d : DState} {m : RD} (h : RelD d m) : syncRE m = syncE d := by unfold syncRE syncE; rw [h.off, rel_deedE h]
theorem rel_sync {d : DState} {m : RD} (h : RelD d m) (hw : ∀ x ∈ d.wt, x.1 < d.bl.length) : RelD (syncD d) (syncRD m) := by
  unfold syncD syncRD
  rw [h.off, rel_deedE h]
  by_cases ho : d.off = true
  · rw [if_pos ho, if_pos ho]; exact h
  · rw [if_neg ho, if_neg ho]
    by_cases he : deedE d ≠ 0
    · rw [if_pos he, if_pos he]; exact rel_deed h
    · rw [if_neg he, if_neg he]
      have h1 := rel_syncs [] d.wt (deedD d) (deedRD m) (rel_deed h) (by rw [deedD_bl]; exact hw)
      rw [← h.wait, deedD_bl] at h1
      exact ⟨h1.count, h1.off, h1.fuse, h1.good, rfl⟩
theorem rel_backS {d : DState} {m : RD} (h : RelD d m) (keep torn k : Nat) (x : Wt) (hx : x.1 < d.bl.length) :
    RelD { d with bl := backStep keep torn k x d.bl } (backRS keep torn k ((x.1 : Int), x.2.1) m) := by
  unfold backStep backRS
  by_cases hk : bitAt keep k = true
  · rw [if_pos hk, if_pos hk]; exact rel_put h _ _ hx
  · rw [if_neg hk, if_neg hk]
    by_cases ht : bitAt torn k = true
    · rw [if_pos ht, if_pos ht]
      have := rel_put h x.1 (over (d.bl.getD x.1 zeroB) 0 (x.2.1.take 64)) hx
      have e : (over (d.bl.getD x.1 zeroB) 0 (x.2.1.take 64)).1 = x.2.1.take 64 ++ (goodR m (x.1 : Int)).drop 64 := by
        rw [h.good _ hx]
        have hl : (x.2.1.take 64).length = 64 := by rw [List.length_take, x.2.2]; rfl
        unfold over
        rw [dif_pos (by omega)]
        simp only [hl, List.take_zero, List.nil_append, Nat.zero_add]
      rw [e] at this
      exact this
    · rw [if_neg ht, if_neg ht]; exact h
theorem rel_backs (keep torn : Nat) (wt : List Wt) : ∀ (k : Nat) (d : DState) (m : RD), RelD d m → (∀ x ∈ wt, x.1 < d.bl.length) →
    RelD { d with bl := backBl keep torn k wt d.bl } (backRL keep torn k (wt.map fun x => ((x.1 : Int), x.2.1)) m) := by
  induction wt with
  | nil => intro k d m h _; exact h
  | cons x t ih =>
    intro k d m h hx
    have h1 := rel_backS h keep torn k x (hx x (by simp))
    exact ih (k + 1) { d with bl := backStep keep torn k x d.bl } _ h1 (fun y hy => by simp only [backStep_len]; exact hx y (by simp [hy]))
theorem rel_back {d : DState} {m : RD} (h : RelD d m) (keep torn : Nat) (hw : ∀ x ∈ d.wt, x.1 < d.bl.length) : RelD (backD d keep torn) (backRD m keep torn) := by
  unfold backD backRD
  have h1 := rel_backs keep torn d.wt 0 d m h hw
  rw [← h.wait] at h1
  exact ⟨h1.count, rfl, rfl, h1.good, rfl⟩
theorem rel_spoilE {d : DState} {m : RD} (h : RelD d m) (i at_ : Int) : spoilRE m i at_ = spoilE d i at_ := by unfold spoilRE spoilE; rw [h.count]
theorem rel_spoil {d : DState} {m : RD} (h : RelD d m) (i at_ : Int) (c : UInt8) : RelD (spoilD d i at_ c) (spoilRD m i at_ c) := by
  unfold spoilD spoilRD
  rw [rel_spoilE h]
  by_cases he : spoilE d i at_ ≠ 0
  · rw [if_pos he, if_pos he]; exact h
  · rw [if_neg he, if_neg he]
    have hi : 0 ≤ i ∧ i < (d.bl.length : Int) ∧ 0 ≤ at_ ∧ at_ < 128 := by
      unfold spoilE at he
      split at he
      · assumption
      · simp at he
    obtain ⟨k, rfl⟩ : ∃ k : Nat, i = (k : Int) := ⟨i.toNat, by omega⟩
    obtain ⟨j, rfl⟩ : ∃ j : Nat, at_ = (j : Int) := ⟨at_.toNat, by omega⟩
    rw [Int.toNat_natCast, Int.toNat_natCast]
    have hk : k < d.bl.length := by omega
    have hg := h.good k hk
    have := rel_put h k (over (d.bl.getD k zeroB) j [(d.bl.getD k zeroB).1.getD j 0 ^^^ c]) hk
    have e : (over (d.bl.getD k zeroB) j [(d.bl.getD k zeroB).1.getD j 0 ^^^ c]).1 = (goodR m (k : Int)).set j ((goodR m (k : Int)).getD j 0 ^^^ c) := by
      rw [hg]
      apply List.ext_getElem?
      intro q
      have hl := (d.bl.getD k zeroB).2
      rw [over_get _ _ _ (by simp; omega), List.getElem?_set]
      by_cases hq : j = q
      · subst hq
        rw [if_pos (by simp), if_pos rfl, if_pos (by omega), Nat.sub_self]
        rfl
      · rw [if_neg (by simp; omega), if_neg hq]
    rw [e] at this
    exact this
theorem rel_new (n : Nat) : RelD { bl := List.replicate n zeroB, wt := [], off := false, fuse := -1 } (newR (n : Int)) := by
  refine ⟨by simp [newR], rfl, rfl, fun i hi => ?_, rfl⟩
  show zerosL = _
  rw [List.getD_eq_getElem?_getD, List.getElem?_replicate]
  split <;> rfl
end Go.Proofs.Ytpoicbhbkabllaa

namespace Go.Proofs.Ytpoicbhbkabllaa
set_option linter.unusedSimpArgs false
set_option linter.unusedVariables false
open Go.RowKit Go.Shelf
attribute [local go_sem] Oper.semAt_some

/-- what a round keeps: each block of cells, but those of B -/
structure Kp (B : Nat → Prop) (W W' : World) : Prop where
  size : W.heap.size ≤ W'.heap.size
  same : ∀ (k : Nat) (o : Obj), ¬ B k → W.heap[k]? = some o → o.isCells = true → W'.heap[k]? = some o
section
variable {B : Nat → Prop} {W W' W'' : World}
theorem Kp.refl (B : Nat → Prop) (W : World) : Kp B W W := ⟨Nat.le_refl _, fun _ _ _ h _ => h⟩
theorem Kp.trans (h : Kp B W W') (k : Kp B W' W'') : Kp B W W'' := ⟨Nat.le_trans h.size k.size, fun i o hi h1 h2 => k.same i o hi (h.same i o hi h1 h2) h2⟩
theorem Kp.putObj (B : Nat → Prop) (m : Nat) (W : World) (l : Nat) (o o' : Obj) (_ : m ≤ l) (ho : W.heap[l]? = some o) (hc : o.isCells = false) (_ : o.isWalk = false) : Kp B W (W.putObj l o') :=
  ⟨(grownBy_putObj' W l o').size, fun k q _ hk hq => by
    have hne : k ≠ l := fun e => by subst e; rw [ho] at hk; injection hk with hk; subst hk; rw [hc] at hq; cases hq
    exact ((grownBy_putObj' W l o').block k (Array.getElem?_eq_some_iff.1 hk).1 (fun e => hne (by injection e))).trans hk⟩
theorem Kp.ofGrown {row : Option Nat} (h : W.grownBy W' row) (hr : ∀ k, row = some k → B k) : Kp B W W' :=
  ⟨h.size, fun k o hb hk _ => (h.block k (Array.getElem?_eq_some_iff.1 hk).1 (fun e => hb (hr k e.symm))).trans hk⟩
theorem Kp.set (W : World) (p : Addr) (u : Value) (h : B p.block) : Kp B W (W.setCell p u) := Kp.ofGrown (gset W p u) fun k e => by injection e with e; rw [← e]; exact h
theorem Kp.alloc (B : Nat → Prop) (W : World) (o : Obj) : Kp B W (W.alloc o) := Kp.ofGrown (gbelow (balloc W o) none) fun _ e => by cases e
theorem Kp.drew (B : Nat → Prop) (W : World) : Kp B W W.drew := ⟨Nat.le_refl _, fun _ _ _ h _ => h⟩
theorem Kp.drewN (B : Nat → Prop) (W : World) (n : Nat) : Kp B W (W.drewN n) := ⟨Nat.le_refl _, fun _ _ _ h _ => h⟩
theorem Kp.ofBelow (h : Below W.heap.size W W') : Kp B W W' := Kp.ofGrown (gbelow h none) fun _ e => by cases e
theorem Kp.cell (h : Kp B W W') {p : Addr} {v : Value} (hp : W.cell? p = some v) (hb : ¬ B p.block) : W'.cell? p = some v := by
  cases ho : W.heap[p.block]? with
  | none => simp [World.cell?, ho] at hp
  | some o =>
    cases o with
    | cells c e fr =>
      have := h.same _ _ hb ho rfl
      simp only [World.cell?, ho] at hp
      simp only [World.cell?, this]
      exact hp
    | _ => simp [World.cell?, ho] at hp
theorem Kp.row {α : Type} {C : Cdc α} {B0 : Nat} {v : Value} {l : List α} (hC : ∀ w cs x, C.at_ w (fun _ => True) cs x → C.at_ W' (fun _ => True) cs x) (hk : Kp B W W') (hB : ∀ k, B k → B0 ≤ k) (h : RowOn C W (fun k => k < B0) (fun _ => True) v l) : RowOn C W' (fun k => k < B0) (fun _ => True) v l := by
  obtain ⟨A, c, h1, h2, h3, h4⟩ := h
  refine ⟨A, c, h1, h2, h3, fun hn => ?_⟩
  obtain ⟨ad, e, hb', hc⟩ := h4 hn
  refine ⟨ad, e, hb', fun i x hx => ?_⟩
  obtain ⟨cs, ha, hcs⟩ := hc i x hx
  exact ⟨cs, hC _ _ _ ha, fun j u hu => hk.cell (hcs j u hu) fun hb => by have := hB _ hb; rw [add_block] at this; omega⟩
theorem Kp.box {T : TypeId} {g : Nat} {cs : List Value} (hk : Kp B W W') (hb : ¬ B g) (h : BoxAt T W g cs) : BoxAt T W' g cs := hk.same g _ hb h rfl
end

/-- what has come when k rounds are over -/
def upto {α : Type} (f : Nat → α) (k : Nat) : List α := (List.range k).map f
theorem upto_succ {α : Type} (f : Nat → α) (k : Nat) : upto f (k + 1) = upto f k ++ [f k] := by simp [upto, List.range_succ]
theorem upto_length {α : Type} (f : Nat → α) (k : Nat) : (upto f k).length = k := by simp [upto]
theorem upto_mem {α : Type} (f : Nat → α) (k : Nat) (x : α) : x ∈ upto f k ↔ ∃ j, j < k ∧ f j = x := by simp [upto]
theorem BoxAt.ownk {T : TypeId} {g : Nat} {cs : List Value} {X Y : World} {row : Option Nat} (hb : BoxAt T X g cs) (hg : X.grownBy Y row) (hr : ∀ r, row = some r → ∃ o : Obj, X.heap[r]? = some o ∧ o.isCells = false) : BoxAt T Y g cs :=
  hb.grown hg fun e => by
    obtain ⟨o, ho, hc⟩ := hr _ e
    rw [show _ = _ from hb] at ho
    injection ho with ho
    subst ho
    cases hc

/-! ### whole things, within a fence -/
section
variable {F : Fence} {n : Nat} {ops : Array Oper} {rest : List Oper} {o : Oper} {a : Act} {w : World} {Q : Exit → Act → World → Prop}
theorem wpListIn_load_agg (hgd : o.guard = none) (T : TypeId) (x : Operand) (ho : o.op = .load T x)
    (ad : Addr) (hx : a.eval x = .pointer (some ad)) (cs : List Value) (hc : ∀ (j : Nat) (v : Value), cs[j]? = some v → w.cell? (ad.add j) = some v) {d : TypeDesc} (hu : Try.prog.underlying T = some d)
    (hd : (match d with | .struct _ | .array _ _ => true | _ => false) = true) (hi : (Try.prog.info? T).map (·.size) = some cs.length)
    (h : wpListIn F n Try.prog ops Q rest (a.put o.dst (.agg cs.toArray)) w) : wpListIn F n Try.prog ops Q (o :: rest) a w :=
  wpListIn_plain hgd fun K hK => by
    unfold Oper.wpIn
    refine ⟨by simp [Oper.about, ho], ?_⟩
    rw [Oper.semAt_plain F _ _ (by rw [ho]; intro c hc'; cases hc')]
    unfold execOp
    simp only [ho, hx, Instr.loadAt, Instr.sureAddr, Sem.run_bind, Sem.run_pure, Result.andThen_ok, run_loadVar_cells w ad T cs hc hu hd hi]
    exact hK _ _ h
theorem wpListIn_store_box (hgd : o.guard = none) (T T' : TypeId) (x y : Operand) (ho : o.op = .store T x y)
    (g : Nat) (cs ds : List Value) (hx : a.eval x = .pointer (some ⟨g, 0, none⟩)) (hy : a.eval y = .agg ds.toArray) (hs : BoxAt T' w g cs) (hl : ds.length = cs.length) (h1 : ∀ u ∈ ds, u.oneCell' = true)
    (hi : (Try.prog.info? T).map (·.size) = some ds.length)
    (h : BoxAt T' (w.setRow g ds.toArray) g ds → wpListIn F n Try.prog ops Q rest (a.put o.dst undef) (w.setRow g ds.toArray)) : wpListIn F n Try.prog ops Q (o :: rest) a w :=
  wpListIn_plain hgd fun K hK => by
    unfold Oper.wpIn
    refine ⟨by simp [Oper.about, ho], ?_⟩
    rw [Oper.semAt_plain F _ _ (by rw [ho]; intro c hc'; cases hc')]
    have hst := run_storeVar_row (P := Try.prog) w g T' T cs.toArray ds.toArray hs (by simpa using hi) (by simpa using hl) (by simpa using h1)
    unfold execOp
    simp only [ho, hx, hy, Instr.storeAt, Instr.sureAddr, Sem.run_bind, Sem.run_pure, Result.andThen_ok, hst]
    exact hK _ _ (h (hs.setRow ds))
theorem wpListIn_alloc_z (hgd : o.guard = none) (T : TypeId) (ho : o.op = .alloc T) {z : Value} {m bytes : Nat}
    (hinfo : (Try.prog.info? T).map (fun i => (i.zero, i.size, i.bytes)) = some (some z, m, bytes)) (cs : List Value) (hz : z.cells = cs.toArray)
    (h : wpListIn F n Try.prog ops Q rest (a.put o.dst (.pointer (some ⟨w.heap.size, 0, none⟩))) (w.alloc (.cells cs.toArray T))) : wpListIn F n Try.prog ops Q (o :: rest) a w :=
  wpListIn_plain hgd fun K hK => by
    obtain ⟨i, hi, hz0, hz1, hby⟩ := info_parts hinfo
    have hr : (Instr.alloc T true (.tuple #[])).run Try.prog w = .ok (.pointer (some ⟨w.heap.size, 0, none⟩)) (w.alloc (.cells cs.toArray T)) := by
      simp [Instr.alloc, Sem.run_bind, zeroValue, typeInfo, hi, hz0, newVar, newRow, hz]
    unfold Oper.wpIn
    refine ⟨by simp [Oper.about, ho], ?_⟩
    rw [Oper.semAt_plain F _ _ (by rw [ho]; intro c hc'; cases hc')]
    unfold execOp
    simp only [ho, Sem.run_bind, hr, Result.andThen_ok]
    exact hK _ _ h
theorem wpListIn_store_new (hgd : o.guard = none) (T : TypeId) (x y : Operand) (ho : o.op = .store T x y)
    (cs ds : List Value) (hx : a.eval x = .pointer (some ⟨w.heap.size, 0, none⟩)) (hy : a.eval y = .agg ds.toArray) (hi : (Try.prog.info? T).map (·.size) = some ds.length) (hl : cs.length = ds.length) (h1 : ∀ u ∈ ds, u.oneCell' = true)
    (h : wpListIn F n Try.prog ops Q rest (a.put o.dst undef) (w.alloc (.cells ds.toArray T))) : wpListIn F n Try.prog ops Q (o :: rest) a (w.alloc (.cells cs.toArray T)) :=
  wpListIn_plain hgd fun K hK => by
    unfold Oper.wpIn
    refine ⟨by simp [Oper.about, ho], ?_⟩
    rw [Oper.semAt_plain F _ _ (by rw [ho]; intro c hc'; cases hc')]
    unfold execOp
    simp only [ho, hx, hy, Instr.storeAt, Instr.sureAddr, Sem.run_bind, Sem.run_pure, Result.andThen_ok, run_storeVar_new w T cs.toArray ds.toArray (by simpa using hi) (by simpa using hl) (all_oneCell_toArray h1)]
    exact hK _ _ h
end
/-! ### bytes in a block of the call's own, of whatever array type -/
theorem By.ofBox {T : TypeId} {w : World} {g : Nat} {l : List UInt8} (h : BoxAt T w g (b8s l)) (hm : l.length ≤ maxLen) : By w w.heap.size (.slice (some ⟨g, 0, none⟩) l.length l.length) l :=
  ⟨_, _, rfl, Nat.le_refl _, hm, by rw [b8s_length]; omega, fun _ => ⟨_, rfl, h.lt, h.cells⟩⟩
/-- v reads as l, in a block from B on (or is nil), and may be written -/
def Fresh (B : Nat) (w : World) (v : Value) (l : List UInt8) : Prop :=
  (v = .slice none 0 0 ∧ l = []) ∨ ∃ g c T cs, v = .slice (some ⟨g, 0, none⟩) l.length c ∧ l.length ≤ c ∧ c ≤ maxLen ∧ B ≤ g ∧ BoxAt T w g cs ∧ ∀ (j : Nat) (u : Value), (b8s l)[j]? = some u → cs[j]? = some u
section
variable {B : Nat} {w w' : World} {v : Value} {l : List UInt8}
theorem Fresh.nil_ : Fresh B w (.slice none 0 0) [] := .inl ⟨rfl, rfl⟩
theorem Fresh.by_ (h : Fresh B w v l) : By w w.heap.size v l := by
  rcases h with ⟨rfl, rfl⟩ | ⟨g, c, T, cs, rfl, h1, h2, h3, h4, h5⟩
  · exact By.nil_
  · exact ⟨_, _, rfl, h1, h2, by rw [b8s_length]; omega, fun _ => ⟨_, rfl, h4.lt, fun j u hu => h4.cells j u (h5 j u hu)⟩⟩
theorem Fresh.form (h : Fresh B w v l) : ∃ A c, v = .slice A l.length c ∧ l.length ≤ c ∧ c ≤ maxLen := by
  rcases h with ⟨rfl, rfl⟩ | ⟨g, c, T, cs, rfl, h1, h2, h3, h4⟩
  · exact ⟨none, 0, rfl, Nat.le_refl _, Nat.zero_le _⟩
  · exact ⟨_, c, rfl, h1, h2⟩
theorem Fresh.more {B' : Nat} (h : Fresh B w v l) (hB : B' ≤ B) : Fresh B' w v l := by
  rcases h with h | ⟨g, c, T, cs, h0, h1, h2, h3, h4⟩
  · exact .inl h
  · exact .inr ⟨g, c, T, cs, h0, h1, h2, Nat.le_trans hB h3, h4⟩
theorem Fresh.below_ (h : Fresh B w v l) (hb : Below w.heap.size w w') : Fresh B w' v l := by
  rcases h with h | ⟨g, c, T, cs, h0, h1, h2, h3, h4, h5⟩
  · exact .inl h
  · exact .inr ⟨g, c, T, cs, h0, h1, h2, h3, h4.below h4.lt hb, h5⟩
theorem Fresh.blk (h : Fresh B w v l) : ∀ q, v.ownBlock = some q → B ≤ q ∧ q < w.heap.size := by
  rcases h with ⟨rfl, rfl⟩ | ⟨g, c, T, cs, rfl, h1, h2, h3, h4, h5⟩
  · intro q hq; simp [Value.ownBlock] at hq
  · intro q hq
    have e : g = q := by injection hq
    subst e
    exact ⟨h3, h4.lt⟩
theorem Fresh.grown {row : Option Nat} (h : Fresh B w v l) (hg : w.grownBy w' row) (hne : ∀ q, v.ownBlock = some q → row ≠ some q) : Fresh B w' v l := by
  rcases h with h | ⟨g, c, T, cs, h0, h1, h2, h3, h4, h5⟩
  · exact .inl h
  · exact .inr ⟨g, c, T, cs, h0, h1, h2, h3, h4.grown hg (hne g (by rw [h0]; rfl)), h5⟩
theorem Fresh.chg {P : Nat → Prop} (h : Fresh B w v l) (hc : Chg P w w') (hn : ∀ q, v.ownBlock = some q → ¬ P q) : Fresh B w' v l := by
  rcases h with h | ⟨g, c, T, cs, h0, h1, h2, h3, h4, h5⟩
  · exact .inl h
  · exact .inr ⟨g, c, T, cs, h0, h1, h2, h3, h4.chg hc (hn g (by rw [h0]; rfl)), h5⟩
/-- a cell of it, and its being written -/
theorem Fresh.put {A : Option Addr} {n c : Nat} (h : Fresh B w (.slice A n c) l) (k : Nat) (hk : k < l.length) : ∃ g, A = some ⟨g, 0, none⟩ ∧ B ≤ g ∧ g < w.heap.size ∧ w.frozen? ⟨g, k, none⟩ = false ∧ w.cell? ⟨g, k, none⟩ = some (.int .u8 ((l[k]).toNat : Int)) ∧
    ∀ b : UInt8, Fresh B (w.setCell ⟨g, k, none⟩ (.int .u8 (b.toNat : Int))) (.slice A n c) (l.set k b) := by
  rcases h with ⟨h, rfl⟩ | ⟨g, c', T, cs, e, h1, h2, h3, h4, h5⟩
  · simp at hk
  · injection e with e1 e2 e3
    subst e1; subst e2; subst e3
    have hkc := h5 k _ (b8s_get l k hk)
    have hkl : k < cs.length := (List.getElem?_eq_some_iff.1 hkc).1
    refine ⟨g, rfl, h3, h4.lt, h4.frozen k, h4.cell k _ hkc, fun b => .inr ⟨g, c, T, cs.set k (b8 b), by rw [List.length_set], by rw [List.length_set]; exact h1, h2, h3, h4.put k (b8 b), fun j u hu => ?_⟩⟩
    have e : b8s (l.set k b) = (b8s l).set k (b8 b) := by unfold b8s; rw [List.map_set]
    rw [e, List.getElem?_set] at hu
    rw [List.getElem?_set]
    by_cases hkj : k = j
    · subst hkj
      rw [if_pos rfl, if_pos (by rw [b8s_length]; exact hk)] at hu
      rw [if_pos rfl, if_pos hkl]; exact hu
    · rw [if_neg hkj] at hu ⊢
      exact h5 j u hu
theorem Fresh.front {A : Option Addr} {n c k : Nat} (h : Fresh B w (.slice A n c) l) (hk : k ≤ l.length) (hk0 : 0 < k) : Fresh B w (.slice A k c) (l.take k) := by
  rcases h with ⟨h, rfl⟩ | ⟨g, c', T, cs, e, h1, h2, h3, h4, h5⟩
  · simp at hk; omega
  · injection e with e1 e2 e3
    subst e1; subst e3
    refine .inr ⟨g, c, T, cs, by simp [hk], by simp; omega, h2, h3, h4, fun j u hu => h5 j u ?_⟩
    unfold b8s at hu ⊢
    rw [List.map_take, List.getElem?_take] at hu
    split at hu
    · exact hu
    · cases hu
theorem Ow.fresh {base : Nat} (h : Ow w base v l) : Fresh base w v l := by
  obtain ⟨hz, h2⟩ := h
  rcases h2 with ⟨rfl, hn⟩ | ⟨g, cap, cur, rfl, hg, hh, h3, h4, h5, h6⟩
  · exact .inl ⟨rfl, List.eq_nil_of_length_eq_zero hn⟩
  · refine .inr ⟨g, cap, _, cur.toList, rfl, h3, h4, hg, hh, fun j u hu => ?_⟩
    rw [← h6, List.getElem?_take] at hu
    split at hu
    · exact hu
    · cases hu
end
end Go.Proofs.Ytpoicbhbkabllaa

namespace Go.Proofs.Ytpoicbhbkabllaa
set_option linter.unusedSimpArgs false
set_option linter.unusedVariables false
open Go.RowKit

def cRW : Cdc RW := Cdc.flat 2 (fun x => [.int .i64 x.1, .string (bst x.2)]) (fun x => x.2.length = 128) (fun _ => rfl) (fun x u hu => by simp at hu; rcases hu with rfl | rfl <;> rfl)
abbrev ByR (w : World) (O : Nat → Prop) (v : Value) (l : List RW) : Prop := RowOn cRW w O (fun _ => True) v l
theorem ByR.below {w w' : World} {O : Nat → Prop} {B : Nat} {v : Value} {l : List RW} (h : ByR w O v l) (hb : Below B w w') (hO : ∀ k, O k → k < B) : ByR w' O v l := by
  obtain ⟨A, c, h1, h2, h3, h4⟩ := h
  refine ⟨A, c, h1, h2, h3, fun hn => ?_⟩
  obtain ⟨ad, e, hb', hc⟩ := h4 hn
  refine ⟨ad, e, hb', fun i x hx => ?_⟩
  obtain ⟨cs, ha, hcs⟩ := hc i x hx
  exact ⟨cs, ha, fun j u hu => (hb.cell (by rw [add_block]; exact hO _ hb')).trans (hcs j u hu)⟩
theorem ByR.more {w : World} {O O' : Nat → Prop} {v : Value} {l : List RW} (h : ByR w O v l) (hB : ∀ k, O k → O' k) : ByR w O' v l := RowOn.mono h hB (fun _ hk => hk)
theorem ByR.chg {w w' : World} {O P : Nat → Prop} {v : Value} {l : List RW} (h : ByR w O v l) (hc : Chg P w w') (hO : ∀ k, O k → k < w.heap.size ∧ ¬ P k) : ByR w' O v l := by
  obtain ⟨A, c, h1, h2, h3, h4⟩ := h
  refine ⟨A, c, h1, h2, h3, fun hn => ?_⟩
  obtain ⟨ad, e, hb', hcc⟩ := h4 hn
  refine ⟨ad, e, hb', fun i x hx => ?_⟩
  obtain ⟨cs, ha, hcs⟩ := hcc i x hx
  exact ⟨cs, ha, fun j u hu => (World.cell?_of_block (hc.block _ (by rw [add_block]; exact (hO _ hb').1) (by rw [add_block]; exact (hO _ hb').2))).trans (hcs j u hu)⟩
theorem ByR.nil_ {w : World} {O : Nat → Prop} : ByR w O (.slice none 0 0) [] := RowOn.nil_
theorem ByR.ok {w : World} {O : Nat → Prop} {v : Value} {l : List RW} (h : ByR w O v l) : ∀ x ∈ l, x.2.length = 128 := by
  intro x hx
  obtain ⟨i, hi, rfl⟩ := List.mem_iff_getElem.1 hx
  obtain ⟨A, c, rfl, _, _⟩ := h.form
  obtain ⟨ad, cs, _, _, ⟨_, hk⟩, _⟩ := h.at_ i _ (List.getElem?_eq_getElem hi)
  exact hk
/-- the cells of the k-th -/
theorem ByR.cells {w : World} {O : Nat → Prop} {A : Option Addr} {n c : Nat} {l : List RW} (h : ByR w O (.slice A n c) l) (k : Nat) (hk : k < l.length) : n = l.length ∧ ∃ ad, A = some ad ∧ O ad.block ∧ w.cell? (ad.add (k * 2)) = some (.int .i64 (l[k]).1) ∧ w.cell? { block := (ad.add (k * 2)).block, off := (ad.add (k * 2)).off + 1 } = some (.string (bst (l[k]).2)) := by
  obtain ⟨ad, cs, e, hb, ⟨rfl, _⟩, hc⟩ := h.at_ k _ (List.getElem?_eq_getElem hk)
  refine ⟨(h.len_).1, ad, e, hb, hc 0 _ rfl, ?_⟩
  have := hc 1 _ rfl
  rw [← add_add] at this
  have e2 : (ad.add (k * cRW.n)).add 1 = { block := (ad.add (k * 2)).block, off := (ad.add (k * 2)).off + 1 } := by simp [Addr.add, cRW, Cdc.flat]; exact ⟨rfl, rfl⟩
  rw [e2] at this
  exact this
/-- the value v is a disk of the document's, its rows in blocks of O -/
def RDV (w : World) (O : Nat → Prop) (v : Value) (m : RD) : Prop := ∃ v1 v2, v = .agg #[.int .i64 m.count, .bool m.off, .int .i64 m.fuse, v1, v2] ∧ ByR w O v1 m.made ∧ ByR w O v2 m.wait ∧
  (-9223372036854775808 ≤ m.count ∧ m.count ≤ 9223372036854775807) ∧ (-9223372036854775808 ≤ m.fuse ∧ m.fuse ≤ 9223372036854775807)
section
variable {w w' : World} {O O' P : Nat → Prop} {v : Value} {m : RD}
theorem RDV.below {B : Nat} (h : RDV w O v m) (hb : Below B w w') (hO : ∀ k, O k → k < B) : RDV w' O v m := by
  obtain ⟨v1, v2, e, h1, h2, h3, h4⟩ := h
  exact ⟨v1, v2, e, h1.below hb hO, h2.below hb hO, h3, h4⟩
theorem RDV.chg (h : RDV w O v m) (hc : Chg P w w') (hO : ∀ k, O k → k < w.heap.size ∧ ¬ P k) : RDV w' O v m := by
  obtain ⟨v1, v2, e, h1, h2, h3, h4⟩ := h
  exact ⟨v1, v2, e, h1.chg hc hO, h2.chg hc hO, h3, h4⟩
theorem RDV.more (h : RDV w O v m) (hO : ∀ k, O k → O' k) : RDV w O' v m := by
  obtain ⟨v1, v2, e, h1, h2, h3, h4⟩ := h
  exact ⟨v1, v2, e, h1.more hO, h2.more hO, h3, h4⟩
end
/-- what a call has made, beside what there was -/
def Onew (O : Nat → Prop) (w w' : World) : Nat → Prop := fun k => O k ∨ (w.heap.size ≤ k ∧ k < w'.heap.size)
theorem lastR_len {l : List RW} (h : ∀ x ∈ l, x.2.length = 128) (i : Int) : ∀ b : List UInt8, b.length = 128 → (lastR l i b).length = 128 := by
  induction l with
  | nil => intro b hb; exact hb
  | cons x t ih =>
    intro b hb
    show (lastR t i (if x.1 = i then x.2 else b)).length = 128
    refine ih (fun y hy => h y (by simp [hy])) _ ?_
    split
    · exact h x (by simp)
    · exact hb
theorem zerosL_len : zerosL.length = 128 := by simp [zerosL]
theorem goodR_len {w : World} {O : Nat → Prop} {v : Value} {m : RD} (h : ByR w O v m.made) (i : Int) : (goodR m i).length = 128 := lastR_len h.ok i _ zerosL_len

set_option maxRecDepth 100000 in
set_option maxHeartbeats 1600000 in
theorem rzeros (w : World) : Calls Try.prog 74 #[] w fun e w' => e = .returned (.string (bst zerosL)) ∧ Below w.heap.size w w' := by
  have hmk : ∀ w : World, (Instr.makeSlice 30 (.int .i64 128) (.int .i64 128)).run Try.prog w = .ok (.slice (some ⟨w.heap.size, 0, none⟩) 128 128) (w.alloc (.cells (b8s zerosL).toArray 5)) := fun _ => by kernel_rfl
  have hby : By (w.alloc (.cells (b8s zerosL).toArray 5)) (w.heap.size + 1) (.slice (some ⟨w.heap.size, 0, none⟩) 128 128) zerosL := by
    have := By.new_ w zerosL (by simp [zerosL, maxLen])
    rwa [zerosL_len] at this
  have hc := conv8 hby
  clear hby
  generalize hz : b8s zerosL = Z at *
  generalize hz2 : bst zerosL = Z2 at *
  clear hz hz2
  go_enter Try.func74, Try.ntmps74
  go_wp2_with fail
  go_ret
  exact ⟨rfl, balloc w _⟩

set_option maxRecDepth 100000 in
set_option maxHeartbeats 1600000 in
theorem rlast (w : World) (O : Nat → Prop) (v : Value) (l : List RW) (i : Int) (b : List UInt8) (hl : l.length ≤ 1000000) (h : ByR w O v l) :
    Calls Try.prog 48 #[v, .int .i64 i, .string (bst b)] w fun e w' => e = .returned (.string (bst (lastR l i b))) ∧ w = w' := by
  obtain ⟨A, c, rfl, hc1, hc2⟩ := h.form
  unfold maxLen at hc2
  have H := Lib.hid h
  clear h
  go_enter Try.func48, Try.ntmps48
  go_wp2_with fail
  go_loop [2, 7, 10] (fun bv xv iv => ∃ k : Nat, k ≤ l.length ∧ iv = .int .i64 k ∧ bv = .string (bst (lastR (l.take k) i b))) (fun _ _ i => l.length - (intOf i).toNat)
  case atStart => exact ⟨0, by omega, rfl, rfl⟩
  case round =>
    obtain ⟨k, hk, rfl, rfl⟩ := hrel
    by_cases hlt : k < l.length
    · obtain ⟨_, ad, rfl, hab, k1, k2⟩ := H.out.cells k hlt
      have hsn := lastR_snoc (l.take k) (l[k]) i b
      have htk : l.take (k + 1) = l.take k ++ [l[k]] := by rw [List.take_add_one, List.getElem?_eq_getElem hlt]; rfl
      rw [← htk] at hsn
      clear htk
      generalize lastR (l.take k) i b = cur at *
      generalize l[k] = x at *
      obtain ⟨x1, x2⟩ := x
      simp only at k1 k2 hsn
      by_cases he : x1 = i
      · rw [if_pos he] at hsn
        have hd : (x1 == i) = true := by simp [he]
        have Hsn := Lib.hid hsn
        clear he hsn
        go_wp2_with fail
        go_round
        case rel => exact ⟨k + 1, by omega, by go_num, by rw [Hsn.out]⟩
        case measure => simp [intOf]; omega
      · rw [if_neg he] at hsn
        have hd : (x1 == i) = false := beq_eq_false_iff_ne.2 he
        have Hsn := Lib.hid hsn
        clear he hsn
        go_wp2_with fail
        go_round
        case rel => exact ⟨k + 1, by omega, by go_num, by rw [Hsn.out]⟩
        case measure => simp [intOf]; omega
    · obtain rfl : k = l.length := by omega
      rw [List.take_length]
      go_wp2_with fail
      go_ret
      exact ⟨rfl, rfl⟩

theorem testBit_div (n k : Nat) : n.testBit k = ((n / 2 ^ k) % 2 == 1) := by
  rw [Nat.testBit_eq_decide_div_mod_eq]
  rcases Nat.mod_two_eq_zero_or_one (n / 2 ^ k) with h | h <;> simp [h]
set_option maxRecDepth 100000 in
set_option maxHeartbeats 1600000 in
theorem rbit (w : World) (n i : Nat) (hn : n < 18446744073709551616) (hi : i ≤ 1000000) :
    Calls Try.prog 73 #[.int .u64 (n : Int), .int .i64 (i : Int)] w fun e w' => e = .returned (.bool (bitAt n i)) ∧ w = w' := by
  have hrem : (i : Int).tmod 64 = ((i % 64 : Nat) : Int) := by rw [Int.tmod_eq_emod_of_nonneg (by omega)]; rfl
  have hj : i % 64 < 64 := Nat.mod_lt _ (by decide)
  unfold bitAt
  rw [testBit_div]
  have hrem2 : (i : Int) % 64 = ((i % 64 : Nat) : Int) := rfl
  have hm : i % 64 ≤ i := Nat.mod_le _ _
  generalize i % 64 = j at *
  go_enter Try.func73, Try.ntmps73
  go_wp2_with fail
  go_loop [0, 5] (fun nv iv => ∃ k : Nat, k ≤ j ∧ iv = .int .i64 k ∧ nv = .int .u64 ((n / 2 ^ k : Nat) : Int)) (fun _ i => j - (intOf i).toNat)
  case atStart => exact ⟨0, by omega, rfl, by simp⟩
  case round =>
    obtain ⟨k, hk, rfl, rfl⟩ := hrel
    have hdk : n / 2 ^ (k + 1) = n / 2 ^ k / 2 := by rw [Nat.pow_succ, Nat.div_div_eq_div_mul]
    have hle : n / 2 ^ k ≤ n := Nat.div_le_self _ _
    have Hdk := Lib.hid hdk
    clear hdk
    by_cases hlt : k < j
    · generalize n / 2 ^ k = q at *
      have hq1 : IntKind.u64.wrap ((q : Int).tdiv 2) = ((q / 2 : Nat) : Int) := by rw [wrap_u64, Int.tdiv_eq_ediv_of_nonneg (by omega)]; omega
      have hq2 : IntKind.u64.wrap ((q : Int) / 2) = ((q / 2 : Nat) : Int) := by rw [wrap_u64]; omega
      have hlt' : decide ((k : Int) < (j : Int)) = true := decide_eq_true (by omega)
      go_wp2_with fail
      go_round
      case rel => exact ⟨k + 1, by omega, by go_num, by rw [Hdk.out]; first | rfl | simp⟩
      case measure => simp [intOf]; omega
    · obtain rfl : k = j := by omega
      generalize hq : n / 2 ^ k = q at *
      have Hq := Lib.hid hq
      clear hq
      have hlt' : decide ((k : Int) < (k : Int)) = false := decide_eq_false (by omega)
      go_wp2_with fail
      go_ret
      refine ⟨?_, rfl⟩
      rcases Nat.mod_two_eq_zero_or_one q with h | h
      · have h2 : (q : Int) % 2 = 0 := by omega
        rw [Hq.out]
        simp [h, h2]
      · have h2 : (q : Int) % 2 = 1 := by omega
        rw [Hq.out]
        simp [h, h2]
end Go.Proofs.Ytpoicbhbkabllaa

namespace Go.Proofs.Ytpoicbhbkabllaa
set_option linter.unusedSimpArgs false
set_option linter.unusedVariables false
open Go.RowKit

theorem readRE_off {m : RD} {i : Int} (h : m.off = true) : readRE m i = 6 := by unfold readRE; rw [if_pos h]
theorem readRE_in {m : RD} {i : Int} (h : m.off = false) (hi : 0 ≤ i ∧ i < m.count) : readRE m i = 0 := by unfold readRE; rw [if_neg (by simp [h]), if_pos hi]
theorem readRE_out {m : RD} {i : Int} (h : m.off = false) (hi : ¬ (0 ≤ i ∧ i < m.count)) : readRE m i = 9 := by unfold readRE; rw [if_neg (by simp [h]), if_neg hi]
theorem readRL_no {m : RD} {i : Int} (h : readRE m i ≠ 0) : readRL m i = [] := by unfold readRL; rw [if_pos h]
theorem readRL_yes {m : RD} {i : Int} (h : readRE m i = 0) : readRL m i = lastR m.wait i (goodR m i) := by unfold readRL; rw [if_neg (by simp [h])]
theorem BoxAt.blw {T : TypeId} {w w' : World} {g : Nat} {cs : List Value} (h : BoxAt T w g cs) (hb : Below w.heap.size w w') : BoxAt T w' g cs := h.below h.lt hb
set_option maxRecDepth 100000 in
set_option maxHeartbeats 1600000 in
theorem rgood (w : World) (O : Nat → Prop) (v : Value) (m : RD) (i : Int) (hO : ∀ k, O k → k < w.heap.size) (hl : m.made.length ≤ 1000000) (h : RDV w O v m) :
    Calls Try.prog 49 #[v, .int .i64 i] w fun e w' => e = .returned (.string (bst (goodR m i))) ∧ Below w.heap.size w w' := by
  obtain ⟨v1, v2, rfl, h1, h2, h3, h4⟩ := h
  have hb0 := balloc w (.cells #[.int .i64 m.count, .bool m.off, .int .i64 m.fuse, v1, v2] 42)
  have hbx := BoxAt.new_ 42 w [.int .i64 m.count, .bool m.off, .int .i64 m.fuse, v1, v2]
  have hz : w.heap.size < (w.alloc (.cells #[.int .i64 m.count, .bool m.off, .int .i64 m.fuse, v1, v2] 42)).heap.size := by simp
  have Hb0 := Lib.hid hb0
  have Hbx := Lib.hid hbx
  have H1 := Lib.hid (h1.below hb0 hO)
  have HO := Lib.hid hO
  clear hb0 hbx h1 h2 h3 h4 hO
  go_enter Try.func49, Try.ntmps49
  go_wp2_with fail
  generalize w.alloc (.cells #[.int .i64 m.count, .bool m.off, .int .i64 m.fuse, v1, v2] 42) = w1 at *
  refine wp_region_typed [some 5, some 6, some 7, some 8, some 9, some 4] [5, 6, 7, 8, 9, 4]
    [Ph.is (.pointer (some ⟨w.heap.size, 3, none⟩)),
      Ph.is (v1),
      Ph.is (.int .i64 i),
      Ph.is (.string (bst zerosL)),
      Ph.is (.string (bst (goodR m i))),
      Ph.is (.string (bst (goodR m i)))] rfl rfl (by kernel_rfl) (by kernel_rfl) ?_ ?_
  · refine ⟨?_, ?_, ?_, ?_, ?_, ?_, trivial⟩
    · -- 0: slot 5 := Op.fieldAddr 42 t2 3
      refine ob_yes fun f w' hb hp => ?_
      simp [PreOf, factOf, valOf, Ph.is, Ph.by_, Ph.any, Region.binds] at hp
      refine ⟨by simp [Gd, valOf, hp], ?_⟩
      refine mild_val (.pointer (some ⟨w.heap.size, 3, none⟩)) ?_ rfl
      simp [execOp, evalF, hp, go_sem]
    · -- 1: slot 6 := Op.load 40 t5
      refine ob_yes fun f w' hb hp => ?_
      simp [PreOf, factOf, valOf, Ph.is, Ph.by_, Ph.any, Region.binds] at hp
      refine ⟨by simp [Gd, valOf, hp], ?_⟩
      refine mild_val v1 ?_ rfl
      have hc := (Hbx.out.blw hb).cell 3 _ rfl
      simp [execOp, evalF, hp, hc, go_sem]
    · -- 2: slot 7 := Op.move t1
      refine ob_yes fun f w' hb hp => ?_
      simp [PreOf, factOf, valOf, Ph.is, Ph.by_, Ph.any, Region.binds] at hp
      refine ⟨by simp [Gd, valOf, hp], ?_⟩
      refine mild_val (.int .i64 i) ?_ rfl
      simp [execOp, evalF, hp]
    · -- 3: slot 8 := Op.call   value (Operand.func 74), args := #[], argTypes := #[]  
      refine ob_yes fun f w' hb hp => ?_
      simp [PreOf, factOf, valOf, Ph.is, Ph.by_, Ph.any, Region.binds] at hp
      refine ⟨by simp [Gd, valOf, hp], ?_⟩
      refine mild_call 74 _ _ Try.f74 Try.func74 (by kernel_rfl) (by kernel_rfl) rfl ?_
      simp [evalF, hp, Ph.is, Ph.by_, Ph.any]
      refine (rzeros w').mono fun ev w2 h => ?_
      obtain ⟨rfl, h2⟩ := h
      first | exact ⟨_, rfl, h2, rfl⟩ | exact ⟨rfl, h2⟩ | simpa using h2
    · -- 4: slot 9 := Op.call   value (Operand.func 48), args := #[t6, t7, t8], argTypes := #[40, 3, 9]  
      refine ob_yes fun f w' hb hp => ?_
      simp [PreOf, factOf, valOf, Ph.is, Ph.by_, Ph.any, Region.binds] at hp
      refine ⟨by simp [Gd, valOf, hp], ?_⟩
      refine mild_call 48 _ _ Try.f48 Try.func48 (by kernel_rfl) (by kernel_rfl) rfl ?_
      simp [evalF, hp, Ph.is, Ph.by_, Ph.any]
      refine (rlast w' _ v1 m.made i zerosL hl (H1.out.below hb (fun k hk => Nat.lt_trans (HO.out k hk) hz))).mono fun ev w2 h => ?_
      obtain ⟨rfl, rfl⟩ := h
      first | exact ⟨_, rfl, Below.refl _ _, rfl⟩ | exact ⟨rfl, Below.refl _ _⟩ | exact Below.refl _ _ | simpa using Below.refl _ _
    · -- 5: slot 4 := Op.assign t9
      refine ob_yes fun f w' hb hp => ?_
      simp [PreOf, factOf, valOf, Ph.is, Ph.by_, Ph.any, Region.binds] at hp
      refine ⟨by simp [Gd, valOf, hp], ?_⟩
      refine mild_val (.string (bst (goodR m i))) ?_ rfl
      simp [execOp, evalF, hp]
  · intro f w2 hb2 hp
    simp only [PostOf, Ph.is, Ph.by_, Ph.any] at hp
    obtain ⟨h0, h1, h2, h3, h4, h5, _⟩ := hp
    simp only [fills, List.foldl_cons, List.foldl_nil, Act.put, List.setIfInBounds_toArray, List.set_cons_zero, List.set_cons_succ, h0, h1, h2, h3, h4, h5]
    clear h0 h1 h2 h3 h4 h5
    have hb3 := Hb0.out.trans (hb2.mono (by omega))
    go_wp2_with fail
    go_ret
    exact ⟨rfl, hb3⟩
set_option maxRecDepth 100000 in
set_option maxHeartbeats 1600000 in
theorem rread (w : World) (O : Nat → Prop) (v : Value) (m : RD) (i : Int) (hO : ∀ k, O k → k < w.heap.size) (hl : m.made.length ≤ 1000000) (hl2 : m.wait.length ≤ 1000000) (h : RDV w O v m) :
    Calls Try.prog 25 #[v, .int .i64 i] w fun e w' => e = .returned (.tuple #[.string (bst (readRL m i)), .int .i64 (readRE m i)]) ∧ Below w.heap.size w w' := by
  obtain ⟨cn, of, fu, md, wt⟩ := m
  simp only at hl hl2
  have Hv := Lib.hid h
  obtain ⟨v1, v2, rfl, h1, h2, h3, h4⟩ := h
  simp only at h1 h2 h3 h4
  have hb0 := balloc w (.cells #[.int .i64 cn, .bool of, .int .i64 fu, v1, v2] 42)
  have hbx := BoxAt.new_ 42 w [.int .i64 cn, .bool of, .int .i64 fu, v1, v2]
  have hz : w.heap.size < (w.alloc (.cells #[.int .i64 cn, .bool of, .int .i64 fu, v1, v2] 42)).heap.size := by simp
  have hc1 := hbx.cell 1 _ rfl
  have hc0 := hbx.cell 0 _ rfl
  have Hb0 := Lib.hid hb0
  have Hbx := Lib.hid hbx
  have H2 := Lib.hid (h2.below hb0 hO)
  have HO := Lib.hid hO
  have Hv1 := Lib.hid (Hv.out.below hb0 hO)
  clear hb0 hbx h1 h2 h3 h4 Hv hO
  dsimp only
  cases of with
  | true =>
    rw [readRE_off rfl, readRL_no (by rw [readRE_off rfl]; decide)]
    go_enter Try.func25, Try.ntmps25
    go_wp2_with fail
    go_ret2
    exact ⟨rfl, Hb0.out⟩
  | false =>
    by_cases hi : 0 ≤ i ∧ i < cn
    · rw [readRE_in rfl hi, readRL_yes (readRE_in rfl hi)]
      have hd1 : decide (i < 0) = false := decide_eq_false (by omega)
      have hd2 : decide (cn ≤ i) = false := decide_eq_false (by omega)
      clear hi
      go_enter Try.func25, Try.ntmps25
      go_wp2_with fail
      clear hc0 hc1
      generalize w.alloc (.cells #[.int .i64 cn, .bool false, .int .i64 fu, v1, v2] 42) = w1 at *
      refine wp_region_typed [some 16, some 17, some 18, some 19, some 20, some 21, some 22, some 4, some 5] [16, 17, 18, 19, 20, 21, 22, 4, 5]
        [Ph.is (.pointer (some ⟨w.heap.size, 4, none⟩)),
          Ph.is (v2),
          Ph.is (.int .i64 i),
          Ph.is (.agg #[.int .i64 cn, .bool false, .int .i64 fu, v1, v2]),
          Ph.is (.int .i64 i),
          Ph.is (.string (bst (goodR ⟨cn, false, fu, md, wt⟩ i))),
          Ph.is (.string (bst (lastR wt i (goodR ⟨cn, false, fu, md, wt⟩ i)))),
          Ph.is (.string (bst (lastR wt i (goodR ⟨cn, false, fu, md, wt⟩ i)))),
          Ph.is (.int .i64 0)] rfl rfl (by kernel_rfl) (by kernel_rfl) ?_ ?_
      · refine ⟨?_, ?_, ?_, ?_, ?_, ?_, ?_, ?_, ?_, trivial⟩
        · -- 0: slot 16 := Op.fieldAddr 42 t2 4
          refine ob_yes fun f w' hb hp => ?_
          simp [PreOf, factOf, valOf, Ph.is, Ph.by_, Ph.any, Region.binds] at hp
          refine ⟨by simp [Gd, valOf, hp], ?_⟩
          refine mild_val (.pointer (some ⟨w.heap.size, 4, none⟩)) ?_ rfl
          simp [execOp, evalF, hp, go_sem]
        · -- 1: slot 17 := Op.load 40 t16
          refine ob_yes fun f w' hb hp => ?_
          simp [PreOf, factOf, valOf, Ph.is, Ph.by_, Ph.any, Region.binds] at hp
          refine ⟨by simp [Gd, valOf, hp], ?_⟩
          refine mild_val v2 ?_ rfl
          have hc := (Hbx.out.blw hb).cell 4 _ rfl
          simp [execOp, evalF, hp, hc, go_sem]
        · -- 2: slot 18 := Op.move t1
          refine ob_yes fun f w' hb hp => ?_
          simp [PreOf, factOf, valOf, Ph.is, Ph.by_, Ph.any, Region.binds] at hp
          refine ⟨by simp [Gd, valOf, hp], ?_⟩
          refine mild_val (.int .i64 i) ?_ rfl
          simp [execOp, evalF, hp]
        · -- 3: slot 19 := Op.load 42 t2
          refine ob_yes fun f w' hb hp => ?_
          simp [PreOf, factOf, valOf, Ph.is, Ph.by_, Ph.any, Region.binds] at hp
          refine ⟨by simp [Gd, valOf, hp], ?_⟩
          refine mild_val (.agg #[.int .i64 cn, .bool false, .int .i64 fu, v1, v2]) ?_ rfl
          have hl := run_loadVar_cells w' ⟨w.heap.size, 0, none⟩ 42 [.int .i64 cn, .bool false, .int .i64 fu, v1, v2] (Hbx.out.blw hb).cells Try.underlying42 rfl (by kernel_rfl)
          simp only [execOp, evalF, List.contains_eq_mem, Instr.loadAt, Instr.sureAddr, Sem.run_bind, Sem.run_pure, Result.andThen_ok]
          simp [hp, hl]
        · -- 4: slot 20 := Op.move t1
          refine ob_yes fun f w' hb hp => ?_
          simp [PreOf, factOf, valOf, Ph.is, Ph.by_, Ph.any, Region.binds] at hp
          refine ⟨by simp [Gd, valOf, hp], ?_⟩
          refine mild_val (.int .i64 i) ?_ rfl
          simp [execOp, evalF, hp]
        · -- 5: slot 21 := Op.call   value (Operand.func 49), args := #[t19, t20], argTypes := #[42, 3]  
          refine ob_yes fun f w' hb hp => ?_
          simp [PreOf, factOf, valOf, Ph.is, Ph.by_, Ph.any, Region.binds] at hp
          refine ⟨by simp [Gd, valOf, hp], ?_⟩
          refine mild_call 49 _ _ Try.f49 Try.func49 (by kernel_rfl) (by kernel_rfl) rfl ?_
          simp [evalF, hp, Ph.is, Ph.by_, Ph.any]
          refine (rgood w' _ _ ⟨cn, false, fu, md, wt⟩ i (fun k hk => Nat.lt_of_lt_of_le (Nat.lt_trans (HO.out k hk) hz) hb.size) hl (Hv1.out.below hb (fun k hk => Nat.lt_trans (HO.out k hk) hz))).mono fun ev w2 h => ?_
          obtain ⟨rfl, h2⟩ := h
          first | exact ⟨_, rfl, h2, rfl⟩ | exact ⟨rfl, h2⟩ | simpa using h2
        · -- 6: slot 22 := Op.call   value (Operand.func 48), args := #[t17, t18, t21], argTypes := #[40, 3, 9]  
          refine ob_yes fun f w' hb hp => ?_
          simp [PreOf, factOf, valOf, Ph.is, Ph.by_, Ph.any, Region.binds] at hp
          refine ⟨by simp [Gd, valOf, hp], ?_⟩
          refine mild_call 48 _ _ Try.f48 Try.func48 (by kernel_rfl) (by kernel_rfl) rfl ?_
          simp [evalF, hp, Ph.is, Ph.by_, Ph.any]
          refine (rlast w' _ v2 wt i (goodR ⟨cn, false, fu, md, wt⟩ i) hl2 (H2.out.below hb (fun k hk => Nat.lt_trans (HO.out k hk) hz))).mono fun ev w2 h => ?_
          obtain ⟨rfl, rfl⟩ := h
          first | exact ⟨_, rfl, Below.refl _ _, rfl⟩ | exact ⟨rfl, Below.refl _ _⟩ | exact Below.refl _ _ | simpa using Below.refl _ _
        · -- 7: slot 4 := Op.assign t22
          refine ob_yes fun f w' hb hp => ?_
          simp [PreOf, factOf, valOf, Ph.is, Ph.by_, Ph.any, Region.binds] at hp
          refine ⟨by simp [Gd, valOf, hp], ?_⟩
          refine mild_val (.string (bst (lastR wt i (goodR ⟨cn, false, fu, md, wt⟩ i)))) ?_ rfl
          simp [execOp, evalF, hp]
        · -- 8: slot 5 := Op.assign (const (0:i64))
          refine ob_yes fun f w' hb hp => ?_
          simp [PreOf, factOf, valOf, Ph.is, Ph.by_, Ph.any, Region.binds] at hp
          refine ⟨by simp [Gd, valOf, hp], ?_⟩
          refine mild_val (.int .i64 0) ?_ rfl
          simp [execOp, evalF, hp, go_sem]
      · intro f w2 hb2 hp
        simp only [PostOf, Ph.is, Ph.by_, Ph.any] at hp
        obtain ⟨h0, h1, h2, h3, h4, h5, h6, h7, h8, _⟩ := hp
        simp only [fills, List.foldl_cons, List.foldl_nil, Act.put, List.setIfInBounds_toArray, List.set_cons_zero, List.set_cons_succ, h0, h1, h2, h3, h4, h5, h6, h7, h8]
        clear h0 h1 h2 h3 h4 h5 h6 h7 h8
        have hb3 := Hb0.out.trans (hb2.mono (by omega))
        go_wp2_with fail
        go_ret2
        exact ⟨rfl, hb3⟩
    · rw [readRE_out rfl hi, readRL_no (by rw [readRE_out rfl hi]; decide)]
      by_cases hi0 : i < 0
      · have hd1 : decide (i < 0) = true := decide_eq_true hi0
        clear hi hi0
        go_enter Try.func25, Try.ntmps25
        go_wp2_with fail
        go_ret2
        exact ⟨rfl, Hb0.out⟩
      · have hd1 : decide (i < 0) = false := decide_eq_false hi0
        have hd2 : decide (cn ≤ i) = true := decide_eq_true (by omega)
        clear hi hi0
        go_enter Try.func25, Try.ntmps25
        go_wp2_with fail
        go_ret2
        exact ⟨rfl, Hb0.out⟩
end Go.Proofs.Ytpoicbhbkabllaa

namespace Go.Proofs.Ytpoicbhbkabllaa
set_option linter.unusedSimpArgs false
set_option linter.unusedVariables false
open Go.RowKit

/-- results: a struct that lies in memory, then a slot -/
theorem results_ct {fn : Func} {p q : Tmp} {T : TypeId} (h : fn.results = #[.cell p T, .tmp q]) (tmps : Array Value) (w : World) (g : Nat) (cs : List Value)
    (hp : tmps.getD p undef = .pointer (some ⟨g, 0, none⟩)) (hs : ∀ (j : Nat) (v : Value), cs[j]? = some v → w.cell? ((⟨g, 0, none⟩ : Addr).add j) = some v) {d : TypeDesc} (hu : Try.prog.underlying T = some d)
    (hd : (match d with | .struct _ | .array _ _ => true | _ => false) = true) (hi : (Try.prog.info? T).map (·.size) = some cs.length) :
    (results fn tmps).run Try.prog w = .ok (.tuple #[.agg cs.toArray, tmps.getD q undef]) w := by
  have hp' : tmps[p]?.getD undef = .pointer (some ⟨g, 0, none⟩) := by simpa using hp
  have hr := run_loadVar_cells w ⟨g, 0, none⟩ T cs hs hu hd hi
  simp [results, h, hp', asAddr, hr]
/-- how a disk of the document's lies in cells -/
abbrev encD (m : RD) (v1 v2 : Value) : List Value := [.int .i64 m.count, .bool m.off, .int .i64 m.fuse, v1, v2]
theorem RDV.mk' {w : World} {O : Nat → Prop} {m : RD} {v1 v2 : Value} (h1 : ByR w O v1 m.made) (h2 : ByR w O v2 m.wait) (h3 : -9223372036854775808 ≤ m.count ∧ m.count ≤ 9223372036854775807) (h4 : -9223372036854775808 ≤ m.fuse ∧ m.fuse ≤ 9223372036854775807) : RDV w O (.agg (encD m v1 v2).toArray) m := ⟨v1, v2, rfl, h1, h2, h3, h4⟩
set_option maxRecDepth 100000 in
set_option maxHeartbeats 1600000 in
theorem rnewD (w : World) (n : Int) (hn : -9223372036854775808 ≤ n ∧ n ≤ 9223372036854775807) :
    Calls Try.prog 22 #[.int .i64 n] w fun e w' => ∃ v, e = .returned v ∧ RDV w' (fun _ => False) v (newR n) ∧ Below w.heap.size w w' := by
  have Hn := Lib.hid hn
  clear hn
  go_enter Try.func22, Try.ntmps22
  go_wp2_with fail
  have hbx := BoxAt.new_ 42 w (encD (newR n) (.slice none 0 0) (.slice none 0 0))
  refine bodyPost_ret (results_c rfl _ _ w.heap.size (encD (newR n) (.slice none 0 0) (.slice none 0 0)) rfl (fun j v hj => (hbx.cells j v hj : _)) Try.underlying42 rfl (by kernel_rfl)) rfl ?_
  exact ⟨_, rfl, RDV.mk' ByR.nil_ ByR.nil_ Hn.out ⟨(by decide : (-9223372036854775808 : Int) ≤ -1), (by decide : (-1 : Int) ≤ 9223372036854775807)⟩, balloc w _⟩
set_option maxRecDepth 100000 in
set_option maxHeartbeats 1600000 in
theorem rdeed (w : World) (O : Nat → Prop) (v : Value) (m : RD) (hO : ∀ k, O k → k < w.heap.size) (h : RDV w O v m) :
    Calls Try.prog 71 #[v] w fun e w' => ∃ v', e = .returned (.tuple #[v', .int .i64 (deedRE m)]) ∧ RDV w' O v' (deedRD m) ∧ Below w.heap.size w w' := by
  obtain ⟨v1, v2, rfl, h1, h2, h3, h4⟩ := h
  obtain ⟨cn, of, fu, md, wt⟩ := m
  simp only at h1 h2 h3 h4
  obtain ⟨A1, c1, rfl, _⟩ := h1.form
  obtain ⟨A2, c2, rfl, _⟩ := h2.form
  have hbb : ∀ x y : Obj, Below w.heap.size w ((w.alloc x).alloc y) := fun x y => bstep (balloc w x) (balloc _ y)
  have H1 := Lib.hid (fun x y => h1.below (hbb x y) hO)
  have H2 := Lib.hid (fun x y => h2.below (hbb x y) hO)
  have Hb := Lib.hid hbb
  have H3 := Lib.hid h3
  have hfr := h4
  have H4 := Lib.hid h4
  clear h1 h2 h3 h4 hbb hO
  by_cases hf : fu = 0
  · have hd : (fu == 0) = true := by simp [hf]
    have e1 : deedRE ⟨cn, of, fu, md, wt⟩ = 6 := by unfold deedRE; rw [if_pos hf]
    have e2 : deedRD ⟨cn, of, fu, md, wt⟩ = ⟨cn, true, fu, md, wt⟩ := by unfold deedRD; rw [if_pos hf]
    rw [e1, e2]
    clear hf e1 e2 hfr
    go_enter Try.func71, Try.ntmps71
    go_wp2_with fail
    have hbx := BoxAt.new_ 42 (w.alloc (.cells (encD ⟨cn, true, fu, md, wt⟩ (.slice A1 md.length c1) (.slice A2 wt.length c2)).toArray 42)) (encD ⟨cn, true, fu, md, wt⟩ (.slice A1 md.length c1) (.slice A2 wt.length c2))
    rw [World.size_alloc] at hbx
    refine bodyPost_ret (results_ct rfl _ _ (w.heap.size + 1) (encD ⟨cn, true, fu, md, wt⟩ (.slice A1 md.length c1) (.slice A2 wt.length c2)) rfl (fun j v hj => (hbx.cells j v hj : _)) Try.underlying42 rfl (by kernel_rfl)) rfl ?_
    exact ⟨_, rfl, RDV.mk' (m := ⟨cn, true, fu, md, wt⟩) (H1.out _ _) (H2.out _ _) H3.out H4.out, Hb.out _ _⟩
  · have hd : (fu == 0) = false := beq_eq_false_iff_ne.2 hf
    by_cases hp : 0 < fu
    · have hd2 : decide (0 < fu) = true := decide_eq_true hp
      have hw : IntKind.i64.wrap (fu - 1) = fu - 1 := by rw [wrap_i64]; omega
      have e1 : deedRE ⟨cn, of, fu, md, wt⟩ = 0 := by unfold deedRE; rw [if_neg hf]
      have e2 : deedRD ⟨cn, of, fu, md, wt⟩ = ⟨cn, of, fu - 1, md, wt⟩ := by unfold deedRD; rw [if_neg hf, if_pos hp]
      have Hfr := Lib.hid (show -9223372036854775808 ≤ fu - 1 ∧ fu - 1 ≤ 9223372036854775807 by omega)
      rw [e1, e2]
      clear hf e1 e2 hfr hp
      go_enter Try.func71, Try.ntmps71
      go_wp2_with fail
      have hbx := BoxAt.new_ 42 (w.alloc (.cells (encD ⟨cn, of, fu - 1, md, wt⟩ (.slice A1 md.length c1) (.slice A2 wt.length c2)).toArray 42)) (encD ⟨cn, of, fu - 1, md, wt⟩ (.slice A1 md.length c1) (.slice A2 wt.length c2))
      rw [World.size_alloc] at hbx
      refine bodyPost_ret (results_ct rfl _ _ (w.heap.size + 1) (encD ⟨cn, of, fu - 1, md, wt⟩ (.slice A1 md.length c1) (.slice A2 wt.length c2)) rfl (fun j v hj => (hbx.cells j v hj : _)) Try.underlying42 rfl (by kernel_rfl)) rfl ?_
      exact ⟨_, rfl, RDV.mk' (m := ⟨cn, of, fu - 1, md, wt⟩) (H1.out _ _) (H2.out _ _) H3.out Hfr.out, Hb.out _ _⟩
    · have hd2 : decide (0 < fu) = false := decide_eq_false hp
      have e1 : deedRE ⟨cn, of, fu, md, wt⟩ = 0 := by unfold deedRE; rw [if_neg hf]
      have e2 : deedRD ⟨cn, of, fu, md, wt⟩ = ⟨cn, of, fu, md, wt⟩ := by unfold deedRD; rw [if_neg hf, if_neg hp]
      rw [e1, e2]
      clear hf e1 e2 hfr hp
      go_enter Try.func71, Try.ntmps71
      go_wp2_with fail
      have hbx := BoxAt.new_ 42 (w.alloc (.cells (encD ⟨cn, of, fu, md, wt⟩ (.slice A1 md.length c1) (.slice A2 wt.length c2)).toArray 42)) (encD ⟨cn, of, fu, md, wt⟩ (.slice A1 md.length c1) (.slice A2 wt.length c2))
      rw [World.size_alloc] at hbx
      refine bodyPost_ret (results_ct rfl _ _ (w.heap.size + 1) (encD ⟨cn, of, fu, md, wt⟩ (.slice A1 md.length c1) (.slice A2 wt.length c2)) rfl (fun j v hj => (hbx.cells j v hj : _)) Try.underlying42 rfl (by kernel_rfl)) rfl ?_
      exact ⟨_, rfl, RDV.mk' (m := ⟨cn, of, fu, md, wt⟩) (H1.out _ _) (H2.out _ _) H3.out H4.out, Hb.out _ _⟩
end Go.Proofs.Ytpoicbhbkabllaa
