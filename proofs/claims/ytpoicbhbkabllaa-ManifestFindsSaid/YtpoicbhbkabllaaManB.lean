/- manifest.body (printed by wip/gen/manb.py) -/
import Derived.Test.YtpoicbhbkabllaaManW
import Derived.Test.YtpoicbhbkabllaaAppStr
import Derived.Test.YtpoicbhbkabllaaVarPut
import Derived.Test.YtpoicbhbkabllaaMixM
namespace Go.Proofs.Ytpoicbhbkabllaa
set_option linter.unusedSimpArgs false
set_option linter.unusedVariables false
open Go.RowKit

theorem WrB.drew {T : TypeId} {g : Nat} {cs : List Value} {w1 w : World} {v : Value} {l : List UInt8} (h : WrB T w1 w g cs v l) : WrB T w1 w.drew g cs v l := ⟨h.own, h.blw.drew, h.box, h.ne⟩

set_option maxRecDepth 100000 in
set_option maxHeartbeats 3200000 in
theorem body_any (w : World) (v : Value) (m : MMan) (h : MAt w w.heap.size v m) (hsz : (bodyM m).length ≤ 274877906944) :
    Calls Try.prog 78 #[v] w fun e w' => ∃ v', e = .returned v' ∧ Ow w' w.heap.size v' (bodyM m) ∧ Below w.heap.size w w' := by
  obtain ⟨vf, rfl, hf⟩ := h
  obtain ⟨A, c, rfl, hc1, hc2⟩ := hf.form
  unfold maxLen at hc2
  obtain ⟨w1, hw1⟩ : ∃ w1, w1 = w.alloc (.cells (encM m (.slice A m.files.length c)).toArray 56) := ⟨_, rfl⟩
  have hb1 : Below w.heap.size w w1 := by rw [hw1]; exact balloc w _
  have hx1 : BoxAt 56 w1 w.heap.size (encM m (.slice A m.files.length c)) := by rw [hw1]; exact BoxAt.new_ _ _ _
  have hz1 : w.heap.size < w1.heap.size := by rw [hw1]; simp
  have hf1 := hf.below hb1
  have hc0x := hx1.cell 0 _ rfl
  have Hw1 := Lib.hid hw1
  have Hx1 := Lib.hid hx1
  have Hf1 := Lib.hid hf1
  have Hb1 := Lib.hid hb1
  have hml := bodyM_len m
  have hver := u64_lt m.ver
  have hnx := u32_lt m.next
  clear hw1 hx1 hf1 hb1 hf
  go_enter Try.func78, Try.ntmps78
  go_upto_region 1 with (fail)
  rw [← Hw1.out]
  go_wp2_with fail
  refine (vput_any w1 w1.heap.size _ [] (Ow.nil_ _ _) m.ver.toNat hver (by simp) (Nat.le_refl _)).mono ?_
  rintro _ w2 ⟨v2, rfl, how2, hx2⟩
  rw [List.nil_append] at how2
  have H2 : Hid (Wr w1 w2 v2 (vput m.ver.toNat)) := Lib.hid ⟨how2, hx2.below (Nat.le_refl _) (by simp [Value.ownBlock])⟩
  have m1_2 := (Hx1.out.blwM H2.out.blw).cell 1 _ rfl
  clear how2 hx2 hc0x
  go_wp2_with fail
  refine (vput_any w2 w1.heap.size _ _ H2.out.own m.next.toNat (by omega) (by (try simp only [List.length_append] at *); omega) H2.out.blw.size).mono ?_
  rintro _ w3 ⟨v3, rfl, ho3, hx3⟩
  have H3 := Lib.hid (H2.out.num (Below.refl _ _) hx3 ho3)
  clear ho3 hx3
  have m2_3 := (Hx1.out.blwM H3.out.blw).cell 2 _ rfl
  go_wp2_with fail
  refine (vput_any w3 w1.heap.size _ _ H3.out.own m.files.length (by omega) (by (try simp only [List.length_append] at *); omega) H3.out.blw.size).mono ?_
  rintro _ w4 ⟨v4, rfl, ho4, hx4⟩
  have H4 := Lib.hid (H3.out.num (Below.refl _ _) hx4 ho4)
  clear ho4 hx4
  have m2_4 := (Hx1.out.blwM H4.out.blw).cell 2 _ rfl
  have H4' : Hid (Wr w1 w4 v4 (vput m.ver.toNat ++ vput m.next.toNat ++ vput m.files.length)) := H4
  have hpre : (vput m.ver.toNat ++ vput m.next.toNat ++ vput m.files.length).length + (m.files.flatMap bodyF).length ≤ 274877906944 := by simp only [List.length_append]; omega
  have hbm : bodyM m = vput m.ver.toNat ++ vput m.next.toNat ++ vput m.files.length ++ m.files.flatMap bodyF := rfl
  have Hbm := Lib.hid hbm
  clear hbm hml hsz H4 H3 H2
  generalize vput m.ver.toNat ++ vput m.next.toNat ++ vput m.files.length = pre at *
  clear m1_2 m2_3
  go_wp2_with fail
  go_loopw [3, 25] (fun b i wr => ∃ k : Nat, k ≤ m.files.length ∧ i = .int .i64 k ∧ Wr w1 wr b (pre ++ (m.files.take k).flatMap bodyF)) (fun _ i _ => m.files.length - (intOf i).toNat)
  case atStart => exact ⟨0, by omega, rfl, by simpa using H4'.out⟩
  case round =>
    obtain ⟨k, hk, rfl, HW⟩ := hrel
    replace HW := Lib.hid HW
    by_cases hlt : k < m.files.length
    · have hle := flat_take_le bodyF m.files k hlt
      have hsc := flat_take_succ bodyF m.files k hlt
      have hbl := bodyF_len m.files[k]
      obtain ⟨_, ad, vb, rfl, hab, hbI, hfo, hcl⟩ := Hf1.out.cells k hlt
      obtain ⟨Ab, cb, rfl, hcb1, hcb2⟩ := hbI.form
      unfold maxLen at hcb2
      have hnl := hfo.1
      unfold maxLen at hnl
      have hbf : bodyF m.files[k] = vput m.files[k].name.length ++ m.files[k].name ++ vput m.files[k].id.toNat ++ vput (u64Of m.files[k].size) ++ nums m.files[k].blocks := rfl
      generalize hfk : m.files[k] = fl at *
      have hid := u32_lt fl.id
      have hsu := u64Of_lt fl.size
      have hsw := u64Of_wrap fl.size
      have Hsc := Lib.hid hsc
      have Hcl : Hid (∀ (j : Nat) (u : Value), (encF fl (.slice Ab fl.blocks.length cb))[j]? = some u → wr.cell? ((ad.add (k * 4)).add j) = some u) := Lib.hid fun j u hu => (HW.out.blw.cell (by rw [add_block, add_block]; omega)).trans (hcl j u hu)
      have HbI := Lib.hid hbI
      have Hbf := Lib.hid hbf
      have hsz : (bst fl.name).size = fl.name.length := rfl
      have hpl : (pre ++ (m.files.take k).flatMap bodyF).length + (bodyF fl).length ≤ 274877906944 := by simp only [List.length_append]; omega
      have m2_k := (Hx1.out.blwM HW.out.blw).cell 2 _ rfl
      clear hsc hcl hbI hfo hle hbf m2_4 hfk hpre
      generalize (m.files.take k).flatMap bodyF = mid at *
      go_upto_region 7 with (first
        | (refine wpList_load_agg rfl 62 (.tmp 27) rfl (ad.add (k * 4)) rfl (encF fl (.slice Ab fl.blocks.length cb)) Hcl.out Try.underlying62 rfl info_file4 ?_)
        | (refine wpList_alloc_z rfl 62 rfl info_file zeroFc zeroF_cells ?_)
        | (refine wpList_store_new rfl 62 (.tmp 5) (.tmp 28) rfl zeroFc (encF fl (.slice Ab fl.blocks.length cb)) rfl rfl info_file4 rfl (encF_one _ _ rfl) ?_))
      have H5 := Lib.hid (HW.out.put 62 (encF fl (.slice Ab fl.blocks.length cb)))
      clear Hcl m2_k
      generalize hg : wr.heap.size = g at *
      generalize wr.alloc (.cells (encF fl (.slice Ab fl.blocks.length cb)).toArray 62) = w5 at *
      have hcv : IntKind.u64.wrap (fl.name.length : Int) = (fl.name.length : Int) := by rw [wrap_u64]; omega
      simp only [Act.put, List.setIfInBounds_toArray, List.set_cons_zero, List.set_cons_succ]
      refine wp_region_mixL (ds := [29, 30, 31, 32, 33, 34, 35, 36]) 8 (fun bb vs W' => BoxAt 62 W' g (encF fl (.slice Ab fl.blocks.length cb)) ∧ (bb 5 = false → W' = w5.drew) ∧ (bb 5 = true → WrB 62 w1 W' g (encF fl (.slice Ab fl.blocks.length cb)) (vs 5) (pre ++ mid ++ vput fl.name.length))) [some 29, some 30, some 31, some 32, some 33, some 34, some 35, some 36]
        [fun v => v = u3, fun v => v = .pointer (some ⟨g, 0, none⟩), fun v => v = .string (bst fl.name), fun v => v = .int .i64 (fl.name.length : Int), fun v => v = .int .u64 (fl.name.length : Int), fun _ => True, fun v => v = .pointer (some ⟨g, 0, none⟩), fun v => v = .string (bst fl.name)]
        rfl rfl rfl (by kernel_rfl) (by kernel_rfl) ?_ (fun _ => ⟨H5.out.box, fun _ => rfl, fun h => by cases h⟩) ?_
      · refine ⟨?_, ?_, ?_, ?_, ?_, ?_, ?_, ?_, trivial⟩
        · -- 0: slot 29 := Op.move t3
          refine obM_yes fun f bb w' hj hs hd hp => ?_
          simp [PreO, factO, valOf, Region.binds] at hp hd
          refine ⟨by simp [Gd, valOf, hp], ?_⟩
          refine mildM_val (u3) (w' := w') ?_ rfl (by simpa using hj)
          simp [execOp, evalF, hp, go_sem]
        · -- 1: slot 30 := Op.fieldAddr 62 t5 0
          refine obM_yes fun f bb w' hj hs hd hp => ?_
          simp [PreO, factO, valOf, Region.binds] at hp hd
          refine ⟨by simp [Gd, valOf, hp], ?_⟩
          refine mildM_val (.pointer (some ⟨g, 0, none⟩)) (w' := w') ?_ rfl (by simpa using hj)
          simp [execOp, evalF, hp, go_sem]
        · -- 2: slot 31 := Op.load 9 t30
          refine obM_yes fun f bb w' hj hs hd hp => ?_
          simp [PreO, factO, valOf, Region.binds] at hp hd
          refine ⟨by simp [Gd, valOf, hp], ?_⟩
          have hc := hj.1.cell 0 _ rfl
          refine mildM_val (.string (bst fl.name)) (w' := w') ?_ rfl (by simpa using hj)
          simp [execOp, evalF, hp, go_sem, hc]
        · -- 3: slot 32 := Op.call   builtin len, args := #[t31], argTypes := #[9]  
          refine obM_yes fun f bb w' hj hs hd hp => ?_
          simp [PreO, factO, valOf, Region.binds] at hp hd
          refine ⟨by simp [Gd, valOf, hp], ?_⟩
          refine mildM_val (.int .i64 (fl.name.length : Int)) (w' := w') ?_ rfl (by simpa using hj)
          simp [execOp, evalF, hp, go_sem, hsz]
        · -- 4: slot 33 := Op.convert 3 33 t32
          refine obM_yes fun f bb w' hj hs hd hp => ?_
          simp [PreO, factO, valOf, Region.binds] at hp hd
          refine ⟨by simp [Gd, valOf, hp], ?_⟩
          refine mildM_val (.int .u64 (fl.name.length : Int)) (w' := w') ?_ rfl (by simpa using hj)
          simp [execOp, evalF, hp, go_sem, hcv]
        · -- 5: slot 34 := Op.call   value (Operand.func 93), args := #[t29, t33], argTypes := #[30, 33]  
          refine obM_yes fun f bb w' hj hs hd hp => ?_
          simp [PreO, factO, valOf, Region.binds] at hp hd
          refine ⟨by simp [Gd, valOf, hp], ?_⟩
          have hw' := hj.2.1 hs
          subst hw'
          refine mildM_call 93 _ _ Try.f93 Try.func93 (by kernel_rfl) (by kernel_rfl) rfl ?_
          refine calls_args (args' := #[u3, .int .u64 (fl.name.length : Int)]) (by simp [evalF, hp]) ?_
          refine (vput_any w5.drew w1.heap.size u3 (pre ++ mid) H5.out.drew.own fl.name.length (by omega) (by (try simp only [List.length_append] at *); omega) H5.out.blw.size).mono ?_
          rintro _ w9 ⟨v', rfl, ho, hx⟩
          have hr := H5.out.drew.num (Below.refl _ _) hx ho
          exact ⟨_, rfl, trivial, hr.box, fun h => (by cases h), fun _ => hr⟩
        · -- 6: slot 35 := Op.fieldAddr 62 t5 0
          refine obM_yes fun f bb w' hj hs hd hp => ?_
          simp [PreO, factO, valOf, Region.binds] at hp hd
          refine ⟨by simp [Gd, valOf, hp], ?_⟩
          refine mildM_val (.pointer (some ⟨g, 0, none⟩)) (w' := w') ?_ rfl (by simpa using hj)
          simp [execOp, evalF, hp, go_sem]
        · -- 7: slot 36 := Op.load 9 t35
          refine obM_yes fun f bb w' hj hs hd hp => ?_
          simp [PreO, factO, valOf, Region.binds] at hp hd
          refine ⟨by simp [Gd, valOf, hp], ?_⟩
          have hc := hj.1.cell 0 _ rfl
          refine mildM_val (.string (bst fl.name)) (w' := w') ?_ rfl (by simpa using hj)
          simp [execOp, evalF, hp, go_sem, hc]
      · intro f bb wd hall hj hp
        simp only [PostO] at hp
        obtain ⟨e0, e1, e2, e3, e4, _, e6, e7, _⟩ := hp
        simp only [fills, List.foldl_cons, List.foldl_nil, Act.put, List.setIfInBounds_toArray, List.set_cons_zero, List.set_cons_succ, e0, e1, e2, e3, e4, e6, e7]
        clear e0 e1 e2 e3 e4 e6 e7
        simp only [List.drop_succ_cons, List.drop_zero]
        have H6 := Lib.hid (hj.2.2 (by simp [hall]))
        clear hj H5
        go_wp2_with (at_builtin
                     refine wpList_apps rfl (.tmp 34) (.tmp 36) rfl fl.name H6.out.own rfl rfl (by (try simp only [List.length_append] at *); omega) H6.out.blw.size ?_
                     intro v7 w7 ho7 hx7
                     have H7 := Lib.hid (H6.out.num (Below.refl _ _) hx7 ho7)
                     clear ho7 hx7
                     have q1_7 := H7.out.box.cell 1 _ rfl)
        refine (vput_any w7 w1.heap.size _ _ H7.out.own fl.id.toNat (by omega) (by (try simp only [List.length_append] at *); omega) H7.out.blw.size).mono ?_
        rintro _ w8 ⟨v8, rfl, ho8, hx8⟩
        have H8 := Lib.hid (H7.out.num (Below.refl _ _) hx8 ho8)
        clear ho8 hx8
        have q2_8 := H8.out.box.cell 2 _ rfl
        go_wp2_with fail
        refine (vput_any w8 w1.heap.size _ _ H8.out.own (u64Of fl.size) hsu (by (try simp only [List.length_append] at *); omega) H8.out.blw.size).mono ?_
        rintro _ w9 ⟨v9, rfl, ho9, hx9⟩
        have H9 := Lib.hid (H8.out.num (Below.refl _ _) hx9 ho9)
        clear ho9 hx9
        have q3_9 := H9.out.box.cell 3 _ rfl
        have H9' : Hid (WrB 62 w1 w9 g (encF fl (.slice Ab fl.blocks.length cb)) v9 (pre ++ mid ++ vput fl.name.length ++ fl.name ++ vput fl.id.toNat ++ vput (u64Of fl.size))) := H9
        have hpl2 : (pre ++ mid ++ vput fl.name.length ++ fl.name ++ vput fl.id.toNat ++ vput (u64Of fl.size)).length + (nums fl.blocks).length ≤ 274877906944 := by simp only [List.length_append] at *; omega
        have hbm2 : pre ++ mid ++ bodyF fl = pre ++ mid ++ vput fl.name.length ++ fl.name ++ vput fl.id.toNat ++ vput (u64Of fl.size) ++ nums fl.blocks := by rw [Hbf.out]; simp only [List.append_assoc]
        have Hbm2 := Lib.hid hbm2
        clear H9 H8 H7 H6 hbl hpl Hbf hbm2
        generalize pre ++ mid ++ vput fl.name.length ++ fl.name ++ vput fl.id.toNat ++ vput (u64Of fl.size) = pf at *
        go_wp2_with fail
        go_loopw [3, 51] (fun b i wr => ∃ j : Nat, j ≤ fl.blocks.length ∧ i = .int .i64 j ∧ WrB 62 w1 wr g (encF fl (.slice Ab fl.blocks.length cb)) b (pf ++ nums (fl.blocks.take j))) (fun _ i _ => fl.blocks.length - (intOf i).toNat)
        case atStart => exact ⟨0, by omega, rfl, by simpa [nums] using H9'.out⟩
        case round =>
          obtain ⟨j, hj, rfl, HV⟩ := hrel
          replace HV := Lib.hid HV
          by_cases hjt : j < fl.blocks.length
          · have hns := nums_succ fl.blocks j hjt
            have hnle := nums_le fl.blocks j hjt
            obtain ⟨_, ad2, rfl, hab2, hcj, hj1, hj2⟩ := (HbI.out.below (HV.out.blw.mono (by omega))).cells j hjt
            have Hns := Lib.hid hns
            have hxu := u64Of_lt fl.blocks[j]
            have hxw := u64Of_wrap fl.blocks[j]
            have hql : (pf ++ nums (fl.blocks.take j)).length + (vput (u64Of fl.blocks[j])).length ≤ 274877906944 := by simp only [List.length_append]; omega
            have q3_j := HV.out.box.cell 3 _ rfl
            clear hns hnle hpl2
            generalize fl.blocks[j] = x at *
            generalize nums (fl.blocks.take j) = nj at *
            go_wp2_with fail
            refine (vput_any wr w1.heap.size _ _ HV.out.own (u64Of x) hxu (by (try simp only [List.length_append] at *); omega) HV.out.blw.size).mono ?_
            rintro _ w11 ⟨v11, rfl, ho11, hx11⟩
            have H11 := Lib.hid (HV.out.num (Below.refl _ _) hx11 ho11)
            clear ho11 hx11
            
            go_wp2_with fail
            go_roundw
            case rel => exact ⟨j + 1, by omega, by go_num, by rw [Hns.out, ← List.append_assoc]; exact H11.out⟩
            case measure => simp [intOf]; omega
          · obtain rfl : j = fl.blocks.length := by omega
            rw [List.take_length] at HV
            go_wp2_with fail
            go_roundw
            case rel => exact ⟨k + 1, by omega, by go_num, by rw [Hsc.out, ← List.append_assoc, Hbm2.out]; exact HV.out.wr⟩
            case measure => simp [intOf]; omega
    · obtain rfl : k = m.files.length := by omega
      rw [List.take_length] at HW
      go_wp2_with fail
      go_ret
      exact ⟨_, rfl, by rw [Hbm.out]; exact HW.out.own.mono (Nat.le_of_lt hz1), Hb1.out.trans (HW.out.blw.mono (Nat.le_of_lt hz1))⟩
end Go.Proofs.Ytpoicbhbkabllaa
