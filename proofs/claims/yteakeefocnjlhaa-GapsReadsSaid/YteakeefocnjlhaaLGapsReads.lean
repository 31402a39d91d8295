/- The law 'GapsReads' returns true for every input, and each argument reads behind the call as it read before. No condition. -/
import Derived.Test.YteakeefocnjlhaaRows
import Derived.Test.YteakeefocnjlhaaIn
import Derived.Test.YteakeefocnjlhaaGapsRefGet
import Derived.Test.YteakeefocnjlhaaGapsGet
import Derived.Test.YteakeefocnjlhaaLaw04
import Derived.Test.YteakeefocnjlhaaTail
import Derived.Test.YteakeefocnjlhaaVarNil
import Derived.WalkKit
import Derived.ProofKit
import Derived.OpenShut
import Derived.ShutString
import Derived.ChangeOld
import Derived.Below
namespace Go.Proofs.Yteakeefocnjlhaa.gapsReads
open Go.Proofs.Yteakeefocnjlhaa
open Go.ChangeShapes Go.WideShapes Go.ChangeAt Go.RowKit
set_option linter.unusedVariables false
set_option linter.unusedSimpArgs false

theorem own : ownKnob Try.prog.godebug = none := by kernel_rfl
theorem laidOut : laidOutB Try.prog = true := by kernel_rfl

theorem gapsL_ge : ∀ (l : List GArc) (n : Nat), l.length ≤ (gapsL n l).length
  | [], n => by simp
  | a :: t, n => by
    have h1 := (vput_len64 (a.to.toNat - n) (by have := u32_lt a.to; omega)).1
    have h2 := gapsL_ge t (a.to.toNat + 1)
    simp only [gapsL, gaps1, List.length_append, List.length_cons]
    omega
theorem gput_ge (l : List GArc) : l.length ≤ (gput l).length := by
  have := gapsL_ge l 0
  unfold gput
  rw [List.length_append]; omega
set_option maxRecDepth 100000 in
set_option maxHeartbeats 4000000 in
theorem walk (v0 : Value) (w : World) (h0 : InC w 22 [v0]) :
    Calls Try.prog 8 #[v0] w fun e w' => e = .returned (.bool true) ∧ Below w.heap.size w w' := by
  obtain ⟨b, hby⟩ := h0.bytes
  clear h0
  obtain ⟨A, c, rfl, hc1, hc2, _⟩ := id hby
  unfold maxLen at hc2
  by_cases hbig : 1000 < b.length
  · go_enter Try.func8, Try.ntmps8
    go_wp2_with (go_at_call 26; refine (awake04 _).mono ?_; rintro e wa ⟨rfl, hba⟩)
    go_ret
    exact ⟨rfl, hba⟩
  go_enter Try.func8, Try.ntmps8
  go_wp2_with fail
  refine (vnew_any w A b.length c).mono ?_
  rintro _ w1 ⟨rfl, hw1⟩
  have hrd := RdrAt.new_ hby
  rw [← hw1] at hrd
  have hb1 : Below w.heap.size w w1 := by rw [hw1]; exact balloc _ _
  clear hw1
  go_wp2_with fail
  refine (gapsget_any w1 w.heap.size b 0 (by omega) hrd).mono ?_
  rintro _ w2 ⟨vg, rfl, hown2, hrd2, hg2⟩
  have hs1 := hb1.size
  have hb02 : Below w.heap.size w w2 := hb1.trans (gofBelow hg2 hs1 (fun k hk => by injection hk with hk; omega))
  have hgl := hrd.lt
  go_wp2_with fail
  refine (rgget_any w2 w.heap.size (.slice A b.length c) b 0 (by omega) (hby.below hb02) hb02.size (fun h => absurd rfl h)).mono ?_
  rintro _ w3 ⟨vr, vs, rfl, hown3, hbs3, hb3⟩
  have hok : (gread b 0).2.2 = 0 → gmay (gread b 0).1 = true ∧ b = gput (gread b 0).1 ++ (gread b 0).2.1 ∧ (gread b 0).1.length < 18446744073709551616 := fun h => gread_ok b _ _ (Prod.ext rfl (Prod.ext rfl h))
  generalize gread b 0 = R at *
  obtain ⟨l, s, e⟩ := R
  simp only at hown2 hrd2 hown3 hbs3 hok ⊢
  obtain ⟨As, cs, rfl, hs1c, hs2c, _⟩ := id hbs3
  have hb03 := bstep hb02 hb3
  have hg3 := hown2.byA.step hb3
  have hr3 := hown3.byA
  have hrd3 := hrd2.below hrd2.lt hb3
  have hby3 := hby.below hb03
  clear hown2 hown3 hrd2 hg2 hb3 hb02 hb1 hby hrd
  go_wp2_with fail
  have hbx4 := BoxAt.new_ 46 w3 [.slice As s.length cs, .int .i64 e]
  have hb4 := balloc w3 (.cells #[.slice As s.length cs, .int .i64 e] 46)
  have hb04 := bstep hb03 hb4
  have hg4 := hg3.step hb4
  have hr4 := hr3.step hb4
  have hrd4 := hrd3.below hrd3.lt hb4
  have hby4 := hby3.below (hb4.mono hb03.size)
  have hbs4 := hbs3.below (hb4.mono hb03.size)
  have Hg := Lib.hid hg4
  have Hr := Lib.hid hr4
  have Hrd := Lib.hid hrd4
  have Hby := Lib.hid hby4
  have Hbs := Lib.hid hbs4
  have HB := Lib.hid hb04
  have Hbx := Lib.hid hbx4
  have Hok := Lib.hid hok
  clear hg4 hr4 hrd4 hby4 hbs4 hb04 hbx4 hok hg3 hr3 hrd3 hby3 hbs3 hb03 hb4
  generalize w3.alloc (.cells #[.slice As s.length cs, .int .i64 e] 46) = w4 at *
  generalize w3.heap.size = gB at *
  go_wp2_with fail
  refine wp_region_typed [some 23, some 24, some 25, some 26, some 27, some 28, some 29, some 30, some 31, some 32, some 33, some 34, some 35, some 36, some 37, some 38, some 39, some 40, some 41] [23, 24, 25, 26, 27, 28, 29, 30, 31, 32, 33, 34, 35, 36, 37, 38, 39, 40, 41]
    [Ph.is (vg),
      Ph.is (vr),
      Ph.is (.bool true),
      Ph.is (.bool false),
      Ph.is (.bool false),
      Ph.is (.pointer (some { block := w.heap.size, off := 0 })),
      Ph.is (.int .i64 e),
      Ph.is (.pointer (some { block := gB, off := 1 })),
      Ph.is (.int .i64 e),
      Ph.is (.bool false),
      Ph.is (.bool false),
      Ph.is (.bool false),
      Ph.is (.pointer (some { block := w.heap.size, off := 0 })),
      Ph.is (.int .i64 (s.length : Int)),
      Ph.is (.pointer (some { block := gB, off := 0 })),
      Ph.is (.slice As s.length cs),
      Ph.is (.int .i64 (s.length : Int)),
      Ph.is (.bool false),
      Ph.is (.bool false)] rfl rfl (by kernel_rfl) (by kernel_rfl) ?_ ?_
  · refine ⟨?_, ?_, ?_, ?_, ?_, ?_, ?_, ?_, ?_, ?_, ?_, ?_, ?_, ?_, ?_, ?_, ?_, ?_, ?_, trivial⟩
    · -- 0: slot 23 := Op.move t4
      refine ob_yes fun f w' hb hp => ?_
      simp [PreOf, factOf, valOf, Ph.is, Ph.by_, Ph.any, Region.binds] at hp
      refine ⟨by simp [Gd, valOf, hp], ?_⟩
      refine mild_val (vg) ?_ rfl
      simp [execOp, evalF, hp]
    · -- 1: slot 24 := Op.move t5
      refine ob_yes fun f w' hb hp => ?_
      simp [PreOf, factOf, valOf, Ph.is, Ph.by_, Ph.any, Region.binds] at hp
      refine ⟨by simp [Gd, valOf, hp], ?_⟩
      refine mild_val (vr) ?_ rfl
      simp [execOp, evalF, hp]
    · -- 2: slot 25 := Op.call   value (Operand.func 42), args := #[t23, t24], argTypes := #[32, 32]  
      refine ob_yes fun f w' hb hp => ?_
      simp [PreOf, factOf, valOf, Ph.is, Ph.by_, Ph.any, Region.binds] at hp
      refine ⟨by simp [Gd, valOf, hp], ?_⟩
      refine mild_call 42 _ _ Try.f42 Try.func42 (by kernel_rfl) (by kernel_rfl) rfl ?_
      simp [evalF, hp, Ph.is, Ph.by_, Ph.any]
      have hsm := gsame_any w' _ _ vg vr l l (Hg.out.below hb) (Hr.out.below hb)
      rw [decide_eq_true (rfl : l = l)] at hsm
      refine (hsm).mono fun ev w2 h => ?_
      obtain ⟨rfl, q, rfl⟩ := h
      have h2 := bdrewN (Below.refl w'.heap.size w') q
      first | exact ⟨_, rfl, h2, rfl⟩ | exact ⟨rfl, h2⟩ | simpa using h2
    · -- 3: slot 26 := Op.unOp UnOp.not 4 t25
      refine ob_yes fun f w' hb hp => ?_
      simp [PreOf, factOf, valOf, Ph.is, Ph.by_, Ph.any, Region.binds] at hp
      refine ⟨by simp [Gd, valOf, hp], ?_⟩
      refine mild_val (.bool false) ?_ rfl
      simp [execOp, evalF, hp, go_sem]
    · -- 4: slot 27 := Op.move t26
      refine ob_yes fun f w' hb hp => ?_
      simp [PreOf, factOf, valOf, Ph.is, Ph.by_, Ph.any, Region.binds] at hp
      refine ⟨by simp [Gd, valOf, hp], ?_⟩
      refine mild_val (.bool false) ?_ rfl
      simp [execOp, evalF, hp]
    · -- 5: slot 28 := Op.move t3
      refine ob_yes fun f w' hb hp => ?_
      simp [PreOf, factOf, valOf, Ph.is, Ph.by_, Ph.any, Region.binds] at hp
      refine ⟨by simp [Gd, valOf, hp], ?_⟩
      refine mild_val (.pointer (some { block := w.heap.size, off := 0 })) ?_ rfl
      simp [execOp, evalF, hp]
    · -- 6: slot 29 := Op.call   value (Operand.func 31), args := #[t28], argTypes := #[24]  
      refine ob_yes fun f w' hb hp => ?_
      simp [PreOf, factOf, valOf, Ph.is, Ph.by_, Ph.any, Region.binds] at hp
      refine ⟨by simp [Gd, valOf, hp], ?_⟩
      refine mild_call 31 _ _ Try.f31 Try.func31 (by kernel_rfl) (by kernel_rfl) rfl ?_
      simp [evalF, hp, Ph.is, Ph.by_, Ph.any]
      refine (verr_any w' w.heap.size s e (Hrd.out.below Hrd.out.lt hb)).mono fun ev w2 h => ?_
      obtain ⟨rfl, rfl⟩ := h
      first | exact ⟨_, rfl, Below.refl _ _, rfl⟩ | exact ⟨rfl, Below.refl _ _⟩ | exact Below.refl _ _ | simpa using Below.refl _ _
    · -- 7: slot 30 := Op.fieldAddr 46 t6 1
      refine ob_yes fun f w' hb hp => ?_
      simp [PreOf, factOf, valOf, Ph.is, Ph.by_, Ph.any, Region.binds] at hp
      refine ⟨by simp [Gd, valOf, hp], ?_⟩
      refine mild_val (.pointer (some { block := gB, off := 1 })) ?_ rfl
      simp [execOp, evalF, hp, go_sem]
    · -- 8: slot 31 := Op.load 3 t30
      refine ob_yes fun f w' hb hp => ?_
      simp [PreOf, factOf, valOf, Ph.is, Ph.by_, Ph.any, Region.binds] at hp
      refine ⟨by simp [Gd, valOf, hp], ?_⟩
      refine mild_val (.int .i64 e) ?_ rfl
      have hc := (Hbx.out.below Hbx.out.lt hb).cell 1 _ rfl
      simp [execOp, evalF, hp, hc, go_sem]
    · -- 9: slot 32 := Op.binOp BinOp.neq 3 t29 t31 3
      refine ob_yes fun f w' hb hp => ?_
      simp [PreOf, factOf, valOf, Ph.is, Ph.by_, Ph.any, Region.binds] at hp
      refine ⟨by simp [Gd, valOf, hp], ?_⟩
      refine mild_val (.bool false) ?_ rfl
      simp [execOp, evalF, hp, go_sem]
    · -- 10: slot 33 := Op.pick t27 (const (Value.bool true)) t32
      refine ob_yes fun f w' hb hp => ?_
      simp [PreOf, factOf, valOf, Ph.is, Ph.by_, Ph.any, Region.binds] at hp
      refine ⟨by simp [Gd, valOf, hp], ?_⟩
      refine mild_val (.bool false) ?_ rfl
      simp [execOp, evalF, hp, go_sem]
    · -- 11: slot 34 := Op.move t33
      refine ob_yes fun f w' hb hp => ?_
      simp [PreOf, factOf, valOf, Ph.is, Ph.by_, Ph.any, Region.binds] at hp
      refine ⟨by simp [Gd, valOf, hp], ?_⟩
      refine mild_val (.bool false) ?_ rfl
      simp [execOp, evalF, hp]
    · -- 12: slot 35 := Op.move t3
      refine ob_yes fun f w' hb hp => ?_
      simp [PreOf, factOf, valOf, Ph.is, Ph.by_, Ph.any, Region.binds] at hp
      refine ⟨by simp [Gd, valOf, hp], ?_⟩
      refine mild_val (.pointer (some { block := w.heap.size, off := 0 })) ?_ rfl
      simp [execOp, evalF, hp]
    · -- 13: slot 36 := Op.call   value (Operand.func 30), args := #[t35], argTypes := #[24]  
      refine ob_yes fun f w' hb hp => ?_
      simp [PreOf, factOf, valOf, Ph.is, Ph.by_, Ph.any, Region.binds] at hp
      refine ⟨by simp [Gd, valOf, hp], ?_⟩
      refine mild_call 30 _ _ Try.f30 Try.func30 (by kernel_rfl) (by kernel_rfl) rfl ?_
      simp [evalF, hp, Ph.is, Ph.by_, Ph.any]
      refine (vleft_any w' w.heap.size s e (Hrd.out.below Hrd.out.lt hb)).mono fun ev w2 h => ?_
      obtain ⟨rfl, rfl⟩ := h
      first | exact ⟨_, rfl, Below.refl _ _, rfl⟩ | exact ⟨rfl, Below.refl _ _⟩ | exact Below.refl _ _ | simpa using Below.refl _ _
    · -- 14: slot 37 := Op.fieldAddr 46 t6 0
      refine ob_yes fun f w' hb hp => ?_
      simp [PreOf, factOf, valOf, Ph.is, Ph.by_, Ph.any, Region.binds] at hp
      refine ⟨by simp [Gd, valOf, hp], ?_⟩
      refine mild_val (.pointer (some { block := gB, off := 0 })) ?_ rfl
      simp [execOp, evalF, hp, go_sem]
    · -- 15: slot 38 := Op.load 22 t37
      refine ob_yes fun f w' hb hp => ?_
      simp [PreOf, factOf, valOf, Ph.is, Ph.by_, Ph.any, Region.binds] at hp
      refine ⟨by simp [Gd, valOf, hp], ?_⟩
      refine mild_val (.slice As s.length cs) ?_ rfl
      have hc := (Hbx.out.below Hbx.out.lt hb).cell 0 _ rfl
      simp [execOp, evalF, hp, hc, go_sem]
    · -- 16: slot 39 := Op.call   builtin len, args := #[t38], argTypes := #[22]  
      refine ob_yes fun f w' hb hp => ?_
      simp [PreOf, factOf, valOf, Ph.is, Ph.by_, Ph.any, Region.binds] at hp
      refine ⟨by simp [Gd, valOf, hp], ?_⟩
      refine mild_val (.int .i64 (s.length : Int)) ?_ rfl
      simp [execOp, evalF, hp, go_sem]
    · -- 17: slot 40 := Op.binOp BinOp.neq 3 t36 t39 3
      refine ob_yes fun f w' hb hp => ?_
      simp [PreOf, factOf, valOf, Ph.is, Ph.by_, Ph.any, Region.binds] at hp
      refine ⟨by simp [Gd, valOf, hp], ?_⟩
      refine mild_val (.bool false) ?_ rfl
      simp [execOp, evalF, hp, go_sem]
    · -- 18: slot 41 := Op.pick t34 (const (Value.bool true)) t40
      refine ob_yes fun f w' hb hp => ?_
      simp [PreOf, factOf, valOf, Ph.is, Ph.by_, Ph.any, Region.binds] at hp
      refine ⟨by simp [Gd, valOf, hp], ?_⟩
      refine mild_val (.bool false) ?_ rfl
      simp [execOp, evalF, hp, go_sem]
  · intro f w2 hb2 hp
    simp only [PostOf, Ph.is, Ph.by_, Ph.any] at hp
    obtain ⟨h0, h1, h2, h3, h4, h5, h6, h7, h8, h9, h10, h11, h12, h13, h14, h15, h16, h17, h18, _⟩ := hp
    simp only [fills, List.foldl_cons, List.foldl_nil, Act.put, List.setIfInBounds_toArray, List.set_cons_zero, List.set_cons_succ, h0, h1, h2, h3, h4, h5, h6, h7, h8, h9, h10, h11, h12, h13, h14, h15, h16, h17, h18]
    clear h0 h1 h2 h3 h4 h5 h6 h7 h8 h9 h10 h11 h12 h13 h14 h15 h16 h17 h18
    have Hg2 := Lib.hid (Hg.out.step hb2)
    have Hby2 := Lib.hid (Hby.out.below (hb2.mono HB.out.size))
    have Hbx2 := Lib.hid (Hbx.out.below Hbx.out.lt hb2)
    have HB2 := Lib.hid (bstep HB.out hb2)
    have hx1 := Hbx2.out.cell 1 _ rfl
    clear hb2 Hg Hby Hbx HB Hr Hrd Hbs
    by_cases he : e = 0
    · subst he
      obtain ⟨hmay, hbe, _⟩ := Hok.out rfl
      have hll := gput_ge l
      have hbl : b.length = (gput l).length + s.length := by rw [hbe, List.length_append]
      have hbt : b.take (gput l).length = gput l := by rw [hbe]; simp
      have hput := gapsput_any w2 w2.heap.size w2.heap.size (.slice none 0 0) [] (Ow.nil_ _ _) vg l (by omega) (by simp) Hg2.out (Nat.le_refl _) (Nat.le_refl _) hmay
      rw [List.nil_append] at hput
      have Hbe := Lib.hid hbe
      have Hbl := Lib.hid hbl
      have Hbt := Lib.hid hbt
      have Hmay := Lib.hid hmay
      clear hbe hbl hbt hmay
      go_wp2_with fail
      refine hput.mono ?_
      rintro _ w5 ⟨vp, rfl, hownp, hextp⟩
      have hb5 : Below w2.heap.size w2 w5 := hextp.below (Nat.le_refl _) fun q hq => by simp [Value.ownBlock] at hq
      have Hp := Lib.hid hownp.by_
      have Hg := Lib.hid (Hg2.out.step hb5)
      have Hf := Lib.hid ((Hby2.out.below (hb5.mono HB2.out.size)).front_ (k := (gput l).length) (by have := Hbl.out; omega))
      rw [Hbt.out] at Hf
      have Hbx := Lib.hid (Hbx2.out.below Hbx2.out.lt hb5)
      have HB := Lib.hid (bstep HB2.out hb5)
      have hmay := Hmay.out
      have hsub : (b.length : Int) - (s.length : Int) = ((gput l).length : Int) := by have := Hbl.out; omega
      have hkc : (gput l).length ≤ c := by have := Hbl.out; omega
      have hkc2 : (gput l).length ≤ c := hkc
      clear hb5 hownp hextp hput Hg2 Hby2 Hbx2 HB2 hx1
      go_wp2_with fail
      refine wp_region_typed [some 51, some 52, some 53, some 54, some 55, some 56, some 57, some 58, some 59, some 60, some 61, some 62, some 63, some 64, some 65, some 66, some 67, some 68, some 69, some 70, some 71, some 72, some 73, some 2] [51, 52, 53, 54, 55, 56, 57, 58, 59, 60, 61, 62, 63, 64, 65, 66, 67, 68, 69, 70, 71, 72, 73, 2]
        [Ph.is (.int .i64 0),
          Ph.is (.bool true),
          Ph.is (.bool true),
          Ph.is (vg),
          Ph.is (.bool true),
          Ph.is (.bool true),
          Ph.is (.bool true),
          Ph.is (vp),
          Ph.is (.string (bst (gput l))),
          Ph.is (.slice A b.length c),
          Ph.is (.slice A b.length c),
          Ph.is (.int .i64 (b.length : Int)),
          Ph.is (.pointer (some { block := gB, off := 0 })),
          Ph.is (.slice As s.length cs),
          Ph.is (.int .i64 (s.length : Int)),
          Ph.is (.int .i64 ((gput l).length : Int)),
          Ph.is (.slice A (gput l).length c),
          Ph.is (.string (bst (gput l))),
          Ph.is (.bool true),
          Ph.is (.bool true),
          Ph.is (.bool true),
          Ph.is (.bool true),
          Ph.is (.bool true),
          Ph.is (.bool true)] rfl rfl (by kernel_rfl) (by kernel_rfl) ?_ ?_
      · refine ⟨?_, ?_, ?_, ?_, ?_, ?_, ?_, ?_, ?_, ?_, ?_, ?_, ?_, ?_, ?_, ?_, ?_, ?_, ?_, ?_, ?_, ?_, ?_, ?_, trivial⟩
        · -- 0: slot 51 := Op.move t8
          refine ob_yes fun f w' hb hp => ?_
          simp [PreOf, factOf, valOf, Ph.is, Ph.by_, Ph.any, Region.binds] at hp
          refine ⟨by simp [Gd, valOf, hp], ?_⟩
          refine mild_val (.int .i64 0) ?_ rfl
          simp [execOp, evalF, hp]
        · -- 1: slot 52 := Op.binOp BinOp.eql 28 t51 (const (0:i64)) 28
          refine ob_yes fun f w' hb hp => ?_
          simp [PreOf, factOf, valOf, Ph.is, Ph.by_, Ph.any, Region.binds] at hp
          refine ⟨by simp [Gd, valOf, hp], ?_⟩
          refine mild_val (.bool true) ?_ rfl
          simp [execOp, evalF, hp, go_sem]
        · -- 2: slot 53 := Op.move t52
          refine ob_yes fun f w' hb hp => ?_
          simp [PreOf, factOf, valOf, Ph.is, Ph.by_, Ph.any, Region.binds] at hp
          refine ⟨by simp [Gd, valOf, hp], ?_⟩
          refine mild_val (.bool true) ?_ rfl
          simp [execOp, evalF, hp]
        · -- 3: slot 54 := Op.move t4
          refine ob_yes fun f w' hb hp => ?_
          simp [PreOf, factOf, valOf, Ph.is, Ph.by_, Ph.any, Region.binds] at hp
          refine ⟨by simp [Gd, valOf, hp], ?_⟩
          refine mild_val (vg) ?_ rfl
          simp [execOp, evalF, hp]
        · -- 4: slot 55 := Op.call   value (Operand.func 25), args := #[t54], argTypes := #[32]  
          refine ob_yes fun f w' hb hp => ?_
          simp [PreOf, factOf, valOf, Ph.is, Ph.by_, Ph.any, Region.binds] at hp
          refine ⟨by simp [Gd, valOf, hp], ?_⟩
          refine mild_call 25 _ _ Try.f25 Try.func25 (by kernel_rfl) (by kernel_rfl) rfl ?_
          simp [evalF, hp, Ph.is, Ph.by_, Ph.any]
          have hmy := rgmay_any w' _ vg l (by have := Hbl.out; omega) (Hg.out.below hb)
          rw [hmay] at hmy
          refine (hmy).mono fun ev w2 h => ?_
          obtain ⟨rfl, q, rfl⟩ := h
          have h2 := bdrewN (Below.refl w'.heap.size w') q
          first | exact ⟨_, rfl, h2, rfl⟩ | exact ⟨rfl, h2⟩ | simpa using h2
        · -- 5: slot 56 := Op.pick t53 t55 (const (Value.bool false))
          refine ob_yes fun f w' hb hp => ?_
          simp [PreOf, factOf, valOf, Ph.is, Ph.by_, Ph.any, Region.binds] at hp
          refine ⟨by simp [Gd, valOf, hp], ?_⟩
          refine mild_val (.bool true) ?_ rfl
          simp [execOp, evalF, hp, go_sem]
        · -- 6: slot 57 := Op.move t56
          refine ob_yes fun f w' hb hp => ?_
          simp [PreOf, factOf, valOf, Ph.is, Ph.by_, Ph.any, Region.binds] at hp
          refine ⟨by simp [Gd, valOf, hp], ?_⟩
          refine mild_val (.bool true) ?_ rfl
          simp [execOp, evalF, hp]
        · -- 7: slot 58 := Op.move t7
          refine ob_yes fun f w' hb hp => ?_
          simp [PreOf, factOf, valOf, Ph.is, Ph.by_, Ph.any, Region.binds] at hp
          refine ⟨by simp [Gd, valOf, hp], ?_⟩
          refine mild_val (vp) ?_ rfl
          simp [execOp, evalF, hp]
        · -- 8: slot 59 := Op.convert 22 9 t58
          refine ob_yes fun f w' hb hp => ?_
          simp [PreOf, factOf, valOf, Ph.is, Ph.by_, Ph.any, Region.binds] at hp
          refine ⟨by simp [Gd, valOf, hp], ?_⟩
          refine mild_val (.string (bst (gput l))) ?_ rfl
          have hc := conv8 ((Hp.out).below hb)
          simp [execOp, evalF, hp, hc]
        · -- 9: slot 60 := Op.move t0
          refine ob_yes fun f w' hb hp => ?_
          simp [PreOf, factOf, valOf, Ph.is, Ph.by_, Ph.any, Region.binds] at hp
          refine ⟨by simp [Gd, valOf, hp], ?_⟩
          refine mild_val (.slice A b.length c) ?_ rfl
          simp [execOp, evalF, hp]
        · -- 10: slot 61 := Op.move t0
          refine ob_yes fun f w' hb hp => ?_
          simp [PreOf, factOf, valOf, Ph.is, Ph.by_, Ph.any, Region.binds] at hp
          refine ⟨by simp [Gd, valOf, hp], ?_⟩
          refine mild_val (.slice A b.length c) ?_ rfl
          simp [execOp, evalF, hp]
        · -- 11: slot 62 := Op.call   builtin len, args := #[t61], argTypes := #[22]  
          refine ob_yes fun f w' hb hp => ?_
          simp [PreOf, factOf, valOf, Ph.is, Ph.by_, Ph.any, Region.binds] at hp
          refine ⟨by simp [Gd, valOf, hp], ?_⟩
          refine mild_val (.int .i64 (b.length : Int)) ?_ rfl
          simp [execOp, evalF, hp, go_sem]
        · -- 12: slot 63 := Op.fieldAddr 46 t6 0
          refine ob_yes fun f w' hb hp => ?_
          simp [PreOf, factOf, valOf, Ph.is, Ph.by_, Ph.any, Region.binds] at hp
          refine ⟨by simp [Gd, valOf, hp], ?_⟩
          refine mild_val (.pointer (some { block := gB, off := 0 })) ?_ rfl
          simp [execOp, evalF, hp, go_sem]
        · -- 13: slot 64 := Op.load 22 t63
          refine ob_yes fun f w' hb hp => ?_
          simp [PreOf, factOf, valOf, Ph.is, Ph.by_, Ph.any, Region.binds] at hp
          refine ⟨by simp [Gd, valOf, hp], ?_⟩
          refine mild_val (.slice As s.length cs) ?_ rfl
          have hc := (Hbx.out.below Hbx.out.lt hb).cell 0 _ rfl
          simp [execOp, evalF, hp, hc, go_sem]
        · -- 14: slot 65 := Op.call   builtin len, args := #[t64], argTypes := #[22]  
          refine ob_yes fun f w' hb hp => ?_
          simp [PreOf, factOf, valOf, Ph.is, Ph.by_, Ph.any, Region.binds] at hp
          refine ⟨by simp [Gd, valOf, hp], ?_⟩
          refine mild_val (.int .i64 (s.length : Int)) ?_ rfl
          simp [execOp, evalF, hp, go_sem]
        · -- 15: slot 66 := Op.binOp BinOp.sub 3 t62 t65 3
          refine ob_yes fun f w' hb hp => ?_
          simp [PreOf, factOf, valOf, Ph.is, Ph.by_, Ph.any, Region.binds] at hp
          refine ⟨by simp [Gd, valOf, hp], ?_⟩
          refine mild_val (.int .i64 ((gput l).length : Int)) ?_ rfl
          simp [execOp, evalF, hp, go_sem, hsub]
          rw [wrap_i64]
          have := Hbl.out
          omega
        · -- 16: slot 67 := Op.slice 22 t60 none (some t66) none
          refine ob_yes fun f w' hb hp => ?_
          simp [PreOf, factOf, valOf, Ph.is, Ph.by_, Ph.any, Region.binds] at hp
          refine ⟨by simp [Gd, valOf, hp], ?_⟩
          refine mild_val (.slice A (gput l).length c) ?_ rfl
          simp [execOp, evalF, hp, go_sem, hkc, hkc2]
        · -- 17: slot 68 := Op.convert 22 9 t67
          refine ob_yes fun f w' hb hp => ?_
          simp [PreOf, factOf, valOf, Ph.is, Ph.by_, Ph.any, Region.binds] at hp
          refine ⟨by simp [Gd, valOf, hp], ?_⟩
          refine mild_val (.string (bst (gput l))) ?_ rfl
          have hc := conv8 ((Hf.out).below (hb.mono HB.out.size))
          simp [execOp, evalF, hp, hc]
        · -- 18: slot 69 := Op.binOp BinOp.eql 9 t59 t68 9
          refine ob_yes fun f w' hb hp => ?_
          simp [PreOf, factOf, valOf, Ph.is, Ph.by_, Ph.any, Region.binds] at hp
          refine ⟨by simp [Gd, valOf, hp], ?_⟩
          refine mild_val (.bool true) ?_ rfl
          simp [execOp, evalF, hp, go_sem]
        · -- 19: slot 70 := Op.pick t57 t69 (const (Value.bool false))
          refine ob_yes fun f w' hb hp => ?_
          simp [PreOf, factOf, valOf, Ph.is, Ph.by_, Ph.any, Region.binds] at hp
          refine ⟨by simp [Gd, valOf, hp], ?_⟩
          refine mild_val (.bool true) ?_ rfl
          simp [execOp, evalF, hp, go_sem]
        · -- 20: slot 71 := Op.move t70
          refine ob_yes fun f w' hb hp => ?_
          simp [PreOf, factOf, valOf, Ph.is, Ph.by_, Ph.any, Region.binds] at hp
          refine ⟨by simp [Gd, valOf, hp], ?_⟩
          refine mild_val (.bool true) ?_ rfl
          simp [execOp, evalF, hp]
        · -- 21: slot 72 := Op.call   value (Operand.func 26), args := #[], argTypes := #[]  
          refine ob_yes fun f w' hb hp => ?_
          simp [PreOf, factOf, valOf, Ph.is, Ph.by_, Ph.any, Region.binds] at hp
          refine ⟨by simp [Gd, valOf, hp], ?_⟩
          refine mild_call 26 _ _ Try.f26 Try.func26 (by kernel_rfl) (by kernel_rfl) rfl ?_
          simp [evalF, hp, Ph.is, Ph.by_, Ph.any]
          refine (awake04 w').mono fun ev w2 h => ?_
          obtain ⟨rfl, h2⟩ := h
          first | exact ⟨_, rfl, h2, rfl⟩ | exact ⟨rfl, h2⟩ | simpa using h2
        · -- 22: slot 73 := Op.pick t71 t72 (const (Value.bool false))
          refine ob_yes fun f w' hb hp => ?_
          simp [PreOf, factOf, valOf, Ph.is, Ph.by_, Ph.any, Region.binds] at hp
          refine ⟨by simp [Gd, valOf, hp], ?_⟩
          refine mild_val (.bool true) ?_ rfl
          simp [execOp, evalF, hp, go_sem]
        · -- 23: slot 2 := Op.assign t73
          refine ob_yes fun f w' hb hp => ?_
          simp [PreOf, factOf, valOf, Ph.is, Ph.by_, Ph.any, Region.binds] at hp
          refine ⟨by simp [Gd, valOf, hp], ?_⟩
          refine mild_val (.bool true) ?_ rfl
          simp [execOp, evalF, hp]
      · intro f w2 hb2 hp
        simp only [PostOf, Ph.is, Ph.by_, Ph.any] at hp
        obtain ⟨h0, h1, h2, h3, h4, h5, h6, h7, h8, h9, h10, h11, h12, h13, h14, h15, h16, h17, h18, h19, h20, h21, h22, h23, _⟩ := hp
        simp only [fills, List.foldl_cons, List.foldl_nil, Act.put, List.setIfInBounds_toArray, List.set_cons_zero, List.set_cons_succ, h0, h1, h2, h3, h4, h5, h6, h7, h8, h9, h10, h11, h12, h13, h14, h15, h16, h17, h18, h19, h20, h21, h22, h23]
        clear h0 h1 h2 h3 h4 h5 h6 h7 h8 h9 h10 h11 h12 h13 h14 h15 h16 h17 h18 h19 h20 h21 h22 h23
        go_wp2_with fail
        go_ret
        exact ⟨rfl, bstep HB.out hb2⟩
    · have hne : (e != 0) = true := by simpa using he
      clear he
      go_wp2_with (go_at_call 26; refine (awake04 _).mono ?_; rintro e wa ⟨rfl, hba⟩)
      go_ret
      exact ⟨rfl, bstep HB2.out hba⟩

set_option maxRecDepth 100000 in
theorem lifted (os : Os) (started : os.Started) (H : Type) (enc : TypeId × Value → H) :
    ReturnsInHanded {} Try.checked os 8 .any (Rows.gapsReadsSpec.pre6 enc Try.prog Try.f8 Rows.gapsReadsRow.domain false) (Rows.gapsReadsSpec.post enc Try.prog Try.f8 false true false false) := by
  refine returnsInHanded_of_change (C := Try.checked) own started (by kernel_rfl) Try.func8
    (ChangeSpec.witness6 (enc := enc) (C := Try.checked) false ⟨#[], #[.slice none 0 0], []⟩ 8 (by kernel_rfl) (by kernel_rfl) (by kernel_rfl) (by kernel_rfl)) ?_
  intro W base args ds gs before hval0 hW hcnd _
  have hval : ∀ (j : Nat) t v, Try.f8.params[j]? = some t → args[j]? = some v → Value.okWide Try.prog W .any base t v := hval0
  have hW' := hW
  obtain ⟨p, q, hA0, hV, rfl, hfz, hnd⟩ := hW
  have hA : DataW.TrodAll enc Try.prog W 0 (fun _ => true) true Try.f8.params.toList args.toList ds p := hA0
  rw [Try.params8] at hA hval
  obtain ⟨v0, vs0, d0, ds0, p0, q0, hargs, rfl, rfl, h0, r0⟩ := trodAll_cons hA
  obtain ⟨rfl, rfl, rfl⟩ := trodAll_nil r0
  obtain rfl : args = #[v0] := by cases args; simp_all
  obtain ⟨rfl, rfl⟩ := trodVars_none hV
  have k0 := h0
  have lt0 : ∀ x ∈ p0, x.block < W.heap.size := by obtain ⟨m, hm⟩ := k0; exact DataW.trod_lt m _ _ _ hm
  have i0 := InC.of h0
  obtain ⟨a0, len0, cap0, rfl⟩ := okWide_slice Try.underlying22 (hval 0 22 v0 rfl rfl)
  have j0 : InC W 22 [_] := i0
  clear hA0 hval0
  refine (walk _ W j0).mono fun e W' ⟨he, bel⟩ => ?_
  subst he
  exact ⟨_, rfl, _, _, _, [], _, [], hW', trodAll_mk1 (shut_bool Try.underlying4 _), (trodAll_cons_mk (Below.trod laidOut (by kernel_rfl) (of_decide_eq_true (by kernel_rfl)) k0 bel lt0) trodAll_mk0), rfl, bel.frame _, fun h => by cases h⟩

theorem over : Rows.gapsReadsRow.holds Try.pinned (OpenSpec.ofChange Rows.gapsReadsSpec) :=
  OpenClaim.holds_of_wide 8 Try.f8 rfl rfl rfl rfl rfl rfl rfl ⟨rfl, rfl, rfl, rfl, rfl⟩ rfl rfl rfl rfl rfl (by kernel_rfl) Try.func8 (by kernel_rfl)
    (of_decide_eq_true (by kernel_rfl)) (by unfold Func.isWrapper; first | (rw [if_pos (by decide +kernel)]; kernel_rfl) | (rw [if_neg (by decide +kernel)]; exact ⟨rfl, rfl⟩))
    (fun os started H enc _ => lifted os started H enc)

theorem proved : Rows.GapsReadsSaid := over
#print axioms proved
end Go.Proofs.Yteakeefocnjlhaa.gapsReads
