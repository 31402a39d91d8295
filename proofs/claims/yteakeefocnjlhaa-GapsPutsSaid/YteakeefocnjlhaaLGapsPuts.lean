/- The law 'GapsPuts' returns true for every input, and each argument reads behind the call as it read before. No condition. -/
import Derived.Test.YteakeefocnjlhaaRows
import Derived.Test.YteakeefocnjlhaaIn
import Derived.Test.YteakeefocnjlhaaGapsGet
import Derived.Test.YteakeefocnjlhaaLaw04
import Derived.Test.YteakeefocnjlhaaTail
import Derived.Test.YteakeefocnjlhaaVarNil
import Derived.WalkKit
import Derived.ProofKit
import Derived.OpenShut
import Derived.ShutString
import Derived.ChangeOld
import Derived.Below
namespace Go.Proofs.Yteakeefocnjlhaa.gapsPuts
open Go.Proofs.Yteakeefocnjlhaa
open Go.ChangeShapes Go.WideShapes Go.ChangeAt Go.RowKit
set_option linter.unusedVariables false
set_option linter.unusedSimpArgs false

theorem own : ownKnob Try.prog.godebug = none := by kernel_rfl
theorem laidOut : laidOutB Try.prog = true := by kernel_rfl

theorem bst_append (a b : List UInt8) : bst (a ++ b) = bst a ++ bst b := by
  unfold bst
  apply ByteArray.ext
  simp
theorem bst_size (l : List UInt8) : (bst l).size = l.length := rfl
set_option maxRecDepth 100000 in
set_option maxHeartbeats 4000000 in
theorem walk (v0 v1 : Value) (w : World) (h0 : InC w 22 [v0]) (h1 : InC w 32 [v1]) :
    Calls Try.prog 10 #[v0, v1] w fun e w' => e = .returned (.bool true) ∧ Below w.heap.size w w' := by
  obtain ⟨b, hby⟩ := h0.bytes
  obtain ⟨l, hl⟩ := h1.arcs
  clear h0 h1
  obtain ⟨A, c, rfl, hc1, hc2, _⟩ := id hby
  obtain ⟨Al, cl, rfl, hl1, hl2⟩ := hl.form
  unfold maxLen at hc2 hl2
  by_cases hbig : 300 < l.length
  · go_enter Try.func10, Try.ntmps10
    go_wp2_with (go_at_call 26; refine (awake04 _).mono ?_; rintro e wa ⟨rfl, hba⟩)
    go_ret
    exact ⟨rfl, hba⟩
  by_cases hbig2 : 100 < b.length
  · go_enter Try.func10, Try.ntmps10
    go_wp2_with (go_at_call 26; refine (awake04 _).mono ?_; rintro e wa ⟨rfl, hba⟩)
    go_ret
    exact ⟨rfl, hba⟩
  have hlt := gsum_lt l
  have hmayA := fun W h hW => gmay_any W w.heap.size (.slice Al l.length cl) l (by omega) h hW
  have hmayB := fun W h => rgmay_any W w.heap.size (.slice Al l.length cl) l (by omega) h
  have hsumA := fun W h hW => gsum_any W w.heap.size (.slice Al l.length cl) l (by omega) h hW
  have hsumB := fun W h => rgsum_any W w.heap.size (.slice Al l.length cl) l (by omega) h
  have hS : gsum l < 18446744073709551616 := by omega
  have hput := fun W h0 h hm hW => gapsput_any W w.heap.size w.heap.size (h0 : Value) b (hm : Ow W w.heap.size h0 b) (.slice Al l.length cl) l (by omega) (by omega) (h : ByA W w.heap.size (.slice Al l.length cl) l) (Nat.le_refl _) hW
  have hputn := fun W (v : Value) h hW => gapsput_no W w.heap.size v (.slice Al l.length cl) l (by omega) h hW
  have hri : gmay l = true → rise none l = true := fun h => by unfold gmay at h; simp at h; exact h.1
  have hgl : (gput l).length ≤ 10000 := by
    have h1 := gapsL_len l 0
    have h2 := (vput_len64 l.length (by omega)).2
    unfold gput
    rw [List.length_append]; omega
  have hgr := fun hm => gread_gput l [] (by omega) hm
  rw [List.append_nil] at hgr
  have HmayA := Lib.hid hmayA
  have HmayB := Lib.hid hmayB
  have HsumA := Lib.hid hsumA
  have HsumB := Lib.hid hsumB
  have Hput := Lib.hid hput
  have Hputn := Lib.hid hputn
  have Hri0 := Lib.hid hri
  have Hgr := Lib.hid hgr
  clear hmayA hmayB hsumA hsumB hput hputn hlt hri hgr
  go_enter Try.func10, Try.ntmps10
  go_wp2_with (at_builtin
               refine wpList_app8 rfl (.tmp 20) (.tmp 21) rfl (Ow.new_ w [] (Nat.zero_le _)) (hby.below (balloc _ _)) rfl rfl (by simp; omega) (by simp) ?_
               intro v1 w1 hown1 hext1
               rw [List.nil_append] at hown1)
  have hb01 : Below w.heap.size w w1 := (balloc w _).trans (hext1.below (by simp) (by simp [Value.ownBlock]))
  have hw1 := hb01.size
  clear hext1
  cases hg : gmay l with
  | false =>
    rw [hg] at HmayA HmayB Hputn
    clear hg Hput Hri0 Hgr
    refine (Hputn.out w1 v1 (hl.below hb01) hw1 rfl).mono ?_
    rintro _ w2 ⟨rfl, hb12⟩
    have hb02 := bstep hb01 hb12
    go_wp2_with fail
    refine (HmayA.out w2 (hl.below hb02) hb02.size).mono ?_
    rintro _ w3 ⟨rfl, hb23⟩
    have hb03 := bstep hb02 hb23
    go_wp2_with fail
    refine (HmayB.out w3 (hl.below hb03)).mono ?_
    rintro _ _ ⟨rfl, q, rfl⟩
    have hb03' := bdrewN hb03 q
    go_wp2_with fail
    refine (HsumA.out _ (hl.below hb03') hb03'.size).mono ?_
    rintro _ w4 ⟨rfl, hb34⟩
    have hb04 := bstep hb03' hb34
    go_wp2_with fail
    refine (HsumB.out w4 (hl.below hb04)).mono ?_
    rintro _ _ ⟨rfl, rfl⟩
    generalize gsum l = S at *
    go_wp2_with fail
    refine (HmayB.out w4 (hl.below hb04)).mono ?_
    rintro _ _ ⟨rfl, q2, rfl⟩
    have hb04' := bdrewN hb04 q2
    have hcx := conv8 (((hown1.by_.step hb12).step hb23).step (bstep (bdrewN (Below.refl _ _) q) hb34) |>.step (bdrewN (Below.refl _ _) q2))
    have hcb := conv8 (hby.below hb04')
    generalize bst b = sb at *
    go_wp2_with (go_at_call 26; refine (awake04 _).mono ?_; rintro e wa ⟨rfl, hba⟩)
    go_ret
    exact ⟨rfl, bstep hb04' hba⟩
  | true =>
    have hri := Hri0.out hg
    have hgr := Hgr.out hg
    rw [hg] at HmayA HmayB
    refine (Hput.out w1 v1 (hl.below hb01) hown1 hw1 hg).mono ?_
    clear hg Hputn Hri0 Hgr Hput
    rintro _ w2 ⟨vx, rfl, hown2, hext2⟩
    have hb02 := hb01.trans (hext2.below hw1 fun q hq => (hown1.blk q hq).1)
    go_wp2_with fail
    refine (HmayA.out w2 (hl.below hb02) hb02.size).mono ?_
    rintro _ w3 ⟨rfl, hb23⟩
    have hb03 := bstep hb02 hb23
    go_wp2_with fail
    refine (HmayB.out w3 (hl.below hb03)).mono ?_
    rintro _ _ ⟨rfl, q, rfl⟩
    have hb03' := bdrewN hb03 q
    go_wp2_with fail
    refine (HsumA.out _ (hl.below hb03') hb03'.size).mono ?_
    rintro _ w4 ⟨rfl, hb34⟩
    have hb04 := bstep hb03' hb34
    go_wp2_with fail
    refine (HsumB.out w4 (hl.below hb04)).mono ?_
    rintro _ _ ⟨rfl, rfl⟩
    generalize gsum l = S at *
    go_wp2_with fail
    refine (HmayB.out w4 (hl.below hb04)).mono ?_
    rintro _ _ ⟨rfl, q2, rfl⟩
    have hb04' := bdrewN hb04 q2
    have hb24 : Below w2.heap.size w2 (w4.drewN q2) := bstep hb23 (bstep (bdrewN (Below.refl w3.heap.size w3) q) (bdrewN hb34 q2))
    have hx4 := hown2.by_.step hb24
    generalize w4.drewN q2 = w5 at *
    obtain ⟨xs, hxs⟩ : ∃ xs, b ++ gput l = xs := ⟨_, rfl⟩
    have hxl : xs.length = b.length + (gput l).length := by rw [← hxs, List.length_append]
    have hbs : bytesS (b.length : Int) xs 0 = (b, gput l, 0) := by
      unfold bytesS
      rw [if_neg (by simp), if_neg (by omega), if_neg (by omega), ← hxs]
      simp
    have hxb : bst b ++ bst (gput l) = bst xs := by rw [← hxs, bst_append]
    rw [hxs] at hx4
    have Hxl := Lib.hid hxl
    have Hxb := Lib.hid hxb
    clear hxs hxl hxb hown2
    obtain ⟨Ax, cx, rfl, _, _, _⟩ := id hx4
    go_wp2_with fail
    refine (vnew_any w5 Ax _ cx).mono ?_
    rintro _ w6 ⟨rfl, hw6⟩
    have hrd := RdrAt.new_ hx4
    rw [← hw6] at hrd
    have hb56 : Below w5.heap.size w5 w6 := by rw [hw6]; exact balloc _ _
    clear hw6
    go_wp2_with fail
    have hvb := vbytes_any w6 w5.heap.size _ 0 (b.length : Int) (by omega) (by have := Hxl.out; omega) hrd
    rw [hbs] at hvb
    refine hvb.mono ?_
    rintro _ w7 ⟨vf, rfl, hown7, hrd7, hg7⟩
    have hgg := gapsget_any w7 w5.heap.size _ 0 (by show (gput l).length ≤ _; omega) hrd7
    rw [hgr] at hgg
    go_wp2_with fail
    refine hgg.mono ?_
    rintro _ w8 ⟨vm, rfl, hown8, hrd8, hg8⟩
    have hs6 := hb56.size
    have hb58 : Below w5.heap.size w5 w8 := hb56.trans (gofBelow (gtrans hg7 hg8) hs6 (fun k hk => by injection hk with hk; omega))
    have hb08 := bstep hb04' hb58
    have hne : vf.ownBlock = none ∨ vf.ownBlock ≠ some w5.heap.size := by
      cases hv : vf.ownBlock with
      | none => exact .inl rfl
      | some q => exact .inr (fun e => by injection e with e; have h8 := (hown7.blk q hv).1; have := hrd.lt; omega)
    have hf8 := (hown7.keep hg8 hne).by_
    have hm8 := hown8.byA
    have hl8 := hl.below hb08
    have hx8 := hx4.step hb58
    have hby8 := hby.step hb08
    have Hx := Lib.hid hx8
    have Hb := Lib.hid hby8
    have Hf := Lib.hid hf8
    have Hm := Lib.hid hm8
    have HL := Lib.hid hl8
    have Hr := Lib.hid hrd8
    have Hri := Lib.hid hri
    have HB := Lib.hid hb08
    clear hx8 hby8 hf8 hm8 hl8 hrd8 hri hb08 hb58 hgg hvb hbs hown7 hrd7 hg7 hown8 hg8 hrd hb56 hx4 hb24 hb04' hb04 hb34 hb03' hb03 hb23 hext2 hb02 hgr hown1 HmayA HmayB HsumA HsumB hby hl
    generalize w5.heap.size = g at *
    have hxl2 : xs.length ≤ 20000 := by have := Hxl.out; omega
    go_wp2_with fail
    refine wp_region_typed [some 62, some 63, some 64, some 65, some 66, some 67, some 68, some 69, some 70, some 71, some 72, some 73, some 74, some 75, some 76, some 77, some 78, some 79, some 80, some 81, some 82, some 83, some 84, some 85, some 86, some 87, some 88, some 89, some 90, some 91, some 92, some 93, some 94, some 4] [62, 63, 64, 65, 66, 67, 68, 69, 70, 71, 72, 73, 74, 75, 76, 77, 78, 79, 80, 81, 82, 83, 84, 85, 86, 87, 88, 89, 90, 91, 92, 93, 94, 4]
      [Ph.is (.int .i64 0),
        Ph.is (.bool true),
        Ph.is (.bool true),
        Ph.is (.slice Ax xs.length cx),
        Ph.is (.string (bst (xs))),
        Ph.is (.slice A b.length c),
        Ph.is (.string (bst (b))),
        Ph.is (.slice Al l.length cl),
        Ph.by_ (gput l),
        Ph.is (.string (bst (gput l))),
        Ph.is (.string (bst xs)),
        Ph.is (.bool true),
        Ph.is (.bool true),
        Ph.is (.bool true),
        Ph.is (vf),
        Ph.is (.string (bst (b))),
        Ph.is (.slice A b.length c),
        Ph.is (.string (bst (b))),
        Ph.is (.bool true),
        Ph.is (.bool true),
        Ph.is (.bool true),
        Ph.is (vm),
        Ph.is (.slice Al l.length cl),
        Ph.is (.bool true),
        Ph.is (.bool true),
        Ph.is (.bool true),
        Ph.is (.pointer (some { block := g, off := 0 })),
        Ph.is (.int .i64 0),
        Ph.is (.bool true),
        Ph.is (.bool true),
        Ph.is (.bool true),
        Ph.is (.bool true),
        Ph.is (.bool true),
        Ph.is (.bool true)] rfl rfl (by kernel_rfl) (by kernel_rfl) ?_ ?_
    · refine ⟨?_, ?_, ?_, ?_, ?_, ?_, ?_, ?_, ?_, ?_, ?_, ?_, ?_, ?_, ?_, ?_, ?_, ?_, ?_, ?_, ?_, ?_, ?_, ?_, ?_, ?_, ?_, ?_, ?_, ?_, ?_, ?_, ?_, ?_, trivial⟩
      · -- 0: slot 62 := Op.move t6
        refine ob_yes fun f w' hb hp => ?_
        simp [PreOf, factOf, valOf, Ph.is, Ph.by_, Ph.any, Region.binds] at hp
        refine ⟨by simp [Gd, valOf, hp], ?_⟩
        refine mild_val (.int .i64 0) ?_ rfl
        simp [execOp, evalF, hp]
      · -- 1: slot 63 := Op.binOp BinOp.eql 28 t62 (const (0:i64)) 28
        refine ob_yes fun f w' hb hp => ?_
        simp [PreOf, factOf, valOf, Ph.is, Ph.by_, Ph.any, Region.binds] at hp
        refine ⟨by simp [Gd, valOf, hp], ?_⟩
        refine mild_val (.bool true) ?_ rfl
        simp [execOp, evalF, hp, go_sem]
      · -- 2: slot 64 := Op.move t63
        refine ob_yes fun f w' hb hp => ?_
        simp [PreOf, factOf, valOf, Ph.is, Ph.by_, Ph.any, Region.binds] at hp
        refine ⟨by simp [Gd, valOf, hp], ?_⟩
        refine mild_val (.bool true) ?_ rfl
        simp [execOp, evalF, hp]
      · -- 3: slot 65 := Op.move t5
        refine ob_yes fun f w' hb hp => ?_
        simp [PreOf, factOf, valOf, Ph.is, Ph.by_, Ph.any, Region.binds] at hp
        refine ⟨by simp [Gd, valOf, hp], ?_⟩
        refine mild_val (.slice Ax xs.length cx) ?_ rfl
        simp [execOp, evalF, hp]
      · -- 4: slot 66 := Op.convert 22 9 t65
        refine ob_yes fun f w' hb hp => ?_
        simp [PreOf, factOf, valOf, Ph.is, Ph.by_, Ph.any, Region.binds] at hp
        refine ⟨by simp [Gd, valOf, hp], ?_⟩
        refine mild_val (.string (bst (xs))) ?_ rfl
        have hc := conv8 ((Hx.out).below hb)
        simp [execOp, evalF, hp, hc]
      · -- 5: slot 67 := Op.move t0
        refine ob_yes fun f w' hb hp => ?_
        simp [PreOf, factOf, valOf, Ph.is, Ph.by_, Ph.any, Region.binds] at hp
        refine ⟨by simp [Gd, valOf, hp], ?_⟩
        refine mild_val (.slice A b.length c) ?_ rfl
        simp [execOp, evalF, hp]
      · -- 6: slot 68 := Op.convert 22 9 t67
        refine ob_yes fun f w' hb hp => ?_
        simp [PreOf, factOf, valOf, Ph.is, Ph.by_, Ph.any, Region.binds] at hp
        refine ⟨by simp [Gd, valOf, hp], ?_⟩
        refine mild_val (.string (bst (b))) ?_ rfl
        have hc := conv8 ((Hb.out).below hb)
        simp [execOp, evalF, hp, hc]
      · -- 7: slot 69 := Op.move t1
        refine ob_yes fun f w' hb hp => ?_
        simp [PreOf, factOf, valOf, Ph.is, Ph.by_, Ph.any, Region.binds] at hp
        refine ⟨by simp [Gd, valOf, hp], ?_⟩
        refine mild_val (.slice Al l.length cl) ?_ rfl
        simp [execOp, evalF, hp]
      · -- 8: slot 70 := Op.call   value (Operand.func 52), args := #[t69], argTypes := #[32]  
        refine ob_yes fun f w' hb hp => ?_
        simp [PreOf, factOf, valOf, Ph.is, Ph.by_, Ph.any, Region.binds] at hp
        refine ⟨by simp [Gd, valOf, hp], ?_⟩
        refine mild_call 52 _ _ Try.f52 Try.func52 (by kernel_rfl) (by kernel_rfl) rfl ?_
        simp [evalF, hp, Ph.is, Ph.by_, Ph.any]
        exact (rgput_any w' w'.heap.size (.slice Al l.length cl) l (by omega) ((HL.out.below (hb.mono HB.out.size)).more (Nat.le_trans HB.out.size hb.size)) (Nat.le_refl _) Hri.out).mono fun e w2 ⟨v, h1, h2, h3⟩ => ⟨v, h1, h3, h2.by_⟩
      · -- 9: slot 71 := Op.convert 22 9 t70
        refine ob_yes fun f w' hb hp => ?_
        simp [PreOf, factOf, valOf, Ph.is, Ph.by_, Ph.any, Region.binds] at hp
        refine ⟨by simp [Gd, valOf, hp], ?_⟩
        refine mild_val (.string (bst (gput l))) ?_ rfl
        have hc := conv8 (by first | exact hp | exact hp.1 | exact hp.2 | exact hp.1.1 | exact hp.1.2 | exact hp.2.1 | exact hp.2.2)
        simp [execOp, evalF, hp, hc]
      · -- 10: slot 72 := Op.binOp BinOp.add 9 t68 t71 9
        refine ob_yes fun f w' hb hp => ?_
        simp [PreOf, factOf, valOf, Ph.is, Ph.by_, Ph.any, Region.binds] at hp
        refine ⟨by simp [Gd, valOf, hp], ?_⟩
        refine mild_val (.string (bst xs)) ?_ rfl
        have hxb := Hxb.out
        have hsz : (bst b).size + (bst (gput l)).size ≤ 9223372036854775807 := by rw [bst_size, bst_size]; omega
        simp [execOp, evalF, hp, go_sem, hxb, hsz]
      · -- 11: slot 73 := Op.binOp BinOp.eql 9 t66 t72 9
        refine ob_yes fun f w' hb hp => ?_
        simp [PreOf, factOf, valOf, Ph.is, Ph.by_, Ph.any, Region.binds] at hp
        refine ⟨by simp [Gd, valOf, hp], ?_⟩
        refine mild_val (.bool true) ?_ rfl
        simp [execOp, evalF, hp, go_sem]
      · -- 12: slot 74 := Op.pick t64 t73 (const (Value.bool false))
        refine ob_yes fun f w' hb hp => ?_
        simp [PreOf, factOf, valOf, Ph.is, Ph.by_, Ph.any, Region.binds] at hp
        refine ⟨by simp [Gd, valOf, hp], ?_⟩
        refine mild_val (.bool true) ?_ rfl
        simp [execOp, evalF, hp, go_sem]
      · -- 13: slot 75 := Op.move t74
        refine ob_yes fun f w' hb hp => ?_
        simp [PreOf, factOf, valOf, Ph.is, Ph.by_, Ph.any, Region.binds] at hp
        refine ⟨by simp [Gd, valOf, hp], ?_⟩
        refine mild_val (.bool true) ?_ rfl
        simp [execOp, evalF, hp]
      · -- 14: slot 76 := Op.move t8
        refine ob_yes fun f w' hb hp => ?_
        simp [PreOf, factOf, valOf, Ph.is, Ph.by_, Ph.any, Region.binds] at hp
        refine ⟨by simp [Gd, valOf, hp], ?_⟩
        refine mild_val (vf) ?_ rfl
        simp [execOp, evalF, hp]
      · -- 15: slot 77 := Op.convert 22 9 t76
        refine ob_yes fun f w' hb hp => ?_
        simp [PreOf, factOf, valOf, Ph.is, Ph.by_, Ph.any, Region.binds] at hp
        refine ⟨by simp [Gd, valOf, hp], ?_⟩
        refine mild_val (.string (bst (b))) ?_ rfl
        have hc := conv8 ((Hf.out).below hb)
        simp [execOp, evalF, hp, hc]
      · -- 16: slot 78 := Op.move t0
        refine ob_yes fun f w' hb hp => ?_
        simp [PreOf, factOf, valOf, Ph.is, Ph.by_, Ph.any, Region.binds] at hp
        refine ⟨by simp [Gd, valOf, hp], ?_⟩
        refine mild_val (.slice A b.length c) ?_ rfl
        simp [execOp, evalF, hp]
      · -- 17: slot 79 := Op.convert 22 9 t78
        refine ob_yes fun f w' hb hp => ?_
        simp [PreOf, factOf, valOf, Ph.is, Ph.by_, Ph.any, Region.binds] at hp
        refine ⟨by simp [Gd, valOf, hp], ?_⟩
        refine mild_val (.string (bst (b))) ?_ rfl
        have hc := conv8 ((Hb.out).below hb)
        simp [execOp, evalF, hp, hc]
      · -- 18: slot 80 := Op.binOp BinOp.eql 9 t77 t79 9
        refine ob_yes fun f w' hb hp => ?_
        simp [PreOf, factOf, valOf, Ph.is, Ph.by_, Ph.any, Region.binds] at hp
        refine ⟨by simp [Gd, valOf, hp], ?_⟩
        refine mild_val (.bool true) ?_ rfl
        simp [execOp, evalF, hp, go_sem]
      · -- 19: slot 81 := Op.pick t75 t80 (const (Value.bool false))
        refine ob_yes fun f w' hb hp => ?_
        simp [PreOf, factOf, valOf, Ph.is, Ph.by_, Ph.any, Region.binds] at hp
        refine ⟨by simp [Gd, valOf, hp], ?_⟩
        refine mild_val (.bool true) ?_ rfl
        simp [execOp, evalF, hp, go_sem]
      · -- 20: slot 82 := Op.move t81
        refine ob_yes fun f w' hb hp => ?_
        simp [PreOf, factOf, valOf, Ph.is, Ph.by_, Ph.any, Region.binds] at hp
        refine ⟨by simp [Gd, valOf, hp], ?_⟩
        refine mild_val (.bool true) ?_ rfl
        simp [execOp, evalF, hp]
      · -- 21: slot 83 := Op.move t9
        refine ob_yes fun f w' hb hp => ?_
        simp [PreOf, factOf, valOf, Ph.is, Ph.by_, Ph.any, Region.binds] at hp
        refine ⟨by simp [Gd, valOf, hp], ?_⟩
        refine mild_val (vm) ?_ rfl
        simp [execOp, evalF, hp]
      · -- 22: slot 84 := Op.move t1
        refine ob_yes fun f w' hb hp => ?_
        simp [PreOf, factOf, valOf, Ph.is, Ph.by_, Ph.any, Region.binds] at hp
        refine ⟨by simp [Gd, valOf, hp], ?_⟩
        refine mild_val (.slice Al l.length cl) ?_ rfl
        simp [execOp, evalF, hp]
      · -- 23: slot 85 := Op.call   value (Operand.func 42), args := #[t83, t84], argTypes := #[32, 32]  
        refine ob_yes fun f w' hb hp => ?_
        simp [PreOf, factOf, valOf, Ph.is, Ph.by_, Ph.any, Region.binds] at hp
        refine ⟨by simp [Gd, valOf, hp], ?_⟩
        refine mild_call 42 _ _ Try.f42 Try.func42 (by kernel_rfl) (by kernel_rfl) rfl ?_
        simp [evalF, hp, Ph.is, Ph.by_, Ph.any]
        have hsm := gsame_any w' _ _ vm (.slice Al l.length cl) l l ((Hm.out).below hb) (HL.out.below (hb.mono HB.out.size))
        rw [decide_eq_true (rfl : l = l)] at hsm
        refine (hsm).mono fun ev w2 h => ?_
        obtain ⟨rfl, q, rfl⟩ := h
        have h2 := bdrewN (Below.refl w'.heap.size w') q
        first | exact ⟨_, rfl, h2, rfl⟩ | exact ⟨rfl, h2⟩ | simpa using h2
      · -- 24: slot 86 := Op.pick t82 t85 (const (Value.bool false))
        refine ob_yes fun f w' hb hp => ?_
        simp [PreOf, factOf, valOf, Ph.is, Ph.by_, Ph.any, Region.binds] at hp
        refine ⟨by simp [Gd, valOf, hp], ?_⟩
        refine mild_val (.bool true) ?_ rfl
        simp [execOp, evalF, hp, go_sem]
      · -- 25: slot 87 := Op.move t86
        refine ob_yes fun f w' hb hp => ?_
        simp [PreOf, factOf, valOf, Ph.is, Ph.by_, Ph.any, Region.binds] at hp
        refine ⟨by simp [Gd, valOf, hp], ?_⟩
        refine mild_val (.bool true) ?_ rfl
        simp [execOp, evalF, hp]
      · -- 26: slot 88 := Op.move t7
        refine ob_yes fun f w' hb hp => ?_
        simp [PreOf, factOf, valOf, Ph.is, Ph.by_, Ph.any, Region.binds] at hp
        refine ⟨by simp [Gd, valOf, hp], ?_⟩
        refine mild_val (.pointer (some { block := g, off := 0 })) ?_ rfl
        simp [execOp, evalF, hp]
      · -- 27: slot 89 := Op.call   value (Operand.func 23), args := #[t88], argTypes := #[24]  
        refine ob_yes fun f w' hb hp => ?_
        simp [PreOf, factOf, valOf, Ph.is, Ph.by_, Ph.any, Region.binds] at hp
        refine ⟨by simp [Gd, valOf, hp], ?_⟩
        refine mild_call 23 _ _ Try.f23 Try.func23 (by kernel_rfl) (by kernel_rfl) rfl ?_
        simp [evalF, hp, Ph.is, Ph.by_, Ph.any]
        have hen := vend_any w' g [] 0 (Hr.out.below Hr.out.lt hb)
        have he0 : endE [] 0 = 0 := rfl
        rw [he0] at hen
        refine (hen).mono fun ev w2 h => ?_
        obtain ⟨rfl, rfl⟩ := h
        first | exact ⟨_, rfl, Below.refl _ _, rfl⟩ | exact ⟨rfl, Below.refl _ _⟩ | exact Below.refl _ _ | simpa using Below.refl _ _
      · -- 28: slot 90 := Op.binOp BinOp.eql 28 t89 (const (0:i64)) 28
        refine ob_yes fun f w' hb hp => ?_
        simp [PreOf, factOf, valOf, Ph.is, Ph.by_, Ph.any, Region.binds] at hp
        refine ⟨by simp [Gd, valOf, hp], ?_⟩
        refine mild_val (.bool true) ?_ rfl
        simp [execOp, evalF, hp, go_sem]
      · -- 29: slot 91 := Op.pick t87 t90 (const (Value.bool false))
        refine ob_yes fun f w' hb hp => ?_
        simp [PreOf, factOf, valOf, Ph.is, Ph.by_, Ph.any, Region.binds] at hp
        refine ⟨by simp [Gd, valOf, hp], ?_⟩
        refine mild_val (.bool true) ?_ rfl
        simp [execOp, evalF, hp, go_sem]
      · -- 30: slot 92 := Op.move t91
        refine ob_yes fun f w' hb hp => ?_
        simp [PreOf, factOf, valOf, Ph.is, Ph.by_, Ph.any, Region.binds] at hp
        refine ⟨by simp [Gd, valOf, hp], ?_⟩
        refine mild_val (.bool true) ?_ rfl
        simp [execOp, evalF, hp]
      · -- 31: slot 93 := Op.call   value (Operand.func 26), args := #[], argTypes := #[]  
        refine ob_yes fun f w' hb hp => ?_
        simp [PreOf, factOf, valOf, Ph.is, Ph.by_, Ph.any, Region.binds] at hp
        refine ⟨by simp [Gd, valOf, hp], ?_⟩
        refine mild_call 26 _ _ Try.f26 Try.func26 (by kernel_rfl) (by kernel_rfl) rfl ?_
        simp [evalF, hp, Ph.is, Ph.by_, Ph.any]
        refine (awake04 w').mono fun ev w2 h => ?_
        obtain ⟨rfl, h2⟩ := h
        first | exact ⟨_, rfl, h2, rfl⟩ | exact ⟨rfl, h2⟩ | simpa using h2
      · -- 32: slot 94 := Op.pick t92 t93 (const (Value.bool false))
        refine ob_yes fun f w' hb hp => ?_
        simp [PreOf, factOf, valOf, Ph.is, Ph.by_, Ph.any, Region.binds] at hp
        refine ⟨by simp [Gd, valOf, hp], ?_⟩
        refine mild_val (.bool true) ?_ rfl
        simp [execOp, evalF, hp, go_sem]
      · -- 33: slot 4 := Op.assign t94
        refine ob_yes fun f w' hb hp => ?_
        simp [PreOf, factOf, valOf, Ph.is, Ph.by_, Ph.any, Region.binds] at hp
        refine ⟨by simp [Gd, valOf, hp], ?_⟩
        refine mild_val (.bool true) ?_ rfl
        simp [execOp, evalF, hp]
    · intro f w2 hb2 hp
      simp only [PostOf, Ph.is, Ph.by_, Ph.any] at hp
      obtain ⟨h0, h1, h2, h3, h4, h5, h6, h7, h8, h9, h10, h11, h12, h13, h14, h15, h16, h17, h18, h19, h20, h21, h22, h23, h24, h25, h26, h27, h28, h29, h30, h31, h32, h33, _⟩ := hp
      simp only [fills, List.foldl_cons, List.foldl_nil, Act.put, List.setIfInBounds_toArray, List.set_cons_zero, List.set_cons_succ, h0, h1, h2, h3, h4, h5, h6, h7, h9, h10, h11, h12, h13, h14, h15, h16, h17, h18, h19, h20, h21, h22, h23, h24, h25, h26, h27, h28, h29, h30, h31, h32, h33]
      clear h0 h1 h2 h3 h4 h5 h6 h7 h9 h10 h11 h12 h13 h14 h15 h16 h17 h18 h19 h20 h21 h22 h23 h24 h25 h26 h27 h28 h29 h30 h31 h32 h33
      generalize f 70 = v70 at *
      go_wp2_with fail
      go_ret
      exact ⟨rfl, bstep HB.out hb2⟩

set_option maxRecDepth 100000 in
theorem lifted (os : Os) (started : os.Started) (H : Type) (enc : TypeId × Value → H) :
    ReturnsInHanded {} Try.checked os 10 .any (Rows.gapsPutsSpec.pre6 enc Try.prog Try.f10 Rows.gapsPutsRow.domain false) (Rows.gapsPutsSpec.post enc Try.prog Try.f10 false true false false) := by
  refine returnsInHanded_of_change (C := Try.checked) own started (by kernel_rfl) Try.func10
    (ChangeSpec.witness6 (enc := enc) (C := Try.checked) false ⟨#[], #[.slice none 0 0, .slice none 0 0], []⟩ 8 (by kernel_rfl) (by kernel_rfl) (by kernel_rfl) (by kernel_rfl)) ?_
  intro W base args ds gs before hval0 hW hcnd _
  have hval : ∀ (j : Nat) t v, Try.f10.params[j]? = some t → args[j]? = some v → Value.okWide Try.prog W .any base t v := hval0
  have hW' := hW
  obtain ⟨p, q, hA0, hV, rfl, hfz, hnd⟩ := hW
  have hA : DataW.TrodAll enc Try.prog W 0 (fun _ => true) true Try.f10.params.toList args.toList ds p := hA0
  rw [Try.params10] at hA hval
  obtain ⟨v0, vs0, d0, ds0, p0, q0, hargs, rfl, rfl, h0, r0⟩ := trodAll_cons hA
  obtain ⟨v1, vs1, d1, ds1, p1, q1, rfl, rfl, rfl, h1, r1⟩ := trodAll_cons r0
  obtain ⟨rfl, rfl, rfl⟩ := trodAll_nil r1
  obtain rfl : args = #[v0, v1] := by cases args; simp_all
  obtain ⟨rfl, rfl⟩ := trodVars_none hV
  have k0 := h0
  have lt0 : ∀ x ∈ p0, x.block < W.heap.size := by obtain ⟨m, hm⟩ := k0; exact DataW.trod_lt m _ _ _ hm
  have i0 := InC.of h0
  obtain ⟨a0, len0, cap0, rfl⟩ := okWide_slice Try.underlying22 (hval 0 22 v0 rfl rfl)
  have j0 : InC W 22 [_] := i0
  have k1 := h1
  have lt1 : ∀ x ∈ p1, x.block < W.heap.size := by obtain ⟨m, hm⟩ := k1; exact DataW.trod_lt m _ _ _ hm
  have i1 := InC.of h1
  obtain ⟨a1, len1, cap1, rfl⟩ := okWide_slice Try.underlying32 (hval 1 32 v1 rfl rfl)
  have j1 : InC W 32 [_] := i1
  clear hA0 hval0
  refine (walk _ _ W j0 j1).mono fun e W' ⟨he, bel⟩ => ?_
  subst he
  exact ⟨_, rfl, _, _, _, [], _, [], hW', trodAll_mk1 (shut_bool Try.underlying4 _), (trodAll_cons_mk (Below.trod laidOut (by kernel_rfl) (of_decide_eq_true (by kernel_rfl)) k0 bel lt0) (trodAll_cons_mk (Below.trod laidOut (by kernel_rfl) (of_decide_eq_true (by kernel_rfl)) k1 bel lt1) trodAll_mk0)), rfl, bel.frame _, fun h => by cases h⟩

theorem over : Rows.gapsPutsRow.holds Try.pinned (OpenSpec.ofChange Rows.gapsPutsSpec) :=
  OpenClaim.holds_of_wide 10 Try.f10 rfl rfl rfl rfl rfl rfl rfl ⟨rfl, rfl, rfl, rfl, rfl⟩ rfl rfl rfl rfl rfl (by kernel_rfl) Try.func10 (by kernel_rfl)
    (of_decide_eq_true (by kernel_rfl)) (by unfold Func.isWrapper; first | (rw [if_pos (by decide +kernel)]; kernel_rfl) | (rw [if_neg (by decide +kernel)]; exact ⟨rfl, rfl⟩))
    (fun os started H enc _ => lifted os started H enc)

theorem proved : Rows.GapsPutsSaid := over
#print axioms proved
end Go.Proofs.Yteakeefocnjlhaa.gapsPuts
