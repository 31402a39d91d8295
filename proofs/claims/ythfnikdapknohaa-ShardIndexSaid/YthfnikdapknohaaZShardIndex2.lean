/- The law 'ShardIndex' returns true for every input, and each argument reads behind the call as it read before. No condition. -/
import Derived.Test.YthfnikdapknohaaZShardIndex1
import Derived.Test.YthfnikdapknohaaRows
import Derived.WalkKit
import Derived.ProofKit
import Derived.OpenShut
import Derived.ShutString
import Derived.ChangeOld
import Derived.Below
namespace Go.Proofs.Ythfnikdapknohaa.shardIndex
open Go.Proofs.Ythfnikdapknohaa
open Go.ChangeShapes Go.WideShapes Go.ChangeAt Go.RowKit
set_option linter.unusedVariables false
set_option linter.unusedSimpArgs false

theorem own : ownKnob Try.prog.godebug = none := by kernel_rfl
theorem laidOut : laidOutB Try.prog = true := by kernel_rfl

def Ph.spn (l : List GSpan) : Ph := ⟨fun v w => ByS w w.heap.size v l, fun _ _ _ h hb => h.step hb⟩
set_option maxRecDepth 100000 in
set_option maxHeartbeats 8000000 in
theorem walk0 (v0 v1 : Value) (l : List GSpan) (b : List UInt8) (w : World) (hr : ByS w w.heap.size v0 l) (hb : By w w.heap.size v1 b) :
    Calls Try.prog 6 #[v0, v1] w fun e w' => e = .returned (.bool true) ∧ Below w.heap.size w w' := by
  obtain ⟨A, c, rfl, hc1, hc2⟩ := hr.form
  obtain ⟨Ab, cb, rfl, hcb1, hcb2, _⟩ := id hb
  unfold maxLen at hc2 hcb2
  by_cases hl : l.length ≤ 100
  · have hd1 : decide ((100 : Int) < (l.length : Int)) = false := decide_eq_false (by omega)
    have hd2 : decide (100 < l.length) = false := decide_eq_false (by omega)
    by_cases hlb : b.length ≤ 1000
    · have hd3 : decide ((1000 : Int) < (b.length : Int)) = false := decide_eq_false (by omega)
      have hd4 : decide (1000 < b.length) = false := decide_eq_false (by omega)
      have H := Lib.hid hr
      have Hb := Lib.hid hb
      have Hget := Lib.hid (sgetidx_any w _ b hb (by omega))
      have hil : (ienc l).length ≤ 19000 := by
        have h1 := spansB_len l 0
        have h2 := vput_len64 l.length (by omega)
        rw [ienc, frameOf_length, ibody, List.length_append]
        omega
      clear hr hb
      go_enter Try.func6, Try.ntmps6
      go_wp2_with fail
      refine Hget.out.mono ?_
      rintro _ w2 ⟨hb2, hs2⟩
      have Hrg := Lib.hid (rgetidx_any w2 _ b (Hb.out.step hb2) (by omega))
      have Hb2 := Lib.hid hb2
      clear hb2 Hget
      rcases hs2 with ⟨hi, vm, rfl, hm⟩ | ⟨hi, rfl⟩
      · have Hi := Lib.hid hi
        have Hm := Lib.hid hm
        clear hi hm
        go_wp2_with fail
        refine Hrg.out.mono ?_
        rintro _ w3 ⟨hb3, hs3⟩
        rcases hs3 with ⟨_, vw, rfl, hw⟩ | ⟨hn, _⟩
        · have Hw := Lib.hid hw
          have Hm3 := Lib.hid (Hm.out.step hb3)
          have Hb3 := Lib.hid (bstep Hb2.out hb3)
          clear hw hb3 Hrg Hm
          generalize pidx b = pb at *
          go_wp2_with fail
          refine (ssame_any w3 _ _ _ _ pb pb Hm3.out Hw.out).mono ?_
          rintro _ _ ⟨rfl, q, rfl⟩
          rw [decide_eq_true rfl]
          have Hb4 := Lib.hid (bdrewN Hb3.out q)
          clear Hm3 Hw Hb3
          have hbb : (true == true) = true := rfl
          go_wp2_with fail
          generalize w3.drewN q = w4 at *
          refine (sputidx_any w4 w.heap.size (.slice A l.length c) l (by omega) (H.out.below Hb4.out) Hb4.out.size).mono ?_
          rintro _ w5 ⟨⟨hok, v5, rfl, ho5⟩ | ⟨hno, rfl⟩, hb5⟩
          · obtain ⟨A5, c5, rfl, _, _, _⟩ := ho5.form_
            have Hok := Lib.hid hok
            have Ho5 := Lib.hid ho5.by_
            have Hb5 := Lib.hid (Hb4.out.trans (hb5.mono Hb4.out.size))
            clear hok ho5 hb5 Hb4
            go_wp2_with fail
            refine (rindex_any w5 w.heap.size (.slice A l.length c) l (H.out.below Hb5.out) Hb5.out.size).mono ?_
            rintro _ w6 ⟨rfl, hb6⟩
            rw [Hok.out]
            have Ho6 := Lib.hid (Ho5.out.step hb6)
            have Hb6 := Lib.hid (bstep Hb5.out hb6)
            clear hb6 Ho5 Hb5
            go_wp2_with fail
            refine (sgetidx_any w6 _ (ienc l) Ho6.out (by omega)).mono ?_
            rintro _ w7 ⟨hb7, ⟨_, v7, rfl, h7⟩ | ⟨hn, _⟩⟩
            · rw [pidx_ok l Hok.out (by omega)] at h7
              obtain ⟨A7, c7, rfl, _, _⟩ := h7.form
              have H7 := Lib.hid h7
              have Ho7 := Lib.hid (Ho6.out.step hb7)
              have Hb7 := Lib.hid (bstep Hb6.out hb7)
              have Hl7 := Lib.hid (H.out.below Hb7.out)
              have hw7 := Hb7.out.size
              clear h7 hb7 Ho6 Hb6
              go_wp2_with fail
              refine wp_region_typed [some 73, some 74, some 75, some 76, some 77, some 78, some 79, some 80, some 81, some 82, some 83, some 84, some 85, some 86, some 87, some 88, some 89, some 90, some 91, some 92, some 93, some 94, some 4] [73, 74, 75, 76, 77, 78, 79, 80, 81, 82, 83, 84, 85, 86, 87, 88, 89, 90, 91, 92, 93, 94, 4]
                [Ph.is (.int .i64 0),
                  Ph.is (.bool true),
                  Ph.is (.bool true),
                  Ph.is (.slice A5 (ienc l).length c5),
                  Ph.is (.string (bst (ienc l))),
                  Ph.is (.slice A l.length c),
                  Ph.by_ (ienc l),
                  Ph.is (.string (bst (ienc l))),
                  Ph.is (.bool true),
                  Ph.is (.bool true),
                  Ph.is (.bool true),
                  Ph.is (.int .i64 0),
                  Ph.is (.bool true),
                  Ph.is (.bool true),
                  Ph.is (.bool true),
                  Ph.is (.slice A7 l.length c7),
                  Ph.is (.slice A l.length c),
                  Ph.is (.bool true),
                  Ph.is (.bool true),
                  Ph.is (.bool true),
                  Ph.is (.bool true),
                  Ph.is (.bool true),
                  Ph.is (.bool true)] rfl rfl (by kernel_rfl) (by kernel_rfl) ?_ ?_
              · refine ⟨?_, ?_, ?_, ?_, ?_, ?_, ?_, ?_, ?_, ?_, ?_, ?_, ?_, ?_, ?_, ?_, ?_, ?_, ?_, ?_, ?_, ?_, ?_, trivial⟩
                · -- 0: slot 73 := Op.move t10
                  refine ob_yes fun f w' hb hp => ?_
                  simp [PreOf, factOf, valOf, Ph.is, Ph.by_, Ph.any, Region.binds] at hp
                  refine ⟨by simp [Gd, valOf, hp], ?_⟩
                  refine mild_val (.int .i64 0) ?_ rfl
                  simp [execOp, evalF, hp]
                · -- 1: slot 74 := Op.binOp BinOp.eql 26 t73 (const (0:i64)) 26
                  refine ob_yes fun f w' hb hp => ?_
                  simp [PreOf, factOf, valOf, Ph.is, Ph.by_, Ph.any, Region.binds] at hp
                  refine ⟨by simp [Gd, valOf, hp], ?_⟩
                  refine mild_val (.bool true) ?_ rfl
                  simp [execOp, evalF, hp, go_sem]
                · -- 2: slot 75 := Op.move t74
                  refine ob_yes fun f w' hb hp => ?_
                  simp [PreOf, factOf, valOf, Ph.is, Ph.by_, Ph.any, Region.binds] at hp
                  refine ⟨by simp [Gd, valOf, hp], ?_⟩
                  refine mild_val (.bool true) ?_ rfl
                  simp [execOp, evalF, hp]
                · -- 3: slot 76 := Op.move t9
                  refine ob_yes fun f w' hb hp => ?_
                  simp [PreOf, factOf, valOf, Ph.is, Ph.by_, Ph.any, Region.binds] at hp
                  refine ⟨by simp [Gd, valOf, hp], ?_⟩
                  refine mild_val (.slice A5 (ienc l).length c5) ?_ rfl
                  simp [execOp, evalF, hp]
                · -- 4: slot 77 := Op.convert 25 9 t76
                  refine ob_yes fun f w' hb hp => ?_
                  simp [PreOf, factOf, valOf, Ph.is, Ph.by_, Ph.any, Region.binds] at hp
                  refine ⟨by simp [Gd, valOf, hp], ?_⟩
                  refine mild_val (.string (bst (ienc l))) ?_ rfl
                  have hc := conv8 ((Ho7.out).below hb)
                  simp [execOp, evalF, hp, hc]
                · -- 5: slot 78 := Op.move t0
                  refine ob_yes fun f w' hb hp => ?_
                  simp [PreOf, factOf, valOf, Ph.is, Ph.by_, Ph.any, Region.binds] at hp
                  refine ⟨by simp [Gd, valOf, hp], ?_⟩
                  refine mild_val (.slice A l.length c) ?_ rfl
                  simp [execOp, evalF, hp]
                · -- 6: slot 79 := Op.call   value (Operand.func 26), args := #[t78], argTypes := #[41]  
                  refine ob_yes fun f w' hb hp => ?_
                  simp [PreOf, factOf, valOf, Ph.is, Ph.by_, Ph.any, Region.binds] at hp
                  refine ⟨by simp [Gd, valOf, hp], ?_⟩
                  refine mild_call 26 _ _ Try.f26 Try.func26 (by kernel_rfl) (by kernel_rfl) rfl ?_
                  simp [evalF, hp, Ph.is, Ph.by_, Ph.any]
                  exact (rputidx_any w' w.heap.size (.slice A l.length c) l (by omega) (Hl7.out.below (hb.mono hw7)) (Nat.le_trans hw7 hb.size) Hok.out).mono fun e w7 ⟨v, h1, h2, h3⟩ => ⟨v, h1, h3, h2.by_⟩
                · -- 7: slot 80 := Op.convert 25 9 t79
                  refine ob_yes fun f w' hb hp => ?_
                  simp [PreOf, factOf, valOf, Ph.is, Ph.by_, Ph.any, Region.binds] at hp
                  refine ⟨by simp [Gd, valOf, hp], ?_⟩
                  refine mild_val (.string (bst (ienc l))) ?_ rfl
                  have hc := conv8 (by first | exact hp | exact hp.1 | exact hp.2 | exact hp.1.1 | exact hp.1.2 | exact hp.2.1 | exact hp.2.2)
                  simp [execOp, evalF, hp, hc]
                · -- 8: slot 81 := Op.binOp BinOp.eql 9 t77 t80 9
                  refine ob_yes fun f w' hb hp => ?_
                  simp [PreOf, factOf, valOf, Ph.is, Ph.by_, Ph.any, Region.binds] at hp
                  refine ⟨by simp [Gd, valOf, hp], ?_⟩
                  refine mild_val (.bool true) ?_ rfl
                  simp [execOp, evalF, hp, go_sem]
                · -- 9: slot 82 := Op.pick t75 t81 (const (Value.bool false))
                  refine ob_yes fun f w' hb hp => ?_
                  simp [PreOf, factOf, valOf, Ph.is, Ph.by_, Ph.any, Region.binds] at hp
                  refine ⟨by simp [Gd, valOf, hp], ?_⟩
                  refine mild_val (.bool true) ?_ rfl
                  simp [execOp, evalF, hp, go_sem]
                · -- 10: slot 83 := Op.move t82
                  refine ob_yes fun f w' hb hp => ?_
                  simp [PreOf, factOf, valOf, Ph.is, Ph.by_, Ph.any, Region.binds] at hp
                  refine ⟨by simp [Gd, valOf, hp], ?_⟩
                  refine mild_val (.bool true) ?_ rfl
                  simp [execOp, evalF, hp]
                · -- 11: slot 84 := Op.move t12
                  refine ob_yes fun f w' hb hp => ?_
                  simp [PreOf, factOf, valOf, Ph.is, Ph.by_, Ph.any, Region.binds] at hp
                  refine ⟨by simp [Gd, valOf, hp], ?_⟩
                  refine mild_val (.int .i64 0) ?_ rfl
                  simp [execOp, evalF, hp]
                · -- 12: slot 85 := Op.binOp BinOp.eql 26 t84 (const (0:i64)) 26
                  refine ob_yes fun f w' hb hp => ?_
                  simp [PreOf, factOf, valOf, Ph.is, Ph.by_, Ph.any, Region.binds] at hp
                  refine ⟨by simp [Gd, valOf, hp], ?_⟩
                  refine mild_val (.bool true) ?_ rfl
                  simp [execOp, evalF, hp, go_sem]
                · -- 13: slot 86 := Op.pick t83 t85 (const (Value.bool false))
                  refine ob_yes fun f w' hb hp => ?_
                  simp [PreOf, factOf, valOf, Ph.is, Ph.by_, Ph.any, Region.binds] at hp
                  refine ⟨by simp [Gd, valOf, hp], ?_⟩
                  refine mild_val (.bool true) ?_ rfl
                  simp [execOp, evalF, hp, go_sem]
                · -- 14: slot 87 := Op.move t86
                  refine ob_yes fun f w' hb hp => ?_
                  simp [PreOf, factOf, valOf, Ph.is, Ph.by_, Ph.any, Region.binds] at hp
                  refine ⟨by simp [Gd, valOf, hp], ?_⟩
                  refine mild_val (.bool true) ?_ rfl
                  simp [execOp, evalF, hp]
                · -- 15: slot 88 := Op.move t11
                  refine ob_yes fun f w' hb hp => ?_
                  simp [PreOf, factOf, valOf, Ph.is, Ph.by_, Ph.any, Region.binds] at hp
                  refine ⟨by simp [Gd, valOf, hp], ?_⟩
                  refine mild_val (.slice A7 l.length c7) ?_ rfl
                  simp [execOp, evalF, hp]
                · -- 16: slot 89 := Op.move t0
                  refine ob_yes fun f w' hb hp => ?_
                  simp [PreOf, factOf, valOf, Ph.is, Ph.by_, Ph.any, Region.binds] at hp
                  refine ⟨by simp [Gd, valOf, hp], ?_⟩
                  refine mild_val (.slice A l.length c) ?_ rfl
                  simp [execOp, evalF, hp]
                · -- 17: slot 90 := Op.call   value (Operand.func 23), args := #[t88, t89], argTypes := #[41, 41]  
                  refine ob_yes fun f w' hb hp => ?_
                  simp [PreOf, factOf, valOf, Ph.is, Ph.by_, Ph.any, Region.binds] at hp
                  refine ⟨by simp [Gd, valOf, hp], ?_⟩
                  refine mild_call 23 _ _ Try.f23 Try.func23 (by kernel_rfl) (by kernel_rfl) rfl ?_
                  simp [evalF, hp, Ph.is, Ph.by_, Ph.any]
                  refine (ssame_any w' w'.heap.size w.heap.size _ _ l l (H7.out.step hb) (Hl7.out.below (hb.mono hw7))).mono ?_
                  rintro _ _ ⟨rfl, q, rfl⟩
                  rw [decide_eq_true rfl]
                  first | exact ⟨_, rfl, bdrewN (Below.refl _ _) q, rfl⟩ | exact ⟨rfl, bdrewN (Below.refl _ _) q⟩
                · -- 18: slot 91 := Op.pick t87 t90 (const (Value.bool false))
                  refine ob_yes fun f w' hb hp => ?_
                  simp [PreOf, factOf, valOf, Ph.is, Ph.by_, Ph.any, Region.binds] at hp
                  refine ⟨by simp [Gd, valOf, hp], ?_⟩
                  refine mild_val (.bool true) ?_ rfl
                  simp [execOp, evalF, hp, go_sem]
                · -- 19: slot 92 := Op.move t91
                  refine ob_yes fun f w' hb hp => ?_
                  simp [PreOf, factOf, valOf, Ph.is, Ph.by_, Ph.any, Region.binds] at hp
                  refine ⟨by simp [Gd, valOf, hp], ?_⟩
                  refine mild_val (.bool true) ?_ rfl
                  simp [execOp, evalF, hp]
                · -- 20: slot 93 := Op.call   value (Operand.func 12), args := #[], argTypes := #[]  
                  refine ob_yes fun f w' hb hp => ?_
                  simp [PreOf, factOf, valOf, Ph.is, Ph.by_, Ph.any, Region.binds] at hp
                  refine ⟨by simp [Gd, valOf, hp], ?_⟩
                  refine mild_call 12 _ _ Try.f12 Try.func12 (by kernel_rfl) (by kernel_rfl) rfl ?_
                  simp [evalF, hp, Ph.is, Ph.by_, Ph.any]
                  refine (awake23 w').mono ?_
                  rintro _ w7 ⟨rfl, h2⟩
                  first | exact ⟨_, rfl, h2, rfl⟩ | exact ⟨rfl, h2⟩
                · -- 21: slot 94 := Op.pick t92 t93 (const (Value.bool false))
                  refine ob_yes fun f w' hb hp => ?_
                  simp [PreOf, factOf, valOf, Ph.is, Ph.by_, Ph.any, Region.binds] at hp
                  refine ⟨by simp [Gd, valOf, hp], ?_⟩
                  refine mild_val (.bool true) ?_ rfl
                  simp [execOp, evalF, hp, go_sem]
                · -- 22: slot 4 := Op.assign t94
                  refine ob_yes fun f w' hb hp => ?_
                  simp [PreOf, factOf, valOf, Ph.is, Ph.by_, Ph.any, Region.binds] at hp
                  refine ⟨by simp [Gd, valOf, hp], ?_⟩
                  refine mild_val (.bool true) ?_ rfl
                  simp [execOp, evalF, hp]
              · intro f w2 hb2 hp
                simp only [PostOf, Ph.is, Ph.by_, Ph.any] at hp
                obtain ⟨h0, h1, h2, h3, h4, h5, h6, h7, h8, h9, h10, h11, h12, h13, h14, h15, h16, h17, h18, h19, h20, h21, h22, _⟩ := hp
                simp only [fills, List.foldl_cons, List.foldl_nil, Act.put, List.setIfInBounds_toArray, List.set_cons_zero, List.set_cons_succ, h0, h1, h2, h3, h4, h5, h7, h8, h9, h10, h11, h12, h13, h14, h15, h16, h17, h18, h19, h20, h21, h22]
                clear h0 h1 h2 h3 h4 h5 h7 h8 h9 h10 h11 h12 h13 h14 h15 h16 h17 h18 h19 h20 h21 h22
                generalize f 79 = v79 at *
                go_wp2_with fail
                go_ret
                exact ⟨rfl, bstep Hb7.out hb2⟩
            · exact absurd (isIdx_enc l Hok.out (by omega)) hn
          · have Hno := Lib.hid hno
            have Hb5 := Lib.hid (Hb4.out.trans (hb5.mono Hb4.out.size))
            clear hno hb5 Hb4
            go_wp2_with fail
            refine (rindex_any w5 w.heap.size (.slice A l.length c) l (H.out.below Hb5.out) Hb5.out.size).mono ?_
            rintro _ w6 ⟨rfl, hb6⟩
            rw [Hno.out]
            have Hb6 := Lib.hid (bstep Hb5.out hb6)
            clear hb6 Hb5
            go_wp2_with (go_at_call 12; refine (awake23 _).mono ?_; rintro _ w7 ⟨rfl, hb7⟩)
            go_ret
            exact ⟨rfl, bstep Hb6.out hb7⟩
        · exact absurd Hi.out hn
      · have Hi := Lib.hid hi
        clear hi
        go_wp2_with fail
        refine Hrg.out.mono ?_
        rintro _ w3 ⟨hb3, hs3⟩
        rcases hs3 with ⟨hy, _⟩ | ⟨_, vw, rfl, hw⟩
        · exact absurd hy Hi.out
        · have Hw := Lib.hid hw
          have Hb3 := Lib.hid (bstep Hb2.out hb3)
          clear hw hb3 Hrg
          go_wp2_with fail
          refine (ssame_any w3 w3.heap.size _ _ _ [] [] (byS_nil _ _ _) Hw.out).mono ?_
          rintro _ _ ⟨rfl, q, rfl⟩
          rw [decide_eq_true rfl]
          have Hb4 := Lib.hid (bdrewN Hb3.out q)
          clear Hw Hb3
          go_wp2_with fail
          generalize w3.drewN q = w4 at *
          refine (sputidx_any w4 w.heap.size (.slice A l.length c) l (by omega) (H.out.below Hb4.out) Hb4.out.size).mono ?_
          rintro _ w5 ⟨⟨hok, v5, rfl, ho5⟩ | ⟨hno, rfl⟩, hb5⟩
          · obtain ⟨A5, c5, rfl, _, _, _⟩ := ho5.form_
            have Hok := Lib.hid hok
            have Ho5 := Lib.hid ho5.by_
            have Hb5 := Lib.hid (Hb4.out.trans (hb5.mono Hb4.out.size))
            clear hok ho5 hb5 Hb4
            go_wp2_with fail
            refine (rindex_any w5 w.heap.size (.slice A l.length c) l (H.out.below Hb5.out) Hb5.out.size).mono ?_
            rintro _ w6 ⟨rfl, hb6⟩
            rw [Hok.out]
            have Ho6 := Lib.hid (Ho5.out.step hb6)
            have Hb6 := Lib.hid (bstep Hb5.out hb6)
            clear hb6 Ho5 Hb5
            go_wp2_with fail
            refine (sgetidx_any w6 _ (ienc l) Ho6.out (by omega)).mono ?_
            rintro _ w7 ⟨hb7, ⟨_, v7, rfl, h7⟩ | ⟨hn, _⟩⟩
            · rw [pidx_ok l Hok.out (by omega)] at h7
              obtain ⟨A7, c7, rfl, _, _⟩ := h7.form
              have H7 := Lib.hid h7
              have Ho7 := Lib.hid (Ho6.out.step hb7)
              have Hb7 := Lib.hid (bstep Hb6.out hb7)
              have Hl7 := Lib.hid (H.out.below Hb7.out)
              have hw7 := Hb7.out.size
              clear h7 hb7 Ho6 Hb6
              go_wp2_with fail
              refine wp_region_typed [some 73, some 74, some 75, some 76, some 77, some 78, some 79, some 80, some 81, some 82, some 83, some 84, some 85, some 86, some 87, some 88, some 89, some 90, some 91, some 92, some 93, some 94, some 4] [73, 74, 75, 76, 77, 78, 79, 80, 81, 82, 83, 84, 85, 86, 87, 88, 89, 90, 91, 92, 93, 94, 4]
                [Ph.is (.int .i64 0),
                  Ph.is (.bool true),
                  Ph.is (.bool true),
                  Ph.is (.slice A5 (ienc l).length c5),
                  Ph.is (.string (bst (ienc l))),
                  Ph.is (.slice A l.length c),
                  Ph.by_ (ienc l),
                  Ph.is (.string (bst (ienc l))),
                  Ph.is (.bool true),
                  Ph.is (.bool true),
                  Ph.is (.bool true),
                  Ph.is (.int .i64 0),
                  Ph.is (.bool true),
                  Ph.is (.bool true),
                  Ph.is (.bool true),
                  Ph.is (.slice A7 l.length c7),
                  Ph.is (.slice A l.length c),
                  Ph.is (.bool true),
                  Ph.is (.bool true),
                  Ph.is (.bool true),
                  Ph.is (.bool true),
                  Ph.is (.bool true),
                  Ph.is (.bool true)] rfl rfl (by kernel_rfl) (by kernel_rfl) ?_ ?_
              · refine ⟨?_, ?_, ?_, ?_, ?_, ?_, ?_, ?_, ?_, ?_, ?_, ?_, ?_, ?_, ?_, ?_, ?_, ?_, ?_, ?_, ?_, ?_, ?_, trivial⟩
                · -- 0: slot 73 := Op.move t10
                  refine ob_yes fun f w' hb hp => ?_
                  simp [PreOf, factOf, valOf, Ph.is, Ph.by_, Ph.any, Region.binds] at hp
                  refine ⟨by simp [Gd, valOf, hp], ?_⟩
                  refine mild_val (.int .i64 0) ?_ rfl
                  simp [execOp, evalF, hp]
                · -- 1: slot 74 := Op.binOp BinOp.eql 26 t73 (const (0:i64)) 26
                  refine ob_yes fun f w' hb hp => ?_
                  simp [PreOf, factOf, valOf, Ph.is, Ph.by_, Ph.any, Region.binds] at hp
                  refine ⟨by simp [Gd, valOf, hp], ?_⟩
                  refine mild_val (.bool true) ?_ rfl
                  simp [execOp, evalF, hp, go_sem]
                · -- 2: slot 75 := Op.move t74
                  refine ob_yes fun f w' hb hp => ?_
                  simp [PreOf, factOf, valOf, Ph.is, Ph.by_, Ph.any, Region.binds] at hp
                  refine ⟨by simp [Gd, valOf, hp], ?_⟩
                  refine mild_val (.bool true) ?_ rfl
                  simp [execOp, evalF, hp]
                · -- 3: slot 76 := Op.move t9
                  refine ob_yes fun f w' hb hp => ?_
                  simp [PreOf, factOf, valOf, Ph.is, Ph.by_, Ph.any, Region.binds] at hp
                  refine ⟨by simp [Gd, valOf, hp], ?_⟩
                  refine mild_val (.slice A5 (ienc l).length c5) ?_ rfl
                  simp [execOp, evalF, hp]
                · -- 4: slot 77 := Op.convert 25 9 t76
                  refine ob_yes fun f w' hb hp => ?_
                  simp [PreOf, factOf, valOf, Ph.is, Ph.by_, Ph.any, Region.binds] at hp
                  refine ⟨by simp [Gd, valOf, hp], ?_⟩
                  refine mild_val (.string (bst (ienc l))) ?_ rfl
                  have hc := conv8 ((Ho7.out).below hb)
                  simp [execOp, evalF, hp, hc]
                · -- 5: slot 78 := Op.move t0
                  refine ob_yes fun f w' hb hp => ?_
                  simp [PreOf, factOf, valOf, Ph.is, Ph.by_, Ph.any, Region.binds] at hp
                  refine ⟨by simp [Gd, valOf, hp], ?_⟩
                  refine mild_val (.slice A l.length c) ?_ rfl
                  simp [execOp, evalF, hp]
                · -- 6: slot 79 := Op.call   value (Operand.func 26), args := #[t78], argTypes := #[41]  
                  refine ob_yes fun f w' hb hp => ?_
                  simp [PreOf, factOf, valOf, Ph.is, Ph.by_, Ph.any, Region.binds] at hp
                  refine ⟨by simp [Gd, valOf, hp], ?_⟩
                  refine mild_call 26 _ _ Try.f26 Try.func26 (by kernel_rfl) (by kernel_rfl) rfl ?_
                  simp [evalF, hp, Ph.is, Ph.by_, Ph.any]
                  exact (rputidx_any w' w.heap.size (.slice A l.length c) l (by omega) (Hl7.out.below (hb.mono hw7)) (Nat.le_trans hw7 hb.size) Hok.out).mono fun e w7 ⟨v, h1, h2, h3⟩ => ⟨v, h1, h3, h2.by_⟩
                · -- 7: slot 80 := Op.convert 25 9 t79
                  refine ob_yes fun f w' hb hp => ?_
                  simp [PreOf, factOf, valOf, Ph.is, Ph.by_, Ph.any, Region.binds] at hp
                  refine ⟨by simp [Gd, valOf, hp], ?_⟩
                  refine mild_val (.string (bst (ienc l))) ?_ rfl
                  have hc := conv8 (by first | exact hp | exact hp.1 | exact hp.2 | exact hp.1.1 | exact hp.1.2 | exact hp.2.1 | exact hp.2.2)
                  simp [execOp, evalF, hp, hc]
                · -- 8: slot 81 := Op.binOp BinOp.eql 9 t77 t80 9
                  refine ob_yes fun f w' hb hp => ?_
                  simp [PreOf, factOf, valOf, Ph.is, Ph.by_, Ph.any, Region.binds] at hp
                  refine ⟨by simp [Gd, valOf, hp], ?_⟩
                  refine mild_val (.bool true) ?_ rfl
                  simp [execOp, evalF, hp, go_sem]
                · -- 9: slot 82 := Op.pick t75 t81 (const (Value.bool false))
                  refine ob_yes fun f w' hb hp => ?_
                  simp [PreOf, factOf, valOf, Ph.is, Ph.by_, Ph.any, Region.binds] at hp
                  refine ⟨by simp [Gd, valOf, hp], ?_⟩
                  refine mild_val (.bool true) ?_ rfl
                  simp [execOp, evalF, hp, go_sem]
                · -- 10: slot 83 := Op.move t82
                  refine ob_yes fun f w' hb hp => ?_
                  simp [PreOf, factOf, valOf, Ph.is, Ph.by_, Ph.any, Region.binds] at hp
                  refine ⟨by simp [Gd, valOf, hp], ?_⟩
                  refine mild_val (.bool true) ?_ rfl
                  simp [execOp, evalF, hp]
                · -- 11: slot 84 := Op.move t12
                  refine ob_yes fun f w' hb hp => ?_
                  simp [PreOf, factOf, valOf, Ph.is, Ph.by_, Ph.any, Region.binds] at hp
                  refine ⟨by simp [Gd, valOf, hp], ?_⟩
                  refine mild_val (.int .i64 0) ?_ rfl
                  simp [execOp, evalF, hp]
                · -- 12: slot 85 := Op.binOp BinOp.eql 26 t84 (const (0:i64)) 26
                  refine ob_yes fun f w' hb hp => ?_
                  simp [PreOf, factOf, valOf, Ph.is, Ph.by_, Ph.any, Region.binds] at hp
                  refine ⟨by simp [Gd, valOf, hp], ?_⟩
                  refine mild_val (.bool true) ?_ rfl
                  simp [execOp, evalF, hp, go_sem]
                · -- 13: slot 86 := Op.pick t83 t85 (const (Value.bool false))
                  refine ob_yes fun f w' hb hp => ?_
                  simp [PreOf, factOf, valOf, Ph.is, Ph.by_, Ph.any, Region.binds] at hp
                  refine ⟨by simp [Gd, valOf, hp], ?_⟩
                  refine mild_val (.bool true) ?_ rfl
                  simp [execOp, evalF, hp, go_sem]
                · -- 14: slot 87 := Op.move t86
                  refine ob_yes fun f w' hb hp => ?_
                  simp [PreOf, factOf, valOf, Ph.is, Ph.by_, Ph.any, Region.binds] at hp
                  refine ⟨by simp [Gd, valOf, hp], ?_⟩
                  refine mild_val (.bool true) ?_ rfl
                  simp [execOp, evalF, hp]
                · -- 15: slot 88 := Op.move t11
                  refine ob_yes fun f w' hb hp => ?_
                  simp [PreOf, factOf, valOf, Ph.is, Ph.by_, Ph.any, Region.binds] at hp
                  refine ⟨by simp [Gd, valOf, hp], ?_⟩
                  refine mild_val (.slice A7 l.length c7) ?_ rfl
                  simp [execOp, evalF, hp]
                · -- 16: slot 89 := Op.move t0
                  refine ob_yes fun f w' hb hp => ?_
                  simp [PreOf, factOf, valOf, Ph.is, Ph.by_, Ph.any, Region.binds] at hp
                  refine ⟨by simp [Gd, valOf, hp], ?_⟩
                  refine mild_val (.slice A l.length c) ?_ rfl
                  simp [execOp, evalF, hp]
                · -- 17: slot 90 := Op.call   value (Operand.func 23), args := #[t88, t89], argTypes := #[41, 41]  
                  refine ob_yes fun f w' hb hp => ?_
                  simp [PreOf, factOf, valOf, Ph.is, Ph.by_, Ph.any, Region.binds] at hp
                  refine ⟨by simp [Gd, valOf, hp], ?_⟩
                  refine mild_call 23 _ _ Try.f23 Try.func23 (by kernel_rfl) (by kernel_rfl) rfl ?_
                  simp [evalF, hp, Ph.is, Ph.by_, Ph.any]
                  refine (ssame_any w' w'.heap.size w.heap.size _ _ l l (H7.out.step hb) (Hl7.out.below (hb.mono hw7))).mono ?_
                  rintro _ _ ⟨rfl, q, rfl⟩
                  rw [decide_eq_true rfl]
                  first | exact ⟨_, rfl, bdrewN (Below.refl _ _) q, rfl⟩ | exact ⟨rfl, bdrewN (Below.refl _ _) q⟩
                · -- 18: slot 91 := Op.pick t87 t90 (const (Value.bool false))
                  refine ob_yes fun f w' hb hp => ?_
                  simp [PreOf, factOf, valOf, Ph.is, Ph.by_, Ph.any, Region.binds] at hp
                  refine ⟨by simp [Gd, valOf, hp], ?_⟩
                  refine mild_val (.bool true) ?_ rfl
                  simp [execOp, evalF, hp, go_sem]
                · -- 19: slot 92 := Op.move t91
                  refine ob_yes fun f w' hb hp => ?_
                  simp [PreOf, factOf, valOf, Ph.is, Ph.by_, Ph.any, Region.binds] at hp
                  refine ⟨by simp [Gd, valOf, hp], ?_⟩
                  refine mild_val (.bool true) ?_ rfl
                  simp [execOp, evalF, hp]
                · -- 20: slot 93 := Op.call   value (Operand.func 12), args := #[], argTypes := #[]  
                  refine ob_yes fun f w' hb hp => ?_
                  simp [PreOf, factOf, valOf, Ph.is, Ph.by_, Ph.any, Region.binds] at hp
                  refine ⟨by simp [Gd, valOf, hp], ?_⟩
                  refine mild_call 12 _ _ Try.f12 Try.func12 (by kernel_rfl) (by kernel_rfl) rfl ?_
                  simp [evalF, hp, Ph.is, Ph.by_, Ph.any]
                  refine (awake23 w').mono ?_
                  rintro _ w7 ⟨rfl, h2⟩
                  first | exact ⟨_, rfl, h2, rfl⟩ | exact ⟨rfl, h2⟩
                · -- 21: slot 94 := Op.pick t92 t93 (const (Value.bool false))
                  refine ob_yes fun f w' hb hp => ?_
                  simp [PreOf, factOf, valOf, Ph.is, Ph.by_, Ph.any, Region.binds] at hp
                  refine ⟨by simp [Gd, valOf, hp], ?_⟩
                  refine mild_val (.bool true) ?_ rfl
                  simp [execOp, evalF, hp, go_sem]
                · -- 22: slot 4 := Op.assign t94
                  refine ob_yes fun f w' hb hp => ?_
                  simp [PreOf, factOf, valOf, Ph.is, Ph.by_, Ph.any, Region.binds] at hp
                  refine ⟨by simp [Gd, valOf, hp], ?_⟩
                  refine mild_val (.bool true) ?_ rfl
                  simp [execOp, evalF, hp]
              · intro f w2 hb2 hp
                simp only [PostOf, Ph.is, Ph.by_, Ph.any] at hp
                obtain ⟨h0, h1, h2, h3, h4, h5, h6, h7, h8, h9, h10, h11, h12, h13, h14, h15, h16, h17, h18, h19, h20, h21, h22, _⟩ := hp
                simp only [fills, List.foldl_cons, List.foldl_nil, Act.put, List.setIfInBounds_toArray, List.set_cons_zero, List.set_cons_succ, h0, h1, h2, h3, h4, h5, h7, h8, h9, h10, h11, h12, h13, h14, h15, h16, h17, h18, h19, h20, h21, h22]
                clear h0 h1 h2 h3 h4 h5 h7 h8 h9 h10 h11 h12 h13 h14 h15 h16 h17 h18 h19 h20 h21 h22
                generalize f 79 = v79 at *
                go_wp2_with fail
                go_ret
                exact ⟨rfl, bstep Hb7.out hb2⟩
            · exact absurd (isIdx_enc l Hok.out (by omega)) hn
          · have Hno := Lib.hid hno
            have Hb5 := Lib.hid (Hb4.out.trans (hb5.mono Hb4.out.size))
            clear hno hb5 Hb4
            go_wp2_with fail
            refine (rindex_any w5 w.heap.size (.slice A l.length c) l (H.out.below Hb5.out) Hb5.out.size).mono ?_
            rintro _ w6 ⟨rfl, hb6⟩
            rw [Hno.out]
            have Hb6 := Lib.hid (bstep Hb5.out hb6)
            clear hb6 Hb5
            go_wp2_with (go_at_call 12; refine (awake23 _).mono ?_; rintro _ w7 ⟨rfl, hb7⟩)
            go_ret
            exact ⟨rfl, bstep Hb6.out hb7⟩
    · have hd3 : decide ((1000 : Int) < (b.length : Int)) = true := decide_eq_true (by omega)
      have hd4 : decide (1000 < b.length) = true := decide_eq_true (by omega)
      go_enter Try.func6, Try.ntmps6
      go_wp2_with (go_at_call 12; refine (awake23 _).mono ?_; rintro _ w7 ⟨rfl, hb7⟩)
      go_ret
      exact ⟨rfl, hb7⟩
  · have hd1 : decide ((100 : Int) < (l.length : Int)) = true := decide_eq_true (by omega)
    have hd2 : decide (100 < l.length) = true := decide_eq_true (by omega)
    go_enter Try.func6, Try.ntmps6
    go_wp2_with (go_at_call 12; refine (awake23 _).mono ?_; rintro _ w7 ⟨rfl, hb7⟩)
    go_ret
    exact ⟨rfl, hb7⟩
theorem walk (v0 v1 : Value) (w : World) (h0 : InC w 41 [v0]) (h1 : InC w 25 [v1]) :
    Calls Try.prog 6 #[v0, v1] w fun e w' => e = .returned (.bool true) ∧ Below w.heap.size w w' := by
  obtain ⟨l, hr⟩ := h0.spans
  obtain ⟨b, hb⟩ := h1.bytes
  exact walk0 v0 v1 l b w hr hb

set_option maxRecDepth 100000 in
theorem lifted (os : Os) (started : os.Started) (H : Type) (enc : TypeId × Value → H) :
    ReturnsInHanded {} Try.checked os 6 .any (Rows.shardIndexSpec.pre6 enc Try.prog Try.f6 Rows.shardIndexRow.domain false) (Rows.shardIndexSpec.post enc Try.prog Try.f6 false true false false) := by
  refine returnsInHanded_of_change (C := Try.checked) own started (by kernel_rfl) Try.func6
    (ChangeSpec.witness6 (enc := enc) (C := Try.checked) false ⟨#[], #[.slice none 0 0, .slice none 0 0], []⟩ 8 (by kernel_rfl) (by kernel_rfl) (by kernel_rfl) (by kernel_rfl)) ?_
  intro W base args ds gs before hval0 hW hcnd _
  have hval : ∀ (j : Nat) t v, Try.f6.params[j]? = some t → args[j]? = some v → Value.okWide Try.prog W .any base t v := hval0
  have hW' := hW
  obtain ⟨p, q, hA0, hV, rfl, hfz, hnd⟩ := hW
  have hA : DataW.TrodAll enc Try.prog W 0 (fun _ => true) true Try.f6.params.toList args.toList ds p := hA0
  rw [Try.params6] at hA hval
  obtain ⟨v0, vs0, d0, ds0, p0, q0, hargs, rfl, rfl, h0, r0⟩ := trodAll_cons hA
  obtain ⟨v1, vs1, d1, ds1, p1, q1, rfl, rfl, rfl, h1, r1⟩ := trodAll_cons r0
  obtain ⟨rfl, rfl, rfl⟩ := trodAll_nil r1
  obtain rfl : args = #[v0, v1] := by cases args; simp_all
  obtain ⟨rfl, rfl⟩ := trodVars_none hV
  have k0 := h0
  have lt0 : ∀ x ∈ p0, x.block < W.heap.size := by obtain ⟨m, hm⟩ := k0; exact DataW.trod_lt m _ _ _ hm
  have i0 := InC.of h0
  obtain ⟨a0, len0, cap0, rfl⟩ := okWide_slice Try.underlying41 (hval 0 41 v0 rfl rfl)
  have j0 : InC W 41 [_] := i0
  have k1 := h1
  have lt1 : ∀ x ∈ p1, x.block < W.heap.size := by obtain ⟨m, hm⟩ := k1; exact DataW.trod_lt m _ _ _ hm
  have i1 := InC.of h1
  obtain ⟨a1, len1, cap1, rfl⟩ := okWide_slice Try.underlying25 (hval 1 25 v1 rfl rfl)
  have j1 : InC W 25 [_] := i1
  clear hA0 hval0
  refine (walk _ _ W j0 j1).mono fun e W' ⟨he, bel⟩ => ?_
  subst he
  exact ⟨_, rfl, _, _, _, [], _, [], hW', trodAll_mk1 (shut_bool Try.underlying4 _), (trodAll_cons_mk (Below.trod laidOut (by kernel_rfl) (of_decide_eq_true (by kernel_rfl)) k0 bel lt0) (trodAll_cons_mk (Below.trod laidOut (by kernel_rfl) (of_decide_eq_true (by kernel_rfl)) k1 bel lt1) trodAll_mk0)), rfl, bel.frame _, fun h => by cases h⟩

theorem over : Rows.shardIndexRow.holds Try.pinned (OpenSpec.ofChange Rows.shardIndexSpec) :=
  OpenClaim.holds_of_wide 6 Try.f6 rfl rfl rfl rfl rfl rfl rfl ⟨rfl, rfl, rfl, rfl, rfl⟩ rfl rfl rfl rfl rfl (by kernel_rfl) Try.func6 (by kernel_rfl)
    (of_decide_eq_true (by kernel_rfl)) (by unfold Func.isWrapper; first | (rw [if_pos (by decide +kernel)]; kernel_rfl) | (rw [if_neg (by decide +kernel)]; exact ⟨rfl, rfl⟩))
    (fun os started H enc _ => lifted os started H enc)

theorem proved : Rows.ShardIndexSaid := over
#print axioms proved
end Go.Proofs.Ythfnikdapknohaa.shardIndex
