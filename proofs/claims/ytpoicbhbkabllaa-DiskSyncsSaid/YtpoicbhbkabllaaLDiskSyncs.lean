/- The law 'DiskSyncs' returns true for every input, and each argument reads behind the call as it read before. No condition. -/
import Derived.Test.YtpoicbhbkabllaaRows
import Derived.Test.YtpoicbhbkabllaaIn
import Derived.Test.YtpoicbhbkabllaaSyncLaw
import Derived.Test.YtpoicbhbkabllaaTyped
import Derived.WalkKit
import Derived.ProofKit
import Derived.OpenShut
import Derived.ShutString
import Derived.ChangeOld
import Derived.Below
namespace Go.Proofs.Ytpoicbhbkabllaa.diskSyncs
open Go.Proofs.Ytpoicbhbkabllaa
open Go.ChangeShapes Go.WideShapes Go.ChangeAt Go.RowKit
set_option linter.unusedVariables false
set_option linter.unusedSimpArgs false

theorem own : ownKnob Try.prog.godebug = none := by kernel_rfl
theorem laidOut : laidOutB Try.prog = true := by kernel_rfl

set_option maxRecDepth 100000 in
set_option maxHeartbeats 3200000 in
theorem walk (v0 v1 v2 v3 v4 : Value) (w : World) (h0 : InC w 3 [v0]) (h1 : InC w 3 [v1]) (h2 : InC w 5 [v2]) (h3 : InC w 33 [v3]) (h4 : InC w 33 [v4]) :
    Calls Try.prog 4 #[v0, v1, v2, v3, v4] w fun e w' => e = .returned (.bool true) ∧ Below w.heap.size w w' := by
  obtain ⟨i, e1, hi⟩ := InC.i64 (S := fun _ => True) Try.underlying3 h0
  simp at e1
  subst e1
  obtain ⟨k, e2, hk⟩ := InC.i64 (S := fun _ => True) Try.underlying3 h1
  simp at e2
  subst e2
  obtain ⟨c, e3, _⟩ := InC.u8 (S := fun _ => True) Try.underlying5 h2
  simp [b8] at e3
  subst e3
  obtain ⟨kp, e4, _⟩ := InC.u64 (S := fun _ => True) Try.underlying33 h3
  simp at e4
  subst e4
  obtain ⟨tn, e5, _⟩ := InC.u64 (S := fun _ => True) Try.underlying33 h4
  simp at e5
  subst e5
  clear h0 h1 h2 h3 h4 hi hk
  have hkp := u64_lt kp
  have htn := u64_lt tn
  by_cases hok : 0 ≤ i ∧ i < 40 ∧ 0 ≤ k ∧ k < 40 ∧ i ≠ k
  · obtain ⟨a1, a2, a3, a4, a5⟩ := hok
    obtain ⟨a, rfl⟩ : ∃ a : Nat, i = (a : Int) := ⟨i.toNat, by omega⟩
    obtain ⟨b, rfl⟩ : ∃ b : Nat, k = (b : Int) := ⟨k.toNat, by omega⟩
    have ha : a < 40 := by omega
    have hb : b < 40 := by omega
    have hne : a ≠ b := by omega
    have hd1 : decide ((a : Int) < 0) = false := decide_eq_false (by omega)
    have hd2 : decide (40 ≤ (a : Int)) = false := decide_eq_false (by omega)
    have hd3 : decide ((b : Int) < 0) = false := decide_eq_false (by omega)
    have hd4 : decide (40 ≤ (b : Int)) = false := decide_eq_false (by omega)
    have hd5 : ((a : Int) == (b : Int)) = false := beq_eq_false_iff_ne.2 (by omega)
    have hd6 : (a == b) = false := beq_eq_false_iff_ne.2 hne
    have hc7 : IntKind.u8.wrap ((c.toNat : Int) + 7) = ((c + 7).toNat : Int) := add_u8 c 7
    have HL := Lib.hid (sync_law a b c (c + 7) kp.toNat tn.toNat ha hb hne)
    generalize c + 7 = c7 at *
    clear a1 a2 a3 a4 a5 hne
    generalize kp.toNat = kp at *
    generalize tn.toNat = tn at *
    go_enter Try.func4, Try.ntmps4
    go_wp2_with fail
    refine (dnew_dk _ 40 (by decide) (by decide)).mono ?_
    rintro _ w1 ⟨g, rfl, hd1', hb1⟩
    have Hd1 := Lib.hid hd1'
    clear hd1'
    have hz1 := hb1.size
    have Hb1 := Lib.hid hb1
    clear hb1
    go_wp2_with fail
    refine (filled_any _ _ _).mono ?_
    rintro _ w2 ⟨v, rfl, hf2, hb2⟩
    have hz2 := hb2.size
    have hd2' := (Hd1.out.apart (X' := fun q => w1.heap.size ≤ q ∧ q < w2.heap.size) (fun q hq => .inr hq.1)).below_ hb2
    have hb02 := Hb1.out.trans (hb2.mono hz1)
    have Hd2 := Lib.hid hd2'
    have Hb2 := Lib.hid hb02
    have Hf2 := Lib.hid hf2
    obtain ⟨A, cc, rfl, q1, q2⟩ := hf2.form
    unfold maxLen at q2
    clear hb2 hd2' hb02 Hd1 Hb1 hf2
    go_wp2_with fail
    refine (dwrite_dk Hd2.out (fun k hk => hk.2) (by omega) awW40 Hf2.out.by_ (fun q hq => .inr (Hf2.out.blk q hq))).mono ?_
    rintro _ w3 ⟨rfl, hd3', hc3⟩
    rw [HL.out.1]
    have hz3 := hc3.size
    have hb03 := Hb2.out.trans (hc3.below_ (by omega))
    have Hd3 := Lib.hid hd3'
    have Hb3 := Lib.hid hb03
    clear hd3' hc3 hb03 Hd2 Hb2 Hf2 q1 q2
    go_wp2_with fail
    refine (dsync_dk Hd3.out (fun k hk => by have := hk.2; omega) (by omega) HL.out.2.1).mono ?_
    rintro _ w4 ⟨rfl, hd4', hc4⟩
    rw [HL.out.2.2.1]
    have hz4 := hc4.size
    have hb04 := Hb3.out.trans (hc4.below_ (by omega))
    have Hd4 := Lib.hid hd4'
    have Hb4 := Lib.hid hb04
    clear hd4' hc4 hb04 Hd3 Hb3
    go_wp2_with fail
    refine (filled_any _ _ _).mono ?_
    rintro _ w5 ⟨v, rfl, hf5, hb5⟩
    have hz5 := hb5.size
    have hd5' := (Hd4.out.apart (X' := fun q => w4.heap.size ≤ q ∧ q < w5.heap.size) (fun q hq => .inr hq.1)).below_ hb5
    have hb05 := Hb4.out.trans (hb5.mono (by omega))
    have Hd5 := Lib.hid hd5'
    have Hb5 := Lib.hid hb05
    have Hf5 := Lib.hid hf5
    obtain ⟨A, cc, rfl, q1, q2⟩ := hf5.form
    unfold maxLen at q2
    clear hb5 hd5' hb05 Hd4 Hb4 hf5
    go_wp2_with fail
    refine (dwrite_dk Hd5.out (fun k hk => hk.2) (by omega) HL.out.2.2.2.1 Hf5.out.by_ (fun q hq => .inr (Hf5.out.blk q hq))).mono ?_
    rintro _ w6 ⟨rfl, hd6', hc6⟩
    rw [HL.out.2.2.2.2.1]
    have hz6 := hc6.size
    have hb06 := Hb5.out.trans (hc6.below_ (by omega))
    have Hd6 := Lib.hid hd6'
    have Hb6 := Lib.hid hb06
    clear hd6' hc6 hb06 Hd5 Hb5 Hf5 q1 q2
    go_wp2_with fail
    refine (dback_dk (keep := kp) (torn := tn) Hd6.out (fun k hk => by have := hk.2; omega) (by omega) hkp htn HL.out.2.2.2.2.2.1).mono ?_
    rintro _ w7 ⟨rfl, hd7', hc7⟩
    have hz7 := hc7.size
    have hb07 := Hb6.out.trans (hc7.below_ (by omega))
    have Hd7 := Lib.hid hd7'
    have Hb7 := Lib.hid hb07
    clear hd7' hc7 hb07 Hd6 Hb6
    go_wp2_with fail
    refine (dread_dk Hd7.out HL.out.2.2.2.2.2.2.1).mono ?_
    rintro _ w8 ⟨v, rfl, hf8, hd8', hb8⟩
    rw [HL.out.2.2.2.2.2.2.2.1]
    rw [HL.out.2.2.2.2.2.2.2.2.1] at hf8
    have hz8 := hb8.size
    have hb08 := Hb7.out.trans (hb8.mono (by omega))
    have Hd8 := Lib.hid hd8'
    have Hb8 := Lib.hid hb08
    have Hf8 := Lib.hid hf8.by_
    have hwt := HL.out.2.2.2.2.2.2.2.2.2
    have Hwt := Lib.hid hwt
    generalize backD (writeD (syncD (writeD (newD 40) (a : Int) (filledL c false))) (b : Int) (filledL c7 false)) kp tn = d7 at *
    clear hd8' hb8 hb08 Hd7 Hb7 HL hf8 hwt
    go_wp2_with fail
    obtain ⟨A, cc, rfl, q1, q2, _⟩ := Hf8.out
    refine wp_region_typed [some 73, some 74, some 75, some 76, some 77, some 78, some 79, some 80, some 81, some 82, some 83, some 84, some 85, some 86, some 87, some 88, some 89, some 90, some 10] [73, 74, 75, 76, 77, 78, 79, 80, 81, 82, 83, 84, 85, 86, 87, 88, 89, 90, 10]
      [Ph.is (.int .i64 0),
        Ph.is (.bool true),
        Ph.is (.bool true),
        Ph.is (.slice A (filledL c false).length cc),
        Ph.is (.string (bst (filledL c false))),
        Ph.is (.int .u8 (c.toNat : Int)),
        Ph.by_ (filledL c false),
        Ph.is (.string (bst (filledL c false))),
        Ph.is (.bool true),
        Ph.is (.bool true),
        Ph.is (.bool true),
        Ph.is (.pointer (some ⟨g, 0, none⟩)),
        Ph.is (.int .i64 0),
        Ph.is (.bool true),
        Ph.is (.bool true),
        Ph.is (.bool true),
        Ph.is (.bool true),
        Ph.is (.bool true),
        Ph.is (.bool true)] rfl rfl (by kernel_rfl) (by kernel_rfl) ?_ ?_
    · refine ⟨?_, ?_, ?_, ?_, ?_, ?_, ?_, ?_, ?_, ?_, ?_, ?_, ?_, ?_, ?_, ?_, ?_, ?_, ?_, trivial⟩
      · -- 0: slot 73 := Op.move t14
        refine ob_yes fun f w' hb hp => ?_
        simp [PreOf, factOf, valOf, Ph.is, Ph.by_, Ph.any, Region.binds] at hp
        refine ⟨by simp [Gd, valOf, hp], ?_⟩
        refine mild_val (.int .i64 0) ?_ rfl
        simp [execOp, evalF, hp]
      · -- 1: slot 74 := Op.binOp BinOp.eql 24 t73 (const (0:i64)) 24
        refine ob_yes fun f w' hb hp => ?_
        simp [PreOf, factOf, valOf, Ph.is, Ph.by_, Ph.any, Region.binds] at hp
        refine ⟨by simp [Gd, valOf, hp], ?_⟩
        refine mild_val (.bool true) ?_ rfl
        simp [execOp, evalF, hp, go_sem]
      · -- 2: slot 75 := Op.move t74
        refine ob_yes fun f w' hb hp => ?_
        simp [PreOf, factOf, valOf, Ph.is, Ph.by_, Ph.any, Region.binds] at hp
        refine ⟨by simp [Gd, valOf, hp], ?_⟩
        refine mild_val (.bool true) ?_ rfl
        simp [execOp, evalF, hp]
      · -- 3: slot 76 := Op.move t13
        refine ob_yes fun f w' hb hp => ?_
        simp [PreOf, factOf, valOf, Ph.is, Ph.by_, Ph.any, Region.binds] at hp
        refine ⟨by simp [Gd, valOf, hp], ?_⟩
        refine mild_val (.slice A (filledL c false).length cc) ?_ rfl
        simp [execOp, evalF, hp]
      · -- 4: slot 77 := Op.convert 30 9 t76
        refine ob_yes fun f w' hb hp => ?_
        simp [PreOf, factOf, valOf, Ph.is, Ph.by_, Ph.any, Region.binds] at hp
        refine ⟨by simp [Gd, valOf, hp], ?_⟩
        refine mild_val (.string (bst (filledL c false))) ?_ rfl
        have hc := conv8 ((Hf8.out).below hb)
        simp [execOp, evalF, hp, hc]
      · -- 5: slot 78 := Op.move t2
        refine ob_yes fun f w' hb hp => ?_
        simp [PreOf, factOf, valOf, Ph.is, Ph.by_, Ph.any, Region.binds] at hp
        refine ⟨by simp [Gd, valOf, hp], ?_⟩
        refine mild_val (.int .u8 (c.toNat : Int)) ?_ rfl
        simp [execOp, evalF, hp]
      · -- 6: slot 79 := Op.call   value (Operand.func 17), args := #[t78, const (Value.bool false)], argTypes := #[5, 4]  
        refine ob_yes fun f w' hb hp => ?_
        simp [PreOf, factOf, valOf, Ph.is, Ph.by_, Ph.any, Region.binds] at hp
        refine ⟨by simp [Gd, valOf, hp], ?_⟩
        refine mild_call 17 _ _ Try.f17 Try.func17 (by kernel_rfl) (by kernel_rfl) rfl ?_
        simp [evalF, hp, Ph.is, Ph.by_, Ph.any]
        exact (filled_any w' c false).mono fun e w2 ⟨v, h1, h2, h3⟩ => ⟨v, h1, h3, h2.by_⟩
      · -- 7: slot 80 := Op.convert 30 9 t79
        refine ob_yes fun f w' hb hp => ?_
        simp [PreOf, factOf, valOf, Ph.is, Ph.by_, Ph.any, Region.binds] at hp
        refine ⟨by simp [Gd, valOf, hp], ?_⟩
        refine mild_val (.string (bst (filledL c false))) ?_ rfl
        have hc := conv8 (by first | exact hp | exact hp.1 | exact hp.2 | exact hp.1.1 | exact hp.1.2 | exact hp.2.1 | exact hp.2.2)
        simp [execOp, evalF, hp, hc]
      · -- 8: slot 81 := Op.binOp BinOp.eql 9 t77 t80 9
        refine ob_yes fun f w' hb hp => ?_
        simp [PreOf, factOf, valOf, Ph.is, Ph.by_, Ph.any, Region.binds] at hp
        refine ⟨by simp [Gd, valOf, hp], ?_⟩
        refine mild_val (.bool true) ?_ rfl
        simp [execOp, evalF, hp, go_sem]
      · -- 9: slot 82 := Op.pick t75 t81 (const (Value.bool false))
        refine ob_yes fun f w' hb hp => ?_
        simp [PreOf, factOf, valOf, Ph.is, Ph.by_, Ph.any, Region.binds] at hp
        refine ⟨by simp [Gd, valOf, hp], ?_⟩
        refine mild_val (.bool true) ?_ rfl
        simp [execOp, evalF, hp, go_sem]
      · -- 10: slot 83 := Op.move t82
        refine ob_yes fun f w' hb hp => ?_
        simp [PreOf, factOf, valOf, Ph.is, Ph.by_, Ph.any, Region.binds] at hp
        refine ⟨by simp [Gd, valOf, hp], ?_⟩
        refine mild_val (.bool true) ?_ rfl
        simp [execOp, evalF, hp]
      · -- 11: slot 84 := Op.move t11
        refine ob_yes fun f w' hb hp => ?_
        simp [PreOf, factOf, valOf, Ph.is, Ph.by_, Ph.any, Region.binds] at hp
        refine ⟨by simp [Gd, valOf, hp], ?_⟩
        refine mild_val (.pointer (some ⟨g, 0, none⟩)) ?_ rfl
        simp [execOp, evalF, hp]
      · -- 12: slot 85 := Op.call   value (Operand.func 21), args := #[t84], argTypes := #[23]  
        refine ob_yes fun f w' hb hp => ?_
        simp [PreOf, factOf, valOf, Ph.is, Ph.by_, Ph.any, Region.binds] at hp
        refine ⟨by simp [Gd, valOf, hp], ?_⟩
        refine mild_call 21 _ _ Try.f21 Try.func21 (by kernel_rfl) (by kernel_rfl) rfl ?_
        simp [evalF, hp, Ph.is, Ph.by_, Ph.any]
        have hw := dwaiting_dk (Hd8.out.below_ hb)
        rw [Hwt.out] at hw
        refine (hw).mono fun ev w2 h => ?_
        obtain ⟨rfl, rfl⟩ := h
        first | exact ⟨_, rfl, Below.refl _ _, rfl⟩ | exact ⟨rfl, Below.refl _ _⟩ | exact Below.refl _ _ | simpa using Below.refl _ _
      · -- 13: slot 86 := Op.binOp BinOp.eql 3 t85 (const (0:i64)) 3
        refine ob_yes fun f w' hb hp => ?_
        simp [PreOf, factOf, valOf, Ph.is, Ph.by_, Ph.any, Region.binds] at hp
        refine ⟨by simp [Gd, valOf, hp], ?_⟩
        refine mild_val (.bool true) ?_ rfl
        simp [execOp, evalF, hp, go_sem]
      · -- 14: slot 87 := Op.pick t83 t86 (const (Value.bool false))
        refine ob_yes fun f w' hb hp => ?_
        simp [PreOf, factOf, valOf, Ph.is, Ph.by_, Ph.any, Region.binds] at hp
        refine ⟨by simp [Gd, valOf, hp], ?_⟩
        refine mild_val (.bool true) ?_ rfl
        simp [execOp, evalF, hp, go_sem]
      · -- 15: slot 88 := Op.move t87
        refine ob_yes fun f w' hb hp => ?_
        simp [PreOf, factOf, valOf, Ph.is, Ph.by_, Ph.any, Region.binds] at hp
        refine ⟨by simp [Gd, valOf, hp], ?_⟩
        refine mild_val (.bool true) ?_ rfl
        simp [execOp, evalF, hp]
      · -- 16: slot 89 := Op.call   value (Operand.func 12), args := #[], argTypes := #[]  
        refine ob_yes fun f w' hb hp => ?_
        simp [PreOf, factOf, valOf, Ph.is, Ph.by_, Ph.any, Region.binds] at hp
        refine ⟨by simp [Gd, valOf, hp], ?_⟩
        refine mild_call 12 _ _ Try.f12 Try.func12 (by kernel_rfl) (by kernel_rfl) rfl ?_
        simp [evalF, hp, Ph.is, Ph.by_, Ph.any]
        refine (awake06_any w').mono fun ev w2 h => ?_
        obtain ⟨rfl, h2⟩ := h
        first | exact ⟨_, rfl, h2, rfl⟩ | exact ⟨rfl, h2⟩ | simpa using h2
      · -- 17: slot 90 := Op.pick t88 t89 (const (Value.bool false))
        refine ob_yes fun f w' hb hp => ?_
        simp [PreOf, factOf, valOf, Ph.is, Ph.by_, Ph.any, Region.binds] at hp
        refine ⟨by simp [Gd, valOf, hp], ?_⟩
        refine mild_val (.bool true) ?_ rfl
        simp [execOp, evalF, hp, go_sem]
      · -- 18: slot 10 := Op.assign t90
        refine ob_yes fun f w' hb hp => ?_
        simp [PreOf, factOf, valOf, Ph.is, Ph.by_, Ph.any, Region.binds] at hp
        refine ⟨by simp [Gd, valOf, hp], ?_⟩
        refine mild_val (.bool true) ?_ rfl
        simp [execOp, evalF, hp]
    · intro f w2 hb2 hp
      simp only [PostOf, Ph.is, Ph.by_, Ph.any] at hp
      obtain ⟨h0, h1, h2, h3, h4, h5, h6, h7, h8, h9, h10, h11, h12, h13, h14, h15, h16, h17, h18, _⟩ := hp
      simp only [fills, List.foldl_cons, List.foldl_nil, Act.put, List.setIfInBounds_toArray, List.set_cons_zero, List.set_cons_succ, h0, h1, h2, h3, h4, h5, h7, h8, h9, h10, h11, h12, h13, h14, h15, h16, h17, h18]
      clear h0 h1 h2 h3 h4 h5 h7 h8 h9 h10 h11 h12 h13 h14 h15 h16 h17 h18
      generalize f 79 = v79 at *
      have hb9 := Hb8.out.trans (hb2.mono (by omega))
      go_wp2_with fail
      go_ret
      exact ⟨by simp, hb9⟩
  · by_cases b1 : i < 0
    · have hd1 : decide (i < 0) = true := decide_eq_true b1
      clear b1 hok
      go_enter Try.func4, Try.ntmps4
      go_wp2_with fail
      refine (dnew_dk _ 40 (by decide) (by decide)).mono ?_
      rintro _ w1 ⟨g, rfl, hd1', hb1⟩
      have Hb1 := Lib.hid hb1
      clear hd1' hb1
      go_wp2_with fail
      refine (awake06_any _).mono ?_
      rintro e wa ⟨rfl, hba⟩
      go_wp2_with fail
      go_ret
      exact ⟨rfl, bstep Hb1.out hba⟩
    have hd1 : decide (i < 0) = false := decide_eq_false b1
    by_cases b2 : 40 ≤ i
    · have hd2 : decide (40 ≤ i) = true := decide_eq_true b2
      clear b1 b2 hok
      go_enter Try.func4, Try.ntmps4
      go_wp2_with fail
      refine (dnew_dk _ 40 (by decide) (by decide)).mono ?_
      rintro _ w1 ⟨g, rfl, hd1', hb1⟩
      have Hb1 := Lib.hid hb1
      clear hd1' hb1
      go_wp2_with fail
      refine (awake06_any _).mono ?_
      rintro e wa ⟨rfl, hba⟩
      go_wp2_with fail
      go_ret
      exact ⟨rfl, bstep Hb1.out hba⟩
    have hd2 : decide (40 ≤ i) = false := decide_eq_false b2
    by_cases b3 : k < 0
    · have hd3 : decide (k < 0) = true := decide_eq_true b3
      clear b1 b2 b3 hok
      go_enter Try.func4, Try.ntmps4
      go_wp2_with fail
      refine (dnew_dk _ 40 (by decide) (by decide)).mono ?_
      rintro _ w1 ⟨g, rfl, hd1', hb1⟩
      have Hb1 := Lib.hid hb1
      clear hd1' hb1
      go_wp2_with fail
      refine (awake06_any _).mono ?_
      rintro e wa ⟨rfl, hba⟩
      go_wp2_with fail
      go_ret
      exact ⟨rfl, bstep Hb1.out hba⟩
    have hd3 : decide (k < 0) = false := decide_eq_false b3
    by_cases b4 : 40 ≤ k
    · have hd4 : decide (40 ≤ k) = true := decide_eq_true b4
      clear b1 b2 b3 b4 hok
      go_enter Try.func4, Try.ntmps4
      go_wp2_with fail
      refine (dnew_dk _ 40 (by decide) (by decide)).mono ?_
      rintro _ w1 ⟨g, rfl, hd1', hb1⟩
      have Hb1 := Lib.hid hb1
      clear hd1' hb1
      go_wp2_with fail
      refine (awake06_any _).mono ?_
      rintro e wa ⟨rfl, hba⟩
      go_wp2_with fail
      go_ret
      exact ⟨rfl, bstep Hb1.out hba⟩
    have hd4 : decide (40 ≤ k) = false := decide_eq_false b4
    obtain rfl : i = k := by omega
    have hd5 : (i == i) = true := by simp
    clear b1 b2 b3 b4 hok
    go_enter Try.func4, Try.ntmps4
    go_wp2_with fail
    refine (dnew_dk _ 40 (by decide) (by decide)).mono ?_
    rintro _ w1 ⟨g, rfl, hd1', hb1⟩
    have Hb1 := Lib.hid hb1
    clear hd1' hb1
    go_wp2_with fail
    refine (awake06_any _).mono ?_
    rintro e wa ⟨rfl, hba⟩
    go_wp2_with fail
    go_ret
    exact ⟨rfl, bstep Hb1.out hba⟩

set_option maxRecDepth 100000 in
theorem lifted (os : Os) (started : os.Started) (H : Type) (enc : TypeId × Value → H) :
    ReturnsInHanded {} Try.checked os 4 .any (Rows.diskSyncsSpec.pre6 enc Try.prog Try.f4 Rows.diskSyncsRow.domain false) (Rows.diskSyncsSpec.post enc Try.prog Try.f4 false true false false) := by
  refine returnsInHanded_of_change (C := Try.checked) own started (by kernel_rfl) Try.func4
    (ChangeSpec.witness6 (enc := enc) (C := Try.checked) false ⟨#[], #[.int .i64 0, .int .i64 0, .int .u8 0, .int .u64 0, .int .u64 0], []⟩ 8 (by kernel_rfl) (by kernel_rfl) (by kernel_rfl) (by kernel_rfl)) ?_
  intro W base args ds gs before hval0 hW hcnd _
  have hval : ∀ (j : Nat) t v, Try.f4.params[j]? = some t → args[j]? = some v → Value.okWide Try.prog W .any base t v := hval0
  have hW' := hW
  obtain ⟨p, q, hA0, hV, rfl, hfz, hnd⟩ := hW
  have hA : DataW.TrodAll enc Try.prog W 0 (fun _ => true) true Try.f4.params.toList args.toList ds p := hA0
  rw [Try.params4] at hA hval
  obtain ⟨v0, vs0, d0, ds0, p0, q0, hargs, rfl, rfl, h0, r0⟩ := trodAll_cons hA
  obtain ⟨v1, vs1, d1, ds1, p1, q1, rfl, rfl, rfl, h1, r1⟩ := trodAll_cons r0
  obtain ⟨v2, vs2, d2, ds2, p2, q2, rfl, rfl, rfl, h2, r2⟩ := trodAll_cons r1
  obtain ⟨v3, vs3, d3, ds3, p3, q3, rfl, rfl, rfl, h3, r3⟩ := trodAll_cons r2
  obtain ⟨v4, vs4, d4, ds4, p4, q4, rfl, rfl, rfl, h4, r4⟩ := trodAll_cons r3
  obtain ⟨rfl, rfl, rfl⟩ := trodAll_nil r4
  obtain rfl : args = #[v0, v1, v2, v3, v4] := by cases args; simp_all
  obtain ⟨rfl, rfl⟩ := trodVars_none hV
  have k0 := h0
  have lt0 : ∀ x ∈ p0, x.block < W.heap.size := by obtain ⟨m, hm⟩ := k0; exact DataW.trod_lt m _ _ _ hm
  have i0 := InC.of h0
  obtain ⟨a0, rfl⟩ := okWide_int Try.underlying3 (hval 0 3 v0 rfl rfl)
  have j0 : InC W 3 [_] := i0
  have k1 := h1
  have lt1 : ∀ x ∈ p1, x.block < W.heap.size := by obtain ⟨m, hm⟩ := k1; exact DataW.trod_lt m _ _ _ hm
  have i1 := InC.of h1
  obtain ⟨a1, rfl⟩ := okWide_int Try.underlying3 (hval 1 3 v1 rfl rfl)
  have j1 : InC W 3 [_] := i1
  have k2 := h2
  have lt2 : ∀ x ∈ p2, x.block < W.heap.size := by obtain ⟨m, hm⟩ := k2; exact DataW.trod_lt m _ _ _ hm
  have i2 := InC.of h2
  obtain ⟨a2, rfl⟩ := okWide_int Try.underlying5 (hval 2 5 v2 rfl rfl)
  have j2 : InC W 5 [_] := i2
  have k3 := h3
  have lt3 : ∀ x ∈ p3, x.block < W.heap.size := by obtain ⟨m, hm⟩ := k3; exact DataW.trod_lt m _ _ _ hm
  have i3 := InC.of h3
  obtain ⟨a3, rfl⟩ := okWide_int Try.underlying33 (hval 3 33 v3 rfl rfl)
  have j3 : InC W 33 [_] := i3
  have k4 := h4
  have lt4 : ∀ x ∈ p4, x.block < W.heap.size := by obtain ⟨m, hm⟩ := k4; exact DataW.trod_lt m _ _ _ hm
  have i4 := InC.of h4
  obtain ⟨a4, rfl⟩ := okWide_int Try.underlying33 (hval 4 33 v4 rfl rfl)
  have j4 : InC W 33 [_] := i4
  clear hA0 hval0
  refine (walk _ _ _ _ _ W j0 j1 j2 j3 j4).mono fun e W' ⟨he, bel⟩ => ?_
  subst he
  exact ⟨_, rfl, _, _, _, [], _, [], hW', trodAll_mk1 (shut_bool Try.underlying4 _), (trodAll_cons_mk (Below.trod laidOut (by kernel_rfl) (of_decide_eq_true (by kernel_rfl)) k0 bel lt0) (trodAll_cons_mk (Below.trod laidOut (by kernel_rfl) (of_decide_eq_true (by kernel_rfl)) k1 bel lt1) (trodAll_cons_mk (Below.trod laidOut (by kernel_rfl) (of_decide_eq_true (by kernel_rfl)) k2 bel lt2) (trodAll_cons_mk (Below.trod laidOut (by kernel_rfl) (of_decide_eq_true (by kernel_rfl)) k3 bel lt3) (trodAll_cons_mk (Below.trod laidOut (by kernel_rfl) (of_decide_eq_true (by kernel_rfl)) k4 bel lt4) trodAll_mk0))))), rfl, bel.frame _, fun h => by cases h⟩

theorem over : Rows.diskSyncsRow.holds Try.pinned (OpenSpec.ofChange Rows.diskSyncsSpec) :=
  OpenClaim.holds_of_wide 4 Try.f4 rfl rfl rfl rfl rfl rfl rfl ⟨rfl, rfl, rfl, rfl, rfl⟩ rfl rfl rfl rfl rfl (by kernel_rfl) Try.func4 (by kernel_rfl)
    (of_decide_eq_true (by kernel_rfl)) (by unfold Func.isWrapper; first | (rw [if_pos (by decide +kernel)]; kernel_rfl) | (rw [if_neg (by decide +kernel)]; exact ⟨rfl, rfl⟩))
    (fun os started H enc _ => lifted os started H enc)

theorem proved : Rows.DiskSyncsSaid := over
#print axioms proved
end Go.Proofs.Ytpoicbhbkabllaa.diskSyncs
