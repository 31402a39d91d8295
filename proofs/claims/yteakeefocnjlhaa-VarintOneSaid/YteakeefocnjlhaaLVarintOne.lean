/- The law 'VarintOne' returns true for every input, and each argument reads behind the call as it read before. No condition. -/
import Derived.Test.YteakeefocnjlhaaRows
import Derived.Test.YteakeefocnjlhaaIn
import Derived.Test.YteakeefocnjlhaaVarNil
import Derived.Test.YteakeefocnjlhaaVarRefMore
import Derived.Test.YteakeefocnjlhaaTyped
import Derived.WalkKit
import Derived.ProofKit
import Derived.OpenShut
import Derived.ShutString
import Derived.ChangeOld
import Derived.Below
namespace Go.Proofs.Yteakeefocnjlhaa.varintOne
open Go.Proofs.Yteakeefocnjlhaa
open Go.ChangeShapes Go.WideShapes Go.ChangeAt Go.RowKit
set_option linter.unusedVariables false
set_option linter.unusedSimpArgs false

theorem own : ownKnob Try.prog.godebug = none := by kernel_rfl
theorem laidOut : laidOutB Try.prog = true := by kernel_rfl

set_option maxRecDepth 100000 in
set_option maxHeartbeats 2000000 in
theorem walk (v0 : Value) (w : World) (h0 : InC w 22 [v0]) :
    Calls Try.prog 3 #[v0] w fun e w' => e = .returned (.bool true) ∧ Below w.heap.size w w' := by
  obtain ⟨l, hby⟩ := h0.bytes
  clear h0
  obtain ⟨A, c, rfl, hc1, hc2, _⟩ := id hby
  unfold maxLen at hc2
  by_cases hbig : 100 < l.length
  · go_enter Try.func3, Try.ntmps3
    go_wp2_with (go_at_call 20; refine (awake03 _).mono ?_; rintro e wa ⟨rfl, hba⟩)
    go_ret
    exact ⟨rfl, hba⟩
  have hrd := RdrAt.new_ hby
  have hb1 := balloc w (.cells #[.slice A l.length c, .int .i64 0] 95)
  have hn := vnum_any _ _ _ _ 18446744073709551615 (by decide) hrd
  rw [show (((18446744073709551615 : Nat) : Int)) = 18446744073709551615 from rfl] at hn
  have hone := fun n t => numR_one 18446744073709551615 l n t
  have hns : numS 18446744073709551615 l 0 = numR 18446744073709551615 l := by unfold numS; rw [if_neg (by simp)]
  have hlt := (numR_lt 18446744073709551615 l).1
  rw [hns] at hn
  generalize numR 18446744073709551615 l = R at *
  obtain ⟨n, t, e⟩ := R
  have Hn := Lib.hid hn
  have Hone := Lib.hid hone
  simp only at hlt
  clear hn hone hns
  go_enter Try.func3, Try.ntmps3
  go_wp2_with fail
  refine (vnew_any w A l.length c).mono ?_
  rintro _ w1 ⟨rfl, rfl⟩
  go_wp2_with fail
  refine Hn.out.mono ?_
  rintro _ w2 ⟨rfl, hrd2, hg2⟩
  have hb2 : Below w.heap.size w w2 := hb1.trans (gofBelow hg2 hb1.size (fun k hk => by injection hk with hk; omega))
  have hend := vend_any w2 w.heap.size t e hrd2
  have Hend := Lib.hid hend
  have Hb2 := Lib.hid hb2
  have Hby := Lib.hid (hby.step hb2)
  clear hend hrd hb1 hg2 Hn hby
  by_cases h0 : endE t e = 0
  · have h00 : t = [] ∧ e = 0 := by
      unfold endE at h0
      split at h0
      · omega
      · exact ⟨List.eq_nil_of_length_eq_zero (by omega), h0⟩
    obtain ⟨rfl, rfl⟩ := h00
    have hl := Hone.out n [] rfl
    rw [List.append_nil] at hl
    subst hl
    have he : endE [] 0 = 0 := rfl
    rw [he] at Hend
    have hlv := vput_len64 n hlt
    clear he h0 Hone hrd2
    have hpos : (((vput n).length : Int) == 0) = false := beq_eq_false_iff_ne.2 (by omega)
    go_wp2_with (first
      | (go_at_call 23; refine Hend.out.mono ?_; rintro _ _ ⟨rfl, rfl⟩))
    have hn := hlt
    refine wp_region_typed [some 22, some 23, some 24, some 25, some 26, some 27, some 28, some 29, some 30, some 2] [22, 23, 24, 25, 26, 27, 28, 29, 30, 2]
      [Ph.is (.int .u64 (n : Int)),
        Ph.by_ (vput n),
        Ph.is (.string (bst (vput n))),
        Ph.is (.slice A (vput n).length c),
        Ph.is (.string (bst (vput n))),
        Ph.is (.bool true),
        Ph.is (.bool true),
        Ph.is (.bool true),
        Ph.is (.bool true),
        Ph.is (.bool true)] rfl rfl (by kernel_rfl) (by kernel_rfl) ?_ ?_
    · refine ⟨?_, ?_, ?_, ?_, ?_, ?_, ?_, ?_, ?_, ?_, trivial⟩
      · -- 0: slot 22 := Op.move t4
        refine ob_yes fun f w' hb hp => ?_
        simp [PreOf, factOf, valOf, Ph.is, Ph.by_, Ph.any, Region.binds] at hp
        refine ⟨by simp [Gd, valOf, hp], ?_⟩
        refine mild_val (.int .u64 (n : Int)) ?_ rfl
        simp [execOp, evalF, hp]
      · -- 1: slot 23 := Op.call   value (Operand.func 24), args := #[const (Value.slice none 0 0), t22], argTypes := #[22, 26]  
        refine ob_yes fun f w' hb hp => ?_
        simp [PreOf, factOf, valOf, Ph.is, Ph.by_, Ph.any, Region.binds] at hp
        refine ⟨by simp [Gd, valOf, hp], ?_⟩
        refine mild_call 24 _ _ Try.f24 Try.func24 (by kernel_rfl) (by kernel_rfl) rfl ?_
        simp [evalF, hp, Ph.is, Ph.by_, Ph.any]
        have hc := vput_any w' w'.heap.size (.slice none 0 0) [] (Ow.nil_ _ _) n hn (by simp) (Nat.le_refl _)
        exact hc.mono fun e w2 ⟨v, h1, h2, h3⟩ => ⟨v, h1, h3.below (Nat.le_refl _) (by simp [Value.ownBlock]), h2.by_⟩
      · -- 2: slot 24 := Op.convert 22 9 t23
        refine ob_yes fun f w' hb hp => ?_
        simp [PreOf, factOf, valOf, Ph.is, Ph.by_, Ph.any, Region.binds] at hp
        refine ⟨by simp [Gd, valOf, hp], ?_⟩
        refine mild_val (.string (bst (vput n))) ?_ rfl
        have hc := conv8 (by first | exact hp | exact hp.1 | exact hp.2 | exact hp.1.1 | exact hp.1.2 | exact hp.2.1 | exact hp.2.2)
        simp [execOp, evalF, hp, hc]
      · -- 3: slot 25 := Op.move t0
        refine ob_yes fun f w' hb hp => ?_
        simp [PreOf, factOf, valOf, Ph.is, Ph.by_, Ph.any, Region.binds] at hp
        refine ⟨by simp [Gd, valOf, hp], ?_⟩
        refine mild_val (.slice A (vput n).length c) ?_ rfl
        simp [execOp, evalF, hp]
      · -- 4: slot 26 := Op.convert 22 9 t25
        refine ob_yes fun f w' hb hp => ?_
        simp [PreOf, factOf, valOf, Ph.is, Ph.by_, Ph.any, Region.binds] at hp
        refine ⟨by simp [Gd, valOf, hp], ?_⟩
        refine mild_val (.string (bst (vput n))) ?_ rfl
        have hc := conv8 ((Hby.out).below hb)
        simp [execOp, evalF, hp, hc]
      · -- 5: slot 27 := Op.binOp BinOp.eql 9 t24 t26 9
        refine ob_yes fun f w' hb hp => ?_
        simp [PreOf, factOf, valOf, Ph.is, Ph.by_, Ph.any, Region.binds] at hp
        refine ⟨by simp [Gd, valOf, hp], ?_⟩
        refine mild_val (.bool true) ?_ rfl
        simp [execOp, evalF, hp, go_sem]
      · -- 6: slot 28 := Op.move t27
        refine ob_yes fun f w' hb hp => ?_
        simp [PreOf, factOf, valOf, Ph.is, Ph.by_, Ph.any, Region.binds] at hp
        refine ⟨by simp [Gd, valOf, hp], ?_⟩
        refine mild_val (.bool true) ?_ rfl
        simp [execOp, evalF, hp]
      · -- 7: slot 29 := Op.call   value (Operand.func 20), args := #[], argTypes := #[]  
        refine ob_yes fun f w' hb hp => ?_
        simp [PreOf, factOf, valOf, Ph.is, Ph.by_, Ph.any, Region.binds] at hp
        refine ⟨by simp [Gd, valOf, hp], ?_⟩
        refine mild_call 20 _ _ Try.f20 Try.func20 (by kernel_rfl) (by kernel_rfl) rfl ?_
        simp [evalF, hp, Ph.is, Ph.by_, Ph.any]
        refine (awake03 w').mono fun e w2 h => ?_
        obtain ⟨rfl, h2⟩ := h
        first | exact ⟨_, rfl, h2, rfl⟩ | simpa using h2
      · -- 8: slot 30 := Op.pick t28 t29 (const (Value.bool false))
        refine ob_yes fun f w' hb hp => ?_
        simp [PreOf, factOf, valOf, Ph.is, Ph.by_, Ph.any, Region.binds] at hp
        refine ⟨by simp [Gd, valOf, hp], ?_⟩
        refine mild_val (.bool true) ?_ rfl
        simp [execOp, evalF, hp, go_sem]
      · -- 9: slot 2 := Op.assign t30
        refine ob_yes fun f w' hb hp => ?_
        simp [PreOf, factOf, valOf, Ph.is, Ph.by_, Ph.any, Region.binds] at hp
        refine ⟨by simp [Gd, valOf, hp], ?_⟩
        refine mild_val (.bool true) ?_ rfl
        simp [execOp, evalF, hp]
    · intro f w2 hb2 hp
      simp only [PostOf, Ph.is, Ph.by_, Ph.any] at hp
      obtain ⟨h0, h1, h2, h3, h4, h5, h6, h7, h8, h9, _⟩ := hp
      simp only [fills, List.foldl_cons, List.foldl_nil, Act.put, List.setIfInBounds_toArray, List.set_cons_zero, List.set_cons_succ, h0, h2, h3, h4, h5, h6, h7, h8, h9]
      clear h0 h2 h3 h4 h5 h6 h7 h8 h9
      generalize f 23 = v23 at *
      go_wp2_with fail
      go_ret
      exact ⟨rfl, bstep Hb2.out hb2⟩
  · have hne : (endE t e == 0) = false := by simpa using h0
    have hne' : (endE t e != 0) = true := by simpa using h0
    generalize endE t e = E at *
    clear h0
    go_wp2_with (first
      | (go_at_call 23; refine Hend.out.mono ?_; rintro _ _ ⟨rfl, rfl⟩)
      | (go_at_call 20; refine (awake03 _).mono ?_; rintro e wa ⟨rfl, hba⟩))
    go_ret
    exact ⟨rfl, bstep Hb2.out hba⟩

set_option maxRecDepth 100000 in
theorem lifted (os : Os) (started : os.Started) (H : Type) (enc : TypeId × Value → H) :
    ReturnsInHanded {} Try.checked os 3 .any (Rows.varintOneSpec.pre6 enc Try.prog Try.f3 Rows.varintOneRow.domain false) (Rows.varintOneSpec.post enc Try.prog Try.f3 false true false false) := by
  refine returnsInHanded_of_change (C := Try.checked) own started (by kernel_rfl) Try.func3
    (ChangeSpec.witness6 (enc := enc) (C := Try.checked) false ⟨#[], #[.slice none 0 0], []⟩ 8 (by kernel_rfl) (by kernel_rfl) (by kernel_rfl) (by kernel_rfl)) ?_
  intro W base args ds gs before hval0 hW hcnd _
  have hval : ∀ (j : Nat) t v, Try.f3.params[j]? = some t → args[j]? = some v → Value.okWide Try.prog W .any base t v := hval0
  have hW' := hW
  obtain ⟨p, q, hA0, hV, rfl, hfz, hnd⟩ := hW
  have hA : DataW.TrodAll enc Try.prog W 0 (fun _ => true) true Try.f3.params.toList args.toList ds p := hA0
  rw [Try.params3] at hA hval
  obtain ⟨v0, vs0, d0, ds0, p0, q0, hargs, rfl, rfl, h0, r0⟩ := trodAll_cons hA
  obtain ⟨rfl, rfl, rfl⟩ := trodAll_nil r0
  obtain rfl : args = #[v0] := by cases args; simp_all
  obtain ⟨rfl, rfl⟩ := trodVars_none hV
  have k0 := h0
  have lt0 : ∀ x ∈ p0, x.block < W.heap.size := by obtain ⟨m, hm⟩ := k0; exact DataW.trod_lt m _ _ _ hm
  have i0 := InC.of h0
  obtain ⟨a0, len0, cap0, rfl⟩ := okWide_slice Try.underlying22 (hval 0 22 v0 rfl rfl)
  have j0 : InC W 22 [_] := i0
  clear hA0 hval0
  refine (walk _ W j0).mono fun e W' ⟨he, bel⟩ => ?_
  subst he
  exact ⟨_, rfl, _, _, _, [], _, [], hW', trodAll_mk1 (shut_bool Try.underlying4 _), (trodAll_cons_mk (Below.trod laidOut (by kernel_rfl) (of_decide_eq_true (by kernel_rfl)) k0 bel lt0) trodAll_mk0), rfl, bel.frame _, fun h => by cases h⟩

theorem over : Rows.varintOneRow.holds Try.pinned (OpenSpec.ofChange Rows.varintOneSpec) :=
  OpenClaim.holds_of_wide 3 Try.f3 rfl rfl rfl rfl rfl rfl rfl ⟨rfl, rfl, rfl, rfl, rfl⟩ rfl rfl rfl rfl rfl (by kernel_rfl) Try.func3 (by kernel_rfl)
    (of_decide_eq_true (by kernel_rfl)) (by unfold Func.isWrapper; first | (rw [if_pos (by decide +kernel)]; kernel_rfl) | (rw [if_neg (by decide +kernel)]; exact ⟨rfl, rfl⟩))
    (fun os started H enc _ => lifted os started H enc)

theorem proved : Rows.VarintOneSaid := over
#print axioms proved
end Go.Proofs.Yteakeefocnjlhaa.varintOne
