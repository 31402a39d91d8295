/- The law 'AliasBuilds' returns true for every input, and each argument reads behind the call as it read before. No condition. -/
import Derived.Test.YteakeefocnjlhaaRows
import Derived.Test.YteakeefocnjlhaaIn
import Derived.Test.YteakeefocnjlhaaAwake16
import Derived.Test.YteakeefocnjlhaaAMay2
import Derived.Test.YteakeefocnjlhaaRBuild
import Derived.WalkKit
import Derived.ProofKit
import Derived.OpenShut
import Derived.ShutString
import Derived.ChangeOld
import Derived.Below
namespace Go.Proofs.Yteakeefocnjlhaa.aliasBuilds
open Go.Proofs.Yteakeefocnjlhaa
open Go.ChangeShapes Go.WideShapes Go.ChangeAt Go.RowKit
set_option linter.unusedVariables false
set_option linter.unusedSimpArgs false

theorem own : ownKnob Try.prog.godebug = none := by kernel_rfl
theorem laidOut : laidOutB Try.prog = true := by kernel_rfl

set_option maxRecDepth 100000 in
set_option maxHeartbeats 2000000 in
theorem walk (v0 : Value) (w : World) (h0 : InC w 32 [v0]) :
    Calls Try.prog 15 #[v0] w fun e w' => e = .returned (.bool true) ∧ Below w.heap.size w w' := by
  obtain ⟨l, hl⟩ := h0.arcs
  clear h0
  obtain ⟨A, c, rfl, hc1, hc2⟩ := hl.form
  unfold maxLen at hc2
  by_cases hb1 : 100 < l.length
  · go_enter Try.func15, Try.ntmps15
    go_wp2_with (go_at_call 56; refine (awake16 _).mono ?_; rintro e wa ⟨rfl, hba⟩)
    go_ret
    exact ⟨rfl, hba⟩
  have hd : decide (100 < l.length) = false := decide_eq_false hb1
  cases hn : nbrs l with
  | false =>
    have hb := build_no w _ _ l (by omega) hl (Nat.le_refl _) hn
    go_enter Try.func15, Try.ntmps15
    go_wp2_with fail
    refine hb.mono ?_
    rintro _ w1 ⟨rfl, hb1'⟩
    go_wp2_with fail
    have hnb := nbrs_any w1 _ _ l (by omega) (hl.step hb1')
    rw [hn] at hnb
    refine hnb.mono ?_
    rintro _ _ ⟨rfl, q, rfl⟩
    go_wp2_with (go_at_call 56; refine (awake16 _).mono ?_; rintro e wa ⟨rfl, hba⟩)
    go_ret
    exact ⟨rfl, bstep (bstep hb1' (bdrewN (Below.refl _ _) q)) hba⟩
  | true =>
    have hb := build_any w _ _ l (by omega) hl (Nat.le_refl _) hn
    have hsum : gsum l ≤ 2147483647 := by
      unfold nbrs at hn
      rw [Bool.and_eq_true] at hn
      exact gmay_sum hn.2
    have hmy := btab_may l (by omega) hn hsum
    have htl := btab_len l (by omega) hsum
    have Hl := Lib.hid hl
    have Hmy := Lib.hid hmy
    have Htl := Lib.hid htl
    have Hn := Lib.hid hn
    clear hl hmy htl hn
    generalize hT : btab l = t at *
    have HT := Lib.hid hT
    clear hT
    go_enter Try.func15, Try.ntmps15
    go_wp2_with fail
    refine hb.mono ?_
    rintro _ w1 ⟨vo, rfl, hown, hb1'⟩
    have hby := hown.byC
    have Hby := Lib.hid hby
    have Hl1 := Lib.hid (Hl.out.step hb1')
    have Hb1 := Lib.hid hb1'
    obtain ⟨A2, c2, rfl, hd1', hd2'⟩ := hby.form
    clear hown hby hb1' Hl hb
    go_wp2_with fail
    have hnb := nbrs_any w1 _ _ l (by omega) Hl1.out
    rw [Hn.out] at hnb
    refine hnb.mono ?_
    rintro _ _ ⟨rfl, q, rfl⟩
    have hbq := bdrewN (Below.refl w1.heap.size w1) q
    have Hbq := Lib.hid hbq
    clear hbq hnb
    go_wp2_with fail
    refine (rbuild_any _ _ _ l (by omega) (Hl1.out.step Hbq.out) (Nat.le_refl _) Hn.out).mono ?_
    rintro _ w2 ⟨vo2, rfl, hown2, hb2⟩
    rw [HT.out] at hown2
    have hb02 := bstep Hbq.out hb2
    have Hb02 := Lib.hid hb02
    have hby2 := hown2.byC
    have Hby2 := Lib.hid hby2
    obtain ⟨A3, c3, rfl, _, _⟩ := hby2.form
    clear hown2 hby2 hb2 hb02
    go_wp2_with fail
    have hsm := csame_any w2 _ _ _ _ t t (Hby.out.step Hb02.out) Hby2.out
    rw [decide_eq_true rfl] at hsm
    refine hsm.mono ?_
    rintro _ _ ⟨rfl, q2, rfl⟩
    have hb03 := bstep Hb02.out (bdrewN (Below.refl _ w2) q2)
    have Hb03 := Lib.hid hb03
    clear hsm hb03
    go_wp2_with fail
    have hm1 := rmay16_any (w2.drewN q2) _ _ _ _ l t (by omega) (by rw [Htl.out]; omega) (Hl1.out.step Hb03.out) (Hby.out.step Hb03.out)
    rw [Hmy.out] at hm1
    refine hm1.mono ?_
    rintro _ _ ⟨rfl, q3, rfl⟩
    have hb04 := bstep Hb02.out (bdrewN (Below.refl _ w2) (q2 + q3))
    have Hb04 := Lib.hid hb04
    clear hm1 hb04
    go_wp2_with fail
    have hm2 := amay_any (w2.drewN (q2 + q3)) _ _ _ _ l t (by omega) (by rw [Htl.out]; omega) (Hl1.out.step Hb04.out) (Hby.out.step Hb04.out) (Nat.le_refl _) (Nat.le_refl _)
    rw [Hmy.out] at hm2
    have Hm2 := Lib.hid hm2
    clear hm2
    refine Hm2.out.mono ?_
    rintro _ w5 ⟨rfl, hb5⟩
    have hb05 := bstep Hb04.out hb5
    go_wp2_with (go_at_call 56; refine (awake16 _).mono ?_; rintro e wa ⟨rfl, hba⟩)
    go_ret
    exact ⟨rfl, bstep (bstep Hb1.out hb05) hba⟩

set_option maxRecDepth 100000 in
theorem lifted (os : Os) (started : os.Started) (H : Type) (enc : TypeId × Value → H) :
    ReturnsInHanded {} Try.checked os 15 .any (Rows.aliasBuildsSpec.pre6 enc Try.prog Try.f15 Rows.aliasBuildsRow.domain false) (Rows.aliasBuildsSpec.post enc Try.prog Try.f15 false true false false) := by
  refine returnsInHanded_of_change (C := Try.checked) own started (by kernel_rfl) Try.func15
    (ChangeSpec.witness6 (enc := enc) (C := Try.checked) false ⟨#[], #[.slice none 0 0], []⟩ 8 (by kernel_rfl) (by kernel_rfl) (by kernel_rfl) (by kernel_rfl)) ?_
  intro W base args ds gs before hval0 hW hcnd _
  have hval : ∀ (j : Nat) t v, Try.f15.params[j]? = some t → args[j]? = some v → Value.okWide Try.prog W .any base t v := hval0
  have hW' := hW
  obtain ⟨p, q, hA0, hV, rfl, hfz, hnd⟩ := hW
  have hA : DataW.TrodAll enc Try.prog W 0 (fun _ => true) true Try.f15.params.toList args.toList ds p := hA0
  rw [Try.params15] at hA hval
  obtain ⟨v0, vs0, d0, ds0, p0, q0, hargs, rfl, rfl, h0, r0⟩ := trodAll_cons hA
  obtain ⟨rfl, rfl, rfl⟩ := trodAll_nil r0
  obtain rfl : args = #[v0] := by cases args; simp_all
  obtain ⟨rfl, rfl⟩ := trodVars_none hV
  have k0 := h0
  have lt0 : ∀ x ∈ p0, x.block < W.heap.size := by obtain ⟨m, hm⟩ := k0; exact DataW.trod_lt m _ _ _ hm
  have i0 := InC.of h0
  obtain ⟨a0, len0, cap0, rfl⟩ := okWide_slice Try.underlying32 (hval 0 32 v0 rfl rfl)
  have j0 : InC W 32 [_] := i0
  clear hA0 hval0
  refine (walk _ W j0).mono fun e W' ⟨he, bel⟩ => ?_
  subst he
  exact ⟨_, rfl, _, _, _, [], _, [], hW', trodAll_mk1 (shut_bool Try.underlying4 _), (trodAll_cons_mk (Below.trod laidOut (by kernel_rfl) (of_decide_eq_true (by kernel_rfl)) k0 bel lt0) trodAll_mk0), rfl, bel.frame _, fun h => by cases h⟩

theorem over : Rows.aliasBuildsRow.holds Try.pinned (OpenSpec.ofChange Rows.aliasBuildsSpec) :=
  OpenClaim.holds_of_wide 15 Try.f15 rfl rfl rfl rfl rfl rfl rfl ⟨rfl, rfl, rfl, rfl, rfl⟩ rfl rfl rfl rfl rfl (by kernel_rfl) Try.func15 (by kernel_rfl)
    (of_decide_eq_true (by kernel_rfl)) (by unfold Func.isWrapper; first | (rw [if_pos (by decide +kernel)]; kernel_rfl) | (rw [if_neg (by decide +kernel)]; exact ⟨rfl, rfl⟩))
    (fun os started H enc _ => lifted os started H enc)

theorem proved : Rows.AliasBuildsSaid := over
#print axioms proved
end Go.Proofs.Yteakeefocnjlhaa.aliasBuilds
