/- The law 'PickRemaps' returns true for every input, and each argument reads behind the call as it read before. No condition. -/
import Derived.Test.YteakeefocnjlhaaRows
import Derived.Test.YteakeefocnjlhaaIn
import Derived.Test.YteakeefocnjlhaaBack
import Derived.Test.YteakeefocnjlhaaAMay
import Derived.Test.YteakeefocnjlhaaRRemap
import Derived.WalkKit
import Derived.ProofKit
import Derived.OpenShut
import Derived.ShutString
import Derived.ChangeOld
import Derived.Below
namespace Go.Proofs.Yteakeefocnjlhaa.pickRemaps
open Go.Proofs.Yteakeefocnjlhaa
open Go.ChangeShapes Go.WideShapes Go.ChangeAt Go.RowKit
set_option linter.unusedVariables false
set_option linter.unusedSimpArgs false

theorem own : ownKnob Try.prog.godebug = none := by kernel_rfl
theorem laidOut : laidOutB Try.prog = true := by kernel_rfl

set_option maxRecDepth 100000 in
set_option maxHeartbeats 2000000 in
theorem walk (v0 v1 v2 : Value) (w : World) (h0 : InC w 32 [v0]) (h1 : InC w 67 [v1]) (h2 : InC w 26 [v2]) :
    Calls Try.prog 11 #[v0, v1, v2] w fun e w' => e = .returned (.bool true) ∧ Below w.heap.size w w' := by
  obtain ⟨l, hl⟩ := h0.arcs
  obtain ⟨t, ht⟩ := h1.gcells
  obtain ⟨m, e1, _⟩ := InC.u64 (S := fun _ => True) Try.underlying26 h2
  simp at e1
  subst e1
  have hm := u64_lt m
  generalize m.toNat = x at *
  clear h0 h1 h2 m
  obtain ⟨A, c, rfl, hc1, hc2⟩ := hl.form
  obtain ⟨A2, c2, rfl, hd1, hd2⟩ := ht.form
  unfold maxLen at hc2 hd2
  by_cases hb1 : 100 < l.length
  · go_enter Try.func11, Try.ntmps11
    go_wp2_with (go_at_call 45; refine (awake17 _).mono ?_; rintro e wa ⟨rfl, hba⟩)
    go_ret
    exact ⟨rfl, hba⟩
  by_cases hb2 : 100 < t.length
  · go_enter Try.func11, Try.ntmps11
    go_wp2_with (go_at_call 45; refine (awake17 _).mono ?_; rintro e wa ⟨rfl, hba⟩)
    go_ret
    exact ⟨rfl, hba⟩
  have hr := remap_any w _ _ _ l t x hm (by omega) (by omega) hl ht (Nat.le_refl _)
  have hk := fun w' hA hC => back_any w' w'.heap.size (.slice A l.length c) (.slice A2 t.length c2) l t x hm (by omega) (by omega) hA hC (Nat.le_refl _)
  have Hl := Lib.hid hl
  have Ht := Lib.hid ht
  clear hl ht
  by_cases hx : x < ptotal l ∧ mayOk l t = true
  · obtain ⟨hxt, hD⟩ := hx
    have hrm := rmp_ok hD hxt
    obtain ⟨z, hbk, _, hzt, _, _⟩ := bck_ok hD (by omega) hxt
    rw [hrm] at hr
    rw [hbk] at hk
    have hd : decide (ptotal l ≤ x) = false := decide_eq_false (by omega)
    have hrr := fun w' B hA hC hB => rremap_any w' B (.slice A l.length c) (.slice A2 t.length c2) l t x hxt hD (by omega) hA hC hB
    have Hr := Lib.hid hr
    have Hk := Lib.hid hk
    have Hrr := Lib.hid hrr
    have HD := Lib.hid hD
    clear hr hk hrr hrm hbk hD hxt hzt
    generalize frontAt l (toP (gsum l) t x) + metC (gsum l) t (toP (gsum l) t x) x = y at *
    go_enter Try.func11, Try.ntmps11
    go_wp2_with fail
    refine Hr.out.mono ?_
    rintro _ w1 ⟨rfl, hb1'⟩
    go_wp2_with fail
    refine (Hk.out w1 (Hl.out.step hb1') (Ht.out.step hb1')).mono ?_
    rintro _ w2 ⟨rfl, hb2'⟩
    have hb02 := bstep hb1' hb2'
    go_wp2_with fail
    refine (rtotal_any w2 _ _ l (by omega) (Hl.out.step hb02)).mono ?_
    rintro _ _ ⟨rfl, q, rfl⟩
    have hb03 := bstep hb02 (bdrewN (Below.refl _ w2) q)
    have hR := rmay16_any (w2.drewN q) _ _ _ _ l t (by omega) (by omega) (Hl.out.step hb03) (Ht.out.step hb03)
    rw [HD.out] at hR
    go_wp2_with fail
    refine hR.mono ?_
    rintro _ _ ⟨rfl, q2, rfl⟩
    have hb04 := bstep hb02 (bdrewN (Below.refl _ w2) (q + q2))
    go_wp2_with fail
    refine (Hrr.out (w2.drewN (q + q2)) _ (Hl.out.step hb04) (Ht.out.step hb04) (Nat.le_refl _)).mono ?_
    rintro _ w3 ⟨rfl, hb3'⟩
    have hb05 := bstep hb04 hb3'
    go_wp2_with (go_at_call 45; refine (awake17 _).mono ?_; rintro e wa ⟨rfl, hba⟩)
    go_ret
    exact ⟨by simp, bstep hb05 hba⟩
  · rw [rmp_no hx] at hr
    rw [bck_no hx] at hk
    have Hr := Lib.hid hr
    have Hk := Lib.hid hk
    clear hr hk
    by_cases hxt : x < ptotal l
    · have hD : mayOk l t = false := by
        cases h : mayOk l t with
        | false => rfl
        | true => exact absurd ⟨hxt, h⟩ hx
      have hd : decide (ptotal l ≤ x) = false := decide_eq_false (by omega)
      have HD := Lib.hid hD
      clear hD hx hxt
      go_enter Try.func11, Try.ntmps11
      go_wp2_with fail
      refine Hr.out.mono ?_
      rintro _ w1 ⟨rfl, hb1'⟩
      go_wp2_with fail
      refine (Hk.out w1 (Hl.out.step hb1') (Ht.out.step hb1')).mono ?_
      rintro _ w2 ⟨rfl, hb2'⟩
      have hb02 := bstep hb1' hb2'
      go_wp2_with fail
      refine (rtotal_any w2 _ _ l (by omega) (Hl.out.step hb02)).mono ?_
      rintro _ _ ⟨rfl, q, rfl⟩
      have hb03 := bstep hb02 (bdrewN (Below.refl _ w2) q)
      have hR := rmay16_any (w2.drewN q) _ _ _ _ l t (by omega) (by omega) (Hl.out.step hb03) (Ht.out.step hb03)
      rw [HD.out] at hR
      go_wp2_with fail
      refine hR.mono ?_
      rintro _ _ ⟨rfl, q2, rfl⟩
      have hb04 := bstep hb02 (bdrewN (Below.refl _ w2) (q + q2))
      go_wp2_with (go_at_call 45; refine (awake17 _).mono ?_; rintro e wa ⟨rfl, hba⟩)
      go_ret
      exact ⟨by simp, bstep hb04 hba⟩
    · have hd : decide (ptotal l ≤ x) = true := decide_eq_true (by omega)
      clear hx hxt
      go_enter Try.func11, Try.ntmps11
      go_wp2_with fail
      refine Hr.out.mono ?_
      rintro _ w1 ⟨rfl, hb1'⟩
      go_wp2_with fail
      refine (Hk.out w1 (Hl.out.step hb1') (Ht.out.step hb1')).mono ?_
      rintro _ w2 ⟨rfl, hb2'⟩
      have hb02 := bstep hb1' hb2'
      go_wp2_with fail
      refine (rtotal_any w2 _ _ l (by omega) (Hl.out.step hb02)).mono ?_
      rintro _ _ ⟨rfl, q, rfl⟩
      have hb03 := bstep hb02 (bdrewN (Below.refl _ w2) q)
      go_wp2_with (go_at_call 45; refine (awake17 _).mono ?_; rintro e wa ⟨rfl, hba⟩)
      go_ret
      exact ⟨by simp, bstep hb03 hba⟩

set_option maxRecDepth 100000 in
theorem lifted (os : Os) (started : os.Started) (H : Type) (enc : TypeId × Value → H) :
    ReturnsInHanded {} Try.checked os 11 .any (Rows.pickRemapsSpec.pre6 enc Try.prog Try.f11 Rows.pickRemapsRow.domain false) (Rows.pickRemapsSpec.post enc Try.prog Try.f11 false true false false) := by
  refine returnsInHanded_of_change (C := Try.checked) own started (by kernel_rfl) Try.func11
    (ChangeSpec.witness6 (enc := enc) (C := Try.checked) false ⟨#[], #[.slice none 0 0, .slice none 0 0, .int .u64 0], []⟩ 8 (by kernel_rfl) (by kernel_rfl) (by kernel_rfl) (by kernel_rfl)) ?_
  intro W base args ds gs before hval0 hW hcnd _
  have hval : ∀ (j : Nat) t v, Try.f11.params[j]? = some t → args[j]? = some v → Value.okWide Try.prog W .any base t v := hval0
  have hW' := hW
  obtain ⟨p, q, hA0, hV, rfl, hfz, hnd⟩ := hW
  have hA : DataW.TrodAll enc Try.prog W 0 (fun _ => true) true Try.f11.params.toList args.toList ds p := hA0
  rw [Try.params11] at hA hval
  obtain ⟨v0, vs0, d0, ds0, p0, q0, hargs, rfl, rfl, h0, r0⟩ := trodAll_cons hA
  obtain ⟨v1, vs1, d1, ds1, p1, q1, rfl, rfl, rfl, h1, r1⟩ := trodAll_cons r0
  obtain ⟨v2, vs2, d2, ds2, p2, q2, rfl, rfl, rfl, h2, r2⟩ := trodAll_cons r1
  obtain ⟨rfl, rfl, rfl⟩ := trodAll_nil r2
  obtain rfl : args = #[v0, v1, v2] := by cases args; simp_all
  obtain ⟨rfl, rfl⟩ := trodVars_none hV
  have k0 := h0
  have lt0 : ∀ x ∈ p0, x.block < W.heap.size := by obtain ⟨m, hm⟩ := k0; exact DataW.trod_lt m _ _ _ hm
  have i0 := InC.of h0
  obtain ⟨a0, len0, cap0, rfl⟩ := okWide_slice Try.underlying32 (hval 0 32 v0 rfl rfl)
  have j0 : InC W 32 [_] := i0
  have k1 := h1
  have lt1 : ∀ x ∈ p1, x.block < W.heap.size := by obtain ⟨m, hm⟩ := k1; exact DataW.trod_lt m _ _ _ hm
  have i1 := InC.of h1
  obtain ⟨a1, len1, cap1, rfl⟩ := okWide_slice Try.underlying67 (hval 1 67 v1 rfl rfl)
  have j1 : InC W 67 [_] := i1
  have k2 := h2
  have lt2 : ∀ x ∈ p2, x.block < W.heap.size := by obtain ⟨m, hm⟩ := k2; exact DataW.trod_lt m _ _ _ hm
  have i2 := InC.of h2
  obtain ⟨a2, rfl⟩ := okWide_int Try.underlying26 (hval 2 26 v2 rfl rfl)
  have j2 : InC W 26 [_] := i2
  clear hA0 hval0
  refine (walk _ _ _ W j0 j1 j2).mono fun e W' ⟨he, bel⟩ => ?_
  subst he
  exact ⟨_, rfl, _, _, _, [], _, [], hW', trodAll_mk1 (shut_bool Try.underlying4 _), (trodAll_cons_mk (Below.trod laidOut (by kernel_rfl) (of_decide_eq_true (by kernel_rfl)) k0 bel lt0) (trodAll_cons_mk (Below.trod laidOut (by kernel_rfl) (of_decide_eq_true (by kernel_rfl)) k1 bel lt1) (trodAll_cons_mk (Below.trod laidOut (by kernel_rfl) (of_decide_eq_true (by kernel_rfl)) k2 bel lt2) trodAll_mk0))), rfl, bel.frame _, fun h => by cases h⟩

theorem over : Rows.pickRemapsRow.holds Try.pinned (OpenSpec.ofChange Rows.pickRemapsSpec) :=
  OpenClaim.holds_of_wide 11 Try.f11 rfl rfl rfl rfl rfl rfl rfl ⟨rfl, rfl, rfl, rfl, rfl⟩ rfl rfl rfl rfl rfl (by kernel_rfl) Try.func11 (by kernel_rfl)
    (of_decide_eq_true (by kernel_rfl)) (by unfold Func.isWrapper; first | (rw [if_pos (by decide +kernel)]; kernel_rfl) | (rw [if_neg (by decide +kernel)]; exact ⟨rfl, rfl⟩))
    (fun os started H enc _ => lifted os started H enc)

theorem proved : Rows.PickRemapsSaid := over
#print axioms proved
end Go.Proofs.Yteakeefocnjlhaa.pickRemaps
