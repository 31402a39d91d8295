/- The law 'PickOnto' returns true for every input, and each argument reads behind the call as it read before. No condition. -/
import Derived.Test.YteakeefocnjlhaaRows
import Derived.Test.YteakeefocnjlhaaIn
import Derived.Test.YteakeefocnjlhaaBack
import Derived.Test.YteakeefocnjlhaaAMay
import Derived.WalkKit
import Derived.ProofKit
import Derived.OpenShut
import Derived.ShutString
import Derived.ChangeOld
import Derived.Below
namespace Go.Proofs.Yteakeefocnjlhaa.pickOnto
open Go.Proofs.Yteakeefocnjlhaa
open Go.ChangeShapes Go.WideShapes Go.ChangeAt Go.RowKit
set_option linter.unusedVariables false
set_option linter.unusedSimpArgs false

theorem own : ownKnob Try.prog.godebug = none := by kernel_rfl
theorem laidOut : laidOutB Try.prog = true := by kernel_rfl

set_option maxRecDepth 100000 in
set_option maxHeartbeats 2000000 in
theorem walk (v0 v1 v2 : Value) (w : World) (h0 : InC w 32 [v0]) (h1 : InC w 67 [v1]) (h2 : InC w 26 [v2]) :
    Calls Try.prog 12 #[v0, v1, v2] w fun e w' => e = .returned (.bool true) ∧ Below w.heap.size w w' := by
  obtain ⟨l, hl⟩ := h0.arcs
  obtain ⟨t, ht⟩ := h1.gcells
  obtain ⟨m, e1, _⟩ := InC.u64 (S := fun _ => True) Try.underlying26 h2
  simp at e1
  subst e1
  have hm := u64_lt m
  generalize m.toNat = y at *
  clear h0 h1 h2 m
  obtain ⟨A, c, rfl, hc1, hc2⟩ := hl.form
  obtain ⟨A2, c2, rfl, hd1, hd2⟩ := ht.form
  unfold maxLen at hc2 hd2
  by_cases hb1 : 100 < l.length
  · go_enter Try.func12, Try.ntmps12
    go_wp2_with (go_at_call 45; refine (awake17 _).mono ?_; rintro e wa ⟨rfl, hba⟩)
    go_ret
    exact ⟨rfl, hba⟩
  by_cases hb2 : 100 < t.length
  · go_enter Try.func12, Try.ntmps12
    go_wp2_with (go_at_call 45; refine (awake17 _).mono ?_; rintro e wa ⟨rfl, hba⟩)
    go_ret
    exact ⟨rfl, hba⟩
  have hT := rtotal_any w _ _ l (by omega) hl
  have Hl := Lib.hid hl
  have Ht := Lib.hid ht
  clear hl ht
  by_cases hyt : ptotal l ≤ y
  · have hd : decide (ptotal l ≤ y) = true := decide_eq_true hyt
    go_enter Try.func12, Try.ntmps12
    go_wp2_with fail
    refine hT.mono ?_
    rintro _ _ ⟨rfl, q, rfl⟩
    go_wp2_with (go_at_call 45; refine (awake17 _).mono ?_; rintro e wa ⟨rfl, hba⟩)
    go_ret
    exact ⟨rfl, bstep (bdrewN (Below.refl _ w) q) hba⟩
  have hd : decide (ptotal l ≤ y) = false := decide_eq_false hyt
  have hR := fun q => rmay16_any (w.drewN q) _ _ _ _ l t (by omega) (by omega) (Hl.out.step (bdrewN (Below.refl w.heap.size w) q)) (Ht.out.step (bdrewN (Below.refl w.heap.size w) q))
  cases hD : mayOk l t with
  | false =>
    rw [hD] at hR
    have HR := Lib.hid hR
    clear hR
    go_enter Try.func12, Try.ntmps12
    go_wp2_with fail
    refine hT.mono ?_
    rintro _ _ ⟨rfl, q, rfl⟩
    go_wp2_with fail
    refine (HR.out q).mono ?_
    rintro _ _ ⟨rfl, q2, rfl⟩
    go_wp2_with (go_at_call 45; refine (awake17 _).mono ?_; rintro e wa ⟨rfl, hba⟩)
    go_ret
    exact ⟨rfl, bstep (bdrewN (Below.refl _ w) (q + q2)) hba⟩
  | true =>
    rw [hD] at hR
    have HR := Lib.hid hR
    clear hR
    obtain ⟨x, hbk, _, hxt, hxto, hxm⟩ := bck_ok hD (by omega) (show y < ptotal l by omega)
    have hrm := rmp_ok hD hxt
    have hpa := (palias_ok hD hxt).1
    have hiv : ival l y = (ivalN l y, true) := by unfold ival; rw [if_pos (by omega)]
    rw [hxto] at hrm hpa
    rw [hxm] at hrm
    have hxb : x < 18446744073709551616 := by
      obtain ⟨hg, hW0, _, hW1⟩ := ptotal_pos hxt
      have : gsum l * l.length ≤ 2147483647 * 100 := Nat.mul_le_mul hW1 (by omega)
      rw [ptotal_eq hxt] at hxt
      omega
    have hdx : decide (x < ptotal l) = true := decide_eq_true hxt
    have Hbk := Lib.hid hbk
    have Hrm := Lib.hid hrm
    have Hpa := Lib.hid hpa
    have Hiv := Lib.hid hiv
    clear hbk hrm hpa hiv hD hxt hxto hxm hyt
    generalize ivalN l y = to at *
    go_enter Try.func12, Try.ntmps12
    go_wp2_with fail
    refine hT.mono ?_
    rintro _ _ ⟨rfl, q, rfl⟩
    go_wp2_with fail
    refine (HR.out q).mono ?_
    rintro _ _ ⟨rfl, q2, rfl⟩
    have hbq := bdrewN (Below.refl w.heap.size w) (q + q2)
    have h1 := back_any (w.drewN (q + q2)) _ _ _ l t y hm (by omega) (by omega) (Hl.out.step hbq) (Ht.out.step hbq) (Nat.le_refl _)
    rw [Hbk.out] at h1
    have Hk1 := Lib.hid h1
    clear h1 hT HR
    go_wp2_with fail
    refine Hk1.out.mono ?_
    rintro _ w1 ⟨rfl, hb1'⟩
    have hb01 := bstep hbq hb1'
    have h1 := remap_any w1 _ _ _ l t x hxb (by omega) (by omega) (Hl.out.step hb01) (Ht.out.step hb01) (Nat.le_refl _)
    rw [Hrm.out] at h1
    have Hk2 := Lib.hid h1
    clear h1 hb1' Hk1
    go_wp2_with fail
    refine Hk2.out.mono ?_
    rintro _ w2 ⟨rfl, hb2'⟩
    have hb02 := bstep hb01 hb2'
    have h1 := palias_any w2 _ _ _ _ l t x hxb (by omega) (by omega) (Hl.out.step hb02) (Ht.out.step hb02) (Nat.le_refl _) (Nat.le_refl _)
    rw [Hpa.out] at h1
    have Hk3 := Lib.hid h1
    clear h1 hb2' Hk2
    go_wp2_with fail
    refine Hk3.out.mono ?_
    rintro _ w3 ⟨rfl, hb3'⟩
    have hb03 := bstep hb02 hb3'
    have h1 := interval_any w3 _ _ l y hm (by omega) (Hl.out.step hb03) (Nat.le_refl _)
    rw [Hiv.out] at h1
    have Hk4 := Lib.hid h1
    clear h1 hb3' Hk3
    go_wp2_with fail
    refine Hk4.out.mono ?_
    rintro _ w4 ⟨rfl, hb4'⟩
    have hb04 := bstep hb03 hb4'
    go_wp2_with fail
    refine (rtotal_any w4 _ _ l (by omega) (Hl.out.step hb04)).mono ?_
    rintro _ _ ⟨rfl, q3, rfl⟩
    go_wp2_with (go_at_call 45; refine (awake17 _).mono ?_; rintro e wa ⟨rfl, hba⟩)
    go_ret
    exact ⟨by simp, bstep (bstep hb04 (bdrewN (Below.refl _ w4) q3)) hba⟩

set_option maxRecDepth 100000 in
theorem lifted (os : Os) (started : os.Started) (H : Type) (enc : TypeId × Value → H) :
    ReturnsInHanded {} Try.checked os 12 .any (Rows.pickOntoSpec.pre6 enc Try.prog Try.f12 Rows.pickOntoRow.domain false) (Rows.pickOntoSpec.post enc Try.prog Try.f12 false true false false) := by
  refine returnsInHanded_of_change (C := Try.checked) own started (by kernel_rfl) Try.func12
    (ChangeSpec.witness6 (enc := enc) (C := Try.checked) false ⟨#[], #[.slice none 0 0, .slice none 0 0, .int .u64 0], []⟩ 8 (by kernel_rfl) (by kernel_rfl) (by kernel_rfl) (by kernel_rfl)) ?_
  intro W base args ds gs before hval0 hW hcnd _
  have hval : ∀ (j : Nat) t v, Try.f12.params[j]? = some t → args[j]? = some v → Value.okWide Try.prog W .any base t v := hval0
  have hW' := hW
  obtain ⟨p, q, hA0, hV, rfl, hfz, hnd⟩ := hW
  have hA : DataW.TrodAll enc Try.prog W 0 (fun _ => true) true Try.f12.params.toList args.toList ds p := hA0
  rw [Try.params12] at hA hval
  obtain ⟨v0, vs0, d0, ds0, p0, q0, hargs, rfl, rfl, h0, r0⟩ := trodAll_cons hA
  obtain ⟨v1, vs1, d1, ds1, p1, q1, rfl, rfl, rfl, h1, r1⟩ := trodAll_cons r0
  obtain ⟨v2, vs2, d2, ds2, p2, q2, rfl, rfl, rfl, h2, r2⟩ := trodAll_cons r1
  obtain ⟨rfl, rfl, rfl⟩ := trodAll_nil r2
  obtain rfl : args = #[v0, v1, v2] := by cases args; simp_all
  obtain ⟨rfl, rfl⟩ := trodVars_none hV
  have k0 := h0
  have lt0 : ∀ x ∈ p0, x.block < W.heap.size := by obtain ⟨m, hm⟩ := k0; exact DataW.trod_lt m _ _ _ hm
  have i0 := InC.of h0
  obtain ⟨a0, len0, cap0, rfl⟩ := okWide_slice Try.underlying32 (hval 0 32 v0 rfl rfl)
  have j0 : InC W 32 [_] := i0
  have k1 := h1
  have lt1 : ∀ x ∈ p1, x.block < W.heap.size := by obtain ⟨m, hm⟩ := k1; exact DataW.trod_lt m _ _ _ hm
  have i1 := InC.of h1
  obtain ⟨a1, len1, cap1, rfl⟩ := okWide_slice Try.underlying67 (hval 1 67 v1 rfl rfl)
  have j1 : InC W 67 [_] := i1
  have k2 := h2
  have lt2 : ∀ x ∈ p2, x.block < W.heap.size := by obtain ⟨m, hm⟩ := k2; exact DataW.trod_lt m _ _ _ hm
  have i2 := InC.of h2
  obtain ⟨a2, rfl⟩ := okWide_int Try.underlying26 (hval 2 26 v2 rfl rfl)
  have j2 : InC W 26 [_] := i2
  clear hA0 hval0
  refine (walk _ _ _ W j0 j1 j2).mono fun e W' ⟨he, bel⟩ => ?_
  subst he
  exact ⟨_, rfl, _, _, _, [], _, [], hW', trodAll_mk1 (shut_bool Try.underlying4 _), (trodAll_cons_mk (Below.trod laidOut (by kernel_rfl) (of_decide_eq_true (by kernel_rfl)) k0 bel lt0) (trodAll_cons_mk (Below.trod laidOut (by kernel_rfl) (of_decide_eq_true (by kernel_rfl)) k1 bel lt1) (trodAll_cons_mk (Below.trod laidOut (by kernel_rfl) (of_decide_eq_true (by kernel_rfl)) k2 bel lt2) trodAll_mk0))), rfl, bel.frame _, fun h => by cases h⟩

theorem over : Rows.pickOntoRow.holds Try.pinned (OpenSpec.ofChange Rows.pickOntoSpec) :=
  OpenClaim.holds_of_wide 12 Try.f12 rfl rfl rfl rfl rfl rfl rfl ⟨rfl, rfl, rfl, rfl, rfl⟩ rfl rfl rfl rfl rfl (by kernel_rfl) Try.func12 (by kernel_rfl)
    (of_decide_eq_true (by kernel_rfl)) (by unfold Func.isWrapper; first | (rw [if_pos (by decide +kernel)]; kernel_rfl) | (rw [if_neg (by decide +kernel)]; exact ⟨rfl, rfl⟩))
    (fun os started H enc _ => lifted os started H enc)

theorem proved : Rows.PickOntoSaid := over
#print axioms proved
end Go.Proofs.Yteakeefocnjlhaa.pickOnto
