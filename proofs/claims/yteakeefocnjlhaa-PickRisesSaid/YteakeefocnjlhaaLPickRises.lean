/- The law 'PickRises' returns true for every input, and each argument reads behind the call as it read before. No condition. -/
import Derived.Test.YteakeefocnjlhaaRows
import Derived.Test.YteakeefocnjlhaaIn
import Derived.Test.YteakeefocnjlhaaPickLaw
import Derived.Test.YteakeefocnjlhaaAMay
import Derived.WalkKit
import Derived.ProofKit
import Derived.OpenShut
import Derived.ShutString
import Derived.ChangeOld
import Derived.Below
namespace Go.Proofs.Yteakeefocnjlhaa.pickRises
open Go.Proofs.Yteakeefocnjlhaa
open Go.ChangeShapes Go.WideShapes Go.ChangeAt Go.RowKit
set_option linter.unusedVariables false
set_option linter.unusedSimpArgs false

theorem own : ownKnob Try.prog.godebug = none := by kernel_rfl
theorem laidOut : laidOutB Try.prog = true := by kernel_rfl

set_option maxRecDepth 100000 in
set_option maxHeartbeats 2000000 in
theorem walk (v0 v1 v2 v3 : Value) (w : World) (h0 : InC w 32 [v0]) (h1 : InC w 67 [v1]) (h2 : InC w 26 [v2]) (h3 : InC w 26 [v3]) :
    Calls Try.prog 9 #[v0, v1, v2, v3] w fun e w' => e = .returned (.bool true) ∧ Below w.heap.size w w' := by
  obtain ⟨l, hl⟩ := h0.arcs
  obtain ⟨t, ht⟩ := h1.gcells
  obtain ⟨m, e1, _⟩ := InC.u64 (S := fun _ => True) Try.underlying26 h2
  simp at e1
  subst e1
  obtain ⟨m2, e2, _⟩ := InC.u64 (S := fun _ => True) Try.underlying26 h3
  simp at e2
  subst e2
  have hm := u64_lt m
  have hm2 := u64_lt m2
  generalize m.toNat = a at *
  generalize m2.toNat = b at *
  clear h0 h1 h2 h3 m m2
  obtain ⟨A, c, rfl, hc1, hc2⟩ := hl.form
  obtain ⟨A2, c2, rfl, hd1, hd2⟩ := ht.form
  unfold maxLen at hc2 hd2
  by_cases hb1 : 100 < l.length
  · go_enter Try.func9, Try.ntmps9
    go_wp2_with (go_at_call 45; refine (awake17 _).mono ?_; rintro e wa ⟨rfl, hba⟩)
    go_ret
    exact ⟨rfl, hba⟩
  by_cases hb2 : 100 < t.length
  · go_enter Try.func9, Try.ntmps9
    go_wp2_with (go_at_call 45; refine (awake17 _).mono ?_; rintro e wa ⟨rfl, hba⟩)
    go_ret
    exact ⟨rfl, hba⟩
  have hR := rmay16_any w _ _ _ _ l t (by omega) (by omega) hl ht
  have Hl := Lib.hid hl
  have Ht := Lib.hid ht
  clear hl ht
  cases hD : mayOk l t with
  | false =>
    rw [hD] at hR
    go_enter Try.func9, Try.ntmps9
    go_wp2_with fail
    refine hR.mono ?_
    rintro _ _ ⟨rfl, q, rfl⟩
    go_wp2_with (go_at_call 45; refine (awake17 _).mono ?_; rintro e wa ⟨rfl, hba⟩)
    go_ret
    exact ⟨rfl, bstep (bdrewN (Below.refl _ w) q) hba⟩
  | true =>
    rw [hD] at hR
    have HD := Lib.hid hD
    clear hD
    go_enter Try.func9, Try.ntmps9
    go_wp2_with fail
    refine hR.mono ?_
    rintro _ _ ⟨rfl, q, rfl⟩
    have hbq := bdrewN (Below.refl w.heap.size w) q
    have ha1 := palias_any (w.drewN q) _ _ _ _ l t a hm (by omega) (by omega) (Hl.out.step hbq) (Ht.out.step hbq) (Nat.le_refl _) (Nat.le_refl _)
    have Ha1 := Lib.hid ha1
    clear ha1 hR
    go_wp2_with fail
    refine Ha1.out.mono ?_
    rintro _ w1 ⟨rfl, hb1'⟩
    have hb01 := bstep hbq hb1'
    have ha2 := palias_any w1 _ _ _ _ l t b hm2 (by omega) (by omega) (Hl.out.step hb01) (Ht.out.step hb01) (Nat.le_refl _) (Nat.le_refl _)
    have Ha2 := Lib.hid ha2
    clear ha2
    go_wp2_with fail
    refine Ha2.out.mono ?_
    rintro _ w2 ⟨rfl, hb2'⟩
    have hb02 := bstep hb01 hb2'
    have ha3 := remap_any w2 _ _ _ l t a hm (by omega) (by omega) (Hl.out.step hb02) (Ht.out.step hb02) (Nat.le_refl _)
    have Ha3 := Lib.hid ha3
    clear ha3
    go_wp2_with fail
    refine Ha3.out.mono ?_
    rintro _ w3 ⟨rfl, hb3'⟩
    have hb03 := bstep hb02 hb3'
    have ha4 := remap_any w3 _ _ _ l t b hm2 (by omega) (by omega) (Hl.out.step hb03) (Ht.out.step hb03) (Nat.le_refl _)
    have Ha4 := Lib.hid ha4
    clear ha4
    go_wp2_with fail
    refine Ha4.out.mono ?_
    rintro _ w4 ⟨rfl, hb4'⟩
    have hb04 := bstep hb03 hb4'
    have Hb04 := Lib.hid hb04
    clear hb4' hb3' hb2' hb1' hbq hb01 hb02 hb03 hb04 Ha1 Ha2 Ha3 Ha4
    by_cases hab : a < ptotal l ∧ b < ptotal l
    · obtain ⟨hpa, hta⟩ := palias_ok HD.out hab.1
      obtain ⟨hpb, htb⟩ := palias_ok HD.out hab.2
      have hra := rmp_ok HD.out hab.1
      have hrb := rmp_ok HD.out hab.2
      rw [hpa, hpb, hra, hrb]
      clear hpa hpb hra hrb
      have hW := (ptotal_pos hab.1).2.2.2
      have hfa : frontAt l (toP (gsum l) t a) ≤ 100 * 2147483647 := Nat.mul_le_mul (by omega) (Nat.le_trans (gsum_take_le l _) hW)
      have hfb : frontAt l (toP (gsum l) t b) ≤ 100 * 2147483647 := Nat.mul_le_mul (by omega) (Nat.le_trans (gsum_take_le l _) hW)
      have hma := metC_le (gsum l) t (toP (gsum l) t a) a
      have hmb := metC_le (gsum l) t (toP (gsum l) t b) b
      have hpt := ptotal_eq hab.1
      have hpl : gsum l * l.length ≤ 2147483647 * 100 := Nat.mul_le_mul hW (by omega)
      by_cases hxy : toP (gsum l) t a = toP (gsum l) t b
      · have hri := rises hxy
        have hri2 : decide (frontAt l (toP (gsum l) t a) + metC (gsum l) t (toP (gsum l) t a) a < frontAt l (toP (gsum l) t b) + metC (gsum l) t (toP (gsum l) t b) b) = decide (a < b) := by
          rw [hri, hxy]
          apply decide_eq_decide.2
          omega
        generalize frontAt l (toP (gsum l) t a) + metC (gsum l) t (toP (gsum l) t a) a = ma at *
        generalize frontAt l (toP (gsum l) t b) + metC (gsum l) t (toP (gsum l) t b) b = mb at *
        have hne : (((toP (gsum l) t a : Nat) : Int) != ((toP (gsum l) t b : Nat) : Int)) = false := by simp [hxy]
        generalize toP (gsum l) t a = ta at *
        generalize toP (gsum l) t b = tb at *
        obtain ⟨hab1, hab2⟩ := hab
        clear hri hfa hfb hma hmb hab1 hab2 hpt hxy
        by_cases hlt : a < b
        · have hd1 : decide (a < b) = true := decide_eq_true hlt
          have hd2 : decide (ma < mb) = true := by rw [hri2]; exact hd1
          clear hri2 hlt
          go_wp2_with (go_at_call 45; refine (awake17 _).mono ?_; rintro e wa ⟨rfl, hba⟩)
          go_ret
          exact ⟨by simp, bstep Hb04.out hba⟩
        · have hd1 : decide (a < b) = false := decide_eq_false hlt
          have hd2 : decide (ma < mb) = false := by rw [hri2]; exact hd1
          clear hri2 hlt
          go_wp2_with (go_at_call 45; refine (awake17 _).mono ?_; rintro e wa ⟨rfl, hba⟩)
          go_ret
          exact ⟨by simp, bstep Hb04.out hba⟩
      · have hne : (((toP (gsum l) t a : Nat) : Int) != ((toP (gsum l) t b : Nat) : Int)) = true := by simp; omega
        generalize frontAt l (toP (gsum l) t a) + metC (gsum l) t (toP (gsum l) t a) a = ma at *
        generalize frontAt l (toP (gsum l) t b) + metC (gsum l) t (toP (gsum l) t b) b = mb at *
        generalize toP (gsum l) t a = ta at *
        generalize toP (gsum l) t b = tb at *
        clear hfa hfb hma hmb hab hpt hxy
        go_wp2_with (go_at_call 45; refine (awake17 _).mono ?_; rintro e wa ⟨rfl, hba⟩)
        go_ret
        exact ⟨by simp, bstep Hb04.out hba⟩
    · generalize rmp l t a = RA
      generalize rmp l t b = RB
      obtain ⟨ra1, ra2⟩ := RA
      obtain ⟨rb1, rb2⟩ := RB
      have ht1 := fun w' B h => rtotal_any w' B (.slice A l.length c) l (by omega) h
      by_cases ha : a < ptotal l
      · have hb : ¬ b < ptotal l := fun hb => hab ⟨ha, hb⟩
        obtain ⟨hpa, hta⟩ := palias_ok HD.out ha
        rw [hpa, palias_no (fun e => hb e.2)]
        have hg1 : decide (ptotal l ≤ a) = false := decide_eq_false (by omega)
        have hg2 : decide (ptotal l ≤ b) = true := decide_eq_true (by omega)
        generalize toP (gsum l) t a = ta at *
        have Ht1 := Lib.hid ht1
        clear hpa ht1 hab ha hb
        go_wp2_with fail
        refine (Ht1.out _ _ (Hl.out.step Hb04.out)).mono ?_
        rintro _ _ ⟨rfl, q1, rfl⟩
        have hb5 := bstep Hb04.out (bdrewN (Below.refl _ w4) q1)
        go_wp2_with fail
        refine (Ht1.out _ _ (Hl.out.step hb5)).mono ?_
        rintro _ _ ⟨rfl, q2, rfl⟩
        go_wp2_with (go_at_call 45; refine (awake17 _).mono ?_; rintro e wa ⟨rfl, hba⟩)
        go_ret
        exact ⟨by simp, bstep (bstep Hb04.out (bdrewN (Below.refl _ w4) (q1 + q2))) hba⟩
      · rw [palias_no (fun e => ha e.2)]
        have hg1 : decide (ptotal l ≤ a) = true := decide_eq_true (by omega)
        generalize palias l t b = PB
        obtain ⟨pb1, pb2⟩ := PB
        have Ht1 := Lib.hid ht1
        clear ht1 hab ha
        go_wp2_with fail
        refine (Ht1.out _ _ (Hl.out.step Hb04.out)).mono ?_
        rintro _ _ ⟨rfl, q1, rfl⟩
        go_wp2_with (go_at_call 45; refine (awake17 _).mono ?_; rintro e wa ⟨rfl, hba⟩)
        go_ret
        exact ⟨by simp, bstep (bstep Hb04.out (bdrewN (Below.refl _ w4) q1)) hba⟩

set_option maxRecDepth 100000 in
theorem lifted (os : Os) (started : os.Started) (H : Type) (enc : TypeId × Value → H) :
    ReturnsInHanded {} Try.checked os 9 .any (Rows.pickRisesSpec.pre6 enc Try.prog Try.f9 Rows.pickRisesRow.domain false) (Rows.pickRisesSpec.post enc Try.prog Try.f9 false true false false) := by
  refine returnsInHanded_of_change (C := Try.checked) own started (by kernel_rfl) Try.func9
    (ChangeSpec.witness6 (enc := enc) (C := Try.checked) false ⟨#[], #[.slice none 0 0, .slice none 0 0, .int .u64 0, .int .u64 0], []⟩ 8 (by kernel_rfl) (by kernel_rfl) (by kernel_rfl) (by kernel_rfl)) ?_
  intro W base args ds gs before hval0 hW hcnd _
  have hval : ∀ (j : Nat) t v, Try.f9.params[j]? = some t → args[j]? = some v → Value.okWide Try.prog W .any base t v := hval0
  have hW' := hW
  obtain ⟨p, q, hA0, hV, rfl, hfz, hnd⟩ := hW
  have hA : DataW.TrodAll enc Try.prog W 0 (fun _ => true) true Try.f9.params.toList args.toList ds p := hA0
  rw [Try.params9] at hA hval
  obtain ⟨v0, vs0, d0, ds0, p0, q0, hargs, rfl, rfl, h0, r0⟩ := trodAll_cons hA
  obtain ⟨v1, vs1, d1, ds1, p1, q1, rfl, rfl, rfl, h1, r1⟩ := trodAll_cons r0
  obtain ⟨v2, vs2, d2, ds2, p2, q2, rfl, rfl, rfl, h2, r2⟩ := trodAll_cons r1
  obtain ⟨v3, vs3, d3, ds3, p3, q3, rfl, rfl, rfl, h3, r3⟩ := trodAll_cons r2
  obtain ⟨rfl, rfl, rfl⟩ := trodAll_nil r3
  obtain rfl : args = #[v0, v1, v2, v3] := by cases args; simp_all
  obtain ⟨rfl, rfl⟩ := trodVars_none hV
  have k0 := h0
  have lt0 : ∀ x ∈ p0, x.block < W.heap.size := by obtain ⟨m, hm⟩ := k0; exact DataW.trod_lt m _ _ _ hm
  have i0 := InC.of h0
  obtain ⟨a0, len0, cap0, rfl⟩ := okWide_slice Try.underlying32 (hval 0 32 v0 rfl rfl)
  have j0 : InC W 32 [_] := i0
  have k1 := h1
  have lt1 : ∀ x ∈ p1, x.block < W.heap.size := by obtain ⟨m, hm⟩ := k1; exact DataW.trod_lt m _ _ _ hm
  have i1 := InC.of h1
  obtain ⟨a1, len1, cap1, rfl⟩ := okWide_slice Try.underlying67 (hval 1 67 v1 rfl rfl)
  have j1 : InC W 67 [_] := i1
  have k2 := h2
  have lt2 : ∀ x ∈ p2, x.block < W.heap.size := by obtain ⟨m, hm⟩ := k2; exact DataW.trod_lt m _ _ _ hm
  have i2 := InC.of h2
  obtain ⟨a2, rfl⟩ := okWide_int Try.underlying26 (hval 2 26 v2 rfl rfl)
  have j2 : InC W 26 [_] := i2
  have k3 := h3
  have lt3 : ∀ x ∈ p3, x.block < W.heap.size := by obtain ⟨m, hm⟩ := k3; exact DataW.trod_lt m _ _ _ hm
  have i3 := InC.of h3
  obtain ⟨a3, rfl⟩ := okWide_int Try.underlying26 (hval 3 26 v3 rfl rfl)
  have j3 : InC W 26 [_] := i3
  clear hA0 hval0
  refine (walk _ _ _ _ W j0 j1 j2 j3).mono fun e W' ⟨he, bel⟩ => ?_
  subst he
  exact ⟨_, rfl, _, _, _, [], _, [], hW', trodAll_mk1 (shut_bool Try.underlying4 _), (trodAll_cons_mk (Below.trod laidOut (by kernel_rfl) (of_decide_eq_true (by kernel_rfl)) k0 bel lt0) (trodAll_cons_mk (Below.trod laidOut (by kernel_rfl) (of_decide_eq_true (by kernel_rfl)) k1 bel lt1) (trodAll_cons_mk (Below.trod laidOut (by kernel_rfl) (of_decide_eq_true (by kernel_rfl)) k2 bel lt2) (trodAll_cons_mk (Below.trod laidOut (by kernel_rfl) (of_decide_eq_true (by kernel_rfl)) k3 bel lt3) trodAll_mk0)))), rfl, bel.frame _, fun h => by cases h⟩

theorem over : Rows.pickRisesRow.holds Try.pinned (OpenSpec.ofChange Rows.pickRisesSpec) :=
  OpenClaim.holds_of_wide 9 Try.f9 rfl rfl rfl rfl rfl rfl rfl ⟨rfl, rfl, rfl, rfl, rfl⟩ rfl rfl rfl rfl rfl (by kernel_rfl) Try.func9 (by kernel_rfl)
    (of_decide_eq_true (by kernel_rfl)) (by unfold Func.isWrapper; first | (rw [if_pos (by decide +kernel)]; kernel_rfl) | (rw [if_neg (by decide +kernel)]; exact ⟨rfl, rfl⟩))
    (fun os started H enc _ => lifted os started H enc)

theorem proved : Rows.PickRisesSaid := over
#print axioms proved
end Go.Proofs.Yteakeefocnjlhaa.pickRises
