/- The law 'PickOneToOne' returns true for every input, and each argument reads behind the call as it read before. No condition. -/
import Derived.Test.YteakeefocnjlhaaRows
import Derived.Test.YteakeefocnjlhaaIn
import Derived.Test.YteakeefocnjlhaaPickOne
import Derived.Test.YteakeefocnjlhaaBuild
import Derived.WalkKit
import Derived.ProofKit
import Derived.OpenShut
import Derived.ShutString
import Derived.ChangeOld
import Derived.Below
namespace Go.Proofs.Yteakeefocnjlhaa.pickOneToOne
open Go.Proofs.Yteakeefocnjlhaa
open Go.ChangeShapes Go.WideShapes Go.ChangeAt Go.RowKit
set_option linter.unusedVariables false
set_option linter.unusedSimpArgs false

theorem own : ownKnob Try.prog.godebug = none := by kernel_rfl
theorem laidOut : laidOutB Try.prog = true := by kernel_rfl

set_option maxRecDepth 100000 in
set_option maxHeartbeats 2000000 in
theorem walk (v0 v1 : Value) (w : World) (h0 : InC w 32 [v0]) (h1 : InC w 26 [v1]) :
    Calls Try.prog 19 #[v0, v1] w fun e w' => e = .returned (.bool true) ∧ Below w.heap.size w w' := by
  obtain ⟨l, hl⟩ := h0.arcs
  obtain ⟨m, e1, _⟩ := InC.u64 (S := fun _ => True) Try.underlying26 h1
  simp at e1
  subst e1
  have hm := u64_lt m
  generalize m.toNat = x at *
  clear h0 h1 m
  obtain ⟨A, c, rfl, hc1, hc2⟩ := hl.form
  unfold maxLen at hc2
  by_cases hb1 : 100 < l.length
  · go_enter Try.func19, Try.ntmps19
    go_wp2_with (go_at_call 45; refine (awake17 _).mono ?_; rintro e wa ⟨rfl, hba⟩)
    go_ret
    exact ⟨rfl, hba⟩
  have hT := rtotal_any w _ _ l (by omega) hl
  have Hl := Lib.hid hl
  clear hl
  by_cases hxt : ptotal l ≤ x
  · have hd : decide (ptotal l ≤ x) = true := decide_eq_true hxt
    go_enter Try.func19, Try.ntmps19
    go_wp2_with fail
    refine hT.mono ?_
    rintro _ _ ⟨rfl, q, rfl⟩
    go_wp2_with (go_at_call 45; refine (awake17 _).mono ?_; rintro e wa ⟨rfl, hba⟩)
    go_ret
    exact ⟨rfl, bstep (bdrewN (Below.refl _ w) q) hba⟩
  have hd : decide (ptotal l ≤ x) = false := decide_eq_false hxt
  have hx : x < ptotal l := by omega
  obtain ⟨hg, hW0, hk0, hW1⟩ := ptotal_pos hx
  have hnb : nbrs l = true := by unfold nbrs; rw [hg, decide_eq_true (Nat.lt_of_le_of_lt (Nat.zero_le _) hk0)]; rfl
  have hmy := btab_may l (by omega) hnb hW1
  have htl := btab_len l (by omega) hW1
  obtain ⟨ho1, ho2, ho3⟩ := one_to_one hmy (by omega) hx
  have hrm := rmp_ok hmy hx
  have hpa := (palias_ok hmy hx).1
  have hpb : ptotal l < 18446744073709551616 := by
    rw [ptotal_eq hx]
    have : gsum l * l.length ≤ 2147483647 * 100 := Nat.mul_le_mul hW1 (by omega)
    omega
  generalize frontAt l (toP (gsum l) (btab l) x) + metC (gsum l) (btab l) (toP (gsum l) (btab l) x) x = y at *
  generalize toP (gsum l) (btab l) x = to at *
  have hiv : ival l y = (to, true) := by unfold ival; rw [if_pos ho1, ho2]
  have hbd := fun q => build_any (w.drewN q) _ _ l (by omega) (Hl.out.step (bdrewN (Below.refl w.heap.size w) q)) (Nat.le_refl _) hnb
  have hdy : decide (y < ptotal l) = true := decide_eq_true ho1
  have Hbd := Lib.hid hbd
  have Hrm := Lib.hid hrm
  have Hpa := Lib.hid hpa
  have Hiv := Lib.hid hiv
  have Hbk := Lib.hid ho3
  have Htl := Lib.hid htl
  have hyb : y < 18446744073709551616 := by omega
  clear hg hk0 hnb hmy htl ho2 ho3 hrm hpa hiv hbd hxt hx ho1 hpb
  generalize btab l = t at *
  go_enter Try.func19, Try.ntmps19
  go_wp2_with fail
  refine hT.mono ?_
  rintro _ _ ⟨rfl, q, rfl⟩
  go_wp2_with fail
  refine (Hbd.out q).mono ?_
  rintro _ w0 ⟨vo, rfl, hown, hb0⟩
  have hb00 := bstep (bdrewN (Below.refl w.heap.size w) q) hb0
  have hby := hown.byC
  have Hby := Lib.hid hby
  obtain ⟨A2, c2, rfl, hd1', hd2'⟩ := hby.form
  clear hown hby hb0 hT Hbd
  have h1 := palias_any w0 _ _ _ _ l t x hm (by omega) (by rw [Htl.out]; omega) (Hl.out.step hb00) Hby.out (Nat.le_refl _) (Nat.le_refl _)
  rw [Hpa.out] at h1
  have Hk1 := Lib.hid h1
  clear h1
  go_wp2_with fail
  refine Hk1.out.mono ?_
  rintro _ w1 ⟨rfl, hb1'⟩
  have hb01 := bstep hb00 hb1'
  have Hby1 := Lib.hid (Hby.out.step hb1')
  have h1 := remap_any w1 _ _ _ l t x hm (by omega) (by rw [Htl.out]; omega) (Hl.out.step hb01) Hby1.out (Nat.le_refl _)
  rw [Hrm.out] at h1
  have Hk2 := Lib.hid h1
  clear h1 hb1' Hk1 Hby
  go_wp2_with fail
  refine Hk2.out.mono ?_
  rintro _ w2 ⟨rfl, hb2'⟩
  have hb02 := bstep hb01 hb2'
  have Hby2 := Lib.hid (Hby1.out.step hb2')
  have h1 := back_any w2 _ _ _ l t y hyb (by omega) (by rw [Htl.out]; omega) (Hl.out.step hb02) Hby2.out (Nat.le_refl _)
  rw [Hbk.out] at h1
  have Hk3 := Lib.hid h1
  clear h1 hb2' Hk2 Hby1
  go_wp2_with fail
  refine Hk3.out.mono ?_
  rintro _ w3 ⟨rfl, hb3'⟩
  have hb03 := bstep hb02 hb3'
  have h1 := interval_any w3 _ _ l y hyb (by omega) (Hl.out.step hb03) (Nat.le_refl _)
  rw [Hiv.out] at h1
  have Hk4 := Lib.hid h1
  clear h1 hb3' Hk3
  go_wp2_with fail
  refine Hk4.out.mono ?_
  rintro _ w4 ⟨rfl, hb4'⟩
  have hb04 := bstep hb03 hb4'
  go_wp2_with fail
  refine (ptotal_any w4 _ _ l (by omega) (Hl.out.step hb04) (Nat.le_refl _)).mono ?_
  rintro _ w5 ⟨rfl, hb5'⟩
  have hb05 := bstep hb04 hb5'
  go_wp2_with (go_at_call 45; refine (awake17 _).mono ?_; rintro e wa ⟨rfl, hba⟩)
  go_ret
  exact ⟨by simp, bstep hb05 hba⟩

set_option maxRecDepth 100000 in
theorem lifted (os : Os) (started : os.Started) (H : Type) (enc : TypeId × Value → H) :
    ReturnsInHanded {} Try.checked os 19 .any (Rows.pickOneToOneSpec.pre6 enc Try.prog Try.f19 Rows.pickOneToOneRow.domain false) (Rows.pickOneToOneSpec.post enc Try.prog Try.f19 false true false false) := by
  refine returnsInHanded_of_change (C := Try.checked) own started (by kernel_rfl) Try.func19
    (ChangeSpec.witness6 (enc := enc) (C := Try.checked) false ⟨#[], #[.slice none 0 0, .int .u64 0], []⟩ 8 (by kernel_rfl) (by kernel_rfl) (by kernel_rfl) (by kernel_rfl)) ?_
  intro W base args ds gs before hval0 hW hcnd _
  have hval : ∀ (j : Nat) t v, Try.f19.params[j]? = some t → args[j]? = some v → Value.okWide Try.prog W .any base t v := hval0
  have hW' := hW
  obtain ⟨p, q, hA0, hV, rfl, hfz, hnd⟩ := hW
  have hA : DataW.TrodAll enc Try.prog W 0 (fun _ => true) true Try.f19.params.toList args.toList ds p := hA0
  rw [Try.params19] at hA hval
  obtain ⟨v0, vs0, d0, ds0, p0, q0, hargs, rfl, rfl, h0, r0⟩ := trodAll_cons hA
  obtain ⟨v1, vs1, d1, ds1, p1, q1, rfl, rfl, rfl, h1, r1⟩ := trodAll_cons r0
  obtain ⟨rfl, rfl, rfl⟩ := trodAll_nil r1
  obtain rfl : args = #[v0, v1] := by cases args; simp_all
  obtain ⟨rfl, rfl⟩ := trodVars_none hV
  have k0 := h0
  have lt0 : ∀ x ∈ p0, x.block < W.heap.size := by obtain ⟨m, hm⟩ := k0; exact DataW.trod_lt m _ _ _ hm
  have i0 := InC.of h0
  obtain ⟨a0, len0, cap0, rfl⟩ := okWide_slice Try.underlying32 (hval 0 32 v0 rfl rfl)
  have j0 : InC W 32 [_] := i0
  have k1 := h1
  have lt1 : ∀ x ∈ p1, x.block < W.heap.size := by obtain ⟨m, hm⟩ := k1; exact DataW.trod_lt m _ _ _ hm
  have i1 := InC.of h1
  obtain ⟨a1, rfl⟩ := okWide_int Try.underlying26 (hval 1 26 v1 rfl rfl)
  have j1 : InC W 26 [_] := i1
  clear hA0 hval0
  refine (walk _ _ W j0 j1).mono fun e W' ⟨he, bel⟩ => ?_
  subst he
  exact ⟨_, rfl, _, _, _, [], _, [], hW', trodAll_mk1 (shut_bool Try.underlying4 _), (trodAll_cons_mk (Below.trod laidOut (by kernel_rfl) (of_decide_eq_true (by kernel_rfl)) k0 bel lt0) (trodAll_cons_mk (Below.trod laidOut (by kernel_rfl) (of_decide_eq_true (by kernel_rfl)) k1 bel lt1) trodAll_mk0)), rfl, bel.frame _, fun h => by cases h⟩

theorem over : Rows.pickOneToOneRow.holds Try.pinned (OpenSpec.ofChange Rows.pickOneToOneSpec) :=
  OpenClaim.holds_of_wide 19 Try.f19 rfl rfl rfl rfl rfl rfl rfl ⟨rfl, rfl, rfl, rfl, rfl⟩ rfl rfl rfl rfl rfl (by kernel_rfl) Try.func19 (by kernel_rfl)
    (of_decide_eq_true (by kernel_rfl)) (by unfold Func.isWrapper; first | (rw [if_pos (by decide +kernel)]; kernel_rfl) | (rw [if_neg (by decide +kernel)]; exact ⟨rfl, rfl⟩))
    (fun os started H enc _ => lifted os started H enc)

theorem proved : Rows.PickOneToOneSaid := over
#print axioms proved
end Go.Proofs.Yteakeefocnjlhaa.pickOneToOne
