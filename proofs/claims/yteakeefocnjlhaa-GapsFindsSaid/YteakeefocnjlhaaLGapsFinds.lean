/- The law 'GapsFinds' returns true for every input, and each argument reads behind the call as it read before. No condition. -/
import Derived.Test.YteakeefocnjlhaaRows
import Derived.Test.YteakeefocnjlhaaIn
import Derived.Test.YteakeefocnjlhaaGapsFind
import Derived.Test.YteakeefocnjlhaaLaw04
import Derived.WalkKit
import Derived.ProofKit
import Derived.OpenShut
import Derived.ShutString
import Derived.ChangeOld
import Derived.Below
namespace Go.Proofs.Yteakeefocnjlhaa.gapsFinds
open Go.Proofs.Yteakeefocnjlhaa
open Go.ChangeShapes Go.WideShapes Go.ChangeAt Go.RowKit
set_option linter.unusedVariables false
set_option linter.unusedSimpArgs false

theorem own : ownKnob Try.prog.godebug = none := by kernel_rfl
theorem laidOut : laidOutB Try.prog = true := by kernel_rfl

set_option maxRecDepth 100000 in
set_option maxHeartbeats 2000000 in
theorem walk (v0 v1 : Value) (w : World) (h0 : InC w 32 [v0]) (h1 : InC w 33 [v1]) :
    Calls Try.prog 4 #[v0, v1] w fun e w' => e = .returned (.bool true) ∧ Below w.heap.size w w' := by
  obtain ⟨l, hl⟩ := h0.arcs
  obtain ⟨m, e1, _⟩ := InC.u32 (S := fun _ => True) Try.underlying33 h1
  simp at e1
  subst e1
  have hm := u32_lt m
  generalize m.toNat = t at *
  clear h0 h1 m
  obtain ⟨A, c, rfl, hc1, hc2⟩ := hl.form
  unfold maxLen at hc2
  by_cases hbig : 300 < l.length
  · go_enter Try.func4, Try.ntmps4
    go_wp2_with (go_at_call 26; refine (awake04 _).mono ?_; rintro e wa ⟨rfl, hba⟩)
    go_ret
    exact ⟨rfl, hba⟩
  have hmay := rgmay_any w _ _ l (by omega) hl
  cases hg : gmay l with
  | false =>
    rw [hg] at hmay
    go_enter Try.func4, Try.ntmps4
    go_wp2_with fail
    refine hmay.mono ?_
    rintro _ _ ⟨rfl, q, rfl⟩
    go_wp2_with (go_at_call 26; refine (awake04 _).mono ?_; rintro e wa ⟨rfl, hba⟩)
    go_ret
    exact ⟨rfl, bstep (bdrewN (Below.refl _ _) q) hba⟩
  | true =>
    rw [hg] at hmay
    have hr : rise none l = true := by unfold gmay at hg; simp at hg; exact hg.1
    clear hg
    go_enter Try.func4, Try.ntmps4
    go_wp2_with fail
    refine hmay.mono ?_
    rintro _ _ ⟨rfl, q, rfl⟩
    have hf := gapsfind_any (w.drewN q) _ _ l (by omega) t hm hl (Nat.le_refl _) hr
    have Hf := Lib.hid hf
    have hs := rise_lt l hr
    have Hs := Lib.hid hs
    clear hf hmay hr hs
    go_wp2_with fail
    refine Hf.out.mono ?_
    rintro _ w1 ⟨i, b, rfl, hfd, hb1⟩
    have hb01 : Below w.heap.size w w1 := bstep (bdrewN (Below.refl _ _) q) hb1
    have hl1 := hl.below hb01
    have Hb01 := Lib.hid hb01
    obtain ⟨f1, f2, f3, f4⟩ := hfd
    have F2 := Lib.hid f2
    have F3 := Lib.hid f3
    have F4 := Lib.hid f4
    clear f2 f3 f4 hb01 hb1 Hf hl
    go_wp2_with fail
    go_loop [7, 8, 9] (fun n is k => ∃ j : Nat, ∃ d : Bool, j ≤ l.length ∧ k = .int .i64 j ∧ n = .int .i64 (min j i : Nat) ∧ is = .bool d ∧ (d = true ↔ ∃ x, ∃ hx : x < l.length, x < j ∧ (l[x]).to.toNat = t)) (fun _ _ k => l.length - (intOf k).toNat)
    case atStart => exact ⟨0, false, by omega, rfl, by simp, rfl, by simp⟩
    case round =>
      obtain ⟨j, d, hj, rfl, rfl, rfl, hd⟩ := hrel
      by_cases hlt : j < l.length
      · obtain ⟨ad, rfl, _, hx0, hx1⟩ := hl1.cells j hlt
        have hto := u32_lt (l[j]).to
        have hiff : ((l[j]).to.toNat < t) ↔ j < i := ⟨fun h => by
          rcases Nat.lt_or_ge j i with h1 | h1
          · exact h1
          · have := F3.out j hlt h1; omega, fun h => F2.out j hlt h⟩
        have hd1 : ((d || ((((l[j]).to.toNat : Nat) : Int) == (t : Int))) = true) ↔ ∃ x, ∃ hx : x < l.length, x < j + 1 ∧ (l[x]).to.toNat = t := by
          rw [Bool.or_eq_true, hd]
          constructor
          · rintro (⟨x, hx, h1, h2⟩ | h)
            · exact ⟨x, hx, by omega, h2⟩
            · exact ⟨j, hlt, by omega, by simp at h; omega⟩
          · rintro ⟨x, hx, h1, h2⟩
            rcases Nat.lt_or_ge x j with h | h
            · exact .inl ⟨x, hx, h, h2⟩
            · obtain rfl : x = j := by omega
              exact .inr (by simp; omega)
        have Hd1 := Lib.hid hd1
        have Hiff := Lib.hid hiff
        clear hd1 hd hiff
        generalize (l[j]).to.toNat = x at *
        by_cases hxt : x < t
        · have hji := Hiff.out.1 hxt
          have hmin : min j i + 1 = min (j + 1) i := by omega
          have Hmin := Lib.hid hmin
          have hmb : min j i ≤ 300 := by omega
          clear hmin Hiff hji
          generalize min j i = mj at *
          cases d with
          | false =>
            go_wp2_with fail
            go_round
            case rel => exact ⟨j + 1, _, by omega, by go_num, by rw [← Hmin.out]; go_num, rfl, by simpa using Hd1.out⟩
            case measure => simp [intOf]; omega
          | true =>
            go_wp2_with fail
            go_round
            case rel => exact ⟨j + 1, _, by omega, by go_num, by rw [← Hmin.out]; go_num, rfl, by simpa using Hd1.out⟩
            case measure => simp [intOf]; omega
        · have hji : ¬ j < i := fun h => hxt (Hiff.out.2 h)
          have hmin : min j i = min (j + 1) i := by omega
          have Hmin := Lib.hid hmin
          have hx2 : decide ((x : Int) < (t : Int)) = false := by simp; omega
          have hx2' : decide (x < t) = false := by simp; omega
          clear hmin Hiff hji hxt
          generalize min j i = mj at *
          cases d with
          | false =>
            go_wp2_with fail
            go_round
            case rel => exact ⟨j + 1, _, by omega, by go_num, by rw [← Hmin.out], rfl, by simpa using Hd1.out⟩
            case measure => simp [intOf]; omega
          | true =>
            go_wp2_with fail
            go_round
            case rel => exact ⟨j + 1, _, by omega, by go_num, by rw [← Hmin.out], rfl, by simpa using Hd1.out⟩
            case measure => simp [intOf]; omega
      · obtain rfl : j = l.length := by omega
        rw [Nat.min_eq_right f1]
        have hdb : d = b := by
          rw [F4.out]
          rw [Bool.eq_iff_iff, hd, decide_eq_true_iff]
          constructor
          · rintro ⟨x, hx, _, h2⟩
            have h3 : x = i := by
              rcases Nat.lt_trichotomy x i with h | h | h
              · have := F2.out x hx h; omega
              · exact h
              · have h5 := Hs.out i x h hx
                have h6 := F3.out i (by omega) (Nat.le_refl _)
                omega
            subst h3
            exact ⟨hx, h2⟩
          · rintro ⟨h1, h2⟩
            exact ⟨i, h1, h1, h2⟩
        subst hdb
        clear hd F4 F2 F3
        cases d with
        | false =>
          go_wp2_with (go_at_call 26; refine (awake04 _).mono ?_; rintro e wa ⟨rfl, hba⟩)
          go_ret
          exact ⟨rfl, bstep Hb01.out hba⟩
        | true =>
          go_wp2_with (go_at_call 26; refine (awake04 _).mono ?_; rintro e wa ⟨rfl, hba⟩)
          go_ret
          exact ⟨rfl, bstep Hb01.out hba⟩

set_option maxRecDepth 100000 in
theorem lifted (os : Os) (started : os.Started) (H : Type) (enc : TypeId × Value → H) :
    ReturnsInHanded {} Try.checked os 4 .any (Rows.gapsFindsSpec.pre6 enc Try.prog Try.f4 Rows.gapsFindsRow.domain false) (Rows.gapsFindsSpec.post enc Try.prog Try.f4 false true false false) := by
  refine returnsInHanded_of_change (C := Try.checked) own started (by kernel_rfl) Try.func4
    (ChangeSpec.witness6 (enc := enc) (C := Try.checked) false ⟨#[], #[.slice none 0 0, .int .u32 0], []⟩ 8 (by kernel_rfl) (by kernel_rfl) (by kernel_rfl) (by kernel_rfl)) ?_
  intro W base args ds gs before hval0 hW hcnd _
  have hval : ∀ (j : Nat) t v, Try.f4.params[j]? = some t → args[j]? = some v → Value.okWide Try.prog W .any base t v := hval0
  have hW' := hW
  obtain ⟨p, q, hA0, hV, rfl, hfz, hnd⟩ := hW
  have hA : DataW.TrodAll enc Try.prog W 0 (fun _ => true) true Try.f4.params.toList args.toList ds p := hA0
  rw [Try.params4] at hA hval
  obtain ⟨v0, vs0, d0, ds0, p0, q0, hargs, rfl, rfl, h0, r0⟩ := trodAll_cons hA
  obtain ⟨v1, vs1, d1, ds1, p1, q1, rfl, rfl, rfl, h1, r1⟩ := trodAll_cons r0
  obtain ⟨rfl, rfl, rfl⟩ := trodAll_nil r1
  obtain rfl : args = #[v0, v1] := by cases args; simp_all
  obtain ⟨rfl, rfl⟩ := trodVars_none hV
  have k0 := h0
  have lt0 : ∀ x ∈ p0, x.block < W.heap.size := by obtain ⟨m, hm⟩ := k0; exact DataW.trod_lt m _ _ _ hm
  have i0 := InC.of h0
  obtain ⟨a0, len0, cap0, rfl⟩ := okWide_slice Try.underlying32 (hval 0 32 v0 rfl rfl)
  have j0 : InC W 32 [_] := i0
  have k1 := h1
  have lt1 : ∀ x ∈ p1, x.block < W.heap.size := by obtain ⟨m, hm⟩ := k1; exact DataW.trod_lt m _ _ _ hm
  have i1 := InC.of h1
  obtain ⟨a1, rfl⟩ := okWide_int Try.underlying33 (hval 1 33 v1 rfl rfl)
  have j1 : InC W 33 [_] := i1
  clear hA0 hval0
  refine (walk _ _ W j0 j1).mono fun e W' ⟨he, bel⟩ => ?_
  subst he
  exact ⟨_, rfl, _, _, _, [], _, [], hW', trodAll_mk1 (shut_bool Try.underlying4 _), (trodAll_cons_mk (Below.trod laidOut (by kernel_rfl) (of_decide_eq_true (by kernel_rfl)) k0 bel lt0) (trodAll_cons_mk (Below.trod laidOut (by kernel_rfl) (of_decide_eq_true (by kernel_rfl)) k1 bel lt1) trodAll_mk0)), rfl, bel.frame _, fun h => by cases h⟩

theorem over : Rows.gapsFindsRow.holds Try.pinned (OpenSpec.ofChange Rows.gapsFindsSpec) :=
  OpenClaim.holds_of_wide 4 Try.f4 rfl rfl rfl rfl rfl rfl rfl ⟨rfl, rfl, rfl, rfl, rfl⟩ rfl rfl rfl rfl rfl (by kernel_rfl) Try.func4 (by kernel_rfl)
    (of_decide_eq_true (by kernel_rfl)) (by unfold Func.isWrapper; first | (rw [if_pos (by decide +kernel)]; kernel_rfl) | (rw [if_neg (by decide +kernel)]; exact ⟨rfl, rfl⟩))
    (fun os started H enc _ => lifted os started H enc)

theorem proved : Rows.GapsFindsSaid := over
#print axioms proved
end Go.Proofs.Yteakeefocnjlhaa.gapsFinds
