/- The law 'DiskNil' returns true for every input, and each argument reads behind the call as it read before. No condition. -/
import Derived.Test.YtpoicbhbkabllaaRows
import Derived.Test.YtpoicbhbkabllaaIn
import Derived.Test.YtpoicbhbkabllaaAwake06b
import Derived.WalkKit
import Derived.ProofKit
import Derived.OpenShut
import Derived.ShutString
import Derived.ChangeOld
import Derived.Below
namespace Go.Proofs.Ytpoicbhbkabllaa.diskNil
open Go.Proofs.Ytpoicbhbkabllaa
open Go.ChangeShapes Go.WideShapes Go.ChangeAt Go.RowKit
set_option linter.unusedVariables false
set_option linter.unusedSimpArgs false

theorem own : ownKnob Try.prog.godebug = none := by kernel_rfl
theorem laidOut : laidOutB Try.prog = true := by kernel_rfl

set_option maxRecDepth 100000 in
set_option maxHeartbeats 2000000 in
theorem walk (v0 v1 v2 : Value) (w : World) (h0 : InC w 3 [v0]) (h1 : InC w 3 [v1]) (h2 : InC w 30 [v2]) :
    Calls Try.prog 6 #[v0, v1, v2] w fun e w' => e = .returned (.bool true) ∧ Below w.heap.size w w' := by
  obtain ⟨i, e1, hi⟩ := InC.i64 (S := fun _ => True) Try.underlying3 h0
  simp at e1
  subst e1
  obtain ⟨n, e2, hn⟩ := InC.i64 (S := fun _ => True) Try.underlying3 h1
  simp at e2
  subst e2
  clear h0 h1 h2 hi hn
  by_cases hc : n ≤ 65536 ∧ 0 < n
  · obtain ⟨hn1, hn2⟩ := hc
    have hd1 : decide (n ≤ 65536) = true := decide_eq_true hn1
    have hd2 : decide (0 < n) = true := decide_eq_true hn2
    clear hn1 hn2
    go_enter Try.func6, Try.ntmps6
    go_wp2_with (first
      | (go_at_call 14; refine (nfuse _ _).mono ?_; rintro _ _ ⟨rfl, rfl⟩)
      | (go_at_call 26; refine (noff _).mono ?_; rintro _ _ ⟨rfl, rfl⟩)
      | (go_at_call 19; refine (nback _ _ _).mono ?_; rintro _ _ ⟨rfl, rfl⟩)
      | (go_at_call 20; refine (nread _ _).mono ?_; rintro _ w1 ⟨rfl, hb1⟩)
      | (go_at_call 16; refine (nwrite _ _ _).mono ?_; rintro _ _ ⟨rfl, rfl⟩)
      | (go_at_call 15; refine (nsync _).mono ?_; rintro _ _ ⟨rfl, rfl⟩)
      | (go_at_call 27; refine (nspoil _ _ _ _).mono ?_; rintro _ _ ⟨rfl, rfl⟩)
      | (go_at_call 18; refine (non_ _).mono ?_; rintro _ _ ⟨rfl, rfl⟩)
      | (go_at_call 24; refine (ncount _).mono ?_; rintro _ _ ⟨rfl, rfl⟩)
      | (go_at_call 21; refine (nwaiting _).mono ?_; rintro _ _ ⟨rfl, rfl⟩)
      | (go_at_call 12; refine (awake06_any _).mono ?_; rintro e wa ⟨rfl, hba⟩))
    go_ret
    exact ⟨rfl, bstep hb1 hba⟩
  · have hnn : n < 1 ∨ 65536 < n := by omega
    have Hn := Lib.hid (fun w => dnew_no w n hnn)
    have hc2 : (decide (n ≤ 65536) && decide (0 < n)) = false := by simp only [Bool.and_eq_false_iff, decide_eq_false_iff_not]; omega
    by_cases h1 : n ≤ 65536
    · have hd1 : decide (n ≤ 65536) = true := decide_eq_true h1
      have hd2 : decide (0 < n) = false := decide_eq_false (by omega)
      clear hc hnn hc2 h1
      go_enter Try.func6, Try.ntmps6
      go_wp2_with (first
        | (go_at_call 14; refine (nfuse _ _).mono ?_; rintro _ _ ⟨rfl, rfl⟩)
        | (go_at_call 26; refine (noff _).mono ?_; rintro _ _ ⟨rfl, rfl⟩)
        | (go_at_call 19; refine (nback _ _ _).mono ?_; rintro _ _ ⟨rfl, rfl⟩)
        | (go_at_call 20; refine (nread _ _).mono ?_; rintro _ w1 ⟨rfl, hb1⟩)
        | (go_at_call 16; refine (nwrite _ _ _).mono ?_; rintro _ _ ⟨rfl, rfl⟩)
        | (go_at_call 15; refine (nsync _).mono ?_; rintro _ _ ⟨rfl, rfl⟩)
        | (go_at_call 27; refine (nspoil _ _ _ _).mono ?_; rintro _ _ ⟨rfl, rfl⟩)
        | (go_at_call 18; refine (non_ _).mono ?_; rintro _ _ ⟨rfl, rfl⟩)
        | (go_at_call 24; refine (ncount _).mono ?_; rintro _ _ ⟨rfl, rfl⟩)
        | (go_at_call 21; refine (nwaiting _).mono ?_; rintro _ _ ⟨rfl, rfl⟩)
        | (go_at_call 13; refine (Hn.out _).mono ?_; rintro _ _ ⟨rfl, rfl⟩)
        | (go_at_call 12; refine (awake06_any _).mono ?_; rintro e wa ⟨rfl, hba⟩))
      go_ret
      exact ⟨rfl, bstep hb1 hba⟩
    · have hd1 : decide (n ≤ 65536) = false := decide_eq_false h1
      clear hc hnn hc2 h1
      go_enter Try.func6, Try.ntmps6
      go_wp2_with (first
        | (go_at_call 14; refine (nfuse _ _).mono ?_; rintro _ _ ⟨rfl, rfl⟩)
        | (go_at_call 26; refine (noff _).mono ?_; rintro _ _ ⟨rfl, rfl⟩)
        | (go_at_call 19; refine (nback _ _ _).mono ?_; rintro _ _ ⟨rfl, rfl⟩)
        | (go_at_call 20; refine (nread _ _).mono ?_; rintro _ w1 ⟨rfl, hb1⟩)
        | (go_at_call 16; refine (nwrite _ _ _).mono ?_; rintro _ _ ⟨rfl, rfl⟩)
        | (go_at_call 15; refine (nsync _).mono ?_; rintro _ _ ⟨rfl, rfl⟩)
        | (go_at_call 27; refine (nspoil _ _ _ _).mono ?_; rintro _ _ ⟨rfl, rfl⟩)
        | (go_at_call 18; refine (non_ _).mono ?_; rintro _ _ ⟨rfl, rfl⟩)
        | (go_at_call 24; refine (ncount _).mono ?_; rintro _ _ ⟨rfl, rfl⟩)
        | (go_at_call 21; refine (nwaiting _).mono ?_; rintro _ _ ⟨rfl, rfl⟩)
        | (go_at_call 13; refine (Hn.out _).mono ?_; rintro _ _ ⟨rfl, rfl⟩)
        | (go_at_call 12; refine (awake06_any _).mono ?_; rintro e wa ⟨rfl, hba⟩))
      go_ret
      exact ⟨rfl, bstep hb1 hba⟩

set_option maxRecDepth 100000 in
theorem lifted (os : Os) (started : os.Started) (H : Type) (enc : TypeId × Value → H) :
    ReturnsInHanded {} Try.checked os 6 .any (Rows.diskNilSpec.pre6 enc Try.prog Try.f6 Rows.diskNilRow.domain false) (Rows.diskNilSpec.post enc Try.prog Try.f6 false true false false) := by
  refine returnsInHanded_of_change (C := Try.checked) own started (by kernel_rfl) Try.func6
    (ChangeSpec.witness6 (enc := enc) (C := Try.checked) false ⟨#[], #[.int .i64 0, .int .i64 0, .slice none 0 0], []⟩ 8 (by kernel_rfl) (by kernel_rfl) (by kernel_rfl) (by kernel_rfl)) ?_
  intro W base args ds gs before hval0 hW hcnd _
  have hval : ∀ (j : Nat) t v, Try.f6.params[j]? = some t → args[j]? = some v → Value.okWide Try.prog W .any base t v := hval0
  have hW' := hW
  obtain ⟨p, q, hA0, hV, rfl, hfz, hnd⟩ := hW
  have hA : DataW.TrodAll enc Try.prog W 0 (fun _ => true) true Try.f6.params.toList args.toList ds p := hA0
  rw [Try.params6] at hA hval
  obtain ⟨v0, vs0, d0, ds0, p0, q0, hargs, rfl, rfl, h0, r0⟩ := trodAll_cons hA
  obtain ⟨v1, vs1, d1, ds1, p1, q1, rfl, rfl, rfl, h1, r1⟩ := trodAll_cons r0
  obtain ⟨v2, vs2, d2, ds2, p2, q2, rfl, rfl, rfl, h2, r2⟩ := trodAll_cons r1
  obtain ⟨rfl, rfl, rfl⟩ := trodAll_nil r2
  obtain rfl : args = #[v0, v1, v2] := by cases args; simp_all
  obtain ⟨rfl, rfl⟩ := trodVars_none hV
  have k0 := h0
  have lt0 : ∀ x ∈ p0, x.block < W.heap.size := by obtain ⟨m, hm⟩ := k0; exact DataW.trod_lt m _ _ _ hm
  have i0 := InC.of h0
  obtain ⟨a0, rfl⟩ := okWide_int Try.underlying3 (hval 0 3 v0 rfl rfl)
  have j0 : InC W 3 [_] := i0
  have k1 := h1
  have lt1 : ∀ x ∈ p1, x.block < W.heap.size := by obtain ⟨m, hm⟩ := k1; exact DataW.trod_lt m _ _ _ hm
  have i1 := InC.of h1
  obtain ⟨a1, rfl⟩ := okWide_int Try.underlying3 (hval 1 3 v1 rfl rfl)
  have j1 : InC W 3 [_] := i1
  have k2 := h2
  have lt2 : ∀ x ∈ p2, x.block < W.heap.size := by obtain ⟨m, hm⟩ := k2; exact DataW.trod_lt m _ _ _ hm
  have i2 := InC.of h2
  obtain ⟨a2, len2, cap2, rfl⟩ := okWide_slice Try.underlying30 (hval 2 30 v2 rfl rfl)
  have j2 : InC W 30 [_] := i2
  clear hA0 hval0
  refine (walk _ _ _ W j0 j1 j2).mono fun e W' ⟨he, bel⟩ => ?_
  subst he
  exact ⟨_, rfl, _, _, _, [], _, [], hW', trodAll_mk1 (shut_bool Try.underlying4 _), (trodAll_cons_mk (Below.trod laidOut (by kernel_rfl) (of_decide_eq_true (by kernel_rfl)) k0 bel lt0) (trodAll_cons_mk (Below.trod laidOut (by kernel_rfl) (of_decide_eq_true (by kernel_rfl)) k1 bel lt1) (trodAll_cons_mk (Below.trod laidOut (by kernel_rfl) (of_decide_eq_true (by kernel_rfl)) k2 bel lt2) trodAll_mk0))), rfl, bel.frame _, fun h => by cases h⟩

theorem over : Rows.diskNilRow.holds Try.pinned (OpenSpec.ofChange Rows.diskNilSpec) :=
  OpenClaim.holds_of_wide 6 Try.f6 rfl rfl rfl rfl rfl rfl rfl ⟨rfl, rfl, rfl, rfl, rfl⟩ rfl rfl rfl rfl rfl (by kernel_rfl) Try.func6 (by kernel_rfl)
    (of_decide_eq_true (by kernel_rfl)) (by unfold Func.isWrapper; first | (rw [if_pos (by decide +kernel)]; kernel_rfl) | (rw [if_neg (by decide +kernel)]; exact ⟨rfl, rfl⟩))
    (fun os started H enc _ => lifted os started H enc)

theorem proved : Rows.DiskNilSaid := over
#print axioms proved
end Go.Proofs.Ytpoicbhbkabllaa.diskNil
