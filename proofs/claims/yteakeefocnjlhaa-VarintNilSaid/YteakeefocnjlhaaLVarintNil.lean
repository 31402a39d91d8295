/- The law 'VarintNil' returns true for every input, and each argument reads behind the call as it read before. No condition. -/
import Derived.Test.YteakeefocnjlhaaRows
import Derived.Test.YteakeefocnjlhaaIn
import Derived.Test.YteakeefocnjlhaaVarNil
import Derived.WalkKit
import Derived.ProofKit
import Derived.OpenShut
import Derived.ShutString
import Derived.ChangeOld
import Derived.Below
namespace Go.Proofs.Yteakeefocnjlhaa.varintNil
open Go.Proofs.Yteakeefocnjlhaa
open Go.ChangeShapes Go.WideShapes Go.ChangeAt Go.RowKit
set_option linter.unusedVariables false
set_option linter.unusedSimpArgs false

theorem own : ownKnob Try.prog.godebug = none := by kernel_rfl
theorem laidOut : laidOutB Try.prog = true := by kernel_rfl

set_option maxRecDepth 100000 in
set_option maxHeartbeats 2000000 in
theorem walk (v0 v1 : Value) (w : World) (h0 : InC w 3 [v0]) (h1 : InC w 26 [v1]) :
    Calls Try.prog 5 #[v0, v1] w fun e w' => e = .returned (.bool true) ∧ Below w.heap.size w w' := by
  obtain ⟨n, e0, hn⟩ := InC.i64 (S := fun _ => True) Try.underlying3 h0
  obtain ⟨m, e1, _⟩ := InC.u64 (S := fun _ => True) Try.underlying26 h1
  simp at e0 e1
  subst e0; subst e1
  have hm := u64_lt m
  have h1 := nnum_any w m.toNat hm
  have h2 := nsigned_any w
  have h3 := nbytes_any w n
  have h4 := nleft_any w
  have h5 := nerr_any w
  have h6 := nend_any w
  have h7 := awake03 w
  have H1 := Lib.hid h1
  have H2 := Lib.hid h2
  have H3 := Lib.hid h3
  have H4 := Lib.hid h4
  have H5 := Lib.hid h5
  have H6 := Lib.hid h6
  have H7 := Lib.hid h7
  clear h0 h1 h2 h3 h4 h5 h6 h7
  go_enter Try.func5, Try.ntmps5
  go_wp2_with (first
    | (go_at_call 22; refine H1.out.mono ?_; rintro _ _ ⟨rfl, rfl⟩)
    | (go_at_call 28; refine H2.out.mono ?_; rintro _ _ ⟨rfl, rfl⟩)
    | (go_at_call 29; refine H3.out.mono ?_; rintro _ _ ⟨rfl, rfl⟩)
    | (go_at_call 30; refine H4.out.mono ?_; rintro _ _ ⟨rfl, rfl⟩)
    | (go_at_call 31; refine H5.out.mono ?_; rintro _ _ ⟨rfl, rfl⟩)
    | (go_at_call 23; refine H6.out.mono ?_; rintro _ _ ⟨rfl, rfl⟩)
    | (go_at_call 20; refine H7.out.mono ?_; rintro _ wa ⟨rfl, hba⟩))
  go_ret
  exact ⟨rfl, hba⟩

set_option maxRecDepth 100000 in
theorem lifted (os : Os) (started : os.Started) (H : Type) (enc : TypeId × Value → H) :
    ReturnsInHanded {} Try.checked os 5 .any (Rows.varintNilSpec.pre6 enc Try.prog Try.f5 Rows.varintNilRow.domain false) (Rows.varintNilSpec.post enc Try.prog Try.f5 false true false false) := by
  refine returnsInHanded_of_change (C := Try.checked) own started (by kernel_rfl) Try.func5
    (ChangeSpec.witness6 (enc := enc) (C := Try.checked) false ⟨#[], #[.int .i64 0, .int .u64 0], []⟩ 8 (by kernel_rfl) (by kernel_rfl) (by kernel_rfl) (by kernel_rfl)) ?_
  intro W base args ds gs before hval0 hW hcnd _
  have hval : ∀ (j : Nat) t v, Try.f5.params[j]? = some t → args[j]? = some v → Value.okWide Try.prog W .any base t v := hval0
  have hW' := hW
  obtain ⟨p, q, hA0, hV, rfl, hfz, hnd⟩ := hW
  have hA : DataW.TrodAll enc Try.prog W 0 (fun _ => true) true Try.f5.params.toList args.toList ds p := hA0
  rw [Try.params5] at hA hval
  obtain ⟨v0, vs0, d0, ds0, p0, q0, hargs, rfl, rfl, h0, r0⟩ := trodAll_cons hA
  obtain ⟨v1, vs1, d1, ds1, p1, q1, rfl, rfl, rfl, h1, r1⟩ := trodAll_cons r0
  obtain ⟨rfl, rfl, rfl⟩ := trodAll_nil r1
  obtain rfl : args = #[v0, v1] := by cases args; simp_all
  obtain ⟨rfl, rfl⟩ := trodVars_none hV
  have k0 := h0
  have lt0 : ∀ x ∈ p0, x.block < W.heap.size := by obtain ⟨m, hm⟩ := k0; exact DataW.trod_lt m _ _ _ hm
  have i0 := InC.of h0
  obtain ⟨a0, rfl⟩ := okWide_int Try.underlying3 (hval 0 3 v0 rfl rfl)
  have j0 : InC W 3 [_] := i0
  have k1 := h1
  have lt1 : ∀ x ∈ p1, x.block < W.heap.size := by obtain ⟨m, hm⟩ := k1; exact DataW.trod_lt m _ _ _ hm
  have i1 := InC.of h1
  obtain ⟨a1, rfl⟩ := okWide_int Try.underlying26 (hval 1 26 v1 rfl rfl)
  have j1 : InC W 26 [_] := i1
  clear hA0 hval0
  refine (walk _ _ W j0 j1).mono fun e W' ⟨he, bel⟩ => ?_
  subst he
  exact ⟨_, rfl, _, _, _, [], _, [], hW', trodAll_mk1 (shut_bool Try.underlying4 _), (trodAll_cons_mk (Below.trod laidOut (by kernel_rfl) (of_decide_eq_true (by kernel_rfl)) k0 bel lt0) (trodAll_cons_mk (Below.trod laidOut (by kernel_rfl) (of_decide_eq_true (by kernel_rfl)) k1 bel lt1) trodAll_mk0)), rfl, bel.frame _, fun h => by cases h⟩

theorem over : Rows.varintNilRow.holds Try.pinned (OpenSpec.ofChange Rows.varintNilSpec) :=
  OpenClaim.holds_of_wide 5 Try.f5 rfl rfl rfl rfl rfl rfl rfl ⟨rfl, rfl, rfl, rfl, rfl⟩ rfl rfl rfl rfl rfl (by kernel_rfl) Try.func5 (by kernel_rfl)
    (of_decide_eq_true (by kernel_rfl)) (by unfold Func.isWrapper; first | (rw [if_pos (by decide +kernel)]; kernel_rfl) | (rw [if_neg (by decide +kernel)]; exact ⟨rfl, rfl⟩))
    (fun os started H enc _ => lifted os started H enc)

theorem proved : Rows.VarintNilSaid := over
#print axioms proved
end Go.Proofs.Yteakeefocnjlhaa.varintNil
