/- The law 'ManifestFinds' returns true for every input, and each argument reads behind the call as it read before. No condition. -/
import Derived.Test.YtpoicbhbkabllaaRows
import Derived.Test.YtpoicbhbkabllaaIn
import Derived.Test.YtpoicbhbkabllaaManP
import Derived.Test.YtpoicbhbkabllaaManQ
import Derived.WalkKit
import Derived.ProofKit
import Derived.OpenShut
import Derived.ShutString
import Derived.ChangeOld
import Derived.Below
namespace Go.Proofs.Ytpoicbhbkabllaa.manifestFinds
open Go.Proofs.Ytpoicbhbkabllaa
open Go.ChangeShapes Go.WideShapes Go.ChangeAt Go.RowKit
set_option linter.unusedVariables false
set_option linter.unusedSimpArgs false

theorem own : ownKnob Try.prog.godebug = none := by kernel_rfl
theorem laidOut : laidOutB Try.prog = true := by kernel_rfl

set_option maxRecDepth 100000 in
set_option maxHeartbeats 3200000 in
theorem walk (cs0 : List Value) (v1 : Value) (w : World) (h0 : InC w 56 cs0) (h1 : InC w 9 [v1]) :
    Calls Try.prog 7 #[.agg cs0.toArray, v1] w fun e w' => e = .returned (.bool true) ∧ Below w.heap.size w w' := by
  obtain ⟨m, vf, rfl, hf⟩ := InC.man h0
  obtain ⟨s0, e1, hs⟩ := InC.string Try.underlying9 h1
  simp at e1
  subst e1
  obtain ⟨s, rfl, hsl⟩ := bst_of s0
  have hss : (bst s).size = s.length := rfl
  obtain ⟨A, c, rfl, hc1, hc2⟩ := hf.form
  unfold maxLen at hc2 hs
  have HA := Lib.hid (fun W => awake09 W)
  obtain ⟨w0, hw0⟩ : ∃ w0, w0 = w.alloc (.cells (encM m (.slice A m.files.length c)).toArray 56) := ⟨_, rfl⟩
  have hb0 : Below w.heap.size w w0 := by rw [hw0]; exact balloc w _
  have hx0 : BoxAt 56 w0 w.heap.size (encM m (.slice A m.files.length c)) := by rw [hw0]; exact BoxAt.new_ _ _ _
  have Hw0 := Lib.hid hw0
  have X0 := Lib.hid hx0
  have Hb0 := Lib.hid hb0
  have Hf := Lib.hid ((hf.below hb0).more hb0.size)
  clear hw0 hx0 hb0 hf h0 h1 hsl
  go_enter Try.func7, Try.ntmps7
  go_upto_region 1 with (fail)
  rw [← Hw0.out]
  go_wp2_with (refine wpList_load_agg rfl 56 (.tmp 2) rfl ⟨w.heap.size, 0, none⟩ rfl (encM m (.slice A m.files.length c)) X0.out.cells Try.underlying56 rfl info_man3 ?_)
  refine (great_any w0 _ m ⟨_, rfl, Hf.out⟩).mono ?_
  rintro _ w1 ⟨rfl, hb1⟩
  have X1 := Lib.hid (X0.out.blwM hb1)
  have Hf1 := Lib.hid ((Hf.out.below hb1).more hb1.size)
  have Hb1 := Lib.hid (bstep Hb0.out hb1)
  clear hb1
  cases hg : greatM m with
  | true =>
    go_wp2_with (go_at_call 30; refine (HA.out _).mono ?_; rintro e wa ⟨rfl, hba⟩)
    go_ret
    exact ⟨rfl, bstep Hb1.out hba⟩
  | false =>
    have Hg := Lib.hid hg
    clear hg
    go_wp2_with (refine wpList_load_aggG (by first | rfl | simp [Region.wanted, yielded]) 56 (.tmp 2) rfl ⟨w.heap.size, 0, none⟩ rfl (encM m (.slice A m.files.length c)) X1.out.cells Try.underlying56 rfl info_man3 ?_)
    refine (rmay_any w1 _ m ⟨_, rfl, Hf1.out⟩ Hg.out).mono ?_
    rintro _ w2 ⟨rfl, hb2⟩
    have X2 := Lib.hid (X1.out.blwM hb2)
    have Hf2 := Lib.hid ((Hf1.out.below hb2).more hb2.size)
    have Hb2 := Lib.hid (bstep Hb1.out hb2)
    clear hb2
    cases hm : mayM m with
    | false =>
      go_wp2_with (go_at_call 30; refine (HA.out _).mono ?_; rintro e wa ⟨rfl, hba⟩)
      go_ret
      exact ⟨rfl, bstep Hb2.out hba⟩
    | true =>
      have Hm := Lib.hid hm
      clear hm
      by_cases hs1 : 100 < s.length
      · have hd : decide (100 < (s.length : Int)) = true := decide_eq_true (by omega)
        have hd' : decide (100 < s.length) = true := decide_eq_true hs1
        clear hs1
        go_wp2_with (go_at_call 30; refine (HA.out _).mono ?_; rintro e wa ⟨rfl, hba⟩)
        go_ret
        exact ⟨rfl, bstep Hb2.out hba⟩
      · have hd : decide (100 < (s.length : Int)) = false := decide_eq_false (by omega)
        have hd' : decide (100 < s.length) = false := decide_eq_false hs1
        clear hs1
        have hfr : filesR m m.files.length = true := by have := Hm.out; unfold mayM at this; simp only [Bool.and_eq_true] at this; exact this.1
        have hrn : RiseN m.files := fun a b hb hab => filesR_rise m _ (Nat.le_refl _) hfr a b hb hab
        have Hfr := Lib.hid hfr
        have Hrn := Lib.hid hrn
        clear hfr hrn
        go_wp2_with (refine wpList_load_agg rfl 56 (.tmp 2) rfl ⟨w.heap.size, 0, none⟩ rfl (encM m (.slice A m.files.length c)) X2.out.cells Try.underlying56 rfl info_man3 ?_)
        refine (find_any w2 _ m s ⟨_, rfl, Hf2.out⟩ Hfr.out).mono ?_
        rintro _ w3 ⟨k, rfl, hat, hb3⟩
        have X3 := Lib.hid (X2.out.blwM hb3)
        have Hf3 := Lib.hid ((Hf2.out.below hb3).more hb3.size)
        have Hb3 := Lib.hid (bstep Hb2.out hb3)
        have Hcnt := Lib.hid hat.cnt
        have Hany := Lib.hid (hat.any Hrn.out)
        have hkl := hat.le
        have hc2x := X3.out.cell 2 _ rfl
        clear hb3 hat hd hd'
        generalize foundAt m.files s k = r at *
        go_wp2_with fail
        go_loop [7, 8, 9] (fun nv bv iv => ∃ k : Nat, k ≤ m.files.length ∧ iv = .int .i64 k ∧ nv = .int .i64 (cntLt (m.files.take k) s : Nat) ∧ bv = .bool (anyEq (m.files.take k) s)) (fun _ _ i => m.files.length - (intOf i).toNat)
        case atStart => exact ⟨0, by omega, rfl, rfl, rfl⟩
        case round =>
          obtain ⟨p, hp, rfl, rfl, rfl⟩ := hrel
          have hcl := cntLt_le (m.files.take p) s
          rw [List.length_take] at hcl
          by_cases hlt : p < m.files.length
          · obtain ⟨_, ad, vb, rfl, hab, hbI, hfo, hcl2⟩ := Hf3.out.cells p hlt
            have hcs := cntLt_succ m.files s p hlt
            have has := anyEq_succ m.files s p hlt
            have hcn := hcl2 0 _ rfl
            rw [Addr.add, if_pos rfl] at hcn
            have hnl := hfo.1
            generalize m.files[p] = fl at *
            have hlt' : Op.bytesLess (bst fl.name).toList (bst s).toList = bless fl.name s := by rw [bst_toList, bst_toList]
            have heq' : ((bst fl.name).toList == (bst s).toList) = decide (fl.name = s) := by rw [bst_toList, bst_toList]; by_cases h : fl.name = s <;> simp [h]
            have Hcs := Lib.hid hcs
            have Has := Lib.hid has
            generalize hq1 : cntLt (m.files.take p) s = N at *
            generalize hq2 : anyEq (m.files.take p) s = b at *
            generalize hq3 : bless fl.name s = l at *
            generalize hq4 : decide (fl.name = s) = q at *
            clear hcl2 hbI hfo hcs has hq1 hq2 hq3 hq4 hnl
            cases l <;> cases b <;>
              (go_wp2_with fail
               go_round
               case rel => exact ⟨p + 1, by omega, by go_num, by rw [Hcs.out]; simp, by rw [Has.out]; simp⟩
               case measure => simp [intOf]; omega)
          · obtain rfl : p = m.files.length := by omega
            rw [List.take_length] at *
            rw [Hcnt.out, Hany.out]
            go_wp2_with (go_at_call 30; refine (HA.out _).mono ?_; rintro e wa ⟨rfl, hba⟩)
            go_ret
            exact ⟨rfl, bstep Hb3.out hba⟩

set_option maxRecDepth 100000 in
theorem lifted (os : Os) (started : os.Started) (H : Type) (enc : TypeId × Value → H) :
    ReturnsInHanded {} Try.checked os 7 .any (Rows.manifestFindsSpec.pre6 enc Try.prog Try.f7 Rows.manifestFindsRow.domain false) (Rows.manifestFindsSpec.post enc Try.prog Try.f7 false true false false) := by
  refine returnsInHanded_of_change (C := Try.checked) own started (by kernel_rfl) Try.func7
    (ChangeSpec.witness6 (enc := enc) (C := Try.checked) false ⟨#[], #[.agg #[.int .u64 0, .int .u32 0, .slice none 0 0], .string ⟨#[]⟩], []⟩ 8 (by kernel_rfl) (by kernel_rfl) (by kernel_rfl) (by kernel_rfl)) ?_
  intro W base args ds gs before hval0 hW hcnd _
  have hval : ∀ (j : Nat) t v, Try.f7.params[j]? = some t → args[j]? = some v → Value.okWide Try.prog W .any base t v := hval0
  have hW' := hW
  obtain ⟨p, q, hA0, hV, rfl, hfz, hnd⟩ := hW
  have hA : DataW.TrodAll enc Try.prog W 0 (fun _ => true) true Try.f7.params.toList args.toList ds p := hA0
  rw [Try.params7] at hA hval
  obtain ⟨v0, vs0, d0, ds0, p0, q0, hargs, rfl, rfl, h0, r0⟩ := trodAll_cons hA
  obtain ⟨v1, vs1, d1, ds1, p1, q1, rfl, rfl, rfl, h1, r1⟩ := trodAll_cons r0
  obtain ⟨rfl, rfl, rfl⟩ := trodAll_nil r1
  obtain rfl : args = #[v0, v1] := by cases args; simp_all
  obtain ⟨rfl, rfl⟩ := trodVars_none hV
  have k0 := h0
  have lt0 : ∀ x ∈ p0, x.block < W.heap.size := by obtain ⟨m, hm⟩ := k0; exact DataW.trod_lt m _ _ _ hm
  have i0 := InC.of h0
  obtain ⟨cs0, rfl, j0⟩ := InC.agg Try.underlying56 (hval 0 56 v0 rfl rfl) i0
  have k1 := h1
  have lt1 : ∀ x ∈ p1, x.block < W.heap.size := by obtain ⟨m, hm⟩ := k1; exact DataW.trod_lt m _ _ _ hm
  have i1 := InC.of h1
  obtain ⟨a1, rfl⟩ := okWide_string Try.underlying9 (hval 1 9 v1 rfl rfl)
  have j1 : InC W 9 [_] := i1
  clear hA0 hval0
  refine (walk cs0 _ W j0 j1).mono fun e W' ⟨he, bel⟩ => ?_
  subst he
  exact ⟨_, rfl, _, _, _, [], _, [], hW', trodAll_mk1 (shut_bool Try.underlying4 _), (trodAll_cons_mk (Below.trod laidOut (by kernel_rfl) (of_decide_eq_true (by kernel_rfl)) k0 bel lt0) (trodAll_cons_mk (Below.trod laidOut (by kernel_rfl) (of_decide_eq_true (by kernel_rfl)) k1 bel lt1) trodAll_mk0)), rfl, bel.frame _, fun h => by cases h⟩

theorem over : Rows.manifestFindsRow.holds Try.pinned (OpenSpec.ofChange Rows.manifestFindsSpec) :=
  OpenClaim.holds_of_wide 7 Try.f7 rfl rfl rfl rfl rfl rfl rfl ⟨rfl, rfl, rfl, rfl, rfl⟩ rfl rfl rfl rfl rfl (by kernel_rfl) Try.func7 (by kernel_rfl)
    (of_decide_eq_true (by kernel_rfl)) (by unfold Func.isWrapper; first | (rw [if_pos (by decide +kernel)]; kernel_rfl) | (rw [if_neg (by decide +kernel)]; exact ⟨rfl, rfl⟩))
    (fun os started H enc _ => lifted os started H enc)

theorem proved : Rows.ManifestFindsSaid := over
#print axioms proved
end Go.Proofs.Ytpoicbhbkabllaa.manifestFinds
