/- The law 'DiskFuses' returns true for every input, and each argument reads behind the call as it read before. No condition. -/
import Derived.Test.YtpoicbhbkabllaaRows
import Derived.Test.YtpoicbhbkabllaaIn
import Derived.Test.YtpoicbhbkabllaaFuseLaw
import Derived.WalkKit
import Derived.ProofKit
import Derived.OpenShut
import Derived.ShutString
import Derived.ChangeOld
import Derived.Below
namespace Go.Proofs.Ytpoicbhbkabllaa.diskFuses
open Go.Proofs.Ytpoicbhbkabllaa
open Go.ChangeShapes Go.WideShapes Go.ChangeAt Go.RowKit
set_option linter.unusedVariables false
set_option linter.unusedSimpArgs false

theorem own : ownKnob Try.prog.godebug = none := by kernel_rfl
theorem laidOut : laidOutB Try.prog = true := by kernel_rfl

set_option maxRecDepth 100000 in
set_option maxHeartbeats 3200000 in
theorem walk (v0 v1 : Value) (w : World) (h0 : InC w 3 [v0]) (h1 : InC w 4 [v1]) :
    Calls Try.prog 3 #[v0, v1] w fun e w' => e = .returned (.bool true) ∧ Below w.heap.size w w' := by
  obtain ⟨i, e1, hi⟩ := InC.i64 (S := fun _ => True) Try.underlying3 h0
  simp at e1
  subst e1
  obtain ⟨sy, e2, _⟩ := InC.cbool (S := fun _ => True) Try.underlying4 h1
  simp at e2
  subst e2
  clear h0 h1 hi
  by_cases hn0 : i < 0
  · have hd1 : decide (i < 0) = true := decide_eq_true hn0
    clear hn0
    go_enter Try.func3, Try.ntmps3
    go_wp2_with fail
    refine (awake06_any _).mono ?_
    rintro e wa ⟨rfl, hba⟩
    go_wp2_with fail
    go_ret
    exact ⟨rfl, hba⟩
  have hd1 : decide (i < 0) = false := decide_eq_false hn0
  by_cases hn1 : 100 < i
  · have hd2 : decide (100 < i) = true := decide_eq_true hn1
    clear hn0 hn1
    go_enter Try.func3, Try.ntmps3
    go_wp2_with fail
    refine (awake06_any _).mono ?_
    rintro e wa ⟨rfl, hba⟩
    go_wp2_with fail
    go_ret
    exact ⟨rfl, hba⟩
  have hd2 : decide (100 < i) = false := decide_eq_false hn1
  obtain ⟨n, rfl⟩ : ∃ n : Nat, i = (n : Int) := ⟨i.toNat, by omega⟩
  have hn : n ≤ 100 := by omega
  have hd3 : decide (100 < n) = false := decide_eq_false (by omega)
  have Hfs := Lib.hid (fs_start n)
  clear hn0 hn1
  go_enter Try.func3, Try.ntmps3
  go_wp2_with fail
  refine (dnew_dk _ 1 (by decide) (by decide)).mono ?_
  rintro _ w1 ⟨g, rfl, hd1', hb1⟩
  have hz1 := hb1.size
  have Hd1 := Lib.hid hd1'
  have Hb1 := Lib.hid hb1
  clear hd1' hb1
  go_wp2_with fail
  refine (dfuse_dk (n := (n : Int)) Hd1.out (by omega)).mono ?_
  rintro _ w2 ⟨rfl, hd2', hc2⟩
  have hz2 := hc2.size
  have Hb2 := Lib.hid (Hb1.out.trans (hc2.below_ hz1))
  have Hd2 := Lib.hid hd2'
  clear hd2' hc2 Hd1 Hb1
  go_wp2_with fail
  go_loopw [7, 8] (fun cv iv wr => ∃ (k c : Nat) (d : DState), k ≤ n + 3 ∧ c ≤ k ∧ iv = .int .i64 k ∧ cv = .int .i64 c ∧ FS n k d c ∧ DK w.heap.size (fun _ => False) wr g d ∧ Below w.heap.size w wr) (fun _ i _ => n + 3 - (intOf i).toNat)
  case atStart => exact ⟨0, 0, _, by omega, by omega, rfl, rfl, Hfs.out, Hd2.out, Hb2.out⟩
  case round =>
    obtain ⟨k, c, d, hk, hck, rfl, rfl, hfs, hdk, hbl⟩ := hrel
    have hzr := hbl.size
    have hw3 : IntKind.i64.wrap ((n : Int) + 3) = (n : Int) + 3 := by rw [wrap_i64]; omega
    by_cases hlt : k < n + 3
    · have hdl : decide ((k : Int) < (n : Int) + 3) = true := decide_eq_true (by omega)
      have hwl : d.wt.length ≤ 1000000 := by have := hfs.2.1; omega
      have hrem : (k : Int).tmod 2 = (k : Int) % 2 := Int.tmod_eq_emod_of_nonneg (by omega)
      have Hd := Lib.hid hdk
      have Hb := Lib.hid hbl
      have Hw := Lib.hid hwl
      clear hdk hbl hwl
      by_cases hsy : sy = true ∧ k % 2 = 1
      · obtain ⟨rfl, hpar⟩ := hsy
        have hp1 : ((k : Int) % 2 == 1) = true := by simp; omega
        have hf2 := fs_sync hfs
        have Hf2 := Lib.hid hf2
        clear hfs hf2 hpar
        go_wp2_with fail
        refine (dsync_dk Hd.out (fun k hk => hk.elim) hzr Hw.out).mono ?_
        rintro _ w3 ⟨rfl, hd3', hc3⟩
        have hz3 := hc3.size
        have Hb3 := Lib.hid (Hb.out.trans (hc3.below_ hzr))
        have Hd3 := Lib.hid hd3'
        clear hd3' hc3 Hd Hb
        by_cases hE : syncE d = 0
        · rw [if_pos hE] at Hf2
          rw [hE]
          clear hE
          go_wp2_with fail
          go_roundw
          case rel => exact ⟨k + 1, c + 1, _, by omega, by omega, by go_num, by go_num, Hf2.out, Hd3.out, Hb3.out⟩
          case measure => simp [intOf]; omega
        · rw [if_neg hE] at Hf2
          have hEb : (syncE d == 0) = false := beq_eq_false_iff_ne.2 hE
          clear hE
          generalize syncE d = E at *
          go_wp2_with fail
          go_roundw
          case rel => exact ⟨k + 1, c, _, by omega, by omega, by go_num, rfl, Hf2.out, Hd3.out, Hb3.out⟩
          case measure => simp [intOf]; omega
      · have hcb := wrap_u8_nat k
        have hf2 := fs_write hfs (filledL (UInt8.ofNat k) false) (filledL_len _)
        have Hf2 := Lib.hid hf2
        have Hsy := Lib.hid hsy
        clear hfs hf2 hsy
        generalize UInt8.ofNat k = cb at *
        have hsy2 : sy = false ∨ (sy = true ∧ ((k : Int) % 2 == 1) = false) := by
          cases sy with
          | false => exact .inl rfl
          | true => exact .inr ⟨rfl, by have := Hsy.out; simp at this; simp; omega⟩
        clear Hsy
        rcases hsy2 with rfl | ⟨rfl, hp1⟩
        all_goals
          go_wp2_with fail
          refine (filled_any _ _ _).mono ?_
          rintro _ w3 ⟨v, rfl, hf3, hb3⟩
          have hz3 := hb3.size
          have hd3' := (Hd.out.apart (X' := fun q => wr.heap.size ≤ q ∧ q < w3.heap.size) (fun q hq => .inr hq.1)).below_ hb3
          have Hd3 := Lib.hid hd3'
          have Hb3 := Lib.hid (Hb.out.trans (hb3.mono hzr))
          have Hf3 := Lib.hid hf3
          obtain ⟨A, cc, rfl, q1, q2⟩ := hf3.form
          unfold maxLen at q2
          clear hd3' hb3 hf3 Hd Hb
          go_wp2_with fail
          refine (dwrite_dk Hd3.out (fun k hk => hk.2) (by omega) Hw.out Hf3.out.by_ (fun q hq => .inr (Hf3.out.blk q hq))).mono ?_
          rintro _ w4 ⟨rfl, hd4', hc4⟩
          have hz4 := hc4.size
          have hd4 := hd4'.apart (X' := fun _ => False) (fun q hq => hq.elim)
          have Hb4 := Lib.hid (Hb3.out.trans (hc4.below_ (by omega)))
          have Hd4 := Lib.hid hd4
          clear hd4' hd4 hc4 Hd3 Hb3 Hf3
          by_cases hE : writeE d 0 (filledL cb false) = 0
          · rw [if_pos hE] at Hf2
            rw [hE]
            clear hE q1 q2
            go_wp2_with fail
            go_roundw
            case rel => exact ⟨k + 1, c + 1, _, by omega, by omega, by go_num, by go_num, Hf2.out, Hd4.out, Hb4.out⟩
            case measure => simp [intOf]; omega
          · rw [if_neg hE] at Hf2
            have hEb : (writeE d 0 (filledL cb false) == 0) = false := beq_eq_false_iff_ne.2 hE
            clear hE q1 q2
            generalize writeE d 0 (filledL cb false) = E at *
            go_wp2_with fail
            go_roundw
            case rel => exact ⟨k + 1, c, _, by omega, by omega, by go_num, rfl, Hf2.out, Hd4.out, Hb4.out⟩
            case measure => simp [intOf]; omega
    · obtain rfl : k = n + 3 := by omega
      have hdl : decide (((n + 3 : Nat) : Int) < (n : Int) + 3) = false := decide_eq_false (by omega)
      obtain ⟨_, _, hfs3⟩ := hfs
      rcases hfs3 with ⟨h, _⟩ | ⟨_, hoff, rfl⟩
      · omega
      have hon := don_dk hdk
      rw [hoff] at hon
      have Hon := Lib.hid hon
      have Hb := Lib.hid hbl
      have hcc : ((c : Int) == (c : Int)) = true := by simp
      clear hdk hbl hon hoff
      go_wp2_with fail
      refine Hon.out.mono ?_
      rintro _ _ ⟨rfl, rfl⟩
      go_wp2_with fail
      refine (awake06_any _).mono ?_
      rintro e wa ⟨rfl, hba⟩
      go_wp2_with fail
      go_ret
      exact ⟨by simp, Hb.out.trans (hba.mono hzr)⟩

set_option maxRecDepth 100000 in
theorem lifted (os : Os) (started : os.Started) (H : Type) (enc : TypeId × Value → H) :
    ReturnsInHanded {} Try.checked os 3 .any (Rows.diskFusesSpec.pre6 enc Try.prog Try.f3 Rows.diskFusesRow.domain false) (Rows.diskFusesSpec.post enc Try.prog Try.f3 false true false false) := by
  refine returnsInHanded_of_change (C := Try.checked) own started (by kernel_rfl) Try.func3
    (ChangeSpec.witness6 (enc := enc) (C := Try.checked) false ⟨#[], #[.int .i64 0, .bool false], []⟩ 8 (by kernel_rfl) (by kernel_rfl) (by kernel_rfl) (by kernel_rfl)) ?_
  intro W base args ds gs before hval0 hW hcnd _
  have hval : ∀ (j : Nat) t v, Try.f3.params[j]? = some t → args[j]? = some v → Value.okWide Try.prog W .any base t v := hval0
  have hW' := hW
  obtain ⟨p, q, hA0, hV, rfl, hfz, hnd⟩ := hW
  have hA : DataW.TrodAll enc Try.prog W 0 (fun _ => true) true Try.f3.params.toList args.toList ds p := hA0
  rw [Try.params3] at hA hval
  obtain ⟨v0, vs0, d0, ds0, p0, q0, hargs, rfl, rfl, h0, r0⟩ := trodAll_cons hA
  obtain ⟨v1, vs1, d1, ds1, p1, q1, rfl, rfl, rfl, h1, r1⟩ := trodAll_cons r0
  obtain ⟨rfl, rfl, rfl⟩ := trodAll_nil r1
  obtain rfl : args = #[v0, v1] := by cases args; simp_all
  obtain ⟨rfl, rfl⟩ := trodVars_none hV
  have k0 := h0
  have lt0 : ∀ x ∈ p0, x.block < W.heap.size := by obtain ⟨m, hm⟩ := k0; exact DataW.trod_lt m _ _ _ hm
  have i0 := InC.of h0
  obtain ⟨a0, rfl⟩ := okWide_int Try.underlying3 (hval 0 3 v0 rfl rfl)
  have j0 : InC W 3 [_] := i0
  have k1 := h1
  have lt1 : ∀ x ∈ p1, x.block < W.heap.size := by obtain ⟨m, hm⟩ := k1; exact DataW.trod_lt m _ _ _ hm
  have i1 := InC.of h1
  obtain ⟨a1, rfl⟩ := okWide_bool Try.underlying4 (hval 1 4 v1 rfl rfl)
  have j1 : InC W 4 [_] := i1
  clear hA0 hval0
  refine (walk _ _ W j0 j1).mono fun e W' ⟨he, bel⟩ => ?_
  subst he
  exact ⟨_, rfl, _, _, _, [], _, [], hW', trodAll_mk1 (shut_bool Try.underlying4 _), (trodAll_cons_mk (Below.trod laidOut (by kernel_rfl) (of_decide_eq_true (by kernel_rfl)) k0 bel lt0) (trodAll_cons_mk (Below.trod laidOut (by kernel_rfl) (of_decide_eq_true (by kernel_rfl)) k1 bel lt1) trodAll_mk0)), rfl, bel.frame _, fun h => by cases h⟩

theorem over : Rows.diskFusesRow.holds Try.pinned (OpenSpec.ofChange Rows.diskFusesSpec) :=
  OpenClaim.holds_of_wide 3 Try.f3 rfl rfl rfl rfl rfl rfl rfl ⟨rfl, rfl, rfl, rfl, rfl⟩ rfl rfl rfl rfl rfl (by kernel_rfl) Try.func3 (by kernel_rfl)
    (of_decide_eq_true (by kernel_rfl)) (by unfold Func.isWrapper; first | (rw [if_pos (by decide +kernel)]; kernel_rfl) | (rw [if_neg (by decide +kernel)]; exact ⟨rfl, rfl⟩))
    (fun os started H enc _ => lifted os started H enc)

theorem proved : Rows.DiskFusesSaid := over
#print axioms proved
end Go.Proofs.Ytpoicbhbkabllaa.diskFuses
