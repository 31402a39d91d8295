/- The law 'AliasCounts' returns true for every input, and each argument reads behind the call as it read before. No condition. -/
import Derived.Test.YteakeefocnjlhaaRows
import Derived.Test.YteakeefocnjlhaaIn
import Derived.Test.YteakeefocnjlhaaAwake16
import Derived.Test.YteakeefocnjlhaaAMay2
import Derived.WalkKit
import Derived.ProofKit
import Derived.OpenShut
import Derived.ShutString
import Derived.ChangeOld
import Derived.Below
namespace Go.Proofs.Yteakeefocnjlhaa.aliasCounts
open Go.Proofs.Yteakeefocnjlhaa
open Go.ChangeShapes Go.WideShapes Go.ChangeAt Go.RowKit
set_option linter.unusedVariables false
set_option linter.unusedSimpArgs false

theorem own : ownKnob Try.prog.godebug = none := by kernel_rfl
theorem laidOut : laidOutB Try.prog = true := by kernel_rfl

set_option maxRecDepth 100000 in
set_option maxHeartbeats 2000000 in
theorem walk (v0 : Value) (w : World) (h0 : InC w 32 [v0]) :
    Calls Try.prog 14 #[v0] w fun e w' => e = .returned (.bool true) ∧ Below w.heap.size w w' := by
  obtain ⟨l, hl⟩ := h0.arcs
  clear h0
  obtain ⟨A, c, rfl, hc1, hc2⟩ := hl.form
  unfold maxLen at hc2
  by_cases hb1 : 100 < l.length
  · go_enter Try.func14, Try.ntmps14
    go_wp2_with (go_at_call 56; refine (awake16 _).mono ?_; rintro e wa ⟨rfl, hba⟩)
    go_ret
    exact ⟨rfl, hba⟩
  by_cases hb2 : l.length = 0
  · have hd : (l.length == 0) = true := by simpa using hb2
    have hd1 : ((l.length : Int) == 0) = true := by simp [hb2]
    clear hb2
    go_enter Try.func14, Try.ntmps14
    go_wp2_with (go_at_call 56; refine (awake16 _).mono ?_; rintro e wa ⟨rfl, hba⟩)
    go_ret
    exact ⟨rfl, hba⟩
  have hd : (l.length == 0) = false := beq_eq_false_iff_ne.2 (by omega)
  have hd1 : ((l.length : Int) == 0) = false := beq_eq_false_iff_ne.2 (by omega)
  have hmay := rgmay_any w _ _ l (by omega) hl
  have Hb2 := Lib.hid hb2
  clear hb2
  cases hg : gmay l with
  | false =>
    rw [hg] at hmay
    go_enter Try.func14, Try.ntmps14
    go_wp2_with fail
    refine hmay.mono ?_
    rintro _ _ ⟨rfl, q, rfl⟩
    go_wp2_with (go_at_call 56; refine (awake16 _).mono ?_; rintro e wa ⟨rfl, hba⟩)
    go_ret
    exact ⟨rfl, bstep (bdrewN (Below.refl _ _) q) hba⟩
  | true =>
    rw [hg] at hmay
    have hnb : nbrs l = true := by unfold nbrs; rw [hg, decide_eq_true (by have := Hb2.out; omega)]; rfl
    have hsum := gmay_sum hg
    have hbt := fun i hi => btab_cnt l (by omega) hsum i hi
    have htl := btab_len l (by omega) hsum
    have hgs := gsum_snoc l
    have hgt := gsum_take_le l
    have hgz : gsum (l.take l.length) = gsum l := by rw [List.take_length]
    have Hbt := Lib.hid hbt
    have Hnb := Lib.hid hnb
    have Hl := Lib.hid hl
    have Hgs := Lib.hid hgs
    have Hgt := Lib.hid hgt
    have Hgz := Lib.hid hgz
    have Htl := Lib.hid htl
    clear hg hnb hbt hl hgs hgt hgz htl
    go_enter Try.func14, Try.ntmps14
    go_wp2_with fail
    refine hmay.mono ?_
    rintro _ _ ⟨rfl, q, rfl⟩
    have hb0 := bdrewN (Below.refl w.heap.size w) q
    go_wp2_with fail
    refine (build_any _ _ _ l (by omega) (Hl.out.step hb0) (Nat.le_refl _) Hnb.out).mono ?_
    rintro _ w1 ⟨vo, rfl, hown, hb1'⟩
    have hb01 := bstep hb0 hb1'
    have hby := hown.byC
    have Hby := Lib.hid hby
    have Hb01 := Lib.hid hb01
    have Hl1 := Lib.hid (Hl.out.step hb01)
    obtain ⟨A2, c2, rfl, hd1', hd2'⟩ := hby.form
    clear hmay hown hby hb01 hb0 hb1' Hl
    go_wp2_with fail
    refine (rgsum_any _ _ _ l (by omega) Hl1.out).mono ?_
    rintro _ _ ⟨rfl, rfl⟩
    go_wp2_with fail
    go_loopw [7, 8] (fun a i wr => ∃ k : Nat, k ≤ l.length ∧ i = .int .i64 k ∧ a = .int .u64 (l.length * gsum (l.take k) : Nat) ∧ Below w1.heap.size w1 wr) (fun _ i _ => l.length - (intOf i).toNat)
    case atStart => exact ⟨0, by omega, rfl, by simp [gsum], Below.refl _ _⟩
    case round =>
      obtain ⟨k, hk, rfl, rfl, hbl⟩ := hrel
      have Hbl := Lib.hid hbl
      by_cases hlt : k < l.length
      · obtain ⟨ad, rfl, hab, hx0, hx1⟩ := (Hl1.out.step hbl).cells k hlt
        have hct := Hbt.out k hlt
        have hsn := Hgs.out k hlt
        have hle := Hgt.out (k + 1)
        have hwt := u32_lt (l[k]).wt
        have hac := acount_any wr _ _ (btab l) (gsum l) (by omega) (k : Int) (by rw [Htl.out]; omega) (Hby.out.step hbl) (Nat.le_refl _)
        rw [hct] at hac
        have Hac := Lib.hid hac
        clear hac hct hbl
        have hm1 : l.length * gsum (l.take (k + 1)) = l.length * gsum (l.take k) + l.length * (l[k]).wt.toNat := by rw [hsn, Nat.mul_add]
        have hm2 : l.length * (l[k]).wt.toNat ≤ 100 * 4294967295 := Nat.mul_le_mul (by omega) (by omega)
        have hm3 : l.length * gsum (l.take k) ≤ 100 * 2147483647 := Nat.mul_le_mul (by omega) (by omega)
        have hmul : IntKind.u64.wrap ((l.length : Int) * ((l[k]).wt.toNat : Int)) = ((l.length * (l[k]).wt.toNat : Nat) : Int) := by
          rw [← Int.natCast_mul, wrap_u64]; omega
        have Hm1 := Lib.hid hm1
        clear hsn hle hm1
        generalize (l[k]).to.toNat = to at *
        generalize (l[k]).wt.toNat = wt at *
        generalize hP : l.length * wt = p at *
        generalize l.length * gsum (l.take k) = s at *
        clear hP
        go_wp2_with fail
        refine Hac.out.mono ?_
        rintro _ w2 ⟨rfl, hb2⟩
        have hx1' := (hb2.cell (p := { block := (ad.add (k * 2)).block, off := (ad.add (k * 2)).off + 1 }) (by show (ad.add (k * 2)).block < _; rw [add_block]; exact hab)).trans hx1
        have Hb2' := Lib.hid hb2
        clear hx0 hx1 hb2 Hac
        go_wp2_with fail
        go_roundw
        case rel => exact ⟨k + 1, by omega, by go_num, by rw [Hm1.out]; go_num, bstep Hbl.out Hb2'.out⟩
        case measure => simp [intOf]; omega
      · obtain rfl : k = l.length := by omega
        rw [Hgz.out]
        have hm3 : l.length * gsum l ≤ 100 * 2147483647 := Nat.mul_le_mul (by omega) hsum
        have hmul : IntKind.u64.wrap ((gsum l : Int) * (l.length : Int)) = ((l.length * gsum l : Nat) : Int) := by
          rw [← Int.natCast_mul, wrap_u64, Nat.mul_comm (gsum l)]; omega
        clear hbl
        generalize l.length * gsum l = s at *
        go_wp2_with (go_at_call 56; refine (awake16 _).mono ?_; rintro e wa ⟨rfl, hba⟩)
        go_ret
        exact ⟨by simp, bstep (bstep Hb01.out Hbl.out) hba⟩

set_option maxRecDepth 100000 in
theorem lifted (os : Os) (started : os.Started) (H : Type) (enc : TypeId × Value → H) :
    ReturnsInHanded {} Try.checked os 14 .any (Rows.aliasCountsSpec.pre6 enc Try.prog Try.f14 Rows.aliasCountsRow.domain false) (Rows.aliasCountsSpec.post enc Try.prog Try.f14 false true false false) := by
  refine returnsInHanded_of_change (C := Try.checked) own started (by kernel_rfl) Try.func14
    (ChangeSpec.witness6 (enc := enc) (C := Try.checked) false ⟨#[], #[.slice none 0 0], []⟩ 8 (by kernel_rfl) (by kernel_rfl) (by kernel_rfl) (by kernel_rfl)) ?_
  intro W base args ds gs before hval0 hW hcnd _
  have hval : ∀ (j : Nat) t v, Try.f14.params[j]? = some t → args[j]? = some v → Value.okWide Try.prog W .any base t v := hval0
  have hW' := hW
  obtain ⟨p, q, hA0, hV, rfl, hfz, hnd⟩ := hW
  have hA : DataW.TrodAll enc Try.prog W 0 (fun _ => true) true Try.f14.params.toList args.toList ds p := hA0
  rw [Try.params14] at hA hval
  obtain ⟨v0, vs0, d0, ds0, p0, q0, hargs, rfl, rfl, h0, r0⟩ := trodAll_cons hA
  obtain ⟨rfl, rfl, rfl⟩ := trodAll_nil r0
  obtain rfl : args = #[v0] := by cases args; simp_all
  obtain ⟨rfl, rfl⟩ := trodVars_none hV
  have k0 := h0
  have lt0 : ∀ x ∈ p0, x.block < W.heap.size := by obtain ⟨m, hm⟩ := k0; exact DataW.trod_lt m _ _ _ hm
  have i0 := InC.of h0
  obtain ⟨a0, len0, cap0, rfl⟩ := okWide_slice Try.underlying32 (hval 0 32 v0 rfl rfl)
  have j0 : InC W 32 [_] := i0
  clear hA0 hval0
  refine (walk _ W j0).mono fun e W' ⟨he, bel⟩ => ?_
  subst he
  exact ⟨_, rfl, _, _, _, [], _, [], hW', trodAll_mk1 (shut_bool Try.underlying4 _), (trodAll_cons_mk (Below.trod laidOut (by kernel_rfl) (of_decide_eq_true (by kernel_rfl)) k0 bel lt0) trodAll_mk0), rfl, bel.frame _, fun h => by cases h⟩

theorem over : Rows.aliasCountsRow.holds Try.pinned (OpenSpec.ofChange Rows.aliasCountsSpec) :=
  OpenClaim.holds_of_wide 14 Try.f14 rfl rfl rfl rfl rfl rfl rfl ⟨rfl, rfl, rfl, rfl, rfl⟩ rfl rfl rfl rfl rfl (by kernel_rfl) Try.func14 (by kernel_rfl)
    (of_decide_eq_true (by kernel_rfl)) (by unfold Func.isWrapper; first | (rw [if_pos (by decide +kernel)]; kernel_rfl) | (rw [if_neg (by decide +kernel)]; exact ⟨rfl, rfl⟩))
    (fun os started H enc _ => lifted os started H enc)

theorem proved : Rows.AliasCountsSaid := over
#print axioms proved
end Go.Proofs.Yteakeefocnjlhaa.aliasCounts
