/- The law 'AliasOne' returns true for every input, and each argument reads behind the call as it read before. No condition. -/
import Derived.Test.YteakeefocnjlhaaRows
import Derived.Test.YteakeefocnjlhaaIn
import Derived.Test.YteakeefocnjlhaaAwake16
import Derived.Test.YteakeefocnjlhaaAMay2
import Derived.Test.YteakeefocnjlhaaTo
import Derived.WalkKit
import Derived.ProofKit
import Derived.OpenShut
import Derived.ShutString
import Derived.ChangeOld
import Derived.Below
namespace Go.Proofs.Yteakeefocnjlhaa.aliasOne
open Go.Proofs.Yteakeefocnjlhaa
open Go.ChangeShapes Go.WideShapes Go.ChangeAt Go.RowKit
set_option linter.unusedVariables false
set_option linter.unusedSimpArgs false

theorem own : ownKnob Try.prog.godebug = none := by kernel_rfl
theorem laidOut : laidOutB Try.prog = true := by kernel_rfl

set_option maxRecDepth 100000 in
set_option maxHeartbeats 2000000 in
theorem walk (v0 : Value) (w : World) (h0 : InC w 32 [v0]) :
    Calls Try.prog 13 #[v0] w fun e w' => e = .returned (.bool true) ∧ Below w.heap.size w w' := by
  obtain ⟨l, hl⟩ := h0.arcs
  clear h0
  obtain ⟨A, c, rfl, hc1, hc2⟩ := hl.form
  unfold maxLen at hc2
  by_cases hb1 : 40 < l.length
  · go_enter Try.func13, Try.ntmps13
    go_wp2_with (go_at_call 56; refine (awake16 _).mono ?_; rintro e wa ⟨rfl, hba⟩)
    go_ret
    exact ⟨rfl, hba⟩
  by_cases hb2 : l.length = 0
  · have hd : (l.length == 0) = true := by simpa using hb2
    have hd1 : ((l.length : Int) == 0) = true := by simp [hb2]
    clear hb2
    go_enter Try.func13, Try.ntmps13
    go_wp2_with (go_at_call 56; refine (awake16 _).mono ?_; rintro e wa ⟨rfl, hba⟩)
    go_ret
    exact ⟨rfl, hba⟩
  have hd : (l.length == 0) = false := beq_eq_false_iff_ne.2 (by omega)
  have hd1 : ((l.length : Int) == 0) = false := beq_eq_false_iff_ne.2 (by omega)
  have hmay := rgmay_any w _ _ l (by omega) hl
  have Hb2 := Lib.hid hb2
  clear hb2
  cases hg : gmay l with
  | false =>
    rw [hg] at hmay
    go_enter Try.func13, Try.ntmps13
    go_wp2_with fail
    refine hmay.mono ?_
    rintro _ _ ⟨rfl, q, rfl⟩
    go_wp2_with (go_at_call 56; refine (awake16 _).mono ?_; rintro e wa ⟨rfl, hba⟩)
    go_ret
    exact ⟨rfl, bstep (bdrewN (Below.refl _ _) q) hba⟩
  | true =>
    rw [hg] at hmay
    have hnb : nbrs l = true := by unfold nbrs; rw [hg, decide_eq_true (by have := Hb2.out; omega)]; rfl
    have hsum := gmay_sum hg
    have hmt := fun k hk => met_btab l (by omega) hsum k hk
    have hok := btab_ok l (by omega) hsum
    have htp := fun x hx => toP_lt l (by omega) hsum x hx
    have htl := btab_len l (by omega) hsum
    have hmul : IntKind.u64.wrap ((gsum l : Int) * (l.length : Int)) = ((gsum l * l.length : Nat) : Int) := by
      have : gsum l * l.length ≤ 2147483647 * 100 := Nat.mul_le_mul hsum (by omega)
      rw [← Int.natCast_mul, wrap_u64]; omega
    have hdv : ∀ x, x < gsum l * l.length → x / gsum l < l.length := fun x hx => Nat.div_lt_of_lt_mul hx
    have hpos : ∀ x, x < gsum l * l.length → 0 < gsum l := fun x hx => Nat.pos_of_ne_zero fun e => by rw [e] at hx; simp at hx
    have hmr0 := metRow_zero (gsum l) (btab l) l.length []
    have hmk := make64 [] (gsum l) l.length (by omega)
    rw [← metRow_zero (gsum l) (btab l) l.length []] at hmk
    have Hmt := Lib.hid hmt
    have Hok := Lib.hid hok
    have Htp := Lib.hid htp
    have Hdv := Lib.hid hdv
    have Hpos := Lib.hid hpos
    have Hnb := Lib.hid hnb
    have Hl := Lib.hid hl
    have Htl := Lib.hid htl
    clear hg hnb hmt hok htp hl htl hdv hpos hmr0
    generalize hN : gsum l * l.length = N at *
    clear hN
    go_enter Try.func13, Try.ntmps13
    go_wp2_with fail
    refine hmay.mono ?_
    rintro _ _ ⟨rfl, q, rfl⟩
    have hb0 := bdrewN (Below.refl w.heap.size w) q
    go_wp2_with fail
    refine (rgsum_any _ _ _ l (by omega) (Hl.out.step hb0)).mono ?_
    rintro _ _ ⟨rfl, rfl⟩
    by_cases hw1 : 2000 < gsum l
    · go_wp2_with (go_at_call 56; refine (awake16 _).mono ?_; rintro e wa ⟨rfl, hba⟩)
      go_ret
      exact ⟨rfl, bstep hb0 hba⟩
    by_cases hw2 : 2000 < N
    · go_wp2_with (go_at_call 56; refine (awake16 _).mono ?_; rintro e wa ⟨rfl, hba⟩)
      go_ret
      exact ⟨rfl, bstep hb0 hba⟩
    go_wp2_with fail
    refine (build_any _ _ _ l (by omega) (Hl.out.step hb0) (Nat.le_refl _) Hnb.out).mono ?_
    rintro _ w1 ⟨vo, rfl, hown, hb1'⟩
    have hb01 := bstep hb0 hb1'
    have hby := hown.byC
    have Hby := Lib.hid hby
    have Hb01 := Lib.hid hb01
    have Hl1 := Lib.hid (Hl.out.step hb01)
    obtain ⟨A2, c2, rfl, hd1', hd2'⟩ := hby.form
    rw [Htl.out] at hd1'
    have Hby' : Hid (ByC w1 w1.heap.size (.slice A2 l.length c2) (btab l)) := by have := Hby.out; rw [Htl.out] at this; exact this
    rw [Htl.out]
    unfold maxLen at hd2'
    have hle1 : ((l.length : Int) != (l.length : Int)) = false := by simp
    clear hmay hown hby hb01 hb0 hb1' Hl Hby
    go_wp2_with fail
    have hbx0 := BoxAt.new_ 26 w1 (metRow (gsum l) (btab l) l.length 0)
    have hbm0 := balloc w1 (.cells (metRow (gsum l) (btab l) l.length 0).toArray 26)
    clear hmk
    go_loopw [8, 9] (fun x _ wr => ∃ k : Nat, k ≤ N ∧ x = .int .u64 k ∧ BoxAt 26 wr w1.heap.size (metRow (gsum l) (btab l) l.length k) ∧ Below w1.heap.size w1 wr) (fun x _ _ => N - (intOf x).toNat)
    case atStart => exact ⟨0, by omega, rfl, hbx0, hbm0⟩
    case round =>
      clear hbx0 hbm0
      obtain ⟨x, hx, rfl, hbx, hbl⟩ := hrel
      have Hbx := Lib.hid hbx
      have Hbl := Lib.hid hbl
      have hbz := hbl.size
      have hblt := hbx.lt
      by_cases hlt : x < N
      · have hdx : decide (x < N) = true := decide_eq_true hlt
        have hk := Hdv.out x hlt
        have hW0 := Hpos.out x hlt
        have htx := Htp.out x hlt
        obtain ⟨ad, rfl, hab, hx0, hx1⟩ := (Hby'.out.step hbl).cells (x / gsum l) (by rw [Htl.out]; exact hk)
        have hcc := Hok.out _ (List.getElem_mem (show x / gsum l < (btab l).length by rw [Htl.out]; exact hk))
        have hto := rto_any wr _ _ (btab l) (gsum l) x hW0 (by omega) (by omega) (by rw [Htl.out]; omega) (Hby'.out.step hbl) (by rw [Htl.out]; exact hk)
        have hms := metRow_step (gsum l) (btab l) l.length x htx
        have hmg := metRow_get (gsum l) (btab l) l.length x _ htx
        have hml := metC_le (gsum l) (btab l) (toP (gsum l) (btab l) x) x
        generalize metC (gsum l) (btab l) (toP (gsum l) (btab l) x) x = m at *
        generalize toP (gsum l) (btab l) x = to at *
        have Hto := Lib.hid hto
        have Hms := Lib.hid hms
        have Hmg := Lib.hid hmg
        have hq : (x : Int) / (gsum l : Int) = ((x / gsum l : Nat) : Int) := rfl
        have hn0 : ((gsum l : Int) == 0) = false := beq_eq_false_iff_ne.2 (by omega)
        have hn1 : ¬ (gsum l = 0) := by omega
        generalize ((btab l)[x / gsum l]'(by rw [Htl.out]; exact hk)).cut.toNat = cut at *
        generalize ((btab l)[x / gsum l]'(by rw [Htl.out]; exact hk)).oth.toNat = oth at *
        have hotb : oth < l.length := hcc.2
        have hcub : cut ≤ 2147483647 := by omega
        have hc1x : decide (gsum l < cut) = false := decide_eq_false (by omega)
        have hc2x : decide (l.length ≤ oth) = false := decide_eq_false (by omega)
        clear hto hms hmg hbx hbl hcc
        generalize x / gsum l = k at *
        go_wp2_with fail
        refine Hto.out.mono ?_
        rintro _ w2 ⟨rfl, hb2⟩
        have hbx2 := Hbx.out.below hblt hb2
        have hmg2 := hbx2.cell _ _ Hmg.out
        have hmf2 := hbx2.frozen to
        have hb02 := Hbl.out.trans (hb2.mono hbz)
        have Hbx2 := Lib.hid hbx2
        have Hb02 := Lib.hid hb02
        clear hbx2 hb02 hb2 hx0 hx1 Hto
        go_wp2_with fail
        go_roundw
        case rel => exact ⟨x + 1, by omega, by go_num, by rw [← Hms.out]; exact Hbx2.out.put to _, Hb02.out.setCell (p := ⟨w1.heap.size, to, none⟩) (Nat.le_refl _) _⟩
        case measure => simp [intOf]; omega
      · obtain rfl : x = N := by omega
        have hdx : decide (x < x) = false := decide_eq_false hlt
        clear hbx hbl
        generalize wr = w5 at *
        go_wp2_with fail
        go_loopw [10] (fun i wt => ∃ k : Nat, k ≤ l.length ∧ i = .int .i64 k ∧ ∃ q, wt = w5.drewN q) (fun i _ => l.length - (intOf i).toNat)
        case atStart => exact ⟨0, by omega, rfl, 0, rfl⟩
        case round =>
          obtain ⟨k, hk, rfl, q, rfl⟩ := hrel
          by_cases hkl : k < l.length
          · obtain ⟨ad, rfl, hab, hx0, hx1⟩ := (Hl1.out.step Hbl.out).cells k hkl
            have hwt := u32_lt (l[k]).wt
            have hmk := Hmt.out k hkl
            have hm2 : l.length * (l[k]).wt.toNat ≤ 100 * 4294967295 := Nat.mul_le_mul (by omega) (by omega)
            have hmul : IntKind.u64.wrap ((l.length : Int) * ((l[k]).wt.toNat : Int)) = ((l.length * (l[k]).wt.toNat : Nat) : Int) := by
              rw [← Int.natCast_mul, wrap_u64]; omega
            have hy := Hbx.out.cell _ _ (metRow_get (gsum l) (btab l) l.length x k hkl)
            rw [hmk] at hy
            clear hmk
            generalize (l[k]).wt.toNat = wt at *
            generalize l.length * wt = p at *
            go_wp2_with fail
            go_quiet (fail)
            go_wp2_with fail
            go_roundw
            case rel => exact ⟨k + 1, by omega, by go_num, q + nq, by simp⟩
            case measure => simp [intOf]; omega
          · obtain rfl : k = l.length := by omega
            go_wp2_with (go_at_call 56; refine (awake16 _).mono ?_; rintro e wa ⟨rfl, hba⟩)
            go_ret
            exact ⟨rfl, bstep (bstep Hb01.out (bstep Hbl.out (bdrewN (Below.refl _ w5) q))) hba⟩

set_option maxRecDepth 100000 in
theorem lifted (os : Os) (started : os.Started) (H : Type) (enc : TypeId × Value → H) :
    ReturnsInHanded {} Try.checked os 13 .any (Rows.aliasOneSpec.pre6 enc Try.prog Try.f13 Rows.aliasOneRow.domain false) (Rows.aliasOneSpec.post enc Try.prog Try.f13 false true false false) := by
  refine returnsInHanded_of_change (C := Try.checked) own started (by kernel_rfl) Try.func13
    (ChangeSpec.witness6 (enc := enc) (C := Try.checked) false ⟨#[], #[.slice none 0 0], []⟩ 8 (by kernel_rfl) (by kernel_rfl) (by kernel_rfl) (by kernel_rfl)) ?_
  intro W base args ds gs before hval0 hW hcnd _
  have hval : ∀ (j : Nat) t v, Try.f13.params[j]? = some t → args[j]? = some v → Value.okWide Try.prog W .any base t v := hval0
  have hW' := hW
  obtain ⟨p, q, hA0, hV, rfl, hfz, hnd⟩ := hW
  have hA : DataW.TrodAll enc Try.prog W 0 (fun _ => true) true Try.f13.params.toList args.toList ds p := hA0
  rw [Try.params13] at hA hval
  obtain ⟨v0, vs0, d0, ds0, p0, q0, hargs, rfl, rfl, h0, r0⟩ := trodAll_cons hA
  obtain ⟨rfl, rfl, rfl⟩ := trodAll_nil r0
  obtain rfl : args = #[v0] := by cases args; simp_all
  obtain ⟨rfl, rfl⟩ := trodVars_none hV
  have k0 := h0
  have lt0 : ∀ x ∈ p0, x.block < W.heap.size := by obtain ⟨m, hm⟩ := k0; exact DataW.trod_lt m _ _ _ hm
  have i0 := InC.of h0
  obtain ⟨a0, len0, cap0, rfl⟩ := okWide_slice Try.underlying32 (hval 0 32 v0 rfl rfl)
  have j0 : InC W 32 [_] := i0
  clear hA0 hval0
  refine (walk _ W j0).mono fun e W' ⟨he, bel⟩ => ?_
  subst he
  exact ⟨_, rfl, _, _, _, [], _, [], hW', trodAll_mk1 (shut_bool Try.underlying4 _), (trodAll_cons_mk (Below.trod laidOut (by kernel_rfl) (of_decide_eq_true (by kernel_rfl)) k0 bel lt0) trodAll_mk0), rfl, bel.frame _, fun h => by cases h⟩

theorem over : Rows.aliasOneRow.holds Try.pinned (OpenSpec.ofChange Rows.aliasOneSpec) :=
  OpenClaim.holds_of_wide 13 Try.f13 rfl rfl rfl rfl rfl rfl rfl ⟨rfl, rfl, rfl, rfl, rfl⟩ rfl rfl rfl rfl rfl (by kernel_rfl) Try.func13 (by kernel_rfl)
    (of_decide_eq_true (by kernel_rfl)) (by unfold Func.isWrapper; first | (rw [if_pos (by decide +kernel)]; kernel_rfl) | (rw [if_neg (by decide +kernel)]; exact ⟨rfl, rfl⟩))
    (fun os started H enc _ => lifted os started H enc)

theorem proved : Rows.AliasOneSaid := over
#print axioms proved
end Go.Proofs.Yteakeefocnjlhaa.aliasOne
