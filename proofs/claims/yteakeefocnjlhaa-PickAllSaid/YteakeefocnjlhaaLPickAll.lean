/- The law 'PickAll' returns true for every input, and each argument reads behind the call as it read before. No condition. -/
import Derived.Test.YteakeefocnjlhaaRows
import Derived.Test.YteakeefocnjlhaaIn
import Derived.Test.YteakeefocnjlhaaPickOne
import Derived.Test.YteakeefocnjlhaaTo
import Derived.WalkKit
import Derived.ProofKit
import Derived.OpenShut
import Derived.ShutString
import Derived.ChangeOld
import Derived.Below
namespace Go.Proofs.Yteakeefocnjlhaa.pickAll
open Go.Proofs.Yteakeefocnjlhaa
open Go.ChangeShapes Go.WideShapes Go.ChangeAt Go.RowKit
set_option linter.unusedVariables false
set_option linter.unusedSimpArgs false

theorem own : ownKnob Try.prog.godebug = none := by kernel_rfl
theorem laidOut : laidOutB Try.prog = true := by kernel_rfl

def plc (l : List GArc) (k : Nat) : Nat → Nat
  | 0 => 0
  | x + 1 => plc l k x + (if ivalN l x = k then 1 else 0)
theorem plc_le (l : List GArc) (k : Nat) : ∀ x, plc l k x ≤ x
  | 0 => Nat.le_refl _
  | x + 1 => by
    have := plc_le l k x
    rw [plc]; split <;> omega
theorem plc_in (l : List GArc) (k : Nat) (hk : k < l.length) : ∀ x, x ≤ frontAt l l.length → plc l k x = min x (frontAt l (k + 1)) - min x (frontAt l k)
  | 0, _ => by simp [plc]
  | x + 1, hx => by
    have ih := plc_in l k hk x (by omega)
    have hmo := frontAt_mono l (show k ≤ k + 1 by omega)
    rw [plc, ih]
    by_cases h1 : frontAt l k ≤ x ∧ x < frontAt l (k + 1)
    · rw [ivalN_at l x k hk h1.1 h1.2, if_pos rfl]; omega
    · have h2 : ivalN l x ≠ k := fun e => by
        have : ∃ j, j < l.length ∧ frontAt l j ≤ x ∧ x < frontAt l (j + 1) := by
          have : ∀ n, n ≤ l.length → x < frontAt l n → ∃ k, k < n ∧ frontAt l k ≤ x ∧ x < frontAt l (k + 1) := by
            intro n
            induction n with
            | zero => intro _ h; rw [frontAt_zero] at h; omega
            | succ n ih =>
              intro hn h
              rcases Nat.lt_or_ge x (frontAt l n) with h1 | h1
              · obtain ⟨k, h2, h3, h4⟩ := ih (by omega) h1
                exact ⟨k, by omega, h3, h4⟩
              · exact ⟨n, by omega, h1, h⟩
          exact this l.length (Nat.le_refl _) (by omega)
        obtain ⟨j, j1, j2, j3⟩ := this
        rw [ivalN_at l x j j1 j2 j3] at e
        subst e
        exact h1 ⟨j2, j3⟩
      rw [if_neg h2]
      rcases Nat.lt_or_ge x (frontAt l k) with h3 | h3
      · omega
      · have : ¬ x < frontAt l (k + 1) := fun h => h1 ⟨h3, h⟩
        omega
theorem plc_all (l : List GArc) (k : Nat) (hk : k < l.length) : plc l k (gsum l * l.length) = l.length * (l[k]).wt.toNat := by
  have hfs := frontAt_succ l k hk
  have hmo := frontAt_mono l (show k + 1 ≤ l.length by omega)
  rw [← frontAt_all, plc_in l k hk _ (Nat.le_refl _)]
  omega
def plcRow (l : List GArc) (n x : Nat) : List Value := (List.range n).map fun (j : Nat) => Value.int .u64 ((plc l j x : Nat) : Int)
theorem plcRow_len (l : List GArc) (n x : Nat) : (plcRow l n x).length = n := by simp [plcRow]
theorem plcRow_get (l : List GArc) (n x j : Nat) (hj : j < n) : (plcRow l n x)[j]? = some (.int .u64 ((plc l j x : Nat) : Int)) := by simp [plcRow, List.getElem?_range hj]
theorem plcRow_step (l : List GArc) (n x : Nat) (h : ivalN l x < n) : (plcRow l n x).set (ivalN l x) (.int .u64 ((plc l (ivalN l x) x + 1 : Nat) : Int)) = plcRow l n (x + 1) := by
  apply List.ext_getElem?
  intro j
  rcases Nat.lt_or_ge j n with hj | hj
  · rw [plcRow_get l n (x + 1) j hj, List.getElem?_set, plcRow_get l n x j hj, plcRow_len, plc]
    by_cases h1 : ivalN l x = j
    · subst h1; simp [h]
    · rw [if_neg h1, if_neg h1]; rfl
  · rw [List.getElem?_eq_none (by simp [plcRow]; omega), List.getElem?_eq_none (by rw [plcRow_len]; omega)]
theorem plcRow_zero (l : List GArc) (n : Nat) (t : List GCell) (W : Nat) : plcRow l n 0 = cntRow W t n 0 := by simp [plcRow, cntRow, plc, cntK]

set_option maxRecDepth 100000 in
set_option maxHeartbeats 4000000 in
theorem walk (v0 : Value) (w : World) (h0 : InC w 32 [v0]) :
    Calls Try.prog 17 #[v0] w fun e w' => e = .returned (.bool true) ∧ Below w.heap.size w w' := by
  obtain ⟨l, hl⟩ := h0.arcs
  clear h0
  obtain ⟨A, c, rfl, hc1, hc2⟩ := hl.form
  unfold maxLen at hc2
  by_cases hb1 : 30 < l.length
  · go_enter Try.func17, Try.ntmps17
    go_wp2_with (go_at_call 45; refine (awake17 _).mono ?_; rintro e wa ⟨rfl, hba⟩)
    go_ret
    exact ⟨rfl, hba⟩
  by_cases hb2 : l.length = 0
  · have hd : (l.length == 0) = true := by simpa using hb2
    have hd1 : ((l.length : Int) == 0) = true := by simp [hb2]
    clear hb2
    go_enter Try.func17, Try.ntmps17
    go_wp2_with (go_at_call 45; refine (awake17 _).mono ?_; rintro e wa ⟨rfl, hba⟩)
    go_ret
    exact ⟨rfl, hba⟩
  have hd : (l.length == 0) = false := beq_eq_false_iff_ne.2 (by omega)
  have hd1 : ((l.length : Int) == 0) = false := beq_eq_false_iff_ne.2 (by omega)
  have hmay := rgmay_any w _ _ l (by omega) hl
  have Hb2 := Lib.hid hb2
  clear hb2
  cases hg : gmay l with
  | false =>
    rw [hg] at hmay
    go_enter Try.func17, Try.ntmps17
    go_wp2_with fail
    refine hmay.mono ?_
    rintro _ _ ⟨rfl, q, rfl⟩
    go_wp2_with (go_at_call 45; refine (awake17 _).mono ?_; rintro e wa ⟨rfl, hba⟩)
    go_ret
    exact ⟨rfl, bstep (bdrewN (Below.refl _ _) q) hba⟩
  | true =>
    rw [hg] at hmay
    have hnb : nbrs l = true := by unfold nbrs; rw [hg, decide_eq_true (by have := Hb2.out; omega)]; rfl
    have hsum := gmay_sum hg
    have hpt : ptotal l = gsum l * l.length := by unfold ptotal; rw [if_pos hg]
    have hmt := fun k hk => met_btab l (by omega) hsum k hk
    have hpl := fun k hk => plc_all l k hk
    have hmy := btab_may l (by omega) hnb hsum
    have hpk := fun x hx => @palias_ok l (btab l) hmy x hx
    have hin := fun y hy => @ivalN_in l y hy
    have htl := btab_len l (by omega) hsum
    have hmz := metRow_zero (gsum l) (btab l) l.length []
    have hpz := plcRow_zero l l.length [] (gsum l)
    have hmk := make64 [] (gsum l) l.length (by omega)
    have hpm := Nat.mul_le_mul hsum (show l.length ≤ 30 by omega)
    rw [← hpt] at hmt hpl hpm
    have Hmt := Lib.hid hmt
    have Hpl := Lib.hid hpl
    have Hpk := Lib.hid hpk
    have Hin := Lib.hid hin
    have Hnb := Lib.hid hnb
    have Hl := Lib.hid hl
    have Htl := Lib.hid htl
    have Hmz := Lib.hid hmz
    have Hpz := Lib.hid hpz
    have Hpt := Lib.hid hpt
    have hrt := fun w' B h => rtotal_any w' B (.slice A l.length c) l (by omega) h
    have Hrt := Lib.hid hrt
    have hiv : ∀ y, y < ptotal l → ival l y = (ivalN l y, true) := fun y hy => by unfold ival; rw [if_pos hy]
    have Hiv := Lib.hid hiv
    clear hg hnb hmt hpl hmy hpk hin hl htl hmz hpz hpt hrt hiv
    generalize ptotal l = N at *
    go_enter Try.func17, Try.ntmps17
    go_wp2_with fail
    refine hmay.mono ?_
    rintro _ _ ⟨rfl, q, rfl⟩
    have hb0 := bdrewN (Below.refl w.heap.size w) q
    have Hb0 := Lib.hid hb0
    clear hb0 hmay
    go_wp2_with fail
    refine (rgsum_any _ _ _ l (by omega) (Hl.out.step Hb0.out)).mono ?_
    rintro _ _ ⟨rfl, rfl⟩
    by_cases hw1 : 1000 < gsum l
    · go_wp2_with (go_at_call 45; refine (awake17 _).mono ?_; rintro e wa ⟨rfl, hba⟩)
      go_ret
      exact ⟨rfl, bstep Hb0.out hba⟩
    go_wp2_with fail
    refine (Hrt.out _ _ (Hl.out.step Hb0.out)).mono ?_
    rintro _ _ ⟨rfl, q2, rfl⟩
    have Hb1 := Lib.hid (bdrewN (Below.refl w.heap.size w) (q + q2))
    by_cases hw2 : 1000 < N
    · go_wp2_with (go_at_call 45; refine (awake17 _).mono ?_; rintro e wa ⟨rfl, hba⟩)
      go_ret
      exact ⟨rfl, bstep Hb1.out hba⟩
    go_wp2_with fail
    refine (build_any (w.drewN (q + q2)) _ _ l (by omega) (Hl.out.step Hb1.out) (Nat.le_refl _) Hnb.out).mono ?_
    rintro _ w1 ⟨vo, rfl, hown, hb1'⟩
    have hb01 := bstep Hb1.out hb1'
    have hby := hown.byC
    have Hby := Lib.hid hby
    have Hb01 := Lib.hid hb01
    have Hl1 := Lib.hid (Hl.out.step hb01)
    obtain ⟨A2, c2, rfl, hd1', hd2'⟩ := hby.form
    rw [Htl.out] at hd1'
    have Hby' : Hid (ByC w1 w1.heap.size (.slice A2 l.length c2) (btab l)) := by have := Hby.out; rw [Htl.out] at this; exact this
    rw [Htl.out]
    unfold maxLen at hd2'
    clear hown hby hb01 hb1' Hl Hby Hb0 Hb1
    go_wp2_with fail
    have hbx0 := (BoxAt.new_ 26 w1 (cntRow (gsum l) [] l.length 0)).alloc (.cells (cntRow (gsum l) [] l.length 0).toArray 26)
    have hby0 := BoxAt.new_ 26 (w1.alloc (.cells (cntRow (gsum l) [] l.length 0).toArray 26)) (cntRow (gsum l) [] l.length 0)
    rw [World.size_alloc] at hby0
    have hbm0 := bstep (balloc w1 (.cells (cntRow (gsum l) [] l.length 0).toArray 26)) (balloc _ (.cells (cntRow (gsum l) [] l.length 0).toArray 26))
    have hsz0 : ((w1.alloc (.cells (cntRow (gsum l) [] l.length 0).toArray 26)).alloc (.cells (cntRow (gsum l) [] l.length 0).toArray 26)).heap.size = w1.heap.size + 2 := by simp
    clear hmk
    generalize ((w1.alloc (.cells (cntRow (gsum l) [] l.length 0).toArray 26)).alloc (.cells (cntRow (gsum l) [] l.length 0).toArray 26)) = w2 at *
    rw [← Hmz.out] at hbx0
    rw [← Hpz.out] at hby0
    have Hbx0 := Lib.hid hbx0
    have Hby0 := Lib.hid hby0
    have Hbm0 := Lib.hid hbm0
    clear hbx0 hby0 hbm0
    go_loopw [7] (fun x wr => ∃ k : Nat, k ≤ N ∧ x = .int .u64 k ∧ BoxAt 26 wr w1.heap.size (metRow (gsum l) (btab l) l.length k) ∧ BoxAt 26 wr (w1.heap.size + 1) (plcRow l l.length k) ∧ Below w1.heap.size w1 wr ∧ w1.heap.size + 2 ≤ wr.heap.size) (fun x _ => N - (intOf x).toNat)
    case atStart => exact ⟨0, by omega, rfl, Hbx0.out, Hby0.out, Hbm0.out, by omega⟩
    case round =>
      clear Hbx0 Hby0 Hbm0
      obtain ⟨x, hx, rfl, hbx, hbp, hbl, hsz⟩ := hrel
      have Hbx := Lib.hid hbx
      have Hbp := Lib.hid hbp
      have Hbl := Lib.hid hbl
      have hbz := hbl.size
      clear hbx hbp hbl
      go_wp2_with fail
      refine (Hrt.out _ _ (Hl1.out.step Hbl.out)).mono ?_
      rintro _ _ ⟨rfl, q3, rfl⟩
      have Hbl3 := Lib.hid (Hbl.out.trans ((bdrewN (Below.refl _ wr) q3).mono hbz))
      by_cases hlt : x < N
      · have hdx : decide (x < N) = true := decide_eq_true hlt
        obtain ⟨hpk1, hpk2⟩ := Hpk.out x hlt
        obtain ⟨hin1, hin2, hin3⟩ := Hin.out x hlt
        have hpa := palias_any (wr.drewN q3) _ _ (.slice A l.length c) (.slice A2 l.length c2) l (btab l) x (by omega) (by omega) (by rw [Htl.out]; omega) (Hl1.out.step Hbl3.out) (Hby'.out.step Hbl3.out) (Nat.le_refl _) (Nat.le_refl _)
        rw [hpk1] at hpa
        have hms := metRow_step (gsum l) (btab l) l.length x hpk2
        have hmg := metRow_get (gsum l) (btab l) l.length x _ hpk2
        have hml := metC_le (gsum l) (btab l) (toP (gsum l) (btab l) x) x
        have hps := plcRow_step l l.length x hin1
        have hpg := plcRow_get l l.length x _ hin1
        have hpl := plc_le l (ivalN l x) x
        have hivx := Hiv.out x hlt
        generalize metC (gsum l) (btab l) (toP (gsum l) (btab l) x) x = m at *
        generalize toP (gsum l) (btab l) x = ta at *
        generalize plc l (ivalN l x) x = p at *
        generalize ivalN l x = tb at *
        have Hpa := Lib.hid hpa
        have Hms := Lib.hid hms
        have Hmg := Lib.hid hmg
        have Hps := Lib.hid hps
        have Hpg := Lib.hid hpg
        have Hivx := Lib.hid hivx
        have hge1 : decide (l.length ≤ ta) = false := decide_eq_false (by omega)
        have hge2 : decide (l.length ≤ tb) = false := decide_eq_false (by omega)
        clear hpa hms hmg hps hpg hivx hpk1 hin2 hin3
        go_wp2_with fail
        refine Hpa.out.mono ?_
        rintro _ w3 ⟨rfl, hb3⟩
        have hb03 := bstep Hbl3.out hb3
        have hiv3 := interval_any w3 _ _ l x (by omega) (by omega) (Hl1.out.step hb03) (Nat.le_refl _)
        rw [Hivx.out] at hiv3
        have Hiv3 := Lib.hid hiv3
        have Hb03 := Lib.hid hb03
        have Hb3 := Lib.hid hb3
        clear hiv3 hb03 hb3
        go_wp2_with fail
        refine Hiv3.out.mono ?_
        rintro _ w4 ⟨rfl, hb4⟩
        have hbr4 : Below wr.heap.size wr w4 := bstep (bstep (bdrewN (Below.refl _ wr) q3) Hb3.out) hb4
        have hbx4 := Hbx.out.below (by omega) hbr4
        have hbp4 := Hbp.out.below (by omega) hbr4
        have hb04 := Hbl.out.trans (hbr4.mono hbz)
        have hsz4 := hbr4.size
        have hmg4 := hbx4.cell _ _ Hmg.out
        have hmf4 := hbx4.frozen ta
        have hpg4 := hbp4.cell _ _ Hpg.out
        have hpf4 := hbp4.frozen tb
        have Hbx4 := Lib.hid hbx4
        have Hbp4 := Lib.hid hbp4
        have Hb04 := Lib.hid hb04
        clear hbx4 hbp4 hb04 hbr4 hb4 Hiv3 Hpa
        go_wp2_with fail
        go_roundw
        case rel =>
          refine ⟨x + 1, by omega, by go_num, ?_, ?_, (Hb04.out.setCell (p := ⟨w1.heap.size, ta, none⟩) (Nat.le_refl _) _).setCell (p := ⟨w1.heap.size + 1, tb, none⟩) (by show w1.heap.size ≤ w1.heap.size + 1; omega) _, by simp [World.setCell]; omega⟩
          · rw [← Hms.out]; exact (Hbx4.out.put ta _).other _ _ (by show w1.heap.size + 1 ≠ w1.heap.size; omega)
          · rw [← Hps.out]; exact (Hbp4.out.other _ _ (by show w1.heap.size ≠ w1.heap.size + 1; omega)).put tb _
        case measure => simp [intOf]; omega
      · obtain rfl : x = N := by omega
        have hdx : decide (x < x) = false := decide_eq_false hlt
        have hq3 : Below w1.heap.size w1 (wr.drewN q3) := Hbl3.out
        have hbx5 : BoxAt 26 (wr.drewN q3) w1.heap.size (metRow (gsum l) (btab l) l.length x) := Hbx.out
        have hbp5 : BoxAt 26 (wr.drewN q3) (w1.heap.size + 1) (plcRow l l.length x) := Hbp.out
        have hsz5 : (wr.drewN q3).heap.size = wr.heap.size := rfl
        have Hbx5 := Lib.hid hbx5
        have Hbp5 := Lib.hid hbp5
        clear Hbx Hbp Hbl Hbl3 hbx5 hbp5
        generalize wr.drewN q3 = w5 at *
        go_wp2_with fail
        go_loopw [12] (fun i wt => ∃ k : Nat, k ≤ l.length ∧ i = .int .i64 k ∧ ∃ q, wt = w5.drewN q) (fun i _ => l.length - (intOf i).toNat)
        case atStart => exact ⟨0, by omega, rfl, 0, rfl⟩
        case round =>
          obtain ⟨k, hk, rfl, q, rfl⟩ := hrel
          by_cases hkl : k < l.length
          · obtain ⟨ad, rfl, hab, hx0, hx1⟩ := (Hl1.out.step hq3).cells k hkl
            have hwt := u32_lt (l[k]).wt
            have hmk := Hmt.out k hkl
            have hpk := Hpl.out k hkl
            have hm2 : l.length * (l[k]).wt.toNat ≤ 100 * 4294967295 := Nat.mul_le_mul (by omega) (by omega)
            have hmul : IntKind.u64.wrap ((l.length : Int) * ((l[k]).wt.toNat : Int)) = ((l.length * (l[k]).wt.toNat : Nat) : Int) := by
              rw [← Int.natCast_mul, wrap_u64]; omega
            have hy := Hbx5.out.cell _ _ (metRow_get (gsum l) (btab l) l.length x k hkl)
            have hz := Hbp5.out.cell _ _ (plcRow_get l l.length x k hkl)
            rw [hmk] at hy
            rw [hpk] at hz
            clear hmk hpk
            generalize (l[k]).wt.toNat = wt at *
            generalize l.length * wt = p at *
            go_wp2_with fail
            go_quiet (fail)
            go_wp2_with fail
            go_roundw
            case rel => exact ⟨k + 1, by omega, by go_num, q + nq, by simp⟩
            case measure => simp [intOf]; omega
          · obtain rfl : k = l.length := by omega
            go_wp2_with (go_at_call 45; refine (awake17 _).mono ?_; rintro e wa ⟨rfl, hba⟩)
            go_ret
            exact ⟨rfl, bstep (bstep Hb01.out (hq3.trans ((bdrewN (Below.refl _ w5) q).mono (by omega)))) hba⟩

set_option maxRecDepth 100000 in
theorem lifted (os : Os) (started : os.Started) (H : Type) (enc : TypeId × Value → H) :
    ReturnsInHanded {} Try.checked os 17 .any (Rows.pickAllSpec.pre6 enc Try.prog Try.f17 Rows.pickAllRow.domain false) (Rows.pickAllSpec.post enc Try.prog Try.f17 false true false false) := by
  refine returnsInHanded_of_change (C := Try.checked) own started (by kernel_rfl) Try.func17
    (ChangeSpec.witness6 (enc := enc) (C := Try.checked) false ⟨#[], #[.slice none 0 0], []⟩ 8 (by kernel_rfl) (by kernel_rfl) (by kernel_rfl) (by kernel_rfl)) ?_
  intro W base args ds gs before hval0 hW hcnd _
  have hval : ∀ (j : Nat) t v, Try.f17.params[j]? = some t → args[j]? = some v → Value.okWide Try.prog W .any base t v := hval0
  have hW' := hW
  obtain ⟨p, q, hA0, hV, rfl, hfz, hnd⟩ := hW
  have hA : DataW.TrodAll enc Try.prog W 0 (fun _ => true) true Try.f17.params.toList args.toList ds p := hA0
  rw [Try.params17] at hA hval
  obtain ⟨v0, vs0, d0, ds0, p0, q0, hargs, rfl, rfl, h0, r0⟩ := trodAll_cons hA
  obtain ⟨rfl, rfl, rfl⟩ := trodAll_nil r0
  obtain rfl : args = #[v0] := by cases args; simp_all
  obtain ⟨rfl, rfl⟩ := trodVars_none hV
  have k0 := h0
  have lt0 : ∀ x ∈ p0, x.block < W.heap.size := by obtain ⟨m, hm⟩ := k0; exact DataW.trod_lt m _ _ _ hm
  have i0 := InC.of h0
  obtain ⟨a0, len0, cap0, rfl⟩ := okWide_slice Try.underlying32 (hval 0 32 v0 rfl rfl)
  have j0 : InC W 32 [_] := i0
  clear hA0 hval0
  refine (walk _ W j0).mono fun e W' ⟨he, bel⟩ => ?_
  subst he
  exact ⟨_, rfl, _, _, _, [], _, [], hW', trodAll_mk1 (shut_bool Try.underlying4 _), (trodAll_cons_mk (Below.trod laidOut (by kernel_rfl) (of_decide_eq_true (by kernel_rfl)) k0 bel lt0) trodAll_mk0), rfl, bel.frame _, fun h => by cases h⟩

theorem over : Rows.pickAllRow.holds Try.pinned (OpenSpec.ofChange Rows.pickAllSpec) :=
  OpenClaim.holds_of_wide 17 Try.f17 rfl rfl rfl rfl rfl rfl rfl ⟨rfl, rfl, rfl, rfl, rfl⟩ rfl rfl rfl rfl rfl (by kernel_rfl) Try.func17 (by kernel_rfl)
    (of_decide_eq_true (by kernel_rfl)) (by unfold Func.isWrapper; first | (rw [if_pos (by decide +kernel)]; kernel_rfl) | (rw [if_neg (by decide +kernel)]; exact ⟨rfl, rfl⟩))
    (fun os started H enc _ => lifted os started H enc)

theorem proved : Rows.PickAllSaid := over
#print axioms proved
end Go.Proofs.Yteakeefocnjlhaa.pickAll
