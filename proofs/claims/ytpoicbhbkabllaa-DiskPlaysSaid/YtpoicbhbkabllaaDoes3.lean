/- palmerlaw06.does, kind 3 (printed by wip/gen/does.py) -/
import Derived.Test.YtpoicbhbkabllaaDoesPre
namespace Go.Proofs.Ytpoicbhbkabllaa
set_option linter.unusedSimpArgs false
set_option linter.unusedVariables false
open Go.RowKit

set_option maxRecDepth 100000 in
set_option maxHeartbeats 6400000 in
theorem does3 (w : World) (B : Nat) (X O : Nat → Prop) (g : Nat) (d : DState) (m : RD) (v : Value) (a : ActS) (hkind : a.kind = 3) (hn : -9223372036854775808 ≤ a.n ∧ a.n ≤ 9223372036854775807) (hkp : a.keep < 18446744073709551616) (htn : a.torn < 18446744073709551616) (hB : B ≤ w.heap.size)
    (hX : ∀ k, X k → k < w.heap.size) (hO : ∀ k, O k → X k) (hd : DK B X w g d) (hv : RDV w O v m) (hr : RelD d m) (hw : d.wt.length ≤ 1000) (hm : m.made.length + m.wait.length ≤ 1000) :
    Calls Try.prog 23 #[.pointer (some ⟨g, 0, none⟩), v, .agg (encA a).toArray] w fun e w' => ∃ v', e = .returned (.tuple #[.bool true, v']) ∧ DoesPost B X O w g (actD d a) (actR m a) v' w' := by
  obtain ⟨ki, ai, an, ac, ash, akp, atn⟩ := a
  simp only at hkind hn hkp htn
  have HV := Lib.hid hv
  obtain ⟨v1, v2, rfl, h1, h2, h3, h4⟩ := hv
  obtain ⟨A1, c1, rfl, hc1, hc2⟩ := h1.form
  obtain ⟨A2, c2, rfl, hd1, hd2⟩ := h2.form
  unfold maxLen at hc2 hd2
  have H1 := Lib.hid h1
  have H2 := Lib.hid h2
  have H3 := Lib.hid h3
  have H4 := Lib.hid h4
  obtain ⟨wa, hwa⟩ : ∃ wa, wa = w.alloc (.cells #[.int .i64 m.count, .bool m.off, .int .i64 m.fuse, .slice A1 m.made.length c1, .slice A2 m.wait.length c2] 42) := ⟨_, rfl⟩
  obtain ⟨wb, hwb⟩ : ∃ wb, wb = wa.alloc (.cells (encA ⟨ki, ai, an, ac, ash, akp, atn⟩).toArray 47) := ⟨_, rfl⟩
  obtain ⟨w4, hwc⟩ : ∃ w4, w4 = wb.alloc (.cells #[.int .i64 0, .bool false, .int .i64 0, .slice none 0 0, .slice none 0 0] 42) := ⟨_, rfl⟩
  have za : wa.heap.size = w.heap.size + 1 := by rw [hwa]; simp
  have zb : wb.heap.size = w.heap.size + 1 + 1 := by rw [hwb]; simp [za]
  have zc : w4.heap.size = w.heap.size + 1 + 1 + 1 := by rw [hwc]; simp [zb]
  have ba := balloc w (.cells #[.int .i64 m.count, .bool m.off, .int .i64 m.fuse, .slice A1 m.made.length c1, .slice A2 m.wait.length c2] 42)
  have bb := balloc wa (.cells (encA ⟨ki, ai, an, ac, ash, akp, atn⟩).toArray 47)
  have bc := balloc wb (.cells #[.int .i64 0, .bool false, .int .i64 0, .slice none 0 0, .slice none 0 0] 42)
  have xa := BoxAt.new_ 42 w (encD m (.slice A1 m.made.length c1) (.slice A2 m.wait.length c2))
  have xb := BoxAt.new_ 47 wa (encA ⟨ki, ai, an, ac, ash, akp, atn⟩)
  have xc := BoxAt.new_ 42 wb zeroDc
  rw [za] at xb
  rw [zb] at xc
  have xa4 : BoxAt 42 w4 w.heap.size (encD m (.slice A1 m.made.length c1) (.slice A2 m.wait.length c2)) := by
    rw [hwc, hwb, hwa]; exact (xa.alloc _).alloc _
  have xb4 : BoxAt 47 w4 (w.heap.size + 1) (encA ⟨ki, ai, an, ac, ash, akp, atn⟩) := by
    rw [hwc, hwb]; exact xb.alloc _
  have xc4 : BoxAt 42 w4 (w.heap.size + 1 + 1) zeroDc := by
    rw [hwc]; exact xc
  rw [← hwa] at ba
  rw [← hwb] at bb
  rw [← hwc] at bc
  have b4 : Below w.heap.size w w4 := (ba.trans (bb.mono (by omega))).trans (bc.mono (by omega))
  have zc2 : w.heap.size + 1 + 1 < w4.heap.size := by omega
  have Xa := Lib.hid xa4
  have Xb := Lib.hid xb4
  have Xc := Lib.hid xc4
  have B4 := Lib.hid b4
  have Hwa := Lib.hid hwa
  have Hwb := Lib.hid hwb
  have Hwc := Lib.hid hwc
  have HX := Lib.hid hX
  have HOX := Lib.hid hO
  have HOs : ∀ k, O k → k < w.heap.size := fun k hk => hX k (hO k hk)
  have HO := Lib.hid HOs
  have hd4 : DK B (fun k => X k ∨ (w.heap.size ≤ k ∧ k < w4.heap.size)) w4 g d := (hd.apart (X' := fun k => X k ∨ (w.heap.size ≤ k ∧ k < w4.heap.size)) (fun k hk => hk.imp id (fun h => h.1))).below_ b4
  have Hd4 := Lib.hid hd4
  have V4 := Lib.hid (HV.out.below b4 HOs)
  have hX4 : ∀ k, (X k ∨ (w.heap.size ≤ k ∧ k < w4.heap.size)) → k < w4.heap.size := fun k hk => by
    rcases hk with hk | hk
    · have := hX k hk; omega
    · exact hk.2
  have HX4 := Lib.hid hX4
  have Hr := Lib.hid hr
  have Hw := Lib.hid hw
  have Hm := Lib.hid hm
  have Hn := Lib.hid hn
  have hkk := xb4.cell 0 _ rfl
  have hki := xb4.cell 1 _ rfl
  have hkn := xb4.cell 2 _ rfl
  have hkc := xb4.cell 3 _ rfl
  have hks := xb4.cell 4 _ rfl
  have hk5 := xb4.cell 5 _ rfl
  have hk6 := xb4.cell 6 _ rfl
  subst hkind
  have e1 : actD d ⟨3, ai, an, ac, ash, akp, atn⟩ = { d with off := true } := rfl
  have e2 : actR m ⟨3, ai, an, ac, ash, akp, atn⟩ = ⟨m.count, true, m.fuse, m.made, m.wait⟩ := rfl
  have E1 := Lib.hid e1
  have E2 := Lib.hid e2
  clear e1 e2
  clear xa xb xc xa4 xb4 xc4 ba bb bc b4 hwa hwb hwc za zb zc h1 h2 h3 h4 hX hO HOs hd hd4 hX4 hr hw hm hn
  go_enter Try.func23, Try.ntmps23
  go_upto_region 1 with (fail)
  rw [← Hwa.out, ← Hwb.out, ← Hwc.out]
  go_wp2_with fail
  refine (doff_dk Hd4.out).mono ?_
  rintro _ w5 ⟨rfl, hd5, hc5⟩
  have hz5 := hc5.size
  have x5 := hc5.box (.inr ⟨Nat.le_refl _, by omega⟩) Xa.out
  have y5 := hc5.box (.inr ⟨by omega, by omega⟩) Xb.out
  have z5 := hc5.box (.inr ⟨by omega, by omega⟩) Xc.out
  have hfz := x5.frozen 1
  have hcz := x5.cell 1 _ rfl
  have hkn5 := y5.cell 2 _ rfl
  have hcs : Chg (fun q => q = w.heap.size) w5 (w5.setCell ⟨w.heap.size, 1, none⟩ (.bool true)) := Chg.set _ _ _ rfl
  have hOO : ∀ k, O k → k < w.heap.size := HO.out
  have hO5 : ∀ k, O k → k < w4.heap.size ∧ ¬ (B ≤ k ∧ ¬ (X k ∨ (w.heap.size ≤ k ∧ k < w4.heap.size))) := fun k hk => ⟨by have := hOO k hk; omega, fun h => h.2 (.inl (HOX.out k hk))⟩
  have hO6 : ∀ k, O k → k < w5.heap.size ∧ ¬ k = w.heap.size := fun k hk => ⟨by have := hOO k hk; omega, by have := hOO k hk; omega⟩
  have r1 := ((H1.out.below B4.out hOO).chg hc5 hO5).chg hcs hO6
  have r2 := ((H2.out.below B4.out hOO).chg hc5 hO5).chg hcs hO6
  have Ve := Lib.hid (RDV.mk' (m := ⟨m.count, true, m.fuse, m.made, m.wait⟩) r1 r2 H3.out H4.out)
  have hXs := HX.out
  have Hde := Lib.hid (hd5.set_ ⟨w.heap.size, 1, none⟩ (.bool true) (.inr (.inr ⟨Nat.le_refl _, by show w.heap.size < _; omega⟩)))
  have hce : DChg B X w (w5.setCell ⟨w.heap.size, 1, none⟩ (.bool true)) := (((Chg.ofBelow B4.out).trans (hc5.more' (fun k hk => .inl hk))).past hcs (fun i hi => .inl (by omega)))
  have Hce := Lib.hid hce
  have Xe := Lib.hid (x5.put 1 (.bool true))
  have Xcf := Lib.hid (z5.other ⟨w.heap.size, 1, none⟩ (.bool true) (by show w.heap.size ≠ w.heap.size + 1 + 1; omega))
  have hze := hcs.size
  have HOe := Lib.hid (fun k (hk : O k) => (⟨by have := hOO k hk; omega, by have := hOO k hk; omega⟩ : k < (w5.setCell ⟨w.heap.size, 1, none⟩ (.bool true)).heap.size ∧ k ≠ w.heap.size + 1 + 1))
  have HXe := Lib.hid (fun k (hk : X k ∨ O k ∨ k = w.heap.size + 1 + 1) => (by
    rcases hk with hk | hk | hk
    · exact .inl hk
    · exact .inl (HOX.out k hk)
    · exact .inr ⟨by omega, by omega⟩ : X k ∨ (w.heap.size ≤ k ∧ k < w4.heap.size)))
  clear x5 y5 z5 hd5 hc5 hcs hce hOO hXs hO5 hO6 r1 r2 hkk hki hkn hkc hks hk5 hk6
  go_wp2_with fail
  generalize w5.setCell ⟨w.heap.size, 1, none⟩ (.bool true) = wE at *
  refine wp_region_tail (ds := [161, 6]) 2 [some 161, some 6]
    [Ph.is (.agg (encD (⟨m.count, true, m.fuse, m.made, m.wait⟩) (.slice A1 m.made.length c1) (.slice A2 m.wait.length c2)).toArray),
      Ph.is (Value.bool true)] rfl rfl (by kernel_rfl) (by kernel_rfl) (by kernel_rfl) ?_ ?_
  · refine ⟨?_, ?_, trivial⟩
    · -- 0: slot 161 := Op.load 42 t4
      refine ob_yes fun f w' hb hp => ?_
      simp [PreOf, factOf, valOf, Ph.is, Ph.by_, Ph.any, Region.binds] at hp
      refine ⟨by simp [Gd, valOf, hp], ?_⟩
      refine mild_val (.agg (encD (⟨m.count, true, m.fuse, m.made, m.wait⟩) (.slice A1 m.made.length c1) (.slice A2 m.wait.length c2)).toArray) ?_ rfl
      have hl := run_loadVar_cells w' ⟨w.heap.size, 0, none⟩ 42 (encD (⟨m.count, true, m.fuse, m.made, m.wait⟩) (.slice A1 m.made.length c1) (.slice A2 m.wait.length c2)) (Xe.out.blw hb).cells Try.underlying42 rfl (by kernel_rfl)
      simp only [execOp, evalF, List.contains_eq_mem, Instr.loadAt, Instr.sureAddr, Sem.run_bind, Sem.run_pure, Result.andThen_ok]
      simp [hp, hl]
    · -- 1: slot 6 := Op.assign (const (Value.bool true))
      refine ob_yes fun f w' hb hp => ?_
      simp [PreOf, factOf, valOf, Ph.is, Ph.by_, Ph.any, Region.binds] at hp
      refine ⟨by simp [Gd, valOf, hp], ?_⟩
      refine mild_val (Value.bool true) ?_ rfl
      simp [execOp, evalF, hp, go_sem]
  · intro f wF hbF hp
    simp only [PostOf, Ph.is, Ph.by_, Ph.any] at hp
    obtain ⟨h0, h1, _⟩ := hp
    simp only [fills, List.foldl_cons, List.foldl_nil, Act.put, List.setIfInBounds_toArray, List.set_cons_zero, List.set_cons_succ, h0, h1]
    clear h0 h1
    simp only [List.drop_succ_cons, List.drop_zero]
    have xf := Xcf.out.blw hbF
    go_wp2_with (refine wpList_store_box rfl 42 42 (.tmp 7) (.tmp 161) rfl (w.heap.size + 1 + 1) zeroDc (encD (⟨m.count, true, m.fuse, m.made, m.wait⟩) (.slice A1 m.made.length c1) (.slice A2 m.wait.length c2)) rfl rfl xf rfl (encD_one _ _ _ _ _ _ _) (by kernel_rfl) ?_; intro hend)
    refine bodyPost_ret (results_tc rfl _ _ (w.heap.size + 1 + 1) (encD (⟨m.count, true, m.fuse, m.made, m.wait⟩) (.slice A1 m.made.length c1) (.slice A2 m.wait.length c2)) rfl (fun j v hj => (hend.cells j v hj : _)) Try.underlying42 rfl (by kernel_rfl)) rfl ?_
    refine ⟨_, rfl, ?_⟩
    rw [E1.out, E2.out]
    exact does_close (O' := O) (g7 := w.heap.size + 1 + 1) (v' := .agg (encD (⟨m.count, true, m.fuse, m.made, m.wait⟩) (.slice A1 m.made.length c1) (.slice A2 m.wait.length c2)).toArray) Ve.out HOe.out (fun k hk => .inl hk) Hde.out HXe.out Hce.out (by omega) hbF _
end Go.Proofs.Ytpoicbhbkabllaa
