/- palmerlaw06.does, kind 4 (printed by wip/gen/does.py) -/
import Derived.Test.YtpoicbhbkabllaaDoesPre
namespace Go.Proofs.Ytpoicbhbkabllaa
set_option linter.unusedSimpArgs false
set_option linter.unusedVariables false
open Go.RowKit

set_option maxRecDepth 100000 in
set_option maxHeartbeats 6400000 in
theorem does4 (w : World) (B : Nat) (X O : Nat → Prop) (g : Nat) (d : DState) (m : RD) (v : Value) (a : ActS) (hkind : a.kind = 4) (hn : -9223372036854775808 ≤ a.n ∧ a.n ≤ 9223372036854775807) (hkp : a.keep < 18446744073709551616) (htn : a.torn < 18446744073709551616) (hB : B ≤ w.heap.size)
    (hX : ∀ k, X k → k < w.heap.size) (hO : ∀ k, O k → X k) (hd : DK B X w g d) (hv : RDV w O v m) (hr : RelD d m) (hw : d.wt.length ≤ 1000) (hm : m.made.length + m.wait.length ≤ 1000) :
    Calls Try.prog 23 #[.pointer (some ⟨g, 0, none⟩), v, .agg (encA a).toArray] w fun e w' => ∃ v', e = .returned (.tuple #[.bool true, v']) ∧ DoesPost B X O w g (actD d a) (actR m a) v' w' := by
  obtain ⟨ki, ai, an, ac, ash, akp, atn⟩ := a
  simp only at hkind hn hkp htn
  have HV := Lib.hid hv
  obtain ⟨v1, v2, rfl, h1, h2, h3, h4⟩ := hv
  obtain ⟨A1, c1, rfl, hc1, hc2⟩ := h1.form
  obtain ⟨A2, c2, rfl, hd1, hd2⟩ := h2.form
  unfold maxLen at hc2 hd2
  have H1 := Lib.hid h1
  have H2 := Lib.hid h2
  have H3 := Lib.hid h3
  have H4 := Lib.hid h4
  obtain ⟨wa, hwa⟩ : ∃ wa, wa = w.alloc (.cells #[.int .i64 m.count, .bool m.off, .int .i64 m.fuse, .slice A1 m.made.length c1, .slice A2 m.wait.length c2] 42) := ⟨_, rfl⟩
  obtain ⟨wb, hwb⟩ : ∃ wb, wb = wa.alloc (.cells (encA ⟨ki, ai, an, ac, ash, akp, atn⟩).toArray 47) := ⟨_, rfl⟩
  obtain ⟨w4, hwc⟩ : ∃ w4, w4 = wb.alloc (.cells #[.int .i64 0, .bool false, .int .i64 0, .slice none 0 0, .slice none 0 0] 42) := ⟨_, rfl⟩
  have za : wa.heap.size = w.heap.size + 1 := by rw [hwa]; simp
  have zb : wb.heap.size = w.heap.size + 1 + 1 := by rw [hwb]; simp [za]
  have zc : w4.heap.size = w.heap.size + 1 + 1 + 1 := by rw [hwc]; simp [zb]
  have ba := balloc w (.cells #[.int .i64 m.count, .bool m.off, .int .i64 m.fuse, .slice A1 m.made.length c1, .slice A2 m.wait.length c2] 42)
  have bb := balloc wa (.cells (encA ⟨ki, ai, an, ac, ash, akp, atn⟩).toArray 47)
  have bc := balloc wb (.cells #[.int .i64 0, .bool false, .int .i64 0, .slice none 0 0, .slice none 0 0] 42)
  have xa := BoxAt.new_ 42 w (encD m (.slice A1 m.made.length c1) (.slice A2 m.wait.length c2))
  have xb := BoxAt.new_ 47 wa (encA ⟨ki, ai, an, ac, ash, akp, atn⟩)
  have xc := BoxAt.new_ 42 wb zeroDc
  rw [za] at xb
  rw [zb] at xc
  have xa4 : BoxAt 42 w4 w.heap.size (encD m (.slice A1 m.made.length c1) (.slice A2 m.wait.length c2)) := by
    rw [hwc, hwb, hwa]; exact (xa.alloc _).alloc _
  have xb4 : BoxAt 47 w4 (w.heap.size + 1) (encA ⟨ki, ai, an, ac, ash, akp, atn⟩) := by
    rw [hwc, hwb]; exact xb.alloc _
  have xc4 : BoxAt 42 w4 (w.heap.size + 1 + 1) zeroDc := by
    rw [hwc]; exact xc
  rw [← hwa] at ba
  rw [← hwb] at bb
  rw [← hwc] at bc
  have b4 : Below w.heap.size w w4 := (ba.trans (bb.mono (by omega))).trans (bc.mono (by omega))
  have zc2 : w.heap.size + 1 + 1 < w4.heap.size := by omega
  have Xa := Lib.hid xa4
  have Xb := Lib.hid xb4
  have Xc := Lib.hid xc4
  have B4 := Lib.hid b4
  have Hwa := Lib.hid hwa
  have Hwb := Lib.hid hwb
  have Hwc := Lib.hid hwc
  have HX := Lib.hid hX
  have HOX := Lib.hid hO
  have HOs : ∀ k, O k → k < w.heap.size := fun k hk => hX k (hO k hk)
  have HO := Lib.hid HOs
  have hd4 : DK B (fun k => X k ∨ (w.heap.size ≤ k ∧ k < w4.heap.size)) w4 g d := (hd.apart (X' := fun k => X k ∨ (w.heap.size ≤ k ∧ k < w4.heap.size)) (fun k hk => hk.imp id (fun h => h.1))).below_ b4
  have Hd4 := Lib.hid hd4
  have V4 := Lib.hid (HV.out.below b4 HOs)
  have hX4 : ∀ k, (X k ∨ (w.heap.size ≤ k ∧ k < w4.heap.size)) → k < w4.heap.size := fun k hk => by
    rcases hk with hk | hk
    · have := hX k hk; omega
    · exact hk.2
  have HX4 := Lib.hid hX4
  have Hr := Lib.hid hr
  have Hw := Lib.hid hw
  have Hm := Lib.hid hm
  have Hn := Lib.hid hn
  have hkk := xb4.cell 0 _ rfl
  have hki := xb4.cell 1 _ rfl
  have hkn := xb4.cell 2 _ rfl
  have hkc := xb4.cell 3 _ rfl
  have hks := xb4.cell 4 _ rfl
  have hk5 := xb4.cell 5 _ rfl
  have hk6 := xb4.cell 6 _ rfl
  subst hkind
  have e1 : actD d ⟨4, ai, an, ac, ash, akp, atn⟩ = backD d akp atn := rfl
  have e2 : actR m ⟨4, ai, an, ac, ash, akp, atn⟩ = backRD m akp atn := rfl
  have E1 := Lib.hid e1
  have E2 := Lib.hid e2
  clear e1 e2
  clear xa xb xc xa4 xb4 xc4 ba bb bc b4 hwa hwb hwc za zb zc h1 h2 h3 h4 hX hO HOs hd hd4 hX4 hr hw hm hn
  go_enter Try.func23, Try.ntmps23
  go_upto_region 1 with (fail)
  rw [← Hwa.out, ← Hwb.out, ← Hwc.out]
  go_wp2_with fail
  refine (dback_dk (keep := akp) (torn := atn) Hd4.out HX4.out (by omega) hkp htn (by have := Hw.out; omega)).mono ?_
  rintro _ w5 ⟨rfl, hd5, hc5⟩
  have hz5 := hc5.size
  have hOO : ∀ k, O k → k < w.heap.size := HO.out
  have hO5 : ∀ k, O k → k < w4.heap.size ∧ ¬ (B ≤ k ∧ ¬ (X k ∨ (w.heap.size ≤ k ∧ k < w4.heap.size))) := fun k hk => ⟨by have := hOO k hk; omega, fun h => h.2 (.inl (HOX.out k hk))⟩
  have hvm := V4.out.chg hc5 hO5
  have x5 := hc5.box (.inr ⟨Nat.le_refl _, by omega⟩) Xa.out
  have y5 := hc5.box (.inr ⟨by omega, by omega⟩) Xb.out
  have z5 := hc5.box (.inr ⟨by omega, by omega⟩) Xc.out
  have X5 := Lib.hid x5
  have X5c := Lib.hid x5.cells
  have Z5 := Lib.hid z5
  have Hd5 := Lib.hid hd5
  have Hc5 := Lib.hid ((Chg.ofBelow B4.out).trans (hc5.more' (X := X) (fun k hk => .inl hk)))
  have hO5s : ∀ k, O k → k < w5.heap.size := fun k hk => by have := hOO k hk; omega
  have hkn5 := y5.cell 2 _ rfl
  have hki5 := y5.cell 1 _ rfl
  have hkc5 := y5.cell 3 _ rfl
  have hk55 := y5.cell 5 _ rfl
  have hk65 := y5.cell 6 _ rfl
  have hmc := rback w5 O _ m akp atn hkp htn hO5s (by have := Hm.out; omega) hvm
  have Hmc := Lib.hid hmc
  have HO5s := Lib.hid hO5s
  clear hmc hd5 hc5 hO5 hvm x5 y5 z5 hOO hO5s hkk hki hkn hkc hks hk5 hk6
  go_wp2_with (refine wpList_load_agg rfl 42 (.tmp 4) rfl ⟨w.heap.size, 0, none⟩ rfl (encD m (.slice A1 m.made.length c1) (.slice A2 m.wait.length c2)) X5c.out Try.underlying42 rfl (by kernel_rfl) ?_)
  refine Hmc.out.mono ?_
  rintro _ w6 ⟨v6, rfl, hv6, hb6⟩
  obtain ⟨u1, u2, rfl, r1, r2, g3, g4⟩ := hv6
  obtain ⟨A7, c7, rfl, _⟩ := r1.form
  obtain ⟨A8, c8, rfl, _⟩ := r2.form
  have hz6 := hb6.size
  have x6 := X5.out.blw hb6
  have z6 := Z5.out.blw hb6
  go_wp2_with (refine wpList_store_box rfl 42 42 (.tmp 4) (.tmp 135) rfl w.heap.size (encD m (.slice A1 m.made.length c1) (.slice A2 m.wait.length c2)) (encD (backRD m akp atn) (.slice A7 (backRD m akp atn).made.length c7) (.slice A8 (backRD m akp atn).wait.length c8)) rfl rfl x6 rfl (encD_one _ _ _ _ _ _ _) (by kernel_rfl) ?_; intro xE)
  obtain ⟨wE, hwE⟩ : ∃ wE, wE = w6.setRow w.heap.size (encD (backRD m akp atn) (.slice A7 (backRD m akp atn).made.length c7) (.slice A8 (backRD m akp atn).wait.length c8)).toArray := ⟨_, rfl⟩
  have hcs : Chg (fun q => q = w.heap.size) w6 wE := by rw [hwE]; exact Chg.ofGrown (gsetRow' w6 w.heap.size _) (fun k e => by injection e with e; exact e.symm)
  have hgE : w6.grownBy wE (some w.heap.size) := by rw [hwE]; exact gsetRow' w6 w.heap.size _
  rw [← hwE] at xE ⊢
  have hzE := hcs.size
  have hOn : ∀ k, Onew O w5 w6 k → k < w6.heap.size ∧ ¬ k = w.heap.size := fun k hk => by
    rcases hk with hk | hk
    · have := HO.out k hk; exact ⟨by omega, by omega⟩
    · exact ⟨hk.2, by have := hk.1; omega⟩
  have Ve := Lib.hid (RDV.mk' (m := backRD m akp atn) (r1.chg hcs hOn) (r2.chg hcs hOn) g3 g4)
  have Hde := Lib.hid (((Hd5.out.apart (X' := fun k => X k ∨ (w.heap.size ≤ k ∧ k < w4.heap.size) ∨ w5.heap.size ≤ k) (fun k hk => by
    rcases hk with hk | hk | hk
    · exact .inl (.inl hk)
    · exact .inl (.inr hk)
    · exact .inr hk)).below_ hb6).grown hgE (fun q e => .inr (.inr (.inl (by injection e with e; omega)))))
  have Hce := Lib.hid ((Hc5.out.trans (Chg.ofBelow hb6)).past hcs (fun i hi => .inl (by omega)))
  have Xe := Lib.hid xE
  have Xcf := Lib.hid (z6.chg hcs (by omega))
  have HOe := Lib.hid (fun k (hk : Onew O w5 w6 k) => (⟨by have := (hOn k hk).1; omega, by
    rcases hk with hk | hk
    · have := HO.out k hk; omega
    · have := hk.1; omega⟩ : k < wE.heap.size ∧ k ≠ w.heap.size + 1 + 1))
  have HXe := Lib.hid (fun k (hk : X k ∨ Onew O w5 w6 k ∨ k = w.heap.size + 1 + 1) => (by
    rcases hk with hk | (hk | hk) | hk
    · exact .inl hk
    · exact .inl (HOX.out k hk)
    · exact .inr (.inr hk.1)
    · exact .inr (.inl ⟨by omega, by omega⟩) : X k ∨ (w.heap.size ≤ k ∧ k < w4.heap.size) ∨ w5.heap.size ≤ k))
  clear xE hOn hb6 r1 r2 x6 z6 hcs hgE hwE
  simp only [Act.put]
  refine wp_region_tail (ds := [161, 6]) 2 [some 161, some 6]
    [Ph.is (.agg (encD (backRD m akp atn) (.slice A7 (backRD m akp atn).made.length c7) (.slice A8 (backRD m akp atn).wait.length c8)).toArray),
      Ph.is (Value.bool true)] rfl rfl (by kernel_rfl) (by kernel_rfl) (by kernel_rfl) ?_ ?_
  · refine ⟨?_, ?_, trivial⟩
    · -- 0: slot 161 := Op.load 42 t4
      refine ob_yes fun f w' hb hp => ?_
      simp [PreOf, factOf, valOf, Ph.is, Ph.by_, Ph.any, Region.binds] at hp
      refine ⟨by simp [Gd, valOf, hp], ?_⟩
      refine mild_val (.agg (encD (backRD m akp atn) (.slice A7 (backRD m akp atn).made.length c7) (.slice A8 (backRD m akp atn).wait.length c8)).toArray) ?_ rfl
      have hl := run_loadVar_cells w' ⟨w.heap.size, 0, none⟩ 42 (encD (backRD m akp atn) (.slice A7 (backRD m akp atn).made.length c7) (.slice A8 (backRD m akp atn).wait.length c8)) (Xe.out.blw hb).cells Try.underlying42 rfl (by kernel_rfl)
      simp only [execOp, evalF, List.contains_eq_mem, Instr.loadAt, Instr.sureAddr, Sem.run_bind, Sem.run_pure, Result.andThen_ok]
      simp [hp, hl]
    · -- 1: slot 6 := Op.assign (const (Value.bool true))
      refine ob_yes fun f w' hb hp => ?_
      simp [PreOf, factOf, valOf, Ph.is, Ph.by_, Ph.any, Region.binds] at hp
      refine ⟨by simp [Gd, valOf, hp], ?_⟩
      refine mild_val (Value.bool true) ?_ rfl
      simp [execOp, evalF, hp, go_sem]
  · intro f wF hbF hp
    simp only [PostOf, Ph.is, Ph.by_, Ph.any] at hp
    obtain ⟨h0, h1, _⟩ := hp
    simp only [fills, List.foldl_cons, List.foldl_nil, Act.put, List.setIfInBounds_toArray, List.set_cons_zero, List.set_cons_succ, h0, h1]
    clear h0 h1
    simp only [List.drop_succ_cons, List.drop_zero]
    have xf := Xcf.out.blw hbF
    go_wp2_with (refine wpList_store_box rfl 42 42 (.tmp 7) (.tmp 161) rfl (w.heap.size + 1 + 1) zeroDc (encD (backRD m akp atn) (.slice A7 (backRD m akp atn).made.length c7) (.slice A8 (backRD m akp atn).wait.length c8)) rfl rfl xf rfl (encD_one _ _ _ _ _ _ _) (by kernel_rfl) ?_; intro hend)
    refine bodyPost_ret (results_tc rfl _ _ (w.heap.size + 1 + 1) (encD (backRD m akp atn) (.slice A7 (backRD m akp atn).made.length c7) (.slice A8 (backRD m akp atn).wait.length c8)) rfl (fun j v hj => (hend.cells j v hj : _)) Try.underlying42 rfl (by kernel_rfl)) rfl ?_
    refine ⟨_, rfl, ?_⟩
    rw [E1.out, E2.out]
    exact does_close (O' := Onew O w5 w6) (g7 := w.heap.size + 1 + 1) (v' := .agg (encD (backRD m akp atn) (.slice A7 (backRD m akp atn).made.length c7) (.slice A8 (backRD m akp atn).wait.length c8)).toArray) Ve.out HOe.out (fun k hk => hk.imp id (fun h => by have := h.1; omega)) Hde.out HXe.out Hce.out (by omega) hbF _
end Go.Proofs.Ytpoicbhbkabllaa
