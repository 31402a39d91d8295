/- palmerlaw06.does, kind 0 (printed by wip/gen/does.py) -/
import Derived.Test.YtpoicbhbkabllaaDoesPre
namespace Go.Proofs.Ytpoicbhbkabllaa
set_option linter.unusedSimpArgs false
set_option linter.unusedVariables false
open Go.RowKit

set_option maxRecDepth 100000 in
set_option maxHeartbeats 6400000 in
theorem does0 (w : World) (B : Nat) (X O : Nat → Prop) (g : Nat) (d : DState) (m : RD) (v : Value) (a : ActS) (hkind : a.kind = 0) (hn : -9223372036854775808 ≤ a.n ∧ a.n ≤ 9223372036854775807) (hkp : a.keep < 18446744073709551616) (htn : a.torn < 18446744073709551616) (hB : B ≤ w.heap.size)
    (hX : ∀ k, X k → k < w.heap.size) (hO : ∀ k, O k → X k) (hd : DK B X w g d) (hv : RDV w O v m) (hr : RelD d m) (hw : d.wt.length ≤ 1000) (hm : m.made.length + m.wait.length ≤ 1000) :
    Calls Try.prog 23 #[.pointer (some ⟨g, 0, none⟩), v, .agg (encA a).toArray] w fun e w' => ∃ v', e = .returned (.tuple #[.bool true, v']) ∧ DoesPost B X O w g (actD d a) (actR m a) v' w' := by
  obtain ⟨ki, ai, an, ac, ash, akp, atn⟩ := a
  simp only at hkind hn hkp htn
  have HV := Lib.hid hv
  obtain ⟨v1, v2, rfl, h1, h2, h3, h4⟩ := hv
  obtain ⟨A1, c1, rfl, hc1, hc2⟩ := h1.form
  obtain ⟨A2, c2, rfl, hd1, hd2⟩ := h2.form
  unfold maxLen at hc2 hd2
  have H1 := Lib.hid h1
  have H2 := Lib.hid h2
  have H3 := Lib.hid h3
  have H4 := Lib.hid h4
  obtain ⟨wa, hwa⟩ : ∃ wa, wa = w.alloc (.cells #[.int .i64 m.count, .bool m.off, .int .i64 m.fuse, .slice A1 m.made.length c1, .slice A2 m.wait.length c2] 42) := ⟨_, rfl⟩
  obtain ⟨wb, hwb⟩ : ∃ wb, wb = wa.alloc (.cells (encA ⟨ki, ai, an, ac, ash, akp, atn⟩).toArray 47) := ⟨_, rfl⟩
  obtain ⟨w4, hwc⟩ : ∃ w4, w4 = wb.alloc (.cells #[.int .i64 0, .bool false, .int .i64 0, .slice none 0 0, .slice none 0 0] 42) := ⟨_, rfl⟩
  have za : wa.heap.size = w.heap.size + 1 := by rw [hwa]; simp
  have zb : wb.heap.size = w.heap.size + 1 + 1 := by rw [hwb]; simp [za]
  have zc : w4.heap.size = w.heap.size + 1 + 1 + 1 := by rw [hwc]; simp [zb]
  have ba := balloc w (.cells #[.int .i64 m.count, .bool m.off, .int .i64 m.fuse, .slice A1 m.made.length c1, .slice A2 m.wait.length c2] 42)
  have bb := balloc wa (.cells (encA ⟨ki, ai, an, ac, ash, akp, atn⟩).toArray 47)
  have bc := balloc wb (.cells #[.int .i64 0, .bool false, .int .i64 0, .slice none 0 0, .slice none 0 0] 42)
  have xa := BoxAt.new_ 42 w (encD m (.slice A1 m.made.length c1) (.slice A2 m.wait.length c2))
  have xb := BoxAt.new_ 47 wa (encA ⟨ki, ai, an, ac, ash, akp, atn⟩)
  have xc := BoxAt.new_ 42 wb zeroDc
  rw [za] at xb
  rw [zb] at xc
  have xa4 : BoxAt 42 w4 w.heap.size (encD m (.slice A1 m.made.length c1) (.slice A2 m.wait.length c2)) := by
    rw [hwc, hwb, hwa]; exact (xa.alloc _).alloc _
  have xb4 : BoxAt 47 w4 (w.heap.size + 1) (encA ⟨ki, ai, an, ac, ash, akp, atn⟩) := by
    rw [hwc, hwb]; exact xb.alloc _
  have xc4 : BoxAt 42 w4 (w.heap.size + 1 + 1) zeroDc := by
    rw [hwc]; exact xc
  rw [← hwa] at ba
  rw [← hwb] at bb
  rw [← hwc] at bc
  have b4 : Below w.heap.size w w4 := (ba.trans (bb.mono (by omega))).trans (bc.mono (by omega))
  have zc2 : w.heap.size + 1 + 1 < w4.heap.size := by omega
  have Xa := Lib.hid xa4
  have Xb := Lib.hid xb4
  have Xc := Lib.hid xc4
  have B4 := Lib.hid b4
  have Hwa := Lib.hid hwa
  have Hwb := Lib.hid hwb
  have Hwc := Lib.hid hwc
  have HX := Lib.hid hX
  have HOX := Lib.hid hO
  have HOs : ∀ k, O k → k < w.heap.size := fun k hk => hX k (hO k hk)
  have HO := Lib.hid HOs
  have hd4 : DK B (fun k => X k ∨ (w.heap.size ≤ k ∧ k < w4.heap.size)) w4 g d := (hd.apart (X' := fun k => X k ∨ (w.heap.size ≤ k ∧ k < w4.heap.size)) (fun k hk => hk.imp id (fun h => h.1))).below_ b4
  have Hd4 := Lib.hid hd4
  have V4 := Lib.hid (HV.out.below b4 HOs)
  have hX4 : ∀ k, (X k ∨ (w.heap.size ≤ k ∧ k < w4.heap.size)) → k < w4.heap.size := fun k hk => by
    rcases hk with hk | hk
    · have := hX k hk; omega
    · exact hk.2
  have HX4 := Lib.hid hX4
  have Hr := Lib.hid hr
  have Hw := Lib.hid hw
  have Hm := Lib.hid hm
  have Hn := Lib.hid hn
  have hkk := xb4.cell 0 _ rfl
  have hki := xb4.cell 1 _ rfl
  have hkn := xb4.cell 2 _ rfl
  have hkc := xb4.cell 3 _ rfl
  have hks := xb4.cell 4 _ rfl
  have hk5 := xb4.cell 5 _ rfl
  have hk6 := xb4.cell 6 _ rfl
  subst hkind
  have e1 : actD d ⟨0, ai, an, ac, ash, akp, atn⟩ = writeD d ai (filledL ac ash) := rfl
  have e2 : actR m ⟨0, ai, an, ac, ash, akp, atn⟩ = writeRD m ai (filledL ac ash) := rfl
  have E1 := Lib.hid e1
  have E2 := Lib.hid e2
  clear e1 e2
  clear xa xb xc xa4 xb4 xc4 ba bb bc b4 hwa hwb hwc za zb zc h1 h2 h3 h4 hX hO HOs hd hd4 hX4 hr hw hm hn
  go_enter Try.func23, Try.ntmps23
  go_upto_region 1 with (fail)
  rw [← Hwa.out, ← Hwb.out, ← Hwc.out]
  go_wp2_with fail
  refine (filled_any _ _ _).mono ?_
  rintro _ w5 ⟨vb, rfl, hf5, hb5⟩
  have hz5 := hb5.size
  have hOO : ∀ k, O k → k < w.heap.size := HO.out
  have hd5 := (Hd4.out.apart (X' := fun k => X k ∨ (w.heap.size ≤ k ∧ k < w5.heap.size)) (fun k hk => by
    rcases hk with hk | hk
    · exact .inl (.inl hk)
    · rcases Nat.lt_or_ge k w4.heap.size with h | h
      · exact .inl (.inr ⟨hk.1, h⟩)
      · exact .inr h)).below_ hb5
  have hX5 : ∀ k, (X k ∨ (w.heap.size ≤ k ∧ k < w5.heap.size)) → k < w5.heap.size := fun k hk => by
    rcases hk with hk | hk
    · have := HX.out k hk; omega
    · exact hk.2
  have F5 := Lib.hid hf5
  have B5 := Lib.hid (B4.out.trans (hb5.mono (by omega)))
  have Xa5 := Lib.hid (Xa.out.blw hb5)
  have xb5 := Xb.out.blw hb5
  have Xb5 := Lib.hid xb5
  have Xc5 := Lib.hid (Xc.out.blw hb5)
  have V5 := Lib.hid (V4.out.below hb5 (fun k hk => by have := hOO k hk; omega))
  have hki5 := xb5.cell 1 _ rfl
  have hln := filledL_le ac ash
  have hwr := dwrite_dk (i := ai) hd5 hX5 (by omega) (by have := Hw.out; omega) hf5.by_ (fun q hq => .inr (.inr (by have := hf5.blk q hq; exact ⟨by omega, by omega⟩)))
  have Hwr := Lib.hid hwr
  obtain ⟨A9, c9, rfl, q9, q9'⟩ := hf5.form
  unfold maxLen at q9'
  clear hf5 hb5 hd5 hX5 xb5 hwr hkk hki hkn hkc hks hk5 hk6 Xa Xb Xc V4 Hd4 HX4 hOO
  have hee := rel_writeE Hr.out ai (filledL ac ash)
  have Hee := Lib.hid hee
  clear hee
  go_wp2_with fail
  refine Hwr.out.mono ?_
  rintro _ w6 ⟨rfl, hd6, hc6⟩
  have hz6 := hc6.size
  have hOO : ∀ k, O k → k < w.heap.size := HO.out
  have hO6 : ∀ k, O k → k < w5.heap.size ∧ ¬ (B ≤ k ∧ ¬ (X k ∨ (w.heap.size ≤ k ∧ k < w5.heap.size))) := fun k hk => ⟨by have := hOO k hk; omega, fun h => h.2 (.inl (HOX.out k hk))⟩
  have hvm := V5.out.chg hc6 hO6
  have x6 := hc6.box (.inr ⟨Nat.le_refl _, by omega⟩) Xa5.out
  have y6 := hc6.box (.inr ⟨by omega, by omega⟩) Xb5.out
  have z6 := hc6.box (.inr ⟨by omega, by omega⟩) Xc5.out
  have f6 : Fresh w4.heap.size w6 (.slice A9 (filledL ac ash).length c9) (filledL ac ash) := F5.out.chg hc6 (fun q hq h => h.2 (.inr (by have := F5.out.blk q hq; exact ⟨by omega, by omega⟩)))
  have hfb := F5.out.blk
  have Hfb := Lib.hid hfb
  have F6 := Lib.hid f6
  have hcv := conv8 f6.by_
  have X6c := Lib.hid x6.cells
  have Z6 := Lib.hid z6
  have Hd6 := Lib.hid hd6
  have Hc6 := Lib.hid ((Chg.ofBelow B5.out).trans (hc6.more' (X := X) (fun k hk => .inl hk)))
  have hO6s : ∀ k, O k → k < w6.heap.size := fun k hk => by have := hOO k hk; omega
  have hki6 := y6.cell 1 _ rfl
  have hmc := rwrite w6 O _ m ai (filledL ac ash) hO6s (by have := Hm.out; omega) (by have := Hm.out; omega) (by unfold maxLen; omega) hvm
  rw [Hee.out] at hmc
  have Hmc := Lib.hid hmc
  clear hmc hd6 hc6 hO6 hvm x6 y6 z6 hOO hO6s hki5 f6 hfb
  go_wp2_with (refine wpList_load_agg rfl 42 (.tmp 4) rfl ⟨w.heap.size, 0, none⟩ rfl (encD m (.slice A1 m.made.length c1) (.slice A2 m.wait.length c2)) X6c.out Try.underlying42 rfl (by kernel_rfl) ?_)
  refine Hmc.out.mono ?_
  rintro _ w7 ⟨v6, rfl, hv6, hb7⟩
  obtain ⟨u1, u2, rfl, r1, r2, g3, g4⟩ := hv6
  obtain ⟨A7, c7, rfl, _⟩ := r1.form
  obtain ⟨A8, c8, rfl, _⟩ := r2.form
  have hz7 := hb7.size
  obtain ⟨w8, hw8⟩ : ∃ w8, w8 = w7.alloc (.cells (encD (writeRD m ai (filledL ac ash)) (.slice A7 (writeRD m ai (filledL ac ash)).made.length c7) (.slice A8 (writeRD m ai (filledL ac ash)).wait.length c8)).toArray 42) := ⟨_, rfl⟩
  have hb8 : Below w7.heap.size w7 w8 := by rw [hw8]; exact balloc w7 _
  have hz8 : w7.heap.size < w8.heap.size := by rw [hw8]; simp
  have x8 : BoxAt 42 w8 w7.heap.size (encD (writeRD m ai (filledL ac ash)) (.slice A7 (writeRD m ai (filledL ac ash)).made.length c7) (.slice A8 (writeRD m ai (filledL ac ash)).wait.length c8)) := by rw [hw8]; exact BoxAt.new_ _ _ _
  have hOn : ∀ k, Onew O w6 w7 k → k < w7.heap.size := fun k hk => by
    rcases hk with hk | hk
    · have := HO.out k hk; omega
    · exact hk.2
  have V8' := Lib.hid (RDV.mk' (m := writeRD m ai (filledL ac ash)) (r1.below hb8 hOn) (r2.below hb8 hOn) g3 g4)
  have hb68 := hb7.trans (hb8.mono hz7)
  have Hd8 := Lib.hid ((Hd6.out.apart (X' := fun k => X k ∨ (w.heap.size ≤ k ∧ k < w5.heap.size) ∨ w6.heap.size ≤ k) (fun k hk => by
    rcases hk with hk | hk | hk
    · exact .inl (.inl hk)
    · exact .inl (.inr hk)
    · exact .inr hk)).below_ hb68)
  have Hc8 := Lib.hid (Hc6.out.trans (Chg.ofBelow hb68))
  have X8 := Lib.hid x8
  have Z8 := Lib.hid (Z6.out.blw hb68)
  have F8 := Lib.hid (F6.out.below_ hb68)
  have HOn := Lib.hid hOn
  have Hw8 := Lib.hid hw8
  clear hb8 x8 hOn hb7 hb68 r1 r2 hw8 hcv hki6
  go_wp2_with fail
  rw [show w7.alloc (.cells #[.int .i64 (writeRD m ai (filledL ac ash)).count, .bool (writeRD m ai (filledL ac ash)).off, .int .i64 (writeRD m ai (filledL ac ash)).fuse, .slice A7 (writeRD m ai (filledL ac ash)).made.length c7, .slice A8 (writeRD m ai (filledL ac ash)).wait.length c8] 42) = w8 from Hw8.out.symm]
  go_loopw [12] (fun iv wr => ∃ (k : Nat) (l' : List UInt8), k ≤ (filledL ac ash).length ∧ iv = .int .i64 k ∧ l'.length = (filledL ac ash).length ∧ Fresh w4.heap.size wr (.slice A9 (filledL ac ash).length c9) l' ∧ Chg (fun q => (Value.slice A9 (filledL ac ash).length c9).ownBlock = some q) w8 wr) (fun i _ => (filledL ac ash).length - (intOf i).toNat)
  case atStart => exact ⟨0, _, by omega, rfl, rfl, F8.out, Chg.refl _ _⟩
  case round =>
    obtain ⟨k, l', hk, rfl, hl', hfr, hch⟩ := hrel
    have Hfr := Lib.hid hfr
    have Hch := Lib.hid hch
    have Hl' := Lib.hid hl'
    clear hfr hch hl'
    by_cases hlt : k < (filledL ac ash).length
    · obtain ⟨g9, rfl, hg1, hg2, hfz, hcz, hput⟩ := Hfr.out.put k (by rw [Hl'.out]; exact hlt)
      have hp9 := hput 99
      have Hp9 := Lib.hid hp9
      have hcs : Chg (fun q => (Value.slice (some ⟨g9, 0, none⟩) (filledL ac ash).length c9).ownBlock = some q) wr (wr.setCell ⟨g9, k, none⟩ (.int .u8 99)) := Chg.set _ _ _ rfl
      have Hcs := Lib.hid hcs
      clear hput hp9 hcs
      go_wp2_with fail
      go_roundw
      case rel => exact ⟨k + 1, l'.set k 99, by omega, by go_num, by rw [List.length_set]; exact Hl'.out, Hp9.out, Hch.out.trans Hcs.out⟩
      case measure => simp [intOf]; omega
    · obtain rfl : k = (filledL ac ash).length := by omega
      clear Hfr Hl'
      obtain ⟨wE, hwE⟩ : ∃ wE, wE = wr := ⟨_, rfl⟩
      have hch := Hch.out
      rw [← hwE] at hch
      have hzE := hch.size
      subst hwE
      have hOw : ∀ k, Onew O w6 w7 k → k < w8.heap.size ∧ ¬ (Value.slice A9 (filledL ac ash).length c9).ownBlock = some k := fun k hk => ⟨by have := HOn.out k hk; omega, fun e => by
        have := Hfb.out k e
        rcases hk with hk | hk
        · have := HO.out k hk; omega
        · have := hk.1; omega⟩
      have Ve := Lib.hid (V8'.out.chg hch hOw)
      have Hde := Lib.hid (Hd8.out.chg hch (fun q hq => .inr (.inr (.inl (by have := Hfb.out q hq; exact ⟨by omega, by omega⟩)))))
      have Hce := Lib.hid (Hc8.out.past hch (fun q hq => .inl (by have := (Hfb.out q hq).1; omega)))
      have Xe := Lib.hid (X8.out.chg hch (fun e => by have := (Hfb.out _ e).2; omega))
      have Xcf := Lib.hid (Z8.out.chg hch (fun e => by have := (Hfb.out _ e).1; omega))
      have HOe := Lib.hid (fun k (hk : Onew O w6 w7 k) => (⟨by have := HOn.out k hk; omega, by
        rcases hk with hk | hk
        · have := HO.out k hk; omega
        · have := hk.1; omega⟩ : k < wE.heap.size ∧ k ≠ w.heap.size + 1 + 1))
      have HXe := Lib.hid (fun k (hk : X k ∨ Onew O w6 w7 k ∨ k = w.heap.size + 1 + 1) => (by
        rcases hk with hk | (hk | hk) | hk
        · exact .inl hk
        · exact .inl (HOX.out k hk)
        · exact .inr (.inr hk.1)
        · exact .inr (.inl ⟨by omega, by omega⟩) : X k ∨ (w.heap.size ≤ k ∧ k < w5.heap.size) ∨ w6.heap.size ≤ k))
      clear hOw hch
      go_wp2_with fail
      refine wp_region_tail (ds := [91, 92, 93, 94, 6]) 5 [some 91, some 92, some 93, some 94, some 6]
        [Ph.is (.int .i64 (writeE d ai (filledL ac ash))),
          Ph.is (.int .i64 (writeE d ai (filledL ac ash))),
          Ph.is (.bool true),
          Ph.is (.agg (encD (writeRD m ai (filledL ac ash)) (.slice A7 (writeRD m ai (filledL ac ash)).made.length c7) (.slice A8 (writeRD m ai (filledL ac ash)).wait.length c8)).toArray),
          Ph.is (.bool true)] rfl rfl (by kernel_rfl) (by kernel_rfl) (by kernel_rfl) ?_ ?_
      · refine ⟨?_, ?_, ?_, ?_, ?_, trivial⟩
        · -- 0: slot 91 := Op.move t9
          refine ob_yes fun f w' hb hp => ?_
          simp [PreOf, factOf, valOf, Ph.is, Ph.by_, Ph.any, Region.binds] at hp
          refine ⟨by simp [Gd, valOf, hp], ?_⟩
          refine mild_val (.int .i64 (writeE d ai (filledL ac ash))) ?_ rfl
          simp [execOp, evalF, hp]
        · -- 1: slot 92 := Op.move t11
          refine ob_yes fun f w' hb hp => ?_
          simp [PreOf, factOf, valOf, Ph.is, Ph.by_, Ph.any, Region.binds] at hp
          refine ⟨by simp [Gd, valOf, hp], ?_⟩
          refine mild_val (.int .i64 (writeE d ai (filledL ac ash))) ?_ rfl
          simp [execOp, evalF, hp]
        · -- 2: slot 93 := Op.binOp BinOp.eql 3 t91 t92 3
          refine ob_yes fun f w' hb hp => ?_
          simp [PreOf, factOf, valOf, Ph.is, Ph.by_, Ph.any, Region.binds] at hp
          refine ⟨by simp [Gd, valOf, hp], ?_⟩
          refine mild_val (.bool true) ?_ rfl
          simp [execOp, evalF, hp, go_sem]
        · -- 3: slot 94 := Op.load 42 t10
          refine ob_yes fun f w' hb hp => ?_
          simp [PreOf, factOf, valOf, Ph.is, Ph.by_, Ph.any, Region.binds] at hp
          refine ⟨by simp [Gd, valOf, hp], ?_⟩
          refine mild_val (.agg (encD (writeRD m ai (filledL ac ash)) (.slice A7 (writeRD m ai (filledL ac ash)).made.length c7) (.slice A8 (writeRD m ai (filledL ac ash)).wait.length c8)).toArray) ?_ rfl
          have hl := run_loadVar_cells w' ⟨w7.heap.size, 0, none⟩ 42 (encD (writeRD m ai (filledL ac ash)) (.slice A7 (writeRD m ai (filledL ac ash)).made.length c7) (.slice A8 (writeRD m ai (filledL ac ash)).wait.length c8)) (Xe.out.blw hb).cells Try.underlying42 rfl (by kernel_rfl)
          simp only [execOp, evalF, List.contains_eq_mem, Instr.loadAt, Instr.sureAddr, Sem.run_bind, Sem.run_pure, Result.andThen_ok]
          simp [hp, hl]
        · -- 4: slot 6 := Op.assign t93
          refine ob_yes fun f w' hb hp => ?_
          simp [PreOf, factOf, valOf, Ph.is, Ph.by_, Ph.any, Region.binds] at hp
          refine ⟨by simp [Gd, valOf, hp], ?_⟩
          refine mild_val (.bool true) ?_ rfl
          simp [execOp, evalF, hp]
      · intro f wF hbF hp
        simp only [PostOf, Ph.is, Ph.by_, Ph.any] at hp
        obtain ⟨h0, h1, h2, h3, h4, _⟩ := hp
        simp only [fills, List.foldl_cons, List.foldl_nil, Act.put, List.setIfInBounds_toArray, List.set_cons_zero, List.set_cons_succ, h0, h1, h2, h3, h4]
        clear h0 h1 h2 h3 h4
        simp only [List.drop_succ_cons, List.drop_zero]
        have xf := Xcf.out.blw hbF
        go_wp2_with (refine wpList_store_box rfl 42 42 (.tmp 7) (.tmp 94) rfl (w.heap.size + 1 + 1) zeroDc (encD (writeRD m ai (filledL ac ash)) (.slice A7 (writeRD m ai (filledL ac ash)).made.length c7) (.slice A8 (writeRD m ai (filledL ac ash)).wait.length c8)) rfl rfl xf rfl (encD_one _ _ _ _ _ _ _) (by kernel_rfl) ?_; intro hend)
        refine bodyPost_ret (results_tc rfl _ _ (w.heap.size + 1 + 1) (encD (writeRD m ai (filledL ac ash)) (.slice A7 (writeRD m ai (filledL ac ash)).made.length c7) (.slice A8 (writeRD m ai (filledL ac ash)).wait.length c8)) rfl (fun j v hj => (hend.cells j v hj : _)) Try.underlying42 rfl (by kernel_rfl)) rfl ?_
        refine ⟨_, rfl, ?_⟩
        rw [E1.out, E2.out]
        exact does_close (O' := Onew O w6 w7) (g7 := w.heap.size + 1 + 1) (v' := .agg (encD (writeRD m ai (filledL ac ash)) (.slice A7 (writeRD m ai (filledL ac ash)).made.length c7) (.slice A8 (writeRD m ai (filledL ac ash)).wait.length c8)).toArray) Ve.out HOe.out (fun k hk => hk.imp id (fun h => by have := h.1; omega)) Hde.out HXe.out Hce.out (by omega) hbF _
end Go.Proofs.Ytpoicbhbkabllaa
