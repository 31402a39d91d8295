/- The document's disks: Spoil -/
import Derived.Test.YtpoicbhbkabllaaRDisk7
import Derived.Test.YtpoicbhbkabllaaConvSB
namespace Go.Proofs.Ytpoicbhbkabllaa
set_option linter.unusedSimpArgs false
set_option linter.unusedVariables false
open Go.RowKit

theorem spoil_a {m : RD} {i at_ : Int} {c : UInt8} (h : ¬ (0 ≤ i ∧ i < m.count ∧ 0 ≤ at_ ∧ at_ < 128)) : spoilRE m i at_ = 9 ∧ spoilRD m i at_ c = m := by
  have e : spoilRE m i at_ = 9 := by unfold spoilRE; rw [if_neg h]
  refine ⟨e, ?_⟩
  unfold spoilRD
  rw [e, if_pos (by decide)]
theorem spoil_b {m : RD} {i at_ : Int} {c : UInt8} (h : 0 ≤ i ∧ i < m.count ∧ 0 ≤ at_ ∧ at_ < 128) : spoilRE m i at_ = 0 ∧ spoilRD m i at_ c = putRD m (i, (goodR m i).set at_.toNat ((goodR m i).getD at_.toNat 0 ^^^ c)) := by
  have e : spoilRE m i at_ = 0 := by unfold spoilRE; rw [if_pos h]
  refine ⟨e, ?_⟩
  unfold spoilRD
  rw [e, if_neg (by decide)]
set_option maxRecDepth 100000 in
set_option maxHeartbeats 6400000 in
theorem rspoil (w : World) (O : Nat → Prop) (v : Value) (m : RD) (i at_ : Int) (cc : UInt8) (hO : ∀ k, O k → k < w.heap.size) (hm : m.made.length ≤ 1000000) (h : RDV w O v m) :
    Calls Try.prog 47 #[v, .int .i64 i, .int .i64 at_, .int .u8 (cc.toNat : Int)] w fun e w' => ∃ v', e = .returned (.tuple #[v', .int .i64 (spoilRE m i at_)]) ∧ RDV w' (Onew O w w') v' (spoilRD m i at_ cc) ∧ Below w.heap.size w w' := by
  have HV := Lib.hid h
  obtain ⟨v1, v2, rfl, h1, h2, h3, h4⟩ := h
  obtain ⟨A1, c1, rfl, hc1, hc2⟩ := h1.form
  obtain ⟨A2, c2, rfl, hd1, hd2⟩ := h2.form
  unfold maxLen at hc2 hd2
  -- the boxes
  obtain ⟨wa, hwa⟩ : ∃ wa, wa = w.alloc (.cells #[.int .i64 m.count, .bool m.off, .int .i64 m.fuse, .slice A1 m.made.length c1, .slice A2 m.wait.length c2] 42) := ⟨_, rfl⟩
  obtain ⟨wb, hwb⟩ : ∃ wb, wb = wa.alloc (.cells #[.int .i64 0, .bool false, .int .i64 0, .slice none 0 0, .slice none 0 0] 42) := ⟨_, rfl⟩
  have za : wa.heap.size = w.heap.size + 1 := by rw [hwa]; simp
  have zb : wb.heap.size = w.heap.size + 1 + 1 := by rw [hwb]; simp [za]
  have ba := balloc w (.cells #[.int .i64 m.count, .bool m.off, .int .i64 m.fuse, .slice A1 m.made.length c1, .slice A2 m.wait.length c2] 42)
  have bb := balloc wa (.cells #[.int .i64 0, .bool false, .int .i64 0, .slice none 0 0, .slice none 0 0] 42)
  have xa := BoxAt.new_ 42 w (encD m (.slice A1 m.made.length c1) (.slice A2 m.wait.length c2))
  have xb := BoxAt.new_ 42 wa zeroDc
  rw [za] at xb
  have xa4 : BoxAt 42 wb w.heap.size (encD m (.slice A1 m.made.length c1) (.slice A2 m.wait.length c2)) := by
    rw [hwb, hwa]; exact xa.alloc _
  have xb4 : BoxAt 42 wb (w.heap.size + 1) zeroDc := by
    rw [hwb]; exact xb
  rw [← hwa] at ba
  rw [← hwb] at bb
  have b4 : Below w.heap.size w wb := ba.trans (bb.mono (by omega))
  have Xa := Lib.hid xa4
  have Xb := Lib.hid xb4
  have B4 := Lib.hid b4
  have Hwa := Lib.hid hwa
  have Hwb := Lib.hid hwb
  have zb2 : w.heap.size + 1 < wb.heap.size := by omega
  have hgl := goodR_len h1 i
  have hvb := HV.out.below b4 hO
  have HO := Lib.hid hO
  have V3 := Lib.hid hvb
  have hcn := xa4.cell 0 _ rfl
  have X1 := Lib.hid xa4.cells
  clear xa xb b4 ba bb hwa hwb za zb h1 h2 hO hvb xa4 xb4
  by_cases hok : 0 ≤ i ∧ i < m.count ∧ 0 ≤ at_ ∧ at_ < 128
  · obtain ⟨e1, e2⟩ := spoil_b (c := cc) hok
    obtain ⟨k, rfl⟩ : ∃ k : Nat, i = (k : Int) := ⟨i.toNat, by omega⟩
    obtain ⟨j, rfl⟩ : ∃ j : Nat, at_ = (j : Int) := ⟨at_.toNat, by omega⟩
    obtain ⟨p1, p2, p3, p4⟩ := hok
    have hj : j < 128 := by omega
    have hd1' : decide ((k : Int) < 0) = false := decide_eq_false (by omega)
    have hd2' : decide (m.count ≤ (k : Int)) = false := decide_eq_false (by omega)
    have hd3' : decide ((j : Int) < 0) = false := decide_eq_false (by omega)
    have hd4' : decide (128 ≤ (j : Int)) = false := decide_eq_false (by omega)
    have hd5' : decide (128 ≤ j) = false := decide_eq_false (by omega)
    have hjl : j < (goodR m (k : Int)).length := by omega
    obtain ⟨y, hy⟩ : ∃ y, y = (goodR m (k : Int))[j] := ⟨_, rfl⟩
    have hgd : (goodR m (k : Int)).getD j 0 = y := by rw [List.getD_eq_getElem?_getD, List.getElem?_eq_getElem hjl, hy]; rfl
    rw [Int.toNat_natCast, hgd] at e2
    have E1 := Lib.hid e1
    have E2 := Lib.hid e2
    have Hy := Lib.hid hy
    have Hgl := Lib.hid hgl
    have hxor : bits .xor .u8 (y.toNat : Int) (cc.toNat : Int) = ((y ^^^ cc).toNat : Int) := xor_u8 y cc
    have hrg := rgood wb O _ m (k : Int) (fun k hk => by have := HO.out k hk; omega) hm V3.out
    have Hrg := Lib.hid hrg
    clear e1 e2 hy hgd hgl p1 p2 p3 p4 hrg
    go_enter Try.func47, Try.ntmps47
    go_upto_region 1 with (fail)
    rw [← Hwa.out, ← Hwb.out]
    go_wp2_with (refine wpList_load_agg rfl 42 (.tmp 4) rfl ⟨w.heap.size, 0, none⟩ rfl (encD m (.slice A1 m.made.length c1) (.slice A2 m.wait.length c2)) X1.out Try.underlying42 rfl (by kernel_rfl) ?_)
    refine Hrg.out.mono ?_
    rintro _ w7 ⟨rfl, hb7⟩
    have hz7 := hb7.size
    have Xa7 := Lib.hid (Xa.out.blw hb7)
    have Xb7 := Lib.hid (Xb.out.blw hb7)
    have B7 := Lib.hid (B4.out.trans (hb7.mono (by omega)))
    have V7 := Lib.hid (V3.out.below hb7 (fun q hq => by have := HO.out q hq; omega))
    clear hb7 Xa Xb B4 V3 Hrg hcn
    go_wp2_with (first
      | (refine wpList_conv_sb rfl (.tmp 30) rfl (goodR m (k : Int)) rfl (by rw [Hgl.out]; decide) ?_
         intro c8 w8 sb
         obtain ⟨sb1, sb2, sb3, sb4⟩ := sb
         have hcell : w8.cell? ⟨w7.heap.size, j, none⟩ = some (.int .u8 (y.toNat : Int)) := by
           obtain ⟨A, c', e, q1, q2, q3, q4⟩ := sb1
           injection e with e1 e2 e3
           subst e1
           obtain ⟨ad, e, hb, hc⟩ := q4 (by omega)
           injection e with e
           subst e
           have := hc j _ (b8s_get _ j hjl)
           rw [Addr.add_lit, Nat.zero_add, ← Hy.out] at this
           exact this
         have hfr := sb2 j hjl
         have Sb1 := Lib.hid sb1
         have Xa8 := Lib.hid (Xa7.out.blw sb3)
         have Xb8 := Lib.hid (Xb7.out.blw sb3)
         have B8 := Lib.hid (B7.out.trans (sb3.mono (by omega)))
         have V8 := Lib.hid (V7.out.below sb3 (fun q hq => by have := HO.out q hq; omega))
         have hz8 : w7.heap.size < w8.heap.size := by omega
         have b9 : By (w8.setCell ⟨w7.heap.size, j, none⟩ (.int .u8 ((y.toNat ^^^ cc.toNat : Nat) : Int))) w8.heap.size (.slice (some ⟨w7.heap.size, 0, none⟩) 128 c8) ((goodR m (k : Int)).set j (y ^^^ cc)) := by
           have := sb1.set_ hjl (y ^^^ cc)
           rw [Hgl.out, UInt8.toNat_xor] at this
           exact this
         have hcv := conv8 b9
         have x9 := Xa8.out.other ⟨w7.heap.size, j, none⟩ (.int .u8 ((y.toNat ^^^ cc.toNat : Nat) : Int)) (by show w7.heap.size ≠ w.heap.size; omega)
         have y9 := Xb8.out.other ⟨w7.heap.size, j, none⟩ (.int .u8 ((y.toNat ^^^ cc.toNat : Nat) : Int)) (by show w7.heap.size ≠ w.heap.size + 1; omega)
         have ch9 : Chg (fun q => q = w7.heap.size) w8 (w8.setCell ⟨w7.heap.size, j, none⟩ (.int .u8 ((y.toNat ^^^ cc.toNat : Nat) : Int))) := Chg.set _ _ _ rfl
         have Xc9 := Lib.hid x9.cells
         have X9 := Lib.hid x9
         have Y9 := Lib.hid y9
         have V9 := Lib.hid (V8.out.chg ch9 (fun q hq => ⟨by have := HO.out q hq; omega, by have := HO.out q hq; omega⟩))
         have B9 := Lib.hid (B8.out.trans (ch9.below (by omega) (fun q hq => by omega)))
         have hz9 := ch9.size
         rw [Hgl.out]
         have hbst : (bst ((goodR m (k : Int)).set j (y ^^^ cc))).size = 128 := by show (((goodR m (k : Int)).set j (y ^^^ cc))).length = 128; rw [List.length_set, Hgl.out]
         have hnl : ((goodR m (k : Int)).set j (y ^^^ cc)).length = 128 := by rw [List.length_set, Hgl.out]
         have Hnl := Lib.hid hnl
         have hrp := rput (w8.setCell ⟨w7.heap.size, j, none⟩ (.int .u8 ((y.toNat ^^^ cc.toNat : Nat) : Int))) O _ m (k : Int) ((goodR m (k : Int)).set j (y ^^^ cc)) (fun q hq => by have := HO.out q hq; omega) hm hnl V9.out
         have Hrp := Lib.hid hrp
         clear sb1 sb2 sb3 sb4 Xa7 Xb7 B7 V7 b9 x9 y9 ch9 hbst hnl hrp)
      | (refine wpList_load_agg rfl 42 (.tmp 4) rfl ⟨w.heap.size, 0, none⟩ rfl (encD m (.slice A1 m.made.length c1) (.slice A2 m.wait.length c2)) Xc9.out Try.underlying42 rfl (by kernel_rfl) ?_))
    refine Hrp.out.mono ?_
    rintro _ wp ⟨vp, rfl, hvp, hbp⟩
    obtain ⟨u7, u8, rfl, r7, r8, g3, g4⟩ := hvp
    have hpw : (putRD m ((k : Int), ((goodR m (k : Int)).set j (y ^^^ cc)))).wait = m.wait := rfl
    rw [hpw] at r8
    obtain ⟨A7, c7, rfl, _⟩ := r7.form
    obtain ⟨A8, c9, rfl, _⟩ := r8.form
    have yp := Y9.out.blw hbp
    have Bp := Lib.hid (B9.out.trans (hbp.mono (by omega)))
    have hzp := hbp.size
    have R7 := Lib.hid r7
    have R8 := Lib.hid r8
    clear r7 r8 hbp
    go_wp2_with (refine wpList_store_box rfl 42 42 (.tmp 8) (.tmp 46) rfl (w.heap.size + 1) zeroDc (encD (putRD m ((k : Int), ((goodR m (k : Int)).set j (y ^^^ cc)))) (.slice A7 (putRD m ((k : Int), ((goodR m (k : Int)).set j (y ^^^ cc)))).made.length c7) (.slice A8 m.wait.length c9)) rfl rfl yp rfl (encD_one _ _ _ _ _ _ _) (by kernel_rfl) ?_; intro hend)
    have cy : Chg (fun q => q = w.heap.size + 1) wp (wp.setRow (w.heap.size + 1) (encD (putRD m ((k : Int), ((goodR m (k : Int)).set j (y ^^^ cc)))) (.slice A7 (putRD m ((k : Int), ((goodR m (k : Int)).set j (y ^^^ cc)))).made.length c7) (.slice A8 m.wait.length c9)).toArray) := Chg.ofGrown (gsetRow' wp (w.heap.size + 1) _) (fun k e => by injection e with e; exact e.symm)
    generalize wp.setRow (w.heap.size + 1) (encD (putRD m ((k : Int), ((goodR m (k : Int)).set j (y ^^^ cc)))) (.slice A7 (putRD m ((k : Int), ((goodR m (k : Int)).set j (y ^^^ cc)))).made.length c7) (.slice A8 m.wait.length c9)).toArray = Wy at *
    have hzy := cy.size
    have hoy : ∀ q, Onew O (w8.setCell ⟨w7.heap.size, j, none⟩ (.int .u8 ((y.toNat ^^^ cc.toNat : Nat) : Int))) wp q → q < wp.heap.size ∧ ¬ q = w.heap.size + 1 := fun q hq => by
      rcases hq with hq | hq
      · have := HO.out q hq; exact ⟨by omega, by omega⟩
      · exact ⟨hq.2, by have := hq.1; omega⟩
    have hny : ∀ q, Onew O (w8.setCell ⟨w7.heap.size, j, none⟩ (.int .u8 ((y.toNat ^^^ cc.toNat : Nat) : Int))) wp q → Onew O w Wy q := fun q hq => by
      rcases hq with hq | hq
      · exact .inl hq
      · exact .inr ⟨by have := hq.1; omega, by have := hq.2; omega⟩
    have k7 := (R7.out.chg cy hoy).more hny
    have k8 := (R8.out.chg cy hoy).more hny
    refine bodyPost_ret (results_ct rfl _ _ (w.heap.size + 1) (encD (putRD m ((k : Int), ((goodR m (k : Int)).set j (y ^^^ cc)))) (.slice A7 (putRD m ((k : Int), ((goodR m (k : Int)).set j (y ^^^ cc)))).made.length c7) (.slice A8 m.wait.length c9)) rfl (fun j v hj => (hend.cells j v hj : _)) Try.underlying42 rfl (by kernel_rfl)) rfl ?_
    rw [E1.out, E2.out]
    exact ⟨_, rfl, RDV.mk' (m := putRD m ((k : Int), ((goodR m (k : Int)).set j (y ^^^ cc)))) k7 (by rw [hpw]; exact k8) g3 g4, Bp.out.trans (cy.below (by omega) (fun k hk => by omega))⟩
  · obtain ⟨e1, e2⟩ := spoil_a (c := cc) hok
    have E1 := Lib.hid e1
    have E2 := Lib.hid e2
    have cy : Chg (fun k => k = w.heap.size + 1) wb (wb.setRow (w.heap.size + 1) (encD m (.slice A1 m.made.length c1) (.slice A2 m.wait.length c2)).toArray) := Chg.ofGrown (gsetRow' wb (w.heap.size + 1) _) (fun k e => by injection e with e; exact e.symm)
    have b9 := B4.out.trans (cy.below (by omega) (fun k hk => by omega))
    have v9 := V3.out.chg cy (fun k hk => ⟨by have := HO.out k hk; omega, by have := HO.out k hk; omega⟩)
    clear e1 e2 cy
    by_cases p1 : i < 0
    · have hd1' : decide (i < 0) = true := decide_eq_true p1
      clear hok p1
      go_enter Try.func47, Try.ntmps47
      go_upto_region 1 with (fail)
      rw [← Hwa.out, ← Hwb.out]
      go_wp2_with (first
        | (refine wpList_load_agg rfl 42 (.tmp 4) rfl ⟨w.heap.size, 0, none⟩ rfl (encD m (.slice A1 m.made.length c1) (.slice A2 m.wait.length c2)) X1.out Try.underlying42 rfl (by kernel_rfl) ?_)
        | (refine wpList_store_box rfl 42 42 (.tmp 8) (.tmp 27) rfl (w.heap.size + 1) zeroDc (encD m (.slice A1 m.made.length c1) (.slice A2 m.wait.length c2)) rfl rfl Xb.out rfl (encD_one _ _ _ _ _ _ _) (by kernel_rfl) ?_; intro hend))
      refine bodyPost_ret (results_ct rfl _ _ (w.heap.size + 1) (encD m (.slice A1 m.made.length c1) (.slice A2 m.wait.length c2)) rfl (fun j v hj => (hend.cells j v hj : _)) Try.underlying42 rfl (by kernel_rfl)) rfl ?_
      rw [E1.out, E2.out]
      exact ⟨_, rfl, v9.more (fun k hk => .inl hk), b9⟩
    have hd1' : decide (i < 0) = false := decide_eq_false p1
    by_cases p2 : m.count ≤ i
    · have hd2' : decide (m.count ≤ i) = true := decide_eq_true p2
      clear hok p1 p2
      go_enter Try.func47, Try.ntmps47
      go_upto_region 1 with (fail)
      rw [← Hwa.out, ← Hwb.out]
      go_wp2_with (first
        | (refine wpList_load_agg rfl 42 (.tmp 4) rfl ⟨w.heap.size, 0, none⟩ rfl (encD m (.slice A1 m.made.length c1) (.slice A2 m.wait.length c2)) X1.out Try.underlying42 rfl (by kernel_rfl) ?_)
        | (refine wpList_store_box rfl 42 42 (.tmp 8) (.tmp 27) rfl (w.heap.size + 1) zeroDc (encD m (.slice A1 m.made.length c1) (.slice A2 m.wait.length c2)) rfl rfl Xb.out rfl (encD_one _ _ _ _ _ _ _) (by kernel_rfl) ?_; intro hend))
      refine bodyPost_ret (results_ct rfl _ _ (w.heap.size + 1) (encD m (.slice A1 m.made.length c1) (.slice A2 m.wait.length c2)) rfl (fun j v hj => (hend.cells j v hj : _)) Try.underlying42 rfl (by kernel_rfl)) rfl ?_
      rw [E1.out, E2.out]
      exact ⟨_, rfl, v9.more (fun k hk => .inl hk), b9⟩
    have hd2' : decide (m.count ≤ i) = false := decide_eq_false p2
    by_cases p3 : at_ < 0
    · have hd3' : decide (at_ < 0) = true := decide_eq_true p3
      clear hok p1 p2 p3
      go_enter Try.func47, Try.ntmps47
      go_upto_region 1 with (fail)
      rw [← Hwa.out, ← Hwb.out]
      go_wp2_with (first
        | (refine wpList_load_agg rfl 42 (.tmp 4) rfl ⟨w.heap.size, 0, none⟩ rfl (encD m (.slice A1 m.made.length c1) (.slice A2 m.wait.length c2)) X1.out Try.underlying42 rfl (by kernel_rfl) ?_)
        | (refine wpList_store_box rfl 42 42 (.tmp 8) (.tmp 27) rfl (w.heap.size + 1) zeroDc (encD m (.slice A1 m.made.length c1) (.slice A2 m.wait.length c2)) rfl rfl Xb.out rfl (encD_one _ _ _ _ _ _ _) (by kernel_rfl) ?_; intro hend))
      refine bodyPost_ret (results_ct rfl _ _ (w.heap.size + 1) (encD m (.slice A1 m.made.length c1) (.slice A2 m.wait.length c2)) rfl (fun j v hj => (hend.cells j v hj : _)) Try.underlying42 rfl (by kernel_rfl)) rfl ?_
      rw [E1.out, E2.out]
      exact ⟨_, rfl, v9.more (fun k hk => .inl hk), b9⟩
    have hd3' : decide (at_ < 0) = false := decide_eq_false p3
    have hd4' : decide (128 ≤ at_) = true := decide_eq_true (by omega)
    clear hok p1 p2 p3
    go_enter Try.func47, Try.ntmps47
    go_upto_region 1 with (fail)
    rw [← Hwa.out, ← Hwb.out]
    go_wp2_with (first
      | (refine wpList_load_agg rfl 42 (.tmp 4) rfl ⟨w.heap.size, 0, none⟩ rfl (encD m (.slice A1 m.made.length c1) (.slice A2 m.wait.length c2)) X1.out Try.underlying42 rfl (by kernel_rfl) ?_)
      | (refine wpList_store_box rfl 42 42 (.tmp 8) (.tmp 27) rfl (w.heap.size + 1) zeroDc (encD m (.slice A1 m.made.length c1) (.slice A2 m.wait.length c2)) rfl rfl Xb.out rfl (encD_one _ _ _ _ _ _ _) (by kernel_rfl) ?_; intro hend))
    refine bodyPost_ret (results_ct rfl _ _ (w.heap.size + 1) (encD m (.slice A1 m.made.length c1) (.slice A2 m.wait.length c2)) rfl (fun j v hj => (hend.cells j v hj : _)) Try.underlying42 rfl (by kernel_rfl)) rfl ?_
    rw [E1.out, E2.out]
    exact ⟨_, rfl, v9.more (fun k hk => .inl hk), b9⟩
end Go.Proofs.Ytpoicbhbkabllaa
