/- The document's disks: Write -/
import Derived.Test.YtpoicbhbkabllaaRDisk4
namespace Go.Proofs.Ytpoicbhbkabllaa
set_option linter.unusedSimpArgs false
set_option linter.unusedVariables false
open Go.RowKit

theorem encD_one (m : RD) (A1 A2 : Option Addr) (n1 c1 n2 c2 : Nat) : ∀ u ∈ encD m (.slice A1 n1 c1) (.slice A2 n2 c2), u.oneCell' = true := by simp [Value.oneCell']
theorem run_build_rw (w : World) (i : Int) (b : ByteArray) : (Instr.build 124 #[(0, .int .i64 i), (1, .string b)]).run Try.prog w = .ok (.agg #[.int .i64 i, .string b]) w := by kernel_rfl
theorem write_a {m : RD} {i : Int} {b : List UInt8} (h : readRE m i ≠ 0) : writeRE m i b = readRE m i ∧ writeRD m i b = m := by unfold writeRE writeRD; rw [if_pos h, if_pos h]; exact ⟨rfl, rfl⟩
theorem write_b {m : RD} {i : Int} {b : List UInt8} (h : ¬ readRE m i ≠ 0) (hb : b.length ≠ 128) : writeRE m i b = 3 ∧ writeRD m i b = m := by unfold writeRE writeRD; rw [if_neg h, if_neg h, if_pos hb, if_pos hb]; exact ⟨rfl, rfl⟩
theorem write_c {m : RD} {i : Int} {b : List UInt8} (h : ¬ readRE m i ≠ 0) (hb : ¬ b.length ≠ 128) (hd : deedRE m ≠ 0) : writeRE m i b = deedRE m ∧ writeRD m i b = deedRD m := by unfold writeRE writeRD; rw [if_neg h, if_neg h, if_neg hb, if_neg hb, if_pos hd]; exact ⟨rfl, rfl⟩
theorem write_d {m : RD} {i : Int} {b : List UInt8} (h : ¬ readRE m i ≠ 0) (hb : ¬ b.length ≠ 128) (hd : ¬ deedRE m ≠ 0) : writeRE m i b = 0 ∧ writeRD m i b = { deedRD m with wait := m.wait ++ [(i, b)] } := by
  unfold writeRE writeRD
  rw [if_neg h, if_neg h, if_neg hb, if_neg hb, if_neg hd]
  exact ⟨by simpa using hd, rfl⟩
set_option maxRecDepth 100000 in
set_option maxHeartbeats 6400000 in
theorem rwrite (w : World) (O : Nat → Prop) (v : Value) (m : RD) (i : Int) (b : List UInt8) (hO : ∀ k, O k → k < w.heap.size) (hm : m.made.length ≤ 1000000) (hw : m.wait.length ≤ 1000000) (hbl : b.length ≤ maxLen) (h : RDV w O v m) :
    Calls Try.prog 44 #[v, .int .i64 i, .string (bst b)] w fun e w' => ∃ v', e = .returned (.tuple #[v', .int .i64 (writeRE m i b)]) ∧ RDV w' (Onew O w w') v' (writeRD m i b) ∧ Below w.heap.size w w' := by
  have HV := Lib.hid h
  obtain ⟨v1, v2, rfl, h1, h2, h3, h4⟩ := h
  obtain ⟨A1, c1, rfl, hc1, hc2⟩ := h1.form
  obtain ⟨A2, c2, rfl, hd1, hd2⟩ := h2.form
  unfold maxLen at hc2 hd2 hbl
  -- the boxes
  obtain ⟨wa, hwa⟩ : ∃ wa, wa = w.alloc (.cells #[.int .i64 m.count, .bool m.off, .int .i64 m.fuse, .slice A1 m.made.length c1, .slice A2 m.wait.length c2] 42) := ⟨_, rfl⟩
  obtain ⟨wb, hwb⟩ : ∃ wb, wb = wa.alloc (.cells #[.int .i64 0, .bool false, .int .i64 0, .slice none 0 0, .slice none 0 0] 42) := ⟨_, rfl⟩
  have za : wa.heap.size = w.heap.size + 1 := by rw [hwa]; simp
  have zb : wb.heap.size = w.heap.size + 1 + 1 := by rw [hwb]; simp [za]
  have ba := balloc w (.cells #[.int .i64 m.count, .bool m.off, .int .i64 m.fuse, .slice A1 m.made.length c1, .slice A2 m.wait.length c2] 42)
  have bb := balloc wa (.cells #[.int .i64 0, .bool false, .int .i64 0, .slice none 0 0, .slice none 0 0] 42)
  have xa := BoxAt.new_ 42 w (encD m (.slice A1 m.made.length c1) (.slice A2 m.wait.length c2))
  have xb := BoxAt.new_ 42 wa zeroDc
  rw [za] at xb
  have xa4 : BoxAt 42 wb w.heap.size (encD m (.slice A1 m.made.length c1) (.slice A2 m.wait.length c2)) := by
    rw [hwb, hwa]; exact xa.alloc _
  have xb4 : BoxAt 42 wb (w.heap.size + 1) zeroDc := by
    rw [hwb]; exact xb
  rw [← hwa] at ba
  rw [← hwb] at bb
  have b4 : Below w.heap.size w wb := ba.trans (bb.mono (by omega))
  have Xa := Lib.hid xa4
  have Xb := Lib.hid xb4
  have B4 := Lib.hid b4
  have Hwa := Lib.hid hwa
  have Hwb := Lib.hid hwb
  have zb2 : w.heap.size + 1 < wb.heap.size := by omega
  have hvb := HV.out.below b4 hO
  have hrd := rread wb O _ m i (fun k hk => by have := hO k hk; omega) hm hw hvb
  have HO := Lib.hid hO
  have Hrd := Lib.hid hrd
  have Hvb := Lib.hid hvb
  have Hbl := Lib.hid hbl
  clear xa xb xa4 xb4 b4 ba bb hwa hwb za zb h1 h2 hvb hrd hbl hO
  go_enter Try.func44, Try.ntmps44
  go_wp2_with fail
  rw [← Hwa.out, ← Hwb.out]
  refine Hrd.out.mono ?_
  rintro _ w1 ⟨rfl, hb1⟩
  have hz1 := hb1.size
  have x1 := Xa.out.blw hb1
  have y1 := Xb.out.blw hb1
  have B1 := Lib.hid (B4.out.trans (hb1.mono (by omega)))
  have V1 := Lib.hid (Hvb.out.below hb1 (fun k hk => by have := HO.out k hk; omega))
  have X1 := Lib.hid x1.cells
  have Xx := Lib.hid x1
  have Y1 := Lib.hid y1
  clear x1 y1 hb1 Hwa Hwb Xa Xb Hrd Hvb B4 HV
  by_cases hre : readRE m i ≠ 0
  · obtain ⟨e1, e2⟩ := write_a (b := b) hre
    have E1 := Lib.hid e1
    have E2 := Lib.hid e2
    have hd : (readRE m i == 0) = false := beq_eq_false_iff_ne.2 hre
    clear hre e1 e2
    generalize readRE m i = re at *
    go_wp2_with (first
      | (refine wpList_load_agg rfl 42 (.tmp 3) rfl ⟨w.heap.size, 0, none⟩ rfl (encD m (.slice A1 m.made.length c1) (.slice A2 m.wait.length c2)) X1.out Try.underlying42 rfl (by kernel_rfl) ?_)
      | (refine wpList_store_box rfl 42 42 (.tmp 6) (.tmp 19) rfl (w.heap.size + 1) zeroDc (encD m (.slice A1 m.made.length c1) (.slice A2 m.wait.length c2)) rfl rfl Y1.out rfl (encD_one _ _ _ _ _ _ _) (by kernel_rfl) ?_; intro hend))
    have cy : Chg (fun k => k = w.heap.size + 1) w1 (w1.setRow (w.heap.size + 1) (encD m (.slice A1 m.made.length c1) (.slice A2 m.wait.length c2)).toArray) := Chg.ofGrown (gsetRow' w1 (w.heap.size + 1) _) (fun k e => by injection e with e; exact e.symm)
    have b9 := B1.out.trans (cy.below (by omega) (fun k hk => by omega))
    have v9 := V1.out.chg cy (fun k hk => ⟨by have := HO.out k hk; omega, by have := HO.out k hk; omega⟩)
    refine bodyPost_ret (results_ct rfl _ _ (w.heap.size + 1) (encD m (.slice A1 m.made.length c1) (.slice A2 m.wait.length c2)) rfl (fun j v hj => (hend.cells j v hj : _)) Try.underlying42 rfl (by kernel_rfl)) rfl ?_
    rw [E1.out, E2.out]
    exact ⟨_, rfl, v9.more (fun k hk => .inl hk), b9⟩
  by_cases hb : b.length ≠ 128
  · obtain ⟨e1, e2⟩ := write_b (b := b) hre hb
    have E1 := Lib.hid e1
    have E2 := Lib.hid e2
    have hre0 : readRE m i = 0 := by simpa using hre
    have hd : ((b.length : Int) == 128) = false := beq_eq_false_iff_ne.2 (by omega)
    have hd2 : (b.length == 128) = false := beq_eq_false_iff_ne.2 hb
    have hbs : (bst b).size = b.length := rfl
    rw [hre0]
    clear hre e1 e2 hre0 hb
    go_wp2_with (first
      | (refine wpList_load_agg rfl 42 (.tmp 3) rfl ⟨w.heap.size, 0, none⟩ rfl (encD m (.slice A1 m.made.length c1) (.slice A2 m.wait.length c2)) X1.out Try.underlying42 rfl (by kernel_rfl) ?_)
      | (refine wpList_store_box rfl 42 42 (.tmp 6) (.tmp 24) rfl (w.heap.size + 1) zeroDc (encD m (.slice A1 m.made.length c1) (.slice A2 m.wait.length c2)) rfl rfl Y1.out rfl (encD_one _ _ _ _ _ _ _) (by kernel_rfl) ?_; intro hend))
    have cy : Chg (fun k => k = w.heap.size + 1) w1 (w1.setRow (w.heap.size + 1) (encD m (.slice A1 m.made.length c1) (.slice A2 m.wait.length c2)).toArray) := Chg.ofGrown (gsetRow' w1 (w.heap.size + 1) _) (fun k e => by injection e with e; exact e.symm)
    have b9 := B1.out.trans (cy.below (by omega) (fun k hk => by omega))
    have v9 := V1.out.chg cy (fun k hk => ⟨by have := HO.out k hk; omega, by have := HO.out k hk; omega⟩)
    refine bodyPost_ret (results_ct rfl _ _ (w.heap.size + 1) (encD m (.slice A1 m.made.length c1) (.slice A2 m.wait.length c2)) rfl (fun j v hj => (hend.cells j v hj : _)) Try.underlying42 rfl (by kernel_rfl)) rfl ?_
    rw [E1.out, E2.out]
    exact ⟨_, rfl, v9.more (fun k hk => .inl hk), b9⟩
  have hb2 : b.length = 128 := by simpa using hb
  have hre0 : readRE m i = 0 := by simpa using hre
  have hbs : (bst b).size = 128 := hb2
  have hdd := rdeed w1 O _ m (fun k hk => by have := HO.out k hk; omega) V1.out
  have Hdd := Lib.hid hdd
  rw [hre0]
  clear hre0 hdd
  go_wp2_with (refine wpList_load_agg rfl 42 (.tmp 3) rfl ⟨w.heap.size, 0, none⟩ rfl (encD m (.slice A1 m.made.length c1) (.slice A2 m.wait.length c2)) X1.out Try.underlying42 rfl (by kernel_rfl) ?_)
  refine Hdd.out.mono ?_
  rintro _ w2 ⟨v', rfl, hv2, hb2'⟩
  have hz2 := hb2'.size
  have x2 := Xx.out.blw hb2'
  have y2 := Y1.out.blw hb2'
  have B2 := Lib.hid (B1.out.trans (hb2'.mono (by omega)))
  have hmade := deedRD_made m
  have hwait := deedRD_wait m
  obtain ⟨dm, hdm⟩ : ∃ dm, dm = deedRD m := ⟨_, rfl⟩
  rw [← hdm] at hv2 hmade hwait
  have V2 := Lib.hid hv2
  obtain ⟨u1, u2, rfl, k1, k2, k3, k4⟩ := hv2
  obtain ⟨A3, c3, rfl, _⟩ := k1.form
  obtain ⟨A4, c4, rfl, q1, q2⟩ := k2.form
  unfold maxLen at q2
  have hw4 : dm.wait.length ≤ 1000000 := by rw [hwait]; exact hw
  have X2 := Lib.hid x2
  have Y2 := Lib.hid y2
  have K1 := Lib.hid k1
  have K2 := Lib.hid k2
  have K3 := Lib.hid k3
  have K4 := Lib.hid k4
  have Hdm := Lib.hid hdm
  have Hwait := Lib.hid hwait
  clear x2 y2 hb2' hdm hmade hwait k1 k2 k3 k4 Hdd X1 Xx Y1 B1 V1
  have hcx : ∀ cs : List Value, Chg (fun k => k = w.heap.size) w2 (w2.setRow w.heap.size cs.toArray) := fun cs => Chg.ofGrown (gsetRow' w2 w.heap.size _) (fun k e => by injection e with e; exact e.symm)
  have Hcx := Lib.hid hcx
  clear hcx
  by_cases hde : deedRE m ≠ 0
  · obtain ⟨e1, e2⟩ := write_c (b := b) hre hb hde
    rw [← Hdm.out] at e2
    have E1 := Lib.hid e1
    have E2 := Lib.hid e2
    have hd : (deedRE m == 0) = false := beq_eq_false_iff_ne.2 hde
    clear hre e1 e2 hb hde hb2
    generalize deedRE m = re at *
    go_wp2_with (first
      | (refine wpList_store_box rfl 42 42 (.tmp 3) (.tmp 28) rfl w.heap.size (encD m (.slice A1 m.made.length c1) (.slice A2 m.wait.length c2)) (encD dm (.slice A3 dm.made.length c3) (.slice A4 dm.wait.length c4)) rfl rfl X2.out rfl (encD_one _ _ _ _ _ _ _) (by kernel_rfl) ?_
         intro hx3
         have hx3c := Lib.hid hx3.cells
         have hy3 := Lib.hid (Y2.out.chg (Hcx.out (encD dm (.slice A3 dm.made.length c3) (.slice A4 dm.wait.length c4))) (by omega))
         clear hx3)
      | (refine wpList_load_agg rfl 42 (.tmp 3) rfl ⟨w.heap.size, 0, none⟩ rfl (encD dm (.slice A3 dm.made.length c3) (.slice A4 dm.wait.length c4)) hx3c.out Try.underlying42 rfl (by kernel_rfl) ?_)
      | (refine wpList_store_box rfl 42 42 (.tmp 6) (.tmp 32) rfl (w.heap.size + 1) zeroDc (encD dm (.slice A3 dm.made.length c3) (.slice A4 dm.wait.length c4)) rfl rfl hy3.out rfl (encD_one _ _ _ _ _ _ _) (by kernel_rfl) ?_; intro hend))
    have cx := Hcx.out (encD dm (.slice A3 dm.made.length c3) (.slice A4 dm.wait.length c4))
    generalize hW3 : w2.setRow w.heap.size (encD dm (.slice A3 dm.made.length c3) (.slice A4 dm.wait.length c4)).toArray = w3 at *
    have hz3 := cx.size
    have cy : Chg (fun k => k = w.heap.size + 1) w3 (w3.setRow (w.heap.size + 1) (encD dm (.slice A3 dm.made.length c3) (.slice A4 dm.wait.length c4)).toArray) := Chg.ofGrown (gsetRow' w3 (w.heap.size + 1) _) (fun k e => by injection e with e; exact e.symm)
    have b9 := (B2.out.trans (cx.below (by omega) (fun k hk => by omega))).trans (cy.below (by omega) (fun k hk => by omega))
    have v9 := (V2.out.chg cx (fun k hk => ⟨by have := HO.out k hk; omega, by have := HO.out k hk; omega⟩)).chg cy (fun k hk => ⟨by have := HO.out k hk; omega, by have := HO.out k hk; omega⟩)
    refine bodyPost_ret (results_ct rfl _ _ (w.heap.size + 1) (encD dm (.slice A3 dm.made.length c3) (.slice A4 dm.wait.length c4)) rfl (fun j v hj => (hend.cells j v hj : _)) Try.underlying42 rfl (by kernel_rfl)) rfl ?_
    rw [E1.out, E2.out]
    exact ⟨_, rfl, v9.more (fun k hk => .inl hk), b9⟩
  · obtain ⟨e1, e2⟩ := write_d (b := b) hre hb hde
    rw [← Hdm.out] at e2
    have E1 := Lib.hid e1
    have E2 := Lib.hid e2
    have HB := Lib.hid hb2
    have hde0 : deedRE m = 0 := by simpa using hde
    rw [hde0]
    have cx := Hcx.out (encD dm (.slice A3 dm.made.length c3) (.slice A4 dm.wait.length c4))
    clear hre e1 e2 hb hde hde0 hb2
    obtain ⟨w3, hW3⟩ : ∃ w3, w3 = w2.setRow w.heap.size (encD dm (.slice A3 dm.made.length c3) (.slice A4 dm.wait.length c4)).toArray := ⟨_, rfl⟩
    rw [← hW3] at cx
    have hz3 := cx.size
    have B3 := Lib.hid (B2.out.trans (cx.below (by omega) (fun k hk => by omega)))
    have R1 := Lib.hid (K1.out.chg cx (fun k hk => ⟨by have := HO.out k hk; omega, by have := HO.out k hk; omega⟩))
    have R2 := Lib.hid (K2.out.chg cx (fun k hk => ⟨by have := HO.out k hk; omega, by have := HO.out k hk; omega⟩))
    have own0 : OwnF 124 cRW (w3.alloc (.cells #[] 124)) w3.heap.size (.slice (some ⟨w3.heap.size, 0, none⟩) 0 0) [] := OwnR.new_ (E := 124) (C := cRW) (S := fun _ => False) (xs := []) w3 [] rfl (Nat.zero_le _) (fun i cs x hc => by simp at hc) (fun k hk => hk.elim)
    have Own0 := Lib.hid own0
    have rd0 : RowOn cRW (w3.alloc (.cells #[] 124)) O (fun _ => False) (.slice A4 dm.wait.length c4) dm.wait := R2.out.below (balloc w3 _) (fun k hk => by have := HO.out k hk; omega)
    have Rd0 := Lib.hid rd0
    have HW3 := Lib.hid hW3
    have hy3 := Y2.out.chg cx (by omega)
    have Y3 := Lib.hid hy3
    clear cx own0 rd0 hW3 hy3
    have hx3 : BoxAt 42 w3 w.heap.size (encD dm (.slice A3 dm.made.length c3) (.slice A4 dm.wait.length c4)) := by rw [HW3.out]; exact X2.out.setRow _
    have X3 := Lib.hid hx3
    have hc4 := (hx3.alloc (.cells #[] 124)).cell 4 _ rfl
    clear hx3
    go_wp2_with (first
      | (refine wpList_store_box rfl 42 42 (.tmp 3) (.tmp 28) rfl w.heap.size (encD m (.slice A1 m.made.length c1) (.slice A2 m.wait.length c2)) (encD dm (.slice A3 dm.made.length c3) (.slice A4 dm.wait.length c4)) rfl rfl X2.out rfl (encD_one _ _ _ _ _ _ _) (by kernel_rfl) ?_
         intro _
         rw [← HW3.out])
      | (at_builtin
         (
           refine wpList_appR (C := cRW) rfl (.tmp 34) (.tmp 36) 40 rfl Try.underlying40 info_rw rfl (by decide) (by decide) Own0.out Rd0.out rfl rfl (by simp; omega) (by simp) ?_
           intro v5 w5 o5 e5
           rw [List.nil_append] at o5
           have O5 := Lib.hid o5
           have hz5 := e5.gr.size
           rw [World.size_alloc] at hz5
           have c5 := e5.below (B := w3.heap.size) (by simp) (fun q hq => Nat.le_of_eq (Option.some.inj hq))
           have b5 := Lib.hid ((balloc w3 (.cells #[] 124)).trans c5)
           obtain ⟨A5, cc5, rfl, s1, s2, _⟩ := o5.form'
           have X5 := Lib.hid (X3.out.blw b5.out)
           have Y5 := Lib.hid (Y3.out.blw b5.out)
           have hz35 := b5.out.size
           clear e5 o5 c5 hc4))
      | (refine wpList_app1R (C := cRW) rfl (.tmp 38) (.tmp 42) 40 rfl Try.underlying40 info_rw rfl (by decide) (by decide) [.int .i64 i, .string (bst b)] (y := (i, b)) O5.out ⟨rfl, HB.out⟩ rfl rfl (by omega) hz35 ?_
         intro v6 w6 o6 e6
         have hne : ∀ q, q < w3.heap.size → (Value.slice A5 dm.wait.length cc5).ownBlock ≠ some q := fun q hq e => by have := (O5.out.blk q e).1; omega
         have x6 := X5.out.grown e6.gr (hne _ (by omega))
         have y6 := Y5.out.grown e6.gr (hne _ (by omega))
         have b6 := Lib.hid (b5.out.trans (e6.below hz35 (fun q hq => (O5.out.blk q hq).1)))
         have hz6 := e6.gr.size
         obtain ⟨A6, c6, rfl, p1, p2, _⟩ := o6.form'
         rw [List.length_append, List.length_singleton] at o6 p1
         have O6 := Lib.hid o6
         have hload := (x6.put 4 (.slice A6 (dm.wait.length + 1) c6)).cells
         have Hload := Lib.hid hload
         have hst := y6.other ⟨w.heap.size, 4, none⟩ (.slice A6 (dm.wait.length + 1) c6) (by show w.heap.size ≠ w.heap.size + 1; omega)
         have Hst := Lib.hid hst
         have f4 := x6.frozen 4
         have c4' := x6.cell 4 _ rfl
         clear hne x6 y6 e6 o6 hload hst)
      | (refine wpList_load_agg rfl 42 (.tmp 3) rfl ⟨w.heap.size, 0, none⟩ rfl (encD ⟨dm.count, dm.off, dm.fuse, dm.made, dm.wait ++ [(i, b)]⟩ (.slice A3 dm.made.length c3) (.slice A6 (dm.wait.length + 1) c6)) Hload.out Try.underlying42 rfl (by kernel_rfl) ?_)
      | (refine wpList_store_box rfl 42 42 (.tmp 6) (.tmp 45) rfl (w.heap.size + 1) zeroDc (encD ⟨dm.count, dm.off, dm.fuse, dm.made, dm.wait ++ [(i, b)]⟩ (.slice A3 dm.made.length c3) (.slice A6 (dm.wait.length + 1) c6)) rfl rfl Hst.out rfl (encD_one _ _ _ _ _ _ _) (by kernel_rfl) ?_; intro hend))
    generalize hWx : (w6.setCell ⟨w.heap.size, 4, none⟩ (.slice A6 (dm.wait.length + 1) c6)) = Wx at *
    have gx : w6.grownBy Wx (some w.heap.size) := by rw [← hWx]; exact gset w6 ⟨w.heap.size, 4, none⟩ _
    generalize hWy : Wx.setRow (w.heap.size + 1) (encD ⟨dm.count, dm.off, dm.fuse, dm.made, dm.wait ++ [(i, b)]⟩ (.slice A3 dm.made.length c3) (.slice A6 (dm.wait.length + 1) c6)).toArray = Wy at *
    have gy : Wx.grownBy Wy (some (w.heap.size + 1)) := by rw [← hWy]; exact gsetRow' Wx (w.heap.size + 1) _
    have c36 : Chg (fun k => k = w.heap.size ∨ k = w.heap.size + 1) w3 Wy := ((Chg.ofBelow b6.out).trans (Chg.ofGrown gx (fun k e => .inl (by injection e with e; exact e.symm)))).trans (Chg.ofGrown gy (fun k e => .inr (by injection e with e; exact e.symm)))
    have hob : ∀ q, (Value.slice A6 (dm.wait.length + 1) c6).ownBlock = some q → w3.heap.size ≤ q := fun q hq => (O6.out.blk q hq).1
    have k1 := (O6.out.keep gx (by
      cases hv : (Value.slice A6 (dm.wait.length + 1) c6).ownBlock with
      | none => exact .inl rfl
      | some q => exact .inr (fun e => by have := hob q hv; injection e with e; omega)) (fun k hk => hk.elim)).keep gy (by
      cases hv : (Value.slice A6 (dm.wait.length + 1) c6).ownBlock with
      | none => exact .inl rfl
      | some q => exact .inr (fun e => by have := hob q hv; injection e with e; omega)) (fun k hk => hk.elim)
    have k2 : ByR Wy (Onew O w Wy) (.slice A6 (dm.wait.length + 1) c6) (dm.wait ++ [(i, b)]) := k1.row.mono (fun q hq => .inr ⟨by omega, hq.2⟩) (fun _ h => h.elim)
    have k3 := (R1.out.chg c36 (fun k hk => ⟨by have := HO.out k hk; omega, by have := HO.out k hk; omega⟩)).more (O' := Onew O w Wy) (fun k hk => .inl hk)
    refine bodyPost_ret (results_ct rfl _ _ (w.heap.size + 1) (encD ⟨dm.count, dm.off, dm.fuse, dm.made, dm.wait ++ [(i, b)]⟩ (.slice A3 dm.made.length c3) (.slice A6 (dm.wait.length + 1) c6)) rfl (fun j v hj => (hend.cells j v hj : _)) Try.underlying42 rfl (by kernel_rfl)) rfl ?_
    rw [E1.out, E2.out, ← Hwait.out]
    exact ⟨_, rfl, RDV.mk' (m := ⟨dm.count, dm.off, dm.fuse, dm.made, dm.wait ++ [(i, b)]⟩) k3 k2 K3.out K4.out, B3.out.trans (c36.below (by omega) (fun k hk => by omega))⟩
end Go.Proofs.Ytpoicbhbkabllaa
