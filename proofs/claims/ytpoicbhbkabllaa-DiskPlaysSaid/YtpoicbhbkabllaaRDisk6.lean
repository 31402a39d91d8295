/- The document's disks: Sync (printed by wip/gen/rdisk6.py) -/
import Derived.Test.YtpoicbhbkabllaaRDisk5
import Derived.Deep.Cut
namespace Go.Proofs.Ytpoicbhbkabllaa
set_option linter.unusedSimpArgs false
set_option linter.unusedVariables false
open Go.RowKit

/-- a disk of the document's, its rows in blocks of O or made since wL -/
def Ph.rd (O : Nat → Prop) (wL : World) (hO : ∀ k, O k → k < wL.heap.size) (m : RD) : Ph := ⟨fun v w => RDV w (Onew O wL w) v m ∧ wL.heap.size ≤ w.heap.size, fun v w w' h hb => ⟨(h.1.below hb (fun k hk => by
  rcases hk with hk | hk
  · have := hO k hk; have := h.2; omega
  · exact hk.2)).more (fun k hk => by
  rcases hk with hk | hk
  · exact .inl hk
  · exact .inr ⟨hk.1, by have := hb.size; omega⟩), Nat.le_trans h.2 hb.size⟩⟩
theorem putMade_len (l : List RW) (x : RW) : (putMade l x).length ≤ l.length + 1 := by
  unfold putMade
  rw [List.length_append, List.length_singleton]
  have := List.length_filter_le (fun y : RW => decide (y.1 ≠ x.1)) l
  omega
theorem foldl_putRD_made (l : List RW) : ∀ m : RD, (l.foldl putRD m).made.length ≤ m.made.length + l.length := by
  induction l with
  | nil => intro m; simp
  | cons x t ih =>
    intro m
    have := ih (putRD m x)
    have h2 : (putRD m x).made.length ≤ m.made.length + 1 := putMade_len _ _
    simp only [List.foldl_cons, List.length_cons]
    omega
theorem sync_a {m : RD} (h : m.off = true) : syncRE m = 6 ∧ syncRD m = m := by unfold syncRE syncRD; rw [if_pos h, if_pos h]; exact ⟨rfl, rfl⟩
theorem sync_b {m : RD} (h : ¬ m.off = true) (hd : deedRE m ≠ 0) : syncRE m = deedRE m ∧ syncRD m = deedRD m := by unfold syncRE syncRD; rw [if_neg h, if_neg h, if_pos hd]; exact ⟨rfl, rfl⟩
theorem sync_c {m : RD} (h : ¬ m.off = true) (hd : ¬ deedRE m ≠ 0) : syncRE m = 0 ∧ syncRD m = { (m.wait.foldl putRD (deedRD m)) with wait := [] } := by
  unfold syncRE syncRD
  rw [if_neg h, if_neg h, if_neg hd]
  exact ⟨by simpa using hd, rfl⟩
set_option maxRecDepth 100000 in
set_option maxHeartbeats 6400000 in
theorem rsync (w : World) (O : Nat → Prop) (v : Value) (m : RD) (hO : ∀ k, O k → k < w.heap.size) (hm : m.made.length + m.wait.length ≤ 1000000) (h : RDV w O v m) :
    Calls Try.prog 45 #[v] w fun e w' => ∃ v', e = .returned (.tuple #[v', .int .i64 (syncRE m)]) ∧ RDV w' (Onew O w w') v' (syncRD m) ∧ Below w.heap.size w w' := by
  have HV := Lib.hid h
  obtain ⟨v1, v2, rfl, h1, h2, h3, h4⟩ := h
  obtain ⟨A1, c1, rfl, hc1, hc2⟩ := h1.form
  obtain ⟨A2, c2, rfl, hd1, hd2⟩ := h2.form
  unfold maxLen at hc2 hd2
  -- the boxes
  obtain ⟨wa, hwa⟩ : ∃ wa, wa = w.alloc (.cells #[.int .i64 m.count, .bool m.off, .int .i64 m.fuse, .slice A1 m.made.length c1, .slice A2 m.wait.length c2] 42) := ⟨_, rfl⟩
  obtain ⟨wb, hwb⟩ : ∃ wb, wb = wa.alloc (.cells #[.int .i64 0, .bool false, .int .i64 0, .slice none 0 0, .slice none 0 0] 42) := ⟨_, rfl⟩
  have za : wa.heap.size = w.heap.size + 1 := by rw [hwa]; simp
  have zb : wb.heap.size = w.heap.size + 1 + 1 := by rw [hwb]; simp [za]
  have ba := balloc w (.cells #[.int .i64 m.count, .bool m.off, .int .i64 m.fuse, .slice A1 m.made.length c1, .slice A2 m.wait.length c2] 42)
  have bb := balloc wa (.cells #[.int .i64 0, .bool false, .int .i64 0, .slice none 0 0, .slice none 0 0] 42)
  have xa := BoxAt.new_ 42 w (encD m (.slice A1 m.made.length c1) (.slice A2 m.wait.length c2))
  have xb := BoxAt.new_ 42 wa zeroDc
  rw [za] at xb
  have xa4 : BoxAt 42 wb w.heap.size (encD m (.slice A1 m.made.length c1) (.slice A2 m.wait.length c2)) := by
    rw [hwb, hwa]; exact xa.alloc _
  have xb4 : BoxAt 42 wb (w.heap.size + 1) zeroDc := by
    rw [hwb]; exact xb
  rw [← hwa] at ba
  rw [← hwb] at bb
  have b4 : Below w.heap.size w wb := ba.trans (bb.mono (by omega))
  have Xa := Lib.hid xa4
  have Xb := Lib.hid xb4
  have B4 := Lib.hid b4
  have Hwa := Lib.hid hwa
  have Hwb := Lib.hid hwb
  have zb2 : w.heap.size + 1 < wb.heap.size := by omega
  have hvb := HV.out.below b4 hO
  have hdd := rdeed wb O _ m (fun k hk => by have := hO k hk; omega) hvb
  have HO := Lib.hid hO
  have Hvb := Lib.hid hvb
  have Hdd := Lib.hid hdd
  have hoff := xa4.cell 1 _ rfl
  clear xa xb b4 ba bb hwa hwb za zb h1 h2 hvb hdd hO
  have X1 := Lib.hid xa4.cells
  clear xa4 xb4
  by_cases ho : m.off = true
  · obtain ⟨e1, e2⟩ := sync_a ho
    have E1 := Lib.hid e1
    have E2 := Lib.hid e2
    rw [ho] at hoff
    have Ho := Lib.hid ho
    clear e1 e2 ho
    go_enter Try.func45, Try.ntmps45
    go_upto_region 1 with (fail)
    rw [← Hwa.out, ← Hwb.out]
    go_wp2_with (first
      | (refine wpList_load_agg rfl 42 (.tmp 1) rfl ⟨w.heap.size, 0, none⟩ rfl (encD m (.slice A1 m.made.length c1) (.slice A2 m.wait.length c2)) X1.out Try.underlying42 rfl (by kernel_rfl) ?_)
      | (refine wpList_store_box rfl 42 42 (.tmp 2) (.tmp 8) rfl (w.heap.size + 1) zeroDc (encD m (.slice A1 m.made.length c1) (.slice A2 m.wait.length c2)) rfl rfl Xb.out rfl (encD_one _ _ _ _ _ _ _) (by kernel_rfl) ?_; intro hend))
    have cy : Chg (fun k => k = w.heap.size + 1) wb (wb.setRow (w.heap.size + 1) (encD m (.slice A1 m.made.length c1) (.slice A2 m.wait.length c2)).toArray) := Chg.ofGrown (gsetRow' wb (w.heap.size + 1) _) (fun k e => by injection e with e; exact e.symm)
    have b9 := B4.out.trans (cy.below (by omega) (fun k hk => by omega))
    have v9 := Hvb.out.chg cy (fun k hk => ⟨by have := HO.out k hk; omega, by have := HO.out k hk; omega⟩)
    refine bodyPost_ret (results_ct rfl _ _ (w.heap.size + 1) (encD m (.slice A1 m.made.length c1) (.slice A2 m.wait.length c2)) rfl (fun j v hj => (hend.cells j v hj : _)) Try.underlying42 rfl (by kernel_rfl)) rfl ?_
    rw [E1.out, E2.out]
    exact ⟨_, rfl, v9.more (fun k hk => .inl hk), b9⟩
  have ho2 : m.off = false := by simpa using ho
  rw [ho2] at hoff
  have Ho := Lib.hid ho
  clear ho ho2
  go_enter Try.func45, Try.ntmps45
  go_upto_region 1 with (fail)
  rw [← Hwa.out, ← Hwb.out]
  go_wp2_with (refine wpList_load_agg rfl 42 (.tmp 1) rfl ⟨w.heap.size, 0, none⟩ rfl (encD m (.slice A1 m.made.length c1) (.slice A2 m.wait.length c2)) X1.out Try.underlying42 rfl (by kernel_rfl) ?_)
  refine Hdd.out.mono ?_
  rintro _ w2 ⟨v', rfl, hv2, hb2'⟩
  have hz2 := hb2'.size
  have x2 := Xa.out.blw hb2'
  have y2 := Xb.out.blw hb2'
  have B2 := Lib.hid (B4.out.trans (hb2'.mono (by omega)))
  have hmade := deedRD_made m
  have hwait := deedRD_wait m
  obtain ⟨dm, hdm⟩ : ∃ dm, dm = deedRD m := ⟨_, rfl⟩
  rw [← hdm] at hv2 hmade hwait
  have V2 := Lib.hid hv2
  obtain ⟨u1, u2, rfl, k1, k2, k3, k4⟩ := hv2
  obtain ⟨A3, c3, rfl, _⟩ := k1.form
  obtain ⟨A4, c4, rfl, q1, q2⟩ := k2.form
  unfold maxLen at q2
  have hw4 : dm.made.length + dm.wait.length ≤ 1000000 := by rw [hwait, hmade]; exact hm
  have X2 := Lib.hid x2
  have Y2 := Lib.hid y2
  have K3 := Lib.hid k3
  have K4 := Lib.hid k4
  have Hdm := Lib.hid hdm
  have Hwait := Lib.hid hwait
  clear x2 y2 hb2' hdm hmade hwait k1 k2 k3 k4 Hdd X1 Xa Xb B4 Hvb
  have hcx : ∀ cs : List Value, Chg (fun k => k = w.heap.size) w2 (w2.setRow w.heap.size cs.toArray) := fun cs => Chg.ofGrown (gsetRow' w2 w.heap.size _) (fun k e => by injection e with e; exact e.symm)
  have Hcx := Lib.hid hcx
  clear hcx
  by_cases hde : deedRE m ≠ 0
  · obtain ⟨e1, e2⟩ := sync_b Ho.out hde
    rw [← Hdm.out] at e2
    have E1 := Lib.hid e1
    have E2 := Lib.hid e2
    have hd : (deedRE m == 0) = false := beq_eq_false_iff_ne.2 hde
    clear e1 e2 hde
    generalize deedRE m = re at *
    go_wp2_with (first
      | (refine wpList_store_box rfl 42 42 (.tmp 1) (.tmp 12) rfl w.heap.size (encD m (.slice A1 m.made.length c1) (.slice A2 m.wait.length c2)) (encD dm (.slice A3 dm.made.length c3) (.slice A4 dm.wait.length c4)) rfl rfl X2.out rfl (encD_one _ _ _ _ _ _ _) (by kernel_rfl) ?_
         intro hx3
         have hx3c := Lib.hid hx3.cells
         have hy3 := Lib.hid (Y2.out.chg (Hcx.out (encD dm (.slice A3 dm.made.length c3) (.slice A4 dm.wait.length c4))) (by omega))
         clear hx3)
      | (refine wpList_load_agg rfl 42 (.tmp 1) rfl ⟨w.heap.size, 0, none⟩ rfl (encD dm (.slice A3 dm.made.length c3) (.slice A4 dm.wait.length c4)) hx3c.out Try.underlying42 rfl (by kernel_rfl) ?_)
      | (refine wpList_store_box rfl 42 42 (.tmp 2) (.tmp 16) rfl (w.heap.size + 1) zeroDc (encD dm (.slice A3 dm.made.length c3) (.slice A4 dm.wait.length c4)) rfl rfl hy3.out rfl (encD_one _ _ _ _ _ _ _) (by kernel_rfl) ?_; intro hend))
    have cx := Hcx.out (encD dm (.slice A3 dm.made.length c3) (.slice A4 dm.wait.length c4))
    generalize hW3 : w2.setRow w.heap.size (encD dm (.slice A3 dm.made.length c3) (.slice A4 dm.wait.length c4)).toArray = w3 at *
    have hz3 := cx.size
    have cy : Chg (fun k => k = w.heap.size + 1) w3 (w3.setRow (w.heap.size + 1) (encD dm (.slice A3 dm.made.length c3) (.slice A4 dm.wait.length c4)).toArray) := Chg.ofGrown (gsetRow' w3 (w.heap.size + 1) _) (fun k e => by injection e with e; exact e.symm)
    have b9 := (B2.out.trans (cx.below (by omega) (fun k hk => by omega))).trans (cy.below (by omega) (fun k hk => by omega))
    have v9 := (V2.out.chg cx (fun k hk => ⟨by have := HO.out k hk; omega, by have := HO.out k hk; omega⟩)).chg cy (fun k hk => ⟨by have := HO.out k hk; omega, by have := HO.out k hk; omega⟩)
    refine bodyPost_ret (results_ct rfl _ _ (w.heap.size + 1) (encD dm (.slice A3 dm.made.length c3) (.slice A4 dm.wait.length c4)) rfl (fun j v hj => (hend.cells j v hj : _)) Try.underlying42 rfl (by kernel_rfl)) rfl ?_
    rw [E1.out, E2.out]
    exact ⟨_, rfl, v9.more (fun k hk => .inl hk), b9⟩
  · obtain ⟨e1, e2⟩ := sync_c Ho.out hde
    rw [← Hdm.out, ← Hwait.out] at e2
    have E1 := Lib.hid e1
    have E2 := Lib.hid e2
    have hde0 : deedRE m = 0 := by simpa using hde
    rw [hde0]
    have cx := Hcx.out (encD dm (.slice A3 dm.made.length c3) (.slice A4 dm.wait.length c4))
    clear e1 e2 hde hde0
    obtain ⟨w3, hW3⟩ : ∃ w3, w3 = w2.setRow w.heap.size (encD dm (.slice A3 dm.made.length c3) (.slice A4 dm.wait.length c4)).toArray := ⟨_, rfl⟩
    rw [← hW3] at cx
    have hz3 := cx.size
    have B3 := Lib.hid (B2.out.trans (cx.below (by omega) (fun k hk => by omega)))
    have V3 := Lib.hid (V2.out.chg cx (fun k hk => ⟨by have := HO.out k hk; omega, by have := HO.out k hk; omega⟩))
    have HW3 := Lib.hid hW3
    have hy3 := Y2.out.chg cx (by omega)
    have Y3 := Lib.hid hy3
    clear cx hW3 hy3
    have hx3 : BoxAt 42 w3 w.heap.size (encD dm (.slice A3 dm.made.length c3) (.slice A4 dm.wait.length c4)) := by rw [HW3.out]; exact X2.out.setRow _
    have X3 := Lib.hid hx3
    have hc4 := hx3.cell 4 _ rfl
    clear hx3
    go_wp2_with (
      (refine wpList_store_box rfl 42 42 (.tmp 1) (.tmp 12) rfl w.heap.size (encD m (.slice A1 m.made.length c1) (.slice A2 m.wait.length c2)) (encD dm (.slice A3 dm.made.length c3) (.slice A4 dm.wait.length c4)) rfl rfl X2.out rfl (encD_one _ _ _ _ _ _ _) (by kernel_rfl) ?_
       intro _
       rw [← HW3.out]))
    have hOL : ∀ k, O k → k < w3.heap.size := fun k hk => by have := HO.out k hk; omega
    go_loopw [5, 21] (fun xv iv wr => ∃ (k : Nat) (A5 A6 : Option Addr) (c5 c6 : Nat), k ≤ dm.wait.length ∧ iv = .int .i64 k ∧
        BoxAt 42 wr w.heap.size (encD ((dm.wait.take k).foldl putRD dm) (.slice A5 ((dm.wait.take k).foldl putRD dm).made.length c5) (.slice A6 dm.wait.length c6)) ∧
        RDV wr (Onew O w3 wr) (.agg (encD ((dm.wait.take k).foldl putRD dm) (.slice A5 ((dm.wait.take k).foldl putRD dm).made.length c5) (.slice A6 dm.wait.length c6)).toArray) ((dm.wait.take k).foldl putRD dm) ∧
        BoxAt 42 wr (w.heap.size + 1) zeroDc ∧ Below w.heap.size w wr ∧ w3.heap.size ≤ wr.heap.size) (fun _ i _ => dm.wait.length - (intOf i).toNat)
    case atStart => exact ⟨0, A3, A4, c3, c4, by omega, rfl, X3.out, V3.out.more (fun k hk => .inl hk), Y3.out, B3.out, Nat.le_refl _⟩
    case round =>
      obtain ⟨k, A5, A6, c5, c6, hk, rfl, xr, vr, yr, br, hzr⟩ := hrel
      have hmw := foldl_putRD_wait (dm.wait.take k) dm
      have hml := foldl_putRD_made (dm.wait.take k) dm
      have htl : (dm.wait.take k).length ≤ k := List.length_take_le _ _
      have htk : ∀ hlt : k < dm.wait.length, (dm.wait.take (k + 1)).foldl putRD dm = putRD ((dm.wait.take k).foldl putRD dm) dm.wait[k] := fun hlt => by
        rw [List.take_add_one, List.getElem?_eq_getElem hlt, Option.toList_some, List.foldl_append]; rfl
      obtain ⟨mk, hmk⟩ : ∃ mk, mk = (dm.wait.take k).foldl putRD dm := ⟨_, rfl⟩
      rw [← hmk] at xr vr hmw hml
      have htk2 : ∀ hlt : k < dm.wait.length, (dm.wait.take (k + 1)).foldl putRD dm = putRD mk dm.wait[k] := fun hlt => by rw [htk hlt, hmk]
      have Hmk := Lib.hid hmk
      have Htk := Lib.hid htk2
      have Hmw := Lib.hid hmw
      have Xr := Lib.hid xr
      have Vr := Lib.hid vr
      have Yr := Lib.hid yr
      have Br := Lib.hid br
      have hmN : mk.made.length ≤ 1000000 := by omega
      have hOr : ∀ q, Onew O w3 wr q → q < wr.heap.size := fun q hq => by
        rcases hq with hq | hq
        · have := hOL q hq; omega
        · exact hq.2
      have HOr := Lib.hid hOr
      clear hmk htk2 htk hmw hml htl yr br hOr
      by_cases hlt : k < dm.wait.length
      · obtain ⟨u5, u6, ev, r5, r6, _, _⟩ := vr
        have hw2 : ByR wr (Onew O w3 wr) (.slice A6 dm.wait.length c6) dm.wait := by
          have e : (Value.slice A6 dm.wait.length c6) = u6 := by injection ev with ev; simp at ev; exact ev.2
          rw [e, ← Hmw.out]; exact r6
        obtain ⟨_, ad, rfl, hab, k1, k2⟩ := hw2.cells k hlt
        have hxl : (dm.wait[k]).2.length = 128 := hw2.ok _ (List.getElem_mem hlt)
        have habL := HOr.out _ hab
        have Htk1 := Lib.hid (Htk.out hlt)
        have Hab := Lib.hid hab
        clear r5 r6 ev hw2 xr hab
        generalize dm.wait[k] = x at *
        obtain ⟨x1, x2⟩ := x
        simp only at k1 k2 hxl
        have Hk1 := Lib.hid k1
        have Hk2 := Lib.hid k2
        clear k1 k2
        go_wp2_with fail
        refine wp_region_tail (ds := [24, 25, 26, 27, 28, 29, 30]) 7 [some 24, some 25, some 26, some 27, some 28, some 29, some 30]
          [Ph.is (.agg (encD mk (.slice A5 mk.made.length c5) (.slice (some ad) dm.wait.length c6)).toArray),
            Ph.is (.pointer (some ⟨w.heap.size, 4, none⟩)),
            Ph.is (.slice (some ad) dm.wait.length c6),
            Ph.is (.int .i64 (k : Int)),
            Ph.is (.pointer (some (ad.add (k * 2)))),
            Ph.is (.agg #[.int .i64 x1, .string (bst x2)]),
            Ph.rd O w3 hOL (putRD mk (x1, x2))] rfl rfl (by kernel_rfl) (by kernel_rfl) (by kernel_rfl) ?_ ?_
        · refine ⟨?_, ?_, ?_, ?_, ?_, ?_, ?_, trivial⟩
          · -- 0: slot 24 := Op.load 42 t1
            refine ob_yes fun f w' hb hp => ?_
            simp [PreOf, factOf, valOf, Ph.is, Ph.by_, Ph.any, Region.binds, Ph.rd] at hp
            refine ⟨by simp [Gd, valOf, hp], ?_⟩
            refine mild_val (.agg (encD mk (.slice A5 mk.made.length c5) (.slice (some ad) dm.wait.length c6)).toArray) ?_ rfl
            have hl := run_loadVar_cells w' ⟨w.heap.size, 0, none⟩ 42 (encD mk (.slice A5 mk.made.length c5) (.slice (some ad) dm.wait.length c6)) (Xr.out.blw hb).cells Try.underlying42 rfl (by kernel_rfl)
            simp only [execOp, evalF, List.contains_eq_mem, Instr.loadAt, Instr.sureAddr, Sem.run_bind, Sem.run_pure, Result.andThen_ok]
            simp [hp, hl]
          · -- 1: slot 25 := Op.fieldAddr 42 t1 4
            refine ob_yes fun f w' hb hp => ?_
            simp [PreOf, factOf, valOf, Ph.is, Ph.by_, Ph.any, Region.binds, Ph.rd] at hp
            refine ⟨by simp [Gd, valOf, hp], ?_⟩
            refine mild_val (.pointer (some ⟨w.heap.size, 4, none⟩)) ?_ rfl
            simp [execOp, evalF, hp, go_sem]
          · -- 2: slot 26 := Op.load 40 t25
            refine ob_yes fun f w' hb hp => ?_
            simp [PreOf, factOf, valOf, Ph.is, Ph.by_, Ph.any, Region.binds, Ph.rd] at hp
            refine ⟨by simp [Gd, valOf, hp], ?_⟩
            refine mild_val (.slice (some ad) dm.wait.length c6) ?_ rfl
            have hc := (Xr.out.blw hb).cell 4 _ rfl
            simp [execOp, evalF, hp, hc, go_sem]
          · -- 3: slot 27 := Op.move t5
            refine ob_yes fun f w' hb hp => ?_
            simp [PreOf, factOf, valOf, Ph.is, Ph.by_, Ph.any, Region.binds, Ph.rd] at hp
            refine ⟨by simp [Gd, valOf, hp], ?_⟩
            refine mild_val (.int .i64 (k : Int)) ?_ rfl
            simp [execOp, evalF, hp]
          · -- 4: slot 28 := Op.indexAddr 40 t26 t27
            refine ob_yes fun f w' hb hp => ?_
            simp [PreOf, factOf, valOf, Ph.is, Ph.by_, Ph.any, Region.binds, Ph.rd] at hp
            refine ⟨by simp [Gd, valOf, hp], ?_⟩
            refine mild_val (.pointer (some (ad.add (k * 2)))) ?_ rfl
            simp [execOp, evalF, hp, go_sem, hlt]
          · -- 5: slot 29 := Op.load 124 t28
            refine ob_yes fun f w' hb hp => ?_
            simp [PreOf, factOf, valOf, Ph.is, Ph.by_, Ph.any, Region.binds, Ph.rd] at hp
            refine ⟨by simp [Gd, valOf, hp], ?_⟩
            refine mild_val (.agg #[.int .i64 x1, .string (bst x2)]) ?_ rfl
            have c1 := (hb.cell (p := ad.add (k * 2)) (by rw [add_block]; exact habL)).trans Hk1.out
            have c2 := (hb.cell (p := { block := (ad.add (k * 2)).block, off := (ad.add (k * 2)).off + 1 }) (by show (ad.add (k * 2)).block < _; rw [add_block]; exact habL)).trans Hk2.out
            simp [execOp, evalF, hp, go_sem, c1, c2]
          · -- 6: slot 30 := Op.call   value (Operand.func 72), args := #[t24, t29], argTypes := #[42, 124]  
            refine ob_yes fun f w' hb hp => ?_
            simp [PreOf, factOf, valOf, Ph.is, Ph.by_, Ph.any, Region.binds, Ph.rd] at hp
            refine ⟨by simp [Gd, valOf, hp], ?_⟩
            refine mild_call 72 _ _ Try.f72 Try.func72 (by kernel_rfl) (by kernel_rfl) rfl ?_
            simp [evalF, hp, Ph.is, Ph.by_, Ph.any, Ph.rd]
            have hr := rput w' (Onew O w3 wr) _ mk x1 x2 (fun q hq => Nat.lt_of_lt_of_le (HOr.out q hq) hb.size) hmN hxl (Vr.out.below hb HOr.out)
            refine hr.mono ?_
            rintro _ w7 ⟨v7, rfl, hv7, hb7⟩
            refine ⟨v7, rfl, hb7, hv7.more (fun q hq => ?_), by have := hb.size; have := hb7.size; omega⟩
            rcases hq with (hq | hq) | hq
            · exact .inl hq
            · exact .inr ⟨hq.1, by have := hb.size; have := hb7.size; omega⟩
            · exact .inr ⟨by have := hb.size; omega, hq.2⟩
        · intro f w2 hb2 hp
          simp only [PostOf, Ph.is, Ph.by_, Ph.any, Ph.rd] at hp
          obtain ⟨h0, h1, h2, h3, h4, h5, h6, _⟩ := hp
          simp only [fills, List.foldl_cons, List.foldl_nil, Act.put, List.setIfInBounds_toArray, List.set_cons_zero, List.set_cons_succ, h0, h1, h2, h3, h4, h5]
          clear h0 h1 h2 h3 h4 h5
          generalize f 30 = v30 at *
          simp only [List.drop_succ_cons, List.drop_zero]
          obtain ⟨⟨u7, u8, rfl, r7, r8, g3, g4⟩, hzL⟩ := h6
          have hpw : (putRD mk (x1, x2)).wait = dm.wait := Hmw.out
          rw [hpw] at r8
          obtain ⟨A7, c7, rfl, _⟩ := r7.form
          obtain ⟨A8, c8, rfl, _⟩ := r8.form
          have xr2 := Xr.out.blw hb2
          have yr2 := Yr.out.blw hb2
          have br2 := Br.out.trans (hb2.mono (by omega))
          have hz2' := hb2.size
          have Yr2 := Lib.hid yr2
          have Br2 := Lib.hid br2
          have R7 := Lib.hid r7
          have R8 := Lib.hid r8
          have Hb2 := Lib.hid hb2
          clear yr2 br2 r7 r8 hb2
          go_wp2_with (refine wpList_store_box rfl 42 42 (.tmp 1) (.tmp 30) rfl w.heap.size (encD mk (.slice A5 mk.made.length c5) (.slice (some ad) dm.wait.length c6)) (encD (putRD mk (x1, x2)) (.slice A7 (putRD mk (x1, x2)).made.length c7) (.slice A8 dm.wait.length c8)) rfl (by rw [← hpw]; rfl) xr2 rfl (encD_one _ _ _ _ _ _ _) (by kernel_rfl) ?_; intro hx9)
          have cx9 : Chg (fun q => q = w.heap.size) w2 (w2.setRow w.heap.size (encD (putRD mk (x1, x2)) (.slice A7 (putRD mk (x1, x2)).made.length c7) (.slice A8 dm.wait.length c8)).toArray) := Chg.ofGrown (gsetRow' w2 w.heap.size _) (fun k e => by injection e with e; exact e.symm)
          generalize w2.setRow w.heap.size (encD (putRD mk (x1, x2)) (.slice A7 (putRD mk (x1, x2)).made.length c7) (.slice A8 dm.wait.length c8)).toArray = w9 at *
          have hz9 := cx9.size
          have ho9 : ∀ q, Onew O w3 w2 q → q < w2.heap.size ∧ ¬ q = w.heap.size := fun q hq => by
            rcases hq with hq | hq
            · have := HO.out q hq; exact ⟨by omega, by omega⟩
            · exact ⟨hq.2, by have := hq.1; omega⟩
          have hn9 : ∀ q, Onew O w3 w2 q → Onew O w3 w9 q := fun q hq => by
            rcases hq with hq | hq
            · exact .inl hq
            · exact .inr ⟨hq.1, by have := hq.2; omega⟩
          have r79 := (R7.out.chg cx9 ho9).more hn9
          have r89 := (R8.out.chg cx9 ho9).more hn9
          have yr9 := Yr2.out.chg cx9 (by omega)
          have br9 := Br2.out.trans (cx9.below (by omega) (fun k hk => by omega))
          go_roundw
          case rel =>
            refine ⟨k + 1, A7, A8, c7, c8, by omega, by go_num, ?_⟩
            rw [Htk1.out]
            exact ⟨hx9, RDV.mk' (m := putRD mk (x1, x2)) r79 (by rw [hpw]; exact r89) g3 g4, yr9, br9, by omega⟩
          case measure => simp [intOf]; omega
      · obtain rfl : k = dm.wait.length := by omega
        rw [List.take_length] at Hmk
        obtain ⟨u5, u6, ev, r5, r6, g3, g4⟩ := vr
        have e5 : (Value.slice A5 mk.made.length c5) = u5 := by injection ev with ev; simp at ev; exact ev.1
        rw [← e5] at r5
        have xl := xr.alloc (.cells #[] 124)
        have c4x := xl.cell 4 _ rfl
        have f4x := xl.frozen 4
        have Hload := Lib.hid (xl.put 4 (.slice (some ⟨wr.heap.size, 0, none⟩) 0 0)).cells
        have Hst := Lib.hid ((Yr.out.alloc (.cells #[] 124)).other ⟨w.heap.size, 4, none⟩ (.slice (some ⟨wr.heap.size, 0, none⟩) 0 0) (by show w.heap.size ≠ w.heap.size + 1; omega))
        have R5 := Lib.hid r5
        clear xr xl r5 r6 ev e5 Vr
        go_wp2_with (first
          | (refine wpList_load_agg rfl 42 (.tmp 1) rfl ⟨w.heap.size, 0, none⟩ rfl (encD ⟨mk.count, mk.off, mk.fuse, mk.made, []⟩ (.slice A5 mk.made.length c5) (.slice (some ⟨wr.heap.size, 0, none⟩) 0 0)) Hload.out Try.underlying42 rfl (by kernel_rfl) ?_)
          | (refine wpList_store_box rfl 42 42 (.tmp 2) (.tmp 34) rfl (w.heap.size + 1) zeroDc (encD ⟨mk.count, mk.off, mk.fuse, mk.made, []⟩ (.slice A5 mk.made.length c5) (.slice (some ⟨wr.heap.size, 0, none⟩) 0 0)) rfl rfl Hst.out rfl (encD_one _ _ _ _ _ _ _) (by kernel_rfl) ?_; intro hend))
        have g1 : Chg (fun k => k = w.heap.size ∨ k = w.heap.size + 1) wr ((wr.alloc (.cells #[] 124)).setCell ⟨w.heap.size, 4, none⟩ (.slice (some ⟨wr.heap.size, 0, none⟩) 0 0)) := (Chg.ofBelow (balloc wr _)).trans (Chg.set _ _ _ (.inl rfl))
        generalize hWx : (wr.alloc (.cells #[] 124)).setCell ⟨w.heap.size, 4, none⟩ (.slice (some ⟨wr.heap.size, 0, none⟩) 0 0) = Wx at *
        have g2 : Chg (fun k => k = w.heap.size ∨ k = w.heap.size + 1) wr (Wx.setRow (w.heap.size + 1) (encD ⟨mk.count, mk.off, mk.fuse, mk.made, []⟩ (.slice A5 mk.made.length c5) (.slice (some ⟨wr.heap.size, 0, none⟩) 0 0)).toArray) := g1.trans (Chg.ofGrown (gsetRow' Wx (w.heap.size + 1) _) (fun k e => .inr (by injection e with e; exact e.symm)))
        have hWz : wr.heap.size < (Wx.setRow (w.heap.size + 1) (encD ⟨mk.count, mk.off, mk.fuse, mk.made, []⟩ (.slice A5 mk.made.length c5) (.slice (some ⟨wr.heap.size, 0, none⟩) 0 0)).toArray).heap.size := by
          rw [← hWx]; simp [World.setCell]
        have hrow : ByR (Wx.setRow (w.heap.size + 1) (encD ⟨mk.count, mk.off, mk.fuse, mk.made, []⟩ (.slice A5 mk.made.length c5) (.slice (some ⟨wr.heap.size, 0, none⟩) 0 0)).toArray) (Onew O w (Wx.setRow (w.heap.size + 1) (encD ⟨mk.count, mk.off, mk.fuse, mk.made, []⟩ (.slice A5 mk.made.length c5) (.slice (some ⟨wr.heap.size, 0, none⟩) 0 0)).toArray)) (.slice (some ⟨wr.heap.size, 0, none⟩) 0 0) [] := ⟨_, _, rfl, Nat.le_refl _, Nat.zero_le _, fun hn => absurd hn (by simp)⟩
        generalize Wx.setRow (w.heap.size + 1) (encD ⟨mk.count, mk.off, mk.fuse, mk.made, []⟩ (.slice A5 mk.made.length c5) (.slice (some ⟨wr.heap.size, 0, none⟩) 0 0)).toArray = Wy at *
        have k3 := (R5.out.chg g2 (fun q hq => by
          rcases hq with hq | hq
          · have := HO.out q hq; exact ⟨by omega, by omega⟩
          · exact ⟨hq.2, by have := hq.1; omega⟩)).more (O' := Onew O w Wy) (fun q hq => by
          rcases hq with hq | hq
          · exact .inl hq
          · exact .inr ⟨by have := hq.1; omega, by have := hq.2; omega⟩)
        refine bodyPost_ret (results_ct rfl _ _ (w.heap.size + 1) (encD ⟨mk.count, mk.off, mk.fuse, mk.made, []⟩ (.slice A5 mk.made.length c5) (.slice (some ⟨wr.heap.size, 0, none⟩) 0 0)) rfl (fun j v hj => (hend.cells j v hj : _)) Try.underlying42 rfl (by kernel_rfl)) rfl ?_
        rw [E1.out, E2.out, ← Hmk.out]
        exact ⟨_, rfl, RDV.mk' (m := ⟨mk.count, mk.off, mk.fuse, mk.made, []⟩) k3 hrow g3 g4, Br.out.trans (g2.below (by omega) (fun k hk => by omega))⟩
end Go.Proofs.Ytpoicbhbkabllaa
