/- The document's disks: Back (printed by wip/gen/rdisk7.py) -/
import Derived.Test.YtpoicbhbkabllaaRDisk6
namespace Go.Proofs.Ytpoicbhbkabllaa
set_option linter.unusedSimpArgs false
set_option linter.unusedVariables false
open Go.RowKit

theorem bst_append (a b : List UInt8) : bst (a ++ b) = bst a ++ bst b := by
  apply ByteArray.ext
  simp [bst]
theorem bst_take (l : List UInt8) (k : Nat) : (bst l).extract 0 k = bst (l.take k) := by
  apply ByteArray.ext
  simp [bst]
theorem bst_drop (l : List UInt8) (k : Nat) : (bst l).extract k l.length = bst (l.drop k) := by
  apply ByteArray.ext
  simp [bst, List.take_of_length_le]
theorem backRS_wait (keep torn k : Nat) (x : RW) (m : RD) : (backRS keep torn k x m).wait = m.wait := by unfold backRS; split <;> (try split) <;> rfl
theorem backRS_made (keep torn k : Nat) (x : RW) (m : RD) : (backRS keep torn k x m).made.length ≤ m.made.length + 1 := by
  unfold backRS
  split
  · exact putMade_len _ _
  · split
    · exact putMade_len _ _
    · omega
theorem backRL_snoc (keep torn : Nat) (wt : List RW) (x : RW) : ∀ (k : Nat) (m : RD), backRL keep torn k (wt ++ [x]) m = backRS keep torn (k + wt.length) x (backRL keep torn k wt m) := by
  induction wt with
  | nil => intro k m; rfl
  | cons y t ih => intro k m; rw [List.cons_append, backRL, ih, backRL]; congr 1; simp; omega
theorem backRL_wait (keep torn : Nat) (wt : List RW) : ∀ (k : Nat) (m : RD), (backRL keep torn k wt m).wait = m.wait := by
  induction wt with
  | nil => intro k m; rfl
  | cons y t ih => intro k m; rw [backRL, ih, backRS_wait]
theorem backRL_made (keep torn : Nat) (wt : List RW) : ∀ (k : Nat) (m : RD), (backRL keep torn k wt m).made.length ≤ m.made.length + wt.length := by
  induction wt with
  | nil => intro k m; simp [backRL]
  | cons y t ih =>
    intro k m
    rw [backRL, List.length_cons]
    have h1 := ih (k + 1) (backRS keep torn k y m)
    have h2 := backRS_made keep torn k y m
    omega
set_option maxRecDepth 100000 in
set_option maxHeartbeats 6400000 in
theorem rback (w : World) (O : Nat → Prop) (v : Value) (m : RD) (keep torn : Nat) (hkp : keep < 18446744073709551616) (htn : torn < 18446744073709551616) (hO : ∀ k, O k → k < w.heap.size) (hm : m.made.length + m.wait.length ≤ 1000000) (h : RDV w O v m) :
    Calls Try.prog 46 #[v, .int .u64 (keep : Int), .int .u64 (torn : Int)] w fun e w' => ∃ v', e = .returned v' ∧ RDV w' (Onew O w w') v' (backRD m keep torn) ∧ Below w.heap.size w w' := by
  have HV := Lib.hid h
  obtain ⟨v1, v2, rfl, h1, h2, h3, h4⟩ := h
  obtain ⟨A1, c1, rfl, hc1, hc2⟩ := h1.form
  obtain ⟨A2, c2, rfl, hd1, hd2⟩ := h2.form
  unfold maxLen at hc2 hd2
  -- the boxes
  obtain ⟨wa, hwa⟩ : ∃ wa, wa = w.alloc (.cells #[.int .i64 m.count, .bool m.off, .int .i64 m.fuse, .slice A1 m.made.length c1, .slice A2 m.wait.length c2] 42) := ⟨_, rfl⟩
  obtain ⟨wb, hwb⟩ : ∃ wb, wb = wa.alloc (.cells #[.int .i64 0, .bool false, .int .i64 0, .slice none 0 0, .slice none 0 0] 42) := ⟨_, rfl⟩
  have za : wa.heap.size = w.heap.size + 1 := by rw [hwa]; simp
  have zb : wb.heap.size = w.heap.size + 1 + 1 := by rw [hwb]; simp [za]
  have ba := balloc w (.cells #[.int .i64 m.count, .bool m.off, .int .i64 m.fuse, .slice A1 m.made.length c1, .slice A2 m.wait.length c2] 42)
  have bb := balloc wa (.cells #[.int .i64 0, .bool false, .int .i64 0, .slice none 0 0, .slice none 0 0] 42)
  have xa := BoxAt.new_ 42 w (encD m (.slice A1 m.made.length c1) (.slice A2 m.wait.length c2))
  have xb := BoxAt.new_ 42 wa zeroDc
  rw [za] at xb
  have xa4 : BoxAt 42 wb w.heap.size (encD m (.slice A1 m.made.length c1) (.slice A2 m.wait.length c2)) := by
    rw [hwb, hwa]; exact xa.alloc _
  have xb4 : BoxAt 42 wb (w.heap.size + 1) zeroDc := by
    rw [hwb]; exact xb
  rw [← hwa] at ba
  rw [← hwb] at bb
  have b4 : Below w.heap.size w wb := ba.trans (bb.mono (by omega))
  have Xa := Lib.hid xa4
  have Xb := Lib.hid xb4
  have B4 := Lib.hid b4
  have Hwa := Lib.hid hwa
  have Hwb := Lib.hid hwb
  have zb2 : w.heap.size + 1 < wb.heap.size := by omega
  have hvb := HV.out.below b4 hO
  have HO := Lib.hid hO
  have V3 := Lib.hid hvb
  have hc4 := xa4.cell 4 _ rfl
  have hOL : ∀ k, O k → k < wb.heap.size := fun k hk => by have := hO k hk; omega
  clear xa xb b4 ba bb hwa hwb za zb h1 h2 hvb hO xa4 xb4
  have e2 : backRD m keep torn = { backRL keep torn 0 m.wait m with wait := [], off := false, fuse := -1 } := rfl
  have E2 := Lib.hid e2
  clear e2
  go_enter Try.func46, Try.ntmps46
  go_upto_region 1 with (fail)
  rw [← Hwa.out, ← Hwb.out]
  go_wp2_with fail
  have hz0 : True := trivial
  go_loopw [7, 8, 12] (fun xv bv iv wr => ∃ (k : Nat) (A5 A6 : Option Addr) (c5 c6 : Nat), k ≤ m.wait.length ∧ iv = .int .i64 k ∧
        BoxAt 42 wr w.heap.size (encD (backRL keep torn 0 (m.wait.take k) m) (.slice A5 (backRL keep torn 0 (m.wait.take k) m).made.length c5) (.slice A6 m.wait.length c6)) ∧
        RDV wr (Onew O wb wr) (.agg (encD (backRL keep torn 0 (m.wait.take k) m) (.slice A5 (backRL keep torn 0 (m.wait.take k) m).made.length c5) (.slice A6 m.wait.length c6)).toArray) (backRL keep torn 0 (m.wait.take k) m) ∧
        BoxAt 42 wr (w.heap.size + 1) zeroDc ∧ Below w.heap.size w wr ∧ wb.heap.size ≤ wr.heap.size) (fun _ _ i _ => m.wait.length - (intOf i).toNat)
  case atStart => exact ⟨0, A1, A2, c1, c2, by omega, rfl, Xa.out, V3.out.more (fun k hk => .inl hk), Xb.out, B4.out, Nat.le_refl _⟩
  case round =>
    obtain ⟨k, A5, A6, c5, c6, hk, rfl, xr, vr, yr, br, hzr⟩ := hrel
    have hmw := backRL_wait keep torn (m.wait.take k) 0 m
    have hml := backRL_made keep torn (m.wait.take k) 0 m
    have htl : (m.wait.take k).length ≤ k := List.length_take_le _ _
    have htk : ∀ hlt : k < m.wait.length, backRL keep torn 0 (m.wait.take (k + 1)) m = backRS keep torn k m.wait[k] (backRL keep torn 0 (m.wait.take k) m) := fun hlt => by
      rw [List.take_add_one, List.getElem?_eq_getElem hlt, Option.toList_some, backRL_snoc, List.length_take, Nat.min_eq_left (by omega), Nat.zero_add]
    obtain ⟨mk, hmk⟩ : ∃ mk, mk = backRL keep torn 0 (m.wait.take k) m := ⟨_, rfl⟩
    rw [← hmk] at xr vr hmw hml
    have htk2 : ∀ hlt : k < m.wait.length, backRL keep torn 0 (m.wait.take (k + 1)) m = backRS keep torn k m.wait[k] mk := fun hlt => by rw [htk hlt, hmk]
    have Hmk := Lib.hid hmk
    have Htk := Lib.hid htk2
    have Hmw := Lib.hid hmw
    have Xr := Lib.hid xr
    have Vr := Lib.hid vr
    have Yr := Lib.hid yr
    have Br := Lib.hid br
    have hmN : mk.made.length ≤ 1000000 := by omega
    have hOr : ∀ q, Onew O wb wr q → q < wr.heap.size := fun q hq => by
      rcases hq with hq | hq
      · have := hOL q hq; omega
      · exact hq.2
    have HOr := Lib.hid hOr
    clear hmk htk2 htk hmw hml htl yr br hOr
    by_cases hlt : k < m.wait.length
    · obtain ⟨u5, u6, ev, r5, r6, _, _⟩ := vr
      have hw2 : ByR wr (Onew O wb wr) (.slice A6 m.wait.length c6) m.wait := by
        have e : (Value.slice A6 m.wait.length c6) = u6 := by injection ev with ev; simp at ev; exact ev.2
        rw [e, ← Hmw.out]; exact r6
      obtain ⟨_, ad, rfl, hab, k1, k2⟩ := hw2.cells k hlt
      have hxl : (m.wait[k]).2.length = 128 := hw2.ok _ (List.getElem_mem hlt)
      have habL := HOr.out _ hab
      have htk1 := Htk.out hlt
      clear r5 r6 ev hw2 hab hc4
      generalize m.wait[k] = x at *
      obtain ⟨x1, x2⟩ := x
      simp only at k1 k2 hxl
      have hc4 := xr.cell 4 _ rfl
      have hkm : k ≤ 1000000 := by omega
      have hbx := BoxAt.new_ 124 wr [.int .i64 x1, .string (bst x2)]
      have hb8 := balloc wr (.cells #[.int .i64 x1, .string (bst x2)] 124)
      have hz8 : wr.heap.size < (wr.alloc (.cells #[.int .i64 x1, .string (bst x2)] 124)).heap.size := by simp
      have Hbx := Lib.hid hbx
      have Xr8 := Lib.hid (Xr.out.blw hb8)
      have Yr8 := Lib.hid (Yr.out.blw hb8)
      have Vr8 := Lib.hid (Vr.out.below hb8 HOr.out)
      have Br8 := Lib.hid (Br.out.trans (hb8.mono (by omega)))
      have Hb8 := Lib.hid hb8
      have Hbit1 := Lib.hid (fun W => rbit W keep k hkp hkm)
      have Hbit2 := Lib.hid (fun W => rbit W torn k htn hkm)
      clear xr hbx hb8
      unfold backRS at htk1
      have HOr8 : ∀ q, Onew O wb wr q → q < (wr.alloc (.cells #[.int .i64 x1, .string (bst x2)] 124)).heap.size := fun q hq => by have := HOr.out q hq; omega
      have HOr8 := Lib.hid HOr8
      cases hbk : bitAt keep k with
      | true =>
        rw [hbk] at Hbit1 htk1
        rw [if_pos rfl] at htk1
        have Htk1 := Lib.hid htk1
        clear htk1 hbk Hbit2
        go_wp2_with fail
        have hbc := Hbx.out.cells
        generalize wr.alloc (.cells #[.int .i64 x1, .string (bst x2)] 124) = w8 at *
        refine (Hbit1.out _).mono ?_
        rintro _ _ ⟨rfl, rfl⟩
        have hrp := rput w8 (Onew O wb wr) _ mk x1 x2 HOr8.out hmN hxl Vr8.out
        have Hrp := Lib.hid hrp
        have Hbc := Lib.hid hbc
        have Hxc := Lib.hid Xr8.out.cells
        clear hrp hbc hc4
        go_wp2_with (first
          | (refine wpList_load_agg rfl 42 (.tmp 3) rfl ⟨w.heap.size, 0, none⟩ rfl (encD mk (.slice A5 mk.made.length c5) (.slice (some ad) m.wait.length c6)) Hxc.out Try.underlying42 rfl (by kernel_rfl) ?_)
          | (refine wpList_load_agg rfl 124 (.tmp 8) rfl ⟨wr.heap.size, 0, none⟩ rfl [.int .i64 x1, .string (bst x2)] Hbc.out Try.underlying124 rfl (by kernel_rfl) ?_))
        refine Hrp.out.mono ?_
        rintro _ w9 ⟨v9, rfl, hv9, hb9⟩
        have hv9 : RDV w9 (Onew O wb w9) v9 (putRD mk (x1, x2)) := hv9.more (fun q hq => by
          rcases hq with (hq | hq) | hq
          · exact .inl hq
          · exact .inr ⟨hq.1, by have := hb9.size; omega⟩
          · exact .inr ⟨by omega, hq.2⟩)
        obtain ⟨u7, u8, rfl, r7, r8, g3, g4⟩ := hv9
        have hpw : (putRD mk (x1, x2)).wait = m.wait := Hmw.out
        rw [hpw] at r8
        obtain ⟨A7, c7, rfl, _⟩ := r7.form
        obtain ⟨A8, c8, rfl, _⟩ := r8.form
        have xr2 := Xr8.out.blw hb9
        have Yr2 := Lib.hid (Yr8.out.blw hb9)
        have Br2 := Lib.hid (Br8.out.trans (hb9.mono (by omega)))
        have hz9' := hb9.size
        have R7 := Lib.hid r7
        have R8 := Lib.hid r8
        clear r7 r8 hb9
        go_wp2_with (refine wpList_store_box rfl 42 42 (.tmp 3) (.tmp 25) rfl w.heap.size (encD mk (.slice A5 mk.made.length c5) (.slice (some ad) m.wait.length c6)) (encD (putRD mk (x1, x2)) (.slice A7 (putRD mk (x1, x2)).made.length c7) (.slice A8 m.wait.length c8)) rfl (by rw [← hpw]; rfl) xr2 rfl (encD_one _ _ _ _ _ _ _) (by kernel_rfl) ?_; intro hx9)
        have cx9 : Chg (fun q => q = w.heap.size) w9 (w9.setRow w.heap.size (encD (putRD mk (x1, x2)) (.slice A7 (putRD mk (x1, x2)).made.length c7) (.slice A8 m.wait.length c8)).toArray) := Chg.ofGrown (gsetRow' w9 w.heap.size _) (fun k e => by injection e with e; exact e.symm)
        generalize w9.setRow w.heap.size (encD (putRD mk (x1, x2)) (.slice A7 (putRD mk (x1, x2)).made.length c7) (.slice A8 m.wait.length c8)).toArray = wz at *
        have hzz := cx9.size
        have ho9 : ∀ q, Onew O wb w9 q → q < w9.heap.size ∧ ¬ q = w.heap.size := fun q hq => by
          rcases hq with hq | hq
          · have := HO.out q hq; exact ⟨by omega, by omega⟩
          · exact ⟨hq.2, by have := hq.1; omega⟩
        have hn9 : ∀ q, Onew O wb w9 q → Onew O wb wz q := fun q hq => by
          rcases hq with hq | hq
          · exact .inl hq
          · exact .inr ⟨hq.1, by have := hq.2; omega⟩
        have r79 := (R7.out.chg cx9 ho9).more hn9
        have r89 := (R8.out.chg cx9 ho9).more hn9
        have yr9 := Yr2.out.chg cx9 (by omega)
        have br9 := Br2.out.trans (cx9.below (by omega) (fun k hk => by omega))
        go_roundw
        case rel =>
          refine ⟨k + 1, A7, A8, c7, c8, by omega, by go_num, ?_⟩
          rw [Htk1.out]
          exact ⟨hx9, RDV.mk' (m := putRD mk (x1, x2)) r79 (by rw [hpw]; exact r89) g3 g4, yr9, br9, by omega⟩
        case measure => simp [intOf]; omega
      | false =>
        rw [hbk] at Hbit1 htk1
        rw [if_neg (by simp)] at htk1
        cases hbt : bitAt torn k with
        | true =>
          rw [hbt] at Hbit2 htk1
          rw [if_pos rfl] at htk1
          have Htk1 := Lib.hid htk1
          have hgl := lastR_len (l := mk.made) (fun x hx => by
            obtain ⟨u5, u6, ev, r5, r6, _, _⟩ := Vr.out
            exact r5.ok x hx) x1 zerosL zerosL_len
          have hgl2 : (goodR mk x1).length = 128 := hgl
          have htl2 : (x2.take 64 ++ (goodR mk x1).drop 64).length = 128 := by rw [List.length_append, List.length_take, List.length_drop, hgl2, hxl]; rfl
          have Hgl := Lib.hid hgl2
          have Htl := Lib.hid htl2
          clear htk1 hbk hbt hgl hgl2 htl2
          go_wp2_with fail
          generalize wr.alloc (.cells #[.int .i64 x1, .string (bst x2)] 124) = w8 at *
          refine (Hbit1.out _).mono ?_
          rintro _ _ ⟨rfl, rfl⟩
          go_wp2_with fail
          refine (Hbit2.out _).mono ?_
          rintro _ _ ⟨rfl, rfl⟩
          go_wp2_with fail
          refine wp_region_tail (ds := [29, 30, 31, 32, 33, 34, 35, 36, 37, 38, 39, 40, 41, 42]) 14 [some 29, some 30, some 31, some 32, some 33, some 34, some 35, some 36, some 37, some 38, some 39, some 40, some 41, some 42]
            [Ph.is (.agg (encD mk (.slice A5 mk.made.length c5) (.slice (some ad) m.wait.length c6)).toArray),
              Ph.is (.pointer (some ⟨wr.heap.size, 0, none⟩)),
              Ph.is (.int .i64 x1),
              Ph.is (.pointer (some ⟨wr.heap.size, 1, none⟩)),
              Ph.is (.string (bst x2)),
              Ph.is (.string (bst (x2.take 64))),
              Ph.is (.agg (encD mk (.slice A5 mk.made.length c5) (.slice (some ad) m.wait.length c6)).toArray),
              Ph.is (.pointer (some ⟨wr.heap.size, 0, none⟩)),
              Ph.is (.int .i64 x1),
              Ph.is (.string (bst (goodR mk x1))),
              Ph.is (.string (bst ((goodR mk x1).drop 64))),
              Ph.is (.string (bst (x2.take 64 ++ (goodR mk x1).drop 64))),
              Ph.is (.agg #[.int .i64 x1, .string (bst (x2.take 64 ++ (goodR mk x1).drop 64))]),
              Ph.rd O wb hOL (putRD mk (x1, x2.take 64 ++ (goodR mk x1).drop 64))] rfl rfl (by kernel_rfl) (by kernel_rfl) (by kernel_rfl) ?_ ?_
          · refine ⟨?_, ?_, ?_, ?_, ?_, ?_, ?_, ?_, ?_, ?_, ?_, ?_, ?_, ?_, trivial⟩
            · -- 0: slot 29 := Op.load 42 t3
              refine ob_yes fun f w' hb hp => ?_
              simp [PreOf, factOf, valOf, Ph.is, Ph.by_, Ph.any, Region.binds, Ph.rd] at hp
              refine ⟨by simp [Gd, valOf, hp], ?_⟩
              refine mild_val (.agg (encD mk (.slice A5 mk.made.length c5) (.slice (some ad) m.wait.length c6)).toArray) ?_ rfl
              have hl := run_loadVar_cells w' ⟨w.heap.size, 0, none⟩ 42 (encD mk (.slice A5 mk.made.length c5) (.slice (some ad) m.wait.length c6)) (Xr8.out.blw hb).cells Try.underlying42 rfl (by kernel_rfl)
              simp only [execOp, evalF, List.contains_eq_mem, Instr.loadAt, Instr.sureAddr, Sem.run_bind, Sem.run_pure, Result.andThen_ok]
              simp [hp, hl]
            · -- 1: slot 30 := Op.fieldAddr 124 t8 0
              refine ob_yes fun f w' hb hp => ?_
              simp [PreOf, factOf, valOf, Ph.is, Ph.by_, Ph.any, Region.binds, Ph.rd] at hp
              refine ⟨by simp [Gd, valOf, hp], ?_⟩
              refine mild_val (.pointer (some ⟨wr.heap.size, 0, none⟩)) ?_ rfl
              simp [execOp, evalF, hp, go_sem]
            · -- 2: slot 31 := Op.load 3 t30
              refine ob_yes fun f w' hb hp => ?_
              simp [PreOf, factOf, valOf, Ph.is, Ph.by_, Ph.any, Region.binds, Ph.rd] at hp
              refine ⟨by simp [Gd, valOf, hp], ?_⟩
              refine mild_val (.int .i64 x1) ?_ rfl
              have hc := (Hbx.out.blw hb).cell 0 _ rfl
              simp [execOp, evalF, hp, hc, go_sem]
            · -- 3: slot 32 := Op.fieldAddr 124 t8 1
              refine ob_yes fun f w' hb hp => ?_
              simp [PreOf, factOf, valOf, Ph.is, Ph.by_, Ph.any, Region.binds, Ph.rd] at hp
              refine ⟨by simp [Gd, valOf, hp], ?_⟩
              refine mild_val (.pointer (some ⟨wr.heap.size, 1, none⟩)) ?_ rfl
              simp [execOp, evalF, hp, go_sem]
            · -- 4: slot 33 := Op.load 9 t32
              refine ob_yes fun f w' hb hp => ?_
              simp [PreOf, factOf, valOf, Ph.is, Ph.by_, Ph.any, Region.binds, Ph.rd] at hp
              refine ⟨by simp [Gd, valOf, hp], ?_⟩
              refine mild_val (.string (bst x2)) ?_ rfl
              have hc := (Hbx.out.blw hb).cell 1 _ rfl
              simp [execOp, evalF, hp, hc, go_sem]
            · -- 5: slot 34 := Op.slice 9 t33 none (some (const (64:i64))) none
              refine ob_yes fun f w' hb hp => ?_
              simp [PreOf, factOf, valOf, Ph.is, Ph.by_, Ph.any, Region.binds, Ph.rd] at hp
              refine ⟨by simp [Gd, valOf, hp], ?_⟩
              refine mild_val (.string (bst (x2.take 64))) ?_ rfl
              have hsz : (bst x2).size = 128 := hxl
              simp [execOp, evalF, hp, go_sem, hsz, bst_take]
            · -- 6: slot 35 := Op.load 42 t3
              refine ob_yes fun f w' hb hp => ?_
              simp [PreOf, factOf, valOf, Ph.is, Ph.by_, Ph.any, Region.binds, Ph.rd] at hp
              refine ⟨by simp [Gd, valOf, hp], ?_⟩
              refine mild_val (.agg (encD mk (.slice A5 mk.made.length c5) (.slice (some ad) m.wait.length c6)).toArray) ?_ rfl
              have hl := run_loadVar_cells w' ⟨w.heap.size, 0, none⟩ 42 (encD mk (.slice A5 mk.made.length c5) (.slice (some ad) m.wait.length c6)) (Xr8.out.blw hb).cells Try.underlying42 rfl (by kernel_rfl)
              simp only [execOp, evalF, List.contains_eq_mem, Instr.loadAt, Instr.sureAddr, Sem.run_bind, Sem.run_pure, Result.andThen_ok]
              simp [hp, hl]
            · -- 7: slot 36 := Op.fieldAddr 124 t8 0
              refine ob_yes fun f w' hb hp => ?_
              simp [PreOf, factOf, valOf, Ph.is, Ph.by_, Ph.any, Region.binds, Ph.rd] at hp
              refine ⟨by simp [Gd, valOf, hp], ?_⟩
              refine mild_val (.pointer (some ⟨wr.heap.size, 0, none⟩)) ?_ rfl
              simp [execOp, evalF, hp, go_sem]
            · -- 8: slot 37 := Op.load 3 t36
              refine ob_yes fun f w' hb hp => ?_
              simp [PreOf, factOf, valOf, Ph.is, Ph.by_, Ph.any, Region.binds, Ph.rd] at hp
              refine ⟨by simp [Gd, valOf, hp], ?_⟩
              refine mild_val (.int .i64 x1) ?_ rfl
              have hc := (Hbx.out.blw hb).cell 0 _ rfl
              simp [execOp, evalF, hp, hc, go_sem]
            · -- 9: slot 38 := Op.call   value (Operand.func 49), args := #[t35, t37], argTypes := #[42, 3]  
              refine ob_yes fun f w' hb hp => ?_
              simp [PreOf, factOf, valOf, Ph.is, Ph.by_, Ph.any, Region.binds, Ph.rd] at hp
              refine ⟨by simp [Gd, valOf, hp], ?_⟩
              refine mild_call 49 _ _ Try.f49 Try.func49 (by kernel_rfl) (by kernel_rfl) rfl ?_
              simp [evalF, hp, Ph.is, Ph.by_, Ph.any, Ph.rd]
              refine (rgood w' (Onew O wb wr) _ mk x1 (fun q hq => Nat.lt_of_lt_of_le (HOr8.out q hq) hb.size) hmN (Vr8.out.below hb HOr8.out)).mono fun ev w2 h => ?_
              obtain ⟨rfl, h2⟩ := h
              first | exact ⟨_, rfl, h2, rfl⟩ | exact ⟨rfl, h2⟩ | simpa using h2
            · -- 10: slot 39 := Op.slice 9 t38 (some (const (64:i64))) none none
              refine ob_yes fun f w' hb hp => ?_
              simp [PreOf, factOf, valOf, Ph.is, Ph.by_, Ph.any, Region.binds, Ph.rd] at hp
              refine ⟨by simp [Gd, valOf, hp], ?_⟩
              refine mild_val (.string (bst ((goodR mk x1).drop 64))) ?_ rfl
              have hgl := Hgl.out
              have hsz : (bst (goodR mk x1)).size = 128 := hgl
              have hdr := bst_drop (goodR mk x1) 64
              rw [hgl] at hdr
              simp [execOp, evalF, hp, go_sem, hsz, hdr]
            · -- 11: slot 40 := Op.binOp BinOp.add 9 t34 t39 9
              refine ob_yes fun f w' hb hp => ?_
              simp [PreOf, factOf, valOf, Ph.is, Ph.by_, Ph.any, Region.binds, Ph.rd] at hp
              refine ⟨by simp [Gd, valOf, hp], ?_⟩
              refine mild_val (.string (bst (x2.take 64 ++ (goodR mk x1).drop 64))) ?_ rfl
              have hA : (bst (x2.take 64)).size ≤ 128 := by (show (x2.take 64).length ≤ 128; rw [List.length_take]; omega)
              have hB : (bst ((goodR mk x1).drop 64)).size ≤ 128 := by (show ((goodR mk x1).drop 64).length ≤ 128; rw [List.length_drop, Hgl.out]; decide)
              simp [execOp, evalF, hp, go_sem, bst_append]
              omega
            · -- 12: slot 41 := Op.build 124 #[(0, t31), (1, t40)]
              refine ob_yes fun f w' hb hp => ?_
              simp [PreOf, factOf, valOf, Ph.is, Ph.by_, Ph.any, Region.binds, Ph.rd] at hp
              refine ⟨by simp [Gd, valOf, hp], ?_⟩
              refine mild_val (.agg #[.int .i64 x1, .string (bst (x2.take 64 ++ (goodR mk x1).drop 64))]) ?_ rfl
              have hbd := run_build_rw w' x1 (bst (x2.take 64 ++ (goodR mk x1).drop 64))
              simp only [execOp]
              simp [evalF, hp, hbd]
            · -- 13: slot 42 := Op.call   value (Operand.func 72), args := #[t29, t41], argTypes := #[42, 124]  
              refine ob_yes fun f w' hb hp => ?_
              simp [PreOf, factOf, valOf, Ph.is, Ph.by_, Ph.any, Region.binds, Ph.rd] at hp
              refine ⟨by simp [Gd, valOf, hp], ?_⟩
              refine mild_call 72 _ _ Try.f72 Try.func72 (by kernel_rfl) (by kernel_rfl) rfl ?_
              simp [evalF, hp, Ph.is, Ph.by_, Ph.any, Ph.rd]
              have hr := rput w' (Onew O wb wr) _ mk x1 (x2.take 64 ++ (goodR mk x1).drop 64) (fun q hq => Nat.lt_of_lt_of_le (HOr8.out q hq) hb.size) hmN Htl.out (Vr8.out.below hb HOr8.out)
              refine hr.mono ?_
              rintro _ w7 ⟨v7, rfl, hv7, hb7⟩
              refine ⟨v7, rfl, hb7, hv7.more (fun q hq => ?_), by have := hb.size; have := hb7.size; omega⟩
              rcases hq with (hq | hq) | hq
              · exact .inl hq
              · exact .inr ⟨hq.1, by have := hb.size; have := hb7.size; omega⟩
              · exact .inr ⟨by have := hb.size; omega, hq.2⟩
          · intro f w9 hb9 hp
            simp only [PostOf, Ph.is, Ph.by_, Ph.any, Ph.rd] at hp
            obtain ⟨h0, h1, h2, h3, h4, h5, h6, h7, h8, h9, h10, h11, h12, h13, _⟩ := hp
            simp only [fills, List.foldl_cons, List.foldl_nil, Act.put, List.setIfInBounds_toArray, List.set_cons_zero, List.set_cons_succ, h0, h1, h2, h3, h4, h5, h6, h7, h8, h9, h10, h11, h12]
            clear h0 h1 h2 h3 h4 h5 h6 h7 h8 h9 h10 h11 h12
            generalize f 42 = v42 at *
            simp only [List.drop_succ_cons, List.drop_zero]
            obtain ⟨hv9, _⟩ := h13
            obtain ⟨u7, u8, rfl, r7, r8, g3, g4⟩ := hv9
            have hpw : (putRD mk (x1, x2.take 64 ++ (goodR mk x1).drop 64)).wait = m.wait := Hmw.out
            rw [hpw] at r8
            obtain ⟨A7, c7, rfl, _⟩ := r7.form
            obtain ⟨A8, c8, rfl, _⟩ := r8.form
            have xr2 := Xr8.out.blw hb9
            have Yr2 := Lib.hid (Yr8.out.blw hb9)
            have Br2 := Lib.hid (Br8.out.trans (hb9.mono (by omega)))
            have hz9' := hb9.size
            have R7 := Lib.hid r7
            have R8 := Lib.hid r8
            clear r7 r8 hb9
            go_wp2_with (refine wpList_store_box rfl 42 42 (.tmp 3) (.tmp 42) rfl w.heap.size (encD mk (.slice A5 mk.made.length c5) (.slice (some ad) m.wait.length c6)) (encD (putRD mk (x1, x2.take 64 ++ (goodR mk x1).drop 64)) (.slice A7 (putRD mk (x1, x2.take 64 ++ (goodR mk x1).drop 64)).made.length c7) (.slice A8 m.wait.length c8)) rfl (by rw [← hpw]; rfl) xr2 rfl (encD_one _ _ _ _ _ _ _) (by kernel_rfl) ?_; intro hx9)
            have cx9 : Chg (fun q => q = w.heap.size) w9 (w9.setRow w.heap.size (encD (putRD mk (x1, x2.take 64 ++ (goodR mk x1).drop 64)) (.slice A7 (putRD mk (x1, x2.take 64 ++ (goodR mk x1).drop 64)).made.length c7) (.slice A8 m.wait.length c8)).toArray) := Chg.ofGrown (gsetRow' w9 w.heap.size _) (fun k e => by injection e with e; exact e.symm)
            generalize w9.setRow w.heap.size (encD (putRD mk (x1, x2.take 64 ++ (goodR mk x1).drop 64)) (.slice A7 (putRD mk (x1, x2.take 64 ++ (goodR mk x1).drop 64)).made.length c7) (.slice A8 m.wait.length c8)).toArray = wz at *
            have hzz := cx9.size
            have ho9 : ∀ q, Onew O wb w9 q → q < w9.heap.size ∧ ¬ q = w.heap.size := fun q hq => by
              rcases hq with hq | hq
              · have := HO.out q hq; exact ⟨by omega, by omega⟩
              · exact ⟨hq.2, by have := hq.1; omega⟩
            have hn9 : ∀ q, Onew O wb w9 q → Onew O wb wz q := fun q hq => by
              rcases hq with hq | hq
              · exact .inl hq
              · exact .inr ⟨hq.1, by have := hq.2; omega⟩
            have r79 := (R7.out.chg cx9 ho9).more hn9
            have r89 := (R8.out.chg cx9 ho9).more hn9
            have yr9 := Yr2.out.chg cx9 (by omega)
            have br9 := Br2.out.trans (cx9.below (by omega) (fun k hk => by omega))
            go_roundw
            case rel =>
              refine ⟨k + 1, A7, A8, c7, c8, by omega, by go_num, ?_⟩
              rw [Htk1.out]
              exact ⟨hx9, RDV.mk' (m := putRD mk (x1, x2.take 64 ++ (goodR mk x1).drop 64)) r79 (by rw [hpw]; exact r89) g3 g4, yr9, br9, by omega⟩
            case measure => simp [intOf]; omega
        | false =>
          rw [hbt] at Hbit2 htk1
          rw [if_neg (by simp)] at htk1
          have Htk1 := Lib.hid htk1
          clear htk1 hbk hbt
          go_wp2_with fail
          generalize wr.alloc (.cells #[.int .i64 x1, .string (bst x2)] 124) = w8 at *
          refine (Hbit1.out _).mono ?_
          rintro _ _ ⟨rfl, rfl⟩
          go_wp2_with fail
          refine (Hbit2.out _).mono ?_
          rintro _ _ ⟨rfl, rfl⟩
          go_wp2_with fail
          go_roundw
          case rel =>
            refine ⟨k + 1, A5, some ad, c5, c6, by omega, by go_num, ?_⟩
            rw [Htk1.out]
            exact ⟨Xr8.out, Vr8.out.more (fun q hq => by
              rcases hq with hq | hq
              · exact .inl hq
              · exact .inr ⟨hq.1, by omega⟩), Yr8.out, Br8.out, by omega⟩
          case measure => simp [intOf]; omega
    · obtain rfl : k = m.wait.length := by omega
      rw [List.take_length] at Hmk
      obtain ⟨u5, u6, ev, r5, r6, g3, g4⟩ := vr
      have e5 : (Value.slice A5 mk.made.length c5) = u5 := by injection ev with ev; simp at ev; exact ev.1
      rw [← e5] at r5
      have xl := xr.alloc (.cells #[] 124)
      have c4x := xl.cell 4 _ rfl
      have f4x := xl.frozen 4
      have c1x := xl.cell 1 _ rfl
      have f1x := xl.frozen 1
      have c2x := xl.cell 2 _ rfl
      have f2x := xl.frozen 2
      have Hload := Lib.hid (((xl.put 4 (.slice (some ⟨wr.heap.size, 0, none⟩) 0 0)).put 1 (.bool false)).put 2 (.int .i64 (-1))).cells
      have hgg : w.heap.size ≠ w.heap.size + 1 := by omega
      have Hst := Lib.hid ((((Yr.out.alloc (.cells #[] 124)).other ⟨w.heap.size, 4, none⟩ (.slice (some ⟨wr.heap.size, 0, none⟩) 0 0) hgg).other ⟨w.heap.size, 1, none⟩ (.bool false) hgg).other ⟨w.heap.size, 2, none⟩ (.int .i64 (-1)) hgg)
      have R5 := Lib.hid r5
      clear xr xl r5 r6 ev e5 Vr hc4 hgg
      go_wp2_with (first
        | (refine wpList_load_agg rfl 42 (.tmp 3) rfl ⟨w.heap.size, 0, none⟩ rfl (encD ⟨mk.count, false, -1, mk.made, []⟩ (.slice A5 mk.made.length c5) (.slice (some ⟨wr.heap.size, 0, none⟩) 0 0)) Hload.out Try.underlying42 rfl (by kernel_rfl) ?_)
        | (refine wpList_store_box rfl 42 42 (.tmp 6) (.tmp 48) rfl (w.heap.size + 1) zeroDc (encD ⟨mk.count, false, -1, mk.made, []⟩ (.slice A5 mk.made.length c5) (.slice (some ⟨wr.heap.size, 0, none⟩) 0 0)) rfl rfl Hst.out rfl (encD_one _ _ _ _ _ _ _) (by kernel_rfl) ?_; intro hend))
      have g1 : Chg (fun k => k = w.heap.size ∨ k = w.heap.size + 1) wr ((((wr.alloc (.cells #[] 124)).setCell ⟨w.heap.size, 4, none⟩ (.slice (some ⟨wr.heap.size, 0, none⟩) 0 0)).setCell ⟨w.heap.size, 1, none⟩ (.bool false)).setCell ⟨w.heap.size, 2, none⟩ (.int .i64 (-1))) := (((Chg.ofBelow (balloc wr _)).trans (Chg.set _ _ _ (.inl rfl))).trans (Chg.set _ _ _ (.inl rfl))).trans (Chg.set _ _ _ (.inl rfl))
      have hWz0 : wr.heap.size < ((((wr.alloc (.cells #[] 124)).setCell ⟨w.heap.size, 4, none⟩ (.slice (some ⟨wr.heap.size, 0, none⟩) 0 0)).setCell ⟨w.heap.size, 1, none⟩ (.bool false)).setCell ⟨w.heap.size, 2, none⟩ (.int .i64 (-1))).heap.size := by simp [World.setCell]
      generalize (((wr.alloc (.cells #[] 124)).setCell ⟨w.heap.size, 4, none⟩ (.slice (some ⟨wr.heap.size, 0, none⟩) 0 0)).setCell ⟨w.heap.size, 1, none⟩ (.bool false)).setCell ⟨w.heap.size, 2, none⟩ (.int .i64 (-1)) = Wx at *
      have g2 : Chg (fun k => k = w.heap.size ∨ k = w.heap.size + 1) wr (Wx.setRow (w.heap.size + 1) (encD ⟨mk.count, false, -1, mk.made, []⟩ (.slice A5 mk.made.length c5) (.slice (some ⟨wr.heap.size, 0, none⟩) 0 0)).toArray) := g1.trans (Chg.ofGrown (gsetRow' Wx (w.heap.size + 1) _) (fun k e => .inr (by injection e with e; exact e.symm)))
      have hWz : wr.heap.size < (Wx.setRow (w.heap.size + 1) (encD ⟨mk.count, false, -1, mk.made, []⟩ (.slice A5 mk.made.length c5) (.slice (some ⟨wr.heap.size, 0, none⟩) 0 0)).toArray).heap.size := Nat.lt_of_lt_of_le hWz0 (gsetRow' Wx (w.heap.size + 1) _).size
      have hrow : ByR (Wx.setRow (w.heap.size + 1) (encD ⟨mk.count, false, -1, mk.made, []⟩ (.slice A5 mk.made.length c5) (.slice (some ⟨wr.heap.size, 0, none⟩) 0 0)).toArray) (Onew O w (Wx.setRow (w.heap.size + 1) (encD ⟨mk.count, false, -1, mk.made, []⟩ (.slice A5 mk.made.length c5) (.slice (some ⟨wr.heap.size, 0, none⟩) 0 0)).toArray)) (.slice (some ⟨wr.heap.size, 0, none⟩) 0 0) [] := ⟨_, _, rfl, Nat.le_refl _, Nat.zero_le _, fun hn => absurd hn (by simp)⟩
      generalize Wx.setRow (w.heap.size + 1) (encD ⟨mk.count, false, -1, mk.made, []⟩ (.slice A5 mk.made.length c5) (.slice (some ⟨wr.heap.size, 0, none⟩) 0 0)).toArray = Wy at *
      have k3 := (R5.out.chg g2 (fun q hq => by
        rcases hq with hq | hq
        · have := HO.out q hq; exact ⟨by omega, by omega⟩
        · exact ⟨hq.2, by have := hq.1; omega⟩)).more (O' := Onew O w Wy) (fun q hq => by
        rcases hq with hq | hq
        · exact .inl hq
        · exact .inr ⟨by have := hq.1; omega, by have := hq.2; omega⟩)
      refine bodyPost_ret (results_c rfl _ _ (w.heap.size + 1) (encD ⟨mk.count, false, -1, mk.made, []⟩ (.slice A5 mk.made.length c5) (.slice (some ⟨wr.heap.size, 0, none⟩) 0 0)) rfl (fun j v hj => (hend.cells j v hj : _)) Try.underlying42 rfl (by kernel_rfl)) rfl ?_
      rw [E2.out, ← Hmk.out]
      exact ⟨_, rfl, RDV.mk' (m := ⟨mk.count, false, -1, mk.made, []⟩) k3 hrow g3 ⟨(by decide : (-9223372036854775808 : Int) ≤ -1), (by decide : (-1 : Int) ≤ 9223372036854775807)⟩, Br.out.trans (g2.below (by omega) (fun k hk => by omega))⟩
end Go.Proofs.Ytpoicbhbkabllaa
