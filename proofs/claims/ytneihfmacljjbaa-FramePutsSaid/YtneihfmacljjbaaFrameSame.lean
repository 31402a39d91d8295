/- palmerref05.Same: are two rows of Sections the same? -/
import Derived.Test.YtneihfmacljjbaaSecRow
import Derived.Test.YtneihfmacljjbaaTyped
namespace Go.Proofs.Ytneihfmacljjbaa
set_option linter.unusedSimpArgs false
set_option linter.unusedVariables false
open Go.RowKit

theorem ByS.at_ {w : World} {B : Nat} {A : Option Addr} {n c : Nat} {ss : List Sect} (h : ByS w B (.slice A n c) ss) (i : Nat) (s : Sect) (hs : ss[i]? = some s) :
    ∃ ad u, A = some ad ∧ ad.block < B ∧ w.cell? (ad.add (i * 2)) = some (.int .u8 (s.1.toNat : Int)) ∧ w.cell? (ad.add (i * 2 + 1)) = some u ∧ By w B u s.2 := by
  obtain ⟨A', c', vs, e, h2, h3, h4, h5, h6⟩ := h
  injection e with e1 e2 e3
  subst e1
  obtain ⟨hi, _⟩ := List.getElem?_eq_some_iff.1 hs
  obtain ⟨ad, rfl, hb, hc⟩ := h5.ad (by omega)
  have hu : vs[i]? = some (vs[i]'(by omega)) := List.getElem?_eq_getElem (by omega)
  exact ⟨ad, _, rfl, hb, hc _ _ (sCells_get0 ss vs i s h4 hs), hc _ _ (sCells_get1 ss vs i _ h4 hu), h6 i _ s hu hs⟩

set_option maxRecDepth 100000 in
set_option maxHeartbeats 1600000 in
theorem same_any (w : World) (B1 B2 : Nat) (v1 v2 : Value) (s1 s2 : List Sect) (h1 : ByS w B1 v1 s1) (h2 : ByS w B2 v2 s2) (hB1 : B1 ≤ w.heap.size) (hB2 : B2 ≤ w.heap.size) :
    Calls Try.prog 35 #[v1, v2] w fun e w' => e = .returned (.bool (decide (s1 = s2))) ∧ Below w.heap.size w w' := by
  obtain ⟨A1, c1, vs1, rfl, ha1, ha2, _, _, _⟩ := id h1
  obtain ⟨A2, c2, vs2, rfl, hb1, hb2, _, _, _⟩ := id h2
  unfold maxLen at ha2 hb2
  by_cases hlen : s1.length = s2.length
  · rw [hlen] at ha1 h1 ⊢
    have Hlen := Lib.hid hlen
    clear hlen
    go_enter Try.func35, Try.ntmps35
    go_wp2_with fail
    go_loopw [13] (fun i wr => ∃ k : Nat, k ≤ s2.length ∧ i = .int .i64 k ∧ s1.take k = s2.take k ∧ Below w.heap.size w wr) (fun i _ => s2.length - (intOf i).toNat)
    case atStart => exact ⟨0, by omega, rfl, rfl, Below.refl _ _⟩
    case round =>
      obtain ⟨k, hk, rfl, htk, hbw⟩ := hrel
      by_cases hlt2 : k < s2.length
      · have hlt : k < s1.length := by rw [Hlen.out]; exact hlt2
        have hx1 : s1[k]? = some (s1[k]'hlt) := List.getElem?_eq_getElem hlt
        have hx2 : s2[k]? = some (s2[k]'hlt2) := List.getElem?_eq_getElem hlt2
        have hne1 : s1[k]'hlt ≠ s2[k]'hlt2 → decide (s1 = s2) = false := fun h => by
          simp only [decide_eq_false_iff_not]
          rintro rfl
          exact h rfl
        have heq1 : s1[k]'hlt = s2[k]'hlt2 → s1.take (k + 1) = s2.take (k + 1) := fun h => by
          rw [List.take_add_one, List.take_add_one, htk, hx1, hx2, h]
        obtain ⟨ad1, u1, rfl, hab1, hc10, hc11, hu1⟩ := (h1.below ((hbw.mono hB1))).at_ k _ hx1
        obtain ⟨ad2, u2, rfl, hab2, hc20, hc21, hu2⟩ := (h2.below ((hbw.mono hB2))).at_ k _ hx2
        have Hne1 := Lib.hid hne1
        have Heq1 := Lib.hid heq1
        have Htk := Lib.hid htk
        clear hne1 heq1 htk hx1 hx2
        generalize s1[k]'hlt = x1 at *
        generalize s2[k]'hlt2 = x2 at *
        clear hlt
        obtain ⟨k1, l1⟩ := x1
        obtain ⟨k2, l2⟩ := x2
        simp only at hc10 hc20 hu1 hu2
        rw [← add_add, show (ad1.add (k * 2)).add 1 = { block := (ad1.add (k * 2)).block, off := (ad1.add (k * 2)).off + 1 } from by simp [Addr.add]] at hc11
        rw [← add_add, show (ad2.add (k * 2)).add 1 = { block := (ad2.add (k * 2)).block, off := (ad2.add (k * 2)).off + 1 } from by simp [Addr.add]] at hc21
        have hB1r := Nat.le_trans hB1 hbw.size
        have hB2r := Nat.le_trans hB2 hbw.size
        by_cases hkk : k1 = k2
        · subst hkk
          have hkk : (k1.toNat : Int) = (k1.toNat : Int) := rfl
          by_cases hll : l1 = l2
          · have hnext := Heq1.out (by rw [hll])
            have Hnext := Lib.hid hnext
            clear hnext Heq1 Hne1 Htk
            go_wp2_with fail
            refine wp_region_typed [some 16, some 17, some 18, some 19, some 20, some 21, some 22, some 23, some 24, some 25, some 26, some 27, some 28, some 29, some 30, some 31, some 32, some 33, some 34, some 35, some 36, some 37, some 38, some 39, some 40, some 41] [16, 17, 18, 19, 20, 21, 22, 23, 24, 25, 26, 27, 28, 29, 30, 31, 32, 33, 34, 35, 36, 37, 38, 39, 40, 41]
              [Ph.is (.slice (some ad1) s2.length c1),
                Ph.is (.int .i64 (k : Int)),
                Ph.is (.pointer (some (ad1.add (k * 2)))),
                Ph.is (.pointer (some (ad1.add (k * 2)))),
                Ph.is (.int .u8 (k1.toNat : Int)),
                Ph.is (.slice (some ad2) s2.length c2),
                Ph.is (.int .i64 (k : Int)),
                Ph.is (.pointer (some (ad2.add (k * 2)))),
                Ph.is (.pointer (some (ad2.add (k * 2)))),
                Ph.is (.int .u8 (k1.toNat : Int)),
                Ph.is (.bool false),
                Ph.is (.bool false),
                Ph.is (.slice (some ad1) s2.length c1),
                Ph.is (.int .i64 (k : Int)),
                Ph.is (.pointer (some (ad1.add (k * 2)))),
                Ph.is (.pointer (some { block := (ad1.add (k * 2)).block, off := (ad1.add (k * 2)).off + 1 })),
                Ph.is (u1),
                Ph.is (.string (bst l1)),
                Ph.is (.slice (some ad2) s2.length c2),
                Ph.is (.int .i64 (k : Int)),
                Ph.is (.pointer (some (ad2.add (k * 2)))),
                Ph.is (.pointer (some { block := (ad2.add (k * 2)).block, off := (ad2.add (k * 2)).off + 1 })),
                Ph.is (u2),
                Ph.is (.string (bst l2)),
                Ph.is (.bool false),
                Ph.is (.bool false)] rfl rfl (by kernel_rfl) (by kernel_rfl) ?_ ?_
            · refine ⟨?_, ?_, ?_, ?_, ?_, ?_, ?_, ?_, ?_, ?_, ?_, ?_, ?_, ?_, ?_, ?_, ?_, ?_, ?_, ?_, ?_, ?_, ?_, ?_, ?_, ?_, trivial⟩
              · -- 0: slot 16 := Op.move t0
                refine ob_yes fun f w' hb hp => ?_
                simp [PreOf, factOf, valOf, Ph.is, Ph.by_, Ph.any, Region.binds] at hp
                refine ⟨by simp [Gd, valOf, hp], ?_⟩
                refine mild_val (.slice (some ad1) s2.length c1) ?_ rfl
                simp [execOp, evalF, hp]
              · -- 1: slot 17 := Op.move t5
                refine ob_yes fun f w' hb hp => ?_
                simp [PreOf, factOf, valOf, Ph.is, Ph.by_, Ph.any, Region.binds] at hp
                refine ⟨by simp [Gd, valOf, hp], ?_⟩
                refine mild_val (.int .i64 (k : Int)) ?_ rfl
                simp [execOp, evalF, hp]
              · -- 2: slot 18 := Op.indexAddr 48 t16 t17
                refine ob_yes fun f w' hb hp => ?_
                simp [PreOf, factOf, valOf, Ph.is, Ph.by_, Ph.any, Region.binds] at hp
                refine ⟨by simp [Gd, valOf, hp], ?_⟩
                refine mild_val (.pointer (some (ad1.add (k * 2)))) ?_ rfl
                simp [execOp, evalF, hp, go_sem]
                try omega
              · -- 3: slot 19 := Op.fieldAddr 46 t18 0
                refine ob_yes fun f w' hb hp => ?_
                simp [PreOf, factOf, valOf, Ph.is, Ph.by_, Ph.any, Region.binds] at hp
                refine ⟨by simp [Gd, valOf, hp], ?_⟩
                refine mild_val (.pointer (some (ad1.add (k * 2)))) ?_ rfl
                simp [execOp, evalF, hp, go_sem]
                try omega
              · -- 4: slot 20 := Op.load 5 t19
                refine ob_yes fun f w' hb hp => ?_
                simp [PreOf, factOf, valOf, Ph.is, Ph.by_, Ph.any, Region.binds] at hp
                refine ⟨by simp [Gd, valOf, hp], ?_⟩
                refine mild_val (.int .u8 (k1.toNat : Int)) ?_ rfl
                have hc := (hb.cell (p := ad1.add (k * 2)) (by rw [add_block]; omega)).trans hc10
                simp [execOp, evalF, hp, hc, go_sem]
              · -- 5: slot 21 := Op.move t1
                refine ob_yes fun f w' hb hp => ?_
                simp [PreOf, factOf, valOf, Ph.is, Ph.by_, Ph.any, Region.binds] at hp
                refine ⟨by simp [Gd, valOf, hp], ?_⟩
                refine mild_val (.slice (some ad2) s2.length c2) ?_ rfl
                simp [execOp, evalF, hp]
              · -- 6: slot 22 := Op.move t5
                refine ob_yes fun f w' hb hp => ?_
                simp [PreOf, factOf, valOf, Ph.is, Ph.by_, Ph.any, Region.binds] at hp
                refine ⟨by simp [Gd, valOf, hp], ?_⟩
                refine mild_val (.int .i64 (k : Int)) ?_ rfl
                simp [execOp, evalF, hp]
              · -- 7: slot 23 := Op.indexAddr 48 t21 t22
                refine ob_yes fun f w' hb hp => ?_
                simp [PreOf, factOf, valOf, Ph.is, Ph.by_, Ph.any, Region.binds] at hp
                refine ⟨by simp [Gd, valOf, hp], ?_⟩
                refine mild_val (.pointer (some (ad2.add (k * 2)))) ?_ rfl
                simp [execOp, evalF, hp, go_sem]
                try omega
              · -- 8: slot 24 := Op.fieldAddr 46 t23 0
                refine ob_yes fun f w' hb hp => ?_
                simp [PreOf, factOf, valOf, Ph.is, Ph.by_, Ph.any, Region.binds] at hp
                refine ⟨by simp [Gd, valOf, hp], ?_⟩
                refine mild_val (.pointer (some (ad2.add (k * 2)))) ?_ rfl
                simp [execOp, evalF, hp, go_sem]
                try omega
              · -- 9: slot 25 := Op.load 5 t24
                refine ob_yes fun f w' hb hp => ?_
                simp [PreOf, factOf, valOf, Ph.is, Ph.by_, Ph.any, Region.binds] at hp
                refine ⟨by simp [Gd, valOf, hp], ?_⟩
                refine mild_val (.int .u8 (k1.toNat : Int)) ?_ rfl
                have hc := (hb.cell (p := ad2.add (k * 2)) (by rw [add_block]; omega)).trans hc20
                simp [execOp, evalF, hp, hc, go_sem]
              · -- 10: slot 26 := Op.binOp BinOp.neq 5 t20 t25 5
                refine ob_yes fun f w' hb hp => ?_
                simp [PreOf, factOf, valOf, Ph.is, Ph.by_, Ph.any, Region.binds] at hp
                refine ⟨by simp [Gd, valOf, hp], ?_⟩
                refine mild_val (.bool false) ?_ rfl
                simp [execOp, evalF, hp, go_sem, hkk]
              · -- 11: slot 27 := Op.move t26
                refine ob_yes fun f w' hb hp => ?_
                simp [PreOf, factOf, valOf, Ph.is, Ph.by_, Ph.any, Region.binds] at hp
                refine ⟨by simp [Gd, valOf, hp], ?_⟩
                refine mild_val (.bool false) ?_ rfl
                simp [execOp, evalF, hp]
              · -- 12: slot 28 := Op.move t0
                refine ob_yes fun f w' hb hp => ?_
                simp [PreOf, factOf, valOf, Ph.is, Ph.by_, Ph.any, Region.binds] at hp
                refine ⟨by simp [Gd, valOf, hp], ?_⟩
                refine mild_val (.slice (some ad1) s2.length c1) ?_ rfl
                simp [execOp, evalF, hp]
              · -- 13: slot 29 := Op.move t5
                refine ob_yes fun f w' hb hp => ?_
                simp [PreOf, factOf, valOf, Ph.is, Ph.by_, Ph.any, Region.binds] at hp
                refine ⟨by simp [Gd, valOf, hp], ?_⟩
                refine mild_val (.int .i64 (k : Int)) ?_ rfl
                simp [execOp, evalF, hp]
              · -- 14: slot 30 := Op.indexAddr 48 t28 t29
                refine ob_yes fun f w' hb hp => ?_
                simp [PreOf, factOf, valOf, Ph.is, Ph.by_, Ph.any, Region.binds] at hp
                refine ⟨by simp [Gd, valOf, hp], ?_⟩
                refine mild_val (.pointer (some (ad1.add (k * 2)))) ?_ rfl
                simp [execOp, evalF, hp, go_sem]
                try omega
              · -- 15: slot 31 := Op.fieldAddr 46 t30 1
                refine ob_yes fun f w' hb hp => ?_
                simp [PreOf, factOf, valOf, Ph.is, Ph.by_, Ph.any, Region.binds] at hp
                refine ⟨by simp [Gd, valOf, hp], ?_⟩
                refine mild_val (.pointer (some { block := (ad1.add (k * 2)).block, off := (ad1.add (k * 2)).off + 1 })) ?_ rfl
                simp [execOp, evalF, hp, go_sem]
                try omega
              · -- 16: slot 32 := Op.load 22 t31
                refine ob_yes fun f w' hb hp => ?_
                simp [PreOf, factOf, valOf, Ph.is, Ph.by_, Ph.any, Region.binds] at hp
                refine ⟨by simp [Gd, valOf, hp], ?_⟩
                refine mild_val (u1) ?_ rfl
                have hc := (hb.cell (p := { block := (ad1.add (k * 2)).block, off := (ad1.add (k * 2)).off + 1 }) (by show (ad1.add (k * 2)).block < _; rw [add_block]; omega)).trans hc11
                simp [execOp, evalF, hp, hc, go_sem]
              · -- 17: slot 33 := Op.convert 22 9 t32
                refine ob_yes fun f w' hb hp => ?_
                simp [PreOf, factOf, valOf, Ph.is, Ph.by_, Ph.any, Region.binds] at hp
                refine ⟨by simp [Gd, valOf, hp], ?_⟩
                refine mild_val (.string (bst l1)) ?_ rfl
                have hc := conv8 (hu1.below (hb.mono hB1r))
                simp [execOp, evalF, hp, hc]
              · -- 18: slot 34 := Op.move t1
                refine ob_yes fun f w' hb hp => ?_
                simp [PreOf, factOf, valOf, Ph.is, Ph.by_, Ph.any, Region.binds] at hp
                refine ⟨by simp [Gd, valOf, hp], ?_⟩
                refine mild_val (.slice (some ad2) s2.length c2) ?_ rfl
                simp [execOp, evalF, hp]
              · -- 19: slot 35 := Op.move t5
                refine ob_yes fun f w' hb hp => ?_
                simp [PreOf, factOf, valOf, Ph.is, Ph.by_, Ph.any, Region.binds] at hp
                refine ⟨by simp [Gd, valOf, hp], ?_⟩
                refine mild_val (.int .i64 (k : Int)) ?_ rfl
                simp [execOp, evalF, hp]
              · -- 20: slot 36 := Op.indexAddr 48 t34 t35
                refine ob_yes fun f w' hb hp => ?_
                simp [PreOf, factOf, valOf, Ph.is, Ph.by_, Ph.any, Region.binds] at hp
                refine ⟨by simp [Gd, valOf, hp], ?_⟩
                refine mild_val (.pointer (some (ad2.add (k * 2)))) ?_ rfl
                simp [execOp, evalF, hp, go_sem]
                try omega
              · -- 21: slot 37 := Op.fieldAddr 46 t36 1
                refine ob_yes fun f w' hb hp => ?_
                simp [PreOf, factOf, valOf, Ph.is, Ph.by_, Ph.any, Region.binds] at hp
                refine ⟨by simp [Gd, valOf, hp], ?_⟩
                refine mild_val (.pointer (some { block := (ad2.add (k * 2)).block, off := (ad2.add (k * 2)).off + 1 })) ?_ rfl
                simp [execOp, evalF, hp, go_sem]
                try omega
              · -- 22: slot 38 := Op.load 22 t37
                refine ob_yes fun f w' hb hp => ?_
                simp [PreOf, factOf, valOf, Ph.is, Ph.by_, Ph.any, Region.binds] at hp
                refine ⟨by simp [Gd, valOf, hp], ?_⟩
                refine mild_val (u2) ?_ rfl
                have hc := (hb.cell (p := { block := (ad2.add (k * 2)).block, off := (ad2.add (k * 2)).off + 1 }) (by show (ad2.add (k * 2)).block < _; rw [add_block]; omega)).trans hc21
                simp [execOp, evalF, hp, hc, go_sem]
              · -- 23: slot 39 := Op.convert 22 9 t38
                refine ob_yes fun f w' hb hp => ?_
                simp [PreOf, factOf, valOf, Ph.is, Ph.by_, Ph.any, Region.binds] at hp
                refine ⟨by simp [Gd, valOf, hp], ?_⟩
                refine mild_val (.string (bst l2)) ?_ rfl
                have hc := conv8 (hu2.below (hb.mono hB2r))
                simp [execOp, evalF, hp, hc]
              · -- 24: slot 40 := Op.binOp BinOp.neq 9 t33 t39 9
                refine ob_yes fun f w' hb hp => ?_
                simp [PreOf, factOf, valOf, Ph.is, Ph.by_, Ph.any, Region.binds] at hp
                refine ⟨by simp [Gd, valOf, hp], ?_⟩
                refine mild_val (.bool false) ?_ rfl
                simp [execOp, evalF, hp, go_sem, bst_toList, hll]
              · -- 25: slot 41 := Op.pick t27 (const (Value.bool true)) t40
                refine ob_yes fun f w' hb hp => ?_
                simp [PreOf, factOf, valOf, Ph.is, Ph.by_, Ph.any, Region.binds] at hp
                refine ⟨by simp [Gd, valOf, hp], ?_⟩
                refine mild_val (.bool false) ?_ rfl
                simp [execOp, evalF, hp, go_sem]
            · intro f w2 hb2 hp
              simp only [PostOf, Ph.is, Ph.by_, Ph.any] at hp
              obtain ⟨h0, h1, h2, h3, h4, h5, h6, h7, h8, h9, h10, h11, h12, h13, h14, h15, h16, h17, h18, h19, h20, h21, h22, h23, h24, h25, _⟩ := hp
              simp only [fills, List.foldl_cons, List.foldl_nil, Act.put, List.setIfInBounds_toArray, List.set_cons_zero, List.set_cons_succ, h0, h1, h2, h3, h4, h5, h6, h7, h8, h9, h10, h11, h12, h13, h14, h15, h16, h17, h18, h19, h20, h21, h22, h23, h24, h25]
              clear h0 h1 h2 h3 h4 h5 h6 h7 h8 h9 h10 h11 h12 h13 h14 h15 h16 h17 h18 h19 h20 h21 h22 h23 h24 h25
              have hbn := hbw.trans (hb2.mono hbw.size)
              go_wp2_with fail
              go_roundw
              case rel => exact ⟨k + 1, by omega, by go_num, Hnext.out, hbn⟩
              case measure => simp [intOf]; omega
          · have hd := Hne1.out (fun e => hll (by injection e))
            have Hd := Lib.hid hd
            clear hd Heq1 Hne1 Htk
            go_wp2_with fail
            refine wp_region_typed [some 16, some 17, some 18, some 19, some 20, some 21, some 22, some 23, some 24, some 25, some 26, some 27, some 28, some 29, some 30, some 31, some 32, some 33, some 34, some 35, some 36, some 37, some 38, some 39, some 40, some 41] [16, 17, 18, 19, 20, 21, 22, 23, 24, 25, 26, 27, 28, 29, 30, 31, 32, 33, 34, 35, 36, 37, 38, 39, 40, 41]
              [Ph.is (.slice (some ad1) s2.length c1),
                Ph.is (.int .i64 (k : Int)),
                Ph.is (.pointer (some (ad1.add (k * 2)))),
                Ph.is (.pointer (some (ad1.add (k * 2)))),
                Ph.is (.int .u8 (k1.toNat : Int)),
                Ph.is (.slice (some ad2) s2.length c2),
                Ph.is (.int .i64 (k : Int)),
                Ph.is (.pointer (some (ad2.add (k * 2)))),
                Ph.is (.pointer (some (ad2.add (k * 2)))),
                Ph.is (.int .u8 (k1.toNat : Int)),
                Ph.is (.bool false),
                Ph.is (.bool false),
                Ph.is (.slice (some ad1) s2.length c1),
                Ph.is (.int .i64 (k : Int)),
                Ph.is (.pointer (some (ad1.add (k * 2)))),
                Ph.is (.pointer (some { block := (ad1.add (k * 2)).block, off := (ad1.add (k * 2)).off + 1 })),
                Ph.is (u1),
                Ph.is (.string (bst l1)),
                Ph.is (.slice (some ad2) s2.length c2),
                Ph.is (.int .i64 (k : Int)),
                Ph.is (.pointer (some (ad2.add (k * 2)))),
                Ph.is (.pointer (some { block := (ad2.add (k * 2)).block, off := (ad2.add (k * 2)).off + 1 })),
                Ph.is (u2),
                Ph.is (.string (bst l2)),
                Ph.is (.bool true),
                Ph.is (.bool true)] rfl rfl (by kernel_rfl) (by kernel_rfl) ?_ ?_
            · refine ⟨?_, ?_, ?_, ?_, ?_, ?_, ?_, ?_, ?_, ?_, ?_, ?_, ?_, ?_, ?_, ?_, ?_, ?_, ?_, ?_, ?_, ?_, ?_, ?_, ?_, ?_, trivial⟩
              · -- 0: slot 16 := Op.move t0
                refine ob_yes fun f w' hb hp => ?_
                simp [PreOf, factOf, valOf, Ph.is, Ph.by_, Ph.any, Region.binds] at hp
                refine ⟨by simp [Gd, valOf, hp], ?_⟩
                refine mild_val (.slice (some ad1) s2.length c1) ?_ rfl
                simp [execOp, evalF, hp]
              · -- 1: slot 17 := Op.move t5
                refine ob_yes fun f w' hb hp => ?_
                simp [PreOf, factOf, valOf, Ph.is, Ph.by_, Ph.any, Region.binds] at hp
                refine ⟨by simp [Gd, valOf, hp], ?_⟩
                refine mild_val (.int .i64 (k : Int)) ?_ rfl
                simp [execOp, evalF, hp]
              · -- 2: slot 18 := Op.indexAddr 48 t16 t17
                refine ob_yes fun f w' hb hp => ?_
                simp [PreOf, factOf, valOf, Ph.is, Ph.by_, Ph.any, Region.binds] at hp
                refine ⟨by simp [Gd, valOf, hp], ?_⟩
                refine mild_val (.pointer (some (ad1.add (k * 2)))) ?_ rfl
                simp [execOp, evalF, hp, go_sem]
                try omega
              · -- 3: slot 19 := Op.fieldAddr 46 t18 0
                refine ob_yes fun f w' hb hp => ?_
                simp [PreOf, factOf, valOf, Ph.is, Ph.by_, Ph.any, Region.binds] at hp
                refine ⟨by simp [Gd, valOf, hp], ?_⟩
                refine mild_val (.pointer (some (ad1.add (k * 2)))) ?_ rfl
                simp [execOp, evalF, hp, go_sem]
                try omega
              · -- 4: slot 20 := Op.load 5 t19
                refine ob_yes fun f w' hb hp => ?_
                simp [PreOf, factOf, valOf, Ph.is, Ph.by_, Ph.any, Region.binds] at hp
                refine ⟨by simp [Gd, valOf, hp], ?_⟩
                refine mild_val (.int .u8 (k1.toNat : Int)) ?_ rfl
                have hc := (hb.cell (p := ad1.add (k * 2)) (by rw [add_block]; omega)).trans hc10
                simp [execOp, evalF, hp, hc, go_sem]
              · -- 5: slot 21 := Op.move t1
                refine ob_yes fun f w' hb hp => ?_
                simp [PreOf, factOf, valOf, Ph.is, Ph.by_, Ph.any, Region.binds] at hp
                refine ⟨by simp [Gd, valOf, hp], ?_⟩
                refine mild_val (.slice (some ad2) s2.length c2) ?_ rfl
                simp [execOp, evalF, hp]
              · -- 6: slot 22 := Op.move t5
                refine ob_yes fun f w' hb hp => ?_
                simp [PreOf, factOf, valOf, Ph.is, Ph.by_, Ph.any, Region.binds] at hp
                refine ⟨by simp [Gd, valOf, hp], ?_⟩
                refine mild_val (.int .i64 (k : Int)) ?_ rfl
                simp [execOp, evalF, hp]
              · -- 7: slot 23 := Op.indexAddr 48 t21 t22
                refine ob_yes fun f w' hb hp => ?_
                simp [PreOf, factOf, valOf, Ph.is, Ph.by_, Ph.any, Region.binds] at hp
                refine ⟨by simp [Gd, valOf, hp], ?_⟩
                refine mild_val (.pointer (some (ad2.add (k * 2)))) ?_ rfl
                simp [execOp, evalF, hp, go_sem]
                try omega
              · -- 8: slot 24 := Op.fieldAddr 46 t23 0
                refine ob_yes fun f w' hb hp => ?_
                simp [PreOf, factOf, valOf, Ph.is, Ph.by_, Ph.any, Region.binds] at hp
                refine ⟨by simp [Gd, valOf, hp], ?_⟩
                refine mild_val (.pointer (some (ad2.add (k * 2)))) ?_ rfl
                simp [execOp, evalF, hp, go_sem]
                try omega
              · -- 9: slot 25 := Op.load 5 t24
                refine ob_yes fun f w' hb hp => ?_
                simp [PreOf, factOf, valOf, Ph.is, Ph.by_, Ph.any, Region.binds] at hp
                refine ⟨by simp [Gd, valOf, hp], ?_⟩
                refine mild_val (.int .u8 (k1.toNat : Int)) ?_ rfl
                have hc := (hb.cell (p := ad2.add (k * 2)) (by rw [add_block]; omega)).trans hc20
                simp [execOp, evalF, hp, hc, go_sem]
              · -- 10: slot 26 := Op.binOp BinOp.neq 5 t20 t25 5
                refine ob_yes fun f w' hb hp => ?_
                simp [PreOf, factOf, valOf, Ph.is, Ph.by_, Ph.any, Region.binds] at hp
                refine ⟨by simp [Gd, valOf, hp], ?_⟩
                refine mild_val (.bool false) ?_ rfl
                simp [execOp, evalF, hp, go_sem, hkk]
              · -- 11: slot 27 := Op.move t26
                refine ob_yes fun f w' hb hp => ?_
                simp [PreOf, factOf, valOf, Ph.is, Ph.by_, Ph.any, Region.binds] at hp
                refine ⟨by simp [Gd, valOf, hp], ?_⟩
                refine mild_val (.bool false) ?_ rfl
                simp [execOp, evalF, hp]
              · -- 12: slot 28 := Op.move t0
                refine ob_yes fun f w' hb hp => ?_
                simp [PreOf, factOf, valOf, Ph.is, Ph.by_, Ph.any, Region.binds] at hp
                refine ⟨by simp [Gd, valOf, hp], ?_⟩
                refine mild_val (.slice (some ad1) s2.length c1) ?_ rfl
                simp [execOp, evalF, hp]
              · -- 13: slot 29 := Op.move t5
                refine ob_yes fun f w' hb hp => ?_
                simp [PreOf, factOf, valOf, Ph.is, Ph.by_, Ph.any, Region.binds] at hp
                refine ⟨by simp [Gd, valOf, hp], ?_⟩
                refine mild_val (.int .i64 (k : Int)) ?_ rfl
                simp [execOp, evalF, hp]
              · -- 14: slot 30 := Op.indexAddr 48 t28 t29
                refine ob_yes fun f w' hb hp => ?_
                simp [PreOf, factOf, valOf, Ph.is, Ph.by_, Ph.any, Region.binds] at hp
                refine ⟨by simp [Gd, valOf, hp], ?_⟩
                refine mild_val (.pointer (some (ad1.add (k * 2)))) ?_ rfl
                simp [execOp, evalF, hp, go_sem]
                try omega
              · -- 15: slot 31 := Op.fieldAddr 46 t30 1
                refine ob_yes fun f w' hb hp => ?_
                simp [PreOf, factOf, valOf, Ph.is, Ph.by_, Ph.any, Region.binds] at hp
                refine ⟨by simp [Gd, valOf, hp], ?_⟩
                refine mild_val (.pointer (some { block := (ad1.add (k * 2)).block, off := (ad1.add (k * 2)).off + 1 })) ?_ rfl
                simp [execOp, evalF, hp, go_sem]
                try omega
              · -- 16: slot 32 := Op.load 22 t31
                refine ob_yes fun f w' hb hp => ?_
                simp [PreOf, factOf, valOf, Ph.is, Ph.by_, Ph.any, Region.binds] at hp
                refine ⟨by simp [Gd, valOf, hp], ?_⟩
                refine mild_val (u1) ?_ rfl
                have hc := (hb.cell (p := { block := (ad1.add (k * 2)).block, off := (ad1.add (k * 2)).off + 1 }) (by show (ad1.add (k * 2)).block < _; rw [add_block]; omega)).trans hc11
                simp [execOp, evalF, hp, hc, go_sem]
              · -- 17: slot 33 := Op.convert 22 9 t32
                refine ob_yes fun f w' hb hp => ?_
                simp [PreOf, factOf, valOf, Ph.is, Ph.by_, Ph.any, Region.binds] at hp
                refine ⟨by simp [Gd, valOf, hp], ?_⟩
                refine mild_val (.string (bst l1)) ?_ rfl
                have hc := conv8 (hu1.below (hb.mono hB1r))
                simp [execOp, evalF, hp, hc]
              · -- 18: slot 34 := Op.move t1
                refine ob_yes fun f w' hb hp => ?_
                simp [PreOf, factOf, valOf, Ph.is, Ph.by_, Ph.any, Region.binds] at hp
                refine ⟨by simp [Gd, valOf, hp], ?_⟩
                refine mild_val (.slice (some ad2) s2.length c2) ?_ rfl
                simp [execOp, evalF, hp]
              · -- 19: slot 35 := Op.move t5
                refine ob_yes fun f w' hb hp => ?_
                simp [PreOf, factOf, valOf, Ph.is, Ph.by_, Ph.any, Region.binds] at hp
                refine ⟨by simp [Gd, valOf, hp], ?_⟩
                refine mild_val (.int .i64 (k : Int)) ?_ rfl
                simp [execOp, evalF, hp]
              · -- 20: slot 36 := Op.indexAddr 48 t34 t35
                refine ob_yes fun f w' hb hp => ?_
                simp [PreOf, factOf, valOf, Ph.is, Ph.by_, Ph.any, Region.binds] at hp
                refine ⟨by simp [Gd, valOf, hp], ?_⟩
                refine mild_val (.pointer (some (ad2.add (k * 2)))) ?_ rfl
                simp [execOp, evalF, hp, go_sem]
                try omega
              · -- 21: slot 37 := Op.fieldAddr 46 t36 1
                refine ob_yes fun f w' hb hp => ?_
                simp [PreOf, factOf, valOf, Ph.is, Ph.by_, Ph.any, Region.binds] at hp
                refine ⟨by simp [Gd, valOf, hp], ?_⟩
                refine mild_val (.pointer (some { block := (ad2.add (k * 2)).block, off := (ad2.add (k * 2)).off + 1 })) ?_ rfl
                simp [execOp, evalF, hp, go_sem]
                try omega
              · -- 22: slot 38 := Op.load 22 t37
                refine ob_yes fun f w' hb hp => ?_
                simp [PreOf, factOf, valOf, Ph.is, Ph.by_, Ph.any, Region.binds] at hp
                refine ⟨by simp [Gd, valOf, hp], ?_⟩
                refine mild_val (u2) ?_ rfl
                have hc := (hb.cell (p := { block := (ad2.add (k * 2)).block, off := (ad2.add (k * 2)).off + 1 }) (by show (ad2.add (k * 2)).block < _; rw [add_block]; omega)).trans hc21
                simp [execOp, evalF, hp, hc, go_sem]
              · -- 23: slot 39 := Op.convert 22 9 t38
                refine ob_yes fun f w' hb hp => ?_
                simp [PreOf, factOf, valOf, Ph.is, Ph.by_, Ph.any, Region.binds] at hp
                refine ⟨by simp [Gd, valOf, hp], ?_⟩
                refine mild_val (.string (bst l2)) ?_ rfl
                have hc := conv8 (hu2.below (hb.mono hB2r))
                simp [execOp, evalF, hp, hc]
              · -- 24: slot 40 := Op.binOp BinOp.neq 9 t33 t39 9
                refine ob_yes fun f w' hb hp => ?_
                simp [PreOf, factOf, valOf, Ph.is, Ph.by_, Ph.any, Region.binds] at hp
                refine ⟨by simp [Gd, valOf, hp], ?_⟩
                refine mild_val (.bool true) ?_ rfl
                simp [execOp, evalF, hp, go_sem, bst_toList, hll]
              · -- 25: slot 41 := Op.pick t27 (const (Value.bool true)) t40
                refine ob_yes fun f w' hb hp => ?_
                simp [PreOf, factOf, valOf, Ph.is, Ph.by_, Ph.any, Region.binds] at hp
                refine ⟨by simp [Gd, valOf, hp], ?_⟩
                refine mild_val (.bool true) ?_ rfl
                simp [execOp, evalF, hp, go_sem]
            · intro f w2 hb2 hp
              simp only [PostOf, Ph.is, Ph.by_, Ph.any] at hp
              obtain ⟨h0, h1, h2, h3, h4, h5, h6, h7, h8, h9, h10, h11, h12, h13, h14, h15, h16, h17, h18, h19, h20, h21, h22, h23, h24, h25, _⟩ := hp
              simp only [fills, List.foldl_cons, List.foldl_nil, Act.put, List.setIfInBounds_toArray, List.set_cons_zero, List.set_cons_succ, h0, h1, h2, h3, h4, h5, h6, h7, h8, h9, h10, h11, h12, h13, h14, h15, h16, h17, h18, h19, h20, h21, h22, h23, h24, h25]
              clear h0 h1 h2 h3 h4 h5 h6 h7 h8 h9 h10 h11 h12 h13 h14 h15 h16 h17 h18 h19 h20 h21 h22 h23 h24 h25
              have hbn := hbw.trans (hb2.mono hbw.size)
              go_wp2_with fail
              go_ret
              exact ⟨by rw [Hd.out]; rfl, hbn⟩
        · have hd := Hne1.out (fun e => hkk (by injection e))
          have Hd := Lib.hid hd
          have hkk2 : ¬ ((k1.toNat : Int) = (k2.toNat : Int)) := fun e => hkk (UInt8.toNat_inj.1 (by omega))
          clear hd Heq1 Hne1 Htk hkk
          have hkk := hkk2
          go_wp2_with fail
          refine wp_region_typed [some 16, some 17, some 18, some 19, some 20, some 21, some 22, some 23, some 24, some 25, some 26, some 27, some 28, some 29, some 30, some 31, some 32, some 33, some 34, some 35, some 36, some 37, some 38, some 39, some 40, some 41] [16, 17, 18, 19, 20, 21, 22, 23, 24, 25, 26, 27, 28, 29, 30, 31, 32, 33, 34, 35, 36, 37, 38, 39, 40, 41]
            [Ph.is (.slice (some ad1) s2.length c1),
              Ph.is (.int .i64 (k : Int)),
              Ph.is (.pointer (some (ad1.add (k * 2)))),
              Ph.is (.pointer (some (ad1.add (k * 2)))),
              Ph.is (.int .u8 (k1.toNat : Int)),
              Ph.is (.slice (some ad2) s2.length c2),
              Ph.is (.int .i64 (k : Int)),
              Ph.is (.pointer (some (ad2.add (k * 2)))),
              Ph.is (.pointer (some (ad2.add (k * 2)))),
              Ph.is (.int .u8 (k2.toNat : Int)),
              Ph.is (.bool true),
              Ph.is (.bool true),
              Ph.is undef,
              Ph.is undef,
              Ph.is undef,
              Ph.is undef,
              Ph.is undef,
              Ph.is undef,
              Ph.is undef,
              Ph.is undef,
              Ph.is undef,
              Ph.is undef,
              Ph.is undef,
              Ph.is undef,
              Ph.is undef,
              Ph.is (.bool true)] rfl rfl (by kernel_rfl) (by kernel_rfl) ?_ ?_
          · refine ⟨?_, ?_, ?_, ?_, ?_, ?_, ?_, ?_, ?_, ?_, ?_, ?_, ?_, ?_, ?_, ?_, ?_, ?_, ?_, ?_, ?_, ?_, ?_, ?_, ?_, ?_, trivial⟩
            · -- 0: slot 16 := Op.move t0
              refine ob_yes fun f w' hb hp => ?_
              simp [PreOf, factOf, valOf, Ph.is, Ph.by_, Ph.any, Region.binds] at hp
              refine ⟨by simp [Gd, valOf, hp], ?_⟩
              refine mild_val (.slice (some ad1) s2.length c1) ?_ rfl
              simp [execOp, evalF, hp]
            · -- 1: slot 17 := Op.move t5
              refine ob_yes fun f w' hb hp => ?_
              simp [PreOf, factOf, valOf, Ph.is, Ph.by_, Ph.any, Region.binds] at hp
              refine ⟨by simp [Gd, valOf, hp], ?_⟩
              refine mild_val (.int .i64 (k : Int)) ?_ rfl
              simp [execOp, evalF, hp]
            · -- 2: slot 18 := Op.indexAddr 48 t16 t17
              refine ob_yes fun f w' hb hp => ?_
              simp [PreOf, factOf, valOf, Ph.is, Ph.by_, Ph.any, Region.binds] at hp
              refine ⟨by simp [Gd, valOf, hp], ?_⟩
              refine mild_val (.pointer (some (ad1.add (k * 2)))) ?_ rfl
              simp [execOp, evalF, hp, go_sem]
              try omega
            · -- 3: slot 19 := Op.fieldAddr 46 t18 0
              refine ob_yes fun f w' hb hp => ?_
              simp [PreOf, factOf, valOf, Ph.is, Ph.by_, Ph.any, Region.binds] at hp
              refine ⟨by simp [Gd, valOf, hp], ?_⟩
              refine mild_val (.pointer (some (ad1.add (k * 2)))) ?_ rfl
              simp [execOp, evalF, hp, go_sem]
              try omega
            · -- 4: slot 20 := Op.load 5 t19
              refine ob_yes fun f w' hb hp => ?_
              simp [PreOf, factOf, valOf, Ph.is, Ph.by_, Ph.any, Region.binds] at hp
              refine ⟨by simp [Gd, valOf, hp], ?_⟩
              refine mild_val (.int .u8 (k1.toNat : Int)) ?_ rfl
              have hc := (hb.cell (p := ad1.add (k * 2)) (by rw [add_block]; omega)).trans hc10
              simp [execOp, evalF, hp, hc, go_sem]
            · -- 5: slot 21 := Op.move t1
              refine ob_yes fun f w' hb hp => ?_
              simp [PreOf, factOf, valOf, Ph.is, Ph.by_, Ph.any, Region.binds] at hp
              refine ⟨by simp [Gd, valOf, hp], ?_⟩
              refine mild_val (.slice (some ad2) s2.length c2) ?_ rfl
              simp [execOp, evalF, hp]
            · -- 6: slot 22 := Op.move t5
              refine ob_yes fun f w' hb hp => ?_
              simp [PreOf, factOf, valOf, Ph.is, Ph.by_, Ph.any, Region.binds] at hp
              refine ⟨by simp [Gd, valOf, hp], ?_⟩
              refine mild_val (.int .i64 (k : Int)) ?_ rfl
              simp [execOp, evalF, hp]
            · -- 7: slot 23 := Op.indexAddr 48 t21 t22
              refine ob_yes fun f w' hb hp => ?_
              simp [PreOf, factOf, valOf, Ph.is, Ph.by_, Ph.any, Region.binds] at hp
              refine ⟨by simp [Gd, valOf, hp], ?_⟩
              refine mild_val (.pointer (some (ad2.add (k * 2)))) ?_ rfl
              simp [execOp, evalF, hp, go_sem]
              try omega
            · -- 8: slot 24 := Op.fieldAddr 46 t23 0
              refine ob_yes fun f w' hb hp => ?_
              simp [PreOf, factOf, valOf, Ph.is, Ph.by_, Ph.any, Region.binds] at hp
              refine ⟨by simp [Gd, valOf, hp], ?_⟩
              refine mild_val (.pointer (some (ad2.add (k * 2)))) ?_ rfl
              simp [execOp, evalF, hp, go_sem]
              try omega
            · -- 9: slot 25 := Op.load 5 t24
              refine ob_yes fun f w' hb hp => ?_
              simp [PreOf, factOf, valOf, Ph.is, Ph.by_, Ph.any, Region.binds] at hp
              refine ⟨by simp [Gd, valOf, hp], ?_⟩
              refine mild_val (.int .u8 (k2.toNat : Int)) ?_ rfl
              have hc := (hb.cell (p := ad2.add (k * 2)) (by rw [add_block]; omega)).trans hc20
              simp [execOp, evalF, hp, hc, go_sem]
            · -- 10: slot 26 := Op.binOp BinOp.neq 5 t20 t25 5
              refine ob_yes fun f w' hb hp => ?_
              simp [PreOf, factOf, valOf, Ph.is, Ph.by_, Ph.any, Region.binds] at hp
              refine ⟨by simp [Gd, valOf, hp], ?_⟩
              refine mild_val (.bool true) ?_ rfl
              simp [execOp, evalF, hp, go_sem, hkk]
            · -- 11: slot 27 := Op.move t26
              refine ob_yes fun f w' hb hp => ?_
              simp [PreOf, factOf, valOf, Ph.is, Ph.by_, Ph.any, Region.binds] at hp
              refine ⟨by simp [Gd, valOf, hp], ?_⟩
              refine mild_val (.bool true) ?_ rfl
              simp [execOp, evalF, hp]
            · -- 12: slot 28 := Op.move t0
              refine ob_no fun f w' hb hp => ?_
              simp [PreOf, factOf, valOf, Ph.is, Ph.by_, Ph.any, Region.binds] at hp
              exact ⟨by simp [Gd, valOf, hp], rfl⟩
            · -- 13: slot 29 := Op.move t5
              refine ob_no fun f w' hb hp => ?_
              simp [PreOf, factOf, valOf, Ph.is, Ph.by_, Ph.any, Region.binds] at hp
              exact ⟨by simp [Gd, valOf, hp], rfl⟩
            · -- 14: slot 30 := Op.indexAddr 48 t28 t29
              refine ob_no fun f w' hb hp => ?_
              simp [PreOf, factOf, valOf, Ph.is, Ph.by_, Ph.any, Region.binds] at hp
              exact ⟨by simp [Gd, valOf, hp], rfl⟩
            · -- 15: slot 31 := Op.fieldAddr 46 t30 1
              refine ob_no fun f w' hb hp => ?_
              simp [PreOf, factOf, valOf, Ph.is, Ph.by_, Ph.any, Region.binds] at hp
              exact ⟨by simp [Gd, valOf, hp], rfl⟩
            · -- 16: slot 32 := Op.load 22 t31
              refine ob_no fun f w' hb hp => ?_
              simp [PreOf, factOf, valOf, Ph.is, Ph.by_, Ph.any, Region.binds] at hp
              exact ⟨by simp [Gd, valOf, hp], rfl⟩
            · -- 17: slot 33 := Op.convert 22 9 t32
              refine ob_no fun f w' hb hp => ?_
              simp [PreOf, factOf, valOf, Ph.is, Ph.by_, Ph.any, Region.binds] at hp
              exact ⟨by simp [Gd, valOf, hp], rfl⟩
            · -- 18: slot 34 := Op.move t1
              refine ob_no fun f w' hb hp => ?_
              simp [PreOf, factOf, valOf, Ph.is, Ph.by_, Ph.any, Region.binds] at hp
              exact ⟨by simp [Gd, valOf, hp], rfl⟩
            · -- 19: slot 35 := Op.move t5
              refine ob_no fun f w' hb hp => ?_
              simp [PreOf, factOf, valOf, Ph.is, Ph.by_, Ph.any, Region.binds] at hp
              exact ⟨by simp [Gd, valOf, hp], rfl⟩
            · -- 20: slot 36 := Op.indexAddr 48 t34 t35
              refine ob_no fun f w' hb hp => ?_
              simp [PreOf, factOf, valOf, Ph.is, Ph.by_, Ph.any, Region.binds] at hp
              exact ⟨by simp [Gd, valOf, hp], rfl⟩
            · -- 21: slot 37 := Op.fieldAddr 46 t36 1
              refine ob_no fun f w' hb hp => ?_
              simp [PreOf, factOf, valOf, Ph.is, Ph.by_, Ph.any, Region.binds] at hp
              exact ⟨by simp [Gd, valOf, hp], rfl⟩
            · -- 22: slot 38 := Op.load 22 t37
              refine ob_no fun f w' hb hp => ?_
              simp [PreOf, factOf, valOf, Ph.is, Ph.by_, Ph.any, Region.binds] at hp
              exact ⟨by simp [Gd, valOf, hp], rfl⟩
            · -- 23: slot 39 := Op.convert 22 9 t38
              refine ob_no fun f w' hb hp => ?_
              simp [PreOf, factOf, valOf, Ph.is, Ph.by_, Ph.any, Region.binds] at hp
              exact ⟨by simp [Gd, valOf, hp], rfl⟩
            · -- 24: slot 40 := Op.binOp BinOp.neq 9 t33 t39 9
              refine ob_no fun f w' hb hp => ?_
              simp [PreOf, factOf, valOf, Ph.is, Ph.by_, Ph.any, Region.binds] at hp
              exact ⟨by simp [Gd, valOf, hp], rfl⟩
            · -- 25: slot 41 := Op.pick t27 (const (Value.bool true)) t40
              refine ob_yes fun f w' hb hp => ?_
              simp [PreOf, factOf, valOf, Ph.is, Ph.by_, Ph.any, Region.binds] at hp
              refine ⟨by simp [Gd, valOf, hp], ?_⟩
              refine mild_val (.bool true) ?_ rfl
              simp [execOp, evalF, hp, go_sem]
          · intro f w2 hb2 hp
            simp only [PostOf, Ph.is, Ph.by_, Ph.any] at hp
            obtain ⟨h0, h1, h2, h3, h4, h5, h6, h7, h8, h9, h10, h11, h12, h13, h14, h15, h16, h17, h18, h19, h20, h21, h22, h23, h24, h25, _⟩ := hp
            simp only [fills, List.foldl_cons, List.foldl_nil, Act.put, List.setIfInBounds_toArray, List.set_cons_zero, List.set_cons_succ, h0, h1, h2, h3, h4, h5, h6, h7, h8, h9, h10, h11, h12, h13, h14, h15, h16, h17, h18, h19, h20, h21, h22, h23, h24, h25]
            clear h0 h1 h2 h3 h4 h5 h6 h7 h8 h9 h10 h11 h12 h13 h14 h15 h16 h17 h18 h19 h20 h21 h22 h23 h24 h25
            have hbn := hbw.trans (hb2.mono hbw.size)
            go_wp2_with fail
            go_ret
            exact ⟨by rw [Hd.out]; rfl, hbn⟩
      · have hk2 : k = s2.length := by omega
        have heq : decide (s1 = s2) = true := by
          rw [decide_eq_true_iff]
          rw [List.take_of_length_le (by rw [Hlen.out]; omega), List.take_of_length_le (by omega)] at htk
          exact htk
        have Heq := Lib.hid heq
        clear heq htk
        subst hk2
        go_wp2_with fail
        go_ret
        exact ⟨by rw [Heq.out]; rfl, hbw⟩
  · have hne : ((s1.length : Int) == (s2.length : Int)) = false := by simp; omega
    have hd : decide (s1 = s2) = false := by simp; intro e; exact hlen (by rw [e])
    rw [hd]
    clear hd
    go_enter Try.func35, Try.ntmps35
    go_wp2_with fail
    go_ret
    exact ⟨rfl, Below.refl _ _⟩
end Go.Proofs.Ytneihfmacljjbaa
