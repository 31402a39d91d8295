/- (*disk.Disk).Back (printed by wip/gen/dback.py) -/
import Derived.Test.YtpoicbhbkabllaaDiskSync
namespace Go.Proofs.Ytpoicbhbkabllaa
set_option linter.unusedSimpArgs false
set_option linter.unusedVariables false
open Go.RowKit

theorem and_bit (n j : Nat) : ((n &&& 2 ^ j) != 0) = n.testBit j := by
  cases h : n.testBit j with
  | true =>
    rw [bne_iff_ne]
    intro e
    have h2 : (n &&& 2 ^ j).testBit j = true := by rw [Nat.testBit_and, h, Nat.testBit_two_pow_self]; rfl
    rw [e] at h2
    simp at h2
  | false =>
    have e : n &&& 2 ^ j = 0 := by
      apply Nat.eq_of_testBit_eq
      intro i
      rw [Nat.testBit_and, Nat.testBit_two_pow, Nat.zero_testBit]
      by_cases hij : j = i
      · subst hij; rw [h]; rfl
      · simp [hij]
    rw [e]; rfl
theorem bit_test (n k : Nat) (hn : n < 18446744073709551616) : (bits .and .u64 (n : Int) (IntKind.u64.wrap (2 ^ (k % 64))) != 0) = bitAt n k := by
  have hp : 2 ^ (k % 64) < 18446744073709551616 := by
    have : 2 ^ (k % 64) ≤ 2 ^ 63 := Nat.pow_le_pow_right (by decide) (by omega)
    have h2 : (2 : Nat) ^ 63 = 9223372036854775808 := by decide
    omega
  have e : IntKind.u64.wrap ((2 : Int) ^ (k % 64)) = ((2 ^ (k % 64) : Nat) : Int) := by
    have : (2 : Int) ^ (k % 64) = ((2 ^ (k % 64) : Nat) : Int) := by simp
    rw [this, wrap_u64]
    clear this
    generalize 2 ^ (k % 64) = p at *
    omega
  rw [e, u64_and_nat _ _ hn hp]
  unfold bitAt
  rw [← and_bit]
  generalize n &&& 2 ^ (k % 64) = m
  cases m with
  | zero => rfl
  | succ m => rfl

set_option maxRecDepth 100000 in
set_option maxHeartbeats 3200000 in
theorem dback_any (w : World) (S : Nat → Prop) (g : Nat) (d : DState) (keep torn : Nat) (hkp : keep < 18446744073709551616) (htn : torn < 18446744073709551616) (hw : d.wt.length ≤ 1000000) (h : DiskAt w S g d) :
    Calls Try.prog 19 #[.pointer (some ⟨g, 0, none⟩), .int .u64 (keep : Int), .int .u64 (torn : Int)] w fun e w' => e = .returned (.tuple #[]) ∧ DPost w S g (backD d keep torn) w' := by
  have H3 := Lib.hid h
  obtain ⟨hb, vw, h1, h2, h3, h4, h5, h6⟩ := h.ex
  obtain ⟨A, c, rfl, hc1, hc2, _⟩ := h3.form'
  unfold maxLen at hc2
  have hc0 := h1.cell 1 _ rfl
  have H1 := Lib.hid h1
  have H5 := Lib.hid h5
  have H6 := Lib.hid h6
  have hwts := H3.out.wts
  have hfew := H3.out.few
  have Hwts := Lib.hid hwts
  clear h h5 h6 hwts
  go_enter Try.func19, Try.ntmps19
  go_wp2_with fail
  go_loopw [16] (fun i wr => ∃ k : Nat, k ≤ d.wt.length ∧ i = .int .i64 k ∧ BoxAt 86 wr hb (flatB (backBl keep torn 0 (d.wt.take k) d.bl)) ∧ Chg (fun q => q = hb) w wr) (fun i _ => d.wt.length - (intOf i).toNat)
  case atStart => exact ⟨0, by omega, rfl, h2, Chg.refl _ _⟩
  case round =>
    obtain ⟨k, hk, rfl, hbb, hcg⟩ := hrel
    have h1r := h1.chg hcg (fun e => h4 e.symm)
    by_cases hlt : k < d.wt.length
    · have h3r : OwnF 88 cWt wr 0 (.slice A d.wt.length c) d.wt := h3.kept fun q hq => hcg.block q (h3.blk q hq).2 (H6.out q hq).2.1
      obtain ⟨ad, rfl, hld⟩ := wt_load h3r.row k hlt
      have hx1 := Hwts.out _ (List.getElem_mem hlt)
      have hsn := backBl_snoc keep torn (d.wt.take k) (d.wt[k]) 0 d.bl
      have htk : d.wt.take (k + 1) = d.wt.take k ++ [d.wt[k]] := by rw [List.take_add_one, List.getElem?_eq_getElem hlt]; rfl
      have hlk : (d.wt.take k).length = k := by rw [List.length_take]; omega
      rw [← htk, hlk, Nat.zero_add] at hsn
      have hsl := backBl_len keep torn (d.wt.take k) 0 d.bl
      have Hsn := Lib.hid hsn
      have Hcg := Lib.hid hcg
      clear hsn htk hcg h3r hlk
      generalize backBl keep torn 0 (d.wt.take k) d.bl = bl at *
      generalize d.wt[k] = x at *
      have Hld := Lib.hid hld
      clear hld
      have hbx : BoxAt 88 (wr.alloc (.cells (encW x).toArray 88)) wr.heap.size (encW x) := BoxAt.new_ _ _ _
      have hld8 := encW_at hbx
      have h18 := h1r.alloc (.cells (encW x).toArray 88)
      have hbb8 := hbb.alloc (.cells (encW x).toArray 88)
      have hcg8 := (Hcg.out.trans (Chg.ofBelow (balloc wr (.cells (encW x).toArray 88)))).drew_
      have hxn : x.1 < d.bl.length := hx1
      have hxn2 : (x.1 : Int).toNat = x.1 := rfl
      have htk := bit_test keep k hkp
      have htt := bit_test torn k htn
      have Hbx := Lib.hid hbx
      have Hld8 := Lib.hid hld8
      have H18 := Lib.hid h18
      have Hbb8 := Lib.hid hbb8
      have Hcg8 := Lib.hid hcg8
      clear hbx hld8 h18 hbb8 hcg8
      unfold backStep at Hsn
      cases hbk : bitAt keep k with
      | true =>
        rw [hbk] at htk Hsn
        rw [if_pos rfl] at Hsn
        clear htt hbk
        · go_wp2_with (first
            | (refine wpList_load_agg rfl 88 (.tmp 19) rfl (ad.add (k * 129)) rfl (encW x) Hld.out Try.underlying88 rfl (by rw [encW_len]; kernel_rfl) ?_)
            | (refine wpList_alloc_z rfl 88 rfl info_write zeroWc zeroW_cells ?_)
            | (refine wpList_store_new rfl 88 (.tmp 7) (.tmp 20) rfl zeroWc (encW x) rfl rfl (by rw [encW_len]; kernel_rfl) (by rw [encW_len]; rfl) (encW_one x) ?_))
          have hbx := Hbx.out
          have hld8 := Hld8.out
          have h18 := H18.out
          have hbb8 := Hbb8.out
          have hcg8 := Hcg8.out
          generalize wr.alloc (.cells (encW x).toArray 88) = w8 at *
          generalize hnb : d.bl.length = nb at *
          have Hnb := Lib.hid hnb
          clear hnb Hbx Hld8 H18 Hbb8 Hcg8
          generalize wr.heap.size = gb at *
          try simp only [Act.put, List.setIfInBounds_toArray, List.set_cons_zero, List.set_cons_succ]
          refine wp_region_mixL (ds := [29, 30, 31, 32, 33, 34, 35, 36, 37]) 9 (fun _ _ W' => W' = w8.drew) [some 29, some 30, some 31, some 32, some 33, some 34, some 35, some 36, some 37]
            [fun v => v = .pointer (some ⟨g, 0, none⟩), fun v => v = .pointer (some ⟨g, 0, none⟩), fun v => v = .pointer (some ⟨g, 0, none⟩), fun v => v = .slice (some ⟨hb, 0, none⟩) nb nb, fun v => v = .pointer (some ⟨gb, 0, none⟩), fun v => v = .int .i64 (x.1 : Int), fun v => v = .pointer (some ⟨gb, 1, none⟩), fun v => v = .agg (b8s x.2.1).toArray, fun v => v = .pointer (some ⟨hb, x.1 * 128, none⟩)]
            rfl rfl rfl (by kernel_rfl) (by kernel_rfl) ?_ (fun _ => rfl) ?_
          · refine ⟨?_, ?_, ?_, ?_, ?_, ?_, ?_, ?_, ?_, trivial⟩
            · -- 0: slot 29 := Op.move t0
              refine obM_yes fun f bb w' hj hs hd hp => ?_
              simp [PreO, factO, valOf, Region.binds] at hp
              have hj' : w' = w8.drew := hj
              subst hj'
              refine ⟨by simp [Gd, valOf, hp], ?_⟩
              refine mildM_val (.pointer (some ⟨g, 0, none⟩)) ?_ rfl rfl
              simp [execOp, evalF, hp, go_sem]
            · -- 1: slot 30 := Op.nilCheck t29
              refine obM_yes fun f bb w' hj hs hd hp => ?_
              simp [PreO, factO, valOf, Region.binds] at hp
              have hj' : w' = w8.drew := hj
              subst hj'
              refine ⟨by simp [Gd, valOf, hp], ?_⟩
              refine mildM_val (.pointer (some ⟨g, 0, none⟩)) ?_ rfl rfl
              simp [execOp, evalF, hp, go_sem]
            · -- 2: slot 31 := Op.fieldAddr 133 t30 0
              refine obM_yes fun f bb w' hj hs hd hp => ?_
              simp [PreO, factO, valOf, Region.binds] at hp
              have hj' : w' = w8.drew := hj
              subst hj'
              refine ⟨by simp [Gd, valOf, hp], ?_⟩
              refine mildM_val (.pointer (some ⟨g, 0, none⟩)) ?_ rfl rfl
              simp [execOp, evalF, hp, go_sem]
            · -- 3: slot 32 := Op.load 130 t31
              refine obM_yes fun f bb w' hj hs hd hp => ?_
              simp [PreO, factO, valOf, Region.binds] at hp
              have hj' : w' = w8.drew := hj
              subst hj'
              refine ⟨by simp [Gd, valOf, hp], ?_⟩
              have hc := h18.cell 0 _ rfl
              refine mildM_val (.slice (some ⟨hb, 0, none⟩) nb nb) ?_ rfl rfl
              simp [execOp, evalF, hp, go_sem, hc]
            · -- 4: slot 33 := Op.fieldAddr 137 t7 0
              refine obM_yes fun f bb w' hj hs hd hp => ?_
              simp [PreO, factO, valOf, Region.binds] at hp
              have hj' : w' = w8.drew := hj
              subst hj'
              refine ⟨by simp [Gd, valOf, hp], ?_⟩
              refine mildM_val (.pointer (some ⟨gb, 0, none⟩)) ?_ rfl rfl
              simp [execOp, evalF, hp, go_sem]
            · -- 5: slot 34 := Op.load 3 t33
              refine obM_yes fun f bb w' hj hs hd hp => ?_
              simp [PreO, factO, valOf, Region.binds] at hp
              have hj' : w' = w8.drew := hj
              subst hj'
              refine ⟨by simp [Gd, valOf, hp], ?_⟩
              have hc := hbx.cell 0 _ rfl
              refine mildM_val (.int .i64 (x.1 : Int)) ?_ rfl rfl
              simp [execOp, evalF, hp, go_sem, hc]
            · -- 6: slot 35 := Op.fieldAddr 137 t7 1
              refine obM_yes fun f bb w' hj hs hd hp => ?_
              simp [PreO, factO, valOf, Region.binds] at hp
              have hj' : w' = w8.drew := hj
              subst hj'
              refine ⟨by simp [Gd, valOf, hp], ?_⟩
              refine mildM_val (.pointer (some ⟨gb, 1, none⟩)) ?_ rfl rfl
              simp [execOp, evalF, hp, go_sem]
            · -- 7: slot 36 := Op.load 135 t35
              refine obM_yes fun f bb w' hj hs hd hp => ?_
              simp [PreO, factO, valOf, Region.binds] at hp
              have hj' : w' = w8.drew := hj
              subst hj'
              refine ⟨by simp [Gd, valOf, hp], ?_⟩
              have hl := run_loadVar_cells w8.drew ⟨gb, 1, none⟩ 86 (b8s x.2.1) hld8 Try.underlying86 rfl (by rw [blk_len]; kernel_rfl)
              refine mildM_val (.agg (b8s x.2.1).toArray) ?_ rfl rfl
              simp only [execOp, evalF, List.contains_eq_mem, Instr.loadAt, Instr.sureAddr, Sem.run_bind, Sem.run_pure, Result.andThen_ok]
              simp [hp, hl]
            · -- 8: slot 37 := Op.indexAddr 130 t32 t34
              refine obM_yes fun f bb w' hj hs hd hp => ?_
              simp [PreO, factO, valOf, Region.binds] at hp
              have hj' : w' = w8.drew := hj
              subst hj'
              refine ⟨by simp [Gd, valOf, hp], ?_⟩
              refine mildM_val (.pointer (some ⟨hb, x.1 * 128, none⟩)) ?_ rfl rfl
              simp [execOp, evalF, hp, go_sem, hxn, hxn2]
          · intro f bb wd hall hj hp
            have hj' : wd = w8.drew := hj
            subst hj'
            clear hall hj
            simp only [PostO] at hp
            obtain ⟨e0, e1, e2, e3, e4, e5, e6, e7, e8, _⟩ := hp
            simp only [fills, List.foldl_cons, List.foldl_nil, Act.put, List.setIfInBounds_toArray, List.set_cons_zero, List.set_cons_succ, e0, e1, e2, e3, e4, e5, e6, e7, e8]
            clear e0 e1 e2 e3 e4 e5 e6 e7 e8
            simp only [List.drop_succ_cons, List.drop_zero]
            have hbd : BoxAt 86 w8.drew hb (flatB bl) := hbb8
            refine wpList_store_mid rfl 86 (.tmp 37) (.tmp 36) rfl hb (x.1 * 128) (b8s x.2.1).toArray rfl rfl (by have := flatB_there hbd x.1 0 128 (by omega) (by omega); simpa [blk_len] using this) (by simp only [List.size_toArray, blk_len]; kernel_rfl) (all_oneCell_toArray (b8s_one _)) ?_
            simp only [List.toList_toArray]
            have hfin := hbd.setCells_ (b8s x.2.1) (x.1 * 128)
            have hcf := hcg8.trans (Chg.ofGrown (P := fun q => q = hb) (gsetCells hb (b8s x.2.1) w8.drew (x.1 * 128)) fun q e => by injection e with e; exact e.symm)
            have hps := flatB_puts bl x.1 0 x.2.1 (by omega) (by rw [x.2.2]; decide)
            rw [Nat.add_zero] at hps
            rw [hps, over_all, ← Hsn.out] at hfin
            generalize w8.drew.setCells hb (x.1 * 128) (b8s x.2.1) = w9 at *
            clear hps hbd
            go_wp2_with fail
            go_roundw
            case rel => exact ⟨k + 1, by omega, by go_num, hfin, hcf⟩
            case measure => simp [intOf]; omega
      | false =>
        rw [hbk] at htk Hsn
        rw [if_neg (by simp)] at Hsn
        cases hbt : bitAt torn k with
        | true =>
          rw [hbt] at htt Hsn
          rw [if_pos rfl] at Hsn
          clear hbk hbt
          go_wp2_with (first
            | (refine wpList_load_agg rfl 88 (.tmp 19) rfl (ad.add (k * 129)) rfl (encW x) Hld.out Try.underlying88 rfl (by rw [encW_len]; kernel_rfl) ?_)
            | (refine wpList_alloc_z rfl 88 rfl info_write zeroWc zeroW_cells ?_)
            | (refine wpList_store_new rfl 88 (.tmp 7) (.tmp 20) rfl zeroWc (encW x) rfl rfl (by rw [encW_len]; kernel_rfl) (by rw [encW_len]; rfl) (encW_one x) ?_))
          have hbx := Hbx.out
          have hld8 := Hld8.out
          have h18 := H18.out
          have hbb8 := Hbb8.out
          have hcg8 := Hcg8.out
          generalize wr.alloc (.cells (encW x).toArray 88) = w8 at *
          generalize hnb : d.bl.length = nb at *
          have Hnb := Lib.hid hnb
          clear hnb Hbx Hld8 H18 Hbb8 Hcg8
          generalize wr.heap.size = gb at *
          try simp only [Act.put, List.setIfInBounds_toArray, List.set_cons_zero, List.set_cons_succ]
          refine wp_region_mixL (ds := [43, 44, 45, 46, 47, 48, 49, 50, 51, 52]) 10 (fun _ _ W' => W' = w8.drew) [some 43, some 44, some 45, some 46, some 47, some 48, some 49, some 50, some 51, some 52]
            [fun v => v = .pointer (some ⟨g, 0, none⟩), fun v => v = .pointer (some ⟨g, 0, none⟩), fun v => v = .pointer (some ⟨g, 0, none⟩), fun v => v = .slice (some ⟨hb, 0, none⟩) nb nb, fun v => v = .pointer (some ⟨gb, 0, none⟩), fun v => v = .int .i64 (x.1 : Int), fun v => v = .pointer (some ⟨hb, x.1 * 128, none⟩), fun v => v = .slice (some ⟨hb, x.1 * 128, none⟩) 64 128, fun v => v = .pointer (some ⟨gb, 1, none⟩), fun v => v = .slice (some ⟨gb, 1, none⟩) 64 128]
            rfl rfl rfl (by kernel_rfl) (by kernel_rfl) ?_ (fun _ => rfl) ?_
          · refine ⟨?_, ?_, ?_, ?_, ?_, ?_, ?_, ?_, ?_, ?_, trivial⟩
            · -- 0: slot 43 := Op.move t0
              refine obM_yes fun f bb w' hj hs hd hp => ?_
              simp [PreO, factO, valOf, Region.binds] at hp
              have hj' : w' = w8.drew := hj
              subst hj'
              refine ⟨by simp [Gd, valOf, hp], ?_⟩
              refine mildM_val (.pointer (some ⟨g, 0, none⟩)) ?_ rfl rfl
              simp [execOp, evalF, hp, go_sem]
            · -- 1: slot 44 := Op.nilCheck t43
              refine obM_yes fun f bb w' hj hs hd hp => ?_
              simp [PreO, factO, valOf, Region.binds] at hp
              have hj' : w' = w8.drew := hj
              subst hj'
              refine ⟨by simp [Gd, valOf, hp], ?_⟩
              refine mildM_val (.pointer (some ⟨g, 0, none⟩)) ?_ rfl rfl
              simp [execOp, evalF, hp, go_sem]
            · -- 2: slot 45 := Op.fieldAddr 133 t44 0
              refine obM_yes fun f bb w' hj hs hd hp => ?_
              simp [PreO, factO, valOf, Region.binds] at hp
              have hj' : w' = w8.drew := hj
              subst hj'
              refine ⟨by simp [Gd, valOf, hp], ?_⟩
              refine mildM_val (.pointer (some ⟨g, 0, none⟩)) ?_ rfl rfl
              simp [execOp, evalF, hp, go_sem]
            · -- 3: slot 46 := Op.load 130 t45
              refine obM_yes fun f bb w' hj hs hd hp => ?_
              simp [PreO, factO, valOf, Region.binds] at hp
              have hj' : w' = w8.drew := hj
              subst hj'
              refine ⟨by simp [Gd, valOf, hp], ?_⟩
              have hc := h18.cell 0 _ rfl
              refine mildM_val (.slice (some ⟨hb, 0, none⟩) nb nb) ?_ rfl rfl
              simp [execOp, evalF, hp, go_sem, hc]
            · -- 4: slot 47 := Op.fieldAddr 137 t7 0
              refine obM_yes fun f bb w' hj hs hd hp => ?_
              simp [PreO, factO, valOf, Region.binds] at hp
              have hj' : w' = w8.drew := hj
              subst hj'
              refine ⟨by simp [Gd, valOf, hp], ?_⟩
              refine mildM_val (.pointer (some ⟨gb, 0, none⟩)) ?_ rfl rfl
              simp [execOp, evalF, hp, go_sem]
            · -- 5: slot 48 := Op.load 3 t47
              refine obM_yes fun f bb w' hj hs hd hp => ?_
              simp [PreO, factO, valOf, Region.binds] at hp
              have hj' : w' = w8.drew := hj
              subst hj'
              refine ⟨by simp [Gd, valOf, hp], ?_⟩
              have hc := hbx.cell 0 _ rfl
              refine mildM_val (.int .i64 (x.1 : Int)) ?_ rfl rfl
              simp [execOp, evalF, hp, go_sem, hc]
            · -- 6: slot 49 := Op.indexAddr 130 t46 t48
              refine obM_yes fun f bb w' hj hs hd hp => ?_
              simp [PreO, factO, valOf, Region.binds] at hp
              have hj' : w' = w8.drew := hj
              subst hj'
              refine ⟨by simp [Gd, valOf, hp], ?_⟩
              refine mildM_val (.pointer (some ⟨hb, x.1 * 128, none⟩)) ?_ rfl rfl
              simp [execOp, evalF, hp, go_sem, hxn, hxn2]
            · -- 7: slot 50 := Op.slice 135 t49 none (some (const (64:i64))) none
              refine obM_yes fun f bb w' hj hs hd hp => ?_
              simp [PreO, factO, valOf, Region.binds] at hp
              have hj' : w' = w8.drew := hj
              subst hj'
              refine ⟨by simp [Gd, valOf, hp], ?_⟩
              refine mildM_val (.slice (some ⟨hb, x.1 * 128, none⟩) 64 128) ?_ rfl rfl
              simp [execOp, evalF, hp, go_sem, Try.underlying86]
            · -- 8: slot 51 := Op.fieldAddr 137 t7 1
              refine obM_yes fun f bb w' hj hs hd hp => ?_
              simp [PreO, factO, valOf, Region.binds] at hp
              have hj' : w' = w8.drew := hj
              subst hj'
              refine ⟨by simp [Gd, valOf, hp], ?_⟩
              refine mildM_val (.pointer (some ⟨gb, 1, none⟩)) ?_ rfl rfl
              simp [execOp, evalF, hp, go_sem]
            · -- 9: slot 52 := Op.slice 135 t51 none (some (const (64:i64))) none
              refine obM_yes fun f bb w' hj hs hd hp => ?_
              simp [PreO, factO, valOf, Region.binds] at hp
              have hj' : w' = w8.drew := hj
              subst hj'
              refine ⟨by simp [Gd, valOf, hp], ?_⟩
              refine mildM_val (.slice (some ⟨gb, 1, none⟩) 64 128) ?_ rfl rfl
              simp [execOp, evalF, hp, go_sem, Try.underlying86]
          · intro f bb wd hall hj hp
            have hj' : wd = w8.drew := hj
            subst hj'
            clear hall hj
            simp only [PostO] at hp
            obtain ⟨e0, e1, e2, e3, e4, e5, e6, e7, e8, e9, _⟩ := hp
            simp only [fills, List.foldl_cons, List.foldl_nil, Act.put, List.setIfInBounds_toArray, List.set_cons_zero, List.set_cons_succ, e0, e1, e2, e3, e4, e5, e6, e7, e8, e9]
            clear e0 e1 e2 e3 e4 e5 e6 e7 e8 e9
            simp only [List.drop_succ_cons, List.drop_zero]
            have hbd : BoxAt 86 w8.drew hb (flatB bl) := hbb8
            have htl : (x.2.1.take 64).length = 64 := by rw [List.length_take, x.2.2]; rfl
            have hbl : (b8s (x.2.1.take 64)).length = 64 := by simp [b8s, x.2.2]
            have hth := flatB_there hbd x.1 0 64 (by omega) (by omega)
            rw [Nat.add_zero] at hth
            have hcp := run_copy_cells (P := Try.prog) w8.drew 30 30 3 5 hb (x.1 * 128) 64 128 ⟨gb, 1, none⟩ 64 128 (b8s (x.2.1.take 64)) Try.underlying30 (by kernel_rfl) (by rw [hbl]; rfl)
              (fun j v hv => hld8 j v (by
                rw [b8s_opt, List.getElem?_take] at hv
                rw [b8s_opt]
                split at hv
                · exact hv
                · cases hv)) (fun j hj => (hth j (by omega)).1) (fun j hj => (hth j (by omega)).2) (b8s_one _)
            rw [hbl] at hcp
            have hfin := hbd.setCells_ (b8s (x.2.1.take 64)) (x.1 * 128)
            have hcf := hcg8.trans (Chg.ofGrown (P := fun q => q = hb) (gsetCells hb (b8s (x.2.1.take 64)) w8.drew (x.1 * 128)) fun q e => by injection e with e; exact e.symm)
            have hps := flatB_puts bl x.1 0 (x.2.1.take 64) (by omega) (by rw [htl]; decide)
            rw [Nat.add_zero] at hps
            have hgd : bl.getD x.1 zeroB = bl[x.1]'(by omega) := by rw [List.getD_eq_getElem?_getD, List.getElem?_eq_getElem (by omega)]; rfl
            have hsn' := Hsn.out
            rw [hgd] at hsn'
            rw [hps, ← hsn'] at hfin
            clear hps hbd hth hgd hsn' hbl htl
            go_wp2_with fail
            generalize w8.drew.setCells hb (x.1 * 128) (b8s (x.2.1.take 64)) = w9 at *
            go_roundw
            case rel => exact ⟨k + 1, by omega, by go_num, hfin, hcf⟩
            case measure => simp [intOf]; omega
        | false =>
          rw [hbt] at htt Hsn
          rw [if_neg (by simp)] at Hsn
          clear hbk hbt
          go_wp2_with (first
            | (refine wpList_load_agg rfl 88 (.tmp 19) rfl (ad.add (k * 129)) rfl (encW x) Hld.out Try.underlying88 rfl (by rw [encW_len]; kernel_rfl) ?_)
            | (refine wpList_alloc_z rfl 88 rfl info_write zeroWc zeroW_cells ?_)
            | (refine wpList_store_new rfl 88 (.tmp 7) (.tmp 20) rfl zeroWc (encW x) rfl rfl (by rw [encW_len]; kernel_rfl) (by rw [encW_len]; rfl) (encW_one x) ?_))
          go_roundw
          case rel => exact ⟨k + 1, by omega, by go_num, by rw [Hsn.out]; exact Hbb8.out, Hcg.out.trans (Chg.ofBelow (balloc wr _))⟩
          case measure => simp [intOf]; omega
    · obtain rfl : k = d.wt.length := by omega
      rw [List.take_length] at hbb
      have hf1 := h1r.frozen 1
      have hf2 := h1r.frozen 2
      have hf3 := h1r.frozen 3
      have hc1 := h1r.cell 1 _ rfl
      have hc2 := h1r.cell 2 _ rfl
      have hc3 := h1r.cell 3 _ rfl
      clear hc0
      go_wp2_with fail
      go_end0
      have hsz := hcg.size
      refine ⟨rfl, S, DiskAt.nilW _ rfl (((h1r.put 1 _).put 2 _).put 3 _) (by unfold backD; rw [backBl_len]) (((hbb.other _ _ fun e => h4 e.symm).other _ _ fun e => h4 e.symm).other _ _ fun e => h4 e.symm) h4 H5.out H3.out.here
        (fun q hq => by have := H3.out.lt q hq; simp [World.setCell]; omega) (by unfold backD; rw [backBl_len]; exact H3.out.pos) (by unfold backD; rw [backBl_len]; exact H3.out.few) ⟨(by decide : (-9223372036854775808 : Int) ≤ -1), (by decide : (-1 : Int) ≤ 9223372036854775807)⟩, fun q hq => .inl hq, ?_⟩
      exact ((hcg.more fun q _ hq => by rw [hq]; exact H5.out).trans (Chg.set wr _ _ H3.out.here)).trans ((Chg.set _ _ _ H3.out.here).trans (Chg.set _ _ _ H3.out.here))
end Go.Proofs.Ytpoicbhbkabllaa
