/- Lemmas for the law ManifestRaw: (*disk.Disk).Back (printed by wip/gen/dback.py); (*disk.Disk).Spoil, disk.New (printed by wip/gen/dspoil.py); slices.Backward over writes that wait: an iterator from the last one on; (*disk.Disk).Read (printed by wip/gen/dread.py); A nil disk.; A disk that the caller has made: each deed, told by what it leaves alone.; manifest.slot; slices.ContainsFunc of a byte that is not 0; manifest.Read; The document's disks: put (printed by wip/gen/rdisk4.py); palmerref09.Slot. No condition. -/
import Derived.Test.YtpoicbhbkabllaaZManifestReads4
namespace Go.Proofs.Ytpoicbhbkabllaa
set_option linter.unusedSimpArgs false
set_option linter.unusedVariables false
open Go.RowKit

theorem and_bit (n j : Nat) : ((n &&& 2 ^ j) != 0) = n.testBit j := by
  cases h : n.testBit j with
  | true =>
    rw [bne_iff_ne]
    intro e
    have h2 : (n &&& 2 ^ j).testBit j = true := by rw [Nat.testBit_and, h, Nat.testBit_two_pow_self]; rfl
    rw [e] at h2
    simp at h2
  | false =>
    have e : n &&& 2 ^ j = 0 := by
      apply Nat.eq_of_testBit_eq
      intro i
      rw [Nat.testBit_and, Nat.testBit_two_pow, Nat.zero_testBit]
      by_cases hij : j = i
      · subst hij; rw [h]; rfl
      · simp [hij]
    rw [e]; rfl
theorem bit_test (n k : Nat) (hn : n < 18446744073709551616) : (bits .and .u64 (n : Int) (IntKind.u64.wrap (2 ^ (k % 64))) != 0) = bitAt n k := by
  have hp : 2 ^ (k % 64) < 18446744073709551616 := by
    have : 2 ^ (k % 64) ≤ 2 ^ 63 := Nat.pow_le_pow_right (by decide) (by omega)
    have h2 : (2 : Nat) ^ 63 = 9223372036854775808 := by decide
    omega
  have e : IntKind.u64.wrap ((2 : Int) ^ (k % 64)) = ((2 ^ (k % 64) : Nat) : Int) := by
    have : (2 : Int) ^ (k % 64) = ((2 ^ (k % 64) : Nat) : Int) := by simp
    rw [this, wrap_u64]
    clear this
    generalize 2 ^ (k % 64) = p at *
    omega
  rw [e, u64_and_nat _ _ hn hp]
  unfold bitAt
  rw [← and_bit]
  generalize n &&& 2 ^ (k % 64) = m
  cases m with
  | zero => rfl
  | succ m => rfl

set_option maxRecDepth 100000 in
set_option maxHeartbeats 3200000 in
theorem dback_any (w : World) (S : Nat → Prop) (g : Nat) (d : DState) (keep torn : Nat) (hkp : keep < 18446744073709551616) (htn : torn < 18446744073709551616) (hw : d.wt.length ≤ 1000000) (h : DiskAt w S g d) :
    Calls Try.prog 19 #[.pointer (some ⟨g, 0, none⟩), .int .u64 (keep : Int), .int .u64 (torn : Int)] w fun e w' => e = .returned (.tuple #[]) ∧ DPost w S g (backD d keep torn) w' := by
  have H3 := Lib.hid h
  obtain ⟨hb, vw, h1, h2, h3, h4, h5, h6⟩ := h.ex
  obtain ⟨A, c, rfl, hc1, hc2, _⟩ := h3.form'
  unfold maxLen at hc2
  have hc0 := h1.cell 1 _ rfl
  have H1 := Lib.hid h1
  have H5 := Lib.hid h5
  have H6 := Lib.hid h6
  have hwts := H3.out.wts
  have hfew := H3.out.few
  have Hwts := Lib.hid hwts
  clear h h5 h6 hwts
  go_enter Try.func19, Try.ntmps19
  go_wp2_with fail
  go_loopw [16] (fun i wr => ∃ k : Nat, k ≤ d.wt.length ∧ i = .int .i64 k ∧ BoxAt 86 wr hb (flatB (backBl keep torn 0 (d.wt.take k) d.bl)) ∧ Chg (fun q => q = hb) w wr) (fun i _ => d.wt.length - (intOf i).toNat)
  case atStart => exact ⟨0, by omega, rfl, h2, Chg.refl _ _⟩
  case round =>
    obtain ⟨k, hk, rfl, hbb, hcg⟩ := hrel
    have h1r := h1.chg hcg (fun e => h4 e.symm)
    by_cases hlt : k < d.wt.length
    · have h3r : OwnF 88 cWt wr 0 (.slice A d.wt.length c) d.wt := h3.kept fun q hq => hcg.block q (h3.blk q hq).2 (H6.out q hq).2.1
      obtain ⟨ad, rfl, hld⟩ := wt_load h3r.row k hlt
      have hx1 := Hwts.out _ (List.getElem_mem hlt)
      have hsn := backBl_snoc keep torn (d.wt.take k) (d.wt[k]) 0 d.bl
      have htk : d.wt.take (k + 1) = d.wt.take k ++ [d.wt[k]] := by rw [List.take_add_one, List.getElem?_eq_getElem hlt]; rfl
      have hlk : (d.wt.take k).length = k := by rw [List.length_take]; omega
      rw [← htk, hlk, Nat.zero_add] at hsn
      have hsl := backBl_len keep torn (d.wt.take k) 0 d.bl
      have Hsn := Lib.hid hsn
      have Hcg := Lib.hid hcg
      clear hsn htk hcg h3r hlk
      generalize backBl keep torn 0 (d.wt.take k) d.bl = bl at *
      generalize d.wt[k] = x at *
      have Hld := Lib.hid hld
      clear hld
      have hbx : BoxAt 88 (wr.alloc (.cells (encW x).toArray 88)) wr.heap.size (encW x) := BoxAt.new_ _ _ _
      have hld8 := encW_at hbx
      have h18 := h1r.alloc (.cells (encW x).toArray 88)
      have hbb8 := hbb.alloc (.cells (encW x).toArray 88)
      have hcg8 := (Hcg.out.trans (Chg.ofBelow (balloc wr (.cells (encW x).toArray 88)))).drew_
      have hxn : x.1 < d.bl.length := hx1
      have hxn2 : (x.1 : Int).toNat = x.1 := rfl
      have htk := bit_test keep k hkp
      have htt := bit_test torn k htn
      have Hbx := Lib.hid hbx
      have Hld8 := Lib.hid hld8
      have H18 := Lib.hid h18
      have Hbb8 := Lib.hid hbb8
      have Hcg8 := Lib.hid hcg8
      clear hbx hld8 h18 hbb8 hcg8
      unfold backStep at Hsn
      cases hbk : bitAt keep k with
      | true =>
        rw [hbk] at htk Hsn
        rw [if_pos rfl] at Hsn
        clear htt hbk
        · go_wp2_with (first
            | (refine wpList_load_agg rfl 88 (.tmp 19) rfl (ad.add (k * 129)) rfl (encW x) Hld.out Try.underlying88 rfl (by rw [encW_len]; kernel_rfl) ?_)
            | (refine wpList_alloc_z rfl 88 rfl info_write zeroWc zeroW_cells ?_)
            | (refine wpList_store_new rfl 88 (.tmp 7) (.tmp 20) rfl zeroWc (encW x) rfl rfl (by rw [encW_len]; kernel_rfl) (by rw [encW_len]; rfl) (encW_one x) ?_))
          have hbx := Hbx.out
          have hld8 := Hld8.out
          have h18 := H18.out
          have hbb8 := Hbb8.out
          have hcg8 := Hcg8.out
          generalize wr.alloc (.cells (encW x).toArray 88) = w8 at *
          generalize hnb : d.bl.length = nb at *
          have Hnb := Lib.hid hnb
          clear hnb Hbx Hld8 H18 Hbb8 Hcg8
          generalize wr.heap.size = gb at *
          try simp only [Act.put, List.setIfInBounds_toArray, List.set_cons_zero, List.set_cons_succ]
          refine wp_region_mixL (ds := [29, 30, 31, 32, 33, 34, 35, 36, 37]) 9 (fun _ _ W' => W' = w8.drew) [some 29, some 30, some 31, some 32, some 33, some 34, some 35, some 36, some 37]
            [fun v => v = .pointer (some ⟨g, 0, none⟩), fun v => v = .pointer (some ⟨g, 0, none⟩), fun v => v = .pointer (some ⟨g, 0, none⟩), fun v => v = .slice (some ⟨hb, 0, none⟩) nb nb, fun v => v = .pointer (some ⟨gb, 0, none⟩), fun v => v = .int .i64 (x.1 : Int), fun v => v = .pointer (some ⟨gb, 1, none⟩), fun v => v = .agg (b8s x.2.1).toArray, fun v => v = .pointer (some ⟨hb, x.1 * 128, none⟩)]
            rfl rfl rfl (by kernel_rfl) (by kernel_rfl) ?_ (fun _ => rfl) ?_
          · refine ⟨?_, ?_, ?_, ?_, ?_, ?_, ?_, ?_, ?_, trivial⟩
            · -- 0: slot 29 := Op.move t0
              refine obM_yes fun f bb w' hj hs hd hp => ?_
              simp [PreO, factO, valOf, Region.binds] at hp
              have hj' : w' = w8.drew := hj
              subst hj'
              refine ⟨by simp [Gd, valOf, hp], ?_⟩
              refine mildM_val (.pointer (some ⟨g, 0, none⟩)) ?_ rfl rfl
              simp [execOp, evalF, hp, go_sem]
            · -- 1: slot 30 := Op.nilCheck t29
              refine obM_yes fun f bb w' hj hs hd hp => ?_
              simp [PreO, factO, valOf, Region.binds] at hp
              have hj' : w' = w8.drew := hj
              subst hj'
              refine ⟨by simp [Gd, valOf, hp], ?_⟩
              refine mildM_val (.pointer (some ⟨g, 0, none⟩)) ?_ rfl rfl
              simp [execOp, evalF, hp, go_sem]
            · -- 2: slot 31 := Op.fieldAddr 133 t30 0
              refine obM_yes fun f bb w' hj hs hd hp => ?_
              simp [PreO, factO, valOf, Region.binds] at hp
              have hj' : w' = w8.drew := hj
              subst hj'
              refine ⟨by simp [Gd, valOf, hp], ?_⟩
              refine mildM_val (.pointer (some ⟨g, 0, none⟩)) ?_ rfl rfl
              simp [execOp, evalF, hp, go_sem]
            · -- 3: slot 32 := Op.load 130 t31
              refine obM_yes fun f bb w' hj hs hd hp => ?_
              simp [PreO, factO, valOf, Region.binds] at hp
              have hj' : w' = w8.drew := hj
              subst hj'
              refine ⟨by simp [Gd, valOf, hp], ?_⟩
              have hc := h18.cell 0 _ rfl
              refine mildM_val (.slice (some ⟨hb, 0, none⟩) nb nb) ?_ rfl rfl
              simp [execOp, evalF, hp, go_sem, hc]
            · -- 4: slot 33 := Op.fieldAddr 137 t7 0
              refine obM_yes fun f bb w' hj hs hd hp => ?_
              simp [PreO, factO, valOf, Region.binds] at hp
              have hj' : w' = w8.drew := hj
              subst hj'
              refine ⟨by simp [Gd, valOf, hp], ?_⟩
              refine mildM_val (.pointer (some ⟨gb, 0, none⟩)) ?_ rfl rfl
              simp [execOp, evalF, hp, go_sem]
            · -- 5: slot 34 := Op.load 3 t33
              refine obM_yes fun f bb w' hj hs hd hp => ?_
              simp [PreO, factO, valOf, Region.binds] at hp
              have hj' : w' = w8.drew := hj
              subst hj'
              refine ⟨by simp [Gd, valOf, hp], ?_⟩
              have hc := hbx.cell 0 _ rfl
              refine mildM_val (.int .i64 (x.1 : Int)) ?_ rfl rfl
              simp [execOp, evalF, hp, go_sem, hc]
            · -- 6: slot 35 := Op.fieldAddr 137 t7 1
              refine obM_yes fun f bb w' hj hs hd hp => ?_
              simp [PreO, factO, valOf, Region.binds] at hp
              have hj' : w' = w8.drew := hj
              subst hj'
              refine ⟨by simp [Gd, valOf, hp], ?_⟩
              refine mildM_val (.pointer (some ⟨gb, 1, none⟩)) ?_ rfl rfl
              simp [execOp, evalF, hp, go_sem]
            · -- 7: slot 36 := Op.load 135 t35
              refine obM_yes fun f bb w' hj hs hd hp => ?_
              simp [PreO, factO, valOf, Region.binds] at hp
              have hj' : w' = w8.drew := hj
              subst hj'
              refine ⟨by simp [Gd, valOf, hp], ?_⟩
              have hl := run_loadVar_cells w8.drew ⟨gb, 1, none⟩ 86 (b8s x.2.1) hld8 Try.underlying86 rfl (by rw [blk_len]; kernel_rfl)
              refine mildM_val (.agg (b8s x.2.1).toArray) ?_ rfl rfl
              simp only [execOp, evalF, List.contains_eq_mem, Instr.loadAt, Instr.sureAddr, Sem.run_bind, Sem.run_pure, Result.andThen_ok]
              simp [hp, hl]
            · -- 8: slot 37 := Op.indexAddr 130 t32 t34
              refine obM_yes fun f bb w' hj hs hd hp => ?_
              simp [PreO, factO, valOf, Region.binds] at hp
              have hj' : w' = w8.drew := hj
              subst hj'
              refine ⟨by simp [Gd, valOf, hp], ?_⟩
              refine mildM_val (.pointer (some ⟨hb, x.1 * 128, none⟩)) ?_ rfl rfl
              simp [execOp, evalF, hp, go_sem, hxn, hxn2]
          · intro f bb wd hall hj hp
            have hj' : wd = w8.drew := hj
            subst hj'
            clear hall hj
            simp only [PostO] at hp
            obtain ⟨e0, e1, e2, e3, e4, e5, e6, e7, e8, _⟩ := hp
            simp only [fills, List.foldl_cons, List.foldl_nil, Act.put, List.setIfInBounds_toArray, List.set_cons_zero, List.set_cons_succ, e0, e1, e2, e3, e4, e5, e6, e7, e8]
            clear e0 e1 e2 e3 e4 e5 e6 e7 e8
            simp only [List.drop_succ_cons, List.drop_zero]
            have hbd : BoxAt 86 w8.drew hb (flatB bl) := hbb8
            refine wpList_store_mid rfl 86 (.tmp 37) (.tmp 36) rfl hb (x.1 * 128) (b8s x.2.1).toArray rfl rfl (by have := flatB_there hbd x.1 0 128 (by omega) (by omega); simpa [blk_len] using this) (by simp only [List.size_toArray, blk_len]; kernel_rfl) (all_oneCell_toArray (b8s_one _)) ?_
            simp only [List.toList_toArray]
            have hfin := hbd.setCells_ (b8s x.2.1) (x.1 * 128)
            have hcf := hcg8.trans (Chg.ofGrown (P := fun q => q = hb) (gsetCells hb (b8s x.2.1) w8.drew (x.1 * 128)) fun q e => by injection e with e; exact e.symm)
            have hps := flatB_puts bl x.1 0 x.2.1 (by omega) (by rw [x.2.2]; decide)
            rw [Nat.add_zero] at hps
            rw [hps, over_all, ← Hsn.out] at hfin
            generalize w8.drew.setCells hb (x.1 * 128) (b8s x.2.1) = w9 at *
            clear hps hbd
            go_wp2_with fail
            go_roundw
            case rel => exact ⟨k + 1, by omega, by go_num, hfin, hcf⟩
            case measure => simp [intOf]; omega
      | false =>
        rw [hbk] at htk Hsn
        rw [if_neg (by simp)] at Hsn
        cases hbt : bitAt torn k with
        | true =>
          rw [hbt] at htt Hsn
          rw [if_pos rfl] at Hsn
          clear hbk hbt
          go_wp2_with (first
            | (refine wpList_load_agg rfl 88 (.tmp 19) rfl (ad.add (k * 129)) rfl (encW x) Hld.out Try.underlying88 rfl (by rw [encW_len]; kernel_rfl) ?_)
            | (refine wpList_alloc_z rfl 88 rfl info_write zeroWc zeroW_cells ?_)
            | (refine wpList_store_new rfl 88 (.tmp 7) (.tmp 20) rfl zeroWc (encW x) rfl rfl (by rw [encW_len]; kernel_rfl) (by rw [encW_len]; rfl) (encW_one x) ?_))
          have hbx := Hbx.out
          have hld8 := Hld8.out
          have h18 := H18.out
          have hbb8 := Hbb8.out
          have hcg8 := Hcg8.out
          generalize wr.alloc (.cells (encW x).toArray 88) = w8 at *
          generalize hnb : d.bl.length = nb at *
          have Hnb := Lib.hid hnb
          clear hnb Hbx Hld8 H18 Hbb8 Hcg8
          generalize wr.heap.size = gb at *
          try simp only [Act.put, List.setIfInBounds_toArray, List.set_cons_zero, List.set_cons_succ]
          refine wp_region_mixL (ds := [43, 44, 45, 46, 47, 48, 49, 50, 51, 52]) 10 (fun _ _ W' => W' = w8.drew) [some 43, some 44, some 45, some 46, some 47, some 48, some 49, some 50, some 51, some 52]
            [fun v => v = .pointer (some ⟨g, 0, none⟩), fun v => v = .pointer (some ⟨g, 0, none⟩), fun v => v = .pointer (some ⟨g, 0, none⟩), fun v => v = .slice (some ⟨hb, 0, none⟩) nb nb, fun v => v = .pointer (some ⟨gb, 0, none⟩), fun v => v = .int .i64 (x.1 : Int), fun v => v = .pointer (some ⟨hb, x.1 * 128, none⟩), fun v => v = .slice (some ⟨hb, x.1 * 128, none⟩) 64 128, fun v => v = .pointer (some ⟨gb, 1, none⟩), fun v => v = .slice (some ⟨gb, 1, none⟩) 64 128]
            rfl rfl rfl (by kernel_rfl) (by kernel_rfl) ?_ (fun _ => rfl) ?_
          · refine ⟨?_, ?_, ?_, ?_, ?_, ?_, ?_, ?_, ?_, ?_, trivial⟩
            · -- 0: slot 43 := Op.move t0
              refine obM_yes fun f bb w' hj hs hd hp => ?_
              simp [PreO, factO, valOf, Region.binds] at hp
              have hj' : w' = w8.drew := hj
              subst hj'
              refine ⟨by simp [Gd, valOf, hp], ?_⟩
              refine mildM_val (.pointer (some ⟨g, 0, none⟩)) ?_ rfl rfl
              simp [execOp, evalF, hp, go_sem]
            · -- 1: slot 44 := Op.nilCheck t43
              refine obM_yes fun f bb w' hj hs hd hp => ?_
              simp [PreO, factO, valOf, Region.binds] at hp
              have hj' : w' = w8.drew := hj
              subst hj'
              refine ⟨by simp [Gd, valOf, hp], ?_⟩
              refine mildM_val (.pointer (some ⟨g, 0, none⟩)) ?_ rfl rfl
              simp [execOp, evalF, hp, go_sem]
            · -- 2: slot 45 := Op.fieldAddr 133 t44 0
              refine obM_yes fun f bb w' hj hs hd hp => ?_
              simp [PreO, factO, valOf, Region.binds] at hp
              have hj' : w' = w8.drew := hj
              subst hj'
              refine ⟨by simp [Gd, valOf, hp], ?_⟩
              refine mildM_val (.pointer (some ⟨g, 0, none⟩)) ?_ rfl rfl
              simp [execOp, evalF, hp, go_sem]
            · -- 3: slot 46 := Op.load 130 t45
              refine obM_yes fun f bb w' hj hs hd hp => ?_
              simp [PreO, factO, valOf, Region.binds] at hp
              have hj' : w' = w8.drew := hj
              subst hj'
              refine ⟨by simp [Gd, valOf, hp], ?_⟩
              have hc := h18.cell 0 _ rfl
              refine mildM_val (.slice (some ⟨hb, 0, none⟩) nb nb) ?_ rfl rfl
              simp [execOp, evalF, hp, go_sem, hc]
            · -- 4: slot 47 := Op.fieldAddr 137 t7 0
              refine obM_yes fun f bb w' hj hs hd hp => ?_
              simp [PreO, factO, valOf, Region.binds] at hp
              have hj' : w' = w8.drew := hj
              subst hj'
              refine ⟨by simp [Gd, valOf, hp], ?_⟩
              refine mildM_val (.pointer (some ⟨gb, 0, none⟩)) ?_ rfl rfl
              simp [execOp, evalF, hp, go_sem]
            · -- 5: slot 48 := Op.load 3 t47
              refine obM_yes fun f bb w' hj hs hd hp => ?_
              simp [PreO, factO, valOf, Region.binds] at hp
              have hj' : w' = w8.drew := hj
              subst hj'
              refine ⟨by simp [Gd, valOf, hp], ?_⟩
              have hc := hbx.cell 0 _ rfl
              refine mildM_val (.int .i64 (x.1 : Int)) ?_ rfl rfl
              simp [execOp, evalF, hp, go_sem, hc]
            · -- 6: slot 49 := Op.indexAddr 130 t46 t48
              refine obM_yes fun f bb w' hj hs hd hp => ?_
              simp [PreO, factO, valOf, Region.binds] at hp
              have hj' : w' = w8.drew := hj
              subst hj'
              refine ⟨by simp [Gd, valOf, hp], ?_⟩
              refine mildM_val (.pointer (some ⟨hb, x.1 * 128, none⟩)) ?_ rfl rfl
              simp [execOp, evalF, hp, go_sem, hxn, hxn2]
            · -- 7: slot 50 := Op.slice 135 t49 none (some (const (64:i64))) none
              refine obM_yes fun f bb w' hj hs hd hp => ?_
              simp [PreO, factO, valOf, Region.binds] at hp
              have hj' : w' = w8.drew := hj
              subst hj'
              refine ⟨by simp [Gd, valOf, hp], ?_⟩
              refine mildM_val (.slice (some ⟨hb, x.1 * 128, none⟩) 64 128) ?_ rfl rfl
              simp [execOp, evalF, hp, go_sem, Try.underlying86]
            · -- 8: slot 51 := Op.fieldAddr 137 t7 1
              refine obM_yes fun f bb w' hj hs hd hp => ?_
              simp [PreO, factO, valOf, Region.binds] at hp
              have hj' : w' = w8.drew := hj
              subst hj'
              refine ⟨by simp [Gd, valOf, hp], ?_⟩
              refine mildM_val (.pointer (some ⟨gb, 1, none⟩)) ?_ rfl rfl
              simp [execOp, evalF, hp, go_sem]
            · -- 9: slot 52 := Op.slice 135 t51 none (some (const (64:i64))) none
              refine obM_yes fun f bb w' hj hs hd hp => ?_
              simp [PreO, factO, valOf, Region.binds] at hp
              have hj' : w' = w8.drew := hj
              subst hj'
              refine ⟨by simp [Gd, valOf, hp], ?_⟩
              refine mildM_val (.slice (some ⟨gb, 1, none⟩) 64 128) ?_ rfl rfl
              simp [execOp, evalF, hp, go_sem, Try.underlying86]
          · intro f bb wd hall hj hp
            have hj' : wd = w8.drew := hj
            subst hj'
            clear hall hj
            simp only [PostO] at hp
            obtain ⟨e0, e1, e2, e3, e4, e5, e6, e7, e8, e9, _⟩ := hp
            simp only [fills, List.foldl_cons, List.foldl_nil, Act.put, List.setIfInBounds_toArray, List.set_cons_zero, List.set_cons_succ, e0, e1, e2, e3, e4, e5, e6, e7, e8, e9]
            clear e0 e1 e2 e3 e4 e5 e6 e7 e8 e9
            simp only [List.drop_succ_cons, List.drop_zero]
            have hbd : BoxAt 86 w8.drew hb (flatB bl) := hbb8
            have htl : (x.2.1.take 64).length = 64 := by rw [List.length_take, x.2.2]; rfl
            have hbl : (b8s (x.2.1.take 64)).length = 64 := by simp [b8s, x.2.2]
            have hth := flatB_there hbd x.1 0 64 (by omega) (by omega)
            rw [Nat.add_zero] at hth
            have hcp := run_copy_cells (P := Try.prog) w8.drew 30 30 3 5 hb (x.1 * 128) 64 128 ⟨gb, 1, none⟩ 64 128 (b8s (x.2.1.take 64)) Try.underlying30 (by kernel_rfl) (by rw [hbl]; rfl)
              (fun j v hv => hld8 j v (by
                rw [b8s_opt, List.getElem?_take] at hv
                rw [b8s_opt]
                split at hv
                · exact hv
                · cases hv)) (fun j hj => (hth j (by omega)).1) (fun j hj => (hth j (by omega)).2) (b8s_one _)
            rw [hbl] at hcp
            have hfin := hbd.setCells_ (b8s (x.2.1.take 64)) (x.1 * 128)
            have hcf := hcg8.trans (Chg.ofGrown (P := fun q => q = hb) (gsetCells hb (b8s (x.2.1.take 64)) w8.drew (x.1 * 128)) fun q e => by injection e with e; exact e.symm)
            have hps := flatB_puts bl x.1 0 (x.2.1.take 64) (by omega) (by rw [htl]; decide)
            rw [Nat.add_zero] at hps
            have hgd : bl.getD x.1 zeroB = bl[x.1]'(by omega) := by rw [List.getD_eq_getElem?_getD, List.getElem?_eq_getElem (by omega)]; rfl
            have hsn' := Hsn.out
            rw [hgd] at hsn'
            rw [hps, ← hsn'] at hfin
            clear hps hbd hth hgd hsn' hbl htl
            go_wp2_with fail
            generalize w8.drew.setCells hb (x.1 * 128) (b8s (x.2.1.take 64)) = w9 at *
            go_roundw
            case rel => exact ⟨k + 1, by omega, by go_num, hfin, hcf⟩
            case measure => simp [intOf]; omega
        | false =>
          rw [hbt] at htt Hsn
          rw [if_neg (by simp)] at Hsn
          clear hbk hbt
          go_wp2_with (first
            | (refine wpList_load_agg rfl 88 (.tmp 19) rfl (ad.add (k * 129)) rfl (encW x) Hld.out Try.underlying88 rfl (by rw [encW_len]; kernel_rfl) ?_)
            | (refine wpList_alloc_z rfl 88 rfl info_write zeroWc zeroW_cells ?_)
            | (refine wpList_store_new rfl 88 (.tmp 7) (.tmp 20) rfl zeroWc (encW x) rfl rfl (by rw [encW_len]; kernel_rfl) (by rw [encW_len]; rfl) (encW_one x) ?_))
          go_roundw
          case rel => exact ⟨k + 1, by omega, by go_num, by rw [Hsn.out]; exact Hbb8.out, Hcg.out.trans (Chg.ofBelow (balloc wr _))⟩
          case measure => simp [intOf]; omega
    · obtain rfl : k = d.wt.length := by omega
      rw [List.take_length] at hbb
      have hf1 := h1r.frozen 1
      have hf2 := h1r.frozen 2
      have hf3 := h1r.frozen 3
      have hc1 := h1r.cell 1 _ rfl
      have hc2 := h1r.cell 2 _ rfl
      have hc3 := h1r.cell 3 _ rfl
      clear hc0
      go_wp2_with fail
      go_end0
      have hsz := hcg.size
      refine ⟨rfl, S, DiskAt.nilW _ rfl (((h1r.put 1 _).put 2 _).put 3 _) (by unfold backD; rw [backBl_len]) (((hbb.other _ _ fun e => h4 e.symm).other _ _ fun e => h4 e.symm).other _ _ fun e => h4 e.symm) h4 H5.out H3.out.here
        (fun q hq => by have := H3.out.lt q hq; simp [World.setCell]; omega) (by unfold backD; rw [backBl_len]; exact H3.out.pos) (by unfold backD; rw [backBl_len]; exact H3.out.few) ⟨(by decide : (-9223372036854775808 : Int) ≤ -1), (by decide : (-1 : Int) ≤ 9223372036854775807)⟩, fun q hq => .inl hq, ?_⟩
      exact ((hcg.more fun q _ hq => by rw [hq]; exact H5.out).trans (Chg.set wr _ _ H3.out.here)).trans ((Chg.set _ _ _ H3.out.here).trans (Chg.set _ _ _ H3.out.here))
end Go.Proofs.Ytpoicbhbkabllaa

namespace Go.Proofs.Ytpoicbhbkabllaa
set_option linter.unusedSimpArgs false
set_option linter.unusedVariables false
open Go.RowKit

set_option maxRecDepth 100000 in
set_option maxHeartbeats 3200000 in
theorem dspoil_any (w : World) (S : Nat → Prop) (g : Nat) (d : DState) (i at_ : Int) (c : UInt8) (h : DiskAt w S g d) :
    Calls Try.prog 27 #[.pointer (some ⟨g, 0, none⟩), .int .i64 i, .int .i64 at_, .int .u8 (c.toNat : Int)] w fun e w' => e = .returned (.int .i64 (spoilE d i at_)) ∧ DPost w S g (spoilD d i at_ c) w' := by
  have H3 := Lib.hid h
  have hth := dthere_any w S g d i h
  unfold spoilD spoilE
  by_cases hok : 0 ≤ i ∧ i < (d.bl.length : Int) ∧ 0 ≤ at_ ∧ at_ < 128
  · rw [if_pos hok, if_neg (by simp)]
    obtain ⟨k, rfl⟩ : ∃ k : Nat, i = (k : Int) := ⟨i.toNat, by omega⟩
    obtain ⟨m, rfl⟩ : ∃ m : Nat, at_ = (m : Int) := ⟨at_.toNat, by omega⟩
    obtain ⟨hk0, hk1, hm0, hm1⟩ := hok
    rw [decide_eq_true hk0, decide_eq_true hk1] at hth
    have hkn : k < d.bl.length := by omega
    have hm128 : m < 128 := by omega
    have hd1 : decide ((m : Int) < 0) = false := decide_eq_false (by omega)
    have hd2 : decide (128 ≤ (m : Int)) = false := decide_eq_false (by omega)
    have Hth := Lib.hid hth
    rw [Int.toNat_natCast, Int.toNat_natCast]
    clear hth hk0 hk1 hm0 hm1 h
    go_enter Try.func27, Try.ntmps27
    go_wp2_with fail
    refine Hth.out.mono ?_
    rintro _ _ ⟨rfl, rfl⟩
    go_wp2_with fail
    obtain ⟨hb, vw, h1, h2, h3, h4, h5, h6⟩ := H3.out.ex
    have hgd : d.bl.getD k zeroB = d.bl[k] := by rw [List.getD_eq_getElem?_getD, List.getElem?_eq_getElem hkn]; rfl
    have hml : m < (d.bl[k]).1.length := by rw [(d.bl[k]).2]; exact hm128
    have hgy : (d.bl[k]).1.getD m 0 = (d.bl[k]).1[m] := by rw [List.getD_eq_getElem?_getD, List.getElem?_eq_getElem hml]; rfl
    obtain ⟨y, hy⟩ : ∃ y, y = (d.bl[k]).1[m] := ⟨_, rfl⟩
    have hcy : w.cell? ⟨hb, k * 128 + m, none⟩ = some (.int .u8 (y.toNat : Int)) := by
      refine h2.cell _ _ ?_
      rw [flatB_at _ _ _ hkn hm128, b8s_opt, List.getElem?_eq_getElem hml, hy]; rfl
    have hxor : bits .xor .u8 (y.toNat : Int) (c.toNat : Int) = ((y ^^^ c).toNat : Int) := xor_u8 y c
    have hps := flatB_puts d.bl k m [y ^^^ c] hkn (by simp; omega)
    have hfr := h2.frozen (k * 128 + m)
    have hfin := h2.put (k * 128 + m) (.int .u8 ((y ^^^ c).toNat : Int))
    have hps2 : (flatB d.bl).set (k * 128 + m) (.int .u8 ((y ^^^ c).toNat : Int)) = flatB (d.bl.set k (over d.bl[k] m [y ^^^ c])) := hps
    rw [hps2] at hfin
    rw [UInt8.toNat_xor] at hfin
    have Hfin := Lib.hid hfin
    have Hgd := Lib.hid hgd
    have Hgy := Lib.hid hgy
    have Hy := Lib.hid hy
    have H1 := Lib.hid h1
    have H32 := Lib.hid h3
    have H6 := Lib.hid h6
    clear hgd hgy hy hps hps2 hfin h3 h6
    obtain ⟨nb, hnb⟩ : ∃ nb, nb = d.bl.length := ⟨_, rfl⟩
    rw [← hnb] at h1
    have hkn2 : k < nb := by omega
    have hmi : ¬ 128 ≤ (m : Int) := by omega
    have Hnb := Lib.hid hnb.symm
    clear hnb
    refine wp_region_mixL (ds := [21, 22, 23, 24, 25, 26, 27, 28, 29, 30, 31, 32, 33]) 13 (fun _ _ W' => W' = w.drew) [some 21, some 22, some 23, some 24, some 25, some 26, some 27, some 28, some 29, some 30, some 31, some 32, some 33]
      [fun v => v = .pointer (some ⟨g, 0, none⟩), fun v => v = .pointer (some ⟨g, 0, none⟩), fun v => v = .pointer (some ⟨g, 0, none⟩), fun v => v = .slice (some ⟨hb, 0, none⟩) nb nb, fun v => v = .int .i64 (k : Int), fun v => v = .int .i64 (m : Int), fun v => v = .pointer (some ⟨hb, k * 128, none⟩), fun v => v = .pointer (some ⟨hb, k * 128 + m, none⟩), fun v => v = .int .u8 (y.toNat : Int), fun v => v = .int .u8 (c.toNat : Int), fun v => v = .int .u8 ((y ^^^ c).toNat : Int), fun v => v = .pointer (some ⟨hb, k * 128, none⟩), fun v => v = .pointer (some ⟨hb, k * 128 + m, none⟩)]
      rfl rfl rfl (by kernel_rfl) (by kernel_rfl) ?_ (fun _ => rfl) ?_
    · refine ⟨?_, ?_, ?_, ?_, ?_, ?_, ?_, ?_, ?_, ?_, ?_, ?_, ?_, trivial⟩
      · -- 0: slot 21 := Op.move t0
        refine obM_yes fun f bb w' hj hs hd hp => ?_
        simp [PreO, factO, valOf, Region.binds] at hp
        have hj' : w' = w.drew := hj
        subst hj'
        refine ⟨by simp [Gd, valOf, hp], ?_⟩
        refine mildM_val (.pointer (some ⟨g, 0, none⟩)) ?_ rfl rfl
        simp [execOp, evalF, hp, go_sem]
      · -- 1: slot 22 := Op.nilCheck t21
        refine obM_yes fun f bb w' hj hs hd hp => ?_
        simp [PreO, factO, valOf, Region.binds] at hp
        have hj' : w' = w.drew := hj
        subst hj'
        refine ⟨by simp [Gd, valOf, hp], ?_⟩
        refine mildM_val (.pointer (some ⟨g, 0, none⟩)) ?_ rfl rfl
        simp [execOp, evalF, hp, go_sem]
      · -- 2: slot 23 := Op.fieldAddr 84 t22 0
        refine obM_yes fun f bb w' hj hs hd hp => ?_
        simp [PreO, factO, valOf, Region.binds] at hp
        have hj' : w' = w.drew := hj
        subst hj'
        refine ⟨by simp [Gd, valOf, hp], ?_⟩
        refine mildM_val (.pointer (some ⟨g, 0, none⟩)) ?_ rfl rfl
        simp [execOp, evalF, hp, go_sem]
      · -- 3: slot 24 := Op.load 81 t23
        refine obM_yes fun f bb w' hj hs hd hp => ?_
        simp [PreO, factO, valOf, Region.binds] at hp
        have hj' : w' = w.drew := hj
        subst hj'
        refine ⟨by simp [Gd, valOf, hp], ?_⟩
        have hc := h1.cell 0 _ rfl
        refine mildM_val (.slice (some ⟨hb, 0, none⟩) nb nb) ?_ rfl rfl
        simp [execOp, evalF, hp, go_sem, hc]
      · -- 4: slot 25 := Op.move t1
        refine obM_yes fun f bb w' hj hs hd hp => ?_
        simp [PreO, factO, valOf, Region.binds] at hp
        have hj' : w' = w.drew := hj
        subst hj'
        refine ⟨by simp [Gd, valOf, hp], ?_⟩
        refine mildM_val (.int .i64 (k : Int)) ?_ rfl rfl
        simp [execOp, evalF, hp, go_sem]
      · -- 5: slot 26 := Op.move t2
        refine obM_yes fun f bb w' hj hs hd hp => ?_
        simp [PreO, factO, valOf, Region.binds] at hp
        have hj' : w' = w.drew := hj
        subst hj'
        refine ⟨by simp [Gd, valOf, hp], ?_⟩
        refine mildM_val (.int .i64 (m : Int)) ?_ rfl rfl
        simp [execOp, evalF, hp, go_sem]
      · -- 6: slot 27 := Op.indexAddr 81 t24 t25
        refine obM_yes fun f bb w' hj hs hd hp => ?_
        simp [PreO, factO, valOf, Region.binds] at hp
        have hj' : w' = w.drew := hj
        subst hj'
        refine ⟨by simp [Gd, valOf, hp], ?_⟩
        refine mildM_val (.pointer (some ⟨hb, k * 128, none⟩)) ?_ rfl rfl
        simp [execOp, evalF, hp, go_sem, hkn2]
      · -- 7: slot 28 := Op.indexAddr 86 t27 t26
        refine obM_yes fun f bb w' hj hs hd hp => ?_
        simp [PreO, factO, valOf, Region.binds] at hp
        have hj' : w' = w.drew := hj
        subst hj'
        refine ⟨by simp [Gd, valOf, hp], ?_⟩
        refine mildM_val (.pointer (some ⟨hb, k * 128 + m, none⟩)) ?_ rfl rfl
        simp [execOp, evalF, hp, go_sem, hm128, hmi, Try.underlying86]
      · -- 8: slot 29 := Op.load 5 t28
        refine obM_yes fun f bb w' hj hs hd hp => ?_
        simp [PreO, factO, valOf, Region.binds] at hp
        have hj' : w' = w.drew := hj
        subst hj'
        refine ⟨by simp [Gd, valOf, hp], ?_⟩
        refine mildM_val (.int .u8 (y.toNat : Int)) ?_ rfl rfl
        simp [execOp, evalF, hp, go_sem, hcy]
      · -- 9: slot 30 := Op.move t3
        refine obM_yes fun f bb w' hj hs hd hp => ?_
        simp [PreO, factO, valOf, Region.binds] at hp
        have hj' : w' = w.drew := hj
        subst hj'
        refine ⟨by simp [Gd, valOf, hp], ?_⟩
        refine mildM_val (.int .u8 (c.toNat : Int)) ?_ rfl rfl
        simp [execOp, evalF, hp, go_sem]
      · -- 10: slot 31 := Op.binOp BinOp.xor 5 t29 t30 5
        refine obM_yes fun f bb w' hj hs hd hp => ?_
        simp [PreO, factO, valOf, Region.binds] at hp
        have hj' : w' = w.drew := hj
        subst hj'
        refine ⟨by simp [Gd, valOf, hp], ?_⟩
        refine mildM_val (.int .u8 ((y ^^^ c).toNat : Int)) ?_ rfl rfl
        simp [execOp, evalF, hp, go_sem, hxor]
      · -- 11: slot 32 := Op.indexAddr 81 t24 t25
        refine obM_yes fun f bb w' hj hs hd hp => ?_
        simp [PreO, factO, valOf, Region.binds] at hp
        have hj' : w' = w.drew := hj
        subst hj'
        refine ⟨by simp [Gd, valOf, hp], ?_⟩
        refine mildM_val (.pointer (some ⟨hb, k * 128, none⟩)) ?_ rfl rfl
        simp [execOp, evalF, hp, go_sem, hkn2]
      · -- 12: slot 33 := Op.indexAddr 86 t32 t26
        refine obM_yes fun f bb w' hj hs hd hp => ?_
        simp [PreO, factO, valOf, Region.binds] at hp
        have hj' : w' = w.drew := hj
        subst hj'
        refine ⟨by simp [Gd, valOf, hp], ?_⟩
        refine mildM_val (.pointer (some ⟨hb, k * 128 + m, none⟩)) ?_ rfl rfl
        simp [execOp, evalF, hp, go_sem, hm128, hmi, Try.underlying86]
    · intro f bb wd hall hj hp
      have hj' : wd = w.drew := hj
      subst hj'
      clear hall hj
      simp only [PostO] at hp
      obtain ⟨e0, e1, e2, e3, e4, e5, e6, e7, e8, e9, e10, e11, e12, _⟩ := hp
      simp only [fills, List.foldl_cons, List.foldl_nil, Act.put, List.setIfInBounds_toArray, List.set_cons_zero, List.set_cons_succ, e0, e1, e2, e3, e4, e5, e6, e7, e8, e9, e10, e11, e12]
      clear e0 e1 e2 e3 e4 e5 e6 e7 e8 e9 e10 e11 e12
      simp only [List.drop_succ_cons, List.drop_zero]
      go_wp2_with fail
      go_ret
      rw [← Hy.out]
      have hset := (Chg.refl S w).trans (Chg.set w ⟨hb, k * 128 + m, none⟩ (.int .u8 ((y.toNat ^^^ c.toNat : Nat) : Int)) h5)
      refine ⟨rfl, S, ?_, fun q hq => .inl hq, hset.drew_⟩
      have hlen : ∀ b : Blk, (d.bl.set k b).length = nb := fun b => by rw [List.length_set]; exact Hnb.out
      have H1' := H1.out
      rw [Hnb.out] at H1'
      have i1 : BoxAt 84 (w.setCell ⟨hb, k * 128 + m, none⟩ (.int .u8 ((y.toNat ^^^ c.toNat : Nat) : Int))).drew g [.slice (some ⟨hb, 0, none⟩) nb nb, vw, .bool d.off, .int .i64 d.fuse] := BoxAt.other (w := w) H1' ⟨hb, k * 128 + m, none⟩ _ h4
      have i2 : BoxAt 86 (w.setCell ⟨hb, k * 128 + m, none⟩ (.int .u8 ((y.toNat ^^^ c.toNat : Nat) : Int))).drew hb (flatB (d.bl.set k (over d.bl[k] m [y ^^^ c]))) := Hfin.out
      have i3 : OwnF 88 cWt (w.setCell ⟨hb, k * 128 + m, none⟩ (.int .u8 ((y.toNat ^^^ c.toNat : Nat) : Int))).drew 0 vw d.wt := H32.out.kept fun q hq => Below.heap_setCell w ⟨hb, k * 128 + m, none⟩ _ q (fun e => (H6.out q hq).2.1 e)
      refine ⟨⟨hb, vw, by rw [hlen]; exact i1, i2, i3, h4, h5, H6.out⟩, H3.out.here, fun q hq => by have := H3.out.lt q hq; simpa [World.setCell] using this, fun x hx => ?_, ?_, ?_, H3.out.fuseR⟩
      · have := H3.out.wts x hx
        show x.1 < (d.bl.set k _).length
        rw [List.length_set]; exact this
      · show 0 < (d.bl.set k _).length
        rw [List.length_set]; exact H3.out.pos
      · show (d.bl.set k _).length ≤ 65536
        rw [List.length_set]; exact H3.out.few
  · rw [if_neg hok, if_pos (by simp)]
    by_cases hi : 0 ≤ i ∧ i < (d.bl.length : Int)
    · rw [decide_eq_true hi.1, decide_eq_true hi.2] at hth
      have Hth := Lib.hid hth
      by_cases ha : at_ < 0
      · have hd1 : decide (at_ < 0) = true := decide_eq_true ha
        clear hth ha hok hi h
        go_enter Try.func27, Try.ntmps27
        go_wp2_with fail
        refine Hth.out.mono ?_
        rintro _ _ ⟨rfl, rfl⟩
        go_wp2_with fail
        go_ret
        exact ⟨rfl, DPost.id_ H3.out⟩
      · have hd1 : decide (at_ < 0) = false := decide_eq_false ha
        have hd2 : decide (128 ≤ at_) = true := decide_eq_true (by omega)
        clear hth ha hok hi h
        go_enter Try.func27, Try.ntmps27
        go_wp2_with fail
        refine Hth.out.mono ?_
        rintro _ _ ⟨rfl, rfl⟩
        go_wp2_with fail
        go_ret
        exact ⟨rfl, DPost.id_ H3.out⟩
    · have e : (decide (0 ≤ i) && decide (i < (d.bl.length : Int))) = false := by simp only [Bool.and_eq_false_iff, decide_eq_false_iff_not]; omega
      rw [e] at hth
      have Hth := Lib.hid hth
      clear hth hok hi h e
      go_enter Try.func27, Try.ntmps27
      go_wp2_with fail
      refine Hth.out.mono ?_
      rintro _ _ ⟨rfl, rfl⟩
      go_wp2_with fail
      go_ret
      exact ⟨rfl, DPost.id_ H3.out⟩

def newD (n : Nat) : DState := { bl := List.replicate n zeroB, wt := [], off := false, fuse := -1 }
theorem flatB_new (n : Nat) : flatB (List.replicate n zeroB) = List.replicate (n * 128) (.int .u8 0) := by
  apply List.ext_getElem?
  intro k
  by_cases hk : k < n * 128
  · obtain ⟨q, r, hr, rfl⟩ : ∃ q r, r < 128 ∧ k = q * 128 + r := ⟨k / 128, k % 128, Nat.mod_lt _ (by decide), by omega⟩
    rw [flatB_at _ q r (by simp; omega) hr, List.getElem_replicate, b8s_opt, List.getElem?_replicate, if_pos hk]
    show ((List.replicate 128 (0 : UInt8))[r]?).map b8 = _
    rw [List.getElem?_replicate, if_pos hr]; rfl
  · rw [List.getElem?_eq_none (by rw [flatB_len]; simp; omega), List.getElem?_eq_none (by simp; omega)]
theorem made_rep (m n : Nat) (hm : 0 < m) (v : Value) : madeCells (List.replicate m v).toArray n = (List.replicate n v).toArray := by
  apply Array.ext
  · simp [madeCells]
  · intro i h1 h2
    simp only [madeCells, List.size_toArray, List.length_replicate, Array.getElem_map, Array.getElem_range, List.getElem_toArray, List.getElem_replicate]
    have : i % m < m := Nat.mod_lt i hm
    rw [getElem!_pos _ _ (by simpa using this)]
    simp
def zeroBv : Value := .agg (List.replicate 128 (.int .u8 0)).toArray
theorem info_block : (Try.prog.info? 86).map (fun i => (i.zero, i.size, i.bytes)) = some (some zeroBv, 128, 128) := by kernel_rfl
theorem make_blocks (n : Nat) (hn : n ≤ 65536) : ∀ w : World, (Instr.makeSlice 81 (.int .i64 (n : Int)) (.int .i64 (n : Int))).run Try.prog w = .ok (.slice (some ⟨w.heap.size, 0, none⟩) n n) (w.alloc (.cells (flatB (List.replicate n zeroB)).toArray 86)) := fun w => by
  obtain ⟨i, hi, hz0, hz1, hz2⟩ := info_parts info_block
  have hr := run_make (P := Try.prog) w 81 86 i zeroBv Try.underlying81 hi hz0 .i64 .i64 (n : Int) (n : Int) (by omega) (by omega) (by rw [hz2]; omega) (by omega)
  have e : madeCells zeroBv.cells (n * 128) = (flatB (List.replicate n zeroB)).toArray := by
    rw [flatB_new]
    exact made_rep 128 (n * 128) (by decide) _
  rw [Int.toNat_natCast, hz1, e] at hr
  exact hr
set_option maxRecDepth 100000 in
set_option maxHeartbeats 3200000 in
theorem dnew_no (w : World) (n : Int) (hn : n < 1 ∨ 65536 < n) :
    Calls Try.prog 13 #[.int .i64 n] w fun e w' => e = .returned (.tuple #[.pointer none, .int .i64 1]) ∧ w = w' := by
  by_cases h1 : n < 1
  · have hd : decide (n < 1) = true := decide_eq_true h1
    clear hn h1
    go_enter Try.func13, Try.ntmps13
    go_wp2_with fail
    go_ret2
    exact ⟨rfl, rfl⟩
  · have hd : decide (n < 1) = false := decide_eq_false h1
    have hd2 : decide (65536 < n) = true := decide_eq_true (by omega)
    clear hn h1
    go_enter Try.func13, Try.ntmps13
    go_wp2_with fail
    go_ret2
    exact ⟨rfl, rfl⟩
set_option maxRecDepth 100000 in
set_option maxHeartbeats 3200000 in
theorem dnew_any (w : World) (n : Nat) (h1 : 1 ≤ n) (h2 : n ≤ 65536) :
    Calls Try.prog 13 #[.int .i64 (n : Int)] w fun e w' => ∃ g S, e = .returned (.tuple #[.pointer (some ⟨g, 0, none⟩), .int .i64 0]) ∧ DiskAt w' S g (newD n) ∧ (∀ k, S k → w.heap.size ≤ k) ∧ Below w.heap.size w w' := by
  have hd : decide ((n : Int) < 1) = false := decide_eq_false (by omega)
  have hd2 : decide (65536 < (n : Int)) = false := decide_eq_false (by omega)
  have Hd := Lib.hid h1
  have H2 := Lib.hid h2
  have hmk := make_blocks n h2
  have hlB : (newD n).bl.length = n := by simp [newD]
  have HlB := Lib.hid hlB
  clear h1 h2 hlB
  generalize hfb : flatB (List.replicate n zeroB) = cs at *
  have Hfb := Lib.hid hfb
  clear hfb
  go_enter Try.func13, Try.ntmps13
  go_wp2_with fail
  go_ret2
  refine ⟨w.heap.size + 1, fun k => k = w.heap.size ∨ k = w.heap.size + 1, rfl, ?_, fun k hk => by rcases hk with rfl | rfl <;> omega, ((Below.refl _ _).alloc (Nat.le_refl _) _).alloc (by simp) _⟩
  have b1 : BoxAt 86 ((w.alloc (.cells cs.toArray 86)).alloc (.cells #[.slice (some ⟨w.heap.size, 0, none⟩) n n, .slice none 0 0, .bool false, .int .i64 (-1)] 84)) w.heap.size (flatB (newD n).bl) := by
    have : flatB (newD n).bl = cs := Hfb.out
    rw [this]
    exact (BoxAt.new_ _ w cs).alloc _
  have b2 := BoxAt.new_ 84 (w.alloc (.cells cs.toArray 86)) [.slice (some ⟨w.heap.size, 0, none⟩) n n, .slice none 0 0, .bool false, .int .i64 (-1)]
  have hsz : (w.alloc (.cells cs.toArray 86)).heap.size = w.heap.size + 1 := by simp
  rw [hsz] at b2
  have h1 := Hd.out
  have h2 := H2.out
  refine ⟨⟨w.heap.size, .slice none 0 0, by rw [HlB.out]; exact b2, b1, OwnF.nil_ _ _, by omega, .inl rfl, fun q hq => by simp [Value.ownBlock] at hq⟩, .inr rfl, fun k hk => by simp; rcases hk with rfl | rfl <;> omega, fun x hx => by simp [newD] at hx, by rw [HlB.out]; omega, by rw [HlB.out]; omega, ⟨(by decide : (-9223372036854775808 : Int) ≤ -1), (by decide : (-1 : Int) ≤ 9223372036854775807)⟩⟩
end Go.Proofs.Ytpoicbhbkabllaa

namespace Go.Proofs.Ytpoicbhbkabllaa
set_option linter.unusedSimpArgs false
set_option linter.unusedVariables false
open Go.RowKit Go.Shelf
attribute [local go_sem] Oper.semAt_some

abbrev ByW (w : World) (B : Nat) (v : Value) (l : List Wt) : Prop := RowOn cWt w (fun k => k < B) (fun _ => True) v l
theorem Kp.byW {B : Nat → Prop} {W W' : World} {B0 : Nat} {v : Value} {l : List Wt} (hk : Kp B W W') (hB : ∀ k, B k → B0 ≤ k) (h : ByW W B0 v l) : ByW W' B0 v l := Kp.row (fun _ _ _ h => h) hk hB h
theorem ByW.below {w w' : World} {B : Nat} {v : Value} {l : List Wt} (h : ByW w B v l) (hb : Below B w w') : ByW w' B v l := by
  obtain ⟨A, c, h1, h2, h3, h4⟩ := h
  refine ⟨A, c, h1, h2, h3, fun hn => ?_⟩
  obtain ⟨ad, e, hb', hc⟩ := h4 hn
  refine ⟨ad, e, hb', fun i x hx => ?_⟩
  obtain ⟨cs, ha, hcs⟩ := hc i x hx
  exact ⟨cs, ha, fun j u hu => (hb.cell (by rw [add_block]; exact hb')).trans (hcs j u hu)⟩
/-- the j-th from the end -/
def backP (wt : List Wt) (j : Nat) : Nat × Wt := (wt.length - 1 - j, wt.getD (wt.length - 1 - j) (0, zeroB))
theorem backP_at (wt : List Wt) (q k : Nat) (hq : q < wt.length) (hk : k + (q + 1) = wt.length) : backP wt k = (q, wt[q]) := by
  unfold backP
  have : wt.length - 1 - k = q := by omega
  rw [this, List.getD_eq_getElem?_getD, List.getElem?_eq_getElem hq]
  rfl
abbrev encB (x : Nat × Wt) : Array Value := #[.int .i64 (x.1 : Int), .agg (encW x.2).toArray]

set_option maxRecDepth 100000 in
set_option maxHeartbeats 1000000 in
theorem backw_in (F : Fence) (n : Nat) (h1 : F.fn 43) (hro : F.round = none) (A : Option Addr) (len cap : Nat) (w : World) :
    CallsIn F n Try.prog 43 #[.slice A len cap] w fun e w' => e = .returned (.func (.func 70) #[] #[.pointer (some ⟨w.heap.size, 0, none⟩)]) ∧ w' = w.alloc (.cells #[.slice A len cap] 82) := by
  refine callsIn_of_wp Try.func43 rfl h1 ?_ hro
  simp only [Try.ntmps43, List.size_toArray, List.length_cons, List.length_nil, Nat.reduceAdd, Nat.reduceSub, Array.replicate_succ, Array.replicate_zero, List.push_toArray, List.append_toArray, List.nil_append, List.cons_append]
  gi_wp2
  go_ret
  exact ⟨rfl, rfl⟩

set_option maxRecDepth 100000 in
set_option maxHeartbeats 3200000 in
theorem backw1_in (F : Fence) (n : Nat) (h7 : F.fn 70) (hro : F.round = none) (hn : 1 ≤ n) (l Bs B0 : Nat) (B : Nat → Prop) (A : Option Addr) (cap : Nat) (xs : List Wt) (hl : xs.length ≤ 1000000) (J Jx : List (Nat × Wt) → World → Prop)
    (hBs : ¬ B Bs) (hBB : ∀ k, B k → B0 ≤ k)
    (hY : ∀ pre x W, J pre W → pre.length < xs.length → YieldAt F (n - 1) Try.prog l (encB x) W fun e W' =>
      (e = .returned (.bool true) ∧ J (pre ++ [x]) W' ∧ Kp B W W') ∨ (e = .returned (.bool false) ∧ Jx (pre ++ [x]) W'))
    (W : World) (hBW : ∀ k, B k → k < W.heap.size) (hJ : AbidesFrom W.heap.size J) (hc : W.cell? ⟨Bs, 0, none⟩ = some (.slice A xs.length cap)) (hrow : ByW W B0 (.slice A xs.length cap) xs) (h0 : J [] W) :
    CallsIn F n Try.prog 70 #[.func (.yield l) #[] #[], .pointer (some ⟨Bs, 0, none⟩)] W fun e W' => (∃ v, e = .returned v) ∧
      ((∃ ys, ys = upto (backP xs) xs.length ∧ J ys W') ∨ (∃ pre, (∃ k, k ≤ xs.length ∧ pre = upto (backP xs) k) ∧ Jx pre W')) := by
  obtain ⟨_, hc1, hc2⟩ := hrow.len_
  unfold maxLen at hc2
  have hbp := backP_at xs
  have Hbp := Lib.hid hbp
  clear hbp
  refine callsIn_of_wp Try.func70 rfl h7 ?_ hro
  simp only [Try.ntmps70, List.size_toArray, List.length_cons, List.length_nil, Nat.reduceAdd, Nat.reduceSub, Array.replicate_succ, Array.replicate_zero, List.push_toArray, List.append_toArray, List.nil_append, List.cons_append]
  gi_wp2
  gi_loopw [3] (fun i wr => ∃ k m : Nat, k + m = xs.length ∧ i = .int .i64 ((m : Int) - 1) ∧ J (upto (backP xs) k) wr ∧ Kp B W wr ∧ W.heap.size ≤ wr.heap.size)
    (fun i _ => (intOf i + 1).toNat)
  case atStart => exact ⟨0, xs.length, by omega, rfl, h0, Kp.refl _ _, Nat.le_refl _⟩
  case round =>
    obtain ⟨k, m, hkm, rfl, hJs, hkp, hsz⟩ := hrel
    have Hkp := Lib.hid hkp
    cases m with
    | succ q =>
      have hlt : q < xs.length := by omega
      have hbp := Hbp.out q k hlt hkm
      have e1 : (((q + 1 : Nat) : Int) - 1) = (q : Int) := by omega
      rw [e1]
      have hcs := hkp.cell hc hBs
      have hrw := hkp.byW hBB hrow
      obtain ⟨ad, cs, rfl, hab, ⟨rfl, _⟩, hcl⟩ := hrw.at_ q _ (List.getElem?_eq_getElem hlt)
      have hld : ∀ (j : Nat) (v : Value), (encW (xs[q]))[j]? = some v → wr.cell? ((ad.add (q * 129)).add j) = some v := fun j v hv => by rw [add_add]; exact hcl j v hv
      have Hld := Lib.hid hld
      clear hrw hcl hld
      obtain ⟨fn, tmps, assign, body, hy, hR⟩ := hY _ (backP xs k) _ hJs (by rw [upto_length]; omega)
      have hus := upto_succ (backP xs) k
      rw [hbp] at hy hR hus
      have Hus := Lib.hid hus
      dsimp only [encB] at hy
      generalize xs[q] = x at *
      have Hkp := Lib.hid hkp
      clear hkp hus hbp
      gi_wp2_with (refine wpListIn_load_agg rfl 88 (.tmp 15) rfl (ad.add (q * 129)) rfl (encW x) Hld.out Try.underlying88 rfl (by rw [encW_len]; kernel_rfl) ?_)
      refine hR.mono ?_
      rintro e W3 (⟨rfl, hJ3, hk3⟩ | ⟨rfl, hJx3⟩)
      · have hk3' := Hkp.out.trans hk3
        have hsz3 := hk3'.size
        rw [← Hus.out] at hJ3
        have HJ3 := Lib.hid hJ3
        have Hk3 := Lib.hid hk3'
        clear hR hy hk3 hJ3 hk3'
        gi_wp2
        go_roundw
        case rel => exact ⟨k + 1, q, by omega, rfl, HJ3.out, Hk3.out, hsz3⟩
        case measure => simp [intOf]
      · rw [← Hus.out] at hJx3
        have HJx3 := Lib.hid hJx3
        clear hJx3
        gi_wp2
        refine bodyPost_ret (results_none rfl _ _ _) rfl ?_
        exact ⟨⟨_, rfl⟩, .inr ⟨_, ⟨k + 1, by omega, rfl⟩, HJx3.out⟩⟩
    | zero =>
      obtain rfl : k = xs.length := by omega
      have e1 : (((0 : Nat) : Int) - 1) = -1 := rfl
      rw [e1]
      clear hkp
      gi_wp2
      go_end0
      exact ⟨⟨_, rfl⟩, .inl ⟨_, rfl, hJs⟩⟩

theorem backw_stops (F : Fence) (n : Nat) (h7 : F.fn 70) (hro : F.round = none) (hn : 1 ≤ n) (Bs B0 : Nat) (B : Nat → Prop) (A : Option Addr) (cap : Nat) (xs : List Wt) (hl : xs.length ≤ 1000000) (w : World)
    (hBs : Bs < w.heap.size) (hnB : ¬ B Bs) (hBB : ∀ k, B k → B0 ≤ k) (hBW : ∀ k, B k → k < w.heap.size) (hB0 : B0 ≤ w.heap.size)
    (hc : w.cell? ⟨Bs, 0, none⟩ = some (.slice A xs.length cap)) (hrow : ByW w B0 (.slice A xs.length cap) xs) :
    SeqStopsK F n Try.prog 70 #[.pointer (some ⟨Bs, 0, none⟩)] encB (Kp B) (fun ys => ys = upto (backP xs) xs.length)
      (fun pre => ∃ k, k ≤ xs.length ∧ pre = upto (backP xs) k) xs.length w := fun l J Jx W hW hJ _ hY h0 =>
  backw1_in F n h7 hro hn l Bs B0 B A cap xs hl J Jx hnB hBB hY W (fun k hk => Nat.lt_of_lt_of_le (hBW k hk) hW.size) hJ ((hW.cell (p := ⟨Bs, 0, none⟩) hBs).trans hc) (hrow.below (hW.mono hB0)) h0
end Go.Proofs.Ytpoicbhbkabllaa

namespace Go.Proofs.Ytpoicbhbkabllaa
set_option linter.unusedSimpArgs false
set_option linter.unusedVariables false
open Go.RowKit Go.Shelf
attribute [local go_sem] Oper.semAt_some

/-- the last write of a block, told from the end -/
theorem lastW_none (wt : List Wt) (i : Nat) : ∀ b : Blk, (∀ x ∈ wt, x.1 ≠ i) → lastW wt i b = b := by
  induction wt with
  | nil => intro b _; rfl
  | cons x t ih =>
    intro b h
    show lastW t i (if x.1 = i then x.2 else b) = b
    rw [if_neg (h x (by simp))]
    exact ih b fun y hy => h y (by simp [hy])
theorem lastW_append (a t : List Wt) (i : Nat) (b : Blk) : lastW (a ++ t) i b = lastW t i (lastW a i b) := by simp [lastW]
theorem lastW_at (wt : List Wt) (i q : Nat) (hq : q < wt.length) (he : (wt[q]).1 = i) (hn : ∀ j, (h : j < wt.length) → q < j → (wt[j]).1 ≠ i) (b : Blk) : lastW wt i b = (wt[q]).2 := by
  have e : wt = wt.take q ++ wt[q] :: wt.drop (q + 1) := by
    rw [← List.drop_eq_getElem_cons hq, List.take_append_drop]
  have h2 : lastW wt i b = lastW (wt.drop (q + 1)) i (if (wt[q]).1 = i then (wt[q]).2 else lastW (wt.take q) i b) := by
    conv => lhs; rw [e]
    rw [lastW_append]
    rfl
  rw [h2, if_pos he, lastW_none]
  intro x hx
  obtain ⟨j, hj, rfl⟩ := List.mem_iff_getElem.1 hx
  rw [List.getElem_drop]
  exact hn _ _ (by omega)
theorem upto_backP_ne {wt : List Wt} {i : Nat} (h : ∀ p ∈ upto (backP wt) wt.length, p.2.1 ≠ i) : ∀ x ∈ wt, x.1 ≠ i := by
  intro x hx
  obtain ⟨j, hj, rfl⟩ := List.mem_iff_getElem.1 hx
  have := h (backP wt (wt.length - 1 - j)) ((upto_mem _ _ _).2 ⟨_, by omega, rfl⟩)
  rw [backP_at wt j _ hj (by omega)] at this
  exact this
theorem upto_backP_lt {wt : List Wt} {i k : Nat} (hk : k ≤ wt.length) (h : ∀ p ∈ upto (backP wt) k, p.2.1 ≠ i) (j : Nat) (hj : j < wt.length) (hjk : wt.length - 1 - j < k) : (wt[j]).1 ≠ i := by
  have := h (backP wt (wt.length - 1 - j)) ((upto_mem _ _ _).2 ⟨_, hjk, rfl⟩)
  rw [backP_at wt j _ hj (by omega)] at this
  exact this
theorem BoxAt.below_x {T : TypeId} {w w' : World} {g : Nat} {cs : List Value} (h : BoxAt T w g cs) (hb : Below w.heap.size w w') : BoxAt T w' g cs := h.below h.lt hb
def zeroBc : List Value := List.replicate 128 (.int .u8 0)
theorem run_alloc_z (w : World) (T : TypeId) {z : Value} {n bytes : Nat} (hinfo : (Try.prog.info? T).map (fun i => (i.zero, i.size, i.bytes)) = some (some z, n, bytes)) (cs : List Value) (hz : z.cells = cs.toArray) :
    (Instr.alloc T true (.tuple #[])).run Try.prog w = .ok (.pointer (some ⟨w.heap.size, 0, none⟩)) (w.alloc (.cells cs.toArray T)) := by
  obtain ⟨i, hi, hz0, hz1, hby⟩ := info_parts hinfo
  simp [Instr.alloc, Sem.run_bind, zeroValue, typeInfo, hi, hz0, newVar, newRow, hz]

set_option maxRecDepth 100000 in
set_option maxHeartbeats 6400000 in
theorem dread_any (w : World) (S : Nat → Prop) (g : Nat) (d : DState) (i : Int) (hwl : d.wt.length ≤ 1000000) (h : DiskAt w S g d) :
    Calls Try.prog 20 #[.pointer (some ⟨g, 0, none⟩), .int .i64 i] w fun e w' => ∃ v, e = .returned (.tuple #[v, .int .i64 (mayE d i)]) ∧ Fresh w.heap.size w' v (readL d i) ∧ Below w.heap.size w w' := by
  have hb0 := balloc w (.cells #[.int .i64 i] 3)
  have hx0 := BoxAt.new_ 3 w [.int .i64 i]
  have h0 := h.below_ hb0
  have hmay := dmay_any _ S g d i h0
  have hwl2 := hwl
  have hz0 : w.heap.size < (w.alloc (.cells #[.int .i64 i] 3)).heap.size := by simp
  unfold readL
  refine (callsIn_wide (n := 4)).1 ?_
  refine callsIn_of_wp_marks Try.func20 rfl trivial ?_ rfl
  simp only [Try.ntmps20, List.size_toArray, List.length_cons, List.length_nil, Nat.reduceAdd, Nat.reduceSub, Array.replicate_succ, Array.replicate_zero, List.push_toArray, List.append_toArray, List.nil_append, List.cons_append]
  have Hb0 := Lib.hid hb0
  have H0 := Lib.hid h0
  have Hx0 := Lib.hid hx0
  have hc0 := hx0.cell 0 _ rfl
  clear hb0 h0 hx0 h
  by_cases hm : mayE d i ≠ 0
  · rw [if_pos hm]
    have hd : (mayE d i == 0) = false := by simpa using hm
    clear hm
    generalize mayE d i = me at *
    have Hm := Lib.hid hmay
    clear hmay
    gi_wp2
    generalize w.alloc (.cells #[.int .i64 i] 3) = w0 at *
    refine ⟨trivial, ?_⟩
    refine (callsIn_wide.2 Hm.out).mono ?_
    rintro _ _ ⟨rfl, rfl⟩
    gi_wp2
    exact ⟨_, results_tmp2 rfl _ _ _, .slice none 0 0, rfl, Fresh.nil_, Hb0.out⟩
  · rw [if_neg hm]
    have hm0 : mayE d i = 0 := by simpa using hm
    have hi : 0 ≤ i ∧ i < (d.bl.length : Int) := by
      unfold mayE at hm0
      split at hm0
      · cases hm0
      · split at hm0
        · assumption
        · cases hm0
    rw [hm0] at hmay ⊢
    obtain ⟨k, rfl⟩ : ∃ k : Nat, i = (k : Int) := ⟨i.toNat, by omega⟩
    have hkn : k < d.bl.length := by omega
    have Hm := Lib.hid hmay
    have Hkn := Lib.hid hkn
    have hgd : d.bl.getD k zeroB = d.bl[k] := by rw [List.getD_eq_getElem?_getD, List.getElem?_eq_getElem hkn]; rfl
    obtain ⟨bk, hbk⟩ : ∃ bk, bk = d.bl[k] := ⟨_, rfl⟩
    rw [Int.toNat_natCast]
    obtain ⟨rb, hrb⟩ : ∃ rb, rb = readB d k := ⟨_, rfl⟩
    rw [← hrb]
    unfold readB at hrb
    rw [hgd, ← hbk] at hrb
    have Hrb := Lib.hid hrb
    have Hbk := Lib.hid hbk
    clear hmay hm hm0 hi hgd hrb hbk
    gi_wp2
    generalize w.alloc (.cells #[.int .i64 (k : Int)] 3) = w0 at *
    refine ⟨trivial, ?_⟩
    refine (callsIn_wide.2 Hm.out).mono ?_
    rintro _ _ ⟨rfl, rfl⟩
    gi_wp2
    obtain ⟨hb, vw, h1, h2, h3, h4, h5, h6⟩ := H0.out.ex
    have h3r := h3.row
    obtain ⟨A, c, rfl, hc1, hc2, _⟩ := h3.form'
    unfold maxLen at hc2
    have hld : ∀ (j : Nat) (v : Value), (b8s bk.1)[j]? = some v → w0.cell? ((⟨hb, k * 128, none⟩ : Addr).add j) = some v := fun j v hv => by
      rw [Addr.add_mid]
      rw [Hbk.out] at hv
      have hj : j < 128 := by
        have := (List.getElem?_eq_some_iff.1 hv).1
        rwa [blk_len] at this
      exact h2.cell _ _ (by rw [flatB_at _ _ _ hkn hj]; exact hv)
    have hrw : ByW w0 w0.heap.size (.slice A d.wt.length c) d.wt := h3r.mono (fun q hq => hq.2) (fun _ h => h.elim)
    have hltS := H0.out.lt
    have hgl := hltS g H0.out.here
    have hbl := hltS hb h5
    have hwl : w.heap.size < w0.heap.size := by omega
    have Hld := Lib.hid hld
    have H1 := Lib.hid h1
    have Hrw := Lib.hid hrw
    obtain ⟨nb, hnb⟩ : ∃ nb, nb = d.bl.length := ⟨_, rfl⟩
    rw [← hnb] at h1
    have hkn2 : k < nb := by omega
    clear hld h2 h3 h3r h6 hrw hltS Hm hnb hkn
    refine wpIn_wide.2 ?_
    refine wp_region_mixL (ds := [16, 17, 18, 19, 20, 21, 22, 7]) 8 (fun bb vs W' => Below w0.heap.size w0 W' ∧ (bb 7 = false → W' = w0.drew) ∧ (bb 7 = true → W' = w0.drew.alloc (.cells zeroBc.toArray 86) ∧ vs 7 = .pointer (some ⟨w0.heap.size, 0, none⟩))) [some 16, some 17, some 18, some 19, some 20, some 21, some 22, some 7]
      [fun v => v = .pointer (some ⟨g, 0, none⟩), fun v => v = .pointer (some ⟨g, 0, none⟩), fun v => v = .pointer (some ⟨g, 0, none⟩), fun v => v = .slice (some ⟨hb, 0, none⟩) nb nb, fun v => v = .int .i64 (k : Int), fun v => v = .pointer (some ⟨hb, k * 128, none⟩), fun v => v = .agg (b8s bk.1).toArray, fun _ => True]
      rfl rfl rfl (by kernel_rfl) (by kernel_rfl) ?_ (fun _ => ⟨(Below.refl _ w0).drew, fun _ => rfl, fun h => by cases h⟩) ?_
    · refine ⟨?_, ?_, ?_, ?_, ?_, ?_, ?_, ?_, trivial⟩
      · -- 0: slot 16 := Op.move t0
        refine obM_yes fun f bb w' hj hs hd hp => ?_
        simp [PreO, factO, valOf, Region.binds] at hp hd
        refine ⟨by simp [Gd, valOf, hp], ?_⟩
        refine mildM_val (.pointer (some ⟨g, 0, none⟩)) ?_ rfl (by simpa using hj)
        simp [execOp, evalF, hp, go_sem]
      · -- 1: slot 17 := Op.nilCheck t16
        refine obM_yes fun f bb w' hj hs hd hp => ?_
        simp [PreO, factO, valOf, Region.binds] at hp hd
        refine ⟨by simp [Gd, valOf, hp], ?_⟩
        refine mildM_val (.pointer (some ⟨g, 0, none⟩)) ?_ rfl (by simpa using hj)
        simp [execOp, evalF, hp, go_sem]
      · -- 2: slot 18 := Op.fieldAddr 84 t17 0
        refine obM_yes fun f bb w' hj hs hd hp => ?_
        simp [PreO, factO, valOf, Region.binds] at hp hd
        refine ⟨by simp [Gd, valOf, hp], ?_⟩
        refine mildM_val (.pointer (some ⟨g, 0, none⟩)) ?_ rfl (by simpa using hj)
        simp [execOp, evalF, hp, go_sem]
      · -- 3: slot 19 := Op.load 81 t18
        refine obM_yes fun f bb w' hj hs hd hp => ?_
        simp [PreO, factO, valOf, Region.binds] at hp hd
        refine ⟨by simp [Gd, valOf, hp], ?_⟩
        have hc := (hj.1.cell (p := ⟨g, 0, none⟩) hgl).trans (h1.cell 0 _ rfl)
        refine mildM_val (.slice (some ⟨hb, 0, none⟩) nb nb) ?_ rfl (by simpa using hj)
        simp [execOp, evalF, hp, go_sem, hc]
      · -- 4: slot 20 := Op.load 3 t3
        refine obM_yes fun f bb w' hj hs hd hp => ?_
        simp [PreO, factO, valOf, Region.binds] at hp hd
        refine ⟨by simp [Gd, valOf, hp], ?_⟩
        have hc := (hj.1.cell (p := ⟨w.heap.size, 0, none⟩) hwl).trans hc0
        refine mildM_val (.int .i64 (k : Int)) ?_ rfl (by simpa using hj)
        simp [execOp, evalF, hp, go_sem, hc]
      · -- 5: slot 21 := Op.indexAddr 81 t19 t20
        refine obM_yes fun f bb w' hj hs hd hp => ?_
        simp [PreO, factO, valOf, Region.binds] at hp hd
        refine ⟨by simp [Gd, valOf, hp], ?_⟩
        refine mildM_val (.pointer (some ⟨hb, k * 128, none⟩)) ?_ rfl (by simpa using hj)
        simp [execOp, evalF, hp, go_sem, hkn2]
      · -- 6: slot 22 := Op.load 86 t21
        refine obM_yes fun f bb w' hj hs hd hp => ?_
        simp [PreO, factO, valOf, Region.binds] at hp hd
        refine ⟨by simp [Gd, valOf, hp], ?_⟩
        have hl := run_loadVar_cells w' ⟨hb, k * 128, none⟩ 86 (b8s bk.1) (fun j v hv => (hj.1.cell (by rw [add_block]; exact hbl)).trans (Hld.out j v hv)) Try.underlying86 rfl (by rw [blk_len]; kernel_rfl)
        refine mildM_val (.agg (b8s bk.1).toArray) ?_ rfl (by simpa using hj)
        simp only [execOp, evalF, List.contains_eq_mem, Instr.loadAt, Instr.sureAddr, Sem.run_bind, Sem.run_pure, Result.andThen_ok]
        simp [hp, hl]
      · -- 7: slot 7 := Op.alloc 86
        refine obM_yes fun f bb w' hj hs hd hp => ?_
        simp [PreO, factO, valOf, Region.binds] at hp hd
        refine ⟨by simp [Gd, valOf, hp], ?_⟩
        have hw' := hj.2.1 hs
        subst hw'
        refine mildM_val (.pointer (some ⟨w0.heap.size, 0, none⟩)) (w' := w0.drew.alloc (.cells zeroBc.toArray 86)) ?_ trivial ?_
        · simp only [execOp]
          simp [evalF, hp, run_alloc_z w0.drew _ info_block zeroBc rfl]
        · exact ⟨(Below.refl _ w0).drew.alloc (Nat.le_refl _) _, by simp, fun _ => ⟨rfl, by simp⟩⟩
    · intro f bb wd hall hj hp
      simp only [PostO] at hp
      obtain ⟨e0, e1, e2, e3, e4, e5, e6, _, _⟩ := hp
      simp only [fills, List.foldl_cons, List.foldl_nil, Act.put, List.setIfInBounds_toArray, List.set_cons_zero, List.set_cons_succ, e0, e1, e2, e3, e4, e5, e6]
      clear e0 e1 e2 e3 e4 e5 e6
      simp only [List.drop_succ_cons, List.drop_zero]
      obtain ⟨hjw, hj7⟩ := hj.2.2 (hall 7 (by decide))
      simp only [valOf, List.getElem?_cons_succ, List.getElem?_cons_zero] at hj7
      have hj7' : f 7 = .pointer (some ⟨w0.heap.size, 0, none⟩) := by simpa using hj7
      rw [hj7']
      subst hjw
      clear hall hj hj7 hj7'
      refine wpList_store_new rfl 86 (.tmp 7) (.tmp 22) rfl zeroBc (b8s bk.1) rfl rfl (by rw [blk_len]; kernel_rfl) (by rw [blk_len]; rfl) (b8s_one _) ?_
      have j1 := (H1.out.below_x (Below.refl _ w0).drew).alloc (.cells (b8s bk.1).toArray 86)
      have j7 := BoxAt.new_ 86 w0.drew (b8s bk.1)
      have jx := (Hx0.out.below_x (Below.refl _ w0).drew).alloc (.cells (b8s bk.1).toArray 86)
      have jb : Below w0.heap.size w0 (w0.drew.alloc (.cells (b8s bk.1).toArray 86)) := (Below.refl _ w0).drew.alloc (Nat.le_refl _) (.cells (b8s bk.1).toArray 86)
      have jr := Hrw.out.below jb
      have jb0 := Hb0.out.trans (jb.mono (by omega))
      have jz : w0.heap.size < (w0.drew.alloc (.cells (b8s bk.1).toArray 86)).heap.size := by simp
      have hsz : w0.drew.heap.size = w0.heap.size := rfl
      rw [hsz] at j7
      have hd1 := j1.cell 1 _ rfl
      have J1 := Lib.hid j1
      have J7 := Lib.hid j7
      have Jx := Lib.hid jx
      have Jr := Lib.hid jr
      have Jb0 := Lib.hid jb0
      have Jb := Lib.hid jb
      clear j1 j7 jx jr jb jb0 hsz hc0 h1 H1 Hx0 Hrw H0 Hld h4 h5
      generalize (w0.drew.alloc (.cells (b8s bk.1).toArray 86)) = w1 at *
      generalize w0.heap.size = g7 at *
      simp only [Act.put]
      go_wp2_with fail
      gi_wp2_with (refine ⟨trivial, ?_⟩; gi_at_call 43; refine (backw_in Fence.wide 3 trivial rfl _ _ _ _).mono ?_; rintro e w' ⟨rfl, rfl⟩)
      have k0 := BoxAt.new_ 82 w1 [.slice A d.wt.length c]
      have k7 := J7.out.alloc (.cells #[.slice A d.wt.length c] 82)
      have kx := Jx.out.alloc (.cells #[.slice A d.wt.length c] 82)
      have kb := balloc w1 (.cells #[.slice A d.wt.length c] 82)
      have kr := Jr.out.below (kb.mono (by omega))
      have kb0 := Jb0.out.trans (kb.mono (by omega))
      have kz : w1.heap.size < (w1.alloc (.cells #[.slice A d.wt.length c] 82)).heap.size := by simp
      have hcN := k0.cell 0 _ rfl
      have K7 := Lib.hid k7
      have Kx := Lib.hid kx
      have Kr := Lib.hid kr
      have Kb0 := Lib.hid kb0
      clear k0 k7 kx kb kr kb0 J1 J7 Jx Jr Jb0 Jb hd1
      generalize (w1.alloc (.cells #[.slice A d.wt.length c] 82)) = w2 at *
      generalize w1.heap.size = g1 at *
      refine wpIn_rangeFunc_ownH rfl (by omega) (gf := 70) (lb := #[.pointer (some ⟨g1, 0, none⟩)]) rfl trivial (enters_of Try.func70 (by kernel_rfl) rfl)
        (backw_stops Fence.wide 3 trivial rfl (by omega) g1 g7 (fun q => q = g7) A c d.wt hwl2 w2 (by omega) (by omega) (by rintro q rfl; omega) (by rintro q rfl; omega) (by omega) hcN Kr.out) Kp.trans (fun W l o o' h1 h2 h3 h4 => Kp.putObj _ w2.heap.size W l o o' h1 h2 h3 h4) (Below.refl _ _) (fun _ => rfl)
        (fun pre W => ((∀ p ∈ pre, p.2.1 ≠ k) ∧ BoxAt 86 W g7 (b8s bk.1) ∧ BoxAt 3 W w.heap.size [.int .i64 (k : Int)] ∧ w2.heap.size ≤ W.heap.size) ∧ Below w.heap.size w W)
        (fun cd pre W => (cd = .exit 0 ∧ ∃ ini last, pre = ini ++ [last] ∧ (∀ p ∈ ini, p.2.1 ≠ k) ∧ last.2.1 = k ∧ BoxAt 86 W g7 (b8s last.2.2.1)) ∧ Below w.heap.size w W)
        (OwnFrom.and (Own.from (fun s X Y row hs hg hr => ⟨hs.1, hs.2.1.ownk hg hr, hs.2.2.1.ownk hg hr, Nat.le_trans hs.2.2.2 hg.size⟩) _) (ownFrom_below (Nat.le_refl _) (by omega)))
        (fun cd => OwnFrom.and (Own.from (fun s X Y row hs hg hr => by obtain ⟨e0, ini, last, e1, e2, e3, e4⟩ := hs; exact ⟨e0, ini, last, e1, e2, e3, e4.ownk hg hr⟩) _) (ownFrom_below (Nat.le_refl _) (by omega)))
        ⟨⟨by simp, K7.out, Kx.out, Nat.le_refl _⟩, Kb0.out⟩
        (fun p a' W => ∃ Bx, w2.heap.size ≤ Bx ∧ BoxAt 88 W Bx (encW p.2) ∧ a' = Act.mk #[.pointer (some ⟨g, 0, none⟩), .int .i64 (k : Int), undef, .pointer (some ⟨w.heap.size, 0, none⟩), .slice none 0 0, .int .i64 0, .int .i64 0, .pointer (some ⟨g7, 0, none⟩), undef, .pointer (some ⟨Bx, 0, none⟩),
          .pointer (some ⟨g, 0, none⟩), .int .i64 (k : Int), .int .i64 0, .int .i64 0, .bool false, undef, .pointer (some ⟨g, 0, none⟩), .pointer (some ⟨g, 0, none⟩), .pointer (some ⟨g, 0, none⟩), .slice (some ⟨hb, 0, none⟩) nb nb, .int .i64 (k : Int), .pointer (some ⟨hb, k * 128, none⟩), .agg (b8s bk.1).toArray,
          .pointer (some ⟨g, 0, none⟩), .pointer (some ⟨g, 0, none⟩), .pointer (some ⟨g, 1, none⟩), .slice A d.wt.length c, .func (.func 70) #[] #[.pointer (some ⟨g1, 0, none⟩)], .int .i64 (p.1 : Int), .agg (encW p.2).toArray, undef, undef, undef, undef, undef, undef, undef] [])
        (fun p a' _ X Y row hs hg hr => by obtain ⟨Bx, h1, h2, h3⟩ := hs; exact ⟨Bx, h1, h2.ownk hg (fun r e => (hr r e).2), h3⟩)
        ?assign ?body ?done ?stop
      case assign =>
        rintro lq pre p W K ⟨⟨i1, i2, i3, i4⟩, hBW⟩ hK
        simp only [encB, List.zip_toArray, List.zip_cons_cons, List.zip_nil_left, List.zip_nil_right, List.foldl_toArray', List.foldl_toArray, List.foldl_cons, List.foldl_nil, List.setIfInBounds_toArray, List.set_cons_succ, List.set_cons_zero]
        refine wpIn_region_lit ?_
        refine wpListIn_alloc_z rfl 88 rfl info_write zeroWc zeroW_cells ?_
        refine wpListIn_store_new rfl 88 (.tmp 9) (.tmp 29) rfl zeroWc (encW p.2) rfl rfl (by rw [encW_len]; kernel_rfl) (by rw [encW_len]; rfl) (encW_one p.2) ?_
        gi_wp2
        exact hK _ _ ((KeepsOthers.alloc _ _).from _) (Kp.alloc _ _ _) ⟨⟨i1, i2.alloc _, i3.alloc _, by simp; omega⟩, hBW.alloc hBW.size _⟩ ⟨W.heap.size, i4, BoxAt.new_ 88 W _, rfl⟩
      case body =>
        rintro lq pre p a' W hlq hr0 ⟨⟨i1, i2, i3, i4⟩, hBW⟩ ⟨Bx, hBx, bX, rfl⟩ hlt
        have hp0 := bX.cell 0 (.int .i64 (p.2.1 : Int)) rfl
        have hk0 := i3.cell 0 _ rfl
        have hld := encW_at bX
        by_cases he : p.2.1 = k
        · have hd1 : ((p.2.1 : Int) == (k : Int)) = true := by rw [he]; simp
          have hd2 : (p.2.1 == k) = true := by rw [he]; simp
          have He := Lib.hid he
          have Hld := Lib.hid hld
          clear he hld
          gi_wp2_with (first
            | (refine wpListIn_load_agg rfl 86 (.tmp 34) rfl ⟨Bx, 1, none⟩ rfl (b8s p.2.2.1) Hld.out Try.underlying86 rfl (by rw [blk_len]; kernel_rfl) ?_)
            | (refine wpListIn_store_box rfl 86 86 (.tmp 7) (.tmp 35) rfl g7 (b8s bk.1) (b8s p.2.2.1) rfl rfl i2 (by rw [blk_len, blk_len]) (b8s_one _) (by rw [blk_len]; kernel_rfl) ?_; intro hbx))
          exact ⟨KeepsFrom.of_grownBy (gsetRow' W g7 _) (fun j e => by injection e with e; omega), ⟨rfl, pre, p, rfl, i1, He.out, hbx⟩, hBW.grown (gsetRow' W g7 _) hBW.size (fun j e => by injection e with e; omega)⟩
        · have hd1 : ((p.2.1 : Int) == (k : Int)) = false := beq_eq_false_iff_ne.2 (by omega)
          have hd2 : (p.2.1 == k) = false := beq_eq_false_iff_ne.2 he
          have He := Lib.hid he
          clear he hld
          gi_wp2
          exact ⟨KeepsFrom.refl _ _, Kp.refl _ _, ⟨fun q hq => by
            rw [List.mem_append, List.mem_singleton] at hq
            rcases hq with hq | rfl
            · exact i1 q hq
            · exact He.out, i2, i3, i4⟩, hBW⟩
      case done =>
        rintro D ys W hD rfl ⟨⟨i1, i2, i3, i4⟩, hBW⟩ hK
        have hno := upto_backP_ne i1
        have hlw := lastW_none d.wt k bk hno
        rw [← Hrb.out] at hlw
        have Hlw := Lib.hid hlw
        have I2 := Lib.hid i2
        have HB := Lib.hid hBW
        clear hno hlw i1 i2 i3 hBW
        gi_wp2
        refine ⟨by simp, .inl ⟨_, _, rfl, run_takeDeferred hK, ?_⟩⟩
        refine ⟨_, results_tmp2 rfl _ _ _, _, rfl, ?_, HB.out.trans (belowK_b (w := w) (Nat.le_refl _) W D _ _ (by omega) hK rfl rfl)⟩
        have := I2.out.ownk (grownBy_putObj' W D (.deferred none)) (fun r e => by cases e; exact ⟨_, hK, rfl⟩)
        rw [Hlw.out]
        exact .inr ⟨g7, 128, _, _, by rw [bk.2]; rfl, by rw [bk.2]; decide, by simp [maxLen], by omega, this, fun j u hu => hu⟩
      case stop =>
        rintro D cd pre W hD ⟨m, hm, rfl⟩ ⟨⟨rfl, ini, last, e1, e2, e3, i2⟩, hBW⟩ hK
        obtain ⟨m', rfl⟩ : ∃ m', m = m' + 1 := by
          cases m with
          | zero => simp [upto] at e1
          | succ m' => exact ⟨m', rfl⟩
        rw [upto_succ] at e1
        obtain ⟨rfl, e5⟩ := List.append_inj' e1 rfl
        obtain rfl : backP d.wt m' = last := by simpa using e5
        have hq : d.wt.length - 1 - m' < d.wt.length := by omega
        have hbp := backP_at d.wt (d.wt.length - 1 - m') m' hq (by omega)
        rw [hbp] at e3 i2
        have hlw := lastW_at d.wt k _ hq e3 (fun j hj hlt => upto_backP_lt (by omega) e2 j hj (by omega)) bk
        rw [← Hrb.out] at hlw
        have Hlw := Lib.hid hlw
        have I2 := Lib.hid i2
        have HB := Lib.hid hBW
        clear hlw i2 hBW e1 e2 e3 e5 hbp
        gi_wp2
        refine ⟨by simp, .inl ⟨_, _, rfl, run_takeDeferred hK, ?_⟩⟩
        refine ⟨_, results_tmp2 rfl _ _ _, _, rfl, ?_, HB.out.trans (belowK_b (w := w) (Nat.le_refl _) W D _ _ (by omega) hK rfl rfl)⟩
        have := I2.out.ownk (grownBy_putObj' W D (.deferred none)) (fun r e => by cases e; exact ⟨_, hK, rfl⟩)
        have hl8 := (d.wt[d.wt.length - 1 - m']).2.2
        rw [Hlw.out]
        exact .inr ⟨g7, 128, _, _, by rw [hl8]; rfl, by rw [hl8]; decide, by simp [maxLen], by omega, this, fun j u hu => hu⟩
end Go.Proofs.Ytpoicbhbkabllaa

namespace Go.Proofs.Ytpoicbhbkabllaa
set_option linter.unusedSimpArgs false
set_option linter.unusedVariables false
open Go.RowKit
set_option maxRecDepth 100000
set_option maxHeartbeats 1600000

theorem ncount (w : World) : Calls Try.prog 24 #[.pointer none] w fun e w' => e = .returned (.int .i64 0) ∧ w = w' := by
  go_enter Try.func24, Try.ntmps24
  go_wp2_with fail
  go_ret
  exact ⟨rfl, rfl⟩
theorem nwaiting (w : World) : Calls Try.prog 21 #[.pointer none] w fun e w' => e = .returned (.int .i64 0) ∧ w = w' := by
  go_enter Try.func21, Try.ntmps21
  go_wp2_with fail
  go_ret
  exact ⟨rfl, rfl⟩
theorem non_ (w : World) : Calls Try.prog 18 #[.pointer none] w fun e w' => e = .returned (.bool false) ∧ w = w' := by
  go_enter Try.func18, Try.ntmps18
  go_wp2_with fail
  go_ret
  exact ⟨rfl, rfl⟩
theorem nfuse (w : World) (n : Int) : Calls Try.prog 14 #[.pointer none, .int .i64 n] w fun e w' => e = .returned (.tuple #[]) ∧ w = w' := by
  go_enter Try.func14, Try.ntmps14
  go_wp2_with fail
  go_end0
  exact ⟨rfl, rfl⟩
theorem noff (w : World) : Calls Try.prog 26 #[.pointer none] w fun e w' => e = .returned (.tuple #[]) ∧ w = w' := by
  go_enter Try.func26, Try.ntmps26
  go_wp2_with fail
  go_end0
  exact ⟨rfl, rfl⟩
theorem nback (w : World) (k t : Int) : Calls Try.prog 19 #[.pointer none, .int .u64 k, .int .u64 t] w fun e w' => e = .returned (.tuple #[]) ∧ w = w' := by
  go_enter Try.func19, Try.ntmps19
  go_wp2_with fail
  refine bodyPost_ret (results_none rfl _ _ _) rfl ?_
  exact ⟨rfl, rfl⟩
theorem nthere (w : World) (i : Int) : Calls Try.prog 50 #[.pointer none, .int .i64 i] w fun e w' => e = .returned (.bool false) ∧ w = w' := by
  have Hc := Lib.hid (ncount w)
  by_cases hi : 0 ≤ i
  · have hd : decide (0 ≤ i) = true := decide_eq_true hi
    have hd2 : decide (i < 0) = false := decide_eq_false (by omega)
    clear hi
    go_enter Try.func50, Try.ntmps50
    go_wp2_with fail
    refine Hc.out.mono ?_
    rintro _ _ ⟨rfl, rfl⟩
    go_wp2_with fail
    go_ret
    exact ⟨rfl, rfl⟩
  · have hd : decide (0 ≤ i) = false := decide_eq_false hi
    clear hi
    go_enter Try.func50, Try.ntmps50
    go_wp2_with fail
    go_ret
    exact ⟨rfl, rfl⟩
theorem nmay (w : World) (i : Int) : Calls Try.prog 42 #[.pointer none, .int .i64 i] w fun e w' => e = .returned (.int .i64 6) ∧ w = w' := by
  have Ho := Lib.hid (non_ w)
  go_enter Try.func42, Try.ntmps42
  go_wp2_with fail
  refine Ho.out.mono ?_
  rintro _ _ ⟨rfl, rfl⟩
  go_wp2_with fail
  go_ret
  exact ⟨rfl, rfl⟩
theorem nread (w : World) (i : Int) : Calls Try.prog 20 #[.pointer none, .int .i64 i] w fun e w' => e = .returned (.tuple #[.slice none 0 0, .int .i64 6]) ∧ Below w.heap.size w w' := by
  have hb0 := balloc w (.cells #[.int .i64 i] 3)
  have hc0 := (BoxAt.new_ 3 w [.int .i64 i]).cell 0 _ rfl
  have Hb := Lib.hid hb0
  have Hm := Lib.hid (nmay (w.alloc (.cells #[.int .i64 i] 3)) i)
  clear hb0
  go_enter Try.func20, Try.ntmps20
  go_wp2_with fail
  generalize w.alloc (.cells #[.int .i64 i] 3) = w0 at *
  refine Hm.out.mono ?_
  rintro _ _ ⟨rfl, rfl⟩
  go_wp2_with fail
  go_ret2
  exact ⟨rfl, Hb.out⟩
theorem nwrite (w : World) (i : Int) (v : Value) : Calls Try.prog 16 #[.pointer none, .int .i64 i, v] w fun e w' => e = .returned (.int .i64 6) ∧ w = w' := by
  have Hm := Lib.hid (nmay w i)
  go_enter Try.func16, Try.ntmps16
  go_wp2_with fail
  refine Hm.out.mono ?_
  rintro _ _ ⟨rfl, rfl⟩
  go_wp2_with fail
  go_ret
  exact ⟨rfl, rfl⟩
theorem nsync (w : World) : Calls Try.prog 15 #[.pointer none] w fun e w' => e = .returned (.int .i64 6) ∧ w = w' := by
  have Hm := Lib.hid (non_ w)
  go_enter Try.func15, Try.ntmps15
  go_wp2_with fail
  refine Hm.out.mono ?_
  rintro _ _ ⟨rfl, rfl⟩
  go_wp2_with fail
  go_ret
  exact ⟨rfl, rfl⟩
theorem nspoil (w : World) (i a c : Int) : Calls Try.prog 27 #[.pointer none, .int .i64 i, .int .i64 a, .int .u8 c] w fun e w' => e = .returned (.int .i64 9) ∧ w = w' := by
  have Hm := Lib.hid (nthere w i)
  go_enter Try.func27, Try.ntmps27
  go_wp2_with fail
  refine Hm.out.mono ?_
  rintro _ _ ⟨rfl, rfl⟩
  go_wp2_with fail
  go_ret
  exact ⟨rfl, rfl⟩
end Go.Proofs.Ytpoicbhbkabllaa

namespace Go.Proofs.Ytpoicbhbkabllaa
set_option linter.unusedSimpArgs false
set_option linter.unusedVariables false
open Go.RowKit

/-! ### a disk that the caller has made -/
/-- the disk at g, all its blocks from B on, none of them in X -/
def DK (B : Nat) (X : Nat → Prop) (w : World) (g : Nat) (d : DState) : Prop := ∃ S, DiskAt w S g d ∧ ∀ k, S k → B ≤ k ∧ ¬ X k
theorem DK.post {B : Nat} {X S : Nat → Prop} {w w' : World} {g : Nat} {d' : DState} (hS : ∀ k, S k → B ≤ k ∧ ¬ X k) (hX : ∀ k, X k → k < w.heap.size) (hB : B ≤ w.heap.size) (h : DPost w S g d' w') : DK B X w' g d' ∧ Chg (fun k => B ≤ k ∧ ¬ X k) w w' := by
  obtain ⟨S', h1, h2, h3⟩ := h
  refine ⟨⟨S', h1, fun k hk => ?_⟩, h3.more fun k _ hk => hS k hk⟩
  rcases h2 k hk with h | h
  · exact hS k h
  · exact ⟨Nat.le_trans hB h, fun hx => by have := hX k hx; omega⟩
theorem DK.below_ {B : Nat} {X : Nat → Prop} {w w' : World} {g : Nat} {d : DState} (h : DK B X w g d) (hb : Below w.heap.size w w') : DK B X w' g d := by
  obtain ⟨S, h1, h2⟩ := h
  exact ⟨S, h1.below_ hb, h2⟩
/-- one more block that it has nothing to do with -/
theorem DK.apart {B : Nat} {X X' : Nat → Prop} {w : World} {g : Nat} {d : DState} (h : DK B X w g d) (hX : ∀ k, X' k → X k ∨ w.heap.size ≤ k) : DK B X' w g d := by
  obtain ⟨S, h1, h2⟩ := h
  refine ⟨S, h1, fun k hk => ⟨(h2 k hk).1, fun hx => ?_⟩⟩
  rcases hX k hx with h | h
  · exact (h2 k hk).2 h
  · have := h1.lt k hk; omega
theorem BX.of {w : World} {S : Nat → Prop} {v : Value} {l : List UInt8} (h : By w w.heap.size v l) (hn : ∀ q, v.ownBlock = some q → ¬ S q) : BX w S v l := by
  obtain ⟨A, c, h1, h2, h3, h4⟩ := (h.toRow (S := fun _ => True))
  subst h1
  refine ⟨A, c, rfl, h2, h3, fun hl => ?_⟩
  obtain ⟨ad, rfl, hb, hc⟩ := h4 hl
  exact ⟨ad, rfl, ⟨hb, hn _ rfl⟩, hc⟩

/-- what a deed may change -/
abbrev DChg (B : Nat) (X : Nat → Prop) (w w' : World) : Prop := Chg (fun k => B ≤ k ∧ ¬ X k) w w'
section
variable {B : Nat} {X : Nat → Prop} {w w' : World} {g : Nat} {d : DState}
theorem DChg.below_ (h : DChg B X w w') (hB : B ≤ w.heap.size) : Below B w w' := Chg.below h hB fun k hk => hk.1
theorem DChg.box {T : TypeId} {q : Nat} {cs : List Value} (h : DChg B X w w') (hq : X q) (hb : BoxAt T w q cs) : BoxAt T w' q cs := hb.chg h fun hk => hk.2 hq
theorem DK.lt (h : DK B X w g d) : g < w.heap.size ∧ B ≤ g := by
  obtain ⟨S, h1, h2⟩ := h
  exact ⟨h1.lt g h1.here, (h2 g h1.here).1⟩
theorem dwrite_dk {i : Int} {v : Value} {b : List UInt8} (h : DK B X w g d) (hX : ∀ k, X k → k < w.heap.size) (hB : B ≤ w.heap.size) (hw : d.wt.length ≤ 1000000) (hv : By w w.heap.size v b) (hvX : ∀ q, v.ownBlock = some q → q < B ∨ X q) :
    Calls Try.prog 16 #[.pointer (some ⟨g, 0, none⟩), .int .i64 i, v] w fun e w' => e = .returned (.int .i64 (writeE d i b)) ∧ DK B X w' g (writeD d i b) ∧ DChg B X w w' := by
  obtain ⟨S, h1, h2⟩ := h
  refine (dwrite_any w S g d i v b hw h1 (BX.of hv fun q hq hs => ?_)).mono ?_
  · rcases hvX q hq with h | h
    · have := (h2 q hs).1; omega
    · exact (h2 q hs).2 h
  · rintro e w' ⟨he, hp⟩
    exact ⟨he, DK.post h2 hX hB hp⟩
theorem dsync_dk (h : DK B X w g d) (hX : ∀ k, X k → k < w.heap.size) (hB : B ≤ w.heap.size) (hw : d.wt.length ≤ 1000000) :
    Calls Try.prog 15 #[.pointer (some ⟨g, 0, none⟩)] w fun e w' => e = .returned (.int .i64 (syncE d)) ∧ DK B X w' g (syncD d) ∧ DChg B X w w' := by
  obtain ⟨S, h1, h2⟩ := h
  refine (dsync_any w S g d hw h1).mono ?_
  rintro e w' ⟨he, hp⟩
  exact ⟨he, DK.post h2 hX hB hp⟩
theorem dback_dk {keep torn : Nat} (h : DK B X w g d) (hX : ∀ k, X k → k < w.heap.size) (hB : B ≤ w.heap.size) (hkp : keep < 18446744073709551616) (htn : torn < 18446744073709551616) (hw : d.wt.length ≤ 1000000) :
    Calls Try.prog 19 #[.pointer (some ⟨g, 0, none⟩), .int .u64 (keep : Int), .int .u64 (torn : Int)] w fun e w' => e = .returned (.tuple #[]) ∧ DK B X w' g (backD d keep torn) ∧ DChg B X w w' := by
  obtain ⟨S, h1, h2⟩ := h
  refine (dback_any w S g d keep torn hkp htn hw h1).mono ?_
  rintro e w' ⟨he, hp⟩
  exact ⟨he, DK.post h2 hX hB hp⟩
theorem dspoil_dk {i at_ : Int} {c : UInt8} (h : DK B X w g d) (hX : ∀ k, X k → k < w.heap.size) (hB : B ≤ w.heap.size) :
    Calls Try.prog 27 #[.pointer (some ⟨g, 0, none⟩), .int .i64 i, .int .i64 at_, .int .u8 (c.toNat : Int)] w fun e w' => e = .returned (.int .i64 (spoilE d i at_)) ∧ DK B X w' g (spoilD d i at_ c) ∧ DChg B X w w' := by
  obtain ⟨S, h1, h2⟩ := h
  refine (dspoil_any w S g d i at_ c h1).mono ?_
  rintro e w' ⟨he, hp⟩
  exact ⟨he, DK.post h2 hX hB hp⟩
theorem dfuse_dk {n : Int} (h : DK B X w g d) (hn : -9223372036854775808 ≤ n ∧ n ≤ 9223372036854775807) :
    Calls Try.prog 14 #[.pointer (some ⟨g, 0, none⟩), .int .i64 n] w fun e w' => e = .returned (.tuple #[]) ∧ DK B X w' g { d with fuse := n } ∧ DChg B X w w' := by
  obtain ⟨S, h1, h2⟩ := h
  refine (dfuse_any w S g d n hn h1).mono ?_
  rintro e w' ⟨he, hd, hc⟩
  exact ⟨he, ⟨S, hd, h2⟩, hc.more fun k _ hk => h2 k hk⟩
theorem doff_dk (h : DK B X w g d) :
    Calls Try.prog 26 #[.pointer (some ⟨g, 0, none⟩)] w fun e w' => e = .returned (.tuple #[]) ∧ DK B X w' g { d with off := true } ∧ DChg B X w w' := by
  obtain ⟨S, h1, h2⟩ := h
  refine (doff_any w S g d h1).mono ?_
  rintro e w' ⟨he, hd, hc⟩
  exact ⟨he, ⟨S, hd, h2⟩, hc.more fun k _ hk => h2 k hk⟩
theorem dread_dk {i : Int} (h : DK B X w g d) (hw : d.wt.length ≤ 1000000) :
    Calls Try.prog 20 #[.pointer (some ⟨g, 0, none⟩), .int .i64 i] w fun e w' => ∃ v, e = .returned (.tuple #[v, .int .i64 (mayE d i)]) ∧ Fresh w.heap.size w' v (readL d i) ∧ DK B X w' g d ∧ Below w.heap.size w w' := by
  obtain ⟨S, h1, h2⟩ := h
  refine (dread_any w S g d i hw h1).mono ?_
  rintro e w' ⟨v, he, hf, hb⟩
  exact ⟨v, he, hf, ⟨S, h1.below_ hb, h2⟩, hb⟩
theorem don_dk (h : DK B X w g d) : Calls Try.prog 18 #[.pointer (some ⟨g, 0, none⟩)] w fun e w' => e = .returned (.bool (!d.off)) ∧ w = w' := by
  obtain ⟨S, h1, h2⟩ := h
  exact don_any w S g d h1
theorem dcount_dk (h : DK B X w g d) : Calls Try.prog 24 #[.pointer (some ⟨g, 0, none⟩)] w fun e w' => e = .returned (.int .i64 (d.bl.length : Int)) ∧ w = w' := by
  obtain ⟨S, h1, h2⟩ := h
  exact dcount_any w S g d h1
theorem dwaiting_dk (h : DK B X w g d) : Calls Try.prog 21 #[.pointer (some ⟨g, 0, none⟩)] w fun e w' => e = .returned (.int .i64 (d.wt.length : Int)) ∧ w = w' := by
  obtain ⟨S, h1, h2⟩ := h
  exact dwaiting_any w S g d h1
theorem DK.set_ (h : DK B X w g d) (p : Addr) (u : Value) (hp : p.block < B ∨ X p.block) : DK B X (w.setCell p u) g d := by
  obtain ⟨S, h1, h2⟩ := h
  refine ⟨S, h1.keep (by simp [World.setCell]) fun k hk => Below.heap_setCell w p u k (fun e => ?_), h2⟩
  subst e
  rcases hp with h | h
  · have := (h2 _ hk).1; omega
  · exact (h2 _ hk).2 h
theorem DK.grown {row : Option Nat} (h : DK B X w g d) (hg : w.grownBy w' row) (hp : ∀ q, row = some q → q < B ∨ X q) : DK B X w' g d := by
  obtain ⟨S, h1, h2⟩ := h
  refine ⟨S, h1.keep hg.size fun k hk => hg.block k (h1.lt k hk) (fun e => ?_), h2⟩
  rcases hp k e.symm with h | h
  · have := (h2 _ hk).1; omega
  · exact (h2 _ hk).2 h
theorem DK.wts (h : DK B X w g d) : ∀ x ∈ d.wt, x.1 < d.bl.length := by
  obtain ⟨S, h1, h2⟩ := h
  exact h1.wts
theorem dnew_dk (w : World) (n : Nat) (h1 : 1 ≤ n) (h2 : n ≤ 65536) :
    Calls Try.prog 13 #[.int .i64 (n : Int)] w fun e w' => ∃ g, e = .returned (.tuple #[.pointer (some ⟨g, 0, none⟩), .int .i64 0]) ∧ DK w.heap.size (fun _ => False) w' g (newD n) ∧ Below w.heap.size w w' := by
  refine (dnew_any w n h1 h2).mono ?_
  rintro e w' ⟨g, S, he, hd, hS, hb⟩
  exact ⟨g, he, ⟨S, hd, fun k hk => ⟨hS k hk, fun h => h⟩⟩, hb⟩
end
end Go.Proofs.Ytpoicbhbkabllaa

namespace Go.Proofs.Ytpoicbhbkabllaa
set_option linter.unusedSimpArgs false
set_option linter.unusedVariables false
open Go.RowKit

/-- a slot's bytes so far -/
def slotK (d : DState) (n k : Nat) : List UInt8 := (List.range k).flatMap fun i => readL d ((n * 16 + i : Nat) : Int)
def slotL (d : DState) (n : Nat) : List UInt8 := slotK d n 16
theorem slotK_succ (d : DState) (n k : Nat) : slotK d n (k + 1) = slotK d n k ++ readL d ((n * 16 + k : Nat) : Int) := by
  unfold slotK
  rw [List.range_succ, List.flatMap_append]
  simp
theorem readL_le (d : DState) (i : Int) : (readL d i).length ≤ 128 := by
  unfold readL
  split
  · simp
  · exact Nat.le_of_eq (readB d i.toNat).2
theorem slotK_len (d : DState) (n k : Nat) : (slotK d n k).length ≤ k * 128 := by
  induction k with
  | zero => simp [slotK]
  | succ k ih =>
    rw [slotK_succ, List.length_append]
    have := readL_le d ((n * 16 + k : Nat) : Int)
    omega
set_option maxRecDepth 100000 in
set_option maxHeartbeats 1600000 in
theorem mslot_off (w : World) (B : Nat) (X : Nat → Prop) (g : Nat) (d : DState) (h : DK B X w g d) (hw : d.wt.length ≤ 1000000) (n : Nat) (hn : n < 2) (ho : d.off = true) :
    Calls Try.prog 65 #[.pointer (some ⟨g, 0, none⟩), .int .i64 n] w fun e w' => e = .returned (.tuple #[.slice none 0 0, .int .i64 6]) ∧ DK B X w' g d ∧ Below w.heap.size w w' := by
  have hm : ∀ i : Int, mayE d i = 6 := fun i => by unfold mayE; rw [if_pos ho]
  have hr := dread_dk (i := (n : Int) * 16) h hw
  rw [hm] at hr
  have Hr := Lib.hid hr
  clear hr h hm
  go_enter Try.func65, Try.ntmps65
  go_wp2_with fail
  refine wp_loop_rounds 1 ?_
  rw [rounds_succ]
  go_wp2_with fail
  refine Hr.out.mono ?_
  rintro _ w1 ⟨v1, rfl, hf1, hd1, hb1⟩
  have Hd := Lib.hid hd1
  have Hb := Lib.hid hb1
  clear hf1 hd1 hb1
  go_wp2_with fail
  go_ret2
  exact ⟨rfl, Hd.out, Hb.out⟩
set_option maxRecDepth 100000 in
set_option maxHeartbeats 1600000 in
theorem mslot_on (w : World) (B : Nat) (X : Nat → Prop) (g : Nat) (d : DState) (h : DK B X w g d) (hw : d.wt.length ≤ 1000000) (n : Nat) (hn : n < 2) (ho : d.off = false) (hc : 32 ≤ d.bl.length) :
    Calls Try.prog 65 #[.pointer (some ⟨g, 0, none⟩), .int .i64 n] w fun e w' => ∃ v, e = .returned (.tuple #[v, .int .i64 0]) ∧ Ow w' w.heap.size v (slotL d n) ∧ DK B X w' g d ∧ Below w.heap.size w w' := by
  have hB := h.lt
  have hm : ∀ k : Nat, k < 16 → mayE d ((n * 16 + k : Nat) : Int) = 0 := fun k hk => by
    unfold mayE
    rw [ho, if_neg (by simp), if_pos (by omega)]
  have Hm := Lib.hid hm
  have hx : DK B (fun k => X k ∨ w.heap.size ≤ k) w g d := h.apart fun k hk => hk
  have Hx := Lib.hid hx
  have Hback : Hid (∀ W, DK B (fun k => X k ∨ w.heap.size ≤ k) W g d → DK B X W g d) := fun W hW => hW.apart fun k hk => .inl (.inl hk)
  have Hw := Lib.hid hw
  clear h hm hx hw
  go_enter Try.func65, Try.ntmps65
  go_wp2_with fail
  go_loopw [6, 10] (fun ov iv wr => ∃ k : Nat, k ≤ 16 ∧ iv = .int .i64 k ∧ Ow wr w.heap.size ov (slotK d n k) ∧ DK B (fun k => X k ∨ w.heap.size ≤ k) wr g d ∧ Below w.heap.size w wr) (fun _ i _ => 16 - (intOf i).toNat)
  case atStart => exact ⟨0, by omega, rfl, Ow.nil_ _ _, Hx.out, Below.refl _ _⟩
  case round =>
    obtain ⟨k, hk, rfl, how, hdk, hbr⟩ := hrel
    obtain ⟨A1, c1, hv1, _, _, _⟩ := how.form_
    subst hv1
    have hsr := hbr.size
    have hln := slotK_len d n k
    have hsu := slotK_succ d n k
    have Hsu := Lib.hid hsu
    by_cases hlt : k < 16
    · have hr := dread_dk (i := ((n * 16 + k : Nat) : Int)) hdk Hw.out
      rw [Hm.out k hlt] at hr
      have hle := readL_le d ((n * 16 + k : Nat) : Int)
      have hcast : ((n * 16 + k : Nat) : Int) = (n : Int) * 16 + (k : Int) := by omega
      rw [hcast] at hr
      have Hr := Lib.hid hr
      have How := Lib.hid how
      have Hbr := Lib.hid hbr
      rw [hcast] at Hsu hle
      generalize readL d ((n : Int) * 16 + (k : Int)) = rl at *
      clear hr how hdk hbr hsu hcast
      go_wp2_with fail
      refine Hr.out.mono ?_
      rintro _ w1 ⟨v1, rfl, hf1, hd1, hb1⟩
      obtain ⟨Af1, cf1, hvf1, _, _⟩ := hf1.form
      subst hvf1
      have how1 := How.out.below_ hb1
      have How1 := Lib.hid how1
      have Hf1 := Lib.hid hf1
      have Hd1 := Lib.hid hd1
      have hs1 := hb1.size
      have Hb1 := Lib.hid (Hbr.out.trans (hb1.mono hsr))
      clear how1 hf1 hd1 hb1 How Hbr
      go_wp2_with (first
        | (at_builtin
           refine wpList_app8 rfl (.tmp 25) (.tmp 26) rfl How1.out Hf1.out.by_ rfl rfl (by omega) (by omega) ?_
           intro v2 w2 ho2 hx2
           have Ho2 := Lib.hid ho2
           have Hx2 := Lib.hid hx2
           clear ho2 hx2))
      go_roundw
      case rel =>
        refine ⟨k + 1, by omega, by go_num, by rw [Hsu.out]; exact Ho2.out, Hd1.out.grown Hx2.out.gr (fun q hq => .inr (.inr (How1.out.blk q hq).1)), Hb1.out.trans (Hx2.out.below (by omega) (fun q hq => (How1.out.blk q hq).1))⟩
      case measure => simp [intOf]; omega
    · obtain rfl : k = 16 := by omega
      have How := Lib.hid how
      have Hd := Lib.hid hdk
      have Hbr := Lib.hid hbr
      clear how hdk hbr
      go_wp2_with fail
      go_ret2
      exact ⟨_, rfl, How.out, Hback.out _ Hd.out, Hbr.out⟩
theorem By.at_ {w : World} {B n c : Nat} {A : Option Addr} {l : List UInt8} (h : By w B (.slice A n c) l) (k : Nat) (hk : k < l.length) : ∃ ad, A = some ad ∧ ad.block < B ∧ w.cell? (ad.add k) = some (.int .u8 (l[k].toNat : Int)) := by
  obtain ⟨A', c', e, _, _, hrd⟩ := h
  injection e with e1 e2 e3
  subst e1
  obtain ⟨ad, hA, hb, hc⟩ := hrd.ad (by omega)
  exact ⟨ad, hA, hb, hc k _ (by simp [b8s, b8, List.getElem?_eq_getElem hk])⟩
/-- the byte that is not 0 -/
theorem nz_any (w : World) (x : UInt8) : Calls Try.prog 67 #[.int .u8 (x.toNat : Int)] w fun e w' => e = .returned (.bool (decide (x ≠ 0))) ∧ w = w' := by
  have hx : ((x.toNat : Int) == 0) = decide (x = 0) := by
    by_cases h : x = 0
    · subst h; rfl
    · have : x.toNat ≠ 0 := fun e => h (UInt8.toNat_inj.1 e)
      rw [decide_eq_false h]
      exact beq_eq_false_iff_ne.2 (by omega)
  have hx2 : ((x.toNat : Int) != 0) = decide (x ≠ 0) := by rw [bne, hx]; by_cases h : x = 0 <;> simp [h]
  obtain ⟨r, hr⟩ : ∃ r, r = decide (x ≠ 0) := ⟨_, rfl⟩
  rw [← hr] at hx2 ⊢
  clear hr hx
  go_enter Try.func67, Try.ntmps67
  go_wp2_with fail
  go_ret
  exact ⟨rfl, rfl⟩
def HasNZ (l : List UInt8) : Prop := ¬ ∀ x ∈ l, x = 0
set_option maxRecDepth 100000 in
theorem index_any (w : World) (B : Nat) (v : Value) (l : List UInt8) (h : By w B v l) (hl : l.length ≤ 1000000) :
    Calls Try.prog 89 #[v, .func (.func 67) #[] #[]] w fun e w' => ∃ i : Int, e = .returned (.int .i64 i) ∧ (0 ≤ i ↔ HasNZ l) ∧ w = w' := by
  obtain ⟨A, c, rfl, hc1, hc2, hrd⟩ := id h
  have Hn := Lib.hid (fun W x => nz_any W x)
  have Hby := Lib.hid h
  clear h
  unfold maxLen at hc2
  go_enter Try.func89, Try.ntmps89
  go_wp2_with fail
  go_loop [8] (fun iv => ∃ k : Nat, k ≤ l.length ∧ iv = .int .i64 k ∧ ∀ (j : Nat) (hj : j < l.length), j < k → l[j] = 0) (fun i => l.length - (intOf i).toNat)
  case atStart => exact ⟨0, by omega, rfl, fun j hj h => by omega⟩
  case round =>
    obtain ⟨k, hk, rfl, hall⟩ := hrel
    have Hall := Lib.hid hall
    clear hall
    by_cases hlt : k < l.length
    · obtain ⟨ad, rfl, hab, hcell⟩ := Hby.out.at_ k hlt
      have hmem : l[k] ∈ l := List.getElem_mem hlt
      have hst : l[k] = 0 → ∀ (j : Nat) (hj : j < l.length), j < k + 1 → l[j] = 0 := fun he j hj hjk => by
        rcases Nat.lt_or_ge j k with h | h
        · exact Hall.out j hj h
        · obtain rfl : j = k := by omega
          exact he
      have Hst := Lib.hid hst
      have Hmem := Lib.hid hmem
      clear hst hmem
      generalize l[k] = x at *
      by_cases hx : x = 0
      · have hd : decide (x ≠ 0) = false := by simp [hx]
        have Hs := Lib.hid (Hst.out hx)
        clear hx
        go_wp2_with fail
        refine (Hn.out w x).mono ?_
        rintro _ _ ⟨rfl, rfl⟩
        rw [hd]
        go_wp2_with fail
        go_round
        case rel => exact ⟨k + 1, by omega, by go_num, Hs.out⟩
        case measure => simp [intOf]; omega
      · have hd : decide (x ≠ 0) = true := by simp [hx]
        have hno : HasNZ l := fun h => hx (h x Hmem.out)
        have Hno := Lib.hid hno
        clear hx hno
        go_wp2_with fail
        refine (Hn.out w x).mono ?_
        rintro _ _ ⟨rfl, rfl⟩
        rw [hd]
        go_wp2_with fail
        go_ret
        exact ⟨k, rfl, ⟨fun _ => Hno.out, fun _ => (by omega)⟩, rfl⟩
    · obtain rfl : k = l.length := by omega
      have hz : ∀ x ∈ l, x = 0 := fun x hx => by
        obtain ⟨j, hj, rfl⟩ := List.mem_iff_getElem.1 hx
        exact Hall.out j hj hj
      have Hz := Lib.hid hz
      clear hz
      go_wp2_with fail
      go_ret
      exact ⟨-1, rfl, ⟨fun h => (by omega), fun h => absurd Hz.out h⟩, rfl⟩
theorem contains_any (w : World) (B : Nat) (v : Value) (l : List UInt8) (h : By w B v l) (hl : l.length ≤ 1000000) :
    Calls Try.prog 66 #[v, .func (.func 67) #[] #[]] w fun e w' => e = .returned (.bool (!(l.all fun x => decide (x = 0)))) ∧ w = w' := by
  obtain ⟨A, c, rfl, hc1, hc2, hrd⟩ := id h
  have Hi := Lib.hid (index_any w B _ l h hl)
  obtain ⟨r, hr⟩ : ∃ r, r = !(l.all fun x => decide (x = 0)) := ⟨_, rfl⟩
  have hr2 : r = true ↔ HasNZ l := by unfold HasNZ; rw [hr]; simp
  rw [← hr]
  have Hr := Lib.hid hr2
  clear hr hr2 h hrd
  go_enter Try.func66, Try.ntmps66
  go_wp2_with fail
  refine Hi.out.mono ?_
  rintro _ _ ⟨i, rfl, hi, rfl⟩
  have hri : decide (0 ≤ i) = r := by
    cases hq : r with
    | true => exact decide_eq_true (hi.2 (Hr.out.1 hq))
    | false => exact decide_eq_false fun h => by rw [Hr.out.2 (hi.1 h)] at hq; cases hq
  have Hri := Lib.hid hri
  clear hri
  go_wp2_with fail
  go_ret
  exact ⟨by rw [← Hri.out]; rfl, rfl⟩
end Go.Proofs.Ytpoicbhbkabllaa

namespace Go.Proofs.Ytpoicbhbkabllaa
set_option linter.unusedSimpArgs false
set_option linter.unusedVariables false
open Go.RowKit

theorem DK.chg {B : Nat} {X P : Nat → Prop} {w w' : World} {g : Nat} {d : DState} (h : DK B X w g d) (hc : Chg P w w') (hp : ∀ q, P q → q < B ∨ X q) : DK B X w' g d := by
  obtain ⟨S, h1, h2⟩ := h
  refine ⟨S, h1.keep hc.size fun k hk => hc.block k (h1.lt k hk) (fun hx => ?_), h2⟩
  rcases hp k hx with h | h
  · have := (h2 _ hk).1; omega
  · exact (h2 _ hk).2 h
structure RSt where
  best : MMan
  found : Bool
  blank : Bool
def newer (b : List UInt8) (s : RSt) : Bool := getOk b && (!s.found || decide (s.best.ver.toNat < (getM b).ver.toNat))
def rstep (b : List UInt8) (s : RSt) : RSt := ⟨if newer b s = true then getM b else s.best, s.found || getOk b, s.blank || b.all fun x => decide (x = 0)⟩
def rst (f : Nat → List UInt8) : Nat → RSt
  | 0 => ⟨emptyM, false, false⟩
  | k + 1 => rstep (f k) (rst f k)
def rdE (s : RSt) : Int := if s.found = false ∧ s.blank = false then 5 else 0
def rdM (s : RSt) : MMan := if s.found = false ∧ s.blank = false then emptyM else s.best
/-- what Read says of a disk -/
def readDE (d : DState) : Int := if d.bl.length ≤ 32 then 1 else if d.off = true then 6 else rdE (rst (slotL d) 2)
def readDM (d : DState) : MMan := if d.bl.length ≤ 32 then emptyM else if d.off = true then emptyM else rdM (rst (slotL d) 2)
set_option maxRecDepth 100000 in
set_option maxHeartbeats 3200000 in
theorem mfread_on (w : World) (B : Nat) (X : Nat → Prop) (g : Nat) (d : DState) (h : DK B X w g d) (hw : d.wt.length ≤ 1000000) (ho : d.off = false) (hc : 32 < d.bl.length) (hmax : d.bl.length ≤ 65536) :
    Calls Try.prog 35 #[.pointer (some ⟨g, 0, none⟩)] w fun e w' => ∃ v, e = .returned (.tuple #[v, .int .i64 (rdE (rst (slotL d) 2))]) ∧ MIn w' w.heap.size v (rdM (rst (slotL d) 2)) ∧ DK B X w' g d ∧ Below w.heap.size w w' := by
  have hB := h.lt
  have Hcnt := Lib.hid (fun W (hW : DK B X W g d) => dcount_dk hW)
  obtain ⟨w0, hw0⟩ : ∃ w0, w0 = w.alloc (.cells zeroMc.toArray 56) := ⟨_, rfl⟩
  have hb0 : Below w.heap.size w w0 := by rw [hw0]; exact balloc w _
  have hres0 : BoxAt 56 w0 w.heap.size zeroMc := by rw [hw0]; exact BoxAt.new_ _ _ _
  have hz0 : w0.heap.size = w.heap.size + 1 := by rw [hw0]; simp
  obtain ⟨X', hX'⟩ : ∃ X' : Nat → Prop, X' = fun k => X k ∨ w.heap.size ≤ k := ⟨_, rfl⟩
  have hdk0 : DK B X' w0 g d := by rw [hX']; exact (h.apart fun k hk => hk : DK B (fun k => X k ∨ w.heap.size ≤ k) w g d).below_ hb0
  have Hnew : Hid (∀ q, w.heap.size ≤ q → q < B ∨ X' q) := fun q hq => .inr (by rw [hX']; exact .inr hq)
  have Hback : Hid (∀ W, DK B X' W g d → DK B X W g d) := fun W hW => by rw [hX'] at hW; exact hW.apart fun k hk => .inl (.inl hk)
  have hcount := dcount_dk hdk0
  have Hcount := Lib.hid hcount
  have Hw0 := Lib.hid hw0
  have Hb0 := Lib.hid hb0
  have Hres0 := Lib.hid hres0
  have Hdk0 := Lib.hid hdk0
  have Hw := Lib.hid hw
  have Ho := Lib.hid ho
  have hz : ∀ u ∈ zeroMc, u.oneCell' = true := encM_one emptyM _ rfl
  have Hz := Lib.hid hz
  obtain ⟨er, her⟩ : ∃ er : Int, er = rdE (rst (slotL d) 2) := ⟨_, rfl⟩
  obtain ⟨rm, hrm⟩ : ∃ rm : MMan, rm = rdM (rst (slotL d) 2) := ⟨_, rfl⟩
  rw [← her, ← hrm]
  have Her := Lib.hid her
  have Hrm := Lib.hid hrm
  have hcd : decide ((d.bl.length : Int) ≤ 32) = false := decide_eq_false (by omega)
  clear hw0 hb0 hres0 hX' hdk0 hcount hw ho hz her hrm h
  go_enter Try.func35, Try.ntmps35
  go_upto_region 1 with (first
    | (refine wpList_alloc_z rfl 56 rfl info_manz zeroMc zeroM_cells ?_))
  try simp only [Act.put, List.setIfInBounds_toArray, List.set_cons_zero, List.set_cons_succ]
  rw [← Hw0.out]
  go_wp2_with fail
  refine Hcount.out.mono ?_
  rintro _ _ ⟨rfl, rfl⟩
  have hb01 := balloc w0 (.cells zeroMc.toArray 56)
  have hbx1 := BoxAt.new_ 56 w0 zeroMc
  go_upto_region 4 with (first
    | (refine wpList_alloc_z rfl 56 rfl info_manz zeroMc zeroM_cells ?_))
  try simp only [Act.put, List.setIfInBounds_toArray, List.set_cons_zero, List.set_cons_succ]
  obtain ⟨w1, hw1⟩ : ∃ w1, w1 = w0.alloc (.cells zeroMc.toArray 56) := ⟨_, rfl⟩
  rw [← hw1] at hb01 hbx1 ⊢
  obtain ⟨gb, hgb⟩ : ∃ gb, gb = w0.heap.size := ⟨_, rfl⟩
  rw [← hgb] at hbx1 ⊢
  have hgb' : w.heap.size < gb := by omega
  have hz1 : w1.heap.size = gb + 1 := by rw [hw1, hgb]; simp
  have Hb1 := Lib.hid (bstep Hb0.out hb01)
  have Hres1 := Lib.hid (Hres0.out.blwM hb01)
  have Hdk1 := Lib.hid (Hdk0.out.below_ hb01)
  have Hbx1 := Lib.hid hbx1
  clear hw1 hb01 hbx1 hgb
  go_wp2_with fail
  go_loopw [5, 6, 15] (fun fv bv iv wr => ∃ (k : Nat) (vf : Value), k ≤ 2 ∧ iv = .int .i64 k ∧ fv = .bool (rst (slotL d) k).found ∧ bv = .bool (rst (slotL d) k).blank ∧ BoxAt 56 wr gb (encM (rst (slotL d) k).best vf) ∧
    MIn wr (gb + 1) (.agg (encM (rst (slotL d) k).best vf).toArray) (rst (slotL d) k).best ∧ BoxAt 56 wr w.heap.size zeroMc ∧ DK B X' wr g d ∧ Below w.heap.size w wr ∧ gb < wr.heap.size) (fun _ _ i _ => 2 - (intOf i).toNat)
  case atStart => exact ⟨0, .slice none 0 0, by omega, rfl, rfl, rfl, Hbx1.out, MIn.empty _ _, Hres1.out, Hdk1.out, Hb1.out, by omega⟩
  case round =>
    obtain ⟨k, vf, hk, rfl, rfl, rfl, hbx, hin, hres, hdk, hblw, hgw⟩ := hrel
    have hst : rst (slotL d) (k + 1) = rstep (slotL d k) (rst (slotL d) k) := rfl
    have Hst := Lib.hid hst
    have Bx := Lib.hid hbx
    have In := Lib.hid hin
    have Rs := Lib.hid hres
    have Dk := Lib.hid hdk
    have Bl := Lib.hid hblw
    obtain ⟨vf', hvf', hff⟩ := id hin
    have hvfe : vf = vf' := by
      have := hvf'
      simp [encM] at this
      exact this
    subst hvfe
    obtain ⟨Af, cf, hvf, _, _⟩ := hff.form
    subst hvf
    have hc0 := hbx.cell 0 _ rfl
    clear hst hbx hin hres hdk hblw hvf' hff
    by_cases hlt : k < 2
    · have hsl := slotK_len d k 16
      have hsl2 : (slotL d k).length ≤ 2048 := hsl
      have hslot := mslot_on wr B X' g d Dk.out Hw.out k hlt Ho.out (by omega)
      generalize hb : slotL d k = b at *
      generalize hs : rst (slotL d) k = s at *
      obtain ⟨best, found, blank⟩ := s
      simp only at Bx In hc0
      have Hslot := Lib.hid hslot
      clear hslot hb hs hsl
      go_wp2_with fail
      refine Hslot.out.mono ?_
      rintro _ w1 ⟨v1, rfl, how1, hdk1, hb1⟩
      have By1 := Lib.hid how1.by_
      have Bx1 := Lib.hid (Bx.out.blwM hb1)
      have In1 := Lib.hid (In.out.step hb1)
      have Rs1 := Lib.hid (Rs.out.blwM hb1)
      have Dk1 := Lib.hid hdk1
      have Bl1 := Lib.hid (Bl.out.trans (hb1.mono (by have := Bl.out.size; omega)))
      have hs1 := hb1.size
      obtain ⟨A1, c1, hv1, _, _, _⟩ := how1.form_
      subst hv1
      clear how1 hdk1 hb1 hc0 Bx In Rs Dk Bl Hslot
      cases hbl : blank with
      | true =>
        go_wp2_with fail
        refine (mget_any w1 _ b By1.out (by omega)).mono ?_
        rintro _ w2 ⟨v2, rfl, hm2, hb2⟩
        obtain ⟨mm, hmm⟩ : ∃ mm, mm = getM b := ⟨_, rfl⟩
        rw [← hmm] at hm2
        obtain ⟨vg, hvg, hgg⟩ := id hm2
        obtain ⟨Ag, cg, hvg2, _, _⟩ := hgg.form
        subst hvg2
        subst hvg
        have Hone : Hid (∀ u ∈ encM mm (.slice Ag mm.files.length cg), u.oneCell' = true) := encM_one _ _ rfl
        have Gm2 := Lib.hid hm2
        have Bx2 := Lib.hid (Bx1.out.blwM hb2)
        have In2 := Lib.hid (In1.out.step hb2)
        have Rs2 := Lib.hid (Rs1.out.blwM hb2)
        have Dk2 := Lib.hid (Dk1.out.below_ hb2)
        have Bl2 := Lib.hid (Bl1.out.trans (hb2.mono (by have := Bl1.out.size; omega)))
        have hs2 := hb2.size
        have Hmm := Lib.hid hmm
        obtain ⟨e2, he2⟩ : ∃ e2 : Int, e2 = if getOk b = true then 0 else 5 := ⟨_, rfl⟩
        rw [← he2]
        have He2 := Lib.hid he2
        clear hm2 hgg hb2 hmm he2
        go_upto_region 13 with (first
          | (refine wpList_alloc_z rfl 56 rfl info_manz zeroMc zeroM_cells ?_)
          | (refine wpList_store_newW rfl 56 (.tmp 10) (.tmp 37) rfl zeroMc (encM mm (.slice Ag mm.files.length cg)) rfl rfl info_man3 rfl Hone.out ?_
             intro w3 hbx3 hb3 hz3))
        try simp only [Act.put, List.setIfInBounds_toArray, List.set_cons_zero, List.set_cons_succ]
        have hc10 := hbx3.cell 0 _ rfl
        have hcb := (Bx2.out.blwM hb3).cell 0 _ rfl
        have Y3 := Lib.hid hbx3
        have GmX := Lib.hid ((Gm2.out.step hb3).low (show gb + 1 ≤ w1.heap.size by omega))
        have BxX := Lib.hid (Bx2.out.blwM hb3)
        have InX := Lib.hid (In2.out.step hb3)
        have RsX := Lib.hid (Rs2.out.blwM hb3)
        have DkX := Lib.hid (Dk2.out.below_ hb3)
        have BlX := Lib.hid (Bl2.out.trans (hb3.mono (by have := Bl2.out.size; omega)))
        have hs3 := hb3.size
        clear hbx3 hb3 Gm2 Bx2 In2 Rs2 Dk2 Bl2 Bx1 In1 Rs1 Dk1 Bl1 By1
        cases hok : getOk b with
        | false =>
          have he : e2 = 5 := by rw [He2.out, hok]; rfl
          have hS : rst (slotL d) (k + 1) = ⟨best, found, true⟩ := by rw [Hst.out]; simp [rstep, newer, hok, hbl]
          have HS := Lib.hid hS
          subst he
          clear hS hok
          go_wp2_with fail
          go_roundw
          case rel => exact ⟨k + 1, .slice Af best.files.length cf, by omega, by go_num, by rw [HS.out], by rw [HS.out], by rw [HS.out]; exact BxX.out, by rw [HS.out]; exact InX.out, RsX.out, DkX.out, BlX.out, by omega⟩
          case measure => simp [intOf]; omega
        | true =>
          have he : e2 = 0 := by rw [He2.out, hok]; rfl
          subst he
          cases hfo : found with
          | false =>
            have hS : rst (slotL d) (k + 1) = ⟨mm, true, true⟩ := by rw [Hst.out, Hmm.out]; simp [rstep, newer, hok, hfo, hbl]
            have HS := Lib.hid hS
            clear hS hok
            go_wp2_with (first
              | (refine wpList_load_agg rfl 56 (.tmp 10) rfl ⟨w2.heap.size, 0, none⟩ rfl (encM mm (.slice Ag mm.files.length cg)) Y3.out.cells Try.underlying56 rfl info_man3 ?_)
              | (refine wpList_store_boxW rfl 56 56 (.tmp 4) (.tmp 52) rfl gb (encM best (.slice Af best.files.length cf)) (encM mm (.slice Ag mm.files.length cg)) rfl rfl BxX.out rfl Hone.out info_man3 ?_
                 intro w4 hbx4 hch4 hz4))
            go_roundw
            case rel => exact ⟨k + 1, .slice Ag mm.files.length cg, by omega, by go_num, by rw [HS.out], by rw [HS.out], by rw [HS.out]; exact hbx4, by rw [HS.out]; exact GmX.out.chg hch4 (fun q hq => by omega), RsX.out.chg hch4 (fun e => by omega), DkX.out.chg hch4 (fun q hq => Hnew.out q (by omega)), BlX.out.trans (hch4.below (B := w.heap.size) BlX.out.size (fun q hq => by omega)), by omega⟩
            case measure => simp [intOf]; omega
          | true =>
            by_cases hv : best.ver.toNat < mm.ver.toNat
            · have hS : rst (slotL d) (k + 1) = ⟨mm, true, true⟩ := by rw [Hmm.out] at hv; rw [Hst.out, Hmm.out]; simp [rstep, newer, hok, hfo, hv, hbl]
              have HS := Lib.hid hS
              have hvd : decide ((best.ver.toNat : Int) < (mm.ver.toNat : Int)) = true := decide_eq_true (by omega)
              clear hS hok
              go_wp2_with (first
                | (refine wpList_load_agg rfl 56 (.tmp 10) rfl ⟨w2.heap.size, 0, none⟩ rfl (encM mm (.slice Ag mm.files.length cg)) Y3.out.cells Try.underlying56 rfl info_man3 ?_)
                | (refine wpList_store_boxW rfl 56 56 (.tmp 4) (.tmp 52) rfl gb (encM best (.slice Af best.files.length cf)) (encM mm (.slice Ag mm.files.length cg)) rfl rfl BxX.out rfl Hone.out info_man3 ?_
                   intro w4 hbx4 hch4 hz4))
              go_roundw
              case rel => exact ⟨k + 1, .slice Ag mm.files.length cg, by omega, by go_num, by rw [HS.out], by rw [HS.out], by rw [HS.out]; exact hbx4, by rw [HS.out]; exact GmX.out.chg hch4 (fun q hq => by omega), RsX.out.chg hch4 (fun e => by omega), DkX.out.chg hch4 (fun q hq => Hnew.out q (by omega)), BlX.out.trans (hch4.below (B := w.heap.size) BlX.out.size (fun q hq => by omega)), by omega⟩
              case measure => simp [intOf]; omega
            · have hS : rst (slotL d) (k + 1) = ⟨best, true, true⟩ := by rw [Hmm.out] at hv; rw [Hst.out]; simp [rstep, newer, hok, hfo, hv, hbl]
              have HS := Lib.hid hS
              have hvd : decide ((best.ver.toNat : Int) < (mm.ver.toNat : Int)) = false := decide_eq_false (by omega)
              clear hS hok
              go_wp2_with fail
              go_roundw
              case rel => exact ⟨k + 1, .slice Af best.files.length cf, by omega, by go_num, by rw [HS.out], by rw [HS.out], by rw [HS.out]; exact BxX.out, by rw [HS.out]; exact InX.out, RsX.out, DkX.out, BlX.out, by omega⟩
              case measure => simp [intOf]; omega
      | false =>
        go_wp2_with fail
        refine (contains_any w1 _ _ b By1.out (by omega)).mono ?_
        rintro _ _ ⟨rfl, rfl⟩
        obtain ⟨z, hz0⟩ : ∃ z, z = b.all fun x => decide (x = 0) := ⟨_, rfl⟩
        rw [← hz0]
        have Hz0 := Lib.hid hz0
        clear hz0
        go_wp2_with fail
        refine (mget_any w1 _ b By1.out (by omega)).mono ?_
        rintro _ w2 ⟨v2, rfl, hm2, hb2⟩
        obtain ⟨mm, hmm⟩ : ∃ mm, mm = getM b := ⟨_, rfl⟩
        rw [← hmm] at hm2
        obtain ⟨vg, hvg, hgg⟩ := id hm2
        obtain ⟨Ag, cg, hvg2, _, _⟩ := hgg.form
        subst hvg2
        subst hvg
        have Hone : Hid (∀ u ∈ encM mm (.slice Ag mm.files.length cg), u.oneCell' = true) := encM_one _ _ rfl
        have Gm2 := Lib.hid hm2
        have Bx2 := Lib.hid (Bx1.out.blwM hb2)
        have In2 := Lib.hid (In1.out.step hb2)
        have Rs2 := Lib.hid (Rs1.out.blwM hb2)
        have Dk2 := Lib.hid (Dk1.out.below_ hb2)
        have Bl2 := Lib.hid (Bl1.out.trans (hb2.mono (by have := Bl1.out.size; omega)))
        have hs2 := hb2.size
        have Hmm := Lib.hid hmm
        obtain ⟨e2, he2⟩ : ∃ e2 : Int, e2 = if getOk b = true then 0 else 5 := ⟨_, rfl⟩
        rw [← he2]
        have He2 := Lib.hid he2
        clear hm2 hgg hb2 hmm he2
        go_upto_region 13 with (first
          | (refine wpList_alloc_z rfl 56 rfl info_manz zeroMc zeroM_cells ?_)
          | (refine wpList_store_newW rfl 56 (.tmp 10) (.tmp 37) rfl zeroMc (encM mm (.slice Ag mm.files.length cg)) rfl rfl info_man3 rfl Hone.out ?_
             intro w3 hbx3 hb3 hz3))
        try simp only [Act.put, List.setIfInBounds_toArray, List.set_cons_zero, List.set_cons_succ]
        have hc10 := hbx3.cell 0 _ rfl
        have hcb := (Bx2.out.blwM hb3).cell 0 _ rfl
        have Y3 := Lib.hid hbx3
        have GmX := Lib.hid ((Gm2.out.step hb3).low (show gb + 1 ≤ w1.heap.size by omega))
        have BxX := Lib.hid (Bx2.out.blwM hb3)
        have InX := Lib.hid (In2.out.step hb3)
        have RsX := Lib.hid (Rs2.out.blwM hb3)
        have DkX := Lib.hid (Dk2.out.below_ hb3)
        have BlX := Lib.hid (Bl2.out.trans (hb3.mono (by have := Bl2.out.size; omega)))
        have hs3 := hb3.size
        clear hbx3 hb3 Gm2 Bx2 In2 Rs2 Dk2 Bl2 Bx1 In1 Rs1 Dk1 Bl1 By1
        cases hok : getOk b with
        | false =>
          have he : e2 = 5 := by rw [He2.out, hok]; rfl
          have hS : rst (slotL d) (k + 1) = ⟨best, found, z⟩ := by rw [Hst.out]; simp [rstep, newer, hok, hbl, ← Hz0.out]
          have HS := Lib.hid hS
          subst he
          clear hS hok
          go_wp2_with fail
          go_roundw
          case rel => exact ⟨k + 1, .slice Af best.files.length cf, by omega, by go_num, by rw [HS.out], by rw [HS.out], by rw [HS.out]; exact BxX.out, by rw [HS.out]; exact InX.out, RsX.out, DkX.out, BlX.out, by omega⟩
          case measure => simp [intOf]; omega
        | true =>
          have he : e2 = 0 := by rw [He2.out, hok]; rfl
          subst he
          cases hfo : found with
          | false =>
            have hS : rst (slotL d) (k + 1) = ⟨mm, true, z⟩ := by rw [Hst.out, Hmm.out]; simp [rstep, newer, hok, hfo, hbl, ← Hz0.out]
            have HS := Lib.hid hS
            clear hS hok
            go_wp2_with (first
              | (refine wpList_load_agg rfl 56 (.tmp 10) rfl ⟨w2.heap.size, 0, none⟩ rfl (encM mm (.slice Ag mm.files.length cg)) Y3.out.cells Try.underlying56 rfl info_man3 ?_)
              | (refine wpList_store_boxW rfl 56 56 (.tmp 4) (.tmp 52) rfl gb (encM best (.slice Af best.files.length cf)) (encM mm (.slice Ag mm.files.length cg)) rfl rfl BxX.out rfl Hone.out info_man3 ?_
                 intro w4 hbx4 hch4 hz4))
            go_roundw
            case rel => exact ⟨k + 1, .slice Ag mm.files.length cg, by omega, by go_num, by rw [HS.out], by rw [HS.out], by rw [HS.out]; exact hbx4, by rw [HS.out]; exact GmX.out.chg hch4 (fun q hq => by omega), RsX.out.chg hch4 (fun e => by omega), DkX.out.chg hch4 (fun q hq => Hnew.out q (by omega)), BlX.out.trans (hch4.below (B := w.heap.size) BlX.out.size (fun q hq => by omega)), by omega⟩
            case measure => simp [intOf]; omega
          | true =>
            by_cases hv : best.ver.toNat < mm.ver.toNat
            · have hS : rst (slotL d) (k + 1) = ⟨mm, true, z⟩ := by rw [Hmm.out] at hv; rw [Hst.out, Hmm.out]; simp [rstep, newer, hok, hfo, hv, hbl, ← Hz0.out]
              have HS := Lib.hid hS
              have hvd : decide ((best.ver.toNat : Int) < (mm.ver.toNat : Int)) = true := decide_eq_true (by omega)
              clear hS hok
              go_wp2_with (first
                | (refine wpList_load_agg rfl 56 (.tmp 10) rfl ⟨w2.heap.size, 0, none⟩ rfl (encM mm (.slice Ag mm.files.length cg)) Y3.out.cells Try.underlying56 rfl info_man3 ?_)
                | (refine wpList_store_boxW rfl 56 56 (.tmp 4) (.tmp 52) rfl gb (encM best (.slice Af best.files.length cf)) (encM mm (.slice Ag mm.files.length cg)) rfl rfl BxX.out rfl Hone.out info_man3 ?_
                   intro w4 hbx4 hch4 hz4))
              go_roundw
              case rel => exact ⟨k + 1, .slice Ag mm.files.length cg, by omega, by go_num, by rw [HS.out], by rw [HS.out], by rw [HS.out]; exact hbx4, by rw [HS.out]; exact GmX.out.chg hch4 (fun q hq => by omega), RsX.out.chg hch4 (fun e => by omega), DkX.out.chg hch4 (fun q hq => Hnew.out q (by omega)), BlX.out.trans (hch4.below (B := w.heap.size) BlX.out.size (fun q hq => by omega)), by omega⟩
              case measure => simp [intOf]; omega
            · have hS : rst (slotL d) (k + 1) = ⟨best, true, z⟩ := by rw [Hmm.out] at hv; rw [Hst.out]; simp [rstep, newer, hok, hfo, hv, hbl, ← Hz0.out]
              have HS := Lib.hid hS
              have hvd : decide ((best.ver.toNat : Int) < (mm.ver.toNat : Int)) = false := decide_eq_false (by omega)
              clear hS hok
              go_wp2_with fail
              go_roundw
              case rel => exact ⟨k + 1, .slice Af best.files.length cf, by omega, by go_num, by rw [HS.out], by rw [HS.out], by rw [HS.out]; exact BxX.out, by rw [HS.out]; exact InX.out, RsX.out, DkX.out, BlX.out, by omega⟩
              case measure => simp [intOf]; omega
    · obtain rfl : k = 2 := by omega
      generalize hs : rst (slotL d) 2 = s at *
      obtain ⟨best, found, blank⟩ := s
      simp only at Bx In hc0
      have hgo : Hid (∀ q, q = w.heap.size → q < B ∨ X' q) := fun q hq => Hnew.out q (by omega)
      cases hfo : found with
      | true =>
        have hr : er = 0 := by rw [Her.out, hfo]; rfl
        have hm : rm = best := by rw [Hrm.out, hfo]; rfl
        have Hm := Lib.hid hm
        have Hone : Hid (∀ u ∈ encM best (.slice Af best.files.length cf), u.oneCell' = true) := encM_one _ _ rfl
        subst hr
        clear hm
        go_wp2_with (first
          | (refine wpList_load_agg rfl 56 (.tmp 4) rfl ⟨gb, 0, none⟩ rfl (encM best (.slice Af best.files.length cf)) Bx.out.cells Try.underlying56 rfl info_man3 ?_)
          | (refine wpList_store_boxW rfl 56 56 (.tmp 2) (.tmp 61) rfl w.heap.size zeroMc (encM best (.slice Af best.files.length cf)) rfl rfl Rs.out rfl Hone.out info_man3 ?_
             intro we hend hche hze))
        refine bodyPost_ret (results_ct rfl _ _ w.heap.size (encM best (.slice Af best.files.length cf)) rfl (fun j v hj => (hend.cells j v hj : _)) Try.underlying56 rfl info_man3) rfl ?_
        refine ⟨_, rfl, by rw [Hm.out]; exact (In.out.chg hche (fun q hq => by omega)).low (by omega), Hback.out _ (Dk.out.chg hche hgo.out), Bl.out.trans (hche.below (B := w.heap.size) Bl.out.size (fun k hk => by omega))⟩
      | false =>
        cases hbl : blank with
        | true =>
          have hr : er = 0 := by rw [Her.out, hfo, hbl]; rfl
          have hm : rm = best := by rw [Hrm.out, hfo, hbl]; rfl
          have Hm := Lib.hid hm
          have Hone : Hid (∀ u ∈ encM best (.slice Af best.files.length cf), u.oneCell' = true) := encM_one _ _ rfl
          subst hr
          clear hm
          go_wp2_with (first
            | (refine wpList_load_agg rfl 56 (.tmp 4) rfl ⟨gb, 0, none⟩ rfl (encM best (.slice Af best.files.length cf)) Bx.out.cells Try.underlying56 rfl info_man3 ?_)
            | (refine wpList_store_boxW rfl 56 56 (.tmp 2) (.tmp 61) rfl w.heap.size zeroMc (encM best (.slice Af best.files.length cf)) rfl rfl Rs.out rfl Hone.out info_man3 ?_
               intro we hend hche hze))
          refine bodyPost_ret (results_ct rfl _ _ w.heap.size (encM best (.slice Af best.files.length cf)) rfl (fun j v hj => (hend.cells j v hj : _)) Try.underlying56 rfl info_man3) rfl ?_
          refine ⟨_, rfl, by rw [Hm.out]; exact (In.out.chg hche (fun q hq => by omega)).low (by omega), Hback.out _ (Dk.out.chg hche hgo.out), Bl.out.trans (hche.below (B := w.heap.size) Bl.out.size (fun k hk => by omega))⟩
        | false =>
          have hr : er = 5 := by rw [Her.out, hfo, hbl]; rfl
          have hm : rm = emptyM := by rw [Hrm.out, hfo, hbl]; rfl
          have Hm := Lib.hid hm
          subst hr
          clear hm
          go_wp2_with (refine wpList_store_boxW rfl 56 56 (.tmp 2) (.tmp 60) rfl w.heap.size zeroMc zeroMc rfl rfl Rs.out rfl Hz.out info_man3 ?_
                       intro we hend hche hze)
          refine bodyPost_ret (results_ct rfl _ _ w.heap.size zeroMc rfl (fun j v hj => (hend.cells j v hj : _)) Try.underlying56 rfl info_man3) rfl ?_
          refine ⟨_, rfl, by rw [Hm.out]; exact MIn.empty _ _, Hback.out _ (Dk.out.chg hche hgo.out), Bl.out.trans (hche.below (B := w.heap.size) Bl.out.size (fun k hk => by omega))⟩
set_option maxRecDepth 100000 in
set_option maxHeartbeats 1600000 in
theorem mfread_few (w : World) (B : Nat) (X : Nat → Prop) (g : Nat) (d : DState) (h : DK B X w g d) (hc : d.bl.length ≤ 32) :
    Calls Try.prog 35 #[.pointer (some ⟨g, 0, none⟩)] w fun e w' => ∃ v, e = .returned (.tuple #[v, .int .i64 1]) ∧ MIn w' w.heap.size v emptyM ∧ DK B X w' g d ∧ Below w.heap.size w w' := by
  have hB := h.lt
  obtain ⟨w0, hw0⟩ : ∃ w0, w0 = w.alloc (.cells zeroMc.toArray 56) := ⟨_, rfl⟩
  have hb0 : Below w.heap.size w w0 := by rw [hw0]; exact balloc w _
  have hres0 : BoxAt 56 w0 w.heap.size zeroMc := by rw [hw0]; exact BoxAt.new_ _ _ _
  have hz0 : w0.heap.size = w.heap.size + 1 := by rw [hw0]; simp
  obtain ⟨X', hX'⟩ : ∃ X' : Nat → Prop, X' = fun k => X k ∨ w.heap.size ≤ k := ⟨_, rfl⟩
  have hdk0 : DK B X' w0 g d := by rw [hX']; exact (h.apart fun k hk => hk : DK B (fun k => X k ∨ w.heap.size ≤ k) w g d).below_ hb0
  have Hnew : Hid (∀ q, w.heap.size ≤ q → q < B ∨ X' q) := fun q hq => .inr (by rw [hX']; exact .inr hq)
  have Hback : Hid (∀ W, DK B X' W g d → DK B X W g d) := fun W hW => by rw [hX'] at hW; exact hW.apart fun k hk => .inl (.inl hk)
  have hcount := dcount_dk hdk0
  have Hcount := Lib.hid hcount
  have Hw0 := Lib.hid hw0
  have Hb0 := Lib.hid hb0
  have Hres0 := Lib.hid hres0
  have Hdk0 := Lib.hid hdk0
  have Hz : Hid (∀ u ∈ zeroMc, u.oneCell' = true) := encM_one emptyM _ rfl
  have hcd : decide ((d.bl.length : Int) ≤ 32) = true := decide_eq_true (by omega)
  clear hw0 hb0 hres0 hX' hdk0 hcount h
  go_enter Try.func35, Try.ntmps35
  go_upto_region 1 with (first
    | (refine wpList_alloc_z rfl 56 rfl info_manz zeroMc zeroM_cells ?_))
  try simp only [Act.put, List.setIfInBounds_toArray, List.set_cons_zero, List.set_cons_succ]
  rw [← Hw0.out]
  go_wp2_with fail
  refine Hcount.out.mono ?_
  rintro _ _ ⟨rfl, rfl⟩
  go_wp2_with (refine wpList_store_boxW rfl 56 56 (.tmp 2) (.tmp 14) rfl w.heap.size zeroMc zeroMc rfl rfl Hres0.out rfl Hz.out info_man3 ?_
               intro we hend hche hze)
  refine bodyPost_ret (results_ct rfl _ _ w.heap.size zeroMc rfl (fun j v hj => (hend.cells j v hj : _)) Try.underlying56 rfl info_man3) rfl ?_
  exact ⟨_, rfl, MIn.empty _ _, Hback.out _ (Hdk0.out.chg hche (fun q hq => Hnew.out q (by omega))), Hb0.out.trans (hche.below (B := w.heap.size) Hb0.out.size (fun k hk => by omega))⟩
set_option maxRecDepth 100000 in
set_option maxHeartbeats 1600000 in
theorem mfread_nil (w : World) :
    Calls Try.prog 35 #[.pointer none] w fun e w' => ∃ v, e = .returned (.tuple #[v, .int .i64 1]) ∧ MIn w' w.heap.size v emptyM ∧ Below w.heap.size w w' := by
  obtain ⟨w0, hw0⟩ : ∃ w0, w0 = w.alloc (.cells zeroMc.toArray 56) := ⟨_, rfl⟩
  have hb0 : Below w.heap.size w w0 := by rw [hw0]; exact balloc w _
  have hres0 : BoxAt 56 w0 w.heap.size zeroMc := by rw [hw0]; exact BoxAt.new_ _ _ _
  have Hcount := Lib.hid (ncount w0)
  have Hw0 := Lib.hid hw0
  have Hb0 := Lib.hid hb0
  have Hres0 := Lib.hid hres0
  have Hz : Hid (∀ u ∈ zeroMc, u.oneCell' = true) := encM_one emptyM _ rfl
  clear hw0 hb0 hres0
  go_enter Try.func35, Try.ntmps35
  go_upto_region 1 with (first
    | (refine wpList_alloc_z rfl 56 rfl info_manz zeroMc zeroM_cells ?_))
  try simp only [Act.put, List.setIfInBounds_toArray, List.set_cons_zero, List.set_cons_succ]
  rw [← Hw0.out]
  go_wp2_with fail
  refine Hcount.out.mono ?_
  rintro _ _ ⟨rfl, rfl⟩
  go_wp2_with (refine wpList_store_boxW rfl 56 56 (.tmp 2) (.tmp 14) rfl w.heap.size zeroMc zeroMc rfl rfl Hres0.out rfl Hz.out info_man3 ?_
               intro we hend hche hze)
  refine bodyPost_ret (results_ct rfl _ _ w.heap.size zeroMc rfl (fun j v hj => (hend.cells j v hj : _)) Try.underlying56 rfl info_man3) rfl ?_
  exact ⟨_, rfl, MIn.empty _ _, Hb0.out.trans (hche.below (B := w.heap.size) Hb0.out.size (fun k hk => by omega))⟩
set_option maxRecDepth 100000 in
set_option maxHeartbeats 1600000 in
theorem mfread_off (w : World) (B : Nat) (X : Nat → Prop) (g : Nat) (d : DState) (h : DK B X w g d) (hw : d.wt.length ≤ 1000000) (ho : d.off = true) (hc : 32 < d.bl.length) (hmax : d.bl.length ≤ 65536) :
    Calls Try.prog 35 #[.pointer (some ⟨g, 0, none⟩)] w fun e w' => ∃ v, e = .returned (.tuple #[v, .int .i64 6]) ∧ MIn w' w.heap.size v emptyM ∧ DK B X w' g d ∧ Below w.heap.size w w' := by
  have hB := h.lt
  obtain ⟨w0, hw0⟩ : ∃ w0, w0 = w.alloc (.cells zeroMc.toArray 56) := ⟨_, rfl⟩
  have hb0 : Below w.heap.size w w0 := by rw [hw0]; exact balloc w _
  have hres0 : BoxAt 56 w0 w.heap.size zeroMc := by rw [hw0]; exact BoxAt.new_ _ _ _
  have hz0 : w0.heap.size = w.heap.size + 1 := by rw [hw0]; simp
  obtain ⟨X', hX'⟩ : ∃ X' : Nat → Prop, X' = fun k => X k ∨ w.heap.size ≤ k := ⟨_, rfl⟩
  have hdk0 : DK B X' w0 g d := by rw [hX']; exact (h.apart fun k hk => hk : DK B (fun k => X k ∨ w.heap.size ≤ k) w g d).below_ hb0
  have Hnew : Hid (∀ q, w.heap.size ≤ q → q < B ∨ X' q) := fun q hq => .inr (by rw [hX']; exact .inr hq)
  have Hback : Hid (∀ W, DK B X' W g d → DK B X W g d) := fun W hW => by rw [hX'] at hW; exact hW.apart fun k hk => .inl (.inl hk)
  have hcount := dcount_dk hdk0
  have Hcount := Lib.hid hcount
  have Hw0 := Lib.hid hw0
  have Hb0 := Lib.hid hb0
  have Hres0 := Lib.hid hres0
  have Hdk0 := Lib.hid hdk0
  have Hz : Hid (∀ u ∈ zeroMc, u.oneCell' = true) := encM_one emptyM _ rfl
  have hcd : decide ((d.bl.length : Int) ≤ 32) = false := decide_eq_false (by omega)
  have Hw := Lib.hid hw
  have Ho := Lib.hid ho
  clear hw0 hb0 hres0 hX' hdk0 hcount h hw ho
  go_enter Try.func35, Try.ntmps35
  go_upto_region 1 with (first
    | (refine wpList_alloc_z rfl 56 rfl info_manz zeroMc zeroM_cells ?_))
  try simp only [Act.put, List.setIfInBounds_toArray, List.set_cons_zero, List.set_cons_succ]
  rw [← Hw0.out]
  go_wp2_with fail
  refine Hcount.out.mono ?_
  rintro _ _ ⟨rfl, rfl⟩
  have hb01 := balloc w0 (.cells zeroMc.toArray 56)
  go_upto_region 4 with (first
    | (refine wpList_alloc_z rfl 56 rfl info_manz zeroMc zeroM_cells ?_))
  try simp only [Act.put, List.setIfInBounds_toArray, List.set_cons_zero, List.set_cons_succ]
  obtain ⟨w1, hw1⟩ : ∃ w1, w1 = w0.alloc (.cells zeroMc.toArray 56) := ⟨_, rfl⟩
  rw [← hw1] at hb01 ⊢
  have Hb1 := Lib.hid (bstep Hb0.out hb01)
  have Hres1 := Lib.hid (Hres0.out.blwM hb01)
  have Hdk1 := Lib.hid (Hdk0.out.below_ hb01)
  clear hw1 hb01
  go_wp2_with fail
  refine wp_loop_rounds 1 ?_
  rw [rounds_succ]
  have hslot := mslot_off w1 B X' g d Hdk1.out Hw.out 0 (by decide) Ho.out
  have Hslot := Lib.hid hslot
  clear hslot
  go_wp2_with fail
  refine Hslot.out.mono ?_
  rintro _ w2 ⟨rfl, hdk2, hb2⟩
  have Hb2 := Lib.hid (bstep Hb1.out hb2)
  have Hres2 := Lib.hid (Hres1.out.blwM hb2)
  have Hdk2 := Lib.hid hdk2
  clear hdk2 hb2
  go_wp2_with (refine wpList_store_boxW rfl 56 56 (.tmp 2) (.tmp 26) rfl w.heap.size zeroMc zeroMc rfl rfl Hres2.out rfl Hz.out info_man3 ?_
               intro we hend hche hze)
  refine bodyPost_ret (results_ct rfl _ _ w.heap.size zeroMc rfl (fun j v hj => (hend.cells j v hj : _)) Try.underlying56 rfl info_man3) rfl ?_
  exact ⟨_, rfl, MIn.empty _ _, Hback.out _ (Hdk2.out.chg hche (fun q hq => Hnew.out q (by omega))), Hb2.out.trans (hche.below (B := w.heap.size) Hb2.out.size (fun k hk => by omega))⟩
end Go.Proofs.Ytpoicbhbkabllaa

namespace Go.Proofs.Ytpoicbhbkabllaa
set_option linter.unusedSimpArgs false
set_option linter.unusedVariables false
open Go.RowKit

def filtR (l : List RW) (i : Int) : List RW := l.filter (fun y => decide (y.1 ≠ i))
theorem filtR_snoc (l : List RW) (x : RW) (i : Int) : filtR (l ++ [x]) i = if x.1 = i then filtR l i else filtR l i ++ [x] := by
  unfold filtR
  rw [List.filter_append, List.filter_cons]
  by_cases h : x.1 = i
  · rw [if_pos h, if_neg (by simp [h])]; simp
  · rw [if_neg h, if_pos (by simp [h])]; simp
theorem filtR_le (l : List RW) (i : Int) : (filtR l i).length ≤ l.length := List.length_filter_le _ _
theorem info_rw : (Try.prog.info? 124).map (fun i => (i.zero, i.size, i.bytes)) = some (some (.agg #[.int .i64 0, .string ⟨#[]⟩]), 2, 24) := by kernel_rfl
theorem BoxAt.drewb {T : TypeId} {w : World} {g : Nat} {cs : List Value} (h : BoxAt T w g cs) : BoxAt T w.drew g cs := h
def zeroDc : List Value := [.int .i64 0, .bool false, .int .i64 0, .slice none 0 0, .slice none 0 0]

set_option maxRecDepth 100000 in
set_option maxHeartbeats 3200000 in
theorem rput (w : World) (O : Nat → Prop) (v : Value) (m : RD) (i : Int) (b : List UInt8) (hO : ∀ k, O k → k < w.heap.size) (hm : m.made.length ≤ 1000000) (hb : b.length = 128) (h : RDV w O v m) :
    Calls Try.prog 72 #[v, .agg #[.int .i64 i, .string (bst b)]] w fun e w' => ∃ v', e = .returned v' ∧ RDV w' (Onew O w w') v' (putRD m (i, b)) ∧ Below w.heap.size w w' := by
  obtain ⟨v1, v2, rfl, h1, h2, h3, h4⟩ := h
  obtain ⟨cn, of, fu, md, wt⟩ := m
  simp only at h1 h2 h3 h4 hm
  obtain ⟨A1, c1, rfl, hc1, hc2⟩ := h1.form
  obtain ⟨A2, c2, rfl, _⟩ := h2.form
  unfold maxLen at hc2
  have H1 := Lib.hid h1
  have H2 := Lib.hid h2
  have H3 := Lib.hid h3
  have H4 := Lib.hid h4
  have HB := Lib.hid hb
  have HO := Lib.hid hO
  clear h1 h2 h3 h4 hb hO
  -- the boxes
  obtain ⟨wa, hwa⟩ : ∃ wa, wa = w.alloc (.cells #[.int .i64 cn, .bool of, .int .i64 fu, .slice A1 md.length c1, .slice A2 wt.length c2] 42) := ⟨_, rfl⟩
  obtain ⟨wb, hwb⟩ : ∃ wb, wb = wa.alloc (.cells #[.int .i64 i, .string (bst b)] 124) := ⟨_, rfl⟩
  obtain ⟨wc, hwc⟩ : ∃ wc, wc = wb.alloc (.cells #[.int .i64 0, .bool false, .int .i64 0, .slice none 0 0, .slice none 0 0] 42) := ⟨_, rfl⟩
  obtain ⟨wd, hwd⟩ : ∃ wd, wd = wc.alloc (.cells #[] 124) := ⟨_, rfl⟩
  have za : wa.heap.size = w.heap.size + 1 := by rw [hwa]; simp
  have zb : wb.heap.size = w.heap.size + 1 + 1 := by rw [hwb]; simp [za]
  have zc : wc.heap.size = w.heap.size + 1 + 1 + 1 := by rw [hwc]; simp [zb]
  have zd : wd.heap.size = w.heap.size + 1 + 1 + 1 + 1 := by rw [hwd]; simp [zc]
  have ba := balloc w (.cells #[.int .i64 cn, .bool of, .int .i64 fu, .slice A1 md.length c1, .slice A2 wt.length c2] 42)
  have bb := balloc wa (.cells #[.int .i64 i, .string (bst b)] 124)
  have bc := balloc wb (.cells #[.int .i64 0, .bool false, .int .i64 0, .slice none 0 0, .slice none 0 0] 42)
  have bd := balloc wc (.cells #[] 124)
  have xa := BoxAt.new_ 42 w (encD ⟨cn, of, fu, md, wt⟩ (.slice A1 md.length c1) (.slice A2 wt.length c2))
  have xb := BoxAt.new_ 124 wa [.int .i64 i, .string (bst b)]
  have xc := BoxAt.new_ 42 wb zeroDc
  have xd := OwnR.new_ (E := 124) (C := cRW) (S := fun _ => False) (xs := []) wc [] rfl (Nat.zero_le _) (fun i cs x hc => by simp at hc) (fun k hk => hk.elim)
  rw [za] at xb
  rw [zb] at xc
  rw [zc] at xd
  have xa4 : BoxAt 42 wd w.heap.size (encD ⟨cn, of, fu, md, wt⟩ (.slice A1 md.length c1) (.slice A2 wt.length c2)) := by
    rw [hwd, hwc, hwb, hwa]; exact ((xa.alloc _).alloc _).alloc _
  have xb4 : BoxAt 124 wd (w.heap.size + 1) [.int .i64 i, .string (bst b)] := by
    rw [hwd, hwc, hwb]; exact (xb.alloc _).alloc _
  have xc4 : BoxAt 42 wd (w.heap.size + 1 + 1) zeroDc := by
    rw [hwd, hwc]; exact xc.alloc _
  have xd4 : OwnF 124 cRW wd (w.heap.size + 1 + 1 + 1) (.slice (some ⟨w.heap.size + 1 + 1 + 1, 0, none⟩) 0 0) [] := by
    rw [hwd]; exact xd
  rw [← hwa] at ba
  rw [← hwb] at bb
  rw [← hwc] at bc
  rw [← hwd] at bd
  have b4 : Below w.heap.size w wd := ((ba.trans (bb.mono (by omega))).trans (bc.mono (by omega))).trans (bd.mono (by omega))
  have Xa := Lib.hid xa4
  have Xb := Lib.hid xb4
  have Xc := Lib.hid xc4
  have Xd := Lib.hid xd4
  have B4 := Lib.hid b4
  have R1 := Lib.hid (H1.out.below b4 HO.out)
  have R2 := Lib.hid (H2.out.below b4 HO.out)
  have Hwa := Lib.hid hwa
  have Hwb := Lib.hid hwb
  have Hwc := Lib.hid hwc
  have Hwd := Lib.hid hwd
  have Za := Lib.hid za
  have Zb := Lib.hid zb
  have Zc := Lib.hid zc
  have Zd := Lib.hid zd
  clear xa xb xc xd xa4 xb4 xc4 xd4 b4 ba bb bc bd hwa hwb hwc hwd za zb zc zd H1 H2
  go_enter Try.func72, Try.ntmps72
  go_wp2_with fail
  rw [← Hwa.out, ← Hwb.out, ← Hwc.out, ← Hwd.out]
  generalize hg : w.heap.size = g at *
  have Hg := Lib.hid hg
  clear hg
  go_loopw [5, 6, 11] (fun ov xv iv wr => ∃ k : Nat, k ≤ md.length ∧ iv = .int .i64 k ∧ OwnF 124 cRW wr (g + 1 + 1 + 1) ov (filtR (md.take k) i) ∧ Below (g + 1 + 1 + 1) wd wr ∧ BoxAt 42 wr g (encD ⟨cn, of, fu, md, wt⟩ (.slice A1 md.length c1) (.slice A2 wt.length c2)) ∧ BoxAt 124 wr (g + 1) [.int .i64 i, .string (bst b)] ∧ BoxAt 42 wr (g + 1 + 1) zeroDc) (fun _ _ i _ => md.length - (intOf i).toNat)
  case atStart => exact ⟨0, by omega, rfl, Xd.out, Below.refl _ _, Xa.out, Xb.out, Xc.out⟩
  case round =>
    obtain ⟨k, hk, rfl, yo, yl, ya, yb, yc⟩ := hrel
    have hwz : g + 1 + 1 + 1 ≤ wr.heap.size := by have := yl.size; have := Zd.out; omega
    obtain ⟨A5, c5, rfl, q1, q2, _⟩ := yo.form'
    unfold maxLen at q2
    have Yo := Lib.hid yo
    have Yl := Lib.hid yl
    have Ya := Lib.hid ya
    have Yb := Lib.hid yb
    have Yc := Lib.hid yc
    have hr1 := R1.out.below (yl.mono (show g ≤ g + 1 + 1 + 1 by omega)) HO.out
    have hc3' := ya.cell 3 _ rfl
    clear yo yl ya yb yc
    by_cases hlt : k < md.length
    · obtain ⟨_, ad, rfl, hab, k1, k2⟩ := hr1.cells k hlt
      have hok := hr1.ok
      have htk : md.take (k + 1) = md.take k ++ [md[k]] := by rw [List.take_add_one, List.getElem?_eq_getElem hlt]; rfl
      have hfl := filtR_le (md.take k) i
      clear hr1
      have hsn := filtR_snoc (md.take k) (md[k]) i
      rw [← htk] at hsn
      generalize hx : md[k] = x at *
      obtain ⟨x1, x2⟩ := x
      simp only at k1 k2 hsn
      have hxl : x2.length = 128 := by have := hok (x1, x2) (by rw [← hx]; exact List.getElem_mem hlt); exact this
      have Hx := Lib.hid hx
      clear hx htk hok
      by_cases he : x1 = i
      · rw [if_pos he] at hsn
        have hne : (x1 != i) = false := by simp [he]
        have Hsn := Lib.hid hsn
        clear he hsn
        go_wp2_with fail
        refine wp_region_mixL (ds := [14, 15, 16, 17, 18, 19, 20, 21, 22]) 9 (fun _ _ W' => W' = wr.drew) [some 14, some 15, some 16, some 17, some 18, some 19, some 20, some 21, some 22]
          [fun v => v = .pointer (some ⟨g, 3, none⟩), fun v => v = .slice (some ad) md.length c1, fun v => v = .int .i64 (k : Int), fun v => v = .pointer (some (ad.add (k * 2))), fun v => v = .pointer (some (ad.add (k * 2))), fun v => v = .int .i64 x1, fun v => v = .pointer (some ⟨g + 1, 0, none⟩), fun v => v = .int .i64 i, fun v => v = .bool false]
          rfl rfl rfl (by kernel_rfl) (by kernel_rfl) ?_ (fun _ => rfl) ?_
        · refine ⟨?_, ?_, ?_, ?_, ?_, ?_, ?_, ?_, ?_, trivial⟩
          · -- 0: slot 14 := Op.fieldAddr 42 t2 3
            refine obM_yes fun f bb w' hj hs hd hp => ?_
            simp [PreO, factO, valOf, Region.binds] at hp
            have hj' : w' = wr.drew := hj
            subst hj'
            refine ⟨by simp [Gd, valOf, hp], ?_⟩
            refine mildM_val (.pointer (some ⟨g, 3, none⟩)) ?_ rfl rfl
            simp [execOp, evalF, hp, go_sem]
          · -- 1: slot 15 := Op.load 40 t14
            refine obM_yes fun f bb w' hj hs hd hp => ?_
            simp [PreO, factO, valOf, Region.binds] at hp
            have hj' : w' = wr.drew := hj
            subst hj'
            refine ⟨by simp [Gd, valOf, hp], ?_⟩
            have hc := Ya.out.cell 3 _ rfl
            refine mildM_val (.slice (some ad) md.length c1) ?_ rfl rfl
            simp [execOp, evalF, hp, go_sem, hc]
          · -- 2: slot 16 := Op.move t6
            refine obM_yes fun f bb w' hj hs hd hp => ?_
            simp [PreO, factO, valOf, Region.binds] at hp
            have hj' : w' = wr.drew := hj
            subst hj'
            refine ⟨by simp [Gd, valOf, hp], ?_⟩
            refine mildM_val (.int .i64 (k : Int)) ?_ rfl rfl
            simp [execOp, evalF, hp, go_sem]
          · -- 3: slot 17 := Op.indexAddr 40 t15 t16
            refine obM_yes fun f bb w' hj hs hd hp => ?_
            simp [PreO, factO, valOf, Region.binds] at hp
            have hj' : w' = wr.drew := hj
            subst hj'
            refine ⟨by simp [Gd, valOf, hp], ?_⟩
            have hkk := hlt
            refine mildM_val (.pointer (some (ad.add (k * 2)))) ?_ rfl rfl
            simp [execOp, evalF, hp, go_sem, hkk]
          · -- 4: slot 18 := Op.fieldAddr 124 t17 0
            refine obM_yes fun f bb w' hj hs hd hp => ?_
            simp [PreO, factO, valOf, Region.binds] at hp
            have hj' : w' = wr.drew := hj
            subst hj'
            refine ⟨by simp [Gd, valOf, hp], ?_⟩
            refine mildM_val (.pointer (some (ad.add (k * 2)))) ?_ rfl rfl
            simp [execOp, evalF, hp, go_sem]
          · -- 5: slot 19 := Op.load 3 t18
            refine obM_yes fun f bb w' hj hs hd hp => ?_
            simp [PreO, factO, valOf, Region.binds] at hp
            have hj' : w' = wr.drew := hj
            subst hj'
            refine ⟨by simp [Gd, valOf, hp], ?_⟩
            have hc := k1
            refine mildM_val (.int .i64 x1) ?_ rfl rfl
            simp [execOp, evalF, hp, go_sem, hc]
          · -- 6: slot 20 := Op.fieldAddr 124 t3 0
            refine obM_yes fun f bb w' hj hs hd hp => ?_
            simp [PreO, factO, valOf, Region.binds] at hp
            have hj' : w' = wr.drew := hj
            subst hj'
            refine ⟨by simp [Gd, valOf, hp], ?_⟩
            refine mildM_val (.pointer (some ⟨g + 1, 0, none⟩)) ?_ rfl rfl
            simp [execOp, evalF, hp, go_sem]
          · -- 7: slot 21 := Op.load 3 t20
            refine obM_yes fun f bb w' hj hs hd hp => ?_
            simp [PreO, factO, valOf, Region.binds] at hp
            have hj' : w' = wr.drew := hj
            subst hj'
            refine ⟨by simp [Gd, valOf, hp], ?_⟩
            have hc := Yb.out.cell 0 _ rfl
            refine mildM_val (.int .i64 i) ?_ rfl rfl
            simp [execOp, evalF, hp, go_sem, hc]
          · -- 8: slot 22 := Op.binOp BinOp.neq 3 t19 t21 3
            refine obM_yes fun f bb w' hj hs hd hp => ?_
            simp [PreO, factO, valOf, Region.binds] at hp
            have hj' : w' = wr.drew := hj
            subst hj'
            refine ⟨by simp [Gd, valOf, hp], ?_⟩
            refine mildM_val (.bool false) ?_ rfl rfl
            simp [execOp, evalF, hp, go_sem, hne]
        · intro f bb wd hall hj hp
          have hj' : wd = wr.drew := hj
          subst hj'
          clear hall hj
          simp only [PostO] at hp
          obtain ⟨e0, e1, e2, e3, e4, e5, e6, e7, e8, _⟩ := hp
          simp only [fills, List.foldl_cons, List.foldl_nil, Act.put, List.setIfInBounds_toArray, List.set_cons_zero, List.set_cons_succ, e0, e1, e2, e3, e4, e5, e6, e7, e8]
          clear e0 e1 e2 e3 e4 e5 e6 e7 e8
          simp only [List.drop_succ_cons, List.drop_zero]
          go_wp2_with fail
          go_roundw
          case rel => exact ⟨k + 1, by omega, by go_num, by rw [Hsn.out]; exact Yo.out, Yl.out.drew, Ya.out, Yb.out, Yc.out⟩
          case measure => simp [intOf]; omega
      · rw [if_neg he] at hsn
        have hne : (x1 != i) = true := by simp [he]
        have Hsn := Lib.hid hsn
        have Hk2 := Lib.hid k2
        clear he hsn
        go_wp2_with fail
        refine wp_region_mixL (ds := [14, 15, 16, 17, 18, 19, 20, 21, 22]) 9 (fun _ _ W' => W' = wr.drew) [some 14, some 15, some 16, some 17, some 18, some 19, some 20, some 21, some 22]
          [fun v => v = .pointer (some ⟨g, 3, none⟩), fun v => v = .slice (some ad) md.length c1, fun v => v = .int .i64 (k : Int), fun v => v = .pointer (some (ad.add (k * 2))), fun v => v = .pointer (some (ad.add (k * 2))), fun v => v = .int .i64 x1, fun v => v = .pointer (some ⟨g + 1, 0, none⟩), fun v => v = .int .i64 i, fun v => v = .bool true]
          rfl rfl rfl (by kernel_rfl) (by kernel_rfl) ?_ (fun _ => rfl) ?_
        · refine ⟨?_, ?_, ?_, ?_, ?_, ?_, ?_, ?_, ?_, trivial⟩
          · -- 0: slot 14 := Op.fieldAddr 42 t2 3
            refine obM_yes fun f bb w' hj hs hd hp => ?_
            simp [PreO, factO, valOf, Region.binds] at hp
            have hj' : w' = wr.drew := hj
            subst hj'
            refine ⟨by simp [Gd, valOf, hp], ?_⟩
            refine mildM_val (.pointer (some ⟨g, 3, none⟩)) ?_ rfl rfl
            simp [execOp, evalF, hp, go_sem]
          · -- 1: slot 15 := Op.load 40 t14
            refine obM_yes fun f bb w' hj hs hd hp => ?_
            simp [PreO, factO, valOf, Region.binds] at hp
            have hj' : w' = wr.drew := hj
            subst hj'
            refine ⟨by simp [Gd, valOf, hp], ?_⟩
            have hc := Ya.out.cell 3 _ rfl
            refine mildM_val (.slice (some ad) md.length c1) ?_ rfl rfl
            simp [execOp, evalF, hp, go_sem, hc]
          · -- 2: slot 16 := Op.move t6
            refine obM_yes fun f bb w' hj hs hd hp => ?_
            simp [PreO, factO, valOf, Region.binds] at hp
            have hj' : w' = wr.drew := hj
            subst hj'
            refine ⟨by simp [Gd, valOf, hp], ?_⟩
            refine mildM_val (.int .i64 (k : Int)) ?_ rfl rfl
            simp [execOp, evalF, hp, go_sem]
          · -- 3: slot 17 := Op.indexAddr 40 t15 t16
            refine obM_yes fun f bb w' hj hs hd hp => ?_
            simp [PreO, factO, valOf, Region.binds] at hp
            have hj' : w' = wr.drew := hj
            subst hj'
            refine ⟨by simp [Gd, valOf, hp], ?_⟩
            have hkk := hlt
            refine mildM_val (.pointer (some (ad.add (k * 2)))) ?_ rfl rfl
            simp [execOp, evalF, hp, go_sem, hkk]
          · -- 4: slot 18 := Op.fieldAddr 124 t17 0
            refine obM_yes fun f bb w' hj hs hd hp => ?_
            simp [PreO, factO, valOf, Region.binds] at hp
            have hj' : w' = wr.drew := hj
            subst hj'
            refine ⟨by simp [Gd, valOf, hp], ?_⟩
            refine mildM_val (.pointer (some (ad.add (k * 2)))) ?_ rfl rfl
            simp [execOp, evalF, hp, go_sem]
          · -- 5: slot 19 := Op.load 3 t18
            refine obM_yes fun f bb w' hj hs hd hp => ?_
            simp [PreO, factO, valOf, Region.binds] at hp
            have hj' : w' = wr.drew := hj
            subst hj'
            refine ⟨by simp [Gd, valOf, hp], ?_⟩
            have hc := k1
            refine mildM_val (.int .i64 x1) ?_ rfl rfl
            simp [execOp, evalF, hp, go_sem, hc]
          · -- 6: slot 20 := Op.fieldAddr 124 t3 0
            refine obM_yes fun f bb w' hj hs hd hp => ?_
            simp [PreO, factO, valOf, Region.binds] at hp
            have hj' : w' = wr.drew := hj
            subst hj'
            refine ⟨by simp [Gd, valOf, hp], ?_⟩
            refine mildM_val (.pointer (some ⟨g + 1, 0, none⟩)) ?_ rfl rfl
            simp [execOp, evalF, hp, go_sem]
          · -- 7: slot 21 := Op.load 3 t20
            refine obM_yes fun f bb w' hj hs hd hp => ?_
            simp [PreO, factO, valOf, Region.binds] at hp
            have hj' : w' = wr.drew := hj
            subst hj'
            refine ⟨by simp [Gd, valOf, hp], ?_⟩
            have hc := Yb.out.cell 0 _ rfl
            refine mildM_val (.int .i64 i) ?_ rfl rfl
            simp [execOp, evalF, hp, go_sem, hc]
          · -- 8: slot 22 := Op.binOp BinOp.neq 3 t19 t21 3
            refine obM_yes fun f bb w' hj hs hd hp => ?_
            simp [PreO, factO, valOf, Region.binds] at hp
            have hj' : w' = wr.drew := hj
            subst hj'
            refine ⟨by simp [Gd, valOf, hp], ?_⟩
            refine mildM_val (.bool true) ?_ rfl rfl
            simp [execOp, evalF, hp, go_sem, hne]
        · intro f bb wd hall hj hp
          have hj' : wd = wr.drew := hj
          subst hj'
          clear hall hj
          simp only [PostO] at hp
          obtain ⟨e0, e1, e2, e3, e4, e5, e6, e7, e8, _⟩ := hp
          simp only [fills, List.foldl_cons, List.foldl_nil, Act.put, List.setIfInBounds_toArray, List.set_cons_zero, List.set_cons_succ, e0, e1, e2, e3, e4, e5, e6, e7, e8]
          clear e0 e1 e2 e3 e4 e5 e6 e7 e8
          simp only [List.drop_succ_cons, List.drop_zero]
          have hc3 := (Ya.out.drewb).cell 3 _ rfl
          go_wp2_with (at_builtin; refine wpList_app1R (C := cRW) rfl (.tmp 23) (.tmp 29) 40 rfl Try.underlying40 info_rw rfl (by decide) (by decide) [.int .i64 x1, .string (bst x2)] (y := (x1, x2)) (Yo.out.below_ (Below.refl _ wr).drew) ⟨rfl, hxl⟩ rfl rfl (by have := filtR_le (md.take k) i; simp at this; omega) hwz ?_; intro v7 w7 o7 e7)
          have o8 := o7
          rw [← Hsn.out] at o8
          have hne1 : ∀ q, q < g + 1 + 1 + 1 → (Value.slice A5 (filtR (List.take k md) i).length c5).ownBlock ≠ some q := fun q hq e => by have := (Yo.out.blk q e).1; omega
          have b8 := Yl.out.drew.trans (e7.below (by show g + 1 + 1 + 1 ≤ wr.heap.size; omega) (fun q hq => (Yo.out.blk q hq).1))
          have y1 := (Ya.out.drewb).grown e7.gr (hne1 _ (by omega))
          have y2 := (Yb.out.drewb).grown e7.gr (hne1 _ (by omega))
          have y3 := (Yc.out.drewb).grown e7.gr (hne1 _ (by omega))
          go_roundw
          case rel => exact ⟨k + 1, by omega, by go_num, o8, b8, y1, y2, y3⟩
          case measure => simp [intOf]; omega
    · obtain rfl : k = md.length := by omega
      rw [List.take_length] at *
      have hok : ∀ x ∈ filtR md i, True := fun _ _ => trivial
      have hfl : (filtR md i).length ≤ 1000000 := by have := filtR_le md i; omega
      have hc0 := Yb.out.cell 0 _ rfl
      have hc1' := Yb.out.cell 1 _ rfl
      clear hr1 hok
      go_wp2_with (first
        | (at_builtin
           refine wpList_app1R (C := cRW) rfl (.tmp 32) (.tmp 34) 40 rfl Try.underlying40 info_rw rfl (by decide) (by decide) [.int .i64 i, .string (bst b)] (y := (i, b)) Yo.out ⟨rfl, HB.out⟩ rfl rfl (by omega) hwz ?_
           intro v7 w7 o7 e7
           have hne1 : ∀ q, q < g + 1 + 1 + 1 → (Value.slice A5 (filtR md i).length c5).ownBlock ≠ some q := fun q hq e => by have := (Yo.out.blk q e).1; omega
           have y1 := Ya.out.grown e7.gr (hne1 _ (by omega))
           have y3 := Yc.out.grown e7.gr (hne1 _ (by omega))
           have Y3 := Lib.hid y3
           have b8 := Lib.hid (Yl.out.trans (e7.below hwz (fun q hq => (Yo.out.blk q hq).1)))
           have hz7 := e7.gr.size
           obtain ⟨A7, c7, rfl, p1, p2, _⟩ := o7.form'
           rw [List.length_append, List.length_singleton] at o7 p1
           have O7 := Lib.hid o7
           have hload := (y1.put 3 (.slice A7 ((filtR md i).length + 1) c7)).cells
           have Hload := Lib.hid hload
           have hst := y3.other ⟨g, 3, none⟩ (.slice A7 ((filtR md i).length + 1) c7) (by show g ≠ g + 1 + 1; omega)
           have Hst := Lib.hid hst
           have f3 := y1.frozen 3
           have c3 := y1.cell 3 _ rfl
           clear hne1 y1 y3 e7 o7 hc0 hc1' hc3' hload hst)
        | (refine wpList_load_agg rfl 42 (.tmp 2) rfl ⟨g, 0, none⟩ rfl (encD ⟨cn, of, fu, filtR md i ++ [(i, b)], wt⟩ (.slice A7 ((filtR md i).length + 1) c7) (.slice A2 wt.length c2)) Hload.out Try.underlying42 rfl (by kernel_rfl) ?_)
        | (refine wpList_store_box rfl 42 42 (.tmp 4) (.tmp 37) rfl (g + 1 + 1) zeroDc (encD ⟨cn, of, fu, filtR md i ++ [(i, b)], wt⟩ (.slice A7 ((filtR md i).length + 1) c7) (.slice A2 wt.length c2)) rfl rfl Hst.out rfl (by simp [Value.oneCell']) (by kernel_rfl) ?_; intro hend))
      have hg0 := Hg.out
      generalize hWx : (w7.setCell ⟨g, 3, none⟩ (.slice A7 ((filtR md i).length + 1) c7)) = Wx at *
      have gx : w7.grownBy Wx (some g) := by rw [← hWx]; exact gset w7 ⟨g, 3, none⟩ _
      generalize hWy : Wx.setRow (g + 1 + 1) (encD ⟨cn, of, fu, filtR md i ++ [(i, b)], wt⟩ (.slice A7 ((filtR md i).length + 1) c7) (.slice A2 wt.length c2)).toArray = Wy at *
      have gy : Wx.grownBy Wy (some (g + 1 + 1)) := by rw [← hWy]; exact gsetRow' Wx (g + 1 + 1) _
      have gz : Below g wd Wy := ((b8.out.mono (by omega)).grown gx (by omega) (fun k e => by injection e with e; omega)).grown gy (by have := gx.size; omega) (fun k e => by injection e with e; omega)
      have hob : ∀ q, (Value.slice A7 ((filtR md i).length + 1) c7).ownBlock = some q → g + 1 + 1 + 1 ≤ q := fun q hq => (O7.out.blk q hq).1
      have k1 := (O7.out.keep gx (by
        cases hv : (Value.slice A7 ((filtR md i).length + 1) c7).ownBlock with
        | none => exact .inl rfl
        | some q => exact .inr (fun e => by have := hob q hv; injection e with e; omega)) (fun k hk => hk.elim)).keep gy (by
        cases hv : (Value.slice A7 ((filtR md i).length + 1) c7).ownBlock with
        | none => exact .inl rfl
        | some q => exact .inr (fun e => by have := hob q hv; injection e with e; omega)) (fun k hk => hk.elim)
      have hOg : ∀ k, O k → k < g := HO.out
      have k2 : ByR Wy (Onew O w Wy) (.slice A7 ((filtR md i).length + 1) c7) (filtR md i ++ [(i, b)]) := k1.row.mono (fun q hq => .inr ⟨by rw [hg0]; omega, hq.2⟩) (fun _ h => h.elim)
      have k3 := (R2.out.below gz hOg).more (O' := Onew O w Wy) (fun k hk => .inl hk)
      refine bodyPost_ret (results_c rfl _ _ (g + 1 + 1) (encD ⟨cn, of, fu, filtR md i ++ [(i, b)], wt⟩ (.slice A7 ((filtR md i).length + 1) c7) (.slice A2 wt.length c2)) rfl (fun j v hj => (hend.cells j v hj : _)) Try.underlying42 rfl (by kernel_rfl)) rfl ?_
      refine ⟨_, rfl, RDV.mk' (m := ⟨cn, of, fu, filtR md i ++ [(i, b)], wt⟩) k2 k3 H3.out H4.out, ?_⟩
      rw [hg0]
      exact B4.out.trans gz
end Go.Proofs.Ytpoicbhbkabllaa

namespace Go.Proofs.Ytpoicbhbkabllaa
set_option linter.unusedSimpArgs false
set_option linter.unusedVariables false
open Go.RowKit

def rslotK (m : RD) (n k : Nat) : List UInt8 := (List.range k).flatMap fun i => readRL m ((n * 16 + i : Nat) : Int)
def rslotL (m : RD) (n : Nat) : List UInt8 := rslotK m n 16
theorem rslotK_succ (m : RD) (n k : Nat) : rslotK m n (k + 1) = rslotK m n k ++ readRL m ((n * 16 + k : Nat) : Int) := by
  unfold rslotK
  rw [List.range_succ, List.flatMap_append]
  simp
theorem rslotK_len (m : RD) (h : ∀ i, (readRL m i).length ≤ 128) (n k : Nat) : (rslotK m n k).length ≤ k * 128 := by
  induction k with
  | zero => simp [rslotK]
  | succ k ih =>
    rw [rslotK_succ, List.length_append]
    have := h ((n * 16 + k : Nat) : Int)
    omega
theorem info_rD5 : (Try.prog.info? 42).map (·.size) = some 5 := by kernel_rfl
set_option maxRecDepth 100000 in
set_option maxHeartbeats 1600000 in
theorem rslot_any (w : World) (O : Nat → Prop) (v : Value) (m : RD) (n : Nat) (hn : n < 2) (hO : ∀ k, O k → k < w.heap.size) (hl : m.made.length ≤ 1000000) (hl2 : m.wait.length ≤ 1000000) (h : RDV w O v m) (h128 : ∀ i, (readRL m i).length ≤ 128) :
    Calls Try.prog 39 #[v, .int .i64 n] w fun e w' => ∃ v', e = .returned v' ∧ Ow w' w.heap.size v' (rslotL m n) ∧ Below w.heap.size w w' := by
  have Hv := Lib.hid h
  obtain ⟨v1, v2, rfl, h1, h2, h3, h4⟩ := h
  obtain ⟨w0, hw0⟩ : ∃ w0, w0 = w.alloc (.cells [Value.int .i64 m.count, .bool m.off, .int .i64 m.fuse, v1, v2].toArray 42) := ⟨_, rfl⟩
  have hb0 : Below w.heap.size w w0 := by rw [hw0]; exact balloc w _
  have hx0 : BoxAt 42 w0 w.heap.size [Value.int .i64 m.count, .bool m.off, .int .i64 m.fuse, v1, v2] := by rw [hw0]; exact BoxAt.new_ _ _ _
  have hz0 : w0.heap.size = w.heap.size + 1 := by rw [hw0]; simp
  have hw0' : w0 = w.alloc (.cells #[Value.int .i64 m.count, .bool m.off, .int .i64 m.fuse, v1, v2] 42) := hw0
  have Hw0 := Lib.hid hw0'
  have Hb0 := Lib.hid hb0
  have Hx0 := Lib.hid hx0
  have HO := Lib.hid hO
  have H128 := Lib.hid h128
  clear hw0 hw0' hb0 hx0 h1 h2 h3 h4 hO h128
  go_enter Try.func39, Try.ntmps39
  go_upto_region 1 with (fail)
  rw [← Hw0.out]
  have hwz : Ow (w0.alloc (.cells #[] 5)) w.heap.size (.slice (some ⟨w.heap.size + 1, 0, none⟩) 0 0) (rslotK m n 0) := by
    rw [← hz0]
    exact (Ow.new_ w0 [] (Nat.zero_le _)).mono (by omega)
  have Hwz := Lib.hid hwz
  have hbz : Below w.heap.size w (w0.alloc (.cells #[] 5)) := bstep Hb0.out (balloc _ _)
  have hxz := Hx0.out.alloc (.cells #[] 5)
  have Hbz := Lib.hid hbz
  have Hxz := Lib.hid hxz
  clear hwz hbz hxz
  go_wp2_with fail
  go_loopw [5, 6] (fun ov iv wr => ∃ k : Nat, k ≤ 16 ∧ iv = .int .i64 k ∧ Ow wr w.heap.size ov (rslotK m n k) ∧ Below w.heap.size w wr ∧ BoxAt 42 wr w.heap.size [Value.int .i64 m.count, .bool m.off, .int .i64 m.fuse, v1, v2] ∧ ov.ownBlock ≠ some w.heap.size) (fun _ i _ => 16 - (intOf i).toNat)
  case atStart => exact ⟨0, by omega, rfl, Hwz.out, Hbz.out, Hxz.out, by simp [Value.ownBlock]⟩
  case round =>
    obtain ⟨k, hk, rfl, how, hbr, hxr, hne⟩ := hrel
    obtain ⟨A1, c1, hv1, _, _, _⟩ := how.form_
    subst hv1
    have hsr := hbr.size
    have hln := rslotK_len m H128.out n k
    have hsu := rslotK_succ m n k
    have How := Lib.hid how
    have Hbr := Lib.hid hbr
    have hlt0 := hxr.lt
    have Hxr := Lib.hid hxr
    have Hne := Lib.hid hne
    clear how hbr hxr hne
    by_cases hlt : k < 16
    · have hr := rread wr O _ m ((n * 16 + k : Nat) : Int) (fun q hq => by have := HO.out q hq; omega) hl hl2 (Hv.out.below Hbr.out HO.out)
      have hle := H128.out ((n * 16 + k : Nat) : Int)
      have hcast : ((n * 16 + k : Nat) : Int) = 16 * (n : Int) + (k : Int) := by omega
      rw [hcast] at hr hsu hle
      have Hr := Lib.hid hr
      have Hsu := Lib.hid hsu
      generalize readRL m (16 * (n : Int) + (k : Int)) = rl at *
      generalize readRE m (16 * (n : Int) + (k : Int)) = re at *
      clear hr hsu hcast
      go_wp2_with (refine wpList_load_agg rfl 42 (.tmp 2) rfl ⟨w.heap.size, 0, none⟩ rfl [Value.int .i64 m.count, .bool m.off, .int .i64 m.fuse, v1, v2] Hxr.out.cells Try.underlying42 rfl info_rD5 ?_)
      refine Hr.out.mono ?_
      rintro _ w1 ⟨rfl, hb1⟩
      have How1 := Lib.hid (How.out.below_ hb1)
      have Hb1 := Lib.hid (Hbr.out.trans (hb1.mono hsr))
      have Hx1 := Lib.hid (Hxr.out.blwM hb1)
      have hs1 := hb1.size
      clear hb1 How Hbr Hxr
      go_wp2_with (first
        | (refine wpList_conv_sb rfl (.tmp 24) rfl rl rfl (by omega) ?_
           intro cc w2 hsb
           have Hby2 := Lib.hid hsb.by_
           have How2 := Lib.hid (How1.out.below_ hsb.below)
           have Hb2 := Lib.hid (Hb1.out.trans (hsb.below.mono (by omega)))
           have Hx2 := Lib.hid (Hx1.out.blwM hsb.below)
           have hs2 := hsb.below.size
           clear hsb)
        | (at_builtin
           refine wpList_app8 rfl (.tmp 23) (.tmp 25) rfl How2.out Hby2.out rfl rfl (by omega) (by omega) ?_
           intro v3 w3 ho3 hx3
           have Ho3 := Lib.hid ho3
           have Hx3 := Lib.hid hx3
           clear ho3 hx3))
      go_roundw
      case rel =>
        refine ⟨k + 1, by omega, by go_num, by rw [Hsu.out]; exact Ho3.out, Hb2.out.trans (Hx3.out.below (by omega) (fun q hq => (How2.out.blk q hq).1)), Hx2.out.grown Hx3.out.gr Hne.out, Hx3.out.neM (by omega) Hne.out⟩
      case measure => simp [intOf]; omega
    · obtain rfl : k = 16 := by omega
      go_wp2_with fail
      go_ret
      exact ⟨_, rfl, How.out, Hbr.out⟩
end Go.Proofs.Ytpoicbhbkabllaa
