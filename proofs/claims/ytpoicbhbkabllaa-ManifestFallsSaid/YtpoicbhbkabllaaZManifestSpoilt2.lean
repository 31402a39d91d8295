/- Lemmas for the law ManifestSpoilt: (*disk.Disk).Back (printed by wip/gen/dback.py); (*disk.Disk).Spoil, disk.New (printed by wip/gen/dspoil.py); What a round keeps; whole things loaded, stored and made within a fence.; slices.Chunk over bytes, 128 at a time: the parts from the front on; slices.Backward over writes that wait: an iterator from the last one on; (*disk.Disk).Read (printed by wip/gen/dread.py); A nil disk.; A disk that the caller has made: each deed, told by what it leaves alone.; A disk's deeds while a loop over a function runs; slices.Chunk over 2048 bytes, 128 at a time, that may be stopped; Manifests: how one lies in memory; what came in.; page.Many and the document's Many are one function of the size. No condition.; Numbers as bytes (varint), plainly.; varint.Put and the reference's Num append, and make, a number's bytes; varint.Reader: each method's step; varint.Reader.Num; the reference's Num of a reader; a reader's bytes; the document's numbers as bytes; its reader's bytes and end; Manifests, in plain: their bytes; which may be.; palmerref09: among, Great (printed by wip/gen/man1.py); []byte(s): a conversion of a string to bytes.; palmerref09.Body and manifest.body: a manifest's bytes (printed by wip/gen/manw.py). No condition. -/
import Derived.Test.YtpoicbhbkabllaaZManifestSpoilt1
import Derived.RangeFuncNested
import Derived.RangeFuncBound
import Derived.RangeFuncCalls
import Derived.RangeFuncLeaves
import Derived.RangeFuncBox
import Derived.Shelf.Abstract
import Derived.Shelf.RegionOpen
import Derived.WalkKit
import Derived.OwnWalkIn
import Derived.TacticsInMore
import Derived.LoopNIn
import Derived.LoopIn
import Derived.Deep.WholeRow
import Derived.Deep.MidRow
import Derived.BigRegionIn
import Derived.StillTailTactics
import Derived.Outline
import Derived.Lib.BitFns
import Derived.RegionTactic
import Derived.ChangeAlike
import Derived.Deep.Cut
import Derived.Lib.ConvBytes
namespace Go.Proofs.Ytpoicbhbkabllaa
set_option linter.unusedSimpArgs false
set_option linter.unusedVariables false
open Go.RowKit

theorem and_bit (n j : Nat) : ((n &&& 2 ^ j) != 0) = n.testBit j := by
  cases h : n.testBit j with
  | true =>
    rw [bne_iff_ne]
    intro e
    have h2 : (n &&& 2 ^ j).testBit j = true := by rw [Nat.testBit_and, h, Nat.testBit_two_pow_self]; rfl
    rw [e] at h2
    simp at h2
  | false =>
    have e : n &&& 2 ^ j = 0 := by
      apply Nat.eq_of_testBit_eq
      intro i
      rw [Nat.testBit_and, Nat.testBit_two_pow, Nat.zero_testBit]
      by_cases hij : j = i
      · subst hij; rw [h]; rfl
      · simp [hij]
    rw [e]; rfl
theorem bit_test (n k : Nat) (hn : n < 18446744073709551616) : (bits .and .u64 (n : Int) (IntKind.u64.wrap (2 ^ (k % 64))) != 0) = bitAt n k := by
  have hp : 2 ^ (k % 64) < 18446744073709551616 := by
    have : 2 ^ (k % 64) ≤ 2 ^ 63 := Nat.pow_le_pow_right (by decide) (by omega)
    have h2 : (2 : Nat) ^ 63 = 9223372036854775808 := by decide
    omega
  have e : IntKind.u64.wrap ((2 : Int) ^ (k % 64)) = ((2 ^ (k % 64) : Nat) : Int) := by
    have : (2 : Int) ^ (k % 64) = ((2 ^ (k % 64) : Nat) : Int) := by simp
    rw [this, wrap_u64]
    clear this
    generalize 2 ^ (k % 64) = p at *
    omega
  rw [e, u64_and_nat _ _ hn hp]
  unfold bitAt
  rw [← and_bit]
  generalize n &&& 2 ^ (k % 64) = m
  cases m with
  | zero => rfl
  | succ m => rfl

set_option maxRecDepth 100000 in
set_option maxHeartbeats 3200000 in
theorem dback_any (w : World) (S : Nat → Prop) (g : Nat) (d : DState) (keep torn : Nat) (hkp : keep < 18446744073709551616) (htn : torn < 18446744073709551616) (hw : d.wt.length ≤ 1000000) (h : DiskAt w S g d) :
    Calls Try.prog 19 #[.pointer (some ⟨g, 0, none⟩), .int .u64 (keep : Int), .int .u64 (torn : Int)] w fun e w' => e = .returned (.tuple #[]) ∧ DPost w S g (backD d keep torn) w' := by
  have H3 := Lib.hid h
  obtain ⟨hb, vw, h1, h2, h3, h4, h5, h6⟩ := h.ex
  obtain ⟨A, c, rfl, hc1, hc2, _⟩ := h3.form'
  unfold maxLen at hc2
  have hc0 := h1.cell 1 _ rfl
  have H1 := Lib.hid h1
  have H5 := Lib.hid h5
  have H6 := Lib.hid h6
  have hwts := H3.out.wts
  have hfew := H3.out.few
  have Hwts := Lib.hid hwts
  clear h h5 h6 hwts
  go_enter Try.func19, Try.ntmps19
  go_wp2_with fail
  go_loopw [16] (fun i wr => ∃ k : Nat, k ≤ d.wt.length ∧ i = .int .i64 k ∧ BoxAt 86 wr hb (flatB (backBl keep torn 0 (d.wt.take k) d.bl)) ∧ Chg (fun q => q = hb) w wr) (fun i _ => d.wt.length - (intOf i).toNat)
  case atStart => exact ⟨0, by omega, rfl, h2, Chg.refl _ _⟩
  case round =>
    obtain ⟨k, hk, rfl, hbb, hcg⟩ := hrel
    have h1r := h1.chg hcg (fun e => h4 e.symm)
    by_cases hlt : k < d.wt.length
    · have h3r : OwnF 88 cWt wr 0 (.slice A d.wt.length c) d.wt := h3.kept fun q hq => hcg.block q (h3.blk q hq).2 (H6.out q hq).2.1
      obtain ⟨ad, rfl, hld⟩ := wt_load h3r.row k hlt
      have hx1 := Hwts.out _ (List.getElem_mem hlt)
      have hsn := backBl_snoc keep torn (d.wt.take k) (d.wt[k]) 0 d.bl
      have htk : d.wt.take (k + 1) = d.wt.take k ++ [d.wt[k]] := by rw [List.take_add_one, List.getElem?_eq_getElem hlt]; rfl
      have hlk : (d.wt.take k).length = k := by rw [List.length_take]; omega
      rw [← htk, hlk, Nat.zero_add] at hsn
      have hsl := backBl_len keep torn (d.wt.take k) 0 d.bl
      have Hsn := Lib.hid hsn
      have Hcg := Lib.hid hcg
      clear hsn htk hcg h3r hlk
      generalize backBl keep torn 0 (d.wt.take k) d.bl = bl at *
      generalize d.wt[k] = x at *
      have Hld := Lib.hid hld
      clear hld
      have hbx : BoxAt 88 (wr.alloc (.cells (encW x).toArray 88)) wr.heap.size (encW x) := BoxAt.new_ _ _ _
      have hld8 := encW_at hbx
      have h18 := h1r.alloc (.cells (encW x).toArray 88)
      have hbb8 := hbb.alloc (.cells (encW x).toArray 88)
      have hcg8 := (Hcg.out.trans (Chg.ofBelow (balloc wr (.cells (encW x).toArray 88)))).drew_
      have hxn : x.1 < d.bl.length := hx1
      have hxn2 : (x.1 : Int).toNat = x.1 := rfl
      have htk := bit_test keep k hkp
      have htt := bit_test torn k htn
      have Hbx := Lib.hid hbx
      have Hld8 := Lib.hid hld8
      have H18 := Lib.hid h18
      have Hbb8 := Lib.hid hbb8
      have Hcg8 := Lib.hid hcg8
      clear hbx hld8 h18 hbb8 hcg8
      unfold backStep at Hsn
      cases hbk : bitAt keep k with
      | true =>
        rw [hbk] at htk Hsn
        rw [if_pos rfl] at Hsn
        clear htt hbk
        · go_wp2_with (first
            | (refine wpList_load_agg rfl 88 (.tmp 19) rfl (ad.add (k * 129)) rfl (encW x) Hld.out Try.underlying88 rfl (by rw [encW_len]; kernel_rfl) ?_)
            | (refine wpList_alloc_z rfl 88 rfl info_write zeroWc zeroW_cells ?_)
            | (refine wpList_store_new rfl 88 (.tmp 7) (.tmp 20) rfl zeroWc (encW x) rfl rfl (by rw [encW_len]; kernel_rfl) (by rw [encW_len]; rfl) (encW_one x) ?_))
          have hbx := Hbx.out
          have hld8 := Hld8.out
          have h18 := H18.out
          have hbb8 := Hbb8.out
          have hcg8 := Hcg8.out
          generalize wr.alloc (.cells (encW x).toArray 88) = w8 at *
          generalize hnb : d.bl.length = nb at *
          have Hnb := Lib.hid hnb
          clear hnb Hbx Hld8 H18 Hbb8 Hcg8
          generalize wr.heap.size = gb at *
          try simp only [Act.put, List.setIfInBounds_toArray, List.set_cons_zero, List.set_cons_succ]
          refine wp_region_mixL (ds := [29, 30, 31, 32, 33, 34, 35, 36, 37]) 9 (fun _ _ W' => W' = w8.drew) [some 29, some 30, some 31, some 32, some 33, some 34, some 35, some 36, some 37]
            [fun v => v = .pointer (some ⟨g, 0, none⟩), fun v => v = .pointer (some ⟨g, 0, none⟩), fun v => v = .pointer (some ⟨g, 0, none⟩), fun v => v = .slice (some ⟨hb, 0, none⟩) nb nb, fun v => v = .pointer (some ⟨gb, 0, none⟩), fun v => v = .int .i64 (x.1 : Int), fun v => v = .pointer (some ⟨gb, 1, none⟩), fun v => v = .agg (b8s x.2.1).toArray, fun v => v = .pointer (some ⟨hb, x.1 * 128, none⟩)]
            rfl rfl rfl (by kernel_rfl) (by kernel_rfl) ?_ (fun _ => rfl) ?_
          · refine ⟨?_, ?_, ?_, ?_, ?_, ?_, ?_, ?_, ?_, trivial⟩
            · -- 0: slot 29 := Op.move t0
              refine obM_yes fun f bb w' hj hs hd hp => ?_
              simp [PreO, factO, valOf, Region.binds] at hp
              have hj' : w' = w8.drew := hj
              subst hj'
              refine ⟨by simp [Gd, valOf, hp], ?_⟩
              refine mildM_val (.pointer (some ⟨g, 0, none⟩)) ?_ rfl rfl
              simp [execOp, evalF, hp, go_sem]
            · -- 1: slot 30 := Op.nilCheck t29
              refine obM_yes fun f bb w' hj hs hd hp => ?_
              simp [PreO, factO, valOf, Region.binds] at hp
              have hj' : w' = w8.drew := hj
              subst hj'
              refine ⟨by simp [Gd, valOf, hp], ?_⟩
              refine mildM_val (.pointer (some ⟨g, 0, none⟩)) ?_ rfl rfl
              simp [execOp, evalF, hp, go_sem]
            · -- 2: slot 31 := Op.fieldAddr 133 t30 0
              refine obM_yes fun f bb w' hj hs hd hp => ?_
              simp [PreO, factO, valOf, Region.binds] at hp
              have hj' : w' = w8.drew := hj
              subst hj'
              refine ⟨by simp [Gd, valOf, hp], ?_⟩
              refine mildM_val (.pointer (some ⟨g, 0, none⟩)) ?_ rfl rfl
              simp [execOp, evalF, hp, go_sem]
            · -- 3: slot 32 := Op.load 130 t31
              refine obM_yes fun f bb w' hj hs hd hp => ?_
              simp [PreO, factO, valOf, Region.binds] at hp
              have hj' : w' = w8.drew := hj
              subst hj'
              refine ⟨by simp [Gd, valOf, hp], ?_⟩
              have hc := h18.cell 0 _ rfl
              refine mildM_val (.slice (some ⟨hb, 0, none⟩) nb nb) ?_ rfl rfl
              simp [execOp, evalF, hp, go_sem, hc]
            · -- 4: slot 33 := Op.fieldAddr 137 t7 0
              refine obM_yes fun f bb w' hj hs hd hp => ?_
              simp [PreO, factO, valOf, Region.binds] at hp
              have hj' : w' = w8.drew := hj
              subst hj'
              refine ⟨by simp [Gd, valOf, hp], ?_⟩
              refine mildM_val (.pointer (some ⟨gb, 0, none⟩)) ?_ rfl rfl
              simp [execOp, evalF, hp, go_sem]
            · -- 5: slot 34 := Op.load 3 t33
              refine obM_yes fun f bb w' hj hs hd hp => ?_
              simp [PreO, factO, valOf, Region.binds] at hp
              have hj' : w' = w8.drew := hj
              subst hj'
              refine ⟨by simp [Gd, valOf, hp], ?_⟩
              have hc := hbx.cell 0 _ rfl
              refine mildM_val (.int .i64 (x.1 : Int)) ?_ rfl rfl
              simp [execOp, evalF, hp, go_sem, hc]
            · -- 6: slot 35 := Op.fieldAddr 137 t7 1
              refine obM_yes fun f bb w' hj hs hd hp => ?_
              simp [PreO, factO, valOf, Region.binds] at hp
              have hj' : w' = w8.drew := hj
              subst hj'
              refine ⟨by simp [Gd, valOf, hp], ?_⟩
              refine mildM_val (.pointer (some ⟨gb, 1, none⟩)) ?_ rfl rfl
              simp [execOp, evalF, hp, go_sem]
            · -- 7: slot 36 := Op.load 135 t35
              refine obM_yes fun f bb w' hj hs hd hp => ?_
              simp [PreO, factO, valOf, Region.binds] at hp
              have hj' : w' = w8.drew := hj
              subst hj'
              refine ⟨by simp [Gd, valOf, hp], ?_⟩
              have hl := run_loadVar_cells w8.drew ⟨gb, 1, none⟩ 86 (b8s x.2.1) hld8 Try.underlying86 rfl (by rw [blk_len]; kernel_rfl)
              refine mildM_val (.agg (b8s x.2.1).toArray) ?_ rfl rfl
              simp only [execOp, evalF, List.contains_eq_mem, Instr.loadAt, Instr.sureAddr, Sem.run_bind, Sem.run_pure, Result.andThen_ok]
              simp [hp, hl]
            · -- 8: slot 37 := Op.indexAddr 130 t32 t34
              refine obM_yes fun f bb w' hj hs hd hp => ?_
              simp [PreO, factO, valOf, Region.binds] at hp
              have hj' : w' = w8.drew := hj
              subst hj'
              refine ⟨by simp [Gd, valOf, hp], ?_⟩
              refine mildM_val (.pointer (some ⟨hb, x.1 * 128, none⟩)) ?_ rfl rfl
              simp [execOp, evalF, hp, go_sem, hxn, hxn2]
          · intro f bb wd hall hj hp
            have hj' : wd = w8.drew := hj
            subst hj'
            clear hall hj
            simp only [PostO] at hp
            obtain ⟨e0, e1, e2, e3, e4, e5, e6, e7, e8, _⟩ := hp
            simp only [fills, List.foldl_cons, List.foldl_nil, Act.put, List.setIfInBounds_toArray, List.set_cons_zero, List.set_cons_succ, e0, e1, e2, e3, e4, e5, e6, e7, e8]
            clear e0 e1 e2 e3 e4 e5 e6 e7 e8
            simp only [List.drop_succ_cons, List.drop_zero]
            have hbd : BoxAt 86 w8.drew hb (flatB bl) := hbb8
            refine wpList_store_mid rfl 86 (.tmp 37) (.tmp 36) rfl hb (x.1 * 128) (b8s x.2.1).toArray rfl rfl (by have := flatB_there hbd x.1 0 128 (by omega) (by omega); simpa [blk_len] using this) (by simp only [List.size_toArray, blk_len]; kernel_rfl) (all_oneCell_toArray (b8s_one _)) ?_
            simp only [List.toList_toArray]
            have hfin := hbd.setCells_ (b8s x.2.1) (x.1 * 128)
            have hcf := hcg8.trans (Chg.ofGrown (P := fun q => q = hb) (gsetCells hb (b8s x.2.1) w8.drew (x.1 * 128)) fun q e => by injection e with e; exact e.symm)
            have hps := flatB_puts bl x.1 0 x.2.1 (by omega) (by rw [x.2.2]; decide)
            rw [Nat.add_zero] at hps
            rw [hps, over_all, ← Hsn.out] at hfin
            generalize w8.drew.setCells hb (x.1 * 128) (b8s x.2.1) = w9 at *
            clear hps hbd
            go_wp2_with fail
            go_roundw
            case rel => exact ⟨k + 1, by omega, by go_num, hfin, hcf⟩
            case measure => simp [intOf]; omega
      | false =>
        rw [hbk] at htk Hsn
        rw [if_neg (by simp)] at Hsn
        cases hbt : bitAt torn k with
        | true =>
          rw [hbt] at htt Hsn
          rw [if_pos rfl] at Hsn
          clear hbk hbt
          go_wp2_with (first
            | (refine wpList_load_agg rfl 88 (.tmp 19) rfl (ad.add (k * 129)) rfl (encW x) Hld.out Try.underlying88 rfl (by rw [encW_len]; kernel_rfl) ?_)
            | (refine wpList_alloc_z rfl 88 rfl info_write zeroWc zeroW_cells ?_)
            | (refine wpList_store_new rfl 88 (.tmp 7) (.tmp 20) rfl zeroWc (encW x) rfl rfl (by rw [encW_len]; kernel_rfl) (by rw [encW_len]; rfl) (encW_one x) ?_))
          have hbx := Hbx.out
          have hld8 := Hld8.out
          have h18 := H18.out
          have hbb8 := Hbb8.out
          have hcg8 := Hcg8.out
          generalize wr.alloc (.cells (encW x).toArray 88) = w8 at *
          generalize hnb : d.bl.length = nb at *
          have Hnb := Lib.hid hnb
          clear hnb Hbx Hld8 H18 Hbb8 Hcg8
          generalize wr.heap.size = gb at *
          try simp only [Act.put, List.setIfInBounds_toArray, List.set_cons_zero, List.set_cons_succ]
          refine wp_region_mixL (ds := [43, 44, 45, 46, 47, 48, 49, 50, 51, 52]) 10 (fun _ _ W' => W' = w8.drew) [some 43, some 44, some 45, some 46, some 47, some 48, some 49, some 50, some 51, some 52]
            [fun v => v = .pointer (some ⟨g, 0, none⟩), fun v => v = .pointer (some ⟨g, 0, none⟩), fun v => v = .pointer (some ⟨g, 0, none⟩), fun v => v = .slice (some ⟨hb, 0, none⟩) nb nb, fun v => v = .pointer (some ⟨gb, 0, none⟩), fun v => v = .int .i64 (x.1 : Int), fun v => v = .pointer (some ⟨hb, x.1 * 128, none⟩), fun v => v = .slice (some ⟨hb, x.1 * 128, none⟩) 64 128, fun v => v = .pointer (some ⟨gb, 1, none⟩), fun v => v = .slice (some ⟨gb, 1, none⟩) 64 128]
            rfl rfl rfl (by kernel_rfl) (by kernel_rfl) ?_ (fun _ => rfl) ?_
          · refine ⟨?_, ?_, ?_, ?_, ?_, ?_, ?_, ?_, ?_, ?_, trivial⟩
            · -- 0: slot 43 := Op.move t0
              refine obM_yes fun f bb w' hj hs hd hp => ?_
              simp [PreO, factO, valOf, Region.binds] at hp
              have hj' : w' = w8.drew := hj
              subst hj'
              refine ⟨by simp [Gd, valOf, hp], ?_⟩
              refine mildM_val (.pointer (some ⟨g, 0, none⟩)) ?_ rfl rfl
              simp [execOp, evalF, hp, go_sem]
            · -- 1: slot 44 := Op.nilCheck t43
              refine obM_yes fun f bb w' hj hs hd hp => ?_
              simp [PreO, factO, valOf, Region.binds] at hp
              have hj' : w' = w8.drew := hj
              subst hj'
              refine ⟨by simp [Gd, valOf, hp], ?_⟩
              refine mildM_val (.pointer (some ⟨g, 0, none⟩)) ?_ rfl rfl
              simp [execOp, evalF, hp, go_sem]
            · -- 2: slot 45 := Op.fieldAddr 133 t44 0
              refine obM_yes fun f bb w' hj hs hd hp => ?_
              simp [PreO, factO, valOf, Region.binds] at hp
              have hj' : w' = w8.drew := hj
              subst hj'
              refine ⟨by simp [Gd, valOf, hp], ?_⟩
              refine mildM_val (.pointer (some ⟨g, 0, none⟩)) ?_ rfl rfl
              simp [execOp, evalF, hp, go_sem]
            · -- 3: slot 46 := Op.load 130 t45
              refine obM_yes fun f bb w' hj hs hd hp => ?_
              simp [PreO, factO, valOf, Region.binds] at hp
              have hj' : w' = w8.drew := hj
              subst hj'
              refine ⟨by simp [Gd, valOf, hp], ?_⟩
              have hc := h18.cell 0 _ rfl
              refine mildM_val (.slice (some ⟨hb, 0, none⟩) nb nb) ?_ rfl rfl
              simp [execOp, evalF, hp, go_sem, hc]
            · -- 4: slot 47 := Op.fieldAddr 137 t7 0
              refine obM_yes fun f bb w' hj hs hd hp => ?_
              simp [PreO, factO, valOf, Region.binds] at hp
              have hj' : w' = w8.drew := hj
              subst hj'
              refine ⟨by simp [Gd, valOf, hp], ?_⟩
              refine mildM_val (.pointer (some ⟨gb, 0, none⟩)) ?_ rfl rfl
              simp [execOp, evalF, hp, go_sem]
            · -- 5: slot 48 := Op.load 3 t47
              refine obM_yes fun f bb w' hj hs hd hp => ?_
              simp [PreO, factO, valOf, Region.binds] at hp
              have hj' : w' = w8.drew := hj
              subst hj'
              refine ⟨by simp [Gd, valOf, hp], ?_⟩
              have hc := hbx.cell 0 _ rfl
              refine mildM_val (.int .i64 (x.1 : Int)) ?_ rfl rfl
              simp [execOp, evalF, hp, go_sem, hc]
            · -- 6: slot 49 := Op.indexAddr 130 t46 t48
              refine obM_yes fun f bb w' hj hs hd hp => ?_
              simp [PreO, factO, valOf, Region.binds] at hp
              have hj' : w' = w8.drew := hj
              subst hj'
              refine ⟨by simp [Gd, valOf, hp], ?_⟩
              refine mildM_val (.pointer (some ⟨hb, x.1 * 128, none⟩)) ?_ rfl rfl
              simp [execOp, evalF, hp, go_sem, hxn, hxn2]
            · -- 7: slot 50 := Op.slice 135 t49 none (some (const (64:i64))) none
              refine obM_yes fun f bb w' hj hs hd hp => ?_
              simp [PreO, factO, valOf, Region.binds] at hp
              have hj' : w' = w8.drew := hj
              subst hj'
              refine ⟨by simp [Gd, valOf, hp], ?_⟩
              refine mildM_val (.slice (some ⟨hb, x.1 * 128, none⟩) 64 128) ?_ rfl rfl
              simp [execOp, evalF, hp, go_sem, Try.underlying86]
            · -- 8: slot 51 := Op.fieldAddr 137 t7 1
              refine obM_yes fun f bb w' hj hs hd hp => ?_
              simp [PreO, factO, valOf, Region.binds] at hp
              have hj' : w' = w8.drew := hj
              subst hj'
              refine ⟨by simp [Gd, valOf, hp], ?_⟩
              refine mildM_val (.pointer (some ⟨gb, 1, none⟩)) ?_ rfl rfl
              simp [execOp, evalF, hp, go_sem]
            · -- 9: slot 52 := Op.slice 135 t51 none (some (const (64:i64))) none
              refine obM_yes fun f bb w' hj hs hd hp => ?_
              simp [PreO, factO, valOf, Region.binds] at hp
              have hj' : w' = w8.drew := hj
              subst hj'
              refine ⟨by simp [Gd, valOf, hp], ?_⟩
              refine mildM_val (.slice (some ⟨gb, 1, none⟩) 64 128) ?_ rfl rfl
              simp [execOp, evalF, hp, go_sem, Try.underlying86]
          · intro f bb wd hall hj hp
            have hj' : wd = w8.drew := hj
            subst hj'
            clear hall hj
            simp only [PostO] at hp
            obtain ⟨e0, e1, e2, e3, e4, e5, e6, e7, e8, e9, _⟩ := hp
            simp only [fills, List.foldl_cons, List.foldl_nil, Act.put, List.setIfInBounds_toArray, List.set_cons_zero, List.set_cons_succ, e0, e1, e2, e3, e4, e5, e6, e7, e8, e9]
            clear e0 e1 e2 e3 e4 e5 e6 e7 e8 e9
            simp only [List.drop_succ_cons, List.drop_zero]
            have hbd : BoxAt 86 w8.drew hb (flatB bl) := hbb8
            have htl : (x.2.1.take 64).length = 64 := by rw [List.length_take, x.2.2]; rfl
            have hbl : (b8s (x.2.1.take 64)).length = 64 := by simp [b8s, x.2.2]
            have hth := flatB_there hbd x.1 0 64 (by omega) (by omega)
            rw [Nat.add_zero] at hth
            have hcp := run_copy_cells (P := Try.prog) w8.drew 30 30 3 5 hb (x.1 * 128) 64 128 ⟨gb, 1, none⟩ 64 128 (b8s (x.2.1.take 64)) Try.underlying30 (by kernel_rfl) (by rw [hbl]; rfl)
              (fun j v hv => hld8 j v (by
                rw [b8s_opt, List.getElem?_take] at hv
                rw [b8s_opt]
                split at hv
                · exact hv
                · cases hv)) (fun j hj => (hth j (by omega)).1) (fun j hj => (hth j (by omega)).2) (b8s_one _)
            rw [hbl] at hcp
            have hfin := hbd.setCells_ (b8s (x.2.1.take 64)) (x.1 * 128)
            have hcf := hcg8.trans (Chg.ofGrown (P := fun q => q = hb) (gsetCells hb (b8s (x.2.1.take 64)) w8.drew (x.1 * 128)) fun q e => by injection e with e; exact e.symm)
            have hps := flatB_puts bl x.1 0 (x.2.1.take 64) (by omega) (by rw [htl]; decide)
            rw [Nat.add_zero] at hps
            have hgd : bl.getD x.1 zeroB = bl[x.1]'(by omega) := by rw [List.getD_eq_getElem?_getD, List.getElem?_eq_getElem (by omega)]; rfl
            have hsn' := Hsn.out
            rw [hgd] at hsn'
            rw [hps, ← hsn'] at hfin
            clear hps hbd hth hgd hsn' hbl htl
            go_wp2_with fail
            generalize w8.drew.setCells hb (x.1 * 128) (b8s (x.2.1.take 64)) = w9 at *
            go_roundw
            case rel => exact ⟨k + 1, by omega, by go_num, hfin, hcf⟩
            case measure => simp [intOf]; omega
        | false =>
          rw [hbt] at htt Hsn
          rw [if_neg (by simp)] at Hsn
          clear hbk hbt
          go_wp2_with (first
            | (refine wpList_load_agg rfl 88 (.tmp 19) rfl (ad.add (k * 129)) rfl (encW x) Hld.out Try.underlying88 rfl (by rw [encW_len]; kernel_rfl) ?_)
            | (refine wpList_alloc_z rfl 88 rfl info_write zeroWc zeroW_cells ?_)
            | (refine wpList_store_new rfl 88 (.tmp 7) (.tmp 20) rfl zeroWc (encW x) rfl rfl (by rw [encW_len]; kernel_rfl) (by rw [encW_len]; rfl) (encW_one x) ?_))
          go_roundw
          case rel => exact ⟨k + 1, by omega, by go_num, by rw [Hsn.out]; exact Hbb8.out, Hcg.out.trans (Chg.ofBelow (balloc wr _))⟩
          case measure => simp [intOf]; omega
    · obtain rfl : k = d.wt.length := by omega
      rw [List.take_length] at hbb
      have hf1 := h1r.frozen 1
      have hf2 := h1r.frozen 2
      have hf3 := h1r.frozen 3
      have hc1 := h1r.cell 1 _ rfl
      have hc2 := h1r.cell 2 _ rfl
      have hc3 := h1r.cell 3 _ rfl
      clear hc0
      go_wp2_with fail
      go_end0
      have hsz := hcg.size
      refine ⟨rfl, S, DiskAt.nilW _ rfl (((h1r.put 1 _).put 2 _).put 3 _) (by unfold backD; rw [backBl_len]) (((hbb.other _ _ fun e => h4 e.symm).other _ _ fun e => h4 e.symm).other _ _ fun e => h4 e.symm) h4 H5.out H3.out.here
        (fun q hq => by have := H3.out.lt q hq; simp [World.setCell]; omega) (by unfold backD; rw [backBl_len]; exact H3.out.pos) (by unfold backD; rw [backBl_len]; exact H3.out.few) ⟨(by decide : (-9223372036854775808 : Int) ≤ -1), (by decide : (-1 : Int) ≤ 9223372036854775807)⟩, fun q hq => .inl hq, ?_⟩
      exact ((hcg.more fun q _ hq => by rw [hq]; exact H5.out).trans (Chg.set wr _ _ H3.out.here)).trans ((Chg.set _ _ _ H3.out.here).trans (Chg.set _ _ _ H3.out.here))
end Go.Proofs.Ytpoicbhbkabllaa

namespace Go.Proofs.Ytpoicbhbkabllaa
set_option linter.unusedSimpArgs false
set_option linter.unusedVariables false
open Go.RowKit

set_option maxRecDepth 100000 in
set_option maxHeartbeats 3200000 in
theorem dspoil_any (w : World) (S : Nat → Prop) (g : Nat) (d : DState) (i at_ : Int) (c : UInt8) (h : DiskAt w S g d) :
    Calls Try.prog 27 #[.pointer (some ⟨g, 0, none⟩), .int .i64 i, .int .i64 at_, .int .u8 (c.toNat : Int)] w fun e w' => e = .returned (.int .i64 (spoilE d i at_)) ∧ DPost w S g (spoilD d i at_ c) w' := by
  have H3 := Lib.hid h
  have hth := dthere_any w S g d i h
  unfold spoilD spoilE
  by_cases hok : 0 ≤ i ∧ i < (d.bl.length : Int) ∧ 0 ≤ at_ ∧ at_ < 128
  · rw [if_pos hok, if_neg (by simp)]
    obtain ⟨k, rfl⟩ : ∃ k : Nat, i = (k : Int) := ⟨i.toNat, by omega⟩
    obtain ⟨m, rfl⟩ : ∃ m : Nat, at_ = (m : Int) := ⟨at_.toNat, by omega⟩
    obtain ⟨hk0, hk1, hm0, hm1⟩ := hok
    rw [decide_eq_true hk0, decide_eq_true hk1] at hth
    have hkn : k < d.bl.length := by omega
    have hm128 : m < 128 := by omega
    have hd1 : decide ((m : Int) < 0) = false := decide_eq_false (by omega)
    have hd2 : decide (128 ≤ (m : Int)) = false := decide_eq_false (by omega)
    have Hth := Lib.hid hth
    rw [Int.toNat_natCast, Int.toNat_natCast]
    clear hth hk0 hk1 hm0 hm1 h
    go_enter Try.func27, Try.ntmps27
    go_wp2_with fail
    refine Hth.out.mono ?_
    rintro _ _ ⟨rfl, rfl⟩
    go_wp2_with fail
    obtain ⟨hb, vw, h1, h2, h3, h4, h5, h6⟩ := H3.out.ex
    have hgd : d.bl.getD k zeroB = d.bl[k] := by rw [List.getD_eq_getElem?_getD, List.getElem?_eq_getElem hkn]; rfl
    have hml : m < (d.bl[k]).1.length := by rw [(d.bl[k]).2]; exact hm128
    have hgy : (d.bl[k]).1.getD m 0 = (d.bl[k]).1[m] := by rw [List.getD_eq_getElem?_getD, List.getElem?_eq_getElem hml]; rfl
    obtain ⟨y, hy⟩ : ∃ y, y = (d.bl[k]).1[m] := ⟨_, rfl⟩
    have hcy : w.cell? ⟨hb, k * 128 + m, none⟩ = some (.int .u8 (y.toNat : Int)) := by
      refine h2.cell _ _ ?_
      rw [flatB_at _ _ _ hkn hm128, b8s_opt, List.getElem?_eq_getElem hml, hy]; rfl
    have hxor : bits .xor .u8 (y.toNat : Int) (c.toNat : Int) = ((y ^^^ c).toNat : Int) := xor_u8 y c
    have hps := flatB_puts d.bl k m [y ^^^ c] hkn (by simp; omega)
    have hfr := h2.frozen (k * 128 + m)
    have hfin := h2.put (k * 128 + m) (.int .u8 ((y ^^^ c).toNat : Int))
    have hps2 : (flatB d.bl).set (k * 128 + m) (.int .u8 ((y ^^^ c).toNat : Int)) = flatB (d.bl.set k (over d.bl[k] m [y ^^^ c])) := hps
    rw [hps2] at hfin
    rw [UInt8.toNat_xor] at hfin
    have Hfin := Lib.hid hfin
    have Hgd := Lib.hid hgd
    have Hgy := Lib.hid hgy
    have Hy := Lib.hid hy
    have H1 := Lib.hid h1
    have H32 := Lib.hid h3
    have H6 := Lib.hid h6
    clear hgd hgy hy hps hps2 hfin h3 h6
    obtain ⟨nb, hnb⟩ : ∃ nb, nb = d.bl.length := ⟨_, rfl⟩
    rw [← hnb] at h1
    have hkn2 : k < nb := by omega
    have hmi : ¬ 128 ≤ (m : Int) := by omega
    have Hnb := Lib.hid hnb.symm
    clear hnb
    refine wp_region_mixL (ds := [21, 22, 23, 24, 25, 26, 27, 28, 29, 30, 31, 32, 33]) 13 (fun _ _ W' => W' = w.drew) [some 21, some 22, some 23, some 24, some 25, some 26, some 27, some 28, some 29, some 30, some 31, some 32, some 33]
      [fun v => v = .pointer (some ⟨g, 0, none⟩), fun v => v = .pointer (some ⟨g, 0, none⟩), fun v => v = .pointer (some ⟨g, 0, none⟩), fun v => v = .slice (some ⟨hb, 0, none⟩) nb nb, fun v => v = .int .i64 (k : Int), fun v => v = .int .i64 (m : Int), fun v => v = .pointer (some ⟨hb, k * 128, none⟩), fun v => v = .pointer (some ⟨hb, k * 128 + m, none⟩), fun v => v = .int .u8 (y.toNat : Int), fun v => v = .int .u8 (c.toNat : Int), fun v => v = .int .u8 ((y ^^^ c).toNat : Int), fun v => v = .pointer (some ⟨hb, k * 128, none⟩), fun v => v = .pointer (some ⟨hb, k * 128 + m, none⟩)]
      rfl rfl rfl (by kernel_rfl) (by kernel_rfl) ?_ (fun _ => rfl) ?_
    · refine ⟨?_, ?_, ?_, ?_, ?_, ?_, ?_, ?_, ?_, ?_, ?_, ?_, ?_, trivial⟩
      · -- 0: slot 21 := Op.move t0
        refine obM_yes fun f bb w' hj hs hd hp => ?_
        simp [PreO, factO, valOf, Region.binds] at hp
        have hj' : w' = w.drew := hj
        subst hj'
        refine ⟨by simp [Gd, valOf, hp], ?_⟩
        refine mildM_val (.pointer (some ⟨g, 0, none⟩)) ?_ rfl rfl
        simp [execOp, evalF, hp, go_sem]
      · -- 1: slot 22 := Op.nilCheck t21
        refine obM_yes fun f bb w' hj hs hd hp => ?_
        simp [PreO, factO, valOf, Region.binds] at hp
        have hj' : w' = w.drew := hj
        subst hj'
        refine ⟨by simp [Gd, valOf, hp], ?_⟩
        refine mildM_val (.pointer (some ⟨g, 0, none⟩)) ?_ rfl rfl
        simp [execOp, evalF, hp, go_sem]
      · -- 2: slot 23 := Op.fieldAddr 84 t22 0
        refine obM_yes fun f bb w' hj hs hd hp => ?_
        simp [PreO, factO, valOf, Region.binds] at hp
        have hj' : w' = w.drew := hj
        subst hj'
        refine ⟨by simp [Gd, valOf, hp], ?_⟩
        refine mildM_val (.pointer (some ⟨g, 0, none⟩)) ?_ rfl rfl
        simp [execOp, evalF, hp, go_sem]
      · -- 3: slot 24 := Op.load 81 t23
        refine obM_yes fun f bb w' hj hs hd hp => ?_
        simp [PreO, factO, valOf, Region.binds] at hp
        have hj' : w' = w.drew := hj
        subst hj'
        refine ⟨by simp [Gd, valOf, hp], ?_⟩
        have hc := h1.cell 0 _ rfl
        refine mildM_val (.slice (some ⟨hb, 0, none⟩) nb nb) ?_ rfl rfl
        simp [execOp, evalF, hp, go_sem, hc]
      · -- 4: slot 25 := Op.move t1
        refine obM_yes fun f bb w' hj hs hd hp => ?_
        simp [PreO, factO, valOf, Region.binds] at hp
        have hj' : w' = w.drew := hj
        subst hj'
        refine ⟨by simp [Gd, valOf, hp], ?_⟩
        refine mildM_val (.int .i64 (k : Int)) ?_ rfl rfl
        simp [execOp, evalF, hp, go_sem]
      · -- 5: slot 26 := Op.move t2
        refine obM_yes fun f bb w' hj hs hd hp => ?_
        simp [PreO, factO, valOf, Region.binds] at hp
        have hj' : w' = w.drew := hj
        subst hj'
        refine ⟨by simp [Gd, valOf, hp], ?_⟩
        refine mildM_val (.int .i64 (m : Int)) ?_ rfl rfl
        simp [execOp, evalF, hp, go_sem]
      · -- 6: slot 27 := Op.indexAddr 81 t24 t25
        refine obM_yes fun f bb w' hj hs hd hp => ?_
        simp [PreO, factO, valOf, Region.binds] at hp
        have hj' : w' = w.drew := hj
        subst hj'
        refine ⟨by simp [Gd, valOf, hp], ?_⟩
        refine mildM_val (.pointer (some ⟨hb, k * 128, none⟩)) ?_ rfl rfl
        simp [execOp, evalF, hp, go_sem, hkn2]
      · -- 7: slot 28 := Op.indexAddr 86 t27 t26
        refine obM_yes fun f bb w' hj hs hd hp => ?_
        simp [PreO, factO, valOf, Region.binds] at hp
        have hj' : w' = w.drew := hj
        subst hj'
        refine ⟨by simp [Gd, valOf, hp], ?_⟩
        refine mildM_val (.pointer (some ⟨hb, k * 128 + m, none⟩)) ?_ rfl rfl
        simp [execOp, evalF, hp, go_sem, hm128, hmi, Try.underlying86]
      · -- 8: slot 29 := Op.load 5 t28
        refine obM_yes fun f bb w' hj hs hd hp => ?_
        simp [PreO, factO, valOf, Region.binds] at hp
        have hj' : w' = w.drew := hj
        subst hj'
        refine ⟨by simp [Gd, valOf, hp], ?_⟩
        refine mildM_val (.int .u8 (y.toNat : Int)) ?_ rfl rfl
        simp [execOp, evalF, hp, go_sem, hcy]
      · -- 9: slot 30 := Op.move t3
        refine obM_yes fun f bb w' hj hs hd hp => ?_
        simp [PreO, factO, valOf, Region.binds] at hp
        have hj' : w' = w.drew := hj
        subst hj'
        refine ⟨by simp [Gd, valOf, hp], ?_⟩
        refine mildM_val (.int .u8 (c.toNat : Int)) ?_ rfl rfl
        simp [execOp, evalF, hp, go_sem]
      · -- 10: slot 31 := Op.binOp BinOp.xor 5 t29 t30 5
        refine obM_yes fun f bb w' hj hs hd hp => ?_
        simp [PreO, factO, valOf, Region.binds] at hp
        have hj' : w' = w.drew := hj
        subst hj'
        refine ⟨by simp [Gd, valOf, hp], ?_⟩
        refine mildM_val (.int .u8 ((y ^^^ c).toNat : Int)) ?_ rfl rfl
        simp [execOp, evalF, hp, go_sem, hxor]
      · -- 11: slot 32 := Op.indexAddr 81 t24 t25
        refine obM_yes fun f bb w' hj hs hd hp => ?_
        simp [PreO, factO, valOf, Region.binds] at hp
        have hj' : w' = w.drew := hj
        subst hj'
        refine ⟨by simp [Gd, valOf, hp], ?_⟩
        refine mildM_val (.pointer (some ⟨hb, k * 128, none⟩)) ?_ rfl rfl
        simp [execOp, evalF, hp, go_sem, hkn2]
      · -- 12: slot 33 := Op.indexAddr 86 t32 t26
        refine obM_yes fun f bb w' hj hs hd hp => ?_
        simp [PreO, factO, valOf, Region.binds] at hp
        have hj' : w' = w.drew := hj
        subst hj'
        refine ⟨by simp [Gd, valOf, hp], ?_⟩
        refine mildM_val (.pointer (some ⟨hb, k * 128 + m, none⟩)) ?_ rfl rfl
        simp [execOp, evalF, hp, go_sem, hm128, hmi, Try.underlying86]
    · intro f bb wd hall hj hp
      have hj' : wd = w.drew := hj
      subst hj'
      clear hall hj
      simp only [PostO] at hp
      obtain ⟨e0, e1, e2, e3, e4, e5, e6, e7, e8, e9, e10, e11, e12, _⟩ := hp
      simp only [fills, List.foldl_cons, List.foldl_nil, Act.put, List.setIfInBounds_toArray, List.set_cons_zero, List.set_cons_succ, e0, e1, e2, e3, e4, e5, e6, e7, e8, e9, e10, e11, e12]
      clear e0 e1 e2 e3 e4 e5 e6 e7 e8 e9 e10 e11 e12
      simp only [List.drop_succ_cons, List.drop_zero]
      go_wp2_with fail
      go_ret
      rw [← Hy.out]
      have hset := (Chg.refl S w).trans (Chg.set w ⟨hb, k * 128 + m, none⟩ (.int .u8 ((y.toNat ^^^ c.toNat : Nat) : Int)) h5)
      refine ⟨rfl, S, ?_, fun q hq => .inl hq, hset.drew_⟩
      have hlen : ∀ b : Blk, (d.bl.set k b).length = nb := fun b => by rw [List.length_set]; exact Hnb.out
      have H1' := H1.out
      rw [Hnb.out] at H1'
      have i1 : BoxAt 84 (w.setCell ⟨hb, k * 128 + m, none⟩ (.int .u8 ((y.toNat ^^^ c.toNat : Nat) : Int))).drew g [.slice (some ⟨hb, 0, none⟩) nb nb, vw, .bool d.off, .int .i64 d.fuse] := BoxAt.other (w := w) H1' ⟨hb, k * 128 + m, none⟩ _ h4
      have i2 : BoxAt 86 (w.setCell ⟨hb, k * 128 + m, none⟩ (.int .u8 ((y.toNat ^^^ c.toNat : Nat) : Int))).drew hb (flatB (d.bl.set k (over d.bl[k] m [y ^^^ c]))) := Hfin.out
      have i3 : OwnF 88 cWt (w.setCell ⟨hb, k * 128 + m, none⟩ (.int .u8 ((y.toNat ^^^ c.toNat : Nat) : Int))).drew 0 vw d.wt := H32.out.kept fun q hq => Below.heap_setCell w ⟨hb, k * 128 + m, none⟩ _ q (fun e => (H6.out q hq).2.1 e)
      refine ⟨⟨hb, vw, by rw [hlen]; exact i1, i2, i3, h4, h5, H6.out⟩, H3.out.here, fun q hq => by have := H3.out.lt q hq; simpa [World.setCell] using this, fun x hx => ?_, ?_, ?_, H3.out.fuseR⟩
      · have := H3.out.wts x hx
        show x.1 < (d.bl.set k _).length
        rw [List.length_set]; exact this
      · show 0 < (d.bl.set k _).length
        rw [List.length_set]; exact H3.out.pos
      · show (d.bl.set k _).length ≤ 65536
        rw [List.length_set]; exact H3.out.few
  · rw [if_neg hok, if_pos (by simp)]
    by_cases hi : 0 ≤ i ∧ i < (d.bl.length : Int)
    · rw [decide_eq_true hi.1, decide_eq_true hi.2] at hth
      have Hth := Lib.hid hth
      by_cases ha : at_ < 0
      · have hd1 : decide (at_ < 0) = true := decide_eq_true ha
        clear hth ha hok hi h
        go_enter Try.func27, Try.ntmps27
        go_wp2_with fail
        refine Hth.out.mono ?_
        rintro _ _ ⟨rfl, rfl⟩
        go_wp2_with fail
        go_ret
        exact ⟨rfl, DPost.id_ H3.out⟩
      · have hd1 : decide (at_ < 0) = false := decide_eq_false ha
        have hd2 : decide (128 ≤ at_) = true := decide_eq_true (by omega)
        clear hth ha hok hi h
        go_enter Try.func27, Try.ntmps27
        go_wp2_with fail
        refine Hth.out.mono ?_
        rintro _ _ ⟨rfl, rfl⟩
        go_wp2_with fail
        go_ret
        exact ⟨rfl, DPost.id_ H3.out⟩
    · have e : (decide (0 ≤ i) && decide (i < (d.bl.length : Int))) = false := by simp only [Bool.and_eq_false_iff, decide_eq_false_iff_not]; omega
      rw [e] at hth
      have Hth := Lib.hid hth
      clear hth hok hi h e
      go_enter Try.func27, Try.ntmps27
      go_wp2_with fail
      refine Hth.out.mono ?_
      rintro _ _ ⟨rfl, rfl⟩
      go_wp2_with fail
      go_ret
      exact ⟨rfl, DPost.id_ H3.out⟩

def newD (n : Nat) : DState := { bl := List.replicate n zeroB, wt := [], off := false, fuse := -1 }
theorem flatB_new (n : Nat) : flatB (List.replicate n zeroB) = List.replicate (n * 128) (.int .u8 0) := by
  apply List.ext_getElem?
  intro k
  by_cases hk : k < n * 128
  · obtain ⟨q, r, hr, rfl⟩ : ∃ q r, r < 128 ∧ k = q * 128 + r := ⟨k / 128, k % 128, Nat.mod_lt _ (by decide), by omega⟩
    rw [flatB_at _ q r (by simp; omega) hr, List.getElem_replicate, b8s_opt, List.getElem?_replicate, if_pos hk]
    show ((List.replicate 128 (0 : UInt8))[r]?).map b8 = _
    rw [List.getElem?_replicate, if_pos hr]; rfl
  · rw [List.getElem?_eq_none (by rw [flatB_len]; simp; omega), List.getElem?_eq_none (by simp; omega)]
theorem made_rep (m n : Nat) (hm : 0 < m) (v : Value) : madeCells (List.replicate m v).toArray n = (List.replicate n v).toArray := by
  apply Array.ext
  · simp [madeCells]
  · intro i h1 h2
    simp only [madeCells, List.size_toArray, List.length_replicate, Array.getElem_map, Array.getElem_range, List.getElem_toArray, List.getElem_replicate]
    have : i % m < m := Nat.mod_lt i hm
    rw [getElem!_pos _ _ (by simpa using this)]
    simp
def zeroBv : Value := .agg (List.replicate 128 (.int .u8 0)).toArray
theorem info_block : (Try.prog.info? 86).map (fun i => (i.zero, i.size, i.bytes)) = some (some zeroBv, 128, 128) := by kernel_rfl
theorem make_blocks (n : Nat) (hn : n ≤ 65536) : ∀ w : World, (Instr.makeSlice 81 (.int .i64 (n : Int)) (.int .i64 (n : Int))).run Try.prog w = .ok (.slice (some ⟨w.heap.size, 0, none⟩) n n) (w.alloc (.cells (flatB (List.replicate n zeroB)).toArray 86)) := fun w => by
  obtain ⟨i, hi, hz0, hz1, hz2⟩ := info_parts info_block
  have hr := run_make (P := Try.prog) w 81 86 i zeroBv Try.underlying81 hi hz0 .i64 .i64 (n : Int) (n : Int) (by omega) (by omega) (by rw [hz2]; omega) (by omega)
  have e : madeCells zeroBv.cells (n * 128) = (flatB (List.replicate n zeroB)).toArray := by
    rw [flatB_new]
    exact made_rep 128 (n * 128) (by decide) _
  rw [Int.toNat_natCast, hz1, e] at hr
  exact hr
set_option maxRecDepth 100000 in
set_option maxHeartbeats 3200000 in
theorem dnew_no (w : World) (n : Int) (hn : n < 1 ∨ 65536 < n) :
    Calls Try.prog 13 #[.int .i64 n] w fun e w' => e = .returned (.tuple #[.pointer none, .int .i64 1]) ∧ w = w' := by
  by_cases h1 : n < 1
  · have hd : decide (n < 1) = true := decide_eq_true h1
    clear hn h1
    go_enter Try.func13, Try.ntmps13
    go_wp2_with fail
    go_ret2
    exact ⟨rfl, rfl⟩
  · have hd : decide (n < 1) = false := decide_eq_false h1
    have hd2 : decide (65536 < n) = true := decide_eq_true (by omega)
    clear hn h1
    go_enter Try.func13, Try.ntmps13
    go_wp2_with fail
    go_ret2
    exact ⟨rfl, rfl⟩
set_option maxRecDepth 100000 in
set_option maxHeartbeats 3200000 in
theorem dnew_any (w : World) (n : Nat) (h1 : 1 ≤ n) (h2 : n ≤ 65536) :
    Calls Try.prog 13 #[.int .i64 (n : Int)] w fun e w' => ∃ g S, e = .returned (.tuple #[.pointer (some ⟨g, 0, none⟩), .int .i64 0]) ∧ DiskAt w' S g (newD n) ∧ (∀ k, S k → w.heap.size ≤ k) ∧ Below w.heap.size w w' := by
  have hd : decide ((n : Int) < 1) = false := decide_eq_false (by omega)
  have hd2 : decide (65536 < (n : Int)) = false := decide_eq_false (by omega)
  have Hd := Lib.hid h1
  have H2 := Lib.hid h2
  have hmk := make_blocks n h2
  have hlB : (newD n).bl.length = n := by simp [newD]
  have HlB := Lib.hid hlB
  clear h1 h2 hlB
  generalize hfb : flatB (List.replicate n zeroB) = cs at *
  have Hfb := Lib.hid hfb
  clear hfb
  go_enter Try.func13, Try.ntmps13
  go_wp2_with fail
  go_ret2
  refine ⟨w.heap.size + 1, fun k => k = w.heap.size ∨ k = w.heap.size + 1, rfl, ?_, fun k hk => by rcases hk with rfl | rfl <;> omega, ((Below.refl _ _).alloc (Nat.le_refl _) _).alloc (by simp) _⟩
  have b1 : BoxAt 86 ((w.alloc (.cells cs.toArray 86)).alloc (.cells #[.slice (some ⟨w.heap.size, 0, none⟩) n n, .slice none 0 0, .bool false, .int .i64 (-1)] 84)) w.heap.size (flatB (newD n).bl) := by
    have : flatB (newD n).bl = cs := Hfb.out
    rw [this]
    exact (BoxAt.new_ _ w cs).alloc _
  have b2 := BoxAt.new_ 84 (w.alloc (.cells cs.toArray 86)) [.slice (some ⟨w.heap.size, 0, none⟩) n n, .slice none 0 0, .bool false, .int .i64 (-1)]
  have hsz : (w.alloc (.cells cs.toArray 86)).heap.size = w.heap.size + 1 := by simp
  rw [hsz] at b2
  have h1 := Hd.out
  have h2 := H2.out
  refine ⟨⟨w.heap.size, .slice none 0 0, by rw [HlB.out]; exact b2, b1, OwnF.nil_ _ _, by omega, .inl rfl, fun q hq => by simp [Value.ownBlock] at hq⟩, .inr rfl, fun k hk => by simp; rcases hk with rfl | rfl <;> omega, fun x hx => by simp [newD] at hx, by rw [HlB.out]; omega, by rw [HlB.out]; omega, ⟨(by decide : (-9223372036854775808 : Int) ≤ -1), (by decide : (-1 : Int) ≤ 9223372036854775807)⟩⟩
end Go.Proofs.Ytpoicbhbkabllaa

namespace Go.Proofs.Ytpoicbhbkabllaa
set_option linter.unusedSimpArgs false
set_option linter.unusedVariables false
open Go.RowKit Go.Shelf
attribute [local go_sem] Oper.semAt_some

/-- what a round keeps: each block of cells, but those of B -/
structure Kp (B : Nat → Prop) (W W' : World) : Prop where
  size : W.heap.size ≤ W'.heap.size
  same : ∀ (k : Nat) (o : Obj), ¬ B k → W.heap[k]? = some o → o.isCells = true → W'.heap[k]? = some o
section
variable {B : Nat → Prop} {W W' W'' : World}
theorem Kp.refl (B : Nat → Prop) (W : World) : Kp B W W := ⟨Nat.le_refl _, fun _ _ _ h _ => h⟩
theorem Kp.trans (h : Kp B W W') (k : Kp B W' W'') : Kp B W W'' := ⟨Nat.le_trans h.size k.size, fun i o hi h1 h2 => k.same i o hi (h.same i o hi h1 h2) h2⟩
theorem Kp.putObj (B : Nat → Prop) (m : Nat) (W : World) (l : Nat) (o o' : Obj) (_ : m ≤ l) (ho : W.heap[l]? = some o) (hc : o.isCells = false) (_ : o.isWalk = false) : Kp B W (W.putObj l o') :=
  ⟨(grownBy_putObj' W l o').size, fun k q _ hk hq => by
    have hne : k ≠ l := fun e => by subst e; rw [ho] at hk; injection hk with hk; subst hk; rw [hc] at hq; cases hq
    exact ((grownBy_putObj' W l o').block k (Array.getElem?_eq_some_iff.1 hk).1 (fun e => hne (by injection e))).trans hk⟩
theorem Kp.ofGrown {row : Option Nat} (h : W.grownBy W' row) (hr : ∀ k, row = some k → B k) : Kp B W W' :=
  ⟨h.size, fun k o hb hk _ => (h.block k (Array.getElem?_eq_some_iff.1 hk).1 (fun e => hb (hr k e.symm))).trans hk⟩
theorem Kp.set (W : World) (p : Addr) (u : Value) (h : B p.block) : Kp B W (W.setCell p u) := Kp.ofGrown (gset W p u) fun k e => by injection e with e; rw [← e]; exact h
theorem Kp.alloc (B : Nat → Prop) (W : World) (o : Obj) : Kp B W (W.alloc o) := Kp.ofGrown (gbelow (balloc W o) none) fun _ e => by cases e
theorem Kp.drew (B : Nat → Prop) (W : World) : Kp B W W.drew := ⟨Nat.le_refl _, fun _ _ _ h _ => h⟩
theorem Kp.drewN (B : Nat → Prop) (W : World) (n : Nat) : Kp B W (W.drewN n) := ⟨Nat.le_refl _, fun _ _ _ h _ => h⟩
theorem Kp.ofBelow (h : Below W.heap.size W W') : Kp B W W' := Kp.ofGrown (gbelow h none) fun _ e => by cases e
theorem Kp.cell (h : Kp B W W') {p : Addr} {v : Value} (hp : W.cell? p = some v) (hb : ¬ B p.block) : W'.cell? p = some v := by
  cases ho : W.heap[p.block]? with
  | none => simp [World.cell?, ho] at hp
  | some o =>
    cases o with
    | cells c e fr =>
      have := h.same _ _ hb ho rfl
      simp only [World.cell?, ho] at hp
      simp only [World.cell?, this]
      exact hp
    | _ => simp [World.cell?, ho] at hp
theorem Kp.row {α : Type} {C : Cdc α} {B0 : Nat} {v : Value} {l : List α} (hC : ∀ w cs x, C.at_ w (fun _ => True) cs x → C.at_ W' (fun _ => True) cs x) (hk : Kp B W W') (hB : ∀ k, B k → B0 ≤ k) (h : RowOn C W (fun k => k < B0) (fun _ => True) v l) : RowOn C W' (fun k => k < B0) (fun _ => True) v l := by
  obtain ⟨A, c, h1, h2, h3, h4⟩ := h
  refine ⟨A, c, h1, h2, h3, fun hn => ?_⟩
  obtain ⟨ad, e, hb', hc⟩ := h4 hn
  refine ⟨ad, e, hb', fun i x hx => ?_⟩
  obtain ⟨cs, ha, hcs⟩ := hc i x hx
  exact ⟨cs, hC _ _ _ ha, fun j u hu => hk.cell (hcs j u hu) fun hb => by have := hB _ hb; rw [add_block] at this; omega⟩
theorem Kp.box {T : TypeId} {g : Nat} {cs : List Value} (hk : Kp B W W') (hb : ¬ B g) (h : BoxAt T W g cs) : BoxAt T W' g cs := hk.same g _ hb h rfl
end

/-- what has come when k rounds are over -/
def upto {α : Type} (f : Nat → α) (k : Nat) : List α := (List.range k).map f
theorem upto_succ {α : Type} (f : Nat → α) (k : Nat) : upto f (k + 1) = upto f k ++ [f k] := by simp [upto, List.range_succ]
theorem upto_length {α : Type} (f : Nat → α) (k : Nat) : (upto f k).length = k := by simp [upto]
theorem upto_mem {α : Type} (f : Nat → α) (k : Nat) (x : α) : x ∈ upto f k ↔ ∃ j, j < k ∧ f j = x := by simp [upto]
theorem BoxAt.ownk {T : TypeId} {g : Nat} {cs : List Value} {X Y : World} {row : Option Nat} (hb : BoxAt T X g cs) (hg : X.grownBy Y row) (hr : ∀ r, row = some r → ∃ o : Obj, X.heap[r]? = some o ∧ o.isCells = false) : BoxAt T Y g cs :=
  hb.grown hg fun e => by
    obtain ⟨o, ho, hc⟩ := hr _ e
    rw [show _ = _ from hb] at ho
    injection ho with ho
    subst ho
    cases hc

/-! ### whole things, within a fence -/
section
variable {F : Fence} {n : Nat} {ops : Array Oper} {rest : List Oper} {o : Oper} {a : Act} {w : World} {Q : Exit → Act → World → Prop}
theorem wpListIn_load_agg (hgd : o.guard = none) (T : TypeId) (x : Operand) (ho : o.op = .load T x)
    (ad : Addr) (hx : a.eval x = .pointer (some ad)) (cs : List Value) (hc : ∀ (j : Nat) (v : Value), cs[j]? = some v → w.cell? (ad.add j) = some v) {d : TypeDesc} (hu : Try.prog.underlying T = some d)
    (hd : (match d with | .struct _ | .array _ _ => true | _ => false) = true) (hi : (Try.prog.info? T).map (·.size) = some cs.length)
    (h : wpListIn F n Try.prog ops Q rest (a.put o.dst (.agg cs.toArray)) w) : wpListIn F n Try.prog ops Q (o :: rest) a w :=
  wpListIn_plain hgd fun K hK => by
    unfold Oper.wpIn
    refine ⟨by simp [Oper.about, ho], ?_⟩
    rw [Oper.semAt_plain F _ _ (by rw [ho]; intro c hc'; cases hc')]
    unfold execOp
    simp only [ho, hx, Instr.loadAt, Instr.sureAddr, Sem.run_bind, Sem.run_pure, Result.andThen_ok, run_loadVar_cells w ad T cs hc hu hd hi]
    exact hK _ _ h
theorem wpListIn_store_box (hgd : o.guard = none) (T T' : TypeId) (x y : Operand) (ho : o.op = .store T x y)
    (g : Nat) (cs ds : List Value) (hx : a.eval x = .pointer (some ⟨g, 0, none⟩)) (hy : a.eval y = .agg ds.toArray) (hs : BoxAt T' w g cs) (hl : ds.length = cs.length) (h1 : ∀ u ∈ ds, u.oneCell' = true)
    (hi : (Try.prog.info? T).map (·.size) = some ds.length)
    (h : BoxAt T' (w.setRow g ds.toArray) g ds → wpListIn F n Try.prog ops Q rest (a.put o.dst undef) (w.setRow g ds.toArray)) : wpListIn F n Try.prog ops Q (o :: rest) a w :=
  wpListIn_plain hgd fun K hK => by
    unfold Oper.wpIn
    refine ⟨by simp [Oper.about, ho], ?_⟩
    rw [Oper.semAt_plain F _ _ (by rw [ho]; intro c hc'; cases hc')]
    have hst := run_storeVar_row (P := Try.prog) w g T' T cs.toArray ds.toArray hs (by simpa using hi) (by simpa using hl) (by simpa using h1)
    unfold execOp
    simp only [ho, hx, hy, Instr.storeAt, Instr.sureAddr, Sem.run_bind, Sem.run_pure, Result.andThen_ok, hst]
    exact hK _ _ (h (hs.setRow ds))
theorem wpListIn_alloc_z (hgd : o.guard = none) (T : TypeId) (ho : o.op = .alloc T) {z : Value} {m bytes : Nat}
    (hinfo : (Try.prog.info? T).map (fun i => (i.zero, i.size, i.bytes)) = some (some z, m, bytes)) (cs : List Value) (hz : z.cells = cs.toArray)
    (h : wpListIn F n Try.prog ops Q rest (a.put o.dst (.pointer (some ⟨w.heap.size, 0, none⟩))) (w.alloc (.cells cs.toArray T))) : wpListIn F n Try.prog ops Q (o :: rest) a w :=
  wpListIn_plain hgd fun K hK => by
    obtain ⟨i, hi, hz0, hz1, hby⟩ := info_parts hinfo
    have hr : (Instr.alloc T true (.tuple #[])).run Try.prog w = .ok (.pointer (some ⟨w.heap.size, 0, none⟩)) (w.alloc (.cells cs.toArray T)) := by
      simp [Instr.alloc, Sem.run_bind, zeroValue, typeInfo, hi, hz0, newVar, newRow, hz]
    unfold Oper.wpIn
    refine ⟨by simp [Oper.about, ho], ?_⟩
    rw [Oper.semAt_plain F _ _ (by rw [ho]; intro c hc'; cases hc')]
    unfold execOp
    simp only [ho, Sem.run_bind, hr, Result.andThen_ok]
    exact hK _ _ h
theorem wpListIn_store_new (hgd : o.guard = none) (T : TypeId) (x y : Operand) (ho : o.op = .store T x y)
    (cs ds : List Value) (hx : a.eval x = .pointer (some ⟨w.heap.size, 0, none⟩)) (hy : a.eval y = .agg ds.toArray) (hi : (Try.prog.info? T).map (·.size) = some ds.length) (hl : cs.length = ds.length) (h1 : ∀ u ∈ ds, u.oneCell' = true)
    (h : wpListIn F n Try.prog ops Q rest (a.put o.dst undef) (w.alloc (.cells ds.toArray T))) : wpListIn F n Try.prog ops Q (o :: rest) a (w.alloc (.cells cs.toArray T)) :=
  wpListIn_plain hgd fun K hK => by
    unfold Oper.wpIn
    refine ⟨by simp [Oper.about, ho], ?_⟩
    rw [Oper.semAt_plain F _ _ (by rw [ho]; intro c hc'; cases hc')]
    unfold execOp
    simp only [ho, hx, hy, Instr.storeAt, Instr.sureAddr, Sem.run_bind, Sem.run_pure, Result.andThen_ok, run_storeVar_new w T cs.toArray ds.toArray (by simpa using hi) (by simpa using hl) (all_oneCell_toArray h1)]
    exact hK _ _ h
end
/-! ### bytes in a block of the call's own, of whatever array type -/
theorem By.ofBox {T : TypeId} {w : World} {g : Nat} {l : List UInt8} (h : BoxAt T w g (b8s l)) (hm : l.length ≤ maxLen) : By w w.heap.size (.slice (some ⟨g, 0, none⟩) l.length l.length) l :=
  ⟨_, _, rfl, Nat.le_refl _, hm, by rw [b8s_length]; omega, fun _ => ⟨_, rfl, h.lt, h.cells⟩⟩
/-- v reads as l, in a block from B on (or is nil), and may be written -/
def Fresh (B : Nat) (w : World) (v : Value) (l : List UInt8) : Prop :=
  (v = .slice none 0 0 ∧ l = []) ∨ ∃ g c T cs, v = .slice (some ⟨g, 0, none⟩) l.length c ∧ l.length ≤ c ∧ c ≤ maxLen ∧ B ≤ g ∧ BoxAt T w g cs ∧ ∀ (j : Nat) (u : Value), (b8s l)[j]? = some u → cs[j]? = some u
section
variable {B : Nat} {w w' : World} {v : Value} {l : List UInt8}
theorem Fresh.nil_ : Fresh B w (.slice none 0 0) [] := .inl ⟨rfl, rfl⟩
theorem Fresh.by_ (h : Fresh B w v l) : By w w.heap.size v l := by
  rcases h with ⟨rfl, rfl⟩ | ⟨g, c, T, cs, rfl, h1, h2, h3, h4, h5⟩
  · exact By.nil_
  · exact ⟨_, _, rfl, h1, h2, by rw [b8s_length]; omega, fun _ => ⟨_, rfl, h4.lt, fun j u hu => h4.cells j u (h5 j u hu)⟩⟩
theorem Fresh.form (h : Fresh B w v l) : ∃ A c, v = .slice A l.length c ∧ l.length ≤ c ∧ c ≤ maxLen := by
  rcases h with ⟨rfl, rfl⟩ | ⟨g, c, T, cs, rfl, h1, h2, h3, h4⟩
  · exact ⟨none, 0, rfl, Nat.le_refl _, Nat.zero_le _⟩
  · exact ⟨_, c, rfl, h1, h2⟩
theorem Fresh.more {B' : Nat} (h : Fresh B w v l) (hB : B' ≤ B) : Fresh B' w v l := by
  rcases h with h | ⟨g, c, T, cs, h0, h1, h2, h3, h4⟩
  · exact .inl h
  · exact .inr ⟨g, c, T, cs, h0, h1, h2, Nat.le_trans hB h3, h4⟩
theorem Fresh.below_ (h : Fresh B w v l) (hb : Below w.heap.size w w') : Fresh B w' v l := by
  rcases h with h | ⟨g, c, T, cs, h0, h1, h2, h3, h4, h5⟩
  · exact .inl h
  · exact .inr ⟨g, c, T, cs, h0, h1, h2, h3, h4.below h4.lt hb, h5⟩
theorem Fresh.blk (h : Fresh B w v l) : ∀ q, v.ownBlock = some q → B ≤ q ∧ q < w.heap.size := by
  rcases h with ⟨rfl, rfl⟩ | ⟨g, c, T, cs, rfl, h1, h2, h3, h4, h5⟩
  · intro q hq; simp [Value.ownBlock] at hq
  · intro q hq
    have e : g = q := by injection hq
    subst e
    exact ⟨h3, h4.lt⟩
theorem Fresh.grown {row : Option Nat} (h : Fresh B w v l) (hg : w.grownBy w' row) (hne : ∀ q, v.ownBlock = some q → row ≠ some q) : Fresh B w' v l := by
  rcases h with h | ⟨g, c, T, cs, h0, h1, h2, h3, h4, h5⟩
  · exact .inl h
  · exact .inr ⟨g, c, T, cs, h0, h1, h2, h3, h4.grown hg (hne g (by rw [h0]; rfl)), h5⟩
theorem Fresh.chg {P : Nat → Prop} (h : Fresh B w v l) (hc : Chg P w w') (hn : ∀ q, v.ownBlock = some q → ¬ P q) : Fresh B w' v l := by
  rcases h with h | ⟨g, c, T, cs, h0, h1, h2, h3, h4, h5⟩
  · exact .inl h
  · exact .inr ⟨g, c, T, cs, h0, h1, h2, h3, h4.chg hc (hn g (by rw [h0]; rfl)), h5⟩
/-- a cell of it, and its being written -/
theorem Fresh.put {A : Option Addr} {n c : Nat} (h : Fresh B w (.slice A n c) l) (k : Nat) (hk : k < l.length) : ∃ g, A = some ⟨g, 0, none⟩ ∧ B ≤ g ∧ g < w.heap.size ∧ w.frozen? ⟨g, k, none⟩ = false ∧ w.cell? ⟨g, k, none⟩ = some (.int .u8 ((l[k]).toNat : Int)) ∧
    ∀ b : UInt8, Fresh B (w.setCell ⟨g, k, none⟩ (.int .u8 (b.toNat : Int))) (.slice A n c) (l.set k b) := by
  rcases h with ⟨h, rfl⟩ | ⟨g, c', T, cs, e, h1, h2, h3, h4, h5⟩
  · simp at hk
  · injection e with e1 e2 e3
    subst e1; subst e2; subst e3
    have hkc := h5 k _ (b8s_get l k hk)
    have hkl : k < cs.length := (List.getElem?_eq_some_iff.1 hkc).1
    refine ⟨g, rfl, h3, h4.lt, h4.frozen k, h4.cell k _ hkc, fun b => .inr ⟨g, c, T, cs.set k (b8 b), by rw [List.length_set], by rw [List.length_set]; exact h1, h2, h3, h4.put k (b8 b), fun j u hu => ?_⟩⟩
    have e : b8s (l.set k b) = (b8s l).set k (b8 b) := by unfold b8s; rw [List.map_set]
    rw [e, List.getElem?_set] at hu
    rw [List.getElem?_set]
    by_cases hkj : k = j
    · subst hkj
      rw [if_pos rfl, if_pos (by rw [b8s_length]; exact hk)] at hu
      rw [if_pos rfl, if_pos hkl]; exact hu
    · rw [if_neg hkj] at hu ⊢
      exact h5 j u hu
theorem Fresh.front {A : Option Addr} {n c k : Nat} (h : Fresh B w (.slice A n c) l) (hk : k ≤ l.length) (hk0 : 0 < k) : Fresh B w (.slice A k c) (l.take k) := by
  rcases h with ⟨h, rfl⟩ | ⟨g, c', T, cs, e, h1, h2, h3, h4, h5⟩
  · simp at hk; omega
  · injection e with e1 e2 e3
    subst e1; subst e3
    refine .inr ⟨g, c, T, cs, by simp [hk], by simp; omega, h2, h3, h4, fun j u hu => h5 j u ?_⟩
    unfold b8s at hu ⊢
    rw [List.map_take, List.getElem?_take] at hu
    split at hu
    · exact hu
    · cases hu
theorem Ow.fresh {base : Nat} (h : Ow w base v l) : Fresh base w v l := by
  obtain ⟨hz, h2⟩ := h
  rcases h2 with ⟨rfl, hn⟩ | ⟨g, cap, cur, rfl, hg, hh, h3, h4, h5, h6⟩
  · exact .inl ⟨rfl, List.eq_nil_of_length_eq_zero hn⟩
  · refine .inr ⟨g, cap, _, cur.toList, rfl, h3, h4, hg, hh, fun j u hu => ?_⟩
    rw [← h6, List.getElem?_take] at hu
    split at hu
    · exact hu
    · cases hu
end
end Go.Proofs.Ytpoicbhbkabllaa

namespace Go.Proofs.Ytpoicbhbkabllaa
set_option linter.unusedSimpArgs false
set_option linter.unusedVariables false
open Go.RowKit Go.Shelf
attribute [local go_sem] Oper.semAt_some

set_option maxRecDepth 100000 in
set_option maxHeartbeats 1000000 in
theorem chunk_in (F : Fence) (n : Nat) (h1 : F.fn 68) (hro : F.round = none) (A : Option Addr) (len cap : Nat) (w : World) :
    CallsIn F n Try.prog 68 #[.slice A len cap, .int .i64 128] w fun e w' => e = .returned (.func (.func 90) #[] #[.pointer (some ⟨w.heap.size, 0, none⟩), .pointer (some ⟨w.heap.size + 1, 0, none⟩)]) ∧ w' = (w.alloc (.cells #[.slice A len cap] 30)).alloc (.cells #[.int .i64 128] 3) := by
  refine callsIn_of_wp Try.func68 rfl h1 ?_ hro
  simp only [Try.ntmps68, List.size_toArray, List.length_cons, List.length_nil, Nat.reduceAdd, Nat.reduceSub, Array.replicate_succ, Array.replicate_zero, List.push_toArray, List.append_toArray, List.nil_append, List.cons_append]
  gi_wp2
  go_ret
  refine ⟨?_, rfl⟩
  simp
/-- the j-th part's place -/
abbrev encC (ad : Addr) (i : Nat) : Array Value := #[.slice (some (ad.add (128 * i))) 128 128]

end Go.Proofs.Ytpoicbhbkabllaa

namespace Go.Proofs.Ytpoicbhbkabllaa
set_option linter.unusedSimpArgs false
set_option linter.unusedVariables false
open Go.RowKit Go.Shelf
attribute [local go_sem] Oper.semAt_some

abbrev ByW (w : World) (B : Nat) (v : Value) (l : List Wt) : Prop := RowOn cWt w (fun k => k < B) (fun _ => True) v l
theorem Kp.byW {B : Nat → Prop} {W W' : World} {B0 : Nat} {v : Value} {l : List Wt} (hk : Kp B W W') (hB : ∀ k, B k → B0 ≤ k) (h : ByW W B0 v l) : ByW W' B0 v l := Kp.row (fun _ _ _ h => h) hk hB h
theorem ByW.below {w w' : World} {B : Nat} {v : Value} {l : List Wt} (h : ByW w B v l) (hb : Below B w w') : ByW w' B v l := by
  obtain ⟨A, c, h1, h2, h3, h4⟩ := h
  refine ⟨A, c, h1, h2, h3, fun hn => ?_⟩
  obtain ⟨ad, e, hb', hc⟩ := h4 hn
  refine ⟨ad, e, hb', fun i x hx => ?_⟩
  obtain ⟨cs, ha, hcs⟩ := hc i x hx
  exact ⟨cs, ha, fun j u hu => (hb.cell (by rw [add_block]; exact hb')).trans (hcs j u hu)⟩
/-- the j-th from the end -/
def backP (wt : List Wt) (j : Nat) : Nat × Wt := (wt.length - 1 - j, wt.getD (wt.length - 1 - j) (0, zeroB))
theorem backP_at (wt : List Wt) (q k : Nat) (hq : q < wt.length) (hk : k + (q + 1) = wt.length) : backP wt k = (q, wt[q]) := by
  unfold backP
  have : wt.length - 1 - k = q := by omega
  rw [this, List.getD_eq_getElem?_getD, List.getElem?_eq_getElem hq]
  rfl
abbrev encB (x : Nat × Wt) : Array Value := #[.int .i64 (x.1 : Int), .agg (encW x.2).toArray]

set_option maxRecDepth 100000 in
set_option maxHeartbeats 1000000 in
theorem backw_in (F : Fence) (n : Nat) (h1 : F.fn 43) (hro : F.round = none) (A : Option Addr) (len cap : Nat) (w : World) :
    CallsIn F n Try.prog 43 #[.slice A len cap] w fun e w' => e = .returned (.func (.func 70) #[] #[.pointer (some ⟨w.heap.size, 0, none⟩)]) ∧ w' = w.alloc (.cells #[.slice A len cap] 82) := by
  refine callsIn_of_wp Try.func43 rfl h1 ?_ hro
  simp only [Try.ntmps43, List.size_toArray, List.length_cons, List.length_nil, Nat.reduceAdd, Nat.reduceSub, Array.replicate_succ, Array.replicate_zero, List.push_toArray, List.append_toArray, List.nil_append, List.cons_append]
  gi_wp2
  go_ret
  exact ⟨rfl, rfl⟩

set_option maxRecDepth 100000 in
set_option maxHeartbeats 3200000 in
theorem backw1_in (F : Fence) (n : Nat) (h7 : F.fn 70) (hro : F.round = none) (hn : 1 ≤ n) (l Bs B0 : Nat) (B : Nat → Prop) (A : Option Addr) (cap : Nat) (xs : List Wt) (hl : xs.length ≤ 1000000) (J Jx : List (Nat × Wt) → World → Prop)
    (hBs : ¬ B Bs) (hBB : ∀ k, B k → B0 ≤ k)
    (hY : ∀ pre x W, J pre W → pre.length < xs.length → YieldAt F (n - 1) Try.prog l (encB x) W fun e W' =>
      (e = .returned (.bool true) ∧ J (pre ++ [x]) W' ∧ Kp B W W') ∨ (e = .returned (.bool false) ∧ Jx (pre ++ [x]) W'))
    (W : World) (hBW : ∀ k, B k → k < W.heap.size) (hJ : AbidesFrom W.heap.size J) (hc : W.cell? ⟨Bs, 0, none⟩ = some (.slice A xs.length cap)) (hrow : ByW W B0 (.slice A xs.length cap) xs) (h0 : J [] W) :
    CallsIn F n Try.prog 70 #[.func (.yield l) #[] #[], .pointer (some ⟨Bs, 0, none⟩)] W fun e W' => (∃ v, e = .returned v) ∧
      ((∃ ys, ys = upto (backP xs) xs.length ∧ J ys W') ∨ (∃ pre, (∃ k, k ≤ xs.length ∧ pre = upto (backP xs) k) ∧ Jx pre W')) := by
  obtain ⟨_, hc1, hc2⟩ := hrow.len_
  unfold maxLen at hc2
  have hbp := backP_at xs
  have Hbp := Lib.hid hbp
  clear hbp
  refine callsIn_of_wp Try.func70 rfl h7 ?_ hro
  simp only [Try.ntmps70, List.size_toArray, List.length_cons, List.length_nil, Nat.reduceAdd, Nat.reduceSub, Array.replicate_succ, Array.replicate_zero, List.push_toArray, List.append_toArray, List.nil_append, List.cons_append]
  gi_wp2
  gi_loopw [3] (fun i wr => ∃ k m : Nat, k + m = xs.length ∧ i = .int .i64 ((m : Int) - 1) ∧ J (upto (backP xs) k) wr ∧ Kp B W wr ∧ W.heap.size ≤ wr.heap.size)
    (fun i _ => (intOf i + 1).toNat)
  case atStart => exact ⟨0, xs.length, by omega, rfl, h0, Kp.refl _ _, Nat.le_refl _⟩
  case round =>
    obtain ⟨k, m, hkm, rfl, hJs, hkp, hsz⟩ := hrel
    have Hkp := Lib.hid hkp
    cases m with
    | succ q =>
      have hlt : q < xs.length := by omega
      have hbp := Hbp.out q k hlt hkm
      have e1 : (((q + 1 : Nat) : Int) - 1) = (q : Int) := by omega
      rw [e1]
      have hcs := hkp.cell hc hBs
      have hrw := hkp.byW hBB hrow
      obtain ⟨ad, cs, rfl, hab, ⟨rfl, _⟩, hcl⟩ := hrw.at_ q _ (List.getElem?_eq_getElem hlt)
      have hld : ∀ (j : Nat) (v : Value), (encW (xs[q]))[j]? = some v → wr.cell? ((ad.add (q * 129)).add j) = some v := fun j v hv => by rw [add_add]; exact hcl j v hv
      have Hld := Lib.hid hld
      clear hrw hcl hld
      obtain ⟨fn, tmps, assign, body, hy, hR⟩ := hY _ (backP xs k) _ hJs (by rw [upto_length]; omega)
      have hus := upto_succ (backP xs) k
      rw [hbp] at hy hR hus
      have Hus := Lib.hid hus
      dsimp only [encB] at hy
      generalize xs[q] = x at *
      have Hkp := Lib.hid hkp
      clear hkp hus hbp
      gi_wp2_with (refine wpListIn_load_agg rfl 88 (.tmp 15) rfl (ad.add (q * 129)) rfl (encW x) Hld.out Try.underlying88 rfl (by rw [encW_len]; kernel_rfl) ?_)
      refine hR.mono ?_
      rintro e W3 (⟨rfl, hJ3, hk3⟩ | ⟨rfl, hJx3⟩)
      · have hk3' := Hkp.out.trans hk3
        have hsz3 := hk3'.size
        rw [← Hus.out] at hJ3
        have HJ3 := Lib.hid hJ3
        have Hk3 := Lib.hid hk3'
        clear hR hy hk3 hJ3 hk3'
        gi_wp2
        go_roundw
        case rel => exact ⟨k + 1, q, by omega, rfl, HJ3.out, Hk3.out, hsz3⟩
        case measure => simp [intOf]
      · rw [← Hus.out] at hJx3
        have HJx3 := Lib.hid hJx3
        clear hJx3
        gi_wp2
        refine bodyPost_ret (results_none rfl _ _ _) rfl ?_
        exact ⟨⟨_, rfl⟩, .inr ⟨_, ⟨k + 1, by omega, rfl⟩, HJx3.out⟩⟩
    | zero =>
      obtain rfl : k = xs.length := by omega
      have e1 : (((0 : Nat) : Int) - 1) = -1 := rfl
      rw [e1]
      clear hkp
      gi_wp2
      go_end0
      exact ⟨⟨_, rfl⟩, .inl ⟨_, rfl, hJs⟩⟩

theorem backw_stops (F : Fence) (n : Nat) (h7 : F.fn 70) (hro : F.round = none) (hn : 1 ≤ n) (Bs B0 : Nat) (B : Nat → Prop) (A : Option Addr) (cap : Nat) (xs : List Wt) (hl : xs.length ≤ 1000000) (w : World)
    (hBs : Bs < w.heap.size) (hnB : ¬ B Bs) (hBB : ∀ k, B k → B0 ≤ k) (hBW : ∀ k, B k → k < w.heap.size) (hB0 : B0 ≤ w.heap.size)
    (hc : w.cell? ⟨Bs, 0, none⟩ = some (.slice A xs.length cap)) (hrow : ByW w B0 (.slice A xs.length cap) xs) :
    SeqStopsK F n Try.prog 70 #[.pointer (some ⟨Bs, 0, none⟩)] encB (Kp B) (fun ys => ys = upto (backP xs) xs.length)
      (fun pre => ∃ k, k ≤ xs.length ∧ pre = upto (backP xs) k) xs.length w := fun l J Jx W hW hJ _ hY h0 =>
  backw1_in F n h7 hro hn l Bs B0 B A cap xs hl J Jx hnB hBB hY W (fun k hk => Nat.lt_of_lt_of_le (hBW k hk) hW.size) hJ ((hW.cell (p := ⟨Bs, 0, none⟩) hBs).trans hc) (hrow.below (hW.mono hB0)) h0
end Go.Proofs.Ytpoicbhbkabllaa

namespace Go.Proofs.Ytpoicbhbkabllaa
set_option linter.unusedSimpArgs false
set_option linter.unusedVariables false
open Go.RowKit Go.Shelf
attribute [local go_sem] Oper.semAt_some

/-- the last write of a block, told from the end -/
theorem lastW_none (wt : List Wt) (i : Nat) : ∀ b : Blk, (∀ x ∈ wt, x.1 ≠ i) → lastW wt i b = b := by
  induction wt with
  | nil => intro b _; rfl
  | cons x t ih =>
    intro b h
    show lastW t i (if x.1 = i then x.2 else b) = b
    rw [if_neg (h x (by simp))]
    exact ih b fun y hy => h y (by simp [hy])
theorem lastW_append (a t : List Wt) (i : Nat) (b : Blk) : lastW (a ++ t) i b = lastW t i (lastW a i b) := by simp [lastW]
theorem lastW_at (wt : List Wt) (i q : Nat) (hq : q < wt.length) (he : (wt[q]).1 = i) (hn : ∀ j, (h : j < wt.length) → q < j → (wt[j]).1 ≠ i) (b : Blk) : lastW wt i b = (wt[q]).2 := by
  have e : wt = wt.take q ++ wt[q] :: wt.drop (q + 1) := by
    rw [← List.drop_eq_getElem_cons hq, List.take_append_drop]
  have h2 : lastW wt i b = lastW (wt.drop (q + 1)) i (if (wt[q]).1 = i then (wt[q]).2 else lastW (wt.take q) i b) := by
    conv => lhs; rw [e]
    rw [lastW_append]
    rfl
  rw [h2, if_pos he, lastW_none]
  intro x hx
  obtain ⟨j, hj, rfl⟩ := List.mem_iff_getElem.1 hx
  rw [List.getElem_drop]
  exact hn _ _ (by omega)
theorem upto_backP_ne {wt : List Wt} {i : Nat} (h : ∀ p ∈ upto (backP wt) wt.length, p.2.1 ≠ i) : ∀ x ∈ wt, x.1 ≠ i := by
  intro x hx
  obtain ⟨j, hj, rfl⟩ := List.mem_iff_getElem.1 hx
  have := h (backP wt (wt.length - 1 - j)) ((upto_mem _ _ _).2 ⟨_, by omega, rfl⟩)
  rw [backP_at wt j _ hj (by omega)] at this
  exact this
theorem upto_backP_lt {wt : List Wt} {i k : Nat} (hk : k ≤ wt.length) (h : ∀ p ∈ upto (backP wt) k, p.2.1 ≠ i) (j : Nat) (hj : j < wt.length) (hjk : wt.length - 1 - j < k) : (wt[j]).1 ≠ i := by
  have := h (backP wt (wt.length - 1 - j)) ((upto_mem _ _ _).2 ⟨_, hjk, rfl⟩)
  rw [backP_at wt j _ hj (by omega)] at this
  exact this
theorem BoxAt.below_x {T : TypeId} {w w' : World} {g : Nat} {cs : List Value} (h : BoxAt T w g cs) (hb : Below w.heap.size w w') : BoxAt T w' g cs := h.below h.lt hb
def zeroBc : List Value := List.replicate 128 (.int .u8 0)
theorem run_alloc_z (w : World) (T : TypeId) {z : Value} {n bytes : Nat} (hinfo : (Try.prog.info? T).map (fun i => (i.zero, i.size, i.bytes)) = some (some z, n, bytes)) (cs : List Value) (hz : z.cells = cs.toArray) :
    (Instr.alloc T true (.tuple #[])).run Try.prog w = .ok (.pointer (some ⟨w.heap.size, 0, none⟩)) (w.alloc (.cells cs.toArray T)) := by
  obtain ⟨i, hi, hz0, hz1, hby⟩ := info_parts hinfo
  simp [Instr.alloc, Sem.run_bind, zeroValue, typeInfo, hi, hz0, newVar, newRow, hz]

set_option maxRecDepth 100000 in
set_option maxHeartbeats 6400000 in
theorem dread_any (w : World) (S : Nat → Prop) (g : Nat) (d : DState) (i : Int) (hwl : d.wt.length ≤ 1000000) (h : DiskAt w S g d) :
    Calls Try.prog 20 #[.pointer (some ⟨g, 0, none⟩), .int .i64 i] w fun e w' => ∃ v, e = .returned (.tuple #[v, .int .i64 (mayE d i)]) ∧ Fresh w.heap.size w' v (readL d i) ∧ Below w.heap.size w w' := by
  have hb0 := balloc w (.cells #[.int .i64 i] 3)
  have hx0 := BoxAt.new_ 3 w [.int .i64 i]
  have h0 := h.below_ hb0
  have hmay := dmay_any _ S g d i h0
  have hwl2 := hwl
  have hz0 : w.heap.size < (w.alloc (.cells #[.int .i64 i] 3)).heap.size := by simp
  unfold readL
  refine (callsIn_wide (n := 4)).1 ?_
  refine callsIn_of_wp_marks Try.func20 rfl trivial ?_ rfl
  simp only [Try.ntmps20, List.size_toArray, List.length_cons, List.length_nil, Nat.reduceAdd, Nat.reduceSub, Array.replicate_succ, Array.replicate_zero, List.push_toArray, List.append_toArray, List.nil_append, List.cons_append]
  have Hb0 := Lib.hid hb0
  have H0 := Lib.hid h0
  have Hx0 := Lib.hid hx0
  have hc0 := hx0.cell 0 _ rfl
  clear hb0 h0 hx0 h
  by_cases hm : mayE d i ≠ 0
  · rw [if_pos hm]
    have hd : (mayE d i == 0) = false := by simpa using hm
    clear hm
    generalize mayE d i = me at *
    have Hm := Lib.hid hmay
    clear hmay
    gi_wp2
    generalize w.alloc (.cells #[.int .i64 i] 3) = w0 at *
    refine ⟨trivial, ?_⟩
    refine (callsIn_wide.2 Hm.out).mono ?_
    rintro _ _ ⟨rfl, rfl⟩
    gi_wp2
    exact ⟨_, results_tmp2 rfl _ _ _, .slice none 0 0, rfl, Fresh.nil_, Hb0.out⟩
  · rw [if_neg hm]
    have hm0 : mayE d i = 0 := by simpa using hm
    have hi : 0 ≤ i ∧ i < (d.bl.length : Int) := by
      unfold mayE at hm0
      split at hm0
      · cases hm0
      · split at hm0
        · assumption
        · cases hm0
    rw [hm0] at hmay ⊢
    obtain ⟨k, rfl⟩ : ∃ k : Nat, i = (k : Int) := ⟨i.toNat, by omega⟩
    have hkn : k < d.bl.length := by omega
    have Hm := Lib.hid hmay
    have Hkn := Lib.hid hkn
    have hgd : d.bl.getD k zeroB = d.bl[k] := by rw [List.getD_eq_getElem?_getD, List.getElem?_eq_getElem hkn]; rfl
    obtain ⟨bk, hbk⟩ : ∃ bk, bk = d.bl[k] := ⟨_, rfl⟩
    rw [Int.toNat_natCast]
    obtain ⟨rb, hrb⟩ : ∃ rb, rb = readB d k := ⟨_, rfl⟩
    rw [← hrb]
    unfold readB at hrb
    rw [hgd, ← hbk] at hrb
    have Hrb := Lib.hid hrb
    have Hbk := Lib.hid hbk
    clear hmay hm hm0 hi hgd hrb hbk
    gi_wp2
    generalize w.alloc (.cells #[.int .i64 (k : Int)] 3) = w0 at *
    refine ⟨trivial, ?_⟩
    refine (callsIn_wide.2 Hm.out).mono ?_
    rintro _ _ ⟨rfl, rfl⟩
    gi_wp2
    obtain ⟨hb, vw, h1, h2, h3, h4, h5, h6⟩ := H0.out.ex
    have h3r := h3.row
    obtain ⟨A, c, rfl, hc1, hc2, _⟩ := h3.form'
    unfold maxLen at hc2
    have hld : ∀ (j : Nat) (v : Value), (b8s bk.1)[j]? = some v → w0.cell? ((⟨hb, k * 128, none⟩ : Addr).add j) = some v := fun j v hv => by
      rw [Addr.add_mid]
      rw [Hbk.out] at hv
      have hj : j < 128 := by
        have := (List.getElem?_eq_some_iff.1 hv).1
        rwa [blk_len] at this
      exact h2.cell _ _ (by rw [flatB_at _ _ _ hkn hj]; exact hv)
    have hrw : ByW w0 w0.heap.size (.slice A d.wt.length c) d.wt := h3r.mono (fun q hq => hq.2) (fun _ h => h.elim)
    have hltS := H0.out.lt
    have hgl := hltS g H0.out.here
    have hbl := hltS hb h5
    have hwl : w.heap.size < w0.heap.size := by omega
    have Hld := Lib.hid hld
    have H1 := Lib.hid h1
    have Hrw := Lib.hid hrw
    obtain ⟨nb, hnb⟩ : ∃ nb, nb = d.bl.length := ⟨_, rfl⟩
    rw [← hnb] at h1
    have hkn2 : k < nb := by omega
    clear hld h2 h3 h3r h6 hrw hltS Hm hnb hkn
    refine wpIn_wide.2 ?_
    refine wp_region_mixL (ds := [16, 17, 18, 19, 20, 21, 22, 7]) 8 (fun bb vs W' => Below w0.heap.size w0 W' ∧ (bb 7 = false → W' = w0.drew) ∧ (bb 7 = true → W' = w0.drew.alloc (.cells zeroBc.toArray 86) ∧ vs 7 = .pointer (some ⟨w0.heap.size, 0, none⟩))) [some 16, some 17, some 18, some 19, some 20, some 21, some 22, some 7]
      [fun v => v = .pointer (some ⟨g, 0, none⟩), fun v => v = .pointer (some ⟨g, 0, none⟩), fun v => v = .pointer (some ⟨g, 0, none⟩), fun v => v = .slice (some ⟨hb, 0, none⟩) nb nb, fun v => v = .int .i64 (k : Int), fun v => v = .pointer (some ⟨hb, k * 128, none⟩), fun v => v = .agg (b8s bk.1).toArray, fun _ => True]
      rfl rfl rfl (by kernel_rfl) (by kernel_rfl) ?_ (fun _ => ⟨(Below.refl _ w0).drew, fun _ => rfl, fun h => by cases h⟩) ?_
    · refine ⟨?_, ?_, ?_, ?_, ?_, ?_, ?_, ?_, trivial⟩
      · -- 0: slot 16 := Op.move t0
        refine obM_yes fun f bb w' hj hs hd hp => ?_
        simp [PreO, factO, valOf, Region.binds] at hp hd
        refine ⟨by simp [Gd, valOf, hp], ?_⟩
        refine mildM_val (.pointer (some ⟨g, 0, none⟩)) ?_ rfl (by simpa using hj)
        simp [execOp, evalF, hp, go_sem]
      · -- 1: slot 17 := Op.nilCheck t16
        refine obM_yes fun f bb w' hj hs hd hp => ?_
        simp [PreO, factO, valOf, Region.binds] at hp hd
        refine ⟨by simp [Gd, valOf, hp], ?_⟩
        refine mildM_val (.pointer (some ⟨g, 0, none⟩)) ?_ rfl (by simpa using hj)
        simp [execOp, evalF, hp, go_sem]
      · -- 2: slot 18 := Op.fieldAddr 84 t17 0
        refine obM_yes fun f bb w' hj hs hd hp => ?_
        simp [PreO, factO, valOf, Region.binds] at hp hd
        refine ⟨by simp [Gd, valOf, hp], ?_⟩
        refine mildM_val (.pointer (some ⟨g, 0, none⟩)) ?_ rfl (by simpa using hj)
        simp [execOp, evalF, hp, go_sem]
      · -- 3: slot 19 := Op.load 81 t18
        refine obM_yes fun f bb w' hj hs hd hp => ?_
        simp [PreO, factO, valOf, Region.binds] at hp hd
        refine ⟨by simp [Gd, valOf, hp], ?_⟩
        have hc := (hj.1.cell (p := ⟨g, 0, none⟩) hgl).trans (h1.cell 0 _ rfl)
        refine mildM_val (.slice (some ⟨hb, 0, none⟩) nb nb) ?_ rfl (by simpa using hj)
        simp [execOp, evalF, hp, go_sem, hc]
      · -- 4: slot 20 := Op.load 3 t3
        refine obM_yes fun f bb w' hj hs hd hp => ?_
        simp [PreO, factO, valOf, Region.binds] at hp hd
        refine ⟨by simp [Gd, valOf, hp], ?_⟩
        have hc := (hj.1.cell (p := ⟨w.heap.size, 0, none⟩) hwl).trans hc0
        refine mildM_val (.int .i64 (k : Int)) ?_ rfl (by simpa using hj)
        simp [execOp, evalF, hp, go_sem, hc]
      · -- 5: slot 21 := Op.indexAddr 81 t19 t20
        refine obM_yes fun f bb w' hj hs hd hp => ?_
        simp [PreO, factO, valOf, Region.binds] at hp hd
        refine ⟨by simp [Gd, valOf, hp], ?_⟩
        refine mildM_val (.pointer (some ⟨hb, k * 128, none⟩)) ?_ rfl (by simpa using hj)
        simp [execOp, evalF, hp, go_sem, hkn2]
      · -- 6: slot 22 := Op.load 86 t21
        refine obM_yes fun f bb w' hj hs hd hp => ?_
        simp [PreO, factO, valOf, Region.binds] at hp hd
        refine ⟨by simp [Gd, valOf, hp], ?_⟩
        have hl := run_loadVar_cells w' ⟨hb, k * 128, none⟩ 86 (b8s bk.1) (fun j v hv => (hj.1.cell (by rw [add_block]; exact hbl)).trans (Hld.out j v hv)) Try.underlying86 rfl (by rw [blk_len]; kernel_rfl)
        refine mildM_val (.agg (b8s bk.1).toArray) ?_ rfl (by simpa using hj)
        simp only [execOp, evalF, List.contains_eq_mem, Instr.loadAt, Instr.sureAddr, Sem.run_bind, Sem.run_pure, Result.andThen_ok]
        simp [hp, hl]
      · -- 7: slot 7 := Op.alloc 86
        refine obM_yes fun f bb w' hj hs hd hp => ?_
        simp [PreO, factO, valOf, Region.binds] at hp hd
        refine ⟨by simp [Gd, valOf, hp], ?_⟩
        have hw' := hj.2.1 hs
        subst hw'
        refine mildM_val (.pointer (some ⟨w0.heap.size, 0, none⟩)) (w' := w0.drew.alloc (.cells zeroBc.toArray 86)) ?_ trivial ?_
        · simp only [execOp]
          simp [evalF, hp, run_alloc_z w0.drew _ info_block zeroBc rfl]
        · exact ⟨(Below.refl _ w0).drew.alloc (Nat.le_refl _) _, by simp, fun _ => ⟨rfl, by simp⟩⟩
    · intro f bb wd hall hj hp
      simp only [PostO] at hp
      obtain ⟨e0, e1, e2, e3, e4, e5, e6, _, _⟩ := hp
      simp only [fills, List.foldl_cons, List.foldl_nil, Act.put, List.setIfInBounds_toArray, List.set_cons_zero, List.set_cons_succ, e0, e1, e2, e3, e4, e5, e6]
      clear e0 e1 e2 e3 e4 e5 e6
      simp only [List.drop_succ_cons, List.drop_zero]
      obtain ⟨hjw, hj7⟩ := hj.2.2 (hall 7 (by decide))
      simp only [valOf, List.getElem?_cons_succ, List.getElem?_cons_zero] at hj7
      have hj7' : f 7 = .pointer (some ⟨w0.heap.size, 0, none⟩) := by simpa using hj7
      rw [hj7']
      subst hjw
      clear hall hj hj7 hj7'
      refine wpList_store_new rfl 86 (.tmp 7) (.tmp 22) rfl zeroBc (b8s bk.1) rfl rfl (by rw [blk_len]; kernel_rfl) (by rw [blk_len]; rfl) (b8s_one _) ?_
      have j1 := (H1.out.below_x (Below.refl _ w0).drew).alloc (.cells (b8s bk.1).toArray 86)
      have j7 := BoxAt.new_ 86 w0.drew (b8s bk.1)
      have jx := (Hx0.out.below_x (Below.refl _ w0).drew).alloc (.cells (b8s bk.1).toArray 86)
      have jb : Below w0.heap.size w0 (w0.drew.alloc (.cells (b8s bk.1).toArray 86)) := (Below.refl _ w0).drew.alloc (Nat.le_refl _) (.cells (b8s bk.1).toArray 86)
      have jr := Hrw.out.below jb
      have jb0 := Hb0.out.trans (jb.mono (by omega))
      have jz : w0.heap.size < (w0.drew.alloc (.cells (b8s bk.1).toArray 86)).heap.size := by simp
      have hsz : w0.drew.heap.size = w0.heap.size := rfl
      rw [hsz] at j7
      have hd1 := j1.cell 1 _ rfl
      have J1 := Lib.hid j1
      have J7 := Lib.hid j7
      have Jx := Lib.hid jx
      have Jr := Lib.hid jr
      have Jb0 := Lib.hid jb0
      have Jb := Lib.hid jb
      clear j1 j7 jx jr jb jb0 hsz hc0 h1 H1 Hx0 Hrw H0 Hld h4 h5
      generalize (w0.drew.alloc (.cells (b8s bk.1).toArray 86)) = w1 at *
      generalize w0.heap.size = g7 at *
      simp only [Act.put]
      go_wp2_with fail
      gi_wp2_with (refine ⟨trivial, ?_⟩; gi_at_call 43; refine (backw_in Fence.wide 3 trivial rfl _ _ _ _).mono ?_; rintro e w' ⟨rfl, rfl⟩)
      have k0 := BoxAt.new_ 82 w1 [.slice A d.wt.length c]
      have k7 := J7.out.alloc (.cells #[.slice A d.wt.length c] 82)
      have kx := Jx.out.alloc (.cells #[.slice A d.wt.length c] 82)
      have kb := balloc w1 (.cells #[.slice A d.wt.length c] 82)
      have kr := Jr.out.below (kb.mono (by omega))
      have kb0 := Jb0.out.trans (kb.mono (by omega))
      have kz : w1.heap.size < (w1.alloc (.cells #[.slice A d.wt.length c] 82)).heap.size := by simp
      have hcN := k0.cell 0 _ rfl
      have K7 := Lib.hid k7
      have Kx := Lib.hid kx
      have Kr := Lib.hid kr
      have Kb0 := Lib.hid kb0
      clear k0 k7 kx kb kr kb0 J1 J7 Jx Jr Jb0 Jb hd1
      generalize (w1.alloc (.cells #[.slice A d.wt.length c] 82)) = w2 at *
      generalize w1.heap.size = g1 at *
      refine wpIn_rangeFunc_ownH rfl (by omega) (gf := 70) (lb := #[.pointer (some ⟨g1, 0, none⟩)]) rfl trivial (enters_of Try.func70 (by kernel_rfl) rfl)
        (backw_stops Fence.wide 3 trivial rfl (by omega) g1 g7 (fun q => q = g7) A c d.wt hwl2 w2 (by omega) (by omega) (by rintro q rfl; omega) (by rintro q rfl; omega) (by omega) hcN Kr.out) Kp.trans (fun W l o o' h1 h2 h3 h4 => Kp.putObj _ w2.heap.size W l o o' h1 h2 h3 h4) (Below.refl _ _) (fun _ => rfl)
        (fun pre W => ((∀ p ∈ pre, p.2.1 ≠ k) ∧ BoxAt 86 W g7 (b8s bk.1) ∧ BoxAt 3 W w.heap.size [.int .i64 (k : Int)] ∧ w2.heap.size ≤ W.heap.size) ∧ Below w.heap.size w W)
        (fun cd pre W => (cd = .exit 0 ∧ ∃ ini last, pre = ini ++ [last] ∧ (∀ p ∈ ini, p.2.1 ≠ k) ∧ last.2.1 = k ∧ BoxAt 86 W g7 (b8s last.2.2.1)) ∧ Below w.heap.size w W)
        (OwnFrom.and (Own.from (fun s X Y row hs hg hr => ⟨hs.1, hs.2.1.ownk hg hr, hs.2.2.1.ownk hg hr, Nat.le_trans hs.2.2.2 hg.size⟩) _) (ownFrom_below (Nat.le_refl _) (by omega)))
        (fun cd => OwnFrom.and (Own.from (fun s X Y row hs hg hr => by obtain ⟨e0, ini, last, e1, e2, e3, e4⟩ := hs; exact ⟨e0, ini, last, e1, e2, e3, e4.ownk hg hr⟩) _) (ownFrom_below (Nat.le_refl _) (by omega)))
        ⟨⟨by simp, K7.out, Kx.out, Nat.le_refl _⟩, Kb0.out⟩
        (fun p a' W => ∃ Bx, w2.heap.size ≤ Bx ∧ BoxAt 88 W Bx (encW p.2) ∧ a' = Act.mk #[.pointer (some ⟨g, 0, none⟩), .int .i64 (k : Int), undef, .pointer (some ⟨w.heap.size, 0, none⟩), .slice none 0 0, .int .i64 0, .int .i64 0, .pointer (some ⟨g7, 0, none⟩), undef, .pointer (some ⟨Bx, 0, none⟩),
          .pointer (some ⟨g, 0, none⟩), .int .i64 (k : Int), .int .i64 0, .int .i64 0, .bool false, undef, .pointer (some ⟨g, 0, none⟩), .pointer (some ⟨g, 0, none⟩), .pointer (some ⟨g, 0, none⟩), .slice (some ⟨hb, 0, none⟩) nb nb, .int .i64 (k : Int), .pointer (some ⟨hb, k * 128, none⟩), .agg (b8s bk.1).toArray,
          .pointer (some ⟨g, 0, none⟩), .pointer (some ⟨g, 0, none⟩), .pointer (some ⟨g, 1, none⟩), .slice A d.wt.length c, .func (.func 70) #[] #[.pointer (some ⟨g1, 0, none⟩)], .int .i64 (p.1 : Int), .agg (encW p.2).toArray, undef, undef, undef, undef, undef, undef, undef] [])
        (fun p a' _ X Y row hs hg hr => by obtain ⟨Bx, h1, h2, h3⟩ := hs; exact ⟨Bx, h1, h2.ownk hg (fun r e => (hr r e).2), h3⟩)
        ?assign ?body ?done ?stop
      case assign =>
        rintro lq pre p W K ⟨⟨i1, i2, i3, i4⟩, hBW⟩ hK
        simp only [encB, List.zip_toArray, List.zip_cons_cons, List.zip_nil_left, List.zip_nil_right, List.foldl_toArray', List.foldl_toArray, List.foldl_cons, List.foldl_nil, List.setIfInBounds_toArray, List.set_cons_succ, List.set_cons_zero]
        refine wpIn_region_lit ?_
        refine wpListIn_alloc_z rfl 88 rfl info_write zeroWc zeroW_cells ?_
        refine wpListIn_store_new rfl 88 (.tmp 9) (.tmp 29) rfl zeroWc (encW p.2) rfl rfl (by rw [encW_len]; kernel_rfl) (by rw [encW_len]; rfl) (encW_one p.2) ?_
        gi_wp2
        exact hK _ _ ((KeepsOthers.alloc _ _).from _) (Kp.alloc _ _ _) ⟨⟨i1, i2.alloc _, i3.alloc _, by simp; omega⟩, hBW.alloc hBW.size _⟩ ⟨W.heap.size, i4, BoxAt.new_ 88 W _, rfl⟩
      case body =>
        rintro lq pre p a' W hlq hr0 ⟨⟨i1, i2, i3, i4⟩, hBW⟩ ⟨Bx, hBx, bX, rfl⟩ hlt
        have hp0 := bX.cell 0 (.int .i64 (p.2.1 : Int)) rfl
        have hk0 := i3.cell 0 _ rfl
        have hld := encW_at bX
        by_cases he : p.2.1 = k
        · have hd1 : ((p.2.1 : Int) == (k : Int)) = true := by rw [he]; simp
          have hd2 : (p.2.1 == k) = true := by rw [he]; simp
          have He := Lib.hid he
          have Hld := Lib.hid hld
          clear he hld
          gi_wp2_with (first
            | (refine wpListIn_load_agg rfl 86 (.tmp 34) rfl ⟨Bx, 1, none⟩ rfl (b8s p.2.2.1) Hld.out Try.underlying86 rfl (by rw [blk_len]; kernel_rfl) ?_)
            | (refine wpListIn_store_box rfl 86 86 (.tmp 7) (.tmp 35) rfl g7 (b8s bk.1) (b8s p.2.2.1) rfl rfl i2 (by rw [blk_len, blk_len]) (b8s_one _) (by rw [blk_len]; kernel_rfl) ?_; intro hbx))
          exact ⟨KeepsFrom.of_grownBy (gsetRow' W g7 _) (fun j e => by injection e with e; omega), ⟨rfl, pre, p, rfl, i1, He.out, hbx⟩, hBW.grown (gsetRow' W g7 _) hBW.size (fun j e => by injection e with e; omega)⟩
        · have hd1 : ((p.2.1 : Int) == (k : Int)) = false := beq_eq_false_iff_ne.2 (by omega)
          have hd2 : (p.2.1 == k) = false := beq_eq_false_iff_ne.2 he
          have He := Lib.hid he
          clear he hld
          gi_wp2
          exact ⟨KeepsFrom.refl _ _, Kp.refl _ _, ⟨fun q hq => by
            rw [List.mem_append, List.mem_singleton] at hq
            rcases hq with hq | rfl
            · exact i1 q hq
            · exact He.out, i2, i3, i4⟩, hBW⟩
      case done =>
        rintro D ys W hD rfl ⟨⟨i1, i2, i3, i4⟩, hBW⟩ hK
        have hno := upto_backP_ne i1
        have hlw := lastW_none d.wt k bk hno
        rw [← Hrb.out] at hlw
        have Hlw := Lib.hid hlw
        have I2 := Lib.hid i2
        have HB := Lib.hid hBW
        clear hno hlw i1 i2 i3 hBW
        gi_wp2
        refine ⟨by simp, .inl ⟨_, _, rfl, run_takeDeferred hK, ?_⟩⟩
        refine ⟨_, results_tmp2 rfl _ _ _, _, rfl, ?_, HB.out.trans (belowK_b (w := w) (Nat.le_refl _) W D _ _ (by omega) hK rfl rfl)⟩
        have := I2.out.ownk (grownBy_putObj' W D (.deferred none)) (fun r e => by cases e; exact ⟨_, hK, rfl⟩)
        rw [Hlw.out]
        exact .inr ⟨g7, 128, _, _, by rw [bk.2]; rfl, by rw [bk.2]; decide, by simp [maxLen], by omega, this, fun j u hu => hu⟩
      case stop =>
        rintro D cd pre W hD ⟨m, hm, rfl⟩ ⟨⟨rfl, ini, last, e1, e2, e3, i2⟩, hBW⟩ hK
        obtain ⟨m', rfl⟩ : ∃ m', m = m' + 1 := by
          cases m with
          | zero => simp [upto] at e1
          | succ m' => exact ⟨m', rfl⟩
        rw [upto_succ] at e1
        obtain ⟨rfl, e5⟩ := List.append_inj' e1 rfl
        obtain rfl : backP d.wt m' = last := by simpa using e5
        have hq : d.wt.length - 1 - m' < d.wt.length := by omega
        have hbp := backP_at d.wt (d.wt.length - 1 - m') m' hq (by omega)
        rw [hbp] at e3 i2
        have hlw := lastW_at d.wt k _ hq e3 (fun j hj hlt => upto_backP_lt (by omega) e2 j hj (by omega)) bk
        rw [← Hrb.out] at hlw
        have Hlw := Lib.hid hlw
        have I2 := Lib.hid i2
        have HB := Lib.hid hBW
        clear hlw i2 hBW e1 e2 e3 e5 hbp
        gi_wp2
        refine ⟨by simp, .inl ⟨_, _, rfl, run_takeDeferred hK, ?_⟩⟩
        refine ⟨_, results_tmp2 rfl _ _ _, _, rfl, ?_, HB.out.trans (belowK_b (w := w) (Nat.le_refl _) W D _ _ (by omega) hK rfl rfl)⟩
        have := I2.out.ownk (grownBy_putObj' W D (.deferred none)) (fun r e => by cases e; exact ⟨_, hK, rfl⟩)
        have hl8 := (d.wt[d.wt.length - 1 - m']).2.2
        rw [Hlw.out]
        exact .inr ⟨g7, 128, _, _, by rw [hl8]; rfl, by rw [hl8]; decide, by simp [maxLen], by omega, this, fun j u hu => hu⟩
end Go.Proofs.Ytpoicbhbkabllaa

namespace Go.Proofs.Ytpoicbhbkabllaa
set_option linter.unusedSimpArgs false
set_option linter.unusedVariables false
open Go.RowKit
set_option maxRecDepth 100000
set_option maxHeartbeats 1600000

theorem ncount (w : World) : Calls Try.prog 24 #[.pointer none] w fun e w' => e = .returned (.int .i64 0) ∧ w = w' := by
  go_enter Try.func24, Try.ntmps24
  go_wp2_with fail
  go_ret
  exact ⟨rfl, rfl⟩
theorem nwaiting (w : World) : Calls Try.prog 21 #[.pointer none] w fun e w' => e = .returned (.int .i64 0) ∧ w = w' := by
  go_enter Try.func21, Try.ntmps21
  go_wp2_with fail
  go_ret
  exact ⟨rfl, rfl⟩
theorem non_ (w : World) : Calls Try.prog 18 #[.pointer none] w fun e w' => e = .returned (.bool false) ∧ w = w' := by
  go_enter Try.func18, Try.ntmps18
  go_wp2_with fail
  go_ret
  exact ⟨rfl, rfl⟩
theorem nfuse (w : World) (n : Int) : Calls Try.prog 14 #[.pointer none, .int .i64 n] w fun e w' => e = .returned (.tuple #[]) ∧ w = w' := by
  go_enter Try.func14, Try.ntmps14
  go_wp2_with fail
  go_end0
  exact ⟨rfl, rfl⟩
theorem noff (w : World) : Calls Try.prog 26 #[.pointer none] w fun e w' => e = .returned (.tuple #[]) ∧ w = w' := by
  go_enter Try.func26, Try.ntmps26
  go_wp2_with fail
  go_end0
  exact ⟨rfl, rfl⟩
theorem nback (w : World) (k t : Int) : Calls Try.prog 19 #[.pointer none, .int .u64 k, .int .u64 t] w fun e w' => e = .returned (.tuple #[]) ∧ w = w' := by
  go_enter Try.func19, Try.ntmps19
  go_wp2_with fail
  refine bodyPost_ret (results_none rfl _ _ _) rfl ?_
  exact ⟨rfl, rfl⟩
theorem nthere (w : World) (i : Int) : Calls Try.prog 50 #[.pointer none, .int .i64 i] w fun e w' => e = .returned (.bool false) ∧ w = w' := by
  have Hc := Lib.hid (ncount w)
  by_cases hi : 0 ≤ i
  · have hd : decide (0 ≤ i) = true := decide_eq_true hi
    have hd2 : decide (i < 0) = false := decide_eq_false (by omega)
    clear hi
    go_enter Try.func50, Try.ntmps50
    go_wp2_with fail
    refine Hc.out.mono ?_
    rintro _ _ ⟨rfl, rfl⟩
    go_wp2_with fail
    go_ret
    exact ⟨rfl, rfl⟩
  · have hd : decide (0 ≤ i) = false := decide_eq_false hi
    clear hi
    go_enter Try.func50, Try.ntmps50
    go_wp2_with fail
    go_ret
    exact ⟨rfl, rfl⟩
theorem nmay (w : World) (i : Int) : Calls Try.prog 42 #[.pointer none, .int .i64 i] w fun e w' => e = .returned (.int .i64 6) ∧ w = w' := by
  have Ho := Lib.hid (non_ w)
  go_enter Try.func42, Try.ntmps42
  go_wp2_with fail
  refine Ho.out.mono ?_
  rintro _ _ ⟨rfl, rfl⟩
  go_wp2_with fail
  go_ret
  exact ⟨rfl, rfl⟩
theorem nread (w : World) (i : Int) : Calls Try.prog 20 #[.pointer none, .int .i64 i] w fun e w' => e = .returned (.tuple #[.slice none 0 0, .int .i64 6]) ∧ Below w.heap.size w w' := by
  have hb0 := balloc w (.cells #[.int .i64 i] 3)
  have hc0 := (BoxAt.new_ 3 w [.int .i64 i]).cell 0 _ rfl
  have Hb := Lib.hid hb0
  have Hm := Lib.hid (nmay (w.alloc (.cells #[.int .i64 i] 3)) i)
  clear hb0
  go_enter Try.func20, Try.ntmps20
  go_wp2_with fail
  generalize w.alloc (.cells #[.int .i64 i] 3) = w0 at *
  refine Hm.out.mono ?_
  rintro _ _ ⟨rfl, rfl⟩
  go_wp2_with fail
  go_ret2
  exact ⟨rfl, Hb.out⟩
theorem nwrite (w : World) (i : Int) (v : Value) : Calls Try.prog 16 #[.pointer none, .int .i64 i, v] w fun e w' => e = .returned (.int .i64 6) ∧ w = w' := by
  have Hm := Lib.hid (nmay w i)
  go_enter Try.func16, Try.ntmps16
  go_wp2_with fail
  refine Hm.out.mono ?_
  rintro _ _ ⟨rfl, rfl⟩
  go_wp2_with fail
  go_ret
  exact ⟨rfl, rfl⟩
theorem nsync (w : World) : Calls Try.prog 15 #[.pointer none] w fun e w' => e = .returned (.int .i64 6) ∧ w = w' := by
  have Hm := Lib.hid (non_ w)
  go_enter Try.func15, Try.ntmps15
  go_wp2_with fail
  refine Hm.out.mono ?_
  rintro _ _ ⟨rfl, rfl⟩
  go_wp2_with fail
  go_ret
  exact ⟨rfl, rfl⟩
theorem nspoil (w : World) (i a c : Int) : Calls Try.prog 27 #[.pointer none, .int .i64 i, .int .i64 a, .int .u8 c] w fun e w' => e = .returned (.int .i64 9) ∧ w = w' := by
  have Hm := Lib.hid (nthere w i)
  go_enter Try.func27, Try.ntmps27
  go_wp2_with fail
  refine Hm.out.mono ?_
  rintro _ _ ⟨rfl, rfl⟩
  go_wp2_with fail
  go_ret
  exact ⟨rfl, rfl⟩
end Go.Proofs.Ytpoicbhbkabllaa

namespace Go.Proofs.Ytpoicbhbkabllaa
set_option linter.unusedSimpArgs false
set_option linter.unusedVariables false
open Go.RowKit

/-! ### a disk that the caller has made -/
/-- the disk at g, all its blocks from B on, none of them in X -/
def DK (B : Nat) (X : Nat → Prop) (w : World) (g : Nat) (d : DState) : Prop := ∃ S, DiskAt w S g d ∧ ∀ k, S k → B ≤ k ∧ ¬ X k
theorem DK.post {B : Nat} {X S : Nat → Prop} {w w' : World} {g : Nat} {d' : DState} (hS : ∀ k, S k → B ≤ k ∧ ¬ X k) (hX : ∀ k, X k → k < w.heap.size) (hB : B ≤ w.heap.size) (h : DPost w S g d' w') : DK B X w' g d' ∧ Chg (fun k => B ≤ k ∧ ¬ X k) w w' := by
  obtain ⟨S', h1, h2, h3⟩ := h
  refine ⟨⟨S', h1, fun k hk => ?_⟩, h3.more fun k _ hk => hS k hk⟩
  rcases h2 k hk with h | h
  · exact hS k h
  · exact ⟨Nat.le_trans hB h, fun hx => by have := hX k hx; omega⟩
theorem DK.below_ {B : Nat} {X : Nat → Prop} {w w' : World} {g : Nat} {d : DState} (h : DK B X w g d) (hb : Below w.heap.size w w') : DK B X w' g d := by
  obtain ⟨S, h1, h2⟩ := h
  exact ⟨S, h1.below_ hb, h2⟩
/-- one more block that it has nothing to do with -/
theorem DK.apart {B : Nat} {X X' : Nat → Prop} {w : World} {g : Nat} {d : DState} (h : DK B X w g d) (hX : ∀ k, X' k → X k ∨ w.heap.size ≤ k) : DK B X' w g d := by
  obtain ⟨S, h1, h2⟩ := h
  refine ⟨S, h1, fun k hk => ⟨(h2 k hk).1, fun hx => ?_⟩⟩
  rcases hX k hx with h | h
  · exact (h2 k hk).2 h
  · have := h1.lt k hk; omega
theorem BX.of {w : World} {S : Nat → Prop} {v : Value} {l : List UInt8} (h : By w w.heap.size v l) (hn : ∀ q, v.ownBlock = some q → ¬ S q) : BX w S v l := by
  obtain ⟨A, c, h1, h2, h3, h4⟩ := (h.toRow (S := fun _ => True))
  subst h1
  refine ⟨A, c, rfl, h2, h3, fun hl => ?_⟩
  obtain ⟨ad, rfl, hb, hc⟩ := h4 hl
  exact ⟨ad, rfl, ⟨hb, hn _ rfl⟩, hc⟩

/-- what a deed may change -/
abbrev DChg (B : Nat) (X : Nat → Prop) (w w' : World) : Prop := Chg (fun k => B ≤ k ∧ ¬ X k) w w'
section
variable {B : Nat} {X : Nat → Prop} {w w' : World} {g : Nat} {d : DState}
theorem DChg.below_ (h : DChg B X w w') (hB : B ≤ w.heap.size) : Below B w w' := Chg.below h hB fun k hk => hk.1
theorem DChg.box {T : TypeId} {q : Nat} {cs : List Value} (h : DChg B X w w') (hq : X q) (hb : BoxAt T w q cs) : BoxAt T w' q cs := hb.chg h fun hk => hk.2 hq
theorem DK.lt (h : DK B X w g d) : g < w.heap.size ∧ B ≤ g := by
  obtain ⟨S, h1, h2⟩ := h
  exact ⟨h1.lt g h1.here, (h2 g h1.here).1⟩
theorem dwrite_dk {i : Int} {v : Value} {b : List UInt8} (h : DK B X w g d) (hX : ∀ k, X k → k < w.heap.size) (hB : B ≤ w.heap.size) (hw : d.wt.length ≤ 1000000) (hv : By w w.heap.size v b) (hvX : ∀ q, v.ownBlock = some q → q < B ∨ X q) :
    Calls Try.prog 16 #[.pointer (some ⟨g, 0, none⟩), .int .i64 i, v] w fun e w' => e = .returned (.int .i64 (writeE d i b)) ∧ DK B X w' g (writeD d i b) ∧ DChg B X w w' := by
  obtain ⟨S, h1, h2⟩ := h
  refine (dwrite_any w S g d i v b hw h1 (BX.of hv fun q hq hs => ?_)).mono ?_
  · rcases hvX q hq with h | h
    · have := (h2 q hs).1; omega
    · exact (h2 q hs).2 h
  · rintro e w' ⟨he, hp⟩
    exact ⟨he, DK.post h2 hX hB hp⟩
theorem dsync_dk (h : DK B X w g d) (hX : ∀ k, X k → k < w.heap.size) (hB : B ≤ w.heap.size) (hw : d.wt.length ≤ 1000000) :
    Calls Try.prog 15 #[.pointer (some ⟨g, 0, none⟩)] w fun e w' => e = .returned (.int .i64 (syncE d)) ∧ DK B X w' g (syncD d) ∧ DChg B X w w' := by
  obtain ⟨S, h1, h2⟩ := h
  refine (dsync_any w S g d hw h1).mono ?_
  rintro e w' ⟨he, hp⟩
  exact ⟨he, DK.post h2 hX hB hp⟩
theorem dback_dk {keep torn : Nat} (h : DK B X w g d) (hX : ∀ k, X k → k < w.heap.size) (hB : B ≤ w.heap.size) (hkp : keep < 18446744073709551616) (htn : torn < 18446744073709551616) (hw : d.wt.length ≤ 1000000) :
    Calls Try.prog 19 #[.pointer (some ⟨g, 0, none⟩), .int .u64 (keep : Int), .int .u64 (torn : Int)] w fun e w' => e = .returned (.tuple #[]) ∧ DK B X w' g (backD d keep torn) ∧ DChg B X w w' := by
  obtain ⟨S, h1, h2⟩ := h
  refine (dback_any w S g d keep torn hkp htn hw h1).mono ?_
  rintro e w' ⟨he, hp⟩
  exact ⟨he, DK.post h2 hX hB hp⟩
theorem dspoil_dk {i at_ : Int} {c : UInt8} (h : DK B X w g d) (hX : ∀ k, X k → k < w.heap.size) (hB : B ≤ w.heap.size) :
    Calls Try.prog 27 #[.pointer (some ⟨g, 0, none⟩), .int .i64 i, .int .i64 at_, .int .u8 (c.toNat : Int)] w fun e w' => e = .returned (.int .i64 (spoilE d i at_)) ∧ DK B X w' g (spoilD d i at_ c) ∧ DChg B X w w' := by
  obtain ⟨S, h1, h2⟩ := h
  refine (dspoil_any w S g d i at_ c h1).mono ?_
  rintro e w' ⟨he, hp⟩
  exact ⟨he, DK.post h2 hX hB hp⟩
theorem dfuse_dk {n : Int} (h : DK B X w g d) (hn : -9223372036854775808 ≤ n ∧ n ≤ 9223372036854775807) :
    Calls Try.prog 14 #[.pointer (some ⟨g, 0, none⟩), .int .i64 n] w fun e w' => e = .returned (.tuple #[]) ∧ DK B X w' g { d with fuse := n } ∧ DChg B X w w' := by
  obtain ⟨S, h1, h2⟩ := h
  refine (dfuse_any w S g d n hn h1).mono ?_
  rintro e w' ⟨he, hd, hc⟩
  exact ⟨he, ⟨S, hd, h2⟩, hc.more fun k _ hk => h2 k hk⟩
theorem doff_dk (h : DK B X w g d) :
    Calls Try.prog 26 #[.pointer (some ⟨g, 0, none⟩)] w fun e w' => e = .returned (.tuple #[]) ∧ DK B X w' g { d with off := true } ∧ DChg B X w w' := by
  obtain ⟨S, h1, h2⟩ := h
  refine (doff_any w S g d h1).mono ?_
  rintro e w' ⟨he, hd, hc⟩
  exact ⟨he, ⟨S, hd, h2⟩, hc.more fun k _ hk => h2 k hk⟩
theorem dread_dk {i : Int} (h : DK B X w g d) (hw : d.wt.length ≤ 1000000) :
    Calls Try.prog 20 #[.pointer (some ⟨g, 0, none⟩), .int .i64 i] w fun e w' => ∃ v, e = .returned (.tuple #[v, .int .i64 (mayE d i)]) ∧ Fresh w.heap.size w' v (readL d i) ∧ DK B X w' g d ∧ Below w.heap.size w w' := by
  obtain ⟨S, h1, h2⟩ := h
  refine (dread_any w S g d i hw h1).mono ?_
  rintro e w' ⟨v, he, hf, hb⟩
  exact ⟨v, he, hf, ⟨S, h1.below_ hb, h2⟩, hb⟩
theorem don_dk (h : DK B X w g d) : Calls Try.prog 18 #[.pointer (some ⟨g, 0, none⟩)] w fun e w' => e = .returned (.bool (!d.off)) ∧ w = w' := by
  obtain ⟨S, h1, h2⟩ := h
  exact don_any w S g d h1
theorem dcount_dk (h : DK B X w g d) : Calls Try.prog 24 #[.pointer (some ⟨g, 0, none⟩)] w fun e w' => e = .returned (.int .i64 (d.bl.length : Int)) ∧ w = w' := by
  obtain ⟨S, h1, h2⟩ := h
  exact dcount_any w S g d h1
theorem dwaiting_dk (h : DK B X w g d) : Calls Try.prog 21 #[.pointer (some ⟨g, 0, none⟩)] w fun e w' => e = .returned (.int .i64 (d.wt.length : Int)) ∧ w = w' := by
  obtain ⟨S, h1, h2⟩ := h
  exact dwaiting_any w S g d h1
theorem DK.set_ (h : DK B X w g d) (p : Addr) (u : Value) (hp : p.block < B ∨ X p.block) : DK B X (w.setCell p u) g d := by
  obtain ⟨S, h1, h2⟩ := h
  refine ⟨S, h1.keep (by simp [World.setCell]) fun k hk => Below.heap_setCell w p u k (fun e => ?_), h2⟩
  subst e
  rcases hp with h | h
  · have := (h2 _ hk).1; omega
  · exact (h2 _ hk).2 h
theorem DK.grown {row : Option Nat} (h : DK B X w g d) (hg : w.grownBy w' row) (hp : ∀ q, row = some q → q < B ∨ X q) : DK B X w' g d := by
  obtain ⟨S, h1, h2⟩ := h
  refine ⟨S, h1.keep hg.size fun k hk => hg.block k (h1.lt k hk) (fun e => ?_), h2⟩
  rcases hp k e.symm with h | h
  · have := (h2 _ hk).1; omega
  · exact (h2 _ hk).2 h
theorem DK.wts (h : DK B X w g d) : ∀ x ∈ d.wt, x.1 < d.bl.length := by
  obtain ⟨S, h1, h2⟩ := h
  exact h1.wts
theorem dnew_dk (w : World) (n : Nat) (h1 : 1 ≤ n) (h2 : n ≤ 65536) :
    Calls Try.prog 13 #[.int .i64 (n : Int)] w fun e w' => ∃ g, e = .returned (.tuple #[.pointer (some ⟨g, 0, none⟩), .int .i64 0]) ∧ DK w.heap.size (fun _ => False) w' g (newD n) ∧ Below w.heap.size w w' := by
  refine (dnew_any w n h1 h2).mono ?_
  rintro e w' ⟨g, S, he, hd, hS, hb⟩
  exact ⟨g, he, ⟨S, hd, fun k hk => ⟨hS k hk, fun h => h⟩⟩, hb⟩
end
end Go.Proofs.Ytpoicbhbkabllaa

namespace Go.Proofs.Ytpoicbhbkabllaa
set_option linter.unusedSimpArgs false
set_option linter.unusedVariables false
open Go.RowKit Go.Shelf
attribute [local go_sem] Oper.semAt_some

/-! ### the disk's blocks are cells -/
/-- a block of cells -/
def CellAt (w : World) (k : Nat) : Prop := ∃ o, w.heap[k]? = some o ∧ o.isCells = true
theorem BoxAt.cellAt {T : TypeId} {w : World} {g : Nat} {cs : List Value} (h : BoxAt T w g cs) : CellAt w g := ⟨_, h, rfl⟩
theorem DiskAt.shrink {w : World} {S : Nat → Prop} {g : Nat} {d : DState} (h : DiskAt w S g d) : DiskAt w (fun k => S k ∧ CellAt w k) g d := by
  obtain ⟨hb, vw, h1, h2, h3, h4, h5, h6⟩ := h.ex
  have h3' := h3
  obtain ⟨css, hl, ⟨hz, hx⟩, _⟩ := h3'
  refine ⟨⟨hb, vw, h1, h2, h3, h4, ⟨h5, h2.cellAt⟩, fun q hq => ⟨(h6 q hq).1, (h6 q hq).2.1, (h6 q hq).2.2, ?_⟩⟩, ⟨h.here, h1.cellAt⟩, fun k hk => h.lt k hk.1, h.wts, h.pos, h.few, h.fuseR⟩
  rcases hx with ⟨rfl, _⟩ | ⟨g', cap, cur, rfl, hg, hh, _⟩
  · simp [Value.ownBlock] at hq
  · have e : g' = q := by injection hq
    subst e
    exact ⟨_, hh, rfl⟩
theorem DK.cells {B : Nat} {X : Nat → Prop} {w : World} {g : Nat} {d : DState} (h : DK B X w g d) : ∃ S, DiskAt w S g d ∧ (∀ k, S k → B ≤ k ∧ ¬ X k) ∧ ∀ k, S k → CellAt w k := by
  obtain ⟨S, h1, h2⟩ := h
  exact ⟨_, h1.shrink, fun k hk => h2 k hk.1, fun k hk => hk.2⟩
theorem DK.ownk {B : Nat} {X : Nat → Prop} {w w' : World} {g : Nat} {d : DState} {row : Option Nat} (h : DK B X w g d) (hg : w.grownBy w' row) (hr : ∀ r, row = some r → ∃ o : Obj, w.heap[r]? = some o ∧ o.isCells = false) : DK B X w' g d := by
  obtain ⟨S, h1, h2, h3⟩ := h.cells
  refine ⟨S, h1.keep hg.size fun k hk => hg.block k (h1.lt k hk) fun e => ?_, h2⟩
  obtain ⟨o, ho, hc⟩ := hr k e.symm
  obtain ⟨o', ho', hc'⟩ := h3 k hk
  rw [ho] at ho'
  injection ho' with ho'
  subst ho'
  rw [hc] at hc'
  cases hc'
theorem DK.weak {B : Nat} {X X' : Nat → Prop} {w : World} {g : Nat} {d : DState} (h : DK B X w g d) (hX : ∀ k, X' k → X k) : DK B X' w g d := by
  obtain ⟨S, h1, h2⟩ := h
  exact ⟨S, h1, fun k hk => ⟨(h2 k hk).1, fun hx => (h2 k hk).2 (hX k hx)⟩⟩
/-- what is no cells stays -/
def Firm (w w' : World) : Prop := ∀ (k : Nat) (o : Obj), w.heap[k]? = some o → o.isCells = false → w'.heap[k]? = some o
theorem Chg.firm {P : Nat → Prop} {w w' : World} (h : Chg P w w') (hp : ∀ k, P k → CellAt w k) : Firm w w' := fun k o ho hc => by
  refine (h.block k (Array.getElem?_eq_some_iff.1 ho).1 fun hk => ?_).trans ho
  obtain ⟨o', ho', hc'⟩ := hp k hk
  rw [ho] at ho'
  injection ho' with ho'
  subst ho'
  rw [hc] at hc'
  cases hc'
theorem Firm.from_ {w w' : World} (h : Firm w w') (hs : w.heap.size ≤ w'.heap.size) (B : Nat) : KeepsFrom B w w' := ⟨hs, fun k o _ ho hc => h k o ho hc⟩
theorem DChg.kp {B : Nat} {X : Nat → Prop} {w w' : World} (h : DChg B X w w') (P : Nat → Prop) (hP : ∀ k, B ≤ k → ¬ X k → P k) : Kp P w w' :=
  ⟨h.size, fun k o hk ho _ => (h.block k (Array.getElem?_eq_some_iff.1 ho).1 fun hx => hk (hP k hx.1 hx.2)).trans ho⟩

section
variable {B : Nat} {X : Nat → Prop} {w : World} {g : Nat} {d : DState}
theorem dwrite_firm {i : Int} {v : Value} {b : List UInt8} (h : DK B X w g d) (hX : ∀ k, X k → k < w.heap.size) (hB : B ≤ w.heap.size) (hw : d.wt.length ≤ 1000000) (hv : By w w.heap.size v b) (hvX : ∀ q, v.ownBlock = some q → q < B ∨ X q) :
    Calls Try.prog 16 #[.pointer (some ⟨g, 0, none⟩), .int .i64 i, v] w fun e w' => e = .returned (.int .i64 (writeE d i b)) ∧ DK B X w' g (writeD d i b) ∧ DChg B X w w' ∧ Firm w w' := by
  obtain ⟨S, h1, h2, h3⟩ := h.cells
  refine (dwrite_any w S g d i v b hw h1 (BX.of hv fun q hq hs => ?_)).mono ?_
  · rcases hvX q hq with h | h
    · have := (h2 q hs).1; omega
    · exact (h2 q hs).2 h
  · rintro e w' ⟨he, hp⟩
    have hp2 := hp
    obtain ⟨_, _, _, hc⟩ := hp2
    exact ⟨he, (DK.post h2 hX hB hp).1, (DK.post h2 hX hB hp).2, hc.firm h3⟩
theorem dsync_firm (h : DK B X w g d) (hX : ∀ k, X k → k < w.heap.size) (hB : B ≤ w.heap.size) (hw : d.wt.length ≤ 1000000) :
    Calls Try.prog 15 #[.pointer (some ⟨g, 0, none⟩)] w fun e w' => e = .returned (.int .i64 (syncE d)) ∧ DK B X w' g (syncD d) ∧ DChg B X w w' ∧ Firm w w' := by
  obtain ⟨S, h1, h2, h3⟩ := h.cells
  refine (dsync_any w S g d hw h1).mono ?_
  rintro e w' ⟨he, hp⟩
  have hp2 := hp
  obtain ⟨_, _, _, hc⟩ := hp2
  exact ⟨he, (DK.post h2 hX hB hp).1, (DK.post h2 hX hB hp).2, hc.firm h3⟩
end

/-! ### slices.Chunk -/
def f16 (k : Nat) : Fin 16 := ⟨k % 16, Nat.mod_lt _ (by omega)⟩
theorem f16_val {k : Nat} (h : k < 16) : (f16 k).val = k := Nat.mod_eq_of_lt h
abbrev encH (ad : Addr) (x : Fin 16) : Array Value := encC ad x.val
set_option maxRecDepth 100000 in
set_option maxHeartbeats 3200000 in
theorem chunk_stops (n : Nat) (hn : 1 ≤ n) (w : World) (P : Nat → Prop) (Bs Bn : Nat) (ad : Addr) (cap : Nat) (hcap : 2048 ≤ cap) (hcm : cap ≤ 9223372036854775807)
    (hBs : BoxAt 30 w Bs [.slice (some ad) 2048 cap]) (hBn : BoxAt 3 w Bn [.int .i64 128]) (hPs : ¬ P Bs) (hPn : ¬ P Bn) :
    SeqStopsK Fence.wide n Try.prog 90 #[.pointer (some ⟨Bs, 0, none⟩), .pointer (some ⟨Bn, 0, none⟩)] (encH ad) (Kp P) (fun ys => ys = upto f16 16) (fun pre => ∃ k, k ≤ 16 ∧ pre = upto f16 k) 16 w := by
  intro l J Jx W hbW hJ _ hY h0
  have HBs := Lib.hid (hBs.below hBs.lt hbW)
  have HBn := Lib.hid (hBn.below hBn.lt hbW)
  have HY := Lib.hid hY
  have HJ := Lib.hid hJ
  clear hBs hBn hY hJ
  refine callsIn_of_wp Try.func90 rfl trivial ?_ rfl
  simp only [Try.ntmps90, List.size_toArray, List.length_cons, List.length_nil, Nat.reduceAdd, Nat.reduceSub, Array.replicate_succ, Array.replicate_zero, List.push_toArray, List.append_toArray, List.nil_append, List.cons_append]
  gi_wp2
  gi_loopw [4] (fun i wr => ∃ k : Nat, k ≤ 16 ∧ i = .int .i64 ((128 * k : Nat) : Int) ∧ J (upto f16 k) wr ∧ Kp P W wr ∧ W.heap.size ≤ wr.heap.size)
    (fun i _ => (2048 - intOf i).toNat)
  case atStart => exact ⟨0, by omega, rfl, h0, Kp.refl _ _, Nat.le_refl _⟩
  case round =>
    obtain ⟨k, hkK, rfl, hJs, hkp, hsz⟩ := hrel
    have hcs := (hkp.box hPs HBs.out).cell 0 _ rfl
    have hcn := (hkp.box hPn HBn.out).cell 0 _ rfl
    have Hkp := Lib.hid hkp
    have HJs := Lib.hid hJs
    clear hkp hJs
    by_cases hlt : k < 16
    · have hne : ¬ cap = 128 * k := by omega
      have hif : (if ((2048 - 128 * k : Nat) : Int) < 128 then ((2048 - 128 * k : Nat) : Int) else 128) = 128 := by rw [if_neg (by omega)]
      have Hsucc : Hid (upto f16 (k + 1) = upto f16 k ++ [f16 k]) := Lib.hid (upto_succ f16 k)
      gi_wp2
      gi_region
      try simp only [hif]
      have hJ2 : J (upto f16 k) wr.drew := HJ.out _ _ _ none HJs.out ⟨rfl, rfl, rfl, Nat.le_refl _, fun _ _ _ => rfl⟩ (fun r e => by cases e)
      obtain ⟨fn, tmps, assign, body, hy, hR⟩ := HY.out _ (f16 k) _ hJ2 (by rw [upto_length]; omega)
      have Hkp2 := Lib.hid (Hkp.out.trans (Kp.drew P wr))
      clear hJ2
      dsimp only [encH, encC] at hy
      rw [f16_val hlt] at hy
      gi_wp2
      refine hR.mono ?_
      rintro e W3 (⟨rfl, hJ3, hk3⟩ | ⟨rfl, hJx3⟩)
      · have hs3 : wr.heap.size ≤ W3.heap.size := hk3.size
        have HJ3 := Lib.hid hJ3
        have Hk3 := Lib.hid (Hkp2.out.trans hk3)
        clear hR hy hk3 hJ3 hcs hcn
        have hcn := (Hk3.out.box hPn HBn.out).cell 0 _ rfl
        gi_wp2
        go_roundw
        case rel => exact ⟨k + 1, by omega, by go_num, by rw [Hsucc.out]; exact HJ3.out, Hk3.out, by omega⟩
        case measure => simp [intOf]; omega
      · rw [← Hsucc.out] at hJx3
        have HJx3 := Lib.hid hJx3
        clear hJx3 hR hy
        gi_wp2
        refine bodyPost_ret (results_none rfl _ _ _) rfl ?_
        exact ⟨⟨_, rfl⟩, .inr ⟨_, ⟨k + 1, by omega, rfl⟩, HJx3.out⟩⟩
    · obtain rfl : k = 16 := by omega
      gi_wp2
      go_end0
      exact ⟨⟨_, rfl⟩, .inl ⟨_, rfl, HJs.out⟩⟩
end Go.Proofs.Ytpoicbhbkabllaa

namespace Go.Proofs.Ytpoicbhbkabllaa
set_option linter.unusedSimpArgs false
set_option linter.unusedVariables false
open Go.RowKit

structure MFile where
  name : List UInt8
  id : UInt32
  size : Int
  blocks : List Int
structure MMan where
  ver : UInt64
  next : UInt32
  files : List MFile
def encF (f : MFile) (v : Value) : List Value := [.string (bst f.name), .int .u32 (f.id.toNat : Int), .int .i64 f.size, v]
def fileOk (f : MFile) : Prop := f.name.length ≤ maxLen ∧ -9223372036854775808 ≤ f.size ∧ f.size ≤ 9223372036854775807
def cFile : Cdc MFile where
  n := 4
  at_ := fun w S cs f => ∃ v, cs = encF f v ∧ RowOn cInt w S S v f.blocks ∧ fileOk f
  len := fun h => by obtain ⟨v, rfl, _⟩ := h; rfl
  one := fun h => by
    obtain ⟨v, rfl, h, _⟩ := h
    obtain ⟨A, c, rfl, _⟩ := h
    intro u hu
    simp [encF] at hu
    rcases hu with rfl | rfl | rfl | rfl <;> rfl
  keep := fun h hk => by obtain ⟨v, e, h, ok⟩ := h; exact ⟨v, e, h.keep hk hk, ok⟩
  mono := fun h hk => by obtain ⟨v, e, h, ok⟩ := h; exact ⟨v, e, h.mono hk hk, ok⟩
/-- files in blocks below B, all that they lead to too -/
abbrev ByF (w : World) (B : Nat) (v : Value) (l : List MFile) : Prop := RowOn cFile w (fun k => k < B) (fun k => k < B) v l
abbrev ByI (w : World) (B : Nat) (v : Value) (l : List Int) : Prop := RowOn cInt w (fun k => k < B) (fun k => k < B) v l
theorem ByF.below {w w' : World} {B : Nat} {v : Value} {l : List MFile} (h : ByF w B v l) (hb : Below B w w') : ByF w' B v l := h.keep (fun p hp => hb.cell hp) (fun p hp => hb.cell hp)
theorem ByF.more {w : World} {B B' : Nat} {v : Value} {l : List MFile} (h : ByF w B v l) (hB : B ≤ B') : ByF w B' v l := h.mono (fun k hk => Nat.lt_of_lt_of_le hk hB) (fun k hk => Nat.lt_of_lt_of_le hk hB)
theorem ByF.step {w w' : World} {v : Value} {l : List MFile} (h : ByF w w.heap.size v l) (hb : Below w.heap.size w w') : ByF w' w'.heap.size v l := (h.below hb).more hb.size
theorem ByI.below {w w' : World} {B : Nat} {v : Value} {l : List Int} (h : ByI w B v l) (hb : Below B w w') : ByI w' B v l := h.keep (fun p hp => hb.cell hp) (fun p hp => hb.cell hp)
theorem ByI.more {w : World} {B B' : Nat} {v : Value} {l : List Int} (h : ByI w B v l) (hB : B ≤ B') : ByI w B' v l := h.mono (fun k hk => Nat.lt_of_lt_of_le hk hB) (fun k hk => Nat.lt_of_lt_of_le hk hB)
theorem ByI.step {w w' : World} {v : Value} {l : List Int} (h : ByI w w.heap.size v l) (hb : Below w.heap.size w w') : ByI w' w'.heap.size v l := (h.below hb).more hb.size
/-- the cells of the k-th number -/
theorem ByI.cells {w : World} {B : Nat} {A : Option Addr} {n c : Nat} {l : List Int} (h : ByI w B (.slice A n c) l) (k : Nat) (hk : k < l.length) : n = l.length ∧ ∃ ad, A = some ad ∧ ad.block < B ∧ w.cell? (ad.add k) = some (.int .i64 l[k]) ∧ -9223372036854775808 ≤ l[k] ∧ l[k] ≤ 9223372036854775807 := by
  obtain ⟨ad, cs, e, hb, ⟨rfl, ok⟩, hc⟩ := h.at_ k _ (List.getElem?_eq_getElem hk)
  have := hc 0 _ rfl
  simp only [cInt, Cdc.flat, Nat.mul_one, Nat.add_zero] at this
  exact ⟨(h.len_).1, ad, e, hb, this, ok⟩
/-- the cells of the k-th file -/
theorem ByF.cells {w : World} {B : Nat} {A : Option Addr} {n c : Nat} {l : List MFile} (h : ByF w B (.slice A n c) l) (k : Nat) (hk : k < l.length) :
    n = l.length ∧ ∃ ad v, A = some ad ∧ ad.block < B ∧ ByI w B v (l[k]).blocks ∧ fileOk l[k] ∧ (∀ (j : Nat) (u : Value), (encF l[k] v)[j]? = some u → w.cell? ((ad.add (k * 4)).add j) = some u) := by
  obtain ⟨ad, cs, e, hb, ⟨v, rfl, hr, ok⟩, hc⟩ := h.at_ k _ (List.getElem?_eq_getElem hk)
  exact ⟨(h.len_).1, ad, v, e, hb, hr, ok, fun j u hu => by rw [add_add]; exact hc j u hu⟩
theorem ByF.ok {w : World} {B : Nat} {v : Value} {l : List MFile} (h : ByF w B v l) : ∀ f ∈ l, fileOk f := by
  intro f hf
  obtain ⟨i, hi, rfl⟩ := List.mem_iff_getElem.1 hf
  obtain ⟨A, c, rfl, _, _⟩ := h.form
  obtain ⟨_, _, _, _, _, _, ok, _⟩ := h.cells i hi
  exact ok
def encM (m : MMan) (v : Value) : List Value := [.int .u64 (m.ver.toNat : Int), .int .u32 (m.next.toNat : Int), v]
/-- the value v is a manifest -/
def MAt (w : World) (B : Nat) (v : Value) (m : MMan) : Prop := ∃ vf, v = .agg (encM m vf).toArray ∧ ByF w B vf m.files
theorem MAt.below {w w' : World} {B : Nat} {v : Value} {m : MMan} (h : MAt w B v m) (hb : Below B w w') : MAt w' B v m := by obtain ⟨vf, e, h⟩ := h; exact ⟨vf, e, h.below hb⟩
theorem MAt.more {w : World} {B B' : Nat} {v : Value} {m : MMan} (h : MAt w B v m) (hB : B ≤ B') : MAt w B' v m := by obtain ⟨vf, e, h⟩ := h; exact ⟨vf, e, h.more hB⟩
theorem MAt.step {w w' : World} {v : Value} {m : MMan} (h : MAt w w.heap.size v m) (hb : Below w.heap.size w w') : MAt w' w'.heap.size v m := (h.below hb).more hb.size

theorem bst_of (s : ByteArray) : ∃ l, s = bst l ∧ l.length = s.size := ⟨s.data.toList, by unfold bst; simp, by simp⟩
theorem InC.ints {w : World} {cs : List Value} (h : InC w 60 cs) : ∃ v xs, cs = [v] ∧ ByI w w.heap.size v xs := h.row (C := cInt) Try.underlying60 (by kernel_rfl) (by decide) fun cs hc => hc.i64 Try.underlying3
theorem InC.mfile {w : World} {cs : List Value} (h : InC w 62 cs) : ∃ f, cFile.at_ w (fun k => k < w.heap.size) cs f := by
  obtain ⟨hl, hf⟩ := h.fields Try.underlying62 (by kernel_rfl) (by kernel_rfl)
  obtain ⟨u0, h0, g0⟩ := hf 0 _ rfl
  obtain ⟨u1, h1, g1⟩ := hf 1 _ rfl
  obtain ⟨u2, h2, g2⟩ := hf 2 _ rfl
  obtain ⟨u3, h3, g3⟩ := hf 3 _ rfl
  obtain ⟨s, e0, hs⟩ := InC.string Try.underlying9 g0
  obtain ⟨n1, e1, _⟩ := InC.u32 (S := fun _ => True) Try.underlying53 g1
  obtain ⟨n2, e2, k2⟩ := InC.i64 (S := fun _ => True) Try.underlying3 g2
  obtain ⟨v3, xs, e3, hr⟩ := InC.ints g3
  simp at e0 e1 e2 e3
  subst e0; subst e1; subst e2; subst e3
  obtain ⟨l, rfl, hll⟩ := bst_of s
  match cs, hl with
  | [c0, c1, c2, c3], _ =>
    injection h0 with h0
    injection h1 with h1
    injection h2 with h2
    injection h3 with h3
    subst h0; subst h1; subst h2; subst h3
    exact ⟨⟨l, n1, n2, xs⟩, _, rfl, hr, by rw [← hll] at hs; exact hs, k2.1, k2.2⟩
theorem InC.files {w : World} {cs : List Value} (h : InC w 54 cs) : ∃ v xs, cs = [v] ∧ ByF w w.heap.size v xs :=
  h.row (C := cFile) Try.underlying54 (by kernel_rfl) (by decide) fun cs hc => hc.mfile
theorem InC.man {w : World} {cs : List Value} (h : InC w 56 cs) : ∃ m vf, cs = encM m vf ∧ ByF w w.heap.size vf m.files := by
  obtain ⟨hl, hf⟩ := h.fields Try.underlying56 (by kernel_rfl) (by kernel_rfl)
  obtain ⟨u0, h0, g0⟩ := hf 0 _ rfl
  obtain ⟨u1, h1, g1⟩ := hf 1 _ rfl
  obtain ⟨u2, h2, g2⟩ := hf 2 _ rfl
  obtain ⟨n0, e0, _⟩ := InC.u64 (S := fun _ => True) Try.underlying33 g0
  obtain ⟨n1, e1, _⟩ := InC.u32 (S := fun _ => True) Try.underlying53 g1
  obtain ⟨v3, xs, e3, hr⟩ := InC.files g2
  simp at e0 e1 e3
  subst e0; subst e1; subst e3
  match cs, hl with
  | [c0, c1, c2], _ =>
    injection h0 with h0
    injection h1 with h1
    injection h2 with h2
    subst h0; subst h1; subst h2
    exact ⟨⟨n0, n1, xs⟩, _, rfl, hr⟩
end Go.Proofs.Ytpoicbhbkabllaa

namespace Go.Proofs.Ytpoicbhbkabllaa
set_option linter.unusedSimpArgs false
set_option linter.unusedVariables false
open Go.RowKit

def manyOf (n : Int) : Int := if n ≤ 0 then 0 else (n - 1) / 112 + 1
set_option maxHeartbeats 400000 in
theorem many_any (w : World) (n : Int) (h1 : -9223372036854775808 ≤ n) (h2 : n ≤ 9223372036854775807) :
    Calls Try.prog 86 #[.int .i64 n] w fun e w' => e = .returned (.int .i64 (manyOf n)) ∧ w = w' := by
  by_cases h : n ≤ 0
  · have hm : manyOf n = 0 := by simp [manyOf, h]
    rw [hm]
    clear hm
    go_enter Try.func86, Try.ntmps86
    go_wp2_with fail
    go_ret
    exact ⟨rfl, rfl⟩
  · have hm : manyOf n = (n - 1) / 112 + 1 := by simp [manyOf, h]
    rw [hm]
    clear hm
    have hn : 1 ≤ n := by omega
    clear h
    go_enter Try.func86, Try.ntmps86
    go_wp2_with fail
    go_ret
    exact ⟨rfl, rfl⟩
set_option maxHeartbeats 400000 in
theorem rmany_any (w : World) (n : Int) (h1 : -9223372036854775808 ≤ n) (h2 : n ≤ 9223372036854775807) :
    Calls Try.prog 63 #[.int .i64 n] w fun e w' => e = .returned (.int .i64 (manyOf n)) ∧ w = w' := by
  by_cases h : n ≤ 0
  · have hm : manyOf n = 0 := by simp [manyOf, h]
    rw [hm]
    clear hm
    go_enter Try.func63, Try.ntmps63
    go_wp2_with fail
    go_ret
    exact ⟨rfl, rfl⟩
  · have hn : 1 ≤ n := by omega
    by_cases hr : 0 < n % 112
    · have hm : manyOf n = n / 112 + 1 := by simp [manyOf, h]; omega
      rw [hm]
      clear hm h
      go_enter Try.func63, Try.ntmps63
      go_wp2_with fail
      go_ret
      exact ⟨rfl, rfl⟩
    · have hm : manyOf n = n / 112 := by simp [manyOf, h]; omega
      rw [hm]
      clear hm h
      go_enter Try.func63, Try.ntmps63
      go_wp2_with fail
      go_ret
      exact ⟨rfl, rfl⟩
end Go.Proofs.Ytpoicbhbkabllaa

namespace Go.Proofs.Ytpoicbhbkabllaa
set_option linter.unusedSimpArgs false
set_option linter.unusedVariables false

/-- a number's bytes -/
def vput (n : Nat) : List UInt8 := if h : n < 128 then [UInt8.ofNat n] else UInt8.ofNat (n % 128 + 128) :: vput (n / 128)
termination_by n
decreasing_by omega
theorem vput_lt {n : Nat} (h : n < 128) : vput n = [UInt8.ofNat n] := by rw [vput, dif_pos h]
theorem vput_ge {n : Nat} (h : 128 ≤ n) : vput n = UInt8.ofNat (n % 128 + 128) :: vput (n / 128) := by rw [vput, dif_neg (by omega)]
theorem vput_len (n k : Nat) (h : n < 2 ^ (7 * k)) : (vput n).length ≤ k + 1 := by
  induction k generalizing n with
  | zero => rw [vput_lt (by simp at h; omega)]; simp
  | succ k ih =>
    rcases Nat.lt_or_ge n 128 with h1 | h1
    · rw [vput_lt h1]; simp
    · rw [vput_ge h1, List.length_cons]
      have := ih (n / 128) (by rw [show 7 * (k + 1) = 7 * k + 7 from by omega, Nat.pow_add] at h; omega)
      omega
theorem vput_len64 (n : Nat) (h : n < 18446744073709551616) : 1 ≤ (vput n).length ∧ (vput n).length ≤ 11 := by
  refine ⟨?_, vput_len n 10 (by have : (18446744073709551616 : Nat) ≤ 2 ^ (7 * 10) := by decide
                                omega)⟩
  rcases Nat.lt_or_ge n 128 with h1 | h1
  · rw [vput_lt h1]; simp
  · rw [vput_ge h1]; simp

/-- the number in front of bytes: an error, or the number and how many bytes it has -/
def vgo : List UInt8 → Nat → Nat → Int ⊕ (Nat × Nat)
  | [], _, _ => .inl 2
  | c :: t, i, n =>
    if i = 9 ∧ 1 < c.toNat % 128 ∨ 9 < i ∨ 0 < i ∧ c.toNat = 0 then .inl 3
    else if 127 < c.toNat then vgo t (i + 1) (n + c.toNat % 128 * 2 ^ (7 * i))
    else .inr (n + c.toNat % 128 * 2 ^ (7 * i), i + 1)
/-- a read: the number, what is left, the error -/
def numR (most : Nat) (l : List UInt8) : Nat × List UInt8 × Int :=
  match vgo l 0 0 with
  | .inl e => (0, [], e)
  | .inr (n, k) => if most < n then (0, [], 9) else (n, l.drop k, 0)
/-- a reader's step -/
def numS (most : Nat) (l : List UInt8) (e : Int) : Nat × List UInt8 × Int := if e ≠ 0 then (0, [], e) else numR most l
theorem vgo_err (l : List UInt8) (i n : Nat) (e : Int) (h : vgo l i n = .inl e) : e = 2 ∨ e = 3 := by
  induction l generalizing i n with
  | nil => simp [vgo] at h; omega
  | cons c t ih =>
    unfold vgo at h
    split at h
    · simp at h; omega
    · split at h
      · exact ih _ _ h
      · simp at h
theorem vgo_ok (l : List UInt8) (i n m k : Nat) (h : vgo l i n = .inr (m, k)) : i < k ∧ k ≤ i + l.length ∧ i ≤ 9 := by
  induction l generalizing i n with
  | nil => simp [vgo] at h
  | cons c t ih =>
    unfold vgo at h
    split at h
    · simp at h
    · rename_i hc
      split at h
      · have := ih _ _ h
        simp; omega
      · simp at h; simp; omega
/-- the number fits in 64 bits -/
theorem vgo_lt (l : List UInt8) (i n m k : Nat) (hn : i ≤ 9 → n < 2 ^ (7 * i)) (h : vgo l i n = .inr (m, k)) : m < 18446744073709551616 := by
  induction l generalizing i n with
  | nil => simp [vgo] at h
  | cons c t ih =>
    unfold vgo at h
    split at h
    · simp at h
    · rename_i hc
      have hi : i ≤ 9 := by omega
      have hn := hn hi
      have hmod : c.toNat % 128 < 128 := Nat.mod_lt _ (by decide)
      split at h
      · refine ih _ _ (fun hi' => ?_) h
        rw [show 7 * (i + 1) = 7 * i + 7 from by omega, Nat.pow_add]
        have := Nat.mul_le_mul_right (2 ^ (7 * i)) (show c.toNat % 128 ≤ 127 by omega)
        omega
      · simp at h
        obtain ⟨rfl, _⟩ := h
        rcases Nat.lt_or_ge i 9 with h9 | h9
        · have h2 : 2 ^ (7 * i) ≤ 2 ^ 56 := Nat.pow_le_pow_right (by decide) (by omega)
          have := Nat.mul_le_mul (show c.toNat % 128 ≤ 127 by omega) h2
          omega
        · obtain rfl : i = 9 := by omega
          have : c.toNat % 128 ≤ 1 := by omega
          have := Nat.mul_le_mul_right (2 ^ (7 * 9)) this
          omega
theorem numR_lt (most : Nat) (l : List UInt8) : (numR most l).1 < 18446744073709551616 ∧ (numR most l).1 ≤ most := by
  unfold numR
  split
  · simp
  · rename_i n k h
    split
    · simp
    · exact ⟨vgo_lt l 0 0 n k (by simp) h, by simp; omega⟩
theorem numS_lt (most : Nat) (l : List UInt8) (e : Int) : (numS most l e).1 < 18446744073709551616 ∧ (numS most l e).1 ≤ most := by
  unfold numS; split
  · simp
  · exact numR_lt most l
/-- what is left is a back of what was there -/
theorem numR_rest (most : Nat) (l : List UInt8) : ∃ k, k ≤ l.length ∧ ((numR most l).2.2 = 0 → (numR most l).2.1 = l.drop k ∧ 0 < k) ∧ ((numR most l).2.2 ≠ 0 → (numR most l).2.1 = [] ∧ (numR most l).1 = 0) := by
  unfold numR
  split
  · rename_i e h
    have := vgo_err _ _ _ _ h
    exact ⟨0, by omega, fun h => by simp at h; omega, fun _ => by simp⟩
  · rename_i n k h
    have := vgo_ok _ _ _ _ _ h
    refine ⟨k, by omega, ?_, ?_⟩
    · split <;> simp; omega
    · split <;> simp
theorem numS_err (most : Nat) (l : List UInt8) (e : Int) : (numS most l e).2.2 ≠ 0 → (numS most l e).2.1 = [] ∧ (numS most l e).1 = 0 := by
  unfold numS
  split
  · simp
  · obtain ⟨k, _, _, h⟩ := numR_rest most l; exact h
theorem numS_len (most : Nat) (l : List UInt8) (e : Int) : (numS most l e).2.1.length ≤ l.length := by
  unfold numS
  split
  · simp
  · obtain ⟨k, hk, h1, h2⟩ := numR_rest most l
    by_cases h : (numR most l).2.2 = 0
    · rw [(h1 h).1]; simp
    · rw [(h2 h).1]; simp

/-! ### what is put reads back -/
theorem u8_ofNat_toNat (n : Nat) (h : n < 256) : (UInt8.ofNat n).toNat = n := by rw [UInt8.toNat_ofNat']; omega
theorem vgo_vput (n : Nat) (t : List UInt8) (i acc : Nat) (hi : i ≤ 9) (hn : n * 2 ^ (7 * i) < 18446744073709551616) (h0 : 0 < i → 0 < n) : vgo (vput n ++ t) i acc = .inr (acc + n * 2 ^ (7 * i), i + (vput n).length) := by
  induction n using Nat.strongRecOn generalizing i acc with
  | _ n ih =>
    have hp : 0 < 2 ^ (7 * i) := Nat.pow_pos (by decide)
    have h9 : i = 9 → n < 2 := by
      rintro rfl
      rcases Nat.lt_or_ge n 2 with h | h
      · exact h
      · have := Nat.mul_le_mul_right (2 ^ (7 * 9)) h
        omega
    rcases Nat.lt_or_ge n 128 with h1 | h1
    · rw [vput_lt h1]
      have hc := u8_ofNat_toNat n (by omega)
      show vgo (UInt8.ofNat n :: t) i acc = _
      unfold vgo
      rw [hc, Nat.mod_eq_of_lt h1, if_neg (by omega), if_neg (by omega)]
      rfl
    · rw [vput_ge h1]
      have hc := u8_ofNat_toNat (n % 128 + 128) (by omega)
      show vgo (UInt8.ofNat (n % 128 + 128) :: (vput (n / 128) ++ t)) i acc = _
      have hi9 : i < 9 := by omega
      unfold vgo
      rw [hc, if_neg (by omega), if_pos (by omega), show (n % 128 + 128) % 128 = n % 128 from by omega]
      have hpow : 2 ^ (7 * (i + 1)) = 128 * 2 ^ (7 * i) := by rw [show 7 * (i + 1) = 7 * i + 7 from by omega, Nat.pow_add]; omega
      have hdm : n / 128 * (128 * 2 ^ (7 * i)) + n % 128 * 2 ^ (7 * i) = n * 2 ^ (7 * i) := by
        rw [← Nat.mul_assoc, ← Nat.add_mul]
        congr 1
        omega
      rw [ih (n / 128) (by omega) (i + 1) _ (by omega) (by rw [hpow]; omega) (by omega), hpow, List.length_cons]
      congr 2
      · omega
      · omega
theorem numR_vput (n most : Nat) (t : List UInt8) (hn : n < 18446744073709551616) (hm : n ≤ most) : numR most (vput n ++ t) = (n, t, 0) := by
  unfold numR
  rw [vgo_vput n t 0 0 (by omega) (by simpa using hn) (by omega)]
  simp only [Nat.mul_zero, Nat.pow_zero, Nat.mul_one, Nat.zero_add]
  rw [if_neg (by omega)]
  simp
theorem numR_vput_big (n most : Nat) (t : List UInt8) (hn : n < 18446744073709551616) (hm : most < n) : numR most (vput n ++ t) = (0, [], 9) := by
  unfold numR
  rw [vgo_vput n t 0 0 (by omega) (by simpa using hn) (by omega)]
  simp only [Nat.mul_zero, Nat.pow_zero, Nat.mul_one, Nat.zero_add]
  rw [if_pos (by omega)]
/-- bytes that are one number are just its bytes -/
theorem vput_vgo (l : List UInt8) (i acc m k : Nat) (h : vgo l i acc = .inr (m, k)) : ∃ n, m = acc + n * 2 ^ (7 * i) ∧ l.take (k - i) = vput n ∧ (0 < i → 0 < n) := by
  induction l generalizing i acc with
  | nil => simp [vgo] at h
  | cons c t ih =>
    unfold vgo at h
    split at h
    · simp at h
    · rename_i hc
      have hc256 := c.toNat_lt
      split at h
      · rename_i hb
        have hk := vgo_ok _ _ _ _ _ h
        obtain ⟨n, h1, h2, h3⟩ := ih _ _ h
        have hn := h3 (by omega)
        refine ⟨c.toNat % 128 + 128 * n, ?_, ?_, fun _ => by omega⟩
        · rw [h1, show 7 * (i + 1) = 7 * i + 7 from by omega, Nat.pow_add, Nat.add_mul]
          have : 128 * n * 2 ^ (7 * i) = n * (2 ^ (7 * i) * 2 ^ 7) := by
            rw [show (2:Nat) ^ 7 = 128 from rfl, Nat.mul_comm 128 n, Nat.mul_assoc, Nat.mul_comm 128]
          omega
        · rw [show k - i = (k - (i + 1)) + 1 from by omega, List.take_succ_cons, h2, vput_ge (n := c.toNat % 128 + 128 * n) (by omega)]
          rw [show (c.toNat % 128 + 128 * n) / 128 = n from by omega, show (c.toNat % 128 + 128 * n) % 128 + 128 = c.toNat from by omega, UInt8.ofNat_toNat]
      · rename_i hb
        simp at h
        obtain ⟨rfl, rfl⟩ := h
        refine ⟨c.toNat, by rw [Nat.mod_eq_of_lt (by omega)], ?_, fun hi => by omega⟩
        rw [show i + 1 - i = 1 from by omega, vput_lt (by omega), UInt8.ofNat_toNat]
        rfl
theorem numR_one (most : Nat) (l : List UInt8) (n : Nat) (t : List UInt8) (h : numR most l = (n, t, 0)) : l = vput n ++ t := by
  unfold numR at h
  split at h
  · rename_i e he
    have := vgo_err _ _ _ _ he
    simp at h; omega
  · rename_i m k hv
    split at h
    · simp at h
    · simp at h
      obtain ⟨rfl, rfl⟩ := h
      obtain ⟨x, h1, h2, _⟩ := vput_vgo _ _ _ _ _ hv
      simp at h1 h2
      subst h1
      rw [← h2, List.take_append_drop]
end Go.Proofs.Ytpoicbhbkabllaa

namespace Go.Proofs.Ytpoicbhbkabllaa
set_option linter.unusedSimpArgs false
set_option linter.unusedVariables false
open Go.RowKit

theorem or128 (n : Nat) : bits .or .u8 (((UInt8.ofNat n).toNat : Nat) : Int) 128 = (((UInt8.ofNat (n % 128 + 128)).toNat : Nat) : Int) := by
  have h := or_u8 (UInt8.ofNat n) 128
  rw [show (((128 : UInt8).toNat : Nat) : Int) = 128 from rfl] at h
  rw [h]
  congr 2
  have h3 : ∀ m : Nat, m < 256 → UInt8.ofNat m ||| 128 = UInt8.ofNat (m % 128 + 128) := by
    intro m hm
    have : ∀ x : Fin 256, UInt8.ofNat x.1 ||| 128 = UInt8.ofNat (x.1 % 128 + 128) := by decide +kernel
    exact this ⟨m, hm⟩
  have h1 : UInt8.ofNat n = UInt8.ofNat (n % 256) := by
    apply UInt8.toNat_inj.1
    rw [UInt8.toNat_ofNat', UInt8.toNat_ofNat']
    omega
  rw [h1, h3 _ (Nat.mod_lt _ (by decide))]
  congr 2
  omega
theorem or128' (n : Nat) : bits .or .u8 ((n : Int) % 256) 128 = (n : Int) % 128 + 128 := by
  have h := or128 n
  rw [UInt8.toNat_ofNat', UInt8.toNat_ofNat'] at h
  rw [show ((n : Int) % 256) = ((n % 2 ^ 8 : Nat) : Int) from by omega, h]
  omega

set_option maxRecDepth 100000 in
set_option maxHeartbeats 800000 in
theorem vput_any (w : World) (base : Nat) (v0 : Value) (l0 : List UInt8) (hown : Ow w base v0 l0) (n : Nat) (hn : n < 18446744073709551616) (hsz0 : l0.length ≤ 549755813888) (hbase : base ≤ w.heap.size) :
    Calls Try.prog 93 #[v0, .int .u64 (n : Int)] w fun e w' => ∃ v', e = .returned v' ∧ Ow w' base v' (l0 ++ vput n) ∧ Ext w w' v0 v' := by
  have hlen := vput_len64 n hn
  go_enter Try.func93, Try.ntmps93
  go_wp2_with fail
  go_loopw [0, 1] (fun b x wr => ∃ (m : Nat) (acc : List UInt8), x = .int .u64 (m : Int) ∧ m < 18446744073709551616 ∧ Ow wr base b (l0 ++ acc) ∧ acc ++ vput m = vput n ∧ Ext w wr v0 b) (fun _ x _ => (intOf x).toNat)
  case atStart => exact ⟨n, [], rfl, hn, by simpa using hown, rfl, Ext.refl _ _⟩
  case round =>
    obtain ⟨m, acc, rfl, hm, hob, hacc, hext⟩ := hrel
    have hal : acc.length ≤ 11 := by have := congrArg List.length hacc; simp at this; omega
    have hor := or128' m
    have hsz := hext.gr.size
    have hll : (l0 ++ acc).length ≤ 549755813900 := by simp; omega
    by_cases hlt : 127 < m
    · have hst := vput_ge (n := m) (by omega)
      have Hst := Lib.hid hst
      have Hacc := Lib.hid hacc
      clear hst hacc
      go_wp2_with (at_builtin
                   go_loud (refine wpList_app1 rfl (.tmp 9) (.tmp 13) rfl (b := UInt8.ofNat (m % 128 + 128)) hob (by simp [b8]; omega) rfl rfl (by omega) (by omega) ?_)
                   intro v' w' hown' hext')
      go_roundw
      case rel => exact ⟨m / 128, acc ++ [UInt8.ofNat (m % 128 + 128)], by go_num, by omega, by rw [← List.append_assoc]; exact hown', by rw [← Hacc.out, Hst.out, List.append_assoc]; rfl, hext.trans hext'⟩
      case measure => simp [intOf]; omega
    · have hst := vput_lt (n := m) (by omega)
      rw [hst] at hacc
      have Hacc := Lib.hid hacc
      clear hst hacc
      go_wp2_with (at_builtin
                   go_loud (refine wpList_app1 rfl (.tmp 15) (.tmp 18) rfl (b := UInt8.ofNat m) hob (by first | rfl | (simp [b8]; omega)) rfl rfl (by omega) (by omega) ?_)
                   intro v' w' hown' hext')
      go_ret
      refine ⟨_, rfl, ?_, hext.trans hext'⟩
      rw [List.append_assoc, Hacc.out] at hown'
      exact hown'
end Go.Proofs.Ytpoicbhbkabllaa

namespace Go.Proofs.Ytpoicbhbkabllaa
set_option linter.unusedSimpArgs false
set_option linter.unusedVariables false
open Go.RowKit

/-- block g holds a Reader of which l is left, with error e -/
def RdrAt (w : World) (g : Nat) (l : List UInt8) (e : Int) : Prop :=
  ∃ v l', BoxAt 156 w g [v, .int .i64 e] ∧ By w g v l' ∧ (e = 0 → l' = l) ∧ (e ≠ 0 → l = []) ∧ -9223372036854775808 ≤ e ∧ e ≤ 9223372036854775807
theorem RdrAt.lt {w : World} {g : Nat} {l : List UInt8} {e : Int} (h : RdrAt w g l e) : g < w.heap.size := by
  obtain ⟨v, l', h1, _⟩ := h; exact h1.lt
theorem RdrAt.below {w w' : World} {g B : Nat} {l : List UInt8} {e : Int} (h : RdrAt w g l e) (hg : g < B) (hb : Below B w w') : RdrAt w' g l e := by
  obtain ⟨v, l', h1, h2, h3⟩ := h
  exact ⟨v, l', h1.below hg hb, h2.below (hb.mono (by omega)), h3⟩
theorem RdrAt.grown {w w' : World} {g : Nat} {row : Option Nat} {l : List UInt8} {e : Int} (h : RdrAt w g l e) (hg : w.grownBy w' row) (hr : ∀ k, row = some k → g < k) : RdrAt w' g l e := by
  have hl := h.lt
  obtain ⟨v, l', h1, h2, h3⟩ := h
  have hb : Below (g + 1) w w' := (Below.refl _ _).grown hg (by omega) (fun k hk => by have := hr k hk; omega)
  exact ⟨v, l', h1.below (by omega) hb, h2.below (hb.mono (by omega)), h3⟩
theorem RdrAt.err {w : World} {g : Nat} {l : List UInt8} {e : Int} (h : RdrAt w g l e) : e ≠ 0 → l = [] := by
  obtain ⟨v, l', h1, h2, h3, h4, _⟩ := h; exact h4

def badL (l : List UInt8) (e n : Int) : List UInt8 := if e = 0 ∧ n ≠ 0 then [] else l
def badE (e n : Int) : Int := if e = 0 then n else e
def endE (l : List UInt8) (e : Int) : Int := if 0 < l.length then 4 else e
/-! ### the table of Len8 -/
theorem ret_i64 {a b : Int} (h : a = b) : Ending.returned (.int .i64 a) = .returned (.int .i64 b) := by rw [h]
set_option maxHeartbeats 4000000 in
set_option maxRecDepth 100000 in
theorem len8_any (w : World) (n : Nat) (hn : n < 256) : Calls Try.prog 96 #[.int .u8 (n : Int)] w fun e w' => e = .returned (.int .i64 (Lib.bitLen n : Nat)) ∧ w = w' := by
  go_enter Try.func96, Try.ntmps96
  go_wp2_with fail
  go_ret
  refine ⟨ret_i64 ?_, rfl⟩
  clear w
  revert n
  unfold wrap64
  decide +kernel
theorem bitLen_small (n : Nat) (h : n < 128) : Lib.bitLen n ≤ 7 ∧ (Lib.bitLen n ≤ 1 ↔ n ≤ 1) := by
  have : ∀ x : Fin 128, Lib.bitLen x.1 ≤ 7 ∧ (Lib.bitLen x.1 ≤ 1 ↔ x.1 ≤ 1) := by decide +kernel
  exact this ⟨n, h⟩

set_option maxRecDepth 100000 in
set_option maxHeartbeats 800000 in
theorem vnew_any (w : World) (A : Option Addr) (n c : Nat) : Calls Try.prog 82 #[.slice A n c] w fun e w' => e = .returned (.pointer (some ⟨w.heap.size, 0, none⟩)) ∧ w' = w.alloc (.cells #[.slice A n c, .int .i64 0] 156) := by
  go_enter Try.func82, Try.ntmps82
  go_wp2_with fail
  go_ret
  exact ⟨rfl, rfl⟩
theorem RdrAt.new_ {w : World} {v : Value} {l : List UInt8} (h : By w w.heap.size v l) : RdrAt (w.alloc (.cells #[v, .int .i64 0] 156)) w.heap.size l 0 :=
  ⟨v, l, BoxAt.new_ _ _ _, h.alloc (Nat.le_refl _) _, fun _ => rfl, fun h => absurd rfl h, by decide, by decide⟩

set_option maxRecDepth 100000 in
set_option maxHeartbeats 800000 in
theorem verr_any (w : World) (g : Nat) (l : List UInt8) (e : Int) (h : RdrAt w g l e) : Calls Try.prog 84 #[.pointer (some ⟨g, 0, none⟩)] w fun ev w' => ev = .returned (.int .i64 e) ∧ w = w' := by
  obtain ⟨v, l', h1, _⟩ := h
  have hc := h1.cell 1 _ rfl
  go_enter Try.func84, Try.ntmps84
  go_wp2_with fail
  go_ret
  exact ⟨rfl, rfl⟩
set_option maxRecDepth 100000 in
set_option maxHeartbeats 800000 in
theorem vleft_any (w : World) (g : Nat) (l : List UInt8) (e : Int) (h : RdrAt w g l e) : Calls Try.prog 98 #[.pointer (some ⟨g, 0, none⟩)] w fun ev w' => ev = .returned (.int .i64 (l.length : Nat)) ∧ w = w' := by
  obtain ⟨v, l', h1, h2, h3, h4, _⟩ := h
  have hc := h1.cell 1 _ rfl
  have hd := h1.cell 0 _ rfl
  by_cases he : e = 0
  · obtain rfl := h3 he
    subst he
    obtain ⟨A, c, rfl, _⟩ := h2
    go_enter Try.func98, Try.ntmps98
    go_wp2_with fail
    go_ret
    exact ⟨rfl, rfl⟩
  · obtain rfl := h4 he
    have hne : (e == 0) = false := by simpa using he
    have hne' : (e != 0) = true := by simpa using he
    go_enter Try.func98, Try.ntmps98
    go_wp2_with fail
    go_ret
    exact ⟨rfl, rfl⟩
set_option maxRecDepth 100000 in
set_option maxHeartbeats 800000 in
theorem vbad_any (w : World) (g : Nat) (l : List UInt8) (e n : Int) (h : RdrAt w g l e) (hn : -9223372036854775808 ≤ n ∧ n ≤ 9223372036854775807) :
    Calls Try.prog 97 #[.pointer (some ⟨g, 0, none⟩), .int .i64 n] w fun ev w' => ev = .returned (.tuple #[]) ∧ RdrAt w' g (badL l e n) (badE e n) ∧ w.grownBy w' (some g) := by
  obtain ⟨v, l', h1, h2, h3, h4, h5⟩ := h
  have hc := h1.cell 1 _ rfl
  have hfr := h1.frozen 1
  by_cases he : e = 0
  · obtain rfl := h3 he
    subst he
    by_cases hn0 : n = 0
    · subst hn0
      go_enter Try.func97, Try.ntmps97
      go_wp2_with fail
      go_end0
      exact ⟨rfl, ⟨v, l', h1, h2, fun _ => by simp [badL], fun h => absurd rfl h, by decide, by decide⟩, grefl _ _⟩
    · have hne : (n == 0) = false := by simpa using hn0
      have hne' : (n != 0) = true := by simpa using hn0
      go_enter Try.func97, Try.ntmps97
      go_wp2_with fail
      go_end0
      refine ⟨rfl, ?_, gset _ _ _⟩
      rw [badL, badE, if_pos ⟨rfl, hn0⟩, if_pos rfl]
      exact ⟨v, l', h1.put 1 _, h2.below ((Below.refl _ _).setCell (p := ⟨g, 1, none⟩) (Nat.le_refl _) _), fun h => absurd h hn0, fun _ => rfl, hn⟩
  · have hne : (e == 0) = false := by simpa using he
    go_enter Try.func97, Try.ntmps97
    go_wp2_with fail
    go_end0
    refine ⟨rfl, ?_, grefl _ _⟩
    rw [badL, badE, if_neg (fun h => he h.1), if_neg he]
    exact ⟨v, l', h1, h2, h3, h4, h5⟩
set_option maxRecDepth 100000 in
set_option maxHeartbeats 800000 in
theorem vend_any (w : World) (g : Nat) (l : List UInt8) (e : Int) (h : RdrAt w g l e) : Calls Try.prog 87 #[.pointer (some ⟨g, 0, none⟩)] w fun ev w' => ev = .returned (.int .i64 (endE l e)) ∧ w = w' := by
  have hl := vleft_any w g l e h
  have he := verr_any w g l e h
  by_cases h0 : 0 < l.length
  · rw [endE, if_pos h0]
    go_enter Try.func87, Try.ntmps87
    go_wp2_with fail
    refine hl.mono ?_
    rintro _ _ ⟨rfl, rfl⟩
    go_wp2_with fail
    go_ret
    exact ⟨rfl, rfl⟩
  · rw [endE, if_neg h0]
    go_enter Try.func87, Try.ntmps87
    go_wp2_with fail
    refine hl.mono ?_
    rintro _ _ ⟨rfl, rfl⟩
    go_wp2_with fail
    refine he.mono ?_
    rintro _ _ ⟨rfl, rfl⟩
    go_wp2_with fail
    go_ret
    exact ⟨rfl, rfl⟩
end Go.Proofs.Ytpoicbhbkabllaa

namespace Go.Proofs.Ytpoicbhbkabllaa
set_option linter.unusedSimpArgs false
set_option linter.unusedVariables false
open Go.RowKit

theorem vgo_cons (l : List UInt8) (k n : Nat) (hk : k < l.length) : vgo (l.drop k) k n =
    if k = 9 ∧ 1 < (l[k]).toNat % 128 ∨ 9 < k ∨ 0 < k ∧ (l[k]).toNat = 0 then .inl 3
    else if 127 < (l[k]).toNat then vgo (l.drop (k + 1)) (k + 1) (n + (l[k]).toNat % 128 * 2 ^ (7 * k))
    else .inr (n + (l[k]).toNat % 128 * 2 ^ (7 * k), k + 1) := by
  rw [List.drop_eq_getElem_cons hk]
  rfl
theorem and127 (c : UInt8) : bits .and .u8 (c.toNat : Int) 127 = (c.toNat : Int) % 128 := by
  have h := and_u8 c 127
  rw [show (((127 : UInt8).toNat : Nat) : Int) = 127 from rfl] at h
  rw [h, UInt8.toNat_and]
  have : c.toNat &&& (127 : UInt8).toNat = c.toNat % 128 := Nat.and_two_pow_sub_one_eq_mod c.toNat 7
  omega
theorem or_shift (n a i : Nat) (hi : i ≤ 9) (hn : n < 2 ^ (7 * i)) (ha : a < 128) (h9 : i = 9 → a ≤ 1) : bits .or .u64 (n : Int) ((a * 2 ^ (7 * i) : Nat) : Int) = ((n + a * 2 ^ (7 * i) : Nat) : Int) ∧ a * 2 ^ (7 * i) < 18446744073709551616 ∧ n + a * 2 ^ (7 * i) < 18446744073709551616 := by
  have hb : n + a * 2 ^ (7 * i) < 18446744073709551616 ∧ n < 18446744073709551616 := by
    rcases Nat.lt_or_ge i 9 with h | h
    · have h2 : 2 ^ (7 * i) ≤ 2 ^ 56 := Nat.pow_le_pow_right (by decide) (by omega)
      have := Nat.mul_le_mul (show a ≤ 127 by omega) h2
      omega
    · obtain rfl : i = 9 := by omega
      have := Nat.mul_le_mul_right (2 ^ (7 * 9)) (h9 rfl)
      omega
  refine ⟨?_, by omega, hb.1⟩
  have h := or_u64 (UInt64.ofNat n) (UInt64.ofNat (a * 2 ^ (7 * i)))
  have e1 : (UInt64.ofNat n).toNat = n := by rw [UInt64.toNat_ofNat']; exact Nat.mod_eq_of_lt (by omega)
  have e2 : (UInt64.ofNat (a * 2 ^ (7 * i))).toNat = a * 2 ^ (7 * i) := by rw [UInt64.toNat_ofNat']; exact Nat.mod_eq_of_lt (by omega)
  rw [UInt64.toNat_or, e1, e2] at h
  rw [h, Nat.or_comm, Nat.mul_comm, ← Nat.two_pow_add_eq_or_of_lt hn a]
  congr 1
  omega

set_option maxRecDepth 100000 in
set_option maxHeartbeats 1600000 in
theorem vnum_any (w : World) (g : Nat) (l : List UInt8) (e : Int) (most : Nat) (hm : most < 18446744073709551616) (h : RdrAt w g l e) :
    Calls Try.prog 83 #[.pointer (some ⟨g, 0, none⟩), .int .u64 (most : Int)] w fun ev w' => ev = .returned (.int .u64 ((numS most l e).1 : Nat)) ∧ RdrAt w' g (numS most l e).2.1 (numS most l e).2.2 ∧ w.grownBy w' (some g) := by
  have h0 := h
  obtain ⟨v, l', h1, h2, h3, h4, h5⟩ := h
  have hc := h1.cell 1 _ rfl
  have hd := h1.cell 0 _ rfl
  have hfr := h1.frozen 0
  by_cases he : e = 0
  · obtain rfl := h3 he
    subst he
    obtain ⟨A, c, rfl, hc1, hc2, hrd⟩ := id h2
    unfold maxLen at hc2
    have hbad := fun (n : Int) hn => vbad_any w g l' 0 n h0 hn
    have Hbad := Lib.hid hbad
    have hres : numS most l' 0 = numR most l' := by unfold numS; rw [if_neg (by simp)]
    have hRe : ∀ e, vgo l' 0 0 = .inl e → numR most l' = (0, [], e) := fun e h => by unfold numR; rw [h]
    have hRb : ∀ n k, vgo l' 0 0 = .inr (n, k) → most < n → numR most l' = (0, [], 9) := fun n k h hb => by unfold numR; rw [h]; exact if_pos hb
    have hRo : ∀ n k, vgo l' 0 0 = .inr (n, k) → ¬ most < n → numR most l' = (n, l'.drop k, 0) := fun n k h hb => by unfold numR; rw [h]; exact if_neg hb
    rw [hres]
    generalize numR most l' = R at *
    have HRe := Lib.hid hRe
    have HRb := Lib.hid hRb
    have HRo := Lib.hid hRo
    clear hres hbad h0 h3 h4 h5 hRe hRb hRo
    go_enter Try.func83, Try.ntmps83
    go_wp2_with fail
    go_loop [5, 22] (fun x i => ∃ k n : Nat, k ≤ l'.length ∧ k ≤ 10 ∧ i = .int .i64 k ∧ x = .int .u64 n ∧ vgo l' 0 0 = vgo (l'.drop k) k n ∧ n < 18446744073709551616 ∧ (k ≤ 9 → n < 2 ^ (7 * k))) (fun _ i => l'.length - (intOf i).toNat)
    case atStart => exact ⟨0, 0, by omega, by omega, rfl, rfl, by simp, by simp, by simp⟩
    case round =>
      obtain ⟨k, n, hk, hk10, rfl, rfl, hv, hn, hn9⟩ := hrel
      by_cases hlt : k < l'.length
      · rw [vgo_cons l' k n hlt] at hv
        obtain ⟨ad, rfl, _, hcs⟩ := hrd.ad (by omega)
        have hx := hcs k _ (b8s_get l' k hlt)
        have hback := h2.back_ (k := k + 1) (by omega)
        generalize l'[k] = b at *
        have hb := u8_lt b
        have hand := and127 b
        have hl8 := fun W => len8_any W (b.toNat % 128) (by omega)
        have hbl := bitLen_small (b.toNat % 128) (by omega)
        have hcast : ((b.toNat : Int) % 128) = ((b.toNat % 128 : Nat) : Int) := by omega
        rw [hcast] at hand
        clear hcast
        have hL := hbl.1
        generalize Lib.bitLen (b.toNat % 128) = L at *
        have Hl8 := Lib.hid hl8
        have Hback := Lib.hid hback
        have Hbl := Lib.hid hbl.2
        have Hn9 := Lib.hid hn9
        clear hl8 hback hrd hcs hbl hn9
        by_cases herr : k = 9 ∧ 1 < b.toNat % 128 ∨ 9 < k ∨ 0 < k ∧ b.toNat = 0
        · rw [if_pos herr] at hv
          have h64 : 64 < k * 7 + L ∨ k * 7 + L ≤ 64 ∧ 0 < k ∧ b.toNat = 0 := by
            have := Hbl.out; omega
          have HR := Lib.hid (HRe.out 3 hv)
          clear hv Hn9 herr Hbl HRe HRb HRo
          rcases h64 with h64 | ⟨h64, h0k, hb0⟩
          · go_wp2_with (first
              | (go_at_call 96; refine (Hl8.out _).mono ?_; rintro _ _ ⟨rfl, rfl⟩)
              | (go_at_call 97; refine (Hbad.out 3 (by decide)).mono ?_; rintro _ w1 ⟨rfl, hr1, hg1⟩))
            go_ret
            rw [HR.out]
            exact ⟨rfl, hr1, hg1⟩
          · have hz : ((b.toNat : Int) == 0) = true := by simp; omega
            clear hb0
            go_wp2_with (first
              | (go_at_call 96; refine (Hl8.out _).mono ?_; rintro _ _ ⟨rfl, rfl⟩)
              | (go_at_call 97; refine (Hbad.out 3 (by decide)).mono ?_; rintro _ w1 ⟨rfl, hr1, hg1⟩))
            go_ret
            rw [HR.out]
            exact ⟨rfl, hr1, hg1⟩
        · rw [if_neg herr] at hv
          have h64 : k * 7 + L ≤ 64 ∧ (k = 0 ∨ 0 < b.toNat) ∧ k ≤ 9 ∧ (k = 9 → b.toNat % 128 ≤ 1) := by
            have := Hbl.out; omega
          obtain ⟨h64, h0k, hk9, h9⟩ := h64
          obtain ⟨hor, hsh, hn'⟩ := or_shift n (b.toNat % 128) k hk9 (Hn9.out hk9) (Nat.mod_lt _ (by decide)) h9
          have H9 := Lib.hid h9
          have h64' : decide (64 < (k : Int) * 7 + (L : Int)) = false := by simp; omega
          have hz : 0 < k → ((b.toNat : Int) == 0) = false := fun h => by simp; omega
          have hpow : k + 1 ≤ 9 → n + b.toNat % 128 * 2 ^ (7 * k) < 2 ^ (7 * (k + 1)) := fun h => by
            have h1 := Hn9.out hk9
            have h2 := Nat.mul_le_mul_right (2 ^ (7 * k)) (show b.toNat % 128 ≤ 127 by omega)
            rw [show 7 * (k + 1) = 7 * k + 7 from by omega, Nat.pow_add]
            omega
          have hor' : bits .or .u64 (n : Int) (IntKind.u64.wrap ((b.toNat : Int) % 128 * 2 ^ (7 * k))) = ((n + b.toNat % 128 * 2 ^ (7 * k) : Nat) : Int) := by
            have e : ((b.toNat : Int) % 128 * 2 ^ (7 * k)) = ((b.toNat % 128 * 2 ^ (7 * k) : Nat) : Int) := by simp
            rw [e, wrap_u64, Int.emod_eq_of_lt (by omega) (by omega)]
            exact hor
          have Hpow := Lib.hid hpow
          clear herr h9 Hbl hor hsh hpow
          generalize n + b.toNat % 128 * 2 ^ (7 * k) = N at *
          by_cases hgt : 127 < b.toNat
          · rw [if_pos hgt] at hv
            have Hv := Lib.hid hv
            clear hv
            by_cases hk0 : 0 < k
            all_goals
              first | have hz := hz hk0 | (have hk0i : decide (0 < k) = false := (by simp; omega); clear hk0)
              go_wp2_with (first
                | (go_at_call 96; refine (Hl8.out _).mono ?_; rintro _ _ ⟨rfl, rfl⟩))
              exact ⟨⟨_, N, by omega, by omega, by go_num, rfl, Hv.out, hn', Hpow.out⟩, by simp [intOf]; omega⟩
          · rw [if_neg hgt] at hv
            by_cases hmo : most < N
            · have HR := Lib.hid (HRb.out _ _ hv hmo)
              clear hv HRb HRo HRe Hpow
              by_cases hk0 : 0 < k
              all_goals
                first | have hz := hz hk0 | (have hk0i : decide (0 < k) = false := (by simp; omega); clear hk0)
                go_wp2_with (first
                  | (go_at_call 96; refine (Hl8.out _).mono ?_; rintro _ _ ⟨rfl, rfl⟩)
                  | (go_at_call 97; refine (Hbad.out 9 (by decide)).mono ?_; rintro _ w1 ⟨rfl, hr1, hg1⟩))
                go_ret
                rw [HR.out]
                exact ⟨rfl, hr1, hg1⟩
            · have HR := Lib.hid (HRo.out _ _ hv hmo)
              have Hput := Lib.hid (fun u => h1.put 0 u)
              clear hv HRb HRo HRe Hpow
              by_cases hk0 : 0 < k
              all_goals
                first | have hz := hz hk0 | (have hk0i : decide (0 < k) = false := (by simp; omega); clear hk0)
                go_wp2_with (first
                  | (go_at_call 96; refine (Hl8.out _).mono ?_; rintro _ _ ⟨rfl, rfl⟩))
                all_goals
                  go_ret
                  rw [HR.out]
                  have hb2 := Hback.out
                  first | rw [if_pos (show c = k + 1 by first | assumption | omega), show c - (k + 1) = 0 from by omega] at hb2 | rw [if_neg (show ¬ c = k + 1 by first | assumption | omega)] at hb2
                  exact ⟨rfl, ⟨_, _, Hput.out _, hb2.below ((Below.refl _ _).setCell (p := ⟨g, 0, none⟩) (Nat.le_refl _) _), fun _ => rfl, fun h => absurd rfl h, by show _ ≤ (0 : Int); decide, by show (0 : Int) ≤ _; decide⟩, gset _ _ _⟩
      · obtain rfl : k = l'.length := by omega
        rw [List.drop_eq_nil_of_le (Nat.le_refl _)] at hv
        have HR := Lib.hid (HRe.out 2 hv)
        clear hv HRe HRb HRo
        go_wp2_with (first
          | (go_at_call 97; refine (Hbad.out 2 (by decide)).mono ?_; rintro _ w1 ⟨rfl, hr1, hg1⟩))
        go_ret
        rw [HR.out]
        exact ⟨rfl, hr1, hg1⟩
  · have hne : (e != 0) = true := by simpa using he
    have hne' : (e == 0) = false := by simpa using he
    have hR : numS most l e = (0, [], e) := by unfold numS; rw [if_pos he]
    rw [hR]
    have hl := h4 he
    subst hl
    clear hR
    go_enter Try.func83, Try.ntmps83
    go_wp2_with fail
    go_ret
    exact ⟨rfl, h0, grefl _ _⟩
end Go.Proofs.Ytpoicbhbkabllaa

namespace Go.Proofs.Ytpoicbhbkabllaa
set_option linter.unusedSimpArgs false
set_option linter.unusedVariables false
open Go.RowKit

theorem bdrew {B : Nat} {a w : World} (h : Below B a w) : Below B a w.drew := h.drew
set_option maxRecDepth 100000 in
set_option maxHeartbeats 1600000 in
theorem rnum_any (w : World) (B : Nat) (v : Value) (l : List UInt8) (e : Int) (most : Nat) (hm : most < 18446744073709551616) (hby : By w B v l) (hB : B ≤ w.heap.size) (hl : e ≠ 0 → l = []) :
    Calls Try.prog 61 #[.agg #[v, .int .i64 e], .int .u64 (most : Int)] w fun ev w' => ∃ v', ev = .returned (.tuple #[.int .u64 ((numS most l e).1 : Nat), .agg #[v', .int .i64 (numS most l e).2.2]]) ∧ By w' B v' (numS most l e).2.1 ∧ Below w.heap.size w w' := by
  obtain ⟨A, c, rfl, hc1, hc2, hrd⟩ := id hby
  unfold maxLen at hc2
  by_cases he : e = 0
  · subst he
    have hres : numS most l 0 = numR most l := by unfold numS; rw [if_neg (by simp)]
    have hRe : ∀ e, vgo l 0 0 = .inl e → numR most l = (0, [], e) := fun e h => by unfold numR; rw [h]
    have hRb : ∀ n k, vgo l 0 0 = .inr (n, k) → most < n → numR most l = (0, [], 9) := fun n k h hb => by unfold numR; rw [h]; exact if_pos hb
    have hRo : ∀ n k, vgo l 0 0 = .inr (n, k) → ¬ most < n → numR most l = (n, l.drop k, 0) := fun n k h hb => by unfold numR; rw [h]; exact if_neg hb
    rw [hres]
    generalize numR most l = R at *
    have HRe := Lib.hid hRe
    have HRb := Lib.hid hRb
    have HRo := Lib.hid hRo
    clear hres hRe hRb hRo hl
    go_enter Try.func61, Try.ntmps61
    go_wp2_with fail
    go_loop [6, 7, 17] (fun x s i => ∃ k n sc : Nat, k ≤ l.length ∧ k ≤ 10 ∧ i = .int .i64 k ∧ x = .int .u64 n ∧ s = .int .u64 sc ∧ sc = 2 ^ (7 * k) % 18446744073709551616 ∧ vgo l 0 0 = vgo (l.drop k) k n ∧ n < 18446744073709551616 ∧ (k ≤ 9 → n < 2 ^ (7 * k))) (fun _ _ i => l.length - (intOf i).toNat)
    case atStart => exact ⟨0, 0, 1, by omega, by omega, rfl, rfl, rfl, by simp, by simp, by simp, by simp⟩
    case round =>
      obtain ⟨k, n, sc, hk, hk10, rfl, rfl, rfl, hsc0, hv, hn, hn9⟩ := hrel
      have hscl : sc < 18446744073709551616 := by omega
      have Hsc0 := Lib.hid hsc0
      clear hsc0
      by_cases hlt : k < l.length
      · rw [vgo_cons l k n hlt] at hv
        obtain ⟨ad, rfl, hab, hcs⟩ := hrd.ad (by omega)
        have hx := hcs k _ (b8s_get l k hlt)
        have hback := hby.back_ (k := k + 1) (by omega)
        have hx' : ((w.alloc (.cells #[.slice (some ad) l.length c, .int .i64 0] 114)).alloc (.cells #[.slice none 0 0, .int .i64 0] 114)).cell? (ad.add k) = some (.int .u8 ((l[k]).toNat : Int)) := by
          rw [World.cell?_alloc_lt _ _ _ (by rw [add_block]; simp; omega), World.cell?_alloc_lt _ _ _ (by rw [add_block]; omega)]
          exact hx
        generalize l[k] = b at *
        have hb := u8_lt b
        have Hback := Lib.hid hback
        have Hn9 := Lib.hid hn9
        clear hback hrd hcs hn9 hby hx
        by_cases herr : k = 9 ∧ 1 < b.toNat % 128 ∨ 9 < k ∨ 0 < k ∧ b.toNat = 0
        · rw [if_pos herr] at hv
          have HR := Lib.hid (HRe.out 3 hv)
          clear hv Hn9 HRe HRb HRo
          have h3 : (((k : Int) == 9) = true ∧ decide (1 < (b.toNat : Int) % 128) = true) ∨ (((k : Int) == 9) = true ∧ decide (1 < (b.toNat : Int) % 128) = false ∧ decide (9 < (k : Int)) = false ∧ decide (0 < k) = true ∧ ((b.toNat : Int) == 0) = true) ∨ (((k : Int) == 9) = false ∧ decide (9 < (k : Int)) = true) ∨ (((k : Int) == 9) = false ∧ decide (9 < (k : Int)) = false ∧ decide (0 < k) = true ∧ ((b.toNat : Int) == 0) = true) := by
            by_cases h9 : k = 9
            · by_cases h1 : 1 < b.toNat % 128
              · left; simp; omega
              · right; left; simp; omega
            · by_cases hk9 : 9 < k
              · right; right; left; simp; omega
              · right; right; right; simp; omega
          clear herr
          rcases h3 with ⟨h1, h2⟩ | ⟨h1, h2, h3, h4, h5⟩ | ⟨h1, h2⟩ | ⟨h1, h2, h3, h4⟩
          all_goals
            go_wp2_with fail
            refine bodyPost_ret (v := .tuple #[.int .u64 0, .agg #[.slice none 0 0, .int .i64 3]]) (by simp [results, Try.results61, go_sem]) rfl ?_
            rw [HR.out]
            exact ⟨_, rfl, By.nil_, bstep (balloc _ _) (balloc _ _)⟩
        · rw [if_neg herr] at hv
          have h3 : (((k : Int) == 9) = true ∧ decide (1 < (b.toNat : Int) % 128) = false ∧ decide (9 < (k : Int)) = false ∧ decide (0 < k) = true ∧ ((b.toNat : Int) == 0) = false) ∨ (((k : Int) == 9) = false ∧ decide (9 < (k : Int)) = false ∧ decide (0 < k) = true ∧ ((b.toNat : Int) == 0) = false) ∨ (((k : Int) == 9) = false ∧ decide (9 < (k : Int)) = false ∧ decide (0 < k) = false) := by
            by_cases h9 : k = 9
            · left; simp; omega
            · right
              by_cases hk0 : 0 < k
              · left; simp; omega
              · right; simp; omega
          have hk9 : k ≤ 9 ∧ (k = 9 → b.toNat % 128 ≤ 1) := by omega
          obtain ⟨hor, hsh, hn'⟩ := or_shift n (b.toNat % 128) k hk9.1 (Hn9.out hk9.1) (Nat.mod_lt _ (by decide)) hk9.2
          have hpow : k + 1 ≤ 9 → n + b.toNat % 128 * 2 ^ (7 * k) < 2 ^ (7 * (k + 1)) := fun h => by
            have h1 := Hn9.out hk9.1
            have h2 := Nat.mul_le_mul_right (2 ^ (7 * k)) (show b.toNat % 128 ≤ 127 by omega)
            rw [show 7 * (k + 1) = 7 * k + 7 from by omega, Nat.pow_add]
            omega
          have h2k : 2 ^ (7 * k) < 18446744073709551616 := Nat.lt_of_le_of_lt (Nat.pow_le_pow_right (by decide) (show 7 * k ≤ 63 by omega)) (by decide)
          have hsc1 : sc = 2 ^ (7 * k) := by rw [Hsc0.out, Nat.mod_eq_of_lt h2k]
          have hsum : IntKind.u64.wrap ((n : Int) + IntKind.u64.wrap ((b.toNat : Int) % 128 * (sc : Int))) = ((n + b.toNat % 128 * 2 ^ (7 * k) : Nat) : Int) := by
            rw [← hsc1] at hsh hn' ⊢
            have e : ((b.toNat : Int) % 128 * (sc : Int)) = ((b.toNat % 128 * sc : Nat) : Int) := by simp
            rw [e]
            generalize b.toNat % 128 * sc = q at *
            have hq : IntKind.u64.wrap (q : Int) = q := by rw [wrap_u64]; omega
            rw [hq, wrap_u64]
            omega
          have hsc : IntKind.u64.wrap ((sc : Int) * 128) = ((2 ^ (7 * (k + 1)) % 18446744073709551616 : Nat) : Int) := by
            rw [show 7 * (k + 1) = 7 * k + 7 from by omega, Nat.pow_add, ← hsc1, wrap_u64]
            omega
          have Hpow := Lib.hid hpow
          have Hsc := Lib.hid hsc
          clear herr hor hsh hpow hk9 h2k hsc hsc1
          generalize n + b.toNat % 128 * 2 ^ (7 * k) = N at *
          by_cases hgt : b.toNat < 128
          · rw [if_neg (by omega)] at hv
            by_cases hmo : most < N
            · have HR := Lib.hid (HRb.out _ _ hv hmo)
              clear hv HRb HRo HRe Hpow Hsc
              rcases h3 with ⟨h1, h2, h3, h4, h5⟩ | ⟨h1, h2, h3, h4⟩ | ⟨h1, h2, h3⟩
              all_goals
                go_wp2_with fail
                refine bodyPost_ret (v := .tuple #[.int .u64 0, .agg #[.slice none 0 0, .int .i64 9]]) (by simp [results, Try.results61, go_sem]) rfl ?_
                rw [HR.out]
                exact ⟨_, rfl, By.nil_, bstep (balloc _ _) (balloc _ _)⟩
            · have HR := Lib.hid (HRo.out _ _ hv hmo)
              clear hv HRb HRo HRe Hpow Hsc
              rcases h3 with ⟨h1, h2, h3, h4, h5⟩ | ⟨h1, h2, h3, h4⟩ | ⟨h1, h2, h3⟩
              all_goals
                go_wp2_with fail
                go_region
                have hb2 := Hback.out
                by_cases hck : c = k + 1
                · rw [if_pos hck] at hb2 ⊢
                  go_wp2_with fail
                  refine bodyPost_ret (v := .tuple #[.int .u64 (N : Int), .agg #[.slice (some ad) (l.length - (k + 1)) (c - (k + 1)), .int .i64 0]]) (by simp [results, Try.results61, go_sem]) rfl ?_
                  rw [HR.out]
                  exact ⟨_, rfl, hb2.below ((bdrew (bstep (balloc _ _) (balloc _ _))).mono hB), bdrew (bstep (balloc _ _) (balloc _ _))⟩
                · rw [if_neg hck] at hb2 ⊢
                  go_wp2_with fail
                  refine bodyPost_ret (v := .tuple #[.int .u64 (N : Int), .agg #[.slice (some { block := ad.block, off := ad.off + (k + 1) }) (l.length - (k + 1)) (c - (k + 1)), .int .i64 0]]) (by simp [results, Try.results61, go_sem]) rfl ?_
                  rw [HR.out]
                  refine ⟨_, rfl, ?_, bdrew (bstep (balloc _ _) (balloc _ _))⟩
                  have hb3 := hb2.below ((bdrew (bstep (balloc w (.cells #[.slice (some ad) l.length c, .int .i64 0] 114)) (balloc _ (.cells #[.slice (some { block := ad.block, off := ad.off + (k + 1) }) (l.length - (k + 1)) (c - (k + 1)), .int .i64 0] 114)))).mono hB)
                  simpa [Addr.add] using hb3
          · rw [if_pos (by omega)] at hv
            have Hv := Lib.hid hv
            clear hv HRb HRo HRe
            rcases h3 with ⟨h1, h2, h3, h4, h5⟩ | ⟨h1, h2, h3, h4⟩ | ⟨h1, h2, h3⟩
            all_goals
              go_wp2_with fail
              refine ⟨⟨k + 1, N, _, by omega, ?_, by go_num, rfl, congrArg (Value.int .u64) Hsc.out, rfl, Hv.out, hn', Hpow.out⟩, by simp [intOf]; omega⟩
              all_goals (simp at h1 h2; omega)
      · obtain rfl : k = l.length := by omega
        rw [List.drop_eq_nil_of_le (Nat.le_refl _)] at hv
        have HR := Lib.hid (HRe.out 2 hv)
        clear hv HRe HRb HRo
        go_wp2_with fail
        refine bodyPost_ret (v := .tuple #[.int .u64 0, .agg #[.slice none 0 0, .int .i64 2]]) (by simp [results, Try.results61, go_sem]) rfl ?_
        rw [HR.out]
        exact ⟨_, rfl, By.nil_, bstep (balloc _ _) (balloc _ _)⟩
  · have hne : (e != 0) = true := by simpa using he
    have hne' : (e == 0) = false := by simpa using he
    have hR : numS most l e = (0, [], e) := by unfold numS; rw [if_pos he]
    rw [hR]
    have hl := hl he
    subst hl
    clear hR
    go_enter Try.func61, Try.ntmps61
    go_wp2_with fail
    go_region
    go_wp2_with fail
    refine bodyPost_ret (v := .tuple #[.int .u64 0, .agg #[.slice A 0 c, .int .i64 e]]) (by simp [results, Try.results61, go_sem]) rfl ?_
    exact ⟨_, rfl, hby.below ((bdrew (bstep (balloc _ _) (balloc _ _))).mono hB), bdrew (bstep (balloc _ _) (balloc _ _))⟩
end Go.Proofs.Ytpoicbhbkabllaa

namespace Go.Proofs.Ytpoicbhbkabllaa
set_option linter.unusedSimpArgs false
set_option linter.unusedVariables false
open Go.RowKit

/-- a reader's bytes: the bytes, what is left, the error -/
def bytesS (n : Int) (l : List UInt8) (e : Int) : List UInt8 × List UInt8 × Int :=
  if e ≠ 0 then ([], [], e) else if n < 0 then ([], [], 1) else if (l.length : Int) < n then ([], [], 2) else (l.take n.toNat, l.drop n.toNat, 0)
set_option maxRecDepth 100000 in
set_option maxHeartbeats 800000 in
theorem vbytes_any (w : World) (g : Nat) (l : List UInt8) (e n : Int) (hn : -9223372036854775808 ≤ n ∧ n ≤ 9223372036854775807) (hsz : l.length ≤ 140737488355328) (h : RdrAt w g l e) :
    Calls Try.prog 85 #[.pointer (some ⟨g, 0, none⟩), .int .i64 n] w fun ev w' => ∃ v', ev = .returned v' ∧ Ow w' w.heap.size v' (bytesS n l e).1 ∧ RdrAt w' g (bytesS n l e).2.1 (bytesS n l e).2.2 ∧ w.grownBy w' (some g) := by
  have h0 := h
  obtain ⟨v, l', h1, h2, h3, h4, h5⟩ := h
  have hc := h1.cell 1 _ rfl
  have hd := h1.cell 0 _ rfl
  have hfr := h1.frozen 0
  by_cases he : e = 0
  · obtain rfl := h3 he
    subst he
    obtain ⟨A, c, rfl, hc1, hc2, hrd⟩ := id h2
    unfold maxLen at hc2
    have hbad := fun (n : Int) hn => vbad_any w g l' 0 n h0 hn
    have Hbad := Lib.hid hbad
    clear hbad h3 h4
    by_cases hn0 : n < 0
    · have hR : bytesS n l' 0 = ([], [], 1) := by unfold bytesS; rw [if_neg (by simp), if_pos hn0]
      rw [hR]
      clear hR
      go_enter Try.func85, Try.ntmps85
      go_wp2_with (first
        | (go_at_call 97; refine (Hbad.out 1 (by decide)).mono ?_; rintro _ w1 ⟨rfl, hr1, hg1⟩))
      go_ret
      exact ⟨_, rfl, Ow.nil_ _ _, hr1, hg1⟩
    · obtain ⟨k, rfl⟩ : ∃ k : Nat, n = (k : Int) := ⟨n.toNat, by omega⟩
      by_cases hnl : l'.length < k
      · have hR : bytesS (k : Int) l' 0 = ([], [], 2) := by unfold bytesS; rw [if_neg (by simp), if_neg hn0, if_pos (by omega)]
        rw [hR]
        clear hR
        go_enter Try.func85, Try.ntmps85
        go_wp2_with (first
          | (go_at_call 97; refine (Hbad.out 2 (by decide)).mono ?_; rintro _ w1 ⟨rfl, hr1, hg1⟩))
        go_ret
        exact ⟨_, rfl, Ow.nil_ _ _, hr1, hg1⟩
      · have hR : bytesS (k : Int) l' 0 = (l'.take k, l'.drop k, 0) := by unfold bytesS; rw [if_neg (by simp), if_neg hn0, if_neg (by omega)]; simp
        rw [hR]
        have hlt := h1.lt
        have hfront := (h2.front_ (k := k) (by omega)).more (B' := w.heap.size) (by omega)
        have hback := h2.back_ (k := k) (by omega)
        have htl : (l'.take k).length ≤ 140737488355328 := by simp; omega
        have hcl := clone8 w _ (l'.take k) hfront htl
        have Hfront := Lib.hid hfront
        have Hback := Lib.hid hback
        have Hcl := Lib.hid hcl
        clear hR hfront hback hcl htl hrd
        go_enter Try.func85, Try.ntmps85
        go_wp2_with fail
        refine Hcl.out.mono ?_
        rintro _ w1 ⟨v1, rfl, hown1, hb1⟩
        have h11 := h1.below hlt hb1
        have hd1 := h11.cell 0 _ rfl
        have hfr1 := h11.frozen 0
        have hlt1 := h11.lt
        have hkeep : ∀ u, Ow (w1.setCell ⟨g, 0, none⟩ u) w.heap.size v1 (l'.take k) := fun u => hown1.keep (gset w1 ⟨g, 0, none⟩ u) (by
          cases hv : v1.ownBlock with
          | none => exact .inl rfl
          | some q => exact .inr (fun e => by injection e with e; have h8 := (hown1.blk q hv).1; have h9 : q = g := e; omega))
        have Hkeep := Lib.hid hkeep
        clear hkeep
        have H11 := Lib.hid h11
        clear hown1 h11 hd hc hfr h1
        go_wp2_with fail
        all_goals
          go_ret
          refine ⟨_, rfl, Hkeep.out _, ?_, gtrans (gbelow hb1 _) (gset _ _ _)⟩
          have hb2 := Hback.out
          first | rw [if_pos (show c = k by first | assumption | omega), show c - k = 0 from by omega] at hb2 | rw [if_neg (show ¬ c = k by first | assumption | omega)] at hb2
          exact ⟨_, _, H11.out.put 0 _, hb2.below ((hb1.mono (by omega)).trans ((Below.refl _ _).setCell (p := ⟨g, 0, none⟩) (Nat.le_refl _) _)), fun _ => rfl, fun h => absurd rfl h, by show _ ≤ (0 : Int); decide, by show (0 : Int) ≤ _; decide⟩
  · have hne : (e != 0) = true := by simpa using he
    have hne' : (e == 0) = false := by simpa using he
    have hR : bytesS n l e = ([], [], e) := by unfold bytesS; rw [if_pos he]
    rw [hR]
    have hl := h4 he
    subst hl
    clear hR
    go_enter Try.func85, Try.ntmps85
    go_wp2_with fail
    go_ret
    exact ⟨_, rfl, Ow.nil_ _ _, h0, grefl _ _⟩
end Go.Proofs.Ytpoicbhbkabllaa

namespace Go.Proofs.Ytpoicbhbkabllaa
set_option linter.unusedSimpArgs false
set_option linter.unusedVariables false
open Go.RowKit

set_option maxRecDepth 100000 in
set_option maxHeartbeats 800000 in
theorem refnum_any (n : Nat) : ∀ (w : World), n < 18446744073709551616 → Calls Try.prog 76 #[.int .u64 (n : Int)] w fun e w' => ∃ v', e = .returned v' ∧ Ow w' w.heap.size v' (vput n) ∧ Below w.heap.size w w' := by
  induction n using Nat.strongRecOn with
  | _ n ih =>
    intro w hn
    have hlen := vput_len64 n hn
    by_cases hlt : n < 128
    · have hst := vput_lt hlt
      rw [hst]
      have hw : (((UInt8.ofNat n).toNat : Nat) : Int) = n := by rw [u8_ofNat_toNat n (by omega)]
      have hnew := Ow.new_ w [UInt8.ofNat n] (by simp [maxLen])
      have e : (b8s [UInt8.ofNat n]).toArray = #[.int .u8 (n : Int)] := by simp only [b8s, List.map_cons, List.map_nil, b8, hw]
      rw [e] at hnew
      have Hnew := Lib.hid hnew
      clear ih hst hw hnew e hlen
      go_enter Try.func76, Try.ntmps76
      go_wp2_with fail
      go_ret
      exact ⟨_, rfl, Hnew.out, balloc _ _⟩
    · have hst := vput_ge (n := n) (by omega)
      have hih := fun W => ih (n / 128) (by omega) W (by omega)
      have hnew := Ow.new_ w [UInt8.ofNat (n % 128 + 128)] (by simp [maxLen])
      have hw : (((UInt8.ofNat (n % 128 + 128)).toNat : Nat) : Int) = (n : Int) % 128 + 128 := by rw [u8_ofNat_toNat _ (by omega)]; omega
      have e : (b8s [UInt8.ofNat (n % 128 + 128)]).toArray = #[.int .u8 ((n : Int) % 128 + 128)] := by simp only [b8s, List.map_cons, List.map_nil, b8, hw]
      have e2 : ((n / 128 : Nat) : Int) = (n : Int) / 128 := by omega
      rw [e] at hnew
      rw [e2] at hih
      have hl2 : (vput (n / 128)).length ≤ 11 := (vput_len64 _ (by omega)).2
      have Hnew := Lib.hid hnew
      have Hih := Lib.hid hih
      have Hst := Lib.hid hst
      clear ih hst hw hnew e hlen e2 hih
      go_enter Try.func76, Try.ntmps76
      go_wp2_with fail
      refine (Hih.out _).mono ?_
      rintro _ w1 ⟨v1, rfl, hown1, hb1⟩
      have hs1 := hb1.size
      simp at hs1
      have hb01 := bstep (balloc w _) hb1
      go_wp2_with (at_builtin
                   refine wpList_app8 rfl (.tmp 12) (.tmp 15) rfl (Hnew.out.below_ hb1) hown1.by_ rfl rfl (by simp; omega) hb01.size ?_
                   intro v2 w2 hown2 hext2)
      go_ret
      refine ⟨_, rfl, ?_, hb01.trans (hext2.below hb01.size (by simp [Value.ownBlock]))⟩
      rw [Hst.out]
      exact hown2
def endR (l : List UInt8) (e : Int) : Int := if e = 0 ∧ 0 < l.length then 4 else e
theorem endR_eq (l : List UInt8) (e : Int) (h : e ≠ 0 → l = []) : endR l e = endE l e := by
  unfold endR endE
  by_cases he : e = 0
  · subst he; simp
  · rw [h he]; simp [he]
set_option maxRecDepth 100000 in
set_option maxHeartbeats 800000 in
theorem rend_any (w : World) (v : Value) (l : List UInt8) (e : Int) (B : Nat) (hby : By w B v l) : Calls Try.prog 64 #[.agg #[v, .int .i64 e]] w fun ev w' => ev = .returned (.int .i64 (endR l e)) ∧ Below w.heap.size w w' := by
  obtain ⟨A, c, rfl, hc1, hc2, hrd⟩ := hby
  unfold maxLen at hc2
  by_cases he : e = 0
  · subst he
    by_cases h0 : 0 < l.length
    · have hR : endR l 0 = 4 := by unfold endR; rw [if_pos ⟨rfl, h0⟩]
      rw [hR]
      clear hR hrd
      go_enter Try.func64, Try.ntmps64
      go_wp2_with fail
      go_ret
      exact ⟨rfl, balloc _ _⟩
    · have hR : endR l 0 = 0 := by unfold endR; rw [if_neg (fun h => h0 h.2)]
      rw [hR]
      have hd : decide (0 < l.length) = false := by simpa using h0
      clear hR hrd
      go_enter Try.func64, Try.ntmps64
      go_wp2_with fail
      go_ret
      exact ⟨rfl, balloc _ _⟩
  · have hR : endR l e = e := by unfold endR; rw [if_neg (fun h => he h.1)]
    rw [hR]
    have hne' : (e == 0) = false := by simpa using he
    clear hR hrd
    go_enter Try.func64, Try.ntmps64
    go_wp2_with fail
    go_ret
    exact ⟨rfl, balloc _ _⟩
set_option maxRecDepth 100000 in
set_option maxHeartbeats 1600000 in
theorem rbytes_any (w : World) (B : Nat) (v : Value) (l : List UInt8) (e n : Int) (hn : -9223372036854775808 ≤ n ∧ n ≤ 9223372036854775807) (hby : By w B v l) (hB : B ≤ w.heap.size) (hl : e ≠ 0 → l = []) :
    Calls Try.prog 62 #[.agg #[v, .int .i64 e], .int .i64 n] w fun ev w' => ∃ v1 v', ev = .returned (.tuple #[v1, .agg #[v', .int .i64 (bytesS n l e).2.2]]) ∧ By w' B v1 (bytesS n l e).1 ∧ By w' B v' (bytesS n l e).2.1 ∧ Below w.heap.size w w' := by
  obtain ⟨A, c, rfl, hc1, hc2, hrd⟩ := id hby
  unfold maxLen at hc2
  have hb0 := bstep (balloc w (.cells #[.slice A l.length c, .int .i64 e] 114)) (balloc _ (.cells #[.slice none 0 0, .int .i64 0] 114))
  by_cases he : e = 0
  · subst he
    clear hl
    by_cases hn0 : n < 0
    · have hR : bytesS n l 0 = ([], [], 1) := by unfold bytesS; rw [if_neg (by simp), if_pos hn0]
      rw [hR]
      clear hR hrd
      go_enter Try.func62, Try.ntmps62
      go_wp2_with fail
      refine bodyPost_ret (v := .tuple #[.slice (some { block := w.heap.size + 1 + 1, off := 0 }) 0 0, .agg #[.slice none 0 0, .int .i64 1]]) (by simp [results, Try.results62, go_sem]) rfl ?_
      exact ⟨_, _, rfl, By.empty _ _ (by simp), By.nil_, bstep (bstep (balloc _ _) (balloc _ _)) (balloc _ _)⟩
    · obtain ⟨k, rfl⟩ : ∃ k : Nat, n = (k : Int) := ⟨n.toNat, by omega⟩
      by_cases hnl : l.length < k
      · have hR : bytesS (k : Int) l 0 = ([], [], 2) := by unfold bytesS; rw [if_neg (by simp), if_neg hn0, if_pos (by omega)]
        rw [hR]
        clear hR hrd
        go_enter Try.func62, Try.ntmps62
        go_wp2_with fail
        refine bodyPost_ret (v := .tuple #[.slice (some { block := w.heap.size + 1 + 1, off := 0 }) 0 0, .agg #[.slice none 0 0, .int .i64 2]]) (by simp [results, Try.results62, go_sem]) rfl ?_
        exact ⟨_, _, rfl, By.empty _ _ (by simp), By.nil_, bstep (bstep (balloc _ _) (balloc _ _)) (balloc _ _)⟩
      · have hR : bytesS (k : Int) l 0 = (l.take k, l.drop k, 0) := by unfold bytesS; rw [if_neg (by simp), if_neg hn0, if_neg (by omega)]; simp
        rw [hR]
        have hfront := hby.front_ (k := k) (by omega)
        have hback := hby.back_ (k := k) (by omega)
        have Hfront := Lib.hid hfront
        have Hback := Lib.hid hback
        clear hR hfront hback hrd
        go_enter Try.func62, Try.ntmps62
        go_wp2_with fail
        go_region
        have hb2 := Hback.out
        by_cases hck : c = k
        · rw [if_pos hck] at hb2 ⊢
          go_wp2_with fail
          refine bodyPost_ret (v := .tuple #[.slice A k c, .agg #[.slice A (l.length - k) (c - k), .int .i64 0]]) (by simp [results, Try.results62, go_sem]) rfl ?_
          exact ⟨_, _, rfl, Hfront.out.below ((bdrew (bstep (balloc _ _) (balloc _ _))).mono hB), hb2.below ((bdrew (bstep (balloc _ _) (balloc _ _))).mono hB), bdrew (bstep (balloc _ _) (balloc _ _))⟩
        · rw [if_neg hck] at hb2 ⊢
          go_wp2_with fail
          refine bodyPost_ret (v := .tuple #[.slice A k c, .agg #[.slice (A.map fun x => x.add k) (l.length - k) (c - k), .int .i64 0]]) (by simp [results, Try.results62, go_sem]) rfl ?_
          exact ⟨_, _, rfl, Hfront.out.below ((bdrew (bstep (balloc _ _) (balloc _ _))).mono hB), hb2.below ((bdrew (bstep (balloc _ _) (balloc _ _))).mono hB), bdrew (bstep (balloc _ _) (balloc _ _))⟩
  · have hne : (e != 0) = true := by simpa using he
    have hne' : (e == 0) = false := by simpa using he
    have hR : bytesS n l e = ([], [], e) := by unfold bytesS; rw [if_pos he]
    rw [hR]
    have hl' := hl he
    subst hl'
    clear hR hl
    go_enter Try.func62, Try.ntmps62
    go_wp2_with fail
    go_region
    go_wp2_with fail
    refine bodyPost_ret (v := .tuple #[.slice (some { block := w.heap.size + 1 + 1, off := 0 }) 0 0, .agg #[.slice A 0 c, .int .i64 e]]) (by simp [results, Try.results62, go_sem]) rfl ?_
    exact ⟨_, _, rfl, By.empty _ _ (by simp), By.empty _ _ (by unfold maxLen; omega), bdrew (bstep (bstep (balloc _ _) (balloc _ _)) (balloc _ _))⟩
end Go.Proofs.Ytpoicbhbkabllaa

namespace Go.Proofs.Ytpoicbhbkabllaa
set_option linter.unusedSimpArgs false
set_option linter.unusedVariables false
open Go.RowKit

abbrev bless := Op.bytesLess
theorem bless_irrefl : ∀ a, bless a a = false
  | [] => rfl
  | x :: a => by simp [bless, Op.bytesLess]; exact bless_irrefl a
theorem bless_trans : ∀ a b c, bless a b = true → bless b c = true → bless a c = true
  | _, [], _, h, _ => by simp [bless, Op.bytesLess] at h
  | _, _ :: _, [], _, h => by simp [bless, Op.bytesLess] at h
  | [], _ :: _, _ :: _, _, _ => rfl
  | x :: a, y :: b, z :: c, h, k => by
    simp only [bless, Op.bytesLess, Bool.or_eq_true, Bool.and_eq_true, decide_eq_true_eq, beq_iff_eq] at h k ⊢
    rcases h with h | ⟨rfl, h⟩
    · rcases k with k | ⟨rfl, k⟩
      · exact .inl (UInt8.lt_trans h k)
      · exact .inl h
    · rcases k with k | ⟨rfl, k⟩
      · exact .inl k
      · exact .inr ⟨rfl, bless_trans a b c h k⟩
theorem bless_total : ∀ a b, bless a b = true ∨ a = b ∨ bless b a = true
  | [], [] => .inr (.inl rfl)
  | [], _ :: _ => .inl rfl
  | _ :: _, [] => .inr (.inr rfl)
  | x :: a, y :: b => by
    simp only [bless, Op.bytesLess, Bool.or_eq_true, Bool.and_eq_true, decide_eq_true_eq, beq_iff_eq, List.cons.injEq]
    rcases Nat.lt_trichotomy x.toNat y.toNat with h | h | h
    · exact .inl (.inl (UInt8.lt_iff_toNat_lt.2 h))
    · have e : x = y := UInt8.toNat_inj.1 h
      subst e
      rcases bless_total a b with h | h | h
      · exact .inl (.inr ⟨rfl, h⟩)
      · exact .inr (.inl ⟨rfl, h⟩)
      · exact .inr (.inr (.inr ⟨rfl, h⟩))
    · exact .inr (.inr (.inl (UInt8.lt_iff_toNat_lt.2 h)))
def u64Of (n : Int) : Nat := (n % 18446744073709551616).toNat
theorem u64Of_lt (n : Int) : u64Of n < 18446744073709551616 := by unfold u64Of; omega
theorem u64Of_wrap (n : Int) : IntKind.u64.wrap n = (u64Of n : Int) := by rw [wrap_u64]; unfold u64Of; omega
def nums (l : List Int) : List UInt8 := l.flatMap fun b => vput (u64Of b)
def bodyF (f : MFile) : List UInt8 := vput f.name.length ++ f.name ++ vput f.id.toNat ++ vput (u64Of f.size) ++ nums f.blocks
def bodyM (m : MMan) : List UInt8 := vput m.ver.toNat ++ vput m.next.toNat ++ vput m.files.length ++ m.files.flatMap bodyF
/-- a file by itself -/
def basicF (next : UInt32) (f : MFile) : Bool := !(decide (f.name.length < 1) || decide (32 < f.name.length) || decide (next.toNat ≤ f.id.toNat) || decide (f.size < 0) || decide (manyOf f.size ≠ (f.blocks.length : Int)))
/-- beside one ahead of it -/
def besideF (p f : MFile) : Bool := !(decide (p.id = f.id) || !(bless p.name f.name))
def blockOk (prev : List MFile) (l : List Int) (a : Nat) : Bool := !(decide (l.getD a 0 < 32) || decide (65536 ≤ l.getD a 0) || decide (l.getD a 0 ∈ l.take a)) && prev.all fun p => !decide (l.getD a 0 ∈ p.blocks)
def blocksOk (prev : List MFile) (l : List Int) (n : Nat) : Bool := (List.range n).all (blockOk prev l)
def fileR (next : UInt32) (prev : List MFile) (f : MFile) : Bool := basicF next f && prev.all (fun p => besideF p f) && blocksOk prev f.blocks f.blocks.length
def filesR (m : MMan) (n : Nat) : Bool := (List.range n).all fun i => fileR m.next (m.files.take i) (m.files.getD i ⟨[], 0, 0, []⟩)
def mayM (m : MMan) : Bool := filesR m m.files.length && decide ((bodyM m).length + 13 ≤ 2048)
def greatN (l : List MFile) : Nat := (l.map fun f => min f.blocks.length 3000 + min f.name.length 3000).sum
def greatM (m : MMan) : Bool := decide (60 < m.files.length) || decide (3000 < greatN m.files)
theorem filesR_succ (m : MMan) (i : Nat) (hi : i < m.files.length) : filesR m (i + 1) = (filesR m i && fileR m.next (m.files.take i) m.files[i]) := by
  unfold filesR
  rw [List.range_succ, List.all_append]
  simp [List.getD_eq_getElem?_getD, List.getElem?_eq_getElem hi]
theorem filesR_false (m : MMan) (i : Nat) (h : filesR m i = false) : ∀ n, i ≤ n → filesR m n = false := by
  intro n hn
  unfold filesR at h ⊢
  rw [List.all_eq_false] at h ⊢
  obtain ⟨x, hx, hx2⟩ := h
  exact ⟨x, by simp at hx ⊢; omega, hx2⟩
theorem filesR_at (m : MMan) (n i : Nat) (h : filesR m n = true) (hi : i < n) (hn : n ≤ m.files.length) : fileR m.next (m.files.take i) (m.files[i]'(by omega)) = true := by
  unfold filesR at h
  rw [List.all_eq_true] at h
  have := h i (by simpa using hi)
  rw [List.getD_eq_getElem?_getD, List.getElem?_eq_getElem (by omega)] at this
  exact this
theorem greatN_snoc (l : List MFile) (k : Nat) (hk : k < l.length) : greatN (l.take (k + 1)) = greatN (l.take k) + (min (l[k]).blocks.length 3000 + min (l[k]).name.length 3000) := by
  unfold greatN
  rw [List.take_add_one, List.getElem?_eq_getElem hk, Option.toList_some, List.map_append, List.sum_append]
  simp
theorem greatN_le (l : List MFile) : greatN l ≤ l.length * 6000 := by
  induction l with
  | nil => simp [greatN]
  | cons f t ih =>
    have : greatN (f :: t) = min f.blocks.length 3000 + min f.name.length 3000 + greatN t := by simp [greatN]
    rw [this, List.length_cons]
    omega
theorem greatN_take (l : List MFile) (k : Nat) : greatN (l.take k) ≤ l.length * 6000 :=
  Nat.le_trans (greatN_le _) (Nat.mul_le_mul_right _ (List.length_take_le' _ _))
end Go.Proofs.Ytpoicbhbkabllaa

namespace Go.Proofs.Ytpoicbhbkabllaa
set_option linter.unusedSimpArgs false
set_option linter.unusedVariables false
open Go.RowKit

theorem add_mid' (a : Addr) (j : Nat) (hj : j ≠ 0) : a.add j = { block := a.block, off := a.off + j } := by unfold Addr.add; rw [if_neg hj]
theorem BoxAt.blwM {T : TypeId} {w w' : World} {g : Nat} {cs : List Value} (h : BoxAt T w g cs) (hb : Below w.heap.size w w') : BoxAt T w' g cs := h.below h.lt hb
set_option maxRecDepth 100000 in
set_option maxHeartbeats 1600000 in
theorem among_any (w : World) (B : Nat) (v : Value) (l : List Int) (n : Int) (h : ByI w B v l) :
    Calls Try.prog 75 #[.int .i64 n, v] w fun e w' => e = .returned (.bool (decide (n ∈ l))) ∧ w = w' := by
  obtain ⟨A, c, rfl, hc1, hc2⟩ := h.form
  unfold maxLen at hc2
  have H := Lib.hid h
  clear h
  go_enter Try.func75, Try.ntmps75
  go_wp2_with fail
  go_loop [5, 8] (fun xv iv => ∃ k : Nat, k ≤ l.length ∧ iv = .int .i64 k ∧ n ∉ l.take k) (fun _ i => l.length - (intOf i).toNat)
  case atStart => exact ⟨0, by omega, rfl, by simp⟩
  case round =>
    obtain ⟨k, hk, rfl, hno⟩ := hrel
    by_cases hlt : k < l.length
    · obtain ⟨_, ad, rfl, hab, k1, _, _⟩ := H.out.cells k hlt
      have htk : l.take (k + 1) = l.take k ++ [l[k]] := by rw [List.take_add_one, List.getElem?_eq_getElem hlt]; rfl
      by_cases he : l[k] = n
      · have hd : (l[k] == n) = true := by simp [he]
        have hin : decide (n ∈ l) = true := decide_eq_true (by rw [← he]; exact List.getElem_mem hlt)
        have Hin := Lib.hid hin
        clear he htk hno hin
        generalize l[k] = x at *
        go_wp2_with fail
        go_ret
        rw [Hin.out]
        exact ⟨rfl, rfl⟩
      · have hd : (l[k] == n) = false := beq_eq_false_iff_ne.2 he
        have hn2 : n ∉ l.take (k + 1) := by
          rw [htk, List.mem_append, List.mem_singleton]
          rintro (h | h)
          · exact hno h
          · exact he h.symm
        have Hn2 := Lib.hid hn2
        clear he htk hno hn2
        generalize l[k] = x at *
        go_wp2_with fail
        go_round
        case rel => exact ⟨k + 1, by omega, by go_num, Hn2.out⟩
        case measure => simp [intOf]; omega
    · obtain rfl : k = l.length := by omega
      rw [List.take_length] at hno
      have hin : decide (n ∈ l) = false := decide_eq_false hno
      have Hin := Lib.hid hin
      clear hno hin
      go_wp2_with fail
      go_ret
      rw [Hin.out]
      exact ⟨rfl, rfl⟩

set_option maxRecDepth 100000 in
set_option maxHeartbeats 1600000 in
theorem great_any (w : World) (v : Value) (m : MMan) (h : MAt w w.heap.size v m) :
    Calls Try.prog 28 #[v] w fun e w' => e = .returned (.bool (greatM m)) ∧ Below w.heap.size w w' := by
  obtain ⟨vf, rfl, hf⟩ := h
  obtain ⟨A, c, rfl, hc1, hc2⟩ := hf.form
  unfold maxLen at hc2
  obtain ⟨w1, hw1⟩ : ∃ w1, w1 = w.alloc (.cells (encM m (.slice A m.files.length c)).toArray 56) := ⟨_, rfl⟩
  have hb1 : Below w.heap.size w w1 := by rw [hw1]; exact balloc w _
  have hx1 : BoxAt 56 w1 w.heap.size (encM m (.slice A m.files.length c)) := by rw [hw1]; exact BoxAt.new_ _ _ _
  have hz1 : w.heap.size < w1.heap.size := by rw [hw1]; simp
  have hf1 := hf.below hb1
  have hc2x := hx1.cell 2 _ rfl
  have Hw1 := Lib.hid hw1
  have Hx1 := Lib.hid hx1
  have Hf1 := Lib.hid hf1
  have Hb1 := Lib.hid hb1
  clear hw1 hx1 hf1 hb1 hf
  by_cases h60 : 60 < m.files.length
  · have hd : decide (60 < m.files.length) = true := decide_eq_true h60
    have hd' : decide (60 < (m.files.length : Int)) = true := decide_eq_true (by omega)
    have hg : greatM m = true := by unfold greatM; rw [hd]; rfl
    have Hg := Lib.hid hg
    clear hg h60
    go_enter Try.func28, Try.ntmps28
    go_upto_region 1 with (fail)
    rw [← Hw1.out]
    go_wp2_with fail
    go_ret
    rw [Hg.out]
    exact ⟨rfl, Hb1.out⟩
  · have hd : decide (60 < m.files.length) = false := decide_eq_false h60
    have hd' : decide (60 < (m.files.length : Int)) = false := decide_eq_false (by omega)
    have hg : greatM m = decide (3000 < greatN m.files) := by unfold greatM; rw [hd]; rfl
    have Hg := Lib.hid hg
    have h60' : m.files.length ≤ 60 := by omega
    clear hg h60
    go_enter Try.func28, Try.ntmps28
    go_upto_region 1 with (fail)
    rw [← Hw1.out]
    go_wp2_with fail
    go_loopw [3, 4, 12] (fun nv xv iv wr => ∃ k : Nat, k ≤ m.files.length ∧ iv = .int .i64 k ∧ nv = .int .i64 (greatN (m.files.take k) : Nat) ∧ Below w1.heap.size w1 wr) (fun _ _ i _ => m.files.length - (intOf i).toNat)
    case atStart => exact ⟨0, by omega, rfl, rfl, Below.refl _ _⟩
    case round =>
      obtain ⟨k, hk, rfl, rfl, hbr⟩ := hrel
      have hgt := greatN_take m.files k
      have hgt1 := greatN_take m.files (k + 1)
      have Hbr := Lib.hid hbr
      clear hbr
      by_cases hlt : k < m.files.length
      · obtain ⟨_, ad, vb, rfl, hab, hbI, hfo, hcl⟩ := (Hf1.out.below (Hbr.out.mono (by omega))).cells k hlt
        obtain ⟨Ab, cb, rfl, hcb1, hcb2⟩ := hbI.form
        unfold maxLen at hcb2
        have hgs := greatN_snoc m.files k hlt
        have hnl := hfo.1
        unfold maxLen at hnl
        generalize hfk : m.files[k] = fl at *
        generalize greatN (m.files.take k) = G at *
        have Hgs := Lib.hid hgs
        have Hcl := Lib.hid hcl
        have Hx := Lib.hid (Hx1.out.blwM Hbr.out)
        clear hgs hcl hbI hfk hfo hc2x
        have habr : (ad.add (k * 4)).block < wr.heap.size := by rw [add_block]; have := Hbr.out.size; omega
        have hsz : (bst fl.name).size = fl.name.length := rfl
        have ha3 := add_mid' (ad.add (k * 4)) 3 (by decide)
        have ha0 : ((ad.add (k * 4)).add 0) = ad.add (k * 4) := by simp [Addr.add]
        go_wp2_with fail
        refine wp_region_tail (ds := [15, 16, 17, 18, 19, 20, 21, 22, 23, 24, 25, 26, 27, 28, 29, 30, 31, 32, 33]) 19 [some 15, some 16, some 17, some 18, some 19, some 20, some 21, some 22, some 23, some 24, some 25, some 26, some 27, some 28, some 29, some 30, some 31, some 32, some 33]
          [Ph.is (.int .i64 (G : Int)),
            Ph.is (.pointer (some ⟨w.heap.size, 2, none⟩)),
            Ph.is (.slice (some ad) m.files.length c),
            Ph.is (.int .i64 (k : Int)),
            Ph.is (.pointer (some (ad.add (k * 4)))),
            Ph.is (.pointer (some { block := (ad.add (k * 4)).block, off := (ad.add (k * 4)).off + 3 })),
            Ph.is (.slice Ab fl.blocks.length cb),
            Ph.is (.int .i64 (fl.blocks.length : Int)),
            Ph.is (.int .i64 ((min fl.blocks.length 3000 : Nat) : Int)),
            Ph.is (.int .i64 ((G + min fl.blocks.length 3000 : Nat) : Int)),
            Ph.is (.pointer (some ⟨w.heap.size, 2, none⟩)),
            Ph.is (.slice (some ad) m.files.length c),
            Ph.is (.int .i64 (k : Int)),
            Ph.is (.pointer (some (ad.add (k * 4)))),
            Ph.is (.pointer (some (ad.add (k * 4)))),
            Ph.is (.string (bst fl.name)),
            Ph.is (.int .i64 (fl.name.length : Int)),
            Ph.is (.int .i64 ((min fl.name.length 3000 : Nat) : Int)),
            Ph.is (.int .i64 ((G + min fl.blocks.length 3000 + min fl.name.length 3000 : Nat) : Int))] rfl rfl (by kernel_rfl) (by kernel_rfl) (by kernel_rfl) ?_ ?_
        · refine ⟨?_, ?_, ?_, ?_, ?_, ?_, ?_, ?_, ?_, ?_, ?_, ?_, ?_, ?_, ?_, ?_, ?_, ?_, ?_, trivial⟩
          · -- 0: slot 15 := Op.move t3
            refine ob_yes fun f w' hb hp => ?_
            simp [PreOf, factOf, valOf, Ph.is, Ph.any, Region.binds] at hp
            refine ⟨by simp [Gd, valOf, hp], ?_⟩
            refine mild_val (.int .i64 (G : Int)) ?_ (by simp [Ph.is])
            simp [execOp, evalF, hp, go_sem]
          · -- 1: slot 16 := Op.fieldAddr 56 t1 2
            refine ob_yes fun f w' hb hp => ?_
            simp [PreOf, factOf, valOf, Ph.is, Ph.any, Region.binds] at hp
            refine ⟨by simp [Gd, valOf, hp], ?_⟩
            refine mild_val (.pointer (some ⟨w.heap.size, 2, none⟩)) ?_ (by simp [Ph.is])
            simp [execOp, evalF, hp, go_sem]
          · -- 2: slot 17 := Op.load 54 t16
            refine ob_yes fun f w' hb hp => ?_
            simp [PreOf, factOf, valOf, Ph.is, Ph.any, Region.binds] at hp
            refine ⟨by simp [Gd, valOf, hp], ?_⟩
            have hc := (Hx.out.blwM hb).cell 2 _ rfl
            refine mild_val (.slice (some ad) m.files.length c) ?_ (by simp [Ph.is])
            simp [execOp, evalF, hp, hc, go_sem]
          · -- 3: slot 18 := Op.move t4
            refine ob_yes fun f w' hb hp => ?_
            simp [PreOf, factOf, valOf, Ph.is, Ph.any, Region.binds] at hp
            refine ⟨by simp [Gd, valOf, hp], ?_⟩
            refine mild_val (.int .i64 (k : Int)) ?_ (by simp [Ph.is])
            simp [execOp, evalF, hp, go_sem]
          · -- 4: slot 19 := Op.indexAddr 54 t17 t18
            refine ob_yes fun f w' hb hp => ?_
            simp [PreOf, factOf, valOf, Ph.is, Ph.any, Region.binds] at hp
            refine ⟨by simp [Gd, valOf, hp], ?_⟩
            refine mild_val (.pointer (some (ad.add (k * 4)))) ?_ (by simp [Ph.is])
            simp [execOp, evalF, hp, go_sem, hlt]
          · -- 5: slot 20 := Op.fieldAddr 62 t19 3
            refine ob_yes fun f w' hb hp => ?_
            simp [PreOf, factOf, valOf, Ph.is, Ph.any, Region.binds] at hp
            refine ⟨by simp [Gd, valOf, hp], ?_⟩
            refine mild_val (.pointer (some { block := (ad.add (k * 4)).block, off := (ad.add (k * 4)).off + 3 })) ?_ (by simp [Ph.is])
            simp [execOp, evalF, hp, go_sem]
          · -- 6: slot 21 := Op.load 60 t20
            refine ob_yes fun f w' hb hp => ?_
            simp [PreOf, factOf, valOf, Ph.is, Ph.any, Region.binds] at hp
            refine ⟨by simp [Gd, valOf, hp], ?_⟩
            have hc := (hb.cell (p := (ad.add (k * 4)).add 3) (by rw [add_block]; exact habr)).trans (Hcl.out 3 _ rfl)
            rw [ha3] at hc
            refine mild_val (.slice Ab fl.blocks.length cb) ?_ (by simp [Ph.is])
            simp [execOp, evalF, hp, hc, go_sem]
          · -- 7: slot 22 := Op.call   builtin len, args := #[t21], argTypes := #[60]  
            refine ob_yes fun f w' hb hp => ?_
            simp [PreOf, factOf, valOf, Ph.is, Ph.any, Region.binds] at hp
            refine ⟨by simp [Gd, valOf, hp], ?_⟩
            refine mild_val (.int .i64 (fl.blocks.length : Int)) ?_ (by simp [Ph.is])
            simp [execOp, evalF, hp, go_sem]
          · -- 8: slot 23 := Op.call   builtin min, args := #[t22, const (3000:i64)], argTypes := #[3, 3]  
            refine ob_yes fun f w' hb hp => ?_
            simp [PreOf, factOf, valOf, Ph.is, Ph.any, Region.binds] at hp
            refine ⟨by simp [Gd, valOf, hp], ?_⟩
            refine mild_val (.int .i64 ((min fl.blocks.length 3000 : Nat) : Int)) ?_ (by simp [Ph.is])
            simp [execOp, evalF, hp, go_sem]
            split <;> omega
          · -- 9: slot 24 := Op.binOp BinOp.add 3 t15 t23 3
            refine ob_yes fun f w' hb hp => ?_
            simp [PreOf, factOf, valOf, Ph.is, Ph.any, Region.binds] at hp
            refine ⟨by simp [Gd, valOf, hp], ?_⟩
            refine mild_val (.int .i64 ((G + min fl.blocks.length 3000 : Nat) : Int)) ?_ (by simp [Ph.is])
            simp [execOp, evalF, hp, go_sem]
            (rw [wrap_i64])
            omega
          · -- 10: slot 25 := Op.fieldAddr 56 t1 2
            refine ob_yes fun f w' hb hp => ?_
            simp [PreOf, factOf, valOf, Ph.is, Ph.any, Region.binds] at hp
            refine ⟨by simp [Gd, valOf, hp], ?_⟩
            refine mild_val (.pointer (some ⟨w.heap.size, 2, none⟩)) ?_ (by simp [Ph.is])
            simp [execOp, evalF, hp, go_sem]
          · -- 11: slot 26 := Op.load 54 t25
            refine ob_yes fun f w' hb hp => ?_
            simp [PreOf, factOf, valOf, Ph.is, Ph.any, Region.binds] at hp
            refine ⟨by simp [Gd, valOf, hp], ?_⟩
            have hc := (Hx.out.blwM hb).cell 2 _ rfl
            refine mild_val (.slice (some ad) m.files.length c) ?_ (by simp [Ph.is])
            simp [execOp, evalF, hp, hc, go_sem]
          · -- 12: slot 27 := Op.move t4
            refine ob_yes fun f w' hb hp => ?_
            simp [PreOf, factOf, valOf, Ph.is, Ph.any, Region.binds] at hp
            refine ⟨by simp [Gd, valOf, hp], ?_⟩
            refine mild_val (.int .i64 (k : Int)) ?_ (by simp [Ph.is])
            simp [execOp, evalF, hp, go_sem]
          · -- 13: slot 28 := Op.indexAddr 54 t26 t27
            refine ob_yes fun f w' hb hp => ?_
            simp [PreOf, factOf, valOf, Ph.is, Ph.any, Region.binds] at hp
            refine ⟨by simp [Gd, valOf, hp], ?_⟩
            refine mild_val (.pointer (some (ad.add (k * 4)))) ?_ (by simp [Ph.is])
            simp [execOp, evalF, hp, go_sem, hlt]
          · -- 14: slot 29 := Op.fieldAddr 62 t28 0
            refine ob_yes fun f w' hb hp => ?_
            simp [PreOf, factOf, valOf, Ph.is, Ph.any, Region.binds] at hp
            refine ⟨by simp [Gd, valOf, hp], ?_⟩
            refine mild_val (.pointer (some (ad.add (k * 4)))) ?_ (by simp [Ph.is])
            simp [execOp, evalF, hp, go_sem]
          · -- 15: slot 30 := Op.load 9 t29
            refine ob_yes fun f w' hb hp => ?_
            simp [PreOf, factOf, valOf, Ph.is, Ph.any, Region.binds] at hp
            refine ⟨by simp [Gd, valOf, hp], ?_⟩
            have hc := (hb.cell (p := (ad.add (k * 4)).add 0) (by rw [add_block]; exact habr)).trans (Hcl.out 0 _ rfl)
            rw [ha0] at hc
            refine mild_val (.string (bst fl.name)) ?_ (by simp [Ph.is])
            simp [execOp, evalF, hp, hc, go_sem]
          · -- 16: slot 31 := Op.call   builtin len, args := #[t30], argTypes := #[9]  
            refine ob_yes fun f w' hb hp => ?_
            simp [PreOf, factOf, valOf, Ph.is, Ph.any, Region.binds] at hp
            refine ⟨by simp [Gd, valOf, hp], ?_⟩
            refine mild_val (.int .i64 (fl.name.length : Int)) ?_ (by simp [Ph.is])
            simp [execOp, evalF, hp, go_sem, hsz]
          · -- 17: slot 32 := Op.call   builtin min, args := #[t31, const (3000:i64)], argTypes := #[3, 3]  
            refine ob_yes fun f w' hb hp => ?_
            simp [PreOf, factOf, valOf, Ph.is, Ph.any, Region.binds] at hp
            refine ⟨by simp [Gd, valOf, hp], ?_⟩
            refine mild_val (.int .i64 ((min fl.name.length 3000 : Nat) : Int)) ?_ (by simp [Ph.is])
            simp [execOp, evalF, hp, go_sem]
            split <;> omega
          · -- 18: slot 33 := Op.binOp BinOp.add 3 t24 t32 3
            refine ob_yes fun f w' hb hp => ?_
            simp [PreOf, factOf, valOf, Ph.is, Ph.any, Region.binds] at hp
            refine ⟨by simp [Gd, valOf, hp], ?_⟩
            refine mild_val (.int .i64 ((G + min fl.blocks.length 3000 + min fl.name.length 3000 : Nat) : Int)) ?_ (by simp [Ph.is])
            simp [execOp, evalF, hp, go_sem]
            (rw [wrap_i64])
            omega
        · intro f w2 hb2 hp
          simp only [PostOf, Ph.is, Ph.any] at hp
          obtain ⟨h0, h1, h2, h3, h4, h5, h6, h7, h8, h9, h10, h11, h12, h13, h14, h15, h16, h17, h18, _⟩ := hp
          simp only [fills, List.foldl_cons, List.foldl_nil, Act.put, List.setIfInBounds_toArray, List.set_cons_zero, List.set_cons_succ, h0, h1, h2, h3, h4, h5, h6, h7, h8, h9, h10, h11, h12, h13, h14, h15, h16, h17, h18]
          clear h0 h1 h2 h3 h4 h5 h6 h7 h8 h9 h10 h11 h12 h13 h14 h15 h16 h17 h18
          simp only [List.drop_succ_cons, List.drop_zero]
          have hb3 := Hbr.out.trans (hb2.mono Hbr.out.size)
          go_wp2_with fail
          go_roundw
          case rel => exact ⟨k + 1, by omega, by go_num, by rw [Hgs.out, Nat.add_assoc], hb3⟩
          case measure => simp [intOf]; omega
      · obtain rfl : k = m.files.length := by omega
        rw [List.take_length] at *
        go_wp2_with fail
        go_ret
        rw [Hg.out]
        exact ⟨by simp; omega, Hb1.out.trans (Hbr.out.mono (by omega))⟩
end Go.Proofs.Ytpoicbhbkabllaa

namespace Go.Proofs.Ytpoicbhbkabllaa
set_option linter.unusedSimpArgs false
set_option linter.unusedVariables false
open Go.RowKit

/-- what '[]byte(s)' leaves -/
structure SB (w w' : World) (c : Nat) (l : List UInt8) : Prop where
  by_ : By w' w'.heap.size (.slice (some ⟨w.heap.size, 0, none⟩) l.length c) l
  free : ∀ j, j < l.length → w'.frozen? ⟨w.heap.size, j, none⟩ = false
  below : Below w.heap.size w w'
  size : w'.heap.size = w.heap.size + 1
theorem sb_of (w : World) (l : List UInt8) (hl : l.length ≤ 281474976710656) : SB w (Lib.bytesWorld w 5 (bst l)) (grownCap w (bst l).size 0 5) l := by
  have hG := grownCap_ge w (bst l).size 0 5
  have hG63 := grownCap_le_maxLen w (bst l).size 0 5 (by show l.length ≤ _; unfold maxLen; omega)
  refine ⟨⟨_, _, rfl, hG, hG63, ?_⟩, fun j hj => ?_, ?_, Lib.bytesWorld_size _ _ _⟩
  · refine ⟨by simp [b8s], fun hn => ⟨_, rfl, by rw [Lib.bytesWorld_size]; exact Nat.lt_succ_self _, fun j u hu => ?_⟩⟩
    have hj : j < l.length := by have := (List.getElem?_eq_some_iff.1 hu).1; rwa [b8s_length] at this
    rw [b8s_get l j hj] at hu
    have := Lib.bytesWorld_cell w 5 (bst l) j hj
    rw [Addr.add_lit, Nat.zero_add, this, ← hu]
    have e : (bst l).data.toList = l := by simp [bst]
    rw [e, List.getD_eq_getElem?_getD, List.getElem?_eq_getElem hj]
    rfl
  · have h := Lib.bytesWorld_at_new w 5 (bst l)
    have hs : l.length ≤ (Lib.bytesCells w 5 (bst l)).size := by simp [Lib.bytesCells, bst]
    simp only [World.frozen?, h]
    simp
    omega
  · exact ⟨rfl, rfl, rfl, by rw [Lib.bytesWorld_size]; exact Nat.le_succ _, fun k hk => Lib.bytesWorld_at_old w _ _ k hk⟩
theorem wpList_conv_sb {ops : Array Oper} {rest : List Oper} {o : Oper} {a : Act} {w : World} {Q : Exit → Act → World → Prop} (hgd : o.guard = none) (x : Operand) (ho : o.op = .convert 9 30 x) (l : List UInt8) (hx : a.eval x = .string (bst l)) (hl : l.length ≤ 281474976710656)
    (h : ∀ c w', SB w w' c l → wpList Try.prog ops Q rest (a.put o.dst (.slice (some ⟨w.heap.size, 0, none⟩) l.length c)) w') : wpList Try.prog ops Q (o :: rest) a w :=
  wpList_plain hgd fun K hK => by
    have hr := Lib.run_convert_string_bytes (P := Try.prog) w 9 30 5 (bst l) Try.underlying9 Try.underlying30 Try.underlying5
    unfold Oper.wp execOp
    simp only [ho, hx, Sem.run_bind, hr, Result.andThen_ok]
    exact hK _ _ (h _ _ (sb_of w l hl))
/-- a byte of it is written -/
theorem By.set_ {w : World} {B g k n c : Nat} {l : List UInt8} (h : By w B (.slice (some ⟨g, 0, none⟩) n c) l) (hk : k < l.length) (b : UInt8) : By (w.setCell ⟨g, k, none⟩ (.int .u8 (b.toNat : Int))) B (.slice (some ⟨g, 0, none⟩) n c) (l.set k b) := by
  obtain ⟨A, c', e, h1, h2, h3, h4⟩ := h
  injection e with e1 e2 e3
  subst e1; subst e2; subst e3
  obtain ⟨ad, e, hb, hc⟩ := h4 (by omega)
  injection e with e
  subst e
  refine ⟨_, _, by rw [List.length_set], by rw [List.length_set]; exact h1, h2, by simp [b8s], fun hn => ⟨_, rfl, hb, fun j u hu => ?_⟩⟩
  have e : b8s (l.set k b) = (b8s l).set k (b8 b) := by unfold b8s; rw [List.map_set]
  rw [e, List.getElem?_set] at hu
  rw [Addr.add_lit, Nat.zero_add]
  have hck := hc k _ (b8s_get l k hk)
  rw [Addr.add_lit, Nat.zero_add] at hck
  by_cases hkj : k = j
  · subst hkj
    rw [if_pos rfl, if_pos (by rw [b8s_length]; exact hk)] at hu
    rw [World.cell?_setCell_same _ _ _ hck, ← hu]
    rfl
  · rw [if_neg hkj] at hu
    have := hc j u hu
    rw [Addr.add_lit, Nat.zero_add] at this
    rw [World.cell?_setCell_other _ _ _ _ (by intro e; injection e with _ e _; omega), this]
end Go.Proofs.Ytpoicbhbkabllaa

namespace Go.Proofs.Ytpoicbhbkabllaa
set_option linter.unusedSimpArgs false
set_option linter.unusedVariables false
open Go.RowKit

structure Wr (w1 w : World) (v : Value) (l : List UInt8) : Prop where
  own : Ow w w1.heap.size v l
  blw : Below w1.heap.size w1 w
structure WrB (T : TypeId) (w1 w : World) (g : Nat) (cs : List Value) (v : Value) (l : List UInt8) : Prop where
  own : Ow w w1.heap.size v l
  blw : Below w1.heap.size w1 w
  box : BoxAt T w g cs
  ne : v.ownBlock ≠ some g
theorem Ext.neM {w w' : World} {v v' : Value} (h : Ext w w' v v') {g : Nat} (hg : g < w.heap.size) (hv : v.ownBlock ≠ some g) : v'.ownBlock ≠ some g := by
  rcases h.at_ with h1 | h1
  · rw [h1]; exact hv
  · intro e; have := h1 g e; omega
theorem Wr.num {w1 w wa wb : World} {v v' : Value} {l l' : List UInt8} (h : Wr w1 w v l) (hb : Below w.heap.size w wa) (hx : Ext wa wb v v') (ho : Ow wb w1.heap.size v' l') : Wr w1 wb v' l' :=
  ⟨ho, (h.blw.trans (hb.mono h.blw.size)).trans (hx.below (Nat.le_trans h.blw.size hb.size) fun q hq => (h.own.blk q hq).1)⟩
theorem WrB.num {T : TypeId} {g : Nat} {cs : List Value} {w1 w wa wb : World} {v v' : Value} {l l' : List UInt8} (h : WrB T w1 w g cs v l) (hb : Below w.heap.size w wa) (hx : Ext wa wb v v') (ho : Ow wb w1.heap.size v' l') : WrB T w1 wb g cs v' l' :=
  have hg := h.box.lt
  have hga := Nat.lt_of_lt_of_le hg hb.size
  ⟨ho, (h.blw.trans (hb.mono h.blw.size)).trans (hx.below (Nat.le_trans h.blw.size hb.size) fun q hq => (h.own.blk q hq).1), (h.box.below hg hb).grown hx.gr h.ne, hx.neM hga h.ne⟩
theorem Wr.put (T : TypeId) {w1 w : World} {v : Value} {l : List UInt8} (h : Wr w1 w v l) (cs : List Value) : WrB T w1 (w.alloc (.cells cs.toArray T)) w.heap.size cs v l :=
  ⟨h.own.alloc _, h.blw.trans ((balloc w _).mono h.blw.size), BoxAt.new_ _ _ _, fun e => Nat.lt_irrefl _ (h.own.blk _ e).2⟩
theorem WrB.wr {T : TypeId} {g : Nat} {cs : List Value} {w1 w : World} {v : Value} {l : List UInt8} (h : WrB T w1 w g cs v l) : Wr w1 w v l := ⟨h.own, h.blw⟩
theorem flat_take_le {α : Type} (f : α → List UInt8) (l : List α) (k : Nat) (hk : k < l.length) : ((l.take k).flatMap f).length + (f l[k]).length ≤ (l.flatMap f).length := by
  have e : l.flatMap f = (l.take k).flatMap f ++ (f l[k] ++ (l.drop (k + 1)).flatMap f) := by
    conv => lhs; rw [← List.take_append_drop k l, List.drop_eq_getElem_cons hk]
    rw [List.flatMap_append, List.flatMap_cons]
  rw [e]
  simp only [List.length_append]
  omega
theorem flat_take_succ {α : Type} (f : α → List UInt8) (l : List α) (k : Nat) (hk : k < l.length) : (l.take (k + 1)).flatMap f = (l.take k).flatMap f ++ f l[k] := by
  rw [List.take_add_one, List.getElem?_eq_getElem hk, Option.toList_some, List.flatMap_append, List.flatMap_cons, List.flatMap_nil, List.append_nil]
theorem nums_succ (l : List Int) (k : Nat) (hk : k < l.length) : nums (l.take (k + 1)) = nums (l.take k) ++ vput (u64Of l[k]) := flat_take_succ _ l k hk
theorem nums_le (l : List Int) (k : Nat) (hk : k < l.length) : (nums (l.take k)).length + (vput (u64Of l[k])).length ≤ (nums l).length := flat_take_le _ l k hk
theorem bodyF_len (f : MFile) : (bodyF f).length = (vput f.name.length).length + f.name.length + (vput f.id.toNat).length + (vput (u64Of f.size)).length + (nums f.blocks).length := by simp [bodyF]; omega
theorem bodyM_len (m : MMan) : (bodyM m).length = (vput m.ver.toNat).length + (vput m.next.toNat).length + (vput m.files.length).length + (m.files.flatMap bodyF).length := by simp [bodyM]; omega
theorem encF_one (f : MFile) (v : Value) (hv : v.oneCell' = true) : ∀ u ∈ encF f v, u.oneCell' = true := fun u hu => by
  simp [encF] at hu
  rcases hu with rfl | rfl | rfl | rfl
  · rfl
  · rfl
  · rfl
  · exact hv
def zeroFc : List Value := [.string (bst []), .int .u32 0, .int .i64 0, .slice none 0 0]
theorem info_file : (Try.prog.info? 62).map (fun i => (i.zero, i.size, i.bytes)) = some (some (.agg zeroFc.toArray), 4, 56) := by kernel_rfl
theorem info_file4 : (Try.prog.info? 62).map (·.size) = some 4 := by kernel_rfl
theorem zeroF_cells : (Value.agg zeroFc.toArray).cells = zeroFc.toArray := rfl
theorem balloc_lt (w : World) (o : Obj) {B : Nat} (hB : B ≤ w.heap.size) : Below B w (w.alloc o) := (balloc w o).mono hB

set_option maxRecDepth 100000 in
set_option maxHeartbeats 3200000 in
theorem rbody_any (w : World) (v : Value) (m : MMan) (h : MAt w w.heap.size v m) (hsz : (bodyM m).length ≤ 274877906944) :
    Calls Try.prog 52 #[v] w fun e w' => ∃ v', e = .returned v' ∧ Ow w' w.heap.size v' (bodyM m) ∧ Below w.heap.size w w' := by
  obtain ⟨vf, rfl, hf⟩ := h
  obtain ⟨A, c, rfl, hc1, hc2⟩ := hf.form
  unfold maxLen at hc2
  obtain ⟨w1, hw1⟩ : ∃ w1, w1 = w.alloc (.cells (encM m (.slice A m.files.length c)).toArray 56) := ⟨_, rfl⟩
  have hb1 : Below w.heap.size w w1 := by rw [hw1]; exact balloc w _
  have hx1 : BoxAt 56 w1 w.heap.size (encM m (.slice A m.files.length c)) := by rw [hw1]; exact BoxAt.new_ _ _ _
  have hz1 : w.heap.size < w1.heap.size := by rw [hw1]; simp
  have hf1 := hf.below hb1
  have hc0x := hx1.cell 0 _ rfl
  have Hw1 := Lib.hid hw1
  have Hx1 := Lib.hid hx1
  have Hf1 := Lib.hid hf1
  have Hb1 := Lib.hid hb1
  have hml := bodyM_len m
  have hver := u64_lt m.ver
  have hnx := u32_lt m.next
  clear hw1 hx1 hf1 hb1 hf
  go_enter Try.func52, Try.ntmps52
  go_upto_region 1 with (fail)
  rw [← Hw1.out]
  go_wp2_with fail
  refine (refnum_any m.ver.toNat w1 hver).mono ?_
  rintro _ w2 ⟨v2, rfl, how2, hb2⟩
  have H2 : Hid (Wr w1 w2 v2 (vput m.ver.toNat)) := Lib.hid ⟨how2, hb2⟩
  have m1_2 := (Hx1.out.blwM H2.out.blw).cell 1 _ rfl
  clear how2 hb2 hc0x
  go_wp2_with fail
  refine (refnum_any m.next.toNat w2 (by omega)).mono ?_
  rintro _ wn3 ⟨vn3, rfl, how3, hb3⟩
  go_wp2_with (at_builtin
               refine wpList_app8 rfl (.tmp 10) (.tmp 14) rfl (H2.out.own.below_ hb3) how3.by_ rfl rfl (by (try simp only [List.length_append] at *); omega) (Nat.le_trans H2.out.blw.size hb3.size) ?_
               intro v3 w3 ho3 hx3
               have H3 := Lib.hid (H2.out.num hb3 hx3 ho3)
               clear ho3 hx3 hb3 how3
               have m2_3 := (Hx1.out.blwM H3.out.blw).cell 2 _ rfl)
  refine (refnum_any m.files.length w3 (by omega)).mono ?_
  rintro _ wn4 ⟨vn4, rfl, how4, hb4⟩
  go_wp2_with (at_builtin
               refine wpList_app8 rfl (.tmp 16) (.tmp 21) rfl (H3.out.own.below_ hb4) how4.by_ rfl rfl (by (try simp only [List.length_append] at *); omega) (Nat.le_trans H3.out.blw.size hb4.size) ?_
               intro v4 w4 ho4 hx4
               have H4 := Lib.hid (H3.out.num hb4 hx4 ho4)
               clear ho4 hx4 hb4 how4
               have m2_4 := (Hx1.out.blwM H4.out.blw).cell 2 _ rfl)
  have H4' : Hid (Wr w1 w4 v4 (vput m.ver.toNat ++ vput m.next.toNat ++ vput m.files.length)) := H4
  have hpre : (vput m.ver.toNat ++ vput m.next.toNat ++ vput m.files.length).length + (m.files.flatMap bodyF).length ≤ 274877906944 := by simp only [List.length_append]; omega
  have hbm : bodyM m = vput m.ver.toNat ++ vput m.next.toNat ++ vput m.files.length ++ m.files.flatMap bodyF := rfl
  have Hbm := Lib.hid hbm
  clear hbm hml hsz H4 H3 H2
  generalize vput m.ver.toNat ++ vput m.next.toNat ++ vput m.files.length = pre at *
  clear m1_2 m2_3
  go_loopw [3, 26] (fun b i wr => ∃ k : Nat, k ≤ m.files.length ∧ i = .int .i64 k ∧ Wr w1 wr b (pre ++ (m.files.take k).flatMap bodyF)) (fun _ i _ => m.files.length - (intOf i).toNat)
  case atStart => exact ⟨0, by omega, rfl, by simpa using H4'.out⟩
  case round =>
    obtain ⟨k, hk, rfl, HW⟩ := hrel
    replace HW := Lib.hid HW
    by_cases hlt : k < m.files.length
    · have hle := flat_take_le bodyF m.files k hlt
      have hsc := flat_take_succ bodyF m.files k hlt
      have hbl := bodyF_len m.files[k]
      obtain ⟨_, ad, vb, rfl, hab, hbI, hfo, hcl⟩ := Hf1.out.cells k hlt
      obtain ⟨Ab, cb, rfl, hcb1, hcb2⟩ := hbI.form
      unfold maxLen at hcb2
      have hnl := hfo.1
      unfold maxLen at hnl
      have hbf : bodyF m.files[k] = vput m.files[k].name.length ++ m.files[k].name ++ vput m.files[k].id.toNat ++ vput (u64Of m.files[k].size) ++ nums m.files[k].blocks := rfl
      generalize hfk : m.files[k] = fl at *
      have hid := u32_lt fl.id
      have hsu := u64Of_lt fl.size
      have hsw := u64Of_wrap fl.size
      have Hsc := Lib.hid hsc
      have Hcl : Hid (∀ (j : Nat) (u : Value), (encF fl (.slice Ab fl.blocks.length cb))[j]? = some u → wr.cell? ((ad.add (k * 4)).add j) = some u) := Lib.hid fun j u hu => (HW.out.blw.cell (by rw [add_block, add_block]; omega)).trans (hcl j u hu)
      have HbI := Lib.hid hbI
      have Hbf := Lib.hid hbf
      have hsz : (bst fl.name).size = fl.name.length := rfl
      have hpl : (pre ++ (m.files.take k).flatMap bodyF).length + (bodyF fl).length ≤ 274877906944 := by simp only [List.length_append]; omega
      have m2_k := (Hx1.out.blwM HW.out.blw).cell 2 _ rfl
      clear hsc hcl hbI hfo hle hbf m2_4 hfk hpre
      generalize (m.files.take k).flatMap bodyF = mid at *
      go_upto_region 8 with (first
        | (refine wpList_load_agg rfl 62 (.tmp 32) rfl (ad.add (k * 4)) rfl (encF fl (.slice Ab fl.blocks.length cb)) Hcl.out Try.underlying62 rfl info_file4 ?_)
        | (refine wpList_alloc_z rfl 62 rfl info_file zeroFc zeroF_cells ?_)
        | (refine wpList_store_new rfl 62 (.tmp 5) (.tmp 33) rfl zeroFc (encF fl (.slice Ab fl.blocks.length cb)) rfl rfl info_file4 rfl (encF_one _ _ rfl) ?_))
      have H5 := Lib.hid (HW.out.put 62 (encF fl (.slice Ab fl.blocks.length cb)))
      clear Hcl m2_k
      generalize hg : wr.heap.size = g at *
      generalize wr.alloc (.cells (encF fl (.slice Ab fl.blocks.length cb)).toArray 62) = w5 at *
      have q0 := H5.out.box.cell 0 _ rfl
      go_wp2_with fail
      refine (refnum_any fl.name.length w5 (by omega)).mono ?_
      rintro _ wn6 ⟨vn6, rfl, how6, hb6⟩
      go_upto_region 9 with (at_builtin
                             refine wpList_app8 rfl (.tmp 34) (.tmp 39) rfl (H5.out.own.below_ hb6) how6.by_ rfl rfl (by (try simp only [List.length_append] at *); omega) (Nat.le_trans H5.out.blw.size hb6.size) ?_
                             intro v6 w6 ho6 hx6
                             have H6 := Lib.hid (H5.out.num hb6 hx6 ho6)
                             clear ho6 hx6 hb6 how6
                             have q0_6 := H6.out.box.cell 0 _ rfl)
      go_wp2_with (first
        | (refine wpList_conv_sb rfl (.tmp 43) rfl fl.name rfl (by omega) ?_
           intro cS wS hS)
        | (at_builtin
           refine wpList_app8 rfl (.tmp 41) (.tmp 44) rfl (H6.out.own.below_ hS.below) hS.by_ rfl rfl (by (try simp only [List.length_append] at *); omega) (Nat.le_trans H6.out.blw.size hS.below.size) ?_
           intro v7 w7 ho7 hx7
           have H7 := Lib.hid (H6.out.num hS.below hx7 ho7)
           clear ho7 hx7 hS
           have q1_7 := H7.out.box.cell 1 _ rfl))
      refine (refnum_any fl.id.toNat w7 (by omega)).mono ?_
      rintro _ wn8 ⟨vn8, rfl, how8, hb8⟩
      go_wp2_with (at_builtin
                   refine wpList_app8 rfl (.tmp 46) (.tmp 50) rfl (H7.out.own.below_ hb8) how8.by_ rfl rfl (by (try simp only [List.length_append] at *); omega) (Nat.le_trans H7.out.blw.size hb8.size) ?_
                   intro v8 w8 ho8 hx8
                   have H8 := Lib.hid (H7.out.num hb8 hx8 ho8)
                   clear ho8 hx8 hb8 how8
                   have q2_8 := H8.out.box.cell 2 _ rfl)
      refine (refnum_any (u64Of fl.size) w8 hsu).mono ?_
      rintro _ wn9 ⟨vn9, rfl, how9, hb9⟩
      go_wp2_with (at_builtin
                   refine wpList_app8 rfl (.tmp 52) (.tmp 56) rfl (H8.out.own.below_ hb9) how9.by_ rfl rfl (by (try simp only [List.length_append] at *); omega) (Nat.le_trans H8.out.blw.size hb9.size) ?_
                   intro v9 w9 ho9 hx9
                   have H9 := Lib.hid (H8.out.num hb9 hx9 ho9)
                   clear ho9 hx9 hb9 how9
                   have q3_9 := H9.out.box.cell 3 _ rfl)
      have H9' : Hid (WrB 62 w1 w9 g (encF fl (.slice Ab fl.blocks.length cb)) v9 (pre ++ mid ++ vput fl.name.length ++ fl.name ++ vput fl.id.toNat ++ vput (u64Of fl.size))) := H9
      have hpl2 : (pre ++ mid ++ vput fl.name.length ++ fl.name ++ vput fl.id.toNat ++ vput (u64Of fl.size)).length + (nums fl.blocks).length ≤ 274877906944 := by simp only [List.length_append] at *; omega
      have hbm2 : pre ++ mid ++ bodyF fl = pre ++ mid ++ vput fl.name.length ++ fl.name ++ vput fl.id.toNat ++ vput (u64Of fl.size) ++ nums fl.blocks := by rw [Hbf.out]; simp only [List.append_assoc]
      have Hbm2 := Lib.hid hbm2
      clear H9 H8 H7 H6 H5 hbl hpl Hbf hbm2
      generalize pre ++ mid ++ vput fl.name.length ++ fl.name ++ vput fl.id.toNat ++ vput (u64Of fl.size) = pf at *
      go_wp2_with fail
      go_loopw [3, 61] (fun b i wr => ∃ j : Nat, j ≤ fl.blocks.length ∧ i = .int .i64 j ∧ WrB 62 w1 wr g (encF fl (.slice Ab fl.blocks.length cb)) b (pf ++ nums (fl.blocks.take j))) (fun _ i _ => fl.blocks.length - (intOf i).toNat)
      case atStart => exact ⟨0, by omega, rfl, by simpa [nums] using H9'.out⟩
      case round =>
        obtain ⟨j, hj, rfl, HV⟩ := hrel
        replace HV := Lib.hid HV
        by_cases hjt : j < fl.blocks.length
        · have hns := nums_succ fl.blocks j hjt
          have hnle := nums_le fl.blocks j hjt
          obtain ⟨_, ad2, rfl, hab2, hcj, hj1, hj2⟩ := (HbI.out.below (HV.out.blw.mono (by omega))).cells j hjt
          have Hns := Lib.hid hns
          have hxu := u64Of_lt fl.blocks[j]
          have hxw := u64Of_wrap fl.blocks[j]
          have hql : (pf ++ nums (fl.blocks.take j)).length + (vput (u64Of fl.blocks[j])).length ≤ 274877906944 := by simp only [List.length_append]; omega
          have q3_j := HV.out.box.cell 3 _ rfl
          clear hns hnle hpl2
          generalize fl.blocks[j] = x at *
          generalize nums (fl.blocks.take j) = nj at *
          go_wp2_with fail
          refine (refnum_any (u64Of x) wr hxu).mono ?_
          rintro _ wn11 ⟨vn11, rfl, how11, hb11⟩
          go_wp2_with (at_builtin
                       refine wpList_app8 rfl (.tmp 64) (.tmp 71) rfl (HV.out.own.below_ hb11) how11.by_ rfl rfl (by (try simp only [List.length_append] at *); omega) (Nat.le_trans HV.out.blw.size hb11.size) ?_
                       intro v11 w11 ho11 hx11
                       have H11 := Lib.hid (HV.out.num hb11 hx11 ho11)
                       clear ho11 hx11 hb11 how11
          )
          go_roundw
          case rel => exact ⟨j + 1, by omega, by go_num, by rw [Hns.out, ← List.append_assoc]; exact H11.out⟩
          case measure => simp [intOf]; omega
        · obtain rfl : j = fl.blocks.length := by omega
          rw [List.take_length] at HV
          go_wp2_with fail
          go_roundw
          case rel => exact ⟨k + 1, by omega, by go_num, by rw [Hsc.out, ← List.append_assoc, Hbm2.out]; exact HV.out.wr⟩
          case measure => simp [intOf]; omega
    · obtain rfl : k = m.files.length := by omega
      rw [List.take_length] at HW
      go_wp2_with fail
      go_ret
      exact ⟨_, rfl, by rw [Hbm.out]; exact HW.out.own.mono (Nat.le_of_lt hz1), Hb1.out.trans (HW.out.blw.mono (Nat.le_of_lt hz1))⟩
end Go.Proofs.Ytpoicbhbkabllaa
