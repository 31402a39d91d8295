/- (*disk.Disk).Sync (printed by wip/gen/dsync.py) -/
import Derived.Test.YtpoicbhbkabllaaDiskWrite
import Derived.Deep.WholeRow
namespace Go.Proofs.Ytpoicbhbkabllaa
set_option linter.unusedSimpArgs false
set_option linter.unusedVariables false
open Go.RowKit

theorem wpList_alloc_z {ops : Array Oper} {rest : List Oper} {o : Oper} {a : Act} {w : World} {Q : Exit → Act → World → Prop} (hgd : o.guard = none) (T : TypeId) (ho : o.op = .alloc T) {z : Value} {n bytes : Nat}
    (hinfo : (Try.prog.info? T).map (fun i => (i.zero, i.size, i.bytes)) = some (some z, n, bytes)) (cs : List Value) (hz : z.cells = cs.toArray)
    (h : wpList Try.prog ops Q rest (a.put o.dst (.pointer (some ⟨w.heap.size, 0, none⟩))) (w.alloc (.cells cs.toArray T))) : wpList Try.prog ops Q (o :: rest) a w :=
  wpList_plain hgd fun K hK => by
    obtain ⟨i, hi, hz0, hz1, hby⟩ := info_parts hinfo
    have hr : (Instr.alloc T true (.tuple #[])).run Try.prog w = .ok (.pointer (some ⟨w.heap.size, 0, none⟩)) (w.alloc (.cells cs.toArray T)) := by
      simp [Instr.alloc, Sem.run_bind, zeroValue, typeInfo, hi, hz0, newVar, newRow, hz]
    unfold Oper.wp execOp
    simp only [ho, Sem.run_bind, hr, Result.andThen_ok]
    exact hK _ _ h
theorem wpList_store_new {ops : Array Oper} {rest : List Oper} {o : Oper} {a : Act} {w : World} {Q : Exit → Act → World → Prop} (hgd : o.guard = none) (T : TypeId) (x y : Operand) (ho : o.op = .store T x y)
    (cs ds : List Value) (hx : a.eval x = .pointer (some ⟨w.heap.size, 0, none⟩)) (hy : a.eval y = .agg ds.toArray) (hi : (Try.prog.info? T).map (·.size) = some ds.length) (hl : cs.length = ds.length) (h1 : ∀ u ∈ ds, u.oneCell' = true)
    (h : wpList Try.prog ops Q rest (a.put o.dst undef) (w.alloc (.cells ds.toArray T))) : wpList Try.prog ops Q (o :: rest) a (w.alloc (.cells cs.toArray T)) :=
  wpList_plain hgd fun K hK => by
    unfold Oper.wp execOp
    simp only [ho, hx, hy, Instr.storeAt, Instr.sureAddr, Sem.run_bind, Sem.run_pure, Result.andThen_ok, run_storeVar_new w T cs.toArray ds.toArray (by simpa using hi) (by simpa using hl) (all_oneCell_toArray h1)]
    exact hK _ _ h
def zeroWc : List Value := .int .i64 0 :: List.replicate 128 (.int .u8 0)
theorem zeroW_cells : zeroW.cells = zeroWc.toArray := rfl
def encW (x : Wt) : List Value := .int .i64 (x.1 : Int) :: b8s x.2.1
theorem encW_len (x : Wt) : (encW x).length = 129 := by simp [encW, blk_len]
theorem encW_one (x : Wt) : ∀ u ∈ encW x, u.oneCell' = true := fun u hu => by
  rcases List.mem_cons.1 hu with rfl | hu
  · rfl
  · obtain ⟨b, _, rfl⟩ := List.mem_map.1 hu; rfl
theorem encW_at {w : World} {g : Nat} {x : Wt} (h : BoxAt 88 w g (encW x)) : ∀ (j : Nat) (v : Value), (b8s x.2.1)[j]? = some v → w.cell? ((⟨g, 1, none⟩ : Addr).add j) = some v := fun j v hv => by
  rw [Addr.add_mid, Nat.add_comm 1 j]
  exact h.cell (j + 1) v (by simpa [encW] using hv)
/-- the cells of the k-th that waits -/
theorem wt_load {w : World} {O S : Nat → Prop} {A : Option Addr} {n c : Nat} {l : List Wt} (h : RowOn cWt w O S (.slice A n c) l) (k : Nat) (hk : k < l.length) : ∃ ad, A = some ad ∧ ∀ (j : Nat) (v : Value), (encW (l[k]))[j]? = some v → w.cell? ((ad.add (k * 129)).add j) = some v := by
  obtain ⟨ad, cs, e, _, ⟨rfl, _⟩, hc⟩ := h.at_ k _ (List.getElem?_eq_getElem hk)
  exact ⟨ad, e, fun j v hv => by rw [add_add]; exact hc j v hv⟩
theorem flatB_there {w : World} {hb : Nat} {bl : List Blk} (h : BoxAt 86 w hb (flatB bl)) (i o n : Nat) (hi : i < bl.length) (ho : o + n ≤ 128) : w.there hb (i * 128 + o) n := fun j hj => by
  have hl : i * 128 + o + j < (flatB bl).length := by rw [flatB_len]; omega
  exact ⟨by rw [h.cell _ _ (List.getElem?_eq_getElem hl)]; rfl, h.frozen _⟩
theorem DiskAt.nilW {w' : World} {S : Nat → Prop} {g hb n : Nat} (d' : DState) (hwt : d'.wt = []) (h1 : BoxAt 84 w' g [.slice (some ⟨hb, 0, none⟩) n n, .slice none 0 0, .bool d'.off, .int .i64 d'.fuse]) (hn : n = d'.bl.length)
    (h2 : BoxAt 86 w' hb (flatB d'.bl)) (h4 : hb ≠ g) (h5 : S hb) (hg : S g) (hlt : ∀ k, S k → k < w'.heap.size) (hp : 0 < d'.bl.length) (hf : d'.bl.length ≤ 65536) (hfu : -9223372036854775808 ≤ d'.fuse ∧ d'.fuse ≤ 9223372036854775807) : DiskAt w' S g d' := by
  subst hn
  exact ⟨⟨hb, .slice none 0 0, h1, h2, by rw [hwt]; exact OwnF.nil_ _ _, h4, h5, fun q hq => by simp [Value.ownBlock] at hq⟩, hg, hlt, fun x hx => by rw [hwt] at hx; simp at hx, hp, hf, hfu⟩

set_option maxRecDepth 100000 in
set_option maxHeartbeats 3200000 in
theorem dsync_any (w : World) (S : Nat → Prop) (g : Nat) (d : DState) (hw : d.wt.length ≤ 1000000) (h : DiskAt w S g d) :
    Calls Try.prog 15 #[.pointer (some ⟨g, 0, none⟩)] w fun e w' => e = .returned (.int .i64 (syncE d)) ∧ DPost w S g (syncD d) w' := by
  have hon := don_any w S g d h
  have Hdeed := Lib.hid (ddeed_any w S g d h)
  have H := Lib.hid h
  clear h
  unfold syncE syncD
  by_cases hof : d.off = true
  · rw [if_pos hof, if_pos hof]
    rw [hof] at hon
    clear hof
    go_enter Try.func15, Try.ntmps15
    go_wp2_with fail
    refine hon.mono ?_
    rintro _ _ ⟨rfl, rfl⟩
    go_wp2_with fail
    go_ret
    exact ⟨rfl, DPost.id_ H.out⟩
  · rw [if_neg hof, if_neg hof]
    have hof2 : d.off = false := by simpa using hof
    rw [hof2] at hon
    clear hof
    by_cases hde : deedE d ≠ 0
    · rw [if_pos hde]
      have hd2 : (deedE d == 0) = false := by simpa using hde
      clear hde
      generalize deedE d = de at *
      go_enter Try.func15, Try.ntmps15
      go_wp2_with fail
      refine hon.mono ?_
      rintro _ _ ⟨rfl, rfl⟩
      go_wp2_with fail
      refine Hdeed.out.mono ?_
      rintro _ w2 ⟨rfl, hd3, hch⟩
      go_wp2_with fail
      go_ret
      exact ⟨rfl, S, hd3, fun k hk => .inl hk, hch⟩
    · rw [if_neg hde]
      have hde0 : deedE d = 0 := by simpa using hde
      rw [hde0] at Hdeed ⊢
      clear hde hde0
      go_enter Try.func15, Try.ntmps15
      go_wp2_with fail
      refine hon.mono ?_
      rintro _ _ ⟨rfl, rfl⟩
      go_wp2_with fail
      refine Hdeed.out.mono ?_
      rintro _ w2 ⟨rfl, hd3, hch⟩
      have hwt2 := deedD_wt d
      have hbl2 := deedD_bl d
      obtain ⟨d1, hd1⟩ : ∃ d1, d1 = deedD d := ⟨_, rfl⟩
      have Hd1 := Lib.hid hd1
      have Hwt2 := Lib.hid hwt2
      have Hbl2 := Lib.hid hbl2
      rw [← hd1] at hd3 hwt2 hbl2
      clear hd1
      have hw1 : d1.wt.length ≤ 1000000 := by rw [hwt2]; exact hw
      have Hch := Lib.hid hch
      have H3 := Lib.hid hd3
      obtain ⟨hb, vw, h1, h2, h3, h4, h5, h6⟩ := hd3.ex
      obtain ⟨A, c, rfl, hc1, hc2, _⟩ := h3.form'
      unfold maxLen at hc2
      have hc0 := h1.cell 1 _ rfl
      have H1 := Lib.hid h1
      have H5 := Lib.hid h5
      have H6 := Lib.hid h6
      have hwts := H3.out.wts
      have hfew := H3.out.few
      have Hwts := Lib.hid hwts
      clear hon Hdeed H hch hd3 hwt2 hbl2 h5 h6 hwts
      go_wp2_with fail
      go_loopw [19] (fun i wr => ∃ k : Nat, k ≤ d1.wt.length ∧ i = .int .i64 k ∧ BoxAt 86 wr hb (flatB (syncBl (d1.wt.take k) d1.bl)) ∧ Chg (fun q => q = hb) w2 wr) (fun i _ => d1.wt.length - (intOf i).toNat)
      case atStart => exact ⟨0, by omega, rfl, h2, Chg.refl _ _⟩
      case round =>
        obtain ⟨k, hk, rfl, hbb, hcg⟩ := hrel
        have h1r := h1.chg hcg (fun e => h4 e.symm)
        by_cases hlt : k < d1.wt.length
        · have h3r : OwnF 88 cWt wr 0 (.slice A d1.wt.length c) d1.wt := h3.kept fun q hq => hcg.block q (h3.blk q hq).2 (H6.out q hq).2.1
          obtain ⟨ad, rfl, hld⟩ := wt_load h3r.row k hlt
          have hx1 := Hwts.out _ (List.getElem_mem hlt)
          have hsn := syncBl_snoc (d1.wt.take k) (d1.wt[k]) d1.bl
          have htk : d1.wt.take (k + 1) = d1.wt.take k ++ [d1.wt[k]] := by rw [List.take_add_one, List.getElem?_eq_getElem hlt]; rfl
          rw [← htk] at hsn
          have hsl := syncBl_len (d1.wt.take k) d1.bl
          have Hsn := Lib.hid hsn
          have Hcg := Lib.hid hcg
          clear hsn htk hcg h3r
          generalize syncBl (d1.wt.take k) d1.bl = bl at *
          generalize d1.wt[k] = x at *
          have Hld := Lib.hid hld
          clear hld
          go_wp2_with (first
            | (refine wpList_load_agg rfl 88 (.tmp 21) rfl (ad.add (k * 129)) rfl (encW x) Hld.out Try.underlying88 rfl (by rw [encW_len]; kernel_rfl) ?_)
            | (refine wpList_alloc_z rfl 88 rfl info_write zeroWc zeroW_cells ?_)
            | (refine wpList_store_new rfl 88 (.tmp 5) (.tmp 22) rfl zeroWc (encW x) rfl rfl (by rw [encW_len]; kernel_rfl) (by rw [encW_len]; rfl) (encW_one x) ?_))
          have hbx : BoxAt 88 (wr.alloc (.cells (encW x).toArray 88)) wr.heap.size (encW x) := BoxAt.new_ _ _ _
          have hld8 := encW_at hbx
          have h18 := h1r.alloc (.cells (encW x).toArray 88)
          have hbb8 := hbb.alloc (.cells (encW x).toArray 88)
          have hb8 := balloc wr (.cells (encW x).toArray 88)
          have hxn : x.1 < d1.bl.length := hx1
          have hxn2 : (x.1 : Int).toNat = x.1 := rfl
          have Hcg8 := Lib.hid (Hcg.out.trans (Chg.ofBelow hb8)).drew_
          clear hb8
          generalize wr.alloc (.cells (encW x).toArray 88) = w8 at *
          generalize hnb : d1.bl.length = nb at *
          have Hnb := Lib.hid hnb
          clear hnb
          generalize wr.heap.size = gb at *
          simp only [Act.put, List.setIfInBounds_toArray, List.set_cons_zero, List.set_cons_succ]
          refine wp_region_mixL (ds := [23, 24, 25, 26, 27, 28, 29, 30, 31]) 9 (fun _ _ W' => W' = w8.drew) [some 23, some 24, some 25, some 26, some 27, some 28, some 29, some 30, some 31]
            [fun v => v = .pointer (some ⟨g, 0, none⟩), fun v => v = .pointer (some ⟨g, 0, none⟩), fun v => v = .pointer (some ⟨g, 0, none⟩), fun v => v = .slice (some ⟨hb, 0, none⟩) nb nb, fun v => v = .pointer (some ⟨gb, 0, none⟩), fun v => v = .int .i64 (x.1 : Int), fun v => v = .pointer (some ⟨gb, 1, none⟩), fun v => v = .agg (b8s x.2.1).toArray, fun v => v = .pointer (some ⟨hb, x.1 * 128, none⟩)]
            rfl rfl rfl (by kernel_rfl) (by kernel_rfl) ?_ (fun _ => rfl) ?_
          · refine ⟨?_, ?_, ?_, ?_, ?_, ?_, ?_, ?_, ?_, trivial⟩
            · -- 0: slot 23 := Op.move t0
              refine obM_yes fun f bb w' hj hs hd hp => ?_
              simp [PreO, factO, valOf, Region.binds] at hp
              have hj' : w' = w8.drew := hj
              subst hj'
              refine ⟨by simp [Gd, valOf, hp], ?_⟩
              refine mildM_val (.pointer (some ⟨g, 0, none⟩)) ?_ rfl rfl
              simp [execOp, evalF, hp, go_sem]
            · -- 1: slot 24 := Op.nilCheck t23
              refine obM_yes fun f bb w' hj hs hd hp => ?_
              simp [PreO, factO, valOf, Region.binds] at hp
              have hj' : w' = w8.drew := hj
              subst hj'
              refine ⟨by simp [Gd, valOf, hp], ?_⟩
              refine mildM_val (.pointer (some ⟨g, 0, none⟩)) ?_ rfl rfl
              simp [execOp, evalF, hp, go_sem]
            · -- 2: slot 25 := Op.fieldAddr 133 t24 0
              refine obM_yes fun f bb w' hj hs hd hp => ?_
              simp [PreO, factO, valOf, Region.binds] at hp
              have hj' : w' = w8.drew := hj
              subst hj'
              refine ⟨by simp [Gd, valOf, hp], ?_⟩
              refine mildM_val (.pointer (some ⟨g, 0, none⟩)) ?_ rfl rfl
              simp [execOp, evalF, hp, go_sem]
            · -- 3: slot 26 := Op.load 130 t25
              refine obM_yes fun f bb w' hj hs hd hp => ?_
              simp [PreO, factO, valOf, Region.binds] at hp
              have hj' : w' = w8.drew := hj
              subst hj'
              refine ⟨by simp [Gd, valOf, hp], ?_⟩
              have hc := h18.cell 0 _ rfl
              refine mildM_val (.slice (some ⟨hb, 0, none⟩) nb nb) ?_ rfl rfl
              simp [execOp, evalF, hp, go_sem, hc]
            · -- 4: slot 27 := Op.fieldAddr 137 t5 0
              refine obM_yes fun f bb w' hj hs hd hp => ?_
              simp [PreO, factO, valOf, Region.binds] at hp
              have hj' : w' = w8.drew := hj
              subst hj'
              refine ⟨by simp [Gd, valOf, hp], ?_⟩
              refine mildM_val (.pointer (some ⟨gb, 0, none⟩)) ?_ rfl rfl
              simp [execOp, evalF, hp, go_sem]
            · -- 5: slot 28 := Op.load 3 t27
              refine obM_yes fun f bb w' hj hs hd hp => ?_
              simp [PreO, factO, valOf, Region.binds] at hp
              have hj' : w' = w8.drew := hj
              subst hj'
              refine ⟨by simp [Gd, valOf, hp], ?_⟩
              have hc := hbx.cell 0 _ rfl
              refine mildM_val (.int .i64 (x.1 : Int)) ?_ rfl rfl
              simp [execOp, evalF, hp, go_sem, hc]
            · -- 6: slot 29 := Op.fieldAddr 137 t5 1
              refine obM_yes fun f bb w' hj hs hd hp => ?_
              simp [PreO, factO, valOf, Region.binds] at hp
              have hj' : w' = w8.drew := hj
              subst hj'
              refine ⟨by simp [Gd, valOf, hp], ?_⟩
              refine mildM_val (.pointer (some ⟨gb, 1, none⟩)) ?_ rfl rfl
              simp [execOp, evalF, hp, go_sem]
            · -- 7: slot 30 := Op.load 135 t29
              refine obM_yes fun f bb w' hj hs hd hp => ?_
              simp [PreO, factO, valOf, Region.binds] at hp
              have hj' : w' = w8.drew := hj
              subst hj'
              refine ⟨by simp [Gd, valOf, hp], ?_⟩
              have hl := run_loadVar_cells w8.drew ⟨gb, 1, none⟩ 86 (b8s x.2.1) hld8 Try.underlying86 rfl (by rw [blk_len]; kernel_rfl)
              refine mildM_val (.agg (b8s x.2.1).toArray) ?_ rfl rfl
              simp only [execOp, evalF, List.contains_eq_mem, Instr.loadAt, Instr.sureAddr, Sem.run_bind, Sem.run_pure, Result.andThen_ok]
              simp [hp, hl]
            · -- 8: slot 31 := Op.indexAddr 130 t26 t28
              refine obM_yes fun f bb w' hj hs hd hp => ?_
              simp [PreO, factO, valOf, Region.binds] at hp
              have hj' : w' = w8.drew := hj
              subst hj'
              refine ⟨by simp [Gd, valOf, hp], ?_⟩
              refine mildM_val (.pointer (some ⟨hb, x.1 * 128, none⟩)) ?_ rfl rfl
              simp [execOp, evalF, hp, go_sem, hxn, hxn2]
          · intro f bb wd hall hj hp
            have hj' : wd = w8.drew := hj
            subst hj'
            clear hall hj
            simp only [PostO] at hp
            obtain ⟨e0, e1, e2, e3, e4, e5, e6, e7, e8, _⟩ := hp
            simp only [fills, List.foldl_cons, List.foldl_nil, Act.put, List.setIfInBounds_toArray, List.set_cons_zero, List.set_cons_succ, e0, e1, e2, e3, e4, e5, e6, e7, e8]
            clear e0 e1 e2 e3 e4 e5 e6 e7 e8
            simp only [List.drop_succ_cons, List.drop_zero]
            have hbd : BoxAt 86 w8.drew hb (flatB bl) := hbb8
            refine wpList_store_mid rfl 86 (.tmp 31) (.tmp 30) rfl hb (x.1 * 128) (b8s x.2.1).toArray rfl rfl (by have := flatB_there hbd x.1 0 128 (by omega) (by omega); simpa [blk_len] using this) (by simp only [List.size_toArray, blk_len]; kernel_rfl) (all_oneCell_toArray (b8s_one _)) ?_
            simp only [List.toList_toArray]
            have hfin := hbd.setCells_ (b8s x.2.1) (x.1 * 128)
            have hcf := Hcg8.out.trans (Chg.ofGrown (P := fun q => q = hb) (gsetCells hb (b8s x.2.1) w8.drew (x.1 * 128)) fun q e => by injection e with e; exact e.symm)
            have hps := flatB_puts bl x.1 0 x.2.1 (by omega) (by rw [x.2.2]; decide)
            rw [Nat.add_zero] at hps
            rw [hps, over_all, ← Hsn.out] at hfin
            generalize w8.drew.setCells hb (x.1 * 128) (b8s x.2.1) = w9 at *
            clear hps hbd
            go_wp2_with fail
            go_roundw
            case rel => exact ⟨k + 1, by omega, by go_num, hfin, hcf⟩
            case measure => simp [intOf]; omega
        · obtain rfl : k = d1.wt.length := by omega
          rw [List.take_length] at hbb
          have hf1 := h1r.frozen 1
          have hc1 := h1r.cell 1 _ rfl
          clear hc0
          go_wp2_with fail
          go_ret
          have hsz := hcg.size
          refine ⟨rfl, DPost.pre Hch.out ?_⟩
          rw [← Hwt2.out, ← Hbl2.out, ← Hd1.out]
          refine ⟨S, DiskAt.nilW _ rfl (h1r.put 1 _) (by rw [syncBl_len]) (hbb.other _ _ fun e => h4 e.symm) h4 H5.out H3.out.here (fun q hq => by have := H3.out.lt q hq; simp [World.setCell]; omega) (by rw [syncBl_len]; exact H3.out.pos) (by rw [syncBl_len]; exact H3.out.few) H3.out.fuseR, fun q hq => .inl hq, ?_⟩
          exact (hcg.more fun q _ hq => by rw [hq]; exact H5.out).trans (Chg.set wr _ _ H3.out.here)
end Go.Proofs.Ytpoicbhbkabllaa
