/- (*disk.Disk).Write -/
import Derived.Test.YtpoicbhbkabllaaBuilt
import Derived.Test.YtpoicbhbkabllaaAppRun
namespace Go.Proofs.Ytpoicbhbkabllaa
set_option linter.unusedSimpArgs false
set_option linter.unusedVariables false
open Go.RowKit

/-- bytes that lie outside S -/
abbrev BX (w : World) (S : Nat → Prop) (v : Value) (l : List UInt8) : Prop := RowOn c8 w (fun k => k < w.heap.size ∧ ¬ S k) (fun _ => True) v l
theorem BX.chg {w w' : World} {S : Nat → Prop} {v : Value} {l : List UInt8} (h : BX w S v l) (hc : Chg S w w') : BX w' S v l := by
  obtain ⟨A, c, h1, h2, h3, h4⟩ := h
  refine ⟨A, c, h1, h2, h3, fun hn => ?_⟩
  obtain ⟨ad, e, hb, hcc⟩ := h4 hn
  refine ⟨ad, e, ⟨Nat.lt_of_lt_of_le hb.1 hc.size, hb.2⟩, fun i x hx => ?_⟩
  obtain ⟨cs, ha, hcs⟩ := hcc i x hx
  exact ⟨cs, ha, fun j u hu => (World.cell?_of_block (hc.block _ (by rw [add_block]; exact hb.1) (by rw [add_block]; exact hb.2))).trans (hcs j u hu)⟩
theorem BX.grown {w w' : World} {S : Nat → Prop} {v : Value} {l : List UInt8} {row : Option Nat} (h : BX w S v l) (hg : w.grownBy w' row) (hr : ∀ k, row = some k → w.heap.size ≤ k ∨ S k) : BX w' S v l :=
  h.chg ⟨hg.os, hg.tape, hg.output, hg.size, fun k hk hn => hg.block k hk fun e => by rcases hr k e.symm with h | h; omega; exact hn h⟩
theorem BX.form {w : World} {S : Nat → Prop} {v : Value} {l : List UInt8} (h : BX w S v l) : ∃ A c, v = .slice A l.length c ∧ l.length ≤ c ∧ c ≤ maxLen := RowOn.form h

theorem DPost.pre {w w2 w' : World} {S : Nat → Prop} {g : Nat} {d : DState} (hc : Chg S w w2) (h : DPost w2 S g d w') : DPost w S g d w' := by
  obtain ⟨S', h1, h2, h3⟩ := h
  exact ⟨S', h1, fun k hk => (h2 k hk).imp id fun h => Nat.le_trans hc.size h, hc.trans h3⟩
theorem DiskAt.pushed {w2 w3 : World} {S : Nat → Prop} {g hb : Nat} {d1 : DState} {vw v34 : Value} (H : DiskAt w2 S g d1) (h1 : BoxAt 84 w2 g [.slice (some ⟨hb, 0, none⟩) d1.bl.length d1.bl.length, vw, .bool d1.off, .int .i64 d1.fuse])
    (h2 : BoxAt 86 w2 hb (flatB d1.bl)) (h3 : OwnF 88 cWt w2 0 vw d1.wt) (h4 : hb ≠ g) (h5 : S hb) (h6 : ∀ q, vw.ownBlock = some q → q ≠ g ∧ q ≠ hb ∧ S q) (k : Nat) (hk : k < d1.bl.length) (bk : Blk)
    (j7 : OwnF 88 cWt w3 0 v34 (d1.wt ++ [(k, bk)])) (j8 : Ext w2 w3 vw v34) (j1 : BoxAt 84 w3 g [.slice (some ⟨hb, 0, none⟩) d1.bl.length d1.bl.length, vw, .bool d1.off, .int .i64 d1.fuse]) :
    DPost w2 S g { d1 with wt := d1.wt ++ [(k, bk)] } (w3.setCell ⟨g, 1, none⟩ v34) := by
  have hg := h1.lt
  have hhb := h2.lt
  have hne : ∀ q, v34.ownBlock = some q → q ≠ g ∧ q ≠ hb ∧ (S q ∨ w2.heap.size ≤ q) := fun q hq => by
    rcases j8.at_ with e | e
    · rw [e] at hq
      exact ⟨(h6 q hq).1, (h6 q hq).2.1, .inl (h6 q hq).2.2⟩
    · have := e q hq
      exact ⟨by omega, by omega, .inr this⟩
  have h2' := h2.grown j8.gr (fun e => (h6 _ e).2.1 rfl)
  refine ⟨fun q => S q ∨ v34.ownBlock = some q, ⟨⟨hb, v34, j1.put 1 _, h2'.other _ _ (fun e => h4 e.symm), j7.keep (gset w3 ⟨g, 1, none⟩ _) (by
      cases hv : v34.ownBlock with
      | none => exact .inl rfl
      | some q => exact .inr (fun e => (hne q hv).1 (by injection e))) (fun k hk => hk.elim), h4, .inl h5, fun q hq => ⟨(hne q hq).1, (hne q hq).2.1, .inr hq⟩⟩, .inl H.here, fun q hq => ?_, fun x hx => ?_, H.pos, H.few, H.fuseR⟩, fun q hq => ?_, ?_⟩
  · have hs : (w3.setCell ⟨g, 1, none⟩ v34).heap.size = w3.heap.size := by simp [World.setCell]
    rw [hs]
    rcases hq with hq | hq
    · exact Nat.lt_of_lt_of_le (H.lt q hq) j8.gr.size
    · exact (j7.blk q hq).2
  · rw [List.mem_append, List.mem_singleton] at hx
    rcases hx with hx | rfl
    · exact H.wts x hx
    · exact hk
  · rcases hq with hq | hq
    · exact .inl hq
    · exact (hne q hq).2.2
  · exact (Chg.ofGrown j8.gr fun q hq => (h6 q hq).2.2).trans (Chg.set w3 _ _ H.here)

set_option maxRecDepth 100000 in
set_option maxHeartbeats 3200000 in
theorem dwrite_any (w : World) (S : Nat → Prop) (g : Nat) (d : DState) (i : Int) (v : Value) (b : List UInt8) (hw : d.wt.length ≤ 1000000) (h : DiskAt w S g d) (hv : BX w S v b) :
    Calls Try.prog 16 #[.pointer (some ⟨g, 0, none⟩), .int .i64 i, v] w fun e w' => e = .returned (.int .i64 (writeE d i b)) ∧ DPost w S g (writeD d i b) w' := by
  obtain ⟨A, c, rfl, hc1, hc2⟩ := hv.form
  unfold maxLen at hc2
  have hmay := dmay_any w S g d i h
  have hdeed := ddeed_any w S g d h
  have H := Lib.hid h
  have Hv := Lib.hid hv
  have Hdeed := Lib.hid hdeed
  clear h hv hdeed
  unfold writeE writeD
  by_cases hm : mayE d i ≠ 0
  · rw [if_pos hm, if_pos hm]
    have hd : (mayE d i == 0) = false := by simpa using hm
    clear hm
    generalize mayE d i = me at *
    go_enter Try.func16, Try.ntmps16
    go_wp2_with fail
    refine hmay.mono ?_
    rintro _ _ ⟨rfl, rfl⟩
    go_wp2_with fail
    go_ret
    exact ⟨rfl, DPost.id_ H.out⟩
  · rw [if_neg hm, if_neg hm]
    have hm0 : mayE d i = 0 := by simpa using hm
    rw [hm0] at hmay
    by_cases hb : b.length = 128
    · rw [if_neg (by simpa using hb), dif_pos hb]
      have hd : ((b.length : Int) == 128) = true := by simp [hb]
      by_cases hde : deedE d ≠ 0
      · rw [if_pos hde]
        have hd2 : (deedE d == 0) = false := by simpa using hde
        clear hde hm hm0
        generalize deedE d = de at *
        rw [hb] at *
        go_enter Try.func16, Try.ntmps16
        go_wp2_with fail
        refine hmay.mono ?_
        rintro _ _ ⟨rfl, rfl⟩
        go_wp2_with fail
        refine Hdeed.out.mono ?_
        rintro _ w2 ⟨rfl, hd3, hch⟩
        go_wp2_with fail
        go_ret
        exact ⟨rfl, S, hd3, fun k hk => .inl hk, hch⟩
      · rw [if_neg hde]
        have hde0 : deedE d = 0 := by simpa using hde
        rw [hde0] at Hdeed ⊢
        have hi : 0 ≤ i ∧ i < (d.bl.length : Int) := by
          unfold mayE at hm0
          split at hm0
          · cases hm0
          · split at hm0
            · assumption
            · cases hm0
        obtain ⟨k, rfl⟩ : ∃ k : Nat, i = (k : Int) := ⟨i.toNat, by omega⟩
        have hki : k < d.bl.length := by omega
        clear hde hde0 hm hm0
        rw [hb] at *
        rw [Int.toNat_natCast]
        have HB := Lib.hid hb
        clear hb hi
        go_enter Try.func16, Try.ntmps16
        go_wp2_with fail
        refine hmay.mono ?_
        rintro _ _ ⟨rfl, rfl⟩
        go_wp2_with fail
        refine Hdeed.out.mono ?_
        rintro _ w2 ⟨rfl, hd3, hch⟩
        go_wp2_with fail
        have hv2 := Hv.out.chg hch
        have hwt2 := deedD_wt d
        have hbl2 := deedD_bl d
        obtain ⟨d1, hd1⟩ : ∃ d1, d1 = deedD d := ⟨_, rfl⟩
        have Hd1 := Lib.hid hd1
        have Hwt2 := Lib.hid hwt2
        rw [← hd1] at hd3 hwt2 hbl2
        clear hd1
        have hw1 : d1.wt.length ≤ 1000000 := by rw [hwt2]; exact hw
        have hk1 : k < d1.bl.length := by rw [hbl2]; exact hki
        have hlb : b.length = 128 := by assumption
        obtain ⟨ad, rfl⟩ : ∃ ad, A = some ad := by
          obtain ⟨ad, cs, e, _⟩ := hv2.at_ 0 (b[0]'(by omega)) (List.getElem?_eq_getElem (by omega))
          exact ⟨ad, e⟩
        have Hch := Lib.hid hch
        have H3 := Lib.hid hd3
        obtain ⟨hb, vw, h1, h2, h3, h4, h5, h6⟩ := hd3.ex
        obtain ⟨bk, hbk⟩ : ∃ bk : Blk, bk = ⟨b, hlb⟩ := ⟨_, rfl⟩
        have hbk1 : bk.1 = b := by rw [hbk]
        have Hbk := Lib.hid hbk
        rw [← hbk1] at hv2
        have Hbk2 := Lib.hid hbk
        have hlk := bk.2
        rw [hlk] at hv2
        clear hmay Hdeed H Hv hlk hch hd3 hbk hbk1 hwt2 hbl2
        refine wp_region_mixL (ds := [23, 24, 25, 26, 27, 28, 29, 30, 31, 32, 33, 34, 35, 36]) 14
          (fun bb vs W' => BoxAt 84 W' g [.slice (some ⟨hb, 0, none⟩) d1.bl.length d1.bl.length, vw, .bool d1.off, .int .i64 d1.fuse] ∧ BX W' S (.slice (some ad) 128 c) bk.1 ∧ (bb 11 = true → bb 10 = true) ∧
            (bb 10 = false → W' = w2.drew) ∧ (bb 10 = true → bb 11 = false → W' = w2.drew.alloc (.cells (.int .i64 (k : Int) :: b8s bk.1).toArray 88) ∧ vs 10 = .slice (some ⟨w2.heap.size, 0, none⟩) 1 1) ∧
            (bb 11 = true → OwnF 88 cWt W' 0 (vs 11) (d1.wt ++ [(k, bk)]) ∧ Ext w2 W' vw (vs 11)))
          [some 23, some 24, some 25, some 26, some 27, some 28, some 29, some 30, some 31, some 32, some 33, some 34, some 35, some 36]
          [fun v => v = .pointer (some ⟨g, 0, none⟩), fun v => v = .pointer (some ⟨g, 0, none⟩), fun v => v = .pointer (some ⟨g, 0, none⟩), fun v => v = .pointer (some ⟨g, 1, none⟩), fun v => v = vw, fun v => v = .int .i64 (k : Int), fun v => v = .slice (some ad) 128 c,
            fun v => v = .pointer (some ad), fun v => v = .agg (b8s bk.1).toArray, fun v => v = .agg (.int .i64 (k : Int) :: b8s bk.1).toArray, fun _ => True, fun _ => True, fun v => v = .pointer (some ⟨g, 0, none⟩), fun v => v = .pointer (some ⟨g, 1, none⟩)]
          rfl rfl rfl (by kernel_rfl) (by kernel_rfl) ?_ ?_ ?_
        · refine ⟨?_, ?_, ?_, ?_, ?_, ?_, ?_, ?_, ?_, ?_, ?_, ?_, ?_, ?_, trivial⟩
          · refine obM_yes fun f bb w' hj hs hd hp => ?_
            simp [PreO, factO, valOf, Region.binds] at hp hd
            refine ⟨by simp [Gd, valOf, hp], ?_⟩
            refine mildM_val (.pointer (some ⟨g, 0, none⟩)) ?_ rfl (by simpa using hj)
            simp [execOp, evalF, hp]
          · refine obM_yes fun f bb w' hj hs hd hp => ?_
            simp [PreO, factO, valOf, Region.binds] at hp hd
            refine ⟨by simp [Gd, valOf, hp], ?_⟩
            refine mildM_val (.pointer (some ⟨g, 0, none⟩)) ?_ rfl (by simpa using hj)
            simp [execOp, evalF, hp]
          · refine obM_yes fun f bb w' hj hs hd hp => ?_
            simp [PreO, factO, valOf, Region.binds] at hp hd
            refine ⟨by simp [Gd, valOf, hp], ?_⟩
            refine mildM_val (.pointer (some ⟨g, 0, none⟩)) ?_ rfl (by simpa using hj)
            simp [execOp, evalF, hp, go_sem]
          · refine obM_yes fun f bb w' hj hs hd hp => ?_
            simp [PreO, factO, valOf, Region.binds] at hp hd
            refine ⟨by simp [Gd, valOf, hp], ?_⟩
            refine mildM_val (.pointer (some ⟨g, 1, none⟩)) ?_ rfl (by simpa using hj)
            simp [execOp, evalF, hp, go_sem]
          · refine obM_yes fun f bb w' hj hs hd hp => ?_
            simp [PreO, factO, valOf, Region.binds] at hp hd
            refine ⟨by simp [Gd, valOf, hp], ?_⟩
            have hc := hj.1.cell 1 _ rfl
            refine mildM_val (vw) ?_ rfl (by simpa using hj)
            simp [execOp, evalF, hp, hc, go_sem]
          · refine obM_yes fun f bb w' hj hs hd hp => ?_
            simp [PreO, factO, valOf, Region.binds] at hp hd
            refine ⟨by simp [Gd, valOf, hp], ?_⟩
            refine mildM_val (.int .i64 (k : Int)) ?_ rfl (by simpa using hj)
            simp [execOp, evalF, hp]
          · refine obM_yes fun f bb w' hj hs hd hp => ?_
            simp [PreO, factO, valOf, Region.binds] at hp hd
            refine ⟨by simp [Gd, valOf, hp], ?_⟩
            refine mildM_val (.slice (some ad) 128 c) ?_ rfl (by simpa using hj)
            simp [execOp, evalF, hp]
          · refine obM_yes fun f bb w' hj hs hd hp => ?_
            simp [PreO, factO, valOf, Region.binds] at hp hd
            refine ⟨by simp [Gd, valOf, hp], ?_⟩
            have hat : (Instr.arrayAt 86 (.slice (some ad) 128 c)).run Try.prog w' = .ok (.pointer (some ad)) w' := by
              unfold Instr.arrayAt
              simp [Sem.run_bind, run_underlying Try.underlying86]
            refine mildM_val (.pointer (some ad)) ?_ rfl (by simpa using hj)
            simp [execOp, evalF, hp, go_sem, hat]
          · refine obM_yes fun f bb w' hj hs hd hp => ?_
            simp [PreO, factO, valOf, Region.binds] at hp hd
            refine ⟨by simp [Gd, valOf, hp], ?_⟩
            have hl := run_loadVar_cells w' ad 86 (b8s bk.1) (rowOn_load hj.2.1) Try.underlying86 rfl (by rw [blk_len]; kernel_rfl)
            refine mildM_val (.agg (b8s bk.1).toArray) ?_ rfl (by simpa using hj)
            simp only [execOp, evalF, List.contains_eq_mem, Instr.loadAt, Instr.sureAddr, Sem.run_bind, Sem.run_pure, Result.andThen_ok]
            simp [hp, hl]
          · refine obM_yes fun f bb w' hj hs hd hp => ?_
            simp [PreO, factO, valOf, Region.binds] at hp hd
            refine ⟨by simp [Gd, valOf, hp], ?_⟩
            refine mildM_val (.agg (.int .i64 (k : Int) :: b8s bk.1).toArray) ?_ rfl (by simpa using hj)
            simp only [execOp]
            simp [evalF, hp, run_build_write]
          · refine obM_yes fun f bb w' hj hs hd hp => ?_
            simp [PreO, factO, valOf, Region.binds] at hp hd
            refine ⟨by simp [Gd, valOf, hp], ?_⟩
            obtain ⟨j1, j2, j3, j4, j5, j6⟩ := hj
            have h11 : bb 11 = false := by cases hx : bb 11 with | false => rfl | true => rw [j3 hx] at hs; cases hs
            have hw' := j4 hs
            subst hw'
            refine mildM_val (.slice (some ⟨w2.heap.size, 0, none⟩) 1 1) (w' := w2.drew.alloc (.cells (.int .i64 (k : Int) :: b8s bk.1).toArray 88)) ?_ trivial ?_
            · simp only [execOp]
              simp [evalF, hp, run_slice_write]
            · refine ⟨j1.alloc _, j2.chg (Chg.ofBelow (balloc _ _)), by simp, by simp, fun _ _ => ⟨rfl, rfl⟩, by simp [h11]⟩
          · refine obM_yes fun f bb w' hj hs hd hp => ?_
            simp [PreO, factO, valOf, Region.binds] at hp hd
            refine ⟨by simp [Gd, valOf, hp], ?_⟩
            obtain ⟨j1, j2, j3, j4, j5, j6⟩ := hj
            have h10 : bb 10 = true := by simpa using hd.2
            obtain ⟨hw', hv10⟩ := j5 h10 hs
            subst hw'
            have hsz : w2.drew.heap.size = w2.heap.size := rfl
            have ho : OwnF 88 cWt w2.drew 0 vw d1.wt := h3.below_ (Below.refl _ w2).drew
            refine mildM_ex (exec_app1R (C := cWt) (.tmp 27) (.tmp 33) 82 rfl Try.underlying82 info_write (by kernel_rfl) (by decide) (by decide) (.int .i64 (k : Int) :: b8s bk.1) ho (y := (k, bk)) ⟨rfl, trivial⟩ (by simp [evalF, hp]) (by simpa [evalF, valOf] using hv10) (by omega) (Nat.zero_le _)) ?_
            intro v' w3 g1 g2
            have g3 : Ext w2 w3 vw v' := ((Ext.refl w2 vw).then_ (Below.refl _ w2).drew).trans g2
            refine ⟨trivial, h1.grown g3.gr (fun e => (h6 _ e).1 rfl), hv2.chg (Chg.ofGrown g3.gr fun q hq => (h6 q hq).2.2), by simp [h10], by simp [h10], by simp, fun _ => ⟨g1, g3⟩⟩
          · refine obM_yes fun f bb w' hj hs hd hp => ?_
            simp [PreO, factO, valOf, Region.binds] at hp hd
            refine ⟨by simp [Gd, valOf, hp], ?_⟩
            refine mildM_val (.pointer (some ⟨g, 0, none⟩)) ?_ rfl (by simpa using hj)
            simp [execOp, evalF, hp, go_sem]
          · refine obM_yes fun f bb w' hj hs hd hp => ?_
            simp [PreO, factO, valOf, Region.binds] at hp hd
            refine ⟨by simp [Gd, valOf, hp], ?_⟩
            refine mildM_val (.pointer (some ⟨g, 1, none⟩)) ?_ rfl (by simpa using hj)
            simp [execOp, evalF, hp, go_sem]
        · intro _
          exact ⟨h1, hv2, by simp, by simp, by simp, by simp⟩
        · intro f bb w3 hall hj hp
          have hb11 := hall 11 (by decide)
          clear hall
          simp only [PostO] at hp
          obtain ⟨e0, e1, e2, e3, e4, e5, e6, e7, e8, e9, _, _, e12, e13, _⟩ := hp
          obtain ⟨j1, j2, _, _, _, j6⟩ := hj
          obtain ⟨j7, j8⟩ := j6 hb11
          simp only [valOf, List.getElem?_cons_succ, List.getElem?_cons_zero] at j7 j8
          simp only [fills, List.foldl_cons, List.foldl_nil, Act.put, List.setIfInBounds_toArray, List.set_cons_zero, List.set_cons_succ, e0, e1, e2, e3, e4, e5, e6, e7, e8, e9, e12, e13]
          clear e0 e1 e2 e3 e4 e5 e6 e7 e8 e9 e12 e13
          generalize f 34 = v34 at *
          generalize f 33 = v33 at *
          simp only [List.drop_succ_cons, List.drop_zero]
          have jf := j1.frozen 1
          have jc := j1.cell 1 _ rfl
          obtain ⟨A34, c34, hv34, _, _, _⟩ := j7.form'
          go_wp2_with fail
          go_ret
          rw [← Hwt2.out, ← Hd1.out]
          refine ⟨rfl, DPost.pre Hch.out ?_⟩
          have := DiskAt.pushed H3.out h1 h2 h3 h4 h5 h6 k hk1 bk j7 j8 j1
          rw [hv34, List.length_append, List.length_singleton, Hbk2.out] at this
          exact this
    · rw [if_pos hb, dif_neg hb]
      have hd : ((b.length : Int) == 128) = false := beq_eq_false_iff_ne.2 (by omega)
      have hd1 : (b.length == 128) = false := beq_eq_false_iff_ne.2 hb
      clear hm hm0 hb
      go_enter Try.func16, Try.ntmps16
      go_wp2_with fail
      refine hmay.mono ?_
      rintro _ _ ⟨rfl, rfl⟩
      go_wp2_with fail
      go_ret
      exact ⟨rfl, DPost.id_ H.out⟩
end Go.Proofs.Ytpoicbhbkabllaa
