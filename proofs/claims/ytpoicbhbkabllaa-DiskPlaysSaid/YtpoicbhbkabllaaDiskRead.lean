/- (*disk.Disk).Read (printed by wip/gen/dread.py) -/
import Derived.Test.YtpoicbhbkabllaaDiskIter
namespace Go.Proofs.Ytpoicbhbkabllaa
set_option linter.unusedSimpArgs false
set_option linter.unusedVariables false
open Go.RowKit Go.Shelf
attribute [local go_sem] Oper.semAt_some

/-- the last write of a block, told from the end -/
theorem lastW_none (wt : List Wt) (i : Nat) : ∀ b : Blk, (∀ x ∈ wt, x.1 ≠ i) → lastW wt i b = b := by
  induction wt with
  | nil => intro b _; rfl
  | cons x t ih =>
    intro b h
    show lastW t i (if x.1 = i then x.2 else b) = b
    rw [if_neg (h x (by simp))]
    exact ih b fun y hy => h y (by simp [hy])
theorem lastW_append (a t : List Wt) (i : Nat) (b : Blk) : lastW (a ++ t) i b = lastW t i (lastW a i b) := by simp [lastW]
theorem lastW_at (wt : List Wt) (i q : Nat) (hq : q < wt.length) (he : (wt[q]).1 = i) (hn : ∀ j, (h : j < wt.length) → q < j → (wt[j]).1 ≠ i) (b : Blk) : lastW wt i b = (wt[q]).2 := by
  have e : wt = wt.take q ++ wt[q] :: wt.drop (q + 1) := by
    rw [← List.drop_eq_getElem_cons hq, List.take_append_drop]
  have h2 : lastW wt i b = lastW (wt.drop (q + 1)) i (if (wt[q]).1 = i then (wt[q]).2 else lastW (wt.take q) i b) := by
    conv => lhs; rw [e]
    rw [lastW_append]
    rfl
  rw [h2, if_pos he, lastW_none]
  intro x hx
  obtain ⟨j, hj, rfl⟩ := List.mem_iff_getElem.1 hx
  rw [List.getElem_drop]
  exact hn _ _ (by omega)
theorem upto_backP_ne {wt : List Wt} {i : Nat} (h : ∀ p ∈ upto (backP wt) wt.length, p.2.1 ≠ i) : ∀ x ∈ wt, x.1 ≠ i := by
  intro x hx
  obtain ⟨j, hj, rfl⟩ := List.mem_iff_getElem.1 hx
  have := h (backP wt (wt.length - 1 - j)) ((upto_mem _ _ _).2 ⟨_, by omega, rfl⟩)
  rw [backP_at wt j _ hj (by omega)] at this
  exact this
theorem upto_backP_lt {wt : List Wt} {i k : Nat} (hk : k ≤ wt.length) (h : ∀ p ∈ upto (backP wt) k, p.2.1 ≠ i) (j : Nat) (hj : j < wt.length) (hjk : wt.length - 1 - j < k) : (wt[j]).1 ≠ i := by
  have := h (backP wt (wt.length - 1 - j)) ((upto_mem _ _ _).2 ⟨_, hjk, rfl⟩)
  rw [backP_at wt j _ hj (by omega)] at this
  exact this
theorem BoxAt.below_x {T : TypeId} {w w' : World} {g : Nat} {cs : List Value} (h : BoxAt T w g cs) (hb : Below w.heap.size w w') : BoxAt T w' g cs := h.below h.lt hb
def zeroBc : List Value := List.replicate 128 (.int .u8 0)
theorem run_alloc_z (w : World) (T : TypeId) {z : Value} {n bytes : Nat} (hinfo : (Try.prog.info? T).map (fun i => (i.zero, i.size, i.bytes)) = some (some z, n, bytes)) (cs : List Value) (hz : z.cells = cs.toArray) :
    (Instr.alloc T true (.tuple #[])).run Try.prog w = .ok (.pointer (some ⟨w.heap.size, 0, none⟩)) (w.alloc (.cells cs.toArray T)) := by
  obtain ⟨i, hi, hz0, hz1, hby⟩ := info_parts hinfo
  simp [Instr.alloc, Sem.run_bind, zeroValue, typeInfo, hi, hz0, newVar, newRow, hz]

set_option maxRecDepth 100000 in
set_option maxHeartbeats 6400000 in
theorem dread_any (w : World) (S : Nat → Prop) (g : Nat) (d : DState) (i : Int) (hwl : d.wt.length ≤ 1000000) (h : DiskAt w S g d) :
    Calls Try.prog 20 #[.pointer (some ⟨g, 0, none⟩), .int .i64 i] w fun e w' => ∃ v, e = .returned (.tuple #[v, .int .i64 (mayE d i)]) ∧ Fresh w.heap.size w' v (readL d i) ∧ Below w.heap.size w w' := by
  have hb0 := balloc w (.cells #[.int .i64 i] 3)
  have hx0 := BoxAt.new_ 3 w [.int .i64 i]
  have h0 := h.below_ hb0
  have hmay := dmay_any _ S g d i h0
  have hwl2 := hwl
  have hz0 : w.heap.size < (w.alloc (.cells #[.int .i64 i] 3)).heap.size := by simp
  unfold readL
  refine (callsIn_wide (n := 4)).1 ?_
  refine callsIn_of_wp_marks Try.func20 rfl trivial ?_ rfl
  simp only [Try.ntmps20, List.size_toArray, List.length_cons, List.length_nil, Nat.reduceAdd, Nat.reduceSub, Array.replicate_succ, Array.replicate_zero, List.push_toArray, List.append_toArray, List.nil_append, List.cons_append]
  have Hb0 := Lib.hid hb0
  have H0 := Lib.hid h0
  have Hx0 := Lib.hid hx0
  have hc0 := hx0.cell 0 _ rfl
  clear hb0 h0 hx0 h
  by_cases hm : mayE d i ≠ 0
  · rw [if_pos hm]
    have hd : (mayE d i == 0) = false := by simpa using hm
    clear hm
    generalize mayE d i = me at *
    have Hm := Lib.hid hmay
    clear hmay
    gi_wp2
    generalize w.alloc (.cells #[.int .i64 i] 3) = w0 at *
    refine ⟨trivial, ?_⟩
    refine (callsIn_wide.2 Hm.out).mono ?_
    rintro _ _ ⟨rfl, rfl⟩
    gi_wp2
    exact ⟨_, results_tmp2 rfl _ _ _, .slice none 0 0, rfl, Fresh.nil_, Hb0.out⟩
  · rw [if_neg hm]
    have hm0 : mayE d i = 0 := by simpa using hm
    have hi : 0 ≤ i ∧ i < (d.bl.length : Int) := by
      unfold mayE at hm0
      split at hm0
      · cases hm0
      · split at hm0
        · assumption
        · cases hm0
    rw [hm0] at hmay ⊢
    obtain ⟨k, rfl⟩ : ∃ k : Nat, i = (k : Int) := ⟨i.toNat, by omega⟩
    have hkn : k < d.bl.length := by omega
    have Hm := Lib.hid hmay
    have Hkn := Lib.hid hkn
    have hgd : d.bl.getD k zeroB = d.bl[k] := by rw [List.getD_eq_getElem?_getD, List.getElem?_eq_getElem hkn]; rfl
    obtain ⟨bk, hbk⟩ : ∃ bk, bk = d.bl[k] := ⟨_, rfl⟩
    rw [Int.toNat_natCast]
    obtain ⟨rb, hrb⟩ : ∃ rb, rb = readB d k := ⟨_, rfl⟩
    rw [← hrb]
    unfold readB at hrb
    rw [hgd, ← hbk] at hrb
    have Hrb := Lib.hid hrb
    have Hbk := Lib.hid hbk
    clear hmay hm hm0 hi hgd hrb hbk
    gi_wp2
    generalize w.alloc (.cells #[.int .i64 (k : Int)] 3) = w0 at *
    refine ⟨trivial, ?_⟩
    refine (callsIn_wide.2 Hm.out).mono ?_
    rintro _ _ ⟨rfl, rfl⟩
    gi_wp2
    obtain ⟨hb, vw, h1, h2, h3, h4, h5, h6⟩ := H0.out.ex
    have h3r := h3.row
    obtain ⟨A, c, rfl, hc1, hc2, _⟩ := h3.form'
    unfold maxLen at hc2
    have hld : ∀ (j : Nat) (v : Value), (b8s bk.1)[j]? = some v → w0.cell? ((⟨hb, k * 128, none⟩ : Addr).add j) = some v := fun j v hv => by
      rw [Addr.add_mid]
      rw [Hbk.out] at hv
      have hj : j < 128 := by
        have := (List.getElem?_eq_some_iff.1 hv).1
        rwa [blk_len] at this
      exact h2.cell _ _ (by rw [flatB_at _ _ _ hkn hj]; exact hv)
    have hrw : ByW w0 w0.heap.size (.slice A d.wt.length c) d.wt := h3r.mono (fun q hq => hq.2) (fun _ h => h.elim)
    have hltS := H0.out.lt
    have hgl := hltS g H0.out.here
    have hbl := hltS hb h5
    have hwl : w.heap.size < w0.heap.size := by omega
    have Hld := Lib.hid hld
    have H1 := Lib.hid h1
    have Hrw := Lib.hid hrw
    obtain ⟨nb, hnb⟩ : ∃ nb, nb = d.bl.length := ⟨_, rfl⟩
    rw [← hnb] at h1
    have hkn2 : k < nb := by omega
    clear hld h2 h3 h3r h6 hrw hltS Hm hnb hkn
    refine wpIn_wide.2 ?_
    refine wp_region_mixL (ds := [16, 17, 18, 19, 20, 21, 22, 7]) 8 (fun bb vs W' => Below w0.heap.size w0 W' ∧ (bb 7 = false → W' = w0.drew) ∧ (bb 7 = true → W' = w0.drew.alloc (.cells zeroBc.toArray 86) ∧ vs 7 = .pointer (some ⟨w0.heap.size, 0, none⟩))) [some 16, some 17, some 18, some 19, some 20, some 21, some 22, some 7]
      [fun v => v = .pointer (some ⟨g, 0, none⟩), fun v => v = .pointer (some ⟨g, 0, none⟩), fun v => v = .pointer (some ⟨g, 0, none⟩), fun v => v = .slice (some ⟨hb, 0, none⟩) nb nb, fun v => v = .int .i64 (k : Int), fun v => v = .pointer (some ⟨hb, k * 128, none⟩), fun v => v = .agg (b8s bk.1).toArray, fun _ => True]
      rfl rfl rfl (by kernel_rfl) (by kernel_rfl) ?_ (fun _ => ⟨(Below.refl _ w0).drew, fun _ => rfl, fun h => by cases h⟩) ?_
    · refine ⟨?_, ?_, ?_, ?_, ?_, ?_, ?_, ?_, trivial⟩
      · -- 0: slot 16 := Op.move t0
        refine obM_yes fun f bb w' hj hs hd hp => ?_
        simp [PreO, factO, valOf, Region.binds] at hp hd
        refine ⟨by simp [Gd, valOf, hp], ?_⟩
        refine mildM_val (.pointer (some ⟨g, 0, none⟩)) ?_ rfl (by simpa using hj)
        simp [execOp, evalF, hp, go_sem]
      · -- 1: slot 17 := Op.nilCheck t16
        refine obM_yes fun f bb w' hj hs hd hp => ?_
        simp [PreO, factO, valOf, Region.binds] at hp hd
        refine ⟨by simp [Gd, valOf, hp], ?_⟩
        refine mildM_val (.pointer (some ⟨g, 0, none⟩)) ?_ rfl (by simpa using hj)
        simp [execOp, evalF, hp, go_sem]
      · -- 2: slot 18 := Op.fieldAddr 84 t17 0
        refine obM_yes fun f bb w' hj hs hd hp => ?_
        simp [PreO, factO, valOf, Region.binds] at hp hd
        refine ⟨by simp [Gd, valOf, hp], ?_⟩
        refine mildM_val (.pointer (some ⟨g, 0, none⟩)) ?_ rfl (by simpa using hj)
        simp [execOp, evalF, hp, go_sem]
      · -- 3: slot 19 := Op.load 81 t18
        refine obM_yes fun f bb w' hj hs hd hp => ?_
        simp [PreO, factO, valOf, Region.binds] at hp hd
        refine ⟨by simp [Gd, valOf, hp], ?_⟩
        have hc := (hj.1.cell (p := ⟨g, 0, none⟩) hgl).trans (h1.cell 0 _ rfl)
        refine mildM_val (.slice (some ⟨hb, 0, none⟩) nb nb) ?_ rfl (by simpa using hj)
        simp [execOp, evalF, hp, go_sem, hc]
      · -- 4: slot 20 := Op.load 3 t3
        refine obM_yes fun f bb w' hj hs hd hp => ?_
        simp [PreO, factO, valOf, Region.binds] at hp hd
        refine ⟨by simp [Gd, valOf, hp], ?_⟩
        have hc := (hj.1.cell (p := ⟨w.heap.size, 0, none⟩) hwl).trans hc0
        refine mildM_val (.int .i64 (k : Int)) ?_ rfl (by simpa using hj)
        simp [execOp, evalF, hp, go_sem, hc]
      · -- 5: slot 21 := Op.indexAddr 81 t19 t20
        refine obM_yes fun f bb w' hj hs hd hp => ?_
        simp [PreO, factO, valOf, Region.binds] at hp hd
        refine ⟨by simp [Gd, valOf, hp], ?_⟩
        refine mildM_val (.pointer (some ⟨hb, k * 128, none⟩)) ?_ rfl (by simpa using hj)
        simp [execOp, evalF, hp, go_sem, hkn2]
      · -- 6: slot 22 := Op.load 86 t21
        refine obM_yes fun f bb w' hj hs hd hp => ?_
        simp [PreO, factO, valOf, Region.binds] at hp hd
        refine ⟨by simp [Gd, valOf, hp], ?_⟩
        have hl := run_loadVar_cells w' ⟨hb, k * 128, none⟩ 86 (b8s bk.1) (fun j v hv => (hj.1.cell (by rw [add_block]; exact hbl)).trans (Hld.out j v hv)) Try.underlying86 rfl (by rw [blk_len]; kernel_rfl)
        refine mildM_val (.agg (b8s bk.1).toArray) ?_ rfl (by simpa using hj)
        simp only [execOp, evalF, List.contains_eq_mem, Instr.loadAt, Instr.sureAddr, Sem.run_bind, Sem.run_pure, Result.andThen_ok]
        simp [hp, hl]
      · -- 7: slot 7 := Op.alloc 86
        refine obM_yes fun f bb w' hj hs hd hp => ?_
        simp [PreO, factO, valOf, Region.binds] at hp hd
        refine ⟨by simp [Gd, valOf, hp], ?_⟩
        have hw' := hj.2.1 hs
        subst hw'
        refine mildM_val (.pointer (some ⟨w0.heap.size, 0, none⟩)) (w' := w0.drew.alloc (.cells zeroBc.toArray 86)) ?_ trivial ?_
        · simp only [execOp]
          simp [evalF, hp, run_alloc_z w0.drew _ info_block zeroBc rfl]
        · exact ⟨(Below.refl _ w0).drew.alloc (Nat.le_refl _) _, by simp, fun _ => ⟨rfl, by simp⟩⟩
    · intro f bb wd hall hj hp
      simp only [PostO] at hp
      obtain ⟨e0, e1, e2, e3, e4, e5, e6, _, _⟩ := hp
      simp only [fills, List.foldl_cons, List.foldl_nil, Act.put, List.setIfInBounds_toArray, List.set_cons_zero, List.set_cons_succ, e0, e1, e2, e3, e4, e5, e6]
      clear e0 e1 e2 e3 e4 e5 e6
      simp only [List.drop_succ_cons, List.drop_zero]
      obtain ⟨hjw, hj7⟩ := hj.2.2 (hall 7 (by decide))
      simp only [valOf, List.getElem?_cons_succ, List.getElem?_cons_zero] at hj7
      have hj7' : f 7 = .pointer (some ⟨w0.heap.size, 0, none⟩) := by simpa using hj7
      rw [hj7']
      subst hjw
      clear hall hj hj7 hj7'
      refine wpList_store_new rfl 86 (.tmp 7) (.tmp 22) rfl zeroBc (b8s bk.1) rfl rfl (by rw [blk_len]; kernel_rfl) (by rw [blk_len]; rfl) (b8s_one _) ?_
      have j1 := (H1.out.below_x (Below.refl _ w0).drew).alloc (.cells (b8s bk.1).toArray 86)
      have j7 := BoxAt.new_ 86 w0.drew (b8s bk.1)
      have jx := (Hx0.out.below_x (Below.refl _ w0).drew).alloc (.cells (b8s bk.1).toArray 86)
      have jb : Below w0.heap.size w0 (w0.drew.alloc (.cells (b8s bk.1).toArray 86)) := (Below.refl _ w0).drew.alloc (Nat.le_refl _) (.cells (b8s bk.1).toArray 86)
      have jr := Hrw.out.below jb
      have jb0 := Hb0.out.trans (jb.mono (by omega))
      have jz : w0.heap.size < (w0.drew.alloc (.cells (b8s bk.1).toArray 86)).heap.size := by simp
      have hsz : w0.drew.heap.size = w0.heap.size := rfl
      rw [hsz] at j7
      have hd1 := j1.cell 1 _ rfl
      have J1 := Lib.hid j1
      have J7 := Lib.hid j7
      have Jx := Lib.hid jx
      have Jr := Lib.hid jr
      have Jb0 := Lib.hid jb0
      have Jb := Lib.hid jb
      clear j1 j7 jx jr jb jb0 hsz hc0 h1 H1 Hx0 Hrw H0 Hld h4 h5
      generalize (w0.drew.alloc (.cells (b8s bk.1).toArray 86)) = w1 at *
      generalize w0.heap.size = g7 at *
      simp only [Act.put]
      go_wp2_with fail
      gi_wp2_with (refine ⟨trivial, ?_⟩; gi_at_call 43; refine (backw_in Fence.wide 3 trivial rfl _ _ _ _).mono ?_; rintro e w' ⟨rfl, rfl⟩)
      have k0 := BoxAt.new_ 82 w1 [.slice A d.wt.length c]
      have k7 := J7.out.alloc (.cells #[.slice A d.wt.length c] 82)
      have kx := Jx.out.alloc (.cells #[.slice A d.wt.length c] 82)
      have kb := balloc w1 (.cells #[.slice A d.wt.length c] 82)
      have kr := Jr.out.below (kb.mono (by omega))
      have kb0 := Jb0.out.trans (kb.mono (by omega))
      have kz : w1.heap.size < (w1.alloc (.cells #[.slice A d.wt.length c] 82)).heap.size := by simp
      have hcN := k0.cell 0 _ rfl
      have K7 := Lib.hid k7
      have Kx := Lib.hid kx
      have Kr := Lib.hid kr
      have Kb0 := Lib.hid kb0
      clear k0 k7 kx kb kr kb0 J1 J7 Jx Jr Jb0 Jb hd1
      generalize (w1.alloc (.cells #[.slice A d.wt.length c] 82)) = w2 at *
      generalize w1.heap.size = g1 at *
      refine wpIn_rangeFunc_ownH rfl (by omega) (gf := 70) (lb := #[.pointer (some ⟨g1, 0, none⟩)]) rfl trivial (enters_of Try.func70 (by kernel_rfl) rfl)
        (backw_stops Fence.wide 3 trivial rfl (by omega) g1 g7 (fun q => q = g7) A c d.wt hwl2 w2 (by omega) (by omega) (by rintro q rfl; omega) (by rintro q rfl; omega) (by omega) hcN Kr.out) Kp.trans (fun W l o o' h1 h2 h3 h4 => Kp.putObj _ w2.heap.size W l o o' h1 h2 h3 h4) (Below.refl _ _) (fun _ => rfl)
        (fun pre W => ((∀ p ∈ pre, p.2.1 ≠ k) ∧ BoxAt 86 W g7 (b8s bk.1) ∧ BoxAt 3 W w.heap.size [.int .i64 (k : Int)] ∧ w2.heap.size ≤ W.heap.size) ∧ Below w.heap.size w W)
        (fun cd pre W => (cd = .exit 0 ∧ ∃ ini last, pre = ini ++ [last] ∧ (∀ p ∈ ini, p.2.1 ≠ k) ∧ last.2.1 = k ∧ BoxAt 86 W g7 (b8s last.2.2.1)) ∧ Below w.heap.size w W)
        (OwnFrom.and (Own.from (fun s X Y row hs hg hr => ⟨hs.1, hs.2.1.ownk hg hr, hs.2.2.1.ownk hg hr, Nat.le_trans hs.2.2.2 hg.size⟩) _) (ownFrom_below (Nat.le_refl _) (by omega)))
        (fun cd => OwnFrom.and (Own.from (fun s X Y row hs hg hr => by obtain ⟨e0, ini, last, e1, e2, e3, e4⟩ := hs; exact ⟨e0, ini, last, e1, e2, e3, e4.ownk hg hr⟩) _) (ownFrom_below (Nat.le_refl _) (by omega)))
        ⟨⟨by simp, K7.out, Kx.out, Nat.le_refl _⟩, Kb0.out⟩
        (fun p a' W => ∃ Bx, w2.heap.size ≤ Bx ∧ BoxAt 88 W Bx (encW p.2) ∧ a' = Act.mk #[.pointer (some ⟨g, 0, none⟩), .int .i64 (k : Int), undef, .pointer (some ⟨w.heap.size, 0, none⟩), .slice none 0 0, .int .i64 0, .int .i64 0, .pointer (some ⟨g7, 0, none⟩), undef, .pointer (some ⟨Bx, 0, none⟩),
          .pointer (some ⟨g, 0, none⟩), .int .i64 (k : Int), .int .i64 0, .int .i64 0, .bool false, undef, .pointer (some ⟨g, 0, none⟩), .pointer (some ⟨g, 0, none⟩), .pointer (some ⟨g, 0, none⟩), .slice (some ⟨hb, 0, none⟩) nb nb, .int .i64 (k : Int), .pointer (some ⟨hb, k * 128, none⟩), .agg (b8s bk.1).toArray,
          .pointer (some ⟨g, 0, none⟩), .pointer (some ⟨g, 0, none⟩), .pointer (some ⟨g, 1, none⟩), .slice A d.wt.length c, .func (.func 70) #[] #[.pointer (some ⟨g1, 0, none⟩)], .int .i64 (p.1 : Int), .agg (encW p.2).toArray, undef, undef, undef, undef, undef, undef, undef] [])
        (fun p a' _ X Y row hs hg hr => by obtain ⟨Bx, h1, h2, h3⟩ := hs; exact ⟨Bx, h1, h2.ownk hg (fun r e => (hr r e).2), h3⟩)
        ?assign ?body ?done ?stop
      case assign =>
        rintro lq pre p W K ⟨⟨i1, i2, i3, i4⟩, hBW⟩ hK
        simp only [encB, List.zip_toArray, List.zip_cons_cons, List.zip_nil_left, List.zip_nil_right, List.foldl_toArray', List.foldl_toArray, List.foldl_cons, List.foldl_nil, List.setIfInBounds_toArray, List.set_cons_succ, List.set_cons_zero]
        refine wpIn_region_lit ?_
        refine wpListIn_alloc_z rfl 88 rfl info_write zeroWc zeroW_cells ?_
        refine wpListIn_store_new rfl 88 (.tmp 9) (.tmp 29) rfl zeroWc (encW p.2) rfl rfl (by rw [encW_len]; kernel_rfl) (by rw [encW_len]; rfl) (encW_one p.2) ?_
        gi_wp2
        exact hK _ _ ((KeepsOthers.alloc _ _).from _) (Kp.alloc _ _ _) ⟨⟨i1, i2.alloc _, i3.alloc _, by simp; omega⟩, hBW.alloc hBW.size _⟩ ⟨W.heap.size, i4, BoxAt.new_ 88 W _, rfl⟩
      case body =>
        rintro lq pre p a' W hlq hr0 ⟨⟨i1, i2, i3, i4⟩, hBW⟩ ⟨Bx, hBx, bX, rfl⟩ hlt
        have hp0 := bX.cell 0 (.int .i64 (p.2.1 : Int)) rfl
        have hk0 := i3.cell 0 _ rfl
        have hld := encW_at bX
        by_cases he : p.2.1 = k
        · have hd1 : ((p.2.1 : Int) == (k : Int)) = true := by rw [he]; simp
          have hd2 : (p.2.1 == k) = true := by rw [he]; simp
          have He := Lib.hid he
          have Hld := Lib.hid hld
          clear he hld
          gi_wp2_with (first
            | (refine wpListIn_load_agg rfl 86 (.tmp 34) rfl ⟨Bx, 1, none⟩ rfl (b8s p.2.2.1) Hld.out Try.underlying86 rfl (by rw [blk_len]; kernel_rfl) ?_)
            | (refine wpListIn_store_box rfl 86 86 (.tmp 7) (.tmp 35) rfl g7 (b8s bk.1) (b8s p.2.2.1) rfl rfl i2 (by rw [blk_len, blk_len]) (b8s_one _) (by rw [blk_len]; kernel_rfl) ?_; intro hbx))
          exact ⟨KeepsFrom.of_grownBy (gsetRow' W g7 _) (fun j e => by injection e with e; omega), ⟨rfl, pre, p, rfl, i1, He.out, hbx⟩, hBW.grown (gsetRow' W g7 _) hBW.size (fun j e => by injection e with e; omega)⟩
        · have hd1 : ((p.2.1 : Int) == (k : Int)) = false := beq_eq_false_iff_ne.2 (by omega)
          have hd2 : (p.2.1 == k) = false := beq_eq_false_iff_ne.2 he
          have He := Lib.hid he
          clear he hld
          gi_wp2
          exact ⟨KeepsFrom.refl _ _, Kp.refl _ _, ⟨fun q hq => by
            rw [List.mem_append, List.mem_singleton] at hq
            rcases hq with hq | rfl
            · exact i1 q hq
            · exact He.out, i2, i3, i4⟩, hBW⟩
      case done =>
        rintro D ys W hD rfl ⟨⟨i1, i2, i3, i4⟩, hBW⟩ hK
        have hno := upto_backP_ne i1
        have hlw := lastW_none d.wt k bk hno
        rw [← Hrb.out] at hlw
        have Hlw := Lib.hid hlw
        have I2 := Lib.hid i2
        have HB := Lib.hid hBW
        clear hno hlw i1 i2 i3 hBW
        gi_wp2
        refine ⟨by simp, .inl ⟨_, _, rfl, run_takeDeferred hK, ?_⟩⟩
        refine ⟨_, results_tmp2 rfl _ _ _, _, rfl, ?_, HB.out.trans (belowK_b (w := w) (Nat.le_refl _) W D _ _ (by omega) hK rfl rfl)⟩
        have := I2.out.ownk (grownBy_putObj' W D (.deferred none)) (fun r e => by cases e; exact ⟨_, hK, rfl⟩)
        rw [Hlw.out]
        exact .inr ⟨g7, 128, _, _, by rw [bk.2]; rfl, by rw [bk.2]; decide, by simp [maxLen], by omega, this, fun j u hu => hu⟩
      case stop =>
        rintro D cd pre W hD ⟨m, hm, rfl⟩ ⟨⟨rfl, ini, last, e1, e2, e3, i2⟩, hBW⟩ hK
        obtain ⟨m', rfl⟩ : ∃ m', m = m' + 1 := by
          cases m with
          | zero => simp [upto] at e1
          | succ m' => exact ⟨m', rfl⟩
        rw [upto_succ] at e1
        obtain ⟨rfl, e5⟩ := List.append_inj' e1 rfl
        obtain rfl : backP d.wt m' = last := by simpa using e5
        have hq : d.wt.length - 1 - m' < d.wt.length := by omega
        have hbp := backP_at d.wt (d.wt.length - 1 - m') m' hq (by omega)
        rw [hbp] at e3 i2
        have hlw := lastW_at d.wt k _ hq e3 (fun j hj hlt => upto_backP_lt (by omega) e2 j hj (by omega)) bk
        rw [← Hrb.out] at hlw
        have Hlw := Lib.hid hlw
        have I2 := Lib.hid i2
        have HB := Lib.hid hBW
        clear hlw i2 hBW e1 e2 e3 e5 hbp
        gi_wp2
        refine ⟨by simp, .inl ⟨_, _, rfl, run_takeDeferred hK, ?_⟩⟩
        refine ⟨_, results_tmp2 rfl _ _ _, _, rfl, ?_, HB.out.trans (belowK_b (w := w) (Nat.le_refl _) W D _ _ (by omega) hK rfl rfl)⟩
        have := I2.out.ownk (grownBy_putObj' W D (.deferred none)) (fun r e => by cases e; exact ⟨_, hK, rfl⟩)
        have hl8 := (d.wt[d.wt.length - 1 - m']).2.2
        rw [Hlw.out]
        exact .inr ⟨g7, 128, _, _, by rw [hl8]; rfl, by rw [hl8]; decide, by simp [maxLen], by omega, this, fun j u hu => hu⟩
end Go.Proofs.Ytpoicbhbkabllaa
