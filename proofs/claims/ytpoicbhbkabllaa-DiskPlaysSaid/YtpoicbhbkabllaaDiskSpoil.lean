/- (*disk.Disk).Spoil, disk.New (printed by wip/gen/dspoil.py) -/
import Derived.Test.YtpoicbhbkabllaaDiskBack
namespace Go.Proofs.Ytpoicbhbkabllaa
set_option linter.unusedSimpArgs false
set_option linter.unusedVariables false
open Go.RowKit

set_option maxRecDepth 100000 in
set_option maxHeartbeats 3200000 in
theorem dspoil_any (w : World) (S : Nat → Prop) (g : Nat) (d : DState) (i at_ : Int) (c : UInt8) (h : DiskAt w S g d) :
    Calls Try.prog 27 #[.pointer (some ⟨g, 0, none⟩), .int .i64 i, .int .i64 at_, .int .u8 (c.toNat : Int)] w fun e w' => e = .returned (.int .i64 (spoilE d i at_)) ∧ DPost w S g (spoilD d i at_ c) w' := by
  have H3 := Lib.hid h
  have hth := dthere_any w S g d i h
  unfold spoilD spoilE
  by_cases hok : 0 ≤ i ∧ i < (d.bl.length : Int) ∧ 0 ≤ at_ ∧ at_ < 128
  · rw [if_pos hok, if_neg (by simp)]
    obtain ⟨k, rfl⟩ : ∃ k : Nat, i = (k : Int) := ⟨i.toNat, by omega⟩
    obtain ⟨m, rfl⟩ : ∃ m : Nat, at_ = (m : Int) := ⟨at_.toNat, by omega⟩
    obtain ⟨hk0, hk1, hm0, hm1⟩ := hok
    rw [decide_eq_true hk0, decide_eq_true hk1] at hth
    have hkn : k < d.bl.length := by omega
    have hm128 : m < 128 := by omega
    have hd1 : decide ((m : Int) < 0) = false := decide_eq_false (by omega)
    have hd2 : decide (128 ≤ (m : Int)) = false := decide_eq_false (by omega)
    have Hth := Lib.hid hth
    rw [Int.toNat_natCast, Int.toNat_natCast]
    clear hth hk0 hk1 hm0 hm1 h
    go_enter Try.func27, Try.ntmps27
    go_wp2_with fail
    refine Hth.out.mono ?_
    rintro _ _ ⟨rfl, rfl⟩
    go_wp2_with fail
    obtain ⟨hb, vw, h1, h2, h3, h4, h5, h6⟩ := H3.out.ex
    have hgd : d.bl.getD k zeroB = d.bl[k] := by rw [List.getD_eq_getElem?_getD, List.getElem?_eq_getElem hkn]; rfl
    have hml : m < (d.bl[k]).1.length := by rw [(d.bl[k]).2]; exact hm128
    have hgy : (d.bl[k]).1.getD m 0 = (d.bl[k]).1[m] := by rw [List.getD_eq_getElem?_getD, List.getElem?_eq_getElem hml]; rfl
    obtain ⟨y, hy⟩ : ∃ y, y = (d.bl[k]).1[m] := ⟨_, rfl⟩
    have hcy : w.cell? ⟨hb, k * 128 + m, none⟩ = some (.int .u8 (y.toNat : Int)) := by
      refine h2.cell _ _ ?_
      rw [flatB_at _ _ _ hkn hm128, b8s_opt, List.getElem?_eq_getElem hml, hy]; rfl
    have hxor : bits .xor .u8 (y.toNat : Int) (c.toNat : Int) = ((y ^^^ c).toNat : Int) := xor_u8 y c
    have hps := flatB_puts d.bl k m [y ^^^ c] hkn (by simp; omega)
    have hfr := h2.frozen (k * 128 + m)
    have hfin := h2.put (k * 128 + m) (.int .u8 ((y ^^^ c).toNat : Int))
    have hps2 : (flatB d.bl).set (k * 128 + m) (.int .u8 ((y ^^^ c).toNat : Int)) = flatB (d.bl.set k (over d.bl[k] m [y ^^^ c])) := hps
    rw [hps2] at hfin
    rw [UInt8.toNat_xor] at hfin
    have Hfin := Lib.hid hfin
    have Hgd := Lib.hid hgd
    have Hgy := Lib.hid hgy
    have Hy := Lib.hid hy
    have H1 := Lib.hid h1
    have H32 := Lib.hid h3
    have H6 := Lib.hid h6
    clear hgd hgy hy hps hps2 hfin h3 h6
    obtain ⟨nb, hnb⟩ : ∃ nb, nb = d.bl.length := ⟨_, rfl⟩
    rw [← hnb] at h1
    have hkn2 : k < nb := by omega
    have hmi : ¬ 128 ≤ (m : Int) := by omega
    have Hnb := Lib.hid hnb.symm
    clear hnb
    refine wp_region_mixL (ds := [21, 22, 23, 24, 25, 26, 27, 28, 29, 30, 31, 32, 33]) 13 (fun _ _ W' => W' = w.drew) [some 21, some 22, some 23, some 24, some 25, some 26, some 27, some 28, some 29, some 30, some 31, some 32, some 33]
      [fun v => v = .pointer (some ⟨g, 0, none⟩), fun v => v = .pointer (some ⟨g, 0, none⟩), fun v => v = .pointer (some ⟨g, 0, none⟩), fun v => v = .slice (some ⟨hb, 0, none⟩) nb nb, fun v => v = .int .i64 (k : Int), fun v => v = .int .i64 (m : Int), fun v => v = .pointer (some ⟨hb, k * 128, none⟩), fun v => v = .pointer (some ⟨hb, k * 128 + m, none⟩), fun v => v = .int .u8 (y.toNat : Int), fun v => v = .int .u8 (c.toNat : Int), fun v => v = .int .u8 ((y ^^^ c).toNat : Int), fun v => v = .pointer (some ⟨hb, k * 128, none⟩), fun v => v = .pointer (some ⟨hb, k * 128 + m, none⟩)]
      rfl rfl rfl (by kernel_rfl) (by kernel_rfl) ?_ (fun _ => rfl) ?_
    · refine ⟨?_, ?_, ?_, ?_, ?_, ?_, ?_, ?_, ?_, ?_, ?_, ?_, ?_, trivial⟩
      · -- 0: slot 21 := Op.move t0
        refine obM_yes fun f bb w' hj hs hd hp => ?_
        simp [PreO, factO, valOf, Region.binds] at hp
        have hj' : w' = w.drew := hj
        subst hj'
        refine ⟨by simp [Gd, valOf, hp], ?_⟩
        refine mildM_val (.pointer (some ⟨g, 0, none⟩)) ?_ rfl rfl
        simp [execOp, evalF, hp, go_sem]
      · -- 1: slot 22 := Op.nilCheck t21
        refine obM_yes fun f bb w' hj hs hd hp => ?_
        simp [PreO, factO, valOf, Region.binds] at hp
        have hj' : w' = w.drew := hj
        subst hj'
        refine ⟨by simp [Gd, valOf, hp], ?_⟩
        refine mildM_val (.pointer (some ⟨g, 0, none⟩)) ?_ rfl rfl
        simp [execOp, evalF, hp, go_sem]
      · -- 2: slot 23 := Op.fieldAddr 84 t22 0
        refine obM_yes fun f bb w' hj hs hd hp => ?_
        simp [PreO, factO, valOf, Region.binds] at hp
        have hj' : w' = w.drew := hj
        subst hj'
        refine ⟨by simp [Gd, valOf, hp], ?_⟩
        refine mildM_val (.pointer (some ⟨g, 0, none⟩)) ?_ rfl rfl
        simp [execOp, evalF, hp, go_sem]
      · -- 3: slot 24 := Op.load 81 t23
        refine obM_yes fun f bb w' hj hs hd hp => ?_
        simp [PreO, factO, valOf, Region.binds] at hp
        have hj' : w' = w.drew := hj
        subst hj'
        refine ⟨by simp [Gd, valOf, hp], ?_⟩
        have hc := h1.cell 0 _ rfl
        refine mildM_val (.slice (some ⟨hb, 0, none⟩) nb nb) ?_ rfl rfl
        simp [execOp, evalF, hp, go_sem, hc]
      · -- 4: slot 25 := Op.move t1
        refine obM_yes fun f bb w' hj hs hd hp => ?_
        simp [PreO, factO, valOf, Region.binds] at hp
        have hj' : w' = w.drew := hj
        subst hj'
        refine ⟨by simp [Gd, valOf, hp], ?_⟩
        refine mildM_val (.int .i64 (k : Int)) ?_ rfl rfl
        simp [execOp, evalF, hp, go_sem]
      · -- 5: slot 26 := Op.move t2
        refine obM_yes fun f bb w' hj hs hd hp => ?_
        simp [PreO, factO, valOf, Region.binds] at hp
        have hj' : w' = w.drew := hj
        subst hj'
        refine ⟨by simp [Gd, valOf, hp], ?_⟩
        refine mildM_val (.int .i64 (m : Int)) ?_ rfl rfl
        simp [execOp, evalF, hp, go_sem]
      · -- 6: slot 27 := Op.indexAddr 81 t24 t25
        refine obM_yes fun f bb w' hj hs hd hp => ?_
        simp [PreO, factO, valOf, Region.binds] at hp
        have hj' : w' = w.drew := hj
        subst hj'
        refine ⟨by simp [Gd, valOf, hp], ?_⟩
        refine mildM_val (.pointer (some ⟨hb, k * 128, none⟩)) ?_ rfl rfl
        simp [execOp, evalF, hp, go_sem, hkn2]
      · -- 7: slot 28 := Op.indexAddr 86 t27 t26
        refine obM_yes fun f bb w' hj hs hd hp => ?_
        simp [PreO, factO, valOf, Region.binds] at hp
        have hj' : w' = w.drew := hj
        subst hj'
        refine ⟨by simp [Gd, valOf, hp], ?_⟩
        refine mildM_val (.pointer (some ⟨hb, k * 128 + m, none⟩)) ?_ rfl rfl
        simp [execOp, evalF, hp, go_sem, hm128, hmi, Try.underlying86]
      · -- 8: slot 29 := Op.load 5 t28
        refine obM_yes fun f bb w' hj hs hd hp => ?_
        simp [PreO, factO, valOf, Region.binds] at hp
        have hj' : w' = w.drew := hj
        subst hj'
        refine ⟨by simp [Gd, valOf, hp], ?_⟩
        refine mildM_val (.int .u8 (y.toNat : Int)) ?_ rfl rfl
        simp [execOp, evalF, hp, go_sem, hcy]
      · -- 9: slot 30 := Op.move t3
        refine obM_yes fun f bb w' hj hs hd hp => ?_
        simp [PreO, factO, valOf, Region.binds] at hp
        have hj' : w' = w.drew := hj
        subst hj'
        refine ⟨by simp [Gd, valOf, hp], ?_⟩
        refine mildM_val (.int .u8 (c.toNat : Int)) ?_ rfl rfl
        simp [execOp, evalF, hp, go_sem]
      · -- 10: slot 31 := Op.binOp BinOp.xor 5 t29 t30 5
        refine obM_yes fun f bb w' hj hs hd hp => ?_
        simp [PreO, factO, valOf, Region.binds] at hp
        have hj' : w' = w.drew := hj
        subst hj'
        refine ⟨by simp [Gd, valOf, hp], ?_⟩
        refine mildM_val (.int .u8 ((y ^^^ c).toNat : Int)) ?_ rfl rfl
        simp [execOp, evalF, hp, go_sem, hxor]
      · -- 11: slot 32 := Op.indexAddr 81 t24 t25
        refine obM_yes fun f bb w' hj hs hd hp => ?_
        simp [PreO, factO, valOf, Region.binds] at hp
        have hj' : w' = w.drew := hj
        subst hj'
        refine ⟨by simp [Gd, valOf, hp], ?_⟩
        refine mildM_val (.pointer (some ⟨hb, k * 128, none⟩)) ?_ rfl rfl
        simp [execOp, evalF, hp, go_sem, hkn2]
      · -- 12: slot 33 := Op.indexAddr 86 t32 t26
        refine obM_yes fun f bb w' hj hs hd hp => ?_
        simp [PreO, factO, valOf, Region.binds] at hp
        have hj' : w' = w.drew := hj
        subst hj'
        refine ⟨by simp [Gd, valOf, hp], ?_⟩
        refine mildM_val (.pointer (some ⟨hb, k * 128 + m, none⟩)) ?_ rfl rfl
        simp [execOp, evalF, hp, go_sem, hm128, hmi, Try.underlying86]
    · intro f bb wd hall hj hp
      have hj' : wd = w.drew := hj
      subst hj'
      clear hall hj
      simp only [PostO] at hp
      obtain ⟨e0, e1, e2, e3, e4, e5, e6, e7, e8, e9, e10, e11, e12, _⟩ := hp
      simp only [fills, List.foldl_cons, List.foldl_nil, Act.put, List.setIfInBounds_toArray, List.set_cons_zero, List.set_cons_succ, e0, e1, e2, e3, e4, e5, e6, e7, e8, e9, e10, e11, e12]
      clear e0 e1 e2 e3 e4 e5 e6 e7 e8 e9 e10 e11 e12
      simp only [List.drop_succ_cons, List.drop_zero]
      go_wp2_with fail
      go_ret
      rw [← Hy.out]
      have hset := (Chg.refl S w).trans (Chg.set w ⟨hb, k * 128 + m, none⟩ (.int .u8 ((y.toNat ^^^ c.toNat : Nat) : Int)) h5)
      refine ⟨rfl, S, ?_, fun q hq => .inl hq, hset.drew_⟩
      have hlen : ∀ b : Blk, (d.bl.set k b).length = nb := fun b => by rw [List.length_set]; exact Hnb.out
      have H1' := H1.out
      rw [Hnb.out] at H1'
      have i1 : BoxAt 84 (w.setCell ⟨hb, k * 128 + m, none⟩ (.int .u8 ((y.toNat ^^^ c.toNat : Nat) : Int))).drew g [.slice (some ⟨hb, 0, none⟩) nb nb, vw, .bool d.off, .int .i64 d.fuse] := BoxAt.other (w := w) H1' ⟨hb, k * 128 + m, none⟩ _ h4
      have i2 : BoxAt 86 (w.setCell ⟨hb, k * 128 + m, none⟩ (.int .u8 ((y.toNat ^^^ c.toNat : Nat) : Int))).drew hb (flatB (d.bl.set k (over d.bl[k] m [y ^^^ c]))) := Hfin.out
      have i3 : OwnF 88 cWt (w.setCell ⟨hb, k * 128 + m, none⟩ (.int .u8 ((y.toNat ^^^ c.toNat : Nat) : Int))).drew 0 vw d.wt := H32.out.kept fun q hq => Below.heap_setCell w ⟨hb, k * 128 + m, none⟩ _ q (fun e => (H6.out q hq).2.1 e)
      refine ⟨⟨hb, vw, by rw [hlen]; exact i1, i2, i3, h4, h5, H6.out⟩, H3.out.here, fun q hq => by have := H3.out.lt q hq; simpa [World.setCell] using this, fun x hx => ?_, ?_, ?_, H3.out.fuseR⟩
      · have := H3.out.wts x hx
        show x.1 < (d.bl.set k _).length
        rw [List.length_set]; exact this
      · show 0 < (d.bl.set k _).length
        rw [List.length_set]; exact H3.out.pos
      · show (d.bl.set k _).length ≤ 65536
        rw [List.length_set]; exact H3.out.few
  · rw [if_neg hok, if_pos (by simp)]
    by_cases hi : 0 ≤ i ∧ i < (d.bl.length : Int)
    · rw [decide_eq_true hi.1, decide_eq_true hi.2] at hth
      have Hth := Lib.hid hth
      by_cases ha : at_ < 0
      · have hd1 : decide (at_ < 0) = true := decide_eq_true ha
        clear hth ha hok hi h
        go_enter Try.func27, Try.ntmps27
        go_wp2_with fail
        refine Hth.out.mono ?_
        rintro _ _ ⟨rfl, rfl⟩
        go_wp2_with fail
        go_ret
        exact ⟨rfl, DPost.id_ H3.out⟩
      · have hd1 : decide (at_ < 0) = false := decide_eq_false ha
        have hd2 : decide (128 ≤ at_) = true := decide_eq_true (by omega)
        clear hth ha hok hi h
        go_enter Try.func27, Try.ntmps27
        go_wp2_with fail
        refine Hth.out.mono ?_
        rintro _ _ ⟨rfl, rfl⟩
        go_wp2_with fail
        go_ret
        exact ⟨rfl, DPost.id_ H3.out⟩
    · have e : (decide (0 ≤ i) && decide (i < (d.bl.length : Int))) = false := by simp only [Bool.and_eq_false_iff, decide_eq_false_iff_not]; omega
      rw [e] at hth
      have Hth := Lib.hid hth
      clear hth hok hi h e
      go_enter Try.func27, Try.ntmps27
      go_wp2_with fail
      refine Hth.out.mono ?_
      rintro _ _ ⟨rfl, rfl⟩
      go_wp2_with fail
      go_ret
      exact ⟨rfl, DPost.id_ H3.out⟩

def newD (n : Nat) : DState := { bl := List.replicate n zeroB, wt := [], off := false, fuse := -1 }
theorem flatB_new (n : Nat) : flatB (List.replicate n zeroB) = List.replicate (n * 128) (.int .u8 0) := by
  apply List.ext_getElem?
  intro k
  by_cases hk : k < n * 128
  · obtain ⟨q, r, hr, rfl⟩ : ∃ q r, r < 128 ∧ k = q * 128 + r := ⟨k / 128, k % 128, Nat.mod_lt _ (by decide), by omega⟩
    rw [flatB_at _ q r (by simp; omega) hr, List.getElem_replicate, b8s_opt, List.getElem?_replicate, if_pos hk]
    show ((List.replicate 128 (0 : UInt8))[r]?).map b8 = _
    rw [List.getElem?_replicate, if_pos hr]; rfl
  · rw [List.getElem?_eq_none (by rw [flatB_len]; simp; omega), List.getElem?_eq_none (by simp; omega)]
theorem made_rep (m n : Nat) (hm : 0 < m) (v : Value) : madeCells (List.replicate m v).toArray n = (List.replicate n v).toArray := by
  apply Array.ext
  · simp [madeCells]
  · intro i h1 h2
    simp only [madeCells, List.size_toArray, List.length_replicate, Array.getElem_map, Array.getElem_range, List.getElem_toArray, List.getElem_replicate]
    have : i % m < m := Nat.mod_lt i hm
    rw [getElem!_pos _ _ (by simpa using this)]
    simp
def zeroBv : Value := .agg (List.replicate 128 (.int .u8 0)).toArray
theorem info_block : (Try.prog.info? 86).map (fun i => (i.zero, i.size, i.bytes)) = some (some zeroBv, 128, 128) := by kernel_rfl
theorem make_blocks (n : Nat) (hn : n ≤ 65536) : ∀ w : World, (Instr.makeSlice 81 (.int .i64 (n : Int)) (.int .i64 (n : Int))).run Try.prog w = .ok (.slice (some ⟨w.heap.size, 0, none⟩) n n) (w.alloc (.cells (flatB (List.replicate n zeroB)).toArray 86)) := fun w => by
  obtain ⟨i, hi, hz0, hz1, hz2⟩ := info_parts info_block
  have hr := run_make (P := Try.prog) w 81 86 i zeroBv Try.underlying81 hi hz0 .i64 .i64 (n : Int) (n : Int) (by omega) (by omega) (by rw [hz2]; omega) (by omega)
  have e : madeCells zeroBv.cells (n * 128) = (flatB (List.replicate n zeroB)).toArray := by
    rw [flatB_new]
    exact made_rep 128 (n * 128) (by decide) _
  rw [Int.toNat_natCast, hz1, e] at hr
  exact hr
set_option maxRecDepth 100000 in
set_option maxHeartbeats 3200000 in
theorem dnew_no (w : World) (n : Int) (hn : n < 1 ∨ 65536 < n) :
    Calls Try.prog 13 #[.int .i64 n] w fun e w' => e = .returned (.tuple #[.pointer none, .int .i64 1]) ∧ w = w' := by
  by_cases h1 : n < 1
  · have hd : decide (n < 1) = true := decide_eq_true h1
    clear hn h1
    go_enter Try.func13, Try.ntmps13
    go_wp2_with fail
    go_ret2
    exact ⟨rfl, rfl⟩
  · have hd : decide (n < 1) = false := decide_eq_false h1
    have hd2 : decide (65536 < n) = true := decide_eq_true (by omega)
    clear hn h1
    go_enter Try.func13, Try.ntmps13
    go_wp2_with fail
    go_ret2
    exact ⟨rfl, rfl⟩
set_option maxRecDepth 100000 in
set_option maxHeartbeats 3200000 in
theorem dnew_any (w : World) (n : Nat) (h1 : 1 ≤ n) (h2 : n ≤ 65536) :
    Calls Try.prog 13 #[.int .i64 (n : Int)] w fun e w' => ∃ g S, e = .returned (.tuple #[.pointer (some ⟨g, 0, none⟩), .int .i64 0]) ∧ DiskAt w' S g (newD n) ∧ (∀ k, S k → w.heap.size ≤ k) ∧ Below w.heap.size w w' := by
  have hd : decide ((n : Int) < 1) = false := decide_eq_false (by omega)
  have hd2 : decide (65536 < (n : Int)) = false := decide_eq_false (by omega)
  have Hd := Lib.hid h1
  have H2 := Lib.hid h2
  have hmk := make_blocks n h2
  have hlB : (newD n).bl.length = n := by simp [newD]
  have HlB := Lib.hid hlB
  clear h1 h2 hlB
  generalize hfb : flatB (List.replicate n zeroB) = cs at *
  have Hfb := Lib.hid hfb
  clear hfb
  go_enter Try.func13, Try.ntmps13
  go_wp2_with fail
  go_ret2
  refine ⟨w.heap.size + 1, fun k => k = w.heap.size ∨ k = w.heap.size + 1, rfl, ?_, fun k hk => by rcases hk with rfl | rfl <;> omega, ((Below.refl _ _).alloc (Nat.le_refl _) _).alloc (by simp) _⟩
  have b1 : BoxAt 86 ((w.alloc (.cells cs.toArray 86)).alloc (.cells #[.slice (some ⟨w.heap.size, 0, none⟩) n n, .slice none 0 0, .bool false, .int .i64 (-1)] 84)) w.heap.size (flatB (newD n).bl) := by
    have : flatB (newD n).bl = cs := Hfb.out
    rw [this]
    exact (BoxAt.new_ _ w cs).alloc _
  have b2 := BoxAt.new_ 84 (w.alloc (.cells cs.toArray 86)) [.slice (some ⟨w.heap.size, 0, none⟩) n n, .slice none 0 0, .bool false, .int .i64 (-1)]
  have hsz : (w.alloc (.cells cs.toArray 86)).heap.size = w.heap.size + 1 := by simp
  rw [hsz] at b2
  have h1 := Hd.out
  have h2 := H2.out
  refine ⟨⟨w.heap.size, .slice none 0 0, by rw [HlB.out]; exact b2, b1, OwnF.nil_ _ _, by omega, .inl rfl, fun q hq => by simp [Value.ownBlock] at hq⟩, .inr rfl, fun k hk => by simp; rcases hk with rfl | rfl <;> omega, fun x hx => by simp [newD] at hx, by rw [HlB.out]; omega, by rw [HlB.out]; omega, ⟨(by decide : (-9223372036854775808 : Int) ≤ -1), (by decide : (-1 : Int) ≤ 9223372036854775807)⟩⟩
end Go.Proofs.Ytpoicbhbkabllaa
