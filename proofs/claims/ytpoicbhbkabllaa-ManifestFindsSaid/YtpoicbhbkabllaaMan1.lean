/- palmerref09: among, Great (printed by wip/gen/man1.py) -/
import Derived.Test.YtpoicbhbkabllaaManPure
import Derived.Test.YtpoicbhbkabllaaTail
import Derived.Deep.Cut
namespace Go.Proofs.Ytpoicbhbkabllaa
set_option linter.unusedSimpArgs false
set_option linter.unusedVariables false
open Go.RowKit

theorem add_mid' (a : Addr) (j : Nat) (hj : j ≠ 0) : a.add j = { block := a.block, off := a.off + j } := by unfold Addr.add; rw [if_neg hj]
theorem BoxAt.blwM {T : TypeId} {w w' : World} {g : Nat} {cs : List Value} (h : BoxAt T w g cs) (hb : Below w.heap.size w w') : BoxAt T w' g cs := h.below h.lt hb
set_option maxRecDepth 100000 in
set_option maxHeartbeats 1600000 in
theorem among_any (w : World) (B : Nat) (v : Value) (l : List Int) (n : Int) (h : ByI w B v l) :
    Calls Try.prog 75 #[.int .i64 n, v] w fun e w' => e = .returned (.bool (decide (n ∈ l))) ∧ w = w' := by
  obtain ⟨A, c, rfl, hc1, hc2⟩ := h.form
  unfold maxLen at hc2
  have H := Lib.hid h
  clear h
  go_enter Try.func75, Try.ntmps75
  go_wp2_with fail
  go_loop [5, 8] (fun xv iv => ∃ k : Nat, k ≤ l.length ∧ iv = .int .i64 k ∧ n ∉ l.take k) (fun _ i => l.length - (intOf i).toNat)
  case atStart => exact ⟨0, by omega, rfl, by simp⟩
  case round =>
    obtain ⟨k, hk, rfl, hno⟩ := hrel
    by_cases hlt : k < l.length
    · obtain ⟨_, ad, rfl, hab, k1, _, _⟩ := H.out.cells k hlt
      have htk : l.take (k + 1) = l.take k ++ [l[k]] := by rw [List.take_add_one, List.getElem?_eq_getElem hlt]; rfl
      by_cases he : l[k] = n
      · have hd : (l[k] == n) = true := by simp [he]
        have hin : decide (n ∈ l) = true := decide_eq_true (by rw [← he]; exact List.getElem_mem hlt)
        have Hin := Lib.hid hin
        clear he htk hno hin
        generalize l[k] = x at *
        go_wp2_with fail
        go_ret
        rw [Hin.out]
        exact ⟨rfl, rfl⟩
      · have hd : (l[k] == n) = false := beq_eq_false_iff_ne.2 he
        have hn2 : n ∉ l.take (k + 1) := by
          rw [htk, List.mem_append, List.mem_singleton]
          rintro (h | h)
          · exact hno h
          · exact he h.symm
        have Hn2 := Lib.hid hn2
        clear he htk hno hn2
        generalize l[k] = x at *
        go_wp2_with fail
        go_round
        case rel => exact ⟨k + 1, by omega, by go_num, Hn2.out⟩
        case measure => simp [intOf]; omega
    · obtain rfl : k = l.length := by omega
      rw [List.take_length] at hno
      have hin : decide (n ∈ l) = false := decide_eq_false hno
      have Hin := Lib.hid hin
      clear hno hin
      go_wp2_with fail
      go_ret
      rw [Hin.out]
      exact ⟨rfl, rfl⟩

set_option maxRecDepth 100000 in
set_option maxHeartbeats 1600000 in
theorem great_any (w : World) (v : Value) (m : MMan) (h : MAt w w.heap.size v m) :
    Calls Try.prog 28 #[v] w fun e w' => e = .returned (.bool (greatM m)) ∧ Below w.heap.size w w' := by
  obtain ⟨vf, rfl, hf⟩ := h
  obtain ⟨A, c, rfl, hc1, hc2⟩ := hf.form
  unfold maxLen at hc2
  obtain ⟨w1, hw1⟩ : ∃ w1, w1 = w.alloc (.cells (encM m (.slice A m.files.length c)).toArray 56) := ⟨_, rfl⟩
  have hb1 : Below w.heap.size w w1 := by rw [hw1]; exact balloc w _
  have hx1 : BoxAt 56 w1 w.heap.size (encM m (.slice A m.files.length c)) := by rw [hw1]; exact BoxAt.new_ _ _ _
  have hz1 : w.heap.size < w1.heap.size := by rw [hw1]; simp
  have hf1 := hf.below hb1
  have hc2x := hx1.cell 2 _ rfl
  have Hw1 := Lib.hid hw1
  have Hx1 := Lib.hid hx1
  have Hf1 := Lib.hid hf1
  have Hb1 := Lib.hid hb1
  clear hw1 hx1 hf1 hb1 hf
  by_cases h60 : 60 < m.files.length
  · have hd : decide (60 < m.files.length) = true := decide_eq_true h60
    have hd' : decide (60 < (m.files.length : Int)) = true := decide_eq_true (by omega)
    have hg : greatM m = true := by unfold greatM; rw [hd]; rfl
    have Hg := Lib.hid hg
    clear hg h60
    go_enter Try.func28, Try.ntmps28
    go_upto_region 1 with (fail)
    rw [← Hw1.out]
    go_wp2_with fail
    go_ret
    rw [Hg.out]
    exact ⟨rfl, Hb1.out⟩
  · have hd : decide (60 < m.files.length) = false := decide_eq_false h60
    have hd' : decide (60 < (m.files.length : Int)) = false := decide_eq_false (by omega)
    have hg : greatM m = decide (3000 < greatN m.files) := by unfold greatM; rw [hd]; rfl
    have Hg := Lib.hid hg
    have h60' : m.files.length ≤ 60 := by omega
    clear hg h60
    go_enter Try.func28, Try.ntmps28
    go_upto_region 1 with (fail)
    rw [← Hw1.out]
    go_wp2_with fail
    go_loopw [3, 4, 12] (fun nv xv iv wr => ∃ k : Nat, k ≤ m.files.length ∧ iv = .int .i64 k ∧ nv = .int .i64 (greatN (m.files.take k) : Nat) ∧ Below w1.heap.size w1 wr) (fun _ _ i _ => m.files.length - (intOf i).toNat)
    case atStart => exact ⟨0, by omega, rfl, rfl, Below.refl _ _⟩
    case round =>
      obtain ⟨k, hk, rfl, rfl, hbr⟩ := hrel
      have hgt := greatN_take m.files k
      have hgt1 := greatN_take m.files (k + 1)
      have Hbr := Lib.hid hbr
      clear hbr
      by_cases hlt : k < m.files.length
      · obtain ⟨_, ad, vb, rfl, hab, hbI, hfo, hcl⟩ := (Hf1.out.below (Hbr.out.mono (by omega))).cells k hlt
        obtain ⟨Ab, cb, rfl, hcb1, hcb2⟩ := hbI.form
        unfold maxLen at hcb2
        have hgs := greatN_snoc m.files k hlt
        have hnl := hfo.1
        unfold maxLen at hnl
        generalize hfk : m.files[k] = fl at *
        generalize greatN (m.files.take k) = G at *
        have Hgs := Lib.hid hgs
        have Hcl := Lib.hid hcl
        have Hx := Lib.hid (Hx1.out.blwM Hbr.out)
        clear hgs hcl hbI hfk hfo hc2x
        have habr : (ad.add (k * 4)).block < wr.heap.size := by rw [add_block]; have := Hbr.out.size; omega
        have hsz : (bst fl.name).size = fl.name.length := rfl
        have ha3 := add_mid' (ad.add (k * 4)) 3 (by decide)
        have ha0 : ((ad.add (k * 4)).add 0) = ad.add (k * 4) := by simp [Addr.add]
        go_wp2_with fail
        refine wp_region_tail (ds := [15, 16, 17, 18, 19, 20, 21, 22, 23, 24, 25, 26, 27, 28, 29, 30, 31, 32, 33]) 19 [some 15, some 16, some 17, some 18, some 19, some 20, some 21, some 22, some 23, some 24, some 25, some 26, some 27, some 28, some 29, some 30, some 31, some 32, some 33]
          [Ph.is (.int .i64 (G : Int)),
            Ph.is (.pointer (some ⟨w.heap.size, 2, none⟩)),
            Ph.is (.slice (some ad) m.files.length c),
            Ph.is (.int .i64 (k : Int)),
            Ph.is (.pointer (some (ad.add (k * 4)))),
            Ph.is (.pointer (some { block := (ad.add (k * 4)).block, off := (ad.add (k * 4)).off + 3 })),
            Ph.is (.slice Ab fl.blocks.length cb),
            Ph.is (.int .i64 (fl.blocks.length : Int)),
            Ph.is (.int .i64 ((min fl.blocks.length 3000 : Nat) : Int)),
            Ph.is (.int .i64 ((G + min fl.blocks.length 3000 : Nat) : Int)),
            Ph.is (.pointer (some ⟨w.heap.size, 2, none⟩)),
            Ph.is (.slice (some ad) m.files.length c),
            Ph.is (.int .i64 (k : Int)),
            Ph.is (.pointer (some (ad.add (k * 4)))),
            Ph.is (.pointer (some (ad.add (k * 4)))),
            Ph.is (.string (bst fl.name)),
            Ph.is (.int .i64 (fl.name.length : Int)),
            Ph.is (.int .i64 ((min fl.name.length 3000 : Nat) : Int)),
            Ph.is (.int .i64 ((G + min fl.blocks.length 3000 + min fl.name.length 3000 : Nat) : Int))] rfl rfl (by kernel_rfl) (by kernel_rfl) (by kernel_rfl) ?_ ?_
        · refine ⟨?_, ?_, ?_, ?_, ?_, ?_, ?_, ?_, ?_, ?_, ?_, ?_, ?_, ?_, ?_, ?_, ?_, ?_, ?_, trivial⟩
          · -- 0: slot 15 := Op.move t3
            refine ob_yes fun f w' hb hp => ?_
            simp [PreOf, factOf, valOf, Ph.is, Ph.any, Region.binds] at hp
            refine ⟨by simp [Gd, valOf, hp], ?_⟩
            refine mild_val (.int .i64 (G : Int)) ?_ (by simp [Ph.is])
            simp [execOp, evalF, hp, go_sem]
          · -- 1: slot 16 := Op.fieldAddr 56 t1 2
            refine ob_yes fun f w' hb hp => ?_
            simp [PreOf, factOf, valOf, Ph.is, Ph.any, Region.binds] at hp
            refine ⟨by simp [Gd, valOf, hp], ?_⟩
            refine mild_val (.pointer (some ⟨w.heap.size, 2, none⟩)) ?_ (by simp [Ph.is])
            simp [execOp, evalF, hp, go_sem]
          · -- 2: slot 17 := Op.load 54 t16
            refine ob_yes fun f w' hb hp => ?_
            simp [PreOf, factOf, valOf, Ph.is, Ph.any, Region.binds] at hp
            refine ⟨by simp [Gd, valOf, hp], ?_⟩
            have hc := (Hx.out.blwM hb).cell 2 _ rfl
            refine mild_val (.slice (some ad) m.files.length c) ?_ (by simp [Ph.is])
            simp [execOp, evalF, hp, hc, go_sem]
          · -- 3: slot 18 := Op.move t4
            refine ob_yes fun f w' hb hp => ?_
            simp [PreOf, factOf, valOf, Ph.is, Ph.any, Region.binds] at hp
            refine ⟨by simp [Gd, valOf, hp], ?_⟩
            refine mild_val (.int .i64 (k : Int)) ?_ (by simp [Ph.is])
            simp [execOp, evalF, hp, go_sem]
          · -- 4: slot 19 := Op.indexAddr 54 t17 t18
            refine ob_yes fun f w' hb hp => ?_
            simp [PreOf, factOf, valOf, Ph.is, Ph.any, Region.binds] at hp
            refine ⟨by simp [Gd, valOf, hp], ?_⟩
            refine mild_val (.pointer (some (ad.add (k * 4)))) ?_ (by simp [Ph.is])
            simp [execOp, evalF, hp, go_sem, hlt]
          · -- 5: slot 20 := Op.fieldAddr 62 t19 3
            refine ob_yes fun f w' hb hp => ?_
            simp [PreOf, factOf, valOf, Ph.is, Ph.any, Region.binds] at hp
            refine ⟨by simp [Gd, valOf, hp], ?_⟩
            refine mild_val (.pointer (some { block := (ad.add (k * 4)).block, off := (ad.add (k * 4)).off + 3 })) ?_ (by simp [Ph.is])
            simp [execOp, evalF, hp, go_sem]
          · -- 6: slot 21 := Op.load 60 t20
            refine ob_yes fun f w' hb hp => ?_
            simp [PreOf, factOf, valOf, Ph.is, Ph.any, Region.binds] at hp
            refine ⟨by simp [Gd, valOf, hp], ?_⟩
            have hc := (hb.cell (p := (ad.add (k * 4)).add 3) (by rw [add_block]; exact habr)).trans (Hcl.out 3 _ rfl)
            rw [ha3] at hc
            refine mild_val (.slice Ab fl.blocks.length cb) ?_ (by simp [Ph.is])
            simp [execOp, evalF, hp, hc, go_sem]
          · -- 7: slot 22 := Op.call   builtin len, args := #[t21], argTypes := #[60]  
            refine ob_yes fun f w' hb hp => ?_
            simp [PreOf, factOf, valOf, Ph.is, Ph.any, Region.binds] at hp
            refine ⟨by simp [Gd, valOf, hp], ?_⟩
            refine mild_val (.int .i64 (fl.blocks.length : Int)) ?_ (by simp [Ph.is])
            simp [execOp, evalF, hp, go_sem]
          · -- 8: slot 23 := Op.call   builtin min, args := #[t22, const (3000:i64)], argTypes := #[3, 3]  
            refine ob_yes fun f w' hb hp => ?_
            simp [PreOf, factOf, valOf, Ph.is, Ph.any, Region.binds] at hp
            refine ⟨by simp [Gd, valOf, hp], ?_⟩
            refine mild_val (.int .i64 ((min fl.blocks.length 3000 : Nat) : Int)) ?_ (by simp [Ph.is])
            simp [execOp, evalF, hp, go_sem]
            split <;> omega
          · -- 9: slot 24 := Op.binOp BinOp.add 3 t15 t23 3
            refine ob_yes fun f w' hb hp => ?_
            simp [PreOf, factOf, valOf, Ph.is, Ph.any, Region.binds] at hp
            refine ⟨by simp [Gd, valOf, hp], ?_⟩
            refine mild_val (.int .i64 ((G + min fl.blocks.length 3000 : Nat) : Int)) ?_ (by simp [Ph.is])
            simp [execOp, evalF, hp, go_sem]
            (rw [wrap_i64])
            omega
          · -- 10: slot 25 := Op.fieldAddr 56 t1 2
            refine ob_yes fun f w' hb hp => ?_
            simp [PreOf, factOf, valOf, Ph.is, Ph.any, Region.binds] at hp
            refine ⟨by simp [Gd, valOf, hp], ?_⟩
            refine mild_val (.pointer (some ⟨w.heap.size, 2, none⟩)) ?_ (by simp [Ph.is])
            simp [execOp, evalF, hp, go_sem]
          · -- 11: slot 26 := Op.load 54 t25
            refine ob_yes fun f w' hb hp => ?_
            simp [PreOf, factOf, valOf, Ph.is, Ph.any, Region.binds] at hp
            refine ⟨by simp [Gd, valOf, hp], ?_⟩
            have hc := (Hx.out.blwM hb).cell 2 _ rfl
            refine mild_val (.slice (some ad) m.files.length c) ?_ (by simp [Ph.is])
            simp [execOp, evalF, hp, hc, go_sem]
          · -- 12: slot 27 := Op.move t4
            refine ob_yes fun f w' hb hp => ?_
            simp [PreOf, factOf, valOf, Ph.is, Ph.any, Region.binds] at hp
            refine ⟨by simp [Gd, valOf, hp], ?_⟩
            refine mild_val (.int .i64 (k : Int)) ?_ (by simp [Ph.is])
            simp [execOp, evalF, hp, go_sem]
          · -- 13: slot 28 := Op.indexAddr 54 t26 t27
            refine ob_yes fun f w' hb hp => ?_
            simp [PreOf, factOf, valOf, Ph.is, Ph.any, Region.binds] at hp
            refine ⟨by simp [Gd, valOf, hp], ?_⟩
            refine mild_val (.pointer (some (ad.add (k * 4)))) ?_ (by simp [Ph.is])
            simp [execOp, evalF, hp, go_sem, hlt]
          · -- 14: slot 29 := Op.fieldAddr 62 t28 0
            refine ob_yes fun f w' hb hp => ?_
            simp [PreOf, factOf, valOf, Ph.is, Ph.any, Region.binds] at hp
            refine ⟨by simp [Gd, valOf, hp], ?_⟩
            refine mild_val (.pointer (some (ad.add (k * 4)))) ?_ (by simp [Ph.is])
            simp [execOp, evalF, hp, go_sem]
          · -- 15: slot 30 := Op.load 9 t29
            refine ob_yes fun f w' hb hp => ?_
            simp [PreOf, factOf, valOf, Ph.is, Ph.any, Region.binds] at hp
            refine ⟨by simp [Gd, valOf, hp], ?_⟩
            have hc := (hb.cell (p := (ad.add (k * 4)).add 0) (by rw [add_block]; exact habr)).trans (Hcl.out 0 _ rfl)
            rw [ha0] at hc
            refine mild_val (.string (bst fl.name)) ?_ (by simp [Ph.is])
            simp [execOp, evalF, hp, hc, go_sem]
          · -- 16: slot 31 := Op.call   builtin len, args := #[t30], argTypes := #[9]  
            refine ob_yes fun f w' hb hp => ?_
            simp [PreOf, factOf, valOf, Ph.is, Ph.any, Region.binds] at hp
            refine ⟨by simp [Gd, valOf, hp], ?_⟩
            refine mild_val (.int .i64 (fl.name.length : Int)) ?_ (by simp [Ph.is])
            simp [execOp, evalF, hp, go_sem, hsz]
          · -- 17: slot 32 := Op.call   builtin min, args := #[t31, const (3000:i64)], argTypes := #[3, 3]  
            refine ob_yes fun f w' hb hp => ?_
            simp [PreOf, factOf, valOf, Ph.is, Ph.any, Region.binds] at hp
            refine ⟨by simp [Gd, valOf, hp], ?_⟩
            refine mild_val (.int .i64 ((min fl.name.length 3000 : Nat) : Int)) ?_ (by simp [Ph.is])
            simp [execOp, evalF, hp, go_sem]
            split <;> omega
          · -- 18: slot 33 := Op.binOp BinOp.add 3 t24 t32 3
            refine ob_yes fun f w' hb hp => ?_
            simp [PreOf, factOf, valOf, Ph.is, Ph.any, Region.binds] at hp
            refine ⟨by simp [Gd, valOf, hp], ?_⟩
            refine mild_val (.int .i64 ((G + min fl.blocks.length 3000 + min fl.name.length 3000 : Nat) : Int)) ?_ (by simp [Ph.is])
            simp [execOp, evalF, hp, go_sem]
            (rw [wrap_i64])
            omega
        · intro f w2 hb2 hp
          simp only [PostOf, Ph.is, Ph.any] at hp
          obtain ⟨h0, h1, h2, h3, h4, h5, h6, h7, h8, h9, h10, h11, h12, h13, h14, h15, h16, h17, h18, _⟩ := hp
          simp only [fills, List.foldl_cons, List.foldl_nil, Act.put, List.setIfInBounds_toArray, List.set_cons_zero, List.set_cons_succ, h0, h1, h2, h3, h4, h5, h6, h7, h8, h9, h10, h11, h12, h13, h14, h15, h16, h17, h18]
          clear h0 h1 h2 h3 h4 h5 h6 h7 h8 h9 h10 h11 h12 h13 h14 h15 h16 h17 h18
          simp only [List.drop_succ_cons, List.drop_zero]
          have hb3 := Hbr.out.trans (hb2.mono Hbr.out.size)
          go_wp2_with fail
          go_roundw
          case rel => exact ⟨k + 1, by omega, by go_num, by rw [Hgs.out, Nat.add_assoc], hb3⟩
          case measure => simp [intOf]; omega
      · obtain rfl : k = m.files.length := by omega
        rw [List.take_length] at *
        go_wp2_with fail
        go_ret
        rw [Hg.out]
        exact ⟨by simp; omega, Hb1.out.trans (Hbr.out.mono (by omega))⟩
end Go.Proofs.Ytpoicbhbkabllaa
