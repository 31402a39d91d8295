/- Lemmas for the law ManifestFalls: The document's check (package palmerref02): Sum, Four, Mark and Fits are the plain functions that the code's are. The rows are readable slices of at most 2^40 bytes.; palmerref02.Fits: bytes without their check, or the error's number. The row is a readable slice of at most 2^40 bytes.; The document's sections (package palmerref05): Put and Get compute what the plain functions say.; palmerref09.Put; The document's disks: put (printed by wip/gen/rdisk4.py); palmerref09.Slot; palmerlaw09.model: a disk's blocks of both slots, as the document's; a fall behind manifest.Write, in plain; palmerref09.Get (printed by wip/gen/manh.py); palmerref09.Mixed; rows of manifests; palmerref09.Read (printed by wip/gen/manz.py). No condition. -/
import Derived.Test.YtpoicbhbkabllaaZManifestSpoilt5
namespace Go.Proofs.Ytpoicbhbkabllaa
set_option linter.unusedSimpArgs false
set_option linter.unusedVariables false
open Go.RowKit

theorem stp_even' (x : UInt32) (h : ¬ (x.toNat : Int) % 2 = 1) : ((x.toNat : Int) / 2) = ((stp x).toNat : Int) := by
  have h2 : x.toNat % 2 = 0 := by omega
  rw [stp_even x h2]
  simp [UInt32.toNat_shiftRight, Nat.shiftRight_eq_div_pow]
theorem stp_odd' (x : UInt32) (h : (x.toNat : Int) % 2 = 1) : bits BinOp.xor IntKind.u32 ((x.toNat : Int) / 2) 3988292384 = ((stp x).toNat : Int) := by
  have := stp_walk x
  rw [h] at this
  simpa using this
theorem updB_run (x : UInt32) (l : List UInt8) : l.foldl updB x = run x l := by
  unfold run
  induction l generalizing x with
  | nil => rfl
  | cons c l ih => rw [List.foldl_cons, List.foldl_cons, ih, upd_bits]

set_option maxRecDepth 100000 in
set_option maxHeartbeats 800000 in
theorem rsum_any (w : World) (B : Nat) (v : Value) (l : List UInt8) (hby : By w B v l) :
    Calls Try.prog 102 #[v] w fun e w' => e = .returned (.int .u32 ((crcOf l).toNat : Int)) ∧ Below w.heap.size w w' := by
  obtain ⟨A, c, rfl, hc1, hc2, hrd⟩ := hby
  unfold maxLen at hc2
  go_enter Try.func102, Try.ntmps102
  go_wp2
  go_loop [3, 8] (fun x i => ∃ k : Nat, k ≤ l.length ∧ i = .int .i64 k ∧ x = .int .u32 ((run 4294967295 (l.take k)).toNat : Int)) (fun _ i => l.length - (intOf i).toNat)
  case atStart => exact ⟨0, by omega, rfl, rfl⟩
  case round =>
    obtain ⟨k, hk, rfl, rfl⟩ := hrel
    by_cases hlt : k < l.length
    · obtain ⟨ad, rfl, _, hcs⟩ := hrd.ad (by omega)
      have hcell := hcs k _ (b8s_get l k hlt)
      have hst : run 4294967295 (l.take (k + 1)) = stps 8 (run 4294967295 (l.take k) ^^^ (l[k]).toUInt32) := by
        rw [List.take_succ_eq_append_getElem hlt, run_snoc, upd_bits]; rfl
      have Hst := Lib.hid hst
      clear hcs hst
      generalize l[k] = b at *
      generalize run 4294967295 (l.take k) = x at *
      have hx : bits BinOp.xor IntKind.u32 (x.toNat : Int) (b.toNat : Int) = ((x ^^^ b.toUInt32).toNat : Int) := by
        rw [← xor_u32, ← wrap_u32_u8, IntKind.wrap_u32']
        have := u8_lt b
        congr 1; omega
      have hb := u8_lt b
      generalize x ^^^ b.toUInt32 = y at *
      go_wp2
      go_loop [3, 5] (fun x i => ∃ j : Nat, j ≤ 8 ∧ i = .int .i64 j ∧ x = .int .u32 ((stps j y).toNat : Int)) (fun _ i => 8 - (intOf i).toNat)
      case atStart => exact ⟨0, by omega, rfl, rfl⟩
      case round =>
        obtain ⟨j, hj, rfl, rfl⟩ := hrel
        by_cases hlt2 : j < 8
        · have hss := stps_succ j y
          have Hss := Lib.hid hss
          clear hss
          generalize stps j y = z at *
          have hzl := u32_lt z
          by_cases hodd : (z.toNat : Int) % 2 = 1
          · have h1 := stp_odd' z hodd
            have h2 : ((z.toNat : Int) % 2 == 1) = true := by simpa using hodd
            clear hodd
            go_wp2
            go_round
            case rel => exact ⟨j + 1, by omega, by go_num, by rw [Hss.out, ← h1]⟩
            case measure => simp [intOf]; omega
          · have h1 := stp_even' z hodd
            have h2 : ((z.toNat : Int) % 2 == 1) = false := by simpa using hodd
            clear hodd
            go_wp2
            go_round
            case rel => exact ⟨j + 1, by omega, by go_num, by rw [Hss.out, ← h1]⟩
            case measure => simp [intOf]; omega
        · obtain rfl : j = 8 := by omega
          go_wp2
          go_round
          case rel => exact ⟨k + 1, by omega, by go_num, by rw [Hst.out]⟩
          case measure => simp [intOf]; omega
    · obtain rfl : k = l.length := by omega
      have hfin : bits BinOp.xor IntKind.u32 ((run 4294967295 l).toNat : Int) 4294967295 = ((crcOf l).toNat : Int) := by
        have := xor_u32 (run 4294967295 l) 4294967295
        rw [show ((4294967295 : UInt32).toNat : Int) = 4294967295 from rfl] at this
        rw [this]
        show ((run 4294967295 l ^^^ (-1)).toNat : Int) = _
        rw [UInt32.xor_neg_one]; rfl
      rw [List.take_length]
      go_wp2
      go_ret
      refine ⟨?_, Below.refl _ _⟩
      rfl

set_option maxHeartbeats 400000 in
theorem rfour_any (w : World) (x : UInt32) :
    Calls Try.prog 100 #[.int .u32 (x.toNat : Int)] w fun e w' => ∃ v, e = .returned v ∧ Ow w' w.heap.size v (four x) ∧ Below w.heap.size w w' := by
  have h0 := fourAt0 x
  have h1 := fourAt1 x
  have h2 := fourAt2 x
  have h3 : (x.toNat : Int) / 16777216 = ((fourAt x 3).toNat : Int) := by
    rw [← fourAt3 x]; have := u32_lt x; omega
  have hn := Ow.new_ w (four x) (by simp [four_length, maxLen])
  have hb := balloc w (.cells (b8s (four x)).toArray 5)
  have hx := u32_lt x
  have g0 := u8_lt (fourAt x 0)
  have g1 := u8_lt (fourAt x 1)
  have g2 := u8_lt (fourAt x 2)
  have g3 := u8_lt (fourAt x 3)
  have hv : (b8s (four x)).toArray = #[.int .u8 ((fourAt x 0).toNat : Int), .int .u8 ((fourAt x 1).toNat : Int), .int .u8 ((fourAt x 2).toNat : Int), .int .u8 ((fourAt x 3).toNat : Int)] := rfl
  rw [hv] at hn hb
  clear hv
  generalize fourAt x 0 = b0 at *
  generalize fourAt x 1 = b1 at *
  generalize fourAt x 2 = b2 at *
  generalize fourAt x 3 = b3 at *
  go_enter Try.func100, Try.ntmps100
  go_wp2
  go_ret
  exact ⟨_, rfl, hn, hb⟩

set_option maxHeartbeats 400000 in
theorem rmark_any (w : World) (v : Value) (l : List UInt8) (hby : By w w.heap.size v l) (hsz : l.length ≤ 1099511627776) :
    Calls Try.prog 99 #[v] w fun e w' => ∃ v', e = .returned v' ∧ Ow w' w.heap.size v' (markOf l) ∧ Below w.heap.size w w' := by
  have hby0 := hby
  obtain ⟨A, c, rfl, hc1, hc2, hrd⟩ := hby
  go_enter Try.func99, Try.ntmps99
  go_wp2_with (first
    | (at_builtin
       refine wpList_app8 rfl (.tmp 4) (.tmp 5) rfl (Ow.new_ w [] (Nat.zero_le _)) (hby0.alloc (Nat.le_refl _) _) rfl rfl (by simp; omega) (by simp) ?_
       intro v1 w1 hown1 hext1
       have hb1 := (balloc w _).trans (hext1.below (by simp) (by simp [Value.ownBlock])))
    | (go_at_call 102; refine (rsum_any _ _ _ l (hby0.below hb1)).mono ?_; rintro e w2 ⟨rfl, hb2⟩)
    | (go_at_call 100; refine (rfour_any _ _).mono ?_; rintro e w3 ⟨v3, rfl, hown3, hb3⟩)
    | (at_builtin
       refine wpList_app8 rfl (.tmp 7) (.tmp 10) rfl ((hown1.below_ hb2).below_ hb3) hown3.by_ rfl rfl (by simp [four_length]; omega) (bstep hb1 (bstep hb2 hb3)).size ?_
       intro v4 w4 hown4 hext4))
  go_ret
  exact ⟨_, rfl, hown4, (bstep hb1 (bstep hb2 hb3)).trans (hext4.below (bstep hb1 (bstep hb2 hb3)).size fun k hk => (hown1.blk k hk).1)⟩
end Go.Proofs.Ytpoicbhbkabllaa

namespace Go.Proofs.Ytpoicbhbkabllaa
set_option linter.unusedSimpArgs false
set_option linter.unusedVariables false
open Go.RowKit

set_option maxRecDepth 100000 in
set_option maxHeartbeats 800000 in
theorem rfits_any (w : World) (v : Value) (l : List UInt8) (hby : By w w.heap.size v l) (hsz : l.length ≤ 1099511627776) :
    Calls Try.prog 88 #[v] w fun e w' => ∃ v', e = .returned (.tuple #[v', .int .i64 (fitsE l)]) ∧ Ow w' w.heap.size v' (fitsL l) ∧ Below w.heap.size w w' := by
  have hby0 := hby
  obtain ⟨A, c, rfl, hc1, hc2, hrd⟩ := hby
  unfold maxLen at hc2
  by_cases h4 : l.length < 4
  · have hE : fitsE l = 2 := by simp [fitsE, h4]
    have hL : fitsL l = [] := by
      have : fitsB l = false := by simp [fitsB]; omega
      simp [fitsL, this]
    rw [hE, hL]
    clear hE hL
    go_enter Try.func88, Try.ntmps88
    go_wp2_with fail
    go_ret2
    exact ⟨_, rfl, Ow.new_ w [] (Nat.zero_le _), balloc _ _⟩
  · have hown : By w w.heap.size (.slice A (l.length - 4) c) (l.take (l.length - 4)) := by
      refine ⟨A, c, by simp, by simp; omega, hc2, ?_⟩
      have := hrd.front (k := l.length - 4) (by omega)
      simpa [b8s, List.map_take] using this
    have hlt : (l.take (l.length - 4)).length = l.length - 4 := by simp
    have HE : Hid (fitsE l = if markOf (l.take (l.length - 4)) = l then 0 else 5) := by
      unfold Hid fitsE fitsB
      rw [if_neg h4]
      by_cases hm : markOf (l.take (l.length - 4)) = l
      · rw [if_pos (by simp [hm]; omega), if_pos hm]
      · rw [if_neg (by simp [hm]), if_neg hm]
    have HL : Hid (fitsL l = if markOf (l.take (l.length - 4)) = l then l.take (l.length - 4) else []) := by
      unfold Hid fitsL fitsB
      by_cases hm : markOf (l.take (l.length - 4)) = l
      · rw [if_pos (by simp [hm]; omega), if_pos hm]
      · rw [if_neg (by simp [hm]), if_neg hm]
    have Hlt := Lib.hid hlt
    clear hlt
    generalize fitsE l = E at *
    generalize fitsL l = L at *
    generalize l.take (l.length - 4) = l0 at *
    go_enter Try.func88, Try.ntmps88
    go_wp2_with (first
      | (at_builtin
         refine wpList_app8 rfl (.tmp 9) (.tmp 14) rfl (Ow.new_ w [] (Nat.zero_le _)) (hown.alloc (Nat.le_refl _) _) rfl rfl (by rw [Hlt.out]; simp; omega) (by simp) ?_
         intro v1 w1 hown1 hext1
         have hb1 := (balloc w _).trans (hext1.below (by simp) (by simp [Value.ownBlock]))))
    refine wp_region_typed [some 16, some 17, some 18, some 19, some 20, some 21] [16, 17, 18, 19, 20, 21] [Ph.is v1, Ph.by_ (markOf l0), Ph.is (.string (bst (markOf l0))), Ph.is (.slice A l.length c), Ph.is (.string (bst l)), Ph.is (.bool (!(decide (markOf l0 = l))))] rfl rfl (by kernel_rfl) (by kernel_rfl) ?_ ?_
    · have hc2 : ∀ w', Below w1.heap.size w1 w' → (convert 30 9 (.slice A l.length c)).run Try.prog w' = .ok (.string (bst l)) w' := fun w' hb => conv8 ((hby0.step hb1).below hb)
      have hq := bst_eq (markOf l0) l
      refine ⟨?_, ?_, ?_, ?_, ?_, ?_, trivial⟩
      all_goals
        refine ob_yes fun f w' hb hp => ?_
        simp [PreOf, factOf, valOf, Ph.is, Ph.by_, Region.binds] at hp
        refine ⟨by simp [Gd], ?_⟩
      · refine mild_val v1 ?_ ?_ <;> simp [execOp, evalF, Ph.is]
      · refine mild_call 99 _ _ Try.f99 Try.func99 (by kernel_rfl) (by kernel_rfl) rfl ?_
        simp [evalF, hp, Ph.by_]
        refine (rmark_any w' v1 l0 ?_ (by rw [Hlt.out]; omega)).mono ?_
        · exact hown1.by_.step hb
        · rintro e w2 ⟨v2, rfl, hown2, hb2⟩
          exact ⟨v2, rfl, hb2, hown2.by_⟩
      · refine mild_val (.string (bst (markOf l0))) ?_ rfl
        have hcc := conv8 hp
        simp [execOp, evalF, hcc]
      · refine mild_val (.slice A l.length c) ?_ ?_ <;> simp [execOp, evalF, Ph.is]
      · refine mild_val (.string (bst l)) ?_ rfl
        simp [execOp, evalF, hp, hc2 w' hb]
      · refine mild_val (.bool (!decide (markOf l0 = l))) ?_ rfl
        simp [execOp, evalF, hp, go_sem]
        exact hq
    · intro f w2 hb2 hp
      simp only [PostOf, Ph.is, Ph.by_] at hp
      obtain ⟨h16, h17, h18, h19, h20, h21, _⟩ := hp
      simp only [fills, List.foldl_cons, List.foldl_nil, Act.put, List.setIfInBounds_toArray, List.set_cons_zero, List.set_cons_succ, h16, h18, h19, h20, h21]
      clear h16 h17 h18 h19 h20 h21
      generalize f 17 = v17
      have hb02 := bstep hb1 hb2
      by_cases hm : markOf l0 = l
      · rw [decide_eq_true hm]
        have Hm := Lib.hid hm
        clear hm
        go_wp2_with fail
        go_ret2
        refine ⟨v1, by rw [HE.out, if_pos Hm.out]; rfl, ?_, hb02⟩
        rw [HL.out, if_pos Hm.out]
        exact hown1.below_ hb2
      · rw [decide_eq_false hm]
        have Hm := Lib.hid hm
        clear hm
        go_wp2_with fail
        go_ret2
        refine ⟨_, by rw [HE.out, if_neg Hm.out]; rfl, ?_, hb02.trans ((balloc w2 _).mono hb02.size)⟩
        rw [HL.out, if_neg Hm.out]
        exact (Ow.new_ w2 [] (Nat.zero_le _)).mono hb02.size
end Go.Proofs.Ytpoicbhbkabllaa

namespace Go.Proofs.Ytpoicbhbkabllaa
set_option linter.unusedSimpArgs false
set_option linter.unusedVariables false
open Go.RowKit

/-- a row of the function's own -/
def Ph.ow (base : Nat) (l : List UInt8) : Ph := ⟨fun v w => Ow w base v l, fun _ _ _ h hb => h.below_ hb⟩

set_option maxRecDepth 100000 in
set_option maxHeartbeats 1600000 in
theorem rfput_any (w : World) (k : UInt8) (v : Value) (l : List UInt8) (hby : By w w.heap.size v l) (hsz : l.length ≤ 1048577) :
    Calls Try.prog 91 #[.agg #[.int .u8 (k.toNat : Int), v]] w fun e w' => ∃ v', e = .returned v' ∧ Ow w' w.heap.size v' (frameOf k l) ∧ Below w.heap.size w w' := by
  have hby0 := hby
  obtain ⟨A, c, rfl, hc1, hc2, hrd⟩ := hby
  unfold maxLen at hc2
  have hwl : IntKind.u32.wrap (l.length : Int) = ((UInt32.ofNat l.length).toNat : Int) := by rw [IntKind.wrap_u32', UInt32.toNat_ofNat']; omega
  have HF : Hid (frameOf k l = markOf ([k] ++ four (UInt32.ofNat l.length)) ++ markOf l) := by unfold Hid; rfl
  have hf4 : ∀ x, (four x).length = 4 := fun _ => rfl
  generalize UInt32.ofNat l.length = n32 at *
  go_enter Try.func91, Try.ntmps91
  go_wp2_with fail
  have hbx : SecAt (w.alloc (.cells #[.int .u8 (k.toNat : Int), .slice A l.length c] 108)) w.heap.size (.int .u8 (k.toNat : Int)) (.slice A l.length c) := SecAt.new_ _ _ _
  have hb0 := balloc w (.cells #[.int .u8 (k.toNat : Int), .slice A l.length c] 108)
  have hWs : (w.alloc (.cells #[.int .u8 (k.toNat : Int), .slice A l.length c] 108)).heap.size = w.heap.size + 1 := by simp
  generalize w.alloc (.cells #[.int .u8 (k.toNat : Int), .slice A l.length c] 108) = W at *
  refine wp_region_tail (ds := [4, 5, 6, 7, 8, 9, 10, 11]) 8 [some 4, some 5, some 6, some 7, some 8, some 9, some 10, some 11]
    [Ph.is (.pointer (some { block := w.heap.size, off := 0 })),
      Ph.is (.int .u8 (k.toNat : Int)),
      Ph.ow (w.heap.size + 1) [k],
      Ph.is (.pointer (some { block := w.heap.size, off := 1 })),
      Ph.is (.slice A l.length c),
      Ph.is (.int .i64 (l.length : Int)),
      Ph.is (.int .u32 (n32.toNat : Int)),
      Ph.by_ (four n32)] rfl rfl (by kernel_rfl) (by kernel_rfl) (by kernel_rfl) ?_ ?_
  · refine ⟨?_, ?_, ?_, ?_, ?_, ?_, ?_, ?_, trivial⟩
    · -- 0: slot 4 := Op.fieldAddr 46 t1 0
      refine ob_yes fun f w' hb hp => ?_
      simp [PreOf, factOf, valOf, Ph.is, Ph.by_, Ph.any, Region.binds, Ph.ow] at hp
      refine ⟨by simp [Gd, valOf, hp], ?_⟩
      refine mild_val (.pointer (some { block := w.heap.size, off := 0 })) ?_ rfl
      simp [execOp, evalF, hp, go_sem]
    · -- 1: slot 5 := Op.load 5 t4
      refine ob_yes fun f w' hb hp => ?_
      simp [PreOf, factOf, valOf, Ph.is, Ph.by_, Ph.any, Region.binds, Ph.ow] at hp
      refine ⟨by simp [Gd, valOf, hp], ?_⟩
      refine mild_val (.int .u8 (k.toNat : Int)) ?_ rfl
      have hc := (hbx.below hbx.lt hb).cell0
      simp [execOp, evalF, hp, hc, go_sem]
    · -- 2: slot 6 := Op.buildSlice 22 1 #[(0, t5)]
      refine ob_yes fun f w' hb hp => ?_
      simp [PreOf, factOf, valOf, Ph.is, Ph.by_, Ph.any, Region.binds, Ph.ow] at hp
      refine ⟨by simp [Gd, valOf, hp], ?_⟩
      refine mild_alloc (.slice (some ⟨w'.heap.size, 0, none⟩) 1 1) (.cells (b8s [k]).toArray 5) ?_ ((Ow.new_ w' [k] (by simp [maxLen])).mono (hWs ▸ hb.size))
      simp [execOp, evalF, hp, go_sem, b8s, b8]
    · -- 3: slot 7 := Op.fieldAddr 46 t1 1
      refine ob_yes fun f w' hb hp => ?_
      simp [PreOf, factOf, valOf, Ph.is, Ph.by_, Ph.any, Region.binds, Ph.ow] at hp
      refine ⟨by simp [Gd, valOf, hp], ?_⟩
      refine mild_val (.pointer (some { block := w.heap.size, off := 1 })) ?_ rfl
      simp [execOp, evalF, hp, go_sem]
    · -- 4: slot 8 := Op.load 22 t7
      refine ob_yes fun f w' hb hp => ?_
      simp [PreOf, factOf, valOf, Ph.is, Ph.by_, Ph.any, Region.binds, Ph.ow] at hp
      refine ⟨by simp [Gd, valOf, hp], ?_⟩
      refine mild_val (.slice A l.length c) ?_ rfl
      have hc := (hbx.below hbx.lt hb).cell1
      simp [execOp, evalF, hp, hc, go_sem]
    · -- 5: slot 9 := Op.call   builtin len, args := #[t8], argTypes := #[22]  
      refine ob_yes fun f w' hb hp => ?_
      simp [PreOf, factOf, valOf, Ph.is, Ph.by_, Ph.any, Region.binds, Ph.ow] at hp
      refine ⟨by simp [Gd, valOf, hp], ?_⟩
      refine mild_val (.int .i64 (l.length : Int)) ?_ rfl
      simp [execOp, evalF, hp, go_sem]
    · -- 6: slot 10 := Op.convert 3 24 t9
      refine ob_yes fun f w' hb hp => ?_
      simp [PreOf, factOf, valOf, Ph.is, Ph.by_, Ph.any, Region.binds, Ph.ow] at hp
      refine ⟨by simp [Gd, valOf, hp], ?_⟩
      refine mild_val (.int .u32 (n32.toNat : Int)) ?_ rfl
      simp [execOp, evalF, hp, go_sem, hwl]
    · -- 7: slot 11 := Op.call   value (Operand.func 32), args := #[t10], argTypes := #[24]  
      refine ob_yes fun f w' hb hp => ?_
      simp [PreOf, factOf, valOf, Ph.is, Ph.by_, Ph.any, Region.binds, Ph.ow] at hp
      refine ⟨by simp [Gd, valOf, hp], ?_⟩
      refine mild_call 100 _ _ Try.f100 Try.func100 (by kernel_rfl) (by kernel_rfl) rfl ?_
      simp [evalF, hp, Ph.is, Ph.by_, Ph.any, Ph.ow]
      exact (rfour_any w' n32).mono fun e w2 ⟨v, h1, h2, h3⟩ => ⟨v, h1, h3, h2.by_⟩
  · intro f w2 hb2 hp
    simp only [PostOf, Ph.is, Ph.by_, Ph.any, Ph.ow] at hp
    obtain ⟨h0, h1, h2, h3, h4, h5, h6, h7, _⟩ := hp
    simp only [fills, List.foldl_cons, List.foldl_nil, Act.put, List.setIfInBounds_toArray, List.set_cons_zero, List.set_cons_succ, h0, h1, h3, h4, h5, h6]
    clear h0 h1 h3 h4 h5 h6
    generalize f 6 = v6 at *
    generalize f 11 = v11 at *
    simp only [List.drop_succ_cons, List.drop_zero]
    have hb02 := bstep hb0 hb2
    refine wpList_app8 rfl (.tmp 6) (.tmp 11) rfl h2 h7 rfl rfl (by simp [hf4]) (hWs ▸ hb2.size) ?_
    intro v3 w3 hown3 hext3
    have hb03 : Below w.heap.size w w3 := hb02.trans (hext3.below hb02.size fun k hk => Nat.le_of_succ_le (h2.blk k hk).1)
    have hbx2 : SecAt w3 w.heap.size (.int .u8 (k.toNat : Int)) (.slice A l.length c) := by
      have h9 := hbx.below hbx.lt hb2
      refine (hext3.gr.block w.heap.size h9.lt (fun e => absurd (h2.blk _ e.symm).1 (by omega))).trans h9
    have hby2 := hby0.step hb03
    have hhd : ([k] ++ four n32).length = 5 := rfl
    generalize [k] ++ four n32 = hd at *
    have hv3 : By w3 w3.heap.size v3 hd := hown3.by_
    have hs2 := hb03.size
    clear h2 h7 hext3 hown3 hbx hb0 hb2 hb02 hWs
    have hml1 := markOf_length hd
    have hml2 := markOf_length l
    go_wp2_with fail
    refine wp_region_tail (ds := [13, 14, 15, 16, 17]) 5 [some 13, some 14, some 15, some 16, some 17]
      [Ph.by_ hd,
        Ph.ow w.heap.size (markOf hd),
        Ph.is (.pointer (some { block := w.heap.size, off := 1 })),
        Ph.is (.slice A l.length c),
        Ph.by_ (markOf l)] rfl rfl (by kernel_rfl) (by kernel_rfl) (by kernel_rfl) ?_ ?_
    · refine ⟨?_, ?_, ?_, ?_, ?_, trivial⟩
      · -- 0: slot 13 := Op.move t3
        refine ob_yes fun f w' hb hp => ?_
        simp [PreOf, factOf, valOf, Ph.is, Ph.by_, Ph.any, Region.binds, Ph.ow] at hp
        refine ⟨by simp [Gd, valOf, hp], ?_⟩
        exact mild_val _ rfl (hv3.step hb)
      · -- 1: slot 14 := Op.call   value (Operand.func 20), args := #[t13], argTypes := #[22]  
        refine ob_yes fun f w' hb hp => ?_
        simp [PreOf, factOf, valOf, Ph.is, Ph.by_, Ph.any, Region.binds, Ph.ow] at hp
        refine ⟨by simp [Gd, valOf, hp], ?_⟩
        refine mild_call 99 _ _ Try.f99 Try.func99 (by kernel_rfl) (by kernel_rfl) rfl ?_
        simp [evalF, hp, Ph.is, Ph.by_, Ph.any, Ph.ow]
        exact (rmark_any w' _ hd hp (by omega)).mono fun e w4 ⟨v, h1, h2, h3⟩ => ⟨v, h1, h3, h2.mono (Nat.le_trans hs2 hb.size)⟩
      · -- 2: slot 15 := Op.fieldAddr 46 t1 1
        refine ob_yes fun f w' hb hp => ?_
        simp [PreOf, factOf, valOf, Ph.is, Ph.by_, Ph.any, Region.binds, Ph.ow] at hp
        refine ⟨by simp [Gd, valOf, hp], ?_⟩
        refine mild_val (.pointer (some { block := w.heap.size, off := 1 })) ?_ rfl
        simp [execOp, evalF, hp, go_sem]
      · -- 3: slot 16 := Op.load 22 t15
        refine ob_yes fun f w' hb hp => ?_
        simp [PreOf, factOf, valOf, Ph.is, Ph.by_, Ph.any, Region.binds, Ph.ow] at hp
        refine ⟨by simp [Gd, valOf, hp], ?_⟩
        refine mild_val (.slice A l.length c) ?_ rfl
        have hc := (hbx2.below hbx2.lt hb).cell1
        simp [execOp, evalF, hp, hc, go_sem]
      · -- 4: slot 17 := Op.call   value (Operand.func 20), args := #[t16], argTypes := #[22]  
        refine ob_yes fun f w' hb hp => ?_
        simp [PreOf, factOf, valOf, Ph.is, Ph.by_, Ph.any, Region.binds, Ph.ow] at hp
        refine ⟨by simp [Gd, valOf, hp], ?_⟩
        refine mild_call 99 _ _ Try.f99 Try.func99 (by kernel_rfl) (by kernel_rfl) rfl ?_
        simp [evalF, hp, Ph.is, Ph.by_, Ph.any, Ph.ow]
        exact (rmark_any w' _ l ((hby2.step hb)) (by omega)).mono fun e w4 ⟨v, h1, h2, h3⟩ => ⟨v, h1, h3, h2.by_⟩
    · intro f w4 hb4 hp
      simp only [PostOf, Ph.is, Ph.by_, Ph.any, Ph.ow] at hp
      obtain ⟨h0, h1, h2, h3, h4, _⟩ := hp
      simp only [fills, List.foldl_cons, List.foldl_nil, Act.put, List.setIfInBounds_toArray, List.set_cons_zero, List.set_cons_succ, h2, h3]
      clear h2 h3
      generalize f 13 = v13 at *
      generalize f 14 = v14 at *
      generalize f 17 = v17 at *
      simp only [List.drop_succ_cons, List.drop_zero]
      have hb04 := bstep hb03 hb4
      refine wpList_app8 rfl (.tmp 14) (.tmp 17) rfl h1 h4 rfl rfl (by omega) hb04.size ?_
      intro v5 w5 hown5 hext5
      have hb05 : Below w.heap.size w w5 := hb04.trans (hext5.below hb04.size fun k hk => (h1.blk k hk).1)
      go_wp2_with fail
      go_ret
      exact ⟨_, rfl, HF.out ▸ hown5, hb05⟩

set_option maxRecDepth 100000 in
set_option maxHeartbeats 1600000 in
theorem rfget_any (w : World) (v : Value) (l : List UInt8) (hby : By w w.heap.size v l) (hsz : l.length ≤ 1099511627776) :
    Calls Try.prog 60 #[v] w fun e w' => ∃ v', e = .returned (.tuple #[.agg #[.int .u8 ((sK l).toNat : Int), v'], .int .i64 ((sN l : Nat) : Int), .int .i64 (sE l)]) ∧ Ow w' w.heap.size v' (sL l) ∧ Below w.heap.size w w' := by
  have hby0 := hby
  obtain ⟨A, c, rfl, hc1, hc2, hrd⟩ := hby
  unfold maxLen at hc2
  have hN1 : SecAt ((w.alloc (.cells #[.int .u8 0, .slice none 0 0] 108)).alloc (.cells #[.int .u8 0, .slice none 0 0] 108)) (w.heap.size + 1) (.int .u8 0) (.slice none 0 0) := by simpa using SecAt.new_ (w.alloc (.cells #[.int .u8 0, .slice none 0 0] 108)) (.int .u8 0) (.slice none 0 0)
  obtain ⟨W0, hW0, hR, hN0, hb0⟩ : ∃ W0, ((w.alloc (.cells #[.int .u8 0, .slice none 0 0] 108)).alloc (.cells #[.int .u8 0, .slice none 0 0] 108)).setRow (w.heap.size + 1) #[.int .u8 0, .slice none 0 0] = W0 ∧ SecAt W0 w.heap.size (.int .u8 0) (.slice none 0 0) ∧ SecAt W0 (w.heap.size + 1) (.int .u8 0) (.slice none 0 0) ∧ Below w.heap.size w W0 :=
    ⟨_, rfl, ((SecAt.new_ w _ _).alloc (by simp) _).other _ (by omega) _, hN1.put _ _, bsetRow (bstep (balloc _ _) (balloc _ _)) (by omega) _⟩
  have hE : sE l = if l.length < 9 then 2 else if fitsB (l.take 9) = false then 5 else if 1048576 < sLen l then 4 else if l.length < sLen l + 13 then 2 else if fitsB ((l.drop 9).take (sLen l + 4)) then 0 else 5 := rfl
  have hN : sN l = if sE l = 0 then sLen l + 13 else 0 := rfl
  have hL : sL l = if sE l = 0 then (l.drop 9).take (sLen l) else [] := rfl
  have hK : sK l = if sE l = 0 then l.getD 0 0 else 0 := rfl
  have HE := Lib.hid hE
  have HN := Lib.hid hN
  have HL := Lib.hid hL
  have HK := Lib.hid hK
  clear hE hN hL hK
  generalize sE l = E at *
  generalize sN l = N at *
  generalize sL l = L at *
  generalize sK l = K0 at *
  by_cases h9 : l.length < 9
  · skip
    have e1 : E = 2 := by rw [HE.out, if_pos h9]
    have e2 : N = 0 := by rw [HN.out, e1]; rfl
    have e3 : L = [] := by rw [HL.out, e1]; rfl
    have e4 : K0 = 0 := by rw [HK.out, e1]; rfl
    subst e1
    subst e2
    subst e3
    subst e4
    clear HE HN HL HK
    go_enter Try.func60, Try.ntmps60
    go_wp2_with (first
      | (refine wpList_store_sec rfl (.tmp 5) _ rfl (w.heap.size + 1) _ _ (.int .u8 0) (.slice none 0 0) rfl rfl hN1 rfl rfl ?_
         rw [hW0]
         intro _)
      | (refine wpList_load_sec rfl (.tmp 5) rfl (w.heap.size + 1) _ _ rfl hN0 ?_)
      | (refine wpList_store_sec rfl (.tmp 2) _ rfl w.heap.size _ _ (.int .u8 0) (.slice none 0 0) rfl rfl hR rfl rfl ?_
         intro hs9))
    refine bodyPost_ret (results_sec rfl _ _ _ _ _ rfl hs9) rfl ?_
    exact ⟨_, rfl, Ow.nil_ _ _, bsetRow hb0 (Nat.le_refl _) _⟩
  · have hcut : By w w.heap.size (.slice A 9 c) (l.take 9) := hby0.front_ (by omega)
    have ht9 : (l.take 9).length = 9 := by simp; omega
    rw [if_neg h9] at HE
    cases hf : fitsB (l.take 9) with
    | false =>
      have hE9 : fitsE (l.take 9) = 5 := by unfold fitsE; rw [hf, ht9]; rfl
      have hL9 : fitsL (l.take 9) = [] := by unfold fitsL; rw [hf]; rfl
      have e1 : E = 5 := by rw [HE.out, if_pos hf]
      have e2 : N = 0 := by rw [HN.out, e1]; rfl
      have e3 : L = [] := by rw [HL.out, e1]; rfl
      have e4 : K0 = 0 := by rw [HK.out, e1]; rfl
      subst e1
      subst e2
      subst e3
      subst e4
      clear HE HN HL HK
      clear hrd
      generalize l.take 9 = t9 at *
      go_enter Try.func60, Try.ntmps60
      go_wp2_with (first
        | (refine wpList_store_sec rfl (.tmp 5) _ rfl (w.heap.size + 1) _ _ (.int .u8 0) (.slice none 0 0) rfl rfl hN1 rfl rfl ?_
           rw [hW0]
           intro _))
      refine (rfits_any _ _ t9 (hcut.step hb0) (by omega)).mono ?_
      rw [hE9, hL9]
      rintro e w1 ⟨v1, rfl, hown1, hb1⟩
      have hb01 := bstep hb0 hb1
      have hR1 := hR.below hR.lt hb1
      have hN2 := hN0.below hN0.lt hb1
      go_wp2_with (first
        | (refine wpList_load_sec rfl (.tmp 5) rfl (w.heap.size + 1) _ _ rfl hN2 ?_)
        | (refine wpList_store_sec rfl (.tmp 2) _ rfl w.heap.size _ _ (.int .u8 0) (.slice none 0 0) rfl rfl hR1 rfl rfl ?_
           intro hs9))
      refine bodyPost_ret (results_sec rfl _ _ _ _ _ rfl hs9) rfl ?_
      exact ⟨_, rfl, Ow.nil_ _ _, bsetRow hb01 (Nat.le_refl _) _⟩
    | true =>
      obtain ⟨ad, rfl, _, _⟩ := hrd.ad (by omega)
      have hL9 : fitsL (l.take 9) = l.take 5 := by unfold fitsL; rw [hf, ht9]; simp [List.take_take]
      have hE9 : fitsE (l.take 9) = 0 := by unfold fitsE; rw [hf, ht9]; rfl
      have hle : sLen l = (l.getD 1 0).toNat + 256 * (l.getD 2 0).toNat + 65536 * (l.getD 3 0).toNat + 16777216 * (l.getD 4 0).toNat := rfl
      have hlt := sLen_lt l
      rw [if_neg (show ¬ fitsB (l.take 9) = false by rw [hf]; simp)] at HE
      have hlen5 : (l.take 5).length = 5 := by simp; omega
      have hg : ∀ i, i < 5 → (l.take 5)[i]? = some (l.getD i 0) := by
        intro i hi
        rw [List.getElem?_take, if_pos hi]
        exact getD_get8 l i (by omega)
      have hcut2 : ∀ k, k ≤ l.length - 9 → By w w.heap.size (.slice (if c = 9 then some ad else some { block := ad.block, off := ad.off + 9 }) k (c - 9)) ((l.drop 9).take k) := fun k hk =>
        (hby0.back_ (k := 9) (by omega)).front_ (by simp; omega)
      have Hg := Lib.hid hg
      have Hle := Lib.hid hle
      have Hcut2 := Lib.hid hcut2
      clear hg hle hcut2 hrd
      generalize l.take 9 = t9 at *
      generalize l.take 5 = t5 at *
      go_enter Try.func60, Try.ntmps60
      go_wp2_with (first
        | (refine wpList_store_sec rfl (.tmp 5) _ rfl (w.heap.size + 1) _ _ (.int .u8 0) (.slice none 0 0) rfl rfl hN1 rfl rfl ?_
           rw [hW0]
           intro _))
      refine (rfits_any _ _ t9 (hcut.step hb0) (by omega)).mono ?_
      rw [hE9, hL9]
      rintro e w1 ⟨v1, rfl, hown1, hb1⟩
      have hb01 := bstep hb0 hb1
      have hR1 := hR.below hR.lt hb1
      have hN2 := hN0.below hN0.lt hb1
      have hW0s := hN0.lt
      obtain ⟨A1, c1, rfl, hd1, hd2, hf1⟩ := hown1.form_
      obtain ⟨g1, rfl, hg1, hg2⟩ := hf1 (by omega)
      have hx0 := hown1.cell_ rfl 0 _ (Hg.out 0 (by omega))
      have hx1 := hown1.cell_ rfl 1 _ (Hg.out 1 (by omega))
      have hx2 := hown1.cell_ rfl 2 _ (Hg.out 2 (by omega))
      have hx3 := hown1.cell_ rfl 3 _ (Hg.out 3 (by omega))
      have hx4 := hown1.cell_ rfl 4 _ (Hg.out 4 (by omega))
      rw [hlen5] at hd1 hown1
      unfold maxLen at hd2
      have Hle2 : Hid (sLen l = (l.getD 1 0).toNat + 256 * (l.getD 2 0).toNat + 65536 * (l.getD 3 0).toNat + 16777216 * (l.getD 4 0).toNat) := Hle
      clear Hle
      generalize l.getD 0 0 = x0 at *
      generalize l.getD 1 0 = x1 at *
      generalize l.getD 2 0 = x2 at *
      generalize l.getD 3 0 = x3 at *
      generalize l.getD 4 0 = x4 at *
      have b1 := u8_lt x1
      have b2 := u8_lt x2
      have b3 := u8_lt x3
      have b4 := u8_lt x4
      rw [hlen5]
      have hR2 := hR1
      have hN3 := hN2
      clear hW0 hN1
      go_wp2_with fail
      go_quiet (fail)
      have hn : (x1.toNat : Int) + 256 * (x2.toNat : Int) + 65536 * (x3.toNat : Int) + 16777216 * (x4.toNat : Int) = (sLen l : Int) := by rw [Hle2.out]; omega
      rw [hn]
      clear hx1 hx2 hx3 hx4 hn
      generalize sLen l = n at *
      have hR3 : SecAt (w1.drewN nq) w.heap.size (.int .u8 0) (.slice none 0 0) := hR2
      have hN4 : SecAt (w1.drewN nq) (w.heap.size + 1) (.int .u8 0) (.slice none 0 0) := hN3
      have hb2 : Below w.heap.size w (w1.drewN nq) := bdrewN hb01 nq
      have hx2 : (w1.drewN nq).cell? { block := g1, off := 0 } = some (.int .u8 (x0.toNat : Int)) := hx0
      have hown2 : Ow (w1.drewN nq) W0.heap.size (.slice (some ⟨g1, 0, none⟩) 5 c1) t5 := hown1
      clear hR1 hR2 hN2 hN3 hb01 hx0 hb1 hown1
      generalize w1.drewN nq = W at *
      by_cases hbig : 1048576 < n
      · skip
        have e1 : E = 4 := by rw [HE.out, if_pos hbig]
        have e2 : N = 0 := by rw [HN.out, e1]; rfl
        have e3 : L = [] := by rw [HL.out, e1]; rfl
        have e4 : K0 = 0 := by rw [HK.out, e1]; rfl
        subst e1
        subst e2
        subst e3
        subst e4
        clear HE HN HL HK
        clear Hcut2 Hle2
        go_wp2_with (first
          | (refine wpList_load_sec rfl (.tmp 5) rfl (w.heap.size + 1) _ _ rfl hN4 ?_)
          | (refine wpList_store_sec rfl (.tmp 2) _ rfl w.heap.size _ _ (.int .u8 0) (.slice none 0 0) rfl rfl hR3 rfl rfl ?_
             intro hs9))
        refine bodyPost_ret (results_sec rfl _ _ _ _ _ rfl hs9) rfl ?_
        exact ⟨_, rfl, Ow.nil_ _ _, bsetRow hb2 (Nat.le_refl _) _⟩
      · by_cases hsh : l.length < n + 13
        · skip
          have e1 : E = 2 := by rw [HE.out, if_neg hbig, if_pos hsh]
          have e2 : N = 0 := by rw [HN.out, e1]; rfl
          have e3 : L = [] := by rw [HL.out, e1]; rfl
          have e4 : K0 = 0 := by rw [HK.out, e1]; rfl
          subst e1
          subst e2
          subst e3
          subst e4
          clear HE HN HL HK
          clear Hcut2 Hle2
          go_wp2_with (first
            | (refine wpList_load_sec rfl (.tmp 5) rfl (w.heap.size + 1) _ _ rfl hN4 ?_)
            | (refine wpList_store_sec rfl (.tmp 2) _ rfl w.heap.size _ _ (.int .u8 0) (.slice none 0 0) rfl rfl hR3 rfl rfl ?_
               intro hs9))
          refine bodyPost_ret (results_sec rfl _ _ _ _ _ rfl hs9) rfl ?_
          exact ⟨_, rfl, Ow.nil_ _ _, bsetRow hb2 (Nat.le_refl _) _⟩
        · have hc3 := Hcut2.out (n + 4) (by omega)
          have hlen3 : ((l.drop 9).take (n + 4)).length = n + 4 := by simp; omega
          have htk : ((l.drop 9).take (n + 4)).take (((l.drop 9).take (n + 4)).length - 4) = (l.drop 9).take n := by
            rw [hlen3, List.take_take]; congr 1; omega
          have hc9 : ¬ c = 9 := by omega
          rw [if_neg hc9] at hc3
          have HtL : Hid (fitsL ((l.drop 9).take (n + 4)) = if fitsB ((l.drop 9).take (n + 4)) then (l.drop 9).take n else []) := by
            unfold Hid fitsL; rw [htk]
          have HtE : Hid (fitsE ((l.drop 9).take (n + 4)) = if fitsB ((l.drop 9).take (n + 4)) then 0 else 5) := by
            unfold Hid fitsE; rw [if_neg (by omega)]
          clear htk Hcut2 Hle2
          rw [if_neg hbig, if_neg hsh] at HE
          generalize (l.drop 9).take (n + 4) = tn at *
          generalize (l.drop 9).take n = own at *
          go_wp2_with fail
          rw [show n + 13 - 9 = n + 4 from by omega]
          refine (rfits_any _ _ tn (hc3.step hb2) (by omega)).mono ?_
          rw [HtE.out, HtL.out]
          cases hfb : fitsB tn with
          | false =>
            rw [hfb] at HE
            have e1 : E = 5 := by rw [HE.out, if_neg (by simp)]
            have e2 : N = 0 := by rw [HN.out, e1]; rfl
            have e3 : L = [] := by rw [HL.out, e1]; rfl
            have e4 : K0 = 0 := by rw [HK.out, e1]; rfl
            subst e1
            subst e2
            subst e3
            subst e4
            clear HE HN HL HK
            clear HtE HtL
            rintro e w3 ⟨v3, rfl, hown3, hb3⟩
            have hb23 := bstep hb2 hb3
            have hR4 := hR3.below hR3.lt hb3
            have hN5 := hN4.below hN4.lt hb3
            go_wp2_with (first
              | (refine wpList_load_sec rfl (.tmp 5) rfl (w.heap.size + 1) _ _ rfl hN5 ?_)
              | (refine wpList_store_sec rfl (.tmp 2) _ rfl w.heap.size _ _ (.int .u8 0) (.slice none 0 0) rfl rfl hR4 rfl rfl ?_
                 intro hs9))
            refine bodyPost_ret (results_sec rfl _ _ _ _ _ rfl hs9) rfl ?_
            exact ⟨_, rfl, Ow.nil_ _ _, bsetRow hb23 (Nat.le_refl _) _⟩
          | true =>
            have e1 : E = 0 := by rw [HE.out, hfb]; rfl
            have e2 : N = n + 13 := by rw [HN.out, e1]; rfl
            have e3 : L = own := by rw [HL.out, e1]; rfl
            have e4 : K0 = x0 := by rw [HK.out, e1]; rfl
            subst e1
            subst e2
            subst e3
            subst e4
            clear HE HN HL HK HtE HtL
            rintro e w3 ⟨v3, rfl, hown3, hb3⟩
            have hb23 := bstep hb2 hb3
            have hR4 := hR3.below hR3.lt hb3
            have hx3 : w3.cell? { block := g1, off := 0 } = some (.int .u8 (K0.toNat : Int)) := (hb3.cell (hown2.blk g1 rfl).2).trans hx2
            rw [if_pos rfl] at hown3
            obtain ⟨A3, c3, rfl, hd31, hd32, hf3⟩ := hown3.form_
            have hgs := hR3.lt
            go_wp2_with (refine wpList_store_sec rfl (.tmp 2) _ rfl w.heap.size _ _ (.int .u8 (K0.toNat : Int)) (.slice A3 L.length c3) rfl rfl hR4 rfl rfl ?_
                         intro hs4)
            have hown4 := (hown3.setRow_ hgs #[.int .u8 (K0.toNat : Int), .slice A3 L.length c3]).mono (Nat.le_of_lt hgs)
            refine bodyPost_ret (results_sec rfl _ _ _ _ _ rfl hs4) rfl ?_
            exact ⟨_, rfl, hown4, bsetRow hb23 (Nat.le_refl _) _⟩

end Go.Proofs.Ytpoicbhbkabllaa

namespace Go.Proofs.Ytpoicbhbkabllaa
set_option linter.unusedSimpArgs false
set_option linter.unusedVariables false
open Go.RowKit

def slenV : Value → Nat
  | .slice _ n _ => n
  | _ => 0
theorem rep_snoc (l : List UInt8) (k : Nat) : l ++ List.replicate k 0 ++ [0] = l ++ List.replicate (k + 1) 0 := by
  rw [List.append_assoc, ← List.replicate_succ']
set_option maxRecDepth 100000 in
set_option maxHeartbeats 1600000 in
theorem rput09_any (w : World) (v : Value) (m : MMan) (h : MAt w w.heap.size v m) (hm : mayM m = true) :
    Calls Try.prog 69 #[v] w fun e w' => ∃ v', e = .returned v' ∧ Ow w' w.heap.size v' (slotM m) ∧ Below w.heap.size w w' := by
  have hsz := mayM_len m hm
  obtain ⟨vf, rfl, hf⟩ := h
  obtain ⟨A, c, rfl, hc1, hc2⟩ := hf.form
  unfold maxLen at hc2
  obtain ⟨w0, hw0⟩ : ∃ w0, w0 = w.alloc (.cells (encM m (.slice A m.files.length c)).toArray 56) := ⟨_, rfl⟩
  have hb0 : Below w.heap.size w w0 := by rw [hw0]; exact balloc w _
  have hx0 : BoxAt 56 w0 w.heap.size (encM m (.slice A m.files.length c)) := by rw [hw0]; exact BoxAt.new_ _ _ _
  have Hw0 := Lib.hid hw0
  have X0 := Lib.hid hx0
  have Hb0 := Lib.hid hb0
  have Hf := Lib.hid ((hf.below hb0).more hb0.size)
  clear hw0 hx0 hb0 hf hm
  go_enter Try.func69, Try.ntmps69
  go_upto_region 1 with (fail)
  rw [← Hw0.out]
  go_wp2_with (refine wpList_load_agg rfl 56 (.tmp 1) rfl ⟨w.heap.size, 0, none⟩ rfl (encM m (.slice A m.files.length c)) X0.out.cells Try.underlying56 rfl info_man3 ?_)
  refine (rbody_any w0 _ m ⟨_, rfl, Hf.out⟩ (by omega)).mono ?_
  rintro _ w2 ⟨v2, rfl, how2, hb2⟩
  have hb12 := how2.by_
  obtain ⟨A2, c2, rfl, hd1, hd2⟩ := how2.form_
  have Hb2 := Lib.hid (bstep Hb0.out hb2)
  have Hby := Lib.hid hb12
  have hs2 := Hb2.out.size
  have hsl : slotM m = frameOf 77 (bodyM m) ++ List.replicate (2048 - ((bodyM m).length + 13)) 0 := rfl
  have Hsl := Lib.hid hsl
  generalize bodyM m = L at *
  clear how2 hb2 hb12 hsl
  go_wp2_with fail
  refine (rfput_any w2 77 _ L Hby.out (by omega)).mono ?_
  rintro _ w3 ⟨v3, rfl, ho3, hb3⟩
  have Hb3 := Lib.hid (bstep Hb2.out hb3)
  have ho4 := ho3.mono hs2
  have hfl := frameOf_length 77 L
  have Ho4 := Lib.hid ho4
  have hs3 := Hb3.out.size
  generalize frameOf 77 L = FL at *
  generalize L.length = nL at *
  clear ho3 ho4 hb3
  go_wp2_with fail
  go_loopw [3] (fun v wr => ∃ k : Nat, k ≤ 2048 - (nL + 13) ∧ Ow wr w.heap.size v (FL ++ List.replicate k 0) ∧ Below w.heap.size w wr) (fun v _ => 2048 - slenV v)
  case atStart => exact ⟨0, by omega, by simpa using Ho4.out, Hb3.out⟩
  case round =>
    obtain ⟨k, hk, hown, hbl⟩ := hrel
    have hln : (FL ++ List.replicate k (0 : UInt8)).length = nL + 13 + k := by simp [hfl]
    have hsn := rep_snoc FL k
    have Hown := Lib.hid hown
    have Hbl := Lib.hid hbl
    have hwr := hbl.size
    obtain ⟨A5, c5, rfl, hc5, hm5, -⟩ := hown.form_
    unfold maxLen at hm5
    rw [hln] at *
    clear hown hbl
    by_cases hlt : k < 2048 - (nL + 13)
    · have hd : decide ((nL : Int) + 13 + (k : Int) < 2048) = true := decide_eq_true (by omega)
      have Hsn := Lib.hid hsn
      have Hln := Lib.hid hln
      have Hlt : Hid (k + 1 ≤ 2048 - (nL + 13)) := hlt
      clear hsn hln
      go_wp2_with (at_builtin; go_loud (refine wpList_app1 rfl (.tmp 11) (.tmp 12) rfl (b := 0) Hown.out rfl rfl rfl (by simp [hfl]; omega) hwr ?_); intro v1 w1 hown1 hext1)
      rw [Hsn.out] at hown1
      have Hbl1 := Lib.hid (Hbl.out.trans (hext1.below hwr (fun q hq => (World.ownsRow.lt Hown.out q hq).1)))
      obtain ⟨A6, c6, rfl, -, -, -⟩ := hown1.form_
      have hl6 : (FL ++ List.replicate (k + 1) (0 : UInt8)).length = nL + 13 + (k + 1) := by simp [hfl]
      rw [hl6] at hown1
      have Hown1 := Lib.hid hown1
      clear hown1 hext1
      rw [hl6]
      go_wp2_with fail
      go_roundw
      case rel => exact ⟨k + 1, Hlt.out, Hown1.out, Hbl1.out⟩
      case measure => simp [slenV]; omega
    · have hd : decide ((nL : Int) + 13 + (k : Int) < 2048) = false := decide_eq_false (by omega)
      have hkN : 2048 - (nL + 13) = k := by omega
      have HkN := Lib.hid hkN
      clear hkN
      go_wp2_with fail
      go_ret
      exact ⟨_, rfl, by rw [Hsl.out, HkN.out]; exact Hown.out, Hbl.out⟩
end Go.Proofs.Ytpoicbhbkabllaa

namespace Go.Proofs.Ytpoicbhbkabllaa
set_option linter.unusedSimpArgs false
set_option linter.unusedVariables false
open Go.RowKit

def filtR (l : List RW) (i : Int) : List RW := l.filter (fun y => decide (y.1 ≠ i))
theorem filtR_snoc (l : List RW) (x : RW) (i : Int) : filtR (l ++ [x]) i = if x.1 = i then filtR l i else filtR l i ++ [x] := by
  unfold filtR
  rw [List.filter_append, List.filter_cons]
  by_cases h : x.1 = i
  · rw [if_pos h, if_neg (by simp [h])]; simp
  · rw [if_neg h, if_pos (by simp [h])]; simp
theorem filtR_le (l : List RW) (i : Int) : (filtR l i).length ≤ l.length := List.length_filter_le _ _
theorem info_rw : (Try.prog.info? 124).map (fun i => (i.zero, i.size, i.bytes)) = some (some (.agg #[.int .i64 0, .string ⟨#[]⟩]), 2, 24) := by kernel_rfl
theorem BoxAt.drewb {T : TypeId} {w : World} {g : Nat} {cs : List Value} (h : BoxAt T w g cs) : BoxAt T w.drew g cs := h
def zeroDc : List Value := [.int .i64 0, .bool false, .int .i64 0, .slice none 0 0, .slice none 0 0]

set_option maxRecDepth 100000 in
set_option maxHeartbeats 3200000 in
theorem rput (w : World) (O : Nat → Prop) (v : Value) (m : RD) (i : Int) (b : List UInt8) (hO : ∀ k, O k → k < w.heap.size) (hm : m.made.length ≤ 1000000) (hb : b.length = 128) (h : RDV w O v m) :
    Calls Try.prog 72 #[v, .agg #[.int .i64 i, .string (bst b)]] w fun e w' => ∃ v', e = .returned v' ∧ RDV w' (Onew O w w') v' (putRD m (i, b)) ∧ Below w.heap.size w w' := by
  obtain ⟨v1, v2, rfl, h1, h2, h3, h4⟩ := h
  obtain ⟨cn, of, fu, md, wt⟩ := m
  simp only at h1 h2 h3 h4 hm
  obtain ⟨A1, c1, rfl, hc1, hc2⟩ := h1.form
  obtain ⟨A2, c2, rfl, _⟩ := h2.form
  unfold maxLen at hc2
  have H1 := Lib.hid h1
  have H2 := Lib.hid h2
  have H3 := Lib.hid h3
  have H4 := Lib.hid h4
  have HB := Lib.hid hb
  have HO := Lib.hid hO
  clear h1 h2 h3 h4 hb hO
  -- the boxes
  obtain ⟨wa, hwa⟩ : ∃ wa, wa = w.alloc (.cells #[.int .i64 cn, .bool of, .int .i64 fu, .slice A1 md.length c1, .slice A2 wt.length c2] 42) := ⟨_, rfl⟩
  obtain ⟨wb, hwb⟩ : ∃ wb, wb = wa.alloc (.cells #[.int .i64 i, .string (bst b)] 124) := ⟨_, rfl⟩
  obtain ⟨wc, hwc⟩ : ∃ wc, wc = wb.alloc (.cells #[.int .i64 0, .bool false, .int .i64 0, .slice none 0 0, .slice none 0 0] 42) := ⟨_, rfl⟩
  obtain ⟨wd, hwd⟩ : ∃ wd, wd = wc.alloc (.cells #[] 124) := ⟨_, rfl⟩
  have za : wa.heap.size = w.heap.size + 1 := by rw [hwa]; simp
  have zb : wb.heap.size = w.heap.size + 1 + 1 := by rw [hwb]; simp [za]
  have zc : wc.heap.size = w.heap.size + 1 + 1 + 1 := by rw [hwc]; simp [zb]
  have zd : wd.heap.size = w.heap.size + 1 + 1 + 1 + 1 := by rw [hwd]; simp [zc]
  have ba := balloc w (.cells #[.int .i64 cn, .bool of, .int .i64 fu, .slice A1 md.length c1, .slice A2 wt.length c2] 42)
  have bb := balloc wa (.cells #[.int .i64 i, .string (bst b)] 124)
  have bc := balloc wb (.cells #[.int .i64 0, .bool false, .int .i64 0, .slice none 0 0, .slice none 0 0] 42)
  have bd := balloc wc (.cells #[] 124)
  have xa := BoxAt.new_ 42 w (encD ⟨cn, of, fu, md, wt⟩ (.slice A1 md.length c1) (.slice A2 wt.length c2))
  have xb := BoxAt.new_ 124 wa [.int .i64 i, .string (bst b)]
  have xc := BoxAt.new_ 42 wb zeroDc
  have xd := OwnR.new_ (E := 124) (C := cRW) (S := fun _ => False) (xs := []) wc [] rfl (Nat.zero_le _) (fun i cs x hc => by simp at hc) (fun k hk => hk.elim)
  rw [za] at xb
  rw [zb] at xc
  rw [zc] at xd
  have xa4 : BoxAt 42 wd w.heap.size (encD ⟨cn, of, fu, md, wt⟩ (.slice A1 md.length c1) (.slice A2 wt.length c2)) := by
    rw [hwd, hwc, hwb, hwa]; exact ((xa.alloc _).alloc _).alloc _
  have xb4 : BoxAt 124 wd (w.heap.size + 1) [.int .i64 i, .string (bst b)] := by
    rw [hwd, hwc, hwb]; exact (xb.alloc _).alloc _
  have xc4 : BoxAt 42 wd (w.heap.size + 1 + 1) zeroDc := by
    rw [hwd, hwc]; exact xc.alloc _
  have xd4 : OwnF 124 cRW wd (w.heap.size + 1 + 1 + 1) (.slice (some ⟨w.heap.size + 1 + 1 + 1, 0, none⟩) 0 0) [] := by
    rw [hwd]; exact xd
  rw [← hwa] at ba
  rw [← hwb] at bb
  rw [← hwc] at bc
  rw [← hwd] at bd
  have b4 : Below w.heap.size w wd := ((ba.trans (bb.mono (by omega))).trans (bc.mono (by omega))).trans (bd.mono (by omega))
  have Xa := Lib.hid xa4
  have Xb := Lib.hid xb4
  have Xc := Lib.hid xc4
  have Xd := Lib.hid xd4
  have B4 := Lib.hid b4
  have R1 := Lib.hid (H1.out.below b4 HO.out)
  have R2 := Lib.hid (H2.out.below b4 HO.out)
  have Hwa := Lib.hid hwa
  have Hwb := Lib.hid hwb
  have Hwc := Lib.hid hwc
  have Hwd := Lib.hid hwd
  have Za := Lib.hid za
  have Zb := Lib.hid zb
  have Zc := Lib.hid zc
  have Zd := Lib.hid zd
  clear xa xb xc xd xa4 xb4 xc4 xd4 b4 ba bb bc bd hwa hwb hwc hwd za zb zc zd H1 H2
  go_enter Try.func72, Try.ntmps72
  go_wp2_with fail
  rw [← Hwa.out, ← Hwb.out, ← Hwc.out, ← Hwd.out]
  generalize hg : w.heap.size = g at *
  have Hg := Lib.hid hg
  clear hg
  go_loopw [5, 6, 11] (fun ov xv iv wr => ∃ k : Nat, k ≤ md.length ∧ iv = .int .i64 k ∧ OwnF 124 cRW wr (g + 1 + 1 + 1) ov (filtR (md.take k) i) ∧ Below (g + 1 + 1 + 1) wd wr ∧ BoxAt 42 wr g (encD ⟨cn, of, fu, md, wt⟩ (.slice A1 md.length c1) (.slice A2 wt.length c2)) ∧ BoxAt 124 wr (g + 1) [.int .i64 i, .string (bst b)] ∧ BoxAt 42 wr (g + 1 + 1) zeroDc) (fun _ _ i _ => md.length - (intOf i).toNat)
  case atStart => exact ⟨0, by omega, rfl, Xd.out, Below.refl _ _, Xa.out, Xb.out, Xc.out⟩
  case round =>
    obtain ⟨k, hk, rfl, yo, yl, ya, yb, yc⟩ := hrel
    have hwz : g + 1 + 1 + 1 ≤ wr.heap.size := by have := yl.size; have := Zd.out; omega
    obtain ⟨A5, c5, rfl, q1, q2, _⟩ := yo.form'
    unfold maxLen at q2
    have Yo := Lib.hid yo
    have Yl := Lib.hid yl
    have Ya := Lib.hid ya
    have Yb := Lib.hid yb
    have Yc := Lib.hid yc
    have hr1 := R1.out.below (yl.mono (show g ≤ g + 1 + 1 + 1 by omega)) HO.out
    have hc3' := ya.cell 3 _ rfl
    clear yo yl ya yb yc
    by_cases hlt : k < md.length
    · obtain ⟨_, ad, rfl, hab, k1, k2⟩ := hr1.cells k hlt
      have hok := hr1.ok
      have htk : md.take (k + 1) = md.take k ++ [md[k]] := by rw [List.take_add_one, List.getElem?_eq_getElem hlt]; rfl
      have hfl := filtR_le (md.take k) i
      clear hr1
      have hsn := filtR_snoc (md.take k) (md[k]) i
      rw [← htk] at hsn
      generalize hx : md[k] = x at *
      obtain ⟨x1, x2⟩ := x
      simp only at k1 k2 hsn
      have hxl : x2.length = 128 := by have := hok (x1, x2) (by rw [← hx]; exact List.getElem_mem hlt); exact this
      have Hx := Lib.hid hx
      clear hx htk hok
      by_cases he : x1 = i
      · rw [if_pos he] at hsn
        have hne : (x1 != i) = false := by simp [he]
        have Hsn := Lib.hid hsn
        clear he hsn
        go_wp2_with fail
        refine wp_region_mixL (ds := [14, 15, 16, 17, 18, 19, 20, 21, 22]) 9 (fun _ _ W' => W' = wr.drew) [some 14, some 15, some 16, some 17, some 18, some 19, some 20, some 21, some 22]
          [fun v => v = .pointer (some ⟨g, 3, none⟩), fun v => v = .slice (some ad) md.length c1, fun v => v = .int .i64 (k : Int), fun v => v = .pointer (some (ad.add (k * 2))), fun v => v = .pointer (some (ad.add (k * 2))), fun v => v = .int .i64 x1, fun v => v = .pointer (some ⟨g + 1, 0, none⟩), fun v => v = .int .i64 i, fun v => v = .bool false]
          rfl rfl rfl (by kernel_rfl) (by kernel_rfl) ?_ (fun _ => rfl) ?_
        · refine ⟨?_, ?_, ?_, ?_, ?_, ?_, ?_, ?_, ?_, trivial⟩
          · -- 0: slot 14 := Op.fieldAddr 42 t2 3
            refine obM_yes fun f bb w' hj hs hd hp => ?_
            simp [PreO, factO, valOf, Region.binds] at hp
            have hj' : w' = wr.drew := hj
            subst hj'
            refine ⟨by simp [Gd, valOf, hp], ?_⟩
            refine mildM_val (.pointer (some ⟨g, 3, none⟩)) ?_ rfl rfl
            simp [execOp, evalF, hp, go_sem]
          · -- 1: slot 15 := Op.load 40 t14
            refine obM_yes fun f bb w' hj hs hd hp => ?_
            simp [PreO, factO, valOf, Region.binds] at hp
            have hj' : w' = wr.drew := hj
            subst hj'
            refine ⟨by simp [Gd, valOf, hp], ?_⟩
            have hc := Ya.out.cell 3 _ rfl
            refine mildM_val (.slice (some ad) md.length c1) ?_ rfl rfl
            simp [execOp, evalF, hp, go_sem, hc]
          · -- 2: slot 16 := Op.move t6
            refine obM_yes fun f bb w' hj hs hd hp => ?_
            simp [PreO, factO, valOf, Region.binds] at hp
            have hj' : w' = wr.drew := hj
            subst hj'
            refine ⟨by simp [Gd, valOf, hp], ?_⟩
            refine mildM_val (.int .i64 (k : Int)) ?_ rfl rfl
            simp [execOp, evalF, hp, go_sem]
          · -- 3: slot 17 := Op.indexAddr 40 t15 t16
            refine obM_yes fun f bb w' hj hs hd hp => ?_
            simp [PreO, factO, valOf, Region.binds] at hp
            have hj' : w' = wr.drew := hj
            subst hj'
            refine ⟨by simp [Gd, valOf, hp], ?_⟩
            have hkk := hlt
            refine mildM_val (.pointer (some (ad.add (k * 2)))) ?_ rfl rfl
            simp [execOp, evalF, hp, go_sem, hkk]
          · -- 4: slot 18 := Op.fieldAddr 124 t17 0
            refine obM_yes fun f bb w' hj hs hd hp => ?_
            simp [PreO, factO, valOf, Region.binds] at hp
            have hj' : w' = wr.drew := hj
            subst hj'
            refine ⟨by simp [Gd, valOf, hp], ?_⟩
            refine mildM_val (.pointer (some (ad.add (k * 2)))) ?_ rfl rfl
            simp [execOp, evalF, hp, go_sem]
          · -- 5: slot 19 := Op.load 3 t18
            refine obM_yes fun f bb w' hj hs hd hp => ?_
            simp [PreO, factO, valOf, Region.binds] at hp
            have hj' : w' = wr.drew := hj
            subst hj'
            refine ⟨by simp [Gd, valOf, hp], ?_⟩
            have hc := k1
            refine mildM_val (.int .i64 x1) ?_ rfl rfl
            simp [execOp, evalF, hp, go_sem, hc]
          · -- 6: slot 20 := Op.fieldAddr 124 t3 0
            refine obM_yes fun f bb w' hj hs hd hp => ?_
            simp [PreO, factO, valOf, Region.binds] at hp
            have hj' : w' = wr.drew := hj
            subst hj'
            refine ⟨by simp [Gd, valOf, hp], ?_⟩
            refine mildM_val (.pointer (some ⟨g + 1, 0, none⟩)) ?_ rfl rfl
            simp [execOp, evalF, hp, go_sem]
          · -- 7: slot 21 := Op.load 3 t20
            refine obM_yes fun f bb w' hj hs hd hp => ?_
            simp [PreO, factO, valOf, Region.binds] at hp
            have hj' : w' = wr.drew := hj
            subst hj'
            refine ⟨by simp [Gd, valOf, hp], ?_⟩
            have hc := Yb.out.cell 0 _ rfl
            refine mildM_val (.int .i64 i) ?_ rfl rfl
            simp [execOp, evalF, hp, go_sem, hc]
          · -- 8: slot 22 := Op.binOp BinOp.neq 3 t19 t21 3
            refine obM_yes fun f bb w' hj hs hd hp => ?_
            simp [PreO, factO, valOf, Region.binds] at hp
            have hj' : w' = wr.drew := hj
            subst hj'
            refine ⟨by simp [Gd, valOf, hp], ?_⟩
            refine mildM_val (.bool false) ?_ rfl rfl
            simp [execOp, evalF, hp, go_sem, hne]
        · intro f bb wd hall hj hp
          have hj' : wd = wr.drew := hj
          subst hj'
          clear hall hj
          simp only [PostO] at hp
          obtain ⟨e0, e1, e2, e3, e4, e5, e6, e7, e8, _⟩ := hp
          simp only [fills, List.foldl_cons, List.foldl_nil, Act.put, List.setIfInBounds_toArray, List.set_cons_zero, List.set_cons_succ, e0, e1, e2, e3, e4, e5, e6, e7, e8]
          clear e0 e1 e2 e3 e4 e5 e6 e7 e8
          simp only [List.drop_succ_cons, List.drop_zero]
          go_wp2_with fail
          go_roundw
          case rel => exact ⟨k + 1, by omega, by go_num, by rw [Hsn.out]; exact Yo.out, Yl.out.drew, Ya.out, Yb.out, Yc.out⟩
          case measure => simp [intOf]; omega
      · rw [if_neg he] at hsn
        have hne : (x1 != i) = true := by simp [he]
        have Hsn := Lib.hid hsn
        have Hk2 := Lib.hid k2
        clear he hsn
        go_wp2_with fail
        refine wp_region_mixL (ds := [14, 15, 16, 17, 18, 19, 20, 21, 22]) 9 (fun _ _ W' => W' = wr.drew) [some 14, some 15, some 16, some 17, some 18, some 19, some 20, some 21, some 22]
          [fun v => v = .pointer (some ⟨g, 3, none⟩), fun v => v = .slice (some ad) md.length c1, fun v => v = .int .i64 (k : Int), fun v => v = .pointer (some (ad.add (k * 2))), fun v => v = .pointer (some (ad.add (k * 2))), fun v => v = .int .i64 x1, fun v => v = .pointer (some ⟨g + 1, 0, none⟩), fun v => v = .int .i64 i, fun v => v = .bool true]
          rfl rfl rfl (by kernel_rfl) (by kernel_rfl) ?_ (fun _ => rfl) ?_
        · refine ⟨?_, ?_, ?_, ?_, ?_, ?_, ?_, ?_, ?_, trivial⟩
          · -- 0: slot 14 := Op.fieldAddr 42 t2 3
            refine obM_yes fun f bb w' hj hs hd hp => ?_
            simp [PreO, factO, valOf, Region.binds] at hp
            have hj' : w' = wr.drew := hj
            subst hj'
            refine ⟨by simp [Gd, valOf, hp], ?_⟩
            refine mildM_val (.pointer (some ⟨g, 3, none⟩)) ?_ rfl rfl
            simp [execOp, evalF, hp, go_sem]
          · -- 1: slot 15 := Op.load 40 t14
            refine obM_yes fun f bb w' hj hs hd hp => ?_
            simp [PreO, factO, valOf, Region.binds] at hp
            have hj' : w' = wr.drew := hj
            subst hj'
            refine ⟨by simp [Gd, valOf, hp], ?_⟩
            have hc := Ya.out.cell 3 _ rfl
            refine mildM_val (.slice (some ad) md.length c1) ?_ rfl rfl
            simp [execOp, evalF, hp, go_sem, hc]
          · -- 2: slot 16 := Op.move t6
            refine obM_yes fun f bb w' hj hs hd hp => ?_
            simp [PreO, factO, valOf, Region.binds] at hp
            have hj' : w' = wr.drew := hj
            subst hj'
            refine ⟨by simp [Gd, valOf, hp], ?_⟩
            refine mildM_val (.int .i64 (k : Int)) ?_ rfl rfl
            simp [execOp, evalF, hp, go_sem]
          · -- 3: slot 17 := Op.indexAddr 40 t15 t16
            refine obM_yes fun f bb w' hj hs hd hp => ?_
            simp [PreO, factO, valOf, Region.binds] at hp
            have hj' : w' = wr.drew := hj
            subst hj'
            refine ⟨by simp [Gd, valOf, hp], ?_⟩
            have hkk := hlt
            refine mildM_val (.pointer (some (ad.add (k * 2)))) ?_ rfl rfl
            simp [execOp, evalF, hp, go_sem, hkk]
          · -- 4: slot 18 := Op.fieldAddr 124 t17 0
            refine obM_yes fun f bb w' hj hs hd hp => ?_
            simp [PreO, factO, valOf, Region.binds] at hp
            have hj' : w' = wr.drew := hj
            subst hj'
            refine ⟨by simp [Gd, valOf, hp], ?_⟩
            refine mildM_val (.pointer (some (ad.add (k * 2)))) ?_ rfl rfl
            simp [execOp, evalF, hp, go_sem]
          · -- 5: slot 19 := Op.load 3 t18
            refine obM_yes fun f bb w' hj hs hd hp => ?_
            simp [PreO, factO, valOf, Region.binds] at hp
            have hj' : w' = wr.drew := hj
            subst hj'
            refine ⟨by simp [Gd, valOf, hp], ?_⟩
            have hc := k1
            refine mildM_val (.int .i64 x1) ?_ rfl rfl
            simp [execOp, evalF, hp, go_sem, hc]
          · -- 6: slot 20 := Op.fieldAddr 124 t3 0
            refine obM_yes fun f bb w' hj hs hd hp => ?_
            simp [PreO, factO, valOf, Region.binds] at hp
            have hj' : w' = wr.drew := hj
            subst hj'
            refine ⟨by simp [Gd, valOf, hp], ?_⟩
            refine mildM_val (.pointer (some ⟨g + 1, 0, none⟩)) ?_ rfl rfl
            simp [execOp, evalF, hp, go_sem]
          · -- 7: slot 21 := Op.load 3 t20
            refine obM_yes fun f bb w' hj hs hd hp => ?_
            simp [PreO, factO, valOf, Region.binds] at hp
            have hj' : w' = wr.drew := hj
            subst hj'
            refine ⟨by simp [Gd, valOf, hp], ?_⟩
            have hc := Yb.out.cell 0 _ rfl
            refine mildM_val (.int .i64 i) ?_ rfl rfl
            simp [execOp, evalF, hp, go_sem, hc]
          · -- 8: slot 22 := Op.binOp BinOp.neq 3 t19 t21 3
            refine obM_yes fun f bb w' hj hs hd hp => ?_
            simp [PreO, factO, valOf, Region.binds] at hp
            have hj' : w' = wr.drew := hj
            subst hj'
            refine ⟨by simp [Gd, valOf, hp], ?_⟩
            refine mildM_val (.bool true) ?_ rfl rfl
            simp [execOp, evalF, hp, go_sem, hne]
        · intro f bb wd hall hj hp
          have hj' : wd = wr.drew := hj
          subst hj'
          clear hall hj
          simp only [PostO] at hp
          obtain ⟨e0, e1, e2, e3, e4, e5, e6, e7, e8, _⟩ := hp
          simp only [fills, List.foldl_cons, List.foldl_nil, Act.put, List.setIfInBounds_toArray, List.set_cons_zero, List.set_cons_succ, e0, e1, e2, e3, e4, e5, e6, e7, e8]
          clear e0 e1 e2 e3 e4 e5 e6 e7 e8
          simp only [List.drop_succ_cons, List.drop_zero]
          have hc3 := (Ya.out.drewb).cell 3 _ rfl
          go_wp2_with (at_builtin; refine wpList_app1R (C := cRW) rfl (.tmp 23) (.tmp 29) 40 rfl Try.underlying40 info_rw rfl (by decide) (by decide) [.int .i64 x1, .string (bst x2)] (y := (x1, x2)) (Yo.out.below_ (Below.refl _ wr).drew) ⟨rfl, hxl⟩ rfl rfl (by have := filtR_le (md.take k) i; simp at this; omega) hwz ?_; intro v7 w7 o7 e7)
          have o8 := o7
          rw [← Hsn.out] at o8
          have hne1 : ∀ q, q < g + 1 + 1 + 1 → (Value.slice A5 (filtR (List.take k md) i).length c5).ownBlock ≠ some q := fun q hq e => by have := (Yo.out.blk q e).1; omega
          have b8 := Yl.out.drew.trans (e7.below (by show g + 1 + 1 + 1 ≤ wr.heap.size; omega) (fun q hq => (Yo.out.blk q hq).1))
          have y1 := (Ya.out.drewb).grown e7.gr (hne1 _ (by omega))
          have y2 := (Yb.out.drewb).grown e7.gr (hne1 _ (by omega))
          have y3 := (Yc.out.drewb).grown e7.gr (hne1 _ (by omega))
          go_roundw
          case rel => exact ⟨k + 1, by omega, by go_num, o8, b8, y1, y2, y3⟩
          case measure => simp [intOf]; omega
    · obtain rfl : k = md.length := by omega
      rw [List.take_length] at *
      have hok : ∀ x ∈ filtR md i, True := fun _ _ => trivial
      have hfl : (filtR md i).length ≤ 1000000 := by have := filtR_le md i; omega
      have hc0 := Yb.out.cell 0 _ rfl
      have hc1' := Yb.out.cell 1 _ rfl
      clear hr1 hok
      go_wp2_with (first
        | (at_builtin
           refine wpList_app1R (C := cRW) rfl (.tmp 32) (.tmp 34) 40 rfl Try.underlying40 info_rw rfl (by decide) (by decide) [.int .i64 i, .string (bst b)] (y := (i, b)) Yo.out ⟨rfl, HB.out⟩ rfl rfl (by omega) hwz ?_
           intro v7 w7 o7 e7
           have hne1 : ∀ q, q < g + 1 + 1 + 1 → (Value.slice A5 (filtR md i).length c5).ownBlock ≠ some q := fun q hq e => by have := (Yo.out.blk q e).1; omega
           have y1 := Ya.out.grown e7.gr (hne1 _ (by omega))
           have y3 := Yc.out.grown e7.gr (hne1 _ (by omega))
           have Y3 := Lib.hid y3
           have b8 := Lib.hid (Yl.out.trans (e7.below hwz (fun q hq => (Yo.out.blk q hq).1)))
           have hz7 := e7.gr.size
           obtain ⟨A7, c7, rfl, p1, p2, _⟩ := o7.form'
           rw [List.length_append, List.length_singleton] at o7 p1
           have O7 := Lib.hid o7
           have hload := (y1.put 3 (.slice A7 ((filtR md i).length + 1) c7)).cells
           have Hload := Lib.hid hload
           have hst := y3.other ⟨g, 3, none⟩ (.slice A7 ((filtR md i).length + 1) c7) (by show g ≠ g + 1 + 1; omega)
           have Hst := Lib.hid hst
           have f3 := y1.frozen 3
           have c3 := y1.cell 3 _ rfl
           clear hne1 y1 y3 e7 o7 hc0 hc1' hc3' hload hst)
        | (refine wpList_load_agg rfl 42 (.tmp 2) rfl ⟨g, 0, none⟩ rfl (encD ⟨cn, of, fu, filtR md i ++ [(i, b)], wt⟩ (.slice A7 ((filtR md i).length + 1) c7) (.slice A2 wt.length c2)) Hload.out Try.underlying42 rfl (by kernel_rfl) ?_)
        | (refine wpList_store_box rfl 42 42 (.tmp 4) (.tmp 37) rfl (g + 1 + 1) zeroDc (encD ⟨cn, of, fu, filtR md i ++ [(i, b)], wt⟩ (.slice A7 ((filtR md i).length + 1) c7) (.slice A2 wt.length c2)) rfl rfl Hst.out rfl (by simp [Value.oneCell']) (by kernel_rfl) ?_; intro hend))
      have hg0 := Hg.out
      generalize hWx : (w7.setCell ⟨g, 3, none⟩ (.slice A7 ((filtR md i).length + 1) c7)) = Wx at *
      have gx : w7.grownBy Wx (some g) := by rw [← hWx]; exact gset w7 ⟨g, 3, none⟩ _
      generalize hWy : Wx.setRow (g + 1 + 1) (encD ⟨cn, of, fu, filtR md i ++ [(i, b)], wt⟩ (.slice A7 ((filtR md i).length + 1) c7) (.slice A2 wt.length c2)).toArray = Wy at *
      have gy : Wx.grownBy Wy (some (g + 1 + 1)) := by rw [← hWy]; exact gsetRow' Wx (g + 1 + 1) _
      have gz : Below g wd Wy := ((b8.out.mono (by omega)).grown gx (by omega) (fun k e => by injection e with e; omega)).grown gy (by have := gx.size; omega) (fun k e => by injection e with e; omega)
      have hob : ∀ q, (Value.slice A7 ((filtR md i).length + 1) c7).ownBlock = some q → g + 1 + 1 + 1 ≤ q := fun q hq => (O7.out.blk q hq).1
      have k1 := (O7.out.keep gx (by
        cases hv : (Value.slice A7 ((filtR md i).length + 1) c7).ownBlock with
        | none => exact .inl rfl
        | some q => exact .inr (fun e => by have := hob q hv; injection e with e; omega)) (fun k hk => hk.elim)).keep gy (by
        cases hv : (Value.slice A7 ((filtR md i).length + 1) c7).ownBlock with
        | none => exact .inl rfl
        | some q => exact .inr (fun e => by have := hob q hv; injection e with e; omega)) (fun k hk => hk.elim)
      have hOg : ∀ k, O k → k < g := HO.out
      have k2 : ByR Wy (Onew O w Wy) (.slice A7 ((filtR md i).length + 1) c7) (filtR md i ++ [(i, b)]) := k1.row.mono (fun q hq => .inr ⟨by rw [hg0]; omega, hq.2⟩) (fun _ h => h.elim)
      have k3 := (R2.out.below gz hOg).more (O' := Onew O w Wy) (fun k hk => .inl hk)
      refine bodyPost_ret (results_c rfl _ _ (g + 1 + 1) (encD ⟨cn, of, fu, filtR md i ++ [(i, b)], wt⟩ (.slice A7 ((filtR md i).length + 1) c7) (.slice A2 wt.length c2)) rfl (fun j v hj => (hend.cells j v hj : _)) Try.underlying42 rfl (by kernel_rfl)) rfl ?_
      refine ⟨_, rfl, RDV.mk' (m := ⟨cn, of, fu, filtR md i ++ [(i, b)], wt⟩) k2 k3 H3.out H4.out, ?_⟩
      rw [hg0]
      exact B4.out.trans gz
end Go.Proofs.Ytpoicbhbkabllaa

namespace Go.Proofs.Ytpoicbhbkabllaa
set_option linter.unusedSimpArgs false
set_option linter.unusedVariables false
open Go.RowKit

def rslotK (m : RD) (n k : Nat) : List UInt8 := (List.range k).flatMap fun i => readRL m ((n * 16 + i : Nat) : Int)
def rslotL (m : RD) (n : Nat) : List UInt8 := rslotK m n 16
theorem rslotK_succ (m : RD) (n k : Nat) : rslotK m n (k + 1) = rslotK m n k ++ readRL m ((n * 16 + k : Nat) : Int) := by
  unfold rslotK
  rw [List.range_succ, List.flatMap_append]
  simp
theorem rslotK_len (m : RD) (h : ∀ i, (readRL m i).length ≤ 128) (n k : Nat) : (rslotK m n k).length ≤ k * 128 := by
  induction k with
  | zero => simp [rslotK]
  | succ k ih =>
    rw [rslotK_succ, List.length_append]
    have := h ((n * 16 + k : Nat) : Int)
    omega
theorem info_rD5 : (Try.prog.info? 42).map (·.size) = some 5 := by kernel_rfl
set_option maxRecDepth 100000 in
set_option maxHeartbeats 1600000 in
theorem rslot_any (w : World) (O : Nat → Prop) (v : Value) (m : RD) (n : Nat) (hn : n < 2) (hO : ∀ k, O k → k < w.heap.size) (hl : m.made.length ≤ 1000000) (hl2 : m.wait.length ≤ 1000000) (h : RDV w O v m) (h128 : ∀ i, (readRL m i).length ≤ 128) :
    Calls Try.prog 39 #[v, .int .i64 n] w fun e w' => ∃ v', e = .returned v' ∧ Ow w' w.heap.size v' (rslotL m n) ∧ Below w.heap.size w w' := by
  have Hv := Lib.hid h
  obtain ⟨v1, v2, rfl, h1, h2, h3, h4⟩ := h
  obtain ⟨w0, hw0⟩ : ∃ w0, w0 = w.alloc (.cells [Value.int .i64 m.count, .bool m.off, .int .i64 m.fuse, v1, v2].toArray 42) := ⟨_, rfl⟩
  have hb0 : Below w.heap.size w w0 := by rw [hw0]; exact balloc w _
  have hx0 : BoxAt 42 w0 w.heap.size [Value.int .i64 m.count, .bool m.off, .int .i64 m.fuse, v1, v2] := by rw [hw0]; exact BoxAt.new_ _ _ _
  have hz0 : w0.heap.size = w.heap.size + 1 := by rw [hw0]; simp
  have hw0' : w0 = w.alloc (.cells #[Value.int .i64 m.count, .bool m.off, .int .i64 m.fuse, v1, v2] 42) := hw0
  have Hw0 := Lib.hid hw0'
  have Hb0 := Lib.hid hb0
  have Hx0 := Lib.hid hx0
  have HO := Lib.hid hO
  have H128 := Lib.hid h128
  clear hw0 hw0' hb0 hx0 h1 h2 h3 h4 hO h128
  go_enter Try.func39, Try.ntmps39
  go_upto_region 1 with (fail)
  rw [← Hw0.out]
  have hwz : Ow (w0.alloc (.cells #[] 5)) w.heap.size (.slice (some ⟨w.heap.size + 1, 0, none⟩) 0 0) (rslotK m n 0) := by
    rw [← hz0]
    exact (Ow.new_ w0 [] (Nat.zero_le _)).mono (by omega)
  have Hwz := Lib.hid hwz
  have hbz : Below w.heap.size w (w0.alloc (.cells #[] 5)) := bstep Hb0.out (balloc _ _)
  have hxz := Hx0.out.alloc (.cells #[] 5)
  have Hbz := Lib.hid hbz
  have Hxz := Lib.hid hxz
  clear hwz hbz hxz
  go_wp2_with fail
  go_loopw [5, 6] (fun ov iv wr => ∃ k : Nat, k ≤ 16 ∧ iv = .int .i64 k ∧ Ow wr w.heap.size ov (rslotK m n k) ∧ Below w.heap.size w wr ∧ BoxAt 42 wr w.heap.size [Value.int .i64 m.count, .bool m.off, .int .i64 m.fuse, v1, v2] ∧ ov.ownBlock ≠ some w.heap.size) (fun _ i _ => 16 - (intOf i).toNat)
  case atStart => exact ⟨0, by omega, rfl, Hwz.out, Hbz.out, Hxz.out, by simp [Value.ownBlock]⟩
  case round =>
    obtain ⟨k, hk, rfl, how, hbr, hxr, hne⟩ := hrel
    obtain ⟨A1, c1, hv1, _, _, _⟩ := how.form_
    subst hv1
    have hsr := hbr.size
    have hln := rslotK_len m H128.out n k
    have hsu := rslotK_succ m n k
    have How := Lib.hid how
    have Hbr := Lib.hid hbr
    have hlt0 := hxr.lt
    have Hxr := Lib.hid hxr
    have Hne := Lib.hid hne
    clear how hbr hxr hne
    by_cases hlt : k < 16
    · have hr := rread wr O _ m ((n * 16 + k : Nat) : Int) (fun q hq => by have := HO.out q hq; omega) hl hl2 (Hv.out.below Hbr.out HO.out)
      have hle := H128.out ((n * 16 + k : Nat) : Int)
      have hcast : ((n * 16 + k : Nat) : Int) = 16 * (n : Int) + (k : Int) := by omega
      rw [hcast] at hr hsu hle
      have Hr := Lib.hid hr
      have Hsu := Lib.hid hsu
      generalize readRL m (16 * (n : Int) + (k : Int)) = rl at *
      generalize readRE m (16 * (n : Int) + (k : Int)) = re at *
      clear hr hsu hcast
      go_wp2_with (refine wpList_load_agg rfl 42 (.tmp 2) rfl ⟨w.heap.size, 0, none⟩ rfl [Value.int .i64 m.count, .bool m.off, .int .i64 m.fuse, v1, v2] Hxr.out.cells Try.underlying42 rfl info_rD5 ?_)
      refine Hr.out.mono ?_
      rintro _ w1 ⟨rfl, hb1⟩
      have How1 := Lib.hid (How.out.below_ hb1)
      have Hb1 := Lib.hid (Hbr.out.trans (hb1.mono hsr))
      have Hx1 := Lib.hid (Hxr.out.blwM hb1)
      have hs1 := hb1.size
      clear hb1 How Hbr Hxr
      go_wp2_with (first
        | (refine wpList_conv_sb rfl (.tmp 24) rfl rl rfl (by omega) ?_
           intro cc w2 hsb
           have Hby2 := Lib.hid hsb.by_
           have How2 := Lib.hid (How1.out.below_ hsb.below)
           have Hb2 := Lib.hid (Hb1.out.trans (hsb.below.mono (by omega)))
           have Hx2 := Lib.hid (Hx1.out.blwM hsb.below)
           have hs2 := hsb.below.size
           clear hsb)
        | (at_builtin
           refine wpList_app8 rfl (.tmp 23) (.tmp 25) rfl How2.out Hby2.out rfl rfl (by omega) (by omega) ?_
           intro v3 w3 ho3 hx3
           have Ho3 := Lib.hid ho3
           have Hx3 := Lib.hid hx3
           clear ho3 hx3))
      go_roundw
      case rel =>
        refine ⟨k + 1, by omega, by go_num, by rw [Hsu.out]; exact Ho3.out, Hb2.out.trans (Hx3.out.below (by omega) (fun q hq => (How2.out.blk q hq).1)), Hx2.out.grown Hx3.out.gr Hne.out, Hx3.out.neM (by omega) Hne.out⟩
      case measure => simp [intOf]; omega
    · obtain rfl : k = 16 := by omega
      go_wp2_with fail
      go_ret
      exact ⟨_, rfl, How.out, Hbr.out⟩
end Go.Proofs.Ytpoicbhbkabllaa

namespace Go.Proofs.Ytpoicbhbkabllaa
set_option linter.unusedSimpArgs false
set_option linter.unusedVariables false
open Go.RowKit

def madeR (d : DState) (k : Nat) : List RW := (List.range k).map fun i : Nat => (((i : Nat) : Int), readL d ((i : Nat) : Int))
def modelR (d : DState) (k : Nat) : RD := { count := (d.bl.length : Int), off := false, fuse := -1, made := madeR d k, wait := [] }
theorem madeR_succ (d : DState) (k : Nat) : madeR d (k + 1) = madeR d k ++ [((k : Int), readL d (k : Int))] := by simp [madeR, List.range_succ]
theorem madeR_len (d : DState) (k : Nat) : (madeR d k).length = k := by simp [madeR]
theorem lastR_made (d : DState) (i : Nat) (z : List UInt8) : ∀ k, lastR (madeR d k) (i : Int) z = if i < k then readL d (i : Int) else z
  | 0 => by simp [madeR, lastR]
  | k + 1 => by
    rw [madeR_succ]
    unfold lastR
    rw [List.foldl_append]
    show (if ((k : Int)) = (i : Int) then readL d (k : Int) else lastR (madeR d k) (i : Int) z) = _
    by_cases h : k = i
    · subst h
      rw [if_pos rfl, if_pos (by omega)]
    · rw [if_neg (by omega), lastR_made d i z k]
      by_cases h2 : i < k
      · rw [if_pos h2, if_pos (by omega)]
      · rw [if_neg h2, if_neg (by omega)]
theorem modelR_read (d : DState) (K : Nat) (hK : K ≤ d.bl.length) (i : Nat) (hi : i < K) (ho : d.off = false) : readRL (modelR d K) (i : Int) = readL d (i : Int) := by
  have h1 : readRE (modelR d K) (i : Int) = 0 := by
    unfold readRE
    rw [if_neg (by simp [modelR]), if_pos ⟨by omega, by show (i : Int) < (d.bl.length : Int); omega⟩]
  unfold readRL
  rw [if_neg (by rw [h1]; simp)]
  show lastR (madeR d K) (i : Int) zerosL = _
  rw [lastR_made, if_pos hi]
theorem modelR_slot (d : DState) (h : 32 ≤ d.bl.length) (ho : d.off = false) (n : Nat) (hn : n < 2) : rslotL (modelR d 32) n = slotL d n := by
  unfold rslotL slotL rslotK slotK
  rw [List.flatMap_def, List.flatMap_def]
  congr 1
  apply List.map_congr_left
  intro i hi
  have hi' : i < 16 := by simpa using hi
  have := modelR_read d 32 h (n * 16 + i) (by omega) ho
  exact this
theorem modelR_128 (d : DState) (K : Nat) (hK : K ≤ d.bl.length) (i : Int) : (readRL (modelR d K) i).length ≤ 128 := by
  have hz : zerosL.length = 128 := by simp [zerosL]
  unfold readRL
  split
  · simp
  · show (lastR (madeR d K) i zerosL).length ≤ 128
    have : ∀ (l : List RW) (z : List UInt8), z.length ≤ 128 → (∀ x ∈ l, x.2.length ≤ 128) → (lastR l i z).length ≤ 128 := by
      intro l
      induction l with
      | nil => intro z hz _; exact hz
      | cons x t ih =>
        intro z hz hl
        unfold lastR
        rw [List.foldl_cons]
        refine ih _ ?_ (fun y hy => hl y (by simp [hy]))
        split
        · exact hl x (by simp)
        · exact hz
    refine this _ _ (by omega) ?_
    intro x hx
    simp [madeR] at hx
    obtain ⟨j, _, rfl⟩ := hx
    exact readL_le d _
theorem readL_full (d : DState) (i : Nat) (hi : i < d.bl.length) (ho : d.off = false) : (readL d (i : Int)).length = 128 ∧ mayE d (i : Int) = 0 := by
  have hm : mayE d (i : Int) = 0 := by
    unfold mayE
    rw [ho, if_neg (by simp), if_pos (by omega)]
  refine ⟨?_, hm⟩
  unfold readL
  rw [if_neg (by rw [hm]; simp)]
  exact (readB d _).2
theorem DK.less {B : Nat} {X X' : Nat → Prop} {w : World} {g : Nat} {d : DState} (h : DK B X' w g d) (hX : ∀ k, X k → X' k) : DK B X w g d := h.apart fun k hk => .inl (hX k hk)
theorem info_rD5z : (Try.prog.info? 42).map (fun i => (i.zero, i.size, i.bytes)) = some (some (.agg zeroDc.toArray), 5, 72) := by kernel_rfl
theorem rnewE (w : World) (n : Int) :
    Calls Try.prog 22 #[.int .i64 n] w fun e w' => e = .returned (.agg #[.int .i64 n, .bool false, .int .i64 (-1), .slice none 0 0, .slice none 0 0]) ∧ Below w.heap.size w w' := by
  go_enter Try.func22, Try.ntmps22
  go_wp2_with fail
  have hbx := BoxAt.new_ 42 w [.int .i64 n, .bool false, .int .i64 (-1), .slice none 0 0, .slice none 0 0]
  refine bodyPost_ret (results_c rfl _ _ w.heap.size [.int .i64 n, .bool false, .int .i64 (-1), .slice none 0 0, .slice none 0 0] rfl (fun j v hj => (hbx.cells j v hj : _)) Try.underlying42 rfl (by kernel_rfl)) rfl ?_
  exact ⟨rfl, balloc w _⟩
set_option maxRecDepth 100000 in
set_option maxHeartbeats 3200000 in
theorem model_any (w : World) (B : Nat) (X : Nat → Prop) (g : Nat) (d : DState) (h : DK B X w g d) (hw : d.wt.length ≤ 1000000) (ho : d.off = false) (hmax : d.bl.length ≤ 65536) :
    Calls Try.prog 36 #[.pointer (some ⟨g, 0, none⟩)] w fun e w' => ∃ v, e = .returned v ∧ RDV w' (fun k => w.heap.size ≤ k ∧ k < w'.heap.size) v (modelR d (min 32 d.bl.length)) ∧ DK B X w' g d ∧ Below w.heap.size w w' := by
  have hB := h.lt
  obtain ⟨w0, hw0⟩ : ∃ w0, w0 = w.alloc (.cells zeroDc.toArray 42) := ⟨_, rfl⟩
  have hb0 : Below w.heap.size w w0 := by rw [hw0]; exact balloc w _
  have hres0 : BoxAt 42 w0 w.heap.size zeroDc := by rw [hw0]; exact BoxAt.new_ _ _ _
  have hz0 : w0.heap.size = w.heap.size + 1 := by rw [hw0]; simp
  obtain ⟨X', hX'⟩ : ∃ X' : Nat → Prop, X' = fun k => X k ∨ w.heap.size ≤ k := ⟨_, rfl⟩
  have hdk0 : DK B X' w0 g d := by rw [hX']; exact (h.apart fun k hk => hk : DK B (fun k => X k ∨ w.heap.size ≤ k) w g d).below_ hb0
  have Hnew : Hid (∀ q, w.heap.size ≤ q → q < B ∨ X' q) := fun q hq => .inr (by rw [hX']; exact .inr hq)
  have Hback : Hid (∀ W, DK B X' W g d → DK B X W g d) := fun W hW => by rw [hX'] at hW; exact hW.apart fun k hk => .inl (.inl hk)
  have Hw0 := Lib.hid hw0
  have Hb0 := Lib.hid hb0
  have Hres0 := Lib.hid hres0
  have Hdk0 := Lib.hid hdk0
  have Hw := Lib.hid hw
  have Ho := Lib.hid ho
  have Hcount := Lib.hid (fun W (hW : DK B X' W g d) => dcount_dk hW)
  clear hw0 hb0 hres0 hX' hdk0 hw ho h
  go_enter Try.func36, Try.ntmps36
  go_upto_region 1 with (first
    | (refine wpList_alloc_z rfl 42 rfl info_rD5z zeroDc rfl ?_))
  try simp only [Act.put, List.setIfInBounds_toArray, List.set_cons_zero, List.set_cons_succ]
  rw [← Hw0.out]
  go_wp2_with fail
  refine (Hcount.out w0 Hdk0.out).mono ?_
  rintro _ _ ⟨rfl, rfl⟩
  go_wp2_with fail
  refine (rnewE w0 (d.bl.length : Int)).mono ?_
  rintro _ w1 ⟨rfl, hb1⟩
  have Hb1 := Lib.hid (bstep Hb0.out hb1)
  have Hres1 := Lib.hid (Hres0.out.blwM hb1)
  have Hdk1 := Lib.hid (Hdk0.out.below_ hb1)
  have hs1 := hb1.size
  obtain ⟨cn, hcn⟩ : ∃ cn : Int, cn = (d.bl.length : Int) := ⟨_, rfl⟩
  rw [← hcn]
  have hone : ∀ u ∈ [Value.int .i64 cn, .bool false, .int .i64 (-1), .slice none 0 0, .slice none 0 0], u.oneCell' = true := fun u hu => by
    simp at hu
    rcases hu with rfl | rfl | rfl | rfl <;> rfl
  have Hone := Lib.hid hone
  have Hcn := Lib.hid hcn
  clear hb1 hone hcn Hres0 Hdk0
  go_upto_region 2 with (first
    | (refine wpList_alloc_z rfl 42 rfl info_rD5z zeroDc rfl ?_)
    | (refine wpList_store_newW rfl 42 (.tmp 3) (.tmp 9) rfl zeroDc [Value.int .i64 cn, .bool false, .int .i64 (-1), .slice none 0 0, .slice none 0 0] rfl rfl info_rD5 rfl Hone.out ?_
       intro w2 hbx2 hb2 hz2))
  try simp only [Act.put, List.setIfInBounds_toArray, List.set_cons_zero, List.set_cons_succ]
  obtain ⟨gd, hgd⟩ : ∃ gd, gd = w1.heap.size := ⟨_, rfl⟩
  rw [← hgd] at hbx2 hz2 ⊢
  have hgd' : w.heap.size < gd := by omega
  have Hb2 := Lib.hid (bstep Hb1.out hb2)
  have Hres2 := Lib.hid (Hres1.out.blwM hb2)
  have Hdk2 := Lib.hid (Hdk1.out.below_ hb2)
  have Hbx2 := Lib.hid hbx2
  clear hbx2 hb2 hgd Hb1 Hres1 Hdk1 Hone
  go_wp2_with fail
  go_loopw [4] (fun iv wr => ∃ (k : Nat) (u : Value), k ≤ min 32 d.bl.length ∧ iv = .int .i64 k ∧ BoxAt 42 wr gd [Value.int .i64 cn, .bool false, .int .i64 (-1), u, .slice none 0 0] ∧ OwnF 124 cRW wr (gd + 1) u (madeR d k) ∧
    BoxAt 42 wr w.heap.size zeroDc ∧ DK B X' wr g d ∧ Below w.heap.size w wr ∧ gd < wr.heap.size) (fun i _ => 32 - (intOf i).toNat)
  case atStart => exact ⟨0, .slice none 0 0, by omega, rfl, Hbx2.out, OwnF.nil_ _ _, Hres2.out, Hdk2.out, Hb2.out, by omega⟩
  case round =>
    obtain ⟨k, u, hk, rfl, hbx, hown, hres, hdk, hblw, hgw⟩ := hrel
    obtain ⟨Au, cu, hu, -, -, -⟩ := hown.form'
    subst hu
    rw [madeR_len] at hbx hown
    have hc3 := hbx.cell 3 _ rfl
    have Hbx := Lib.hid hbx
    have Hown := Lib.hid hown
    have Hres := Lib.hid hres
    have Hdk := Lib.hid hdk
    have Hblw := Lib.hid hblw
    have hcnt := Hcount.out wr hdk
    have Hcnt := Lib.hid hcnt
    clear hbx hown hres hdk hblw hcnt
    by_cases h32 : k < 32
    · go_wp2_with fail
      refine Hcnt.out.mono ?_
      rintro _ _ ⟨rfl, rfl⟩
      by_cases hkc : k < d.bl.length
      · obtain ⟨hfull, hme⟩ := readL_full d k hkc Ho.out
        have hr := dread_dk (i := (k : Int)) Hdk.out Hw.out
        rw [hme] at hr
        have hms := madeR_succ d k
        have Hr := Lib.hid hr
        have Hms := Lib.hid hms
        generalize hrl : readL d (k : Int) = rl at *
        clear hr hms hme
        go_wp2_with fail
        refine Hr.out.mono ?_
        rintro _ w3 ⟨v3, rfl, hf3, hd3, hb3⟩
        obtain ⟨A3, c3, hv3, _, _⟩ := hf3.form
        subst hv3
        have hcv := conv8 hf3.by_
        rw [hfull] at hcv
        have Hbx3 := Lib.hid (Hbx.out.blwM hb3)
        have Hown3 := Lib.hid (Hown.out.below_ hb3)
        have Hres3 := Lib.hid (Hres.out.blwM hb3)
        have Hdk3 := Lib.hid hd3
        have Hblw3 := Lib.hid (Hblw.out.trans (hb3.mono (by have := Hblw.out.size; omega)))
        have hs3 := hb3.size
        have hc33 := (Hbx.out.blwM hb3).cell 3 _ rfl
        clear hf3 hd3 hb3 hc3 Hbx Hown Hres Hdk Hblw Hr Hcnt
        go_wp2_with (first
          | (at_builtin
             refine wpList_app1R (C := cRW) rfl (.tmp 29) (.tmp 34) 40 rfl Try.underlying40 info_rw rfl (by decide) (by decide) [.int .i64 (k : Int), .string (bst rl)] Hown3.out (y := ((k : Int), rl)) ⟨rfl, hfull⟩ rfl rfl (by rw [madeR_len]; omega) (by omega) ?_
             intro y8 w8 ho8 hx8
             have hbx8 := Hbx3.out.grown hx8.gr (fun e => by have := (Hown3.out.blk _ e).1; omega)
             have fr8 := hbx8.frozen 3
             have cc8 := hbx8.cell 3 _ rfl
             have Hbx8 := Lib.hid hbx8
             have Ho8 := Lib.hid ho8
             have Hx8 := Lib.hid hx8
             have hw8 := hx8.gr.size
             obtain ⟨A8, c8', hv8, -, -, -⟩ := ho8.form'
             rw [List.length_append, List.length_singleton, madeR_len] at hv8
             clear hbx8 ho8 hx8 hc33
             subst hv8))
        have hch8 : Chg (fun q => gd < q) w3 w8 := Chg.ofGrown Hx8.out.gr fun q e => by have := (Hown3.out.blk q e).1; omega
        have hchs := Chg.set (P := fun q => q = gd) w8 ⟨gd, 3, none⟩ (.slice A8 (k + 1) c8') rfl
        have hch9 : Chg (fun q => gd ≤ q) w3 (w8.setCell ⟨gd, 3, none⟩ (.slice A8 (k + 1) c8')) := (hch8.more (fun q _ h => by omega)).trans (hchs.more (fun q _ h => by omega))
        go_roundw
        case rel =>
          refine ⟨k + 1, .slice A8 (k + 1) c8', by omega, by go_num, Hbx8.out.put 3 _, by rw [Hms.out]; exact Ho8.out.chg hchs (fun q hq e => by have := (Ho8.out.blk q hq).1; omega) (fun _ h => h.elim), Hres3.out.chg hch9 (fun h => by omega), Hdk3.out.chg hch9 (fun q hq => Hnew.out q (by omega)), Hblw3.out.trans (hch9.below (B := w.heap.size) Hblw3.out.size (fun q hq => by omega)), ?_⟩
          simp [World.setCell]; omega
        case measure => simp [intOf]; omega
      · have hke : k = min 32 d.bl.length := by omega
        have Hke := Lib.hid hke
        clear hke
        obtain ⟨Ku, hKu⟩ : ∃ Ku, Ku = k := ⟨_, rfl⟩
        have Hone3 : Hid (∀ u ∈ [Value.int .i64 cn, .bool false, .int .i64 (-1), .slice Au k cu, .slice none 0 0], u.oneCell' = true) := Lib.hid fun u hu => by
          simp at hu
          rcases hu with rfl | rfl | rfl | rfl | rfl <;> rfl
        go_wp2_with (first
          | (refine wpList_load_agg rfl 42 (.tmp 3) rfl ⟨gd, 0, none⟩ rfl [Value.int .i64 cn, .bool false, .int .i64 (-1), .slice Au k cu, .slice none 0 0] Hbx.out.cells Try.underlying42 rfl info_rD5 ?_)
          | (refine wpList_store_boxW rfl 42 42 (.tmp 2) (.tmp 37) rfl w.heap.size zeroDc [Value.int .i64 cn, .bool false, .int .i64 (-1), .slice Au k cu, .slice none 0 0] rfl rfl Hres.out rfl Hone3.out info_rD5 ?_
             intro we hend hche hze))
        refine bodyPost_ret (results_c rfl _ _ w.heap.size [Value.int .i64 cn, .bool false, .int .i64 (-1), .slice Au k cu, .slice none 0 0] rfl (fun j v hj => (hend.cells j v hj : _)) Try.underlying42 rfl info_rD5) rfl ?_
        have hoe := Hown.out.chg hche (fun q hq e => by have := (Hown.out.blk q hq).1; omega) (fun _ h => h.elim)
        have hrow : ByR we (fun q => w.heap.size ≤ q ∧ q < we.heap.size) (.slice Au k cu) (madeR d k) := hoe.row.mono (fun q hq => ⟨by omega, hq.2⟩) (fun _ h => h.elim)
        rw [← Hke.out]
        refine ⟨_, rfl, ⟨.slice Au k cu, .slice none 0 0, by rw [Hcn.out]; rfl, hrow, RowOn.nil_, ⟨by show (-9223372036854775808 : Int) ≤ (d.bl.length : Int); omega, by show (d.bl.length : Int) ≤ 9223372036854775807; omega⟩, ⟨by show (-9223372036854775808 : Int) ≤ -1; decide, by show (-1 : Int) ≤ 9223372036854775807; decide⟩⟩, Hback.out _ (Hdk.out.chg hche (fun q hq => Hnew.out q (by omega))), Hblw.out.trans (hche.below (B := w.heap.size) Hblw.out.size (fun q hq => by omega))⟩
    · have hke : k = min 32 d.bl.length := by omega
      have Hke := Lib.hid hke
      clear hke
      obtain ⟨Ku, hKu⟩ : ∃ Ku, Ku = k := ⟨_, rfl⟩
      have Hone3 : Hid (∀ u ∈ [Value.int .i64 cn, .bool false, .int .i64 (-1), .slice Au k cu, .slice none 0 0], u.oneCell' = true) := Lib.hid fun u hu => by
        simp at hu
        rcases hu with rfl | rfl | rfl | rfl | rfl <;> rfl
      go_wp2_with (first
        | (refine wpList_load_agg rfl 42 (.tmp 3) rfl ⟨gd, 0, none⟩ rfl [Value.int .i64 cn, .bool false, .int .i64 (-1), .slice Au k cu, .slice none 0 0] Hbx.out.cells Try.underlying42 rfl info_rD5 ?_)
        | (refine wpList_store_boxW rfl 42 42 (.tmp 2) (.tmp 37) rfl w.heap.size zeroDc [Value.int .i64 cn, .bool false, .int .i64 (-1), .slice Au k cu, .slice none 0 0] rfl rfl Hres.out rfl Hone3.out info_rD5 ?_
           intro we hend hche hze))
      refine bodyPost_ret (results_c rfl _ _ w.heap.size [Value.int .i64 cn, .bool false, .int .i64 (-1), .slice Au k cu, .slice none 0 0] rfl (fun j v hj => (hend.cells j v hj : _)) Try.underlying42 rfl info_rD5) rfl ?_
      have hoe := Hown.out.chg hche (fun q hq e => by have := (Hown.out.blk q hq).1; omega) (fun _ h => h.elim)
      have hrow : ByR we (fun q => w.heap.size ≤ q ∧ q < we.heap.size) (.slice Au k cu) (madeR d k) := hoe.row.mono (fun q hq => ⟨by omega, hq.2⟩) (fun _ h => h.elim)
      rw [← Hke.out]
      refine ⟨_, rfl, ⟨.slice Au k cu, .slice none 0 0, by rw [Hcn.out]; rfl, hrow, RowOn.nil_, ⟨by show (-9223372036854775808 : Int) ≤ (d.bl.length : Int); omega, by show (d.bl.length : Int) ≤ 9223372036854775807; omega⟩, ⟨by show (-9223372036854775808 : Int) ≤ -1; decide, by show (-1 : Int) ≤ 9223372036854775807; decide⟩⟩, Hback.out _ (Hdk.out.chg hche (fun q hq => Hnew.out q (by omega))), Hblw.out.trans (hche.below (B := w.heap.size) Hblw.out.size (fun q hq => by omega))⟩
end Go.Proofs.Ytpoicbhbkabllaa

namespace Go.Proofs.Ytpoicbhbkabllaa
set_option linter.unusedSimpArgs false
set_option linter.unusedVariables false
open Go.RowKit

theorem backD_bl (d : DState) (keep torn : Nat) : (backD d keep torn).bl = backBl keep torn 0 d.wt d.bl := rfl
set_option maxHeartbeats 3200000 in
/-- a slot behind the fall: as ahead, or the one under way -/
theorem falls_disk (d : DState) (v : Nat) (l : List UInt8) (hl : l.length = 2048) (ho : d.off = false) (ha : 32 ≤ d.bl.length) (hw : d.wt = []) (F : Int) (keep torn : Nat) :
    (wman { d with fuse := F } v l 2).1.wt.length ≤ 1000000 ∧ ((wman { d with fuse := F } v l 2).2 = 0 ∨ (wman { d with fuse := F } v l 2).2 = 6) ∧
    (backD (wman { d with fuse := F } v l 2).1 keep torn).off = false ∧ (backD (wman { d with fuse := F } v l 2).1 keep torn).wt = [] ∧
    (backD (wman { d with fuse := F } v l 2).1 keep torn).bl.length = d.bl.length ∧
    ((wman { d with fuse := F } v l 2).2 = 0 → ∀ n, n < 2 → slotB (backD (wman { d with fuse := F } v l 2).1 keep torn).bl n = l) ∧
    ∃ n, n < 2 ∧ (slotB (backD (wman { d with fuse := F } v l 2).1 keep torn).bl n = slotB d.bl n ∨ slotB (backD (wman { d with fuse := F } v l 2).1 keep torn).bl n = l) := by
  obtain ⟨d1, hd1⟩ : ∃ d1 : DState, d1 = { d with fuse := F } := ⟨_, rfl⟩
  rw [← hd1]
  have hbl : d1.bl = d.bl := by rw [hd1]
  have hf1 : d1.fuse = F := by rw [hd1]
  have ho1 : d1.off = false := by rw [hd1]; exact ho
  have hw1 : d1.wt = [] := by rw [hd1]; exact hw
  have ha1 : 32 ≤ d1.bl.length := by rw [hbl]; exact ha
  rw [← hbl]
  have hwt := wman_wt d1 v l 2
  rw [hw1] at hwt
  have hwt' : (wman d1 v l 2).1.wt.length ≤ 1000000 := by simp at hwt; omega
  clear hwt hd1 hbl
  refine ⟨hwt', ?_⟩
  have e0 : slotA v 0 = (v % 2) * 16 := by unfold slotA; simp
  by_cases hf : fit d1.fuse 34
  · have hb := both_slots d1 v l hl ho1 ha1 hw1 hf
    obtain ⟨p1, p2, p3, p4, p5, p6⟩ := hb
    have hbk : (backD (wman d1 v l 2).1 keep torn).bl = (wman d1 v l 2).1.bl := by
      show backBl keep torn 0 (wman d1 v l 2).1.wt (wman d1 v l 2).1.bl = _
      rw [p3]
      rfl
    rw [hbk, p5]
    exact ⟨.inl p1, rfl, rfl, rfl, fun _ => p6, 0, by omega, .inr (p6 0 (by omega))⟩
  · unfold fit at hf
    by_cases hk : F < 17
    · obtain ⟨k, rfl⟩ : ∃ k : Nat, F = (k : Int) := ⟨F.toNat, by omega⟩
      rw [wman_cut0 d1 v l hl ho1 ha1 hw1 k (by omega) hf1]
      refine ⟨.inr rfl, rfl, rfl, backBl_len _ _ _ _ _, fun h => absurd h (by simp), 1 - v % 2, by omega, .inl ?_⟩
      show slotB (backBl keep torn 0 (wts (slotA v 0) l hl k) d1.bl) (1 - v % 2) = _
      rw [e0]
      exact slotB_back_other keep torn (v % 2) (1 - v % 2) k (by omega) (by omega) l hl _
    · obtain ⟨k, rfl⟩ : ∃ k : Nat, F = ((17 + k : Nat) : Int) := ⟨(F - 17).toNat, by omega⟩
      rw [wman_cut1 d1 v l hl ho1 ha1 hw1 k (by omega) hf1]
      have e1 : slotA v 1 = (1 - v % 2) * 16 := by unfold slotA; omega
      refine ⟨.inr rfl, rfl, rfl, ?_, fun h => absurd h (by simp), v % 2, by omega, .inr ?_⟩
      · rw [backD_bl, backBl_len]
        exact syncBl_length _ _
      · rw [backD_bl]
        simp only
        rw [e1, slotB_back_other keep torn (1 - v % 2) (v % 2) k (by omega) (by omega) l hl _, e0]
        exact slotB_sync (v % 2) l hl _ (by omega)

/-- what a slot has ahead of a write -/
def Ahead (s : List UInt8) (was : MMan) : Prop := (mayM was = true ∧ s = slotM was) ∨ (was = emptyM ∧ s = List.replicate 2048 0)
theorem sK_zeros (n : Nat) : sK (List.replicate n 0) = 0 := by
  unfold sK
  split
  · cases n <;> rfl
  · rfl
theorem getOk_kind {b : List UInt8} (h : sK b = 0) : getOk b = false := by
  unfold getOk
  rw [h]
  simp
theorem zeros_no : getOk (List.replicate 2048 0) = false := getOk_kind (sK_zeros _)
theorem zeros_all (n : Nat) : ((List.replicate n (0 : UInt8)).all fun x => decide (x = 0)) = true := by simp
/-- has a slot a manifest of two? -/
def mixP (s a : List UInt8) (m : MMan) : Bool := getOk s && (decide (s ≠ a) && decide (s ≠ slotM m))
theorem mixP_no {s a : List UInt8} {m : MMan} (h : mixP s a m = false) (hk : getOk s = true) : s = a ∨ s = slotM m := by
  unfold mixP at h
  rw [hk] at h
  simp at h
  by_cases e : s = a
  · exact .inl e
  · exact .inr (h e)
theorem ahead_get {s : List UInt8} {was : MMan} (h : Ahead s was) (hk : getOk s = true) : getM s = was := by
  rcases h with ⟨h1, rfl⟩ | ⟨h1, rfl⟩
  · exact (slotM_get was h1).2
  · rw [zeros_no] at hk; cases hk
/-- Read behind a fall -/
theorem falls_read (d : DState) (D : DState) (m was : MMan) (hm : mayM m = true) (hs : ∀ n, n < 2 → Ahead (slotB d.bl n) was)
    (ho : D.off = false) (hw : D.wt = []) (ha : 32 ≤ D.bl.length) (hD : ∃ n, n < 2 ∧ (slotB D.bl n = slotB d.bl n ∨ slotB D.bl n = slotM m))
    (h0 : mixP (slotL D 0) (slotB d.bl 0) m = false) (h1 : mixP (slotL D 1) (slotB d.bl 1) m = false) :
    rdE (rst (slotL D) 2) = 0 ∧ (rdM (rst (slotL D) 2) = m ∨ rdM (rst (slotL D) 2) = was) := by
  have e0 := slotL_bl D ho hw ha 0 (by omega)
  have e1 := slotL_bl D ho hw ha 1 (by omega)
  have hmg := slotM_get m hm
  have one : ∀ n, n < 2 → mixP (slotL D n) (slotB d.bl n) m = false → getOk (slotL D n) = true → getM (slotL D n) = m ∨ getM (slotL D n) = was := fun n hn hx hk => by
    rcases mixP_no hx hk with h | h
    · exact .inr (ahead_get (by rw [h]; exact hs n hn) hk)
    · rw [h]; exact .inl hmg.2
  refine rst_mix _ m was (one 0 (by omega) h0) (one 1 (by omega) h1) ?_
  obtain ⟨n, hn, hh⟩ := hD
  have en := slotL_bl D ho hw ha n hn
  have key : getOk (slotL D n) = true ∨ (was = emptyM ∧ ((slotL D n).all fun x => decide (x = 0)) = true) := by
    rw [en]
    rcases hh with h | h
    · rw [h]
      rcases hs n hn with ⟨h1, h2⟩ | ⟨h1, h2⟩
      · rw [h2]; exact .inl (slotM_get was h1).1
      · rw [h2]; exact .inr ⟨h1, zeros_all _⟩
    · rw [h]; exact .inl hmg.1
  have h01 : n = 0 ∨ n = 1 := by omega
  rcases h01 with rfl | rfl
  · rcases key with h | h
    · exact .inl h
    · exact .inr (.inr ⟨h.1, .inl h.2⟩)
  · rcases key with h | h
    · exact .inr (.inl h)
    · exact .inr (.inr ⟨h.1, .inr h.2⟩)
/-- Read of a manifest that stands in both slots -/
theorem both_read (D : DState) (m : MMan) (hm : mayM m = true) (ho : D.off = false) (hw : D.wt = []) (ha : 32 ≤ D.bl.length) (hs : ∀ n, n < 2 → slotB D.bl n = slotM m) :
    rdE (rst (slotL D) 2) = 0 ∧ rdM (rst (slotL D) 2) = m := by
  have hmg := slotM_get m hm
  have e : ∀ n, n < 2 → slotL D n = slotM m := fun n hn => by rw [slotL_bl D ho hw ha n hn, hs n hn]
  exact rst_two _ m (fun _ => by rw [e 0 (by omega)]; exact hmg.2) (fun _ => by rw [e 1 (by omega)]; exact hmg.2) (.inl (by rw [e 0 (by omega)]; exact hmg.1))
theorem slotB_new (n : Nat) (hn : n < 2) : slotB (newD 40).bl n = List.replicate 2048 0 := by
  have h : n = 0 ∨ n = 1 := by omega
  rcases h with rfl | rfl <;> decide +kernel
end Go.Proofs.Ytpoicbhbkabllaa

namespace Go.Proofs.Ytpoicbhbkabllaa
set_option linter.unusedSimpArgs false
set_option linter.unusedVariables false
open Go.RowKit

theorem info_R2 : (Try.prog.info? 114).map (·.size) = some 2 := by kernel_rfl
def zeroRc : List Value := [.slice none 0 0, .int .i64 0]
theorem info_Rz : (Try.prog.info? 114).map (fun i => (i.zero, i.size, i.bytes)) = some (some (.agg zeroRc.toArray), 2, 32) := by kernel_rfl
theorem By.one {w : World} {B : Nat} {v : Value} {l : List UInt8} (h : By w B v l) : v.oneCell' = true := by
  obtain ⟨A, c, rfl, _⟩ := h
  rfl
theorem oneR {w : World} {B : Nat} {v : Value} {l : List UInt8} (h : By w B v l) (e : Int) : ∀ u ∈ [v, Value.int .i64 e], u.oneCell' = true := fun u hu => by
  simp at hu
  rcases hu with rfl | rfl
  · exact h.one
  · rfl
theorem bytesS_errM (n : Int) (s : List UInt8) (e : Int) : (bytesS n s e).2.2 ≠ 0 → (bytesS n s e).2.1 = [] := by
  unfold bytesS
  repeat' split
  all_goals simp
/-- the reference's reader in its box, beside the result's and the empty one's -/
structure RG0 (w : World) (g4 g8 B0 : Nat) (v : Value) (l : List UInt8) (e : Int) (W : World) : Prop where
  res : BoxAt 56 W w.heap.size zeroMc
  non : BoxAt 56 W g4 zeroMc
  blw : Below w.heap.size w W
  box : BoxAt 114 W g8 [v, .int .i64 e]
  by_ : By W B0 v l
  err : e ≠ 0 → l = []
  o : w.heap.size < g4 ∧ g4 < B0 ∧ B0 ≤ g8 ∧ g8 < W.heap.size
structure RGz (w : World) (g4 : Nat) (W : World) : Prop where
  res : BoxAt 56 W w.heap.size zeroMc
  non : BoxAt 56 W g4 zeroMc
  blw : Below w.heap.size w W
theorem RG0.z {w : World} {g4 g8 B0 : Nat} {v : Value} {l : List UInt8} {e : Int} {W : World} (h : RG0 w g4 g8 B0 v l e W) : RGz w g4 W := ⟨h.res, h.non, h.blw⟩
theorem RG0.le {w : World} {g4 g8 B0 : Nat} {v : Value} {l : List UInt8} {e : Int} {W : World} (h : RG0 w g4 g8 B0 v l e W) : B0 ≤ W.heap.size := by have := h.o; omega
theorem RG0.step {w : World} {g4 g8 B0 : Nat} {v : Value} {l : List UInt8} {e : Int} {W W' : World} {P : Nat → Prop} (h : RG0 w g4 g8 B0 v l e W) (hc : Chg P W W') (hp : ∀ k, P k → g8 < k) : RG0 w g4 g8 B0 v l e W' := by
  have ho := h.o
  have hs := hc.size
  have hb : Below B0 W W' := hc.below (by omega) (fun k hk => by have := hp k hk; omega)
  exact ⟨h.res.chg hc (fun hx => by have := hp _ hx; omega), h.non.chg hc (fun hx => by have := hp _ hx; omega), h.blw.trans (hb.mono (by omega)), h.box.chg hc (fun hx => by have := hp _ hx; omega), h.by_.below hb, h.err, by omega⟩
theorem RG0.stepB {w : World} {g4 g8 B0 : Nat} {v : Value} {l : List UInt8} {e : Int} {W W' : World} (h : RG0 w g4 g8 B0 v l e W) (hb : Below W.heap.size W W') : RG0 w g4 g8 B0 v l e W' := h.step (P := fun _ => False) (Chg.ofBelow hb) (fun _ h => h.elim)
theorem RG0.put {w : World} {g4 g8 B0 : Nat} {v v' : Value} {l l' : List UInt8} {e e' : Int} {W W' : World} (h : RG0 w g4 g8 B0 v l e W) (hc : Chg (fun k => k = g8) W W') (hb : BoxAt 114 W' g8 [v', .int .i64 e'])
    (hby : By W B0 v' l') (he : e' ≠ 0 → l' = []) : RG0 w g4 g8 B0 v' l' e' W' := by
  have ho := h.o
  have hs := hc.size
  have hbb : Below B0 W W' := hc.below (by omega) (fun k hk => by omega)
  exact ⟨h.res.chg hc (by omega), h.non.chg hc (by omega), h.blw.trans (hbb.mono (by omega)), hb, hby.below hbb, he, by omega⟩
theorem MP.stepB {gm hi : Nat} {m : MMan} {W W' : World} (h : MP gm hi m W) (hb : Below W.heap.size W W') (hgm : gm < hi) : MP gm hi m W' := h.keep (P := fun _ => False) (Chg.ofBelow hb) (fun _ h => h.elim) hgm
theorem FP.stepB {gf : Nat} {f : MFile} {W W' : World} (h : FP gf f W) (hb : Below W.heap.size W W') : FP gf f W' := h.keep (P := fun _ => False) (Chg.ofBelow hb) (fun _ h => h.elim)
set_option maxRecDepth 100000 in
set_option maxHeartbeats 12800000 in
theorem rmget_any (w : World) (v : Value) (b : List UInt8) (hby : By w w.heap.size v b) (hl : b.length ≤ 1073741824) :
    Calls Try.prog 33 #[v] w fun ev w' => ∃ v', ev = .returned (.tuple #[v', .bool (getOk b)]) ∧ MIn w' w.heap.size v' (getM b) ∧ Below w.heap.size w w' := by
  obtain ⟨A, c, rfl, hc1, hc2, hrd0⟩ := id hby
  unfold maxLen at hc2
  obtain ⟨w0, hw0⟩ : ∃ w0, w0 = w.alloc (.cells zeroMc.toArray 56) := ⟨_, rfl⟩
  have hb0 : Below w.heap.size w w0 := by rw [hw0]; exact balloc w _
  have hres0 : BoxAt 56 w0 w.heap.size zeroMc := by rw [hw0]; exact BoxAt.new_ _ _ _
  have hz0 : w0.heap.size = w.heap.size + 1 := by rw [hw0]; simp
  have Hw0 := Lib.hid hw0
  have Hby := Lib.hid ((hby.below hb0).more hb0.size)
  have Hb0 := Lib.hid hb0
  have Hres0 := Lib.hid hres0
  have hok : getOk b = ((decide (sE b = 0) && decide (sK b = 77)) && (decide (readE (sL b) = 0) && mayM (rmanP (sL b)))) := rfl
  have Hok := Lib.hid hok
  have hsl : (sL b).length ≤ 1073741824 := by
    unfold sL
    split
    · simp; omega
    · simp
  have hgm : getM b = if getOk b = true then rmanP (sL b) else emptyM := rfl
  have Hgm := Lib.hid hgm
  have hz : ∀ u ∈ zeroMc, u.oneCell' = true := encM_one emptyM _ rfl
  have Hz := Lib.hid hz
  clear hw0 hb0 hres0 hby hrd0 hok hgm hz
  go_enter Try.func33, Try.ntmps33
  go_upto_region 1 with (first
    | (refine wpList_alloc_z rfl 56 rfl info_manz zeroMc zeroM_cells ?_))
  try simp only [Act.put, List.setIfInBounds_toArray, List.set_cons_zero, List.set_cons_succ]
  rw [← Hw0.out]
  go_upto_region 2 with (first
    | (refine wpList_alloc_z rfl 56 rfl info_manz zeroMc zeroM_cells ?_)
    | (refine wpList_store_newW rfl 56 (.tmp 4) (.tmp 23) rfl zeroMc zeroMc rfl rfl info_man3 rfl Hz.out ?_
       intro w1 hbx1 hb1 hz1))
  try simp only [Act.put, List.setIfInBounds_toArray, List.set_cons_zero, List.set_cons_succ]
  rw [hz0] at hbx1 hz1 ⊢
  obtain ⟨g4, hg4⟩ : ∃ g4, g4 = w.heap.size + 1 := ⟨_, rfl⟩
  rw [← hg4] at hbx1 hz1 ⊢
  have hg4' : w.heap.size < g4 := by omega
  have Hb1 := Lib.hid (bstep Hb0.out hb1)
  have Hres1 := Lib.hid (Hres0.out.blwM hb1)
  have Hnon1 := Lib.hid hbx1
  have Hby1 := Lib.hid ((Hby.out.below hb1).more hb1.size)
  clear hb1 hbx1 hg4 hz0
  go_wp2_with fail
  refine (rfget_any w1 _ b Hby1.out (by omega)).mono ?_
  rintro _ w2 ⟨v1, rfl, ho2, hb2⟩
  obtain ⟨A1, c1, rfl, hd1, hd2, _⟩ := ho2.form_
  have hk8 := u8_lt (sK b)
  have Hb2 := Lib.hid (bstep Hb1.out hb2)
  have Hres2 := Lib.hid (Hres1.out.blwM hb2)
  have Hnon2 := Lib.hid (Hnon1.out.blwM hb2)
  have Hby2 := Lib.hid ho2.by_
  have hs12 := hb2.size
  clear hb2 ho2
  generalize hqE : sE b = E at *
  generalize hqK : sK b = K at *
  generalize hqL : sL b = L at *
  generalize hqN : sN b = Nn at *
  have hone : ∀ u ∈ [Value.int .u8 (K.toNat : Int), .slice A1 L.length c1], u.oneCell' = true := fun u hu => by
    simp at hu
    rcases hu with rfl | rfl
    · rfl
    · rfl
  have Hone8 := Lib.hid hone
  clear hone hqE hqK hqL hqN
  go_upto_region 3 with (first
    | (refine wpList_alloc_z rfl 108 rfl info_secz zeroSc rfl ?_)
    | (refine wpList_store_newW rfl 108 (.tmp 5) (.tmp 27) rfl zeroSc [.int .u8 (K.toNat : Int), (.slice A1 L.length c1)] rfl rfl info_sec2 rfl Hone8.out ?_
       intro w3 hbx3 hb3 hz3))
  try simp only [Act.put, List.setIfInBounds_toArray, List.set_cons_zero, List.set_cons_succ]
  have hc0 := hbx3.cell 0 _ rfl
  have hc1x := hbx3.cell 1 _ rfl
  obtain ⟨B0, hB0⟩ : ∃ B0, B0 = w2.heap.size := ⟨_, rfl⟩
  have Hby3 := Lib.hid (hB0 ▸ Hby2.out.below hb3 : By w3 B0 (.slice A1 L.length c1) L)
  have Hb3 := Lib.hid (bstep Hb2.out hb3)
  have Hres3 := Lib.hid (Hres2.out.blwM hb3)
  have Hnon3 := Lib.hid (Hnon2.out.blwM hb3)
  have hgB : g4 < B0 ∧ B0 < w3.heap.size := by omega
  have HB0 := Lib.hid hB0
  clear hbx3 hb3 hB0 hz3 hz1 hs12
  by_cases hcnd : E = 0 ∧ K = 77
  · obtain ⟨hE, hK⟩ := hcnd
    have hd : decide (E = 0) = true := decide_eq_true hE
    have hd2 : decide (K = 77) = true := decide_eq_true hK
    have Hok2 := Hok
    rw [hd, hd2] at Hok2
    subst hK
    subst hE
    have h77 : (77 : UInt8).toNat = 77 := rfl
    have Hone4 : Hid (∀ u ∈ [Value.slice A1 L.length c1, Value.int .i64 0], u.oneCell' = true) := oneR Hby3.out 0
    clear hd hd2
    go_upto_region 6 with (first
      | (refine wpList_alloc_z rfl 114 rfl info_Rz zeroRc rfl ?_)
      | (refine wpList_store_newW rfl 114 (.tmp 8) (.tmp 40) rfl zeroRc [.slice A1 L.length c1, .int .i64 0] rfl rfl info_R2 rfl Hone4.out ?_
         intro w4 hbx4 hb4 hz4))
    try simp only [Act.put, List.setIfInBounds_toArray, List.set_cons_zero, List.set_cons_succ]
    obtain ⟨g8, hg8⟩ : ∃ g8, g8 = w3.heap.size := ⟨_, rfl⟩
    rw [← hg8] at hbx4 hz4 ⊢
    have hG4 : RG0 w g4 g8 B0 (.slice A1 L.length c1) L 0 w4 := ⟨Hres3.out.blwM hb4, Hnon3.out.blwM hb4, bstep Hb3.out hb4, hbx4, Hby3.out.below (hb4.mono (by omega)), fun h => absurd rfl h, by omega⟩
    have G4 := Lib.hid hG4
    have h1 := numS_lt 18446744073709551615 L 0
    have E1 : Hid (numS 18446744073709551615 L 0 = rm1 L) := rfl
    rw [E1.out] at h1
    have h2 := numS_lt 4294967295 (rm1 L).2.1 (rm1 L).2.2
    have E2 : Hid (numS 4294967295 (rm1 L).2.1 (rm1 L).2.2 = rm2 L) := rfl
    rw [E2.out] at h2
    have h3 := numS_lt 2048 (rm2 L).2.1 (rm2 L).2.2
    have E3 : Hid (numS 2048 (rm2 L).2.1 (rm2 L).2.2 = rm3 L) := rfl
    rw [E3.out] at h3
    have r1 : (rm1 L).2.2 ≠ 0 → (rm1 L).2.1 = [] := fun h => (numS_err 18446744073709551615 L 0 h).1
    have r2 : (rm2 L).2.2 ≠ 0 → (rm2 L).2.1 = [] := fun h => (numS_err 4294967295 (rm1 L).2.1 (rm1 L).2.2 h).1
    have r3 : (rm3 L).2.2 ≠ 0 → (rm3 L).2.1 = [] := fun h => (numS_err 2048 (rm2 L).2.1 (rm2 L).2.2 h).1
    have R1 := Lib.hid r1
    have R2 := Lib.hid r2
    have R3 := Lib.hid r3
    have E4 : Hid (rfilesP (rm3 L).1 [] (rm3 L).2.1 (rm3 L).2.2 = rm4 L) := rfl
    have E5 : Hid (rmanP L = ⟨UInt64.ofNat (rm1 L).1, UInt32.ofNat (rm2 L).1, (rm4 L).1⟩) := rfl
    have hu1 : ((UInt64.ofNat (rm1 L).1).toNat : Int) = ((rm1 L).1 : Int) := by rw [UInt64.toNat_ofNat']; omega
    have hu2 := u32_small (rm2 L).1 h2.2
    obtain ⟨ver, hver⟩ : ∃ ver, ver = UInt64.ofNat (rm1 L).1 := ⟨_, rfl⟩
    obtain ⟨next, hnext⟩ : ∃ next, next = UInt32.ofNat (rm2 L).1 := ⟨_, rfl⟩
    rw [← hver] at hu1 E5
    rw [← hnext] at hu2 E5
    have Hu1 := Lib.hid hu1
    have hord : w.heap.size < g4 ∧ g4 < B0 ∧ B0 ≤ g8 ∧ g8 < w4.heap.size := hG4.o
    clear hg8 hb4 hbx4 hz4 hG4 r1 r2 r3 hver hnext hu1 hc0 hc1x
    have hv := rnum_any w4 B0 (.slice A1 L.length c1) L 0 18446744073709551615 (by decide) G4.out.by_ G4.out.le G4.out.err
    rw [E1.out, show (((18446744073709551615 : Nat) : Int)) = 18446744073709551615 from rfl] at hv
    have Hv := Lib.hid hv
    clear hv
    go_wp2_with (refine wpList_load_agg rfl 114 (.tmp 8) rfl ⟨g8, 0, none⟩ rfl [.slice A1 L.length c1, .int .i64 0] G4.out.box.cells Try.underlying114 rfl info_R2 ?_)
    refine Hv.out.mono ?_
    rintro _ w5 ⟨v5, rfl, hby5, hb5⟩
    have G5 := Lib.hid (G4.out.stepB hb5)
    have Hby5 := Lib.hid hby5
    have Ho5 := Lib.hid (oneR hby5 (rm1 L).2.2)
    have hv := fun w6 hby6 hle => rnum_any w6 B0 v5 (rm1 L).2.1 (rm1 L).2.2 4294967295 (by decide) hby6 hle R1.out
    rw [E2.out, show (((4294967295 : Nat) : Int)) = 4294967295 from rfl] at hv
    clear hby5 hb5 Hv
    have Hv := Lib.hid hv
    clear hv
    generalize hq1 : (rm1 L).1 = n1 at *
    go_wp2_with (first
      | (refine wpList_store_boxW rfl 114 114 (.tmp 8) (.tmp 45) rfl g8 [.slice A1 L.length c1, .int .i64 0] [v5, .int .i64 (rm1 L).2.2] rfl rfl G5.out.box rfl Ho5.out info_R2 ?_; intro w6 hbx6 hch6 hz6)
      | (refine wpList_load_agg rfl 114 (.tmp 8) rfl ⟨g8, 0, none⟩ rfl [v5, .int .i64 (rm1 L).2.2] hbx6.cells Try.underlying114 rfl info_R2 ?_))
    have G6 := Lib.hid (G5.out.put hch6 hbx6 Hby5.out R1.out)
    clear hbx6 hch6 hz6 Hby5
    refine (Hv.out w6 G6.out.by_ G6.out.le).mono ?_
    rintro _ w7 ⟨v7, rfl, hby7, hb7⟩
    have G7 := Lib.hid (G6.out.stepB hb7)
    have Hby7 := Lib.hid hby7
    have Ho7 := Lib.hid (oneR hby7 (rm2 L).2.2)
    have hv := fun w8 hby8 hle => rnum_any w8 B0 v7 (rm2 L).2.1 (rm2 L).2.2 2048 (by decide) hby8 hle R2.out
    rw [E3.out, show (((2048 : Nat) : Int)) = 2048 from rfl] at hv
    clear hby7 hb7 Hv
    have Hv := Lib.hid hv
    clear hv
    generalize hq2 : (rm2 L).1 = n2 at *
    go_wp2_with (first
      | (refine wpList_store_boxW rfl 114 114 (.tmp 8) (.tmp 50) rfl g8 [v5, .int .i64 (rm1 L).2.2] [v7, .int .i64 (rm2 L).2.2] rfl rfl G7.out.box rfl Ho7.out info_R2 ?_; intro w8 hbx8 hch8 hz8)
      | (refine wpList_load_agg rfl 114 (.tmp 8) rfl ⟨g8, 0, none⟩ rfl [v7, .int .i64 (rm2 L).2.2] hbx8.cells Try.underlying114 rfl info_R2 ?_))
    have G8 := Lib.hid (G7.out.put hch8 hbx8 Hby7.out R2.out)
    clear hbx8 hch8 hz8 Hby7
    refine (Hv.out w8 G8.out.by_ G8.out.le).mono ?_
    rintro _ w9 ⟨v9, rfl, hby9, hb9⟩
    have G9 := Lib.hid (G8.out.stepB hb9)
    have Hby9 := Lib.hid hby9
    have Ho9 := Lib.hid (oneR hby9 (rm3 L).2.2)
    clear hby9 hb9 Hv
    generalize hq3 : (rm3 L).1 = n3 at *
    have hone : ∀ u ∈ [Value.int .u64 (n1 : Int), .int .u32 (next.toNat : Int), .slice none 0 0], u.oneCell' = true := fun u hu => by
      simp at hu
      rcases hu with rfl | rfl | rfl <;> rfl
    have Hone := Lib.hid hone
    clear hone
    go_upto_region 9 with (refine wpList_store_boxW rfl 114 114 (.tmp 8) (.tmp 55) rfl g8 [v7, .int .i64 (rm2 L).2.2] [v9, .int .i64 (rm3 L).2.2] rfl rfl G9.out.box rfl Ho9.out info_R2 ?_; intro w10 hbx10 hch10 hz10)
    have G10 := Lib.hid (G9.out.put hch10 hbx10 Hby9.out R3.out)
    clear hbx10 hch10 hz10 Hby9 hq1 hq2 hq3
    go_wp2_with (first
      | (refine wpList_alloc_z rfl 56 rfl info_manz zeroMc zeroM_cells ?_)
      | (refine wpList_store_newW rfl 56 (.tmp 12) (.tmp 59) rfl zeroMc [.int .u64 (n1 : Int), .int .u32 (next.toNat : Int), .slice none 0 0] rfl rfl info_man3 rfl Hone.out ?_
         intro w11 hbx11 hb11 hz11))
    obtain ⟨gm, hgmq⟩ : ∃ gm, gm = w10.heap.size := ⟨_, rfl⟩
    rw [← hgmq] at hbx11 hz11 ⊢
    have G11 := Lib.hid (G10.out.stepB hb11)
    have hgmo : g8 < gm := by have := G10.out.o; omega
    have hbx11' : BoxAt 56 w11 gm (encM ⟨ver, next, []⟩ (.slice none 0 0)) := by unfold encM; rw [Hu1.out]; exact hbx11
    have Hmp11 : Hid (MP gm w11.heap.size ⟨ver, next, []⟩ w11) := ⟨_, fun _ => False, hbx11', OwnF.nil_ _ _, fun k hk => hk.elim, fun k hk => by simp [Value.ownBlock] at hk⟩
    have hwn : IntKind.i64.wrap (n3 : Int) = (n3 : Int) := by rw [wrap_i64]; omega
    have Hgmq := Lib.hid hgmq
    have hgw11 : gm < w11.heap.size := by omega
    have hord4 : w.heap.size < g4 := hord.1
    clear hbx11 hb11 hz11 hbx11' hgmq hu2 Hone
    clear Hb0 Hres0 Hby Hb1 Hres1 Hnon1 Hby1 Hb2 Hres2 Hnon2 Hby2 Hby3 Hb3 Hres3 Hnon3 G4 G5 G6 G7 G8 G9 G10 Ho5 Ho7 Ho9 Hone4 Hone8
    try simp only [Act.put, List.setIfInBounds_toArray, List.set_cons_zero, List.set_cons_succ]
    go_loopg [] n3 (fun gx wr => ∃ (gh : Nat) (acc : List MFile) (v : Value) (l : List UInt8) (e : Int), gh = gx ∧ acc.length + gh = n3 ∧ RG0 w g4 g8 B0 v l e wr ∧ MP gm wr.heap.size ⟨ver, next, acc⟩ wr ∧ gm < wr.heap.size ∧ rfilesP gh acc l e = rm4 L)
    case atStart => exact ⟨n3, [], v9, (rm3 L).2.1, (rm3 L).2.2, rfl, by simp, G11.out, Hmp11.out, hgw11, E4.out⟩
    case round =>
      obtain ⟨gh, acc, v, l, e, hghx, hgl, hg, hmp, hgw, hR⟩ := hrel
      have Hghx := Lib.hid hghx
      clear hghx
      have GX := Lib.hid hg
      have Hmp := Lib.hid hmp
      obtain ⟨vf0, S0, hbm0, hown0, _, _⟩ := hmp
      obtain ⟨Af0, cf0, hvf0, _, _⟩ := hown0.rowAll.form
      subst hvf0
      have hc2y := hbm0.cell 2 _ rfl
      have hc1y := hg.box.cell 1 _ rfl
      clear hg hbm0 hown0
      by_cases he : e = 0
      · subst he
        rcases Nat.eq_zero_or_pos gh with hn0 | hn0
        · subst hn0
          have HR : Hid ((acc, l, 0) = rm4 L) := hR
          clear hR
          have Hrd := GX
          obtain ⟨vf, S, hbm, hown, hS1, hS2⟩ := Hmp.out
          obtain ⟨mm, hmm⟩ : ∃ mm : MMan, mm = ⟨ver, next, acc⟩ := ⟨_, rfl⟩
          have hrm : rmanP L = mm := by rw [E5.out, hmm, ← HR.out]
          have hre : endR l 0 = readE L := by rw [endR_eq l 0 GX.out.err]; show endE l 0 = endE (rm4 L).2.1 (rm4 L).2.2; rw [← HR.out]
          have hsm := rman_small L
          rw [hrm] at hsm
          have Hok3 : Hid (getOk b = (true && (decide (readE L = 0) && mayM mm))) := by have := Hok2; rw [hrm] at this; exact this
          have Hgm3 : Hid (getM b = if getOk b = true then mm else emptyM) := by have := Hgm; rw [hrm] at this; exact this
          rw [← hmm] at hbm hown
          obtain ⟨Af, cf, hvf, hcf1, hcf2⟩ := hown.rowAll.form
          subst hvf
          have hfl : mm.files.length = acc.length := by rw [hmm]
          have Hfl := Lib.hid hfl
          have hn3 : n3 = acc.length := by omega
          clear hgl
          subst hn3
          have Hbm := Lib.hid hbm
          have Hown := Lib.hid hown
          have HS := Lib.hid hS1
          have Hsm := Lib.hid hsm
          have Hre := Lib.hid hre
          have Hmm := Lib.hid hmm
          have Hrm := Lib.hid hrm
          have hc2m : wr.cell? { block := gm, off := 2 } = some (.slice Af acc.length cf) := by rw [← hfl]; exact hbm.cell 2 _ rfl
          have hc1r := GX.out.box.cell 1 _ rfl
          have hend := rend_any wr v l 0 B0 GX.out.by_
          rw [Hre.out] at hend
          have Hend := Lib.hid hend
          clear hmm hbm hown hS1 hS2 hrm hre hsm hfl hend hc2y
          go_wp2_with (refine wpList_load_agg rfl 114 (.tmp 8) rfl ⟨g8, 0, none⟩ rfl [v, .int .i64 0] GX.out.box.cells Try.underlying114 rfl info_R2 ?_)
          refine Hend.out.mono ?_
          rintro _ w20 ⟨rfl, hb20⟩
          have GX2 := Lib.hid (GX.out.stepB hb20)
          have Hbm2 := Lib.hid (Hbm.out.blwM hb20)
          have Hown2 := Lib.hid (Hown.out.below_ hb20)
          clear hb20 hc1r hc2m Hend Hown Hbm
          generalize hreq : readE L = er at *
          by_cases her : er = 0
          · have hd : decide (er = 0) = true := decide_eq_true her
            rw [hd] at Hok3
            subst her
            clear hd hreq
            go_wp2_with (refine wpList_load_aggG (by first | rfl | simp [Region.wanted, yielded]) 56 (.tmp 12) rfl ⟨gm, 0, none⟩ rfl (encM mm (.slice Af mm.files.length cf)) Hbm2.out.cells Try.underlying56 rfl info_man3 ?_)
            refine (rmay_any' w20 _ mm ⟨_, rfl, Hown2.out.rowAll⟩ (fun _ => Hsm.out)).mono ?_
            rintro _ w21 ⟨rfl, hb21⟩
            have GX3 := Lib.hid (GX2.out.stepB hb21)
            have Hbm := Lib.hid (Hbm2.out.blwM hb21)
            have Hown3 := Lib.hid (Hown2.out.below_ hb21)
            have GG := Lib.hid GX3.out.z
            have Hgm := Hgm3
            clear hb21 Hown2 Hbm2
            cases hm : mayM mm with
            | false =>
              rw [hm] at Hok3
              have Hf : Hid (getOk b = false) := Hok3
              clear hm
              have hone : ∀ u ∈ zeroMc, u.oneCell' = true := encM_one emptyM _ rfl
              have Hone := Lib.hid hone
              clear hone
              go_wp2_with (first
                | (refine wpList_load_agg rfl 56 (.tmp 4) rfl ⟨g4, 0, none⟩ rfl (zeroMc) GG.out.non.cells Try.underlying56 rfl info_man3 ?_)
                | (refine wpList_store_boxW rfl 56 56 (.tmp 2) (.tmp 142) rfl w.heap.size zeroMc (zeroMc) rfl rfl GG.out.res rfl Hone.out info_man3 ?_
                   intro we hend hche hze))
              refine bodyPost_ret (results_ct rfl _ _ w.heap.size (zeroMc) rfl (fun j v hj => (hend.cells j v hj : _)) Try.underlying56 rfl info_man3) rfl ?_
              have eM : getM b = emptyM := by rw [Hgm.out]; exact if_neg (by rw [Hf.out]; simp)
              rw [eM, Hf.out]
              exact ⟨_, rfl, MIn.empty _ _, GG.out.blw.trans (hche.below (B := w.heap.size) GG.out.blw.size (fun k hk => by omega))⟩
            | true =>
              rw [hm] at Hok3
              have Ht : Hid (getOk b = true) := Hok3
              have Hone : Hid (∀ u ∈ encM mm (.slice Af mm.files.length cf), u.oneCell' = true) := encM_one mm _ rfl
              clear hm
              go_wp2_with (first
                | (refine wpList_load_agg rfl 56 (.tmp 12) rfl ⟨gm, 0, none⟩ rfl (encM mm (.slice Af mm.files.length cf)) Hbm.out.cells Try.underlying56 rfl info_man3 ?_)
                | (refine wpList_store_boxW rfl 56 56 (.tmp 2) (.tmp 143) rfl w.heap.size zeroMc (encM mm (.slice Af mm.files.length cf)) rfl rfl GG.out.res rfl Hone.out info_man3 ?_
                   intro we hend hche hze))
              refine bodyPost_ret (results_ct rfl _ _ w.heap.size (encM mm (.slice Af mm.files.length cf)) rfl (fun j v hj => (hend.cells j v hj : _)) Try.underlying56 rfl info_man3) rfl ?_
              have hof := Hown3.out.chg hche (fun k hk e => by have := (Hown3.out.blk k hk).1; omega) (fun k hk e => by have := (HS.out k hk).1; omega)
              have hS4 : ∀ k, S k → k < we.heap.size := by obtain ⟨_, _, _, _, h4⟩ := hof; exact fun k hk => (h4 k hk).1
              have hin := hof.row.mono (O' := fun k => w.heap.size ≤ k ∧ k < we.heap.size) (S' := fun k => w.heap.size ≤ k ∧ k < we.heap.size) (fun k hk => ⟨by omega, hk.2⟩) (fun k hk => ⟨by have := (HS.out k hk).1; omega, hS4 k hk⟩)
              rw [Hgm.out, if_pos Ht.out, Ht.out]
              exact ⟨_, rfl, ⟨_, rfl, hin⟩, GG.out.blw.trans (hche.below (B := w.heap.size) GG.out.blw.size (fun k hk => by omega))⟩
          · have hd : decide (er = 0) = false := decide_eq_false her
            have hd2 : (er == 0) = false := beq_eq_false_iff_ne.2 her
            have hd3 : (er != 0) = true := by simp [bne, hd2]
            rw [hd] at Hok3
            have Hf : Hid (getOk b = false) := Hok3
            have GG := Lib.hid GX2.out.z
            have Hgm := Hgm3
            clear hd hd2 her hreq
            have hone : ∀ u ∈ zeroMc, u.oneCell' = true := encM_one emptyM _ rfl
            have Hone := Lib.hid hone
            clear hone
            go_wp2_with (first
              | (refine wpList_load_agg rfl 56 (.tmp 4) rfl ⟨g4, 0, none⟩ rfl (zeroMc) GG.out.non.cells Try.underlying56 rfl info_man3 ?_)
              | (refine wpList_store_boxW rfl 56 56 (.tmp 2) (.tmp 142) rfl w.heap.size zeroMc (zeroMc) rfl rfl GG.out.res rfl Hone.out info_man3 ?_
                 intro we hend hche hze))
            refine bodyPost_ret (results_ct rfl _ _ w.heap.size (zeroMc) rfl (fun j v hj => (hend.cells j v hj : _)) Try.underlying56 rfl info_man3) rfl ?_
            have eM : getM b = emptyM := by rw [Hgm.out]; exact if_neg (by rw [Hf.out]; simp)
            rw [eM, Hf.out]
            exact ⟨_, rfl, MIn.empty _ _, GG.out.blw.trans (hche.below (B := w.heap.size) GG.out.blw.size (fun k hk => by omega))⟩
        · obtain ⟨m, rfl⟩ : ∃ m, gh = m + 1 := ⟨gh - 1, by omega⟩
          have HR : Hid (rfilesP m (acc ++ [(rfileP l 0).1]) (rfileP l 0).2.1 (rfileP l 0).2.2 = rm4 L) := hR
          have hlt : decide ((acc.length : Int) < (n3 : Int)) = true := decide_eq_true (by omega)
          clear hR
          have f1 := numS_lt 32 l 0
          have F1 : Hid (numS 32 l 0 = rf1 l 0) := rfl
          rw [F1.out] at f1
          have p1 : (rf1 l 0).2.2 ≠ 0 → (rf1 l 0).2.1 = [] := fun h => (numS_err 32 l 0 h).1
          have f2 := (bytesS_len' ((rf1 l 0).1 : Int) (rf1 l 0).2.1 (rf1 l 0).2.2).2
          have F2 : Hid (bytesS ((rf1 l 0).1 : Int) (rf1 l 0).2.1 (rf1 l 0).2.2 = rf2 l 0) := rfl
          rw [F2.out] at f2
          have p2 : (rf2 l 0).2.2 ≠ 0 → (rf2 l 0).2.1 = [] := bytesS_errM ((rf1 l 0).1 : Int) (rf1 l 0).2.1 (rf1 l 0).2.2
          have f3 := numS_lt 4294967295 (rf2 l 0).2.1 (rf2 l 0).2.2
          have F3 : Hid (numS 4294967295 (rf2 l 0).2.1 (rf2 l 0).2.2 = rf3 l 0) := rfl
          rw [F3.out] at f3
          have p3 : (rf3 l 0).2.2 ≠ 0 → (rf3 l 0).2.1 = [] := fun h => (numS_err 4294967295 (rf2 l 0).2.1 (rf2 l 0).2.2 h).1
          have f4 := numS_lt 7340032 (rf3 l 0).2.1 (rf3 l 0).2.2
          have F4 : Hid (numS 7340032 (rf3 l 0).2.1 (rf3 l 0).2.2 = rf4 l 0) := rfl
          rw [F4.out] at f4
          have p4 : (rf4 l 0).2.2 ≠ 0 → (rf4 l 0).2.1 = [] := fun h => (numS_err 7340032 (rf3 l 0).2.1 (rf3 l 0).2.2 h).1
          have F5 : Hid (rblk (manyOf ((rf4 l 0).1 : Int)).toNat [] (rf4 l 0).2.1 (rf4 l 0).2.2 = rf5 l 0) := rfl
          have F6 : Hid (rfileP l 0 = (⟨(rf2 l 0).1, UInt32.ofNat (rf3 l 0).1, ((rf4 l 0).1 : Int), (rf5 l 0).1⟩, (rf5 l 0).2.1, (rf5 l 0).2.2)) := rfl
          have hu3 := u32_small (rf3 l 0).1 f3.2
          have hw1 : IntKind.i64.wrap ((rf1 l 0).1 : Int) = ((rf1 l 0).1 : Int) := by rw [wrap_i64]; omega
          have hw4 : IntKind.i64.wrap ((rf4 l 0).1 : Int) = ((rf4 l 0).1 : Int) := by rw [wrap_i64]; omega
          have hm4 := manyOf_le (rf4 l 0).1 f4.2
          have Hm5 := Lib.hid (manyOf_nat (rf4 l 0).1)
          obtain ⟨idf, hidf⟩ : ∃ idf, idf = UInt32.ofNat (rf3 l 0).1 := ⟨_, rfl⟩
          rw [← hidf] at hu3 F6
          have P1 := Lib.hid p1
          have P2 := Lib.hid p2
          have P3 := Lib.hid p3
          have P4 := Lib.hid p4
          have hv := fun W hby hle => rnum_any W B0 v l 0 32 (by decide) hby hle GX.out.err
          rw [F1.out, show (((32 : Nat) : Int)) = 32 from rfl] at hv
          have Hv := Lib.hid hv
          have hz1 : ∀ u ∈ zeroFc, u.oneCell' = true := encF_one ⟨[], 0, 0, []⟩ _ rfl
          have Hz1 := Lib.hid hz1
          clear hv p1 p2 p3 p4 hidf hz1
          go_wp2_with (first
            | (refine wpList_alloc_z rfl 62 rfl info_file zeroFc zeroF_cells ?_)
            | (refine wpList_store_newW rfl 62 (.tmp 13) (.tmp 71) rfl zeroFc zeroFc rfl rfl info_file4 rfl Hz1.out ?_
               intro x1 hbx1 hb1 hz1)
            | (refine wpList_load_agg rfl 114 (.tmp 8) rfl ⟨g8, 0, none⟩ rfl [v, .int .i64 0] (GX.out.box.blwM hb1).cells Try.underlying114 rfl info_R2 ?_))
          obtain ⟨gf, hgfq⟩ : ∃ gf, gf = wr.heap.size := ⟨_, rfl⟩
          rw [← hgfq] at hbx1 hz1 ⊢
          have hgfm : gm < gf := by omega
          have X1 := Lib.hid (GX.out.stepB hb1)
          have M1 : Hid (MP gm gf ⟨ver, next, acc⟩ x1) := Lib.hid (hgfq ▸ Hmp.out.stepB hb1 (by omega))
          have Q1 : Hid (FP gf ⟨[], 0, 0, []⟩ x1) := ⟨_, hbx1, OwnF.nil_ _ _⟩
          have Hgfq := Lib.hid hgfq
          clear hbx1 hb1 hgfq hc1y hc2y
          refine (Hv.out x1 X1.out.by_ X1.out.le).mono ?_
          rintro _ x2 ⟨v2, rfl, hby2, hb2⟩
          have X2 := Lib.hid (X1.out.stepB hb2)
          have M2 := Lib.hid (M1.out.stepB hb2 hgfm)
          have Q2 := Lib.hid (Q1.out.stepB hb2)
          have Hy2 := Lib.hid hby2
          have Hone2 := Lib.hid (oneR hby2 (rf1 l 0).2.2)
          have hzz2 := hb2.size
          have hv := fun W hby hle => rbytes_any W B0 v2 (rf1 l 0).2.1 (rf1 l 0).2.2 ((rf1 l 0).1 : Int) (by omega) hby hle P1.out
          rw [F2.out] at hv
          have Hv2 := Lib.hid hv
          clear hby2 hb2 hv Hv X1 M1 Q1
          go_wp2_with (first
            | (refine wpList_store_boxW rfl 114 114 (.tmp 8) (.tmp 76) rfl g8 [v, .int .i64 0] [v2, .int .i64 (rf1 l 0).2.2] rfl rfl X2.out.box rfl Hone2.out info_R2 ?_; intro x3 hbx3 hch3 hz3)
            | (refine wpList_load_agg rfl 114 (.tmp 8) rfl ⟨g8, 0, none⟩ rfl [v2, .int .i64 (rf1 l 0).2.2] hbx3.cells Try.underlying114 rfl info_R2 ?_))
          have X3 := Lib.hid (X2.out.put hch3 hbx3 Hy2.out P1.out)
          have M3 := Lib.hid (M2.out.keep hch3 (fun k hk => by omega) hgfm)
          have Q3 := Lib.hid (Q2.out.keep hch3 (fun k hk => by omega))
          clear hbx3 Hy2 Hone2 X2 M2 Q2 hch3
          refine (Hv2.out x3 X3.out.by_ X3.out.le).mono ?_
          rintro _ x4 ⟨vn, v4, rfl, hbyn, hby4, hb4⟩
          have X4 := Lib.hid (X3.out.stepB hb4)
          have M4 := Lib.hid (M3.out.stepB hb4 hgfm)
          have Q4 := Lib.hid (Q3.out.stepB hb4)
          have hzz4 := hb4.size
          have Hyn4 := Lib.hid hbyn
          have Hy4 := Lib.hid hby4
          have Hone4 := Lib.hid (oneR hby4 (rf2 l 0).2.2)
          have hv := fun W hby hle => rnum_any W B0 v4 (rf2 l 0).2.1 (rf2 l 0).2.2 4294967295 (by decide) hby hle P2.out
          rw [F3.out, show (((4294967295 : Nat) : Int)) = 4294967295 from rfl] at hv
          have Hv3 := Lib.hid hv
          clear hbyn hby4 hb4 hv Hv2 X3 M3 Q3
          go_wp2_with (first
            | (refine wpList_alloc_z rfl 114 rfl info_Rz zeroRc rfl ?_)
            | (refine wpList_store_newW rfl 114 (.tmp 16) (.tmp 83) rfl zeroRc [v4, .int .i64 (rf2 l 0).2.2] rfl rfl info_R2 rfl Hone4.out ?_
               intro x5 hbx5 hb5 hz5)
            | (refine wpList_load_agg rfl 114 (.tmp 16) rfl ⟨x4.heap.size, 0, none⟩ rfl [v4, .int .i64 (rf2 l 0).2.2] hbx5.cells Try.underlying114 rfl info_R2 ?_))
          have X5 := Lib.hid (X4.out.stepB hb5)
          have M5 := Lib.hid (M4.out.stepB hb5 hgfm)
          have Q5 := Lib.hid (Q4.out.stepB hb5)
          have Hyn5 := Lib.hid (Hyn4.out.below (hb5.mono X4.out.le))
          have hby5 := Hy4.out.below (hb5.mono X4.out.le)
          clear hbx5 hb5 Hyn4 Hy4 Hone4 X4 M4 Q4
          refine (Hv3.out x5 hby5 X5.out.le).mono ?_
          rintro _ x6 ⟨v6, rfl, hby6, hb6⟩
          have X6 := Lib.hid (X5.out.stepB hb6)
          have M6 := Lib.hid (M5.out.stepB hb6 hgfm)
          have Q6 := Lib.hid (Q5.out.stepB hb6)
          have hzz6 := hb6.size
          have Hyn6 := Lib.hid (Hyn5.out.below (hb6.mono X5.out.le))
          have Hy6 := Lib.hid hby6
          have Hone6 := Lib.hid (oneR hby6 (rf3 l 0).2.2)
          have hv := fun W hby hle => rnum_any W B0 v6 (rf3 l 0).2.1 (rf3 l 0).2.2 7340032 (by decide) hby hle P3.out
          rw [F4.out, show (((7340032 : Nat) : Int)) = 7340032 from rfl] at hv
          have Hv4 := Lib.hid hv
          clear hby5 hby6 hb6 hv Hv3 X5 M5 Q5 Hyn5
          go_wp2_with (first
            | (refine wpList_alloc_z rfl 114 rfl info_Rz zeroRc rfl ?_)
            | (refine wpList_store_newW rfl 114 (.tmp 18) (.tmp 88) rfl zeroRc [v6, .int .i64 (rf3 l 0).2.2] rfl rfl info_R2 rfl Hone6.out ?_
               intro x7 hbx7 hb7 hz7)
            | (refine wpList_load_agg rfl 114 (.tmp 18) rfl ⟨x6.heap.size, 0, none⟩ rfl [v6, .int .i64 (rf3 l 0).2.2] hbx7.cells Try.underlying114 rfl info_R2 ?_))
          have X7 := Lib.hid (X6.out.stepB hb7)
          have M7 := Lib.hid (M6.out.stepB hb7 hgfm)
          have Q7 := Lib.hid (Q6.out.stepB hb7)
          have Hyn7 := Lib.hid (Hyn6.out.below (hb7.mono X6.out.le))
          have hby7 := Hy6.out.below (hb7.mono X6.out.le)
          clear hbx7 hb7 Hyn6 Hy6 Hone6 X6 M6 Q6
          refine (Hv4.out x7 hby7 X7.out.le).mono ?_
          rintro _ x8 ⟨v8, rfl, hby8, hb8⟩
          have X8 := Lib.hid (X7.out.stepB hb8)
          have M8 := Lib.hid (M7.out.stepB hb8 hgfm)
          have Q8 := Lib.hid (Q7.out.stepB hb8)
          have hzz8 := hb8.size
          have Hyn8 := Lib.hid (Hyn7.out.below (hb8.mono X7.out.le))
          have Hy8 := Lib.hid hby8
          have Hone8 := Lib.hid (oneR hby8 (rf4 l 0).2.2)
          clear hby7 hby8 hb8 Hv4 X7 M7 Q7 Hyn7
          go_upto_region 18 with (first
            | (refine wpList_alloc_z rfl 114 rfl info_Rz zeroRc rfl ?_)
            | (refine wpList_store_newW rfl 114 (.tmp 20) (.tmp 93) rfl zeroRc [v8, .int .i64 (rf4 l 0).2.2] rfl rfl info_R2 rfl Hone8.out ?_
               intro x9 hbx9 hb9 hz9
               have X9 := Lib.hid (X8.out.stepB hb9))
            | (refine wpList_store_boxW rfl 114 114 (.tmp 8) (.tmp 94) rfl g8 [v2, .int .i64 (rf1 l 0).2.2] [v8, .int .i64 (rf4 l 0).2.2] rfl rfl X9.out.box rfl Hone8.out info_R2 ?_; intro x10 hbx10 hch10 hz10)
            | (refine wpList_load_agg rfl 114 (.tmp 20) rfl ⟨x8.heap.size, 0, none⟩ rfl [v8, .int .i64 (rf4 l 0).2.2] hbx9.cells Try.underlying114 rfl info_R2 ?_))
          try simp only [Act.put, List.setIfInBounds_toArray, List.set_cons_zero, List.set_cons_succ]
          have M9 := Lib.hid (M8.out.stepB hb9 hgfm)
          have Q9 := Lib.hid (Q8.out.stepB hb9)
          have Hyn9 := Lib.hid (Hyn8.out.below (hb9.mono X8.out.le))
          have hby9 := Hy8.out.below (hb9.mono X8.out.le)
          have X10 := Lib.hid (X9.out.put hch10 hbx10 hby9 P4.out)
          have M10 := Lib.hid (M9.out.keep hch10 (fun k hk => by omega) hgfm)
          have Q10 := Lib.hid (Q9.out.keep hch10 (fun k hk => by omega))
          have hyn10 := Hyn9.out.below (hch10.below X9.out.le (fun k hk => by have := X9.out.o; omega))
          have hcv := conv8 hyn10
          have hnm := hyn10
          have hz10 := hz10
          have hgfz : gf < x10.heap.size := by omega
          obtain ⟨vb0, hbx11, hob11⟩ := Q10.out
          have q0 := hbx11.cell 0 _ rfl
          have fr0 := hbx11.frozen 0
          have hbx12 := hbx11.put 0 (.string (bst (rf2 l 0).1))
          have q1 := hbx12.cell 1 _ rfl
          have fr1 := hbx12.frozen 1
          have hbx13 := hbx12.put 1 (.int .u32 (idf.toNat : Int))
          have q2 := hbx13.cell 2 _ rfl
          have fr2 := hbx13.frozen 2
          have hbx14 := hbx13.put 2 (.int .i64 ((rf4 l 0).1 : Int))
          have Hbx14 := Lib.hid hbx14
          have Hob11 := Lib.hid hob11
          clear hb9 hbx9 hz9 X8 M8 Q8 X9 M9 Q9 Hyn8 Hyn9 Hy8 hby9 hch10 hbx10 hyn10 hnm Q10 hbx11 hbx12 hbx13 hbx14 hob11 Hone8
          go_upto_region 21 with fail
          obtain ⟨x11, hx11⟩ : ∃ x11, x11 = ((x10.setCell { block := gf, off := 0 } (.string (bst (rf2 l 0).1))).setCell { block := gf, off := 1 } (.int .u32 (idf.toNat : Int))).setCell { block := gf, off := 2 } (.int .i64 ((rf4 l 0).1 : Int)) := ⟨_, rfl⟩
          rw [← hx11]
          rw [← hx11] at Hbx14
          have hch11 : Chg (fun k => k = gf) x10 x11 := by rw [hx11]; exact ((Chg.set (P := fun k => k = gf) _ _ _ rfl).trans (Chg.set (P := fun k => k = gf) _ _ _ rfl)).trans (Chg.set (P := fun k => k = gf) _ _ _ rfl)
          have hz11 : gf < x11.heap.size := by have := hch11.size; omega
          have X11 := Lib.hid (X10.out.step hch11 (fun k hk => by omega))
          have M11 := Lib.hid (M10.out.keep hch11 (fun k hk => by omega) hgfm)
          have Q11 : Hid (FP gf ⟨(rf2 l 0).1, idf, ((rf4 l 0).1 : Int), []⟩ x11) := ⟨vb0, Hbx14.out, Hob11.out.chg hch11 (fun k hk e => by have := (Hob11.out.blk k hk).1; omega) (fun _ h => h.elim)⟩
          clear hx11 hch11 Hbx14 Hob11 X10 M10 q0 q1 q2 fr0 fr1 fr2 hcv hz10 hgfz hz1 hzz2 hzz4 hzz6 hzz8 hz5 hz7 hz3
          generalize hnm : (rf2 l 0).1 = nm at *
          generalize hsz4 : (rf4 l 0).1 = sz at *
          generalize hNB : (manyOf (sz : Int)).toNat = NB at *
          have HG5 := Lib.hid F5.out
          clear P1 P2 P3 hnm hsz4
          go_wp2_with fail
          go_loopw [21] (fun iv X => ∃ (j : Nat) (bl : List Int) (vy : Value) (ly : List UInt8) (ey : Int), iv = .int .i64 (j : Int) ∧ j ≤ NB ∧ bl.length ≤ j ∧ RG0 w g4 g8 B0 vy ly ey X ∧ MP gm gf ⟨ver, next, acc⟩ X ∧ FP gf ⟨nm, idf, (sz : Int), bl⟩ X ∧ gf < X.heap.size ∧ rblk (NB - j) bl ly ey = rf5 l 0) (fun i _ => NB - (intOf i).toNat)
          case atStart => exact ⟨0, [], v8, _, _, rfl, by omega, by simp, X11.out, M11.out, Q11.out, hz11, HG5.out⟩
          case round =>
            obtain ⟨j, bl, vy, ly, ey, rfl, hj, hbl, hxx, hmm2, hqq, hzX, hrb⟩ := hrel
            obtain ⟨vb, hbf, hob⟩ := hqq
            have hcf2 := hbf.cell 2 _ rfl
            have hcr1 := hxx.box.cell 1 _ rfl
            have Xy := Lib.hid hxx
            have My := Lib.hid hmm2
            have Qy : Hid (FP gf ⟨nm, idf, (sz : Int), bl⟩ wr) := ⟨vb, hbf, hob⟩
            have Hbf := Lib.hid hbf
            have Hob := Lib.hid hob
            have hmany := many_any wr (sz : Int) (by omega) (by omega)
            have hrmany := rmany_any wr (sz : Int) (by omega) (by omega)
            rw [Hm5.out] at hrmany
            have Hrmany := Lib.hid hrmany
            clear hxx hmm2 hbf hob hmany hrmany X11 M11 Q11 hz11
            go_wp2_with fail
            refine Hrmany.out.mono ?_
            rintro _ _ ⟨rfl, rfl⟩
            by_cases hjn : j < NB
            · have hjd : decide ((j : Int) < (NB : Int)) = true := decide_eq_true (by omega)
              obtain ⟨r, hr⟩ : ∃ r, NB - j = r + 1 := ⟨NB - j - 1, by omega⟩
              rw [hr] at hrb
              have Hr' : Hid (NB - (j + 1) = r) := by show NB - (j + 1) = r; omega
              clear hr
              by_cases hey : ey = 0
              · subst hey
                have hrb2 : rblk r (bl ++ [((numS 65536 ly 0).1 : Int)]) (numS 65536 ly 0).2.1 (numS 65536 ly 0).2.2 = rf5 l 0 := hrb
                rw [← Hr'.out] at hrb2
                have hx := numS_lt 65536 ly 0
                have hxe : (numS 65536 ly 0).2.2 ≠ 0 → (numS 65536 ly 0).2.1 = [] := fun h => (numS_err 65536 ly 0 h).1
                have hvn := rnum_any wr B0 vy ly 0 65536 (by decide) Xy.out.by_ Xy.out.le Xy.out.err
                rw [show (((65536 : Nat) : Int)) = 65536 from rfl] at hvn
                generalize hqN : numS 65536 ly 0 = NS at *
                obtain ⟨x, lx, ex⟩ := NS
                simp only at hx hxe hrb2 hvn
                have hwx : IntKind.i64.wrap (x : Int) = (x : Int) := by rw [wrap_i64]; omega
                have Hvn := Lib.hid hvn
                have Hrb2 := Lib.hid hrb2
                have Hxe := Lib.hid hxe
                clear hrb hvn hrb2 hxe hqN
                go_wp2_with (refine wpList_load_agg rfl 114 (.tmp 8) rfl ⟨g8, 0, none⟩ rfl [vy, .int .i64 0] Xy.out.box.cells Try.underlying114 rfl info_R2 ?_)
                refine Hvn.out.mono ?_
                rintro _ y1 ⟨vx, rfl, hbyx, hby1⟩
                have Y1 := Lib.hid (Xy.out.stepB hby1)
                have N1 := Lib.hid (My.out.stepB hby1 hgfm)
                have hb1f := Hbf.out.blwM hby1
                have ho1f := Hob.out.below_ hby1
                have hyz1 := hby1.size
                have Hyx := Lib.hid hbyx
                have Honex := Lib.hid (oneR hbyx ex)
                have Hb1f := Lib.hid hb1f
                have Ho1f := Lib.hid ho1f
                clear hby1 hbyx hb1f ho1f Hvn Hrmany hcf2 hcr1
                go_upto_region 26 with (refine wpList_store_boxW rfl 114 114 (.tmp 8) (.tmp 120) rfl g8 [vy, .int .i64 0] [vx, .int .i64 ex] rfl rfl Y1.out.box rfl Honex.out info_R2 ?_; intro y2 hbx2 hch2 hz2)
                try simp only [Act.put, List.setIfInBounds_toArray, List.set_cons_zero, List.set_cons_succ]
                have Y2 := Lib.hid (Y1.out.put hch2 hbx2 Hyx.out Hxe.out)
                have N2 := Lib.hid (N1.out.keep hch2 (fun k hk => by omega) hgfm)
                have hb2f := Hb1f.out.chg hch2 (fun e => by omega)
                have ho2f := Ho1f.out.chg hch2 (fun k hk e => by have := (Ho1f.out.blk k hk).1; omega) (fun _ h => h.elim)
                have hcc3 := hb2f.cell 3 _ rfl
                have Hb2f := Lib.hid hb2f
                have Ho2f := Lib.hid ho2f
                have hgz2 : gf < y2.heap.size := by omega
                clear hch2 hbx2 hz2 hb2f ho2f Y1 N1 Hb1f Ho1f Hyx Honex
                go_wp2_with (first
                | (at_builtin
                   refine wpList_app1R (C := cInt) rfl (.tmp 122) (.tmp 125) 60 rfl Try.underlying60 info_i64 rfl (by decide) (by decide) [.int .i64 (x : Int)] Ho2f.out (y := (x : Int)) ⟨rfl, by omega, by omega⟩ rfl rfl (by omega) (by omega) ?_
                   intro y8 w8 ho8 hx8
                   have hbf8 := Hb2f.out.grown hx8.gr (fun e => by have := (Ho2f.out.blk _ e).1; omega)
                   have fr8 := hbf8.frozen 3
                   have cc8 := hbf8.cell 3 _ rfl
                   have Hbf8 := Lib.hid hbf8
                   have Ho8 := Lib.hid ho8
                   have Hx8 := Lib.hid hx8
                   have hw8 := hx8.gr.size
                   obtain ⟨A8, c8', hv8, _, _, _⟩ := ho8.form'
                   rw [List.length_append, List.length_singleton] at hv8
                   clear hbf8 ho8 hx8 hcc3
                   subst hv8))
                have hch8 : Chg (fun k => gf < k) y2 w8 := Chg.ofGrown Hx8.out.gr fun k e => by have := (Ho2f.out.blk k e).1; omega
                have hchs := Chg.set (P := fun k => k = gf) w8 ⟨gf, 3, none⟩ (.slice A8 (bl.length + 1) c8') rfl
                have hch9 : Chg (fun k => gf ≤ k) y2 (w8.setCell ⟨gf, 3, none⟩ (.slice A8 (bl.length + 1) c8')) := (hch8.more (fun k _ h => by omega)).trans (hchs.more (fun k _ h => by omega))
                have hfp9 : FP gf ⟨nm, idf, (sz : Int), bl ++ [(x : Int)]⟩ (w8.setCell ⟨gf, 3, none⟩ (.slice A8 (bl.length + 1) c8')) := ⟨_, Hbf8.out.put 3 _, Ho8.out.chg hchs (fun k hk e => by have := (Ho8.out.blk k hk).1; omega) (fun _ h => h.elim)⟩
                go_roundw
                case rel =>
                  refine ⟨j + 1, bl ++ [(x : Int)], vx, lx, ex, by go_num, by omega, by simp; omega, Y2.out.step hch9 (fun k hk => by omega), N2.out.keep hch9 (fun k hk => by omega) hgfm, hfp9, ?_, Hrb2.out⟩
                  simp [World.setCell]; omega
                case measure => simp [intOf]; omega
              · have Hrb : Hid ((bl, ly, ey) = rf5 l 0) := by rw [rblk, if_pos hey] at hrb; exact hrb
                have hd : (ey == 0) = false := beq_eq_false_iff_ne.2 hey
                clear hrb hey Hbf Hob Hrmany
                obtain ⟨vf, S, hbm, hown, hS1, hS2⟩ := My.out
                obtain ⟨vb, hbf, hob⟩ := Qy.out
                obtain ⟨f1, hf1⟩ : ∃ f1 : MFile, f1 = ⟨nm, idf, (sz : Int), bl⟩ := ⟨_, rfl⟩
                have hfp : rfileP l 0 = (f1, ly, ey) := by rw [F6.out, hf1, ← Hrb.out]
                have hok : fileOk f1 := by rw [hf1]; exact ⟨by show nm.length ≤ maxLen; unfold maxLen; omega, by show (-9223372036854775808 : Int) ≤ (sz : Int); omega, by show (sz : Int) ≤ 9223372036854775807; omega⟩
                have hfb : f1.blocks = bl := by rw [hf1]
                rw [← hf1] at hbf
                have hown' : OwnR 62 cFile wr (gm + 1) (fun k => S k ∨ vb.ownBlock = some k) vf acc := hown.widen (fun k h => .inl h) (fun k hk => by
                  rcases hk with hk | hk
                  · obtain ⟨_, _, _, _, h4⟩ := hown; exact h4 k hk
                  · exact ⟨(hob.blk k hk).2, fun e => by have := hS2 k e; have := (hob.blk k hk).1; omega⟩)
                have hy : cFile.at_ wr (fun k => S k ∨ vb.ownBlock = some k) (encF f1 vb) f1 := ⟨vb, rfl, by rw [hfb]; exact hob.rowOwn.mono (fun k hk => .inr hk) (fun _ h => h.elim), hok⟩
                have hel : (encF f1 vb).length = 4 := rfl
                have hcl := hbf.cells
                have hc2 := hbm.cell 2 _ rfl
                have Hcl := Lib.hid hcl
                have Hown := Lib.hid hown'
                have Hy := Lib.hid hy
                have Hbm := Lib.hid hbm
                have Hfpp := Lib.hid hfp
                have HS1 := Lib.hid hS1
                have Hob := Lib.hid hob
                have hyo := Xy.out.o
                clear hf1 hfp hok hfb hown' hy hcl hbm hS1 hS2 hown hbf hob
                go_wp2_with (first
                  | (refine wpList_load_agg rfl 62 (.tmp 13) rfl ⟨gf, 0, none⟩ rfl (encF f1 vb) Hcl.out Try.underlying62 rfl info_file4 ?_)
                  | (at_builtin
                     refine wpList_app1R (C := cFile) rfl (.tmp 129) (.tmp 131) 54 rfl Try.underlying54 info_fileC rfl (by decide) (by decide) (encF f1 vb) Hown.out (y := f1) Hy.out rfl rfl (by omega) (by omega) ?_
                     intro y8 w8 ho8 hx8
                     have hbm8 := Hbm.out.grown hx8.gr (fun e => by have := (Hown.out.blk _ e).1; omega)
                     have fr8 := hbm8.frozen 2
                     have cc8 := hbm8.cell 2 _ rfl
                     have Hbm8 := Lib.hid hbm8
                     have Ho8 := Lib.hid ho8
                     have Hx8 := Lib.hid hx8
                     have hw8 := hx8.gr.size
                     obtain ⟨A8, c8', hv8, _, _, _⟩ := ho8.form'
                     rw [List.length_append, List.length_singleton] at hv8
                     clear hbm8 ho8 hx8
                     subst hv8))
                have hch8 : Chg (fun k => gm < k) wr w8 := Chg.ofGrown Hx8.out.gr fun k e => by have := (Hown.out.blk k e).1; omega
                have hchs := Chg.set (P := fun k => k = gm) w8 ⟨gm, 2, none⟩ (.slice A8 (acc.length + 1) c8') rfl
                have hch9 : Chg (fun k => gm ≤ k) wr (w8.setCell ⟨gm, 2, none⟩ (.slice A8 (acc.length + 1) c8')) := (hch8.more (fun k _ h => by omega)).trans (hchs.more (fun k _ h => by omega))
                have hmp9 : MP gm (w8.setCell ⟨gm, 2, none⟩ (.slice A8 (acc.length + 1) c8')).heap.size ⟨ver, next, acc ++ [f1]⟩ (w8.setCell ⟨gm, 2, none⟩ (.slice A8 (acc.length + 1) c8')) := by
                  have hz : (w8.setCell ⟨gm, 2, none⟩ (.slice A8 (acc.length + 1) c8')).heap.size = w8.heap.size := by simp [World.setCell]
                  refine ⟨_, _, Hbm8.out.put 2 _, Ho8.out.chg hchs (fun k hk e => by have := (Ho8.out.blk k hk).1; omega) (fun k hk e => ?_), fun k hk => ?_, fun k hk => by rw [hz]; exact (Ho8.out.blk k hk).2⟩
                  · rcases hk with hk | hk
                    · have := (HS1.out k hk).1; omega
                    · have := (Hob.out.blk k hk).1; omega
                  · rw [hz]
                    rcases hk with hk | hk
                    · have := (HS1.out k hk); omega
                    · have := (Hob.out.blk k hk); omega
                go_roundg m
                case rel =>
                  refine ⟨m, acc ++ [f1], vy, ly, ey, rfl, by simp; omega, Xy.out.step hch9 (fun k hk => by omega), hmp9, ?_, ?_⟩
                  · simp [World.setCell]; omega
                  · have hr := HR.out
                    rw [Hfpp.out] at hr
                    exact hr
                case measure => have := Hghx.out; omega
            · have hjd : decide ((j : Int) < (NB : Int)) = false := decide_eq_false (by omega)
              have Hrb : Hid ((bl, ly, ey) = rf5 l 0) := by rw [show NB - j = 0 from by omega] at hrb; exact hrb
              clear hrb Hbf Hob Hrmany
              obtain ⟨vf, S, hbm, hown, hS1, hS2⟩ := My.out
              obtain ⟨vb, hbf, hob⟩ := Qy.out
              obtain ⟨f1, hf1⟩ : ∃ f1 : MFile, f1 = ⟨nm, idf, (sz : Int), bl⟩ := ⟨_, rfl⟩
              have hfp : rfileP l 0 = (f1, ly, ey) := by rw [F6.out, hf1, ← Hrb.out]
              have hok : fileOk f1 := by rw [hf1]; exact ⟨by show nm.length ≤ maxLen; unfold maxLen; omega, by show (-9223372036854775808 : Int) ≤ (sz : Int); omega, by show (sz : Int) ≤ 9223372036854775807; omega⟩
              have hfb : f1.blocks = bl := by rw [hf1]
              rw [← hf1] at hbf
              have hown' : OwnR 62 cFile wr (gm + 1) (fun k => S k ∨ vb.ownBlock = some k) vf acc := hown.widen (fun k h => .inl h) (fun k hk => by
                rcases hk with hk | hk
                · obtain ⟨_, _, _, _, h4⟩ := hown; exact h4 k hk
                · exact ⟨(hob.blk k hk).2, fun e => by have := hS2 k e; have := (hob.blk k hk).1; omega⟩)
              have hy : cFile.at_ wr (fun k => S k ∨ vb.ownBlock = some k) (encF f1 vb) f1 := ⟨vb, rfl, by rw [hfb]; exact hob.rowOwn.mono (fun k hk => .inr hk) (fun _ h => h.elim), hok⟩
              have hel : (encF f1 vb).length = 4 := rfl
              have hcl := hbf.cells
              have hc2 := hbm.cell 2 _ rfl
              have Hcl := Lib.hid hcl
              have Hown := Lib.hid hown'
              have Hy := Lib.hid hy
              have Hbm := Lib.hid hbm
              have Hfpp := Lib.hid hfp
              have HS1 := Lib.hid hS1
              have Hob := Lib.hid hob
              have hyo := Xy.out.o
              clear hf1 hfp hok hfb hown' hy hcl hbm hS1 hS2 hown hbf hob
              go_wp2_with (first
                | (refine wpList_load_agg rfl 62 (.tmp 13) rfl ⟨gf, 0, none⟩ rfl (encF f1 vb) Hcl.out Try.underlying62 rfl info_file4 ?_)
                | (at_builtin
                   refine wpList_app1R (C := cFile) rfl (.tmp 129) (.tmp 131) 54 rfl Try.underlying54 info_fileC rfl (by decide) (by decide) (encF f1 vb) Hown.out (y := f1) Hy.out rfl rfl (by omega) (by omega) ?_
                   intro y8 w8 ho8 hx8
                   have hbm8 := Hbm.out.grown hx8.gr (fun e => by have := (Hown.out.blk _ e).1; omega)
                   have fr8 := hbm8.frozen 2
                   have cc8 := hbm8.cell 2 _ rfl
                   have Hbm8 := Lib.hid hbm8
                   have Ho8 := Lib.hid ho8
                   have Hx8 := Lib.hid hx8
                   have hw8 := hx8.gr.size
                   obtain ⟨A8, c8', hv8, _, _, _⟩ := ho8.form'
                   rw [List.length_append, List.length_singleton] at hv8
                   clear hbm8 ho8 hx8
                   subst hv8))
              have hch8 : Chg (fun k => gm < k) wr w8 := Chg.ofGrown Hx8.out.gr fun k e => by have := (Hown.out.blk k e).1; omega
              have hchs := Chg.set (P := fun k => k = gm) w8 ⟨gm, 2, none⟩ (.slice A8 (acc.length + 1) c8') rfl
              have hch9 : Chg (fun k => gm ≤ k) wr (w8.setCell ⟨gm, 2, none⟩ (.slice A8 (acc.length + 1) c8')) := (hch8.more (fun k _ h => by omega)).trans (hchs.more (fun k _ h => by omega))
              have hmp9 : MP gm (w8.setCell ⟨gm, 2, none⟩ (.slice A8 (acc.length + 1) c8')).heap.size ⟨ver, next, acc ++ [f1]⟩ (w8.setCell ⟨gm, 2, none⟩ (.slice A8 (acc.length + 1) c8')) := by
                have hz : (w8.setCell ⟨gm, 2, none⟩ (.slice A8 (acc.length + 1) c8')).heap.size = w8.heap.size := by simp [World.setCell]
                refine ⟨_, _, Hbm8.out.put 2 _, Ho8.out.chg hchs (fun k hk e => by have := (Ho8.out.blk k hk).1; omega) (fun k hk e => ?_), fun k hk => ?_, fun k hk => by rw [hz]; exact (Ho8.out.blk k hk).2⟩
                · rcases hk with hk | hk
                  · have := (HS1.out k hk).1; omega
                  · have := (Hob.out.blk k hk).1; omega
                · rw [hz]
                  rcases hk with hk | hk
                  · have := (HS1.out k hk); omega
                  · have := (Hob.out.blk k hk); omega
              go_roundg m
              case rel =>
                refine ⟨m, acc ++ [f1], vy, ly, ey, rfl, by simp; omega, Xy.out.step hch9 (fun k hk => by omega), hmp9, ?_, ?_⟩
                · simp [World.setCell]; omega
                · have hr := HR.out
                  rw [Hfpp.out] at hr
                  exact hr
              case measure => have := Hghx.out; omega
      · have HR : Hid ((acc, l, e) = rm4 L) := by
          rcases Nat.eq_zero_or_pos gh with hn0 | hn0
          · subst hn0; exact hR
          · obtain ⟨m, rfl⟩ : ∃ m, gh = m + 1 := ⟨gh - 1, by omega⟩
            rw [rfilesP, if_pos he] at hR
            exact hR
        have hd : (e == 0) = false := beq_eq_false_iff_ne.2 he
        clear hR he
        have Hrd := GX
        obtain ⟨vf, S, hbm, hown, hS1, hS2⟩ := Hmp.out
        obtain ⟨mm, hmm⟩ : ∃ mm : MMan, mm = ⟨ver, next, acc⟩ := ⟨_, rfl⟩
        have hrm : rmanP L = mm := by rw [E5.out, hmm, ← HR.out]
        have hre : endR l e = readE L := by rw [endR_eq l e GX.out.err]; show endE l e = endE (rm4 L).2.1 (rm4 L).2.2; rw [← HR.out]
        have hsm := rman_small L
        rw [hrm] at hsm
        have Hok3 : Hid (getOk b = (true && (decide (readE L = 0) && mayM mm))) := by have := Hok2; rw [hrm] at this; exact this
        have Hgm3 : Hid (getM b = if getOk b = true then mm else emptyM) := by have := Hgm; rw [hrm] at this; exact this
        rw [← hmm] at hbm hown
        obtain ⟨Af, cf, hvf, hcf1, hcf2⟩ := hown.rowAll.form
        subst hvf
        have hfl : mm.files.length = acc.length := by rw [hmm]
        have Hfl := Lib.hid hfl
        have Hbm := Lib.hid hbm
        have Hown := Lib.hid hown
        have HS := Lib.hid hS1
        have Hsm := Lib.hid hsm
        have Hre := Lib.hid hre
        have Hmm := Lib.hid hmm
        have Hrm := Lib.hid hrm
        have hc2m : wr.cell? { block := gm, off := 2 } = some (.slice Af acc.length cf) := by rw [← hfl]; exact hbm.cell 2 _ rfl
        have hc1r := GX.out.box.cell 1 _ rfl
        have hend := rend_any wr v l e B0 GX.out.by_
        rw [Hre.out] at hend
        have Hend := Lib.hid hend
        clear hmm hbm hown hS1 hS2 hrm hre hsm hfl hend hc2y
        go_wp2_with (refine wpList_load_agg rfl 114 (.tmp 8) rfl ⟨g8, 0, none⟩ rfl [v, .int .i64 e] GX.out.box.cells Try.underlying114 rfl info_R2 ?_)
        refine Hend.out.mono ?_
        rintro _ w20 ⟨rfl, hb20⟩
        have GX2 := Lib.hid (GX.out.stepB hb20)
        have Hbm2 := Lib.hid (Hbm.out.blwM hb20)
        have Hown2 := Lib.hid (Hown.out.below_ hb20)
        clear hb20 hc1r hc2m Hend Hown Hbm
        generalize hreq : readE L = er at *
        by_cases her : er = 0
        · have hd : decide (er = 0) = true := decide_eq_true her
          rw [hd] at Hok3
          subst her
          clear hd hreq
          go_wp2_with (refine wpList_load_aggG (by first | rfl | simp [Region.wanted, yielded]) 56 (.tmp 12) rfl ⟨gm, 0, none⟩ rfl (encM mm (.slice Af mm.files.length cf)) Hbm2.out.cells Try.underlying56 rfl info_man3 ?_)
          refine (rmay_any' w20 _ mm ⟨_, rfl, Hown2.out.rowAll⟩ (fun _ => Hsm.out)).mono ?_
          rintro _ w21 ⟨rfl, hb21⟩
          have GX3 := Lib.hid (GX2.out.stepB hb21)
          have Hbm := Lib.hid (Hbm2.out.blwM hb21)
          have Hown3 := Lib.hid (Hown2.out.below_ hb21)
          have GG := Lib.hid GX3.out.z
          have Hgm := Hgm3
          clear hb21 Hown2 Hbm2
          cases hm : mayM mm with
          | false =>
            rw [hm] at Hok3
            have Hf : Hid (getOk b = false) := Hok3
            clear hm
            have hone : ∀ u ∈ zeroMc, u.oneCell' = true := encM_one emptyM _ rfl
            have Hone := Lib.hid hone
            clear hone
            go_wp2_with (first
              | (refine wpList_load_agg rfl 56 (.tmp 4) rfl ⟨g4, 0, none⟩ rfl (zeroMc) GG.out.non.cells Try.underlying56 rfl info_man3 ?_)
              | (refine wpList_store_boxW rfl 56 56 (.tmp 2) (.tmp 142) rfl w.heap.size zeroMc (zeroMc) rfl rfl GG.out.res rfl Hone.out info_man3 ?_
                 intro we hend hche hze))
            refine bodyPost_ret (results_ct rfl _ _ w.heap.size (zeroMc) rfl (fun j v hj => (hend.cells j v hj : _)) Try.underlying56 rfl info_man3) rfl ?_
            have eM : getM b = emptyM := by rw [Hgm.out]; exact if_neg (by rw [Hf.out]; simp)
            rw [eM, Hf.out]
            exact ⟨_, rfl, MIn.empty _ _, GG.out.blw.trans (hche.below (B := w.heap.size) GG.out.blw.size (fun k hk => by omega))⟩
          | true =>
            rw [hm] at Hok3
            have Ht : Hid (getOk b = true) := Hok3
            have Hone : Hid (∀ u ∈ encM mm (.slice Af mm.files.length cf), u.oneCell' = true) := encM_one mm _ rfl
            clear hm
            go_wp2_with (first
              | (refine wpList_load_agg rfl 56 (.tmp 12) rfl ⟨gm, 0, none⟩ rfl (encM mm (.slice Af mm.files.length cf)) Hbm.out.cells Try.underlying56 rfl info_man3 ?_)
              | (refine wpList_store_boxW rfl 56 56 (.tmp 2) (.tmp 143) rfl w.heap.size zeroMc (encM mm (.slice Af mm.files.length cf)) rfl rfl GG.out.res rfl Hone.out info_man3 ?_
                 intro we hend hche hze))
            refine bodyPost_ret (results_ct rfl _ _ w.heap.size (encM mm (.slice Af mm.files.length cf)) rfl (fun j v hj => (hend.cells j v hj : _)) Try.underlying56 rfl info_man3) rfl ?_
            have hof := Hown3.out.chg hche (fun k hk e => by have := (Hown3.out.blk k hk).1; omega) (fun k hk e => by have := (HS.out k hk).1; omega)
            have hS4 : ∀ k, S k → k < we.heap.size := by obtain ⟨_, _, _, _, h4⟩ := hof; exact fun k hk => (h4 k hk).1
            have hin := hof.row.mono (O' := fun k => w.heap.size ≤ k ∧ k < we.heap.size) (S' := fun k => w.heap.size ≤ k ∧ k < we.heap.size) (fun k hk => ⟨by omega, hk.2⟩) (fun k hk => ⟨by have := (HS.out k hk).1; omega, hS4 k hk⟩)
            rw [Hgm.out, if_pos Ht.out, Ht.out]
            exact ⟨_, rfl, ⟨_, rfl, hin⟩, GG.out.blw.trans (hche.below (B := w.heap.size) GG.out.blw.size (fun k hk => by omega))⟩
        · have hd : decide (er = 0) = false := decide_eq_false her
          have hd2 : (er == 0) = false := beq_eq_false_iff_ne.2 her
          have hd3 : (er != 0) = true := by simp [bne, hd2]
          rw [hd] at Hok3
          have Hf : Hid (getOk b = false) := Hok3
          have GG := Lib.hid GX2.out.z
          have Hgm := Hgm3
          clear hd hd2 her hreq
          have hone : ∀ u ∈ zeroMc, u.oneCell' = true := encM_one emptyM _ rfl
          have Hone := Lib.hid hone
          clear hone
          go_wp2_with (first
            | (refine wpList_load_agg rfl 56 (.tmp 4) rfl ⟨g4, 0, none⟩ rfl (zeroMc) GG.out.non.cells Try.underlying56 rfl info_man3 ?_)
            | (refine wpList_store_boxW rfl 56 56 (.tmp 2) (.tmp 142) rfl w.heap.size zeroMc (zeroMc) rfl rfl GG.out.res rfl Hone.out info_man3 ?_
               intro we hend hche hze))
          refine bodyPost_ret (results_ct rfl _ _ w.heap.size (zeroMc) rfl (fun j v hj => (hend.cells j v hj : _)) Try.underlying56 rfl info_man3) rfl ?_
          have eM : getM b = emptyM := by rw [Hgm.out]; exact if_neg (by rw [Hf.out]; simp)
          rw [eM, Hf.out]
          exact ⟨_, rfl, MIn.empty _ _, GG.out.blw.trans (hche.below (B := w.heap.size) GG.out.blw.size (fun k hk => by omega))⟩
  · have hf : getOk b = false := by
      rw [Hok.out]
      by_cases hE : E = 0
      · have hd : decide (K = 77) = false := decide_eq_false (fun h => hcnd ⟨hE, h⟩)
        rw [hd]; simp
      · have hd : decide (E = 0) = false := decide_eq_false hE
        rw [hd]; simp
    have Hf := Lib.hid hf
    have GG : Hid (RGz w g4 w3) := ⟨Hres3.out, Hnon3.out, Hb3.out⟩
    by_cases hE : E = 0
    · have hK : K ≠ 77 := fun h => hcnd ⟨hE, h⟩
      have hK2 : ((K.toNat : Int) == 77) = false := beq_eq_false_iff_ne.2 (fun e => hK (by rw [← UInt8.toNat_inj]; show K.toNat = 77; omega))
      subst hE
      clear hf hK hcnd
      have hone : ∀ u ∈ zeroMc, u.oneCell' = true := encM_one emptyM _ rfl
      have Hone := Lib.hid hone
      clear hone
      go_wp2_with (first
        | (refine wpList_load_agg rfl 56 (.tmp 4) rfl ⟨g4, 0, none⟩ rfl (zeroMc) GG.out.non.cells Try.underlying56 rfl info_man3 ?_)
        | (refine wpList_store_boxW rfl 56 56 (.tmp 2) (.tmp 37) rfl w.heap.size zeroMc (zeroMc) rfl rfl GG.out.res rfl Hone.out info_man3 ?_
           intro we hend hche hze))
      refine bodyPost_ret (results_ct rfl _ _ w.heap.size (zeroMc) rfl (fun j v hj => (hend.cells j v hj : _)) Try.underlying56 rfl info_man3) rfl ?_
      have eM : getM b = emptyM := by rw [Hgm.out]; exact if_neg (by rw [Hf.out]; simp)
      rw [eM, Hf.out]
      exact ⟨_, rfl, MIn.empty _ _, GG.out.blw.trans (hche.below (B := w.heap.size) GG.out.blw.size (fun k hk => by omega))⟩
    · have hE2 : (E == 0) = false := beq_eq_false_iff_ne.2 hE
      have hE3 : (E != 0) = true := by simp [bne, hE2]
      clear hf hE hE2 hcnd
      have hone : ∀ u ∈ zeroMc, u.oneCell' = true := encM_one emptyM _ rfl
      have Hone := Lib.hid hone
      clear hone
      go_wp2_with (first
        | (refine wpList_load_agg rfl 56 (.tmp 4) rfl ⟨g4, 0, none⟩ rfl (zeroMc) GG.out.non.cells Try.underlying56 rfl info_man3 ?_)
        | (refine wpList_store_boxW rfl 56 56 (.tmp 2) (.tmp 37) rfl w.heap.size zeroMc (zeroMc) rfl rfl GG.out.res rfl Hone.out info_man3 ?_
           intro we hend hche hze))
      refine bodyPost_ret (results_ct rfl _ _ w.heap.size (zeroMc) rfl (fun j v hj => (hend.cells j v hj : _)) Try.underlying56 rfl info_man3) rfl ?_
      have eM : getM b = emptyM := by rw [Hgm.out]; exact if_neg (by rw [Hf.out]; simp)
      rw [eM, Hf.out]
      exact ⟨_, rfl, MIn.empty _ _, GG.out.blw.trans (hche.below (B := w.heap.size) GG.out.blw.size (fun k hk => by omega))⟩
end Go.Proofs.Ytpoicbhbkabllaa

namespace Go.Proofs.Ytpoicbhbkabllaa
set_option linter.unusedSimpArgs false
set_option linter.unusedVariables false
open Go.RowKit

set_option maxRecDepth 100000 in
set_option maxHeartbeats 3200000 in
theorem mixed_any (w : World) (O : Nat → Prop) (v : Value) (md : RD) (n : Nat) (hn : n < 2) (hO : ∀ k, O k → k < w.heap.size) (hl : md.made.length ≤ 1000000) (hl2 : md.wait.length ≤ 1000000) (h : RDV w O v md) (h128 : ∀ i, (readRL md i).length ≤ 128)
    (a : List UInt8) (vm : Value) (m : MMan) (hmv : MAt w w.heap.size vm m) (hm : mayM m = true) :
    Calls Try.prog 40 #[v, .int .i64 n, .string (bst a), vm] w fun e w' => e = .returned (.bool (mixP (rslotL md n) a m)) ∧ Below w.heap.size w w' := by
  have hsl : (rslotL md n).length ≤ 2048 := rslotK_len md h128 n 16
  obtain ⟨s, hs⟩ : ∃ s, s = rslotL md n := ⟨_, rfl⟩
  rw [← hs] at hsl ⊢
  obtain ⟨ok, hok⟩ : ∃ ok, ok = getOk s := ⟨_, rfl⟩
  have hmx : mixP s a m = (ok && (decide (s ≠ a) && decide (s ≠ slotM m))) := by rw [hok]; rfl
  rw [hmx]
  have Hs := Lib.hid hs
  have Hok := Lib.hid hok
  clear hs hok hmx
  obtain ⟨vf, rfl, hf⟩ := hmv
  obtain ⟨A, c, rfl, hc1, hc2⟩ := hf.form
  unfold maxLen at hc2
  obtain ⟨v1, v2, rfl, h1, h2, h3, h4⟩ := id h
  obtain ⟨w0, hw0⟩ : ∃ w0, w0 = w.alloc (.cells #[Value.int .i64 md.count, .bool md.off, .int .i64 md.fuse, v1, v2] 42) := ⟨_, rfl⟩
  have hb0 : Below w.heap.size w w0 := by rw [hw0]; exact balloc w _
  have hx0 : BoxAt 42 w0 w.heap.size [Value.int .i64 md.count, .bool md.off, .int .i64 md.fuse, v1, v2] := by rw [hw0]; exact BoxAt.new_ _ _ [Value.int .i64 md.count, .bool md.off, .int .i64 md.fuse, v1, v2]
  have hz0 : w0.heap.size = w.heap.size + 1 := by rw [hw0]; simp
  obtain ⟨w1, hw1⟩ : ∃ w1, w1 = w0.alloc (.cells (encM m (.slice A m.files.length c)).toArray 56) := ⟨_, rfl⟩
  have hb1 : Below w0.heap.size w0 w1 := by rw [hw1]; exact balloc w0 _
  have hx1 : BoxAt 56 w1 w0.heap.size (encM m (.slice A m.files.length c)) := by rw [hw1]; exact BoxAt.new_ _ _ _
  have hz1 : w1.heap.size = w0.heap.size + 1 := by rw [hw1]; simp
  rw [hz0] at hx1
  have hbb : Below w.heap.size w w1 := bstep hb0 hb1
  have Hw0 := Lib.hid hw0
  have Hw1 := Lib.hid hw1
  have D1 := Lib.hid (hx0.blwM hb1)
  have X1 := Lib.hid hx1
  have Hb1 := Lib.hid hbb
  have Hv : Hid (RDV w1 O (.agg #[.int .i64 md.count, .bool md.off, .int .i64 md.fuse, v1, v2]) md) := ⟨v1, v2, rfl, h1.below hbb hO, h2.below hbb hO, h3, h4⟩
  have hO1 : ∀ k, O k → k < w1.heap.size := fun k hk => Nat.lt_of_lt_of_le (hO k hk) hbb.size
  have HO := Lib.hid hO1
  have H128 := Lib.hid h128
  have HM1 : Hid (MAt w1 w1.heap.size (.agg (encM m (.slice A m.files.length c)).toArray) m) := ⟨_, rfl, (hf.below hbb).more hbb.size⟩
  clear hw0 hw1 hb0 hb1 hx0 hx1 hbb hO hO1 h128 h1 h2 h3 h4 h hf
  go_enter Try.func40, Try.ntmps40
  go_upto_region 1 with (fail)
  rw [← Hw0.out]
  rw [← Hw1.out]
  go_wp2_with (refine wpList_load_agg rfl 42 (.tmp 4) rfl ⟨w.heap.size, 0, none⟩ rfl [Value.int .i64 md.count, .bool md.off, .int .i64 md.fuse, v1, v2] D1.out.cells Try.underlying42 rfl info_rD5 ?_)
  refine (rslot_any w1 O _ md n hn HO.out hl hl2 Hv.out H128.out).mono ?_
  rintro _ w2 ⟨vs, rfl, hos, hb2⟩
  rw [← Hs.out] at hos
  have By2 := Lib.hid hos.by_
  have X2 := Lib.hid (X1.out.blwM hb2)
  have Hb2 := Lib.hid (bstep Hb1.out hb2)
  have HM2 := Lib.hid (HM1.out.step hb2)
  obtain ⟨As, cs, rfl, -, -⟩ := hos.form_
  clear hos hb2 D1 X1 HM1 H128 HO Hv
  go_wp2_with fail
  refine (rmget_any w2 _ s By2.out (by omega)).mono ?_
  rintro _ w3 ⟨v3, rfl, hm3, hb3⟩
  obtain ⟨mm, hmm⟩ : ∃ mm, mm = getM s := ⟨_, rfl⟩
  rw [← hmm] at hm3
  obtain ⟨vg, hvg, hgg⟩ := id hm3
  obtain ⟨Ag, cg, hvg2, -, -⟩ := hgg.form
  subst hvg2
  subst hvg
  have Hone : Hid (∀ u ∈ encM mm (.slice Ag mm.files.length cg), u.oneCell' = true) := encM_one _ _ rfl
  have By3 := Lib.hid (By2.out.step hb3)
  have X3 := Lib.hid (X2.out.blwM hb3)
  have Hb3 := Lib.hid (bstep Hb2.out hb3)
  have HM3 := Lib.hid (HM2.out.step hb3)
  have Hmm := Lib.hid hmm
  rw [← Hok.out]
  clear hm3 hgg hb3 hmm By2 X2 Hb2 HM2
  go_upto_region 3 with (first
    | (refine wpList_alloc_z rfl 56 rfl info_manz zeroMc zeroM_cells ?_)
    | (refine wpList_store_newW rfl 56 (.tmp 10) (.tmp 18) rfl zeroMc (encM mm (.slice Ag mm.files.length cg)) rfl rfl info_man3 rfl Hone.out ?_
       intro w4 hbx4 hb4 hz4))
  try simp only [Act.put, List.setIfInBounds_toArray, List.set_cons_zero, List.set_cons_succ]
  have By4 := Lib.hid (By3.out.step hb4)
  have X4 := Lib.hid (X3.out.blwM hb4)
  have Hb4 := Lib.hid (bstep Hb3.out hb4)
  have HM := Lib.hid (HM3.out.step hb4)
  clear hbx4 hb4 By3 X3 Hb3 HM3
  obtain ⟨v9, hv9⟩ : ∃ v9, v9 = Value.slice As s.length cs := ⟨_, rfl⟩
  simp only [← hv9] at *
  clear hv9
  cases ok with
  | false =>
    refine wp_region_typed [some 20, some 21, some 22, some 23, some 24, some 25, some 26, some 27, some 28, some 29, some 30, some 31, some 32, some 33, some 34, some 8] [20, 21, 22, 23, 24, 25, 26, 27, 28, 29, 30, 31, 32, 33, 34, 8]
      [Ph.is (.bool false),
        Ph.is (.bool false),
        Ph.is undef,
        Ph.is undef,
        Ph.is undef,
        Ph.is undef,
        Ph.is (.bool false),
        Ph.is (.bool false),
        Ph.is undef,
        Ph.is undef,
        Ph.is undef,
        Ph.is undef,
        Ph.is undef,
        Ph.is undef,
        Ph.is (.bool false),
        Ph.is (.bool false)] rfl rfl (by kernel_rfl) (by kernel_rfl) ?_ ?_
    · refine ⟨?_, ?_, ?_, ?_, ?_, ?_, ?_, ?_, ?_, ?_, ?_, ?_, ?_, ?_, ?_, ?_, trivial⟩
      · -- 0: slot 20 := Op.move t11
        refine ob_yes fun f w' hb hp => ?_
        simp [PreOf, factOf, valOf, Ph.is, Ph.by_, Ph.any, Region.binds] at hp
        refine ⟨by simp [Gd, valOf, hp], ?_⟩
        refine mild_val (.bool false) ?_ rfl
        simp [execOp, evalF, hp]
      · -- 1: slot 21 := Op.move t20
        refine ob_yes fun f w' hb hp => ?_
        simp [PreOf, factOf, valOf, Ph.is, Ph.by_, Ph.any, Region.binds] at hp
        refine ⟨by simp [Gd, valOf, hp], ?_⟩
        refine mild_val (.bool false) ?_ rfl
        simp [execOp, evalF, hp]
      · -- 2: slot 22 := Op.move t9
        refine ob_no fun f w' hb hp => ?_
        simp [PreOf, factOf, valOf, Ph.is, Ph.by_, Ph.any, Region.binds] at hp
        exact ⟨by simp [Gd, valOf, hp], rfl⟩
      · -- 3: slot 23 := Op.convert 30 9 t22
        refine ob_no fun f w' hb hp => ?_
        simp [PreOf, factOf, valOf, Ph.is, Ph.by_, Ph.any, Region.binds] at hp
        exact ⟨by simp [Gd, valOf, hp], rfl⟩
      · -- 4: slot 24 := Op.move t2
        refine ob_no fun f w' hb hp => ?_
        simp [PreOf, factOf, valOf, Ph.is, Ph.by_, Ph.any, Region.binds] at hp
        exact ⟨by simp [Gd, valOf, hp], rfl⟩
      · -- 5: slot 25 := Op.binOp BinOp.neq 9 t23 t24 9
        refine ob_no fun f w' hb hp => ?_
        simp [PreOf, factOf, valOf, Ph.is, Ph.by_, Ph.any, Region.binds] at hp
        exact ⟨by simp [Gd, valOf, hp], rfl⟩
      · -- 6: slot 26 := Op.pick t21 t25 (const (Value.bool false))
        refine ob_yes fun f w' hb hp => ?_
        simp [PreOf, factOf, valOf, Ph.is, Ph.by_, Ph.any, Region.binds] at hp
        refine ⟨by simp [Gd, valOf, hp], ?_⟩
        refine mild_val (.bool false) ?_ rfl
        simp [execOp, evalF, hp, go_sem]
      · -- 7: slot 27 := Op.move t26
        refine ob_yes fun f w' hb hp => ?_
        simp [PreOf, factOf, valOf, Ph.is, Ph.by_, Ph.any, Region.binds] at hp
        refine ⟨by simp [Gd, valOf, hp], ?_⟩
        refine mild_val (.bool false) ?_ rfl
        simp [execOp, evalF, hp]
      · -- 8: slot 28 := Op.move t9
        refine ob_no fun f w' hb hp => ?_
        simp [PreOf, factOf, valOf, Ph.is, Ph.by_, Ph.any, Region.binds] at hp
        exact ⟨by simp [Gd, valOf, hp], rfl⟩
      · -- 9: slot 29 := Op.convert 30 9 t28
        refine ob_no fun f w' hb hp => ?_
        simp [PreOf, factOf, valOf, Ph.is, Ph.by_, Ph.any, Region.binds] at hp
        exact ⟨by simp [Gd, valOf, hp], rfl⟩
      · -- 10: slot 30 := Op.load 56 t7
        refine ob_no fun f w' hb hp => ?_
        simp [PreOf, factOf, valOf, Ph.is, Ph.by_, Ph.any, Region.binds] at hp
        exact ⟨by simp [Gd, valOf, hp], rfl⟩
      · -- 11: slot 31 := Op.call   value (Operand.func 69), args := #[t30], argTypes := #[56]  
        refine ob_no fun f w' hb hp => ?_
        simp [PreOf, factOf, valOf, Ph.is, Ph.by_, Ph.any, Region.binds] at hp
        exact ⟨by simp [Gd, valOf, hp], rfl⟩
      · -- 12: slot 32 := Op.convert 30 9 t31
        refine ob_no fun f w' hb hp => ?_
        simp [PreOf, factOf, valOf, Ph.is, Ph.by_, Ph.any, Region.binds] at hp
        exact ⟨by simp [Gd, valOf, hp], rfl⟩
      · -- 13: slot 33 := Op.binOp BinOp.neq 9 t29 t32 9
        refine ob_no fun f w' hb hp => ?_
        simp [PreOf, factOf, valOf, Ph.is, Ph.by_, Ph.any, Region.binds] at hp
        exact ⟨by simp [Gd, valOf, hp], rfl⟩
      · -- 14: slot 34 := Op.pick t27 t33 (const (Value.bool false))
        refine ob_yes fun f w' hb hp => ?_
        simp [PreOf, factOf, valOf, Ph.is, Ph.by_, Ph.any, Region.binds] at hp
        refine ⟨by simp [Gd, valOf, hp], ?_⟩
        refine mild_val (.bool false) ?_ rfl
        simp [execOp, evalF, hp, go_sem]
      · -- 15: slot 8 := Op.assign t34
        refine ob_yes fun f w' hb hp => ?_
        simp [PreOf, factOf, valOf, Ph.is, Ph.by_, Ph.any, Region.binds] at hp
        refine ⟨by simp [Gd, valOf, hp], ?_⟩
        refine mild_val (.bool false) ?_ rfl
        simp [execOp, evalF, hp]
    · intro f w2 hb2 hp
      simp only [PostOf, Ph.is, Ph.by_, Ph.any] at hp
      obtain ⟨h0, h1, h2, h3, h4, h5, h6, h7, h8, h9, h10, h11, h12, h13, h14, h15, _⟩ := hp
      simp only [fills, List.foldl_cons, List.foldl_nil, Act.put, List.setIfInBounds_toArray, List.set_cons_zero, List.set_cons_succ, h0, h1, h2, h3, h4, h5, h6, h7, h8, h9, h10, h11, h12, h13, h14, h15]
      clear h0 h1 h2 h3 h4 h5 h6 h7 h8 h9 h10 h11 h12 h13 h14 h15
      go_wp2_with fail
      go_ret
      exact ⟨by simp, bstep Hb4.out hb2⟩
  | true =>
    by_cases hsa : s = a
    · have HE : Hid (((bst s).toList == (bst a).toList) = true) := by rw [bst_eq]; exact decide_eq_true hsa
      refine wp_region_typed [some 20, some 21, some 22, some 23, some 24, some 25, some 26, some 27, some 28, some 29, some 30, some 31, some 32, some 33, some 34, some 8] [20, 21, 22, 23, 24, 25, 26, 27, 28, 29, 30, 31, 32, 33, 34, 8]
        [Ph.is (.bool true),
          Ph.is (.bool true),
          Ph.is (v9),
          Ph.is (.string (bst (s))),
          Ph.is (.string (bst a)),
          Ph.is (.bool false),
          Ph.is (.bool false),
          Ph.is (.bool false),
          Ph.is undef,
          Ph.is undef,
          Ph.is undef,
          Ph.is undef,
          Ph.is undef,
          Ph.is undef,
          Ph.is (.bool false),
          Ph.is (.bool false)] rfl rfl (by kernel_rfl) (by kernel_rfl) ?_ ?_
      · refine ⟨?_, ?_, ?_, ?_, ?_, ?_, ?_, ?_, ?_, ?_, ?_, ?_, ?_, ?_, ?_, ?_, trivial⟩
        · -- 0: slot 20 := Op.move t11
          refine ob_yes fun f w' hb hp => ?_
          simp [PreOf, factOf, valOf, Ph.is, Ph.by_, Ph.any, Region.binds] at hp
          refine ⟨by simp [Gd, valOf, hp], ?_⟩
          refine mild_val (.bool true) ?_ rfl
          simp [execOp, evalF, hp]
        · -- 1: slot 21 := Op.move t20
          refine ob_yes fun f w' hb hp => ?_
          simp [PreOf, factOf, valOf, Ph.is, Ph.by_, Ph.any, Region.binds] at hp
          refine ⟨by simp [Gd, valOf, hp], ?_⟩
          refine mild_val (.bool true) ?_ rfl
          simp [execOp, evalF, hp]
        · -- 2: slot 22 := Op.move t9
          refine ob_yes fun f w' hb hp => ?_
          simp [PreOf, factOf, valOf, Ph.is, Ph.by_, Ph.any, Region.binds] at hp
          refine ⟨by simp [Gd, valOf, hp], ?_⟩
          refine mild_val (v9) ?_ rfl
          simp [execOp, evalF, hp]
        · -- 3: slot 23 := Op.convert 30 9 t22
          refine ob_yes fun f w' hb hp => ?_
          simp [PreOf, factOf, valOf, Ph.is, Ph.by_, Ph.any, Region.binds] at hp
          refine ⟨by simp [Gd, valOf, hp], ?_⟩
          refine mild_val (.string (bst (s))) ?_ rfl
          have hc := conv8 ((By4.out).below hb)
          simp [execOp, evalF, hp, hc]
        · -- 4: slot 24 := Op.move t2
          refine ob_yes fun f w' hb hp => ?_
          simp [PreOf, factOf, valOf, Ph.is, Ph.by_, Ph.any, Region.binds] at hp
          refine ⟨by simp [Gd, valOf, hp], ?_⟩
          refine mild_val (.string (bst a)) ?_ rfl
          simp [execOp, evalF, hp]
        · -- 5: slot 25 := Op.binOp BinOp.neq 9 t23 t24 9
          refine ob_yes fun f w' hb hp => ?_
          simp [PreOf, factOf, valOf, Ph.is, Ph.by_, Ph.any, Region.binds] at hp
          refine ⟨by simp [Gd, valOf, hp], ?_⟩
          refine mild_val (.bool false) ?_ rfl
          have hst := HE.out
          simp [execOp, evalF, hp, go_sem, hst]
        · -- 6: slot 26 := Op.pick t21 t25 (const (Value.bool false))
          refine ob_yes fun f w' hb hp => ?_
          simp [PreOf, factOf, valOf, Ph.is, Ph.by_, Ph.any, Region.binds] at hp
          refine ⟨by simp [Gd, valOf, hp], ?_⟩
          refine mild_val (.bool false) ?_ rfl
          simp [execOp, evalF, hp, go_sem]
        · -- 7: slot 27 := Op.move t26
          refine ob_yes fun f w' hb hp => ?_
          simp [PreOf, factOf, valOf, Ph.is, Ph.by_, Ph.any, Region.binds] at hp
          refine ⟨by simp [Gd, valOf, hp], ?_⟩
          refine mild_val (.bool false) ?_ rfl
          simp [execOp, evalF, hp]
        · -- 8: slot 28 := Op.move t9
          refine ob_no fun f w' hb hp => ?_
          simp [PreOf, factOf, valOf, Ph.is, Ph.by_, Ph.any, Region.binds] at hp
          exact ⟨by simp [Gd, valOf, hp], rfl⟩
        · -- 9: slot 29 := Op.convert 30 9 t28
          refine ob_no fun f w' hb hp => ?_
          simp [PreOf, factOf, valOf, Ph.is, Ph.by_, Ph.any, Region.binds] at hp
          exact ⟨by simp [Gd, valOf, hp], rfl⟩
        · -- 10: slot 30 := Op.load 56 t7
          refine ob_no fun f w' hb hp => ?_
          simp [PreOf, factOf, valOf, Ph.is, Ph.by_, Ph.any, Region.binds] at hp
          exact ⟨by simp [Gd, valOf, hp], rfl⟩
        · -- 11: slot 31 := Op.call   value (Operand.func 69), args := #[t30], argTypes := #[56]  
          refine ob_no fun f w' hb hp => ?_
          simp [PreOf, factOf, valOf, Ph.is, Ph.by_, Ph.any, Region.binds] at hp
          exact ⟨by simp [Gd, valOf, hp], rfl⟩
        · -- 12: slot 32 := Op.convert 30 9 t31
          refine ob_no fun f w' hb hp => ?_
          simp [PreOf, factOf, valOf, Ph.is, Ph.by_, Ph.any, Region.binds] at hp
          exact ⟨by simp [Gd, valOf, hp], rfl⟩
        · -- 13: slot 33 := Op.binOp BinOp.neq 9 t29 t32 9
          refine ob_no fun f w' hb hp => ?_
          simp [PreOf, factOf, valOf, Ph.is, Ph.by_, Ph.any, Region.binds] at hp
          exact ⟨by simp [Gd, valOf, hp], rfl⟩
        · -- 14: slot 34 := Op.pick t27 t33 (const (Value.bool false))
          refine ob_yes fun f w' hb hp => ?_
          simp [PreOf, factOf, valOf, Ph.is, Ph.by_, Ph.any, Region.binds] at hp
          refine ⟨by simp [Gd, valOf, hp], ?_⟩
          refine mild_val (.bool false) ?_ rfl
          simp [execOp, evalF, hp, go_sem]
        · -- 15: slot 8 := Op.assign t34
          refine ob_yes fun f w' hb hp => ?_
          simp [PreOf, factOf, valOf, Ph.is, Ph.by_, Ph.any, Region.binds] at hp
          refine ⟨by simp [Gd, valOf, hp], ?_⟩
          refine mild_val (.bool false) ?_ rfl
          simp [execOp, evalF, hp]
      · intro f w2 hb2 hp
        simp only [PostOf, Ph.is, Ph.by_, Ph.any] at hp
        obtain ⟨h0, h1, h2, h3, h4, h5, h6, h7, h8, h9, h10, h11, h12, h13, h14, h15, _⟩ := hp
        simp only [fills, List.foldl_cons, List.foldl_nil, Act.put, List.setIfInBounds_toArray, List.set_cons_zero, List.set_cons_succ, h0, h1, h2, h3, h4, h5, h6, h7, h8, h9, h10, h11, h12, h13, h14, h15]
        clear h0 h1 h2 h3 h4 h5 h6 h7 h8 h9 h10 h11 h12 h13 h14 h15
        go_wp2_with fail
        go_ret
        exact ⟨by simp [hsa], bstep Hb4.out hb2⟩
    · have HE : Hid (((bst s).toList == (bst a).toList) = false) := by rw [bst_eq]; exact decide_eq_false hsa
      refine wp_region_typed [some 20, some 21, some 22, some 23, some 24, some 25, some 26, some 27, some 28, some 29, some 30, some 31, some 32, some 33, some 34, some 8] [20, 21, 22, 23, 24, 25, 26, 27, 28, 29, 30, 31, 32, 33, 34, 8]
        [Ph.is (.bool true),
          Ph.is (.bool true),
          Ph.is (v9),
          Ph.is (.string (bst (s))),
          Ph.is (.string (bst a)),
          Ph.is (.bool true),
          Ph.is (.bool true),
          Ph.is (.bool true),
          Ph.is (v9),
          Ph.is (.string (bst (s))),
          Ph.is (.agg (encM m (.slice A m.files.length c)).toArray),
          Ph.by_ (slotM m),
          Ph.is (.string (bst (slotM m))),
          Ph.is (.bool (decide (s ≠ slotM m))),
          Ph.is (.bool (decide (s ≠ slotM m))),
          Ph.is (.bool (decide (s ≠ slotM m)))] rfl rfl (by kernel_rfl) (by kernel_rfl) ?_ ?_
      · refine ⟨?_, ?_, ?_, ?_, ?_, ?_, ?_, ?_, ?_, ?_, ?_, ?_, ?_, ?_, ?_, ?_, trivial⟩
        · -- 0: slot 20 := Op.move t11
          refine ob_yes fun f w' hb hp => ?_
          simp [PreOf, factOf, valOf, Ph.is, Ph.by_, Ph.any, Region.binds] at hp
          refine ⟨by simp [Gd, valOf, hp], ?_⟩
          refine mild_val (.bool true) ?_ rfl
          simp [execOp, evalF, hp]
        · -- 1: slot 21 := Op.move t20
          refine ob_yes fun f w' hb hp => ?_
          simp [PreOf, factOf, valOf, Ph.is, Ph.by_, Ph.any, Region.binds] at hp
          refine ⟨by simp [Gd, valOf, hp], ?_⟩
          refine mild_val (.bool true) ?_ rfl
          simp [execOp, evalF, hp]
        · -- 2: slot 22 := Op.move t9
          refine ob_yes fun f w' hb hp => ?_
          simp [PreOf, factOf, valOf, Ph.is, Ph.by_, Ph.any, Region.binds] at hp
          refine ⟨by simp [Gd, valOf, hp], ?_⟩
          refine mild_val (v9) ?_ rfl
          simp [execOp, evalF, hp]
        · -- 3: slot 23 := Op.convert 30 9 t22
          refine ob_yes fun f w' hb hp => ?_
          simp [PreOf, factOf, valOf, Ph.is, Ph.by_, Ph.any, Region.binds] at hp
          refine ⟨by simp [Gd, valOf, hp], ?_⟩
          refine mild_val (.string (bst (s))) ?_ rfl
          have hc := conv8 ((By4.out).below hb)
          simp [execOp, evalF, hp, hc]
        · -- 4: slot 24 := Op.move t2
          refine ob_yes fun f w' hb hp => ?_
          simp [PreOf, factOf, valOf, Ph.is, Ph.by_, Ph.any, Region.binds] at hp
          refine ⟨by simp [Gd, valOf, hp], ?_⟩
          refine mild_val (.string (bst a)) ?_ rfl
          simp [execOp, evalF, hp]
        · -- 5: slot 25 := Op.binOp BinOp.neq 9 t23 t24 9
          refine ob_yes fun f w' hb hp => ?_
          simp [PreOf, factOf, valOf, Ph.is, Ph.by_, Ph.any, Region.binds] at hp
          refine ⟨by simp [Gd, valOf, hp], ?_⟩
          refine mild_val (.bool true) ?_ rfl
          have hst := HE.out
          simp [execOp, evalF, hp, go_sem, hst]
        · -- 6: slot 26 := Op.pick t21 t25 (const (Value.bool false))
          refine ob_yes fun f w' hb hp => ?_
          simp [PreOf, factOf, valOf, Ph.is, Ph.by_, Ph.any, Region.binds] at hp
          refine ⟨by simp [Gd, valOf, hp], ?_⟩
          refine mild_val (.bool true) ?_ rfl
          simp [execOp, evalF, hp, go_sem]
        · -- 7: slot 27 := Op.move t26
          refine ob_yes fun f w' hb hp => ?_
          simp [PreOf, factOf, valOf, Ph.is, Ph.by_, Ph.any, Region.binds] at hp
          refine ⟨by simp [Gd, valOf, hp], ?_⟩
          refine mild_val (.bool true) ?_ rfl
          simp [execOp, evalF, hp]
        · -- 8: slot 28 := Op.move t9
          refine ob_yes fun f w' hb hp => ?_
          simp [PreOf, factOf, valOf, Ph.is, Ph.by_, Ph.any, Region.binds] at hp
          refine ⟨by simp [Gd, valOf, hp], ?_⟩
          refine mild_val (v9) ?_ rfl
          simp [execOp, evalF, hp]
        · -- 9: slot 29 := Op.convert 30 9 t28
          refine ob_yes fun f w' hb hp => ?_
          simp [PreOf, factOf, valOf, Ph.is, Ph.by_, Ph.any, Region.binds] at hp
          refine ⟨by simp [Gd, valOf, hp], ?_⟩
          refine mild_val (.string (bst (s))) ?_ rfl
          have hc := conv8 ((By4.out).below hb)
          simp [execOp, evalF, hp, hc]
        · -- 10: slot 30 := Op.load 56 t7
          refine ob_yes fun f w' hb hp => ?_
          simp [PreOf, factOf, valOf, Ph.is, Ph.by_, Ph.any, Region.binds] at hp
          refine ⟨by simp [Gd, valOf, hp], ?_⟩
          refine mild_val (.agg (encM m (.slice A m.files.length c)).toArray) ?_ rfl
          have hr := run_loadVar_cells w' ⟨w.heap.size + 1, 0, none⟩ 56 (encM m (.slice A m.files.length c)) (X4.out.blwM hb).cells Try.underlying56 rfl info_man3
          simp [execOp, evalF, hp, Instr.loadAt, Instr.sureAddr, hr]
        · -- 11: slot 31 := Op.call   value (Operand.func 69), args := #[t30], argTypes := #[56]  
          refine ob_yes fun f w' hb hp => ?_
          simp [PreOf, factOf, valOf, Ph.is, Ph.by_, Ph.any, Region.binds] at hp
          refine ⟨by simp [Gd, valOf, hp], ?_⟩
          refine mild_call 69 _ _ Try.f69 Try.func69 (by kernel_rfl) (by kernel_rfl) rfl ?_
          simp [evalF, hp, Ph.is, Ph.by_, Ph.any]
          exact (rput09_any w' _ m ((HM.out).step hb) hm).mono fun e w2 ⟨v, h1, h2, h3⟩ => ⟨v, h1, h3, h2.by_⟩
        · -- 12: slot 32 := Op.convert 30 9 t31
          refine ob_yes fun f w' hb hp => ?_
          simp [PreOf, factOf, valOf, Ph.is, Ph.by_, Ph.any, Region.binds] at hp
          refine ⟨by simp [Gd, valOf, hp], ?_⟩
          refine mild_val (.string (bst (slotM m))) ?_ rfl
          have hc := conv8 (by first | exact hp | exact hp.1 | exact hp.2 | exact hp.1.1 | exact hp.1.2 | exact hp.2.1 | exact hp.2.2)
          simp [execOp, evalF, hp, hc]
        · -- 13: slot 33 := Op.binOp BinOp.neq 9 t29 t32 9
          refine ob_yes fun f w' hb hp => ?_
          simp [PreOf, factOf, valOf, Ph.is, Ph.by_, Ph.any, Region.binds] at hp
          refine ⟨by simp [Gd, valOf, hp], ?_⟩
          refine mild_val (.bool (decide (s ≠ slotM m))) ?_ rfl
          have hst := bst_eq s (slotM m)
          simp [execOp, evalF, hp, go_sem, hst]
        · -- 14: slot 34 := Op.pick t27 t33 (const (Value.bool false))
          refine ob_yes fun f w' hb hp => ?_
          simp [PreOf, factOf, valOf, Ph.is, Ph.by_, Ph.any, Region.binds] at hp
          refine ⟨by simp [Gd, valOf, hp], ?_⟩
          refine mild_val (.bool (decide (s ≠ slotM m))) ?_ rfl
          simp [execOp, evalF, hp, go_sem]
        · -- 15: slot 8 := Op.assign t34
          refine ob_yes fun f w' hb hp => ?_
          simp [PreOf, factOf, valOf, Ph.is, Ph.by_, Ph.any, Region.binds] at hp
          refine ⟨by simp [Gd, valOf, hp], ?_⟩
          refine mild_val (.bool (decide (s ≠ slotM m))) ?_ rfl
          simp [execOp, evalF, hp]
      · intro f w2 hb2 hp
        simp only [PostOf, Ph.is, Ph.by_, Ph.any] at hp
        obtain ⟨h0, h1, h2, h3, h4, h5, h6, h7, h8, h9, h10, h11, h12, h13, h14, h15, _⟩ := hp
        simp only [fills, List.foldl_cons, List.foldl_nil, Act.put, List.setIfInBounds_toArray, List.set_cons_zero, List.set_cons_succ, h0, h1, h2, h3, h4, h5, h6, h7, h8, h9, h10, h12, h13, h14, h15]
        clear h0 h1 h2 h3 h4 h5 h6 h7 h8 h9 h10 h12 h13 h14 h15
        generalize f 31 = v31 at *
        go_wp2_with fail
        go_ret
        exact ⟨by simp [hsa], bstep Hb4.out hb2⟩
end Go.Proofs.Ytpoicbhbkabllaa

namespace Go.Proofs.Ytpoicbhbkabllaa
set_option linter.unusedSimpArgs false
set_option linter.unusedVariables false
open Go.RowKit

def cMan : Cdc MMan where
  n := 3
  at_ := fun w S cs m => ∃ v, cs = encM m v ∧ RowOn cFile w S S v m.files
  len := fun h => by obtain ⟨v, rfl, _⟩ := h; rfl
  one := fun h => by
    obtain ⟨v, rfl, h⟩ := h
    obtain ⟨A, c, rfl, _⟩ := h
    exact encM_one _ _ rfl
  keep := fun h hk => by obtain ⟨v, e, h⟩ := h; exact ⟨v, e, h.keep hk hk⟩
  mono := fun h hk => by obtain ⟨v, e, h⟩ := h; exact ⟨v, e, h.mono hk hk⟩
abbrev ByMs (w : World) (B : Nat) (v : Value) (l : List MMan) : Prop := RowOn cMan w (fun k => k < B) (fun k => k < B) v l
theorem ByMs.below {w w' : World} {B : Nat} {v : Value} {l : List MMan} (h : ByMs w B v l) (hb : Below B w w') : ByMs w' B v l := h.keep (fun p hp => hb.cell hp) (fun p hp => hb.cell hp)
/-- the cells of the k-th manifest -/
theorem ByMs.cells {w : World} {B : Nat} {A : Option Addr} {n c : Nat} {l : List MMan} (h : ByMs w B (.slice A n c) l) (k : Nat) (hk : k < l.length) :
    n = l.length ∧ ∃ ad v, A = some ad ∧ ad.block < B ∧ ByF w B v (l[k]).files ∧ (∀ (j : Nat) (u : Value), (encM l[k] v)[j]? = some u → w.cell? ((ad.add (k * 3)).add j) = some u) := by
  obtain ⟨ad, cs, e, hb, ⟨v, rfl, hr⟩, hc⟩ := h.at_ k _ (List.getElem?_eq_getElem hk)
  exact ⟨(h.len_).1, ad, v, e, hb, hr, fun j u hu => by rw [add_add]; exact hc j u hu⟩
theorem InC.mans {w : World} {cs : List Value} (h : InC w 77 cs) : ∃ v xs, cs = [v] ∧ ByMs w w.heap.size v xs :=
  h.row (C := cMan) Try.underlying77 (by kernel_rfl) (by decide) fun cs hc => by
    obtain ⟨m, vf, e, hf⟩ := hc.man
    exact ⟨m, vf, e, hf⟩
end Go.Proofs.Ytpoicbhbkabllaa

namespace Go.Proofs.Ytpoicbhbkabllaa
set_option linter.unusedSimpArgs false
set_option linter.unusedVariables false
open Go.RowKit

theorem all_take_succ (l : List UInt8) (k : Nat) (hk : k < l.length) : ((l.take (k + 1)).all fun x => decide (x = 0)) = (((l.take k).all fun x => decide (x = 0)) && decide (l[k] = 0)) := by
  rw [List.take_add_one, List.getElem?_eq_getElem hk, Option.toList_some, List.all_append]
  simp
theorem u8_beq0 (x : UInt8) : (((x.toNat : Nat) : Int) == 0) = decide (x = 0) := by
  by_cases h : x = 0
  · subst h; rfl
  · have : x.toNat ≠ 0 := fun e => h (UInt8.toNat_inj.1 e)
    rw [decide_eq_false h]
    exact beq_eq_false_iff_ne.2 (by omega)
set_option maxRecDepth 100000 in
set_option maxHeartbeats 3200000 in
theorem rread09_on (w : World) (O : Nat → Prop) (v : Value) (m : RD) (hO : ∀ k, O k → k < w.heap.size) (hl : m.made.length ≤ 1000000) (hl2 : m.wait.length ≤ 1000000) (h : RDV w O v m) (h128 : ∀ i, (readRL m i).length ≤ 128) (ho : m.off = false) (hc : 32 < m.count) :
    Calls Try.prog 37 #[v] w fun e w' => ∃ v', e = .returned (.tuple #[v', .int .i64 (rdE (rst (rslotL m) 2))]) ∧ MIn w' w.heap.size v' (rdM (rst (rslotL m) 2)) ∧ Below w.heap.size w w' := by
  obtain ⟨v1, v2, rfl, h1, h2, h3, h4⟩ := h
  have Hv : Hid (RDV w O (.agg #[.int .i64 m.count, .bool false, .int .i64 m.fuse, v1, v2]) m) := ⟨v1, v2, by rw [ho], h1, h2, h3, h4⟩
  rw [ho]
  obtain ⟨w0, hw0⟩ : ∃ w0, w0 = w.alloc (.cells #[Value.int .i64 m.count, .bool false, .int .i64 m.fuse, v1, v2] 42) := ⟨_, rfl⟩
  have hb0 : Below w.heap.size w w0 := by rw [hw0]; exact balloc w _
  have hx0 : BoxAt 42 w0 w.heap.size [Value.int .i64 m.count, .bool false, .int .i64 m.fuse, v1, v2] := by rw [hw0]; exact BoxAt.new_ _ _ [Value.int .i64 m.count, .bool false, .int .i64 m.fuse, v1, v2]
  have hz0 : w0.heap.size = w.heap.size + 1 := by rw [hw0]; simp
  obtain ⟨wa, hwa⟩ : ∃ wa, wa = w0.alloc (.cells zeroMc.toArray 56) := ⟨_, rfl⟩
  have hba : Below w0.heap.size w0 wa := by rw [hwa]; exact balloc _ _
  have hres : BoxAt 56 wa w0.heap.size zeroMc := by rw [hwa]; exact BoxAt.new_ _ _ _
  have hza : wa.heap.size = w.heap.size + 1 + 1 := by rw [hwa]; simp [hz0]
  have Hw0 := Lib.hid hw0
  have Hwa := Lib.hid hwa
  have Ba := Lib.hid (bstep hb0 hba)
  have Dda := Lib.hid (hx0.blwM hba)
  have Rsa := Lib.hid hres
  have HO := Lib.hid hO
  have H128 := Lib.hid h128
  have Hz : Hid (∀ u ∈ zeroMc, u.oneCell' = true) := encM_one emptyM _ rfl
  obtain ⟨er, her⟩ : ∃ er : Int, er = rdE (rst (rslotL m) 2) := ⟨_, rfl⟩
  obtain ⟨rm, hrm⟩ : ∃ rm : MMan, rm = rdM (rst (rslotL m) 2) := ⟨_, rfl⟩
  rw [← her, ← hrm]
  have Her := Lib.hid her
  have Hrm := Lib.hid hrm
  have hcd : decide (m.count ≤ 32) = false := decide_eq_false (by omega)
  obtain ⟨g2, hg2⟩ : ∃ g2, g2 = w0.heap.size := ⟨_, rfl⟩
  rw [← hg2] at Rsa
  have hg2' : w.heap.size < g2 := by omega
  have hc0 := Dda.out.cell 0 _ rfl
  have hc1 := Dda.out.cell 1 _ rfl
  have Hg2 := Lib.hid hg2
  clear hw0 hwa hb0 hx0 hba hres h1 h2 h3 h4 hO h128 her hrm hg2
  go_enter Try.func37, Try.ntmps37
  go_upto_region 1 with (first
    | (refine wpList_alloc_z rfl 56 rfl info_manz zeroMc zeroM_cells ?_))
  try simp only [Act.put, List.setIfInBounds_toArray, List.set_cons_zero, List.set_cons_succ]
  rw [← Hw0.out, ← Hwa.out]
  try rw [← hz0]
  rw [← Hg2.out]
  go_upto_region 2 with (first
    | (refine wpList_alloc_z rfl 56 rfl info_manz zeroMc zeroM_cells ?_)
    | (refine wpList_store_newW rfl 56 (.tmp 4) (.tmp 13) rfl zeroMc zeroMc rfl rfl info_man3 rfl Hz.out ?_
       intro wb hbx hb1 hzb))
  try simp only [Act.put, List.setIfInBounds_toArray, List.set_cons_zero, List.set_cons_succ]
  obtain ⟨gb, hgb⟩ : ∃ gb, gb = wa.heap.size := ⟨_, rfl⟩
  rw [← hgb] at hbx hzb ⊢
  have hgb' : g2 < gb := by have := Hg2.out; omega
  have Bb := Lib.hid (bstep Ba.out hb1)
  have Rsb := Lib.hid (Rsa.out.blwM hb1)
  have Ddb := Lib.hid (Dda.out.blwM hb1)
  have Bxb := Lib.hid hbx
  have hd0 := Ddb.out.cell 0 _ rfl
  have hd1 := Ddb.out.cell 1 _ rfl
  clear hbx hb1 hgb hc0 hc1 Ba Rsa Dda
  go_wp2_with fail
  go_loopw [5, 6, 7] (fun fv bv iv wr => ∃ (k : Nat) (vf : Value), k ≤ 2 ∧ fv = .bool (rst (rslotL m) k).found ∧ bv = .bool (rst (rslotL m) k).blank ∧ iv = .int .i64 k ∧ BoxAt 56 wr gb (encM (rst (rslotL m) k).best vf) ∧
    MIn wr (gb + 1) (.agg (encM (rst (rslotL m) k).best vf).toArray) (rst (rslotL m) k).best ∧ BoxAt 56 wr g2 zeroMc ∧ BoxAt 42 wr w.heap.size [Value.int .i64 m.count, .bool false, .int .i64 m.fuse, v1, v2] ∧ Below w.heap.size w wr ∧ gb < wr.heap.size) (fun _ _ i _ => 2 - (intOf i).toNat)
  case atStart => exact ⟨0, .slice none 0 0, by omega, rfl, rfl, rfl, Bxb.out, MIn.empty _ _, Rsb.out, Ddb.out, Bb.out, by omega⟩
  case round =>
    obtain ⟨k, vf, hk, rfl, rfl, rfl, hbx, hin, hres, hdd, hblw, hgw⟩ := hrel
    have hst : rst (rslotL m) (k + 1) = rstep (rslotL m k) (rst (rslotL m) k) := rfl
    have Hst := Lib.hid hst
    have Bx := Lib.hid hbx
    have In := Lib.hid hin
    have Rs := Lib.hid hres
    have Dd := Lib.hid hdd
    have Bl := Lib.hid hblw
    obtain ⟨vf', hvf', hff⟩ := id hin
    have hvfe : vf = vf' := by
      have := hvf'
      simp [encM] at this
      exact this
    subst hvfe
    obtain ⟨Af, cf, hvf, _, _⟩ := hff.form
    subst hvf
    have hc0 := hbx.cell 0 _ rfl
    have hlen2 := rslotK_len m H128.out k 16
    clear hst hbx hin hres hdd hblw hvf' hff hd0 hd1
    by_cases hlt : k < 2
    · have hsl2 : (rslotL m k).length ≤ 2048 := hlen2
      have hslot := rslot_any wr O _ m k hlt (fun q hq => by have := HO.out q hq; have := Bl.out.size; omega) hl hl2 (Hv.out.below Bl.out HO.out) H128.out
      generalize hb : rslotL m k = b at *
      generalize hs : rst (rslotL m) k = s at *
      obtain ⟨best, found, blank⟩ := s
      simp only at Bx In hc0
      have Hslot := Lib.hid hslot
      clear hslot hb hs hlen2
      go_wp2_with (refine wpList_load_agg rfl 42 (.tmp 1) rfl ⟨w.heap.size, 0, none⟩ rfl [Value.int .i64 m.count, .bool false, .int .i64 m.fuse, v1, v2] Dd.out.cells Try.underlying42 rfl info_rD5 ?_)
      refine Hslot.out.mono ?_
      rintro _ w1 ⟨v1x, rfl, how1, hb1⟩
      have By1 := Lib.hid how1.by_
      have Bx1 := Lib.hid (Bx.out.blwM hb1)
      have In1 := Lib.hid (In.out.step hb1)
      have Rs1 := Lib.hid (Rs.out.blwM hb1)
      have Dd1 := Lib.hid (Dd.out.blwM hb1)
      have Bl1 := Lib.hid (Bl.out.trans (hb1.mono (by have := Bl.out.size; omega)))
      have hs1 := hb1.size
      obtain ⟨A1, c1, hv1, hA1, hA2, _⟩ := how1.form_
      subst hv1
      unfold maxLen at hA2
      clear how1 hb1 hc0 Bx In Rs Dd Bl Hslot
      go_wp2_with fail
      go_loop [9, 30] (fun zv iv => ∃ q : Nat, q ≤ b.length ∧ iv = .int .i64 q ∧ zv = .bool ((b.take q).all fun x => decide (x = 0))) (fun _ i => b.length - (intOf i).toNat)
      case atStart => exact ⟨0, by omega, rfl, rfl⟩
      case round =>
        obtain ⟨q, hq, rfl, rfl⟩ := hrel
        by_cases hql : q < b.length
        · obtain ⟨ad, rfl, hab, hcell⟩ := By1.out.at_ q hql
          have hts := all_take_succ b q hql
          have hu := u8_beq0 b[q]
          have Hts := Lib.hid hts
          generalize b[q] = x at *
          generalize (b.take q).all (fun x => decide (x = 0)) = zq at *
          generalize decide (x = 0) = zx at *
          clear hts
          cases zq <;>
            (go_wp2_with fail
             go_round
             case rel => exact ⟨q + 1, by omega, by go_num, by rw [Hts.out]; simp⟩
             case measure => simp [intOf]; omega)
        · obtain rfl : q = b.length := by omega
          rw [List.take_length]
          obtain ⟨z, hz0⟩ : ∃ z, z = b.all fun x => decide (x = 0) := ⟨_, rfl⟩
          rw [← hz0]
          have Hz0 := Lib.hid hz0
          clear hz0
          cases hbl : blank with
          | true =>
            go_wp2_with fail
            refine (rmget_any w1 _ b By1.out (by omega)).mono ?_
            rintro _ w2 ⟨v2, rfl, hm2, hb2⟩
            obtain ⟨mm, hmm⟩ : ∃ mm, mm = getM b := ⟨_, rfl⟩
            rw [← hmm] at hm2
            obtain ⟨vg, hvg, hgg⟩ := id hm2
            obtain ⟨Ag, cg, hvg2, _, _⟩ := hgg.form
            subst hvg2
            subst hvg
            have Hone : Hid (∀ u ∈ encM mm (.slice Ag mm.files.length cg), u.oneCell' = true) := encM_one _ _ rfl
            have Gm2 := Lib.hid hm2
            have Bx2 := Lib.hid (Bx1.out.blwM hb2)
            have In2 := Lib.hid (In1.out.step hb2)
            have Rs2 := Lib.hid (Rs1.out.blwM hb2)
            have Dd2 := Lib.hid (Dd1.out.blwM hb2)
            have Bl2 := Lib.hid (Bl1.out.trans (hb2.mono (by have := Bl1.out.size; omega)))
            have hs2 := hb2.size
            have Hmm := Lib.hid hmm
            obtain ⟨ok, hok⟩ : ∃ ok, ok = getOk b := ⟨_, rfl⟩
            rw [← hok]
            have Hok := Lib.hid hok
            clear hm2 hgg hb2 hmm hok
            go_upto_region 20 with (first
              | (refine wpList_alloc_z rfl 56 rfl info_manz zeroMc zeroM_cells ?_)
              | (refine wpList_store_newW rfl 56 (.tmp 11) (.tmp 49) rfl zeroMc (encM mm (.slice Ag mm.files.length cg)) rfl rfl info_man3 rfl Hone.out ?_
                 intro w3 hbx3 hb3 hz3))
            try simp only [Act.put, List.setIfInBounds_toArray, List.set_cons_zero, List.set_cons_succ]
            have hc10 := hbx3.cell 0 _ rfl
            have hcb := (Bx2.out.blwM hb3).cell 0 _ rfl
            have Y3 := Lib.hid hbx3
            have GmX := Lib.hid ((Gm2.out.step hb3).low (show gb + 1 ≤ w1.heap.size by omega))
            have BxX := Lib.hid (Bx2.out.blwM hb3)
            have InX := Lib.hid (In2.out.step hb3)
            have RsX := Lib.hid (Rs2.out.blwM hb3)
            have DdX := Lib.hid (Dd2.out.blwM hb3)
            have BlX := Lib.hid (Bl2.out.trans (hb3.mono (by have := Bl2.out.size; omega)))
            have hs3 := hb3.size
            clear hbx3 hb3 Gm2 Bx2 In2 Rs2 Dd2 Bl2 Bx1 In1 Rs1 Dd1 Bl1 By1
            cases hok : ok with
            | false =>
              have hok' : getOk b = false := by rw [← Hok.out, hok]
              have hS : rst (rslotL m) (k + 1) = ⟨best, found, true⟩ := by rw [Hst.out]; simp [rstep, newer, hok', hbl]
              have HS := Lib.hid hS
              clear hS hok'
              go_wp2_with fail
              go_roundw
              case rel => exact ⟨k + 1, .slice Af best.files.length cf, by omega, by rw [HS.out], by rw [HS.out], by go_num, by rw [HS.out]; exact BxX.out, by rw [HS.out]; exact InX.out, RsX.out, DdX.out, BlX.out, by omega⟩
              case measure => simp [intOf]; omega
            | true =>
              have hok' : getOk b = true := by rw [← Hok.out, hok]
              cases hfo : found with
              | false =>
                have hS : rst (rslotL m) (k + 1) = ⟨mm, true, true⟩ := by rw [Hst.out, Hmm.out]; simp [rstep, newer, hok', hfo, hbl]
                have HS := Lib.hid hS
                clear hS hok'
                go_wp2_with (first
                  | (refine wpList_load_agg rfl 56 (.tmp 11) rfl ⟨w2.heap.size, 0, none⟩ rfl (encM mm (.slice Ag mm.files.length cg)) Y3.out.cells Try.underlying56 rfl info_man3 ?_)
                  | (refine wpList_store_boxW rfl 56 56 (.tmp 4) (.tmp 63) rfl gb (encM best (.slice Af best.files.length cf)) (encM mm (.slice Ag mm.files.length cg)) rfl rfl BxX.out rfl Hone.out info_man3 ?_
                     intro w4 hbx4 hch4 hz4))
                go_roundw
                case rel => exact ⟨k + 1, .slice Ag mm.files.length cg, by omega, by rw [HS.out], by rw [HS.out], by go_num, by rw [HS.out]; exact hbx4, by rw [HS.out]; exact GmX.out.chg hch4 (fun q hq => by omega), RsX.out.chg hch4 (fun e => by omega), DdX.out.chg hch4 (fun e => by omega), BlX.out.trans (hch4.below (B := w.heap.size) BlX.out.size (fun q hq => by omega)), by omega⟩
                case measure => simp [intOf]; omega
              | true =>
                by_cases hv : best.ver.toNat < mm.ver.toNat
                · have hS : rst (rslotL m) (k + 1) = ⟨mm, true, true⟩ := by rw [Hmm.out] at hv; rw [Hst.out, Hmm.out]; simp [rstep, newer, hok', hfo, hv, hbl]
                  have HS := Lib.hid hS
                  have hvd : decide ((best.ver.toNat : Int) < (mm.ver.toNat : Int)) = true := decide_eq_true (by omega)
                  clear hS hok'
                  go_wp2_with (first
                    | (refine wpList_load_agg rfl 56 (.tmp 11) rfl ⟨w2.heap.size, 0, none⟩ rfl (encM mm (.slice Ag mm.files.length cg)) Y3.out.cells Try.underlying56 rfl info_man3 ?_)
                    | (refine wpList_store_boxW rfl 56 56 (.tmp 4) (.tmp 63) rfl gb (encM best (.slice Af best.files.length cf)) (encM mm (.slice Ag mm.files.length cg)) rfl rfl BxX.out rfl Hone.out info_man3 ?_
                       intro w4 hbx4 hch4 hz4))
                  go_roundw
                  case rel => exact ⟨k + 1, .slice Ag mm.files.length cg, by omega, by rw [HS.out], by rw [HS.out], by go_num, by rw [HS.out]; exact hbx4, by rw [HS.out]; exact GmX.out.chg hch4 (fun q hq => by omega), RsX.out.chg hch4 (fun e => by omega), DdX.out.chg hch4 (fun e => by omega), BlX.out.trans (hch4.below (B := w.heap.size) BlX.out.size (fun q hq => by omega)), by omega⟩
                  case measure => simp [intOf]; omega
                · have hS : rst (rslotL m) (k + 1) = ⟨best, true, true⟩ := by rw [Hmm.out] at hv; rw [Hst.out]; simp [rstep, newer, hok', hfo, hv, hbl]
                  have HS := Lib.hid hS
                  have hvd : decide ((best.ver.toNat : Int) < (mm.ver.toNat : Int)) = false := decide_eq_false (by omega)
                  clear hS hok'
                  go_wp2_with fail
                  go_roundw
                  case rel => exact ⟨k + 1, .slice Af best.files.length cf, by omega, by rw [HS.out], by rw [HS.out], by go_num, by rw [HS.out]; exact BxX.out, by rw [HS.out]; exact InX.out, RsX.out, DdX.out, BlX.out, by omega⟩
                  case measure => simp [intOf]; omega
          | false =>
            go_wp2_with fail
            refine (rmget_any w1 _ b By1.out (by omega)).mono ?_
            rintro _ w2 ⟨v2, rfl, hm2, hb2⟩
            obtain ⟨mm, hmm⟩ : ∃ mm, mm = getM b := ⟨_, rfl⟩
            rw [← hmm] at hm2
            obtain ⟨vg, hvg, hgg⟩ := id hm2
            obtain ⟨Ag, cg, hvg2, _, _⟩ := hgg.form
            subst hvg2
            subst hvg
            have Hone : Hid (∀ u ∈ encM mm (.slice Ag mm.files.length cg), u.oneCell' = true) := encM_one _ _ rfl
            have Gm2 := Lib.hid hm2
            have Bx2 := Lib.hid (Bx1.out.blwM hb2)
            have In2 := Lib.hid (In1.out.step hb2)
            have Rs2 := Lib.hid (Rs1.out.blwM hb2)
            have Dd2 := Lib.hid (Dd1.out.blwM hb2)
            have Bl2 := Lib.hid (Bl1.out.trans (hb2.mono (by have := Bl1.out.size; omega)))
            have hs2 := hb2.size
            have Hmm := Lib.hid hmm
            obtain ⟨ok, hok⟩ : ∃ ok, ok = getOk b := ⟨_, rfl⟩
            rw [← hok]
            have Hok := Lib.hid hok
            clear hm2 hgg hb2 hmm hok
            go_upto_region 20 with (first
              | (refine wpList_alloc_z rfl 56 rfl info_manz zeroMc zeroM_cells ?_)
              | (refine wpList_store_newW rfl 56 (.tmp 11) (.tmp 49) rfl zeroMc (encM mm (.slice Ag mm.files.length cg)) rfl rfl info_man3 rfl Hone.out ?_
                 intro w3 hbx3 hb3 hz3))
            try simp only [Act.put, List.setIfInBounds_toArray, List.set_cons_zero, List.set_cons_succ]
            have hc10 := hbx3.cell 0 _ rfl
            have hcb := (Bx2.out.blwM hb3).cell 0 _ rfl
            have Y3 := Lib.hid hbx3
            have GmX := Lib.hid ((Gm2.out.step hb3).low (show gb + 1 ≤ w1.heap.size by omega))
            have BxX := Lib.hid (Bx2.out.blwM hb3)
            have InX := Lib.hid (In2.out.step hb3)
            have RsX := Lib.hid (Rs2.out.blwM hb3)
            have DdX := Lib.hid (Dd2.out.blwM hb3)
            have BlX := Lib.hid (Bl2.out.trans (hb3.mono (by have := Bl2.out.size; omega)))
            have hs3 := hb3.size
            clear hbx3 hb3 Gm2 Bx2 In2 Rs2 Dd2 Bl2 Bx1 In1 Rs1 Dd1 Bl1 By1
            cases hok : ok with
            | false =>
              have hok' : getOk b = false := by rw [← Hok.out, hok]
              have hS : rst (rslotL m) (k + 1) = ⟨best, found, z⟩ := by rw [Hst.out]; simp [rstep, newer, hok', hbl, ← Hz0.out]
              have HS := Lib.hid hS
              clear hS hok'
              go_wp2_with fail
              go_roundw
              case rel => exact ⟨k + 1, .slice Af best.files.length cf, by omega, by rw [HS.out], by rw [HS.out], by go_num, by rw [HS.out]; exact BxX.out, by rw [HS.out]; exact InX.out, RsX.out, DdX.out, BlX.out, by omega⟩
              case measure => simp [intOf]; omega
            | true =>
              have hok' : getOk b = true := by rw [← Hok.out, hok]
              cases hfo : found with
              | false =>
                have hS : rst (rslotL m) (k + 1) = ⟨mm, true, z⟩ := by rw [Hst.out, Hmm.out]; simp [rstep, newer, hok', hfo, hbl, ← Hz0.out]
                have HS := Lib.hid hS
                clear hS hok'
                go_wp2_with (first
                  | (refine wpList_load_agg rfl 56 (.tmp 11) rfl ⟨w2.heap.size, 0, none⟩ rfl (encM mm (.slice Ag mm.files.length cg)) Y3.out.cells Try.underlying56 rfl info_man3 ?_)
                  | (refine wpList_store_boxW rfl 56 56 (.tmp 4) (.tmp 63) rfl gb (encM best (.slice Af best.files.length cf)) (encM mm (.slice Ag mm.files.length cg)) rfl rfl BxX.out rfl Hone.out info_man3 ?_
                     intro w4 hbx4 hch4 hz4))
                go_roundw
                case rel => exact ⟨k + 1, .slice Ag mm.files.length cg, by omega, by rw [HS.out], by rw [HS.out], by go_num, by rw [HS.out]; exact hbx4, by rw [HS.out]; exact GmX.out.chg hch4 (fun q hq => by omega), RsX.out.chg hch4 (fun e => by omega), DdX.out.chg hch4 (fun e => by omega), BlX.out.trans (hch4.below (B := w.heap.size) BlX.out.size (fun q hq => by omega)), by omega⟩
                case measure => simp [intOf]; omega
              | true =>
                by_cases hv : best.ver.toNat < mm.ver.toNat
                · have hS : rst (rslotL m) (k + 1) = ⟨mm, true, z⟩ := by rw [Hmm.out] at hv; rw [Hst.out, Hmm.out]; simp [rstep, newer, hok', hfo, hv, hbl, ← Hz0.out]
                  have HS := Lib.hid hS
                  have hvd : decide ((best.ver.toNat : Int) < (mm.ver.toNat : Int)) = true := decide_eq_true (by omega)
                  clear hS hok'
                  go_wp2_with (first
                    | (refine wpList_load_agg rfl 56 (.tmp 11) rfl ⟨w2.heap.size, 0, none⟩ rfl (encM mm (.slice Ag mm.files.length cg)) Y3.out.cells Try.underlying56 rfl info_man3 ?_)
                    | (refine wpList_store_boxW rfl 56 56 (.tmp 4) (.tmp 63) rfl gb (encM best (.slice Af best.files.length cf)) (encM mm (.slice Ag mm.files.length cg)) rfl rfl BxX.out rfl Hone.out info_man3 ?_
                       intro w4 hbx4 hch4 hz4))
                  go_roundw
                  case rel => exact ⟨k + 1, .slice Ag mm.files.length cg, by omega, by rw [HS.out], by rw [HS.out], by go_num, by rw [HS.out]; exact hbx4, by rw [HS.out]; exact GmX.out.chg hch4 (fun q hq => by omega), RsX.out.chg hch4 (fun e => by omega), DdX.out.chg hch4 (fun e => by omega), BlX.out.trans (hch4.below (B := w.heap.size) BlX.out.size (fun q hq => by omega)), by omega⟩
                  case measure => simp [intOf]; omega
                · have hS : rst (rslotL m) (k + 1) = ⟨best, true, z⟩ := by rw [Hmm.out] at hv; rw [Hst.out]; simp [rstep, newer, hok', hfo, hv, hbl, ← Hz0.out]
                  have HS := Lib.hid hS
                  have hvd : decide ((best.ver.toNat : Int) < (mm.ver.toNat : Int)) = false := decide_eq_false (by omega)
                  clear hS hok'
                  go_wp2_with fail
                  go_roundw
                  case rel => exact ⟨k + 1, .slice Af best.files.length cf, by omega, by rw [HS.out], by rw [HS.out], by go_num, by rw [HS.out]; exact BxX.out, by rw [HS.out]; exact InX.out, RsX.out, DdX.out, BlX.out, by omega⟩
                  case measure => simp [intOf]; omega
    · obtain rfl : k = 2 := by omega
      generalize hs : rst (rslotL m) 2 = s at *
      obtain ⟨best, found, blank⟩ := s
      simp only at Bx In hc0
      cases hfo : found with
      | true =>
        have hr : er = 0 := by rw [Her.out, hfo]; rfl
        have hm : rm = best := by rw [Hrm.out, hfo]; rfl
        have Hm := Lib.hid hm
        have Hone : Hid (∀ u ∈ encM best (.slice Af best.files.length cf), u.oneCell' = true) := encM_one _ _ rfl
        subst hr
        clear hm
        go_wp2_with (first
          | (refine wpList_load_agg rfl 56 (.tmp 4) rfl ⟨gb, 0, none⟩ rfl (encM best (.slice Af best.files.length cf)) Bx.out.cells Try.underlying56 rfl info_man3 ?_)
          | (refine wpList_store_boxW rfl 56 56 (.tmp 2) (.tmp 71) rfl g2 zeroMc (encM best (.slice Af best.files.length cf)) rfl rfl Rs.out rfl Hone.out info_man3 ?_
             intro we hend hche hze))
        refine bodyPost_ret (results_ct rfl _ _ g2 (encM best (.slice Af best.files.length cf)) rfl (fun j v hj => (hend.cells j v hj : _)) Try.underlying56 rfl info_man3) rfl ?_
        refine ⟨_, rfl, by rw [Hm.out]; exact (In.out.chg hche (fun q hq => by omega)).low (by omega), Bl.out.trans (hche.below (B := w.heap.size) Bl.out.size (fun k hk => by omega))⟩
      | false =>
        cases hbl : blank with
        | true =>
          have hr : er = 0 := by rw [Her.out, hfo, hbl]; rfl
          have hm : rm = best := by rw [Hrm.out, hfo, hbl]; rfl
          have Hm := Lib.hid hm
          have Hone : Hid (∀ u ∈ encM best (.slice Af best.files.length cf), u.oneCell' = true) := encM_one _ _ rfl
          subst hr
          clear hm
          go_wp2_with (first
            | (refine wpList_load_agg rfl 56 (.tmp 4) rfl ⟨gb, 0, none⟩ rfl (encM best (.slice Af best.files.length cf)) Bx.out.cells Try.underlying56 rfl info_man3 ?_)
            | (refine wpList_store_boxW rfl 56 56 (.tmp 2) (.tmp 71) rfl g2 zeroMc (encM best (.slice Af best.files.length cf)) rfl rfl Rs.out rfl Hone.out info_man3 ?_
               intro we hend hche hze))
          refine bodyPost_ret (results_ct rfl _ _ g2 (encM best (.slice Af best.files.length cf)) rfl (fun j v hj => (hend.cells j v hj : _)) Try.underlying56 rfl info_man3) rfl ?_
          refine ⟨_, rfl, by rw [Hm.out]; exact (In.out.chg hche (fun q hq => by omega)).low (by omega), Bl.out.trans (hche.below (B := w.heap.size) Bl.out.size (fun k hk => by omega))⟩
        | false =>
          have hr : er = 5 := by rw [Her.out, hfo, hbl]; rfl
          have hm : rm = emptyM := by rw [Hrm.out, hfo, hbl]; rfl
          have Hm := Lib.hid hm
          subst hr
          clear hm
          go_wp2_with (refine wpList_store_boxW rfl 56 56 (.tmp 2) (.tmp 70) rfl g2 zeroMc zeroMc rfl rfl Rs.out rfl Hz.out info_man3 ?_
                       intro we hend hche hze)
          refine bodyPost_ret (results_ct rfl _ _ g2 zeroMc rfl (fun j v hj => (hend.cells j v hj : _)) Try.underlying56 rfl info_man3) rfl ?_
          refine ⟨_, rfl, by rw [Hm.out]; exact MIn.empty _ _, Bl.out.trans (hche.below (B := w.heap.size) Bl.out.size (fun k hk => by omega))⟩
end Go.Proofs.Ytpoicbhbkabllaa
