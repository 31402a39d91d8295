/- The law 'CrcSums' returns true for every input, and each argument reads behind the call as it read before. No condition. (The frame was written by the kit's program; the walk is mine.) -/
import Derived.Test.YtneihfmacljjbaaRows
import Derived.Test.YtneihfmacljjbaaLaw02
import Derived.WalkKit
import Derived.ProofKit
import Derived.OpenShut
import Derived.ShutString
import Derived.ChangeOld
import Derived.Below
namespace Go.Proofs.Ytneihfmacljjbaa.crcSums
open Go.Proofs.Ytneihfmacljjbaa
open Go.ChangeShapes Go.WideShapes Go.ChangeAt Go.RowKit
open Go.ChangeMaps (open_string shut_string)
set_option linter.unusedVariables false

theorem own : ownKnob Try.prog.godebug = none := by kernel_rfl
theorem laidOut : laidOutB Try.prog = true := by kernel_rfl

/-- WHAT THE WALK IS TOLD OF A SLICE OF INTEGERS THAT CAME IN: it is nil; or it leads to a row of 'cap' cells, the numbers 'zs' (the first 'len' are its elements, the rest its spare room), each fitting its kind. -/
def IsRow (k : IntKind) (w : World) (a : Option Addr) (len cap : Nat) (zs : List Int) : Prop :=
  (a = none ∧ len = 0 ∧ cap = 0 ∧ zs = []) ∨
  ∃ x, a = some x ∧ len ≤ cap ∧ cap ≤ maxLen ∧ zs.length = cap ∧ (∀ i, i < zs.length → w.cell? (x.add i) = some (.int k (zs.getD i 0))) ∧ ∀ n ∈ zs, (Lit.int k n).wf = true

/-! ### STEP 1: THE WALK: the Go text returns true, AND WRITES NOTHING THAT WAS THERE: 'Below w.heap.size w w'' (Derived/Below.lean: '.refl', '.alloc', '.drew', '.setCell' at a new block, '.trans'). Open each 'IsRow' by 'rcases' AHEAD of 'go_enter'; part every test ahead of the walk. -/
set_option maxRecDepth 100000 in
set_option maxHeartbeats 2000000 in
theorem walk (a0 : Option Addr) (len0 cap0 : Nat) (z0 : List Int) (a1 : Int) (w : World) (w0 : IsRow .u8 w a0 len0 cap0 z0) (w1 : (Lit.int .i64 a1).wf = true) :
    Calls Try.prog 3 #[.slice a0 len0 cap0, .int .i64 a1] w fun e w' => e = .returned (.bool true) ∧ Below w.heap.size w w' := by
  obtain ⟨l, hl, hby⟩ := by_of_row w0
  subst hl
  obtain ⟨hlo, hhi⟩ := i64_of_wf w1
  clear w0 w1
  by_cases hbig : 1000 < l.length
  · have ⟨_, _, hcm⟩ := hby.len_
    unfold maxLen at hcm
    go_enter Try.func3, Try.ntmps3
    go_wp2_with (go_at_call 14; refine (awake02 _).mono ?_; rintro e w1 ⟨rfl, hb1⟩)
    go_ret
    exact ⟨rfl, hb1⟩
  · have ⟨_, hlc, hcm⟩ := hby.len_
    unfold maxLen at hcm
    have hcase : (0 < a1 ∧ a1 ≤ l.length) ∨ ¬ 0 < a1 ∨ (0 < a1 ∧ ¬ a1 ≤ l.length) := by omega
    rcases hcase with ⟨hk0, hk1⟩ | hk0 | ⟨hk0, hk1⟩
    · obtain ⟨k, rfl⟩ := Int.eq_ofNat_of_zero_le (by omega : 0 ≤ a1)
      go_enter Try.func3, Try.ntmps3
      go_wp2_with (go_at_call 15; refine (rsum_any _ _ _ l hby).mono ?_; rintro e w1 ⟨rfl, hb1⟩)
      have hw1 := hby.step hb1
      have hk2 : k ≤ l.length := by omega
      refine wp_region_typed [some 22, some 23, some 24, some 25, some 26, some 27, some 28, some 29, some 30, some 31, some 32, some 33, some 34, some 35, some 36, some 37, some 38, some 39, some 40, some 41, some 4] [22, 23, 24, 25, 26, 27, 28, 29, 30, 31, 32, 33, 34, 35, 36, 37, 38, 39, 40, 41, 4]
        [Ph.is (.slice a0 l.length cap0),
          Ph.blk 22 [.slice a0 l.length cap0],
          Ph.is (.int .u32 ((crcOf l).toNat : Int)),
          Ph.is (.int .u32 ((crcOf l).toNat : Int)),
          Ph.is (.bool true),
          Ph.is (.bool true),
          Ph.is (.slice a0 l.length cap0),
          Ph.is (.int .i64 ((k : Nat) : Int)),
          Ph.is (.slice a0 k cap0),
          Ph.is (.slice a0 l.length cap0),
          Ph.is (.int .i64 ((k : Nat) : Int)),
          Ph.is (.slice (if cap0 = k then a0 else a0.map (·.add k)) (l.length - k) (cap0 - k)),
          Ph.blk 22 [.slice a0 k cap0, .slice none 0 0, .slice (if cap0 = k then a0 else a0.map (·.add k)) (l.length - k) (cap0 - k)],
          Ph.is (.int .u32 ((crcOf l).toNat : Int)),
          Ph.is (.int .u32 ((crcOf l).toNat : Int)),
          Ph.is (.bool true),
          Ph.is (.bool true),
          Ph.is (.bool true),
          Ph.is (.bool true),
          Ph.is (.bool true),
          Ph.is (.bool true)] rfl rfl (by kernel_rfl) (by kernel_rfl) ?_ ?_
      · refine ⟨?_, ?_, ?_, ?_, ?_, ?_, ?_, ?_, ?_, ?_, ?_, ?_, ?_, ?_, ?_, ?_, ?_, ?_, ?_, ?_, ?_, trivial⟩
        all_goals
          refine ob_yes fun f w' hb hp => ?_
          simp [PreOf, factOf, valOf, Ph.is, Ph.by_, Ph.any, Region.binds, Ph.blk] at hp
          refine ⟨by simp [Gd, valOf, hp], ?_⟩
        · -- 0: slot 22 := Op.move t0
          refine mild_val (.slice a0 l.length cap0) ?_ rfl
          simp [execOp, evalF, hp]
        · -- 1: slot 23 := Op.buildSlice 64 1 #[(0, t22)]
          refine mild_alloc (.slice (some ⟨w'.heap.size, 0, none⟩) 1 1) (.cells #[.slice a0 l.length cap0] 22) ?_ ⟨_, rfl, heap_alloc_new _ _⟩
          simp [execOp, evalF, hp, go_sem]
        · -- 2: slot 24 := Op.call   value (Operand.func 16), args := #[t23], argTypes := #[64]  
          obtain ⟨g, hv, hg⟩ := hp
          refine mild_call 16 _ _ Try.f16 Try.func16 (by kernel_rfl) (by kernel_rfl) rfl ?_
          simp [evalF, hv, Ph.is]
          exact runOne w' l _ g (hw1.step hb) hg
        · -- 3: slot 25 := Op.move t6
          refine mild_val (.int .u32 ((crcOf l).toNat : Int)) ?_ rfl
          simp [execOp, evalF, hp]
        · -- 4: slot 26 := Op.binOp BinOp.eql 24 t24 t25 24
          refine mild_val (.bool true) ?_ rfl
          simp [execOp, evalF, hp, go_sem]
        · -- 5: slot 27 := Op.move t26
          refine mild_val (.bool true) ?_ rfl
          simp [execOp, evalF, hp]
        · -- 6: slot 28 := Op.move t0
          refine mild_val (.slice a0 l.length cap0) ?_ rfl
          simp [execOp, evalF, hp]
        · -- 7: slot 29 := Op.move t5
          refine mild_val (.int .i64 ((k : Nat) : Int)) ?_ rfl
          simp [execOp, evalF, hp]
        · -- 8: slot 30 := Op.slice 22 t28 none (some t29) none
          refine mild_val (.slice a0 k cap0) ?_ rfl
          simp [execOp, evalF, hp, go_sem]
          intro hx
          omega
        · -- 9: slot 31 := Op.move t0
          refine mild_val (.slice a0 l.length cap0) ?_ rfl
          simp [execOp, evalF, hp]
        · -- 10: slot 32 := Op.move t5
          refine mild_val (.int .i64 ((k : Nat) : Int)) ?_ rfl
          simp [execOp, evalF, hp]
        · -- 11: slot 33 := Op.slice 22 t31 (some t32) none none
          refine mild_val (.slice (if cap0 = k then a0 else a0.map (·.add k)) (l.length - k) (cap0 - k)) ?_ rfl
          simp [execOp, evalF, hp, go_sem]
          intro hx
          omega
        · -- 12: slot 34 := Op.buildSlice 64 3 #[(0, t30), (1, const (Value.slice none 0 0)), (2, t33)]
          refine mild_alloc (.slice (some ⟨w'.heap.size, 0, none⟩) 3 3) (.cells #[.slice a0 k cap0, .slice none 0 0, .slice (if cap0 = k then a0 else a0.map (·.add k)) (l.length - k) (cap0 - k)] 22) ?_ ⟨_, rfl, heap_alloc_new _ _⟩
          simp [execOp, evalF, hp, go_sem]
        · -- 13: slot 35 := Op.call   value (Operand.func 16), args := #[t34], argTypes := #[64]  
          obtain ⟨⟨g, hv, hg⟩, _⟩ := hp
          refine mild_call 16 _ _ Try.f16 Try.func16 (by kernel_rfl) (by kernel_rfl) rfl ?_
          simp [evalF, hv, Ph.is]
          have hs := sum_any (some ⟨g, 0, none⟩) 3 3 [.slice a0 k cap0, .slice none 0 0, .slice (if cap0 = k then a0 else a0.map (·.add k)) (l.length - k) (cap0 - k)] [l.take k, [], l.drop k] w' rfl (rd_blk (vs := [.slice a0 k cap0, .slice none 0 0, .slice (if cap0 = k then a0 else a0.map (·.add k)) (l.length - k) (cap0 - k)]) hg) rfl (by decide) ?_
          · simpa using hs
          · have hbw := hw1.step hb
            intro j h1 h2
            rcases (show j = 0 ∨ j = 1 ∨ j = 2 by simp at h1; omega) with rfl | rfl | rfl
            · exact hbw.front_ (by omega)
            · exact By.nil_
            · exact hbw.back_ (by omega)
        · -- 14: slot 36 := Op.move t6
          refine mild_val (.int .u32 ((crcOf l).toNat : Int)) ?_ rfl
          simp [execOp, evalF, hp]
        · -- 15: slot 37 := Op.binOp BinOp.eql 24 t35 t36 24
          refine mild_val (.bool true) ?_ rfl
          simp [execOp, evalF, hp, go_sem]
        · -- 16: slot 38 := Op.pick t27 t37 (const (Value.bool false))
          refine mild_val (.bool true) ?_ rfl
          simp [execOp, evalF, hp, go_sem]
        · -- 17: slot 39 := Op.move t38
          refine mild_val (.bool true) ?_ rfl
          simp [execOp, evalF, hp]
        · -- 18: slot 40 := Op.call   value (Operand.func 14), args := #[], argTypes := #[]  
          refine mild_call 14 _ _ Try.f14 Try.func14 (by kernel_rfl) (by kernel_rfl) rfl ?_
          simp [evalF, hp, Ph.is, Ph.by_, Ph.any, Ph.blk]
          exact awake02 w'
        · -- 19: slot 41 := Op.pick t39 t40 (const (Value.bool false))
          refine mild_val (.bool true) ?_ rfl
          simp [execOp, evalF, hp, go_sem]
        · -- 20: slot 4 := Op.assign t41
          refine mild_val (.bool true) ?_ rfl
          simp [execOp, evalF, hp]
      · intro f w2 hb2 hp
        simp only [PostOf, Ph.is, Ph.by_, Ph.any, Ph.blk] at hp
        obtain ⟨h0, h1, h2, h3, h4, h5, h6, h7, h8, h9, h10, h11, h12, h13, h14, h15, h16, h17, h18, h19, h20, _⟩ := hp
        simp only [fills, List.foldl_cons, List.foldl_nil, Act.put, List.setIfInBounds_toArray, List.set_cons_zero, List.set_cons_succ, h0, h2, h3, h4, h5, h6, h7, h8, h9, h10, h11, h13, h14, h15, h16, h17, h18, h19, h20]
        clear h0 h2 h3 h4 h5 h6 h7 h8 h9 h10 h11 h13 h14 h15 h16 h17 h18 h19 h20
        generalize f 23 = v23 at *
        generalize f 34 = v34 at *
        go_wp2_with fail
        all_goals
          go_ret
          exact ⟨rfl, bstep hb1 hb2⟩
    · go_enter Try.func3, Try.ntmps3
      go_wp2_with (go_at_call 15; refine (rsum_any _ _ _ l hby).mono ?_; rintro e w1 ⟨rfl, hb1⟩)
      have hw1 := hby.step hb1
      obtain ⟨k, hk⟩ : ∃ k : Nat, k = 0 := ⟨0, rfl⟩
      rw [show Value.int .i64 0 = .int .i64 ((k : Nat) : Int) from by rw [hk]; rfl]
      have hk2 : k ≤ l.length := by omega
      clear hk
      refine wp_region_typed [some 22, some 23, some 24, some 25, some 26, some 27, some 28, some 29, some 30, some 31, some 32, some 33, some 34, some 35, some 36, some 37, some 38, some 39, some 40, some 41, some 4] [22, 23, 24, 25, 26, 27, 28, 29, 30, 31, 32, 33, 34, 35, 36, 37, 38, 39, 40, 41, 4]
        [Ph.is (.slice a0 l.length cap0),
          Ph.blk 22 [.slice a0 l.length cap0],
          Ph.is (.int .u32 ((crcOf l).toNat : Int)),
          Ph.is (.int .u32 ((crcOf l).toNat : Int)),
          Ph.is (.bool true),
          Ph.is (.bool true),
          Ph.is (.slice a0 l.length cap0),
          Ph.is (.int .i64 ((k : Nat) : Int)),
          Ph.is (.slice a0 k cap0),
          Ph.is (.slice a0 l.length cap0),
          Ph.is (.int .i64 ((k : Nat) : Int)),
          Ph.is (.slice (if cap0 = k then a0 else a0.map (·.add k)) (l.length - k) (cap0 - k)),
          Ph.blk 22 [.slice a0 k cap0, .slice none 0 0, .slice (if cap0 = k then a0 else a0.map (·.add k)) (l.length - k) (cap0 - k)],
          Ph.is (.int .u32 ((crcOf l).toNat : Int)),
          Ph.is (.int .u32 ((crcOf l).toNat : Int)),
          Ph.is (.bool true),
          Ph.is (.bool true),
          Ph.is (.bool true),
          Ph.is (.bool true),
          Ph.is (.bool true),
          Ph.is (.bool true)] rfl rfl (by kernel_rfl) (by kernel_rfl) ?_ ?_
      · refine ⟨?_, ?_, ?_, ?_, ?_, ?_, ?_, ?_, ?_, ?_, ?_, ?_, ?_, ?_, ?_, ?_, ?_, ?_, ?_, ?_, ?_, trivial⟩
        all_goals
          refine ob_yes fun f w' hb hp => ?_
          simp [PreOf, factOf, valOf, Ph.is, Ph.by_, Ph.any, Region.binds, Ph.blk] at hp
          refine ⟨by simp [Gd, valOf, hp], ?_⟩
        · -- 0: slot 22 := Op.move t0
          refine mild_val (.slice a0 l.length cap0) ?_ rfl
          simp [execOp, evalF, hp]
        · -- 1: slot 23 := Op.buildSlice 64 1 #[(0, t22)]
          refine mild_alloc (.slice (some ⟨w'.heap.size, 0, none⟩) 1 1) (.cells #[.slice a0 l.length cap0] 22) ?_ ⟨_, rfl, heap_alloc_new _ _⟩
          simp [execOp, evalF, hp, go_sem]
        · -- 2: slot 24 := Op.call   value (Operand.func 16), args := #[t23], argTypes := #[64]  
          obtain ⟨g, hv, hg⟩ := hp
          refine mild_call 16 _ _ Try.f16 Try.func16 (by kernel_rfl) (by kernel_rfl) rfl ?_
          simp [evalF, hv, Ph.is]
          exact runOne w' l _ g (hw1.step hb) hg
        · -- 3: slot 25 := Op.move t6
          refine mild_val (.int .u32 ((crcOf l).toNat : Int)) ?_ rfl
          simp [execOp, evalF, hp]
        · -- 4: slot 26 := Op.binOp BinOp.eql 24 t24 t25 24
          refine mild_val (.bool true) ?_ rfl
          simp [execOp, evalF, hp, go_sem]
        · -- 5: slot 27 := Op.move t26
          refine mild_val (.bool true) ?_ rfl
          simp [execOp, evalF, hp]
        · -- 6: slot 28 := Op.move t0
          refine mild_val (.slice a0 l.length cap0) ?_ rfl
          simp [execOp, evalF, hp]
        · -- 7: slot 29 := Op.move t5
          refine mild_val (.int .i64 ((k : Nat) : Int)) ?_ rfl
          simp [execOp, evalF, hp]
        · -- 8: slot 30 := Op.slice 22 t28 none (some t29) none
          refine mild_val (.slice a0 k cap0) ?_ rfl
          simp [execOp, evalF, hp, go_sem]
          intro hx
          omega
        · -- 9: slot 31 := Op.move t0
          refine mild_val (.slice a0 l.length cap0) ?_ rfl
          simp [execOp, evalF, hp]
        · -- 10: slot 32 := Op.move t5
          refine mild_val (.int .i64 ((k : Nat) : Int)) ?_ rfl
          simp [execOp, evalF, hp]
        · -- 11: slot 33 := Op.slice 22 t31 (some t32) none none
          refine mild_val (.slice (if cap0 = k then a0 else a0.map (·.add k)) (l.length - k) (cap0 - k)) ?_ rfl
          simp [execOp, evalF, hp, go_sem]
          intro hx
          omega
        · -- 12: slot 34 := Op.buildSlice 64 3 #[(0, t30), (1, const (Value.slice none 0 0)), (2, t33)]
          refine mild_alloc (.slice (some ⟨w'.heap.size, 0, none⟩) 3 3) (.cells #[.slice a0 k cap0, .slice none 0 0, .slice (if cap0 = k then a0 else a0.map (·.add k)) (l.length - k) (cap0 - k)] 22) ?_ ⟨_, rfl, heap_alloc_new _ _⟩
          simp [execOp, evalF, hp, go_sem]
        · -- 13: slot 35 := Op.call   value (Operand.func 16), args := #[t34], argTypes := #[64]  
          obtain ⟨⟨g, hv, hg⟩, _⟩ := hp
          refine mild_call 16 _ _ Try.f16 Try.func16 (by kernel_rfl) (by kernel_rfl) rfl ?_
          simp [evalF, hv, Ph.is]
          have hs := sum_any (some ⟨g, 0, none⟩) 3 3 [.slice a0 k cap0, .slice none 0 0, .slice (if cap0 = k then a0 else a0.map (·.add k)) (l.length - k) (cap0 - k)] [l.take k, [], l.drop k] w' rfl (rd_blk (vs := [.slice a0 k cap0, .slice none 0 0, .slice (if cap0 = k then a0 else a0.map (·.add k)) (l.length - k) (cap0 - k)]) hg) rfl (by decide) ?_
          · simpa using hs
          · have hbw := hw1.step hb
            intro j h1 h2
            rcases (show j = 0 ∨ j = 1 ∨ j = 2 by simp at h1; omega) with rfl | rfl | rfl
            · exact hbw.front_ (by omega)
            · exact By.nil_
            · exact hbw.back_ (by omega)
        · -- 14: slot 36 := Op.move t6
          refine mild_val (.int .u32 ((crcOf l).toNat : Int)) ?_ rfl
          simp [execOp, evalF, hp]
        · -- 15: slot 37 := Op.binOp BinOp.eql 24 t35 t36 24
          refine mild_val (.bool true) ?_ rfl
          simp [execOp, evalF, hp, go_sem]
        · -- 16: slot 38 := Op.pick t27 t37 (const (Value.bool false))
          refine mild_val (.bool true) ?_ rfl
          simp [execOp, evalF, hp, go_sem]
        · -- 17: slot 39 := Op.move t38
          refine mild_val (.bool true) ?_ rfl
          simp [execOp, evalF, hp]
        · -- 18: slot 40 := Op.call   value (Operand.func 14), args := #[], argTypes := #[]  
          refine mild_call 14 _ _ Try.f14 Try.func14 (by kernel_rfl) (by kernel_rfl) rfl ?_
          simp [evalF, hp, Ph.is, Ph.by_, Ph.any, Ph.blk]
          exact awake02 w'
        · -- 19: slot 41 := Op.pick t39 t40 (const (Value.bool false))
          refine mild_val (.bool true) ?_ rfl
          simp [execOp, evalF, hp, go_sem]
        · -- 20: slot 4 := Op.assign t41
          refine mild_val (.bool true) ?_ rfl
          simp [execOp, evalF, hp]
      · intro f w2 hb2 hp
        simp only [PostOf, Ph.is, Ph.by_, Ph.any, Ph.blk] at hp
        obtain ⟨h0, h1, h2, h3, h4, h5, h6, h7, h8, h9, h10, h11, h12, h13, h14, h15, h16, h17, h18, h19, h20, _⟩ := hp
        simp only [fills, List.foldl_cons, List.foldl_nil, Act.put, List.setIfInBounds_toArray, List.set_cons_zero, List.set_cons_succ, h0, h2, h3, h4, h5, h6, h7, h8, h9, h10, h11, h13, h14, h15, h16, h17, h18, h19, h20]
        clear h0 h2 h3 h4 h5 h6 h7 h8 h9 h10 h11 h13 h14 h15 h16 h17 h18 h19 h20
        generalize f 23 = v23 at *
        generalize f 34 = v34 at *
        go_wp2_with fail
        all_goals
          go_ret
          exact ⟨rfl, bstep hb1 hb2⟩
    · go_enter Try.func3, Try.ntmps3
      go_wp2_with (go_at_call 15; refine (rsum_any _ _ _ l hby).mono ?_; rintro e w1 ⟨rfl, hb1⟩)
      have hw1 := hby.step hb1
      obtain ⟨k, hk⟩ : ∃ k : Nat, k = 0 := ⟨0, rfl⟩
      rw [show Value.int .i64 0 = .int .i64 ((k : Nat) : Int) from by rw [hk]; rfl]
      have hk2 : k ≤ l.length := by omega
      clear hk
      refine wp_region_typed [some 22, some 23, some 24, some 25, some 26, some 27, some 28, some 29, some 30, some 31, some 32, some 33, some 34, some 35, some 36, some 37, some 38, some 39, some 40, some 41, some 4] [22, 23, 24, 25, 26, 27, 28, 29, 30, 31, 32, 33, 34, 35, 36, 37, 38, 39, 40, 41, 4]
        [Ph.is (.slice a0 l.length cap0),
          Ph.blk 22 [.slice a0 l.length cap0],
          Ph.is (.int .u32 ((crcOf l).toNat : Int)),
          Ph.is (.int .u32 ((crcOf l).toNat : Int)),
          Ph.is (.bool true),
          Ph.is (.bool true),
          Ph.is (.slice a0 l.length cap0),
          Ph.is (.int .i64 ((k : Nat) : Int)),
          Ph.is (.slice a0 k cap0),
          Ph.is (.slice a0 l.length cap0),
          Ph.is (.int .i64 ((k : Nat) : Int)),
          Ph.is (.slice (if cap0 = k then a0 else a0.map (·.add k)) (l.length - k) (cap0 - k)),
          Ph.blk 22 [.slice a0 k cap0, .slice none 0 0, .slice (if cap0 = k then a0 else a0.map (·.add k)) (l.length - k) (cap0 - k)],
          Ph.is (.int .u32 ((crcOf l).toNat : Int)),
          Ph.is (.int .u32 ((crcOf l).toNat : Int)),
          Ph.is (.bool true),
          Ph.is (.bool true),
          Ph.is (.bool true),
          Ph.is (.bool true),
          Ph.is (.bool true),
          Ph.is (.bool true)] rfl rfl (by kernel_rfl) (by kernel_rfl) ?_ ?_
      · refine ⟨?_, ?_, ?_, ?_, ?_, ?_, ?_, ?_, ?_, ?_, ?_, ?_, ?_, ?_, ?_, ?_, ?_, ?_, ?_, ?_, ?_, trivial⟩
        all_goals
          refine ob_yes fun f w' hb hp => ?_
          simp [PreOf, factOf, valOf, Ph.is, Ph.by_, Ph.any, Region.binds, Ph.blk] at hp
          refine ⟨by simp [Gd, valOf, hp], ?_⟩
        · -- 0: slot 22 := Op.move t0
          refine mild_val (.slice a0 l.length cap0) ?_ rfl
          simp [execOp, evalF, hp]
        · -- 1: slot 23 := Op.buildSlice 64 1 #[(0, t22)]
          refine mild_alloc (.slice (some ⟨w'.heap.size, 0, none⟩) 1 1) (.cells #[.slice a0 l.length cap0] 22) ?_ ⟨_, rfl, heap_alloc_new _ _⟩
          simp [execOp, evalF, hp, go_sem]
        · -- 2: slot 24 := Op.call   value (Operand.func 16), args := #[t23], argTypes := #[64]  
          obtain ⟨g, hv, hg⟩ := hp
          refine mild_call 16 _ _ Try.f16 Try.func16 (by kernel_rfl) (by kernel_rfl) rfl ?_
          simp [evalF, hv, Ph.is]
          exact runOne w' l _ g (hw1.step hb) hg
        · -- 3: slot 25 := Op.move t6
          refine mild_val (.int .u32 ((crcOf l).toNat : Int)) ?_ rfl
          simp [execOp, evalF, hp]
        · -- 4: slot 26 := Op.binOp BinOp.eql 24 t24 t25 24
          refine mild_val (.bool true) ?_ rfl
          simp [execOp, evalF, hp, go_sem]
        · -- 5: slot 27 := Op.move t26
          refine mild_val (.bool true) ?_ rfl
          simp [execOp, evalF, hp]
        · -- 6: slot 28 := Op.move t0
          refine mild_val (.slice a0 l.length cap0) ?_ rfl
          simp [execOp, evalF, hp]
        · -- 7: slot 29 := Op.move t5
          refine mild_val (.int .i64 ((k : Nat) : Int)) ?_ rfl
          simp [execOp, evalF, hp]
        · -- 8: slot 30 := Op.slice 22 t28 none (some t29) none
          refine mild_val (.slice a0 k cap0) ?_ rfl
          simp [execOp, evalF, hp, go_sem]
          intro hx
          omega
        · -- 9: slot 31 := Op.move t0
          refine mild_val (.slice a0 l.length cap0) ?_ rfl
          simp [execOp, evalF, hp]
        · -- 10: slot 32 := Op.move t5
          refine mild_val (.int .i64 ((k : Nat) : Int)) ?_ rfl
          simp [execOp, evalF, hp]
        · -- 11: slot 33 := Op.slice 22 t31 (some t32) none none
          refine mild_val (.slice (if cap0 = k then a0 else a0.map (·.add k)) (l.length - k) (cap0 - k)) ?_ rfl
          simp [execOp, evalF, hp, go_sem]
          intro hx
          omega
        · -- 12: slot 34 := Op.buildSlice 64 3 #[(0, t30), (1, const (Value.slice none 0 0)), (2, t33)]
          refine mild_alloc (.slice (some ⟨w'.heap.size, 0, none⟩) 3 3) (.cells #[.slice a0 k cap0, .slice none 0 0, .slice (if cap0 = k then a0 else a0.map (·.add k)) (l.length - k) (cap0 - k)] 22) ?_ ⟨_, rfl, heap_alloc_new _ _⟩
          simp [execOp, evalF, hp, go_sem]
        · -- 13: slot 35 := Op.call   value (Operand.func 16), args := #[t34], argTypes := #[64]  
          obtain ⟨⟨g, hv, hg⟩, _⟩ := hp
          refine mild_call 16 _ _ Try.f16 Try.func16 (by kernel_rfl) (by kernel_rfl) rfl ?_
          simp [evalF, hv, Ph.is]
          have hs := sum_any (some ⟨g, 0, none⟩) 3 3 [.slice a0 k cap0, .slice none 0 0, .slice (if cap0 = k then a0 else a0.map (·.add k)) (l.length - k) (cap0 - k)] [l.take k, [], l.drop k] w' rfl (rd_blk (vs := [.slice a0 k cap0, .slice none 0 0, .slice (if cap0 = k then a0 else a0.map (·.add k)) (l.length - k) (cap0 - k)]) hg) rfl (by decide) ?_
          · simpa using hs
          · have hbw := hw1.step hb
            intro j h1 h2
            rcases (show j = 0 ∨ j = 1 ∨ j = 2 by simp at h1; omega) with rfl | rfl | rfl
            · exact hbw.front_ (by omega)
            · exact By.nil_
            · exact hbw.back_ (by omega)
        · -- 14: slot 36 := Op.move t6
          refine mild_val (.int .u32 ((crcOf l).toNat : Int)) ?_ rfl
          simp [execOp, evalF, hp]
        · -- 15: slot 37 := Op.binOp BinOp.eql 24 t35 t36 24
          refine mild_val (.bool true) ?_ rfl
          simp [execOp, evalF, hp, go_sem]
        · -- 16: slot 38 := Op.pick t27 t37 (const (Value.bool false))
          refine mild_val (.bool true) ?_ rfl
          simp [execOp, evalF, hp, go_sem]
        · -- 17: slot 39 := Op.move t38
          refine mild_val (.bool true) ?_ rfl
          simp [execOp, evalF, hp]
        · -- 18: slot 40 := Op.call   value (Operand.func 14), args := #[], argTypes := #[]  
          refine mild_call 14 _ _ Try.f14 Try.func14 (by kernel_rfl) (by kernel_rfl) rfl ?_
          simp [evalF, hp, Ph.is, Ph.by_, Ph.any, Ph.blk]
          exact awake02 w'
        · -- 19: slot 41 := Op.pick t39 t40 (const (Value.bool false))
          refine mild_val (.bool true) ?_ rfl
          simp [execOp, evalF, hp, go_sem]
        · -- 20: slot 4 := Op.assign t41
          refine mild_val (.bool true) ?_ rfl
          simp [execOp, evalF, hp]
      · intro f w2 hb2 hp
        simp only [PostOf, Ph.is, Ph.by_, Ph.any, Ph.blk] at hp
        obtain ⟨h0, h1, h2, h3, h4, h5, h6, h7, h8, h9, h10, h11, h12, h13, h14, h15, h16, h17, h18, h19, h20, _⟩ := hp
        simp only [fills, List.foldl_cons, List.foldl_nil, Act.put, List.setIfInBounds_toArray, List.set_cons_zero, List.set_cons_succ, h0, h2, h3, h4, h5, h6, h7, h8, h9, h10, h11, h13, h14, h15, h16, h17, h18, h19, h20]
        clear h0 h2 h3 h4 h5 h6 h7 h8 h9 h10 h11 h13 h14 h15 h16 h17 h18 h19 h20
        generalize f 23 = v23 at *
        generalize f 34 = v34 at *
        go_wp2_with fail
        all_goals
          go_ret
          exact ⟨rfl, bstep hb1 hb2⟩

/-! ### THE ROW's STEP: WRITTEN OUT: LEAVE IT -/
set_option maxRecDepth 100000 in
theorem lifted (os : Os) (started : os.Started) (H : Type) (enc : TypeId × Value → H) :
    ReturnsInHanded {} Try.checked os 3 .any (Rows.crcSumsSpec.pre6 enc Try.prog Try.f3 Rows.crcSumsRow.domain false) (Rows.crcSumsSpec.post enc Try.prog Try.f3 false true false false) := by
  refine returnsInHanded_of_change (C := Try.checked) own started (by kernel_rfl) Try.func3
    (ChangeSpec.witness6 (enc := enc) (C := Try.checked) false ⟨#[], #[.slice none 0 0, .int .i64 0], []⟩ 8 (by kernel_rfl) (by kernel_rfl) (by kernel_rfl) (by kernel_rfl)) ?_
  intro W base args ds gs before hval0 hW hcnd _
  have hval : ∀ (j : Nat) t v, Try.f3.params[j]? = some t → args[j]? = some v → Value.okWide Try.prog W .any base t v := hval0
  have hW' := hW
  obtain ⟨p, q, hA0, hV, rfl, hfz, hnd⟩ := hW
  have hA : DataW.TrodAll enc Try.prog W 0 (fun _ => true) true Try.f3.params.toList args.toList ds p := hA0
  rw [Try.params3] at hA hval
  obtain ⟨v0, vs0, d0, ds0, p0, q0, hargs, rfl, rfl, h0, r0⟩ := trodAll_cons hA
  obtain ⟨v1, vs1, d1, ds1, p1, q1, rfl, rfl, rfl, h1, r1⟩ := trodAll_cons r0
  obtain ⟨rfl, rfl, rfl⟩ := trodAll_nil r1
  obtain rfl : args = #[v0, v1] := by cases args; simp_all
  obtain ⟨rfl, rfl⟩ := trodVars_none hV
  obtain ⟨a0, len0, cap0, rfl⟩ := okWide_slice Try.underlying22 (hval 0 22 v0 rfl rfl)
  have k0 := h0
  have lt0 : ∀ x ∈ p0, x.block < W.heap.size := by obtain ⟨m, hm⟩ := k0; exact DataW.trod_lt m _ _ _ hm
  obtain ⟨z0, w0⟩ : ∃ zs, IsRow .u8 W a0 len0 cap0 zs := by
    obtain ⟨fuel, hf⟩ := h0
    rcases open_ints Try.underlying22 Try.underlying5 (by kernel_rfl) hf with ⟨hcs, _⟩ | ⟨x, l, c, zs, hcs, _, hl, hm, hz, _, hcell, hwz⟩
    · simp [Value.cells] at hcs
      obtain ⟨rfl, rfl, rfl⟩ := hcs
      exact ⟨[], .inl ⟨rfl, rfl, rfl, rfl⟩⟩
    · simp [Value.cells] at hcs
      obtain ⟨rfl, rfl, rfl⟩ := hcs
      exact ⟨zs, .inr ⟨_, rfl, hl, hm, by simpa using hz, hcell, hwz⟩⟩
  obtain ⟨a1, rfl, rfl, rfl, w1⟩ := open_int Try.underlying3 (hval 1 3 v1 rfl rfl) h1
  clear hA0 hval0
  refine (walk a0 len0 cap0 z0 a1 W w0 w1).mono fun e W' ⟨he, bel⟩ => ?_
  subst he
  exact ⟨_, rfl, _, _, _, [], _, [], hW', trodAll_mk1 (shut_bool Try.underlying4 _), (trodAll_cons_mk (Below.trod laidOut (by kernel_rfl) (of_decide_eq_true (by kernel_rfl)) k0 bel lt0) (trodAll_cons_mk (shut_int Try.underlying3 w1) trodAll_mk0)), rfl, bel.frame _, fun h => by cases h⟩

theorem over : Rows.crcSumsRow.holds Try.pinned (OpenSpec.ofChange Rows.crcSumsSpec) :=
  OpenClaim.holds_of_wide 3 Try.f3 rfl rfl rfl rfl rfl rfl rfl ⟨rfl, rfl, rfl, rfl, rfl⟩ rfl rfl rfl rfl rfl (by kernel_rfl) Try.func3 (by kernel_rfl)
    (of_decide_eq_true (by kernel_rfl)) (by unfold Func.isWrapper; first | (rw [if_pos (by decide +kernel)]; kernel_rfl) | (rw [if_neg (by decide +kernel)]; exact ⟨rfl, rfl⟩))
    (fun os started H enc _ => lifted os started H enc)

/-- ████ THE STATEMENT ████ -/
theorem proved : Rows.CrcSumsSaid := over
#print axioms proved
end Go.Proofs.Ytneihfmacljjbaa.crcSums
