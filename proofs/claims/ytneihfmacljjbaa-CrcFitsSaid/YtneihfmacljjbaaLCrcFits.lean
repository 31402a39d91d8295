/- The law 'CrcFits' returns true for every input, and each argument reads behind the call as it read before. No condition. (The frame was written by the kit's program; the walk is mine.) -/
import Derived.Test.YtneihfmacljjbaaRows
import Derived.Test.YtneihfmacljjbaaLaw02
import Derived.WalkKit
import Derived.ProofKit
import Derived.OpenShut
import Derived.ShutString
import Derived.ChangeOld
import Derived.Below
namespace Go.Proofs.Ytneihfmacljjbaa.crcFits
open Go.Proofs.Ytneihfmacljjbaa
open Go.ChangeShapes Go.WideShapes Go.ChangeAt Go.RowKit
open Go.ChangeMaps (open_string shut_string)
set_option linter.unusedVariables false

theorem own : ownKnob Try.prog.godebug = none := by kernel_rfl
theorem laidOut : laidOutB Try.prog = true := by kernel_rfl

/-- WHAT THE WALK IS TOLD OF A SLICE OF INTEGERS THAT CAME IN: it is nil; or it leads to a row of 'cap' cells, the numbers 'zs' (the first 'len' are its elements, the rest its spare room), each fitting its kind. -/
def IsRow (k : IntKind) (w : World) (a : Option Addr) (len cap : Nat) (zs : List Int) : Prop :=
  (a = none ∧ len = 0 ∧ cap = 0 ∧ zs = []) ∨
  ∃ x, a = some x ∧ len ≤ cap ∧ cap ≤ maxLen ∧ zs.length = cap ∧ (∀ i, i < zs.length → w.cell? (x.add i) = some (.int k (zs.getD i 0))) ∧ ∀ n ∈ zs, (Lit.int k n).wf = true

/-! ### STEP 1: THE WALK: the Go text returns true, AND WRITES NOTHING THAT WAS THERE: 'Below w.heap.size w w'' (Derived/Below.lean: '.refl', '.alloc', '.drew', '.setCell' at a new block, '.trans'). Open each 'IsRow' by 'rcases' AHEAD of 'go_enter'; part every test ahead of the walk. -/
set_option maxRecDepth 100000 in
set_option maxHeartbeats 2000000 in
theorem walk (a0 : Option Addr) (len0 cap0 : Nat) (z0 : List Int) (a1 : Option Addr) (len1 cap1 : Nat) (z1 : List Int) (w : World) (w0 : IsRow .u8 w a0 len0 cap0 z0) (w1 : IsRow .u8 w a1 len1 cap1 z1) :
    Calls Try.prog 4 #[.slice a0 len0 cap0, .slice a1 len1 cap1] w fun e w' => e = .returned (.bool true) ∧ Below w.heap.size w w' := by
  obtain ⟨l, hl, hby⟩ := by_of_row w0
  subst hl
  obtain ⟨lc, hl, hbyc⟩ := by_of_row w1
  subst hl
  clear w0 w1
  have ⟨_, _, hcm⟩ := hby.len_
  have ⟨_, _, hcm1⟩ := hbyc.len_
  unfold maxLen at hcm hcm1
  by_cases hbig : 1000 < l.length
  · go_enter Try.func4, Try.ntmps4
    go_wp2_with (go_at_call 14; refine (awake02 _).mono ?_; rintro e w1 ⟨rfl, hb1⟩)
    go_ret
    exact ⟨rfl, hb1⟩
  by_cases hbig1 : 1000 < lc.length
  · go_enter Try.func4, Try.ntmps4
    go_wp2_with (go_at_call 14; refine (awake02 _).mono ?_; rintro e w1 ⟨rfl, hb1⟩)
    go_ret
    exact ⟨rfl, hb1⟩
  · go_enter Try.func4, Try.ntmps4
    go_wp2_with fail
    refine (mark_any _ _ l hby (by omega)).mono ?_
    rintro e w1 ⟨v1, rfl, hown1, hb1⟩
    go_wp2_with fail
    refine (fits_any _ _ (markOf l) hown1.by_ (by rw [markOf_length]; omega)).mono ?_
    rw [fitsE_mark, fitsL_mark]
    rintro e w2 ⟨v2, rfl, hown2, hb2⟩
    go_wp2_with fail
    refine (fits_any _ _ lc (hbyc.step (bstep hb1 hb2)) (by omega)).mono ?_
    rintro e w3 ⟨v3, rfl, hown3, hb3⟩
    go_wp2_with fail
    refine (rfits_any _ _ lc (hbyc.step (bstep (bstep hb1 hb2) hb3)) (by omega)).mono ?_
    rintro e w4 ⟨v4, rfl, hown4, hb4⟩
    have k0 := hby.step (bstep (bstep (bstep hb1 hb2) hb3) hb4)
    have k1 := hown1.by_.step (bstep (bstep hb2 hb3) hb4)
    have k2 := hown2.by_.step (bstep hb3 hb4)
    have k3 := hown3.by_.step hb4
    have k4 := hown4.by_
    have hb04 := bstep (bstep (bstep hb1 hb2) hb3) hb4
    clear hown1 hown2 hown3 hown4
    go_wp2_with fail
    refine wp_region_typed [some 38, some 39, some 40, some 41, some 42, some 43, some 44, some 45, some 46, some 47, some 48, some 49, some 50, some 51, some 52, some 53, some 54, some 55, some 56, some 57, some 58, some 59, some 60, some 61, some 62, some 63, some 64, some 65, some 66, some 67, some 68, some 69, some 4] [38, 39, 40, 41, 42, 43, 44, 45, 46, 47, 48, 49, 50, 51, 52, 53, 54, 55, 56, 57, 58, 59, 60, 61, 62, 63, 64, 65, 66, 67, 68, 69, 4]
      [Ph.is (v1),
        Ph.is (.string (bst (markOf l))),
        Ph.is (.slice a0 l.length cap0),
        Ph.by_ (markOf l),
        Ph.is (.string (bst (markOf l))),
        Ph.is (.bool true),
        Ph.is (.bool true),
        Ph.is (.int .i64 0),
        Ph.is (.bool true),
        Ph.is (.bool true),
        Ph.is (.bool true),
        Ph.is (v2),
        Ph.is (.string (bst (l))),
        Ph.is (.slice a0 l.length cap0),
        Ph.is (.string (bst (l))),
        Ph.is (.bool true),
        Ph.is (.bool true),
        Ph.is (.bool true),
        Ph.is (v3),
        Ph.is (.string (bst (fitsL lc))),
        Ph.is (v4),
        Ph.is (.string (bst (fitsL lc))),
        Ph.is (.bool true),
        Ph.is (.bool true),
        Ph.is (.bool true),
        Ph.is (.int .i64 (fitsE lc)),
        Ph.is (.int .i64 (fitsE lc)),
        Ph.is (.bool true),
        Ph.is (.bool true),
        Ph.is (.bool true),
        Ph.is (.bool true),
        Ph.is (.bool true),
        Ph.is (.bool true)] rfl rfl (by kernel_rfl) (by kernel_rfl) ?_ ?_
    · refine ⟨?_, ?_, ?_, ?_, ?_, ?_, ?_, ?_, ?_, ?_, ?_, ?_, ?_, ?_, ?_, ?_, ?_, ?_, ?_, ?_, ?_, ?_, ?_, ?_, ?_, ?_, ?_, ?_, ?_, ?_, ?_, ?_, ?_, trivial⟩
      all_goals
        refine ob_yes fun f w' hb hp => ?_
        simp [PreOf, factOf, valOf, Ph.is, Ph.by_, Ph.any, Region.binds] at hp
        refine ⟨by simp [Gd, valOf, hp], ?_⟩
      · -- 0: slot 38 := Op.move t5
        refine mild_val (v1) ?_ rfl
        simp [execOp, evalF, hp]
      · -- 1: slot 39 := Op.convert 22 9 t38
        refine mild_val (.string (bst (markOf l))) ?_ rfl
        have hc := conv8 ((k1).below hb)
        simp [execOp, evalF, hp, hc]
      · -- 2: slot 40 := Op.move t0
        refine mild_val (.slice a0 l.length cap0) ?_ rfl
        simp [execOp, evalF, hp]
      · -- 3: slot 41 := Op.call   value (Operand.func 20), args := #[t40], argTypes := #[22]  
        refine mild_call 20 _ _ Try.f20 Try.func20 (by kernel_rfl) (by kernel_rfl) rfl ?_
        simp [evalF, hp, Ph.is, Ph.by_, Ph.any]
        exact (rmark_any w' _ l (k0.step hb) (by omega)).mono fun e w2 ⟨v, h1, h2, h3⟩ => ⟨v, h1, h3, h2.by_⟩
      · -- 4: slot 42 := Op.convert 22 9 t41
        refine mild_val (.string (bst (markOf l))) ?_ rfl
        have hc := conv8 (by first | exact hp | exact hp.1 | exact hp.2 | exact hp.1.1 | exact hp.1.2 | exact hp.2.1 | exact hp.2.2)
        simp [execOp, evalF, hp, hc]
      · -- 5: slot 43 := Op.binOp BinOp.eql 9 t39 t42 9
        refine mild_val (.bool true) ?_ rfl
        simp [execOp, evalF, hp, go_sem]
      · -- 6: slot 44 := Op.move t43
        refine mild_val (.bool true) ?_ rfl
        simp [execOp, evalF, hp]
      · -- 7: slot 45 := Op.move t7
        refine mild_val (.int .i64 0) ?_ rfl
        simp [execOp, evalF, hp]
      · -- 8: slot 46 := Op.binOp BinOp.eql 29 t45 (const (0:i64)) 29
        refine mild_val (.bool true) ?_ rfl
        simp [execOp, evalF, hp, go_sem]
      · -- 9: slot 47 := Op.pick t44 t46 (const (Value.bool false))
        refine mild_val (.bool true) ?_ rfl
        simp [execOp, evalF, hp, go_sem]
      · -- 10: slot 48 := Op.move t47
        refine mild_val (.bool true) ?_ rfl
        simp [execOp, evalF, hp]
      · -- 11: slot 49 := Op.move t6
        refine mild_val (v2) ?_ rfl
        simp [execOp, evalF, hp]
      · -- 12: slot 50 := Op.convert 22 9 t49
        refine mild_val (.string (bst (l))) ?_ rfl
        have hc := conv8 ((k2).below hb)
        simp [execOp, evalF, hp, hc]
      · -- 13: slot 51 := Op.move t0
        refine mild_val (.slice a0 l.length cap0) ?_ rfl
        simp [execOp, evalF, hp]
      · -- 14: slot 52 := Op.convert 22 9 t51
        refine mild_val (.string (bst (l))) ?_ rfl
        have hc := conv8 ((k0).below hb)
        simp [execOp, evalF, hp, hc]
      · -- 15: slot 53 := Op.binOp BinOp.eql 9 t50 t52 9
        refine mild_val (.bool true) ?_ rfl
        simp [execOp, evalF, hp, go_sem]
      · -- 16: slot 54 := Op.pick t48 t53 (const (Value.bool false))
        refine mild_val (.bool true) ?_ rfl
        simp [execOp, evalF, hp, go_sem]
      · -- 17: slot 55 := Op.move t54
        refine mild_val (.bool true) ?_ rfl
        simp [execOp, evalF, hp]
      · -- 18: slot 56 := Op.move t8
        refine mild_val (v3) ?_ rfl
        simp [execOp, evalF, hp]
      · -- 19: slot 57 := Op.convert 22 9 t56
        refine mild_val (.string (bst (fitsL lc))) ?_ rfl
        have hc := conv8 ((k3).below hb)
        simp [execOp, evalF, hp, hc]
      · -- 20: slot 58 := Op.move t10
        refine mild_val (v4) ?_ rfl
        simp [execOp, evalF, hp]
      · -- 21: slot 59 := Op.convert 22 9 t58
        refine mild_val (.string (bst (fitsL lc))) ?_ rfl
        have hc := conv8 ((k4).below hb)
        simp [execOp, evalF, hp, hc]
      · -- 22: slot 60 := Op.binOp BinOp.eql 9 t57 t59 9
        refine mild_val (.bool true) ?_ rfl
        simp [execOp, evalF, hp, go_sem]
      · -- 23: slot 61 := Op.pick t55 t60 (const (Value.bool false))
        refine mild_val (.bool true) ?_ rfl
        simp [execOp, evalF, hp, go_sem]
      · -- 24: slot 62 := Op.move t61
        refine mild_val (.bool true) ?_ rfl
        simp [execOp, evalF, hp]
      · -- 25: slot 63 := Op.move t9
        refine mild_val (.int .i64 (fitsE lc)) ?_ rfl
        simp [execOp, evalF, hp]
      · -- 26: slot 64 := Op.move t11
        refine mild_val (.int .i64 (fitsE lc)) ?_ rfl
        simp [execOp, evalF, hp]
      · -- 27: slot 65 := Op.binOp BinOp.eql 3 t63 t64 3
        refine mild_val (.bool true) ?_ rfl
        simp [execOp, evalF, hp, go_sem]
      · -- 28: slot 66 := Op.pick t62 t65 (const (Value.bool false))
        refine mild_val (.bool true) ?_ rfl
        simp [execOp, evalF, hp, go_sem]
      · -- 29: slot 67 := Op.move t66
        refine mild_val (.bool true) ?_ rfl
        simp [execOp, evalF, hp]
      · -- 30: slot 68 := Op.call   value (Operand.func 14), args := #[], argTypes := #[]  
        refine mild_call 14 _ _ Try.f14 Try.func14 (by kernel_rfl) (by kernel_rfl) rfl ?_
        simp [evalF, hp, Ph.is, Ph.by_, Ph.any]
        exact awake02 w'
      · -- 31: slot 69 := Op.pick t67 t68 (const (Value.bool false))
        refine mild_val (.bool true) ?_ rfl
        simp [execOp, evalF, hp, go_sem]
      · -- 32: slot 4 := Op.assign t69
        refine mild_val (.bool true) ?_ rfl
        simp [execOp, evalF, hp]
    · intro f w2 hb2 hp
      simp only [PostOf, Ph.is, Ph.by_, Ph.any] at hp
      obtain ⟨h0, h1, h2, h3, h4, h5, h6, h7, h8, h9, h10, h11, h12, h13, h14, h15, h16, h17, h18, h19, h20, h21, h22, h23, h24, h25, h26, h27, h28, h29, h30, h31, h32, _⟩ := hp
      simp only [fills, List.foldl_cons, List.foldl_nil, Act.put, List.setIfInBounds_toArray, List.set_cons_zero, List.set_cons_succ, h0, h1, h2, h4, h5, h6, h7, h8, h9, h10, h11, h12, h13, h14, h15, h16, h17, h18, h19, h20, h21, h22, h23, h24, h25, h26, h27, h28, h29, h30, h31, h32]
      clear h0 h1 h2 h4 h5 h6 h7 h8 h9 h10 h11 h12 h13 h14 h15 h16 h17 h18 h19 h20 h21 h22 h23 h24 h25 h26 h27 h28 h29 h30 h31 h32
      generalize f 41 = v41 at *
      go_wp2_with fail
      go_ret
      exact ⟨rfl, bstep hb04 hb2⟩

/-! ### THE ROW's STEP: WRITTEN OUT: LEAVE IT -/
set_option maxRecDepth 100000 in
theorem lifted (os : Os) (started : os.Started) (H : Type) (enc : TypeId × Value → H) :
    ReturnsInHanded {} Try.checked os 4 .any (Rows.crcFitsSpec.pre6 enc Try.prog Try.f4 Rows.crcFitsRow.domain false) (Rows.crcFitsSpec.post enc Try.prog Try.f4 false true false false) := by
  refine returnsInHanded_of_change (C := Try.checked) own started (by kernel_rfl) Try.func4
    (ChangeSpec.witness6 (enc := enc) (C := Try.checked) false ⟨#[], #[.slice none 0 0, .slice none 0 0], []⟩ 8 (by kernel_rfl) (by kernel_rfl) (by kernel_rfl) (by kernel_rfl)) ?_
  intro W base args ds gs before hval0 hW hcnd _
  have hval : ∀ (j : Nat) t v, Try.f4.params[j]? = some t → args[j]? = some v → Value.okWide Try.prog W .any base t v := hval0
  have hW' := hW
  obtain ⟨p, q, hA0, hV, rfl, hfz, hnd⟩ := hW
  have hA : DataW.TrodAll enc Try.prog W 0 (fun _ => true) true Try.f4.params.toList args.toList ds p := hA0
  rw [Try.params4] at hA hval
  obtain ⟨v0, vs0, d0, ds0, p0, q0, hargs, rfl, rfl, h0, r0⟩ := trodAll_cons hA
  obtain ⟨v1, vs1, d1, ds1, p1, q1, rfl, rfl, rfl, h1, r1⟩ := trodAll_cons r0
  obtain ⟨rfl, rfl, rfl⟩ := trodAll_nil r1
  obtain rfl : args = #[v0, v1] := by cases args; simp_all
  obtain ⟨rfl, rfl⟩ := trodVars_none hV
  obtain ⟨a0, len0, cap0, rfl⟩ := okWide_slice Try.underlying22 (hval 0 22 v0 rfl rfl)
  have k0 := h0
  have lt0 : ∀ x ∈ p0, x.block < W.heap.size := by obtain ⟨m, hm⟩ := k0; exact DataW.trod_lt m _ _ _ hm
  obtain ⟨z0, w0⟩ : ∃ zs, IsRow .u8 W a0 len0 cap0 zs := by
    obtain ⟨fuel, hf⟩ := h0
    rcases open_ints Try.underlying22 Try.underlying5 (by kernel_rfl) hf with ⟨hcs, _⟩ | ⟨x, l, c, zs, hcs, _, hl, hm, hz, _, hcell, hwz⟩
    · simp [Value.cells] at hcs
      obtain ⟨rfl, rfl, rfl⟩ := hcs
      exact ⟨[], .inl ⟨rfl, rfl, rfl, rfl⟩⟩
    · simp [Value.cells] at hcs
      obtain ⟨rfl, rfl, rfl⟩ := hcs
      exact ⟨zs, .inr ⟨_, rfl, hl, hm, by simpa using hz, hcell, hwz⟩⟩
  obtain ⟨a1, len1, cap1, rfl⟩ := okWide_slice Try.underlying22 (hval 1 22 v1 rfl rfl)
  have k1 := h1
  have lt1 : ∀ x ∈ p1, x.block < W.heap.size := by obtain ⟨m, hm⟩ := k1; exact DataW.trod_lt m _ _ _ hm
  obtain ⟨z1, w1⟩ : ∃ zs, IsRow .u8 W a1 len1 cap1 zs := by
    obtain ⟨fuel, hf⟩ := h1
    rcases open_ints Try.underlying22 Try.underlying5 (by kernel_rfl) hf with ⟨hcs, _⟩ | ⟨x, l, c, zs, hcs, _, hl, hm, hz, _, hcell, hwz⟩
    · simp [Value.cells] at hcs
      obtain ⟨rfl, rfl, rfl⟩ := hcs
      exact ⟨[], .inl ⟨rfl, rfl, rfl, rfl⟩⟩
    · simp [Value.cells] at hcs
      obtain ⟨rfl, rfl, rfl⟩ := hcs
      exact ⟨zs, .inr ⟨_, rfl, hl, hm, by simpa using hz, hcell, hwz⟩⟩
  clear hA0 hval0
  refine (walk a0 len0 cap0 z0 a1 len1 cap1 z1 W w0 w1).mono fun e W' ⟨he, bel⟩ => ?_
  subst he
  exact ⟨_, rfl, _, _, _, [], _, [], hW', trodAll_mk1 (shut_bool Try.underlying4 _), (trodAll_cons_mk (Below.trod laidOut (by kernel_rfl) (of_decide_eq_true (by kernel_rfl)) k0 bel lt0) (trodAll_cons_mk (Below.trod laidOut (by kernel_rfl) (of_decide_eq_true (by kernel_rfl)) k1 bel lt1) trodAll_mk0)), rfl, bel.frame _, fun h => by cases h⟩

theorem over : Rows.crcFitsRow.holds Try.pinned (OpenSpec.ofChange Rows.crcFitsSpec) :=
  OpenClaim.holds_of_wide 4 Try.f4 rfl rfl rfl rfl rfl rfl rfl ⟨rfl, rfl, rfl, rfl, rfl⟩ rfl rfl rfl rfl rfl (by kernel_rfl) Try.func4 (by kernel_rfl)
    (of_decide_eq_true (by kernel_rfl)) (by unfold Func.isWrapper; first | (rw [if_pos (by decide +kernel)]; kernel_rfl) | (rw [if_neg (by decide +kernel)]; exact ⟨rfl, rfl⟩))
    (fun os started H enc _ => lifted os started H enc)

/-- ████ THE STATEMENT ████ -/
theorem proved : Rows.CrcFitsSaid := over
#print axioms proved
end Go.Proofs.Ytneihfmacljjbaa.crcFits
