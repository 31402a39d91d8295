/- The law 'PagePuts' returns true for every input, and each argument reads behind the call as it read before. No condition. (The frame was written by the kit's program; the walk is mine.) -/
import Derived.Test.YtneihfmacljjbaaRows
import Derived.Test.YtneihfmacljjbaaPageMany
import Derived.WalkKit
import Derived.ProofKit
import Derived.OpenShut
import Derived.ShutString
import Derived.ChangeOld
import Derived.Below
namespace Go.Proofs.Ytneihfmacljjbaa.pagePuts
open Go.Proofs.Ytneihfmacljjbaa
open Go.ChangeShapes Go.WideShapes Go.ChangeAt Go.RowKit
open Go.ChangeMaps (open_string shut_string)
set_option linter.unusedVariables false
set_option linter.unusedSimpArgs false

theorem own : ownKnob Try.prog.godebug = none := by kernel_rfl
theorem laidOut : laidOutB Try.prog = true := by kernel_rfl

/-- WHAT THE WALK IS TOLD OF A SLICE OF INTEGERS THAT CAME IN: it is nil; or it leads to a row of 'cap' cells, the numbers 'zs' (the first 'len' are its elements, the rest its spare room), each fitting its kind. -/
def IsRow (k : IntKind) (w : World) (a : Option Addr) (len cap : Nat) (zs : List Int) : Prop :=
  (a = none ∧ len = 0 ∧ cap = 0 ∧ zs = []) ∨
  ∃ x, a = some x ∧ len ≤ cap ∧ cap ≤ maxLen ∧ zs.length = cap ∧ (∀ i, i < zs.length → w.cell? (x.add i) = some (.int k (zs.getD i 0))) ∧ ∀ n ∈ zs, (Lit.int k n).wf = true

/-! ### STEP 1: THE WALK: the Go text returns true, AND WRITES NOTHING THAT WAS THERE: 'Below w.heap.size w w'' (Derived/Below.lean: '.refl', '.alloc', '.drew', '.setCell' at a new block, '.trans'). Open each 'IsRow' by 'rcases' AHEAD of 'go_enter'; part every test ahead of the walk. -/
set_option maxRecDepth 100000 in
set_option maxHeartbeats 2000000 in
theorem walk (a0 : Int) (a1 : Int) (a2 : Int) (a3 : Option Addr) (len3 cap3 : Nat) (z3 : List Int) (w : World) (w0 : (Lit.int .u32 a0).wf = true) (w1 : (Lit.int .u32 a1).wf = true) (w2 : (Lit.int .u32 a2).wf = true) (w3 : IsRow .u8 w a3 len3 cap3 z3) :
    Calls Try.prog 7 #[.int .u32 a0, .int .u32 a1, .int .u32 a2, .slice a3 len3 cap3] w fun e w' => e = .returned (.bool true) ∧ Below w.heap.size w w' := by
  obtain ⟨file, rfl⟩ := u32_of_wf w0
  obtain ⟨place, rfl⟩ := u32_of_wf w1
  obtain ⟨other, rfl⟩ := u32_of_wf w2
  obtain ⟨l, hl, hby⟩ := by_of_row w3
  subst hl
  clear w0 w1 w2 w3
  have ⟨_, _, hcm⟩ := hby.len_
  unfold maxLen at hcm
  by_cases hbig : 300 < l.length
  · go_enter Try.func7, Try.ntmps7
    go_wp2_with (go_at_call 21; refine (awake08 _).mono ?_; rintro e wa ⟨rfl, hba⟩)
    go_ret
    exact ⟨rfl, hba⟩
  go_enter Try.func7, Try.ntmps7
  go_wp2_with fail
  refine (put_any _ _ l file place hby (by omega)).mono ?_
  rintro e W1 ⟨v9, rfl, hown1, hb1⟩
  by_cases h112 : 112 < l.length
  · have hE : putE l = 4 := by simp [putE, h112]
    have hL : putL file place l = [] := by simp [putL, h112]
    rw [hL] at hown1
    rw [hE]
    obtain ⟨A9, c9, rfl, _⟩ := hown1.by_
    clear hE hL
    go_wp2_with (go_at_call 21; refine (awake08 _).mono ?_; rintro e wa ⟨rfl, hba⟩)
    go_ret
    exact ⟨rfl, bstep hb1 hba⟩
  have hl : l.length ≤ 112 := by omega
  have hE : putE l = 0 := by simp [putE, h112]
  have hL : putL file place l = pageOf file place l := by simp [putL, h112]
  rw [hL] at hown1
  rw [hE]
  have hgE : ∀ f2 p2, getE (pageOf file place l) f2 p2 = if f2 = file ∧ p2 = place then 0 else 5 := by
    intro f2 p2
    unfold getE
    rw [getB_page _ _ _ _ _ hl, pageOf_length _ _ _ hl]
    simp
  have hgL : getL (pageOf file place l) file place = l := by
    unfold getL
    rw [getB_page _ _ _ _ _ hl, inOf_page _ _ _ hl]
    simp
  have HgE := Lib.hid hgE
  have HgL := Lib.hid hgL
  have hpl := pageOf_length file place l hl
  have Hpl := Lib.hid hpl
  clear hE hL hgE hgL hpl
  go_wp2_with fail
  refine (get_any _ _ (pageOf file place l) file place hown1.by_ (by rw [Hpl.out]; omega)).mono ?_
  rw [HgL.out, HgE.out file place, if_pos ⟨rfl, rfl⟩]
  rintro e W2 ⟨v11, rfl, hown2, hb2⟩
  go_wp2_with fail
  refine (get_any _ _ (pageOf file place l) other place (hown1.by_.step hb2) (by rw [Hpl.out]; omega)).mono ?_
  rintro e W3 ⟨v13, rfl, hown3, hb3⟩
  go_wp2_with fail
  refine (get_any _ _ (pageOf file place l) file other (hown1.by_.step (bstep hb2 hb3)) (by rw [Hpl.out]; omega)).mono ?_
  rintro e W4 ⟨v15, rfl, hown4, hb4⟩
  have hE1 : (getE (pageOf file place l) other place == 0) = decide (other = file) := by
    rw [HgE.out]; by_cases h : other = file <;> simp [h]
  have hE2 : (getE (pageOf file place l) file other == 0) = decide (other = place) := by
    rw [HgE.out]; by_cases h : other = place <;> simp [h]
  have hOF : ((other.toNat : Int) == (file.toNat : Int)) = decide (other = file) := by
    rw [Bool.eq_iff_iff]; simp only [beq_iff_eq, decide_eq_true_eq]; rw [← UInt32.toNat_inj]; omega
  have hOP : ((other.toNat : Int) == (place.toNat : Int)) = decide (other = place) := by
    rw [Bool.eq_iff_iff]; simp only [beq_iff_eq, decide_eq_true_eq]; rw [← UInt32.toNat_inj]; omega
  have k9 := hown1.by_.step (bstep (bstep hb2 hb3) hb4)
  have k11 := hown2.by_.step (bstep hb3 hb4)
  have hb04 := bstep (bstep (bstep hb1 hb2) hb3) hb4
  have k3 := hby.step hb04
  clear hown1 hown2 hown3 hown4
  generalize getE (pageOf file place l) other place = E1 at *
  generalize getE (pageOf file place l) file other = E2 at *
  have HE1 := Lib.hid hE1
  have HE2 := Lib.hid hE2
  have HOF := Lib.hid hOF
  have HOP := Lib.hid hOP
  clear hE1 hE2 hOF hOP
  go_wp2_with fail
  have hE1 := HE1.out
  have hE2 := HE2.out
  have hOF := HOF.out
  have hOP := HOP.out
  refine wp_region_typed [some 62, some 63, some 64, some 65, some 66, some 67, some 68, some 69, some 70, some 71, some 72, some 73, some 74, some 75, some 76, some 77, some 78, some 79, some 80, some 81, some 82, some 83, some 84, some 85, some 86, some 87, some 88, some 89, some 90, some 91, some 92, some 93, some 94, some 95, some 96, some 97, some 98, some 99, some 100, some 101, some 102, some 103, some 8] [62, 63, 64, 65, 66, 67, 68, 69, 70, 71, 72, 73, 74, 75, 76, 77, 78, 79, 80, 81, 82, 83, 84, 85, 86, 87, 88, 89, 90, 91, 92, 93, 94, 95, 96, 97, 98, 99, 100, 101, 102, 103, 8]
    [Ph.is (.int .i64 0),
      Ph.is (.bool true),
      Ph.is (.bool true),
      Ph.is (v9),
      Ph.is (.string (bst (pageOf file place l))),
      Ph.is (.int .u32 (file.toNat : Int)),
      Ph.is (.int .u32 (place.toNat : Int)),
      Ph.is (.slice a3 l.length cap3),
      Ph.by_ (pageOf file place l),
      Ph.is (.string (bst (pageOf file place l))),
      Ph.is (.bool true),
      Ph.is (.bool true),
      Ph.is (.bool true),
      Ph.is (.int .i64 0),
      Ph.is (.bool true),
      Ph.is (.bool true),
      Ph.is (.bool true),
      Ph.is (v11),
      Ph.is (.string (bst (l))),
      Ph.is (.slice a3 l.length cap3),
      Ph.is (.string (bst (l))),
      Ph.is (.bool true),
      Ph.is (.bool true),
      Ph.is (.bool true),
      Ph.is (.int .i64 E1),
      Ph.is (.bool (decide (other = file))),
      Ph.is (.int .u32 (other.toNat : Int)),
      Ph.is (.int .u32 (file.toNat : Int)),
      Ph.is (.bool (decide (other = file))),
      Ph.is (.bool true),
      Ph.is (.bool true),
      Ph.is (.bool true),
      Ph.is (.int .i64 E2),
      Ph.is (.bool (decide (other = place))),
      Ph.is (.int .u32 (other.toNat : Int)),
      Ph.is (.int .u32 (place.toNat : Int)),
      Ph.is (.bool (decide (other = place))),
      Ph.is (.bool true),
      Ph.is (.bool true),
      Ph.is (.bool true),
      Ph.is (.bool true),
      Ph.is (.bool true),
      Ph.is (.bool true)] rfl rfl (by kernel_rfl) (by kernel_rfl) ?_ ?_
  · refine ⟨?_, ?_, ?_, ?_, ?_, ?_, ?_, ?_, ?_, ?_, ?_, ?_, ?_, ?_, ?_, ?_, ?_, ?_, ?_, ?_, ?_, ?_, ?_, ?_, ?_, ?_, ?_, ?_, ?_, ?_, ?_, ?_, ?_, ?_, ?_, ?_, ?_, ?_, ?_, ?_, ?_, ?_, ?_, trivial⟩
    · -- 0: slot 62 := Op.move t10
      refine ob_yes fun f w' hb hp => ?_
      simp [PreOf, factOf, valOf, Ph.is, Ph.by_, Ph.any, Region.binds] at hp
      refine ⟨by simp [Gd, valOf, hp], ?_⟩
      refine mild_val (.int .i64 0) ?_ rfl
      simp [execOp, evalF, hp]
    · -- 1: slot 63 := Op.binOp BinOp.eql 29 t62 (const (0:i64)) 29
      refine ob_yes fun f w' hb hp => ?_
      simp [PreOf, factOf, valOf, Ph.is, Ph.by_, Ph.any, Region.binds] at hp
      refine ⟨by simp [Gd, valOf, hp], ?_⟩
      refine mild_val (.bool true) ?_ rfl
      simp [execOp, evalF, hp, go_sem]
    · -- 2: slot 64 := Op.move t63
      refine ob_yes fun f w' hb hp => ?_
      simp [PreOf, factOf, valOf, Ph.is, Ph.by_, Ph.any, Region.binds] at hp
      refine ⟨by simp [Gd, valOf, hp], ?_⟩
      refine mild_val (.bool true) ?_ rfl
      simp [execOp, evalF, hp]
    · -- 3: slot 65 := Op.move t9
      refine ob_yes fun f w' hb hp => ?_
      simp [PreOf, factOf, valOf, Ph.is, Ph.by_, Ph.any, Region.binds] at hp
      refine ⟨by simp [Gd, valOf, hp], ?_⟩
      refine mild_val (v9) ?_ rfl
      simp [execOp, evalF, hp]
    · -- 4: slot 66 := Op.convert 22 9 t65
      refine ob_yes fun f w' hb hp => ?_
      simp [PreOf, factOf, valOf, Ph.is, Ph.by_, Ph.any, Region.binds] at hp
      refine ⟨by simp [Gd, valOf, hp], ?_⟩
      refine mild_val (.string (bst (pageOf file place l))) ?_ rfl
      have hc := conv8 ((k9).below hb)
      simp [execOp, evalF, hp, hc]
    · -- 5: slot 67 := Op.move t0
      refine ob_yes fun f w' hb hp => ?_
      simp [PreOf, factOf, valOf, Ph.is, Ph.by_, Ph.any, Region.binds] at hp
      refine ⟨by simp [Gd, valOf, hp], ?_⟩
      refine mild_val (.int .u32 (file.toNat : Int)) ?_ rfl
      simp [execOp, evalF, hp]
    · -- 6: slot 68 := Op.move t1
      refine ob_yes fun f w' hb hp => ?_
      simp [PreOf, factOf, valOf, Ph.is, Ph.by_, Ph.any, Region.binds] at hp
      refine ⟨by simp [Gd, valOf, hp], ?_⟩
      refine mild_val (.int .u32 (place.toNat : Int)) ?_ rfl
      simp [execOp, evalF, hp]
    · -- 7: slot 69 := Op.move t3
      refine ob_yes fun f w' hb hp => ?_
      simp [PreOf, factOf, valOf, Ph.is, Ph.by_, Ph.any, Region.binds] at hp
      refine ⟨by simp [Gd, valOf, hp], ?_⟩
      refine mild_val (.slice a3 l.length cap3) ?_ rfl
      simp [execOp, evalF, hp]
    · -- 8: slot 70 := Op.call   value (Operand.func 24), args := #[t67, t68, t69], argTypes := #[24, 24, 22]  
      refine ob_yes fun f w' hb hp => ?_
      simp [PreOf, factOf, valOf, Ph.is, Ph.by_, Ph.any, Region.binds] at hp
      refine ⟨by simp [Gd, valOf, hp], ?_⟩
      refine mild_call 24 _ _ Try.f24 Try.func24 (by kernel_rfl) (by kernel_rfl) rfl ?_
      simp [evalF, hp, Ph.is, Ph.by_, Ph.any]
      exact (rput_any w' _ l file place (k3.step hb) (by omega)).mono fun e w2 ⟨v, h1, h2, h3⟩ => ⟨v, h1, h3, h2.by_⟩
    · -- 9: slot 71 := Op.convert 22 9 t70
      refine ob_yes fun f w' hb hp => ?_
      simp [PreOf, factOf, valOf, Ph.is, Ph.by_, Ph.any, Region.binds] at hp
      refine ⟨by simp [Gd, valOf, hp], ?_⟩
      refine mild_val (.string (bst (pageOf file place l))) ?_ rfl
      have hc := conv8 (by first | exact hp | exact hp.1 | exact hp.2 | exact hp.1.1 | exact hp.1.2 | exact hp.2.1 | exact hp.2.2)
      simp [execOp, evalF, hp, hc]
    · -- 10: slot 72 := Op.binOp BinOp.eql 9 t66 t71 9
      refine ob_yes fun f w' hb hp => ?_
      simp [PreOf, factOf, valOf, Ph.is, Ph.by_, Ph.any, Region.binds] at hp
      refine ⟨by simp [Gd, valOf, hp], ?_⟩
      refine mild_val (.bool true) ?_ rfl
      simp [execOp, evalF, hp, go_sem]
    · -- 11: slot 73 := Op.pick t64 t72 (const (Value.bool false))
      refine ob_yes fun f w' hb hp => ?_
      simp [PreOf, factOf, valOf, Ph.is, Ph.by_, Ph.any, Region.binds] at hp
      refine ⟨by simp [Gd, valOf, hp], ?_⟩
      refine mild_val (.bool true) ?_ rfl
      simp [execOp, evalF, hp, go_sem]
    · -- 12: slot 74 := Op.move t73
      refine ob_yes fun f w' hb hp => ?_
      simp [PreOf, factOf, valOf, Ph.is, Ph.by_, Ph.any, Region.binds] at hp
      refine ⟨by simp [Gd, valOf, hp], ?_⟩
      refine mild_val (.bool true) ?_ rfl
      simp [execOp, evalF, hp]
    · -- 13: slot 75 := Op.move t12
      refine ob_yes fun f w' hb hp => ?_
      simp [PreOf, factOf, valOf, Ph.is, Ph.by_, Ph.any, Region.binds] at hp
      refine ⟨by simp [Gd, valOf, hp], ?_⟩
      refine mild_val (.int .i64 0) ?_ rfl
      simp [execOp, evalF, hp]
    · -- 14: slot 76 := Op.binOp BinOp.eql 29 t75 (const (0:i64)) 29
      refine ob_yes fun f w' hb hp => ?_
      simp [PreOf, factOf, valOf, Ph.is, Ph.by_, Ph.any, Region.binds] at hp
      refine ⟨by simp [Gd, valOf, hp], ?_⟩
      refine mild_val (.bool true) ?_ rfl
      simp [execOp, evalF, hp, go_sem]
    · -- 15: slot 77 := Op.pick t74 t76 (const (Value.bool false))
      refine ob_yes fun f w' hb hp => ?_
      simp [PreOf, factOf, valOf, Ph.is, Ph.by_, Ph.any, Region.binds] at hp
      refine ⟨by simp [Gd, valOf, hp], ?_⟩
      refine mild_val (.bool true) ?_ rfl
      simp [execOp, evalF, hp, go_sem]
    · -- 16: slot 78 := Op.move t77
      refine ob_yes fun f w' hb hp => ?_
      simp [PreOf, factOf, valOf, Ph.is, Ph.by_, Ph.any, Region.binds] at hp
      refine ⟨by simp [Gd, valOf, hp], ?_⟩
      refine mild_val (.bool true) ?_ rfl
      simp [execOp, evalF, hp]
    · -- 17: slot 79 := Op.move t11
      refine ob_yes fun f w' hb hp => ?_
      simp [PreOf, factOf, valOf, Ph.is, Ph.by_, Ph.any, Region.binds] at hp
      refine ⟨by simp [Gd, valOf, hp], ?_⟩
      refine mild_val (v11) ?_ rfl
      simp [execOp, evalF, hp]
    · -- 18: slot 80 := Op.convert 22 9 t79
      refine ob_yes fun f w' hb hp => ?_
      simp [PreOf, factOf, valOf, Ph.is, Ph.by_, Ph.any, Region.binds] at hp
      refine ⟨by simp [Gd, valOf, hp], ?_⟩
      refine mild_val (.string (bst (l))) ?_ rfl
      have hc := conv8 ((k11).below hb)
      simp [execOp, evalF, hp, hc]
    · -- 19: slot 81 := Op.move t3
      refine ob_yes fun f w' hb hp => ?_
      simp [PreOf, factOf, valOf, Ph.is, Ph.by_, Ph.any, Region.binds] at hp
      refine ⟨by simp [Gd, valOf, hp], ?_⟩
      refine mild_val (.slice a3 l.length cap3) ?_ rfl
      simp [execOp, evalF, hp]
    · -- 20: slot 82 := Op.convert 22 9 t81
      refine ob_yes fun f w' hb hp => ?_
      simp [PreOf, factOf, valOf, Ph.is, Ph.by_, Ph.any, Region.binds] at hp
      refine ⟨by simp [Gd, valOf, hp], ?_⟩
      refine mild_val (.string (bst (l))) ?_ rfl
      have hc := conv8 ((k3).below hb)
      simp [execOp, evalF, hp, hc]
    · -- 21: slot 83 := Op.binOp BinOp.eql 9 t80 t82 9
      refine ob_yes fun f w' hb hp => ?_
      simp [PreOf, factOf, valOf, Ph.is, Ph.by_, Ph.any, Region.binds] at hp
      refine ⟨by simp [Gd, valOf, hp], ?_⟩
      refine mild_val (.bool true) ?_ rfl
      simp [execOp, evalF, hp, go_sem]
    · -- 22: slot 84 := Op.pick t78 t83 (const (Value.bool false))
      refine ob_yes fun f w' hb hp => ?_
      simp [PreOf, factOf, valOf, Ph.is, Ph.by_, Ph.any, Region.binds] at hp
      refine ⟨by simp [Gd, valOf, hp], ?_⟩
      refine mild_val (.bool true) ?_ rfl
      simp [execOp, evalF, hp, go_sem]
    · -- 23: slot 85 := Op.move t84
      refine ob_yes fun f w' hb hp => ?_
      simp [PreOf, factOf, valOf, Ph.is, Ph.by_, Ph.any, Region.binds] at hp
      refine ⟨by simp [Gd, valOf, hp], ?_⟩
      refine mild_val (.bool true) ?_ rfl
      simp [execOp, evalF, hp]
    · -- 24: slot 86 := Op.move t14
      refine ob_yes fun f w' hb hp => ?_
      simp [PreOf, factOf, valOf, Ph.is, Ph.by_, Ph.any, Region.binds] at hp
      refine ⟨by simp [Gd, valOf, hp], ?_⟩
      refine mild_val (.int .i64 E1) ?_ rfl
      simp [execOp, evalF, hp]
    · -- 25: slot 87 := Op.binOp BinOp.eql 29 t86 (const (0:i64)) 29
      refine ob_yes fun f w' hb hp => ?_
      simp [PreOf, factOf, valOf, Ph.is, Ph.by_, Ph.any, Region.binds] at hp
      refine ⟨by simp [Gd, valOf, hp], ?_⟩
      refine mild_val (.bool (decide (other = file))) ?_ rfl
      simp only [execOp, evalF]
      simp [hp, go_sem, hE1]
    · -- 26: slot 88 := Op.move t2
      refine ob_yes fun f w' hb hp => ?_
      simp [PreOf, factOf, valOf, Ph.is, Ph.by_, Ph.any, Region.binds] at hp
      refine ⟨by simp [Gd, valOf, hp], ?_⟩
      refine mild_val (.int .u32 (other.toNat : Int)) ?_ rfl
      simp [execOp, evalF, hp]
    · -- 27: slot 89 := Op.move t0
      refine ob_yes fun f w' hb hp => ?_
      simp [PreOf, factOf, valOf, Ph.is, Ph.by_, Ph.any, Region.binds] at hp
      refine ⟨by simp [Gd, valOf, hp], ?_⟩
      refine mild_val (.int .u32 (file.toNat : Int)) ?_ rfl
      simp [execOp, evalF, hp]
    · -- 28: slot 90 := Op.binOp BinOp.eql 24 t88 t89 24
      refine ob_yes fun f w' hb hp => ?_
      simp [PreOf, factOf, valOf, Ph.is, Ph.by_, Ph.any, Region.binds] at hp
      refine ⟨by simp [Gd, valOf, hp], ?_⟩
      refine mild_val (.bool (decide (other = file))) ?_ rfl
      simp only [execOp, evalF]
      simp [hp, go_sem, hOF]
    · -- 29: slot 91 := Op.binOp BinOp.eql 4 t87 t90 4
      refine ob_yes fun f w' hb hp => ?_
      simp [PreOf, factOf, valOf, Ph.is, Ph.by_, Ph.any, Region.binds] at hp
      refine ⟨by simp [Gd, valOf, hp], ?_⟩
      refine mild_val (.bool true) ?_ rfl
      simp [execOp, evalF, hp, go_sem]
    · -- 30: slot 92 := Op.pick t85 t91 (const (Value.bool false))
      refine ob_yes fun f w' hb hp => ?_
      simp [PreOf, factOf, valOf, Ph.is, Ph.by_, Ph.any, Region.binds] at hp
      refine ⟨by simp [Gd, valOf, hp], ?_⟩
      refine mild_val (.bool true) ?_ rfl
      simp [execOp, evalF, hp, go_sem]
    · -- 31: slot 93 := Op.move t92
      refine ob_yes fun f w' hb hp => ?_
      simp [PreOf, factOf, valOf, Ph.is, Ph.by_, Ph.any, Region.binds] at hp
      refine ⟨by simp [Gd, valOf, hp], ?_⟩
      refine mild_val (.bool true) ?_ rfl
      simp [execOp, evalF, hp]
    · -- 32: slot 94 := Op.move t16
      refine ob_yes fun f w' hb hp => ?_
      simp [PreOf, factOf, valOf, Ph.is, Ph.by_, Ph.any, Region.binds] at hp
      refine ⟨by simp [Gd, valOf, hp], ?_⟩
      refine mild_val (.int .i64 E2) ?_ rfl
      simp [execOp, evalF, hp]
    · -- 33: slot 95 := Op.binOp BinOp.eql 29 t94 (const (0:i64)) 29
      refine ob_yes fun f w' hb hp => ?_
      simp [PreOf, factOf, valOf, Ph.is, Ph.by_, Ph.any, Region.binds] at hp
      refine ⟨by simp [Gd, valOf, hp], ?_⟩
      refine mild_val (.bool (decide (other = place))) ?_ rfl
      simp only [execOp, evalF]
      simp [hp, go_sem, hE2]
    · -- 34: slot 96 := Op.move t2
      refine ob_yes fun f w' hb hp => ?_
      simp [PreOf, factOf, valOf, Ph.is, Ph.by_, Ph.any, Region.binds] at hp
      refine ⟨by simp [Gd, valOf, hp], ?_⟩
      refine mild_val (.int .u32 (other.toNat : Int)) ?_ rfl
      simp [execOp, evalF, hp]
    · -- 35: slot 97 := Op.move t1
      refine ob_yes fun f w' hb hp => ?_
      simp [PreOf, factOf, valOf, Ph.is, Ph.by_, Ph.any, Region.binds] at hp
      refine ⟨by simp [Gd, valOf, hp], ?_⟩
      refine mild_val (.int .u32 (place.toNat : Int)) ?_ rfl
      simp [execOp, evalF, hp]
    · -- 36: slot 98 := Op.binOp BinOp.eql 24 t96 t97 24
      refine ob_yes fun f w' hb hp => ?_
      simp [PreOf, factOf, valOf, Ph.is, Ph.by_, Ph.any, Region.binds] at hp
      refine ⟨by simp [Gd, valOf, hp], ?_⟩
      refine mild_val (.bool (decide (other = place))) ?_ rfl
      simp only [execOp, evalF]
      simp [hp, go_sem, hOP]
    · -- 37: slot 99 := Op.binOp BinOp.eql 4 t95 t98 4
      refine ob_yes fun f w' hb hp => ?_
      simp [PreOf, factOf, valOf, Ph.is, Ph.by_, Ph.any, Region.binds] at hp
      refine ⟨by simp [Gd, valOf, hp], ?_⟩
      refine mild_val (.bool true) ?_ rfl
      simp [execOp, evalF, hp, go_sem]
    · -- 38: slot 100 := Op.pick t93 t99 (const (Value.bool false))
      refine ob_yes fun f w' hb hp => ?_
      simp [PreOf, factOf, valOf, Ph.is, Ph.by_, Ph.any, Region.binds] at hp
      refine ⟨by simp [Gd, valOf, hp], ?_⟩
      refine mild_val (.bool true) ?_ rfl
      simp [execOp, evalF, hp, go_sem]
    · -- 39: slot 101 := Op.move t100
      refine ob_yes fun f w' hb hp => ?_
      simp [PreOf, factOf, valOf, Ph.is, Ph.by_, Ph.any, Region.binds] at hp
      refine ⟨by simp [Gd, valOf, hp], ?_⟩
      refine mild_val (.bool true) ?_ rfl
      simp [execOp, evalF, hp]
    · -- 40: slot 102 := Op.call   value (Operand.func 21), args := #[], argTypes := #[]  
      refine ob_yes fun f w' hb hp => ?_
      simp [PreOf, factOf, valOf, Ph.is, Ph.by_, Ph.any, Region.binds] at hp
      refine ⟨by simp [Gd, valOf, hp], ?_⟩
      refine mild_call 21 _ _ Try.f21 Try.func21 (by kernel_rfl) (by kernel_rfl) rfl ?_
      simp [evalF, hp, Ph.is, Ph.by_, Ph.any]
      exact awake08 w'
    · -- 41: slot 103 := Op.pick t101 t102 (const (Value.bool false))
      refine ob_yes fun f w' hb hp => ?_
      simp [PreOf, factOf, valOf, Ph.is, Ph.by_, Ph.any, Region.binds] at hp
      refine ⟨by simp [Gd, valOf, hp], ?_⟩
      refine mild_val (.bool true) ?_ rfl
      simp [execOp, evalF, hp, go_sem]
    · -- 42: slot 8 := Op.assign t103
      refine ob_yes fun f w' hb hp => ?_
      simp [PreOf, factOf, valOf, Ph.is, Ph.by_, Ph.any, Region.binds] at hp
      refine ⟨by simp [Gd, valOf, hp], ?_⟩
      refine mild_val (.bool true) ?_ rfl
      simp [execOp, evalF, hp]
  · intro f w2 hb2 hp
    simp only [PostOf, Ph.is, Ph.by_, Ph.any] at hp
    obtain ⟨h0, h1, h2, h3, h4, h5, h6, h7, h8, h9, h10, h11, h12, h13, h14, h15, h16, h17, h18, h19, h20, h21, h22, h23, h24, h25, h26, h27, h28, h29, h30, h31, h32, h33, h34, h35, h36, h37, h38, h39, h40, h41, h42, _⟩ := hp
    simp only [fills, List.foldl_cons, List.foldl_nil, Act.put, List.setIfInBounds_toArray, List.set_cons_zero, List.set_cons_succ, h0, h1, h2, h3, h4, h5, h6, h7, h9, h10, h11, h12, h13, h14, h15, h16, h17, h18, h19, h20, h21, h22, h23, h24, h25, h26, h27, h28, h29, h30, h31, h32, h33, h34, h35, h36, h37, h38, h39, h40, h41, h42]
    clear h0 h1 h2 h3 h4 h5 h6 h7 h9 h10 h11 h12 h13 h14 h15 h16 h17 h18 h19 h20 h21 h22 h23 h24 h25 h26 h27 h28 h29 h30 h31 h32 h33 h34 h35 h36 h37 h38 h39 h40 h41 h42
    generalize f 70 = v70 at *
    clear hE1 hE2 hOF hOP
    go_wp2_with fail
    go_ret
    exact ⟨rfl, bstep hb04 hb2⟩

/-! ### THE ROW's STEP: WRITTEN OUT: LEAVE IT -/
set_option maxRecDepth 100000 in
theorem lifted (os : Os) (started : os.Started) (H : Type) (enc : TypeId × Value → H) :
    ReturnsInHanded {} Try.checked os 7 .any (Rows.pagePutsSpec.pre6 enc Try.prog Try.f7 Rows.pagePutsRow.domain false) (Rows.pagePutsSpec.post enc Try.prog Try.f7 false true false false) := by
  refine returnsInHanded_of_change (C := Try.checked) own started (by kernel_rfl) Try.func7
    (ChangeSpec.witness6 (enc := enc) (C := Try.checked) false ⟨#[], #[.int .u32 0, .int .u32 0, .int .u32 0, .slice none 0 0], []⟩ 8 (by kernel_rfl) (by kernel_rfl) (by kernel_rfl) (by kernel_rfl)) ?_
  intro W base args ds gs before hval0 hW hcnd _
  have hval : ∀ (j : Nat) t v, Try.f7.params[j]? = some t → args[j]? = some v → Value.okWide Try.prog W .any base t v := hval0
  have hW' := hW
  obtain ⟨p, q, hA0, hV, rfl, hfz, hnd⟩ := hW
  have hA : DataW.TrodAll enc Try.prog W 0 (fun _ => true) true Try.f7.params.toList args.toList ds p := hA0
  rw [Try.params7] at hA hval
  obtain ⟨v0, vs0, d0, ds0, p0, q0, hargs, rfl, rfl, h0, r0⟩ := trodAll_cons hA
  obtain ⟨v1, vs1, d1, ds1, p1, q1, rfl, rfl, rfl, h1, r1⟩ := trodAll_cons r0
  obtain ⟨v2, vs2, d2, ds2, p2, q2, rfl, rfl, rfl, h2, r2⟩ := trodAll_cons r1
  obtain ⟨v3, vs3, d3, ds3, p3, q3, rfl, rfl, rfl, h3, r3⟩ := trodAll_cons r2
  obtain ⟨rfl, rfl, rfl⟩ := trodAll_nil r3
  obtain rfl : args = #[v0, v1, v2, v3] := by cases args; simp_all
  obtain ⟨rfl, rfl⟩ := trodVars_none hV
  obtain ⟨a0, rfl, rfl, rfl, w0⟩ := open_int Try.underlying24 (hval 0 24 v0 rfl rfl) h0
  obtain ⟨a1, rfl, rfl, rfl, w1⟩ := open_int Try.underlying24 (hval 1 24 v1 rfl rfl) h1
  obtain ⟨a2, rfl, rfl, rfl, w2⟩ := open_int Try.underlying24 (hval 2 24 v2 rfl rfl) h2
  obtain ⟨a3, len3, cap3, rfl⟩ := okWide_slice Try.underlying22 (hval 3 22 v3 rfl rfl)
  have k3 := h3
  have lt3 : ∀ x ∈ p3, x.block < W.heap.size := by obtain ⟨m, hm⟩ := k3; exact DataW.trod_lt m _ _ _ hm
  obtain ⟨z3, w3⟩ : ∃ zs, IsRow .u8 W a3 len3 cap3 zs := by
    obtain ⟨fuel, hf⟩ := h3
    rcases open_ints Try.underlying22 Try.underlying5 (by kernel_rfl) hf with ⟨hcs, _⟩ | ⟨x, l, c, zs, hcs, _, hl, hm, hz, _, hcell, hwz⟩
    · simp [Value.cells] at hcs
      obtain ⟨rfl, rfl, rfl⟩ := hcs
      exact ⟨[], .inl ⟨rfl, rfl, rfl, rfl⟩⟩
    · simp [Value.cells] at hcs
      obtain ⟨rfl, rfl, rfl⟩ := hcs
      exact ⟨zs, .inr ⟨_, rfl, hl, hm, by simpa using hz, hcell, hwz⟩⟩
  clear hA0 hval0
  refine (walk a0 a1 a2 a3 len3 cap3 z3 W w0 w1 w2 w3).mono fun e W' ⟨he, bel⟩ => ?_
  subst he
  exact ⟨_, rfl, _, _, _, [], _, [], hW', trodAll_mk1 (shut_bool Try.underlying4 _), (trodAll_cons_mk (shut_int Try.underlying24 w0) (trodAll_cons_mk (shut_int Try.underlying24 w1) (trodAll_cons_mk (shut_int Try.underlying24 w2) (trodAll_cons_mk (Below.trod laidOut (by kernel_rfl) (of_decide_eq_true (by kernel_rfl)) k3 bel lt3) trodAll_mk0)))), rfl, bel.frame _, fun h => by cases h⟩

theorem over : Rows.pagePutsRow.holds Try.pinned (OpenSpec.ofChange Rows.pagePutsSpec) :=
  OpenClaim.holds_of_wide 7 Try.f7 rfl rfl rfl rfl rfl rfl rfl ⟨rfl, rfl, rfl, rfl, rfl⟩ rfl rfl rfl rfl rfl (by kernel_rfl) Try.func7 (by kernel_rfl)
    (of_decide_eq_true (by kernel_rfl)) (by unfold Func.isWrapper; first | (rw [if_pos (by decide +kernel)]; kernel_rfl) | (rw [if_neg (by decide +kernel)]; exact ⟨rfl, rfl⟩))
    (fun os started H enc _ => lifted os started H enc)

/-- ████ THE STATEMENT ████ -/
theorem proved : Rows.PagePutsSaid := over
#print axioms proved
end Go.Proofs.Ytneihfmacljjbaa.pagePuts
