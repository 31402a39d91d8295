/- The law 'FrameLong' returns true for every input, and each argument reads behind the call as it read before. No condition. (The frame was written by the kit's program; the walk is mine.) -/
import Derived.Test.YtneihfmacljjbaaRows
import Derived.Test.YtneihfmacljjbaaFrameAll
import Derived.Test.YtneihfmacljjbaaMake8
import Derived.Test.YtneihfmacljjbaaFrameBig
import Derived.Test.YtneihfmacljjbaaLaw05
import Derived.Test.YtneihfmacljjbaaPostBelow
import Derived.WalkKit
import Derived.ProofKit
import Derived.OpenShut
import Derived.ShutString
namespace Go.Proofs.Ytneihfmacljjbaa.frameLong
open Go.Proofs.Ytneihfmacljjbaa
open Go.ChangeShapes Go.WideShapes Go.ChangeAt Go.RowKit
open Go.ChangeMaps (open_string shut_string)
set_option linter.unusedVariables false
set_option linter.unusedSimpArgs false      -- a walk need not use every 'w<i>' (that an integer argument fits its kind)

theorem own : ownKnob Try.prog.godebug = none := by kernel_rfl

/-! ### STEP 1: THE WALK: the Go text returns true. 'Grown w w'': the world has at most new blocks (Derived/RowKit3.lean). Part the cases AHEAD of 'go_enter' where a test parts the walk; take each callee by a contract of your own. -/
theorem rep5 (n : Nat) (h : 5 < n) (l0 : List UInt8) (hz : Hid (l0 = List.replicate n 0)) : l0[5]? = some 0 := by
  rw [hz.out]; simp [h]
set_option maxRecDepth 100000 in
set_option maxHeartbeats 2000000 in
theorem walk (a0 : Int) (a1 : Int) (a2 : Bool) (w0 : (Lit.int .u8 a0).wf = true) (w1 : (Lit.int .u8 a1).wf = true) (w : World) :
    Calls Try.prog 11 #[.int .u8 a0, .int .u8 a1, .bool a2] w fun e w' => e = .returned (.bool true) ∧ Below w.heap.size w w' := by
  obtain ⟨kind, rfl⟩ := u8_of_wf w0
  obtain ⟨c, rfl⟩ := u8_of_wf w1
  clear w0 w1
  cases a2 with
  | true =>
    go_enter Try.func11, Try.ntmps11
    go_wp2_with (first
      | (refine wpList_make8 rfl (.tmp 21) (.tmp 21) rfl 1048577 rfl rfl (by omega) ?_
         intro vb wb l0 hz hlen hownb hbb
         have h5 := rep5 1048577 (by omega) l0 hz
         obtain ⟨A, cap, rfl, hc1, hc2, hf⟩ := hownb.form_
         obtain ⟨g, rfl, hg1, hg2⟩ := hf (by omega)
         have hcell := hownb.cell_ rfl 5 0 h5
         have hfr := hownb.frozenAt rfl 5
         have hput := hownb.put_ rfl 5 c
         have hl2 : (l0.set 5 c).length = 1048577 := by rw [List.length_set]; exact hlen
         have h52 : (l0.set 5 c)[5]? = some c := by simp [hlen]
         rw [hlen] at hc1 hput ⊢
         unfold maxLen at hc2
         clear hownb hf h5 hz hlen
         generalize l0.set 5 c = body at *))
    have hWs : (wb.setCell { block := g, off := 5 } (.int .u8 (c.toNat : Int))).heap.size = wb.heap.size := by simp [World.setCell]
    have hbS : Below w.heap.size w (wb.setCell { block := g, off := 5 } (.int .u8 (c.toNat : Int))) :=
      ⟨hbb.os, hbb.tape, hbb.output, by rw [hWs]; exact hbb.size, fun i hi => (Below.heap_setCell _ _ _ i (by show i ≠ g; omega)).trans (hbb.block i hi)⟩
    generalize wb.setCell { block := g, off := 5 } (.int .u8 (c.toNat : Int)) = W at *
    refine (fput_long _ _ kind _ 1048577 cap (by omega) hc1 (by unfold maxLen; omega)).mono ?_
    rintro e w1 ⟨rfl, hb1⟩
    have hb01 := bstep (hbS.trans ((balloc W (.cells #[.int .u8 1] 5)).mono hbS.size)) hb1
    have hbW1 := bstep (balloc W (.cells #[.int .u8 1] 5)) hb1
    have hbod1 := hput.by_.step hbW1
    have Hbig : Hid (sE (markOf ([kind] ++ four (UInt32.ofNat 1048577)) ++ body) = 4 ∧ sN (markOf ([kind] ++ four (UInt32.ofNat 1048577)) ++ body) = 0) := ⟨sE_big kind 1048577 body (by omega) (by omega), sN_big kind 1048577 body (by omega) (by omega)⟩
    have hfour := rfour_any (w1.alloc (.cells #[.int .u8 (kind.toNat : Int)] 5)) (UInt32.ofNat 1048577)
    rw [show (((UInt32.ofNat 1048577).toNat : Nat) : Int) = 1048577 from rfl] at hfour
    have hfl : ∀ x, (four x).length = 4 := fun _ => rfl
    have hk1 : Ow (w1.alloc (.cells #[.int .u8 (kind.toNat : Int)] 5)) w1.heap.size (.slice (some ⟨w1.heap.size, 0, none⟩) 1 1) [kind] := Ow.new_ w1 [kind] (by simp [maxLen])
    generalize UInt32.ofNat 1048577 = n32 at *
    clear hcell hfr hput hbb hg2 hWs
    go_wp2_with fail
    refine hfour.mono ?_
    rintro e w2 ⟨v2, rfl, hown2, hb2⟩
    have hk2 := hk1.below_ hb2
    have hb12 := bstep (balloc w1 _) hb2
    clear hfour hk1
    go_wp2_with (at_builtin
                 refine wpList_app8 rfl (.tmp 36) (.tmp 39) rfl hk2 hown2.by_ rfl rfl (by simp [hfl]) hb12.size ?_
                 intro v3 w3 hown3 hext3
                 have hb13 := hb12.trans (hext3.below hb12.size fun q hq => (hk2.blk q hq).1))
    refine (rmark_any _ _ _ hown3.by_ (by simp [hfl])).mono ?_
    rintro e w4 ⟨v4, rfl, hown4, hb4⟩
    have hb14 := bstep hb13 hb4
    have hbod4 := hbod1.step hb14
    clear hk2 hown2 hown3
    go_wp2_with (at_builtin
                 refine wpList_app8 rfl (.tmp 41) (.tmp 42) rfl hown4 hbod4 rfl rfl (by simp [markOf_length, hfl]; omega) hb4.size ?_
                 intro v5 w5 hown5 hext5
                 have hb15 := hb14.trans ((hext5.below hb4.size fun q hq => (hown4.blk q hq).1).mono hb13.size))
    refine (fget_any _ _ _ hown5.by_ (by simp [markOf_length, hfl]; omega)).mono ?_
    rw [Hbig.out.1, Hbig.out.2]
    rintro e w6 ⟨v6, rfl, hown6, hb6⟩
    have hb06 := bstep hb01 (bstep hb15 hb6)
    obtain ⟨A6, c6, rfl, hd61, hd62, hf6⟩ := hown6.form_
    clear hown4 hown5 hbod4 hbod1 Hbig
    go_wp2_with (first
      | (refine wpList_store_sec rfl (.tmp 12) _ rfl w6.heap.size _ _ _ _ rfl rfl (SecAt.new_ w6 (.int .u8 0) (.slice none 0 0)) rfl rfl ?_
         intro _)
      | (go_at_call 29; refine (awake05 _).mono ?_; rintro e wa ⟨rfl, hba⟩))
    go_ret
    exact ⟨rfl, bstep (bsetRow (bstep hb06 (balloc w6 _)) (by have := hb06.size; omega) _) hba⟩
  | false =>
    go_enter Try.func11, Try.ntmps11
    go_wp2_with (first
      | (refine wpList_make8 rfl (.tmp 21) (.tmp 21) rfl 1048576 rfl rfl (by omega) ?_
         intro vb wb l0 hz hlen hownb hbb
         have h5 := rep5 1048576 (by omega) l0 hz
         obtain ⟨A, cap, rfl, hc1, hc2, hf⟩ := hownb.form_
         obtain ⟨g, rfl, hg1, hg2⟩ := hf (by omega)
         have hcell := hownb.cell_ rfl 5 0 h5
         have hfr := hownb.frozenAt rfl 5
         have hput := hownb.put_ rfl 5 c
         have hl2 : (l0.set 5 c).length = 1048576 := by rw [List.length_set]; exact hlen
         have h52 : (l0.set 5 c)[5]? = some c := by simp [hlen]
         rw [hlen] at hc1 hput ⊢
         unfold maxLen at hc2
         clear hownb hf h5 hz hlen
         generalize l0.set 5 c = body at *))
    have hWs : (wb.setCell { block := g, off := 5 } (.int .u8 (c.toNat : Int))).heap.size = wb.heap.size := by simp [World.setCell]
    have hbS : Below w.heap.size w (wb.setCell { block := g, off := 5 } (.int .u8 (c.toNat : Int))) :=
      ⟨hbb.os, hbb.tape, hbb.output, by rw [hWs]; exact hbb.size, fun i hi => (Below.heap_setCell _ _ _ i (by show i ≠ g; omega)).trans (hbb.block i hi)⟩
    generalize wb.setCell { block := g, off := 5 } (.int .u8 (c.toNat : Int)) = W at *
    have h1 : Ow (W.alloc (.cells #[.int .u8 1] 5)) W.heap.size (.slice (some ⟨W.heap.size, 0, none⟩) 1 1) [1] := Ow.new_ W [1] (by simp [maxLen])
    have hbod := hput.by_.alloc (Nat.le_refl _) (.cells #[.int .u8 1] 5)
    rw [← hWs]
    refine (fput_any _ _ _ [1] h1 kind _ body hbod (by omega) (by simp) (by simp)).mono ?_
    rintro e w1 ⟨v1, rfl, hown1, hext1⟩
    have hlen1 : ([1] ++ frameOf kind body).length = 1048590 := by simp [frameOf_length, hl2]
    have hf0 : sE (frameOf kind body) = 0 ∧ sN (frameOf kind body) = 1048589 ∧ sK (frameOf kind body) = kind ∧ sL (frameOf kind body) = body := by
      have e := List.append_nil (frameOf kind body)
      have h1 := sE_frame kind body [] (by omega)
      have h2 := sN_frame kind body [] (by omega)
      have h3 := sK_frame kind body [] (by omega)
      have h4 := sL_frame kind body [] (by omega)
      rw [e] at h1 h2 h3 h4
      rw [hl2] at h2
      exact ⟨h1, h2, h3, h4⟩
    have hb01 := hbS.trans (((balloc W (.cells #[.int .u8 1] 5)).trans (hext1.below (by simp) (fun q hq => (h1.blk q hq).1))).mono hbS.size)
    obtain ⟨A1, c1, rfl, hd1, hd2, hf1⟩ := hown1.form_
    obtain ⟨g1, rfl, hg11, hg12⟩ := hf1 (by omega)
    have hcut := hown1.by_.back_ (k := 1) (by omega)
    have hdr : ([1] ++ frameOf kind body).drop 1 = frameOf kind body := rfl
    have hfl : (frameOf kind body).length = 1048589 := by rw [frameOf_length, hl2]
    rw [hdr] at hcut
    rw [hlen1] at hd1 hcut ⊢
    unfold maxLen at hd2
    have Hf0 := Lib.hid hf0
    rw [if_neg (show ¬ c1 = 1 by omega), show Option.map (fun x => x.add 1) (some (⟨g1, 0, none⟩ : Addr)) = some ⟨g1, 1, none⟩ from rfl] at hcut
    clear hf0 hdr hown1 hext1 h1 hbod hput hcell hfr hbb hf1 hlen1
    generalize frameOf kind body = fr at *
    go_wp2_with fail
    refine (fget_any _ _ fr hcut (by omega)).mono ?_
    rw [Hf0.out.1, Hf0.out.2.1, Hf0.out.2.2.1, Hf0.out.2.2.2]
    rintro e w2 ⟨v2, rfl, hown2, hb2⟩
    have hb02 := bstep hb01 hb2
    obtain ⟨A2, c2, rfl, he1, he2, hf2⟩ := hown2.form_
    obtain ⟨g2, rfl, hg21, hg22⟩ := hf2 (by omega)
    rw [hl2] at he1 hown2 ⊢
    unfold maxLen at he2
    obtain ⟨W2, hW2, hs2, hbW2⟩ : ∃ W2, (w2.alloc (.cells #[.int .u8 0, .slice none 0 0] 46)).setRow w2.heap.size #[.int .u8 (kind.toNat : Int), .slice (some ⟨g2, 0, none⟩) 1048576 c2] = W2 ∧ SecAt W2 w2.heap.size (.int .u8 (kind.toNat : Int)) (.slice (some ⟨g2, 0, none⟩) 1048576 c2) ∧ Below w2.heap.size w2 W2 :=
      ⟨_, rfl, (SecAt.new_ _ _ _).put _ _, bsetRow (balloc _ _) (Nat.le_refl _) _⟩
    have hx := (hown2.below_ hbW2).cell_ hl2.symm 5 c h52
    have hx0 := hs2.cell0
    have hx1 := hs2.cell1
    have hb03 := bstep hb02 hbW2
    clear hf2 hown2 hcut Hf0
    go_wp2_with (first
      | (refine wpList_store_sec rfl (.tmp 15) _ rfl w2.heap.size _ _ _ _ rfl rfl (SecAt.new_ w2 (.int .u8 0) (.slice none 0 0)) rfl rfl ?_
         rw [hW2]
         intro _)
      | (go_at_call 29; refine (awake05 _).mono ?_; rintro e wa ⟨rfl, hba⟩))
    go_ret
    exact ⟨rfl, bstep hb03 hba⟩

/-! ### THE ROW's STEP: WRITTEN OUT: LEAVE IT -/
set_option maxRecDepth 100000 in
theorem lifted (os : Os) (started : os.Started) (H : Type) (enc : TypeId × Value → H) :
    ReturnsInHanded {} Try.checked os 11 .any (Rows.frameLongSpec.pre6 enc Try.prog Try.f11 Rows.frameLongRow.domain false) (Rows.frameLongSpec.post enc Try.prog Try.f11 false true false false) := by
  refine returnsInHanded_of_change (C := Try.checked) own started (by kernel_rfl) Try.func11
    (ChangeSpec.witness6 (enc := enc) (C := Try.checked) false ⟨#[], #[.int .u8 0, .int .u8 0, .bool false], []⟩ 8 (by kernel_rfl) (by kernel_rfl) (by kernel_rfl) (by kernel_rfl)) ?_
  intro W base args ds gs before hval0 hW hcnd _
  have hval : ∀ (j : Nat) t v, Try.f11.params[j]? = some t → args[j]? = some v → Value.okWide Try.prog W .any base t v := hval0
  have hW' := hW
  obtain ⟨p, q, hA0, hV, rfl, hfz, hnd⟩ := hW
  have hA : DataW.TrodAll enc Try.prog W 0 (fun _ => true) true Try.f11.params.toList args.toList ds p := hA0
  rw [Try.params11] at hA hval
  obtain ⟨v0, vs0, d0, ds0, p0, q0, hargs, rfl, rfl, h0, r0⟩ := trodAll_cons hA
  obtain ⟨v1, vs1, d1, ds1, p1, q1, rfl, rfl, rfl, h1, r1⟩ := trodAll_cons r0
  obtain ⟨v2, vs2, d2, ds2, p2, q2, rfl, rfl, rfl, h2, r2⟩ := trodAll_cons r1
  obtain ⟨rfl, rfl, rfl⟩ := trodAll_nil r2
  obtain rfl : args = #[v0, v1, v2] := by cases args; simp_all
  obtain ⟨rfl, rfl⟩ := trodVars_none hV
  obtain ⟨a0, rfl, rfl, rfl, w0⟩ := open_int Try.underlying5 (hval 0 5 v0 rfl rfl) h0
  obtain ⟨a1, rfl, rfl, rfl, w1⟩ := open_int Try.underlying5 (hval 1 5 v1 rfl rfl) h1
  obtain ⟨a2, rfl, rfl, rfl⟩ := open_bool Try.underlying4 (hval 2 4 v2 rfl rfl) h2
  clear hA0 hval0
  simp only [List.append_nil] at hW'
  refine (walk a0 a1 a2 w0 w1 W).mono fun e W' ⟨he, hg⟩ => ?_
  subst he
  exact ⟨_, rfl, post_of_below (pa := []) (pv := []) hW' (fun _ _ _ => (trodAll_cons_mk (shut_bool Try.underlying4 _) trodAll_mk0)) (fun sp _ => (trodAll_cons_mk (shut_int Try.underlying5 w0) (trodAll_cons_mk (shut_int Try.underlying5 w1) (trodAll_cons_mk (shut_bool Try.underlying4 _) trodAll_mk0)))) (fun _ _ => rfl) rfl
    hg (ok_one (by kernel_rfl) rfl (okWide_bool_mk Try.underlying4 _))⟩

theorem over : Rows.frameLongRow.holds Try.pinned (OpenSpec.ofChange Rows.frameLongSpec) :=
  OpenClaim.holds_of_wide 11 Try.f11 rfl rfl rfl rfl rfl rfl rfl ⟨rfl, rfl, rfl, rfl, rfl⟩ rfl rfl rfl rfl rfl (by kernel_rfl) Try.func11 (by kernel_rfl)
    (of_decide_eq_true (by kernel_rfl)) (by unfold Func.isWrapper; first | (rw [if_pos (by decide +kernel)]; kernel_rfl) | (rw [if_neg (by decide +kernel)]; exact ⟨rfl, rfl⟩))
    (fun os started H enc _ => lifted os started H enc)

/-- ████ THE STATEMENT ████ -/
theorem proved : Rows.FrameLongSaid :=
  over
#print axioms proved
end Go.Proofs.Ytneihfmacljjbaa.frameLong
