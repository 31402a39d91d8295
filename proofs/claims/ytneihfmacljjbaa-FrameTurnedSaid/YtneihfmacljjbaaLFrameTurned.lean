/- The law 'FrameTurned' returns true for every input, and each argument reads behind the call as it read before. No condition. -/
import Derived.Test.YtneihfmacljjbaaRows
import Derived.Test.YtneihfmacljjbaaIn
import Derived.Test.YtneihfmacljjbaaInSec
import Derived.Test.YtneihfmacljjbaaGreat
import Derived.Test.YtneihfmacljjbaaFrameErr
import Derived.Test.YtneihfmacljjbaaLaw05
import Derived.WalkKit
import Derived.ProofKit
import Derived.OpenShut
import Derived.ShutString
import Derived.ChangeOld
import Derived.Below
namespace Go.Proofs.Ytneihfmacljjbaa.frameTurned
open Go.Proofs.Ytneihfmacljjbaa
open Go.ChangeShapes Go.WideShapes Go.ChangeAt Go.RowKit
set_option linter.unusedVariables false
set_option linter.unusedSimpArgs false

theorem own : ownKnob Try.prog.godebug = none := by kernel_rfl
theorem laidOut : laidOutB Try.prog = true := by kernel_rfl

set_option maxRecDepth 100000 in
set_option maxHeartbeats 2000000 in
theorem walk0 (k : UInt8) (vb : Value) (l : List UInt8) (vm : Value) (m : List UInt8) (at_ : Int) (by_ : UInt8) (w : World) (hb : By w w.heap.size vb l) (hm : By w w.heap.size vm m) (wat : (Lit.int .i64 at_).wf = true) :
    Calls Try.prog 10 #[.agg #[.int .u8 (k.toNat : Int), vb], vm, .int .i64 at_, .int .u8 (by_.toNat : Int)] w fun e w' => e = .returned (.bool true) ∧ Below w.heap.size w w' := by
  obtain ⟨A, c, rfl, hc1, hc2, _⟩ := id hb
  obtain ⟨Am, cm, rfl, hcm1, hcm2, _⟩ := id hm
  unfold maxLen at hc2 hcm2
  have hat := i64_of_wf wat
  clear wat
  obtain ⟨W, hW, hbx, hbW, hrow⟩ : ∃ W, (w.alloc (.cells #[.int .u8 (k.toNat : Int), .slice A l.length c] 46)).alloc (.cells #[.int .u8 (k.toNat : Int), .slice A l.length c, .int .u8 0, .slice Am m.length cm] 46) = W ∧ SecAt W w.heap.size (.int .u8 (k.toNat : Int)) (.slice A l.length c) ∧ Below w.heap.size w W ∧ ByS W W.heap.size (.slice (some ⟨w.heap.size + 1, 0, none⟩) 2 2) [(k, l), (0, m)] := by
    refine ⟨_, rfl, (SecAt.new_ w _ _).alloc (by simp) _, bstep (balloc _ _) (balloc _ _), ?_⟩
    refine ⟨_, 2, [.slice A l.length c, .slice Am m.length cm], rfl, by simp, by simp [maxLen], rfl, ⟨rfl, fun _ => ⟨_, rfl, by simp, fun j u hu => ?_⟩⟩, ?_⟩
    · have h := heap_alloc_new (w.alloc (.cells #[.int .u8 (k.toNat : Int), .slice A l.length c] 46)) (.cells #[.int .u8 (k.toNat : Int), .slice A l.length c, .int .u8 0, .slice Am m.length cm] 46)
      rw [show (w.alloc (.cells #[.int .u8 (k.toNat : Int), .slice A l.length c] 46)).heap.size = w.heap.size + 1 from by simp] at h
      exact World.news_of_block h j u hu
    · intro i u s hu hs
      have hb' := hb.step (bstep (balloc w (.cells #[.int .u8 (k.toNat : Int), .slice A l.length c] 46)) (balloc _ (.cells #[.int .u8 (k.toNat : Int), .slice A l.length c, .int .u8 0, .slice Am m.length cm] 46)))
      have hm' := hm.step (bstep (balloc w (.cells #[.int .u8 (k.toNat : Int), .slice A l.length c] 46)) (balloc _ (.cells #[.int .u8 (k.toNat : Int), .slice A l.length c, .int .u8 0, .slice Am m.length cm] 46)))
      match i, hu, hs with
      | 0, hu, hs => injection hu with hu; injection hs with hs; subst hu; subst hs; exact hb'
      | 1, hu, hs => injection hu with hu; injection hs with hs; subst hu; subst hs; exact hm'
      | i + 2, hu, hs => simp at hu
  have hgreat := great_any W _ _ _ hrow (Nat.le_refl _)
  go_enter Try.func10, Try.ntmps10
  go_wp2_with fail
  refine hgreat.mono ?_
  rintro e w1 ⟨hres, hb1⟩
  have hb01 := bstep hbW hb1
  have hbl := hb.step hb01
  have hbm := hm.step hb01
  have hbx1 := hbx.below hbx.lt hb1
  have hlt01 := hb01.size
  clear hgreat hrow hbx hb hm hW
  rcases hres with rfl | ⟨rfl, hsum, _⟩
  · go_wp2_with (go_at_call 29; refine (awake05 _).mono ?_; rintro e wa ⟨rfl, hba⟩)
    go_ret
    exact ⟨rfl, bstep hb01 hba⟩
  have hlm : l.length + m.length ≤ 2000 := by simpa [sumS] using hsum
  clear hsum
  by_cases hby : by_ = 0
  · subst hby
    rw [show ((((0 : UInt8)).toNat : Nat) : Int) = 0 from rfl]
    go_wp2_with (go_at_call 29; refine (awake05 _).mono ?_; rintro e wa ⟨rfl, hba⟩)
    go_ret
    exact ⟨rfl, bstep hb01 hba⟩
  have hbyn : ¬ ((by_.toNat : Int) = 0) := fun e => hby (UInt8.toNat_inj.1 (by simpa using e))
  have hbyd : ((by_.toNat : Int) == 0) = false := by simpa using hbyn
  go_wp2_with (first
    | (refine wpList_load_sec rfl (.tmp 4) rfl w.heap.size _ _ rfl hbx1 ?_))
  refine (fput_any w1 w1.heap.size (.slice none 0 0) [] (Ow.nil_ _ _) k _ l hbl (by omega) (by simp) (Nat.le_refl _)).mono ?_
  rintro e w2 ⟨v2, rfl, hown2, hext2⟩
  rw [List.nil_append] at hown2
  have hb12 := hext2.below (Nat.le_refl _) (by simp [Value.ownBlock])
  have hb02 := bstep hb01 hb12
  have hlen := frameOf_length k l
  have herr := fun i h => sE_turned k l m i by_ (by omega) h hby
  have Herr := Lib.hid herr
  clear herr
  generalize frameOf k l = fr at *
  obtain ⟨A2, c2, rfl, hd1, hd2, hf2⟩ := hown2.form_
  obtain ⟨g, rfl, hg1, hg2⟩ := hf2 (by omega)
  unfold maxLen at hd2
  by_cases hneg : at_ < 0
  · go_wp2_with (go_at_call 29; refine (awake05 _).mono ?_; rintro e wa ⟨rfl, hba⟩)
    go_ret
    exact ⟨rfl, bstep hb02 hba⟩
  obtain ⟨i, rfl⟩ : ∃ i : Nat, at_ = (i : Int) := ⟨at_.toNat, by omega⟩
  by_cases hge : fr.length ≤ i
  · go_wp2_with (go_at_call 29; refine (awake05 _).mono ?_; rintro e wa ⟨rfl, hba⟩)
    go_ret
    exact ⟨rfl, bstep hb02 hba⟩
  have hi : i < fr.length := by omega
  obtain ⟨b, hbb⟩ : ∃ b, fr[i]? = some b := ⟨_, List.getElem?_eq_getElem hi⟩
  have hcell := hown2.cell_ rfl i b hbb
  have hfr := hown2.frozenAt rfl i
  have hput := hown2.put_ rfl i (b ^^^ by_)
  have hxor := xor_u8 b by_
  have herr := Herr.out i (by omega)
  rw [List.getD_eq_getElem?_getD, hbb, Option.getD_some] at herr
  have hsl : (fr.set i (b ^^^ by_)).length = fr.length := by rw [List.length_set]
  have hb1P : Below w1.heap.size w1 (w2.setCell ⟨g, i, none⟩ (.int .u8 ((b ^^^ by_).toNat : Int))) :=
    ⟨hb12.os, hb12.tape, hb12.output, by have := hb12.size; simpa [World.setCell] using this, fun j hj => (Below.heap_setCell _ _ _ j (by show j ≠ g; omega)).trans (hb12.block j hj)⟩
  have hbmP := hbm.below hb1P
  have Hsl := Lib.hid hsl
  have Hlen := Lib.hid hlen
  clear hlen
  have Herr2 := Lib.hid herr
  clear Herr herr hsl hown2 hext2 hf2 hbb hbl
  generalize b ^^^ by_ = b' at *
  generalize fr.set i b' = fr' at *
  go_wp2_with (at_builtin
               refine wpList_app8 rfl (.tmp 56) (.tmp 57) rfl hput hbmP rfl rfl (by rw [Hsl.out, Hlen.out]; omega) hb1P.size ?_
               intro v3 w3 hown3 hext3
               have hb13 := hb1P.trans (hext3.below hb1P.size fun q hq => (hput.blk q hq).1))
  have hb03 := bstep hb01 hb13
  have hE := Herr2.out
  have hN : sN (fr' ++ m) = 0 := by unfold sN; rw [hE]; rfl
  have hL : sL (fr' ++ m) = [] := by unfold sL; rw [hE]; rfl
  refine (fget_any w3 v3 (fr' ++ m) hown3.by_ (by rw [List.length_append, Hsl.out, Hlen.out]; omega)).mono ?_
  rw [hE, hN, hL]
  rintro e w4 ⟨v4, rfl, hown4, hb4⟩
  have hb04 := bstep hb03 hb4
  obtain ⟨A4, c4, rfl, he1, he2, _⟩ := hown4.form_
  generalize sK (fr' ++ m) = K at *
  obtain ⟨W4, hW4, hs4, hbW4⟩ : ∃ W4, (w4.alloc (.cells #[.int .u8 0, .slice none 0 0] 46)).setRow w4.heap.size #[.int .u8 (K.toNat : Int), .slice A4 0 c4] = W4 ∧ SecAt W4 w4.heap.size (.int .u8 (K.toNat : Int)) (.slice A4 0 c4) ∧ Below w4.heap.size w4 W4 :=
    ⟨_, rfl, (SecAt.new_ _ _ _).put _ _, bsetRow (balloc _ _) (Nat.le_refl _) _⟩
  have hx1 := hs4.cell1
  have hb05 := bstep hb04 hbW4
  clear hput hbmP hown3 hext3 hown4 Herr2 hE hN hL hcell hfr
  go_wp2_with (first
    | (refine wpList_store_sec rfl (.tmp 11) _ rfl w4.heap.size _ _ (.int .u8 (K.toNat : Int)) (.slice A4 0 c4) rfl rfl (SecAt.new_ w4 (.int .u8 0) (.slice none 0 0)) rfl rfl ?_
       rw [hW4]
       intro _)
    | (go_at_call 29; refine (awake05 _).mono ?_; rintro e wa ⟨rfl, hba⟩))
  go_ret
  exact ⟨rfl, bstep hb05 hba⟩

theorem walk (cs0 : List Value) (v1 v2 v3 : Value) (w : World) (h0 : InC w 46 cs0) (h1 : InC w 22 [v1]) (h2 : InC w 3 [v2]) (h3 : InC w 5 [v3]) :
    Calls Try.prog 10 #[.agg cs0.toArray, v1, v2, v3] w fun e w' => e = .returned (.bool true) ∧ Below w.heap.size w w' := by
  obtain ⟨k, l, vb, rfl, hb⟩ := h0.sec
  obtain ⟨m, hm⟩ := h1.bytes
  obtain ⟨n, e2, hn⟩ := h2.int Try.underlying3
  obtain ⟨b, e3, _⟩ := InC.u8 (S := fun _ => True) Try.underlying5 h3
  simp at e2 e3
  subst e2; subst e3
  exact walk0 k vb l v1 m n b w hb hm hn

set_option maxRecDepth 100000 in
theorem lifted (os : Os) (started : os.Started) (H : Type) (enc : TypeId × Value → H) :
    ReturnsInHanded {} Try.checked os 10 .any (Rows.frameTurnedSpec.pre6 enc Try.prog Try.f10 Rows.frameTurnedRow.domain false) (Rows.frameTurnedSpec.post enc Try.prog Try.f10 false true false false) := by
  refine returnsInHanded_of_change (C := Try.checked) own started (by kernel_rfl) Try.func10
    (ChangeSpec.witness6 (enc := enc) (C := Try.checked) false ⟨#[], #[.agg #[.int .u8 0, .slice none 0 0], .slice none 0 0, .int .i64 0, .int .u8 0], []⟩ 8 (by kernel_rfl) (by kernel_rfl) (by kernel_rfl) (by kernel_rfl)) ?_
  intro W base args ds gs before hval0 hW hcnd _
  have hval : ∀ (j : Nat) t v, Try.f10.params[j]? = some t → args[j]? = some v → Value.okWide Try.prog W .any base t v := hval0
  have hW' := hW
  obtain ⟨p, q, hA0, hV, rfl, hfz, hnd⟩ := hW
  have hA : DataW.TrodAll enc Try.prog W 0 (fun _ => true) true Try.f10.params.toList args.toList ds p := hA0
  rw [Try.params10] at hA hval
  obtain ⟨v0, vs0, d0, ds0, p0, q0, hargs, rfl, rfl, h0, r0⟩ := trodAll_cons hA
  obtain ⟨v1, vs1, d1, ds1, p1, q1, rfl, rfl, rfl, h1, r1⟩ := trodAll_cons r0
  obtain ⟨v2, vs2, d2, ds2, p2, q2, rfl, rfl, rfl, h2, r2⟩ := trodAll_cons r1
  obtain ⟨v3, vs3, d3, ds3, p3, q3, rfl, rfl, rfl, h3, r3⟩ := trodAll_cons r2
  obtain ⟨rfl, rfl, rfl⟩ := trodAll_nil r3
  obtain rfl : args = #[v0, v1, v2, v3] := by cases args; simp_all
  obtain ⟨rfl, rfl⟩ := trodVars_none hV
  have k0 := h0
  have lt0 : ∀ x ∈ p0, x.block < W.heap.size := by obtain ⟨m, hm⟩ := k0; exact DataW.trod_lt m _ _ _ hm
  have i0 := InC.of h0
  obtain ⟨cs0, rfl, j0⟩ := InC.agg Try.underlying46 (hval 0 46 v0 rfl rfl) i0
  have k1 := h1
  have lt1 : ∀ x ∈ p1, x.block < W.heap.size := by obtain ⟨m, hm⟩ := k1; exact DataW.trod_lt m _ _ _ hm
  have i1 := InC.of h1
  obtain ⟨a1, len1, cap1, rfl⟩ := okWide_slice Try.underlying22 (hval 1 22 v1 rfl rfl)
  have j1 : InC W 22 [_] := i1
  have k2 := h2
  have lt2 : ∀ x ∈ p2, x.block < W.heap.size := by obtain ⟨m, hm⟩ := k2; exact DataW.trod_lt m _ _ _ hm
  have i2 := InC.of h2
  obtain ⟨a2, rfl⟩ := okWide_int Try.underlying3 (hval 2 3 v2 rfl rfl)
  have j2 : InC W 3 [_] := i2
  have k3 := h3
  have lt3 : ∀ x ∈ p3, x.block < W.heap.size := by obtain ⟨m, hm⟩ := k3; exact DataW.trod_lt m _ _ _ hm
  have i3 := InC.of h3
  obtain ⟨a3, rfl⟩ := okWide_int Try.underlying5 (hval 3 5 v3 rfl rfl)
  have j3 : InC W 5 [_] := i3
  clear hA0 hval0
  refine (walk cs0 _ _ _ W j0 j1 j2 j3).mono fun e W' ⟨he, bel⟩ => ?_
  subst he
  exact ⟨_, rfl, _, _, _, [], _, [], hW', trodAll_mk1 (shut_bool Try.underlying4 _), (trodAll_cons_mk (Below.trod laidOut (by kernel_rfl) (of_decide_eq_true (by kernel_rfl)) k0 bel lt0) (trodAll_cons_mk (Below.trod laidOut (by kernel_rfl) (of_decide_eq_true (by kernel_rfl)) k1 bel lt1) (trodAll_cons_mk (Below.trod laidOut (by kernel_rfl) (of_decide_eq_true (by kernel_rfl)) k2 bel lt2) (trodAll_cons_mk (Below.trod laidOut (by kernel_rfl) (of_decide_eq_true (by kernel_rfl)) k3 bel lt3) trodAll_mk0)))), rfl, bel.frame _, fun h => by cases h⟩

theorem over : Rows.frameTurnedRow.holds Try.pinned (OpenSpec.ofChange Rows.frameTurnedSpec) :=
  OpenClaim.holds_of_wide 10 Try.f10 rfl rfl rfl rfl rfl rfl rfl ⟨rfl, rfl, rfl, rfl, rfl⟩ rfl rfl rfl rfl rfl (by kernel_rfl) Try.func10 (by kernel_rfl)
    (of_decide_eq_true (by kernel_rfl)) (by unfold Func.isWrapper; first | (rw [if_pos (by decide +kernel)]; kernel_rfl) | (rw [if_neg (by decide +kernel)]; exact ⟨rfl, rfl⟩))
    (fun os started H enc _ => lifted os started H enc)

theorem proved : Rows.FrameTurnedSaid := over
#print axioms proved
end Go.Proofs.Ytneihfmacljjbaa.frameTurned
