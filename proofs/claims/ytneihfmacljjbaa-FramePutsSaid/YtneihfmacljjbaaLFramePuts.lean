/- The law 'FramePuts' returns true for every input, and each argument reads behind the call as it read before. No condition. -/
import Derived.Test.YtneihfmacljjbaaRows
import Derived.Test.YtneihfmacljjbaaIn
import Derived.Test.YtneihfmacljjbaaInSec
import Derived.Test.YtneihfmacljjbaaGreat
import Derived.Test.YtneihfmacljjbaaFrameErr
import Derived.Test.YtneihfmacljjbaaLaw05
import Derived.Test.YtneihfmacljjbaaFrameAll
import Derived.WalkKit
import Derived.ProofKit
import Derived.OpenShut
import Derived.ShutString
import Derived.ChangeOld
import Derived.Below
namespace Go.Proofs.Ytneihfmacljjbaa.framePuts
open Go.Proofs.Ytneihfmacljjbaa
open Go.ChangeShapes Go.WideShapes Go.ChangeAt Go.RowKit
set_option linter.unusedVariables false
set_option linter.unusedSimpArgs false

theorem own : ownKnob Try.prog.godebug = none := by kernel_rfl
theorem laidOut : laidOutB Try.prog = true := by kernel_rfl

def catL (ss : List Sect) : List UInt8 := ss.flatMap fun s => frameOf s.1 s.2
theorem catL_snoc (ss : List Sect) (s : Sect) : catL (ss ++ [s]) = catL ss ++ frameOf s.1 s.2 := by simp [catL]
theorem catL_len : ∀ ss : List Sect, (catL ss).length = sumS ss + 13 * ss.length
  | [] => rfl
  | s :: ss => by
    have := catL_len ss
    have h : catL (s :: ss) = frameOf s.1 s.2 ++ catL ss := rfl
    rw [h, List.length_append, frameOf_length, this]
    simp [sumS]; omega
theorem sumS_take_le (ss : List Sect) (k : Nat) : sumS (ss.take k) ≤ sumS ss := by
  have : ss = ss.take k ++ ss.drop k := (List.take_append_drop k ss).symm
  have h : sumS ss = sumS (ss.take k) + sumS (ss.drop k) := by
    conv => lhs; rw [this]
    unfold sumS
    rw [List.map_append, List.sum_append]
  omega
theorem sumS_mem (ss : List Sect) (s : Sect) (h : s ∈ ss) : s.2.length ≤ sumS ss := by
  induction ss with
  | nil => cases h
  | cons a t ih =>
    rcases List.mem_cons.1 h with rfl | h
    · simp [sumS]
    · have := ih h; simp [sumS] at *; omega
theorem allA_cat : ∀ (ss : List Sect) (acc : List Sect), (∀ s ∈ ss, s.2.length ≤ 1048576) → allA (catL ss).length (catL ss) acc = (acc ++ ss, 0)
  | [], acc, _ => by simp [catL, allA]
  | s :: ss, acc, h => by
    have hs := h s (by simp)
    have hc : catL (s :: ss) = frameOf s.1 s.2 ++ catL ss := rfl
    have hne : catL (s :: ss) ≠ [] := fun e => by
      have := congrArg List.length e
      rw [hc, List.length_append, frameOf_length] at this
      simp at this
    rw [allA_step _ _ hne (by rw [hc]; exact sE_frame _ _ _ hs)]
    have hd : (catL (s :: ss)).drop (sN (catL (s :: ss))) = catL ss := by
      rw [hc, sN_frame _ _ _ hs, List.drop_left' (frameOf_length _ _)]
    rw [hd, allA_cat ss _ (fun x hx => h x (by simp [hx])), hc, sK_frame _ _ _ hs, sL_frame _ _ _ hs]
    simp
theorem allOf_cat (ss : List Sect) (h : ∀ s ∈ ss, s.2.length ≤ 1048576) : allOf (catL ss) = (ss, 0) := by
  unfold allOf; rw [allA_cat ss [] h]; simp

set_option maxRecDepth 100000 in
set_option maxHeartbeats 2000000 in
theorem walk (v : Value) (w : World) (h0 : InC w 48 [v]) :
    Calls Try.prog 12 #[v] w fun e w' => e = .returned (.bool true) ∧ Below w.heap.size w w' := by
  obtain ⟨ss, hss⟩ := h0.secs
  clear h0
  have hgreat := great_any w _ _ _ hss (Nat.le_refl _)
  obtain ⟨A, c, vs, rfl, ha1, ha2, _⟩ := id hss
  unfold maxLen at ha2
  go_enter Try.func12, Try.ntmps12
  go_wp2_with fail
  refine hgreat.mono ?_
  rintro e w1 ⟨hres, hb1⟩
  clear hgreat
  rcases hres with rfl | ⟨rfl, hsum, h50⟩
  · go_wp2_with (go_at_call 29; refine (awake05 _).mono ?_; rintro e wa ⟨rfl, hba⟩)
    go_ret
    exact ⟨rfl, bstep hb1 hba⟩
  have hs1 := hss.step hb1
  have hmem := fun s hs => sumS_mem ss s hs
  have htl := fun k => sumS_take_le ss k
  have Hmem := Lib.hid hmem
  have Htl := Lib.hid htl
  have Hsum := Lib.hid hsum
  have Hb1 := Lib.hid hb1
  clear hmem htl hsum hb1 hss
  go_wp2_with fail
  go_loopw [3, 4, 5] (fun b x i wr => ∃ k : Nat, k ≤ ss.length ∧ i = .int .i64 k ∧ Ow wr w1.heap.size b (catL (ss.take k)) ∧ Ow wr w1.heap.size x (catL (ss.take k)) ∧ Apart b x ∧ Below w1.heap.size w1 wr) (fun _ _ i _ => ss.length - (intOf i).toNat)
  case atStart =>
    exact ⟨0, by omega, rfl, (Ow.new_ w1 [] (by simp)).below_ (balloc _ _), Ow.newAt (w1.alloc (.cells #[] 5)) [] _ 0 _ (by simp) rfl (by simp) (by omega), fun q hq e => by simp [Value.ownBlock] at hq e; omega, bstep (balloc _ _) (balloc _ _)⟩
  case round =>
    obtain ⟨k, hk, rfl, hob, hox, hap, hbl⟩ := hrel
    have hsz := hbl.size
    have hcl : (catL (ss.take k)).length ≤ 3000 := by
      have h1 := catL_len (ss.take k)
      have h2 := Htl.out k
      have h3 := Hsum.out
      have h4 : (ss.take k).length ≤ 50 := by simp; omega
      omega
    by_cases hlt : k < ss.length
    · have hx : ss[k]? = some (ss[k]'hlt) := List.getElem?_eq_getElem hlt
      have hcat : catL (ss.take (k + 1)) = catL (ss.take k) ++ frameOf (ss[k]'hlt).1 (ss[k]'hlt).2 := by
        rw [List.take_succ_eq_append_getElem hlt, catL_snoc]
      have hml := Hmem.out _ (List.getElem_mem hlt)
      obtain ⟨ad, u, rfl, hab, hc0, hc1, hu⟩ := (hs1.below hbl).at_ k _ hx
      have Hcat := Lib.hid hcat
      clear hcat hx
      generalize ss[k]'hlt = x at *
      obtain ⟨xk, xl⟩ := x
      obtain ⟨A2, c2, rfl, h1, h2, _⟩ := id hu
      unfold maxLen at h2
      have hxl : xl.length ≤ 2000 := by have := Hsum.out; simp only at hml; omega
      have hld : ∀ (wz : World), Below w1.heap.size w1 wz → ∀ (j : Nat) (v : Value), [Value.int .u8 (xk.toNat : Int), .slice A2 xl.length c2][j]? = some v → wz.cell? ((ad.add (k * 2)).add j) = some v := by
        intro wz hz j v hj
        match j, hj with
        | 0, hj => injection hj with hj; subst hj; rw [add_zero', hz.cell (by rw [add_block]; exact hab)]; exact (hbl.cell (by rw [add_block]; exact hab)).symm.trans hc0
        | 1, hj => injection hj with hj; subst hj; rw [add_add, hz.cell (by rw [add_block]; exact hab)]; exact (hbl.cell (by rw [add_block]; exact hab)).symm.trans hc1
        | j + 2, hj => simp at hj
      generalize catL (ss.take k) = pre at *
      clear Hmem Htl hml
      go_wp2_with (refine wpList_load_agg rfl 46 (.tmp 25) rfl (ad.add (k * 2)) rfl [.int .u8 (xk.toNat : Int), .slice A2 xl.length c2] (hld _ hbl) Try.underlying46 rfl (by kernel_rfl) ?_)
      refine (fput_any wr w1.heap.size _ pre hob xk _ xl hu (by omega) (by omega) hsz).mono ?_
      rintro e w2 ⟨v2, rfl, hob2, hext2⟩
      have hbl2 := hbl.trans (hext2.below hsz fun q hq => (hob.blk q hq).1)
      have hox2 := hox.keep hext2.gr hap.symm.ne
      have hap2 : Apart u4 v2 := hap.symm.ext hext2 fun q hq => (hox.blk q hq).2
      have hsz2 := hbl2.size
      go_wp2_with (refine wpList_load_agg rfl 46 (.tmp 36) rfl (ad.add (k * 2)) rfl [.int .u8 (xk.toNat : Int), .slice A2 xl.length c2] (hld _ hbl2) Try.underlying46 rfl (by kernel_rfl) ?_)
      have hu2 := (hu.below (hext2.below hsz fun q hq => (hob.blk q hq).1)).more hsz2
      refine (rfput_any w2 xk _ xl hu2 (by omega)).mono ?_
      rintro e w3 ⟨v3, rfl, how3, hb3⟩
      have hfl : (frameOf xk xl).length = xl.length + 13 := frameOf_length _ _
      have hox3 := hox2.below_ hb3
      go_wp2_with (at_builtin
                   refine wpList_app8 rfl (.tmp 33) (.tmp 38) rfl hox3 how3.by_ rfl rfl (by omega) (Nat.le_trans hsz2 hb3.size) ?_
                   intro v4 w4 hox4 hext4)
      go_roundw
      case rel =>
        exact ⟨k + 1, by omega, by go_num, by rw [Hcat.out]; exact (hob2.below_ hb3).keep hext4.gr (hap2.symm.ne), by rw [Hcat.out]; exact hox4, (hap2.symm.ext hext4 fun q hq => Nat.lt_of_lt_of_le (hob2.blk q hq).2 hb3.size), (hbl2.trans (hb3.mono hsz2)).trans (hext4.below (Nat.le_trans hsz2 hb3.size) fun q hq => (hox3.blk q hq).1)⟩
      case measure => simp [intOf]; omega
    · obtain rfl : k = ss.length := by omega
      rw [List.take_length] at hob hox hcl
      have hall := allOf_cat ss fun s hs => by have := Hmem.out s hs; have := Hsum.out; omega
      have ha := fall_any wr _ (catL ss) hob.by_ (by omega)
      rw [hall] at ha
      have Ha := Lib.hid ha
      clear hall ha Hmem Htl hk hlt
      generalize catL ss = pre at *
      go_wp2_with fail
      refine Ha.out.mono ?_
      rintro e w2 ⟨v2, rfl, how2, hb2⟩
      have hc1 := conv8 (hob.by_.step hb2)
      have hc2 := conv8 (hox.by_.step hb2)
      have hb02 := bstep Hb1.out (hbl.trans (hb2.mono hsz))
      have hsame := same_any w2 _ _ v2 _ ss ss how2.by_ (hs1.below (hbl.trans (hb2.mono hsz))) (Nat.le_refl _) (Nat.le_trans hsz hb2.size)
      rw [decide_eq_true (rfl : ss = ss)] at hsame
      generalize bst pre = st at *
      clear hob hox hbl hap Ha
      go_wp2_with (first
        | (go_at_call 35; refine hsame.mono ?_; rintro e ws ⟨rfl, hbs⟩)
        | (go_at_call 29; refine (awake05 _).mono ?_; rintro e wa ⟨rfl, hba⟩))
      go_ret
      exact ⟨rfl, bstep (bstep hb02 hbs) hba⟩

set_option maxRecDepth 100000 in
theorem lifted (os : Os) (started : os.Started) (H : Type) (enc : TypeId × Value → H) :
    ReturnsInHanded {} Try.checked os 12 .any (Rows.framePutsSpec.pre6 enc Try.prog Try.f12 Rows.framePutsRow.domain false) (Rows.framePutsSpec.post enc Try.prog Try.f12 false true false false) := by
  refine returnsInHanded_of_change (C := Try.checked) own started (by kernel_rfl) Try.func12
    (ChangeSpec.witness6 (enc := enc) (C := Try.checked) false ⟨#[], #[.slice none 0 0], []⟩ 8 (by kernel_rfl) (by kernel_rfl) (by kernel_rfl) (by kernel_rfl)) ?_
  intro W base args ds gs before hval0 hW hcnd _
  have hval : ∀ (j : Nat) t v, Try.f12.params[j]? = some t → args[j]? = some v → Value.okWide Try.prog W .any base t v := hval0
  have hW' := hW
  obtain ⟨p, q, hA0, hV, rfl, hfz, hnd⟩ := hW
  have hA : DataW.TrodAll enc Try.prog W 0 (fun _ => true) true Try.f12.params.toList args.toList ds p := hA0
  rw [Try.params12] at hA hval
  obtain ⟨v0, vs0, d0, ds0, p0, q0, hargs, rfl, rfl, h0, r0⟩ := trodAll_cons hA
  obtain ⟨rfl, rfl, rfl⟩ := trodAll_nil r0
  obtain rfl : args = #[v0] := by cases args; simp_all
  obtain ⟨rfl, rfl⟩ := trodVars_none hV
  have k0 := h0
  have lt0 : ∀ x ∈ p0, x.block < W.heap.size := by obtain ⟨m, hm⟩ := k0; exact DataW.trod_lt m _ _ _ hm
  have i0 := InC.of h0
  obtain ⟨a0, len0, cap0, rfl⟩ := okWide_slice Try.underlying48 (hval 0 48 v0 rfl rfl)
  have j0 : InC W 48 [_] := i0
  clear hA0 hval0
  refine (walk _ W j0).mono fun e W' ⟨he, bel⟩ => ?_
  subst he
  exact ⟨_, rfl, _, _, _, [], _, [], hW', trodAll_mk1 (shut_bool Try.underlying4 _), (trodAll_cons_mk (Below.trod laidOut (by kernel_rfl) (of_decide_eq_true (by kernel_rfl)) k0 bel lt0) trodAll_mk0), rfl, bel.frame _, fun h => by cases h⟩

theorem over : Rows.framePutsRow.holds Try.pinned (OpenSpec.ofChange Rows.framePutsSpec) :=
  OpenClaim.holds_of_wide 12 Try.f12 rfl rfl rfl rfl rfl rfl rfl ⟨rfl, rfl, rfl, rfl, rfl⟩ rfl rfl rfl rfl rfl (by kernel_rfl) Try.func12 (by kernel_rfl)
    (of_decide_eq_true (by kernel_rfl)) (by unfold Func.isWrapper; first | (rw [if_pos (by decide +kernel)]; kernel_rfl) | (rw [if_neg (by decide +kernel)]; exact ⟨rfl, rfl⟩))
    (fun os started H enc _ => lifted os started H enc)

theorem proved : Rows.FramePutsSaid := over
#print axioms proved
end Go.Proofs.Ytneihfmacljjbaa.framePuts
