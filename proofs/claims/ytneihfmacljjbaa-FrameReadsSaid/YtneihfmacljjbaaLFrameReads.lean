/- The law 'FrameReads' returns true for every input, and each argument reads behind the call as it read before. No condition. (The frame was written by the kit's program; the walk is mine.) -/
import Derived.Test.YtneihfmacljjbaaRows
import Derived.Test.YtneihfmacljjbaaFrameAll
import Derived.Test.YtneihfmacljjbaaFrameSame
import Derived.Test.YtneihfmacljjbaaLaw05
import Derived.WalkKit
import Derived.ProofKit
import Derived.OpenShut
import Derived.ShutString
import Derived.ChangeOld
import Derived.Below
namespace Go.Proofs.Ytneihfmacljjbaa.frameReads
open Go.Proofs.Ytneihfmacljjbaa
open Go.ChangeShapes Go.WideShapes Go.ChangeAt Go.RowKit
open Go.ChangeMaps (open_string shut_string)
set_option linter.unusedVariables false
set_option linter.unusedSimpArgs false

theorem own : ownKnob Try.prog.godebug = none := by kernel_rfl
theorem laidOut : laidOutB Try.prog = true := by kernel_rfl

/-- WHAT THE WALK IS TOLD OF A SLICE OF INTEGERS THAT CAME IN: it is nil; or it leads to a row of 'cap' cells, the numbers 'zs' (the first 'len' are its elements, the rest its spare room), each fitting its kind. -/
def IsRow (k : IntKind) (w : World) (a : Option Addr) (len cap : Nat) (zs : List Int) : Prop :=
  (a = none ∧ len = 0 ∧ cap = 0 ∧ zs = []) ∨
  ∃ x, a = some x ∧ len ≤ cap ∧ cap ≤ maxLen ∧ zs.length = cap ∧ (∀ i, i < zs.length → w.cell? (x.add i) = some (.int k (zs.getD i 0))) ∧ ∀ n ∈ zs, (Lit.int k n).wf = true

/-! ### STEP 1: THE WALK: the Go text returns true, AND WRITES NOTHING THAT WAS THERE: 'Below w.heap.size w w'' (Derived/Below.lean: '.refl', '.alloc', '.drew', '.setCell' at a new block, '.trans'). Open each 'IsRow' by 'rcases' AHEAD of 'go_enter'; part every test ahead of the walk. -/
set_option maxRecDepth 100000 in
set_option maxHeartbeats 2000000 in
theorem walk (a0 : Option Addr) (len0 cap0 : Nat) (z0 : List Int) (w : World) (w0 : IsRow .u8 w a0 len0 cap0 z0) :
    Calls Try.prog 13 #[.slice a0 len0 cap0] w fun e w' => e = .returned (.bool true) ∧ Below w.heap.size w w' := by
  obtain ⟨l, hl, hby⟩ := by_of_row w0
  subst hl
  clear w0
  have ⟨_, _, hcm⟩ := hby.len_
  unfold maxLen at hcm
  by_cases hbig : 3000 < l.length
  · go_enter Try.func13, Try.ntmps13
    go_wp2_with (go_at_call 29; refine (awake05 _).mono ?_; rintro e wa ⟨rfl, hba⟩)
    go_ret
    exact ⟨rfl, hba⟩
  have hg1 := fun W h => fget_any W (.slice a0 l.length cap0) l h (by omega)
  have hg2 := fun W h => rfget_any W (.slice a0 l.length cap0) l h (by omega)
  have ha1 := fun W h => fall_any W (.slice a0 l.length cap0) l h (by omega)
  have ha2 := fun W h => rfall_any W (.slice a0 l.length cap0) l h (by omega)
  have Hg1 := Lib.hid hg1
  have Hg2 := Lib.hid hg2
  have Ha1 := Lib.hid ha1
  have Ha2 := Lib.hid ha2
  clear hg1 hg2 ha1 ha2
  generalize sK l = K at *
  generalize sL l = L at *
  generalize sN l = N at *
  generalize sE l = E at *
  generalize allOf l = R at *
  obtain ⟨R1, R2⟩ := R
  go_enter Try.func13, Try.ntmps13
  go_wp2_with fail
  refine (Hg1.out _ hby).mono ?_
  rintro e w1 ⟨v1, rfl, hown1, hb1⟩
  obtain ⟨A1, c1, rfl, hd1, hd2, hf1⟩ := hown1.form_
  unfold maxLen at hd2
  obtain ⟨W1, hW1, hs1, hbW1⟩ : ∃ W1, ((w1).alloc (.cells #[.int .u8 0, .slice none 0 0] 46)).setRow (w1).heap.size #[.int .u8 (K.toNat : Int), .slice A1 L.length c1] = W1 ∧ SecAt W1 (w1).heap.size (.int .u8 (K.toNat : Int)) (.slice A1 L.length c1) ∧ Below (w1).heap.size (w1) W1 :=
    ⟨_, rfl, (SecAt.new_ _ _ _).put _ _, bsetRow (balloc _ _) (Nat.le_refl _) _⟩
  go_wp2_with (first
    | (refine wpList_store_sec rfl (.tmp 3) _ rfl (w1).heap.size _ _ (.int .u8 (K.toNat : Int)) (.slice A1 L.length c1) rfl rfl (SecAt.new_ _ (.int .u8 0) (.slice none 0 0)) rfl rfl ?_
       rw [hW1]
       intro _))
  have hb01 := bstep hb1 hbW1
  refine (Hg2.out _ (hby.step hb01)).mono ?_
  rintro e w2 ⟨v2, rfl, hown2, hb2⟩
  obtain ⟨A2, c2, rfl, he1, he2, hf2⟩ := hown2.form_
  unfold maxLen at he2
  obtain ⟨W2, hW2, hs2, hbW2⟩ : ∃ W2, ((w2).alloc (.cells #[.int .u8 0, .slice none 0 0] 46)).setRow (w2).heap.size #[.int .u8 (K.toNat : Int), .slice A2 L.length c2] = W2 ∧ SecAt W2 (w2).heap.size (.int .u8 (K.toNat : Int)) (.slice A2 L.length c2) ∧ Below (w2).heap.size (w2) W2 :=
    ⟨_, rfl, (SecAt.new_ _ _ _).put _ _, bsetRow (balloc _ _) (Nat.le_refl _) _⟩
  go_wp2_with (first
    | (refine wpList_store_sec rfl (.tmp 6) _ rfl (w2).heap.size _ _ (.int .u8 (K.toNat : Int)) (.slice A2 L.length c2) rfl rfl (SecAt.new_ _ (.int .u8 0) (.slice none 0 0)) rfl rfl ?_
       rw [hW2]
       intro _))
  have hb12 := bstep hb2 hbW2
  have hb02 := bstep hb01 hb12
  refine (Ha1.out _ (hby.step hb02)).mono ?_
  rintro e w3 ⟨v3, rfl, hown3, hb3⟩
  have hb03 := bstep hb02 hb3
  go_wp2_with fail
  refine (Ha2.out _ (hby.step hb03)).mono ?_
  rintro e w4 ⟨v4, rfl, hown4, hb4⟩
  have hb04 := bstep hb03 hb4
  have hb34 := bstep hb3 hb4
  have hb24 := bstep hb12 hb34
  have hs14 := hs1.below hs1.lt hb24
  have hs24 := hs2.below hs2.lt hb34
  have hx10 := hs14.cell0
  have hx11 := hs14.cell1
  have hx20 := hs24.cell0
  have hx21 := hs24.cell1
  have hc1 := conv8 ((hown1.by_.step hbW1).step hb24)
  have hc2 := conv8 ((hown2.by_.step hbW2).step hb34)
  have hsame := same_any w4 _ _ v3 v4 R1 R1 (hown3.by_.step hb4) hown4.by_ (Nat.le_refl _) (Nat.le_refl _)
  rw [decide_eq_true (rfl : R1 = R1)] at hsame
  generalize bst L = sl at *
  clear hown1 hown2 hown3 hown4 hs1 hs2 hs14 hs24 hW1 hW2 Hg1 Hg2 Ha1 Ha2 hb01 hb02 hb03 hb12 hb34 hb24 hb1 hb2 hb3 hb4 hbW1 hbW2 hby
  go_wp2_with (first
    | (go_at_call 35; refine hsame.mono ?_; rintro e ws ⟨rfl, hbs⟩)
    | (go_at_call 29; refine (awake05 _).mono ?_; rintro e wa ⟨rfl, hba⟩))
  go_ret
  exact ⟨rfl, bstep (bstep hb04 hbs) hba⟩

/-! ### THE ROW's STEP: WRITTEN OUT: LEAVE IT -/
set_option maxRecDepth 100000 in
theorem lifted (os : Os) (started : os.Started) (H : Type) (enc : TypeId × Value → H) :
    ReturnsInHanded {} Try.checked os 13 .any (Rows.frameReadsSpec.pre6 enc Try.prog Try.f13 Rows.frameReadsRow.domain false) (Rows.frameReadsSpec.post enc Try.prog Try.f13 false true false false) := by
  refine returnsInHanded_of_change (C := Try.checked) own started (by kernel_rfl) Try.func13
    (ChangeSpec.witness6 (enc := enc) (C := Try.checked) false ⟨#[], #[.slice none 0 0], []⟩ 8 (by kernel_rfl) (by kernel_rfl) (by kernel_rfl) (by kernel_rfl)) ?_
  intro W base args ds gs before hval0 hW hcnd _
  have hval : ∀ (j : Nat) t v, Try.f13.params[j]? = some t → args[j]? = some v → Value.okWide Try.prog W .any base t v := hval0
  have hW' := hW
  obtain ⟨p, q, hA0, hV, rfl, hfz, hnd⟩ := hW
  have hA : DataW.TrodAll enc Try.prog W 0 (fun _ => true) true Try.f13.params.toList args.toList ds p := hA0
  rw [Try.params13] at hA hval
  obtain ⟨v0, vs0, d0, ds0, p0, q0, hargs, rfl, rfl, h0, r0⟩ := trodAll_cons hA
  obtain ⟨rfl, rfl, rfl⟩ := trodAll_nil r0
  obtain rfl : args = #[v0] := by cases args; simp_all
  obtain ⟨rfl, rfl⟩ := trodVars_none hV
  obtain ⟨a0, len0, cap0, rfl⟩ := okWide_slice Try.underlying22 (hval 0 22 v0 rfl rfl)
  have k0 := h0
  have lt0 : ∀ x ∈ p0, x.block < W.heap.size := by obtain ⟨m, hm⟩ := k0; exact DataW.trod_lt m _ _ _ hm
  obtain ⟨z0, w0⟩ : ∃ zs, IsRow .u8 W a0 len0 cap0 zs := by
    obtain ⟨fuel, hf⟩ := h0
    rcases open_ints Try.underlying22 Try.underlying5 (by kernel_rfl) hf with ⟨hcs, _⟩ | ⟨x, l, c, zs, hcs, _, hl, hm, hz, _, hcell, hwz⟩
    · simp [Value.cells] at hcs
      obtain ⟨rfl, rfl, rfl⟩ := hcs
      exact ⟨[], .inl ⟨rfl, rfl, rfl, rfl⟩⟩
    · simp [Value.cells] at hcs
      obtain ⟨rfl, rfl, rfl⟩ := hcs
      exact ⟨zs, .inr ⟨_, rfl, hl, hm, by simpa using hz, hcell, hwz⟩⟩
  clear hA0 hval0
  refine (walk a0 len0 cap0 z0 W w0).mono fun e W' ⟨he, bel⟩ => ?_
  subst he
  exact ⟨_, rfl, _, _, _, [], _, [], hW', trodAll_mk1 (shut_bool Try.underlying4 _), (trodAll_cons_mk (Below.trod laidOut (by kernel_rfl) (of_decide_eq_true (by kernel_rfl)) k0 bel lt0) trodAll_mk0), rfl, bel.frame _, fun h => by cases h⟩

theorem over : Rows.frameReadsRow.holds Try.pinned (OpenSpec.ofChange Rows.frameReadsSpec) :=
  OpenClaim.holds_of_wide 13 Try.f13 rfl rfl rfl rfl rfl rfl rfl ⟨rfl, rfl, rfl, rfl, rfl⟩ rfl rfl rfl rfl rfl (by kernel_rfl) Try.func13 (by kernel_rfl)
    (of_decide_eq_true (by kernel_rfl)) (by unfold Func.isWrapper; first | (rw [if_pos (by decide +kernel)]; kernel_rfl) | (rw [if_neg (by decide +kernel)]; exact ⟨rfl, rfl⟩))
    (fun os started H enc _ => lifted os started H enc)

/-- ████ THE STATEMENT ████ -/
theorem proved : Rows.FrameReadsSaid := over
#print axioms proved
end Go.Proofs.Ytneihfmacljjbaa.frameReads
