/- The law 'CrcOwn' returns true for every input, and each argument reads behind the call as it read before. No condition. (The frame was written by the kit's program; the walk is mine.) -/
import Derived.Test.YtneihfmacljjbaaRows
import Derived.Test.YtneihfmacljjbaaLaw02
import Derived.WalkKit
import Derived.ProofKit
import Derived.OpenShut
import Derived.ShutString
import Derived.ChangeOld
import Derived.Below
namespace Go.Proofs.Ytneihfmacljjbaa.crcOwn
open Go.Proofs.Ytneihfmacljjbaa
open Go.ChangeShapes Go.WideShapes Go.ChangeAt Go.RowKit
open Go.ChangeMaps (open_string shut_string)
set_option linter.unusedVariables false

theorem own : ownKnob Try.prog.godebug = none := by kernel_rfl
theorem laidOut : laidOutB Try.prog = true := by kernel_rfl

/-- WHAT THE WALK IS TOLD OF A SLICE OF INTEGERS THAT CAME IN: it is nil; or it leads to a row of 'cap' cells, the numbers 'zs' (the first 'len' are its elements, the rest its spare room), each fitting its kind. -/
def IsRow (k : IntKind) (w : World) (a : Option Addr) (len cap : Nat) (zs : List Int) : Prop :=
  (a = none ∧ len = 0 ∧ cap = 0 ∧ zs = []) ∨
  ∃ x, a = some x ∧ len ≤ cap ∧ cap ≤ maxLen ∧ zs.length = cap ∧ (∀ i, i < zs.length → w.cell? (x.add i) = some (.int k (zs.getD i 0))) ∧ ∀ n ∈ zs, (Lit.int k n).wf = true

/-! ### STEP 1: THE WALK: the Go text returns true, AND WRITES NOTHING THAT WAS THERE: 'Below w.heap.size w w'' (Derived/Below.lean: '.refl', '.alloc', '.drew', '.setCell' at a new block, '.trans'). Open each 'IsRow' by 'rcases' AHEAD of 'go_enter'; part every test ahead of the walk. -/
set_option maxRecDepth 100000 in
set_option maxHeartbeats 2000000 in
theorem walk (a0 : Option Addr) (len0 cap0 : Nat) (z0 : List Int) (a1 : Int) (w : World) (w0 : IsRow .u8 w a0 len0 cap0 z0) (w1 : (Lit.int .u8 a1).wf = true) :
    Calls Try.prog 6 #[.slice a0 len0 cap0, .int .u8 a1] w fun e w' => e = .returned (.bool true) ∧ Below w.heap.size w w' := by
  obtain ⟨l, hl, hby⟩ := by_of_row w0
  subst hl
  obtain ⟨by_, rfl⟩ := u8_of_wf w1
  clear w0 w1
  have ⟨_, _, hcm⟩ := hby.len_
  unfold maxLen at hcm
  by_cases hbig : 1000 < l.length
  · go_enter Try.func6, Try.ntmps6
    go_wp2_with (go_at_call 14; refine (awake02 _).mono ?_; rintro e wa ⟨rfl, hba⟩)
    go_ret
    exact ⟨rfl, hba⟩
  go_enter Try.func6, Try.ntmps6
  go_wp2_with (at_builtin
               refine wpList_app8 rfl (.tmp 18) (.tmp 19) rfl (Ow.new_ w [] (Nat.zero_le _)) (hby.alloc (Nat.le_refl _) _) rfl rfl (by simp; omega) (by simp) ?_
               intro vw w1 hownw hextw
               have hb1 := (balloc w _).trans (hextw.below (B := w.heap.size) (by simp) (by simp [Value.ownBlock])))
  rw [List.nil_append] at hownw
  refine (mark_any _ _ l (hby.step hb1) (by omega)).mono ?_
  rintro e w2 ⟨vm, rfl, hownm, hb2⟩
  have hml := markOf_length l
  go_wp2_with (at_builtin
               refine wpList_app8 rfl (.tmp 23) (.tmp 24) rfl (Ow.new_ w2 [] (Nat.zero_le _)) (hownm.by_.alloc (Nat.le_refl _) _) rfl rfl (by rw [hml]; simp; omega) (by simp) ?_
               intro vk w3 hownk hextk
               have hb3 := (balloc w2 _).trans (hextk.below (B := w2.heap.size) (by simp) (by simp [Value.ownBlock])))
  rw [List.nil_append] at hownk
  refine (fits_any _ _ (markOf l) (hownm.by_.step hb3) (by rw [hml]; omega)).mono ?_
  rw [fitsE_mark, fitsL_mark]
  rintro e w4 ⟨vo, rfl, howno, hb4⟩
  have hownm3 := hownm.below_ hb3
  have hownk3 := hownk
  have hownw3 := (hownw.below_ hb2).below_ hb3
  have hb03 := bstep (bstep hb1 hb2) hb3
  have hownw0 := hownw
  have hmlt := fun j hj => (hownm.blk j hj).2
  clear hownm hownk hownw
  obtain ⟨A, cap, rfl, hc1, hc2, hform⟩ := howno.form_
  unfold maxLen at hc2
  have hE := fitsE_mark l
  have hL := fitsL_mark l
  have hsz13 : w.heap.size ≤ w1.heap.size := hb1.size
  have hsz23 : w1.heap.size ≤ w2.heap.size := hb2.size
  have hsz33 : w2.heap.size ≤ w3.heap.size := hb3.size
  have HE := Lib.hid hE
  have HL := Lib.hid hL
  have Hml := Lib.hid hml
  clear hE hL hml hextw hextk
  generalize markOf l = m at *
  go_wp2_with fail
  go_loopw [10] (fun i wr => ∃ k : Nat, k ≤ l.length ∧ i = .int .i64 k ∧ (∃ l', l'.length = l.length ∧ Ow wr w3.heap.size (.slice A l.length cap) l') ∧ w4.grownBy wr (Value.ownBlock (.slice A l.length cap))) (fun i _ => l.length - (intOf i).toNat)
  case atStart => exact ⟨0, by omega, rfl, ⟨_, rfl, howno⟩, World.grownBy.refl _ _⟩
  case round =>
      obtain ⟨k, hk, rfl, ⟨l', hl', hown⟩, hgr⟩ := hrel
      by_cases hlt : k < l.length
      · obtain ⟨g, hA, hgb, hgl⟩ := hform (by omega)
        subst hA
        obtain ⟨b, hb⟩ : ∃ b, l'[k]? = some b := ⟨_, List.getElem?_eq_getElem (by omega)⟩
        have hcell := hown.cell_ hl'.symm k b hb
        have hfr := hown.frozenAt hl'.symm k
        have hst := fun b => hown.put_ hl'.symm k b
        have Hst := Lib.hid hst
        have Hl := Lib.hid hl'
        clear hst hl' hb hown
        have hxor := xor_u8 b by_
        generalize b ^^^ by_ = b' at *
        go_wp2_with fail
        refine ⟨⟨k + 1, by omega, by go_num, ⟨l'.set k b', by rw [List.length_set]; exact Hl.out, Hst.out b'⟩, ?_⟩, by simp [intOf]; omega⟩
        refine World.grownBy.trans hgr ⟨rfl, rfl, rfl, by simp, fun j _ hj => Below.heap_setCell _ _ _ _ (fun e => hj (by simp [Value.ownBlock, e]))⟩
      · obtain rfl : k = l.length := by omega
        generalize hwo : wr = wo at *
        clear hwo
        have hb3r : Below w3.heap.size w3 wo := hb4.trans ((Below.refl _ _).grown hgr hb4.size (fun j hj => (howno.blk j hj).1))
        have hownm := hownm3.below_ hb3r
        have hownk := hownk3.below_ hb3r
        have hownw := hownw3.below_ hb3r
        have hb0r := bstep hb03 hb3r
        have hbyw1 := hownw0.by_
        have hb1o : Below w1.heap.size w1 wo := (bstep hb2 hb3).trans (hb3r.mono (bstep hb2 hb3).size)
        have hm2 : ∀ j, Value.ownBlock vm = some j → j < w2.heap.size := hmlt
        have hsr := hb3r.size
        clear hown hgr hform howno hownm3 hownk3 hownw3 hl' hb3r hlt
        obtain ⟨A2, cap2, rfl, hc3, hc4, hform⟩ := hownm.form_
        rw [Hml.out] at hform hc3 ⊢
        unfold maxLen at hc4
        have HA2 : Hid (Value.ownBlock (.slice A2 (l.length + 4) cap2) = A2.map (·.block)) := by
          cases A2 <;> rfl
        rw [Hml.out] at hownm hm2
        go_wp2_with fail
        go_loopw [11] (fun i wr => ∃ k : Nat, k ≤ (l.length + 4) ∧ i = .int .i64 k ∧ (∃ l', l'.length = (l.length + 4) ∧ Ow wr w1.heap.size (.slice A2 (l.length + 4) cap2) l') ∧ wo.grownBy wr (Value.ownBlock (.slice A2 (l.length + 4) cap2))) (fun i _ => (l.length + 4) - (intOf i).toNat)
        case atStart => exact ⟨0, by omega, rfl, ⟨_, Hml.out, hownm⟩, World.grownBy.refl _ _⟩
        case round =>
          obtain ⟨k, hk, rfl, ⟨l', hl', hown⟩, hgr⟩ := hrel
          by_cases hlt : k < (l.length + 4)
          · obtain ⟨g, hA, hgb, hgl⟩ := hform (by omega)
            subst hA
            obtain ⟨b, hb⟩ : ∃ b, l'[k]? = some b := ⟨_, List.getElem?_eq_getElem (by omega)⟩
            have hcell := hown.cell_ hl'.symm k b hb
            have hfr := hown.frozenAt hl'.symm k
            have hst := fun b => hown.put_ hl'.symm k b
            have Hst := Lib.hid hst
            have Hl := Lib.hid hl'
            clear hst hl' hb hown
            have hxor := xor_u8 b by_
            generalize b ^^^ by_ = b' at *
            go_wp2_with fail
            refine ⟨⟨k + 1, by omega, by go_num, ⟨l'.set k b', by rw [List.length_set]; exact Hl.out, Hst.out b'⟩, ?_⟩, by simp [intOf]; omega⟩
            refine World.grownBy.trans hgr ⟨rfl, rfl, rfl, by simp, fun j _ hj => Below.heap_setCell _ _ _ _ (fun e => hj (by simp [Value.ownBlock, e]))⟩
          · obtain rfl : k = l.length + 4 := by omega
            have hbl : Below w1.heap.size wo wr := (Below.refl _ _).grown hgr (by omega) (fun j hj => (hownm.blk j hj).1)
            have hownk := hownk.keep hgr (by
              cases hv : Value.ownBlock vk with
              | none => exact .inl rfl
              | some j =>
                right
                intro e
                have h1 := (hownk.blk j hv).1
                have h2 := hm2 j e.symm
                omega)
            have hbyw : By wr w1.heap.size vw l := hbyw1.below (hb1o.trans hbl)
            have hbyb : By wr w.heap.size (.slice a0 l.length cap0) l := hby.below (hb0r.trans (hbl.mono hsz13))
            have hb0r2 : Below w.heap.size w wr := hb0r.trans (hbl.mono hsz13)
            have hswr := hbl.size
            clear hown hgr hform hownm hl' hlt hbl
            go_wp2_with fail
            refine (fits_any _ _ m hownk.by_ (by rw [Hml.out]; omega)).mono ?_
            rw [HE.out, HL.out]
            rintro e w6 ⟨va, rfl, howna, hb6⟩
            have hc1 := conv8 howna.by_
            have hc2 := conv8 (hbyw.below (hb6.mono (by omega)))
            have hc3 := conv8 (hbyb.below (hb6.mono (by omega)))
            have hb06 := hb0r2.trans (hb6.mono hb0r2.size)
            generalize bst l = sl at *
            clear hownk hbyw hbyb howna
            go_wp2_with (go_at_call 14; refine (awake02 _).mono ?_; rintro e wa ⟨rfl, hba⟩)
            go_ret
            exact ⟨rfl, bstep hb06 hba⟩

/-! ### THE ROW's STEP: WRITTEN OUT: LEAVE IT -/
set_option maxRecDepth 100000 in
theorem lifted (os : Os) (started : os.Started) (H : Type) (enc : TypeId × Value → H) :
    ReturnsInHanded {} Try.checked os 6 .any (Rows.crcOwnSpec.pre6 enc Try.prog Try.f6 Rows.crcOwnRow.domain false) (Rows.crcOwnSpec.post enc Try.prog Try.f6 false true false false) := by
  refine returnsInHanded_of_change (C := Try.checked) own started (by kernel_rfl) Try.func6
    (ChangeSpec.witness6 (enc := enc) (C := Try.checked) false ⟨#[], #[.slice none 0 0, .int .u8 0], []⟩ 8 (by kernel_rfl) (by kernel_rfl) (by kernel_rfl) (by kernel_rfl)) ?_
  intro W base args ds gs before hval0 hW hcnd _
  have hval : ∀ (j : Nat) t v, Try.f6.params[j]? = some t → args[j]? = some v → Value.okWide Try.prog W .any base t v := hval0
  have hW' := hW
  obtain ⟨p, q, hA0, hV, rfl, hfz, hnd⟩ := hW
  have hA : DataW.TrodAll enc Try.prog W 0 (fun _ => true) true Try.f6.params.toList args.toList ds p := hA0
  rw [Try.params6] at hA hval
  obtain ⟨v0, vs0, d0, ds0, p0, q0, hargs, rfl, rfl, h0, r0⟩ := trodAll_cons hA
  obtain ⟨v1, vs1, d1, ds1, p1, q1, rfl, rfl, rfl, h1, r1⟩ := trodAll_cons r0
  obtain ⟨rfl, rfl, rfl⟩ := trodAll_nil r1
  obtain rfl : args = #[v0, v1] := by cases args; simp_all
  obtain ⟨rfl, rfl⟩ := trodVars_none hV
  obtain ⟨a0, len0, cap0, rfl⟩ := okWide_slice Try.underlying22 (hval 0 22 v0 rfl rfl)
  have k0 := h0
  have lt0 : ∀ x ∈ p0, x.block < W.heap.size := by obtain ⟨m, hm⟩ := k0; exact DataW.trod_lt m _ _ _ hm
  obtain ⟨z0, w0⟩ : ∃ zs, IsRow .u8 W a0 len0 cap0 zs := by
    obtain ⟨fuel, hf⟩ := h0
    rcases open_ints Try.underlying22 Try.underlying5 (by kernel_rfl) hf with ⟨hcs, _⟩ | ⟨x, l, c, zs, hcs, _, hl, hm, hz, _, hcell, hwz⟩
    · simp [Value.cells] at hcs
      obtain ⟨rfl, rfl, rfl⟩ := hcs
      exact ⟨[], .inl ⟨rfl, rfl, rfl, rfl⟩⟩
    · simp [Value.cells] at hcs
      obtain ⟨rfl, rfl, rfl⟩ := hcs
      exact ⟨zs, .inr ⟨_, rfl, hl, hm, by simpa using hz, hcell, hwz⟩⟩
  obtain ⟨a1, rfl, rfl, rfl, w1⟩ := open_int Try.underlying5 (hval 1 5 v1 rfl rfl) h1
  clear hA0 hval0
  refine (walk a0 len0 cap0 z0 a1 W w0 w1).mono fun e W' ⟨he, bel⟩ => ?_
  subst he
  exact ⟨_, rfl, _, _, _, [], _, [], hW', trodAll_mk1 (shut_bool Try.underlying4 _), (trodAll_cons_mk (Below.trod laidOut (by kernel_rfl) (of_decide_eq_true (by kernel_rfl)) k0 bel lt0) (trodAll_cons_mk (shut_int Try.underlying5 w1) trodAll_mk0)), rfl, bel.frame _, fun h => by cases h⟩

theorem over : Rows.crcOwnRow.holds Try.pinned (OpenSpec.ofChange Rows.crcOwnSpec) :=
  OpenClaim.holds_of_wide 6 Try.f6 rfl rfl rfl rfl rfl rfl rfl ⟨rfl, rfl, rfl, rfl, rfl⟩ rfl rfl rfl rfl rfl (by kernel_rfl) Try.func6 (by kernel_rfl)
    (of_decide_eq_true (by kernel_rfl)) (by unfold Func.isWrapper; first | (rw [if_pos (by decide +kernel)]; kernel_rfl) | (rw [if_neg (by decide +kernel)]; exact ⟨rfl, rfl⟩))
    (fun os started H enc _ => lifted os started H enc)

/-- ████ THE STATEMENT ████ -/
theorem proved : Rows.CrcOwnSaid := over
#print axioms proved
end Go.Proofs.Ytneihfmacljjbaa.crcOwn
