/- The law 'PageTurned' returns true for every input, and each argument reads behind the call as it read before. No condition. (The frame was written by the kit's program; the walk is mine.) -/
import Derived.Test.YtneihfmacljjbaaRows
import Derived.Test.YtneihfmacljjbaaPageMany
import Derived.WalkKit
import Derived.ProofKit
import Derived.OpenShut
import Derived.ShutString
import Derived.ChangeOld
import Derived.Below
namespace Go.Proofs.Ytneihfmacljjbaa.pageTurned
open Go.Proofs.Ytneihfmacljjbaa
open Go.ChangeShapes Go.WideShapes Go.ChangeAt Go.RowKit
open Go.ChangeMaps (open_string shut_string)
set_option linter.unusedVariables false
set_option linter.unusedSimpArgs false

theorem own : ownKnob Try.prog.godebug = none := by kernel_rfl
theorem laidOut : laidOutB Try.prog = true := by kernel_rfl

/-- WHAT THE WALK IS TOLD OF A SLICE OF INTEGERS THAT CAME IN: it is nil; or it leads to a row of 'cap' cells, the numbers 'zs' (the first 'len' are its elements, the rest its spare room), each fitting its kind. -/
def IsRow (k : IntKind) (w : World) (a : Option Addr) (len cap : Nat) (zs : List Int) : Prop :=
  (a = none ∧ len = 0 ∧ cap = 0 ∧ zs = []) ∨
  ∃ x, a = some x ∧ len ≤ cap ∧ cap ≤ maxLen ∧ zs.length = cap ∧ (∀ i, i < zs.length → w.cell? (x.add i) = some (.int k (zs.getD i 0))) ∧ ∀ n ∈ zs, (Lit.int k n).wf = true

/-! ### STEP 1: THE WALK: the Go text returns true, AND WRITES NOTHING THAT WAS THERE: 'Below w.heap.size w w'' (Derived/Below.lean: '.refl', '.alloc', '.drew', '.setCell' at a new block, '.trans'). Open each 'IsRow' by 'rcases' AHEAD of 'go_enter'; part every test ahead of the walk. -/
set_option maxRecDepth 100000 in
set_option maxHeartbeats 2000000 in
theorem walk (a0 : Int) (a1 : Int) (a2 : Option Addr) (len2 cap2 : Nat) (z2 : List Int) (a3 : Int) (a4 : Int) (a5 : Int) (w : World) (w0 : (Lit.int .u32 a0).wf = true) (w1 : (Lit.int .u32 a1).wf = true) (w2 : IsRow .u8 w a2 len2 cap2 z2) (w3 : (Lit.int .i64 a3).wf = true) (w4 : (Lit.int .u8 a4).wf = true) (w5 : (Lit.int .i64 a5).wf = true) :
    Calls Try.prog 9 #[.int .u32 a0, .int .u32 a1, .slice a2 len2 cap2, .int .i64 a3, .int .u8 a4, .int .i64 a5] w fun e w' => e = .returned (.bool true) ∧ Below w.heap.size w w' := by
  obtain ⟨file, rfl⟩ := u32_of_wf w0
  obtain ⟨place, rfl⟩ := u32_of_wf w1
  obtain ⟨l, hl, hby⟩ := by_of_row w2
  subst hl
  obtain ⟨hlo, hhi⟩ := i64_of_wf w3
  obtain ⟨by_, rfl⟩ := u8_of_wf w4
  obtain ⟨hlo5, hhi5⟩ := i64_of_wf w5
  clear w0 w1 w2 w3 w4 w5
  have ⟨_, _, hcm⟩ := hby.len_
  unfold maxLen at hcm
  by_cases hbig : 112 < l.length
  · go_enter Try.func9, Try.ntmps9
    go_wp2_with (go_at_call 21; refine (awake08 _).mono ?_; rintro e wa ⟨rfl, hba⟩)
    go_ret
    exact ⟨rfl, hba⟩
  have hl : l.length ≤ 112 := by omega
  have hE : putE l = 0 := by simp [putE, hbig]
  have hL : putL file place l = pageOf file place l := by simp [putL, hbig]
  have hpl := pageOf_length file place l hl
  have hput := fun W h => put_any W (.slice a2 l.length cap2) l file place h (by omega)
  simp only [hE, hL] at hput
  have hturn := fun at_ h1 h2 => getB_turned file place file place l at_ by_ hl h1 h2
  have Hput := Lib.hid hput
  have Hturn := Lib.hid hturn
  clear hE hL hput hturn hl
  generalize pageOf file place l = P at *
  go_enter Try.func9, Try.ntmps9
  go_wp2_with fail
  refine (many_any _ _ hlo5 hhi5).mono ?_
  rintro e W ⟨rfl, rfl⟩
  go_wp2_with fail
  refine (rmany_any _ _ hlo5 hhi5).mono ?_
  rintro e W ⟨rfl, rfl⟩
  generalize manyOf a5 = M at *
  go_wp2_with fail
  refine (Hput.out _ hby).mono ?_
  rintro e W1 ⟨v1, rfl, hown1, hb1⟩
  obtain ⟨g, cap, rfl, h1, h2, h3, h4⟩ := hown1.form (by intro e; subst e; simp at hpl)
  unfold maxLen at h2
  rw [hpl]
  rw [hpl] at hown1 h1
  have Hpl := Lib.hid hpl
  clear hpl
  by_cases hneg : a3 < 0
  · go_wp2_with (go_at_call 21; refine (awake08 _).mono ?_; rintro e wa ⟨rfl, hba⟩)
    go_ret
    exact ⟨rfl, bstep hb1 hba⟩
  obtain ⟨p, rfl⟩ := Int.eq_ofNat_of_zero_le (by omega : 0 ≤ a3)
  by_cases hp : 128 ≤ (p : Int)
  · go_wp2_with (go_at_call 21; refine (awake08 _).mono ?_; rintro e wa ⟨rfl, hba⟩)
    go_ret
    exact ⟨rfl, bstep hb1 hba⟩
  by_cases hz : by_ = 0
  · subst hz
    have hz2 : (((0 : UInt8).toNat : Int) == 0) = true := rfl
    go_wp2_with (go_at_call 21; refine (awake08 _).mono ?_; rintro e wa ⟨rfl, hba⟩)
    go_ret
    exact ⟨rfl, bstep hb1 hba⟩
  have hz2 : ((by_.toNat : Int) == 0) = false := by
    simp; intro h; apply hz; exact UInt8.toNat_inj.1 h
  have hp1 : p < 128 := by omega
  have hB := Hturn.out p hp1 hz
  obtain ⟨b, hb⟩ : ∃ b, P[p]? = some b := ⟨_, List.getElem?_eq_getElem (by rw [Hpl.out]; exact hp1)⟩
  have hgd : P.getD p 0 = b := by simp [List.getD_eq_getElem?_getD, hb]
  rw [hgd] at hB
  have hcell := hown1.cell_ Hpl.out.symm p b hb
  have hfr := hown1.frozenAt Hpl.out.symm p
  have hst := hown1.put_ Hpl.out.symm p (b ^^^ by_)
  have hxor := xor_u8 b by_
  have HB := Lib.hid hB
  clear hgd hb hB hown1
  generalize b ^^^ by_ = b' at *
  have hlen2 : (P.set p b').length = 128 := by rw [List.length_set]; exact Hpl.out
  have Hlen2 := Lib.hid hlen2
  have Hst := Lib.hid hst
  clear hlen2 hst
  go_wp2_with fail
  have hgE : getE (P.set p b') file place = 5 := by unfold getE; rw [HB.out, Hlen2.out]; rfl
  have hgL : getL (P.set p b') file place = [] := by unfold getL; rw [HB.out]; rfl
  refine (get_any _ _ (P.set p b') file place Hst.out.by_ (by rw [Hlen2.out]; omega)).mono ?_
  rw [hgE, hgL]
  rintro e W2 ⟨v2, rfl, hown2, hb2⟩
  obtain ⟨A2, c2, rfl, _⟩ := hown2.by_
  clear hgE hgL hcell hfr
  have hb02 : Below w.heap.size w W2 := (hb1.setCell h3 _).trans (hb2.mono (by have := hb1.size; simp; omega))
  go_wp2_with (go_at_call 21; refine (awake08 _).mono ?_; rintro e wa ⟨rfl, hba⟩)
  go_ret
  exact ⟨rfl, bstep hb02 hba⟩

/-! ### THE ROW's STEP: WRITTEN OUT: LEAVE IT -/
set_option maxRecDepth 100000 in
theorem lifted (os : Os) (started : os.Started) (H : Type) (enc : TypeId × Value → H) :
    ReturnsInHanded {} Try.checked os 9 .any (Rows.pageTurnedSpec.pre6 enc Try.prog Try.f9 Rows.pageTurnedRow.domain false) (Rows.pageTurnedSpec.post enc Try.prog Try.f9 false true false false) := by
  refine returnsInHanded_of_change (C := Try.checked) own started (by kernel_rfl) Try.func9
    (ChangeSpec.witness6 (enc := enc) (C := Try.checked) false ⟨#[], #[.int .u32 0, .int .u32 0, .slice none 0 0, .int .i64 0, .int .u8 0, .int .i64 0], []⟩ 8 (by kernel_rfl) (by kernel_rfl) (by kernel_rfl) (by kernel_rfl)) ?_
  intro W base args ds gs before hval0 hW hcnd _
  have hval : ∀ (j : Nat) t v, Try.f9.params[j]? = some t → args[j]? = some v → Value.okWide Try.prog W .any base t v := hval0
  have hW' := hW
  obtain ⟨p, q, hA0, hV, rfl, hfz, hnd⟩ := hW
  have hA : DataW.TrodAll enc Try.prog W 0 (fun _ => true) true Try.f9.params.toList args.toList ds p := hA0
  rw [Try.params9] at hA hval
  obtain ⟨v0, vs0, d0, ds0, p0, q0, hargs, rfl, rfl, h0, r0⟩ := trodAll_cons hA
  obtain ⟨v1, vs1, d1, ds1, p1, q1, rfl, rfl, rfl, h1, r1⟩ := trodAll_cons r0
  obtain ⟨v2, vs2, d2, ds2, p2, q2, rfl, rfl, rfl, h2, r2⟩ := trodAll_cons r1
  obtain ⟨v3, vs3, d3, ds3, p3, q3, rfl, rfl, rfl, h3, r3⟩ := trodAll_cons r2
  obtain ⟨v4, vs4, d4, ds4, p4, q4, rfl, rfl, rfl, h4, r4⟩ := trodAll_cons r3
  obtain ⟨v5, vs5, d5, ds5, p5, q5, rfl, rfl, rfl, h5, r5⟩ := trodAll_cons r4
  obtain ⟨rfl, rfl, rfl⟩ := trodAll_nil r5
  obtain rfl : args = #[v0, v1, v2, v3, v4, v5] := by cases args; simp_all
  obtain ⟨rfl, rfl⟩ := trodVars_none hV
  obtain ⟨a0, rfl, rfl, rfl, w0⟩ := open_int Try.underlying24 (hval 0 24 v0 rfl rfl) h0
  obtain ⟨a1, rfl, rfl, rfl, w1⟩ := open_int Try.underlying24 (hval 1 24 v1 rfl rfl) h1
  obtain ⟨a2, len2, cap2, rfl⟩ := okWide_slice Try.underlying22 (hval 2 22 v2 rfl rfl)
  have k2 := h2
  have lt2 : ∀ x ∈ p2, x.block < W.heap.size := by obtain ⟨m, hm⟩ := k2; exact DataW.trod_lt m _ _ _ hm
  obtain ⟨z2, w2⟩ : ∃ zs, IsRow .u8 W a2 len2 cap2 zs := by
    obtain ⟨fuel, hf⟩ := h2
    rcases open_ints Try.underlying22 Try.underlying5 (by kernel_rfl) hf with ⟨hcs, _⟩ | ⟨x, l, c, zs, hcs, _, hl, hm, hz, _, hcell, hwz⟩
    · simp [Value.cells] at hcs
      obtain ⟨rfl, rfl, rfl⟩ := hcs
      exact ⟨[], .inl ⟨rfl, rfl, rfl, rfl⟩⟩
    · simp [Value.cells] at hcs
      obtain ⟨rfl, rfl, rfl⟩ := hcs
      exact ⟨zs, .inr ⟨_, rfl, hl, hm, by simpa using hz, hcell, hwz⟩⟩
  obtain ⟨a3, rfl, rfl, rfl, w3⟩ := open_int Try.underlying3 (hval 3 3 v3 rfl rfl) h3
  obtain ⟨a4, rfl, rfl, rfl, w4⟩ := open_int Try.underlying5 (hval 4 5 v4 rfl rfl) h4
  obtain ⟨a5, rfl, rfl, rfl, w5⟩ := open_int Try.underlying3 (hval 5 3 v5 rfl rfl) h5
  clear hA0 hval0
  refine (walk a0 a1 a2 len2 cap2 z2 a3 a4 a5 W w0 w1 w2 w3 w4 w5).mono fun e W' ⟨he, bel⟩ => ?_
  subst he
  exact ⟨_, rfl, _, _, _, [], _, [], hW', trodAll_mk1 (shut_bool Try.underlying4 _), (trodAll_cons_mk (shut_int Try.underlying24 w0) (trodAll_cons_mk (shut_int Try.underlying24 w1) (trodAll_cons_mk (Below.trod laidOut (by kernel_rfl) (of_decide_eq_true (by kernel_rfl)) k2 bel lt2) (trodAll_cons_mk (shut_int Try.underlying3 w3) (trodAll_cons_mk (shut_int Try.underlying5 w4) (trodAll_cons_mk (shut_int Try.underlying3 w5) trodAll_mk0)))))), rfl, bel.frame _, fun h => by cases h⟩

theorem over : Rows.pageTurnedRow.holds Try.pinned (OpenSpec.ofChange Rows.pageTurnedSpec) :=
  OpenClaim.holds_of_wide 9 Try.f9 rfl rfl rfl rfl rfl rfl rfl ⟨rfl, rfl, rfl, rfl, rfl⟩ rfl rfl rfl rfl rfl (by kernel_rfl) Try.func9 (by kernel_rfl)
    (of_decide_eq_true (by kernel_rfl)) (by unfold Func.isWrapper; first | (rw [if_pos (by decide +kernel)]; kernel_rfl) | (rw [if_neg (by decide +kernel)]; exact ⟨rfl, rfl⟩))
    (fun os started H enc _ => lifted os started H enc)

/-- ████ THE STATEMENT ████ -/
theorem proved : Rows.PageTurnedSaid := over
#print axioms proved
end Go.Proofs.Ytneihfmacljjbaa.pageTurned
