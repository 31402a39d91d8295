/- The law 'CrcBursts' returns true for every input, and each argument reads behind the call as it read before. No condition. (The frame was written by the kit's program; the walk is mine.) -/
import Derived.Test.YtneihfmacljjbaaRows
import Derived.Test.YtneihfmacljjbaaLaw02
import Derived.Test.YtneihfmacljjbaaCrcErr
import Derived.WalkKit
import Derived.ProofKit
import Derived.OpenShut
import Derived.ShutString
import Derived.ChangeOld
import Derived.Below
namespace Go.Proofs.Ytneihfmacljjbaa.crcBursts
open Go.Proofs.Ytneihfmacljjbaa
open Go.ChangeShapes Go.WideShapes Go.ChangeAt Go.RowKit
open Go.ChangeMaps (open_string shut_string)
set_option linter.unusedVariables false

theorem own : ownKnob Try.prog.godebug = none := by kernel_rfl
theorem laidOut : laidOutB Try.prog = true := by kernel_rfl

/-- WHAT THE WALK IS TOLD OF A SLICE OF INTEGERS THAT CAME IN: it is nil; or it leads to a row of 'cap' cells, the numbers 'zs' (the first 'len' are its elements, the rest its spare room), each fitting its kind. -/
def IsRow (k : IntKind) (w : World) (a : Option Addr) (len cap : Nat) (zs : List Int) : Prop :=
  (a = none ∧ len = 0 ∧ cap = 0 ∧ zs = []) ∨
  ∃ x, a = some x ∧ len ≤ cap ∧ cap ≤ maxLen ∧ zs.length = cap ∧ (∀ i, i < zs.length → w.cell? (x.add i) = some (.int k (zs.getD i 0))) ∧ ∀ n ∈ zs, (Lit.int k n).wf = true

/-! ### STEP 1: THE WALK: the Go text returns true, AND WRITES NOTHING THAT WAS THERE: 'Below w.heap.size w w'' (Derived/Below.lean: '.refl', '.alloc', '.drew', '.setCell' at a new block, '.trans'). Open each 'IsRow' by 'rcases' AHEAD of 'go_enter'; part every test ahead of the walk. -/
set_option maxRecDepth 100000 in
set_option maxHeartbeats 2000000 in
theorem walk (a0 : Option Addr) (len0 cap0 : Nat) (z0 : List Int) (a1 : Int) (a2 : Int) (w : World) (w0 : IsRow .u8 w a0 len0 cap0 z0) (w1 : (Lit.int .i64 a1).wf = true) (w2 : (Lit.int .u32 a2).wf = true) :
    Calls Try.prog 5 #[.slice a0 len0 cap0, .int .i64 a1, .int .u32 a2] w fun e w' => e = .returned (.bool true) ∧ Below w.heap.size w w' := by
  obtain ⟨l, hl, hby⟩ := by_of_row w0
  subst hl
  obtain ⟨hlo, hhi⟩ := i64_of_wf w1
  obtain ⟨x, rfl⟩ := u32_of_wf w2
  clear w0 w1 w2
  have ⟨_, _, hcm⟩ := hby.len_
  unfold maxLen at hcm
  by_cases hbig : 1000 < l.length
  · go_enter Try.func5, Try.ntmps5
    go_wp2_with (go_at_call 14; refine (awake02 _).mono ?_; rintro e wa ⟨rfl, hba⟩)
    go_ret
    exact ⟨rfl, hba⟩
  by_cases hx : x = 0
  · subst hx
    have hx2 : (((0 : UInt32).toNat : Int) == 0) = true := rfl
    go_enter Try.func5, Try.ntmps5
    go_wp2_with (go_at_call 14; refine (awake02 _).mono ?_; rintro e wa ⟨rfl, hba⟩)
    go_ret
    exact ⟨rfl, hba⟩
  have hx2 : ((x.toNat : Int) == 0) = false := by
    simp; intro h; apply hx; exact UInt32.toNat_inj.1 h
  go_enter Try.func5, Try.ntmps5
  go_wp2_with fail
  refine (mark_any _ _ l hby (by omega)).mono ?_
  rintro e W ⟨v1, rfl, hown1, hb1⟩
  obtain ⟨g, cap, rfl, h1, h2, h3, h4⟩ := hown1.form (by simp [markOf, four])
  unfold maxLen at h2
  have hfind := fun p hp => burst_found l x p hx hp
  have Hfind := Lib.hid hfind
  have hml := markOf_length l
  have Hml := Lib.hid hml
  rw [hml] at hown1 h1 ⊢
  clear hml hfind
  generalize markOf l = m at *
  by_cases hneg : a1 < 0
  · go_wp2_with (go_at_call 14; refine (awake02 _).mono ?_; rintro e wa ⟨rfl, hba⟩)
    go_ret
    exact ⟨rfl, bstep hb1 hba⟩
  obtain ⟨p, rfl⟩ := Int.eq_ofNat_of_zero_le (by omega : 0 ≤ a1)
  by_cases hat2 : (p : Int) > 8 * (l.length + 4) - 32
  · go_wp2_with (go_at_call 14; refine (awake02 _).mono ?_; rintro e wa ⟨rfl, hba⟩)
    go_ret
    exact ⟨rfl, bstep hb1 hba⟩
  · go_wp2_with fail
    go_loopw [8] (fun i wr => ∃ k : Nat, k ≤ 32 ∧ i = .int .i64 k ∧ Ow wr w.heap.size (.slice (some ⟨g, 0, none⟩) (l.length + 4) cap) (burst x p k m) ∧ Below w.heap.size w wr) (fun i _ => 32 - (intOf i).toNat)
    case atStart => exact ⟨0, by omega, rfl, hown1, hb1⟩
    case round =>
      obtain ⟨k, hk, rfl, hown, hb⟩ := hrel
      have hbl := burst_length x p k m
      rw [Hml.out] at hbl
      by_cases hlt : k < 32
      · obtain ⟨q, hq⟩ : ∃ q : Nat, q = p + k := ⟨_, rfl⟩
        have hk2 : (p : Int) + (k : Int) = (q : Int) := by omega
        have hqs : q / 8 < l.length + 4 := by omega
        have hqs2 : (q : Int) / 8 < (l.length : Int) + 4 := by omega
        have hi : q / 8 < (burst x p k m).length := by rw [hbl]; exact hqs
        have hcell := hown.cellAt hbl.symm (q / 8) hi
        have hfr := hown.frozenAt hbl.symm (q / 8)
        have hst := fun b => hown.put_ hbl.symm (q / 8) b
        have Hst := Lib.hid hst
        have hs : burst x p (k + 1) m = if x.toNat / 2 ^ k % 2 = 1 then (burst x p k m).set (q / 8) ((burst x p k m)[q / 8] ^^^ bit8 q) else burst x p k m := by
          show (if x.toNat / 2 ^ k % 2 = 1 then flip (burst x p k m) (p + k) else burst x p k m) = _
          rw [← hq]
          unfold flip
          simp [hi]
        have Hs := Lib.hid hs
        have hbit8 : bits BinOp.xor IntKind.u8 (((burst x p k m)[q / 8]).toNat : Int) (2 ^ (q % 8) % 256) = (((burst x p k m)[q / 8] ^^^ bit8 q).toNat : Int) := by
          have h8 : (2 ^ (q % 8) % 256 : Int) = ((bit8 q).toNat : Int) := by
            unfold bit8
            rw [UInt8.toNat_ofNat']
            simp
          rw [h8, xor_u8]
        have Hown := Lib.hid hown
        have Hbl := Lib.hid hbl
        have Hq := Lib.hid hq
        clear hs hst hown hbl hq
        generalize (burst x p k m)[q / 8] = b at *
        generalize b ^^^ bit8 q = b' at *
        by_cases hbit : (((x.toNat : Int) / 2 ^ k).tmod 2 == 1) = true
        · have hbn : x.toNat / 2 ^ k % 2 = 1 := by
            have h0 : (0 : Int) ≤ (x.toNat : Int) / 2 ^ k := Int.ediv_nonneg (by omega) (Int.le_of_lt (Int.pow_pos (by decide)))
            rw [Int.tmod_eq_emod_of_nonneg h0] at hbit
            have h5 : ((x.toNat : Int) / 2 ^ k) = ((x.toNat / 2 ^ k : Nat) : Int) := by simp
            rw [h5] at hbit
            simp at hbit
            omega
          have Hbn := Lib.hid hbn
          clear hbn
          go_wp2_with fail
          go_region
          go_wp2_with fail
          refine ⟨⟨k + 1, by omega, by go_num, ?_, (hb.setCell h3 _).drew⟩, by simp [intOf]; omega⟩
          rw [Hs.out, if_pos Hbn.out]
          exact Hst.out b'
        · simp only [Bool.not_eq_true] at hbit
          have hbn : ¬ x.toNat / 2 ^ k % 2 = 1 := by
            intro h6
            have h0 : (0 : Int) ≤ (x.toNat : Int) / 2 ^ k := Int.ediv_nonneg (by omega) (Int.le_of_lt (Int.pow_pos (by decide)))
            rw [Int.tmod_eq_emod_of_nonneg h0] at hbit
            have h5 : ((x.toNat : Int) / 2 ^ k) = ((x.toNat / 2 ^ k : Nat) : Int) := by simp
            rw [h5] at hbit
            simp at hbit
            omega
          have Hbn := Lib.hid hbn
          clear hbn
          go_wp2_with fail
          refine ⟨⟨k + 1, by omega, by go_num, ?_, hb⟩, by simp [intOf]; omega⟩
          rw [Hs.out, if_neg Hbn.out]
          exact Hown.out
      · obtain rfl : k = 32 := by omega
        have hnf := Hfind.out p (by rw [Hml.out]; omega)
        generalize burst x p 32 m = m2 at *
        have hE : fitsE m2 = 5 := by unfold fitsE; rw [hnf, if_neg (by omega)]; rfl
        have hL : fitsL m2 = [] := by unfold fitsL; rw [hnf]; rfl
        have Hbl := Lib.hid hbl
        clear hbl
        go_wp2_with fail
        refine (fits_any _ _ m2 hown.by_ (by rw [Hbl.out]; omega)).mono ?_
        rw [hE, hL]
        rintro e w3 ⟨v5, rfl, hown5, hb3⟩
        have hv5 : ∀ w, (Builtin.len_ #[22] 3 #[v5]).run Try.prog w = .ok (.int .i64 0) w := by
          intro w
          obtain ⟨A, c, rfl, _⟩ := hown5.by_
          simp [Builtin.len_]
          rfl
        have hb03 := bstep hb hb3
        clear hE hL hnf
        go_wp2_with (go_at_call 14; refine (awake02 _).mono ?_; rintro e wa ⟨rfl, hba⟩)
        go_ret
        exact ⟨rfl, bstep hb03 hba⟩

/-! ### THE ROW's STEP: WRITTEN OUT: LEAVE IT -/
set_option maxRecDepth 100000 in
theorem lifted (os : Os) (started : os.Started) (H : Type) (enc : TypeId × Value → H) :
    ReturnsInHanded {} Try.checked os 5 .any (Rows.crcBurstsSpec.pre6 enc Try.prog Try.f5 Rows.crcBurstsRow.domain false) (Rows.crcBurstsSpec.post enc Try.prog Try.f5 false true false false) := by
  refine returnsInHanded_of_change (C := Try.checked) own started (by kernel_rfl) Try.func5
    (ChangeSpec.witness6 (enc := enc) (C := Try.checked) false ⟨#[], #[.slice none 0 0, .int .i64 0, .int .u32 0], []⟩ 8 (by kernel_rfl) (by kernel_rfl) (by kernel_rfl) (by kernel_rfl)) ?_
  intro W base args ds gs before hval0 hW hcnd _
  have hval : ∀ (j : Nat) t v, Try.f5.params[j]? = some t → args[j]? = some v → Value.okWide Try.prog W .any base t v := hval0
  have hW' := hW
  obtain ⟨p, q, hA0, hV, rfl, hfz, hnd⟩ := hW
  have hA : DataW.TrodAll enc Try.prog W 0 (fun _ => true) true Try.f5.params.toList args.toList ds p := hA0
  rw [Try.params5] at hA hval
  obtain ⟨v0, vs0, d0, ds0, p0, q0, hargs, rfl, rfl, h0, r0⟩ := trodAll_cons hA
  obtain ⟨v1, vs1, d1, ds1, p1, q1, rfl, rfl, rfl, h1, r1⟩ := trodAll_cons r0
  obtain ⟨v2, vs2, d2, ds2, p2, q2, rfl, rfl, rfl, h2, r2⟩ := trodAll_cons r1
  obtain ⟨rfl, rfl, rfl⟩ := trodAll_nil r2
  obtain rfl : args = #[v0, v1, v2] := by cases args; simp_all
  obtain ⟨rfl, rfl⟩ := trodVars_none hV
  obtain ⟨a0, len0, cap0, rfl⟩ := okWide_slice Try.underlying22 (hval 0 22 v0 rfl rfl)
  have k0 := h0
  have lt0 : ∀ x ∈ p0, x.block < W.heap.size := by obtain ⟨m, hm⟩ := k0; exact DataW.trod_lt m _ _ _ hm
  obtain ⟨z0, w0⟩ : ∃ zs, IsRow .u8 W a0 len0 cap0 zs := by
    obtain ⟨fuel, hf⟩ := h0
    rcases open_ints Try.underlying22 Try.underlying5 (by kernel_rfl) hf with ⟨hcs, _⟩ | ⟨x, l, c, zs, hcs, _, hl, hm, hz, _, hcell, hwz⟩
    · simp [Value.cells] at hcs
      obtain ⟨rfl, rfl, rfl⟩ := hcs
      exact ⟨[], .inl ⟨rfl, rfl, rfl, rfl⟩⟩
    · simp [Value.cells] at hcs
      obtain ⟨rfl, rfl, rfl⟩ := hcs
      exact ⟨zs, .inr ⟨_, rfl, hl, hm, by simpa using hz, hcell, hwz⟩⟩
  obtain ⟨a1, rfl, rfl, rfl, w1⟩ := open_int Try.underlying3 (hval 1 3 v1 rfl rfl) h1
  obtain ⟨a2, rfl, rfl, rfl, w2⟩ := open_int Try.underlying24 (hval 2 24 v2 rfl rfl) h2
  clear hA0 hval0
  refine (walk a0 len0 cap0 z0 a1 a2 W w0 w1 w2).mono fun e W' ⟨he, bel⟩ => ?_
  subst he
  exact ⟨_, rfl, _, _, _, [], _, [], hW', trodAll_mk1 (shut_bool Try.underlying4 _), (trodAll_cons_mk (Below.trod laidOut (by kernel_rfl) (of_decide_eq_true (by kernel_rfl)) k0 bel lt0) (trodAll_cons_mk (shut_int Try.underlying3 w1) (trodAll_cons_mk (shut_int Try.underlying24 w2) trodAll_mk0))), rfl, bel.frame _, fun h => by cases h⟩

theorem over : Rows.crcBurstsRow.holds Try.pinned (OpenSpec.ofChange Rows.crcBurstsSpec) :=
  OpenClaim.holds_of_wide 5 Try.f5 rfl rfl rfl rfl rfl rfl rfl ⟨rfl, rfl, rfl, rfl, rfl⟩ rfl rfl rfl rfl rfl (by kernel_rfl) Try.func5 (by kernel_rfl)
    (of_decide_eq_true (by kernel_rfl)) (by unfold Func.isWrapper; first | (rw [if_pos (by decide +kernel)]; kernel_rfl) | (rw [if_neg (by decide +kernel)]; exact ⟨rfl, rfl⟩))
    (fun os started H enc _ => lifted os started H enc)

/-- ████ THE STATEMENT ████ -/
theorem proved : Rows.CrcBurstsSaid := over
#print axioms proved
end Go.Proofs.Ytneihfmacljjbaa.crcBursts
