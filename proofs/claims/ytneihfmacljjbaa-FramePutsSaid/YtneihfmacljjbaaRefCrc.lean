/- The document's check (package palmerref02): Sum, Four, Mark and Fits are the plain functions that the code's are. The rows are readable slices of at most 2^40 bytes. -/
import Derived.Test.YtneihfmacljjbaaCrcFits
import Derived.Test.YtneihfmacljjbaaTyped
namespace Go.Proofs.Ytneihfmacljjbaa
set_option linter.unusedSimpArgs false
set_option linter.unusedVariables false
open Go.RowKit

theorem stp_even' (x : UInt32) (h : ¬ (x.toNat : Int) % 2 = 1) : ((x.toNat : Int) / 2) = ((stp x).toNat : Int) := by
  have h2 : x.toNat % 2 = 0 := by omega
  rw [stp_even x h2]
  simp [UInt32.toNat_shiftRight, Nat.shiftRight_eq_div_pow]
theorem stp_odd' (x : UInt32) (h : (x.toNat : Int) % 2 = 1) : bits BinOp.xor IntKind.u32 ((x.toNat : Int) / 2) 3988292384 = ((stp x).toNat : Int) := by
  have := stp_walk x
  rw [h] at this
  simpa using this
theorem updB_run (x : UInt32) (l : List UInt8) : l.foldl updB x = run x l := by
  unfold run
  induction l generalizing x with
  | nil => rfl
  | cons c l ih => rw [List.foldl_cons, List.foldl_cons, ih, upd_bits]

set_option maxRecDepth 100000 in
set_option maxHeartbeats 800000 in
theorem rsum_any (w : World) (B : Nat) (v : Value) (l : List UInt8) (hby : By w B v l) :
    Calls Try.prog 15 #[v] w fun e w' => e = .returned (.int .u32 ((crcOf l).toNat : Int)) ∧ Below w.heap.size w w' := by
  obtain ⟨A, c, rfl, hc1, hc2, hrd⟩ := hby
  unfold maxLen at hc2
  go_enter Try.func15, Try.ntmps15
  go_wp2
  go_loop [3, 8] (fun x i => ∃ k : Nat, k ≤ l.length ∧ i = .int .i64 k ∧ x = .int .u32 ((run 4294967295 (l.take k)).toNat : Int)) (fun _ i => l.length - (intOf i).toNat)
  case atStart => exact ⟨0, by omega, rfl, rfl⟩
  case round =>
    obtain ⟨k, hk, rfl, rfl⟩ := hrel
    by_cases hlt : k < l.length
    · obtain ⟨ad, rfl, _, hcs⟩ := hrd.ad (by omega)
      have hcell := hcs k _ (b8s_get l k hlt)
      have hst : run 4294967295 (l.take (k + 1)) = stps 8 (run 4294967295 (l.take k) ^^^ (l[k]).toUInt32) := by
        rw [List.take_succ_eq_append_getElem hlt, run_snoc, upd_bits]; rfl
      have Hst := Lib.hid hst
      clear hcs hst
      generalize l[k] = b at *
      generalize run 4294967295 (l.take k) = x at *
      have hx : bits BinOp.xor IntKind.u32 (x.toNat : Int) (b.toNat : Int) = ((x ^^^ b.toUInt32).toNat : Int) := by
        rw [← xor_u32, ← wrap_u32_u8, IntKind.wrap_u32']
        have := u8_lt b
        congr 1; omega
      have hb := u8_lt b
      generalize x ^^^ b.toUInt32 = y at *
      go_wp2
      go_loop [3, 5] (fun x i => ∃ j : Nat, j ≤ 8 ∧ i = .int .i64 j ∧ x = .int .u32 ((stps j y).toNat : Int)) (fun _ i => 8 - (intOf i).toNat)
      case atStart => exact ⟨0, by omega, rfl, rfl⟩
      case round =>
        obtain ⟨j, hj, rfl, rfl⟩ := hrel
        by_cases hlt2 : j < 8
        · have hss := stps_succ j y
          have Hss := Lib.hid hss
          clear hss
          generalize stps j y = z at *
          have hzl := u32_lt z
          by_cases hodd : (z.toNat : Int) % 2 = 1
          · have h1 := stp_odd' z hodd
            have h2 : ((z.toNat : Int) % 2 == 1) = true := by simpa using hodd
            clear hodd
            go_wp2
            go_round
            case rel => exact ⟨j + 1, by omega, by go_num, by rw [Hss.out, ← h1]⟩
            case measure => simp [intOf]; omega
          · have h1 := stp_even' z hodd
            have h2 : ((z.toNat : Int) % 2 == 1) = false := by simpa using hodd
            clear hodd
            go_wp2
            go_round
            case rel => exact ⟨j + 1, by omega, by go_num, by rw [Hss.out, ← h1]⟩
            case measure => simp [intOf]; omega
        · obtain rfl : j = 8 := by omega
          go_wp2
          go_round
          case rel => exact ⟨k + 1, by omega, by go_num, by rw [Hst.out]⟩
          case measure => simp [intOf]; omega
    · obtain rfl : k = l.length := by omega
      have hfin : bits BinOp.xor IntKind.u32 ((run 4294967295 l).toNat : Int) 4294967295 = ((crcOf l).toNat : Int) := by
        have := xor_u32 (run 4294967295 l) 4294967295
        rw [show ((4294967295 : UInt32).toNat : Int) = 4294967295 from rfl] at this
        rw [this]
        show ((run 4294967295 l ^^^ (-1)).toNat : Int) = _
        rw [UInt32.xor_neg_one]; rfl
      rw [List.take_length]
      go_wp2
      go_ret
      refine ⟨?_, Below.refl _ _⟩
      rfl

set_option maxHeartbeats 400000 in
theorem rfour_any (w : World) (x : UInt32) :
    Calls Try.prog 32 #[.int .u32 (x.toNat : Int)] w fun e w' => ∃ v, e = .returned v ∧ Ow w' w.heap.size v (four x) ∧ Below w.heap.size w w' := by
  have h0 := fourAt0 x
  have h1 := fourAt1 x
  have h2 := fourAt2 x
  have h3 : (x.toNat : Int) / 16777216 = ((fourAt x 3).toNat : Int) := by
    rw [← fourAt3 x]; have := u32_lt x; omega
  have hn := Ow.new_ w (four x) (by simp [four_length, maxLen])
  have hb := balloc w (.cells (b8s (four x)).toArray 5)
  have hx := u32_lt x
  have g0 := u8_lt (fourAt x 0)
  have g1 := u8_lt (fourAt x 1)
  have g2 := u8_lt (fourAt x 2)
  have g3 := u8_lt (fourAt x 3)
  have hv : (b8s (four x)).toArray = #[.int .u8 ((fourAt x 0).toNat : Int), .int .u8 ((fourAt x 1).toNat : Int), .int .u8 ((fourAt x 2).toNat : Int), .int .u8 ((fourAt x 3).toNat : Int)] := rfl
  rw [hv] at hn hb
  clear hv
  generalize fourAt x 0 = b0 at *
  generalize fourAt x 1 = b1 at *
  generalize fourAt x 2 = b2 at *
  generalize fourAt x 3 = b3 at *
  go_enter Try.func32, Try.ntmps32
  go_wp2
  go_ret
  exact ⟨_, rfl, hn, hb⟩

set_option maxHeartbeats 400000 in
theorem rmark_any (w : World) (v : Value) (l : List UInt8) (hby : By w w.heap.size v l) (hsz : l.length ≤ 1099511627776) :
    Calls Try.prog 20 #[v] w fun e w' => ∃ v', e = .returned v' ∧ Ow w' w.heap.size v' (markOf l) ∧ Below w.heap.size w w' := by
  have hby0 := hby
  obtain ⟨A, c, rfl, hc1, hc2, hrd⟩ := hby
  go_enter Try.func20, Try.ntmps20
  go_wp2_with (first
    | (at_builtin
       refine wpList_app8 rfl (.tmp 4) (.tmp 5) rfl (Ow.new_ w [] (Nat.zero_le _)) (hby0.alloc (Nat.le_refl _) _) rfl rfl (by simp; omega) (by simp) ?_
       intro v1 w1 hown1 hext1
       have hb1 := (balloc w _).trans (hext1.below (by simp) (by simp [Value.ownBlock])))
    | (go_at_call 15; refine (rsum_any _ _ _ l (hby0.below hb1)).mono ?_; rintro e w2 ⟨rfl, hb2⟩)
    | (go_at_call 32; refine (rfour_any _ _).mono ?_; rintro e w3 ⟨v3, rfl, hown3, hb3⟩)
    | (at_builtin
       refine wpList_app8 rfl (.tmp 7) (.tmp 10) rfl ((hown1.below_ hb2).below_ hb3) hown3.by_ rfl rfl (by simp [four_length]; omega) (bstep hb1 (bstep hb2 hb3)).size ?_
       intro v4 w4 hown4 hext4))
  go_ret
  exact ⟨_, rfl, hown4, (bstep hb1 (bstep hb2 hb3)).trans (hext4.below (bstep hb1 (bstep hb2 hb3)).size fun k hk => (hown1.blk k hk).1)⟩
end Go.Proofs.Ytneihfmacljjbaa
