/- palmerlaw06.filled, awake -/
import Derived.Test.YtpoicbhbkabllaaDK
import Derived.Test.YtpoicbhbkabllaaDiskRel
namespace Go.Proofs.Ytpoicbhbkabllaa
set_option linter.unusedSimpArgs false
set_option linter.unusedVariables false
open Go.RowKit

def fillL (c : UInt8) (n : Nat) : List UInt8 := (List.range n).map fun i => c + (if i < 64 then 0 else 1)
theorem fillL_len (c : UInt8) (n : Nat) : (fillL c n).length = n := by simp [fillL]
theorem fillL_succ (c : UInt8) (n : Nat) : fillL c (n + 1) = fillL c n ++ [c + (if n < 64 then 0 else 1)] := by simp [fillL, List.range_succ]
def filledL (c : UInt8) (short : Bool) : List UInt8 := if short = true then (fillL c 128).take 127 else fillL c 128
theorem add_u8 (a b : UInt8) : IntKind.u8.wrap ((a.toNat : Int) + (b.toNat : Int)) = ((a + b).toNat : Int) := by
  rw [IntKind.wrap_u8', UInt8.toNat_add]; omega

set_option maxRecDepth 100000 in
set_option maxHeartbeats 1600000 in
theorem filled_any (w : World) (c : UInt8) (short : Bool) :
    Calls Try.prog 17 #[.int .u8 (c.toNat : Int), .bool short] w fun e w' => ∃ v, e = .returned v ∧ Fresh w.heap.size w' v (filledL c short) ∧ Below w.heap.size w w' := by
  have hwz := Ow.new_ w [] (Nat.zero_le _)
  have Hwz := Lib.hid hwz
  clear hwz
  go_enter Try.func17, Try.ntmps17
  go_wp2_with fail
  go_loopw [5, 6] (fun v i wr => ∃ k : Nat, k ≤ 128 ∧ i = .int .i64 k ∧ Ow wr w.heap.size v (fillL c k) ∧ Below w.heap.size w wr) (fun _ i _ => 128 - (intOf i).toNat)
  case atStart => exact ⟨0, by omega, rfl, Hwz.out, balloc w _⟩
  case round =>
    obtain ⟨k, hk, rfl, hown, hbl⟩ := hrel
    have hsu := fillL_succ c k
    have hln := fillL_len c k
    have Hbl := Lib.hid hbl
    have Hown := Lib.hid hown
    have hwr := hbl.size
    by_cases hlt : k < 128
    · by_cases h64 : k < 64
      · have hq : (k : Int) / 64 = 0 := by omega
        have hz : IntKind.u8.wrap (0 : Int) = 0 := by decide
        have hcc : IntKind.u8.wrap (c.toNat : Int) = (c.toNat : Int) := wrap_u8_u8 c
        rw [if_pos h64, UInt8.add_zero] at hsu
        have Hsu := Lib.hid hsu
        have Hln := Lib.hid hln
        clear hsu hln hown hbl h64
        go_wp2_with (at_builtin; refine wpList_app1 rfl (.tmp 12) (.tmp 18) rfl (b := c) Hown.out rfl rfl rfl (by rw [Hln.out]; omega) hwr ?_; intro v1 w1 hown1 hext1)
        rw [← Hsu.out] at hown1
        have Hown1 := Lib.hid hown1
        have Hbl1 := Lib.hid (Hbl.out.trans (hext1.below hwr (fun q hq => (World.ownsRow.lt Hown.out q hq).1)))
        clear hown1 hext1
        go_wp2_with fail
        go_roundw
        case rel => exact ⟨k + 1, by omega, by go_num, Hown1.out, Hbl1.out⟩
        case measure => simp [intOf]; omega
      · have hq : (k : Int) / 64 = 1 := by omega
        have hz : IntKind.u8.wrap (1 : Int) = 1 := by decide
        have hcc : IntKind.u8.wrap ((c.toNat : Int) + 1) = ((c + 1).toNat : Int) := add_u8 c 1
        rw [if_neg h64] at hsu
        have Hsu := Lib.hid hsu
        have Hln := Lib.hid hln
        clear hsu hln hown hbl h64
        generalize c + 1 = c1 at *
        go_wp2_with (at_builtin; refine wpList_app1 rfl (.tmp 12) (.tmp 18) rfl (b := c1) Hown.out rfl rfl rfl (by rw [Hln.out]; omega) hwr ?_; intro v1 w1 hown1 hext1)
        rw [← Hsu.out] at hown1
        have Hown1 := Lib.hid hown1
        have Hbl1 := Lib.hid (Hbl.out.trans (hext1.below hwr (fun q hq => (World.ownsRow.lt Hown.out q hq).1)))
        clear hown1 hext1
        go_wp2_with fail
        go_roundw
        case rel => exact ⟨k + 1, by omega, by go_num, Hown1.out, Hbl1.out⟩
        case measure => simp [intOf]; omega
    · obtain rfl : k = 128 := by omega
      obtain ⟨A, cp, rfl, hc1, hc2, hA⟩ := hown.form_
      obtain ⟨g, rfl, hg1, hg2⟩ := hA (by rw [hln]; decide)
      rw [hln] at *
      unfold maxLen at hc2
      have hf1 := hown.fresh
      have hf2 := hf1.front (k := 127) (by rw [fillL_len]; decide) (by decide)
      have Hf1 := Lib.hid hf1
      have Hf2 := Lib.hid hf2
      clear hsu hln hown hbl Hown hA hf1 hf2
      cases short with
      | true =>
        have hle : (127 : Int) ≤ (cp : Int) := by omega
        have hle2 : 127 ≤ cp := by omega
        go_wp2_with fail
        go_ret
        refine ⟨_, rfl, ?_, Hbl.out⟩
        exact Hf2.out
      | false =>
        go_wp2_with fail
        go_ret
        refine ⟨_, rfl, ?_, Hbl.out⟩
        exact Hf1.out

end Go.Proofs.Ytpoicbhbkabllaa
