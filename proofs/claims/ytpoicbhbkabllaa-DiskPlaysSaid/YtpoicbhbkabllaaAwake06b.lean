/- palmerlaw06.awake -/
import Derived.Test.YtpoicbhbkabllaaAwake06
import Derived.Laws.MakeOwn
namespace Go.Proofs.Ytpoicbhbkabllaa
set_option linter.unusedSimpArgs false
set_option linter.unusedVariables false
open Go.RowKit

def awB (x y : UInt8) : List UInt8 := ((List.replicate 128 (0 : UInt8)).set 0 x).set 100 y
def aw1 : DState := writeD (newD 2) 1 (awB 5 6)
def aw2 : DState := syncD aw1
def aw3 : DState := writeD aw2 1 (awB 7 6)
def aw4 : DState := backD aw3 0 0
theorem awE1 : writeE (newD 2) 1 (awB 5 6) = 0 := by decide +kernel
theorem awE2 : syncE aw1 = 0 := by decide +kernel
theorem awE3 : writeE aw2 1 (awB 7 6) = 0 := by decide +kernel
theorem awE4 : mayE aw4 1 = 0 := by decide +kernel
theorem awL4 : readL aw4 1 = awB 5 6 := by decide +kernel
theorem awW0 : (newD 2).wt.length ≤ 1000000 := by decide +kernel
theorem awW1 : aw1.wt.length ≤ 1000000 := by decide +kernel
theorem awW2 : aw2.wt.length ≤ 1000000 := by decide +kernel
theorem awW3 : aw3.wt.length ≤ 1000000 := by decide +kernel
theorem awW4 : aw4.wt.length ≤ 1000000 := by decide +kernel

set_option maxRecDepth 100000 in
set_option maxHeartbeats 3200000 in
theorem awake06_any (w : World) : Calls Try.prog 12 #[] w fun e w' => e = .returned (.bool true) ∧ Below w.heap.size w w' := by
  have hmk : ∀ w : World, (Instr.makeSlice 30 (.int .i64 128) (.int .i64 128)).run Try.prog w = .ok (.slice (some ⟨w.heap.size, 0, none⟩) 128 128) (w.alloc (.cells (b8s (List.replicate 128 0)).toArray 5)) := fun _ => by kernel_rfl
  have Hmk := Lib.hid hmk
  clear hmk
  go_enter Try.func12, Try.ntmps12
  go_wp2_with fail
  refine (dnew_dk _ 2 (by decide) (by decide)).mono ?_
  rintro _ w1 ⟨g, rfl, hd1, hb1⟩
  have hmk := Hmk.out
  have hbx := BoxAt.new_ 5 w1 (b8s (List.replicate 128 0))
  have hc0 := hbx.cell 0 (.int .u8 0) rfl
  have hby := BoxAt.new_ 5 w1 ((b8s (List.replicate 128 0)).set 0 (.int .u8 5))
  have hc100 := hby.cell 100 (.int .u8 0) rfl
  have hf0 := hbx.frozen 0
  have hf100 := hby.frozen 100
  have hbx2 : BoxAt 5 (w1.alloc (.cells (((b8s (List.replicate 128 0)).set 0 (.int .u8 5)).set 100 (.int .u8 6)).toArray 5)) w1.heap.size (b8s (awB 5 6)) := BoxAt.new_ 5 w1 (b8s (awB 5 6))
  have Hbx2 := Lib.hid hbx2
  clear hbx hbx2 hby
  generalize hL : List.replicate 128 (0 : UInt8) = L at *
  have HL := Lib.hid hL
  clear hL
  have hz1 := hb1.size
  have hd2 := (hd1.apart (X' := fun k => k = w1.heap.size) (fun k hk => .inr (by omega))).below_ (balloc w1 (.cells (((b8s L).set 0 (.int .u8 5)).set 100 (.int .u8 6)).toArray 5))
  have hb2 := hb1.trans ((balloc w1 (.cells (((b8s L).set 0 (.int .u8 5)).set 100 (.int .u8 6)).toArray 5)).mono hz1)
  have hz2 : w1.heap.size < (w1.alloc (.cells (((b8s L).set 0 (.int .u8 5)).set 100 (.int .u8 6)).toArray 5)).heap.size := by simp
  have Hd2 := Lib.hid hd2
  have Hb2 := Lib.hid hb2
  clear hd1 hb1 Hmk hd2 hb2
  go_wp2_with fail
  clear hc0 hc100 hf0 hf100
  generalize w1.alloc (.cells (((b8s L).set 0 (.int .u8 5)).set 100 (.int .u8 6)).toArray 5) = w2 at *
  generalize w1.heap.size = gb at *
  have hby : By w2 w2.heap.size (.slice (some ⟨gb, 0, none⟩) 128 128) (awB 5 6) := By.ofBox Hbx2.out (by decide +kernel)
  refine (dwrite_dk Hd2.out (fun k hk => by omega) (by omega) awW0 hby (fun q hq => .inr (by injection hq with hq; exact hq.symm))).mono ?_
  rintro _ w3 ⟨rfl, hd3, hc3⟩
  rw [awE1]
  have hb3 := Hb2.out.trans (hc3.below_ (by omega))
  have Hx3 := Lib.hid (hc3.box rfl Hbx2.out)
  have Hd3 := Lib.hid hd3
  have Hb3 := Lib.hid hb3
  have hz3 := hc3.size
  clear hd3 hc3 hb3 Hd2 Hb2 Hbx2 hby hmk
  go_wp2_with fail
  refine (dsync_dk Hd3.out (fun k hk => by omega) (by omega) awW1).mono ?_
  rintro _ w4 ⟨rfl, hd4, hc4⟩
  rw [show syncE (writeD (newD 2) 1 (awB 5 6)) = 0 from awE2]
  have hb4 := Hb3.out.trans (hc4.below_ (by omega))
  have hx4 := hc4.box rfl Hx3.out
  have h40 := hx4.cell 0 (.int .u8 5) rfl
  have hf4 := hx4.frozen 0
  have hx5 := hx4.put 0 (.int .u8 7)
  have Hx5 := Lib.hid hx5
  have hd5 := hd4.set_ ⟨gb, 0, none⟩ (.int .u8 7) (.inr rfl)
  have Hd5 := Lib.hid hd5
  have hb5 := hb4.setCell (p := ⟨gb, 0, none⟩) (by show w.heap.size ≤ gb; omega) (.int .u8 7)
  have Hb5 := Lib.hid hb5
  have hz4 := hc4.size
  have hz5 : w4.heap.size ≤ (w4.setCell ⟨gb, 0, none⟩ (.int .u8 7)).heap.size := by simp [World.setCell]
  clear hd4 hc4 hb4 hx4 hx5 hd5 hb5 Hx3 Hd3 Hb3
  go_wp2_with fail
  clear h40 hf4
  generalize w4.setCell ⟨gb, 0, none⟩ (.int .u8 7) = w5 at *
  have hby : By w5 w5.heap.size (.slice (some ⟨gb, 0, none⟩) 128 128) (awB 7 6) := By.ofBox (l := awB 7 6) Hx5.out (by decide +kernel)
  refine (dwrite_dk Hd5.out (fun k hk => by omega) (by omega) awW2 hby (fun q hq => .inr (by injection hq with hq; exact hq.symm))).mono ?_
  rintro _ w6 ⟨rfl, hd6, hc6⟩
  rw [show writeE (syncD (writeD (newD 2) 1 (awB 5 6))) 1 (awB 7 6) = 0 from awE3]
  have hz6 := hc6.size
  have hb6 := Hb5.out.trans (hc6.below_ (by omega))
  have Hd6 := Lib.hid hd6
  have Hb6 := Lib.hid hb6
  clear hd6 hc6 hb6 hby Hx5 Hd5 Hb5
  go_wp2_with fail
  refine (dback_dk (keep := 0) (torn := 0) Hd6.out (fun k hk => by omega) (by omega) (by decide) (by decide) awW3).mono ?_
  rintro _ w7 ⟨rfl, hd7, hc7⟩
  have hz7 := hc7.size
  have hb7 := Hb6.out.trans (hc7.below_ (by omega))
  have Hd7 := Lib.hid hd7
  have Hb7 := Lib.hid hb7
  clear hd7 hc7 hb7 Hd6 Hb6
  go_wp2_with fail
  refine (dread_dk Hd7.out awW4).mono ?_
  rintro _ w8 ⟨v, rfl, hf8, hd8, hb8⟩
  rw [show mayE (backD (writeD (syncD (writeD (newD 2) 1 (awB 5 6))) 1 (awB 7 6)) 0 0) 1 = 0 from awE4]
  rw [show readL (backD (writeD (syncD (writeD (newD 2) 1 (awB 5 6))) 1 (awB 7 6)) 0 0) 1 = awB 5 6 from awL4] at hf8
  have Hb8 := Lib.hid (Hb7.out.trans (hb8.mono (by omega)))
  obtain ⟨A, c, rfl, hc1, hc2⟩ := hf8.form
  obtain ⟨g8, rfl, _, _, _, k0, _⟩ := hf8.put 0 (by decide +kernel)
  obtain ⟨g9, e9, _, _, _, k100, _⟩ := hf8.put 100 (by decide +kernel)
  obtain rfl : g8 = g9 := by injection e9 with e9; injection e9
  rw [show (awB 5 6)[0]'(by decide +kernel) = 5 from by decide +kernel] at k0
  rw [show (awB 5 6)[100]'(by decide +kernel) = 6 from by decide +kernel] at k100
  rw [show (awB 5 6).length = 128 from by decide +kernel] at *
  clear hf8 hd8 hb8 Hb7 Hd7 e9
  go_wp2_with fail
  go_ret
  exact ⟨rfl, Hb8.out⟩
end Go.Proofs.Ytpoicbhbkabllaa
