/- crc.Mark is the bytes with their check, in memory of one's own; crc.Fits tells whether bytes end in their check. The rows are readable slices of at most 2^40 bytes. -/
import Derived.Test.YtpoicbhbkabllaaCrcSum
import Derived.Test.YtpoicbhbkabllaaBytes
namespace Go.Proofs.Ytpoicbhbkabllaa
set_option linter.unusedSimpArgs false
set_option linter.unusedVariables false
open Go.RowKit

def four (x : UInt32) : List UInt8 := [x.toUInt8, (x >>> 8).toUInt8, (x >>> 16).toUInt8, (x >>> 24).toUInt8]
def markOf (l : List UInt8) : List UInt8 := l ++ four (crcOf l)
theorem four_length (x : UInt32) : (four x).length = 4 := rfl
theorem markOf_length (l : List UInt8) : (markOf l).length = l.length + 4 := by simp [markOf, four_length]
def fourAt (x : UInt32) (k : Nat) : UInt8 := (four x).getD k 0
theorem four_succ (x : UInt32) (k : Nat) (h : k < 4) : (four x).take (k + 1) = (four x).take k ++ [fourAt x k] := by
  rcases (show k = 0 ∨ k = 1 ∨ k = 2 ∨ k = 3 by omega) with rfl | rfl | rfl | rfl <;> rfl
theorem four_full (x : UInt32) : (four x).take 4 = four x := rfl
/-- the walk's own form of 'byte(x >> (8*k))' -/
theorem fourAt0 (x : UInt32) : (x.toNat : Int) % 256 = ((fourAt x 0).toNat : Int) := mod_u8_u32 x
theorem fourAt1 (x : UInt32) : (x.toNat : Int) / 256 % 256 = ((fourAt x 1).toNat : Int) := by rw [div_u32 x 8 (by omega) 256 rfl]; exact mod_u8_u32 _
theorem fourAt2 (x : UInt32) : (x.toNat : Int) / 65536 % 256 = ((fourAt x 2).toNat : Int) := by rw [div_u32 x 16 (by omega) 65536 rfl]; exact mod_u8_u32 _
theorem fourAt3 (x : UInt32) : (x.toNat : Int) / 16777216 % 256 = ((fourAt x 3).toNat : Int) := by rw [div_u32 x 24 (by omega) 16777216 rfl]; exact mod_u8_u32 _

set_option maxRecDepth 100000 in
set_option maxHeartbeats 800000 in
theorem mark_any (w : World) (v : Value) (l : List UInt8) (hby : By w w.heap.size v l) (hsz : l.length ≤ 1099511627776) :
    Calls Try.prog 92 #[v] w fun e w' => ∃ v', e = .returned v' ∧ Ow w' w.heap.size v' (markOf l) ∧ Below w.heap.size w w' := by
  have hby0 := hby
  obtain ⟨A, c, rfl, hc1, hc2, hrd⟩ := hby
  go_enter Try.func92, Try.ntmps92
  go_wp2_with (first
    | (go_at_call 94; refine (clone8 _ _ l hby0 (by omega)).mono ?_; rintro e w1 ⟨v1, rfl, hown1, hb1⟩)
    | (go_at_call 101; go_loud (refine (sum_any _ 1 1 [.slice A l.length c] [l] _ rfl (rd1 w1 _ _ rfl) rfl (by decide) (one_by ((hby0.step hb1).alloc (Nat.le_refl _) _ |>.more (by simp)))).mono ?_); rintro e w2 ⟨rfl, hb2⟩))
  have hb12 : Below w1.heap.size w1 w2 := bstep (balloc _ _) hb2
  have hown2 := hown1.below_ hb12
  have hb02 : Below w.heap.size w w2 := bstep hb1 hb12
  have Hres : Hid (markOf l = l ++ four (crcOf l)) := rfl
  clear hown1 hb12 hb1 hb2
  generalize crcOf l = x at *
  go_loopw [3, 5] (fun v n wr => ∃ k : Nat, k ≤ 4 ∧ n = .int .i64 k ∧ Ow wr w.heap.size v (l ++ (four x).take k) ∧ Below w.heap.size w wr) (fun _ n _ => 4 - (intOf n).toNat)
  case atStart => exact ⟨0, by omega, rfl, by simpa using hown2, hb02⟩
  case round =>
    obtain ⟨k, hk, rfl, hown, hb⟩ := hrel
    by_cases hlt : k < 4
    · have hs := four_succ x k hlt
      have Hs := Lib.hid hs
      clear hs
      have h0 := fourAt0 x
      have h1 := fourAt1 x
      have h2 := fourAt2 x
      have h3 := fourAt3 x
      have hlen4 : (l ++ (four x).take k).length ≤ l.length + 4 := by simp [four_length]; omega
      rcases (show k = 0 ∨ k = 1 ∨ k = 2 ∨ k = 3 by omega) with rfl | rfl | rfl | rfl
      all_goals
        go_wp2_with (first
          | (at_builtin
             refine wpList_app8 rfl (.tmp 15) (.tmp 21) rfl (hown.alloc _) (By.new_ wr [fourAt x _] (by simp [maxLen])) rfl rfl (by simp only [List.length_singleton]; omega) (by have := hb.size; simp; omega) ?_
             intro v3 w3 hown3 hext3))
        have hb3 : Below w.heap.size w w3 := hb.trans (((Below.refl _ _).alloc hb.size _).trans (hext3.below (by have := hb.size; simp; omega) (fun k hk => (hown.blk k hk).1)))
        go_roundw
        case rel =>
          first
            | exact ⟨1, by omega, rfl, by rw [Hs.out, ← List.append_assoc]; exact hown3, hb3⟩
            | exact ⟨2, by omega, rfl, by rw [Hs.out, ← List.append_assoc]; exact hown3, hb3⟩
            | exact ⟨3, by omega, rfl, by rw [Hs.out, ← List.append_assoc]; exact hown3, hb3⟩
            | exact ⟨4, by omega, rfl, by rw [Hs.out, ← List.append_assoc]; exact hown3, hb3⟩
        case measure => simp [intOf]
    · obtain rfl : k = 4 := by omega
      go_wp2
      go_ret
      exact ⟨_, rfl, by rw [Hres.out]; exact hown, hb⟩
end Go.Proofs.Ytpoicbhbkabllaa
