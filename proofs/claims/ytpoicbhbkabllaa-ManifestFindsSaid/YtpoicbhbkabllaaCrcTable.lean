/- crc.table gives the table of the check's bytes. No condition. -/
import Derived.Test.YtpoicbhbkabllaaRows
import Derived.Test.YtpoicbhbkabllaaWords
import Derived.Test.YtpoicbhbkabllaaNum
import Derived.Test.YtpoicbhbkabllaaCrcPure
namespace Go.Proofs.Ytpoicbhbkabllaa
set_option linter.unusedSimpArgs false
set_option linter.unusedVariables false
open Go.RowKit

def tabUpTo (k : Nat) : Array Value := Array.ofFn (n := 256) fun i => if i.val < k then .int .u32 ((tabN i).toNat : Int) else .int .u32 0
def tabA : Array Value := tabUpTo 256
def zeroA : Array Value := Array.replicate 256 (.int .u32 0)
theorem tabUpTo_zero : tabUpTo 0 = zeroA := by
  apply Array.ext
  · simp [tabUpTo, zeroA]
  · intro i h1 h2; simp [tabUpTo, zeroA]
theorem tabUpTo_get (k : Nat) (h : k < 256) : (tabUpTo k)[k]? = some (.int .u32 0) := by simp [tabUpTo, h]
theorem tabUpTo_size (k : Nat) : (tabUpTo k).size = 256 := by simp [tabUpTo]
theorem tabUpTo_at (k i : Nat) (h : i < (tabUpTo k).size) : (tabUpTo k)[i] = if i < k then .int .u32 ((tabN i).toNat : Int) else .int .u32 0 := by simp [tabUpTo]
theorem tabUpTo_set (k : Nat) (h : k < 256) : (tabUpTo k).setIfInBounds k (.int .u32 ((stps 8 (UInt32.ofNat k)).toNat : Int)) = tabUpTo (k + 1) := by
  apply Array.ext
  · simp [tabUpTo_size]
  · intro i h1 h2
    rw [Array.getElem_setIfInBounds (by simpa using h1), tabUpTo_at, tabUpTo_at]
    by_cases e : k = i
    · subst e; simp [tabN]
    · rw [if_neg e]
      by_cases hl : i < k
      · rw [if_pos hl, if_pos (by omega)]
      · rw [if_neg hl, if_neg (by omega)]
theorem tabA_get (c : UInt8) : tabA[c.toNat]? = some (.int .u32 ((tabN c.toNat).toNat : Int)) := by
  have := c.toNat_lt
  simp [tabA, tabUpTo, this]
theorem tabA_one : ∀ v ∈ tabA.toList, v.oneCell' = true := by
  intro v hv
  obtain ⟨i, hi, rfl⟩ := List.mem_iff_getElem.1 hv
  rw [Array.getElem_toList]
  simp only [tabA, tabUpTo_at]
  split <;> rfl
theorem tabA_size : tabA.size = 256 := by simp [tabA, tabUpTo]

theorem zeroTab (w : World) : (zeroValue 163).run Try.prog w = .ok (.agg zeroA) w := by kernel_rfl
theorem infoTab : (Try.prog.info? 163).map (·.size) = some 256 := by kernel_rfl
theorem stp_walk (x : UInt32) : bits BinOp.xor IntKind.u32 ((x.toNat : Int) / 2) (3988292384 * ((x.toNat : Int) % 2)) = ((stp x).toNat : Int) := by
  have h1 : ((x.toNat : Int) / (2 : Int)) = ((x >>> 1).toNat : Int) := by simp [UInt32.toNat_shiftRight, Nat.shiftRight_eq_div_pow]
  have h2 : 3988292384 * ((x.toNat : Int) % 2) = ((poly * (x &&& 1)).toNat : Int) := by
    rw [← mul_u32, UInt32.toNat_and, show (1 : UInt32).toNat = 1 from rfl, Nat.and_one_is_mod, IntKind.wrap_u32', show (poly.toNat : Int) = 3988292384 from rfl]
    omega
  rw [h1, h2, xor_u32]; rfl
theorem wrapk (k : Nat) (h : k < 256) : IntKind.u32.wrap (k : Int) = ((UInt32.ofNat k).toNat : Int) := by
  rw [IntKind.wrap_u32', UInt32.toNat_ofNat']; omega

set_option maxRecDepth 100000 in
set_option maxHeartbeats 400000 in
theorem table_any (w : World) :
    Calls Try.prog 103 #[] w fun e w' => e = .returned (.agg tabA) ∧ Below w.heap.size w w' := by
  have hz := zeroTab
  have ha1 := fun x : UInt32 => and_u32 x 1
  simp only [show (((1 : UInt32).toNat : Nat) : Int) = 1 from rfl] at ha1
  go_enter Try.func103, Try.ntmps103
  go_wp2
  go_loopw [5] (fun i wr => ∃ k : Nat, k ≤ 256 ∧ i = .int .i64 k ∧ wr = (w.alloc (Obj.cells zeroA 163)).alloc (Obj.cells (tabUpTo k) 163)) (fun i _ => 256 - (intOf i).toNat)
  case atStart => exact ⟨0, by omega, rfl, by rw [tabUpTo_zero]⟩
  case round =>
    obtain ⟨k, hk, rfl, rfl⟩ := hrel
    by_cases hlt : k < 256
    · have hw := wrapk k hlt
      go_wp2
      go_loop [3,10] (fun x i => ∃ j : Nat, j ≤ 8 ∧ i = .int .i64 j ∧ x = .int .u32 ((stps j (UInt32.ofNat k)).toNat : Int)) (fun _ i => 8 - (intOf i).toNat)
      case atStart => exact ⟨0, by omega, rfl, rfl⟩
      case round =>
        obtain ⟨j, hj, rfl, rfl⟩ := hrel
        by_cases hlt2 : j < 8
        · go_wp2
          go_round
          case rel => exact ⟨j + 1, by omega, by go_num, by rw [stps_succ, stp_walk]⟩
          case measure => simp [intOf]; omega
        · obtain rfl : j = 8 := by omega
          have hc := tabUpTo_get k hlt
          have hs := tabUpTo_set k hlt
          go_wp2
          go_roundw
          case rel => exact ⟨k + 1, by omega, by go_num, rfl⟩
          case measure => simp [intOf]; omega
    · obtain rfl : k = 256 := by omega
      have h0 : (((w.alloc (Obj.cells zeroA 163)).alloc (Obj.cells (tabUpTo 256) 163))).heap[w.heap.size]? = some (.cells zeroA 163 (0, 0)) := heap_alloc2_old w _ _
      go_wp2_with (first
        | (refine wpList_load_row rfl 163 _ rfl (w.heap.size + 1) rfl 163 tabA (0, 0) _ (by exact heap_alloc2_new w _ _) Try.underlying163 rfl (by rw [tabA_size]; exact infoTab) ?_)
        | (refine wpList_store_row rfl 163 (.tmp 0) _ rfl w.heap.size tabA rfl rfl 163 zeroA (by exact h0) (by rw [tabA_size]; exact infoTab) (by rw [tabA_size]; rfl) tabA_one ?_))
      refine bodyPost_ret (results_cell_row rfl _ _ w.heap.size 163 tabA (0, 0) _ rfl (setRow_heap _ _ zeroA _ _ _ h0) Try.underlying163 rfl (by rw [tabA_size]; exact infoTab)) rfl ⟨rfl, ?_⟩
      exact bsetRow (((Below.refl _ _).alloc (Nat.le_refl _) _).alloc (by simp) _) (Nat.le_refl _) _
end Go.Proofs.Ytpoicbhbkabllaa
