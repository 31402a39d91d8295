/- Structs with an array within, built; slices of one such. -/
import Derived.Test.YtpoicbhbkabllaaDiskFns
import Derived.Great.BuildSlice
namespace Go.Proofs.Ytpoicbhbkabllaa
set_option linter.unusedSimpArgs false
set_option linter.unusedVariables false
open Go.RowKit

theorem fill_whole (n : Nat) (cells : Array Value) (cs : List Value) (hc : cells.size = n) (hn : cs.length = n) : Instr.fill (fun i => some (i * n, n)) cells [(0, .agg cs.toArray)] = some cs.toArray := by
  obtain ⟨g1, g2⟩ := Go.Great.foldl_set (0 * n) cs 0 cells
  unfold Instr.fill
  simp only [Value.cells, List.size_toArray, hn]
  rw [if_neg (by simp; omega)]
  unfold Instr.fill
  congr 1
  apply Array.ext_getElem?
  intro k
  have := g2 k
  have e : (cs.toArray.zipIdx.foldl (fun cs (x : Value × Nat) => cs.setIfInBounds (0 * n + x.2) x.1) cells) = (List.foldl (fun cs (x : Value × Nat) => cs.setIfInBounds (0 * n + x.2) x.1) cells (cs.zipIdx 0)) := by simp
  show (cs.toArray.zipIdx.foldl (fun cs (x : Value × Nat) => cs.setIfInBounds (0 * n + x.2) x.1) cells)[k]? = _
  rw [e, this]
  simp only [Nat.zero_mul, Nat.zero_add, Nat.sub_zero, Nat.zero_le, true_and, List.getElem?_toArray]
  split
  · rfl
  · rw [List.getElem?_eq_none (by omega), Array.getElem?_eq_none (by omega)]
theorem fill_two (n : Nat) (place : Nat → Option (Nat × Nat)) (h0 : place 0 = some (0, 1)) (h1 : place 1 = some (1, n)) (cells : Array Value) (a : Value) (ha : a.cells = #[a]) (cs : List Value) (hc : cells.size = n + 1) (hn : cs.length = n) :
    Instr.fill place cells [(0, a), (1, .agg cs.toArray)] = some (a :: cs).toArray := by
  obtain ⟨g1, g2⟩ := Go.Great.foldl_set 1 cs 0 (cells.setIfInBounds 0 a)
  have hz : (cells.setIfInBounds 0 a).size = n + 1 := by rw [Array.size_setIfInBounds, hc]
  unfold Instr.fill
  simp only [h0, ha, List.size_toArray, List.length_cons, List.length_nil]
  rw [if_neg (by rw [hc]; simp)]
  unfold Instr.fill
  simp only [h1, Value.cells, List.size_toArray, hn]
  rw [if_neg (by simp; omega)]
  unfold Instr.fill
  congr 1
  apply Array.ext_getElem?
  intro k
  have := g2 k
  have e : (cs.toArray.zipIdx.foldl (fun cs (x : Value × Nat) => cs.setIfInBounds (1 + x.2) x.1) (Array.foldl (fun cs (x : Value × Nat) => cs.setIfInBounds (0 + x.2) x.1) cells #[a].zipIdx)) = (List.foldl (fun cs (x : Value × Nat) => cs.setIfInBounds (1 + x.2) x.1) (cells.setIfInBounds 0 a) (cs.zipIdx 0)) := by simp
  show (cs.toArray.zipIdx.foldl (fun cs (x : Value × Nat) => cs.setIfInBounds (1 + x.2) x.1) (Array.foldl (fun cs (x : Value × Nat) => cs.setIfInBounds (0 + x.2) x.1) cells #[a].zipIdx))[k]? = _
  rw [e, this]
  simp only [Nat.add_zero, List.getElem?_toArray, Array.size_setIfInBounds]
  cases k with
  | zero => rw [if_neg (by omega), Array.getElem?_setIfInBounds_self_of_lt (by omega)]; rfl
  | succ k =>
    rw [List.getElem?_cons_succ]
    by_cases hk : k < n
    · rw [if_pos (by omega), Nat.add_sub_cancel]
    · rw [if_neg (by omega), List.getElem?_eq_none (by omega), Array.getElem?_eq_none (by omega)]
theorem fields_write : Try.prog.underlying 88 = some (.struct (Try.prog.fieldsOf 88)) := by kernel_rfl
theorem places_write : (Try.prog.fieldsOf 88).toList.mapM (fun f => (Try.prog.info? f.type).map fun i => (f.offset, i.size)) = some [(0, 1), (1, 128)] := by kernel_rfl
def zeroW : Value := .agg ((.int .i64 0 :: List.replicate 128 (.int .u8 0)).toArray)
theorem info_write : (Try.prog.info? 88).map (fun i => (i.zero, i.size, i.bytes)) = some (some zeroW, 129, 136) := by kernel_rfl
theorem built_write (i : Int) (b : Blk) : Try.prog.built 88 [(0, .int .i64 i), (1, .agg (b8s b.1).toArray)] = some (.int .i64 i :: b8s b.1).toArray := by
  obtain ⟨it, hit, hz0, hz1, hby⟩ := info_parts info_write
  unfold Program.built
  simp only [hit, fields_write, hz0, places_write]
  exact fill_two 128 _ rfl rfl _ _ rfl _ (by simp [zeroW, Value.cells]) (blk_len b)
theorem run_build_write (w : World) (i : Int) (b : Blk) : (Instr.build 88 #[(0, .int .i64 i), (1, .agg (b8s b.1).toArray)]).run Try.prog w = .ok (.agg (.int .i64 i :: b8s b.1).toArray) w :=
  run_build w _ _ _ (built_write i b)
theorem run_slice_write (w : World) (i : Int) (b : Blk) : (Instr.buildSlice 82 1 #[(0, .agg (.int .i64 i :: b8s b.1).toArray)]).run Try.prog w =
    .ok (.slice (some ⟨w.heap.size, 0, none⟩) 1 1) (w.alloc (.cells (.int .i64 i :: b8s b.1).toArray 88)) := by
  obtain ⟨it, hit, hz0, hz1, hby⟩ := info_parts info_write
  have hl := blk_len b
  refine run_buildSlice w _ _ 1 _ _ it zeroW Try.underlying82 hit hz0 (by rw [hz1]; decide) (by rw [hz1]; decide) ?_
  rw [hz1]
  exact fill_whole 129 _ _ (by simp) (by simp [hl])
end Go.Proofs.Ytpoicbhbkabllaa
