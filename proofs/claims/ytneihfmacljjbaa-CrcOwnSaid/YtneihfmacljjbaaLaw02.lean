/- What the laws of layer 2 share: the document's example. No condition. -/
import Derived.Test.YtneihfmacljjbaaRefFits
import Derived.Lib.SlBytesConst
namespace Go.Proofs.Ytneihfmacljjbaa
open Go.RowKit

theorem runOne (w : World) (l : List UInt8) (v : Value) (g : Nat) (hby : By w w.heap.size v l) (hg : w.heap[g]? = some (.cells #[v] 22 (0, 0))) :
    Calls Try.prog 16 #[.slice (some ⟨g, 0, none⟩) 1 1] w fun e w' => e = .returned (.int .u32 ((crcOf l).toNat : Int)) ∧ Below w.heap.size w w' := by
  have := sum_any (some ⟨g, 0, none⟩) 1 1 [v] [l] w rfl (rd_blk (vs := [v]) hg) rfl (by decide) (one_by hby)
  simpa using this

set_option maxRecDepth 100000 in
set_option maxHeartbeats 800000 in
theorem awake02 (w : World) : Calls Try.prog 14 #[] w fun e w' => e = .returned (.bool true) ∧ Below w.heap.size w w' := by
  have kc := fun (w : World) (C : Array Value) (n c : Nat) => Lib.run_convert_bytes_const (P := Try.prog) w 22 5 C n c Try.underlying22 Try.underlying5
  go_enter Try.func14, Try.ntmps14
  go_wp2_with fail
  have hb := (By.newF w [49, 50, 51, 52, 53, 54, 55, 56, 57] (by decide) (9, 10)).alloc (by simp) (.cells #[.slice (some ⟨w.heap.size, 0, none⟩) 9 9] 22)
  refine (runOne _ [49, 50, 51, 52, 53, 54, 55, 56, 57] _ _ (hb.more (by simp)) (by exact heap_alloc2_new w _ _)).mono ?_
  rw [crc_example]
  rintro e w1 ⟨rfl, hb1⟩
  go_wp2_with fail
  go_ret
  exact ⟨rfl, bstep (bstep (balloc _ _) (balloc _ _)) hb1⟩
end Go.Proofs.Ytneihfmacljjbaa
