/- palmerlaw16.awake returns true -/
import Derived.Test.YteakeefocnjlhaaBuild
import Derived.Test.YteakeefocnjlhaaCellSame
namespace Go.Proofs.Yteakeefocnjlhaa
set_option linter.unusedSimpArgs false
set_option linter.unusedVariables false
open Go.RowKit

set_option maxRecDepth 100000 in
set_option maxHeartbeats 800000 in
theorem awake16 (w : World) : Calls Try.prog 56 #[] w fun e w' => e = .returned (.bool true) ∧ Below w.heap.size w w' := by
  have hrow := (OwnA.new_ w [⟨1, 1⟩, ⟨2, 3⟩] (by simp [maxLen])).byA
  have hb0 := balloc w (.cells (([⟨1, 1⟩, ⟨2, 3⟩] : List GArc).map fun a => [Value.int .u32 (a.to.toNat : Int), .int .u32 (a.wt.toNat : Int)]).flatten.toArray 38)
  have e0 : (([⟨1, 1⟩, ⟨2, 3⟩] : List GArc).map fun a => [Value.int .u32 (a.to.toNat : Int), .int .u32 (a.wt.toNat : Int)]).flatten.toArray = #[.int .u32 1, .int .u32 1, .int .u32 2, .int .u32 3] := rfl
  rw [e0] at hrow hb0
  have hn : nbrs [⟨1, 1⟩, ⟨2, 3⟩] = true := by decide +kernel
  have ht : btab [⟨1, 1⟩, ⟨2, 3⟩] = [⟨2, 1⟩, ⟨4, 1⟩] := by decide +kernel
  have hbd := build_any _ _ (.slice (some ⟨w.heap.size, 0, none⟩) 2 2) [⟨1, 1⟩, ⟨2, 3⟩] (by simp) hrow (Nat.le_refl _) hn
  rw [ht] at hbd
  have Hbd := Lib.hid hbd
  have Hb := Lib.hid hb0
  clear hrow hb0 e0 hn ht hbd
  go_enter Try.func56, Try.ntmps56
  go_wp2_with fail
  refine Hbd.out.mono ?_
  rintro _ w1 ⟨vo, rfl, hown, hb1⟩
  have hby := hown.byC
  obtain ⟨A, c, rfl, hc1, hc2, hA⟩ := hown.form'
  obtain ⟨g, rfl, hg1, hg2⟩ := hA (by decide)
  obtain ⟨_, e, _, hx0, hx1⟩ := hby.cells 0 (by decide)
  injection e with e
  subst e
  obtain ⟨_, e, _, hy0, hy1⟩ := hby.cells 1 (by decide)
  injection e with e
  subst e
  replace hx0 : w1.cell? ⟨g, 0, none⟩ = some (.int .u64 2) := hx0
  replace hx1 : w1.cell? ⟨g, 1, none⟩ = some (.int .u32 1) := hx1
  replace hy0 : w1.cell? ⟨g, 2, none⟩ = some (.int .u64 4) := hy0
  replace hy1 : w1.cell? ⟨g, 3, none⟩ = some (.int .u32 1) := hy1
  have heq := eqCell
  have hgd := guardCell
  unfold maxLen at hc2
  simp only [List.length_cons, List.length_nil] at hc1
  clear hA
  clear hown hby
  go_wp2_with fail
  go_ret
  exact ⟨rfl, bstep Hb.out hb1⟩
end Go.Proofs.Yteakeefocnjlhaa
