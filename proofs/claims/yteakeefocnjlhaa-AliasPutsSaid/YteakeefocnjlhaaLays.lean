/- slices.BinarySearch and slices.Insert at ints: the shelf's contracts laid at this program -/
import Derived.Shelf.Slices.SearchI
import Derived.Shelf.Slices.Empties
import Derived.Shelf.Spec.SlicesInsertGrow
import Derived.Test.YteakeefocnjlhaaProg
namespace Go.Proofs.Yteakeefocnjlhaa
set_option linter.unusedSimpArgs false
set_option linter.unusedVariables false
open Go.Shelf
def lays225_ren : Go.Shelf.Ren := ⟨fun | 25 => 88 | 31 => 90 | 32 => 91 | 37 => 94 | n => n, fun | 22 => 115 | 3 => 3 | 4 => 4 | 40 => 97 | 0 => 0 | n => n, fun | n => n⟩
theorem lays225 : Go.Proofs.Lays2.n25 Try.prog lays225_ren := {
  mixed := by kernel_rfl
  f25 := Try.func88.trans (congrArg some (by kernel_rfl))
  f31 := Try.func90.trans (congrArg some (by kernel_rfl))
  f32 := Try.func91.trans (congrArg some (by kernel_rfl))
  f37 := Try.func94.trans (congrArg some (by kernel_rfl))
  t0 := Try.underlying0
  a0 := Try.isAgg0
  z0 := Try.sizeOf0
  v0 := Try.zeroValue0
  t3 := Try.underlying3
  a3 := Try.isAgg3
  z3 := Try.sizeOf3
  v3 := Try.zeroValue3
  t4 := Try.underlying4
  a4 := Try.isAgg4
  z4 := Try.sizeOf4
  v4 := Try.zeroValue4
  t22 := Try.underlying115
  a22 := Try.isAgg115
  z22 := Try.sizeOf115
  v22 := Try.zeroValue115
  t40 := Try.underlying97
  a40 := Try.isAgg97
  z40 := Try.sizeOf97
  v40 := Try.zeroValue97 }
def lays221_ren : Go.Shelf.Ren := ⟨fun | 21 => 89 | 27 => 92 | 28 => 93 | 35 => 95 | 39 => 96 | n => n, fun | 22 => 115 | 3 => 3 | 4 => 4 | 0 => 0 | n => n, fun | n => n⟩
theorem lays221 : Go.Proofs.Lays2.n21 Try.prog lays221_ren := {
  mixed := by kernel_rfl
  f21 := Try.func89.trans (congrArg some (by kernel_rfl))
  f27 := Try.func92.trans (congrArg some (by kernel_rfl))
  f28 := Try.func93.trans (congrArg some (by kernel_rfl))
  f35 := Try.func95.trans (congrArg some (by kernel_rfl))
  f39 := Try.func96.trans (congrArg some (by kernel_rfl))
  t0 := Try.underlying0
  a0 := Try.isAgg0
  z0 := Try.sizeOf0
  v0 := Try.zeroValue0
  t3 := Try.underlying3
  a3 := Try.isAgg3
  z3 := Try.sizeOf3
  v3 := Try.zeroValue3
  t4 := Try.underlying4
  a4 := Try.isAgg4
  z4 := Try.sizeOf4
  v4 := Try.zeroValue4
  t22 := Try.underlying115
  a22 := Try.isAgg115
  z22 := Try.sizeOf115
  v22 := Try.zeroValue115
  i3 := by kernel_rfl }
end Go.Proofs.Yteakeefocnjlhaa
