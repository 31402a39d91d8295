/- make([]byte, n), the cells hidden: n may be a great literal -/
import Derived.Test.YtneihfmacljjbaaZeros
import Derived.Laws.MakeOwn
namespace Go.Proofs.Ytneihfmacljjbaa
set_option linter.unusedSimpArgs false
set_option linter.unusedVariables false
open Go.RowKit

theorem made8 (n : Nat) : madeCells (Value.cells (.int .u8 0)) n = (b8s (List.replicate n 0)).toArray := by
  apply Array.ext
  · simp [madeCells, Value.cells, b8s]
  · intro i h1 h2
    simp [madeCells, Value.cells, b8s, b8, Nat.mod_one]

theorem wpList_make8 {ops : Array Oper} {rest : List Oper} {o : Oper} {a : Act} {w : World} {Q : Exit → Act → World → Prop} (hgd : o.guard = none) (x y : Operand)
    (ho : o.op = .makeSlice 22 x y) (n : Nat) (hx : a.eval x = .int .i64 (n : Int)) (hy : a.eval y = .int .i64 (n : Int)) (hn : n ≤ 140737488355328)
    (h : ∀ v' w' l0, Hid (l0 = List.replicate n 0) → l0.length = n → Ow w' w.heap.size v' l0 → Below w.heap.size w w' → wpList Try.prog ops Q rest (a.put o.dst v') w') : wpList Try.prog ops Q (o :: rest) a w := by
  obtain ⟨i, hi, hz0, hz1, hz2⟩ := info_parts info8
  refine wpList_plain hgd fun K hK => ?_
  have hr := run_make (P := Try.prog) w 22 5 i (.int .u8 0) Try.underlying22 hi hz0 .i64 .i64 (n : Int) (n : Int) (by omega) (by omega) (by rw [hz2]; omega) (by omega)
  rw [Int.toNat_natCast, hz1, Nat.mul_one, made8] at hr
  unfold Oper.wp execOp
  simp only [ho, hx, hy, Sem.run_bind, Sem.run_pure, Result.andThen_ok, hr]
  have hnew := Ow.new_ w (List.replicate n 0) (by simp [maxLen]; omega)
  have := h _ _ (List.replicate n 0) rfl (by simp) hnew (balloc _ _)
  rw [List.length_replicate] at this
  exact hK _ _ this
end Go.Proofs.Ytneihfmacljjbaa
