/- '==' of two arcs -/
import Derived.Test.YteakeefocnjlhaaArc
import Derived.Laws.StructEq
namespace Go.Proofs.Yteakeefocnjlhaa
set_option linter.unusedSimpArgs false
set_option linter.unusedVariables false
open Go.RowKit
theorem fieldsArc : Try.prog.fieldsOf 38 = #[{ name := "To", type := 33, offset := 0, embedded := false, tag := "", pkgPath := "", byteOffset := 0 }, { name := "Weight", type := 33, offset := 1, embedded := false, tag := "", pkgPath := "", byteOffset := 4 }] := by kernel_rfl
theorem eqArc_ (d : Nat) (w : World) (a b c e : Int) : (Op.equalIn (d + 2) 38 (.agg #[.int .u32 a, .int .u32 b]) (.agg #[.int .u32 c, .int .u32 e])).run Try.prog w = .ok (a == c && b == e) w := by
  rw [run_equalIn_struct w (d + 1) 38 _ _ (by rw [fieldsArc]; exact Try.underlying38) (by kernel_rfl), fieldsArc]
  have h33 := Try.underlying33
  have p0 : ∀ (x y : Int), (part 33 #[.int .u32 x, .int .u32 y] 0).run Try.prog w = .ok (.int .u32 x) w := fun x y => by kernel_rfl
  have p1 : ∀ (x y : Int), (part 33 #[.int .u32 x, .int .u32 y] 1).run Try.prog w = .ok (.int .u32 y) w := fun x y => by kernel_rfl
  simp only [Op.eqFields, Sem.run_bind, Sem.run_ite, p0, p1, Result.andThen_ok, run_equalIn_int w d 33 _ .u32 _ _ h33]
  by_cases h1 : a = c <;> by_cases h2 : b = e <;> simp [h1, h2]
theorem eqArc (w : World) (a b c e : Int) : (Op.equalIn 10000 38 (.agg #[.int .u32 a, .int .u32 b]) (.agg #[.int .u32 c, .int .u32 e])).run Try.prog w = .ok (a == c && b == e) w := eqArc_ 9998 w a b c e
theorem guardArc : Try.prog.eqGuardType Try.prog.depth 38 = false := by kernel_rfl
end Go.Proofs.Yteakeefocnjlhaa
