/- A call within a region of the mixed law. -/
import Derived.Test.YtpoicbhbkabllaaMix
namespace Go.Proofs.Ytpoicbhbkabllaa
set_option linter.unusedSimpArgs false
set_option linter.unusedVariables false
open Go.RowKit

theorem mildM_call {P : Program} {i : Nat} {J : (Nat → Bool) → (Nat → Value) → World → Prop} {d : Option Nat} {q : Value → Prop} {w' : World} {b : Nat → Bool} {vs : Nat → Value} {ρ : Operand → Value} (f : Nat) (args : Array Operand) (ts : Array TypeId) (fn : Func) (hf : P.funcs[f]? = some fn) (hn : (fn.name == "runtime.NumGoroutine") = false) (hb : fn.body.isNone = false)
    {t : TypeId} {pos : String} {af : Array Edge} {g : Option (Nat × Bool)} (hρ : ρ (.func f) = .func (.func f) #[] #[])
    (h : Calls P f (args.map ρ) w' (fun e w'' => ∃ v, e = .returned v ∧ q (dstVal d v) ∧ J (fun s => if s = i then true else b s) (fun s => if s = i then dstVal d v else vs s) w'')) :
    mildM P d q i J b vs ((execOp ρ { dst := d, op := .call { callee := .value (.func f), args := args, argTypes := ts }, type := t, pos := pos, after := af, guard := g }).run P w') := by
  have hr : (execOp ρ { dst := d, op := .call { callee := .value (.func f), args := args, argTypes := ts }, type := t, pos := pos, after := af, guard := g }).run P w' = .ok (.enter f (args.map ρ)) w' := by
    simp [execOp, resolve, hρ, Deferred.ofValue, invoke, callFunc, hf]
    rw [if_neg (by simpa using hn), if_neg (by intro h; simp [h] at hb)]
  rw [hr]
  exact h
theorem calls_args {P : Program} {f : Nat} {args args' : Array Value} {w : World} {Q : Ending → World → Prop} (h : args = args') (k : Calls P f args' w Q) : Calls P f args w Q := h ▸ k
end Go.Proofs.Ytpoicbhbkabllaa
