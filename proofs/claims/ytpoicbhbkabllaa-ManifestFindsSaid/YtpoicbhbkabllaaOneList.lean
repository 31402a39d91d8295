/- The obligations of the law of one world-changing operation, one by one. -/
import Derived.Test.YtpoicbhbkabllaaOne
namespace Go.Proofs.Ytpoicbhbkabllaa
set_option linter.unusedSimpArgs false
set_option linter.unusedVariables false
open Go.RowKit

def ObOAll (P : Program) (dl : List (Option Nat)) (Φ : List (Value → Prop)) (ds : List Nat) (a : Act) (s : Nat) (J : Bool → Value → World → Prop) : Nat → List Oper → List (Value → Prop) → Prop
  | _, [], _ => True
  | _, _ :: _, [] => False
  | i, o :: os, ph :: phs => ObO P dl Φ ds a s J i ph o ∧ ObOAll P dl Φ ds a s J (i + 1) os phs
theorem obOAll_get {P : Program} {dl : List (Option Nat)} {Φ : List (Value → Prop)} {ds : List Nat} {a : Act} {s : Nat} {J : Bool → Value → World → Prop} : ∀ (os : List Oper) (phs : List (Value → Prop)) (k : Nat), ObOAll P dl Φ ds a s J k os phs →
    ∀ (i : Nat) (o : Oper), os[i]? = some o → ObO P dl Φ ds a s J (k + i) (phs.getD i fun _ => True) o
  | [], _, _, _ => fun i o h => by simp at h
  | _ :: _, [], _, h => h.elim
  | x :: os, ph :: phs, k, h => fun i o ho => by
    cases i with
    | zero => obtain rfl : x = o := by simpa using ho
              exact h.1
    | succ i =>
      have := obOAll_get os phs (k + 1) h.2 i o (by simpa using ho)
      rw [show k + (i + 1) = k + 1 + i by omega]
      simpa using this
section
variable {P : Program} {dl : List (Option Nat)} {Φ : List (Value → Prop)} {ds : List Nat} {a : Act} {w : World} {s i : Nat} {J : Bool → Value → World → Prop} {ph : Value → Prop} {o : Oper}
theorem obO_yes (h : ∀ f b w', J b (valOf dl f s) w' → (i = s → b = false) → PreO dl Φ f o.after.toList → Gd dl f o.guard ∧ mildO P w' o.dst ph i s J ((execOp (evalF ds f a) o).run P w')) : ObO P dl Φ ds a s J i ph o := by
  intro f b w' h1 h2 h3
  have := h f b w' h1 h2 h3
  exact ⟨fun _ => this.2, fun hn => absurd this.1 hn⟩
theorem mildO_val {d : Option Nat} {q : Value → Prop} {r : Result Next} {w' : World} (u : Value) (hi : i ≠ s) (hr : r = .ok (.value u) w') (hq : q (dstVal d u)) : mildO P w' d q i s J r := by
  subst hr
  exact ⟨hi, rfl, hq⟩
theorem mildO_call {d : Option Nat} {q : Value → Prop} {w' : World} {ρ : Operand → Value} (f : Nat) (args : Array Operand) (ts : Array TypeId) (fn : Func) (hi : i = s) (hf : P.funcs[f]? = some fn) (hn : (fn.name == "runtime.NumGoroutine") = false) (hb : fn.body.isNone = false)
    {t : TypeId} {pos : String} {af : Array Edge} {g : Option (Nat × Bool)} (hρ : ρ (.func f) = .func (.func f) #[] #[])
    (h : Calls P f (args.map ρ) w' (fun e w3 => ∃ v, e = .returned v ∧ J true (dstVal d v) w3 ∧ q (dstVal d v))) :
    mildO P w' d q i s J ((execOp ρ { dst := d, op := .call { callee := .value (.func f), args := args, argTypes := ts }, type := t, pos := pos, after := af, guard := g }).run P w') := by
  have hr : (execOp ρ { dst := d, op := .call { callee := .value (.func f), args := args, argTypes := ts }, type := t, pos := pos, after := af, guard := g }).run P w' = .ok (.enter f (args.map ρ)) w' := by
    simp [execOp, resolve, hρ, Deferred.ofValue, invoke, callFunc, hf]
    rw [if_neg (by simpa using hn), if_neg (by intro h; simp [h] at hb)]
  rw [hr]
  exact ⟨hi, h⟩
end
theorem wp_region_oneL {P : Program} {a : Act} {w : World} {Q : Exit → Act → World → Prop} {id : Nat} {L : List Oper} {ds : List Nat} (n s : Nat) (J : Bool → Value → World → Prop) (dl : List (Option Nat)) (Φ : List (Value → Prop)) (hsn : s < (L.take n).length) (hdl : (L.take n).map (·.dst) = dl) (hds : dstsOf_ (L.take n) = ds) (hm : P.follows .mixedOrders = true)
    (hn : typedB (L.take n) a.tmps.size = true) (ht : tailB (L.take n) (L.drop n) = true) (hob : ObOAll P dl Φ ds a s J 0 (L.take n) Φ) (h0 : ∀ v, J false v w.drew)
    (hQ : ∀ f w', J true (valOf dl f s) w' → PostO f dl Φ → wpList P L.toArray Q (L.drop n) (fills ds f a) w') : (Code.region id L.toArray true).wp P Q a w :=
  wp_region_one n s J dl Φ hsn hdl hds hm hn ht (fun i o ho => by simpa using obOAll_get _ _ 0 hob i o ho) h0 hQ
end Go.Proofs.Ytpoicbhbkabllaa
