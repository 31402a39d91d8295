/- Cells put one behind the other; what a call has changed. -/
import Derived.Test.YtpoicbhbkabllaaCdc
import Derived.Laws.IdiomCopy
namespace Go.Proofs.Ytpoicbhbkabllaa
set_option linter.unusedSimpArgs false
set_option linter.unusedVariables false
open Go.RowKit

def puts : List Value → Nat → List Value → List Value
  | cs, _, [] => cs
  | cs, o, v :: r => puts (cs.set o v) (o + 1) r
theorem puts_len : ∀ (vs : List Value) (cs : List Value) (o : Nat), (puts cs o vs).length = cs.length
  | [], _, _ => rfl
  | v :: r, cs, o => by rw [puts, puts_len r, List.length_set]
theorem puts_get : ∀ (vs : List Value) (cs : List Value) (o k : Nat), o + vs.length ≤ cs.length → (puts cs o vs)[k]? = if o ≤ k ∧ k < o + vs.length then vs[k - o]? else cs[k]?
  | [], cs, o, k, h => by
    rw [puts, if_neg]
    intro hh
    simp only [List.length_nil] at hh
    omega
  | v :: r, cs, o, k, h => by
    simp only [List.length_cons] at h ⊢
    rw [puts, puts_get r _ _ k (by rw [List.length_set]; omega)]
    by_cases h1 : o = k
    · subst h1
      rw [if_neg (by omega), if_pos (by omega), List.getElem?_set, if_pos rfl, if_pos (by omega), Nat.sub_self]
      first | done | rfl
    · by_cases h2 : o + 1 ≤ k ∧ k < o + 1 + r.length
      · rw [if_pos h2, if_pos (by omega), show k - o = (k - (o + 1)) + 1 from by omega, List.getElem?_cons_succ]
      · rw [if_neg h2, if_neg (by omega), List.getElem?_set, if_neg h1]
theorem BoxAt.setCells_ {T : TypeId} {b : Nat} : ∀ (vs : List Value) {w : World} {cs : List Value} (o : Nat), BoxAt T w b cs → BoxAt T (w.setCells b o vs) b (puts cs o vs)
  | [], _, _, _, h => h
  | v :: r, w, cs, o, h => BoxAt.setCells_ r (o + 1) (h.put o v)
theorem gsetCells (b : Nat) : ∀ (vs : List Value) (w : World) (o : Nat), w.grownBy (w.setCells b o vs) (some b)
  | [], w, _ => grefl w _
  | v :: r, w, o => gtrans (gset w ⟨b, o, none⟩ v) (gsetCells b r _ (o + 1))
theorem gdrew_ {w w' : World} {row : Option Nat} (h : w.grownBy w' row) : w.grownBy w'.drew row := gtrans h (gbelow ((Below.refl w'.heap.size w').drew) row)
/-- what a call has changed: blocks of P, and new ones -/
structure Chg (P : Nat → Prop) (w w' : World) : Prop where
  os : w'.os = w.os
  tape : w'.tape = w.tape
  output : w'.output = w.output
  size : w.heap.size ≤ w'.heap.size
  block : ∀ k, k < w.heap.size → ¬ P k → w'.heap[k]? = w.heap[k]?
theorem Chg.refl (P : Nat → Prop) (w : World) : Chg P w w := ⟨rfl, rfl, rfl, Nat.le_refl _, fun _ _ _ => rfl⟩
theorem Chg.trans {P : Nat → Prop} {a b c : World} (h : Chg P a b) (k : Chg P b c) : Chg P a c :=
  ⟨k.os.trans h.os, k.tape.trans h.tape, k.output.trans h.output, Nat.le_trans h.size k.size, fun i hi hn => (k.block i (Nat.lt_of_lt_of_le hi h.size) hn).trans (h.block i hi hn)⟩
theorem Chg.more {P Q : Nat → Prop} {a b : World} (h : Chg P a b) (hq : ∀ k, k < a.heap.size → P k → Q k) : Chg Q a b := ⟨h.os, h.tape, h.output, h.size, fun k hk hn => h.block k hk fun hp => hn (hq k hk hp)⟩
theorem Chg.ofGrown {P : Nat → Prop} {a b : World} {row : Option Nat} (h : a.grownBy b row) (hr : ∀ k, row = some k → P k) : Chg P a b := ⟨h.os, h.tape, h.output, h.size, fun k hk hn => h.block k hk fun e => hn (hr k e.symm)⟩
theorem Chg.ofBelow {P : Nat → Prop} {a b : World} (h : Below a.heap.size a b) : Chg P a b := ⟨h.os, h.tape, h.output, h.size, fun k hk _ => h.block k hk⟩
theorem Chg.set {P : Nat → Prop} (w : World) (p : Addr) (u : Value) (h : P p.block) : Chg P w (w.setCell p u) := Chg.ofGrown (gset w p u) fun k e => by injection e with e; rw [← e]; exact h
theorem Chg.drew_ {P : Nat → Prop} {a b : World} (h : Chg P a b) : Chg P a b.drew := ⟨h.os, h.tape, h.output, h.size, h.block⟩
theorem Chg.alloc_ {P : Nat → Prop} {a b : World} (h : Chg P a b) (o : Obj) : Chg P a (b.alloc o) := h.trans (Chg.ofBelow (balloc b o))
/-- changes of what was new are none -/
theorem Chg.past {P Q : Nat → Prop} {a b c : World} (h : Chg P a b) (k : Chg Q b c) (hq : ∀ i, Q i → a.heap.size ≤ i ∨ P i) : Chg P a c :=
  ⟨k.os.trans h.os, k.tape.trans h.tape, k.output.trans h.output, Nat.le_trans h.size k.size, fun i hi hn => (k.block i (Nat.lt_of_lt_of_le hi h.size) (fun hx => by
    rcases hq i hx with h1 | h1
    · omega
    · exact hn h1)).trans (h.block i hi hn)⟩
theorem Chg.below {P : Nat → Prop} {a b : World} {B : Nat} (h : Chg P a b) (hB : B ≤ a.heap.size) (hp : ∀ k, P k → B ≤ k) : Below B a b := by
  have h1 := h.block
  refine (Below.refl B a).trans ⟨h.os, h.tape, h.output, h.size, fun k hk => h1 k (by omega) fun hx => by have := hp k hx; omega⟩
theorem BoxAt.chg {P : Nat → Prop} {T : TypeId} {w w' : World} {g : Nat} {cs : List Value} (h : BoxAt T w g cs) (hc : Chg P w w') (hn : ¬ P g) : BoxAt T w' g cs := (hc.block g h.lt hn).trans h
theorem Chg.drewN_ {P : Nat → Prop} {a b : World} (h : Chg P a b) (n : Nat) : Chg P a (b.drewN n) := ⟨h.os, h.tape, h.output, h.size, h.block⟩
end Go.Proofs.Ytpoicbhbkabllaa
