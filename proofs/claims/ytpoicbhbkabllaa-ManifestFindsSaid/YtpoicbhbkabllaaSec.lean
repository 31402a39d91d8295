/- a Section in memory: a block of two cells -/
import Derived.Test.YtpoicbhbkabllaaBytes
import Derived.Deep.WholeRow
namespace Go.Proofs.Ytpoicbhbkabllaa
set_option linter.unusedSimpArgs false
set_option linter.unusedVariables false
open Go.RowKit

theorem infoSec : (Try.prog.info? 108).map (·.size) = some 2 := by kernel_rfl
/-- block g holds a Section -/
def SecAt (w : World) (g : Nat) (k v : Value) : Prop := w.heap[g]? = some (.cells #[k, v] 108 (0, 0))
theorem gsetRow (w : World) (g : Nat) (cs : Array Value) : w.grownBy (w.setRow g cs) (some g) :=
  ⟨rfl, rfl, rfl, by simp, fun i _ hne => setRow_other w g i cs (fun e => hne (by rw [e]))⟩
theorem SecAt.new_ (w : World) (k v : Value) : SecAt (w.alloc (.cells #[k, v] 108)) w.heap.size k v := heap_alloc_new w _
theorem SecAt.alloc {w : World} {g : Nat} {k v : Value} (h : SecAt w g k v) (hg : g < w.heap.size) (o : Obj) : SecAt (w.alloc o) g k v := (heap_alloc_old w o hg).trans h
theorem SecAt.below {w w' : World} {g B : Nat} {k v : Value} (h : SecAt w g k v) (hg : g < B) (hb : Below B w w') : SecAt w' g k v := (hb.block g hg).trans h
theorem SecAt.put {w : World} {g : Nat} {k v : Value} (h : SecAt w g k v) (k' v' : Value) : SecAt (w.setRow g #[k', v']) g k' v' := setRow_heap _ _ _ _ _ _ h
theorem SecAt.other {w : World} {g : Nat} {k v : Value} (h : SecAt w g k v) (g' : Nat) (hne : g ≠ g') (cs : Array Value) : SecAt (w.setRow g' cs) g k v := (setRow_other w g' g cs hne).trans h
theorem SecAt.lt {w : World} {g : Nat} {k v : Value} (h : SecAt w g k v) : g < w.heap.size := (Array.getElem?_eq_some_iff.1 h).1
theorem SecAt.cell0 {w : World} {g : Nat} {k v : Value} (h : SecAt w g k v) : w.cell? { block := g, off := 0 } = some k := by
  unfold SecAt at h; simp [World.cell?, h]
theorem SecAt.cell1 {w : World} {g : Nat} {k v : Value} (h : SecAt w g k v) : w.cell? { block := g, off := 1 } = some v := by
  unfold SecAt at h; simp [World.cell?, h]
theorem Ow.setRow_ {w : World} {base : Nat} {v : Value} {l : List UInt8} (h : Ow w base v l) {g : Nat} (hg : g < base) (cs : Array Value) : Ow (w.setRow g cs) base v l :=
  h.keep (gsetRow w g cs) (by
    cases hv : v.ownBlock with
    | none => exact .inl rfl
    | some k => exact .inr (fun e => by injection e with e; have := (h.blk k hv).1; omega))
theorem By.setRow_ {w : World} {B : Nat} {v : Value} {l : List UInt8} (h : By w B v l) {g : Nat} (hg : B ≤ g) (cs : Array Value) : By (w.setRow g cs) B v l :=
  h.below (bsetRow (Below.refl _ _) hg cs)

theorem results_sec {fn : Func} {p q r : Tmp} (h : fn.results = #[.cell p 108, .tmp q, .tmp r]) (tmps : Array Value) (w : World) (g : Nat) (k v : Value)
    (hp : tmps.getD p undef = .pointer (some ⟨g, 0, none⟩)) (hs : SecAt w g k v) :
    (results fn tmps).run Try.prog w = .ok (.tuple #[.agg #[k, v], tmps.getD q undef, tmps.getD r undef]) w := by
  have hp' : tmps[p]?.getD undef = .pointer (some ⟨g, 0, none⟩) := by simpa using hp
  have hr := run_loadVar_row w g 108 108 #[k, v] (0, 0) _ hs Try.underlying108 rfl infoSec
  simp [results, h, hp', asAddr, hr]

theorem wpList_store_sec {ops : Array Oper} {rest : List Oper} {o : Oper} {a : Act} {w : World} {Q : Exit → Act → World → Prop} (hgd : o.guard = none) (x y : Operand) (ho : o.op = .store 108 x y)
    (g : Nat) (k v k' v' : Value) (hx : a.eval x = .pointer (some ⟨g, 0, none⟩)) (hy : a.eval y = .agg #[k', v']) (hs : SecAt w g k v) (h1 : k'.oneCell' = true) (h2 : v'.oneCell' = true)
    (h : SecAt (w.setRow g #[k', v']) g k' v' → wpList Try.prog ops Q rest (a.put o.dst undef) (w.setRow g #[k', v'])) : wpList Try.prog ops Q (o :: rest) a w :=
  wpList_store_row hgd 108 x y ho g #[k', v'] hx hy 108 #[k, v] hs infoSec rfl (by
    intro u hu
    simp at hu
    rcases hu with rfl | rfl
    · exact h1
    · exact h2) (h (hs.put k' v'))
theorem wpList_load_sec {ops : Array Oper} {rest : List Oper} {o : Oper} {a : Act} {w : World} {Q : Exit → Act → World → Prop} (hgd : o.guard = none) (x : Operand) (ho : o.op = .load 108 x)
    (g : Nat) (k v : Value) (hx : a.eval x = .pointer (some ⟨g, 0, none⟩)) (hs : SecAt w g k v)
    (h : wpList Try.prog ops Q rest (a.put o.dst (.agg #[k, v])) w) : wpList Try.prog ops Q (o :: rest) a w :=
  wpList_load_row hgd 108 x ho g hx 108 #[k, v] (0, 0) _ hs Try.underlying108 rfl infoSec h
end Go.Proofs.Ytpoicbhbkabllaa
