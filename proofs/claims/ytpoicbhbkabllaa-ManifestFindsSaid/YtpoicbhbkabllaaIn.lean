/- What came in: arguments that read as data, opened to what they read as. -/
import Derived.Test.YtpoicbhbkabllaaCdc
import Derived.ChangeArms
import Derived.DataReads
import Derived.WideShapes
import Derived.ProofKit
import Derived.OpenShut
import Derived.ShutString
import Derived.ChangeOld
import Derived.Below
import Derived.Carry
import Derived.Lib.SmallJoins
namespace Go.Proofs.Ytpoicbhbkabllaa
set_option linter.unusedSimpArgs false
set_option linter.unusedVariables false
set_option maxRecDepth 100000
open Go.ChangeShapes Go.WideShapes Go.ChangeAt Go.RowKit

/-- these cells read as data of type T -/
def InC (w : World) (T : TypeId) (cs : List Value) : Prop :=
  ∃ (H : Type) (enc : TypeId × Value → H) (n : Nat) (y : DataW H × List MemPlace), DataW.trod enc Try.prog w 0 (fun _ => true) true n T cs = some y

section
variable {w : World} {T e : TypeId} {cs : List Value}
theorem InC.of {H : Type} {enc : TypeId × Value → H} {v : Value} {d : DataW H} {p : List MemPlace} (h : DataW.Trod enc Try.prog w 0 (fun _ => true) true T v d p) : InC w T v.cells.toList := by
  obtain ⟨n, h⟩ := h
  exact ⟨_, enc, n, _, h⟩
theorem InC.int {k : IntKind} (ht : Try.prog.underlying T = some (.int k)) (h : InC w T cs) : ∃ n, cs = [.int k n] ∧ (Lit.int k n).wf = true := by
  obtain ⟨H, enc, m, y, h⟩ := h
  obtain ⟨n, h1, _, h3⟩ := DataW.trod_int ht h
  exact ⟨n, h1, h3⟩
theorem InC.bool (ht : Try.prog.underlying T = some .bool) (h : InC w T cs) : ∃ b, cs = [.bool b] := by
  obtain ⟨H, enc, m, y, h⟩ := h
  obtain ⟨b, h1, _⟩ := DataW.trod_bool ht h
  exact ⟨b, h1⟩
theorem InC.string (ht : Try.prog.underlying T = some .string) (h : InC w T cs) : ∃ s : ByteArray, cs = [.string s] ∧ s.size ≤ maxLen := by
  obtain ⟨H, enc, m, y, h⟩ := h
  obtain ⟨s, h1, _, h3⟩ := DataW.trod_string ht h
  exact ⟨s, h1, h3⟩
theorem InC.struct {fs : Array Field} (ht : Try.prog.underlying T = some (.struct fs)) (h : InC w T cs) :
    cs.length = Try.prog.cellsOf T ∧ ∀ (j : Nat) (f : Field), fs[j]? = some f → InC w f.type ((cs.drop f.offset).take (Try.prog.cellsOf f.type)) := by
  obtain ⟨H, enc, m, y, h⟩ := h
  obtain ⟨xs, n, _, _, hl, hlen, hf⟩ := DataW.trod_struct ht h
  refine ⟨hl, fun j f hj => ?_⟩
  have h1 := hf j f hj
  have hj' : j < fs.size := (Array.getElem?_eq_some_iff.1 hj).1
  exact ⟨H, enc, n, xs[j]'(by omega), by rw [h1]; exact List.getElem?_eq_getElem (by omega)⟩
theorem InC.slice (ht : Try.prog.underlying T = some (.slice e)) (h : InC w T cs) :
    cs = [.slice none 0 0] ∨ ∃ (a : Addr) (len cap : Nat), cs = [.slice (some a) len cap] ∧ len ≤ cap ∧ cap ≤ maxLen ∧
      ∀ i, i < len → ∃ cs', cs'.length = Try.prog.cellsOf e ∧ (∀ j, j < Try.prog.cellsOf e → w.cell? (a.add (i * Try.prog.cellsOf e + j)) = cs'[j]?) ∧ InC w e cs' := by
  obtain ⟨H, enc, m, y, h⟩ := h
  rcases DataW.trod_slice ht h with ⟨h0, _⟩ | ⟨a, len, cap, elems, rest, n, _, rfl, _, _, hl, hm, hlen, hel, _⟩
  · exact .inl h0
  · refine .inr ⟨a, len, cap, rfl, hl, hm, fun i hi => ?_⟩
    have h1 := hel i hi
    rw [List.getElem?_eq_getElem (by omega), Option.bind_eq_some_iff] at h1
    obtain ⟨cs', h2, h3⟩ := h1
    obtain ⟨_, h4, h5⟩ := World.cells?_some h2
    refine ⟨cs', h4, fun j hj => ?_, H, enc, n, _, h3⟩
    rw [← add_add]
    exact h5 j hj
/-- a slice that came in reads as a list -/
theorem InC.row {α : Type} {C : Cdc α} (ht : Try.prog.underlying T = some (.slice e)) (hn : Try.prog.cellsOf e = C.n) (hn0 : 0 < C.n)
    (hel : ∀ cs, InC w e cs → ∃ x, C.at_ w (fun k => k < w.heap.size) cs x) (h : InC w T cs) :
    ∃ v xs, cs = [v] ∧ RowOn C w (fun k => k < w.heap.size) (fun k => k < w.heap.size) v xs := by
  rcases h.slice ht with rfl | ⟨a, len, cap, rfl, hl, hm, hi⟩
  · exact ⟨_, [], rfl, RowOn.nil_⟩
  · rw [hn] at hi
    have hex : ∀ i : Fin len, ∃ (cs : List Value) (x : α), C.at_ w (fun k => k < w.heap.size) cs x ∧ ∀ (j : Nat) (u : Value), cs[j]? = some u → w.cell? (a.add (i.1 * C.n + j)) = some u := by
      intro i
      obtain ⟨cs, h1, h2, h3⟩ := hi i.1 i.2
      obtain ⟨x, hx⟩ := hel cs h3
      refine ⟨cs, x, hx, fun j u hu => ?_⟩
      rw [h2 j (by rw [← h1]; exact (List.getElem?_eq_some_iff.1 hu).1), hu]
    refine ⟨_, List.ofFn fun i => (hex i).choose_spec.choose, rfl, some a, cap, by simp, by simpa using hl, hm, fun hp => ⟨a, rfl, ?_, ?_⟩⟩
    · have hp' : 0 < len := by simpa using hp
      obtain ⟨cs, h1, h2, h3⟩ := hi 0 hp'
      have h4 := h2 0 hn0
      rw [List.getElem?_eq_getElem (by omega)] at h4
      have := World.block_lt_of_cell? w _ h4
      rwa [add_block] at this
    · intro i x hx
      rw [List.getElem?_ofFn] at hx
      split at hx
      · rename_i hi'
        injection hx with hx
        have := (hex ⟨i, hi'⟩).choose_spec.choose_spec
        rw [hx] at this
        exact ⟨_, this.1, this.2⟩
      · cases hx
/-- a struct of one-cell fields: field by field -/
theorem InC.fields {fs : Array Field} (ht : Try.prog.underlying T = some (.struct fs)) (hone : Go.Deep.oneCellFields Try.prog fs = true) (hC : Try.prog.cellsOf T = fs.size) (h : InC w T cs) :
    cs.length = fs.size ∧ ∀ (j : Nat) (f : Field), fs[j]? = some f → ∃ u, cs[j]? = some u ∧ InC w f.type [u] := by
  obtain ⟨hl, hf⟩ := h.struct ht
  rw [hC] at hl
  refine ⟨hl, fun j f hj => ?_⟩
  obtain ⟨ho, hk⟩ := Go.Deep.hone_of hone j f hj
  have h1 := hf j f hj
  have hj' : j < fs.size := (Array.getElem?_eq_some_iff.1 hj).1
  rw [ho, hk] at h1
  refine ⟨cs[j]'(by omega), List.getElem?_eq_getElem (by omega), ?_⟩
  have : (cs.drop j).take 1 = [cs[j]'(by omega)] := by
    rw [List.drop_eq_getElem_cons (by omega)]
    rfl
  rwa [this] at h1
theorem InC.agg {fs : Array Field} {v : Value} {base : Nat} (ht : Try.prog.underlying T = some (.struct fs)) (hv : Value.okWide Try.prog w .any base T v) (h : InC w T v.cells.toList) :
    ∃ cs : List Value, v = .agg cs.toArray ∧ InC w T cs := by
  obtain ⟨cs, rfl, _⟩ := okWide_struct ht hv
  exact ⟨cs.toList, by simp, by simpa [Value.cells] using h⟩
end

section
variable {w : World} {cs : List Value} {S : Nat → Prop} {T : TypeId}
theorem InC.u8 (ht : Try.prog.underlying T = some (.int .u8)) (h : InC w T cs) : ∃ x, c8.at_ w S cs x := by
  obtain ⟨n, rfl, hw⟩ := h.int ht
  obtain ⟨b, rfl⟩ := u8_of_wf hw
  exact ⟨b, rfl, trivial⟩
theorem InC.u32 (ht : Try.prog.underlying T = some (.int .u32)) (h : InC w T cs) : ∃ x, c32.at_ w S cs x := by
  obtain ⟨n, rfl, hw⟩ := h.int ht
  obtain ⟨b, rfl⟩ := u32_of_wf hw
  exact ⟨b, rfl, trivial⟩
theorem InC.u64 (ht : Try.prog.underlying T = some (.int .u64)) (h : InC w T cs) : ∃ x, c64.at_ w S cs x := by
  obtain ⟨n, rfl, hw⟩ := h.int ht
  obtain ⟨b, rfl⟩ := u64_of_wf hw
  exact ⟨b, rfl, trivial⟩
theorem InC.i64 (ht : Try.prog.underlying T = some (.int .i64)) (h : InC w T cs) : ∃ x, cInt.at_ w S cs x := by
  obtain ⟨n, rfl, hw⟩ := h.int ht
  exact ⟨n, rfl, i64_of_wf hw⟩
theorem InC.cbool (ht : Try.prog.underlying T = some .bool) (h : InC w T cs) : ∃ x, cBool.at_ w S cs x := by
  obtain ⟨b, rfl⟩ := h.bool ht
  exact ⟨b, rfl, trivial⟩
theorem InC.cstr (ht : Try.prog.underlying T = some .string) (h : InC w T cs) : ∃ x, cStr.at_ w S cs x := by
  obtain ⟨s, rfl, hs⟩ := h.string ht
  exact ⟨s, rfl, hs⟩
/-- a slice of bytes that came in -/
theorem InC.bytes {v : Value} (h : InC w 30 [v]) : ∃ l, By w w.heap.size v l := by
  obtain ⟨v', xs, e, hr⟩ := h.row (C := c8) Try.underlying30 (by kernel_rfl) (by decide) fun cs hc => hc.u8 Try.underlying5
  injection e with e
  subst e
  exact ⟨xs, hr.toBy⟩
theorem InC.bytes' (h : InC w 30 cs) : ∃ l v, cs = [v] ∧ By w w.heap.size v l := by
  obtain ⟨v', xs, e, hr⟩ := h.row (C := c8) Try.underlying30 (by kernel_rfl) (by decide) fun cs hc => hc.u8 Try.underlying5
  exact ⟨xs, v', e, hr.toBy⟩
end
end Go.Proofs.Ytpoicbhbkabllaa
