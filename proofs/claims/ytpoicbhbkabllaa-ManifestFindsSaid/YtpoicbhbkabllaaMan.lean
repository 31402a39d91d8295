/- Manifests: how one lies in memory; what came in. -/
import Derived.Test.YtpoicbhbkabllaaIn
namespace Go.Proofs.Ytpoicbhbkabllaa
set_option linter.unusedSimpArgs false
set_option linter.unusedVariables false
open Go.RowKit

structure MFile where
  name : List UInt8
  id : UInt32
  size : Int
  blocks : List Int
structure MMan where
  ver : UInt64
  next : UInt32
  files : List MFile
def encF (f : MFile) (v : Value) : List Value := [.string (bst f.name), .int .u32 (f.id.toNat : Int), .int .i64 f.size, v]
def fileOk (f : MFile) : Prop := f.name.length ≤ maxLen ∧ -9223372036854775808 ≤ f.size ∧ f.size ≤ 9223372036854775807
def cFile : Cdc MFile where
  n := 4
  at_ := fun w S cs f => ∃ v, cs = encF f v ∧ RowOn cInt w S S v f.blocks ∧ fileOk f
  len := fun h => by obtain ⟨v, rfl, _⟩ := h; rfl
  one := fun h => by
    obtain ⟨v, rfl, h, _⟩ := h
    obtain ⟨A, c, rfl, _⟩ := h
    intro u hu
    simp [encF] at hu
    rcases hu with rfl | rfl | rfl | rfl <;> rfl
  keep := fun h hk => by obtain ⟨v, e, h, ok⟩ := h; exact ⟨v, e, h.keep hk hk, ok⟩
  mono := fun h hk => by obtain ⟨v, e, h, ok⟩ := h; exact ⟨v, e, h.mono hk hk, ok⟩
/-- files in blocks below B, all that they lead to too -/
abbrev ByF (w : World) (B : Nat) (v : Value) (l : List MFile) : Prop := RowOn cFile w (fun k => k < B) (fun k => k < B) v l
abbrev ByI (w : World) (B : Nat) (v : Value) (l : List Int) : Prop := RowOn cInt w (fun k => k < B) (fun k => k < B) v l
theorem ByF.below {w w' : World} {B : Nat} {v : Value} {l : List MFile} (h : ByF w B v l) (hb : Below B w w') : ByF w' B v l := h.keep (fun p hp => hb.cell hp) (fun p hp => hb.cell hp)
theorem ByF.more {w : World} {B B' : Nat} {v : Value} {l : List MFile} (h : ByF w B v l) (hB : B ≤ B') : ByF w B' v l := h.mono (fun k hk => Nat.lt_of_lt_of_le hk hB) (fun k hk => Nat.lt_of_lt_of_le hk hB)
theorem ByF.step {w w' : World} {v : Value} {l : List MFile} (h : ByF w w.heap.size v l) (hb : Below w.heap.size w w') : ByF w' w'.heap.size v l := (h.below hb).more hb.size
theorem ByI.below {w w' : World} {B : Nat} {v : Value} {l : List Int} (h : ByI w B v l) (hb : Below B w w') : ByI w' B v l := h.keep (fun p hp => hb.cell hp) (fun p hp => hb.cell hp)
theorem ByI.more {w : World} {B B' : Nat} {v : Value} {l : List Int} (h : ByI w B v l) (hB : B ≤ B') : ByI w B' v l := h.mono (fun k hk => Nat.lt_of_lt_of_le hk hB) (fun k hk => Nat.lt_of_lt_of_le hk hB)
theorem ByI.step {w w' : World} {v : Value} {l : List Int} (h : ByI w w.heap.size v l) (hb : Below w.heap.size w w') : ByI w' w'.heap.size v l := (h.below hb).more hb.size
/-- the cells of the k-th number -/
theorem ByI.cells {w : World} {B : Nat} {A : Option Addr} {n c : Nat} {l : List Int} (h : ByI w B (.slice A n c) l) (k : Nat) (hk : k < l.length) : n = l.length ∧ ∃ ad, A = some ad ∧ ad.block < B ∧ w.cell? (ad.add k) = some (.int .i64 l[k]) ∧ -9223372036854775808 ≤ l[k] ∧ l[k] ≤ 9223372036854775807 := by
  obtain ⟨ad, cs, e, hb, ⟨rfl, ok⟩, hc⟩ := h.at_ k _ (List.getElem?_eq_getElem hk)
  have := hc 0 _ rfl
  simp only [cInt, Cdc.flat, Nat.mul_one, Nat.add_zero] at this
  exact ⟨(h.len_).1, ad, e, hb, this, ok⟩
/-- the cells of the k-th file -/
theorem ByF.cells {w : World} {B : Nat} {A : Option Addr} {n c : Nat} {l : List MFile} (h : ByF w B (.slice A n c) l) (k : Nat) (hk : k < l.length) :
    n = l.length ∧ ∃ ad v, A = some ad ∧ ad.block < B ∧ ByI w B v (l[k]).blocks ∧ fileOk l[k] ∧ (∀ (j : Nat) (u : Value), (encF l[k] v)[j]? = some u → w.cell? ((ad.add (k * 4)).add j) = some u) := by
  obtain ⟨ad, cs, e, hb, ⟨v, rfl, hr, ok⟩, hc⟩ := h.at_ k _ (List.getElem?_eq_getElem hk)
  exact ⟨(h.len_).1, ad, v, e, hb, hr, ok, fun j u hu => by rw [add_add]; exact hc j u hu⟩
theorem ByF.ok {w : World} {B : Nat} {v : Value} {l : List MFile} (h : ByF w B v l) : ∀ f ∈ l, fileOk f := by
  intro f hf
  obtain ⟨i, hi, rfl⟩ := List.mem_iff_getElem.1 hf
  obtain ⟨A, c, rfl, _, _⟩ := h.form
  obtain ⟨_, _, _, _, _, _, ok, _⟩ := h.cells i hi
  exact ok
def encM (m : MMan) (v : Value) : List Value := [.int .u64 (m.ver.toNat : Int), .int .u32 (m.next.toNat : Int), v]
/-- the value v is a manifest -/
def MAt (w : World) (B : Nat) (v : Value) (m : MMan) : Prop := ∃ vf, v = .agg (encM m vf).toArray ∧ ByF w B vf m.files
theorem MAt.below {w w' : World} {B : Nat} {v : Value} {m : MMan} (h : MAt w B v m) (hb : Below B w w') : MAt w' B v m := by obtain ⟨vf, e, h⟩ := h; exact ⟨vf, e, h.below hb⟩
theorem MAt.more {w : World} {B B' : Nat} {v : Value} {m : MMan} (h : MAt w B v m) (hB : B ≤ B') : MAt w B' v m := by obtain ⟨vf, e, h⟩ := h; exact ⟨vf, e, h.more hB⟩
theorem MAt.step {w w' : World} {v : Value} {m : MMan} (h : MAt w w.heap.size v m) (hb : Below w.heap.size w w') : MAt w' w'.heap.size v m := (h.below hb).more hb.size

theorem bst_of (s : ByteArray) : ∃ l, s = bst l ∧ l.length = s.size := ⟨s.data.toList, by unfold bst; simp, by simp⟩
theorem InC.ints {w : World} {cs : List Value} (h : InC w 60 cs) : ∃ v xs, cs = [v] ∧ ByI w w.heap.size v xs := h.row (C := cInt) Try.underlying60 (by kernel_rfl) (by decide) fun cs hc => hc.i64 Try.underlying3
theorem InC.mfile {w : World} {cs : List Value} (h : InC w 62 cs) : ∃ f, cFile.at_ w (fun k => k < w.heap.size) cs f := by
  obtain ⟨hl, hf⟩ := h.fields Try.underlying62 (by kernel_rfl) (by kernel_rfl)
  obtain ⟨u0, h0, g0⟩ := hf 0 _ rfl
  obtain ⟨u1, h1, g1⟩ := hf 1 _ rfl
  obtain ⟨u2, h2, g2⟩ := hf 2 _ rfl
  obtain ⟨u3, h3, g3⟩ := hf 3 _ rfl
  obtain ⟨s, e0, hs⟩ := InC.string Try.underlying9 g0
  obtain ⟨n1, e1, _⟩ := InC.u32 (S := fun _ => True) Try.underlying53 g1
  obtain ⟨n2, e2, k2⟩ := InC.i64 (S := fun _ => True) Try.underlying3 g2
  obtain ⟨v3, xs, e3, hr⟩ := InC.ints g3
  simp at e0 e1 e2 e3
  subst e0; subst e1; subst e2; subst e3
  obtain ⟨l, rfl, hll⟩ := bst_of s
  match cs, hl with
  | [c0, c1, c2, c3], _ =>
    injection h0 with h0
    injection h1 with h1
    injection h2 with h2
    injection h3 with h3
    subst h0; subst h1; subst h2; subst h3
    exact ⟨⟨l, n1, n2, xs⟩, _, rfl, hr, by rw [← hll] at hs; exact hs, k2.1, k2.2⟩
theorem InC.files {w : World} {cs : List Value} (h : InC w 54 cs) : ∃ v xs, cs = [v] ∧ ByF w w.heap.size v xs :=
  h.row (C := cFile) Try.underlying54 (by kernel_rfl) (by decide) fun cs hc => hc.mfile
theorem InC.man {w : World} {cs : List Value} (h : InC w 56 cs) : ∃ m vf, cs = encM m vf ∧ ByF w w.heap.size vf m.files := by
  obtain ⟨hl, hf⟩ := h.fields Try.underlying56 (by kernel_rfl) (by kernel_rfl)
  obtain ⟨u0, h0, g0⟩ := hf 0 _ rfl
  obtain ⟨u1, h1, g1⟩ := hf 1 _ rfl
  obtain ⟨u2, h2, g2⟩ := hf 2 _ rfl
  obtain ⟨n0, e0, _⟩ := InC.u64 (S := fun _ => True) Try.underlying33 g0
  obtain ⟨n1, e1, _⟩ := InC.u32 (S := fun _ => True) Try.underlying53 g1
  obtain ⟨v3, xs, e3, hr⟩ := InC.files g2
  simp at e0 e1 e3
  subst e0; subst e1; subst e3
  match cs, hl with
  | [c0, c1, c2], _ =>
    injection h0 with h0
    injection h1 with h1
    injection h2 with h2
    subst h0; subst h1; subst h2
    exact ⟨⟨n0, n1, xs⟩, _, rfl, hr⟩
end Go.Proofs.Ytpoicbhbkabllaa
