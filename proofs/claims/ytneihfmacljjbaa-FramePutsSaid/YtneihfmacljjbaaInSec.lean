/- Sections that came in -/
import Derived.Test.YtneihfmacljjbaaIn
import Derived.Test.YtneihfmacljjbaaSecRow
namespace Go.Proofs.Ytneihfmacljjbaa
set_option linter.unusedSimpArgs false
set_option linter.unusedVariables false
open Go.ChangeShapes Go.WideShapes Go.ChangeAt Go.RowKit

theorem InC.sec {w : World} {cs : List Value} (h : InC w 46 cs) : ∃ (k : UInt8) (l : List UInt8) (v : Value), cs = [.int .u8 (k.toNat : Int), v] ∧ By w w.heap.size v l := by
  obtain ⟨hl, hf⟩ := h.fields Try.underlying46 (by kernel_rfl) (by kernel_rfl)
  obtain ⟨u0, h0, g0⟩ := hf 0 _ rfl
  obtain ⟨u1, h1, g1⟩ := hf 1 _ rfl
  obtain ⟨k, e0, _⟩ := InC.u8 (S := fun _ => True) Try.underlying5 g0
  obtain ⟨l, hb⟩ := InC.bytes g1
  simp at e0
  subst e0
  match cs, hl with
  | [c0, c1], _ =>
    injection h0 with h0
    injection h1 with h1
    subst h0; subst h1
    exact ⟨k, l, _, rfl, hb⟩
/-- Sections' cells as a codec -/
def cSec : Cdc Sect where
  n := 2
  at_ := fun w S cs s => ∃ v, cs = [b8 s.1, v] ∧ RowOn c8 w S S v s.2
  len := fun h => by obtain ⟨v, rfl, _⟩ := h; rfl
  one := fun h => by
    obtain ⟨v, rfl, h⟩ := h; obtain ⟨A, c, rfl, _⟩ := h; intro u hu
    simp at hu
    rcases hu with rfl | rfl <;> rfl
  keep := fun h hk => by obtain ⟨v, e, h⟩ := h; exact ⟨v, e, h.keep hk hk⟩
  mono := fun h hk => by obtain ⟨v, e, h⟩ := h; exact ⟨v, e, h.mono hk hk⟩
/-- the elder words for a row of Sections -/
theorem RowOn.toByS {w : World} {B : Nat} {v : Value} {ss : List Sect} (h : RowOn cSec w (fun k => k < B) (fun k => k < B) v ss) : ByS w B v ss := by
  obtain ⟨A, c, rfl, h2, h3, h4⟩ := h
  rcases Nat.eq_zero_or_pos ss.length with h0 | h0
  · have : ss = [] := List.eq_nil_of_length_eq_zero h0
    subst this
    exact ⟨A, c, [], rfl, h2, h3, rfl, ⟨by simp [sCells], fun h => by simp at h⟩, fun i u s hu => by simp at hu⟩
  · obtain ⟨ad, rfl, hb, hc⟩ := h4 h0
    have hex : ∀ i : Fin ss.length, ∃ v, RowOn c8 w (fun k => k < B) (fun k => k < B) v (ss[i.1]'i.2).2 ∧ w.cell? (ad.add (i.1 * 2)) = some (b8 (ss[i.1]'i.2).1) ∧ w.cell? (ad.add (i.1 * 2 + 1)) = some v := by
      intro i
      obtain ⟨cs, ⟨v, rfl, hr⟩, hcs⟩ := hc i.1 _ (List.getElem?_eq_getElem i.2)
      exact ⟨v, hr, hcs 0 _ rfl, hcs 1 _ rfl⟩
    have hvl : (List.ofFn fun i => (hex i).choose).length = ss.length := by simp
    refine ⟨some ad, c, List.ofFn fun i => (hex i).choose, rfl, h2, h3, hvl, ⟨sCells_length _ _ hvl, fun _ => ⟨ad, rfl, hb, fun j u hu => ?_⟩⟩, fun i u s hu hs => ?_⟩
    · have hj : j < ss.length * 2 := by
        have := (List.getElem?_eq_some_iff.1 hu).1
        rwa [sCells_length _ _ hvl] at this
      rcases Nat.mod_two_eq_zero_or_one j with hm | hm
      · obtain ⟨i, rfl⟩ : ∃ i, j = i * 2 := ⟨j / 2, by omega⟩
        have hi' : i < ss.length := by omega
        have hs := (hex ⟨i, hi'⟩).choose_spec
        rw [sCells_get0 ss _ i _ hvl (List.getElem?_eq_getElem hi')] at hu
        rw [hs.2.1, ← hu]
      · obtain ⟨i, rfl⟩ : ∃ i, j = i * 2 + 1 := ⟨j / 2, by omega⟩
        have hi' : i < ss.length := by omega
        have hs := (hex ⟨i, hi'⟩).choose_spec
        rw [sCells_get1 ss _ i (hex ⟨i, hi'⟩).choose hvl (by rw [List.getElem?_ofFn, dif_pos hi'])] at hu
        rw [hs.2.2, ← hu]
    · rw [List.getElem?_ofFn] at hu
      split at hu
      · rename_i hi
        injection hu with hu
        have := (hex ⟨i, hi⟩).choose_spec.1.toBy
        rw [hu] at this
        rw [List.getElem?_eq_getElem hi] at hs
        injection hs with hs
        subst hs
        exact this
      · cases hu
theorem InC.secs {w : World} {v : Value} (h : InC w 48 [v]) : ∃ ss, ByS w w.heap.size v ss := by
  obtain ⟨v', xs, e, hr⟩ := h.row (C := cSec) Try.underlying48 (by kernel_rfl) (by decide) fun cs hc => by
    obtain ⟨k, l, v, rfl, hb⟩ := hc.sec
    obtain ⟨A, c, rfl, _⟩ := id hb
    exact ⟨(k, l), _, rfl, hb.toRow⟩
  injection e with e
  subst e
  exact ⟨xs, hr.toByS⟩
end Go.Proofs.Ytneihfmacljjbaa
