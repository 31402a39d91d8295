/- How many draws below a number come to a neighbour; the pieces of a neighbour (plain). -/
import Derived.Test.YteakeefocnjlhaaBuildCnt
import Derived.Test.YteakeefocnjlhaaPieces
namespace Go.Proofs.Yteakeefocnjlhaa
set_option linter.unusedSimpArgs false
set_option linter.unusedVariables false
open Go.RowKit

def toP (W : Nat) (t : List GCell) (x : Nat) : Nat :=
  let c := (t[x / W]?).getD ⟨0, 0⟩
  if x % W < c.cut.toNat then x / W else c.oth.toNat
def metC (W : Nat) (t : List GCell) (k : Nat) : Nat → Nat
  | 0 => 0
  | x + 1 => metC W t k x + (if toP W t x = k then 1 else 0)
theorem metC_le (W : Nat) (t : List GCell) (k : Nat) : ∀ x, metC W t k x ≤ x
  | 0 => Nat.le_refl _
  | x + 1 => by
    have := metC_le W t k x
    rw [metC]
    split <;> omega
theorem metC_cell (W : Nat) (t : List GCell) (k i : Nat) (c : GCell) (hc : t[i]? = some c) (hcW : c.cut.toNat ≤ W) : ∀ m, m ≤ W → metC W t k (W * i + m) = metC W t k (W * i) + ((if i = k then min m c.cut.toNat else 0) + (if c.oth.toNat = k then m - min m c.cut.toNat else 0))
  | 0, _ => by simp
  | m + 1, h => by
    have ih := metC_cell W t k i c hc hcW m (by omega)
    rw [show W * i + (m + 1) = (W * i + m) + 1 from rfl, metC, ih]
    have hd : (W * i + m) / W = i := by rw [Nat.mul_add_div (by omega), Nat.div_eq_of_lt (by omega)]; rfl
    have hm : (W * i + m) % W = m := by rw [Nat.mul_add_mod, Nat.mod_eq_of_lt (by omega)]
    have ht : toP W t (W * i + m) = if m < c.cut.toNat then i else c.oth.toNat := by
      unfold toP
      simp only [hd, hm, hc, Option.getD_some]
    rw [ht]
    by_cases h1 : m < c.cut.toNat
    · rw [if_pos h1, Nat.min_eq_left (by omega), Nat.min_eq_left (by omega)]
      by_cases h2 : i = k
      · rw [if_pos h2, if_pos h2, if_pos h2]
        by_cases h3 : c.oth.toNat = k
        · rw [if_pos h3, if_pos h3]; omega
        · rw [if_neg h3, if_neg h3]; omega
      · rw [if_neg h2, if_neg h2, if_neg h2]
        by_cases h3 : c.oth.toNat = k
        · rw [if_pos h3, if_pos h3]; omega
        · rw [if_neg h3, if_neg h3]
    · rw [if_neg h1, Nat.min_eq_right (by omega), Nat.min_eq_right (by omega)]
      by_cases h3 : c.oth.toNat = k
      · rw [if_pos h3, if_pos h3, if_pos h3]; omega
      · rw [if_neg h3, if_neg h3, if_neg h3]; omega
theorem metC_take (W : Nat) (t : List GCell) (k : Nat) (hok : ∀ c ∈ t, c.cut.toNat ≤ W) : ∀ n, n ≤ t.length → metC W t k (W * n) = ncntF W k 0 (t.take n)
  | 0, _ => by simp [metC, ncntF]
  | n + 1, h => by
    have ih := metC_take W t k hok n (by omega)
    have hc := metC_cell W t k n t[n] (List.getElem?_eq_getElem (by omega)) (hok _ (List.getElem_mem _)) W (Nat.le_refl _)
    have hcW := hok _ (List.getElem_mem (show n < t.length by omega))
    rw [Nat.mul_succ, hc, ih, List.take_add_one, List.getElem?_eq_getElem (by omega), Option.toList_some, ncntF_snoc, List.length_take, Nat.min_eq_left (by omega : n ≤ t.length), Nat.zero_add]
    unfold ncell
    rw [Nat.min_comm]
theorem metC_all (W : Nat) (t : List GCell) (k : Nat) (hok : ∀ c ∈ t, c.cut.toNat ≤ W) : metC W t k (W * t.length) = ncntF W k 0 t := by
  rw [metC_take W t k hok _ (Nat.le_refl _), List.take_length]

theorem toP_at (S : Nat) (t : List GCell) (o m : Nat) (c : GCell) (hc : t[o]? = some c) (hm : m < S) : toP S t (S * o + m) = if m < c.cut.toNat then o else c.oth.toNat := by
  have hd : (S * o + m) / S = o := by rw [Nat.mul_add_div (by omega), Nat.div_eq_of_lt hm]; rfl
  have hmm : (S * o + m) % S = m := by rw [Nat.mul_add_mod, Nat.mod_eq_of_lt hm]
  unfold toP
  simp only [hd, hmm, hc, Option.getD_some]
theorem metC_mono (S : Nat) (t : List GCell) (k : Nat) : ∀ {a b : Nat}, a ≤ b → metC S t k a ≤ metC S t k b
  | a, 0, h => by rw [show a = 0 from by omega]; exact Nat.le_refl _
  | a, b + 1, h => by
    rcases Nat.lt_or_ge a (b + 1) with h1 | h1
    · have := metC_mono S t k (show a ≤ b by omega)
      rw [metC]; omega
    · rw [show a = b + 1 from by omega]; exact Nat.le_refl _
/-- of two draws that come to k the lower one has fewer below it -/
theorem metC_lt (S : Nat) (t : List GCell) (k a b : Nat) (ha : toP S t a = k) (hab : a < b) : metC S t k a < metC S t k b := by
  have h1 := metC_mono S t k (show a + 1 ≤ b by omega)
  rw [metC, if_pos ha] at h1
  omega
def remapL (y x : Nat) : List (Nat × Nat) → Option Nat
  | [] => none
  | p :: r => if x < p.1 + p.2 then (if p.1 ≤ x then some (y + (x - p.1)) else none) else remapL (y + p.2) x r
def backL (left : Nat) : List (Nat × Nat) → Option Nat
  | [] => none
  | p :: r => if left < p.2 then some (p.1 + left) else backL (left - p.2) r
theorem pcs_drop (S to : Nat) (t : List GCell) (o : Nat) (ho : o < t.length) : pcs S to o (t.drop o) = pcA S to o t[o] ++ (pcB S to o t[o] ++ pcs S to (o + 1) (t.drop (o + 1))) := by
  rw [List.drop_eq_getElem_cons ho, pcs, pc1, List.append_assoc]
theorem remapL_at (S to : Nat) (t : List GCell) (hok : ∀ c ∈ t, c.cut.toNat ≤ S) (y x : Nat) (hto : toP S t x = to) (hx : x < S * t.length) : ∀ (d o : Nat), o + d = t.length → S * o ≤ x → remapL (y + metC S t to (S * o)) x (pcs S to o (t.drop o)) = some (y + metC S t to x)
  | 0, o, hd, hox => by
    rw [show o = t.length from by omega] at hox
    omega
  | d + 1, o, hd, hox => by
    have ho : o < t.length := by omega
    have hcS := hok _ (List.getElem_mem ho)
    have hc : t[o]? = some t[o] := List.getElem?_eq_getElem ho
    rw [pcs_drop S to t o ho]
    generalize t[o] = c at *
    have hall := metC_cell S t to o c hc hcS S (Nat.le_refl _)
    rw [Nat.min_eq_right hcS] at hall
    have hS1 : S * (o + 1) = S * o + S := Nat.mul_succ S o
    rw [← hS1] at hall
    have hoS : o * S = S * o := Nat.mul_comm o S
    rcases Nat.lt_or_ge x (S * (o + 1)) with hlt | hge
    · obtain ⟨m, hm⟩ : ∃ m, x = S * o + m := ⟨x - S * o, by omega⟩
      have hmS : m < S := by omega
      have htp := toP_at S t o m c hc hmS
      have hmt := metC_cell S t to o c hc hcS m (by omega)
      rw [← hm] at htp hmt
      rw [hto] at htp
      by_cases h1 : m < c.cut.toNat
      · rw [if_pos h1] at htp
        rw [Nat.min_eq_left (by omega), if_pos htp.symm] at hmt
        unfold pcA
        rw [if_pos ⟨htp.symm, by omega⟩]
        simp only [List.cons_append, List.nil_append]
        rw [remapL, if_pos (by simp only; omega), if_pos (by simp only; omega), hmt]
        simp only [Nat.sub_self, ite_self]
        congr 1
        omega
      · rw [if_neg h1] at htp
        rw [Nat.min_eq_right (by omega), if_pos htp.symm] at hmt
        have hB : pcB S to o c = [(o * S + c.cut.toNat, S - c.cut.toNat)] := by unfold pcB; rw [if_pos ⟨htp.symm, by omega⟩]
        rw [hB]
        unfold pcA
        by_cases h2 : o = to ∧ 0 < c.cut.toNat
        · rw [if_pos h2]
          rw [if_pos h2.1] at hmt
          simp only [List.cons_append, List.nil_append]
          rw [remapL, if_neg (by simp only; omega), remapL, if_pos (by simp only; omega), if_pos (by simp only; omega), hmt]
          congr 1
          first | omega | (simp only; omega)
        · rw [if_neg h2]
          simp only [List.cons_append, List.nil_append]
          rw [remapL, if_pos (by simp only; omega), if_pos (by simp only; omega), hmt]
          congr 1
          try simp only
          by_cases h3 : o = to
          · rw [if_pos h3]; have : ¬ 0 < c.cut.toNat := fun h => h2 ⟨h3, h⟩; omega
          · rw [if_neg h3]; omega
    · have ih := remapL_at S to t hok y x hto hx d (o + 1) (by omega) hge
      rw [← ih, hall]
      unfold pcA pcB
      by_cases h2 : o = to ∧ 0 < c.cut.toNat
      · rw [if_pos h2, if_pos h2.1]
        simp only [List.cons_append, List.nil_append]
        rw [remapL, if_neg (by simp only; omega)]
        by_cases h3 : c.oth.toNat = to ∧ c.cut.toNat < S
        · rw [if_pos h3, if_pos h3.1]
          simp only [List.cons_append, List.nil_append]
          rw [remapL, if_neg (by simp only; omega)]
          congr 1
          first | omega | (simp only; omega)
        · rw [if_neg h3]
          simp only [List.nil_append]
          congr 1
          try simp only
          by_cases h4 : c.oth.toNat = to
          · rw [if_pos h4]; have : ¬ c.cut.toNat < S := fun h => h3 ⟨h4, h⟩; omega
          · rw [if_neg h4]; omega
      · rw [if_neg h2]
        simp only [List.nil_append]
        have hA : (if o = to then c.cut.toNat else 0) = 0 := by
          by_cases h5 : o = to
          · rw [if_pos h5]; have : ¬ 0 < c.cut.toNat := fun h => h2 ⟨h5, h⟩; omega
          · rw [if_neg h5]
        rw [hA]
        by_cases h3 : c.oth.toNat = to ∧ c.cut.toNat < S
        · rw [if_pos h3, if_pos h3.1]
          simp only [List.cons_append, List.nil_append]
          rw [remapL, if_neg (by simp only; omega)]
          congr 1
          first | omega | (simp only; omega)
        · rw [if_neg h3]
          simp only [List.nil_append]
          congr 1
          by_cases h4 : c.oth.toNat = to
          · rw [if_pos h4]; have : ¬ c.cut.toNat < S := fun h => h3 ⟨h4, h⟩; omega
          · rw [if_neg h4]; omega
theorem backL_at (S to : Nat) (t : List GCell) (hok : ∀ c ∈ t, c.cut.toNat ≤ S) (left : Nat) (hlt : left < metC S t to (S * t.length)) : ∀ (d o : Nat), o + d = t.length → metC S t to (S * o) ≤ left →
    ∃ x, backL (left - metC S t to (S * o)) (pcs S to o (t.drop o)) = some x ∧ toP S t x = to ∧ metC S t to x = left ∧ x < S * t.length
  | 0, o, hd, hol => by
    rw [show o = t.length from by omega] at hol
    omega
  | d + 1, o, hd, hol => by
    have ho : o < t.length := by omega
    have hcS := hok _ (List.getElem_mem ho)
    have hc : t[o]? = some t[o] := List.getElem?_eq_getElem ho
    rw [pcs_drop S to t o ho]
    generalize t[o] = c at *
    have hall := metC_cell S t to o c hc hcS S (Nat.le_refl _)
    rw [Nat.min_eq_right hcS] at hall
    have hS1 : S * (o + 1) = S * o + S := Nat.mul_succ S o
    have hSle : S * (o + 1) ≤ S * t.length := Nat.mul_le_mul (Nat.le_refl _) (by omega)
    rw [← hS1] at hall
    have hoS : o * S = S * o := Nat.mul_comm o S
    generalize hM : metC S t to (S * o) = M0 at *
    have hcell : ∀ m, m ≤ S → metC S t to (S * o + m) = M0 + ((if o = to then min m c.cut.toNat else 0) + (if c.oth.toNat = to then m - min m c.cut.toNat else 0)) := fun m hm => by rw [metC_cell S t to o c hc hcS m hm, hM]
    have hrest : ∀ q, q = (if o = to then c.cut.toNat else 0) + (if c.oth.toNat = to then S - c.cut.toNat else 0) → q ≤ left - M0 → ∃ x, backL (left - M0 - q) (pcs S to (o + 1) (t.drop (o + 1))) = some x ∧ toP S t x = to ∧ metC S t to x = left ∧ x < S * t.length := fun q hq h => by
      have ih := backL_at S to t hok left hlt d (o + 1) (by omega) (by omega)
      rw [hall, ← hq] at ih
      rwa [show left - M0 - q = left - (M0 + q) from by omega]
    have Hrest := Lib.hid hrest
    clear hrest
    unfold pcA pcB
    by_cases h2 : o = to ∧ 0 < c.cut.toNat
    · rw [if_pos h2]
      simp only [if_pos h2.1] at hcell
      simp only [List.cons_append, List.nil_append]
      rw [backL]
      by_cases h5 : left - M0 < c.cut.toNat
      · rw [if_pos h5]
        refine ⟨_, rfl, ?_, ?_, ?_⟩
        · simp only; rw [hoS, toP_at S t o (left - M0) c hc (by omega), if_pos h5]; exact h2.1
        · simp only; rw [hoS, hcell _ (by omega), Nat.min_eq_left (by omega), Nat.sub_self, ite_self]; omega
        · simp only; omega
      · rw [if_neg h5]
        by_cases h3 : c.oth.toNat = to ∧ c.cut.toNat < S
        · rw [if_pos h3]
          simp only [if_pos h3.1] at hcell
          simp only [List.cons_append, List.nil_append]
          rw [backL]
          by_cases h6 : left - M0 - c.cut.toNat < S - c.cut.toNat
          · rw [if_pos h6]
            refine ⟨_, rfl, ?_, ?_, ?_⟩
            · simp only; rw [show o * S + c.cut.toNat + (left - M0 - c.cut.toNat) = S * o + (left - M0) from by omega, toP_at S t o (left - M0) c hc (by omega), if_neg h5]; exact h3.1
            · simp only; rw [show o * S + c.cut.toNat + (left - M0 - c.cut.toNat) = S * o + (left - M0) from by omega, hcell _ (by omega), Nat.min_eq_right (by omega)]; omega
            · simp only; omega
          · rw [if_neg h6]
            rw [show left - M0 - c.cut.toNat - (S - c.cut.toNat) = left - M0 - (c.cut.toNat + (S - c.cut.toNat)) from by omega]
            exact Hrest.out _ (by rw [if_pos h2.1, if_pos h3.1]) (by omega)
        · rw [if_neg h3]
          have hB : (if c.oth.toNat = to then S - c.cut.toNat else 0) = 0 := by
            by_cases h4 : c.oth.toNat = to
            · rw [if_pos h4]; have : ¬ c.cut.toNat < S := fun h => h3 ⟨h4, h⟩; omega
            · rw [if_neg h4]
          simp only [List.nil_append]
          exact Hrest.out _ (by rw [hB, if_pos h2.1]; rfl) (by omega)
    · rw [if_neg h2]
      have hA : (if o = to then c.cut.toNat else 0) = 0 := by
        by_cases h5 : o = to
        · rw [if_pos h5]; have : ¬ 0 < c.cut.toNat := fun h => h2 ⟨h5, h⟩; omega
        · rw [if_neg h5]
      simp only [List.nil_append]
      by_cases h3 : c.oth.toNat = to ∧ c.cut.toNat < S
      · rw [if_pos h3]
        simp only [if_pos h3.1] at hcell
        simp only [List.cons_append, List.nil_append]
        rw [backL]
        by_cases h6 : left - M0 < S - c.cut.toNat
        · rw [if_pos h6]
          refine ⟨_, rfl, ?_, ?_, ?_⟩
          · simp only; rw [show o * S + c.cut.toNat + (left - M0) = S * o + (c.cut.toNat + (left - M0)) from by omega, toP_at S t o _ c hc (by omega), if_neg (by omega)]; exact h3.1
          · simp only; rw [show o * S + c.cut.toNat + (left - M0) = S * o + (c.cut.toNat + (left - M0)) from by omega, hcell _ (by omega), Nat.min_eq_right (by omega)]
            by_cases h5 : o = to
            · rw [if_pos h5] at hA ⊢; omega
            · rw [if_neg h5]; omega
          · simp only; omega
        · rw [if_neg h6]
          exact Hrest.out _ (by rw [hA, if_pos h3.1, Nat.zero_add]) (by omega)
      · rw [if_neg h3]
        have hB : (if c.oth.toNat = to then S - c.cut.toNat else 0) = 0 := by
          by_cases h4 : c.oth.toNat = to
          · rw [if_pos h4]; have : ¬ c.cut.toNat < S := fun h => h3 ⟨h4, h⟩; omega
          · rw [if_neg h4]
        simp only [List.nil_append]
        exact Hrest.out 0 (by rw [hA, hB]) (by omega)
end Go.Proofs.Yteakeefocnjlhaa
