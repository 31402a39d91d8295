/- What is put is read: cells. -/
import Derived.Test.YteakeefocnjlhaaAput
namespace Go.Proofs.Yteakeefocnjlhaa
set_option linter.unusedSimpArgs false
set_option linter.unusedVariables false
open Go.RowKit

def cfit (W n : Nat) (l : List GCell) : Bool := l.all fun c => decide (c.cut.toNat ≤ W) && decide (c.oth.toNat < n)
theorem cfit_snoc (W n : Nat) (l : List GCell) (k : Nat) (hk : k < l.length) : cfit W n (l.take (k + 1)) = (cfit W n (l.take k) && (decide ((l[k]).cut.toNat ≤ W) && decide ((l[k]).oth.toNat < n))) := by
  unfold cfit
  rw [List.take_add_one, List.all_append, List.getElem?_eq_getElem hk]
  simp
theorem mkC_self (c : GCell) : mkC c.cut.toNat c.oth.toNat = c := by
  unfold mkC; simp
theorem cput_cons (c : GCell) (t : List GCell) : cput (c :: t) = vput c.cut.toNat ++ (vput c.oth.toNat ++ cput t) := by
  simp [cput, cput1]
theorem numS_err1 (most : Nat) : numS most [] 9 = (0, [], 9) := by unfold numS; rw [if_pos (by decide)]
theorem cget_good (W n : Nat) : ∀ (t : List GCell) (acc : List GCell), cfit W n t = true → cget W (n - 1) t.length acc (cput t) 0 = (acc ++ t, [], 0)
  | [], acc, _ => by simp [cget, cput]
  | c :: t, acc, h => by
    unfold cfit at h
    rw [List.all_cons, Bool.and_eq_true, Bool.and_eq_true] at h
    have h1 := of_decide_eq_true h.1.1
    have h2 := of_decide_eq_true h.1.2
    rw [cput_cons, List.length_cons, cget]
    have e1 : ∀ r, numS W (vput c.cut.toNat ++ r) 0 = (c.cut.toNat, r, 0) := fun r => by
      unfold numS; rw [if_neg (by simp), numR_vput _ _ _ (u64_lt c.cut) h1]
    have e2 : ∀ r, numS (n - 1) (vput c.oth.toNat ++ r) 0 = (c.oth.toNat, r, 0) := fun r => by
      have := u32_lt c.oth
      unfold numS; rw [if_neg (by simp), numR_vput _ _ _ (by omega) (by omega)]
    rw [e1]
    simp only
    rw [e2]
    simp only [ne_eq, not_true, if_false, mkC_self]
    rw [cget_good W n t (acc ++ [c]) h.2]
    simp
theorem cget_bad (W n : Nat) : ∀ (t : List GCell) (acc : List GCell), cfit W n t = false → t.length ≤ n → cget W (n - 1) t.length acc (cput t) 0 = ([], [], 9)
  | [], acc, h, _ => by simp [cfit] at h
  | c :: t, acc, h, hn => by
    rw [cput_cons, List.length_cons, cget]
    simp only [List.length_cons] at hn
    have ho := u32_lt c.oth
    by_cases h1 : c.cut.toNat ≤ W
    · have e1 : ∀ r, numS W (vput c.cut.toNat ++ r) 0 = (c.cut.toNat, r, 0) := fun r => by
        unfold numS; rw [if_neg (by simp), numR_vput _ _ _ (u64_lt c.cut) h1]
      rw [e1]
      simp only
      by_cases h2 : c.oth.toNat < n
      · have e2 : ∀ r, numS (n - 1) (vput c.oth.toNat ++ r) 0 = (c.oth.toNat, r, 0) := fun r => by
          unfold numS; rw [if_neg (by simp), numR_vput _ _ _ (by omega) (by omega)]
        rw [e2]
        simp only [ne_eq, not_true, if_false, mkC_self]
        refine cget_bad W n t _ ?_ (by omega)
        unfold cfit at h ⊢
        rw [List.all_cons] at h
        simpa [h1, h2] using h
      · have e2 : ∀ r, numS (n - 1) (vput c.oth.toNat ++ r) 0 = (0, [], 9) := fun r => by
          unfold numS; rw [if_neg (by simp), numR_vput_big _ _ _ (by omega) (by omega)]
        rw [e2]
        simp
    · have e1 : ∀ r, numS W (vput c.cut.toNat ++ r) 0 = (0, [], 9) := fun r => by
        unfold numS; rw [if_neg (by simp), numR_vput_big _ _ _ (u64_lt c.cut) (by omega)]
      rw [e1]
      simp only
      rw [numS_err1]
      simp
end Go.Proofs.Yteakeefocnjlhaa
