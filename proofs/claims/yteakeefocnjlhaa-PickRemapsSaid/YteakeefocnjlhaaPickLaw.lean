/- what the statements of layer 17 ask (plain) -/
import Derived.Test.YteakeefocnjlhaaRemap
import Derived.Test.YteakeefocnjlhaaAwake17
namespace Go.Proofs.Yteakeefocnjlhaa
set_option linter.unusedSimpArgs false
set_option linter.unusedVariables false
open Go.RowKit

theorem mayOk_parts {l : List GArc} {t : List GCell} (h : mayOk l t = true) : l.length = t.length ∧ nbrs l = true ∧ (∀ c ∈ t, c.cut.toNat ≤ gsum l ∧ c.oth.toNat < t.length) ∧ ∀ k (hk : k < l.length), cnt (gsum l) (k : Int) t = l.length * (l[k]).wt.toNat := by
  refine ⟨?_, ?_, ?_, ?_⟩
  · exact Decidable.byContradiction fun e => by rw [mayOk_no2 e] at h; cases h
  · cases hn : nbrs l with
    | true => rfl
    | false => rw [mayOk_no1 hn] at h; cases h
  · have hg : cgood (gsum l) t.length t = true := by
      cases hc : cgood (gsum l) t.length t with
      | true => rfl
      | false => rw [mayOk_no3 hc] at h; cases h
    intro c hc
    have := List.all_eq_true.1 hg c hc
    simp at this
    exact this
  · intro k hk
    exact Decidable.byContradiction fun e => by rw [mayOk_no4 k hk e] at h; cases h
/-- by a table that is right each draw comes to a neighbour -/
theorem palias_ok {l : List GArc} {t : List GCell} (h : mayOk l t = true) {x : Nat} (hx : x < ptotal l) : palias l t x = (toP (gsum l) t x, true) ∧ toP (gsum l) t x < l.length := by
  obtain ⟨h1, h2, h3, h4⟩ := mayOk_parts h
  obtain ⟨hg, hW0, hk, hW1⟩ := ptotal_pos hx
  have hk2 : x / gsum l < t.length := by omega
  have hc := h3 _ (List.getElem_mem hk2)
  rw [palias_yes h1 hx hk2]
  have ht : toP (gsum l) t x = if x % gsum l < (t[x / gsum l]).cut.toNat then x / gsum l else (t[x / gsum l]).oth.toNat := by
    unfold toP
    simp only [List.getElem?_eq_getElem hk2, Option.getD_some]
  rw [ht]
  split
  · exact ⟨rfl, hk⟩
  · exact ⟨by rw [if_pos (by omega)], by omega⟩
theorem rmp_ok {l : List GArc} {t : List GCell} (h : mayOk l t = true) {x : Nat} (hx : x < ptotal l) : rmp l t x = (frontAt l (toP (gsum l) t x) + metC (gsum l) t (toP (gsum l) t x) x, true) := by
  obtain ⟨h1, _⟩ := palias_ok h hx
  unfold rmp
  rw [h1, if_pos ⟨rfl, h⟩]
theorem rmp_no {l : List GArc} {t : List GCell} {x : Nat} (hx : ¬ (x < ptotal l ∧ mayOk l t = true)) : rmp l t x = (0, false) := by
  unfold rmp
  rw [if_neg]
  rintro ⟨h1, h2⟩
  exact hx ⟨(palias_lt h1).2.1, h2⟩
theorem ptotal_eq {l : List GArc} {x : Nat} (hx : x < ptotal l) : ptotal l = gsum l * l.length := by
  obtain ⟨hg, _⟩ := ptotal_pos hx
  unfold ptotal
  rw [if_pos hg]
/-- all draws that come to a neighbour -/
theorem met_all {l : List GArc} {t : List GCell} (h : mayOk l t = true) (hl : t.length ≤ 1048576) (hg : gsum l ≤ 2147483647) (k : Nat) (hk : k < l.length) : metC (gsum l) t k (gsum l * t.length) = l.length * (l[k]).wt.toNat := by
  obtain ⟨h1, h2, h3, h4⟩ := mayOk_parts h
  have h5 := h4 k hk
  have h6 := metC_all (gsum l) t k fun c hc => (h3 c hc).1
  rw [cnt_n, ← h6, Nat.mod_eq_of_lt] at h5
  · exact h5
  · have := metC_le (gsum l) t k (gsum l * t.length)
    have : gsum l * t.length ≤ 2147483647 * 1048576 := Nat.mul_le_mul hg hl
    omega
theorem rises {S : Nat} {t : List GCell} {a b : Nat} (h : toP S t a = toP S t b) : decide (a < b) = decide (metC S t (toP S t a) a < metC S t (toP S t b) b) := by
  rcases Nat.lt_trichotomy a b with h1 | h1 | h1
  · have := metC_lt S t (toP S t a) a b rfl h1
    rw [decide_eq_true h1, decide_eq_true (by rw [← h]; exact this)]
  · subst h1; simp
  · have := metC_lt S t (toP S t b) b a rfl h1
    rw [decide_eq_false (by omega), decide_eq_false (by rw [h]; omega)]
end Go.Proofs.Yteakeefocnjlhaa
