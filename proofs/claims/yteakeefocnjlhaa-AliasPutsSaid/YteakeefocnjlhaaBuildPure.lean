/- The table of neighbours: how it is built (plain), and that it is right. -/
import Derived.Test.YteakeefocnjlhaaNext
namespace Go.Proofs.Yteakeefocnjlhaa
set_option linter.unusedSimpArgs false
set_option linter.unusedVariables false
open Go.RowKit

/-! ### two lists that rise, with the same members, are one -/
theorem rise_uniq : ∀ (a b : List Nat), a.Pairwise (· < ·) → b.Pairwise (· < ·) → (∀ x, x ∈ a ↔ x ∈ b) → a = b
  | [], [], _, _, _ => rfl
  | [], y :: b, _, _, h => by have := (h y).2 (by simp); simp at this
  | x :: a, [], _, _, h => by have := (h x).1 (by simp); simp at this
  | x :: a, y :: b, ha, hb, h => by
    rw [List.pairwise_cons] at ha hb
    have hxy : x = y := by
      have h1 := (h x).1 (by simp)
      have h2 := (h y).2 (by simp)
      simp at h1 h2
      rcases h1 with h1 | h1
      · exact h1
      · rcases h2 with h2 | h2
        · exact h2.symm
        · have := ha.1 y h2
          have := hb.1 x h1
          omega
    subst hxy
    congr 1
    refine rise_uniq a b ha.2 hb.2 fun z => ⟨fun hz => ?_, fun hz => ?_⟩
    · have h1 := (h z).1 (by simp [hz])
      have h2 := ha.1 z hz
      simp at h1
      rcases h1 with h1 | h1
      · omega
      · exact h1
    · have h1 := (h z).2 (by simp [hz])
      have h2 := hb.1 z hz
      simp at h1
      rcases h1 with h1 | h1
      · omega
      · exact h1

/-! ### put in where it stands in order -/
def ins (xs : List Nat) (a j : Nat) : List Nat := xs.take a ++ j :: xs.drop a
theorem ins_len (xs : List Nat) (a j : Nat) (h : a ≤ xs.length) : (ins xs a j).length = xs.length + 1 := by simp [ins]; omega
theorem ins_mem (xs : List Nat) (a j x : Nat) : x ∈ ins xs a j ↔ x = j ∨ x ∈ xs := by
  unfold ins
  rw [List.mem_append, List.mem_cons]
  constructor
  · rintro (h | h | h)
    · exact Or.inr (List.mem_of_mem_take h)
    · exact Or.inl h
    · exact Or.inr (List.mem_of_mem_drop h)
  · rintro (h | h)
    · exact Or.inr (Or.inl h)
    · rw [← List.take_append_drop a xs] at h
      rw [List.mem_append] at h
      rcases h with h | h
      · exact Or.inl h
      · exact Or.inr (Or.inr h)
theorem ins_rise : ∀ (xs : List Nat) (j : Nat), xs.Pairwise (· < ·) → j ∉ xs → (ins xs (xs.countP fun x => decide (x < j)) j).Pairwise (· < ·)
  | [], j, _, _ => by simp [ins]
  | a :: r, j, h, hj => by
    rw [List.pairwise_cons] at h
    simp at hj
    by_cases hlt : a < j
    · have ih := ins_rise r j h.2 hj.2
      rw [List.countP_cons, if_pos (by simpa using hlt)]
      have : ins (a :: r) ((r.countP fun x => decide (x < j)) + 1) j = a :: ins r (r.countP fun x => decide (x < j)) j := by simp [ins]
      rw [this, List.pairwise_cons]
      refine ⟨fun x hx => ?_, ih⟩
      rw [ins_mem] at hx
      rcases hx with rfl | hx
      · exact hlt
      · exact h.1 x hx
    · have h0 : (a :: r).countP (fun x => decide (x < j)) = 0 := by
        rw [List.countP_eq_zero]
        intro x hx
        simp at hx
        rcases hx with rfl | hx
        · simpa using hlt
        · have := h.1 x hx
          simp; omega
      rw [h0]
      have : ins (a :: r) 0 j = j :: a :: r := by simp [ins]
      rw [this, List.pairwise_cons]
      refine ⟨fun x hx => ?_, List.pairwise_cons.2 h⟩
      simp at hx
      rcases hx with rfl | hx
      · omega
      · have := h.1 x hx
        omega

/-! ### who lacks -/
def poorL (W : Nat) (left : List Nat) : List Nat := (List.range left.length).filter fun k => decide (left.getD k 0 < W)
theorem poorL_mem (W : Nat) (left : List Nat) (k : Nat) : k ∈ poorL W left ↔ k < left.length ∧ left.getD k 0 < W := by simp [poorL]
theorem poorL_rise (W : Nat) (left : List Nat) : (poorL W left).Pairwise (· < ·) := List.Pairwise.filter _ List.pairwise_lt_range
theorem poorL_len (W : Nat) (left : List Nat) : (poorL W left).length ≤ left.length := by
  have := List.length_filter_le (fun k => decide (left.getD k 0 < W)) (List.range left.length)
  simpa [poorL] using this
theorem getD_get (l : List Nat) (k : Nat) (h : k < l.length) : l.getD k 0 = l[k] := by simp [List.getD, h]
theorem getD_set (l : List Nat) (k j x : Nat) (h : j < l.length) : (l.set j x).getD k 0 = if j = k then x else l.getD k 0 := by
  simp only [List.getD, List.getElem?_set]
  split
  · subst_vars; simp [h]
  · rfl

structure BSt where
  left : List Nat
  out : List GCell
def mkC (cut oth : Nat) : GCell := ⟨UInt64.ofNat cut, UInt32.ofNat oth⟩
/-- what stands behind i, who lacks, and j, who has: the rests -/
def pay (W : Nat) (left : List Nat) (i j : Nat) : List Nat := (left.set j (left.getD j 0 - (W - left.getD i 0))).set i W
theorem pay_len (W : Nat) (left : List Nat) (i j : Nat) : (pay W left i j).length = left.length := by simp [pay]
def bstep1 (W : Nat) (s : BSt) : Option BSt :=
  match s.left.findIdx? (fun x => decide (x < W)), s.left.findIdx? (fun x => decide (W < x)) with
  | some i, some j => some ⟨pay W s.left i j, s.out.set i (mkC (s.left.getD i 0) j)⟩
  | _, _ => none
def brun (W : Nat) : Nat → BSt → BSt
  | 0, s => s
  | k + 1, s => match bstep1 W (brun W k s) with
    | some s' => s'
    | none => brun W k s
theorem brun_succ (W k : Nat) (s s' : BSt) (h : bstep1 W (brun W k s) = some s') : brun W (k + 1) s = s' := by rw [brun, h]
theorem brun_stop (W k : Nat) (s : BSt) (h : bstep1 W (brun W k s) = none) : ∀ m, brun W (k + m) s = brun W k s
  | 0 => rfl
  | m + 1 => by
    have ih := brun_stop W k s h m
    rw [show k + (m + 1) = (k + m) + 1 from rfl, brun, ih, h]

theorem poor_head (W : Nat) (left : List Nat) (i : Nat) (r : List Nat) (h : poorL W left = i :: r) : left.findIdx? (fun x => decide (x < W)) = some i ∧ i < left.length ∧ left.getD i 0 < W := by
  have hm := (poorL_mem W left i).1 (by rw [h]; simp)
  refine ⟨?_, hm⟩
  rw [List.findIdx?_eq_some_iff_getElem]
  refine ⟨hm.1, by rw [← getD_get]; simpa using hm.2, fun j hji hj => ?_⟩
  rw [← getD_get] at hj
  have hj' : left.getD j 0 < W := by simpa using hj
  have h2 := (poorL_mem W left j).2 ⟨by omega, hj'⟩
  have hr := poorL_rise W left
  rw [h] at h2 hr
  rw [List.pairwise_cons] at hr
  simp at h2
  rcases h2 with h2 | h2
  · omega
  · have := hr.1 j h2
    omega
theorem poor_none (W : Nat) (left : List Nat) (h : poorL W left = []) : left.findIdx? (fun x => decide (x < W)) = none := by
  rw [List.findIdx?_eq_none_iff]
  intro x hx
  obtain ⟨k, hk, rfl⟩ := List.mem_iff_getElem.1 hx
  have : ¬ k ∈ poorL W left := by rw [h]; simp
  rw [poorL_mem, getD_get _ _ hk] at this
  simp
  omega
theorem rich_at (W : Nat) (left : List Nat) (j : Nat) (hj : j < left.length) (h1 : W < left.getD j 0) (h2 : ∀ k, k < j → left.getD k 0 ≤ W) : left.findIdx? (fun x => decide (W < x)) = some j := by
  rw [List.findIdx?_eq_some_iff_getElem]
  refine ⟨hj, by rw [← getD_get]; simpa using h1, fun k hkj hk => ?_⟩
  rw [← getD_get] at hk
  have := h2 k hkj
  have hk' : W < left.getD k 0 := by simpa using hk
  omega
theorem pay_get (W : Nat) (left : List Nat) (i j k : Nat) (hi : i < left.length) (hj : j < left.length) : (pay W left i j).getD k 0 = if i = k then W else if j = k then left.getD j 0 - (W - left.getD i 0) else left.getD k 0 := by
  unfold pay
  rw [getD_set _ _ _ _ (by simpa using hi), getD_set _ _ _ _ hj]
/-- who lacks behind a turn -/
theorem poor_pay (W : Nat) (left : List Nat) (i j : Nat) (r : List Nat) (h : poorL W left = i :: r) (hj : j < left.length) (hjW : W < left.getD j 0) :
    poorL W (pay W left i j) = if left.getD j 0 - (W - left.getD i 0) < W then ins r (r.countP fun x => decide (x < j)) j else r := by
  obtain ⟨_, hi, hiW⟩ := poor_head W left i r h
  have hr := poorL_rise W left
  rw [h, List.pairwise_cons] at hr
  have hmem : ∀ x, x ∈ r ↔ x ≠ i ∧ x < left.length ∧ left.getD x 0 < W := fun x => by
    have h1 := poorL_mem W left x
    rw [h] at h1
    simp only [List.mem_cons] at h1
    constructor
    · intro hx
      have := hr.1 x hx
      exact ⟨by omega, h1.1 (Or.inr hx)⟩
    · rintro ⟨h2, h3⟩
      exact (h1.2 h3).resolve_left h2
  have hjr : j ∉ r := fun hx => by have := (hmem j).1 hx; omega
  have hij : i ≠ j := fun e => by subst e; omega
  by_cases hc : left.getD j 0 - (W - left.getD i 0) < W
  · rw [if_pos hc]
    apply rise_uniq
    · exact poorL_rise _ _
    · exact ins_rise r j hr.2 hjr
    · intro x
      rw [poorL_mem, pay_len, pay_get W left i j x hi hj]
      rw [ins_mem, hmem]
      constructor
      · rintro ⟨h1, h2⟩
        split at h2
        · omega
        · split at h2
          · exact Or.inl (by omega)
          · exact Or.inr ⟨by omega, h1, h2⟩
      · rintro (rfl | ⟨h1, h2, h3⟩)
        · refine ⟨hj, ?_⟩
          rw [if_neg hij, if_pos rfl]
          assumption
        · refine ⟨h2, ?_⟩
          rw [if_neg (fun e => h1 e.symm)]
          split
          · assumption
          · exact h3
  · rw [if_neg hc]
    apply rise_uniq
    · exact poorL_rise _ _
    · exact hr.2
    · intro x
      rw [poorL_mem, pay_len, pay_get W left i j x hi hj]
      rw [hmem]
      constructor
      · rintro ⟨h1, h2⟩
        split at h2
        · omega
        · split at h2
          · omega
          · exact ⟨by omega, h1, h2⟩
      · rintro ⟨h1, h2, h3⟩
        refine ⟨h2, ?_⟩
        rw [if_neg (fun e => h1 e.symm)]
        split
        · subst_vars; omega
        · exact h3

/-! ### sums -/
theorem sum_set : ∀ (l : List Nat) (k x : Nat), k < l.length → (l.set k x).sum + l.getD k 0 = l.sum + x
  | [], k, x, h => by simp at h
  | a :: l, 0, x, h => by simp [List.getD]; omega
  | a :: l, k + 1, x, h => by
    have ih := sum_set l k x (by simpa using h)
    simp [List.getD] at ih ⊢
    omega
theorem pay_sum (W : Nat) (left : List Nat) (i j : Nat) (hi : i < left.length) (hj : j < left.length) (hiW : left.getD i 0 < W) (hjW : W < left.getD j 0) : (pay W left i j).sum = left.sum := by
  have hij : j ≠ i := fun e => by subst e; omega
  unfold pay
  have h1 := sum_set (left.set j (left.getD j 0 - (W - left.getD i 0))) i W (by simpa using hi)
  have h2 := sum_set left j (left.getD j 0 - (W - left.getD i 0)) hj
  rw [getD_set _ _ _ _ hj, if_neg hij] at h1
  omega
theorem sum_le_all (W : Nat) : ∀ (l : List Nat), (∀ x ∈ l, x ≤ W) → l.sum ≤ l.length * W
  | [], _ => by simp
  | a :: l, h => by
    have ih := sum_le_all W l fun x hx => h x (by simp [hx])
    have := h a (by simp)
    simp [Nat.add_mul]
    omega
theorem sum_lt_one (W : Nat) : ∀ (l : List Nat), (∀ x ∈ l, x ≤ W) → (∃ x ∈ l, x < W) → l.sum < l.length * W
  | [], _, h => by obtain ⟨x, hx, _⟩ := h; simp at hx
  | a :: l, h, hx => by
    have h1 := h a (by simp)
    have h2 := sum_le_all W l fun x hx => h x (by simp [hx])
    obtain ⟨x, hx, hlt⟩ := hx
    simp at hx
    rcases hx with rfl | hx
    · simp [Nat.add_mul]; omega
    · have := sum_lt_one W l (fun x hx => h x (by simp [hx])) ⟨x, hx, hlt⟩
      simp [Nat.add_mul]; omega
theorem sum_gt_one (W : Nat) (l : List Nat) (h : l.sum = l.length * W) (h1 : ∀ x ∈ l, W ≤ x) : ∀ x ∈ l, x = W := by
  induction l with
  | nil => simp
  | cons a l ih =>
    have h2 : l.length * W ≤ l.sum := by
      clear ih h
      have h1' : ∀ x ∈ l, W ≤ x := fun x hx => h1 x (by simp [hx])
      clear h1
      induction l with
      | nil => simp
      | cons b l ih =>
        have := ih fun x hx => h1' x (by simp [hx])
        have := h1' b (by simp)
        simp [Nat.add_mul]; omega
    have h3 := h1 a (by simp)
    simp [Nat.add_mul] at h
    intro x hx
    simp at hx
    rcases hx with rfl | hx
    · omega
    · exact ih (by omega) (fun x hx => h1 x (by simp [hx])) x hx
/-- who has is there while one lacks -/
theorem rich_ex (W : Nat) (left : List Nat) (i : Nat) (hs : left.sum = left.length * W) (hi : i < left.length) (hiW : left.getD i 0 < W) (m : Nat) (hm : ∀ k, k < m → left.getD k 0 ≤ W) (hmn : m ≤ left.length) : m < left.length := by
  refine Nat.lt_of_le_of_ne hmn fun e => ?_
  have := sum_lt_one W left (fun x hx => by obtain ⟨k, hk, rfl⟩ := List.mem_iff_getElem.1 hx; rw [← getD_get _ _ hk]; exact hm k (by omega)) ⟨left[i], List.getElem_mem hi, by rw [← getD_get]; exact hiW⟩
  omega
def bad (W : Nat) (left : List Nat) : Nat := left.countP fun x => decide (x ≠ W)
theorem countP_set1 (p : Nat → Bool) : ∀ (l : List Nat) (k x : Nat), k < l.length → (l.set k x).countP p + (if p (l.getD k 0) then 1 else 0) = l.countP p + (if p x then 1 else 0)
  | [], k, x, h => by simp at h
  | a :: l, 0, x, h => by simp only [List.set_cons_zero, List.countP_cons, List.getD_cons_zero]; omega
  | a :: l, k + 1, x, h => by
    have ih := countP_set1 p l k x (by simpa using h)
    simp only [List.set_cons_succ, List.countP_cons, List.getD_cons_succ]
    omega
theorem bad_pay (W : Nat) (left : List Nat) (i j : Nat) (hi : i < left.length) (hj : j < left.length) (hiW : left.getD i 0 < W) (hjW : W < left.getD j 0) : bad W (pay W left i j) + 1 ≤ bad W left := by
  have hij : j ≠ i := fun e => by subst e; omega
  unfold bad pay
  have h1 := countP_set1 (fun x => decide (x ≠ W)) (left.set j (left.getD j 0 - (W - left.getD i 0))) i W (by simpa using hi)
  have h2 := countP_set1 (fun x => decide (x ≠ W)) left j (left.getD j 0 - (W - left.getD i 0)) hj
  rw [getD_set _ _ _ _ hj, if_neg hij] at h1
  rw [if_pos (show decide (left.getD i 0 ≠ W) = true from decide_eq_true (by omega)), if_neg (show ¬ decide (W ≠ W) = true from by simp)] at h1
  rw [if_pos (show decide (left.getD j 0 ≠ W) = true from decide_eq_true (by omega))] at h2
  split at h2 <;> omega
theorem bad_le (W : Nat) (left : List Nat) : bad W left ≤ left.length := List.countP_le_length
end Go.Proofs.Yteakeefocnjlhaa
