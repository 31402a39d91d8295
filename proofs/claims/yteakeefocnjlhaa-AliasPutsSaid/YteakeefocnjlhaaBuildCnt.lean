/- The table of neighbours: each neighbour is come to by d times its weight (plain). -/
import Derived.Test.YteakeefocnjlhaaBuildPure
namespace Go.Proofs.Yteakeefocnjlhaa
set_option linter.unusedSimpArgs false
set_option linter.unusedVariables false
open Go.RowKit

/-! ### how many draws come to a neighbour, without wrapping -/
def ncell (W k i : Nat) (c : GCell) : Nat := (if i = k then min c.cut.toNat W else 0) + (if c.oth.toNat = k then W - min c.cut.toNat W else 0)
def ncntF (W k : Nat) : Nat → List GCell → Nat
  | _, [] => 0
  | o, c :: r => ncell W k o c + ncntF W k (o + 1) r
theorem ncntF_set (W k : Nat) : ∀ (l : List GCell) (o i : Nat) (c0 c : GCell), l[i]? = some c0 → ncntF W k o (l.set i c) + ncell W k (o + i) c0 = ncntF W k o l + ncell W k (o + i) c
  | [], o, i, c0, c, h => by simp at h
  | a :: l, o, 0, c0, c, h => by
    simp at h
    subst h
    simp [ncntF]
    omega
  | a :: l, o, i + 1, c0, c, h => by
    have ih := ncntF_set W k l (o + 1) i c0 c (by simpa using h)
    simp only [List.set_cons_succ, ncntF]
    rw [show o + 1 + i = o + (i + 1) from by omega] at ih
    omega
theorem ncntF_snoc (W k : Nat) : ∀ (l : List GCell) (o : Nat) (c : GCell), ncntF W k o (l ++ [c]) = ncntF W k o l + ncell W k (o + l.length) c
  | [], o, c => by simp [ncntF]
  | a :: l, o, c => by
    have ih := ncntF_snoc W k l (o + 1) c
    simp only [List.cons_append, ncntF, ih, List.length_cons]
    rw [show o + 1 + l.length = o + (l.length + 1) from by omega]
    omega
theorem cstep_n (W : Nat) (k i : Nat) (c : GCell) (N : Nat) : cstep W (k : Int) i c (N % 18446744073709551616) = (N + ncell W k i c) % 18446744073709551616 := by
  unfold cstep ncell
  simp only
  have e : (if W < c.cut.toNat then W else c.cut.toNat) = min c.cut.toNat W := by simp only [Nat.min_def]; split <;> split <;> omega
  rw [e]
  generalize min c.cut.toNat W = m
  by_cases h1 : i = k
  · have h1' : (i : Int) = (k : Int) := by omega
    rw [if_pos h1, if_pos h1']
    by_cases h2 : c.oth.toNat = k
    · have h2' : (c.oth.toNat : Int) = (k : Int) := by omega
      rw [if_pos h2, if_pos h2']; omega
    · have h2' : ¬ (c.oth.toNat : Int) = (k : Int) := by omega
      rw [if_neg h2, if_neg h2']; omega
  · have h1' : ¬ (i : Int) = (k : Int) := by omega
    rw [if_neg h1, if_neg h1']
    by_cases h2 : c.oth.toNat = k
    · have h2' : (c.oth.toNat : Int) = (k : Int) := by omega
      rw [if_pos h2, if_pos h2']; omega
    · have h2' : ¬ (c.oth.toNat : Int) = (k : Int) := by omega
      rw [if_neg h2, if_neg h2']; omega
theorem cntK_n (W k : Nat) (l : List GCell) : ∀ m, m ≤ l.length → cntK W (k : Int) l m = ncntF W k 0 (l.take m) % 18446744073709551616
  | 0, _ => by simp [cntK, ncntF]
  | m + 1, h => by
    rw [cntK_succ W _ l m (by omega), cntK_n W k l m (by omega), cstep_n, List.take_add_one, List.getElem?_eq_getElem (by omega), Option.toList_some, ncntF_snoc, List.length_take, Nat.min_eq_left (by omega), Nat.zero_add]
theorem cnt_n (W k : Nat) (l : List GCell) : cnt W (k : Int) l = ncntF W k 0 l % 18446744073709551616 := by
  rw [cnt, cntK_n W k l l.length (Nat.le_refl _), List.take_length]

/-! ### what holds at each turn -/
structure BInv (W n M : Nat) (d0 : Nat → Nat) (s : BSt) : Prop where
  ll : s.left.length = n
  ol : s.out.length = n
  sum : s.left.sum = n * W
  un : ∀ k, k < n → s.left.getD k 0 ≠ W → s.out[k]? = some (mkC W k)
  cn : ∀ k, k < n → ncntF W k 0 s.out + s.left.getD k 0 = W + d0 k
  ok : ∀ c ∈ s.out, c.cut.toNat ≤ W ∧ c.oth.toNat < n
  mx : ∀ k, k < n → s.left.getD k 0 ≤ M
theorem mkC_cut (c o : Nat) (h : c < 18446744073709551616) : (mkC c o).cut.toNat = c := by simp only [mkC, UInt64.toNat_ofNat']; omega
theorem mkC_oth (c o : Nat) (h : o < 4294967296) : (mkC c o).oth.toNat = o := by simp only [mkC, UInt32.toNat_ofNat']; omega
theorem BInv.next {W n M : Nat} {d0 : Nat → Nat} {s : BSt} (h : BInv W n M d0 s) (hn : n ≤ 4294967296) (hW : W < 18446744073709551616) (hWM : W ≤ M) (i j : Nat) (hi : i < n) (hj : j < n) (hiW : s.left.getD i 0 < W) (hjW : W < s.left.getD j 0) :
    BInv W n M d0 ⟨pay W s.left i j, s.out.set i (mkC (s.left.getD i 0) j)⟩ := by
  have hij : i ≠ j := fun e => by subst e; omega
  have hi' : i < s.left.length := by rw [h.ll]; exact hi
  have hj' : j < s.left.length := by rw [h.ll]; exact hj
  have hg := fun k => pay_get W s.left i j k hi' hj'
  have hoi := h.un i hi (by omega)
  refine ⟨by rw [pay_len]; exact h.ll, by rw [List.length_set]; exact h.ol, by rw [pay_sum W s.left i j hi' hj' hiW hjW]; exact h.sum, ?_, ?_, ?_, ?_⟩
  · intro k hk hne
    simp only [hg] at hne
    rw [List.getElem?_set]
    by_cases h1 : i = k
    · rw [if_pos h1] at hne; exact absurd rfl hne
    · rw [if_neg h1] at hne ⊢
      by_cases h2 : j = k
      · subst h2; exact h.un j hk (by omega)
      · rw [if_neg h2] at hne; exact h.un k hk hne
  · intro k hk
    have hs := ncntF_set W k s.out 0 i (mkC W i) (mkC (s.left.getD i 0) j) hoi
    have hc := h.cn k hk
    simp only [hg]
    unfold ncell at hs
    rw [mkC_cut W i hW, mkC_oth W i (by omega), mkC_cut _ _ (by omega), mkC_oth _ _ (by omega), Nat.zero_add] at hs
    rw [Nat.min_eq_left (Nat.le_refl W), Nat.min_eq_left (by omega : s.left.getD i 0 ≤ W)] at hs
    by_cases h1 : i = k
    · have h2 : ¬ j = k := fun e => hij (h1.trans e.symm)
      rw [if_pos h1, if_pos h1, if_pos h1, if_neg h2] at hs
      rw [if_pos h1]
      subst h1
      omega
    · rw [if_neg h1, if_neg h1, if_neg h1] at hs
      rw [if_neg h1]
      by_cases h2 : j = k
      · rw [if_pos h2] at hs ⊢
        subst h2
        omega
      · rw [if_neg h2] at hs ⊢
        omega
  · intro c hc
    rcases List.mem_or_eq_of_mem_set hc with hc | rfl
    · exact h.ok c hc
    · rw [mkC_cut _ _ (by omega), mkC_oth _ _ (by omega)]
      omega
  · intro k hk
    have := h.mx k hk
    have hmj := h.mx j hj
    simp only [hg]
    split
    · exact hWM
    · split
      · omega
      · exact this

/-! ### the first rests and cells -/
def bst0 (l : List GArc) : BSt := ⟨(List.range l.length).map (left0 l), (List.range l.length).map (mkC (gsum l))⟩
def btab (l : List GArc) : List GCell := (brun (gsum l) (l.length + 1) (bst0 l)).out
theorem ncntF_first (W k : Nat) (hW : W < 18446744073709551616) : ∀ (n o : Nat), o + n ≤ 4294967296 → ncntF W k o ((List.range' o n).map (mkC W)) = if o ≤ k ∧ k < o + n then W else 0
  | 0, o, _ => by rw [if_neg (by omega)]; simp [ncntF]
  | n + 1, o, h => by
    have ih := ncntF_first W k hW n (o + 1) (by omega)
    simp only [List.range'_succ, List.map_cons, ncntF, ih]
    unfold ncell
    rw [mkC_cut W o hW, mkC_oth W o (by omega), Nat.min_eq_left (Nat.le_refl W), Nat.sub_self]
    by_cases h1 : o = k
    · rw [if_pos h1, if_pos h1, if_neg (by omega), if_pos (by omega)]; rfl
    · rw [if_neg h1, if_neg h1]
      by_cases h2 : o + 1 ≤ k ∧ k < o + 1 + n
      · rw [if_pos h2, if_pos (by omega)]; omega
      · rw [if_neg h2, if_neg (by omega)]
theorem sum_mul (n : Nat) : ∀ l : List Nat, (l.map fun x => n * x).sum = n * l.sum
  | [] => by simp
  | a :: l => by simp [sum_mul n l, Nat.mul_add]
theorem lefts_sum (l : List GArc) : ((List.range l.length).map (left0 l)).sum = l.length * gsum l := by
  have : (List.range l.length).map (left0 l) = (l.map fun a => a.wt.toNat).map fun x => l.length * x := by
    apply List.ext_getElem
    · simp
    · intro i h1 h2
      simp at h1
      simp [left0, List.getElem?_eq_getElem h1]
  rw [this, sum_mul]
  rfl
theorem getD_lefts (l : List GArc) (k : Nat) (hk : k < l.length) : ((List.range l.length).map (left0 l)).getD k 0 = left0 l k := by
  rw [getD_get _ _ (by simpa using hk)]
  simp
theorem bst0_inv (l : List GArc) (hl : l.length ≤ 1048576) (hg : gsum l ≤ 2147483647) : BInv (gsum l) l.length 4503599627370496 (left0 l) (bst0 l) := by
  refine ⟨by simp [bst0], by simp [bst0], lefts_sum l, ?_, ?_, ?_, ?_⟩
  · intro k hk _
    simp [bst0, List.getElem?_range hk]
  · intro k hk
    have := ncntF_first (gsum l) k (by omega) l.length 0 (by omega)
    rw [← List.range_eq_range', if_pos (by omega)] at this
    show ncntF (gsum l) k 0 ((List.range l.length).map (mkC (gsum l))) + ((List.range l.length).map (left0 l)).getD k 0 = _
    rw [this, getD_lefts l k hk]
  · intro c hc
    simp [bst0] at hc
    obtain ⟨k, hk, rfl⟩ := hc
    rw [mkC_cut _ _ (by omega), mkC_oth _ _ (by omega)]
    omega
  · intro k hk
    show ((List.range l.length).map (left0 l)).getD k 0 ≤ _
    rw [getD_lefts l k hk, left0, List.getElem?_eq_getElem hk]
    have h1 := u32_lt (l[k]).wt
    have : l.length * (l[k]).wt.toNat ≤ 1048576 * 4294967296 := Nat.mul_le_mul hl (by omega)
    simpa using this
/-- one turn, as the program goes: or nobody lacks -/
theorem BInv.turn {W n M : Nat} {d0 : Nat → Nat} {s : BSt} (h : BInv W n M d0 s) : (poorL W s.left = [] ∧ bstep1 W s = none) ∨
    ∃ i j r, poorL W s.left = i :: r ∧ i < n ∧ j < n ∧ s.left.getD i 0 < W ∧ W < s.left.getD j 0 ∧ bstep1 W s = some ⟨pay W s.left i j, s.out.set i (mkC (s.left.getD i 0) j)⟩ ∧ (∀ k, k < j → s.left.getD k 0 ≤ W) := by
  cases hp : poorL W s.left with
  | nil => exact Or.inl ⟨rfl, by rw [bstep1, poor_none W s.left hp]⟩
  | cons i r =>
    obtain ⟨h1, h2, h3⟩ := poor_head W s.left i r hp
    right
    cases hf : s.left.findIdx? (fun x => decide (W < x)) with
    | none =>
      rw [List.findIdx?_eq_none_iff] at hf
      have := rich_ex W s.left i (by rw [h.sum, h.ll]) h2 h3 s.left.length (fun k hk => by
        have := hf _ (List.getElem_mem hk)
        rw [getD_get _ _ hk]
        have h9 : ¬ W < s.left[k] := fun hx => by rw [decide_eq_true hx] at this; cases this
        omega) (Nat.le_refl _)
      omega
    | some j =>
      have hf' := hf
      rw [List.findIdx?_eq_some_iff_getElem] at hf
      obtain ⟨hj, hjW, hb⟩ := hf
      rw [← getD_get] at hjW
      refine ⟨i, j, r, rfl, by rw [← h.ll]; exact h2, by rw [← h.ll]; exact hj, h3, by simpa using hjW, by rw [bstep1, h1, hf'], fun k hk => ?_⟩
      have := hb k hk
      rw [← getD_get] at this
      have h9 : ¬ W < s.left.getD k 0 := fun hx => this (decide_eq_true hx)
      omega
theorem brun_inv (l : List GArc) (hl : l.length ≤ 1048576) (hg : gsum l ≤ 2147483647) : ∀ k, BInv (gsum l) l.length 4503599627370496 (left0 l) (brun (gsum l) k (bst0 l))
  | 0 => bst0_inv l hl hg
  | k + 1 => by
    have ih := brun_inv l hl hg k
    rw [brun]
    rcases ih.turn with ⟨h1, h2⟩ | ⟨i, j, r, h1, h2, h3, h4, h5, h6, h7⟩
    · rw [h2]; exact ih
    · rw [h6]; exact ih.next (by omega) (by omega) (by omega) i j h2 h3 h4 h5
theorem brun_bad (l : List GArc) (hl : l.length ≤ 1048576) (hg : gsum l ≤ 2147483647) : ∀ k, (∃ m, m ≤ k ∧ bstep1 (gsum l) (brun (gsum l) m (bst0 l)) = none) ∨ k + bad (gsum l) (brun (gsum l) k (bst0 l)).left ≤ l.length
  | 0 => Or.inr (by have := bad_le (gsum l) (bst0 l).left; simp [bst0] at this ⊢; exact this)
  | k + 1 => by
    rcases brun_bad l hl hg k with ⟨m, hm, h⟩ | h
    · exact Or.inl ⟨m, by omega, h⟩
    · have ih := brun_inv l hl hg k
      rcases ih.turn with ⟨h1, h2⟩ | ⟨i, j, r, h1, h2, h3, h4, h5, h6, h7⟩
      · exact Or.inl ⟨k, by omega, h2⟩
      · right
        rw [brun, h6]
        have := bad_pay (gsum l) (brun (gsum l) k (bst0 l)).left i j (by rw [ih.ll]; exact h2) (by rw [ih.ll]; exact h3) h4 h5
        show k + 1 + bad _ (pay _ _ _ _) ≤ _
        omega
/-- where it stops is the table -/
theorem btab_at (l : List GArc) (k : Nat) (hk : k ≤ l.length + 1) (h : bstep1 (gsum l) (brun (gsum l) k (bst0 l)) = none) : (brun (gsum l) k (bst0 l)).out = btab l := by
  have := brun_stop (gsum l) k (bst0 l) h (l.length + 1 - k)
  rw [show k + (l.length + 1 - k) = l.length + 1 from by omega] at this
  rw [btab, this]
theorem btab_stop (l : List GArc) (hl : l.length ≤ 1048576) (hg : gsum l ≤ 2147483647) : ∃ k, BInv (gsum l) l.length 4503599627370496 (left0 l) (brun (gsum l) k (bst0 l)) ∧ poorL (gsum l) (brun (gsum l) k (bst0 l)).left = [] ∧ (brun (gsum l) k (bst0 l)).out = btab l := by
  rcases brun_bad l hl hg (l.length + 1) with ⟨m, hm, h⟩ | h
  · have hi := brun_inv l hl hg m
    refine ⟨m, hi, ?_, btab_at l m hm h⟩
    rcases hi.turn with ⟨h1, h2⟩ | ⟨i, j, r, h1, h2, h3, h4, h5, h6, h7⟩
    · exact h1
    · rw [h] at h6; cases h6
  · omega
theorem btab_len (l : List GArc) (hl : l.length ≤ 1048576) (hg : gsum l ≤ 2147483647) : (btab l).length = l.length := by
  obtain ⟨k, hi, _, e⟩ := btab_stop l hl hg
  rw [← e]; exact hi.ol
theorem btab_ok (l : List GArc) (hl : l.length ≤ 1048576) (hg : gsum l ≤ 2147483647) : ∀ c ∈ btab l, c.cut.toNat ≤ gsum l ∧ c.oth.toNat < l.length := by
  obtain ⟨k, hi, _, e⟩ := btab_stop l hl hg
  rw [← e]; exact hi.ok
theorem btab_n (l : List GArc) (hl : l.length ≤ 1048576) (hg : gsum l ≤ 2147483647) (i : Nat) (hi : i < l.length) : ncntF (gsum l) i 0 (btab l) = l.length * (l[i]).wt.toNat := by
  obtain ⟨k, h, hp, e⟩ := btab_stop l hl hg
  have h1 := h.cn i hi
  have hall := sum_gt_one (gsum l) _ (by rw [h.sum, h.ll]) (fun x hx => by
    obtain ⟨q, hq, rfl⟩ := List.mem_iff_getElem.1 hx
    have : ¬ q ∈ poorL (gsum l) (brun (gsum l) k (bst0 l)).left := by rw [hp]; simp
    rw [poorL_mem, getD_get _ _ hq] at this
    omega)
  have h2 := hall _ (List.getElem_mem (by rw [h.ll]; exact hi))
  rw [← getD_get] at h2
  rw [← e]
  rw [h2] at h1
  have : left0 l i = l.length * (l[i]).wt.toNat := by rw [left0, List.getElem?_eq_getElem hi]; rfl
  omega
theorem btab_cnt (l : List GArc) (hl : l.length ≤ 1048576) (hg : gsum l ≤ 2147483647) (i : Nat) (hi : i < l.length) : cnt (gsum l) (i : Int) (btab l) = l.length * (l[i]).wt.toNat := by
  rw [cnt_n, btab_n l hl hg i hi, Nat.mod_eq_of_lt]
  have h1 := u32_lt (l[i]).wt
  have : l.length * (l[i]).wt.toNat ≤ 1048576 * 4294967296 := Nat.mul_le_mul hl (by omega)
  omega
theorem btab_may (l : List GArc) (hl : l.length ≤ 1048576) (h : nbrs l = true) (hg : gsum l ≤ 2147483647) : mayOk l (btab l) = true := by
  have hn := btab_len l hl hg
  refine mayOk_yes h hn.symm ?_ fun k hk => btab_cnt l hl hg k hk
  unfold cgood
  rw [List.all_eq_true]
  intro c hc
  have := btab_ok l hl hg c hc
  rw [hn]
  simp [this]
end Go.Proofs.Yteakeefocnjlhaa
