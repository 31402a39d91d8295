/- Neighbours (gaps), plainly. -/
import Derived.Test.YteakeefocnjlhaaVarPure
namespace Go.Proofs.Yteakeefocnjlhaa
set_option linter.unusedSimpArgs false
set_option linter.unusedVariables false

structure GArc where
  to : UInt32
  wt : UInt32
deriving DecidableEq
def gsum (l : List GArc) : Nat := (l.map fun a => a.wt.toNat).sum
theorem gsum_append (a b : List GArc) : gsum (a ++ b) = gsum a + gsum b := by simp [gsum]
theorem gsum_one (a : GArc) : gsum [a] = a.wt.toNat := by simp [gsum]
theorem gsum_lt (l : List GArc) : gsum l ≤ l.length * 4294967295 := by
  induction l with
  | nil => simp [gsum]
  | cons a t ih =>
    have := u32_lt a.wt
    simp only [gsum, List.map_cons, List.sum_cons, List.length_cons] at *
    omega
theorem gsum_take_le (l : List GArc) (k : Nat) : gsum (l.take k) ≤ gsum l := by
  have h : gsum l = gsum (l.take k) + gsum (l.drop k) := by rw [← gsum_append, List.take_append_drop]
  omega
theorem gsum_snoc (l : List GArc) (k : Nat) (h : k < l.length) : gsum (l.take (k + 1)) = gsum (l.take k) + l[k].wt.toNat := by
  rw [List.take_succ_eq_append_getElem h, gsum_append, gsum_one]
/-- each weight is one at least, the ends rise -/
def rise : Option UInt32 → List GArc → Bool
  | _, [] => true
  | p, a :: t => a.wt != 0 && (match p with | none => true | some q => decide (q < a.to)) && rise (some a.to) t
def gmay (l : List GArc) : Bool := rise none l && decide (gsum l ≤ 2147483647)
/-- the k-th one is right behind its neighbour -/
def stepOk (l : List GArc) (k : Nat) (a : GArc) : Bool := a.wt != 0 && (k == 0 || match l[k - 1]? with | some b => decide (b.to < a.to) | none => true)
theorem rise_take : ∀ (l : List GArc) (p : Option UInt32) (k : Nat), rise p l = true → rise p (l.take k) = true
  | [], p, k, h => by simp [rise]
  | a :: t, p, 0, h => by simp [rise]
  | a :: t, p, k + 1, h => by
    simp only [rise, List.take_succ_cons, Bool.and_eq_true] at *
    exact ⟨h.1, rise_take t _ k h.2⟩
theorem rise_cons (p : Option UInt32) (a : GArc) (t : List GArc) : rise p (a :: t) = (a.wt != 0 && (match p with | none => true | some q => decide (q < a.to)) && rise (some a.to) t) := rfl
def lastTo : Option UInt32 → List GArc → Option UInt32
  | p, [] => p
  | _, a :: t => lastTo (some a.to) t
theorem lastTo_snoc : ∀ (l : List GArc) (p : Option UInt32) (a : GArc), lastTo p (l ++ [a]) = some a.to
  | [], _, _ => rfl
  | _ :: t, _, a => lastTo_snoc t _ a
theorem rise_append : ∀ (l m : List GArc) (p : Option UInt32), rise p (l ++ m) = (rise p l && rise (lastTo p l) m)
  | [], m, p => by simp [rise, lastTo]
  | a :: t, m, p => by
    have := rise_append t m (some a.to)
    rw [List.cons_append]
    rw [rise_cons, rise_cons, this, Bool.and_assoc, Bool.and_assoc, Bool.and_assoc]
    rfl
theorem take_last {α : Type} (l : List α) (k : Nat) (h0 : 0 < k) (h : k ≤ l.length) : l.take k = l.take (k - 1) ++ [l[k - 1]'(by omega)] := by
  have := List.take_succ_eq_append_getElem (l := l) (i := k - 1) (by omega)
  rwa [show k - 1 + 1 = k from by omega] at this
theorem rise_snoc (l : List GArc) (k : Nat) (h : k < l.length) : rise none (l.take (k + 1)) = (rise none (l.take k) && stepOk l k l[k]) := by
  rw [List.take_succ_eq_append_getElem h, rise_append]
  congr 1
  unfold stepOk
  rcases Nat.eq_zero_or_pos k with h0 | h0
  · subst h0
    simp [rise, lastTo]
  · rw [take_last l k h0 (by omega), lastTo_snoc, List.getElem?_eq_getElem (show k - 1 < l.length by omega)]
    have : (k == 0) = false := by simp; omega
    simp [rise, this]
theorem rise_stepOk (l : List GArc) (k : Nat) (h : k < l.length) (hr : rise none l = true) : stepOk l k l[k] = true := by
  have := rise_take l none (k + 1) hr
  rw [rise_snoc l k h] at this
  simp at this
  exact this.2
/-- the bytes of one neighbour behind a number, of all behind it -/
def gaps1 (next : Nat) (a : GArc) : List UInt8 := vput (a.to.toNat - next) ++ vput (a.wt.toNat - 1)
def gapsL : Nat → List GArc → List UInt8
  | _, [] => []
  | n, a :: t => gaps1 n a ++ gapsL (a.to.toNat + 1) t
def gput (l : List GArc) : List UInt8 := vput l.length ++ gapsL 0 l
/-- what the next one can be at least -/
def nextOf (l : List GArc) (k : Nat) : Nat := if k = 0 then 0 else match l[k - 1]? with | some b => b.to.toNat + 1 | none => 0
theorem gapsL_cons (n : Nat) (a : GArc) (t : List GArc) : gapsL n (a :: t) = gaps1 n a ++ gapsL (a.to.toNat + 1) t := rfl
def lastN : Nat → List GArc → Nat
  | n, [] => n
  | _, a :: t => lastN (a.to.toNat + 1) t
theorem lastN_snoc : ∀ (l : List GArc) (n : Nat) (a : GArc), lastN n (l ++ [a]) = a.to.toNat + 1
  | [], _, _ => rfl
  | _ :: t, _, a => lastN_snoc t _ a
theorem gapsL_append : ∀ (l m : List GArc) (n : Nat), gapsL n (l ++ m) = gapsL n l ++ gapsL (lastN n l) m
  | [], m, n => by simp [gapsL, lastN]
  | a :: t, m, n => by
    have := gapsL_append t m (a.to.toNat + 1)
    rw [List.cons_append]
    rw [gapsL_cons, gapsL_cons, this, List.append_assoc]
    rfl
theorem gapsL_snoc (l : List GArc) (k : Nat) (h : k < l.length) : gapsL 0 (l.take (k + 1)) = gapsL 0 (l.take k) ++ gaps1 (nextOf l k) l[k] := by
  rw [List.take_succ_eq_append_getElem h, gapsL_append]
  congr 1
  unfold nextOf
  rcases Nat.eq_zero_or_pos k with h0 | h0
  · subst h0; simp [gapsL, lastN]
  · rw [take_last l k h0 (by omega), lastN_snoc, if_neg (by omega), List.getElem?_eq_getElem (show k - 1 < l.length by omega)]
    simp [gapsL]
theorem nextOf_succ (l : List GArc) (k : Nat) (h : k < l.length) : nextOf l (k + 1) = l[k].to.toNat + 1 := by
  unfold nextOf
  rw [if_neg (by omega), Nat.add_sub_cancel, List.getElem?_eq_getElem h]
theorem nextOf_le (l : List GArc) (k : Nat) (h : k < l.length) (hr : rise none l = true) : nextOf l k ≤ l[k].to.toNat := by
  have := rise_stepOk l k h hr
  unfold stepOk at this
  unfold nextOf
  split
  · omega
  · rename_i hk
    have hk' : (k == 0) = false := by simpa using hk
    rw [hk', List.getElem?_eq_getElem (show k - 1 < l.length by omega)] at this
    rw [List.getElem?_eq_getElem (show k - 1 < l.length by omega)]
    simp at this
    have := UInt32.lt_iff_toNat_lt.1 this.2
    simp only
    omega
theorem rise_wt (l : List GArc) (k : Nat) (h : k < l.length) (hr : rise none l = true) : 0 < l[k].wt.toNat := by
  have := rise_stepOk l k h hr
  unfold stepOk at this
  simp at this
  have h1 := this.1
  rcases Nat.eq_zero_or_pos l[k].wt.toNat with h0 | h0
  · exact absurd (UInt32.toNat_inj.1 (by simpa using h0)) h1
  · exact h0
theorem gaps1_len (n : Nat) (a : GArc) : (gaps1 n a).length ≤ 22 := by
  have h1 := vput_len64 (a.to.toNat - n) (by have := u32_lt a.to; omega)
  have h2 := vput_len64 (a.wt.toNat - 1) (by have := u32_lt a.wt; omega)
  simp [gaps1]; omega
theorem gapsL_len : ∀ (l : List GArc) (n : Nat), (gapsL n l).length ≤ 22 * l.length
  | [], n => by simp [gapsL]
  | a :: t, n => by
    have h1 := gaps1_len n a
    have h2 := gapsL_len t (a.to.toNat + 1)
    simp only [gapsL, List.length_append, List.length_cons]
    omega

/-! ### reading -/
def gbad (s : List UInt8) : Int := if s = [] then 2 else 9
/-- n more neighbours, behind 'acc', of a reader (s, e) -/
def gget : Nat → List GArc → Nat → Nat → List UInt8 → Int → List GArc × List UInt8 × Int
  | 0, acc, _, _, s, e => (acc, s, e)
  | n + 1, acc, next, left, s, e =>
    if 4294967295 < next ∨ left = 0 then ([], [], gbad s)
    else
      let r := numS (4294967295 - next) s e
      let q := numS (left - 1) r.2.1 r.2.2
      if q.2.2 ≠ 0 then ([], [], q.2.2)
      else gget n (acc ++ [⟨UInt32.ofNat (next + r.1), UInt32.ofNat (q.1 + 1)⟩]) (next + r.1 + 1) (left - (q.1 + 1)) q.2.1 0
def gread (s : List UInt8) (e : Int) : List GArc × List UInt8 × Int :=
  let r := numS 18446744073709551615 s e
  if r.2.2 ≠ 0 then ([], [], r.2.2) else gget r.1 [] 0 2147483647 r.2.1 0
theorem u32_ofNat_toNat (n : Nat) (h : n < 4294967296) : (UInt32.ofNat n).toNat = n := by rw [UInt32.toNat_ofNat']; omega
theorem numS_zero (most : Nat) (s : List UInt8) : numS most s 0 = numR most s := by unfold numS; rw [if_neg (by simp)]
/-- what is put reads back -/
theorem gget_gapsL : ∀ (l : List GArc) (acc : List GArc) (next left : Nat) (t : List UInt8), (∀ a, l.head? = some a → next ≤ a.to.toNat) → rise none l = true → gsum l ≤ left →
    gget l.length acc next left (gapsL next l ++ t) 0 = (acc ++ l, t, 0)
  | [], acc, next, left, t, _, _, _ => by simp [gget, gapsL]
  | a :: l, acc, next, left, t, hn, hr, hs => by
    have h0 := hn a rfl
    have hw := rise_wt (a :: l) 0 (by simp) hr
    simp only [List.getElem_cons_zero] at hw
    have hto := u32_lt a.to
    have hwt := u32_lt a.wt
    have hsum : gsum (a :: l) = a.wt.toNat + gsum l := by simp [gsum]
    rw [List.length_cons, gget, if_neg (by omega)]
    have e1 : numS (4294967295 - next) (gapsL next (a :: l) ++ t) 0 = (a.to.toNat - next, vput (a.wt.toNat - 1) ++ (gapsL (a.to.toNat + 1) l ++ t), 0) := by
      have : gapsL next (a :: l) ++ t = vput (a.to.toNat - next) ++ (vput (a.wt.toNat - 1) ++ (gapsL (a.to.toNat + 1) l ++ t)) := by simp [gapsL, gaps1]
      rw [numS_zero, this, numR_vput _ _ _ (by omega) (by omega)]
    have e2 : numS (left - 1) (vput (a.wt.toNat - 1) ++ (gapsL (a.to.toNat + 1) l ++ t)) 0 = (a.wt.toNat - 1, gapsL (a.to.toNat + 1) l ++ t, 0) := by
      rw [numS_zero, numR_vput _ _ _ (by omega) (by omega)]
    simp only [e1, e2]
    rw [if_neg (by simp)]
    have ea : (⟨UInt32.ofNat (next + (a.to.toNat - next)), UInt32.ofNat (a.wt.toNat - 1 + 1)⟩ : GArc) = a := by
      rw [show next + (a.to.toNat - next) = a.to.toNat from by omega, show a.wt.toNat - 1 + 1 = a.wt.toNat from by omega, UInt32.ofNat_toNat, UInt32.ofNat_toNat]
    rw [ea, show next + (a.to.toNat - next) + 1 = a.to.toNat + 1 from by omega, show left - (a.wt.toNat - 1 + 1) = left - a.wt.toNat from by omega]
    have hr2 : rise none l = true ∧ ∀ b, l.head? = some b → a.to.toNat + 1 ≤ b.to.toNat := by
      cases l with
      | nil => exact ⟨rfl, fun b h => by simp at h⟩
      | cons b m =>
        simp [rise] at hr
        refine ⟨by simp [rise]; exact ⟨hr.2.1.1, hr.2.2⟩, fun c hc => ?_⟩
        simp at hc
        subst hc
        exact UInt32.lt_iff_toNat_lt.1 hr.2.1.2
    rw [gget_gapsL l (acc ++ [a]) _ _ t hr2.2 hr2.1 (by omega), List.append_assoc]
    rfl
theorem gread_gput (l : List GArc) (t : List UInt8) (hl : l.length < 18446744073709551616) (h : gmay l = true) : gread (gput l ++ t) 0 = (l, t, 0) := by
  unfold gmay at h
  simp at h
  unfold gread gput
  have e : numS 18446744073709551615 (vput l.length ++ gapsL 0 l ++ t) 0 = (l.length, gapsL 0 l ++ t, 0) := by
    rw [numS_zero, List.append_assoc, numR_vput _ _ _ hl (by omega)]
  rw [e]
  simp only
  rw [if_neg (by simp), gget_gapsL l [] 0 2147483647 t (fun a _ => Nat.zero_le _) h.1 h.2]
  rfl
/-- what was read is put as it stood -/
theorem gget_ok : ∀ (n : Nat) (acc : List GArc) (next left : Nat) (s : List UInt8) (out : List GArc) (s' : List UInt8), left ≤ 2147483647 → gget n acc next left s 0 = (out, s', 0) →
    ∃ more, out = acc ++ more ∧ more.length = n ∧ s = gapsL next more ++ s' ∧ rise none more = true ∧ (∀ a, more.head? = some a → next ≤ a.to.toNat) ∧ gsum more ≤ left
  | 0, acc, next, left, s, out, s', _, h => by
    simp [gget] at h
    exact ⟨[], by simp [h.1], rfl, by simp [gapsL, h.2], rfl, fun a h => by simp at h, by simp [gsum]⟩
  | n + 1, acc, next, left, s, out, s', hleft, h => by
    rw [gget] at h
    split at h
    · simp [gbad] at h
      split at h <;> omega
    · rename_i hc
      simp only [numS_zero] at h
      split at h
      · rename_i he
        simp only [Prod.mk.injEq] at h
        exact absurd h.2.2 he
      · rename_i he
        generalize hr : numR (4294967295 - next) s = r at *
        obtain ⟨g, s1, e1⟩ := r
        have he1 : e1 = 0 := by
          rcases Decidable.em (e1 = 0) with h0 | h0
          · exact h0
          · exfalso
            apply he
            unfold numS
            simp [h0]
        subst he1
        simp only [numS_zero] at h he
        generalize hq : numR (left - 1) s1 = q at *
        obtain ⟨x, s2, e2⟩ := q
        have he2 : e2 = 0 := by simpa using he
        subst he2
        have hg := (numR_lt (4294967295 - next) s).2
        rw [hr] at hg
        have hx := (numR_lt (left - 1) s1).2
        rw [hq] at hx
        simp only at hg hx h
        obtain ⟨more, h1, h2, h3, h4, h5, h6⟩ := gget_ok n _ _ _ _ _ _ (by omega) h
        have hto := u32_ofNat_toNat (next + g) (by omega)
        have hwt := u32_ofNat_toNat (x + 1) (by omega)
        refine ⟨⟨UInt32.ofNat (next + g), UInt32.ofNat (x + 1)⟩ :: more, by rw [h1]; simp, by simp [h2], ?_, ?_, ?_, ?_⟩
        · have r1 := numR_one _ _ _ _ hr
          have r2 := numR_one _ _ _ _ hq
          rw [r1, r2, h3]
          simp only [gapsL, gaps1, hto, hwt]
          rw [show next + g - next = g from by omega, Nat.add_sub_cancel]
          simp
        · have hne : (UInt32.ofNat (x + 1)) ≠ 0 := fun e => by
            have := congrArg UInt32.toNat e
            rw [hwt] at this
            simp at this
          cases more with
          | nil => simp [rise]; exact fun e => hne (by simpa using e)
          | cons b m =>
            have hb := h5 b rfl
            simp [rise] at h4 ⊢
            refine ⟨fun e => hne (by simpa using e), ⟨h4.1, ?_⟩, h4.2⟩
            rw [UInt32.lt_iff_toNat_lt]
            have := hto
            simp only [UInt32.ofNat_add] at this
            omega
        · intro a ha
          simp at ha
          subst ha
          have := hto
          simp only [UInt32.ofNat_add] at this
          simp only
          omega
        · have : gsum (⟨UInt32.ofNat (next + g), UInt32.ofNat (x + 1)⟩ :: more) = (UInt32.ofNat (x + 1)).toNat + gsum more := by simp [gsum]
          rw [this, hwt]
          omega
theorem gread_ok (b : List UInt8) (out : List GArc) (s' : List UInt8) (h : gread b 0 = (out, s', 0)) : gmay out = true ∧ b = gput out ++ s' ∧ out.length < 18446744073709551616 := by
  unfold gread at h
  simp only [numS_zero] at h
  have hlt := (numR_lt 18446744073709551615 b).1
  split at h
  · rename_i he
    simp only [Prod.mk.injEq] at h
    exact absurd h.2.2 he
  · rename_i he
    generalize hr : numR 18446744073709551615 b = r at *
    obtain ⟨n, s1, e1⟩ := r
    have he1 : e1 = 0 := by simpa using he
    subst he1
    simp only at h hlt
    obtain ⟨more, h1, h2, h3, h4, h5, h6⟩ := gget_ok n [] 0 2147483647 s1 out s' (by omega) h
    rw [List.nil_append] at h1
    subst h1
    refine ⟨by unfold gmay; simp [h4, h6], ?_, by omega⟩
    rw [numR_one _ _ _ _ hr, h3]
    simp [gput, h2]
end Go.Proofs.Yteakeefocnjlhaa
