/- Numbers as bytes (varint), plainly. -/
import Derived.Test.YtpoicbhbkabllaaNum
namespace Go.Proofs.Ytpoicbhbkabllaa
set_option linter.unusedSimpArgs false
set_option linter.unusedVariables false

/-- a number's bytes -/
def vput (n : Nat) : List UInt8 := if h : n < 128 then [UInt8.ofNat n] else UInt8.ofNat (n % 128 + 128) :: vput (n / 128)
termination_by n
decreasing_by omega
theorem vput_lt {n : Nat} (h : n < 128) : vput n = [UInt8.ofNat n] := by rw [vput, dif_pos h]
theorem vput_ge {n : Nat} (h : 128 ≤ n) : vput n = UInt8.ofNat (n % 128 + 128) :: vput (n / 128) := by rw [vput, dif_neg (by omega)]
theorem vput_len (n k : Nat) (h : n < 2 ^ (7 * k)) : (vput n).length ≤ k + 1 := by
  induction k generalizing n with
  | zero => rw [vput_lt (by simp at h; omega)]; simp
  | succ k ih =>
    rcases Nat.lt_or_ge n 128 with h1 | h1
    · rw [vput_lt h1]; simp
    · rw [vput_ge h1, List.length_cons]
      have := ih (n / 128) (by rw [show 7 * (k + 1) = 7 * k + 7 from by omega, Nat.pow_add] at h; omega)
      omega
theorem vput_len64 (n : Nat) (h : n < 18446744073709551616) : 1 ≤ (vput n).length ∧ (vput n).length ≤ 11 := by
  refine ⟨?_, vput_len n 10 (by have : (18446744073709551616 : Nat) ≤ 2 ^ (7 * 10) := by decide
                                omega)⟩
  rcases Nat.lt_or_ge n 128 with h1 | h1
  · rw [vput_lt h1]; simp
  · rw [vput_ge h1]; simp

/-- the number in front of bytes: an error, or the number and how many bytes it has -/
def vgo : List UInt8 → Nat → Nat → Int ⊕ (Nat × Nat)
  | [], _, _ => .inl 2
  | c :: t, i, n =>
    if i = 9 ∧ 1 < c.toNat % 128 ∨ 9 < i ∨ 0 < i ∧ c.toNat = 0 then .inl 3
    else if 127 < c.toNat then vgo t (i + 1) (n + c.toNat % 128 * 2 ^ (7 * i))
    else .inr (n + c.toNat % 128 * 2 ^ (7 * i), i + 1)
/-- a read: the number, what is left, the error -/
def numR (most : Nat) (l : List UInt8) : Nat × List UInt8 × Int :=
  match vgo l 0 0 with
  | .inl e => (0, [], e)
  | .inr (n, k) => if most < n then (0, [], 9) else (n, l.drop k, 0)
/-- a reader's step -/
def numS (most : Nat) (l : List UInt8) (e : Int) : Nat × List UInt8 × Int := if e ≠ 0 then (0, [], e) else numR most l
theorem vgo_err (l : List UInt8) (i n : Nat) (e : Int) (h : vgo l i n = .inl e) : e = 2 ∨ e = 3 := by
  induction l generalizing i n with
  | nil => simp [vgo] at h; omega
  | cons c t ih =>
    unfold vgo at h
    split at h
    · simp at h; omega
    · split at h
      · exact ih _ _ h
      · simp at h
theorem vgo_ok (l : List UInt8) (i n m k : Nat) (h : vgo l i n = .inr (m, k)) : i < k ∧ k ≤ i + l.length ∧ i ≤ 9 := by
  induction l generalizing i n with
  | nil => simp [vgo] at h
  | cons c t ih =>
    unfold vgo at h
    split at h
    · simp at h
    · rename_i hc
      split at h
      · have := ih _ _ h
        simp; omega
      · simp at h; simp; omega
/-- the number fits in 64 bits -/
theorem vgo_lt (l : List UInt8) (i n m k : Nat) (hn : i ≤ 9 → n < 2 ^ (7 * i)) (h : vgo l i n = .inr (m, k)) : m < 18446744073709551616 := by
  induction l generalizing i n with
  | nil => simp [vgo] at h
  | cons c t ih =>
    unfold vgo at h
    split at h
    · simp at h
    · rename_i hc
      have hi : i ≤ 9 := by omega
      have hn := hn hi
      have hmod : c.toNat % 128 < 128 := Nat.mod_lt _ (by decide)
      split at h
      · refine ih _ _ (fun hi' => ?_) h
        rw [show 7 * (i + 1) = 7 * i + 7 from by omega, Nat.pow_add]
        have := Nat.mul_le_mul_right (2 ^ (7 * i)) (show c.toNat % 128 ≤ 127 by omega)
        omega
      · simp at h
        obtain ⟨rfl, _⟩ := h
        rcases Nat.lt_or_ge i 9 with h9 | h9
        · have h2 : 2 ^ (7 * i) ≤ 2 ^ 56 := Nat.pow_le_pow_right (by decide) (by omega)
          have := Nat.mul_le_mul (show c.toNat % 128 ≤ 127 by omega) h2
          omega
        · obtain rfl : i = 9 := by omega
          have : c.toNat % 128 ≤ 1 := by omega
          have := Nat.mul_le_mul_right (2 ^ (7 * 9)) this
          omega
theorem numR_lt (most : Nat) (l : List UInt8) : (numR most l).1 < 18446744073709551616 ∧ (numR most l).1 ≤ most := by
  unfold numR
  split
  · simp
  · rename_i n k h
    split
    · simp
    · exact ⟨vgo_lt l 0 0 n k (by simp) h, by simp; omega⟩
theorem numS_lt (most : Nat) (l : List UInt8) (e : Int) : (numS most l e).1 < 18446744073709551616 ∧ (numS most l e).1 ≤ most := by
  unfold numS; split
  · simp
  · exact numR_lt most l
/-- what is left is a back of what was there -/
theorem numR_rest (most : Nat) (l : List UInt8) : ∃ k, k ≤ l.length ∧ ((numR most l).2.2 = 0 → (numR most l).2.1 = l.drop k ∧ 0 < k) ∧ ((numR most l).2.2 ≠ 0 → (numR most l).2.1 = [] ∧ (numR most l).1 = 0) := by
  unfold numR
  split
  · rename_i e h
    have := vgo_err _ _ _ _ h
    exact ⟨0, by omega, fun h => by simp at h; omega, fun _ => by simp⟩
  · rename_i n k h
    have := vgo_ok _ _ _ _ _ h
    refine ⟨k, by omega, ?_, ?_⟩
    · split <;> simp; omega
    · split <;> simp
theorem numS_err (most : Nat) (l : List UInt8) (e : Int) : (numS most l e).2.2 ≠ 0 → (numS most l e).2.1 = [] ∧ (numS most l e).1 = 0 := by
  unfold numS
  split
  · simp
  · obtain ⟨k, _, _, h⟩ := numR_rest most l; exact h
theorem numS_len (most : Nat) (l : List UInt8) (e : Int) : (numS most l e).2.1.length ≤ l.length := by
  unfold numS
  split
  · simp
  · obtain ⟨k, hk, h1, h2⟩ := numR_rest most l
    by_cases h : (numR most l).2.2 = 0
    · rw [(h1 h).1]; simp
    · rw [(h2 h).1]; simp

/-! ### what is put reads back -/
theorem u8_ofNat_toNat (n : Nat) (h : n < 256) : (UInt8.ofNat n).toNat = n := by rw [UInt8.toNat_ofNat']; omega
theorem vgo_vput (n : Nat) (t : List UInt8) (i acc : Nat) (hi : i ≤ 9) (hn : n * 2 ^ (7 * i) < 18446744073709551616) (h0 : 0 < i → 0 < n) : vgo (vput n ++ t) i acc = .inr (acc + n * 2 ^ (7 * i), i + (vput n).length) := by
  induction n using Nat.strongRecOn generalizing i acc with
  | _ n ih =>
    have hp : 0 < 2 ^ (7 * i) := Nat.pow_pos (by decide)
    have h9 : i = 9 → n < 2 := by
      rintro rfl
      rcases Nat.lt_or_ge n 2 with h | h
      · exact h
      · have := Nat.mul_le_mul_right (2 ^ (7 * 9)) h
        omega
    rcases Nat.lt_or_ge n 128 with h1 | h1
    · rw [vput_lt h1]
      have hc := u8_ofNat_toNat n (by omega)
      show vgo (UInt8.ofNat n :: t) i acc = _
      unfold vgo
      rw [hc, Nat.mod_eq_of_lt h1, if_neg (by omega), if_neg (by omega)]
      rfl
    · rw [vput_ge h1]
      have hc := u8_ofNat_toNat (n % 128 + 128) (by omega)
      show vgo (UInt8.ofNat (n % 128 + 128) :: (vput (n / 128) ++ t)) i acc = _
      have hi9 : i < 9 := by omega
      unfold vgo
      rw [hc, if_neg (by omega), if_pos (by omega), show (n % 128 + 128) % 128 = n % 128 from by omega]
      have hpow : 2 ^ (7 * (i + 1)) = 128 * 2 ^ (7 * i) := by rw [show 7 * (i + 1) = 7 * i + 7 from by omega, Nat.pow_add]; omega
      have hdm : n / 128 * (128 * 2 ^ (7 * i)) + n % 128 * 2 ^ (7 * i) = n * 2 ^ (7 * i) := by
        rw [← Nat.mul_assoc, ← Nat.add_mul]
        congr 1
        omega
      rw [ih (n / 128) (by omega) (i + 1) _ (by omega) (by rw [hpow]; omega) (by omega), hpow, List.length_cons]
      congr 2
      · omega
      · omega
theorem numR_vput (n most : Nat) (t : List UInt8) (hn : n < 18446744073709551616) (hm : n ≤ most) : numR most (vput n ++ t) = (n, t, 0) := by
  unfold numR
  rw [vgo_vput n t 0 0 (by omega) (by simpa using hn) (by omega)]
  simp only [Nat.mul_zero, Nat.pow_zero, Nat.mul_one, Nat.zero_add]
  rw [if_neg (by omega)]
  simp
theorem numR_vput_big (n most : Nat) (t : List UInt8) (hn : n < 18446744073709551616) (hm : most < n) : numR most (vput n ++ t) = (0, [], 9) := by
  unfold numR
  rw [vgo_vput n t 0 0 (by omega) (by simpa using hn) (by omega)]
  simp only [Nat.mul_zero, Nat.pow_zero, Nat.mul_one, Nat.zero_add]
  rw [if_pos (by omega)]
/-- bytes that are one number are just its bytes -/
theorem vput_vgo (l : List UInt8) (i acc m k : Nat) (h : vgo l i acc = .inr (m, k)) : ∃ n, m = acc + n * 2 ^ (7 * i) ∧ l.take (k - i) = vput n ∧ (0 < i → 0 < n) := by
  induction l generalizing i acc with
  | nil => simp [vgo] at h
  | cons c t ih =>
    unfold vgo at h
    split at h
    · simp at h
    · rename_i hc
      have hc256 := c.toNat_lt
      split at h
      · rename_i hb
        have hk := vgo_ok _ _ _ _ _ h
        obtain ⟨n, h1, h2, h3⟩ := ih _ _ h
        have hn := h3 (by omega)
        refine ⟨c.toNat % 128 + 128 * n, ?_, ?_, fun _ => by omega⟩
        · rw [h1, show 7 * (i + 1) = 7 * i + 7 from by omega, Nat.pow_add, Nat.add_mul]
          have : 128 * n * 2 ^ (7 * i) = n * (2 ^ (7 * i) * 2 ^ 7) := by
            rw [show (2:Nat) ^ 7 = 128 from rfl, Nat.mul_comm 128 n, Nat.mul_assoc, Nat.mul_comm 128]
          omega
        · rw [show k - i = (k - (i + 1)) + 1 from by omega, List.take_succ_cons, h2, vput_ge (n := c.toNat % 128 + 128 * n) (by omega)]
          rw [show (c.toNat % 128 + 128 * n) / 128 = n from by omega, show (c.toNat % 128 + 128 * n) % 128 + 128 = c.toNat from by omega, UInt8.ofNat_toNat]
      · rename_i hb
        simp at h
        obtain ⟨rfl, rfl⟩ := h
        refine ⟨c.toNat, by rw [Nat.mod_eq_of_lt (by omega)], ?_, fun hi => by omega⟩
        rw [show i + 1 - i = 1 from by omega, vput_lt (by omega), UInt8.ofNat_toNat]
        rfl
theorem numR_one (most : Nat) (l : List UInt8) (n : Nat) (t : List UInt8) (h : numR most l = (n, t, 0)) : l = vput n ++ t := by
  unfold numR at h
  split at h
  · rename_i e he
    have := vgo_err _ _ _ _ he
    simp at h; omega
  · rename_i m k hv
    split at h
    · simp at h
    · simp at h
      obtain ⟨rfl, rfl⟩ := h
      obtain ⟨x, h1, h2, _⟩ := vput_vgo _ _ _ _ _ hv
      simp at h1 h2
      subst h1
      rw [← h2, List.take_append_drop]
end Go.Proofs.Ytpoicbhbkabllaa
