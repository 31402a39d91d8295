/- What the check finds: bits turned within 32, and one byte turned, are never missed. Plain Lean. No condition. -/
import Derived.Test.YtpoicbhbkabllaaCrcFits
namespace Go.Proofs.Ytpoicbhbkabllaa
set_option linter.unusedSimpArgs false
set_option linter.unusedVariables false

/-! ### no state but 0 comes to 0 -/
theorem stp_zero (x : UInt32) (h : stp x = 0) : x = 0 := by
  have hx := x.toNat_lt
  unfold stp at h
  rcases bit0 x with hb | hb
  · rw [hb] at h
    simp only [UInt32.mul_zero, UInt32.xor_zero] at h
    have h1 : x.toNat / 2 = 0 := by
      have := congrArg UInt32.toNat h
      simpa [UInt32.toNat_shiftRight, Nat.shiftRight_eq_div_pow] using this
    have h2 : x.toNat % 2 = 0 := by
      have := congrArg UInt32.toNat hb
      rw [UInt32.toNat_and, show (1 : UInt32).toNat = 1 from rfl, Nat.and_one_is_mod] at this
      exact this
    apply UInt32.toNat_inj.1
    show x.toNat = 0
    omega
  · rw [hb] at h
    exfalso
    have h1 : x >>> 1 = poly := by
      have : (x >>> 1) ^^^ poly * 1 = 0 := h
      rw [UInt32.mul_one] at this
      have h2 : ((x >>> 1) ^^^ poly) ^^^ poly = 0 ^^^ poly := by rw [this]
      rw [UInt32.xor_assoc, UInt32.xor_self, UInt32.xor_zero, UInt32.zero_xor] at h2
      exact h2
    have h2 : x.toNat / 2 = 3988292384 := by
      have := congrArg UInt32.toNat h1
      rw [UInt32.toNat_shiftRight] at this
      simpa [Nat.shiftRight_eq_div_pow, poly] using this
    omega
theorem stps_ne (n : Nat) (x : UInt32) (h : x ≠ 0) : stps n x ≠ 0 := by
  induction n generalizing x with
  | zero => exact h
  | succ n ih => exact ih (stp x) (fun e => h (stp_zero x e))
/-- bits above the lowest n are moved down (any n) -/
theorem stps_down (n : Nat) (x : UInt32) (h : x.toNat % 2 ^ n = 0) : (stps n x).toNat = x.toNat / 2 ^ n := by
  induction n generalizing x with
  | zero => simp [stps]
  | succ n ih =>
    have h2 : x.toNat % 2 = 0 := by
      have := Nat.mod_mod_of_dvd x.toNat (show 2 ∣ 2 ^ (n + 1) from ⟨2 ^ n, by rw [Nat.pow_succ, Nat.mul_comm]⟩)
      rw [h] at this; simpa using this.symm
    have e : (x >>> 1).toNat = x.toNat / 2 := by simp [UInt32.toNat_shiftRight, Nat.shiftRight_eq_div_pow]
    rw [stps, stp_even x h2, ih (x >>> 1) (by
      rw [e]
      have : x.toNat = 2 * (x.toNat / 2) := by omega
      rw [this, Nat.pow_succ, Nat.mul_comm (2 ^ n), Nat.mul_mod_mul_left] at h
      omega), e, Nat.div_div_eq_div_mul, Nat.pow_succ, Nat.mul_comm 2]
theorem stps_two (k : Nat) (hk : k < 32) : stps k (UInt32.ofNat (2 ^ k)) = 1 := by
  have hp : 2 ^ k < 2 ^ 32 := Nat.pow_lt_pow_right (by omega) hk
  have e : (UInt32.ofNat (2 ^ k)).toNat = 2 ^ k := by rw [UInt32.toNat_ofNat']; exact Nat.mod_eq_of_lt hp
  apply UInt32.toNat_inj.1
  rw [stps_down k _ (by rw [e]; exact Nat.mod_self _), e]
  exact Nat.div_self (Nat.two_pow_pos k)

/-! ### a byte turned -/
theorem upd_xor (x y : UInt32) (c d : UInt8) : upd (x ^^^ y) (c ^^^ d) = upd x c ^^^ stps 8 (y ^^^ d.toUInt32) := by
  rw [upd_bits, upd_bits]
  unfold updB
  rw [← stps_xor]
  congr 1
  have : (c ^^^ d).toUInt32 = c.toUInt32 ^^^ d.toUInt32 := by
    apply UInt32.toNat_inj.1
    simp [UInt32.toNat_xor, UInt8.toNat_xor]
  rw [this, UInt32.xor_assoc, UInt32.xor_assoc, ← UInt32.xor_assoc y, UInt32.xor_comm y, UInt32.xor_assoc]
theorem run_xor (x y : UInt32) (l : List UInt8) : run (x ^^^ y) l = run x l ^^^ stps (8 * l.length) y := by
  induction l generalizing x y with
  | nil => rfl
  | cons c l ih =>
    show run (upd (x ^^^ y) c) l = run (upd x c) l ^^^ _
    have h : upd (x ^^^ y) c = upd x c ^^^ stps 8 y := by
      have := upd_xor x y c 0
      simpa using this
    rw [h, ih, List.length_cons, Nat.mul_add, Nat.add_comm (8 * l.length), Nat.mul_one, stps_add]
theorem run_turn (s : UInt32) (a c : List UInt8) (b d : UInt8) : run s (a ++ (b ^^^ d) :: c) = run s (a ++ b :: c) ^^^ stps (8 * c.length + 8) d.toUInt32 := by
  rw [run_append, run_append]
  show run (upd (run s a) (b ^^^ d)) c = run (upd (run s a) b) c ^^^ _
  have h : upd (run s a) (b ^^^ d) = upd (run s a) b ^^^ stps 8 d.toUInt32 := by
    have := upd_xor (run s a) 0 b d
    simpa using this
  rw [h, run_xor, ← stps_add, Nat.add_comm]

/-! ### what was marked comes to one state -/
theorem shl_down (y : UInt8) (k : Nat) (hk : k ≤ 16) : stps 8 (UInt32.ofNat (y.toNat * 2 ^ (k + 8))) = UInt32.ofNat (y.toNat * 2 ^ k) := by
  have hy := y.toNat_lt
  have hp : 2 ^ (k + 8) ≤ 2 ^ 24 := Nat.pow_le_pow_right (by omega) (by omega)
  have hp2 : 2 ^ k ≤ 2 ^ 16 := Nat.pow_le_pow_right (by omega) hk
  have e : (UInt32.ofNat (y.toNat * 2 ^ (k + 8))).toNat = y.toNat * 2 ^ (k + 8) := by
    rw [UInt32.toNat_ofNat']
    refine Nat.mod_eq_of_lt ?_
    calc y.toNat * 2 ^ (k + 8) ≤ 255 * 2 ^ 24 := Nat.mul_le_mul (by omega) hp
      _ < 2 ^ 32 := by omega
  apply UInt32.toNat_inj.1
  rw [stps_down 8 _ (by rw [e, Nat.pow_add, ← Nat.mul_assoc]; exact Nat.mul_mod_left _ _), e, UInt32.toNat_ofNat']
  rw [Nat.pow_add, ← Nat.mul_assoc, Nat.mul_div_cancel _ (by omega), Nat.mod_eq_of_lt]
  calc y.toNat * 2 ^ k ≤ 255 * 2 ^ 16 := Nat.mul_le_mul (by omega) hp2
    _ < 2 ^ 32 := by omega
def le4 (a b c d : UInt8) : UInt32 := a.toUInt32 ^^^ (UInt32.ofNat (b.toNat * 2 ^ 8) ^^^ (UInt32.ofNat (c.toNat * 2 ^ 16) ^^^ UInt32.ofNat (d.toNat * 2 ^ 24)))
theorem u32_of_u8 (y : UInt8) : UInt32.ofNat (y.toNat * 2 ^ 0) = y.toUInt32 := by
  apply UInt32.toNat_inj.1
  have := y.toNat_lt
  rw [UInt32.toNat_ofNat', UInt8.toNat_toUInt32]
  omega
theorem run_four (s : UInt32) (a b c d : UInt8) : run s [a, b, c, d] = stps 32 (s ^^^ le4 a b c d) := by
  show upd (upd (upd (upd s a) b) c) d = _
  rw [upd_bits, upd_bits, upd_bits, upd_bits]
  unfold updB le4
  rw [show (32 : Nat) = 8 + (8 + (8 + 8)) from rfl, stps_add, stps_add, stps_add]
  rw [← UInt32.xor_assoc s, stps_xor 8 (s ^^^ a.toUInt32), stps_xor 8 (UInt32.ofNat (b.toNat * 2 ^ 8)), stps_xor 8 (UInt32.ofNat (c.toNat * 2 ^ 16))]
  rw [shl_down b 0 (by omega), shl_down c 8 (by omega), shl_down d 16 (by omega), u32_of_u8]
  rw [← UInt32.xor_assoc, stps_xor 8 (stps 8 (s ^^^ a.toUInt32) ^^^ b.toUInt32), stps_xor 8 (UInt32.ofNat (c.toNat * 2 ^ 8))]
  rw [shl_down c 0 (by omega), shl_down d 8 (by omega), u32_of_u8, ← UInt32.xor_assoc]
  rw [stps_xor 8 (stps 8 (stps 8 (s ^^^ a.toUInt32) ^^^ b.toUInt32) ^^^ c.toUInt32), shl_down d 0 (by omega), u32_of_u8]
theorem arith1 (n : Nat) : n / 65536 * 65536 + n / 256 % 256 * 256 = n / 256 * 256 := by omega
theorem arith2 (n : Nat) : n / 256 * 256 + n % 256 = n := by omega
theorem le4_four (x : UInt32) : le4 x.toUInt8 (x >>> 8).toUInt8 (x >>> 16).toUInt8 (x >>> 24).toUInt8 = x := by
  have hx := x.toNat_lt
  have e8 : (x >>> 8).toUInt8.toNat = x.toNat / 256 % 256 := by simp [UInt32.toNat_shiftRight, Nat.shiftRight_eq_div_pow]
  have e16 : (x >>> 16).toUInt8.toNat = x.toNat / 65536 % 256 := by simp [UInt32.toNat_shiftRight, Nat.shiftRight_eq_div_pow]
  have e24 : (x >>> 24).toUInt8.toNat = x.toNat / 16777216 % 256 := by simp [UInt32.toNat_shiftRight, Nat.shiftRight_eq_div_pow]
  have e0 : x.toUInt8.toNat = x.toNat % 256 := by simp
  unfold le4
  apply UInt32.toNat_inj.1
  rw [UInt32.toNat_xor, UInt32.toNat_xor, UInt32.toNat_xor, UInt8.toNat_toUInt32, UInt32.toNat_ofNat', UInt32.toNat_ofNat', UInt32.toNat_ofNat', e0, e8, e16, e24]
  generalize x.toNat = n at *
  rw [Nat.mod_eq_of_lt (show n / 256 % 256 * 2 ^ 8 < 2 ^ 32 by show n / 256 % 256 * 256 < 4294967296; omega), Nat.mod_eq_of_lt (show n / 65536 % 256 * 2 ^ 16 < 2 ^ 32 by show n / 65536 % 256 * 65536 < 4294967296; omega), Nat.mod_eq_of_lt (show n / 16777216 % 256 * 2 ^ 24 < 2 ^ 32 by show n / 16777216 % 256 * 16777216 < 4294967296; omega)]
  have hj : ∀ (i a b : Nat), b < 2 ^ i → b ^^^ (a * 2 ^ i) = a * 2 ^ i + b := by
    intro i a b hb
    apply Nat.eq_of_testBit_eq
    intro j
    rw [Nat.testBit_xor, Nat.testBit_mul_two_pow, Nat.mul_comm a, Nat.testBit_two_pow_mul_add _ hb]
    by_cases h : j < i
    · have : ¬ i ≤ j := by omega
      simp [h, this]
    · have h2 : i ≤ j := by omega
      have : b.testBit j = false := Nat.testBit_lt_two_pow (Nat.lt_of_lt_of_le hb (Nat.pow_le_pow_right (by omega) h2))
      simp [h, h2, this]
  rw [hj 24 (n / 16777216 % 256) (n / 65536 % 256 * 2 ^ 16) (by show n / 65536 % 256 * 65536 < 16777216; omega)]
  have h3 : n / 16777216 % 256 * 2 ^ 24 + n / 65536 % 256 * 2 ^ 16 = (n / 65536) * 2 ^ 16 := by show n / 16777216 % 256 * 16777216 + n / 65536 % 256 * 65536 = (n / 65536) * 65536; omega
  rw [h3]
  rw [hj 16 (n / 65536) (n / 256 % 256 * 2 ^ 8) (by show n / 256 % 256 * 256 < 65536; omega)]
  have h4 : n / 65536 * 2 ^ 16 + n / 256 % 256 * 2 ^ 8 = (n / 256) * 2 ^ 8 := arith1 n
  rw [h4, hj 8 (n / 256) (n % 256) (by show n % 256 < 256; omega)]
  exact arith2 n
def endState : UInt32 := stps 32 4294967295
theorem run_mark (l : List UInt8) : run 4294967295 (markOf l) = endState := by
  unfold markOf
  rw [run_append]
  unfold four
  rw [run_four, le4_four]
  unfold crcOf endState
  congr 1
  show run 4294967295 l ^^^ ~~~ run 4294967295 l = (-1 : UInt32)
  rw [← UInt32.xor_neg_one, ← UInt32.xor_assoc, UInt32.xor_self, UInt32.zero_xor]
theorem not_fits (m : List UInt8) (h : run 4294967295 m ≠ endState) : fitsB m = false := by
  unfold fitsB
  rw [decide_eq_false]
  rintro ⟨_, h2⟩
  apply h
  rw [← h2]
  exact run_mark _

/-- one byte turned -/
theorem turned_byte (l a c : List UInt8) (b d : UInt8) (h : markOf l = a ++ b :: c) (hd : d ≠ 0) : fitsB (a ++ (b ^^^ d) :: c) = false := by
  apply not_fits
  rw [run_turn, ← h, run_mark]
  intro e
  have h2 : stps (8 * c.length + 8) d.toUInt32 = 0 := by
    have h3 : endState ^^^ (endState ^^^ stps (8 * c.length + 8) d.toUInt32) = endState ^^^ endState := by rw [e]
    rw [← UInt32.xor_assoc, UInt32.xor_self, UInt32.zero_xor] at h3
    exact h3
  refine stps_ne _ _ ?_ h2
  intro e2
  apply hd
  apply UInt8.toNat_inj.1
  have := congrArg UInt32.toNat e2
  simpa using this

/-! ### bits turned within 32 -/
def bit8 (q : Nat) : UInt8 := UInt8.ofNat (2 ^ (q % 8))
/-- bit number q turned -/
def flip (m : List UInt8) (q : Nat) : List UInt8 := m.set (q / 8) (m.getD (q / 8) 0 ^^^ bit8 q)
theorem flip_length (m : List UInt8) (q : Nat) : (flip m q).length = m.length := by simp [flip]
theorem bit8_u32 (q : Nat) : (bit8 q).toUInt32 = UInt32.ofNat (2 ^ (q % 8)) := by
  have hp : 2 ^ (q % 8) < 2 ^ 8 := Nat.pow_lt_pow_right (by omega) (by omega)
  apply UInt32.toNat_inj.1
  rw [UInt8.toNat_toUInt32, UInt32.toNat_ofNat']
  unfold bit8
  rw [UInt8.toNat_ofNat']
  generalize 2 ^ (q % 8) = z at *
  have hz : z < 256 := hp
  show z % 256 = z % 4294967296
  omega
theorem run_flip (s : UInt32) (m : List UInt8) (q : Nat) (hq : q < 8 * m.length) : run s (flip m q) = run s m ^^^ stps (8 * m.length - q) 1 := by
  have hi : q / 8 < m.length := by omega
  have hm : m = m.take (q / 8) ++ m[q / 8] :: m.drop (q / 8 + 1) := by
    rw [List.getElem_cons_drop hi, List.take_append_drop]
  have hf : flip m q = m.take (q / 8) ++ (m[q / 8] ^^^ bit8 q) :: m.drop (q / 8 + 1) := by
    unfold flip
    rw [List.set_eq_take_append_cons_drop, if_pos hi]
    simp [hi]
  rw [hf, run_turn, ← hm, bit8_u32]
  congr 1
  have h1 : 8 * (m.drop (q / 8 + 1)).length + 8 = q % 8 + (8 * m.length - q) := by rw [List.length_drop]; omega
  rw [h1, stps_add, stps_two _ (by omega)]
/-- the first k bits of x turned, from bit number p on -/
def burst (x : UInt32) (p : Nat) : Nat → List UInt8 → List UInt8
  | 0, m => m
  | k + 1, m => if x.toNat / 2 ^ k % 2 = 1 then flip (burst x p k m) (p + k) else burst x p k m
theorem burst_length (x : UInt32) (p k : Nat) (m : List UInt8) : (burst x p k m).length = m.length := by
  induction k with
  | zero => rfl
  | succ k ih => unfold burst; split <;> simp [flip_length, ih]
theorem mod_succ_xor (n k : Nat) : n % 2 ^ (k + 1) = if n / 2 ^ k % 2 = 1 then (n % 2 ^ k) ^^^ 2 ^ k else n % 2 ^ k := by
  have h1 : n % 2 ^ (k + 1) = 2 ^ k * (n / 2 ^ k % 2) + n % 2 ^ k := by
    rw [Nat.pow_succ, Nat.mod_mul, Nat.add_comm]
  have hlt : n % 2 ^ k < 2 ^ k := Nat.mod_lt _ (Nat.two_pow_pos k)
  rw [h1]
  split
  · rename_i h
    rw [h]
    apply Nat.eq_of_testBit_eq
    intro j
    rw [Nat.testBit_two_pow_mul_add _ hlt, Nat.testBit_xor, Nat.testBit_two_pow]
    by_cases hj : j < k
    · have : ¬ k = j := by omega
      simp [hj, this]
    · have hb : (n % 2 ^ k).testBit j = false := Nat.testBit_lt_two_pow (Nat.lt_of_lt_of_le hlt (Nat.pow_le_pow_right (by omega) (by omega)))
      rw [if_neg hj, hb]
      by_cases e : k = j
      · subst e; simp
      · have : j - k ≠ 0 := by omega
        rw [decide_eq_false e]
        cases h9 : Nat.testBit 1 (j - k) with
        | false => rfl
        | true => exact absurd (Nat.testBit_one_eq_true_iff_self_eq_zero.1 h9) this
  · rename_i h
    have : n / 2 ^ k % 2 = 0 := by omega
    rw [this]; simp
theorem run_burst (s x : UInt32) (p : Nat) (m : List UInt8) (hp : p + 32 ≤ 8 * m.length) : ∀ k, k ≤ 32 → run s (burst x p k m) = run s m ^^^ stps (8 * m.length - p) (UInt32.ofNat (x.toNat % 2 ^ k))
  | 0, _ => by
    have : x.toNat % 2 ^ 0 = 0 := by simp [Nat.mod_one]
    rw [this]
    show run s m = run s m ^^^ stps _ 0
    rw [stps_zero, UInt32.xor_zero]
  | k + 1, hk => by
    have ih := run_burst s x p m hp k (by omega)
    unfold burst
    rw [mod_succ_xor]
    split
    · rw [run_flip _ _ _ (by rw [burst_length]; omega), ih, burst_length]
      have h1 : UInt32.ofNat ((x.toNat % 2 ^ k) ^^^ 2 ^ k) = UInt32.ofNat (x.toNat % 2 ^ k) ^^^ UInt32.ofNat (2 ^ k) := by
        apply UInt32.toNat_inj.1
        have hp : 2 ^ k < 2 ^ 32 := Nat.pow_lt_pow_right (by omega) (by omega)
        have hlt : x.toNat % 2 ^ k < 2 ^ k := Nat.mod_lt _ (Nat.two_pow_pos k)
        rw [UInt32.toNat_xor, UInt32.toNat_ofNat', UInt32.toNat_ofNat', UInt32.toNat_ofNat', Nat.mod_eq_of_lt (show x.toNat % 2 ^ k < 2 ^ 32 by omega), Nat.mod_eq_of_lt hp, Nat.mod_eq_of_lt]
        exact Nat.xor_lt_two_pow (by omega) hp
      rw [h1, stps_xor, UInt32.xor_assoc]
      congr 2
      have h2 : 8 * m.length - p = k + (8 * m.length - (p + k)) := by omega
      rw [h2, stps_add, stps_two k (by omega)]
    · exact ih
theorem burst_found (l : List UInt8) (x : UInt32) (p : Nat) (hx : x ≠ 0) (hp : p + 32 ≤ 8 * (markOf l).length) : fitsB (burst x p 32 (markOf l)) = false := by
  apply not_fits
  rw [run_burst _ _ _ _ hp 32 (by omega), run_mark]
  intro e
  have h3 : endState ^^^ (endState ^^^ stps (8 * (markOf l).length - p) (UInt32.ofNat (x.toNat % 2 ^ 32))) = endState ^^^ endState := by rw [e]
  rw [← UInt32.xor_assoc, UInt32.xor_self, UInt32.zero_xor] at h3
  refine stps_ne _ _ ?_ h3
  have h4 : x.toNat % 2 ^ 32 = x.toNat := Nat.mod_eq_of_lt x.toNat_lt
  rw [h4]
  simpa using hx

end Go.Proofs.Ytpoicbhbkabllaa
