/- Lemmas for the law ShardPuts: What the check finds: bits turned within 32, and one byte turned, are never missed. Plain Lean. No condition.; Pages in plain Lean: what a page's block is; the code's test and the document's are one; what is found. No condition.; frame in plain Lean: a section's bytes, what is read of bytes; Rows of a graph as a shard's bytes, and what is read of bytes, plainly. No condition.; the document's reading of neighbours; '==' of two cells; palmerref16.Same; Rows of a graph in memory; the document's New, Same, Arcs; copies of arcs and cells.; palmerref15.New: the error of rows; palmerref14.Same, palmerref15.Arcs, palmerref23.Few, gap; A region that draws its order, in which SOME operations change the world: what holds of the world is told by which operations have come up (J), the others by facts on their values.; A call within a region of the mixed law.; append, as an operation is run.; Disks: how one lies in memory; its blocks, what waits.; Disks: what each deed does, in plain.; Disks: On, Count, there, may, deed, Fuse, Off, Waiting, New; Structs with an array within, built; slices of one such.; (*disk.Disk).Write; (*disk.Disk).Sync (printed by wip/gen/dsync.py); Manifests: how one lies in memory; what came in.; page.Many and the document's Many are one function of the size. No condition.; Manifests, in plain: their bytes; which may be.; palmerref09: among, Great (printed by wip/gen/man1.py); []byte(s): a conversion of a string to bytes.; palmerref09.Body and manifest.body: a manife. No condition. -/
import Derived.Test.YthfnikdapknohaaZShardPuts2
import Derived.Laws.StructEq
import Derived.BigQuiet
import Derived.Deep.MidRow
import Derived.Great.BuildSlice
import Derived.Deep.WholeRow
import Derived.Deep.Cut
import Derived.Lib.ConvBytes
import Derived.Maps.OwnSet
import Derived.Lib.AppendStr
import Derived.Lib.AppendZerosOnto
import Derived.Carry
namespace Go.Proofs.Ythfnikdapknohaa
set_option linter.unusedSimpArgs false
set_option linter.unusedVariables false

/-! ### no state but 0 comes to 0 -/
theorem stp_zero (x : UInt32) (h : stp x = 0) : x = 0 := by
  have hx := x.toNat_lt
  unfold stp at h
  rcases bit0 x with hb | hb
  · rw [hb] at h
    simp only [UInt32.mul_zero, UInt32.xor_zero] at h
    have h1 : x.toNat / 2 = 0 := by
      have := congrArg UInt32.toNat h
      simpa [UInt32.toNat_shiftRight, Nat.shiftRight_eq_div_pow] using this
    have h2 : x.toNat % 2 = 0 := by
      have := congrArg UInt32.toNat hb
      rw [UInt32.toNat_and, show (1 : UInt32).toNat = 1 from rfl, Nat.and_one_is_mod] at this
      exact this
    apply UInt32.toNat_inj.1
    show x.toNat = 0
    omega
  · rw [hb] at h
    exfalso
    have h1 : x >>> 1 = poly := by
      have : (x >>> 1) ^^^ poly * 1 = 0 := h
      rw [UInt32.mul_one] at this
      have h2 : ((x >>> 1) ^^^ poly) ^^^ poly = 0 ^^^ poly := by rw [this]
      rw [UInt32.xor_assoc, UInt32.xor_self, UInt32.xor_zero, UInt32.zero_xor] at h2
      exact h2
    have h2 : x.toNat / 2 = 3988292384 := by
      have := congrArg UInt32.toNat h1
      rw [UInt32.toNat_shiftRight] at this
      simpa [Nat.shiftRight_eq_div_pow, poly] using this
    omega
theorem stps_ne (n : Nat) (x : UInt32) (h : x ≠ 0) : stps n x ≠ 0 := by
  induction n generalizing x with
  | zero => exact h
  | succ n ih => exact ih (stp x) (fun e => h (stp_zero x e))
/-- bits above the lowest n are moved down (any n) -/
theorem stps_down (n : Nat) (x : UInt32) (h : x.toNat % 2 ^ n = 0) : (stps n x).toNat = x.toNat / 2 ^ n := by
  induction n generalizing x with
  | zero => simp [stps]
  | succ n ih =>
    have h2 : x.toNat % 2 = 0 := by
      have := Nat.mod_mod_of_dvd x.toNat (show 2 ∣ 2 ^ (n + 1) from ⟨2 ^ n, by rw [Nat.pow_succ, Nat.mul_comm]⟩)
      rw [h] at this; simpa using this.symm
    have e : (x >>> 1).toNat = x.toNat / 2 := by simp [UInt32.toNat_shiftRight, Nat.shiftRight_eq_div_pow]
    rw [stps, stp_even x h2, ih (x >>> 1) (by
      rw [e]
      have : x.toNat = 2 * (x.toNat / 2) := by omega
      rw [this, Nat.pow_succ, Nat.mul_comm (2 ^ n), Nat.mul_mod_mul_left] at h
      omega), e, Nat.div_div_eq_div_mul, Nat.pow_succ, Nat.mul_comm 2]
theorem stps_two (k : Nat) (hk : k < 32) : stps k (UInt32.ofNat (2 ^ k)) = 1 := by
  have hp : 2 ^ k < 2 ^ 32 := Nat.pow_lt_pow_right (by omega) hk
  have e : (UInt32.ofNat (2 ^ k)).toNat = 2 ^ k := by rw [UInt32.toNat_ofNat']; exact Nat.mod_eq_of_lt hp
  apply UInt32.toNat_inj.1
  rw [stps_down k _ (by rw [e]; exact Nat.mod_self _), e]
  exact Nat.div_self (Nat.two_pow_pos k)

/-! ### a byte turned -/
theorem upd_xor (x y : UInt32) (c d : UInt8) : upd (x ^^^ y) (c ^^^ d) = upd x c ^^^ stps 8 (y ^^^ d.toUInt32) := by
  rw [upd_bits, upd_bits]
  unfold updB
  rw [← stps_xor]
  congr 1
  have : (c ^^^ d).toUInt32 = c.toUInt32 ^^^ d.toUInt32 := by
    apply UInt32.toNat_inj.1
    simp [UInt32.toNat_xor, UInt8.toNat_xor]
  rw [this, UInt32.xor_assoc, UInt32.xor_assoc, ← UInt32.xor_assoc y, UInt32.xor_comm y, UInt32.xor_assoc]
theorem run_xor (x y : UInt32) (l : List UInt8) : run (x ^^^ y) l = run x l ^^^ stps (8 * l.length) y := by
  induction l generalizing x y with
  | nil => rfl
  | cons c l ih =>
    show run (upd (x ^^^ y) c) l = run (upd x c) l ^^^ _
    have h : upd (x ^^^ y) c = upd x c ^^^ stps 8 y := by
      have := upd_xor x y c 0
      simpa using this
    rw [h, ih, List.length_cons, Nat.mul_add, Nat.add_comm (8 * l.length), Nat.mul_one, stps_add]
theorem run_turn (s : UInt32) (a c : List UInt8) (b d : UInt8) : run s (a ++ (b ^^^ d) :: c) = run s (a ++ b :: c) ^^^ stps (8 * c.length + 8) d.toUInt32 := by
  rw [run_append, run_append]
  show run (upd (run s a) (b ^^^ d)) c = run (upd (run s a) b) c ^^^ _
  have h : upd (run s a) (b ^^^ d) = upd (run s a) b ^^^ stps 8 d.toUInt32 := by
    have := upd_xor (run s a) 0 b d
    simpa using this
  rw [h, run_xor, ← stps_add, Nat.add_comm]

/-! ### what was marked comes to one state -/
theorem shl_down (y : UInt8) (k : Nat) (hk : k ≤ 16) : stps 8 (UInt32.ofNat (y.toNat * 2 ^ (k + 8))) = UInt32.ofNat (y.toNat * 2 ^ k) := by
  have hy := y.toNat_lt
  have hp : 2 ^ (k + 8) ≤ 2 ^ 24 := Nat.pow_le_pow_right (by omega) (by omega)
  have hp2 : 2 ^ k ≤ 2 ^ 16 := Nat.pow_le_pow_right (by omega) hk
  have e : (UInt32.ofNat (y.toNat * 2 ^ (k + 8))).toNat = y.toNat * 2 ^ (k + 8) := by
    rw [UInt32.toNat_ofNat']
    refine Nat.mod_eq_of_lt ?_
    calc y.toNat * 2 ^ (k + 8) ≤ 255 * 2 ^ 24 := Nat.mul_le_mul (by omega) hp
      _ < 2 ^ 32 := by omega
  apply UInt32.toNat_inj.1
  rw [stps_down 8 _ (by rw [e, Nat.pow_add, ← Nat.mul_assoc]; exact Nat.mul_mod_left _ _), e, UInt32.toNat_ofNat']
  rw [Nat.pow_add, ← Nat.mul_assoc, Nat.mul_div_cancel _ (by omega), Nat.mod_eq_of_lt]
  calc y.toNat * 2 ^ k ≤ 255 * 2 ^ 16 := Nat.mul_le_mul (by omega) hp2
    _ < 2 ^ 32 := by omega
def le4 (a b c d : UInt8) : UInt32 := a.toUInt32 ^^^ (UInt32.ofNat (b.toNat * 2 ^ 8) ^^^ (UInt32.ofNat (c.toNat * 2 ^ 16) ^^^ UInt32.ofNat (d.toNat * 2 ^ 24)))
theorem u32_of_u8 (y : UInt8) : UInt32.ofNat (y.toNat * 2 ^ 0) = y.toUInt32 := by
  apply UInt32.toNat_inj.1
  have := y.toNat_lt
  rw [UInt32.toNat_ofNat', UInt8.toNat_toUInt32]
  omega
theorem run_four (s : UInt32) (a b c d : UInt8) : run s [a, b, c, d] = stps 32 (s ^^^ le4 a b c d) := by
  show upd (upd (upd (upd s a) b) c) d = _
  rw [upd_bits, upd_bits, upd_bits, upd_bits]
  unfold updB le4
  rw [show (32 : Nat) = 8 + (8 + (8 + 8)) from rfl, stps_add, stps_add, stps_add]
  rw [← UInt32.xor_assoc s, stps_xor 8 (s ^^^ a.toUInt32), stps_xor 8 (UInt32.ofNat (b.toNat * 2 ^ 8)), stps_xor 8 (UInt32.ofNat (c.toNat * 2 ^ 16))]
  rw [shl_down b 0 (by omega), shl_down c 8 (by omega), shl_down d 16 (by omega), u32_of_u8]
  rw [← UInt32.xor_assoc, stps_xor 8 (stps 8 (s ^^^ a.toUInt32) ^^^ b.toUInt32), stps_xor 8 (UInt32.ofNat (c.toNat * 2 ^ 8))]
  rw [shl_down c 0 (by omega), shl_down d 8 (by omega), u32_of_u8, ← UInt32.xor_assoc]
  rw [stps_xor 8 (stps 8 (stps 8 (s ^^^ a.toUInt32) ^^^ b.toUInt32) ^^^ c.toUInt32), shl_down d 0 (by omega), u32_of_u8]
theorem arith1 (n : Nat) : n / 65536 * 65536 + n / 256 % 256 * 256 = n / 256 * 256 := by omega
theorem arith2 (n : Nat) : n / 256 * 256 + n % 256 = n := by omega
theorem le4_four (x : UInt32) : le4 x.toUInt8 (x >>> 8).toUInt8 (x >>> 16).toUInt8 (x >>> 24).toUInt8 = x := by
  have hx := x.toNat_lt
  have e8 : (x >>> 8).toUInt8.toNat = x.toNat / 256 % 256 := by simp [UInt32.toNat_shiftRight, Nat.shiftRight_eq_div_pow]
  have e16 : (x >>> 16).toUInt8.toNat = x.toNat / 65536 % 256 := by simp [UInt32.toNat_shiftRight, Nat.shiftRight_eq_div_pow]
  have e24 : (x >>> 24).toUInt8.toNat = x.toNat / 16777216 % 256 := by simp [UInt32.toNat_shiftRight, Nat.shiftRight_eq_div_pow]
  have e0 : x.toUInt8.toNat = x.toNat % 256 := by simp
  unfold le4
  apply UInt32.toNat_inj.1
  rw [UInt32.toNat_xor, UInt32.toNat_xor, UInt32.toNat_xor, UInt8.toNat_toUInt32, UInt32.toNat_ofNat', UInt32.toNat_ofNat', UInt32.toNat_ofNat', e0, e8, e16, e24]
  generalize x.toNat = n at *
  rw [Nat.mod_eq_of_lt (show n / 256 % 256 * 2 ^ 8 < 2 ^ 32 by show n / 256 % 256 * 256 < 4294967296; omega), Nat.mod_eq_of_lt (show n / 65536 % 256 * 2 ^ 16 < 2 ^ 32 by show n / 65536 % 256 * 65536 < 4294967296; omega), Nat.mod_eq_of_lt (show n / 16777216 % 256 * 2 ^ 24 < 2 ^ 32 by show n / 16777216 % 256 * 16777216 < 4294967296; omega)]
  have hj : ∀ (i a b : Nat), b < 2 ^ i → b ^^^ (a * 2 ^ i) = a * 2 ^ i + b := by
    intro i a b hb
    apply Nat.eq_of_testBit_eq
    intro j
    rw [Nat.testBit_xor, Nat.testBit_mul_two_pow, Nat.mul_comm a, Nat.testBit_two_pow_mul_add _ hb]
    by_cases h : j < i
    · have : ¬ i ≤ j := by omega
      simp [h, this]
    · have h2 : i ≤ j := by omega
      have : b.testBit j = false := Nat.testBit_lt_two_pow (Nat.lt_of_lt_of_le hb (Nat.pow_le_pow_right (by omega) h2))
      simp [h, h2, this]
  rw [hj 24 (n / 16777216 % 256) (n / 65536 % 256 * 2 ^ 16) (by show n / 65536 % 256 * 65536 < 16777216; omega)]
  have h3 : n / 16777216 % 256 * 2 ^ 24 + n / 65536 % 256 * 2 ^ 16 = (n / 65536) * 2 ^ 16 := by show n / 16777216 % 256 * 16777216 + n / 65536 % 256 * 65536 = (n / 65536) * 65536; omega
  rw [h3]
  rw [hj 16 (n / 65536) (n / 256 % 256 * 2 ^ 8) (by show n / 256 % 256 * 256 < 65536; omega)]
  have h4 : n / 65536 * 2 ^ 16 + n / 256 % 256 * 2 ^ 8 = (n / 256) * 2 ^ 8 := arith1 n
  rw [h4, hj 8 (n / 256) (n % 256) (by show n % 256 < 256; omega)]
  exact arith2 n
def endState : UInt32 := stps 32 4294967295
theorem run_mark (l : List UInt8) : run 4294967295 (markOf l) = endState := by
  unfold markOf
  rw [run_append]
  unfold four
  rw [run_four, le4_four]
  unfold crcOf endState
  congr 1
  show run 4294967295 l ^^^ ~~~ run 4294967295 l = (-1 : UInt32)
  rw [← UInt32.xor_neg_one, ← UInt32.xor_assoc, UInt32.xor_self, UInt32.zero_xor]
theorem not_fits (m : List UInt8) (h : run 4294967295 m ≠ endState) : fitsB m = false := by
  unfold fitsB
  rw [decide_eq_false]
  rintro ⟨_, h2⟩
  apply h
  rw [← h2]
  exact run_mark _

/-- one byte turned -/
theorem turned_byte (l a c : List UInt8) (b d : UInt8) (h : markOf l = a ++ b :: c) (hd : d ≠ 0) : fitsB (a ++ (b ^^^ d) :: c) = false := by
  apply not_fits
  rw [run_turn, ← h, run_mark]
  intro e
  have h2 : stps (8 * c.length + 8) d.toUInt32 = 0 := by
    have h3 : endState ^^^ (endState ^^^ stps (8 * c.length + 8) d.toUInt32) = endState ^^^ endState := by rw [e]
    rw [← UInt32.xor_assoc, UInt32.xor_self, UInt32.zero_xor] at h3
    exact h3
  refine stps_ne _ _ ?_ h2
  intro e2
  apply hd
  apply UInt8.toNat_inj.1
  have := congrArg UInt32.toNat e2
  simpa using this

/-! ### bits turned within 32 -/
def bit8 (q : Nat) : UInt8 := UInt8.ofNat (2 ^ (q % 8))
/-- bit number q turned -/
def flip (m : List UInt8) (q : Nat) : List UInt8 := m.set (q / 8) (m.getD (q / 8) 0 ^^^ bit8 q)
theorem flip_length (m : List UInt8) (q : Nat) : (flip m q).length = m.length := by simp [flip]
theorem bit8_u32 (q : Nat) : (bit8 q).toUInt32 = UInt32.ofNat (2 ^ (q % 8)) := by
  have hp : 2 ^ (q % 8) < 2 ^ 8 := Nat.pow_lt_pow_right (by omega) (by omega)
  apply UInt32.toNat_inj.1
  rw [UInt8.toNat_toUInt32, UInt32.toNat_ofNat']
  unfold bit8
  rw [UInt8.toNat_ofNat']
  generalize 2 ^ (q % 8) = z at *
  have hz : z < 256 := hp
  show z % 256 = z % 4294967296
  omega
theorem run_flip (s : UInt32) (m : List UInt8) (q : Nat) (hq : q < 8 * m.length) : run s (flip m q) = run s m ^^^ stps (8 * m.length - q) 1 := by
  have hi : q / 8 < m.length := by omega
  have hm : m = m.take (q / 8) ++ m[q / 8] :: m.drop (q / 8 + 1) := by
    rw [List.getElem_cons_drop hi, List.take_append_drop]
  have hf : flip m q = m.take (q / 8) ++ (m[q / 8] ^^^ bit8 q) :: m.drop (q / 8 + 1) := by
    unfold flip
    rw [List.set_eq_take_append_cons_drop, if_pos hi]
    simp [hi]
  rw [hf, run_turn, ← hm, bit8_u32]
  congr 1
  have h1 : 8 * (m.drop (q / 8 + 1)).length + 8 = q % 8 + (8 * m.length - q) := by rw [List.length_drop]; omega
  rw [h1, stps_add, stps_two _ (by omega)]
/-- the first k bits of x turned, from bit number p on -/
def burst (x : UInt32) (p : Nat) : Nat → List UInt8 → List UInt8
  | 0, m => m
  | k + 1, m => if x.toNat / 2 ^ k % 2 = 1 then flip (burst x p k m) (p + k) else burst x p k m
theorem burst_length (x : UInt32) (p k : Nat) (m : List UInt8) : (burst x p k m).length = m.length := by
  induction k with
  | zero => rfl
  | succ k ih => unfold burst; split <;> simp [flip_length, ih]
theorem mod_succ_xor (n k : Nat) : n % 2 ^ (k + 1) = if n / 2 ^ k % 2 = 1 then (n % 2 ^ k) ^^^ 2 ^ k else n % 2 ^ k := by
  have h1 : n % 2 ^ (k + 1) = 2 ^ k * (n / 2 ^ k % 2) + n % 2 ^ k := by
    rw [Nat.pow_succ, Nat.mod_mul, Nat.add_comm]
  have hlt : n % 2 ^ k < 2 ^ k := Nat.mod_lt _ (Nat.two_pow_pos k)
  rw [h1]
  split
  · rename_i h
    rw [h]
    apply Nat.eq_of_testBit_eq
    intro j
    rw [Nat.testBit_two_pow_mul_add _ hlt, Nat.testBit_xor, Nat.testBit_two_pow]
    by_cases hj : j < k
    · have : ¬ k = j := by omega
      simp [hj, this]
    · have hb : (n % 2 ^ k).testBit j = false := Nat.testBit_lt_two_pow (Nat.lt_of_lt_of_le hlt (Nat.pow_le_pow_right (by omega) (by omega)))
      rw [if_neg hj, hb]
      by_cases e : k = j
      · subst e; simp
      · have : j - k ≠ 0 := by omega
        rw [decide_eq_false e]
        cases h9 : Nat.testBit 1 (j - k) with
        | false => rfl
        | true => exact absurd (Nat.testBit_one_eq_true_iff_self_eq_zero.1 h9) this
  · rename_i h
    have : n / 2 ^ k % 2 = 0 := by omega
    rw [this]; simp
theorem run_burst (s x : UInt32) (p : Nat) (m : List UInt8) (hp : p + 32 ≤ 8 * m.length) : ∀ k, k ≤ 32 → run s (burst x p k m) = run s m ^^^ stps (8 * m.length - p) (UInt32.ofNat (x.toNat % 2 ^ k))
  | 0, _ => by
    have : x.toNat % 2 ^ 0 = 0 := by simp [Nat.mod_one]
    rw [this]
    show run s m = run s m ^^^ stps _ 0
    rw [stps_zero, UInt32.xor_zero]
  | k + 1, hk => by
    have ih := run_burst s x p m hp k (by omega)
    unfold burst
    rw [mod_succ_xor]
    split
    · rw [run_flip _ _ _ (by rw [burst_length]; omega), ih, burst_length]
      have h1 : UInt32.ofNat ((x.toNat % 2 ^ k) ^^^ 2 ^ k) = UInt32.ofNat (x.toNat % 2 ^ k) ^^^ UInt32.ofNat (2 ^ k) := by
        apply UInt32.toNat_inj.1
        have hp : 2 ^ k < 2 ^ 32 := Nat.pow_lt_pow_right (by omega) (by omega)
        have hlt : x.toNat % 2 ^ k < 2 ^ k := Nat.mod_lt _ (Nat.two_pow_pos k)
        rw [UInt32.toNat_xor, UInt32.toNat_ofNat', UInt32.toNat_ofNat', UInt32.toNat_ofNat', Nat.mod_eq_of_lt (show x.toNat % 2 ^ k < 2 ^ 32 by omega), Nat.mod_eq_of_lt hp, Nat.mod_eq_of_lt]
        exact Nat.xor_lt_two_pow (by omega) hp
      rw [h1, stps_xor, UInt32.xor_assoc]
      congr 2
      have h2 : 8 * m.length - p = k + (8 * m.length - (p + k)) := by omega
      rw [h2, stps_add, stps_two k (by omega)]
    · exact ih
theorem burst_found (l : List UInt8) (x : UInt32) (p : Nat) (hx : x ≠ 0) (hp : p + 32 ≤ 8 * (markOf l).length) : fitsB (burst x p 32 (markOf l)) = false := by
  apply not_fits
  rw [run_burst _ _ _ _ hp 32 (by omega), run_mark]
  intro e
  have h3 : endState ^^^ (endState ^^^ stps (8 * (markOf l).length - p) (UInt32.ofNat (x.toNat % 2 ^ 32))) = endState ^^^ endState := by rw [e]
  rw [← UInt32.xor_assoc, UInt32.xor_self, UInt32.zero_xor] at h3
  refine stps_ne _ _ ?_ h3
  have h4 : x.toNat % 2 ^ 32 = x.toNat := Nat.mod_eq_of_lt x.toNat_lt
  rw [h4]
  simpa using hx

end Go.Proofs.Ythfnikdapknohaa

namespace Go.Proofs.Ythfnikdapknohaa
set_option linter.unusedSimpArgs false
set_option linter.unusedVariables false

def zeros (n : Nat) : List UInt8 := List.replicate n 0
def headOf (file place : UInt32) (b : List UInt8) : List UInt8 := four file ++ four place ++ four (UInt32.ofNat b.length) ++ b
def bodyOf (file place : UInt32) (b : List UInt8) : List UInt8 := headOf file place b ++ zeros (112 - b.length)
def pageOf (file place : UInt32) (b : List UInt8) : List UInt8 := markOf (bodyOf file place b)
def putL (file place : UInt32) (b : List UInt8) : List UInt8 := if 112 < b.length then [] else pageOf file place b
def putE (b : List UInt8) : Int := if 112 < b.length then 4 else 0
theorem headOf_length (file place : UInt32) (b : List UInt8) : (headOf file place b).length = 12 + b.length := by simp [headOf, four_length]; omega
theorem bodyOf_length (file place : UInt32) (b : List UInt8) (h : b.length ≤ 112) : (bodyOf file place b).length = 124 := by
  simp [bodyOf, headOf_length, zeros]; omega
theorem pageOf_length (file place : UInt32) (b : List UInt8) (h : b.length ≤ 112) : (pageOf file place b).length = 128 := by
  rw [pageOf, markOf_length, bodyOf_length _ _ _ h]

/-! ### the parts of a page -/
theorem take_four (x : UInt32) (l : List UInt8) : (four x ++ l).take 4 = four x := by simp [four]
theorem drop_four (x : UInt32) (l : List UInt8) : (four x ++ l).drop 4 = l := by simp [four]
theorem four_inj {x y : UInt32} (h : four x = four y) : x = y := by
  unfold four at h
  simp only [List.cons.injEq, and_true] at h
  obtain ⟨h1, h2, h3, h4⟩ := h
  rw [← le4_four x, ← le4_four y, h1, h2, h3, h4]
theorem pageOf_eq (file place : UInt32) (b : List UInt8) : pageOf file place b = four file ++ (four place ++ (four (UInt32.ofNat b.length) ++ (b ++ (zeros (112 - b.length) ++ four (crcOf (bodyOf file place b)))))) := by
  unfold pageOf markOf
  simp only [bodyOf, headOf, List.append_assoc]
theorem page_file (file place : UInt32) (b : List UInt8) : (pageOf file place b).take 4 = four file := by rw [pageOf_eq, take_four]
theorem page_place (file place : UInt32) (b : List UInt8) : ((pageOf file place b).drop 4).take 4 = four place := by rw [pageOf_eq, drop_four, take_four]
theorem page_len (file place : UInt32) (b : List UInt8) : ((pageOf file place b).drop 8).take 4 = four (UInt32.ofNat b.length) := by
  rw [show (8 : Nat) = 4 + 4 from rfl, ← List.drop_drop, pageOf_eq, drop_four, drop_four, take_four]
theorem page_rest (file place : UInt32) (b : List UInt8) : (pageOf file place b).drop 12 = b ++ (zeros (112 - b.length) ++ four (crcOf (bodyOf file place b))) := by
  rw [show (12 : Nat) = 4 + (4 + 4) from rfl, ← List.drop_drop, ← List.drop_drop, pageOf_eq, drop_four, drop_four, drop_four]
theorem page_fits (file place : UInt32) (b : List UInt8) : fitsB (pageOf file place b) = true := fitsB_mark _

/-! ### the code's test -/
def lenAt (l : List UInt8) : Nat := min (l.getD 8 0).toNat 112
def inOf (l : List UInt8) : List UInt8 := (l.drop 12).take (lenAt l)
def getB (l : List UInt8) (file place : UInt32) : Bool := decide (l.length = 128 ∧ pageOf file place (inOf l) = l)
def getL (l : List UInt8) (file place : UInt32) : List UInt8 := if getB l file place then inOf l else []
def getE (l : List UInt8) (file place : UInt32) : Int := if l.length ≠ 128 then 3 else if getB l file place then 0 else 5
theorem inOf_le (l : List UInt8) : (inOf l).length ≤ 112 := by simp [inOf, lenAt]; omega

theorem four_getD0 (x : UInt32) (l : List UInt8) : (four x ++ l).getD 0 0 = x.toUInt8 := rfl
theorem lenAt_page (file place : UInt32) (b : List UInt8) (h : b.length ≤ 112) : lenAt (pageOf file place b) = b.length := by
  unfold lenAt
  have : (pageOf file place b).getD 8 0 = (UInt32.ofNat b.length).toUInt8 := by
    rw [pageOf_eq]; rfl
  rw [this, UInt32.toNat_toUInt8, UInt32.toNat_ofNat']
  omega
theorem inOf_page (file place : UInt32) (b : List UInt8) (h : b.length ≤ 112) : inOf (pageOf file place b) = b := by
  unfold inOf
  rw [lenAt_page _ _ _ h, page_rest]
  simp
theorem getB_page (file place f2 p2 : UInt32) (b : List UInt8) (h : b.length ≤ 112) : getB (pageOf file place b) f2 p2 = decide (f2 = file ∧ p2 = place) := by
  unfold getB
  rw [inOf_page _ _ _ h, pageOf_length _ _ _ h, decide_eq_decide]
  constructor
  · rintro ⟨_, e⟩
    have h1 := congrArg (fun l => l.take 4) e
    have h2 := congrArg (fun l => (l.drop 4).take 4) e
    simp only [page_file, page_place] at h1 h2
    exact ⟨four_inj h1, four_inj h2⟩
  · rintro ⟨rfl, rfl⟩
    exact ⟨rfl, rfl⟩
theorem getB_fits (l : List UInt8) (file place : UInt32) (h : getB l file place = true) : fitsB l = true := by
  unfold getB at h
  have := (of_decide_eq_true h).2
  rw [← this]
  exact page_fits _ _ _

/-! ### the document's test -/
def leAt (l : List UInt8) : Nat := (l.getD 8 0).toNat + 256 * (l.getD 9 0).toNat + 65536 * (l.getD 10 0).toNat + 16777216 * (l.getD 11 0).toNat
def refB (l : List UInt8) (file place : UInt32) : Prop :=
  l.length = 128 ∧ fitsB l = true ∧ l.take 4 = four file ∧ (l.drop 4).take 4 = four place ∧ leAt l ≤ 112 ∧ ∀ i, 12 + leAt l ≤ i → i < 124 → l.getD i 0 = 0
theorem four_of_le (a b c d : UInt8) (n : Nat) (h : n = a.toNat + 256 * b.toNat + 65536 * c.toNat + 16777216 * d.toNat) : four (UInt32.ofNat n) = [a, b, c, d] := by
  have ha := a.toNat_lt
  have hb := b.toNat_lt
  have hc := c.toNat_lt
  have hd := d.toNat_lt
  have hn : (UInt32.ofNat n).toNat = n := by rw [UInt32.toNat_ofNat']; omega
  have e0 : (UInt32.ofNat n).toUInt8 = a := by apply UInt8.toNat_inj.1; rw [UInt32.toNat_toUInt8, hn]; omega
  have e1 : ((UInt32.ofNat n) >>> 8).toUInt8 = b := by
    apply UInt8.toNat_inj.1
    have : ((UInt32.ofNat n) >>> 8).toUInt8.toNat = (UInt32.ofNat n).toNat / 256 % 256 := by simp [UInt32.toNat_shiftRight, Nat.shiftRight_eq_div_pow]
    rw [this, hn]; omega
  have e2 : ((UInt32.ofNat n) >>> 16).toUInt8 = c := by
    apply UInt8.toNat_inj.1
    have : ((UInt32.ofNat n) >>> 16).toUInt8.toNat = (UInt32.ofNat n).toNat / 65536 % 256 := by simp [UInt32.toNat_shiftRight, Nat.shiftRight_eq_div_pow]
    rw [this, hn]; omega
  have e3 : ((UInt32.ofNat n) >>> 24).toUInt8 = d := by
    apply UInt8.toNat_inj.1
    have : ((UInt32.ofNat n) >>> 24).toUInt8.toNat = (UInt32.ofNat n).toNat / 16777216 % 256 := by simp [UInt32.toNat_shiftRight, Nat.shiftRight_eq_div_pow]
    rw [this, hn]; omega
  unfold four
  rw [e0, e1, e2, e3]
theorem le_four (n : Nat) (hn : n < 4294967296) (l : List UInt8) (h : (l.drop 8).take 4 = four (UInt32.ofNat n)) : leAt l = n := by
  have h8 : l.getD 8 0 = (UInt32.ofNat n).toUInt8 := by
    have := congrArg (fun x => x.getD 0 0) h
    simpa [List.getD_eq_getElem?_getD, List.getElem?_take, List.getElem?_drop, four] using this
  have h9 : l.getD 9 0 = ((UInt32.ofNat n) >>> 8).toUInt8 := by
    have := congrArg (fun x => x.getD 1 0) h
    simpa [List.getD_eq_getElem?_getD, List.getElem?_take, List.getElem?_drop, four] using this
  have h10 : l.getD 10 0 = ((UInt32.ofNat n) >>> 16).toUInt8 := by
    have := congrArg (fun x => x.getD 2 0) h
    simpa [List.getD_eq_getElem?_getD, List.getElem?_take, List.getElem?_drop, four] using this
  have h11 : l.getD 11 0 = ((UInt32.ofNat n) >>> 24).toUInt8 := by
    have := congrArg (fun x => x.getD 3 0) h
    simpa [List.getD_eq_getElem?_getD, List.getElem?_take, List.getElem?_drop, four] using this
  have hn' : (UInt32.ofNat n).toNat = n := by rw [UInt32.toNat_ofNat']; omega
  unfold leAt
  rw [h8, h9, h10, h11]
  simp [UInt32.toNat_shiftRight, Nat.shiftRight_eq_div_pow, Nat.mod_eq_of_lt hn]
  omega
theorem four_leAt (l : List UInt8) (h : 12 ≤ l.length) : (l.drop 8).take 4 = four (UInt32.ofNat (leAt l)) := by
  rw [four_of_le (l.getD 8 0) (l.getD 9 0) (l.getD 10 0) (l.getD 11 0) (leAt l) rfl]
  apply List.ext_getElem?
  intro i
  have hg : ∀ k, k < l.length → l[k]? = some (l.getD k 0) := fun k hk => by simp [List.getD_eq_getElem?_getD, hk]
  rw [List.getElem?_take]
  by_cases hi : i < 4
  · rw [if_pos hi, List.getElem?_drop, hg _ (by omega)]
    rcases (show i = 0 ∨ i = 1 ∨ i = 2 ∨ i = 3 by omega) with rfl | rfl | rfl | rfl <;> rfl
  · rw [if_neg hi]
    simp; omega
/-- the two tests are one -/
theorem get_ref (l : List UInt8) (file place : UInt32) : getB l file place = true ↔ refB l file place := by
  constructor
  · intro h
    have hf := getB_fits l file place h
    unfold getB at h
    obtain ⟨hl, hp⟩ := of_decide_eq_true h
    have hle := inOf_le l
    have h4 := page_len file place (inOf l)
    rw [hp] at h4
    have hn := le_four (inOf l).length (by omega) l h4
    have h1 := page_file file place (inOf l)
    have h2 := page_place file place (inOf l)
    have h3 := page_rest file place (inOf l)
    rw [hp] at h1 h2 h3
    refine ⟨hl, hf, h1, h2, by rw [hn]; exact hle, ?_⟩
    intro i hi1 hi2
    rw [hn] at hi1
    have : l.getD i 0 = (l.drop 12).getD (i - 12) 0 := by
      simp only [List.getD_eq_getElem?_getD, List.getElem?_drop]
      rw [show 12 + (i - 12) = i by omega]
    rw [this, h3, List.getD_eq_getElem?_getD, List.getElem?_append_right (by omega), List.getElem?_append_left (by simp [zeros]; omega)]
    simp only [zeros, List.getElem?_replicate]
    split <;> rfl
  · rintro ⟨hl, hf, h1, h2, h3, h4⟩
    unfold getB
    rw [decide_eq_true]
    refine ⟨hl, ?_⟩
    have hlow : lenAt l = leAt l := by
      unfold lenAt
      have : leAt l = (l.getD 8 0).toNat + 256 * (l.getD 9 0).toNat + 65536 * (l.getD 10 0).toNat + 16777216 * (l.getD 11 0).toNat := rfl
      omega
    have hin : (inOf l).length = leAt l := by
      unfold inOf; rw [List.length_take, List.length_drop, hl, hlow]; omega
    have hb : bodyOf file place (inOf l) = l.take 124 := by
      have e1 : l.take 124 = l.take 4 ++ ((l.drop 4).take 4 ++ ((l.drop 8).take 4 ++ ((l.drop 12).take (leAt l) ++ (l.drop (12 + leAt l)).take (112 - leAt l)))) := by
        rw [show (124 : Nat) = 4 + (4 + (4 + (leAt l + (112 - leAt l)))) by omega]
        rw [List.take_add, List.take_add, List.take_add, List.take_add, List.drop_drop, List.drop_drop, List.drop_drop]
      rw [e1, h1, h2, four_leAt l (by omega)]
      unfold bodyOf headOf
      rw [hin]
      simp only [List.append_assoc]
      congr 3
      unfold inOf
      rw [hlow]
      congr 1
      apply List.ext_getElem?
      intro i
      simp only [zeros, List.getElem?_replicate, List.getElem?_take, List.getElem?_drop]
      split
      · have := h4 (12 + leAt l + i) (by omega) (by omega)
        rw [List.getD_eq_getElem?_getD, List.getElem?_eq_getElem (by omega)] at this
        rw [List.getElem?_eq_getElem (by omega)]
        simpa using this.symm
      · rfl
    unfold pageOf
    rw [hb]
    unfold fitsB at hf
    have := (of_decide_eq_true hf).2
    rwa [hl] at this
theorem ref_in (l : List UInt8) (file place : UInt32) (h : refB l file place) : inOf l = (l.drop 12).take (leAt l) := by
  obtain ⟨_, _, _, _, h3, _⟩ := h
  have hlow : lenAt l = leAt l := by
    unfold lenAt
    have : leAt l = (l.getD 8 0).toNat + 256 * (l.getD 9 0).toNat + 65536 * (l.getD 10 0).toNat + 16777216 * (l.getD 11 0).toNat := rfl
    omega
  unfold inOf; rw [hlow]
/-- a page of which one byte is turned -/
theorem getB_turned (file place f2 p2 : UInt32) (b : List UInt8) (at_ : Nat) (by_ : UInt8) (h : b.length ≤ 112) (ha : at_ < 128) (hby : by_ ≠ 0) :
    getB ((pageOf file place b).set at_ ((pageOf file place b).getD at_ 0 ^^^ by_)) f2 p2 = false := by
  have hl := pageOf_length file place b h
  have ha' : at_ < (pageOf file place b).length := by omega
  cases hg : getB ((pageOf file place b).set at_ ((pageOf file place b).getD at_ 0 ^^^ by_)) f2 p2 with
  | false => rfl
  | true =>
    exfalso
    have hf := getB_fits _ _ _ hg
    have hm : pageOf file place b = (pageOf file place b).take at_ ++ (pageOf file place b)[at_] :: (pageOf file place b).drop (at_ + 1) := by
      rw [List.getElem_cons_drop ha', List.take_append_drop]
    have hs : (pageOf file place b).set at_ ((pageOf file place b).getD at_ 0 ^^^ by_) = (pageOf file place b).take at_ ++ ((pageOf file place b)[at_] ^^^ by_) :: (pageOf file place b).drop (at_ + 1) := by
      rw [List.set_eq_take_append_cons_drop, if_pos ha']
      simp [ha']
    have := turned_byte (bodyOf file place b) _ _ _ by_ hm hby
    rw [hs, this] at hf
    cases hf
end Go.Proofs.Ythfnikdapknohaa

namespace Go.Proofs.Ythfnikdapknohaa
set_option linter.unusedSimpArgs false
set_option linter.unusedVariables false
open Go.RowKit

/-- a section's bytes -/
def frameOf (k : UInt8) (l : List UInt8) : List UInt8 := markOf (k :: four (UInt32.ofNat l.length)) ++ markOf l
theorem frameOf_length (k : UInt8) (l : List UInt8) : (frameOf k l).length = l.length + 13 := by
  simp [frameOf, markOf_length, four_length]; omega
/-- the length that the head tells -/
def sLen (b : List UInt8) : Nat := (b.getD 1 0).toNat + 256 * (b.getD 2 0).toNat + 65536 * (b.getD 3 0).toNat + 16777216 * (b.getD 4 0).toNat
def sE (b : List UInt8) : Int :=
  if b.length < 9 then 2 else if fitsB (b.take 9) = false then 5 else if 1048576 < sLen b then 4 else if b.length < sLen b + 13 then 2
  else if fitsB ((b.drop 9).take (sLen b + 4)) then 0 else 5
def sL (b : List UInt8) : List UInt8 := if sE b = 0 then (b.drop 9).take (sLen b) else []
def sN (b : List UInt8) : Nat := if sE b = 0 then sLen b + 13 else 0
def sK (b : List UInt8) : UInt8 := if sE b = 0 then b.getD 0 0 else 0

theorem sLen_lt (b : List UInt8) : sLen b < 4294967296 := by
  have h1 := u8_lt (b.getD 1 0)
  have h2 := u8_lt (b.getD 2 0)
  have h3 := u8_lt (b.getD 3 0)
  have h4 := u8_lt (b.getD 4 0)
  unfold sLen
  omega

/-- the head's five bytes -/
theorem frameOf_eq (k : UInt8) (l : List UInt8) : frameOf k l = k :: four (UInt32.ofNat l.length) ++ (four (crcOf (k :: four (UInt32.ofNat l.length))) ++ markOf l) := by
  simp [frameOf, markOf]
theorem sLen_frame (k : UInt8) (l t : List UInt8) (h : l.length < 4294967296) : sLen (frameOf k l ++ t) = l.length := by
  rw [frameOf_eq]
  show (UInt32.ofNat l.length).toUInt8.toNat + 256 * ((UInt32.ofNat l.length) >>> 8).toUInt8.toNat + 65536 * ((UInt32.ofNat l.length) >>> 16).toUInt8.toNat + 16777216 * ((UInt32.ofNat l.length) >>> 24).toUInt8.toNat = l.length
  have e : (UInt32.ofNat l.length).toNat = l.length := by rw [UInt32.toNat_ofNat']; omega
  generalize UInt32.ofNat l.length = x at *
  have h0 := mod_u8_u32 x
  have h1 := fourAt1 x
  have h2 := fourAt2 x
  have h3 := fourAt3 x
  simp only [fourAt, four, List.getD_cons_zero, List.getD_cons_succ] at h1 h2 h3
  omega
theorem take9_frame (k : UInt8) (l t : List UInt8) : (frameOf k l ++ t).take 9 = markOf (k :: four (UInt32.ofNat l.length)) := by
  unfold frameOf
  rw [List.append_assoc, List.take_left' (by simp [markOf_length, four_length])]
theorem drop9_frame (k : UInt8) (l t : List UInt8) : (frameOf k l ++ t).drop 9 = markOf l ++ t := by
  unfold frameOf
  rw [List.append_assoc, List.drop_left' (by simp [markOf_length, four_length])]
theorem sE_frame (k : UInt8) (l t : List UInt8) (h : l.length ≤ 1048576) : sE (frameOf k l ++ t) = 0 := by
  have hn := sLen_frame k l t (by omega)
  have hl : (frameOf k l ++ t).length = l.length + 13 + t.length := by simp [frameOf_length]
  unfold sE
  rw [hn, take9_frame, drop9_frame, fitsB_mark, if_neg (by omega), if_neg (by simp), if_neg (by omega), if_neg (by omega), List.take_left' (by simp [markOf_length]), fitsB_mark]
  rfl
theorem sL_frame (k : UInt8) (l t : List UInt8) (h : l.length ≤ 1048576) : sL (frameOf k l ++ t) = l := by
  unfold sL
  rw [if_pos (sE_frame k l t h), sLen_frame k l t (by omega), drop9_frame]
  simp [markOf]
theorem sN_frame (k : UInt8) (l t : List UInt8) (h : l.length ≤ 1048576) : sN (frameOf k l ++ t) = l.length + 13 := by
  unfold sN
  rw [if_pos (sE_frame k l t h), sLen_frame k l t (by omega)]
theorem sK_frame (k : UInt8) (l t : List UInt8) (h : l.length ≤ 1048576) : sK (frameOf k l ++ t) = k := by
  unfold sK
  rw [if_pos (sE_frame k l t h), frameOf_eq]
  rfl

/-! ### bits at int -/
theorem ofInt_i64 (a : Nat) (ha : a < 9223372036854775808) : (BitVec.ofInt 64 (a : Int)).toNat = a := by
  rw [BitVec.ofInt_natCast, BitVec.toNat_ofNat]; exact Nat.mod_eq_of_lt (by omega)
theorem or_i64 (a b : Nat) (ha : a < 9223372036854775808) (hb : b < 9223372036854775808) : bits .or .i64 (a : Int) (b : Int) = ((a ||| b : Nat) : Int) := by
  have hx : a ||| b < 2 ^ 63 := Nat.or_lt_two_pow (by omega) (by omega)
  show IntKind.i64.wrap ((BitVec.ofInt 64 (a : Int) ||| BitVec.ofInt 64 (b : Int)).toNat : Int) = _
  rw [BitVec.toNat_or, ofInt_i64 a ha, ofInt_i64 b hb, wrap_i64]
  omega
theorem or_add (k a b : Nat) (ha : a < 2 ^ k) : a ||| (2 ^ k * b) = a + 2 ^ k * b := by
  rw [Nat.or_comm, Nat.add_comm, Nat.two_pow_add_eq_or_of_lt ha]
theorem or_i64_add (a c : Int) (k b : Nat) (n : Nat) (hn : a = (n : Int)) (hc : c = ((2 ^ k * b : Nat) : Int)) (ha : n < 2 ^ k) (h1 : n < 9223372036854775808) (h2 : 2 ^ k * b < 9223372036854775808) :
    bits .or .i64 a c = ((n + 2 ^ k * b : Nat) : Int) := by
  rw [hn, hc, or_i64 _ _ h1 h2, or_add _ _ _ ha]
/-- the head's length as frame.Get reads it -/
theorem head_or (a b c d : UInt8) :
    bits .or .i64 (bits .or .i64 (bits .or .i64 (a.toNat : Int) ((b.toNat : Int) * 256)) ((c.toNat : Int) * 65536)) ((d.toNat : Int) * 16777216)
      = ((a.toNat + 256 * b.toNat + 65536 * c.toNat + 16777216 * d.toNat : Nat) : Int) := by
  have h1 := u8_lt a
  have h2 := u8_lt b
  have h3 := u8_lt c
  have h4 := u8_lt d
  rw [or_i64_add (a.toNat : Int) _ 8 b.toNat a.toNat rfl (by omega) (by omega) (by omega) (by omega),
    or_i64_add _ _ 16 c.toNat (a.toNat + 2 ^ 8 * b.toNat) rfl (by omega) (by omega) (by omega) (by omega),
    or_i64_add _ _ 24 d.toNat (a.toNat + 2 ^ 8 * b.toNat + 2 ^ 16 * c.toNat) rfl (by omega) (by omega) (by omega) (by omega)]
end Go.Proofs.Ythfnikdapknohaa

namespace Go.Proofs.Ythfnikdapknohaa
set_option linter.unusedSimpArgs false
set_option linter.unusedVariables false
open Go.RowKit

/-- a row: a vertex and its arcs -/
structure GRow where
  fr : UInt32
  arcs : List GArc
deriving DecidableEq
def lowP : Option UInt32 → Nat
  | none => 0
  | some q => q.toNat + 1
/-- the error of rows -/
def newE : Option UInt32 → List GRow → Int
  | _, [] => 0
  | p, r :: t => if nbrs r.arcs = false then 3 else if r.fr.toNat < lowP p then 13 else newE (some r.fr) t
def rsz (l : List GRow) : Nat := (l.map fun r => r.arcs.length + 1).sum
def row1 (next : Nat) (r : GRow) : List UInt8 := vput (r.fr.toNat - next) ++ gput r.arcs ++ cput (btab r.arcs)
def rowsB : Nat → List GRow → List UInt8
  | _, [] => []
  | n, r :: t => row1 n r ++ rowsB (r.fr.toNat + 1) t
def sbody (l : List GRow) : List UInt8 := vput l.length ++ rowsB 0 l
def senc (l : List GRow) : List UInt8 := frameOf 83 (sbody l)
/-- what the next row can be from at least -/
def nxt (n : Nat) (l : List GRow) : Nat := match l.getLast? with | none => n | some r => r.fr.toNat + 1
theorem nxt_nil (n : Nat) : nxt n [] = n := rfl
theorem nxt_snoc (n : Nat) (l : List GRow) (r : GRow) : nxt n (l ++ [r]) = r.fr.toNat + 1 := by simp [nxt]
theorem nxt_cons (n : Nat) (a : GRow) (t : List GRow) : nxt n (a :: t) = nxt (a.fr.toNat + 1) t := by
  cases t with
  | nil => simp [nxt]
  | cons b t =>
    simp only [nxt, List.getLast?_cons_cons]
    cases h : (b :: t).getLast? with
    | none => simp at h
    | some r => rfl
theorem nxt_le (l : List GRow) : nxt 0 l ≤ 4294967296 := by
  unfold nxt
  split
  · omega
  · rename_i r _; have := u32_lt r.fr; omega
theorem rowsB_snoc : ∀ (l : List GRow) (n : Nat) (r : GRow), rowsB n (l ++ [r]) = rowsB n l ++ row1 (nxt n l) r
  | [], n, r => by simp [rowsB, nxt]
  | a :: t, n, r => by
    rw [List.cons_append, rowsB, rowsB, rowsB_snoc t, nxt_cons, List.append_assoc]
theorem newE_cons (p : Option UInt32) (r : GRow) (t : List GRow) : newE p (r :: t) = if nbrs r.arcs = false then 3 else if r.fr.toNat < lowP p then 13 else newE (some r.fr) t := rfl
theorem newE_ok {p : Option UInt32} {r : GRow} {t : List GRow} (h : newE p (r :: t) = 0) : nbrs r.arcs = true ∧ lowP p ≤ r.fr.toNat ∧ newE (some r.fr) t = 0 := by
  rw [newE_cons] at h
  split at h
  · simp at h
  · rename_i h1
    split at h
    · simp at h
    · rename_i h2
      exact ⟨by simpa using h1, by omega, h⟩
theorem newE_err : ∀ (l m : List GRow) (p : Option UInt32), newE p l ≠ 0 → newE p (l ++ m) = newE p l
  | [], m, p, h => absurd rfl h
  | r :: t, m, p, h => by
    rw [List.cons_append, newE_cons, newE_cons]
    rw [newE_cons] at h
    split
    · rfl
    · rename_i h1
      rw [if_neg h1] at h
      split
      · rfl
      · rename_i h2
        rw [if_neg h2] at h
        exact newE_err t m _ h
theorem newE_snoc : ∀ (l : List GRow) (p : Option UInt32) (r : GRow), newE p l = 0 → newE p (l ++ [r]) = if nbrs r.arcs = false then 3 else if r.fr.toNat < nxt (lowP p) l then 13 else 0
  | [], p, r, _ => rfl
  | a :: t, p, r, h => by
    obtain ⟨h1, h2, h3⟩ := newE_ok h
    rw [List.cons_append, newE_cons, if_neg (by simp [h1]), if_neg (by omega), newE_snoc t _ r h3, nxt_cons]
    rfl
theorem newE_take (l : List GRow) (k : Nat) (h : newE none l = 0) : newE none (l.take k) = 0 := by
  rcases Decidable.em (newE none (l.take k) = 0) with h1 | h1
  · exact h1
  · have := newE_err (l.take k) (l.drop k) none h1
    rw [List.take_append_drop, h] at this
    exact this.symm
theorem newE_at (l : List GRow) (k : Nat) (hk : k < l.length) (h0 : newE none (l.take k) = 0) :
    newE none (l.take (k + 1)) = if nbrs (l[k]).arcs = false then 3 else if (l[k]).fr.toNat < nxt 0 (l.take k) then 13 else 0 := by
  rw [List.take_add_one, List.getElem?_eq_getElem hk]
  exact newE_snoc _ none _ h0
theorem newE_stop (l : List GRow) (k : Nat) (h0 : newE none (l.take k) ≠ 0) : newE none l = newE none (l.take k) := by
  have := newE_err (l.take k) (l.drop k) none h0
  rwa [List.take_append_drop] at this
theorem newE_row (l : List GRow) (k : Nat) (hk : k < l.length) (h : newE none l = 0) : nbrs (l[k]).arcs = true ∧ nxt 0 (l.take k) ≤ (l[k]).fr.toNat := by
  have h1 := newE_at l k hk (newE_take l k h)
  rw [newE_take l (k + 1) h] at h1
  split at h1
  · simp at h1
  · rename_i h2
    split at h1
    · simp at h1
    · exact ⟨by simpa using h2, by omega⟩
theorem nbrs_gmay {l : List GArc} (h : nbrs l = true) : gmay l = true ∧ 0 < l.length := by
  unfold nbrs at h
  rw [Bool.and_eq_true, decide_eq_true_eq] at h
  exact ⟨h.2, h.1⟩
theorem gmay_sum' {l : List GArc} (h : gmay l = true) : gsum l ≤ 2147483647 := by
  unfold gmay at h
  rw [Bool.and_eq_true, decide_eq_true_eq] at h
  exact h.2

/-! ### sizes -/
theorem rsz_cons (r : GRow) (t : List GRow) : rsz (r :: t) = r.arcs.length + 1 + rsz t := by simp [rsz]
theorem rsz_append (a b : List GRow) : rsz (a ++ b) = rsz a + rsz b := by simp [rsz]
theorem rsz_take (l : List GRow) (k : Nat) : rsz (l.take k) ≤ rsz l := by
  have := rsz_append (l.take k) (l.drop k)
  rw [List.take_append_drop] at this
  omega
theorem rsz_len (l : List GRow) : l.length ≤ rsz l := by
  induction l with
  | nil => simp
  | cons a t ih => rw [rsz_cons]; simp; omega
theorem rsz_at (l : List GRow) (k : Nat) (hk : k < l.length) : (l[k]).arcs.length + 1 ≤ rsz l := by
  have h1 := rsz_append (l.take k) (l.drop k)
  rw [List.take_append_drop, List.drop_eq_getElem_cons hk, rsz_cons] at h1
  omega
theorem row1_len (n : Nat) (r : GRow) (h : nbrs r.arcs = true) (hl : r.arcs.length ≤ 1048576) : (row1 n r).length ≤ 44 * (r.arcs.length + 1) ∧ 1 ≤ (row1 n r).length := by
  obtain ⟨hg, _⟩ := nbrs_gmay h
  have h1 := vput_len64 (r.fr.toNat - n) (by have := u32_lt r.fr; omega)
  have h2 := vput_len64 r.arcs.length (by omega)
  have h3 := gapsL_len r.arcs 0
  have h4 := cput_len (btab r.arcs)
  rw [btab_len r.arcs hl (gmay_sum' hg)] at h4
  simp only [row1, gput, List.length_append]
  omega
theorem rowsB_len : ∀ (l : List GRow) (p : Option UInt32) (n : Nat), newE p l = 0 → rsz l ≤ 1048576 → (rowsB n l).length ≤ 44 * rsz l
  | [], _, _, _, _ => by simp [rowsB]
  | r :: t, p, n, h, hs => by
    obtain ⟨h1, h2, h3⟩ := newE_ok h
    rw [rsz_cons] at hs ⊢
    have h4 := row1_len n r h1 (by omega)
    have h5 := rowsB_len t (some r.fr) (r.fr.toNat + 1) h3 (by omega)
    rw [rowsB, List.length_append]
    omega
theorem sbody_len (l : List GRow) (h : newE none l = 0) (hs : rsz l ≤ 20000) : (sbody l).length ≤ 1000000 := by
  have h1 := rowsB_len l none 0 h (by omega)
  have h2 := vput_len64 l.length (by have := rsz_len l; omega)
  rw [sbody, List.length_append]
  omega
theorem senc_len (l : List GRow) : (senc l).length = (vput l.length).length + (rowsB 0 l).length + 13 := by
  rw [senc, frameOf_length, sbody, List.length_append]

/-! ### reading a row -/
def rowN (next : Nat) (s : List UInt8) (e : Int) : Nat × List UInt8 × Int := numS (4294967295 - next) s e
def cellsR (a : List GArc × List UInt8 × Int) : List GCell × List UInt8 × Int := cget (gsum a.1) (min (a.1.length - 1) 4294967295) a.1.length [] a.2.1 a.2.2
def rowA (next : Nat) (s : List UInt8) (e : Int) : List GArc × List UInt8 × Int := gread (rowN next s e).2.1 (rowN next s e).2.2
def rowC (next : Nat) (s : List UInt8) (e : Int) : List GCell × List UInt8 × Int := cellsR (rowA next s e)
/-- a row of a shard with its table -/
abbrev GLine := GRow × List GCell
def rowL (next : Nat) (s : List UInt8) (e : Int) : GLine := (⟨UInt32.ofNat (next + (rowN next s e).1), (rowA next s e).1⟩, (rowC next s e).1)
def prows : Nat → Nat → List GLine → List UInt8 → Int → List GLine × List UInt8 × Int
  | 0, _, acc, s, e => (acc, s, e)
  | n + 1, next, acc, s, e => if e ≠ 0 ∨ 4294967295 < next then (acc, s, e)
    else prows n ((rowL next s e).1.fr.toNat + 1) (acc ++ [rowL next s e]) (rowC next s e).2.1 (rowC next s e).2.2
/-- the lines that are read of a shard's bytes -/
def plines (b : List UInt8) : List GLine := (prows (numS b.length (sL b) 0).1 0 [] (numS b.length (sL b) 0).2.1 (numS b.length (sL b) 0).2.2).1
def withT (l : List GRow) : List GLine := l.map fun r => (r, btab r.arcs)
def rowsOf (l : List GLine) : List GRow := l.map Prod.fst
theorem rowsOf_withT (l : List GRow) : rowsOf (withT l) = l := by simp [rowsOf, withT, Function.comp_def]

theorem cget_tail (W n : Nat) : ∀ (t : List GCell) (acc : List GCell) (r : List UInt8), cfit W n t = true → cget W (n - 1) t.length acc (cput t ++ r) 0 = (acc ++ t, r, 0)
  | [], acc, r, _ => by simp [cget, cput]
  | c :: t, acc, r, h => by
    unfold cfit at h
    rw [List.all_cons, Bool.and_eq_true, Bool.and_eq_true] at h
    have h1 := of_decide_eq_true h.1.1
    have h2 := of_decide_eq_true h.1.2
    rw [cput_cons, List.length_cons, cget, List.append_assoc, List.append_assoc]
    have e1 : ∀ r, numS W (vput c.cut.toNat ++ r) 0 = (c.cut.toNat, r, 0) := fun r => by
      unfold numS; rw [if_neg (by simp), numR_vput _ _ _ (u64_lt c.cut) h1]
    have e2 : ∀ r, numS (n - 1) (vput c.oth.toNat ++ r) 0 = (c.oth.toNat, r, 0) := fun r => by
      have := u32_lt c.oth
      unfold numS; rw [if_neg (by simp), numR_vput _ _ _ (by omega) (by omega)]
    rw [e1]
    simp only
    rw [e2]
    simp only [ne_eq, not_true, if_false, mkC_self]
    rw [cget_tail W n t (acc ++ [c]) r h.2]
    simp
theorem cfit_btab (l : List GArc) (h : nbrs l = true) (hl : l.length ≤ 1048576) : cfit (gsum l) l.length (btab l) = true := by
  unfold cfit
  rw [List.all_eq_true]
  intro c hc
  have := btab_ok l hl (gmay_sum' (nbrs_gmay h).1) c hc
  simp [this.1, this.2]
theorem gread_row (r : GRow) (t : List UInt8) (h : nbrs r.arcs = true) (hl : r.arcs.length ≤ 1048576) : gread (gput r.arcs ++ t) 0 = (r.arcs, t, 0) :=
  gread_gput r.arcs t (by omega) (nbrs_gmay h).1
theorem cellsR_row (r : GRow) (t : List UInt8) (h : nbrs r.arcs = true) (hl : r.arcs.length ≤ 1048576) : cellsR (r.arcs, cput (btab r.arcs) ++ t, 0) = (btab r.arcs, t, 0) := by
  have hb := btab_len r.arcs hl (gmay_sum' (nbrs_gmay h).1)
  have h1 := cget_tail (gsum r.arcs) r.arcs.length (btab r.arcs) [] t (cfit_btab r.arcs h hl)
  rw [hb] at h1
  unfold cellsR
  simp only
  rw [show min (r.arcs.length - 1) 4294967295 = r.arcs.length - 1 from by omega, h1]
  simp
theorem row1_tail (next : Nat) (r : GRow) (t : List UInt8) : row1 next r ++ t = vput (r.fr.toNat - next) ++ (gput r.arcs ++ (cput (btab r.arcs) ++ t)) := by simp [row1]
theorem rowN_ok (next : Nat) (r : GRow) (t : List UInt8) (h1 : next ≤ r.fr.toNat) : rowN next (row1 next r ++ t) 0 = (r.fr.toNat - next, gput r.arcs ++ (cput (btab r.arcs) ++ t), 0) := by
  have hf := u32_lt r.fr
  unfold rowN
  rw [numS_zero, row1_tail, numR_vput _ _ _ (by omega) (by omega)]
theorem rowA_ok (next : Nat) (r : GRow) (t : List UInt8) (h1 : next ≤ r.fr.toNat) (h : nbrs r.arcs = true) (hl : r.arcs.length ≤ 1048576) : rowA next (row1 next r ++ t) 0 = (r.arcs, cput (btab r.arcs) ++ t, 0) := by
  unfold rowA
  rw [rowN_ok next r t h1]
  exact gread_row r _ h hl
theorem rowC_ok (next : Nat) (r : GRow) (t : List UInt8) (h1 : next ≤ r.fr.toNat) (h : nbrs r.arcs = true) (hl : r.arcs.length ≤ 1048576) : rowC next (row1 next r ++ t) 0 = (btab r.arcs, t, 0) := by
  unfold rowC
  rw [rowA_ok next r t h1 h hl, cellsR_row r t h hl]
theorem rowL_ok (next : Nat) (r : GRow) (t : List UInt8) (h1 : next ≤ r.fr.toNat) (h : nbrs r.arcs = true) (hl : r.arcs.length ≤ 1048576) : rowL next (row1 next r ++ t) 0 = (r, btab r.arcs) := by
  unfold rowL
  rw [rowN_ok next r t h1, rowA_ok next r t h1 h hl, rowC_ok next r t h1 h hl]
  simp only
  rw [show next + (r.fr.toNat - next) = r.fr.toNat from by omega, UInt32.ofNat_toNat]
theorem prows_ok : ∀ (l : List GRow) (p : Option UInt32) (acc : List GLine) (t : List UInt8), newE p l = 0 → rsz l ≤ 1048576 →
    prows l.length (lowP p) acc (rowsB (lowP p) l ++ t) 0 = (acc ++ withT l, t, 0)
  | [], p, acc, t, _, _ => by simp [prows, rowsB, withT]
  | r :: l, p, acc, t, h, hs => by
    obtain ⟨h1, h2, h3⟩ := newE_ok h
    rw [rsz_cons] at hs
    have hf := u32_lt r.fr
    rw [List.length_cons, prows, if_neg (by omega), rowsB, List.append_assoc, rowL_ok _ _ _ h2 h1 (by omega), rowC_ok _ _ _ h2 h1 (by omega)]
    simp only
    have := prows_ok l (some r.fr) (acc ++ [(r, btab r.arcs)]) t h3 (by omega)
    simp only [lowP] at this
    rw [this]
    simp [withT]

/-- these bytes are a shard's -/
def isSh (b : List UInt8) : Prop := sE b = 0 ∧ sN b = b.length ∧ sK b = 83 ∧ rowsOf (plines b) ≠ [] ∧ newE none (rowsOf (plines b)) = 0 ∧ senc (rowsOf (plines b)) = b
theorem sh_read (l : List GRow) (h : newE none l = 0) (hs : rsz l ≤ 20000) :
    sE (senc l) = 0 ∧ sN (senc l) = (senc l).length ∧ sK (senc l) = 83 ∧ sL (senc l) = sbody l := by
  have hb := sbody_len l h hs
  have h1 := sE_frame 83 (sbody l) [] (by omega)
  have h2 := sN_frame 83 (sbody l) [] (by omega)
  have h3 := sK_frame 83 (sbody l) [] (by omega)
  have h4 := sL_frame 83 (sbody l) [] (by omega)
  rw [List.append_nil] at h1 h2 h3 h4
  exact ⟨h1, by rw [senc, h2, frameOf_length], h3, h4⟩
theorem plines_ok (l : List GRow) (h : newE none l = 0) (hs : rsz l ≤ 20000) : plines (senc l) = withT l := by
  obtain ⟨_, _, _, h4⟩ := sh_read l h hs
  have hn : l.length ≤ (senc l).length ∧ l.length < 18446744073709551616 := by
    have h1 := rsz_len l
    have h2 : l.length ≤ (rowsB 0 l).length := by
      have : ∀ (l : List GRow) (n : Nat), l.length ≤ (rowsB n l).length := by
        intro l
        induction l with
        | nil => intro n; simp
        | cons a t ih =>
          intro n
          have := ih (a.fr.toNat + 1)
          have := (vput_len64 (a.fr.toNat - n) (by have := u32_lt a.fr; omega)).1
          simp only [rowsB, row1, List.length_append, List.length_cons]
          omega
      exact this l 0
    rw [senc_len]
    omega
  unfold plines
  rw [h4, numS_zero, sbody, numR_vput _ _ _ hn.2 hn.1]
  have := prows_ok l none [] [] h (by omega)
  simp only [lowP, List.append_nil, List.nil_append] at this
  simp only
  rw [this]
theorem isSh_enc (l : List GRow) (h0 : l ≠ []) (h : newE none l = 0) (hs : rsz l ≤ 20000) : isSh (senc l) := by
  obtain ⟨h1, h2, h3, _⟩ := sh_read l h hs
  refine ⟨h1, h2, h3, ?_⟩
  rw [plines_ok l h hs, rowsOf_withT]
  exact ⟨h0, h, rfl⟩

/-! ### the document's reader -/
def rfrom (p : Option UInt32) (x : Nat) : Nat := match p with | none => x | some q => q.toNat + x + 1
def rrowN (s : List UInt8) (e : Int) : Nat × List UInt8 × Int := numS 4294967295 s e
def rrowA (s : List UInt8) (e : Int) : List GArc × List UInt8 × Int := gread (rrowN s e).2.1 (rrowN s e).2.2
def rrowC (s : List UInt8) (e : Int) : List GCell × List UInt8 × Int := cellsR (rrowA s e)
/-- rows of n more; none: a number is too great -/
def rrows : Nat → Option UInt32 → List GRow → List UInt8 → Int → Option (List GRow × List UInt8 × Int)
  | 0, _, acc, s, e => some (acc, s, e)
  | n + 1, p, acc, s, e => if e ≠ 0 then some (acc, s, e)
    else if 4294967295 < rfrom p (rrowN s e).1 then none
    else rrows n (some (UInt32.ofNat (rfrom p (rrowN s e).1))) (acc ++ [⟨UInt32.ofNat (rfrom p (rrowN s e).1), (rrowA s e).1⟩]) (rrowC s e).2.1 (rrowC s e).2.2
theorem rrow_ok (p : Option UInt32) (r : GRow) (t : List UInt8) (h1 : lowP p ≤ r.fr.toNat) (h : nbrs r.arcs = true) (hl : r.arcs.length ≤ 1048576) :
    rfrom p (rrowN (row1 (lowP p) r ++ t) 0).1 = r.fr.toNat ∧ (rrowA (row1 (lowP p) r ++ t) 0).1 = r.arcs ∧ (rrowC (row1 (lowP p) r ++ t) 0).2 = (t, 0) := by
  have hf := u32_lt r.fr
  have hN : rrowN (row1 (lowP p) r ++ t) 0 = (r.fr.toNat - lowP p, gput r.arcs ++ (cput (btab r.arcs) ++ t), 0) := by
    unfold rrowN
    rw [numS_zero, row1_tail, numR_vput _ _ _ (by omega) (by omega)]
  have hA : rrowA (row1 (lowP p) r ++ t) 0 = (r.arcs, cput (btab r.arcs) ++ t, 0) := by
    unfold rrowA
    rw [hN]
    exact gread_row r _ h hl
  refine ⟨?_, by rw [hA], ?_⟩
  · rw [hN]
    cases p with
    | none => simp [rfrom, lowP]
    | some q => simp only [rfrom, lowP] at *; omega
  · unfold rrowC
    rw [hA, cellsR_row r t h hl]
theorem rrows_ok : ∀ (l : List GRow) (p : Option UInt32) (acc : List GRow) (t : List UInt8), newE p l = 0 → rsz l ≤ 1048576 →
    rrows l.length p acc (rowsB (lowP p) l ++ t) 0 = some (acc ++ l, t, 0)
  | [], p, acc, t, _, _ => by simp [rrows, rowsB]
  | r :: l, p, acc, t, h, hs => by
    obtain ⟨h1, h2, h3⟩ := newE_ok h
    rw [rsz_cons] at hs
    have hf := u32_lt r.fr
    obtain ⟨e1, e2, e3⟩ := rrow_ok p r (rowsB (r.fr.toNat + 1) l ++ t) h2 h1 (by omega)
    rw [List.length_cons, rrows, if_neg (by simp), rowsB, List.append_assoc, e1, if_neg (by omega), e2, e3, UInt32.ofNat_toNat]
    have := rrows_ok l (some r.fr) (acc ++ [r]) t h3 (by omega)
    simp only [lowP] at this
    rw [this]
    simp
/-- what the document's Get reads of bytes, if it reads to the end -/
def rget (b : List UInt8) : Option (List GRow × List UInt8 × Int) := rrows (numS 18446744073709551615 (sL b) 0).1 none [] (numS 18446744073709551615 (sL b) 0).2.1 (numS 18446744073709551615 (sL b) 0).2.2
theorem rget_ok (l : List GRow) (h : newE none l = 0) (hs : rsz l ≤ 20000) : rget (senc l) = some (l, [], 0) := by
  obtain ⟨_, _, _, h4⟩ := sh_read l h hs
  have h1 := rsz_len l
  unfold rget
  rw [h4, numS_zero, sbody, numR_vput _ _ _ (by omega) (by omega)]
  have := rrows_ok l none [] [] h (by omega)
  simp only [lowP, List.append_nil, List.nil_append] at this
  exact this

/-! ### how much is read -/
theorem gget_len : ∀ (n : Nat) (acc : List GArc) (next left : Nat) (s : List UInt8) (e : Int), (gget n acc next left s e).1.length + (gget n acc next left s e).2.1.length ≤ acc.length + s.length
  | 0, acc, _, _, s, e => by simp [gget]
  | n + 1, acc, next, left, s, e => by
    rw [gget_succ]
    split
    · simp
    · split
      · simp
      · rename_i h
        refine Nat.le_trans (gget_len n _ _ _ _ 0) ?_
        have h1 := numS_len (4294967295 - next) s e
        have h2 := numS_dec (left - 1) (numS (4294967295 - next) s e).2.1 (numS (4294967295 - next) s e).2.2 (by simpa using h)
        simp only [List.length_append, List.length_cons, List.length_nil]
        omega
theorem gread_len (s : List UInt8) (e : Int) : (gread s e).1.length + (gread s e).2.1.length ≤ s.length := by
  have hR : gread s e = if (numS 18446744073709551615 s e).2.2 ≠ 0 then ([], [], (numS 18446744073709551615 s e).2.2) else gget (numS 18446744073709551615 s e).1 [] 0 2147483647 (numS 18446744073709551615 s e).2.1 0 := rfl
  rw [hR]
  split
  · simp
  · have h1 := gget_len (numS 18446744073709551615 s e).1 [] 0 2147483647 (numS 18446744073709551615 s e).2.1 0
    have h2 := numS_len 18446744073709551615 s e
    simp only [List.length_nil] at h1
    omega
theorem cget_len (W most : Nat) : ∀ (n : Nat) (acc : List GCell) (s : List UInt8) (e : Int), (cget W most n acc s e).2.1.length ≤ s.length
  | 0, acc, s, e => by simp [cget]
  | n + 1, acc, s, e => by
    rw [cget]
    have h1 := numS_len W s e
    have h2 := numS_len most (numS W s e).2.1 (numS W s e).2.2
    split
    · simp only; omega
    · refine Nat.le_trans (cget_len W most n _ _ 0) ?_
      omega
theorem row_len (next : Nat) (s : List UInt8) (e : Int) : (rowA next s e).1.length + (rowC next s e).2.1.length ≤ (rowN next s e).2.1.length ∧ (rowN next s e).2.1.length ≤ s.length := by
  refine ⟨?_, numS_len _ _ _⟩
  have h1 := gread_len (rowN next s e).2.1 (rowN next s e).2.2
  have h2 := cget_len (gsum (rowA next s e).1) (min ((rowA next s e).1.length - 1) 4294967295) (rowA next s e).1.length [] (rowA next s e).2.1 (rowA next s e).2.2
  simp only [rowC, cellsR]
  unfold rowA at *
  omega
theorem row_err (next : Nat) (s : List UInt8) (e : Int) (h : (rowC next s e).2.2 = 0) : (rowN next s e).2.2 = 0 := by
  rcases Decidable.em ((rowN next s e).2.2 = 0) with h0 | h0
  · exact h0
  · exfalso
    have hs := (numS_err (4294967295 - next) s e h0).1
    have hA : rowA next s e = ([], [], (rowN next s e).2.2) := by
      unfold rowA
      have hs' : (rowN next s e).2.1 = [] := hs
      rw [hs']
      have hn : numS 18446744073709551615 [] (rowN next s e).2.2 = (0, [], (rowN next s e).2.2) := by unfold numS; rw [if_pos h0]
      have hR : gread [] (rowN next s e).2.2 = if (numS 18446744073709551615 [] (rowN next s e).2.2).2.2 ≠ 0 then ([], [], (numS 18446744073709551615 [] (rowN next s e).2.2).2.2) else gget (numS 18446744073709551615 [] (rowN next s e).2.2).1 [] 0 2147483647 (numS 18446744073709551615 [] (rowN next s e).2.2).2.1 0 := rfl
      rw [hR, hn]
      simp only
      rw [if_pos h0]
    unfold rowC cellsR at h
    rw [hA] at h
    exact h0 h
theorem row_dec (next : Nat) (s : List UInt8) (e : Int) (h : (rowC next s e).2.2 = 0) : (rowA next s e).1.length + (rowC next s e).2.1.length + 1 ≤ s.length := by
  have h1 := (row_len next s e).1
  have h2 := numS_dec (4294967295 - next) s e (row_err next s e h)
  unfold rowN at h1
  omega
theorem rowsOf_snoc (acc : List GLine) (x : GLine) : rowsOf (acc ++ [x]) = rowsOf acc ++ [x.1] := by simp [rowsOf]
theorem prows_len : ∀ (n next : Nat) (acc : List GLine) (s : List UInt8) (e : Int), rsz (rowsOf (prows n next acc s e).1) ≤ rsz (rowsOf acc) + s.length + 1
  | 0, next, acc, s, e => by simp [prows]; omega
  | n + 1, next, acc, s, e => by
    rw [prows]
    split
    · simp only; omega
    · have h1 := row_len next s e
      have h3 : rsz (rowsOf (acc ++ [rowL next s e])) = rsz (rowsOf acc) + ((rowA next s e).1.length + 1) := by
        rw [rowsOf_snoc, rsz_append, rsz_cons]
        simp [rowL, rsz]
      by_cases he : (rowC next s e).2.2 = 0
      · have h2 := row_dec next s e he
        refine Nat.le_trans (prows_len n _ _ _ _) ?_
        rw [h3]
        omega
      · cases n with
        | zero => simp only [prows]; rw [h3]; omega
        | succ n =>
          rw [prows, if_pos (Or.inl he)]
          simp only
          rw [h3]
          omega
theorem plines_len (b : List UInt8) : rsz (rowsOf (plines b)) ≤ b.length + 1 := by
  unfold plines
  have h1 := prows_len (numS b.length (sL b) 0).1 0 [] (numS b.length (sL b) 0).2.1 (numS b.length (sL b) 0).2.2
  have h2 := numS_len b.length (sL b) 0
  have h3 : (sL b).length ≤ b.length := by
    unfold sL
    split
    · simp only [List.length_take, List.length_drop]; omega
    · simp
  have h4 : rsz (rowsOf ([] : List GLine)) = 0 := rfl
  omega
end Go.Proofs.Ythfnikdapknohaa

namespace Go.Proofs.Ythfnikdapknohaa
set_option linter.unusedSimpArgs false
set_option linter.unusedVariables false
open Go.RowKit

def sliceLen : Value → Nat
  | .slice _ n _ => n
  | _ => 0
/-- what holds in the loop: with an error nothing is left to do -/
def GetRel (N : Nat) (acc : List GArc) (s : List UInt8) (e : Int) (R : List GArc × List UInt8 × Int) : Prop :=
  (e = 0 ∧ acc.length ≤ N ∧ gsum acc ≤ 2147483647 ∧ gget (N - acc.length) acc (nextOf acc acc.length) (2147483647 - gsum acc) s 0 = R) ∨ (e ≠ 0 ∧ s = [] ∧ R = ([], [], e))
theorem OwnA.empty (W : World) (g base : Nat) (hg : W.heap.size = g) (hb : base ≤ g) : OwnF 70 cArc (W.alloc (.cells #[] 70)) base (.slice (some ⟨g, 0, none⟩) 0 0) [] := by
  subst hg
  exact (OwnA.new_ W [] (by simp)).more hb
theorem nextOf_snoc (acc : List GArc) (a : GArc) : nextOf (acc ++ [a]) (acc ++ [a]).length = a.to.toNat + 1 := by
  unfold nextOf
  rw [if_neg (by simp)]
  simp

theorem meas_step {n m : Nat} {acc : List GArc} {x : GArc} (h : n - acc.length = m + 1) : n - (acc ++ [x]).length < n - acc.length := by
  rw [List.length_append, List.length_singleton]; omega
theorem getRel_step (n0 m nx lf r1 q1 : Nat) (acc : List GArc) (s3 : List UInt8) (e3 : Int) (R : List GArc × List UInt8 × Int) (hm : n0 - acc.length = m + 1) (hS : gsum acc ≤ 2147483647) (hlf : 2147483647 - gsum acc = lf)
    (hnx : nx + r1 ≤ 4294967295) (hq : q1 + 1 ≤ lf) (herr : e3 ≠ 0 → s3 = [])
    (h : (if e3 ≠ 0 then ([], [], e3) else gget m (acc ++ [⟨UInt32.ofNat (nx + r1), UInt32.ofNat (q1 + 1)⟩]) (nx + r1 + 1) (lf - (q1 + 1)) s3 0) = R) :
    GetRel n0 (acc ++ [⟨UInt32.ofNat (nx + r1), UInt32.ofNat (q1 + 1)⟩]) s3 e3 R := by
  by_cases he : e3 = 0
  · subst he
    rw [if_neg (by simp)] at h
    have h1 := u32_ofNat_toNat (nx + r1) (by omega)
    have h2 := u32_ofNat_toNat (q1 + 1) (by omega)
    have hg : gsum (acc ++ [⟨UInt32.ofNat (nx + r1), UInt32.ofNat (q1 + 1)⟩]) = gsum acc + (q1 + 1) := by rw [gsum_append, gsum_one]; simp only; rw [h2]
    refine .inl ⟨rfl, by simp; omega, by rw [hg]; omega, ?_⟩
    rw [nextOf_snoc, hg]
    simp only
    rw [h1, show 2147483647 - (gsum acc + (q1 + 1)) = lf - (q1 + 1) from by omega, show n0 - (acc ++ [(⟨UInt32.ofNat (nx + r1), UInt32.ofNat (q1 + 1)⟩ : GArc)]).length = m from by simp; omega]
    exact h
  · rw [if_pos he] at h
    exact .inr ⟨he, herr he, h.symm⟩
set_option maxRecDepth 100000 in
set_option maxHeartbeats 8000000 in
theorem rgget_any (w : World) (B : Nat) (v : Value) (s0 : List UInt8) (e0 : Int) (hl : s0.length ≤ 1073741824) (hby : By w B v s0) (hB : B ≤ w.heap.size) (he0 : e0 ≠ 0 → s0 = []) :
    Calls Try.prog 55 #[.agg #[v, .int .i64 e0]] w fun ev w' => ∃ vo v', ev = .returned (.tuple #[vo, .agg #[v', .int .i64 (gread s0 e0).2.2]]) ∧ OwnF 70 cArc w' w.heap.size vo (gread s0 e0).1 ∧ By w' B v' (gread s0 e0).2.1 ∧ Below w.heap.size w w' := by
  have hn := fun W h hW => rnum_any W B v s0 e0 18446744073709551615 (by decide) h hW he0
  rw [show (((18446744073709551615 : Nat) : Int)) = 18446744073709551615 from rfl] at hn
  have hlt := (numS_lt 18446744073709551615 s0 e0).1
  have herr := numS_err 18446744073709551615 s0 e0
  have hlen := numS_len 18446744073709551615 s0 e0
  have hR : gread s0 e0 = if (numS 18446744073709551615 s0 e0).2.2 ≠ 0 then ([], [], (numS 18446744073709551615 s0 e0).2.2) else gget (numS 18446744073709551615 s0 e0).1 [] 0 2147483647 (numS 18446744073709551615 s0 e0).2.1 0 := rfl
  generalize gread s0 e0 = R at *
  generalize numS 18446744073709551615 s0 e0 = N at *
  obtain ⟨n0, s1, e1⟩ := N
  simp only at hlt herr hlen hR hn
  have hrel0 : GetRel n0 [] s1 e1 R := by
    by_cases he : e1 = 0
    · subst he
      rw [if_neg (by simp)] at hR
      exact .inl ⟨rfl, by simp, by simp [gsum], by simpa [gsum, nextOf] using hR.symm⟩
    · rw [if_pos he] at hR
      exact .inr ⟨he, (herr he).1, hR⟩
  have Hn := Lib.hid hn
  have Hrel0 := Lib.hid hrel0
  obtain ⟨A, c, rfl, _, _, _⟩ := id hby
  clear hR hn herr hrel0 he0
  go_enter Try.func55, Try.ntmps55
  go_wp2_with fail
  have hb0 := bstep (bstep (balloc w (.cells #[.slice A s0.length c, .int .i64 e0] 112)) (balloc _ (.cells #[.slice none 0 0, .int .i64 0] 112))) (balloc _ (.cells #[] 70))
  refine (Hn.out _ (hby.below (hb0.mono hB)) (Nat.le_trans hB hb0.size)).mono ?_
  rintro _ w1 ⟨v1, rfl, hby1, hb1⟩
  obtain ⟨A1, c1, rfl, _, _, _⟩ := id hby1
  have hbx1 := (((BoxAt.new_ 112 w [.slice A s0.length c, .int .i64 e0]).alloc (.cells #[.slice none 0 0, .int .i64 0] 112)).alloc (.cells #[] 70)).below (by simp; omega) hb1
  have hbx3 := ((BoxAt.new_ 112 (w.alloc (.cells #[.slice A s0.length c, .int .i64 e0] 112)) [.slice none 0 0, .int .i64 0]).alloc (.cells #[] 70)).below (by simp) hb1
  have hown := (OwnA.new_ ((w.alloc (.cells #[.slice A s0.length c, .int .i64 e0] 112)).alloc (.cells #[.slice none 0 0, .int .i64 0] 112)) [] (by simp)).below_ hb1
  have hb01 := bstep hb0 hb1
  simp only [World.size_alloc] at hbx3 hown
  have hc0 := hbx1.cell 0 _ rfl
  have hc1 := hbx1.cell 1 _ rfl
  have hf0 := hbx1.frozen 0
  have hf1 := hbx1.frozen 1
  have hbx1' := (hbx1.put 0 (.slice A1 s1.length c1)).put 1 (.int .i64 e1)
  have hbx3' := (hbx3.other ⟨w.heap.size, 0, none⟩ (.slice A1 s1.length c1) (by show w.heap.size ≠ w.heap.size + 1; omega)).other ⟨w.heap.size, 1, none⟩ (.int .i64 e1) (by show w.heap.size ≠ w.heap.size + 1; omega)
  have hown' := (hown.grownRd (gset w1 ⟨w.heap.size, 0, none⟩ (.slice A1 s1.length c1)) (by show w.heap.size < _; omega)).grownRd (gset _ ⟨w.heap.size, 1, none⟩ (.int .i64 e1)) (by show w.heap.size < _; omega)
  have hbs : Below w.heap.size w1 ((w1.setCell ⟨w.heap.size, 0, none⟩ (.slice A1 s1.length c1)).setCell ⟨w.heap.size, 1, none⟩ (.int .i64 e1)) :=
    ((Below.refl _ _).setCell (p := ⟨w.heap.size, 0, none⟩) (Nat.le_refl _) _).setCell (p := ⟨w.heap.size, 1, none⟩) (Nat.le_refl _) _
  have hb02 := hb01.trans hbs
  have hby2 := hby1.below (hbs.mono hB)
  have Hbx1 := Lib.hid hbx1'
  have Hbx3 := Lib.hid hbx3'
  have Hown := Lib.hid hown'
  have Hb02 := Lib.hid hb02
  have Hby2 := Lib.hid hby2
  clear hbx1' hbx3' hown' hb02 hby2 hbs hbx1 hbx3 hown hb01 hby1 hb1 hb0 hby
  go_wp2_with fail
  go_loopw [4] (fun vo wr => ∃ (acc : List GArc) (s : List UInt8) (e : Int) (As : Option Addr) (cs : Nat), OwnF 70 cArc wr (w.heap.size + 1 + 1) vo acc ∧ BoxAt 112 wr w.heap.size [.slice As s.length cs, .int .i64 e] ∧ By wr B (.slice As s.length cs) s ∧ BoxAt 112 wr (w.heap.size + 1) [.slice none 0 0, .int .i64 0] ∧ Below w.heap.size w wr ∧ GetRel n0 acc s e R ∧ (e = 0 → acc.length + s.length ≤ s0.length) ∧ acc.length ≤ s0.length + 1) (fun vo _ => n0 - sliceLen vo)
  case atStart => exact ⟨[], s1, e1, A1, c1, Hown.out, Hbx1.out, Hby2.out, Hbx3.out, Hb02.out, Hrel0.out, fun _ => by simpa using hlen, by simp⟩
  case round =>
    obtain ⟨acc, s, e, As, cs, hown, hbx1, hvs, hbx3, hbl, hrel, hal, hal2⟩ := hrel
    have hsz := hbl.size
    have hl1 := hbx1.lt
    have hl3 := hbx3.lt
    have hx0 := hbx1.cell 0 _ rfl
    have hx1 := hbx1.cell 1 _ rfl
    have hy0 := hbx3.cell 0 _ rfl
    have hy1 := hbx3.cell 1 _ rfl
    have hz0 := hbx3.frozen 0
    have hz1 := hbx3.frozen 1
    have hbW : ∀ (u0 u1 : Value), Below w.heap.size wr ((wr.setCell ⟨w.heap.size + 1, 0, none⟩ u0).setCell ⟨w.heap.size + 1, 1, none⟩ u1) := fun u0 u1 =>
      ((Below.refl _ _).setCell (p := ⟨w.heap.size + 1, 0, none⟩) (by show w.heap.size ≤ w.heap.size + 1; omega) _).setCell (p := ⟨w.heap.size + 1, 1, none⟩) (by show w.heap.size ≤ w.heap.size + 1; omega) _
    have HbW := Lib.hid hbW
    clear hbW
    rcases hrel with ⟨rfl, hr1, hr2, hr3⟩ | ⟨he, rfl, rfl⟩
    · rcases Nat.lt_or_ge acc.length n0 with hfin | hfin
      · obtain ⟨m, hm⟩ : ∃ m, n0 - acc.length = m + 1 := ⟨n0 - acc.length - 1, by omega⟩
        rw [hm, gget_succ] at hr3
        have hbyA := hown.byA
        obtain ⟨Ao, co, rfl, hco1, hco2, _⟩ := hown.form'
        have hnx : acc.length = 0 ∧ nextOf acc acc.length = 0 ∨ ∃ k, ∃ hk : k < acc.length, acc.length = k + 1 ∧ nextOf acc acc.length = (acc[k]).to.toNat + 1 := by
          rcases Nat.eq_zero_or_pos acc.length with h | h
          · left; exact ⟨h, by rw [h]; rfl⟩
          · right
            refine ⟨acc.length - 1, by omega, by omega, ?_⟩
            have := nextOf_succ acc (acc.length - 1) (by omega)
            rwa [show acc.length - 1 + 1 = acc.length from by omega] at this
        have hlf : (2147483647 : Int) - ((gsum acc : Nat) : Int) = ((2147483647 - gsum acc : Nat) : Int) := by omega
        have hlfl : 2147483647 - gsum acc ≤ 2147483647 := by omega
        generalize hnxx : nextOf acc acc.length = nx at *
        generalize hlfS : 2147483647 - gsum acc = lf at *
        have HlfS := Lib.hid hlfS
        have HS := Lib.hid hr2
        clear hlfS
        rcases hnx with ⟨hL, rfl⟩ | ⟨k, hk, hL, hnk⟩
        · have hL0 : decide (0 < acc.length) = false := decide_eq_false (by omega)
          have HL := Lib.hid hL
          clear hL hnxx
          go_wp2_with fail
          refine (rgsum_any wr _ _ acc (by omega) hbyA).mono ?_
          rintro _ _ ⟨rfl, rfl⟩
          generalize hSS : gsum acc = S at *
          have HSS := Lib.hid hSS
          clear hSS
          by_cases hstop : 4294967295 < 0 ∨ lf = 0
          · rw [if_pos hstop] at hr3
            have hst : ((lf : Int) == 0) = true := by
              simp; omega
            have Hr3 := Lib.hid hr3
            have hgb : gbad s = if s = [] then 2 else 9 := rfl
            clear hr3 hstop hown hal
            by_cases hs : s = []
            · subst hs
              rw [if_pos rfl] at hgb
              have Hgb := Lib.hid hgb
              clear hgb
              have h1 := hst
              all_goals
                go_wp2_with fail
                have hend := ((hbx3.put 0 (.slice none 0 0)).put 1 (.int .i64 2)).alloc (.cells #[] 70)
                have hbf : Below w.heap.size wr (((wr.setCell ⟨w.heap.size + 1, 0, none⟩ (.slice none 0 0)).setCell ⟨w.heap.size + 1, 1, none⟩ (.int .i64 2)).alloc (.cells #[] 70)) := (HbW.out (.slice none 0 0) (.int .i64 2)).trans ((balloc _ _).mono (by simp [World.setCell]; omega))
                refine bodyPost_ret (results_tc rfl _ _ (w.heap.size + 1) [.slice none 0 0, .int .i64 2] rfl (fun j v hj => (hend.cells j v hj : _)) Try.underlying112 rfl (by kernel_rfl)) rfl ?_
                rw [← Hr3.out, Hgb.out]
                exact ⟨_, _, rfl, OwnA.empty _ wr.heap.size _ (by simp [World.setCell]) (by omega), By.nil_, hbl.trans hbf⟩
            · rw [if_neg hs] at hgb
              have hl0 : ((s.length : Int) == 0) = false := beq_eq_false_iff_ne.2 (by have := List.length_pos_iff.2 hs; omega)
              have Hgb := Lib.hid hgb
              clear hgb hs
              have h1 := hst
              all_goals
                go_wp2_with fail
                have hend := ((hbx3.put 0 (.slice none 0 0)).put 1 (.int .i64 9)).alloc (.cells #[] 70)
                have hbf : Below w.heap.size wr (((wr.setCell ⟨w.heap.size + 1, 0, none⟩ (.slice none 0 0)).setCell ⟨w.heap.size + 1, 1, none⟩ (.int .i64 9)).alloc (.cells #[] 70)) := (HbW.out (.slice none 0 0) (.int .i64 9)).trans ((balloc _ _).mono (by simp [World.setCell]; omega))
                refine bodyPost_ret (results_tc rfl _ _ (w.heap.size + 1) [.slice none 0 0, .int .i64 9] rfl (fun j v hj => (hend.cells j v hj : _)) Try.underlying112 rfl (by kernel_rfl)) rfl ?_
                rw [← Hr3.out, Hgb.out]
                exact ⟨_, _, rfl, OwnA.empty _ wr.heap.size _ (by simp [World.setCell]) (by omega), By.nil_, hbl.trans hbf⟩
          · rw [if_neg hstop] at hr3
            have hns : 0 ≤ 4294967295 ∧ 0 < lf := by omega
            have hlf0 : ((lf : Int) == 0) = false := beq_eq_false_iff_ne.2 (by omega)
            have hsub : (4294967295 : Int) - (0 : Int) = ((4294967295 - 0 : Nat) : Int) := by omega
            have hsub2 : (lf : Int) - 1 = ((lf - 1 : Nat) : Int) := by omega
            have hn1 := rnum_any wr B (.slice As s.length cs) s 0 (4294967295 - 0) (by omega) hvs (Nat.le_trans hB hsz) (fun h => absurd rfl h)
            have hb1 := numS_lt (4294967295 - 0) s 0
            have hlen1 := numS_len (4294967295 - 0) s 0
            have herr1 : (numS (4294967295 - 0) s 0).2.2 ≠ 0 → (numS (4294967295 - 0) s 0).2.1 = [] := fun h => (numS_err (4294967295 - 0) s 0 h).1
            generalize numS (4294967295 - 0) s 0 = r at *
            obtain ⟨r1, s2, e2⟩ := r
            simp only at hr3 hb1 hlen1 herr1 hn1
            have hb2 := numS_lt (lf - 1) s2 e2
            have hlen2 := numS_len (lf - 1) s2 e2
            have herr2 : (numS (lf - 1) s2 e2).2.2 ≠ 0 → (numS (lf - 1) s2 e2).2.1 = [] := fun h => (numS_err (lf - 1) s2 e2 h).1
            have hdx : (numS (lf - 1) s2 e2).2.2 = 0 → (numS (lf - 1) s2 e2).2.1.length < s.length := fun h => by have := numS_dec (lf - 1) s2 e2 h; omega
            have hn2 := fun W v h hW => rnum_any W B v s2 e2 (lf - 1) (by omega) h hW herr1
            generalize numS (lf - 1) s2 e2 = q at *
            obtain ⟨q1, s3, e3⟩ := q
            simp only at hr3 hb2 hlen2 herr2 hn2 hdx
            have Hn1 := Lib.hid hn1
            have Hn2 := Lib.hid hn2
            have Hr3 := Lib.hid hr3
            have Hown := Lib.hid hown
            have Herr2 := Lib.hid herr2
            have Hdx := Lib.hid hdx
            have Hal := Lib.hid hal
            skip
            clear hn1 hn2 hr3 hown herr1 herr2 hdx hal hstop
            go_wp2_with fail
            refine Hn1.out.mono ?_
            rintro _ w2 ⟨v2, rfl, hby2, hb2w⟩
            obtain ⟨A2, c2, rfl, _, _, _⟩ := id hby2
            go_wp2_with fail
            have hb9 := balloc w2 (.cells #[.slice A2 s2.length c2, .int .i64 e2] 112)
            have hs2 : w.heap.size ≤ w2.heap.size := Nat.le_trans hsz hb2w.size
            refine (Hn2.out _ _ (hby2.below (hb9.mono (Nat.le_trans hB hs2))) (Nat.le_trans (Nat.le_trans hB hs2) hb9.size)).mono ?_
            rintro _ w3 ⟨v3, rfl, hby3, hb3w⟩
            obtain ⟨A3, c3, rfl, _, _, _⟩ := id hby3
            have hbr3 : Below wr.heap.size wr w3 := bstep hb2w (bstep hb9 hb3w)
            have hbx13 := hbx1.below hl1 hbr3
            have hbx33 := hbx3.below hl3 hbr3
            have hown3 := Hown.out.below_ hbr3
            have hp0 := hbx13.cell 0 _ rfl
            have hp1 := hbx13.cell 1 _ rfl
            have hq0 := hbx13.frozen 0
            have hq1 := hbx13.frozen 1
            have hl13 := hbx13.lt
            have hl33 := hbx33.lt
            have hne13 : w.heap.size ≠ w3.heap.size := by omega
            have hs3 : w.heap.size ≤ w3.heap.size := Nat.le_trans hsz hbr3.size
            clear hx0 hx1 hy0 hy1 hz0 hz1 hbx1 hbx3 hb2w hb9 hb3w
            have hu1 := u32_ofNat_toNat (0 + r1) (by omega)
            have hu2 := u32_ofNat_toNat (q1 + 1) (by omega)
            have Hu1 := Lib.hid hu1
            have Hu2 := Lib.hid hu2
            have hcs : cArc.at_ ((((w3.setCell ⟨w.heap.size, 0, none⟩ (.slice A3 s3.length c3)).setCell ⟨w.heap.size, 1, none⟩ (.int .i64 e3)).alloc (.cells #[.slice A3 s3.length c3, .int .i64 e3] 112))) (fun _ => False) [.int .u32 ((r1 : Int)), .int .u32 ((q1 : Int) + 1)] ⟨UInt32.ofNat (0 + r1), UInt32.ofNat (q1 + 1)⟩ :=
              ⟨by simp only [hu1, hu2]; first | rfl | simp, trivial⟩
            have hownX := ((hown3.grownRd (gset w3 ⟨w.heap.size, 0, none⟩ (.slice A3 s3.length c3)) (by show w.heap.size < _; omega)).grownRd (gset _ ⟨w.heap.size, 1, none⟩ (.int .i64 e3)) (by show w.heap.size < _; omega)).alloc (.cells #[.slice A3 s3.length c3, .int .i64 e3] 112)
            have hbx1X := ((hbx13.put 0 (.slice A3 s3.length c3)).put 1 (.int .i64 e3)).alloc (.cells #[.slice A3 s3.length c3, .int .i64 e3] 112)
            have hbx3X := ((hbx33.other ⟨w.heap.size, 0, none⟩ (.slice A3 s3.length c3) (by show w.heap.size ≠ w.heap.size + 1; omega)).other ⟨w.heap.size, 1, none⟩ (.int .i64 e3) (by show w.heap.size ≠ w.heap.size + 1; omega)).alloc (.cells #[.slice A3 s3.length c3, .int .i64 e3] 112)
            have hbX : Below w.heap.size w3 ((((w3.setCell ⟨w.heap.size, 0, none⟩ (.slice A3 s3.length c3)).setCell ⟨w.heap.size, 1, none⟩ (.int .i64 e3)).alloc (.cells #[.slice A3 s3.length c3, .int .i64 e3] 112))) :=
              (((Below.refl _ _).setCell (p := ⟨w.heap.size, 0, none⟩) (Nat.le_refl _) _).setCell (p := ⟨w.heap.size, 1, none⟩) (Nat.le_refl _) _).alloc (by simp [World.setCell]; omega) _
            have hbyX := hby3.below (hbX.mono hB)
            have hblX : Below w.heap.size w ((((w3.setCell ⟨w.heap.size, 0, none⟩ (.slice A3 s3.length c3)).setCell ⟨w.heap.size, 1, none⟩ (.int .i64 e3)).alloc (.cells #[.slice A3 s3.length c3, .int .i64 e3] 112))) := (hbl.trans (hbr3.mono hsz)).trans hbX
            have hszX := hblX.size
            have hl3X := hbx3X.lt
            have hblkX := hownX.blk
            have HownX := Lib.hid hownX
            have Hbx1X := Lib.hid hbx1X
            have Hbx3X := Lib.hid hbx3X
            have HbyX := Lib.hid hbyX
            have HblX := Lib.hid hblX
            have HblkX := Lib.hid hblkX
            have Hcs := Lib.hid hcs
            clear hownX hbx1X hbx3X hbX hbyX hblX hcs hblkX hu1 hu2
            go_wp2_with (at_builtin
                         go_loud (refine wpList_app1R rfl (.tmp 72) (.tmp 81) 65 rfl Try.underlying65 infoArc rfl (by decide) (by decide) (y := ⟨UInt32.ofNat (0 + r1), UInt32.ofNat (q1 + 1)⟩) [.int .u32 ((r1 : Int)), .int .u32 ((q1 : Int) + 1)] HownX.out Hcs.out rfl (Eq.trans (b := .slice (some ⟨w3.heap.size + 1, 0, none⟩) 1 1) rfl (by simp [World.setCell])) (by omega) (by omega) ?_)
                         intro v4 w4 hown4 hext4)
            have hrow : ∀ q, q < w.heap.size + 1 + 1 → Value.ownBlock (.slice Ao acc.length co) ≠ some q := fun q hq e => by have := (HblkX.out q e).1; omega
            have hb4 : Below (w.heap.size + 1 + 1) _ w4 := hext4.below (by omega) fun q hq => (HblkX.out q hq).1
            obtain ⟨A4, c4, rfl, _, _, _⟩ := hown4.form'
            refine ⟨⟨_, s3, e3, A3, c3, hown4, Hbx1X.out.below (by omega) hb4, HbyX.out.below (hb4.mono (by omega)), Hbx3X.out.below (by omega) hb4, HblX.out.trans (hb4.mono (by omega)), getRel_step n0 m 0 lf r1 q1 acc s3 e3 R hm (by first | exact HS.out | (rw [HSS.out]; exact HS.out)) (by first | exact HlfS.out | (rw [HSS.out]; exact HlfS.out)) (by omega) (by omega) Herr2.out Hr3.out, fun he => ?_, ?_⟩, ?_⟩
            · have h1 := Hdx.out he
              have h2 := Hal.out (by trivial)
              simp; omega
            · have h2 := Hal.out (by trivial)
              simp; omega
            · exact meas_step hm
        · obtain ⟨ad, rfl, hab, hk0, hk1⟩ := hbyA.cells k hk
          have hto := u32_lt (acc[k]).to
          generalize (acc[k]).to.toNat = x at *
          have hnk' : (x : Int) + 1 = (nx : Int) := by omega
          have hLi : (acc.length : Int) - 1 = (k : Int) := by omega
          have HL := Lib.hid hL
          clear hL hnxx hnk
          go_wp2_with fail
          refine (rgsum_any wr _ _ acc (by omega) hbyA).mono ?_
          rintro _ _ ⟨rfl, rfl⟩
          generalize hSS : gsum acc = S at *
          have HSS := Lib.hid hSS
          clear hSS
          by_cases hstop : 4294967295 < nx ∨ lf = 0
          · rw [if_pos hstop] at hr3
            have hst : decide (4294967295 < (nx : Int)) = true ∨ (decide (4294967295 < (nx : Int)) = false ∧ ((lf : Int) == 0) = true) := by
              rcases Decidable.em (4294967295 < nx) with h | h
              · left; simp; omega
              · right; simp; omega
            have Hr3 := Lib.hid hr3
            have hgb : gbad s = if s = [] then 2 else 9 := rfl
            clear hr3 hstop hown hal
            by_cases hs : s = []
            · subst hs
              rw [if_pos rfl] at hgb
              have Hgb := Lib.hid hgb
              clear hgb
              rcases hst with h1 | ⟨h1, h2⟩
              all_goals
                go_wp2_with fail
                have hend := ((hbx3.put 0 (.slice none 0 0)).put 1 (.int .i64 2)).alloc (.cells #[] 70)
                have hbf : Below w.heap.size wr (((wr.setCell ⟨w.heap.size + 1, 0, none⟩ (.slice none 0 0)).setCell ⟨w.heap.size + 1, 1, none⟩ (.int .i64 2)).alloc (.cells #[] 70)) := (HbW.out (.slice none 0 0) (.int .i64 2)).trans ((balloc _ _).mono (by simp [World.setCell]; omega))
                refine bodyPost_ret (results_tc rfl _ _ (w.heap.size + 1) [.slice none 0 0, .int .i64 2] rfl (fun j v hj => (hend.cells j v hj : _)) Try.underlying112 rfl (by kernel_rfl)) rfl ?_
                rw [← Hr3.out, Hgb.out]
                exact ⟨_, _, rfl, OwnA.empty _ wr.heap.size _ (by simp [World.setCell]) (by omega), By.nil_, hbl.trans hbf⟩
            · rw [if_neg hs] at hgb
              have hl0 : ((s.length : Int) == 0) = false := beq_eq_false_iff_ne.2 (by have := List.length_pos_iff.2 hs; omega)
              have Hgb := Lib.hid hgb
              clear hgb hs
              rcases hst with h1 | ⟨h1, h2⟩
              all_goals
                go_wp2_with fail
                have hend := ((hbx3.put 0 (.slice none 0 0)).put 1 (.int .i64 9)).alloc (.cells #[] 70)
                have hbf : Below w.heap.size wr (((wr.setCell ⟨w.heap.size + 1, 0, none⟩ (.slice none 0 0)).setCell ⟨w.heap.size + 1, 1, none⟩ (.int .i64 9)).alloc (.cells #[] 70)) := (HbW.out (.slice none 0 0) (.int .i64 9)).trans ((balloc _ _).mono (by simp [World.setCell]; omega))
                refine bodyPost_ret (results_tc rfl _ _ (w.heap.size + 1) [.slice none 0 0, .int .i64 9] rfl (fun j v hj => (hend.cells j v hj : _)) Try.underlying112 rfl (by kernel_rfl)) rfl ?_
                rw [← Hr3.out, Hgb.out]
                exact ⟨_, _, rfl, OwnA.empty _ wr.heap.size _ (by simp [World.setCell]) (by omega), By.nil_, hbl.trans hbf⟩
          · rw [if_neg hstop] at hr3
            have hns : nx ≤ 4294967295 ∧ 0 < lf := by omega
            have hlf0 : ((lf : Int) == 0) = false := beq_eq_false_iff_ne.2 (by omega)
            have hsub : (4294967295 : Int) - (nx : Int) = ((4294967295 - nx : Nat) : Int) := by omega
            have hsub2 : (lf : Int) - 1 = ((lf - 1 : Nat) : Int) := by omega
            have hn1 := rnum_any wr B (.slice As s.length cs) s 0 (4294967295 - nx) (by omega) hvs (Nat.le_trans hB hsz) (fun h => absurd rfl h)
            have hb1 := numS_lt (4294967295 - nx) s 0
            have hlen1 := numS_len (4294967295 - nx) s 0
            have herr1 : (numS (4294967295 - nx) s 0).2.2 ≠ 0 → (numS (4294967295 - nx) s 0).2.1 = [] := fun h => (numS_err (4294967295 - nx) s 0 h).1
            generalize numS (4294967295 - nx) s 0 = r at *
            obtain ⟨r1, s2, e2⟩ := r
            simp only at hr3 hb1 hlen1 herr1 hn1
            have hb2 := numS_lt (lf - 1) s2 e2
            have hlen2 := numS_len (lf - 1) s2 e2
            have herr2 : (numS (lf - 1) s2 e2).2.2 ≠ 0 → (numS (lf - 1) s2 e2).2.1 = [] := fun h => (numS_err (lf - 1) s2 e2 h).1
            have hdx : (numS (lf - 1) s2 e2).2.2 = 0 → (numS (lf - 1) s2 e2).2.1.length < s.length := fun h => by have := numS_dec (lf - 1) s2 e2 h; omega
            have hn2 := fun W v h hW => rnum_any W B v s2 e2 (lf - 1) (by omega) h hW herr1
            generalize numS (lf - 1) s2 e2 = q at *
            obtain ⟨q1, s3, e3⟩ := q
            simp only at hr3 hb2 hlen2 herr2 hn2 hdx
            have Hn1 := Lib.hid hn1
            have Hn2 := Lib.hid hn2
            have Hr3 := Lib.hid hr3
            have Hown := Lib.hid hown
            have Herr2 := Lib.hid herr2
            have Hdx := Lib.hid hdx
            have Hal := Lib.hid hal
            have hd1 : decide (4294967295 < (nx : Int)) = false := by simp; omega
            clear hn1 hn2 hr3 hown herr1 herr2 hdx hal hstop
            go_wp2_with fail
            refine Hn1.out.mono ?_
            rintro _ w2 ⟨v2, rfl, hby2, hb2w⟩
            obtain ⟨A2, c2, rfl, _, _, _⟩ := id hby2
            go_wp2_with fail
            have hb9 := balloc w2 (.cells #[.slice A2 s2.length c2, .int .i64 e2] 112)
            have hs2 : w.heap.size ≤ w2.heap.size := Nat.le_trans hsz hb2w.size
            refine (Hn2.out _ _ (hby2.below (hb9.mono (Nat.le_trans hB hs2))) (Nat.le_trans (Nat.le_trans hB hs2) hb9.size)).mono ?_
            rintro _ w3 ⟨v3, rfl, hby3, hb3w⟩
            obtain ⟨A3, c3, rfl, _, _, _⟩ := id hby3
            have hbr3 : Below wr.heap.size wr w3 := bstep hb2w (bstep hb9 hb3w)
            have hbx13 := hbx1.below hl1 hbr3
            have hbx33 := hbx3.below hl3 hbr3
            have hown3 := Hown.out.below_ hbr3
            have hp0 := hbx13.cell 0 _ rfl
            have hp1 := hbx13.cell 1 _ rfl
            have hq0 := hbx13.frozen 0
            have hq1 := hbx13.frozen 1
            have hl13 := hbx13.lt
            have hl33 := hbx33.lt
            have hne13 : w.heap.size ≠ w3.heap.size := by omega
            have hs3 : w.heap.size ≤ w3.heap.size := Nat.le_trans hsz hbr3.size
            clear hx0 hx1 hy0 hy1 hz0 hz1 hbx1 hbx3 hb2w hb9 hb3w
            have hu1 := u32_ofNat_toNat (nx + r1) (by omega)
            have hu2 := u32_ofNat_toNat (q1 + 1) (by omega)
            have Hu1 := Lib.hid hu1
            have Hu2 := Lib.hid hu2
            have hcs : cArc.at_ ((((w3.setCell ⟨w.heap.size, 0, none⟩ (.slice A3 s3.length c3)).setCell ⟨w.heap.size, 1, none⟩ (.int .i64 e3)).alloc (.cells #[.slice A3 s3.length c3, .int .i64 e3] 112))) (fun _ => False) [.int .u32 ((nx : Int) + (r1 : Int)), .int .u32 ((q1 : Int) + 1)] ⟨UInt32.ofNat (nx + r1), UInt32.ofNat (q1 + 1)⟩ :=
              ⟨by simp only [hu1, hu2]; first | rfl | simp, trivial⟩
            have hownX := ((hown3.grownRd (gset w3 ⟨w.heap.size, 0, none⟩ (.slice A3 s3.length c3)) (by show w.heap.size < _; omega)).grownRd (gset _ ⟨w.heap.size, 1, none⟩ (.int .i64 e3)) (by show w.heap.size < _; omega)).alloc (.cells #[.slice A3 s3.length c3, .int .i64 e3] 112)
            have hbx1X := ((hbx13.put 0 (.slice A3 s3.length c3)).put 1 (.int .i64 e3)).alloc (.cells #[.slice A3 s3.length c3, .int .i64 e3] 112)
            have hbx3X := ((hbx33.other ⟨w.heap.size, 0, none⟩ (.slice A3 s3.length c3) (by show w.heap.size ≠ w.heap.size + 1; omega)).other ⟨w.heap.size, 1, none⟩ (.int .i64 e3) (by show w.heap.size ≠ w.heap.size + 1; omega)).alloc (.cells #[.slice A3 s3.length c3, .int .i64 e3] 112)
            have hbX : Below w.heap.size w3 ((((w3.setCell ⟨w.heap.size, 0, none⟩ (.slice A3 s3.length c3)).setCell ⟨w.heap.size, 1, none⟩ (.int .i64 e3)).alloc (.cells #[.slice A3 s3.length c3, .int .i64 e3] 112))) :=
              (((Below.refl _ _).setCell (p := ⟨w.heap.size, 0, none⟩) (Nat.le_refl _) _).setCell (p := ⟨w.heap.size, 1, none⟩) (Nat.le_refl _) _).alloc (by simp [World.setCell]; omega) _
            have hbyX := hby3.below (hbX.mono hB)
            have hblX : Below w.heap.size w ((((w3.setCell ⟨w.heap.size, 0, none⟩ (.slice A3 s3.length c3)).setCell ⟨w.heap.size, 1, none⟩ (.int .i64 e3)).alloc (.cells #[.slice A3 s3.length c3, .int .i64 e3] 112))) := (hbl.trans (hbr3.mono hsz)).trans hbX
            have hszX := hblX.size
            have hl3X := hbx3X.lt
            have hblkX := hownX.blk
            have HownX := Lib.hid hownX
            have Hbx1X := Lib.hid hbx1X
            have Hbx3X := Lib.hid hbx3X
            have HbyX := Lib.hid hbyX
            have HblX := Lib.hid hblX
            have HblkX := Lib.hid hblkX
            have Hcs := Lib.hid hcs
            clear hownX hbx1X hbx3X hbX hbyX hblX hcs hblkX hu1 hu2
            go_wp2_with (at_builtin
                         go_loud (refine wpList_app1R rfl (.tmp 72) (.tmp 81) 65 rfl Try.underlying65 infoArc rfl (by decide) (by decide) (y := ⟨UInt32.ofNat (nx + r1), UInt32.ofNat (q1 + 1)⟩) [.int .u32 ((nx : Int) + (r1 : Int)), .int .u32 ((q1 : Int) + 1)] HownX.out Hcs.out rfl (Eq.trans (b := .slice (some ⟨w3.heap.size + 1, 0, none⟩) 1 1) rfl (by simp [World.setCell])) (by omega) (by omega) ?_)
                         intro v4 w4 hown4 hext4)
            have hrow : ∀ q, q < w.heap.size + 1 + 1 → Value.ownBlock (.slice (some ad) acc.length co) ≠ some q := fun q hq e => by have := (HblkX.out q e).1; omega
            have hb4 : Below (w.heap.size + 1 + 1) _ w4 := hext4.below (by omega) fun q hq => (HblkX.out q hq).1
            obtain ⟨A4, c4, rfl, _, _, _⟩ := hown4.form'
            refine ⟨⟨_, s3, e3, A3, c3, hown4, Hbx1X.out.below (by omega) hb4, HbyX.out.below (hb4.mono (by omega)), Hbx3X.out.below (by omega) hb4, HblX.out.trans (hb4.mono (by omega)), getRel_step n0 m nx lf r1 q1 acc s3 e3 R hm (by first | exact HS.out | (rw [HSS.out]; exact HS.out)) (by first | exact HlfS.out | (rw [HSS.out]; exact HlfS.out)) (by omega) (by omega) Herr2.out Hr3.out, fun he => ?_, ?_⟩, ?_⟩
            · have h1 := Hdx.out he
              have h2 := Hal.out (by trivial)
              simp; omega
            · have h2 := Hal.out (by trivial)
              simp; omega
            · exact meas_step hm
      · obtain rfl : n0 = acc.length := by omega
        have hr3' : (acc, s, 0) = R := by rw [Nat.sub_self] at hr3; exact hr3
        subst hr3'
        have hkeep : ∀ (u0 u1 : Value), OwnF 70 cArc ((wr.setCell ⟨w.heap.size + 1, 0, none⟩ u0).setCell ⟨w.heap.size + 1, 1, none⟩ u1) (w.heap.size + 1 + 1) u4 acc := fun u0 u1 =>
          (hown.grownRd (gset wr ⟨w.heap.size + 1, 0, none⟩ u0) (by show w.heap.size + 1 < _; omega)).grownRd (gset _ ⟨w.heap.size + 1, 1, none⟩ u1) (by show w.heap.size + 1 < _; omega)
        have Hkeep := Lib.hid hkeep
        obtain ⟨Ao, co, rfl, _, _, _⟩ := hown.form'
        have hd : decide ((acc.length : Int) < (acc.length : Int)) = false := by simp
        clear hkeep hr1 hr2 hr3 hal hown
        go_wp2_with fail
        go_region
        have hend := ((hbx3.put 0 (.slice As s.length cs)).put 1 (.int .i64 0))
        have hbf := (HbW.out (.slice As s.length cs) (.int .i64 0)).drew
        go_wp2_with fail
        refine bodyPost_ret (results_tc rfl _ _ (w.heap.size + 1) [.slice As s.length cs, .int .i64 0] rfl (fun j v hj => (hend.cells j v hj : _)) Try.underlying112 rfl (by kernel_rfl)) rfl ?_
        exact ⟨_, _, rfl, (Hkeep.out _ _).more (by omega), hvs.below (hbf.mono hB), hbl.trans hbf⟩
    · have hne : (e == 0) = false := by simpa using he
      have hne' : (e != 0) = true := by simpa using he
      clear he hal
      go_wp2_with fail
      go_region
      have hend := ((hbx3.put 0 (.slice As 0 cs)).put 1 (.int .i64 e)).alloc (.cells #[] 70)
      have hbf : Below w.heap.size wr (((wr.setCell ⟨w.heap.size + 1, 0, none⟩ (.slice As 0 cs)).setCell ⟨w.heap.size + 1, 1, none⟩ (.int .i64 e)).alloc (.cells #[] 70)).drew := ((HbW.out (.slice As 0 cs) (.int .i64 e)).trans ((balloc _ _).mono (by simp [World.setCell]; omega))).drew
      go_wp2_with fail
      refine bodyPost_ret (results_tc rfl _ _ (w.heap.size + 1) [.slice As 0 cs, .int .i64 e] rfl (fun j v hj => (hend.cells j v hj : _)) Try.underlying112 rfl (by kernel_rfl)) rfl ?_
      exact ⟨_, _, rfl, OwnA.empty _ wr.heap.size _ (by simp [World.setCell]) (by omega), By.empty _ _ (hvs.len_.2.2), hbl.trans hbf⟩
end Go.Proofs.Ythfnikdapknohaa

namespace Go.Proofs.Ythfnikdapknohaa
set_option linter.unusedSimpArgs false
set_option linter.unusedVariables false
open Go.RowKit
theorem fieldsCell : Try.prog.fieldsOf 73 = #[{ name := "Cut", type := 71, offset := 0, embedded := false, tag := "", pkgPath := "", byteOffset := 0 }, { name := "Other", type := 51, offset := 1, embedded := false, tag := "", pkgPath := "", byteOffset := 8 }] := by kernel_rfl
theorem eqCell_ (d : Nat) (w : World) (a b c e : Int) : (Op.equalIn (d + 2) 73 (.agg #[.int .u64 a, .int .u32 b]) (.agg #[.int .u64 c, .int .u32 e])).run Try.prog w = .ok (a == c && b == e) w := by
  rw [run_equalIn_struct w (d + 1) 73 _ _ (by rw [fieldsCell]; exact Try.underlying73) (by kernel_rfl), fieldsCell]
  have h33 := Try.underlying51
  have h64 := Try.underlying71
  have p0 : ∀ (x y : Int), (part 71 #[.int .u64 x, .int .u32 y] 0).run Try.prog w = .ok (.int .u64 x) w := fun x y => by kernel_rfl
  have p1 : ∀ (x y : Int), (part 51 #[.int .u64 x, .int .u32 y] 1).run Try.prog w = .ok (.int .u32 y) w := fun x y => by kernel_rfl
  simp only [Op.eqFields, Sem.run_bind, Sem.run_ite, p0, p1, Result.andThen_ok, run_equalIn_int w d 71 _ .u64 _ _ h64, run_equalIn_int w d 51 _ .u32 _ _ h33]
  by_cases h1 : a = c <;> by_cases h2 : b = e <;> simp [h1, h2]
theorem eqCell (w : World) (a b c e : Int) : (Op.equalIn 10000 73 (.agg #[.int .u64 a, .int .u32 b]) (.agg #[.int .u64 c, .int .u32 e])).run Try.prog w = .ok (a == c && b == e) w := eqCell_ 9998 w a b c e
theorem guardCell : Try.prog.eqGuardType Try.prog.depth 73 = false := by kernel_rfl
set_option maxRecDepth 100000 in
set_option maxHeartbeats 1600000 in
theorem csame_any (w : World) (B1 B2 : Nat) (v1 v2 : Value) (l1 l2 : List GCell) (h1 : ByC w B1 v1 l1) (h2 : ByC w B2 v2 l2) :
    Calls Try.prog 34 #[v1, v2] w fun e w' => e = .returned (.bool (decide (l1 = l2))) ∧ ∃ q, w' = w.drewN q := by
  obtain ⟨A1, c1, rfl, ha1, ha2⟩ := h1.form
  obtain ⟨A2, c2, rfl, hb1, hb2⟩ := h2.form
  unfold maxLen at ha2 hb2
  by_cases hlen : l1.length = l2.length
  · have hd : ∀ k, (hk : k < l1.length) → (hk2 : k < l2.length) → l1[k] ≠ l2[k] → decide (l1 = l2) = false := fun k hk hk2 hne => decide_eq_false fun e => hne (by subst e; rfl)
    have hy : (∀ k, (hk : k < l1.length) → (hk2 : k < l2.length) → l1[k] = l2[k]) → decide (l1 = l2) = true := fun h => decide_eq_true (List.ext_getElem hlen fun k h1 h2 => h k h1 h2)
    have Hd := Lib.hid hd
    have Hy := Lib.hid hy
    have Hlen := Lib.hid hlen
    have hnb : (((l1.length : Nat) : Int) == ((l2.length : Nat) : Int)) = true := by simp; omega
    have hnb' : (((l1.length : Nat) : Int) != ((l2.length : Nat) : Int)) = false := by simp; omega
    clear hd hy hlen
    generalize decide (l1 = l2) = D at *
    go_enter Try.func34, Try.ntmps34
    go_wp2_with fail
    go_loopw [13] (fun i wr => ∃ k : Nat, k ≤ l1.length ∧ i = .int .i64 k ∧ (∀ j, (hj : j < k) → (hj1 : j < l1.length) → (hj2 : j < l2.length) → l1[j] = l2[j]) ∧ ∃ q, wr = w.drewN q) (fun i _ => l1.length - (intOf i).toNat)
    case atStart => exact ⟨0, by omega, rfl, fun j hj => by omega, 0, rfl⟩
    case round =>
      obtain ⟨k, hk, rfl, hall, q, rfl⟩ := hrel
      by_cases hlt : k < l1.length
      · have hlt2 : k < l2.length := by rw [← Hlen.out]; exact hlt
        obtain ⟨ad1, rfl, _, hx0, hx1⟩ := ByC.cells h1 k hlt
        obtain ⟨ad2, rfl, _, hy0, hy1⟩ := ByC.cells h2 k hlt2
        have Hall := Lib.hid hall
        have Hd1 := Lib.hid (Hd.out k hlt hlt2)
        clear hall
        have hcase : l1[k] = l2[k] ∨ l1[k] ≠ l2[k] := Decidable.em _
        have Hst : Hid (l1[k] = l2[k] → ∀ j, (hj : j < k + 1) → (hj1 : j < l1.length) → (hj2 : j < l2.length) → l1[j] = l2[j]) := fun he j hj hj1 hj2 => by
          rcases Nat.lt_or_ge j k with h | h
          · exact Hall.out j h hj1 hj2
          · obtain rfl : j = k := by omega
            exact he
        generalize l1[k] = a at *
        generalize l2[k] = b at *
        obtain ⟨a1, a2⟩ := a
        obtain ⟨b1, b2⟩ := b
        simp only at hx0 hx1 hy0 hy1
        have heq := eqCell
        have hgd := guardCell
        by_cases hab : a1 = b1 ∧ a2 = b2
        · obtain ⟨rfl, rfl⟩ := hab
          go_wp2_with fail
          go_quiet (fail)
          go_wp2_with fail
          go_roundw
          case rel => exact ⟨k + 1, by omega, by go_num, Hst.out (by first | rfl | trivial), q + nq, by simp⟩
          case measure => simp [intOf]; omega
        · have hb : (((a1.toNat : Nat) : Int) == ((b1.toNat : Nat) : Int) && ((a2.toNat : Nat) : Int) == ((b2.toNat : Nat) : Int)) = false := by
            rw [Bool.and_eq_false_iff]
            by_cases h : a1 = b1
            · right
              exact beq_eq_false_iff_ne.2 fun e => hab ⟨h, UInt32.toNat_inj.1 (by omega)⟩
            · left
              exact beq_eq_false_iff_ne.2 fun e => h (UInt64.toNat_inj.1 (by omega))
          have hD := Hd1.out fun e => hab (by injection e with e1 e2; exact ⟨e1, e2⟩)
          have HD := Lib.hid hD
          clear hab hD
          go_wp2_with fail
          go_quiet (fail)
          go_wp2_with fail
          go_ret
          rw [HD.out]
          exact ⟨rfl, q + nq, by simp⟩
      · obtain rfl : k = l1.length := by omega
        have hyy := Hy.out fun j hj hj2 => hall j hj hj hj2
        have HY := Lib.hid hyy
        clear hall hyy
        go_wp2_with fail
        go_ret
        rw [HY.out]
        exact ⟨rfl, q, rfl⟩
  · have hne : ((l1.length : Int) == (l2.length : Int)) = false := by simp; omega
    have hne' : ((l1.length : Int) != (l2.length : Int)) = true := by simp; omega
    go_enter Try.func34, Try.ntmps34
    go_wp2_with fail
    go_ret
    refine ⟨?_, 0, rfl⟩
    rw [decide_eq_false (fun e => hlen (by rw [e]))]; rfl
end Go.Proofs.Ythfnikdapknohaa

namespace Go.Proofs.Ythfnikdapknohaa
set_option linter.unusedSimpArgs false
set_option linter.unusedVariables false
open Go.RowKit

theorem RowOn.keepO {α : Type} {C : Cdc α} (hC : ∀ w w' S cs x, C.at_ w S cs x → C.at_ w' S cs x) {w w' : World} {O S : Nat → Prop} {v : Value} {xs : List α} (h : RowOn C w O S v xs) (hO : ∀ p : Addr, O p.block → w'.cell? p = w.cell? p) : RowOn C w' O S v xs := by
  obtain ⟨A, c, h1, h2, h3, h4⟩ := h
  refine ⟨A, c, h1, h2, h3, fun hn => ?_⟩
  obtain ⟨ad, e, hb, hc⟩ := h4 hn
  refine ⟨ad, e, hb, fun i x hx => ?_⟩
  obtain ⟨cs, ha, hcs⟩ := hc i x hx
  exact ⟨cs, hC _ _ _ _ _ ha, fun j u hu => (hO _ (by rw [add_block]; exact hb)).trans (hcs j u hu)⟩
/-- a row -/
def cRow : Cdc GRow where
  n := 2
  at_ := fun w S cs x => ∃ v, cs = [.int .u32 (x.fr.toNat : Int), v] ∧ RowOn cArc w S (fun _ => True) v x.arcs
  len := fun h => by obtain ⟨v, rfl, _⟩ := h; rfl
  one := fun h => by obtain ⟨v, rfl, h⟩ := h; obtain ⟨A, c, rfl, _⟩ := h; intro u hu; simp at hu; rcases hu with rfl | rfl <;> rfl
  keep := fun h hk => by obtain ⟨v, e, h⟩ := h; exact ⟨v, e, h.keepO (fun _ _ _ _ _ h => h) hk⟩
  mono := fun h hk => by obtain ⟨v, e, h⟩ := h; exact ⟨v, e, h.mono hk (fun _ h => h)⟩
theorem infoRow : (Try.prog.info? 75).map (fun i => (i.zero, i.size, i.bytes)) = some (some (.agg #[.int .u32 0, .slice none 0 0]), 2, 32) := by kernel_rfl
theorem infoRow2 : (Try.prog.info? 75).map (·.size) = some 2 := by kernel_rfl
theorem InC.rows' {w : World} {cs : List Value} (h : InC w 22 cs) : ∃ v xs, cs = [v] ∧ RowOn cRow w (fun k => k < w.heap.size) (fun k => k < w.heap.size) v xs :=
  h.row (C := cRow) Try.underlying22 (by kernel_rfl) (by decide) fun cs hc => by
    obtain ⟨hl, hf⟩ := hc.fields Try.underlying75 (by kernel_rfl) (by kernel_rfl)
    obtain ⟨u0, h0, g0⟩ := hf 0 _ rfl
    obtain ⟨u1, h1, g1⟩ := hf 1 _ rfl
    obtain ⟨n0, e0, k0⟩ := InC.u32 (S := fun _ => True) Try.underlying51 g0
    obtain ⟨v1, xs, e1, k1⟩ := g1.arcs'
    simp at e0 e1
    subst e0; subst e1
    match cs, hl with
    | [c0, c1], _ =>
      injection h0 with h0
      injection h1 with h1
      subst h0; subst h1
      exact ⟨⟨n0, xs⟩, c1, rfl, k1.mono (fun _ h => h) (fun _ _ => trivial)⟩
/-- the value reads as these rows, all in blocks below B -/
abbrev ByRw (w : World) (B : Nat) (v : Value) (l : List GRow) : Prop := RowOn cRow w (fun k => k < B) (fun k => k < B) v l
theorem ByRw.below {w w' : World} {B : Nat} {v : Value} {l : List GRow} (h : ByRw w B v l) (hb : Below B w w') : ByRw w' B v l := h.keep (fun p hp => hb.cell hp) (fun p hp => hb.cell hp)
theorem ByRw.more {w : World} {B B' : Nat} {v : Value} {l : List GRow} (h : ByRw w B v l) (hB : B ≤ B') : ByRw w B' v l := h.mono (fun _ hk => by omega) fun _ hk => by omega
theorem ByRw.step {w w' : World} {v : Value} {l : List GRow} (h : ByRw w w.heap.size v l) (hb : Below w.heap.size w w') : ByRw w' w'.heap.size v l := (h.below hb).more hb.size
theorem InC.rows {w : World} {v : Value} (h : InC w 22 [v]) : ∃ l, ByRw w w.heap.size v l := by
  obtain ⟨v', xs, e, hr⟩ := h.rows'
  injection e with e
  subst e
  exact ⟨xs, hr⟩
theorem add1 (a : Addr) : a.add 1 = { block := a.block, off := a.off + 1 } := by simp [Addr.add]
/-- the cells of the k-th row -/
theorem ByRw.cells {w : World} {B : Nat} {A : Option Addr} {n c : Nat} {l : List GRow} (h : ByRw w B (.slice A n c) l) (k : Nat) (hk : k < l.length) :
    ∃ ad Aa ca, A = some ad ∧ ad.block < B ∧ w.cell? (ad.add (k * 2)) = some (.int .u32 ((l[k]).fr.toNat : Int)) ∧ w.cell? { block := (ad.add (k * 2)).block, off := (ad.add (k * 2)).off + 1 } = some (.slice Aa (l[k]).arcs.length ca) ∧
      ByA w B (.slice Aa (l[k]).arcs.length ca) (l[k]).arcs := by
  obtain ⟨ad, cs, e, hb, ⟨v, rfl, hv⟩, hc⟩ := h.at_ k l[k] (List.getElem?_eq_getElem hk)
  obtain ⟨Aa, ca, rfl, _, _⟩ := hv.form
  refine ⟨ad, Aa, ca, e, hb, hc 0 _ rfl, ?_, hv⟩
  have := hc 1 _ rfl
  rw [← add_add] at this
  rw [← add1]
  exact this
/-- the same, as what a load of the whole row brings -/
theorem ByRw.row {w : World} {B : Nat} {A : Option Addr} {n c : Nat} {l : List GRow} (h : ByRw w B (.slice A n c) l) (k : Nat) (hk : k < l.length) :
    ∃ ad Aa ca, A = some ad ∧ ad.block < B ∧ (∀ (j : Nat) (u : Value), ([.int .u32 ((l[k]).fr.toNat : Int), .slice Aa (l[k]).arcs.length ca] : List Value)[j]? = some u → w.cell? ((ad.add (k * 2)).add j) = some u) ∧
      ByA w B (.slice Aa (l[k]).arcs.length ca) (l[k]).arcs := by
  obtain ⟨ad, cs, e, hb, ⟨v, rfl, hv⟩, hc⟩ := h.at_ k l[k] (List.getElem?_eq_getElem hk)
  obtain ⟨Aa, ca, rfl, _, _⟩ := hv.form
  exact ⟨ad, Aa, ca, e, hb, fun j u hu => by rw [add_add]; exact hc j u hu, hv⟩

/-! ### copies -/
set_option maxHeartbeats 800000 in
theorem cloneA (w : World) (v : Value) (l : List GArc) (h : ByA w w.heap.size v l) (hsz : l.length ≤ 4294967296) :
    Calls Try.prog 69 #[v] w fun e w' => ∃ v', e = .returned v' ∧ OwnF 70 cArc w' w.heap.size v' l ∧ Below w.heap.size w w' := by
  have hn := eqnil 65 70 Try.underlying65
  have hby2 : RowOn cArc (w.alloc (.cells #[] 70)) (fun k => k < w.heap.size) (fun _ => False) v l := (h.below (balloc w _)).mono (fun _ h => h) (fun _ h => h) |> fun h => by
    obtain ⟨A, c, h1, h2, h3, h4⟩ := h
    exact ⟨A, c, h1, h2, h3, h4⟩
  obtain ⟨A, c, rfl, hc1, hc2⟩ := h.form
  unfold maxLen at hc2
  cases A with
  | none =>
    have h0 : l = [] := by
      cases l with
      | nil => rfl
      | cons a t =>
        obtain ⟨ad, _, e, _⟩ := h.at_ 0 a rfl
        cases e
    subst h0
    go_enter Try.func69, Try.ntmps69
    go_wp2
    go_ret
    exact ⟨_, rfl, OwnF.nil_ _ _, Below.refl _ _⟩
  | some ad =>
    go_enter Try.func69, Try.ntmps69
    go_wp2_with (first
      | (at_builtin
         refine wpList_appR rfl (.tmp 5) (.tmp 6) 65 rfl Try.underlying65 infoArc rfl (by decide) (by decide) (OwnA.empty w w.heap.size w.heap.size rfl (Nat.le_refl _)) hby2 rfl rfl (by simp; omega) (by simp) ?_
         intro v1 w1 hown1 hext1))
    go_ret
    exact ⟨_, rfl, by simpa using hown1, ((Below.refl _ _).alloc (Nat.le_refl _) _).trans (hext1.below (by simp) (by simp [Value.ownBlock]))⟩
theorem OwnC.empty (W : World) (g base : Nat) (hg : W.heap.size = g) (hb : base ≤ g) : OwnF 73 cCell (W.alloc (.cells #[] 73)) base (.slice (some ⟨g, 0, none⟩) 0 0) [] := by
  subst hg
  exact (OwnR.new_ (xs := ([] : List GCell)) (S := fun _ => False) W [] rfl (by simp) (fun i cs x h => by simp at h) (fun _ h => h.elim)).more hb
theorem infoCell3 : (Try.prog.info? 73).map (fun i => (i.zero, i.size, i.bytes)) = some (some (.agg #[.int .u64 0, .int .u32 0]), cCell.n, 16) := by kernel_rfl
set_option maxHeartbeats 800000 in
theorem cloneC (w : World) (v : Value) (l : List GCell) (h : ByC w w.heap.size v l) (hsz : l.length ≤ 4294967296) :
    Calls Try.prog 70 #[v] w fun e w' => ∃ v', e = .returned v' ∧ OwnF 73 cCell w' w.heap.size v' l ∧ Below w.heap.size w w' := by
  have hn := eqnil 66 73 Try.underlying66
  have hby2 : RowOn cCell (w.alloc (.cells #[] 73)) (fun k => k < w.heap.size) (fun _ => False) v l := (h.below (balloc w _)).mono (fun _ h => h) (fun _ h => h) |> fun h => by
    obtain ⟨A, c, h1, h2, h3, h4⟩ := h
    exact ⟨A, c, h1, h2, h3, h4⟩
  obtain ⟨A, c, rfl, hc1, hc2⟩ := h.form
  unfold maxLen at hc2
  cases A with
  | none =>
    have h0 : l = [] := by
      cases l with
      | nil => rfl
      | cons a t =>
        obtain ⟨ad, _, e, _⟩ := h.at_ 0 a rfl
        cases e
    subst h0
    go_enter Try.func70, Try.ntmps70
    go_wp2
    go_ret
    exact ⟨_, rfl, OwnF.nil_ _ _, Below.refl _ _⟩
  | some ad =>
    go_enter Try.func70, Try.ntmps70
    go_wp2_with (first
      | (at_builtin
         refine wpList_appR rfl (.tmp 5) (.tmp 6) 66 rfl Try.underlying66 infoCell3 rfl (by decide) (by decide) (OwnC.empty w w.heap.size w.heap.size rfl (Nat.le_refl _)) hby2 rfl rfl (by simp; omega) (by simp) ?_
         intro v1 w1 hown1 hext1))
    go_ret
    exact ⟨_, rfl, by simpa using hown1, ((Below.refl _ _).alloc (Nat.le_refl _) _).trans (hext1.below (by simp) (by simp [Value.ownBlock]))⟩
end Go.Proofs.Ythfnikdapknohaa

namespace Go.Proofs.Ythfnikdapknohaa
set_option linter.unusedSimpArgs false
set_option linter.unusedVariables false
open Go.RowKit

set_option maxRecDepth 100000 in
set_option maxHeartbeats 1600000 in
theorem rnew_any (w : World) (B : Nat) (v : Value) (l : List GRow) (hs : rsz l ≤ 1048576) (h : ByRw w B v l) :
    Calls Try.prog 14 #[v] w fun e w' => e = .returned (.int .i64 (newE none l)) ∧ ∃ q, w' = w.drewN q := by
  obtain ⟨A, c, rfl, hc1, hc2⟩ := h.form
  unfold maxLen at hc2
  have hstop := newE_stop l
  have hat := newE_at l
  have hrow := rsz_at l
  have Hstop := Lib.hid hstop
  have Hat := Lib.hid hat
  have Hrow := Lib.hid hrow
  have hl := rsz_len l
  clear hstop hat hrow
  go_enter Try.func14, Try.ntmps14
  go_wp2_with fail
  go_loopw [6] (fun i wr => ∃ k : Nat, k ≤ l.length ∧ i = .int .i64 k ∧ newE none (l.take k) = 0 ∧ ∃ q, wr = w.drewN q) (fun i _ => l.length - (intOf i).toNat)
  case atStart => exact ⟨0, by omega, rfl, rfl, 0, rfl⟩
  case round =>
    obtain ⟨k, hk, rfl, h0, q, rfl⟩ := hrel
    by_cases hlt : k < l.length
    · have hdk : decide ((k : Int) < (l.length : Int)) = true := by simp; omega
      obtain ⟨ad, Aa, ca, rfl, _, hx0, hx1, hya⟩ := h.cells k hlt
      have hE := Hat.out k hlt h0
      have hS := Hstop.out (k + 1)
      have hal := Hrow.out k hlt
      have hmy := rgmay_any (w.drewN q) B _ _ (by omega) (show ByA (w.drewN q) B _ _ from hya)
      have hnb : nbrs (l[k]).arcs = (decide (0 < (l[k]).arcs.length) && gmay (l[k]).arcs) := rfl
      have HE := Lib.hid hE
      have HS := Lib.hid hS
      have Hnb := Lib.hid hnb
      have Hmy := Lib.hid hmy
      have hnx : ∀ m, k = m + 1 → ∃ hm : m < l.length, nxt 0 (l.take k) = (l[m]).fr.toNat + 1 := by
        rintro m rfl
        refine ⟨by omega, ?_⟩
        rw [List.take_add_one, List.getElem?_eq_getElem (by omega)]
        exact nxt_snoc _ _ _
      have Hnx := Lib.hid hnx
      have hnx0 : k = 0 → nxt 0 (l.take k) = 0 := by rintro rfl; rfl
      have Hnx0 := Lib.hid hnx0
      have hcells := fun m hm => h.cells m hm
      have Hcells := Lib.hid hcells
      clear hE hS hnb hmy hnx hnx0 hya hcells
      by_cases hz : (l[k]).arcs.length = 0
      · have hzd : (((l[k]).arcs.length : Int) == 0) = true := by simp [hz]
        have hf : newE none l = 3 := by
          have e : newE none (l.take (k + 1)) = 3 := by rw [HE.out, if_pos (by rw [Hnb.out, hz]; simp)]
          rw [HS.out (by rw [e]; decide), e]
        have Hf := Lib.hid hf
        clear hf HE HS Hnb Hmy Hnx Hnx0 hz h0
        generalize (l[k]).arcs.length = m at *
        generalize (l[k]).fr.toNat = f at *
        go_wp2_with fail
        go_ret
        rw [Hf.out]
        exact ⟨rfl, q, rfl⟩
      · have hzd : (((l[k]).arcs.length : Int) == 0) = false := beq_eq_false_iff_ne.2 (by omega)
        have hnb2 : nbrs (l[k]).arcs = gmay (l[k]).arcs := by rw [Hnb.out, decide_eq_true (by omega)]; rfl
        have Hnb2 := Lib.hid hnb2
        clear hnb2 Hnb
        cases hg : gmay (l[k]).arcs with
        | false =>
          have hf : newE none l = 3 := by
            have e : newE none (l.take (k + 1)) = 3 := by rw [HE.out, if_pos (by rw [Hnb2.out, hg])]
            rw [HS.out (by rw [e]; decide), e]
          rw [hg] at Hmy
          have Hf := Lib.hid hf
          clear hf HE HS Hnb2 Hnx Hnx0 hz h0 hg
          generalize (l[k]).arcs.length = m at *
          generalize (l[k]).fr.toNat = f at *
          go_wp2_with fail
          refine Hmy.out.mono ?_
          rintro _ _ ⟨rfl, q2, rfl⟩
          go_wp2_with fail
          go_ret
          rw [Hf.out]
          exact ⟨rfl, q + q2, by simp⟩
        | true =>
          have hEt : newE none (l.take (k + 1)) = if (l[k]).fr.toNat < nxt 0 (l.take k) then 13 else 0 := by rw [HE.out, if_neg (by rw [Hnb2.out, hg]; decide)]
          rw [hg] at Hmy
          have HEt := Lib.hid hEt
          clear hEt HE Hnb2 hz h0 hg
          generalize (l[k]).arcs.length = m at *
          have hfr := u32_lt (l[k]).fr
          generalize (l[k]).fr.toNat = f at *
          rcases Nat.eq_zero_or_pos k with hk0 | hk0
          · have hok : newE none (l.take (k + 1)) = 0 := by rw [HEt.out, Hnx0.out hk0, if_neg (by omega)]
            have Hok := Lib.hid hok
            have hd0 : decide ((k : Int) > 0) = false := decide_eq_false (by omega)
            have hd1 : decide (0 < k) = false := decide_eq_false (by omega)
            clear hok HEt Hnx0 Hnx HS hk0
            go_wp2_with fail
            refine Hmy.out.mono ?_
            rintro _ _ ⟨rfl, q2, rfl⟩
            go_wp2_with fail
            go_quiet (fail)
            go_wp2_with fail
            go_roundw
            case rel => exact ⟨k + 1, by omega, by go_num, Hok.out, q + q2 + nq, by simp⟩
            case measure => simp [intOf]; omega
          · obtain ⟨p, rfl⟩ : ∃ p, k = p + 1 := ⟨k - 1, by omega⟩
            obtain ⟨hp, hnx⟩ := Hnx.out p rfl
            obtain ⟨ad2, Ab, cb, e2, _, hy0, hy1, _⟩ := Hcells.out p hp
            injection e2 with e2
            subst e2
            have hk1 : (((p + 1 : Nat) : Int) - 1) = (p : Int) := by omega
            have hgt : decide (((p + 1 : Nat) : Int) > 0) = true := decide_eq_true (by omega)
            have hgt' : decide (0 < p + 1) = true := decide_eq_true (by omega)
            have hw1 : wrap64 (((p + 1 : Nat) : Int) - 1) = (p : Int) := by unfold wrap64; omega
            have hfr2 := u32_lt (l[p]).fr
            rw [hnx] at HEt
            clear Hnx Hnx0 Hcells hnx
            generalize (l[p]).fr.toNat = f2 at *
            by_cases hle : f ≤ f2
            · have hd : decide ((f : Int) ≤ (f2 : Int)) = true := decide_eq_true (by omega)
              have hd' : decide (f ≤ f2) = true := decide_eq_true hle
              have hf : newE none l = 13 := by
                have e : newE none (l.take (p + 1 + 1)) = 13 := by rw [HEt.out, if_pos (by omega)]
                rw [HS.out (by rw [e]; decide), e]
              have Hf := Lib.hid hf
              clear hf HEt HS hle
              go_wp2_with fail
              refine Hmy.out.mono ?_
              rintro _ _ ⟨rfl, q2, rfl⟩
              go_wp2_with fail
              go_quiet (fail)
              go_wp2_with fail
              go_ret
              rw [Hf.out]
              exact ⟨rfl, q + q2 + nq, by simp⟩
            · have hd : decide ((f : Int) ≤ (f2 : Int)) = false := decide_eq_false (by omega)
              have hd' : decide (f ≤ f2) = false := decide_eq_false hle
              have hok : newE none (l.take (p + 1 + 1)) = 0 := by rw [HEt.out, if_neg (by omega)]
              have Hok := Lib.hid hok
              clear hok HEt HS hle
              go_wp2_with fail
              refine Hmy.out.mono ?_
              rintro _ _ ⟨rfl, q2, rfl⟩
              go_wp2_with fail
              go_quiet (fail)
              go_wp2_with fail
              go_roundw
              case rel => exact ⟨p + 1 + 1, by omega, by go_num, Hok.out, q + q2 + nq, by simp⟩
              case measure => simp [intOf]; omega
    · obtain rfl : k = l.length := by omega
      rw [List.take_length] at h0
      have H0 := Lib.hid h0
      clear h0
      go_wp2_with fail
      go_ret
      rw [H0.out]
      exact ⟨rfl, q, rfl⟩
end Go.Proofs.Ythfnikdapknohaa

namespace Go.Proofs.Ythfnikdapknohaa
set_option linter.unusedSimpArgs false
set_option linter.unusedVariables false
open Go.RowKit

theorem gsame_q (w : World) (q n : Nat) (B1 B2 : Nat) (v1 v2 : Value) (l1 l2 : List GArc) (h1 : ByA w B1 v1 l1) (h2 : ByA w B2 v2 l2) (d : Bool) (hd : decide (l1 = l2) = d) :
    Calls Try.prog 33 #[v1, v2] (w.drewN (q + n)) fun e w' => e = .returned (.bool d) ∧ ∃ m, w' = w.drewN (q + m) := by
  subst hd
  exact (gsame_any (w.drewN (q + n)) B1 B2 v1 v2 l1 l2 h1 h2).mono fun _ _ ⟨e, m, h⟩ => ⟨e, n + m, by rw [h]; simp [Nat.add_assoc]⟩
set_option maxRecDepth 100000 in
set_option maxHeartbeats 1600000 in
theorem rsame_any (w : World) (B1 B2 : Nat) (v1 v2 : Value) (l1 l2 : List GRow) (h1 : ByRw w B1 v1 l1) (h2 : ByRw w B2 v2 l2) :
    Calls Try.prog 18 #[v1, v2] w fun e w' => e = .returned (.bool (decide (l1 = l2))) ∧ ∃ q, w' = w.drewN q := by
  obtain ⟨A1, c1, rfl, ha1, ha2⟩ := h1.form
  obtain ⟨A2, c2, rfl, hb1, hb2⟩ := h2.form
  unfold maxLen at ha2 hb2
  by_cases hlen : l1.length = l2.length
  · have hd : ∀ k, (hk : k < l1.length) → (hk2 : k < l2.length) → l1[k] ≠ l2[k] → decide (l1 = l2) = false := fun k hk hk2 hne => decide_eq_false fun e => hne (by subst e; rfl)
    have hy : (∀ k, (hk : k < l1.length) → (hk2 : k < l2.length) → l1[k] = l2[k]) → decide (l1 = l2) = true := fun h => decide_eq_true (List.ext_getElem hlen fun k h1 h2 => h k h1 h2)
    have Hd := Lib.hid hd
    have Hy := Lib.hid hy
    have Hlen := Lib.hid hlen
    have hnb : (((l1.length : Nat) : Int) == ((l2.length : Nat) : Int)) = true := by simp; omega
    have hnb' : (((l1.length : Nat) : Int) != ((l2.length : Nat) : Int)) = false := by simp; omega
    clear hd hy hlen
    generalize decide (l1 = l2) = D at *
    go_enter Try.func18, Try.ntmps18
    go_wp2_with fail
    go_loopw [13] (fun i wr => ∃ k : Nat, k ≤ l1.length ∧ i = .int .i64 k ∧ (∀ j, (hj : j < k) → (hj1 : j < l1.length) → (hj2 : j < l2.length) → l1[j] = l2[j]) ∧ ∃ q, wr = w.drewN q) (fun i _ => l1.length - (intOf i).toNat)
    case atStart => exact ⟨0, by omega, rfl, fun j hj => by omega, 0, rfl⟩
    case round =>
      obtain ⟨k, hk, rfl, hall, q, rfl⟩ := hrel
      by_cases hlt : k < l1.length
      · have hlt2 : k < l2.length := by rw [← Hlen.out]; exact hlt
        obtain ⟨ad1, Aa, ca, rfl, _, hx0, hx1, hxa⟩ := h1.cells k hlt
        obtain ⟨ad2, Ab, cb, rfl, _, hy0, hy1, hya⟩ := h2.cells k hlt2
        have Hall := Lib.hid hall
        have Hd1 := Lib.hid (Hd.out k hlt hlt2)
        have Hxa := Lib.hid hxa
        have Hya := Lib.hid hya
        clear hall hxa hya
        have Hst : Hid (l1[k] = l2[k] → ∀ j, (hj : j < k + 1) → (hj1 : j < l1.length) → (hj2 : j < l2.length) → l1[j] = l2[j]) := fun he j hj hj1 hj2 => by
          rcases Nat.lt_or_ge j k with h | h
          · exact Hall.out j h hj1 hj2
          · obtain rfl : j = k := by omega
            exact he
        generalize l1[k] = a at *
        generalize l2[k] = b at *
        obtain ⟨a1, a2⟩ := a
        obtain ⟨b1, b2⟩ := b
        simp only at hx0 hx1 hy0 hy1
        by_cases hab : a1 = b1
        · subst hab
          have hq : ((a1.toNat : Int) != (a1.toNat : Int)) = false := by simp
          have hq2 : (a1.toNat != a1.toNat) = false := by simp
          have Hgs := Lib.hid (fun n d hd => gsame_q w q n B1 B2 _ _ a2 b2 Hxa.out Hya.out d hd)
          by_cases he : a2 = b2
          · have hst := Hst.out (by rw [he])
            have Hst2 := Lib.hid hst
            have hg := fun n => Hgs.out n true (decide_eq_true he)
            have Hg := Lib.hid hg
            clear hst Hst hg Hgs he Hxa Hya Hd1
            generalize a1.toNat = an at *
            generalize a2.length = la at *
            generalize b2.length = lb at *
            go_wp2_with fail
            go_quiet ((go_at_call 33; go_loud (exact Hg.out _)))
            go_wp2_with fail
            go_roundw
            case rel => exact ⟨k + 1, by omega, by go_num, Hst2.out, q + nq, by simp⟩
            case measure => simp [intOf]; omega
          · have hD := Hd1.out fun e => he (by injection e)
            have HD := Lib.hid hD
            have hg := fun n => Hgs.out n false (decide_eq_false he)
            have Hg := Lib.hid hg
            clear hD Hst hg Hgs he Hxa Hya Hd1
            generalize a1.toNat = an at *
            generalize a2.length = la at *
            generalize b2.length = lb at *
            go_wp2_with fail
            go_quiet ((go_at_call 33; go_loud (exact Hg.out _)))
            go_wp2_with fail
            go_ret
            rw [HD.out]
            exact ⟨rfl, q + nq, by simp⟩
        · have hne : ¬ a1.toNat = b1.toNat := fun e => hab (UInt32.toNat_inj.1 e)
          have hq : ((a1.toNat : Int) != (b1.toNat : Int)) = true := by simp; omega
          have hq2 : (a1.toNat != b1.toNat) = true := by simp [hne]
          have hD := Hd1.out fun e => hab (by injection e)
          have HD := Lib.hid hD
          clear hab hD hne Hst Hxa Hya Hd1
          generalize a1.toNat = an at *
          generalize b1.toNat = bn at *
          generalize a2.length = la at *
          generalize b2.length = lb at *
          go_wp2_with fail
          go_quiet (fail)
          go_wp2_with fail
          go_ret
          rw [HD.out]
          exact ⟨rfl, q + nq, by simp⟩
      · obtain rfl : k = l1.length := by omega
        have hyy := Hy.out fun j hj hj2 => hall j hj hj hj2
        have HY := Lib.hid hyy
        clear hall hyy
        go_wp2_with fail
        go_ret
        rw [HY.out]
        exact ⟨rfl, q, rfl⟩
  · have hne : ((l1.length : Int) == (l2.length : Int)) = false := by simp; omega
    have hne' : ((l1.length : Int) != (l2.length : Int)) = true := by simp; omega
    go_enter Try.func18, Try.ntmps18
    go_wp2_with fail
    go_ret
    refine ⟨?_, 0, rfl⟩
    rw [decide_eq_false (fun e => hlen (by rw [e]))]; rfl

/-- a vertex' arcs -/
def arcsOf (l : List GRow) (x : UInt32) : List GArc := match l.find? (fun r => r.fr == x) with | some r => r.arcs | none => []
theorem arcsOf_at (l : List GRow) (x : UInt32) (k : Nat) (hk : k < l.length) (h1 : ∀ j, (hj : j < k) → (l[j]'(by omega)).fr ≠ x) (h2 : (l[k]).fr = x) : arcsOf l x = (l[k]).arcs := by
  unfold arcsOf
  rw [List.find?_eq_some_iff_getElem.2 ⟨by simpa using h2, k, hk, rfl, fun j hj => by simpa using h1 j hj⟩]
theorem arcsOf_none (l : List GRow) (x : UInt32) (h1 : ∀ j, (hj : j < l.length) → (l[j]).fr ≠ x) : arcsOf l x = [] := by
  unfold arcsOf
  rw [List.find?_eq_none.2 fun r hr => by
    obtain ⟨j, hj, rfl⟩ := List.mem_iff_getElem.1 hr
    simpa using h1 j hj]
set_option maxRecDepth 100000 in
set_option maxHeartbeats 1600000 in
theorem rarcs_any (w : World) (B : Nat) (v : Value) (l : List GRow) (x : UInt32) (h : ByRw w B v l) (hB : B ≤ w.heap.size) :
    Calls Try.prog 36 #[v, .int .u32 (x.toNat : Int)] w fun e w' => ∃ v', e = .returned v' ∧ ByA w' w'.heap.size v' (arcsOf l x) ∧ Below w.heap.size w w' := by
  obtain ⟨A, c, rfl, hc1, hc2⟩ := h.form
  unfold maxLen at hc2
  have hat := arcsOf_at l x
  have hno := arcsOf_none l x
  have Hat := Lib.hid hat
  have Hno := Lib.hid hno
  clear hat hno
  generalize arcsOf l x = R at *
  go_enter Try.func36, Try.ntmps36
  go_wp2_with fail
  go_loop [8] (fun i => ∃ k : Nat, k ≤ l.length ∧ i = .int .i64 k ∧ ∀ j, (hj : j < k) → (hj1 : j < l.length) → (l[j]).fr ≠ x) (fun i => l.length - (intOf i).toNat)
  case atStart => exact ⟨0, by omega, rfl, fun j hj => by omega⟩
  case round =>
    obtain ⟨k, hk, rfl, hall⟩ := hrel
    have Hall := Lib.hid hall
    clear hall
    by_cases hlt : k < l.length
    · obtain ⟨ad, Aa, ca, rfl, _, hx0, hx1, hxa⟩ := h.cells k hlt
      have Hxa := Lib.hid hxa
      clear hxa
      by_cases he : (l[k]).fr = x
      · have hr := Hat.out k hlt (fun j hj => Hall.out j hj (by omega)) he
        rw [← hr] at Hxa
        have Hx : Hid (ByA w B (.slice Aa R.length ca) R) := by rw [hr]; exact hr ▸ Hxa
        rw [← hr] at hx1
        rw [he] at hx0
        have hq : ((x.toNat : Int) == (x.toNat : Int)) = true := by simp
        clear hr he
        go_wp2_with fail
        go_ret
        exact ⟨_, rfl, Hx.out.more hB, Below.refl _ _⟩
      · have hne : ¬ (l[k]).fr.toNat = x.toNat := fun e => he (UInt32.toNat_inj.1 e)
        have hq : (((l[k]).fr.toNat : Int) == (x.toNat : Int)) = false := by simp; omega
        have hall2 : ∀ j, (hj : j < k + 1) → (hj1 : j < l.length) → (l[j]).fr ≠ x := fun j hj hj1 => by
          rcases Nat.lt_or_ge j k with h | h
          · exact Hall.out j h hj1
          · obtain rfl : j = k := by omega
            exact he
        have Hall2 := Lib.hid hall2
        clear hall2 he hne
        generalize (l[k]).fr.toNat = f at *
        generalize (l[k]).arcs.length = m at *
        go_wp2_with fail
        go_round
        case rel => exact ⟨k + 1, by omega, by go_num, Hall2.out⟩
        case measure => simp [intOf]; omega
    · obtain rfl : k = l.length := by omega
      have hr := Hno.out fun j hj => Hall.out j hj hj
      have Hr := Lib.hid hr
      clear hr
      go_wp2_with fail
      go_ret
      rw [Hr.out]
      exact ⟨_, rfl, (OwnA.empty w w.heap.size w.heap.size rfl (Nat.le_refl _)).rowLt.mono (fun _ h => h) (fun _ _ => trivial), balloc _ _⟩

def fewR (l : List GRow) : Bool := decide (l.length ≤ 40) && l.all fun r => decide (r.arcs.length ≤ 40)
theorem fewR_rsz (l : List GRow) (h : fewR l = true) : rsz l ≤ 1640 := by
  unfold fewR at h
  rw [Bool.and_eq_true, decide_eq_true_eq, List.all_eq_true] at h
  have : ∀ (l : List GRow), (∀ r ∈ l, r.arcs.length ≤ 40) → rsz l ≤ 41 * l.length := by
    intro l
    induction l with
    | nil => intro _; simp [rsz]
    | cons a t ih =>
      intro hl
      have h1 := ih fun r hr => hl r (by simp [hr])
      have h2 := hl a (by simp)
      rw [rsz_cons, List.length_cons]
      omega
  have := this l fun r hr => by simpa using h.2 r hr
  omega
set_option maxRecDepth 100000 in
set_option maxHeartbeats 1600000 in
theorem few_any (w : World) (B : Nat) (v : Value) (l : List GRow) (h : ByRw w B v l) :
    Calls Try.prog 11 #[v] w fun e w' => e = .returned (.bool (fewR l)) ∧ w = w' := by
  obtain ⟨A, c, rfl, hc1, hc2⟩ := h.form
  unfold maxLen at hc2
  by_cases h40 : l.length ≤ 40
  · have hd : decide (l.length ≤ 40) = true := decide_eq_true h40
    have hno : ∀ k (hk : k < l.length), 40 < (l[k]).arcs.length → fewR l = false := fun k hk hgt => by
      unfold fewR
      rw [Bool.and_eq_false_iff]
      right
      rw [List.all_eq_false]
      exact ⟨_, List.getElem_mem hk, by simpa using hgt⟩
    have hyes : (∀ k (hk : k < l.length), (l[k]).arcs.length ≤ 40) → fewR l = true := fun ha => by
      unfold fewR
      rw [hd, Bool.true_and, List.all_eq_true]
      intro r hr
      obtain ⟨j, hj, rfl⟩ := List.mem_iff_getElem.1 hr
      simpa using ha j hj
    have Hno := Lib.hid hno
    have Hyes := Lib.hid hyes
    clear hno hyes hd
    generalize fewR l = R at *
    go_enter Try.func11, Try.ntmps11
    go_wp2_with fail
    go_loop [9] (fun i => ∃ k : Nat, k ≤ l.length ∧ i = .int .i64 k ∧ ∀ j, (hj : j < k) → (hj1 : j < l.length) → (l[j]).arcs.length ≤ 40) (fun i => l.length - (intOf i).toNat)
    case atStart => exact ⟨0, by omega, rfl, fun j hj => by omega⟩
    case round =>
      obtain ⟨k, hk, rfl, hall⟩ := hrel
      have Hall := Lib.hid hall
      clear hall
      by_cases hlt : k < l.length
      · obtain ⟨ad, Aa, ca, rfl, _, hx0, hx1, hxa⟩ := h.cells k hlt
        have hN := Hno.out k hlt
        have HN := Lib.hid hN
        have hst : (l[k]).arcs.length ≤ 40 → ∀ j, (hj : j < k + 1) → (hj1 : j < l.length) → (l[j]).arcs.length ≤ 40 := fun he j hj hj1 => by
          rcases Nat.lt_or_ge j k with h | h
          · exact Hall.out j h hj1
          · obtain rfl : j = k := by omega
            exact he
        have Hst := Lib.hid hst
        clear hxa hN hst hx0
        generalize (l[k]).arcs.length = m at *
        by_cases hm : m ≤ 40
        · have hs := Hst.out hm
          have Hs := Lib.hid hs
          clear hs Hst HN
          go_wp2_with fail
          go_round
          case rel => exact ⟨k + 1, by omega, by go_num, Hs.out⟩
          case measure => simp [intOf]; omega
        · have hs := HN.out (by omega)
          have Hs := Lib.hid hs
          clear hs Hst HN
          go_wp2_with fail
          go_ret
          rw [Hs.out]
          exact ⟨rfl, rfl⟩
      · obtain rfl : k = l.length := by omega
        have hr := Hyes.out fun j hj => Hall.out j hj hj
        have Hr := Lib.hid hr
        clear hr
        go_wp2_with fail
        go_ret
        rw [Hr.out]
        exact ⟨rfl, rfl⟩
  · have hr : fewR l = false := by unfold fewR; rw [decide_eq_false h40]; rfl
    go_enter Try.func11, Try.ntmps11
    go_wp2_with fail
    go_ret
    rw [hr]
    exact ⟨rfl, rfl⟩
/-- a gap -/
def gapN (i : Nat) (ahead n : UInt32) : Nat := n.toNat - (if i = 0 then 0 else ahead.toNat + 1)
set_option maxHeartbeats 800000 in
theorem gap_any (w : World) (i : Nat) (a n : UInt32) (hi : i ≤ 1048576) (h : i = 0 ∨ a.toNat < n.toNat) :
    Calls Try.prog 49 #[.int .i64 (i : Int), .int .u32 (a.toNat : Int), .int .u32 (n.toNat : Int)] w fun e w' => e = .returned (.int .u64 (gapN i a n : Nat)) ∧ w = w' := by
  have hn := u32_lt n
  have ha := u32_lt a
  by_cases h0 : i = 0
  · have hg : gapN i a n = n.toNat := by unfold gapN; rw [if_pos h0]; rfl
    rw [hg]
    have hd : ((i : Int) == 0) = true := by simp [h0]
    have hw : IntKind.u64.wrap (n.toNat : Int) = (n.toNat : Int) := by rw [wrap_u64]; omega
    clear h0 hg h
    go_enter Try.func49, Try.ntmps49
    go_wp2_with fail
    go_ret
    exact ⟨rfl, rfl⟩
  · have hlt : a.toNat < n.toNat := by omega
    have hg : gapN i a n = n.toNat - (a.toNat + 1) := by unfold gapN; rw [if_neg h0]
    rw [hg]
    have hd : ((i : Int) == 0) = false := by simp [h0]
    have hw : IntKind.u64.wrap (n.toNat : Int) = (n.toNat : Int) := by rw [wrap_u64]; omega
    have hwa : IntKind.u64.wrap (a.toNat : Int) = (a.toNat : Int) := by rw [wrap_u64]; omega
    have e : IntKind.u64.wrap (IntKind.u64.wrap ((n.toNat : Int) - (a.toNat : Int)) - 1) = ((n.toNat - (a.toNat + 1) : Nat) : Int) := by
      rw [wrap_u64, wrap_u64]; omega
    have He := Lib.hid e
    clear e h0 hg h
    go_enter Try.func49, Try.ntmps49
    generalize n.toNat = nn at *
    generalize a.toNat = an at *
    go_wp2_with fail
    go_ret
    refine ⟨?_, rfl⟩
    show Ending.returned (.int .u64 _) = _
    congr 2
    omega
end Go.Proofs.Ythfnikdapknohaa

namespace Go.Proofs.Ythfnikdapknohaa
set_option linter.unusedSimpArgs false
set_option linter.unusedVariables false
open Go.RowKit

/-- how one operation may run -/
def mildM (P : Program) (d : Option Nat) (ph : Value → Prop) (i : Nat) (J : (Nat → Bool) → (Nat → Value) → World → Prop) (b : Nat → Bool) (vs : Nat → Value) : Result Next → Prop
  | .ok (.value u) w'' => ph (dstVal d u) ∧ J (fun s => if s = i then true else b s) (fun s => if s = i then dstVal d u else vs s) w''
  | .ok (.enter f args) w'' => Calls P f args w'' (fun e w3 => ∃ v, e = .returned v ∧ ph (dstVal d v) ∧ J (fun s => if s = i then true else b s) (fun s => if s = i then dstVal d v else vs s) w3)
  | _ => False
def ObM (P : Program) (dl : List (Option Nat)) (Φ : List (Value → Prop)) (ds : List Nat) (a : Act) (J : (Nat → Bool) → (Nat → Value) → World → Prop) (i : Nat) (ph : Value → Prop) (o : Oper) : Prop :=
  ∀ f b w', J b (valOf dl f) w' → b i = false → (∀ e ∈ o.after.toList, Region.binds .any e = true → b e.on = true) → PreO dl Φ f o.after.toList →
    (Gd dl f o.guard → mildM P o.dst ph i J b (valOf dl f) ((execOp (evalF ds f a) o).run P w')) ∧
    (¬ Gd dl f o.guard → ph undef ∧ J (fun s => if s = i then true else b s) (fun s => if s = i then undef else valOf dl f s) w')

section
variable {P : Program} {l : List Oper} {dl : List (Option Nat)} {Φ : List (Value → Prop)} {a : Act} {w : World} {Q : Exit → Act → World → Prop} {J : (Nat → Bool) → (Nat → Value) → World → Prop}
theorem mix_aux {l2 : List Oper} (hdl : l.map (·.dst) = dl) (hn : typedB l a.tmps.size = true) (ht : tailB l l2 = true) (hob : ∀ (i : Nat) (o : Oper), l[i]? = some o → ObM P dl Φ (dstsOf_ l) a J i (Φ.getD i fun _ => True) o)
    (hQ : ∀ f b w', (∀ i, i < l.length → b i = true) → J b (valOf dl f) w' → PostO f dl Φ → wpList P (l ++ l2).toArray Q l2 (fills (dstsOf_ l) f a) w') :
    ∀ (fuel : Nat) (listed : Array Bool) (rem : List Nat), rem.length = fuel → listed.size = (l ++ l2).length → rem.Nodup → (∀ i, i ∈ rem ↔ i < l.length ∧ listed.getD i true = false) →
      (∀ i, l.length ≤ i → i < (l ++ l2).length → listed.getD i false = false) → Closed (l ++ l2) listed →
      ∀ f w', J (fun s => listed.getD s false) (valOf dl f) w' → (∀ i, i < l.length → listed.getD i false = true → factO dl Φ f i) →
      wpAny P .any (l ++ l2).toArray Q (fuel + l2.length) listed (fills (dstsOf_ l) f a) w' := by
  simp only [typedB, Bool.and_eq_true] at hn
  obtain ⟨⟨⟨hnd, hlt⟩, hed⟩, _⟩ := hn
  have hdlg : ∀ i : Nat, dl[i]? = (l[i]?).map (fun (o : Oper) => o.dst) := fun i => by rw [← hdl]; simp
  have hnd := of_decide_eq_true hnd
  have hlt : ∀ d ∈ dstsOf_ l, d < a.tmps.size := fun d hd => of_decide_eq_true (List.all_eq_true.1 hlt d hd)
  have hed : ∀ (i : Nat) (o : Oper), l[i]? = some o → ∀ e ∈ o.after, Region.binds .any e = true → e.on < i := by
    intro i o ho e he hb
    have h1 := List.all_eq_true.1 hed (o, i) (by
      rw [List.mem_zipIdx_iff_getElem?]; exact ho)
    have h2 := (Array.all_eq_true_iff_forall_mem.1 h1) e he
    simpa [hb] using h2
  have hanc := tail_anc ht
  have hback : backB (l ++ l2) = true := by simp only [tailB, Bool.and_eq_true] at ht; exact ht.1.1
  have hguard : guardB l = true := by simp only [tailB, Bool.and_eq_true] at ht; exact ht.1.2
  intro fuel
  induction fuel with
  | zero =>
    intro listed rem hrem hs hnr hmem hhi hcl f w' hb hf
    have hr0 : rem = [] := List.eq_nil_of_length_eq_zero hrem
    have hal : ∀ i, i < l.length → listed.getD i false = true := by
      intro i hi
      rcases hc : listed.getD i false with _ | _
      · exfalso
        have : i ∈ rem := (hmem i).2 ⟨hi, by
          rw [Array.getD_eq_getD_getElem?] at hc ⊢
          rw [Array.getElem?_eq_getElem (by rw [hs, List.length_append]; omega)] at hc ⊢
          exact hc⟩
        rw [hr0] at this
        cases this
      · rfl
    rw [Nat.zero_add]
    refine lex_tail (l := l) hback hanc l2 l.length listed (Nat.le_refl _) (fun j => by rw [List.getElem?_append_right (by omega)]; congr 1; omega) (by simp) hs hal hhi ?_
    refine hQ f _ w' hal hb (postO_mk dl Φ fun i d hd => ?_)
    have hi : i < l.length := by
      have := (List.getElem?_eq_some_iff.1 hd).1
      rw [← hdl] at this
      simpa using this
    have := hf i hi (hal i hi)
    unfold factO valOf at this
    rw [hd] at this
    cases d <;> exact this
  | succ fuel ih =>
    intro listed rem hrem hs hnr hmem hhi hcl f w' hb hf
    rw [show fuel + 1 + l2.length = (fuel + l2.length) + 1 by omega]
    refine ⟨fun h => ?_, fun i hi => ?_⟩
    · exfalso
      -- the least one that has not come up may come up
      have hno : ∀ i, i < l.length → listed.getD i false = true := by
        intro i
        induction i using Nat.strongRecOn with
        | _ i ih =>
          intro hi
          rcases hc : listed.getD i false with _ | _
          · exfalso
            have hm : i ∈ Region.ready .any (l ++ l2).toArray listed := by
              rw [mem_ready]
              refine ⟨?_, l[i], by simp [List.getElem?_append_left hi, hi], fun e he hb => ?_⟩
              · rw [Array.getD_eq_getD_getElem?] at hc ⊢
                rw [Array.getElem?_eq_getElem (by rw [hs, List.length_append]; omega)] at hc ⊢
                exact hc
              · have := hed i l[i] (by simp [hi]) e he hb
                exact ih e.on this (by omega)
            rw [h] at hm
            cases hm
          · rfl
      obtain ⟨k, hk⟩ : ∃ k, k ∈ rem := by
        cases rem with
        | nil => simp at hrem
        | cons x _ => exact ⟨x, List.mem_cons_self ..⟩
      obtain ⟨hk1, hk2⟩ := (hmem k).1 hk
      have h1 := hno k hk1
      rw [Array.getD_eq_getD_getElem?, Array.getElem?_eq_getElem (by rw [hs, List.length_append]; omega)] at h1 hk2
      simp at h1 hk2
      rw [h1] at hk2
      cases hk2
    obtain ⟨hun, o, ho, hpre⟩ := mem_ready.1 hi
    have hil : i < l.length := by
      rcases Nat.lt_or_ge i l.length with h | h
      · exact h
      · exfalso
        have hall := hanc listed hcl i o (by simpa using ho) h hpre
        obtain ⟨k, hk⟩ : ∃ k, k ∈ rem := by
          cases rem with
          | nil => simp at hrem
          | cons x _ => exact ⟨x, List.mem_cons_self ..⟩
        obtain ⟨hk1, hk2⟩ := (hmem k).1 hk
        have h1 := hall k (by omega)
        rw [Array.getD_eq_getD_getElem?, Array.getElem?_eq_getElem (by rw [hs, List.length_append]; omega)] at h1 hk2
        simp at h1 hk2
        rw [h1] at hk2
        cases hk2
    have hol : l[i]? = some o := by
      have h1 : (l ++ l2)[i]? = some o := by simpa using ho
      rwa [List.getElem?_append_left hil] at h1
    have hcl2 : Closed (l ++ l2) (listed.setIfInBounds i true) := by
      intro k ok hok hlk e he hbd
      by_cases hki : k = i
      · subst hki
        have h1 : (l ++ l2)[k]? = some o := by simpa using ho
        rw [h1] at hok
        injection hok with hok
        subst hok
        have h2 := hpre e he hbd
        by_cases hei : e.on = k
        · rw [hei] at h2 ⊢; rw [Array.getD_eq_getD_getElem?, Array.getElem?_setIfInBounds_self_of_lt (by rw [hs, List.length_append]; omega)]; rfl
        · rw [getD_set_ne false (Ne.symm hei)]; exact h2
      · rw [getD_set_ne false (Ne.symm hki)] at hlk
        have h2 := hcl k ok hok hlk e he hbd
        by_cases hei : e.on = i
        · rw [hei, Array.getD_eq_getD_getElem?, Array.getElem?_setIfInBounds_self_of_lt (by rw [hs, List.length_append]; omega)]; rfl
        · rw [getD_set_ne false (Ne.symm hei)]; exact h2
    have hhi2 : ∀ k, l.length ≤ k → k < (l ++ l2).length → (listed.setIfInBounds i true).getD k false = false := by
      intro k h1 h2
      rw [getD_set_ne false (by omega)]
      exact hhi k h1 h2
    have hp : PreO dl Φ f o.after.toList := preO_mk _ fun e he hbd => by
      have he' : e ∈ o.after := by simpa using he
      have hlist := hpre e he' hbd
      exact hf e.on (Nat.lt_trans (hed i o hol e he' hbd) hil) hlist
    have huf : listed.getD i false = false := by
      rw [Array.getD_eq_getD_getElem?] at hun ⊢
      rw [Array.getElem?_eq_getElem (by rw [hs, List.length_append]; omega)] at hun ⊢
      exact hun
    have hone := hob i o hol f (fun s => listed.getD s false) w' hb huf (fun e he hbd => hpre e (by simpa using he) hbd) hp
    have hbs : (fun s => (listed.setIfInBounds i true).getD s false) = fun s => if s = i then true else listed.getD s false := by
      funext s
      by_cases hsi : s = i
      · subst hsi; rw [if_pos rfl, Array.getD_eq_getD_getElem?, Array.getElem?_setIfInBounds_self_of_lt (by rw [hs, List.length_append]; omega)]; rfl
      · rw [if_neg hsi, getD_set_ne false (fun e => hsi e.symm)]
    have hgd := yielded_iff2 l l2 dl hdl (dstsOf_ l) f a hlt (fun d hd => by
      rw [← hdl] at hd
      obtain ⟨oo, h1, h2⟩ := List.mem_map.1 hd
      exact List.mem_filterMap.2 ⟨oo, h1, h2⟩) o.guard o rfl (fun j b hg => guard_spec hguard hol j b hg)
    have hval : ∀ (d : Nat), o.dst = some d → ∀ v k, k ≠ i → valOf dl (fun t => if t = d then v else f t) k = valOf dl f k := by
      intro d hd v k hki
      unfold valOf
      rw [hdlg]
      cases hok : l[k]? with
      | none => rfl
      | some ok =>
        cases hdk : ok.dst with
        | none => simp [hdk]
        | some dk =>
          simp only [Option.map_some, hdk]
          rw [if_neg]
          intro e
          subst e
          have h3 : (dstsOf_ l).Nodup := hnd
          have : ∀ (m : List Oper) (x y : Nat) (ox oy : Oper), (m.filterMap (·.dst)).Nodup → m[x]? = some ox → m[y]? = some oy → ox.dst = some dk → oy.dst = some dk → x = y := by
            intro m
            induction m with
            | nil => intro x y ox oy _ hx; simp at hx
            | cons q m ihm =>
              intro x y ox oy hnd hx hy hdx hdy
              cases x with
              | zero =>
                cases y with
                | zero => rfl
                | succ y =>
                  exfalso
                  simp at hx hy
                  subst hx
                  simp only [List.filterMap_cons, hdx] at hnd
                  exact (List.nodup_cons.1 hnd).1 (List.mem_filterMap.2 ⟨oy, List.mem_of_getElem? hy, hdy⟩)
              | succ x =>
                cases y with
                | zero =>
                  exfalso
                  simp at hx hy
                  subst hy
                  simp only [List.filterMap_cons, hdy] at hnd
                  exact (List.nodup_cons.1 hnd).1 (List.mem_filterMap.2 ⟨ox, List.mem_of_getElem? hx, hdx⟩)
                | succ y =>
                  simp at hx hy
                  have : (m.filterMap (·.dst)).Nodup := by
                    simp only [List.filterMap_cons] at hnd
                    cases hq : q.dst with
                    | none => simpa [hq] using hnd
                    | some _ => simp only [hq] at hnd; exact (List.nodup_cons.1 hnd).2
                  rw [ihm x y ox oy this hx hy hdx hdy]
          exact hki (this l k i ok o h3 hok hol hdk hd)
    -- what follows once the value is there
    have hnext : ∀ v w'', J (fun s => if s = i then true else listed.getD s false) (fun s => if s = i then dstVal o.dst v else valOf dl f s) w'' → (Φ.getD i fun _ => True) (dstVal o.dst v) →
        wpAny P .any (l ++ l2).toArray Q (fuel + l2.length) (listed.setIfInBounds i true) ((fills (dstsOf_ l) f a).put o.dst v) w'' := by
      intro v w'' hb' hv
      have hrem' : (rem.erase i).length = fuel := by
        have : i ∈ rem := (hmem i).2 ⟨hil, hun⟩
        rw [List.length_erase_of_mem this]; omega
      have hmem' : ∀ k, k ∈ rem.erase i ↔ k < l.length ∧ (listed.setIfInBounds i true).getD k true = false := by
        intro k
        rw [hnr.mem_erase_iff, hmem]
        by_cases hk : k = i
        · subst hk
          simp only [ne_eq, not_true, false_and, false_iff, not_and]
          intro hk
          rw [Array.getD_eq_getD_getElem?, Array.getElem?_setIfInBounds_self_of_lt (by rw [hs, List.length_append]; omega)]
          simp
        · rw [getD_set_ne true (Ne.symm hk)]
          simp [hk]
      have hst : ∀ k, k < l.length → k ≠ i → (listed.setIfInBounds i true).getD k false = true → listed.getD k false = true := by
        intro k _ hk h
        rw [getD_set_ne false (Ne.symm hk)] at h
        exact h
      cases hd : o.dst with
      | none =>
        show wpAny P .any (l ++ l2).toArray Q (fuel + l2.length) _ (fills (dstsOf_ l) f a) w''
        refine ih _ (rem.erase i) hrem' (by simpa using hs) (hnr.erase i) hmem' hhi2 hcl2 f w'' ?_ fun k hk hl => ?_
        · have e : (fun s => if s = i then dstVal o.dst v else valOf dl f s) = valOf dl f := by
            funext s
            by_cases hsi : s = i
            · rw [if_pos hsi]
              subst hsi
              unfold valOf
              rw [hdlg, hol]
              simp only [Option.map_some, hd]
              rfl
            · rw [if_neg hsi]
          rw [e] at hb'
          rw [hbs]; exact hb'
        · by_cases hki : k = i
          · subst hki
            unfold factO valOf
            rw [hdlg, hol]
            simp only [Option.map_some, hd]
            simpa [hd] using hv
          · exact hf k hk (hst k hk hki hl)
      | some d =>
        have hdm : d ∈ dstsOf_ l := List.mem_filterMap.2 ⟨o, List.mem_of_getElem? hol, hd⟩
        rw [fills_put _ _ _ _ _ hdm]
        refine ih _ (rem.erase i) hrem' (by simpa using hs) (hnr.erase i) hmem' hhi2 hcl2 _ w'' ?_ fun k hk hl => ?_
        · have e : (fun s => if s = i then dstVal o.dst v else valOf dl f s) = valOf dl (fun t => if t = d then v else f t) := by
            funext s
            by_cases hsi : s = i
            · rw [if_pos hsi]
              subst hsi
              unfold valOf
              rw [hdlg, hol]
              simp only [Option.map_some, hd]
              simp
            · rw [if_neg hsi, hval d hd v s hsi]
          rw [e] at hb'
          rw [hbs]; exact hb'
        · by_cases hki : k = i
          · subst hki
            unfold factO valOf
            rw [hdlg, hol]
            simp only [Option.map_some, hd]
            simpa [hd] using hv
          · have h0 := hf k hk (hst k hk hki hl)
            unfold factO at h0 ⊢
            rw [hval d hd v k hki]
            exact h0
    unfold wpOp
    simp only [ho]
    by_cases hw : Region.wanted o (yielded (l ++ l2).toArray (fills (dstsOf_ l) f a).tmps) = true
    · replace hone := hone.1 (hgd.1 hw)
      simp only [hw, if_true]
      left
      unfold Oper.wp
      rw [evalF_fills f hlt]
      generalize (execOp (evalF (dstsOf_ l) f a) o).run P w' = r at *
      cases r with
      | ok n w'' =>
        cases n <;> simp only [mildM] at hone <;> simp only [Oper.upon]
        case value u => exact hnext u _ hone.2 hone.1
        case enter f' args =>
          refine hone.mono ?_
          rintro e w3 ⟨v, rfl, hv, hj⟩
          exact hnext v w3 hj hv
      | halt x w'' => simp only [mildM] at hone
    · replace hone := hone.2 (fun h => hw (hgd.2 h))
      simp only [hw]
      refine hnext undef w' ?_ ?_
      · have := hone.2
        cases hd : o.dst <;> exact this
      · cases o.dst <;> exact hone.1

/-- THE LAW: n operations, of which some change the world, then the end. -/
theorem wp_region_mixI {id : Nat} {L : List Oper} {ds : List Nat} (n : Nat) (J : (Nat → Bool) → (Nat → Value) → World → Prop) (dl : List (Option Nat)) (Φ : List (Value → Prop)) (hdl : (L.take n).map (·.dst) = dl) (hds : dstsOf_ (L.take n) = ds) (hm : P.follows .mixedOrders = true)
    (hn : typedB (L.take n) a.tmps.size = true) (ht : tailB (L.take n) (L.drop n) = true) (hob : ∀ (i : Nat) (o : Oper), (L.take n)[i]? = some o → ObM P dl Φ ds a J i (Φ.getD i fun _ => True) o) (h0 : J (fun _ => false) (valOf dl fun t => a.tmps.getD t undef) w.drew)
    (hQ : ∀ f b w', (∀ i, i < (L.take n).length → b i = true) → J b (valOf dl f) w' → PostO f dl Φ → wpList P L.toArray Q (L.drop n) (fills ds f a) w') : (Code.region id L.toArray true).wp P Q a w := by
  subst hds
  refine wp_region_any hm ?_
  have hL : L.take n ++ L.drop n = L := List.take_append_drop n L
  have hf0 : (fun s => (Array.replicate L.length false).getD s false) = fun _ => false := by
    funext s
    rw [Array.getD_eq_getD_getElem?, Array.getElem?_replicate]; split <;> rfl
  have := mix_aux (l2 := L.drop n) hdl hn ht hob (by rw [hL]; exact hQ) (L.take n).length (Array.replicate L.length false) (List.range (L.take n).length) (by simp) (by rw [hL]; simp) List.nodup_range (by
    intro i
    simp only [List.mem_range, Array.getD_eq_getD_getElem?]
    constructor
    · intro h; exact ⟨h, by
        have : i < L.length := by rw [List.length_take] at h; omega
        simp [this]⟩
    · exact fun h => h.1) (by
    intro i _ hi
    rw [hL] at hi
    simp [Array.getD_eq_getD_getElem?, hi]) (by
    intro i o _ hl
    exfalso
    simp [Array.getD_eq_getD_getElem?, Array.getElem?_replicate] at hl
    split at hl <;> simp at hl) (fun t => a.tmps.getD t undef) { w with drawn := w.drawn + 1 } (by rw [hf0]; exact h0) (by
    intro i hi h
    exfalso
    simp [Array.getD_eq_getD_getElem?, Array.getElem?_replicate] at h
    split at h <;> simp at h)
  rw [fills_self, hL] at this
  have hlen : (L.take n).length + (L.drop n).length = L.toArray.size := by rw [← List.length_append, hL]; simp
  rw [hlen] at this
  exact this
theorem wp_region_mix {id : Nat} {L : List Oper} {ds : List Nat} (n : Nat) (J : (Nat → Bool) → (Nat → Value) → World → Prop) (dl : List (Option Nat)) (Φ : List (Value → Prop)) (hdl : (L.take n).map (·.dst) = dl) (hds : dstsOf_ (L.take n) = ds) (hm : P.follows .mixedOrders = true)
    (hn : typedB (L.take n) a.tmps.size = true) (ht : tailB (L.take n) (L.drop n) = true) (hob : ∀ (i : Nat) (o : Oper), (L.take n)[i]? = some o → ObM P dl Φ ds a J i (Φ.getD i fun _ => True) o) (h0 : ∀ v, J (fun _ => false) v w.drew)
    (hQ : ∀ f b w', (∀ i, i < (L.take n).length → b i = true) → J b (valOf dl f) w' → PostO f dl Φ → wpList P L.toArray Q (L.drop n) (fills ds f a) w') : (Code.region id L.toArray true).wp P Q a w := 
  wp_region_mixI n J dl Φ hdl hds hm hn ht hob (h0 _) hQ
end

/-! ### one by one -/
def ObMAll (P : Program) (dl : List (Option Nat)) (Φ : List (Value → Prop)) (ds : List Nat) (a : Act) (J : (Nat → Bool) → (Nat → Value) → World → Prop) : Nat → List Oper → List (Value → Prop) → Prop
  | _, [], _ => True
  | _, _ :: _, [] => False
  | i, o :: os, ph :: phs => ObM P dl Φ ds a J i ph o ∧ ObMAll P dl Φ ds a J (i + 1) os phs
theorem obMAll_get {P : Program} {dl : List (Option Nat)} {Φ : List (Value → Prop)} {ds : List Nat} {a : Act} {J : (Nat → Bool) → (Nat → Value) → World → Prop} : ∀ (os : List Oper) (phs : List (Value → Prop)) (k : Nat), ObMAll P dl Φ ds a J k os phs →
    ∀ (i : Nat) (o : Oper), os[i]? = some o → ObM P dl Φ ds a J (k + i) (phs.getD i fun _ => True) o
  | [], _, _, _ => fun i o h => by simp at h
  | _ :: _, [], _, h => h.elim
  | x :: os, ph :: phs, k, h => fun i o ho => by
    cases i with
    | zero => obtain rfl : x = o := by simpa using ho
              exact h.1
    | succ i =>
      have := obMAll_get os phs (k + 1) h.2 i o (by simpa using ho)
      rw [show k + (i + 1) = k + 1 + i by omega]
      simpa using this
section
variable {P : Program} {dl : List (Option Nat)} {Φ : List (Value → Prop)} {ds : List Nat} {a : Act} {w : World} {i : Nat} {J : (Nat → Bool) → (Nat → Value) → World → Prop} {ph : Value → Prop} {o : Oper}
theorem obM_yes (h : ∀ f b w', J b (valOf dl f) w' → b i = false → (∀ e ∈ o.after.toList, Region.binds .any e = true → b e.on = true) → PreO dl Φ f o.after.toList → Gd dl f o.guard ∧ mildM P o.dst ph i J b (valOf dl f) ((execOp (evalF ds f a) o).run P w')) : ObM P dl Φ ds a J i ph o := by
  intro f b w' h1 h2 h3 h4
  have := h f b w' h1 h2 h3 h4
  exact ⟨fun _ => this.2, fun hn => absurd this.1 hn⟩
theorem mildM_val {d : Option Nat} {q : Value → Prop} {r : Result Next} {w' : World} {b : Nat → Bool} {vs : Nat → Value} (u : Value) (hr : r = .ok (.value u) w') (hq : q (dstVal d u)) (hj : J (fun s => if s = i then true else b s) (fun s => if s = i then dstVal d u else vs s) w') : mildM P d q i J b vs r := by
  subst hr
  exact ⟨hq, hj⟩
theorem mildM_ex {d : Option Nat} {q : Value → Prop} {r : Result Next} {b : Nat → Bool} {vs : Nat → Value} {A B : Value → World → Prop} (hr : ∃ v' w3, r = .ok (.value v') w3 ∧ A v' w3 ∧ B v' w3)
    (h : ∀ v' w3, A v' w3 → B v' w3 → q (dstVal d v') ∧ J (fun s => if s = i then true else b s) (fun s => if s = i then dstVal d v' else vs s) w3) : mildM P d q i J b vs r := by
  obtain ⟨v', w3, rfl, h1, h2⟩ := hr
  exact h v' w3 h1 h2
end
theorem wp_region_mixL {P : Program} {a : Act} {w : World} {Q : Exit → Act → World → Prop} {id : Nat} {L : List Oper} {ds : List Nat} (n : Nat) (J : (Nat → Bool) → (Nat → Value) → World → Prop) (dl : List (Option Nat)) (Φ : List (Value → Prop)) (hdl : (L.take n).map (·.dst) = dl) (hds : dstsOf_ (L.take n) = ds) (hm : P.follows .mixedOrders = true)
    (hn : typedB (L.take n) a.tmps.size = true) (ht : tailB (L.take n) (L.drop n) = true) (hob : ObMAll P dl Φ ds a J 0 (L.take n) Φ) (h0 : ∀ v, J (fun _ => false) v w.drew)
    (hQ : ∀ f b w', (∀ i, i < (L.take n).length → b i = true) → J b (valOf dl f) w' → PostO f dl Φ → wpList P L.toArray Q (L.drop n) (fills ds f a) w') : (Code.region id L.toArray true).wp P Q a w :=
  wp_region_mix n J dl Φ hdl hds hm hn ht (fun i o ho => by simpa using obMAll_get _ _ 0 hob i o ho) h0 hQ
theorem wp_region_mixLI {P : Program} {a : Act} {w : World} {Q : Exit → Act → World → Prop} {id : Nat} {L : List Oper} {ds : List Nat} (n : Nat) (J : (Nat → Bool) → (Nat → Value) → World → Prop) (dl : List (Option Nat)) (Φ : List (Value → Prop)) (hdl : (L.take n).map (·.dst) = dl) (hds : dstsOf_ (L.take n) = ds) (hm : P.follows .mixedOrders = true)
    (hn : typedB (L.take n) a.tmps.size = true) (ht : tailB (L.take n) (L.drop n) = true) (hob : ObMAll P dl Φ ds a J 0 (L.take n) Φ) (h0 : J (fun _ => false) (valOf dl fun t => a.tmps.getD t undef) w.drew)
    (hQ : ∀ f b w', (∀ i, i < (L.take n).length → b i = true) → J b (valOf dl f) w' → PostO f dl Φ → wpList P L.toArray Q (L.drop n) (fills ds f a) w') : (Code.region id L.toArray true).wp P Q a w :=
  wp_region_mixI n J dl Φ hdl hds hm hn ht (fun i o ho => by simpa using obMAll_get _ _ 0 hob i o ho) h0 hQ
end Go.Proofs.Ythfnikdapknohaa

namespace Go.Proofs.Ythfnikdapknohaa
set_option linter.unusedSimpArgs false
set_option linter.unusedVariables false
open Go.RowKit

theorem mildM_call {P : Program} {i : Nat} {J : (Nat → Bool) → (Nat → Value) → World → Prop} {d : Option Nat} {q : Value → Prop} {w' : World} {b : Nat → Bool} {vs : Nat → Value} {ρ : Operand → Value} (f : Nat) (args : Array Operand) (ts : Array TypeId) (fn : Func) (hf : P.funcs[f]? = some fn) (hn : (fn.name == "runtime.NumGoroutine") = false) (hb : fn.body.isNone = false)
    {t : TypeId} {pos : String} {af : Array Edge} {g : Option (Nat × Bool)} (hρ : ρ (.func f) = .func (.func f) #[] #[])
    (h : Calls P f (args.map ρ) w' (fun e w'' => ∃ v, e = .returned v ∧ q (dstVal d v) ∧ J (fun s => if s = i then true else b s) (fun s => if s = i then dstVal d v else vs s) w'')) :
    mildM P d q i J b vs ((execOp ρ { dst := d, op := .call { callee := .value (.func f), args := args, argTypes := ts }, type := t, pos := pos, after := af, guard := g }).run P w') := by
  have hr : (execOp ρ { dst := d, op := .call { callee := .value (.func f), args := args, argTypes := ts }, type := t, pos := pos, after := af, guard := g }).run P w' = .ok (.enter f (args.map ρ)) w' := by
    simp [execOp, resolve, hρ, Deferred.ofValue, invoke, callFunc, hf]
    rw [if_neg (by simpa using hn), if_neg (by intro h; simp [h] at hb)]
  rw [hr]
  exact h
theorem calls_args {P : Program} {f : Nat} {args args' : Array Value} {w : World} {Q : Ending → World → Prop} (h : args = args') (k : Calls P f args' w Q) : Calls P f args w Q := h ▸ k
end Go.Proofs.Ythfnikdapknohaa

namespace Go.Proofs.Ythfnikdapknohaa
set_option linter.unusedSimpArgs false
set_option linter.unusedVariables false
open Go.RowKit

/-- append(s, x...), s the call's own, x any readable row -/
theorem exec_appR {α : Type} {E : TypeId} {C : Cdc α} {w : World} {base : Nat} {O S : Nat → Prop} {v : Value} {xs : List α} {o : Oper} {ρ : Operand → Value} (s x : Operand) (t : TypeId)
    (ho : o.op = .call { callee := .builtin .append, args := #[s, x], argTypes := #[t, t] })
    (ht : Try.prog.underlying t = some (.slice E)) {z : Value} {bytes : Nat} (hinfo : (Try.prog.info? E).map (fun i => (i.zero, i.size, i.bytes)) = some (some z, C.n, bytes)) (hz2 : z.cells.size = C.n) (hn0 : 0 < C.n) (hb0 : bytes ≤ 256)
    {v2 : Value} {ys : List α} (hown : OwnR E C w base S v xs) (hrd : RowOn C w O S v2 ys) (hs : ρ s = v) (hx : ρ x = v2)
    (hsz : xs.length + ys.length ≤ 549755813888) (hbase : base ≤ w.heap.size) : ∃ v' w', (execOp ρ o).run Try.prog w = .ok (.value v') w' ∧ OwnR E C w' base S v' (xs ++ ys) ∧ Ext w w' v v' := by
  obtain ⟨i, hi, hz0, hz1, hby⟩ := info_parts hinfo
  obtain ⟨css, hl, h2, h3, h4⟩ := hown
  have hcl := OwnR.clen hl h3
  obtain ⟨A, c, rfl, hc1, hc2, hcell⟩ := hrd
  -- the cells of the source
  obtain ⟨dss, hdl, hd3, hdr⟩ : ∃ dss : List (List Value), dss.length = ys.length ∧ (∀ (i : Nat) (cs : List Value) (y : α), dss[i]? = some cs → ys[i]? = some y → C.at_ w S cs y) ∧
      ∃ B, Rd w B C.n A ys.length dss.flatten := by
    rcases Nat.eq_zero_or_pos ys.length with h0 | h0
    · have : ys = [] := List.eq_nil_of_length_eq_zero h0
      subst this
      exact ⟨[], rfl, fun i cs y h => by simp at h, 0, by simp [Rd]⟩
    · obtain ⟨ad, rfl, _, hc⟩ := hcell h0
      have hex : ∀ i : Fin ys.length, ∃ cs, C.at_ w S cs (ys[i.1]'i.2) ∧ ∀ (j : Nat) (u : Value), cs[j]? = some u → w.cell? (ad.add (i.1 * C.n + j)) = some u := fun i => hc i.1 _ (List.getElem?_eq_getElem i.2)
      refine ⟨List.ofFn fun i => (hex i).choose, by simp, ?_, ad.block + 1, ?_⟩
      · intro i cs y hcs hy
        obtain ⟨hi', rfl⟩ := List.getElem?_eq_some_iff.1 hy
        rw [List.getElem?_ofFn, dif_pos hi'] at hcs
        injection hcs with hcs
        rw [← hcs]
        exact (hex ⟨i, hi'⟩).choose_spec.1
      · have hcl2 : ∀ cs ∈ (List.ofFn fun i => (hex i).choose), cs.length = C.n := by
          intro cs hcs
          obtain ⟨i, rfl⟩ := List.mem_ofFn.1 hcs
          exact C.len (hex i).choose_spec.1
        refine ⟨by rw [flat_len C.n _ hcl2]; simp, fun _ => ⟨ad, rfl, Nat.lt_succ_self _, fun j u hu => ?_⟩⟩
        have hj : j < ys.length * C.n := by
          have := (List.getElem?_eq_some_iff.1 hu).1
          rw [flat_len C.n _ hcl2] at this
          simpa using this
        have hi' : j / C.n < ys.length := Nat.div_lt_of_lt_mul (by rw [Nat.mul_comm]; exact hj)
        have hj2 : j % C.n < C.n := Nat.mod_lt _ hn0
        have hdm : j / C.n * C.n + j % C.n = j := by rw [Nat.mul_comm]; exact Nat.div_add_mod j C.n
        have := flat_get C.n _ hcl2 (j / C.n) (hex ⟨j / C.n, hi'⟩).choose (j % C.n) (by rw [List.getElem?_ofFn, dif_pos hi']) hj2
        rw [hdm, hu] at this
        have := (hex ⟨j / C.n, hi'⟩).choose_spec.2 (j % C.n) u this.symm
        rwa [hdm] at this
  obtain ⟨B, hrd⟩ := hdr
  have hcl2 := OwnR.clen hdl hd3
  obtain ⟨v', w', hr, g2, g3, g5⟩ := run_append_rd (P := Try.prog) w base t o.type E i z C.n bytes ht hi hz0 hz1 hby hz2 hn0 v xs.length css.flatten h2 B A ys.length c dss.flatten hrd (by
      intro u hu
      obtain ⟨cs, hcs, hu⟩ := List.mem_flatten.1 hu
      obtain ⟨i, hi', rfl⟩ := List.mem_iff_getElem.1 hcs
      exact C.one (hd3 i _ (ys[i]'(by omega)) (List.getElem?_eq_getElem hi') (List.getElem?_eq_getElem (by omega))) u hu)
    (by unfold maxLen; omega) (by
      calc (xs.length + ys.length) * bytes ≤ 549755813888 * 256 := Nat.mul_le_mul hsz hb0
        _ ≤ _ := by decide) hbase
  have hSame : ∀ p : Addr, S p.block → w'.cell? p = w.cell? p := fun p hp => World.cell?_of_block (g3.block p.block (h4 _ hp).1 (fun e => (h4 _ hp).2 e.symm))
  refine ⟨v', w', ?_, ⟨css ++ dss, by simp [hl, hdl], by rw [List.length_append, List.flatten_append]; exact g2, ?_, ?_⟩, ⟨g3, ?_⟩⟩
  · unfold execOp
    simp only [ho, resolve, invoke, builtin, Sem.run_bind, Sem.run_pure, Result.andThen_ok, List.map_toArray, List.map_cons, List.map_nil, hs, hx, hr]
  · intro j cs x hc hx'
    refine C.keep ?_ hSame
    rcases Nat.lt_or_ge j xs.length with hj | hj
    · rw [List.getElem?_append_left (by omega)] at hc
      rw [List.getElem?_append_left hj] at hx'
      exact h3 j cs x hc hx'
    · rw [List.getElem?_append_right (by omega)] at hc
      rw [List.getElem?_append_right hj, ← hl] at hx'
      exact hd3 _ cs x hc hx'
  · intro k hk
    refine ⟨Nat.lt_of_lt_of_le (h4 k hk).1 g3.size, ?_⟩
    rcases g5 with g5 | g5
    · rw [g5]; exact (h4 k hk).2
    · rw [g5]; intro e; injection e with e; have := (h4 k hk).1; omega
  · rcases g5 with g5 | g5
    · exact .inl g5
    · exact .inr fun k hk => by rw [g5] at hk; injection hk with hk; omega

/-- append(s, y), one thing -/
theorem exec_app1R {α : Type} {E : TypeId} {C : Cdc α} {S : Nat → Prop} {o : Oper} {ρ : Operand → Value} {w : World} (s x : Operand) (t : TypeId)
    (ho : o.op = .call { callee := .builtin .append, args := #[s, x], argTypes := #[t, t] })
    (ht : Try.prog.underlying t = some (.slice E)) {z : Value} {bytes : Nat} (hinfo : (Try.prog.info? E).map (fun i => (i.zero, i.size, i.bytes)) = some (some z, C.n, bytes)) (hz2 : z.cells.size = C.n) (hn0 : 0 < C.n) (hb0 : bytes ≤ 256)
    {base : Nat} {v : Value} {xs : List α} {y : α} (cs : List Value) (hown : OwnR E C w base S v xs) (hy : C.at_ w S cs y) (hs : ρ s = v) (hx : ρ x = .slice (some ⟨w.heap.size, 0, none⟩) 1 1)
    (hsz : xs.length ≤ 549755813887) (hbase : base ≤ w.heap.size) : ∃ v' w', (execOp ρ o).run Try.prog (w.alloc (.cells cs.toArray E)) = .ok (.value v') w' ∧ OwnR E C w' base S v' (xs ++ [y]) ∧ Ext w w' v v' := by
  have hS : ∀ k, S k → k < w.heap.size := by obtain ⟨_, _, _, _, h4⟩ := hown; exact fun k hk => (h4 k hk).1
  have hrow : RowOn C (w.alloc (.cells cs.toArray E)) (fun k => k < w.heap.size + 1) S (.slice (some ⟨w.heap.size, 0, none⟩) 1 1) [y] := by
    refine ⟨_, 1, rfl, Nat.le_refl _, by simp [maxLen], fun _ => ⟨_, rfl, Nat.lt_succ_self _, fun i y' hi => ?_⟩⟩
    match i, hi with
    | 0, hi =>
      injection hi with hi
      subst hi
      refine ⟨cs, C.keep hy fun p hp => World.cell?_alloc_lt w _ p (hS _ hp), fun j u hu => ?_⟩
      rw [Nat.zero_mul, Nat.zero_add]
      exact World.news_of_block (heap_alloc_new w _) j u (by simpa using hu)
    | i + 1, hi => simp at hi
  obtain ⟨v', w', hr, h1, h2⟩ := exec_appR s x t ho ht hinfo hz2 hn0 hb0 (hown.alloc _) hrow hs hx (by simp; omega) (by simp; omega)
  exact ⟨v', w', hr, h1, h2.after (balloc w _) v rfl⟩
/-- a row of bytes, as an array's cells -/
theorem rowOn_load {w : World} {O S : Nat → Prop} {ad : Addr} {n c : Nat} {l : List UInt8} (h : RowOn c8 w O S (.slice (some ad) n c) l) : ∀ (j : Nat) (v : Value), (b8s l)[j]? = some v → w.cell? (ad.add j) = some v := by
  intro j v hv
  have hv' : (l[j]?).map b8 = some v := by rw [← hv]; simp [b8s]
  obtain ⟨x, hx, rfl⟩ := Option.map_eq_some_iff.1 hv'
  obtain ⟨ad', cs, e, _, ⟨rfl, _⟩, hc⟩ := h.at_ j x hx
  injection e with e
  subst e
  have := hc 0 _ rfl
  simpa [c8, Cdc.flat] using this
end Go.Proofs.Ythfnikdapknohaa

namespace Go.Proofs.Ythfnikdapknohaa
set_option linter.unusedSimpArgs false
set_option linter.unusedVariables false
open Go.RowKit

abbrev Blk := {l : List UInt8 // l.length = 128}
def flatB (bl : List Blk) : List Value := (bl.map fun b => b8s b.1).flatten
theorem blk_len (b : Blk) : (b8s b.1).length = 128 := by simp [b8s, b.2]
theorem flatB_len (bl : List Blk) : (flatB bl).length = bl.length * 128 := by
  unfold flatB
  rw [flat_len 128 _ (by intro cs hcs; obtain ⟨b, _, rfl⟩ := List.mem_map.1 hcs; exact blk_len b)]
  simp
theorem flatB_at (bl : List Blk) (i j : Nat) (hi : i < bl.length) (hj : j < 128) : (flatB bl)[i * 128 + j]? = (b8s (bl[i]).1)[j]? := by
  unfold flatB
  exact flat_get 128 _ (by intro cs hcs; obtain ⟨b, _, rfl⟩ := List.mem_map.1 hcs; exact blk_len b) i _ j (by rw [List.getElem?_map, List.getElem?_eq_getElem hi]; rfl) hj
/-- bytes laid over a block from o on -/
def over (b : Blk) (o : Nat) (us : List UInt8) : Blk := if h : o + us.length ≤ 128 then ⟨b.1.take o ++ us ++ b.1.drop (o + us.length), by have := b.2; simp; omega⟩ else b
theorem over_get (b : Blk) (o : Nat) (us : List UInt8) (h : o + us.length ≤ 128) (k : Nat) : (over b o us).1[k]? = if o ≤ k ∧ k < o + us.length then us[k - o]? else b.1[k]? := by
  have hb := b.2
  unfold over
  rw [dif_pos h]
  simp only [List.append_assoc]
  rw [List.getElem?_append, List.length_take, Nat.min_eq_left (by omega)]
  split
  · rw [if_neg (by omega), List.getElem?_take, if_pos (by assumption)]
  · rw [List.getElem?_append]
    split
    · rw [if_pos (by omega)]
    · rw [if_neg (by omega), List.getElem?_drop]
      congr 1
      omega
theorem b8s_opt (l : List UInt8) (k : Nat) : (b8s l)[k]? = (l[k]?).map b8 := by simp [b8s]
theorem flatB_puts (bl : List Blk) (i o : Nat) (us : List UInt8) (hi : i < bl.length) (h : o + us.length ≤ 128) : puts (flatB bl) (i * 128 + o) (b8s us) = flatB (bl.set i (over (bl[i]) o us)) := by
  have hl : (b8s us).length = us.length := by simp [b8s]
  have hm : i * 128 + 128 ≤ bl.length * 128 := by omega
  apply List.ext_getElem?
  intro k
  rw [puts_get _ _ _ _ (by rw [hl, flatB_len]; omega), hl]
  by_cases hk : k < bl.length * 128
  · obtain ⟨q, r, hr, rfl⟩ : ∃ q r, r < 128 ∧ k = q * 128 + r := ⟨k / 128, k % 128, Nat.mod_lt _ (by decide), by omega⟩
    have hq : q < bl.length := by omega
    rw [flatB_at (bl.set i _) q r (by simpa using hq) hr, flatB_at bl q r hq hr, b8s_opt, b8s_opt, b8s_opt]
    by_cases hqi : q = i
    · subst hqi
      rw [List.getElem_set_self, over_get _ _ _ h]
      by_cases hc : o ≤ r ∧ r < o + us.length
      · rw [if_pos (by omega), if_pos hc]
        congr 2
        omega
      · rw [if_neg (by omega), if_neg hc]
    · rw [List.getElem_set_ne (by omega), if_neg (by omega)]
  · rw [if_neg (by omega), List.getElem?_eq_none (by rw [flatB_len]; omega), List.getElem?_eq_none (by rw [flatB_len]; simp; omega)]
theorem over_all (b c : Blk) : over b 0 c.1 = c := by
  apply Subtype.ext
  apply List.ext_getElem?
  intro k
  rw [over_get _ _ _ (by rw [c.2]; decide)]
  have h1 := b.2
  have h2 := c.2
  by_cases hk : k < 128
  · rw [if_pos (by omega)]; rfl
  · rw [if_neg (by omega), List.getElem?_eq_none (by omega), List.getElem?_eq_none (by omega)]

abbrev Wt := Nat × Blk
def cWt : Cdc Wt := Cdc.flat 129 (fun x => .int .i64 (x.1 : Int) :: b8s x.2.1) (fun _ => True) (fun x => by simp [b8s, x.2.2]) (fun x u hu => by
  rcases List.mem_cons.1 hu with rfl | hu
  · rfl
  · obtain ⟨b, _, rfl⟩ := List.mem_map.1 hu; rfl)

structure DState where
  bl : List Blk
  wt : List Wt
  off : Bool
  fuse : Int
theorem OwnF.kept {α : Type} {E : TypeId} {C : Cdc α} {w w' : World} {base : Nat} {v : Value} {xs : List α} (h : OwnF E C w base v xs) (hk : ∀ q, v.ownBlock = some q → w'.heap[q]? = w.heap[q]?) : OwnF E C w' base v xs := by
  obtain ⟨css, hl, ⟨h1, h2⟩, h3, h4⟩ := h
  refine ⟨css, hl, ⟨h1, ?_⟩, fun i cs x hc hx => C.keep (h3 i cs x hc hx) fun p hp => hp.elim, fun k hk => hk.elim⟩
  rcases h2 with h2 | ⟨g, cap, cur, e, hg, hh, r⟩
  · exact .inl h2
  · subst e
    exact .inr ⟨g, cap, cur, rfl, hg, (hk g rfl).trans hh, r⟩
end Go.Proofs.Ythfnikdapknohaa

namespace Go.Proofs.Ythfnikdapknohaa
set_option linter.unusedSimpArgs false
set_option linter.unusedVariables false

def mayE (d : DState) (i : Int) : Int := if d.off = true then 6 else if 0 ≤ i ∧ i < (d.bl.length : Int) then 0 else 9
def deedE (d : DState) : Int := if d.fuse = 0 then 6 else 0
def deedD (d : DState) : DState := if d.fuse = 0 then { d with off := true } else if 0 < d.fuse then { d with fuse := d.fuse - 1 } else d
def writeE (d : DState) (i : Int) (b : List UInt8) : Int := if mayE d i ≠ 0 then mayE d i else if b.length ≠ 128 then 3 else deedE d
def writeD (d : DState) (i : Int) (b : List UInt8) : DState :=
  if mayE d i ≠ 0 then d else if h : b.length = 128 then (if deedE d ≠ 0 then deedD d else { deedD d with wt := d.wt ++ [(i.toNat, ⟨b, h⟩)] }) else d
def lastW (wt : List Wt) (i : Nat) (b : Blk) : Blk := wt.foldl (fun b x => if x.1 = i then x.2 else b) b
def zeroB : Blk := ⟨List.replicate 128 0, by simp⟩
def readB (d : DState) (i : Nat) : Blk := lastW d.wt i (d.bl.getD i zeroB)
def readL (d : DState) (i : Int) : List UInt8 := if mayE d i ≠ 0 then [] else (readB d i.toNat).1
def syncBl (wt : List Wt) (bl : List Blk) : List Blk := wt.foldl (fun bl x => bl.set x.1 x.2) bl
def syncE (d : DState) : Int := if d.off = true then 6 else deedE d
def syncD (d : DState) : DState := if d.off = true then d else if deedE d ≠ 0 then deedD d else { deedD d with bl := syncBl d.wt d.bl, wt := [] }
def bitAt (n k : Nat) : Bool := n.testBit (k % 64)
def backStep (keep torn k : Nat) (x : Wt) (bl : List Blk) : List Blk := if bitAt keep k = true then bl.set x.1 x.2 else if bitAt torn k = true then bl.set x.1 (over (bl.getD x.1 zeroB) 0 (x.2.1.take 64)) else bl
def backBl (keep torn : Nat) : Nat → List Wt → List Blk → List Blk
  | _, [], bl => bl
  | k, x :: t, bl => backBl keep torn (k + 1) t (backStep keep torn k x bl)
def backD (d : DState) (keep torn : Nat) : DState := { bl := backBl keep torn 0 d.wt d.bl, wt := [], off := false, fuse := -1 }
def spoilE (d : DState) (i at_ : Int) : Int := if 0 ≤ i ∧ i < (d.bl.length : Int) ∧ 0 ≤ at_ ∧ at_ < 128 then 0 else 9
def spoilD (d : DState) (i at_ : Int) (c : UInt8) : DState := if spoilE d i at_ ≠ 0 then d else { d with bl := d.bl.set i.toNat (over (d.bl.getD i.toNat zeroB) at_.toNat [(d.bl.getD i.toNat zeroB).1.getD at_.toNat 0 ^^^ c]) }
theorem syncBl_len (wt : List Wt) : ∀ bl, (syncBl wt bl).length = bl.length := by
  induction wt with
  | nil => intro bl; rfl
  | cons x t ih => intro bl; show (syncBl t _).length = _; rw [ih]; simp
theorem backStep_len (keep torn k : Nat) (x : Wt) (bl : List Blk) : (backStep keep torn k x bl).length = bl.length := by unfold backStep; split <;> (try split) <;> simp
theorem backBl_len (keep torn : Nat) (wt : List Wt) : ∀ k bl, (backBl keep torn k wt bl).length = bl.length := by
  induction wt with
  | nil => intro k bl; rfl
  | cons x t ih => intro k bl; rw [backBl, ih, backStep_len]
theorem syncBl_snoc (wt : List Wt) (x : Wt) (bl : List Blk) : syncBl (wt ++ [x]) bl = (syncBl wt bl).set x.1 x.2 := by simp [syncBl]
theorem backBl_snoc (keep torn : Nat) (wt : List Wt) (x : Wt) : ∀ k bl, backBl keep torn k (wt ++ [x]) bl = backStep keep torn (k + wt.length) x (backBl keep torn k wt bl) := by
  induction wt with
  | nil => intro k bl; rfl
  | cons y t ih => intro k bl; rw [List.cons_append, backBl, ih, backBl]; congr 1; simp; omega
theorem deedD_bl (d : DState) : (deedD d).bl = d.bl := by unfold deedD; split <;> (try split) <;> rfl
theorem deedD_wt (d : DState) : (deedD d).wt = d.wt := by unfold deedD; split <;> (try split) <;> rfl
end Go.Proofs.Ythfnikdapknohaa

namespace Go.Proofs.Ythfnikdapknohaa
set_option linter.unusedSimpArgs false
set_option linter.unusedVariables false
open Go.RowKit

abbrev dptr (g : Nat) : Value := .pointer (some ⟨g, 0, none⟩)
end Go.Proofs.Ythfnikdapknohaa

namespace Go.Proofs.Ythfnikdapknohaa
set_option linter.unusedSimpArgs false
set_option linter.unusedVariables false
open Go.RowKit

theorem fill_whole (n : Nat) (cells : Array Value) (cs : List Value) (hc : cells.size = n) (hn : cs.length = n) : Instr.fill (fun i => some (i * n, n)) cells [(0, .agg cs.toArray)] = some cs.toArray := by
  obtain ⟨g1, g2⟩ := Go.Great.foldl_set (0 * n) cs 0 cells
  unfold Instr.fill
  simp only [Value.cells, List.size_toArray, hn]
  rw [if_neg (by simp; omega)]
  unfold Instr.fill
  congr 1
  apply Array.ext_getElem?
  intro k
  have := g2 k
  have e : (cs.toArray.zipIdx.foldl (fun cs (x : Value × Nat) => cs.setIfInBounds (0 * n + x.2) x.1) cells) = (List.foldl (fun cs (x : Value × Nat) => cs.setIfInBounds (0 * n + x.2) x.1) cells (cs.zipIdx 0)) := by simp
  show (cs.toArray.zipIdx.foldl (fun cs (x : Value × Nat) => cs.setIfInBounds (0 * n + x.2) x.1) cells)[k]? = _
  rw [e, this]
  simp only [Nat.zero_mul, Nat.zero_add, Nat.sub_zero, Nat.zero_le, true_and, List.getElem?_toArray]
  split
  · rfl
  · rw [List.getElem?_eq_none (by omega), Array.getElem?_eq_none (by omega)]
theorem fill_two (n : Nat) (place : Nat → Option (Nat × Nat)) (h0 : place 0 = some (0, 1)) (h1 : place 1 = some (1, n)) (cells : Array Value) (a : Value) (ha : a.cells = #[a]) (cs : List Value) (hc : cells.size = n + 1) (hn : cs.length = n) :
    Instr.fill place cells [(0, a), (1, .agg cs.toArray)] = some (a :: cs).toArray := by
  obtain ⟨g1, g2⟩ := Go.Great.foldl_set 1 cs 0 (cells.setIfInBounds 0 a)
  have hz : (cells.setIfInBounds 0 a).size = n + 1 := by rw [Array.size_setIfInBounds, hc]
  unfold Instr.fill
  simp only [h0, ha, List.size_toArray, List.length_cons, List.length_nil]
  rw [if_neg (by rw [hc]; simp)]
  unfold Instr.fill
  simp only [h1, Value.cells, List.size_toArray, hn]
  rw [if_neg (by simp; omega)]
  unfold Instr.fill
  congr 1
  apply Array.ext_getElem?
  intro k
  have := g2 k
  have e : (cs.toArray.zipIdx.foldl (fun cs (x : Value × Nat) => cs.setIfInBounds (1 + x.2) x.1) (Array.foldl (fun cs (x : Value × Nat) => cs.setIfInBounds (0 + x.2) x.1) cells #[a].zipIdx)) = (List.foldl (fun cs (x : Value × Nat) => cs.setIfInBounds (1 + x.2) x.1) (cells.setIfInBounds 0 a) (cs.zipIdx 0)) := by simp
  show (cs.toArray.zipIdx.foldl (fun cs (x : Value × Nat) => cs.setIfInBounds (1 + x.2) x.1) (Array.foldl (fun cs (x : Value × Nat) => cs.setIfInBounds (0 + x.2) x.1) cells #[a].zipIdx))[k]? = _
  rw [e, this]
  simp only [Nat.add_zero, List.getElem?_toArray, Array.size_setIfInBounds]
  cases k with
  | zero => rw [if_neg (by omega), Array.getElem?_setIfInBounds_self_of_lt (by omega)]; rfl
  | succ k =>
    rw [List.getElem?_cons_succ]
    by_cases hk : k < n
    · rw [if_pos (by omega), Nat.add_sub_cancel]
    · rw [if_neg (by omega), List.getElem?_eq_none (by omega), Array.getElem?_eq_none (by omega)]
def zeroW : Value := .agg ((.int .i64 0 :: List.replicate 128 (.int .u8 0)).toArray)
end Go.Proofs.Ythfnikdapknohaa

namespace Go.Proofs.Ythfnikdapknohaa
set_option linter.unusedSimpArgs false
set_option linter.unusedVariables false
open Go.RowKit

/-- bytes that lie outside S -/
abbrev BX (w : World) (S : Nat → Prop) (v : Value) (l : List UInt8) : Prop := RowOn c8 w (fun k => k < w.heap.size ∧ ¬ S k) (fun _ => True) v l
theorem BX.chg {w w' : World} {S : Nat → Prop} {v : Value} {l : List UInt8} (h : BX w S v l) (hc : Chg S w w') : BX w' S v l := by
  obtain ⟨A, c, h1, h2, h3, h4⟩ := h
  refine ⟨A, c, h1, h2, h3, fun hn => ?_⟩
  obtain ⟨ad, e, hb, hcc⟩ := h4 hn
  refine ⟨ad, e, ⟨Nat.lt_of_lt_of_le hb.1 hc.size, hb.2⟩, fun i x hx => ?_⟩
  obtain ⟨cs, ha, hcs⟩ := hcc i x hx
  exact ⟨cs, ha, fun j u hu => (World.cell?_of_block (hc.block _ (by rw [add_block]; exact hb.1) (by rw [add_block]; exact hb.2))).trans (hcs j u hu)⟩
theorem BX.grown {w w' : World} {S : Nat → Prop} {v : Value} {l : List UInt8} {row : Option Nat} (h : BX w S v l) (hg : w.grownBy w' row) (hr : ∀ k, row = some k → w.heap.size ≤ k ∨ S k) : BX w' S v l :=
  h.chg ⟨hg.os, hg.tape, hg.output, hg.size, fun k hk hn => hg.block k hk fun e => by rcases hr k e.symm with h | h; omega; exact hn h⟩
theorem BX.form {w : World} {S : Nat → Prop} {v : Value} {l : List UInt8} (h : BX w S v l) : ∃ A c, v = .slice A l.length c ∧ l.length ≤ c ∧ c ≤ maxLen := RowOn.form h

end Go.Proofs.Ythfnikdapknohaa

namespace Go.Proofs.Ythfnikdapknohaa
set_option linter.unusedSimpArgs false
set_option linter.unusedVariables false
open Go.RowKit

theorem wpList_alloc_z {ops : Array Oper} {rest : List Oper} {o : Oper} {a : Act} {w : World} {Q : Exit → Act → World → Prop} (hgd : o.guard = none) (T : TypeId) (ho : o.op = .alloc T) {z : Value} {n bytes : Nat}
    (hinfo : (Try.prog.info? T).map (fun i => (i.zero, i.size, i.bytes)) = some (some z, n, bytes)) (cs : List Value) (hz : z.cells = cs.toArray)
    (h : wpList Try.prog ops Q rest (a.put o.dst (.pointer (some ⟨w.heap.size, 0, none⟩))) (w.alloc (.cells cs.toArray T))) : wpList Try.prog ops Q (o :: rest) a w :=
  wpList_plain hgd fun K hK => by
    obtain ⟨i, hi, hz0, hz1, hby⟩ := info_parts hinfo
    have hr : (Instr.alloc T true (.tuple #[])).run Try.prog w = .ok (.pointer (some ⟨w.heap.size, 0, none⟩)) (w.alloc (.cells cs.toArray T)) := by
      simp [Instr.alloc, Sem.run_bind, zeroValue, typeInfo, hi, hz0, newVar, newRow, hz]
    unfold Oper.wp execOp
    simp only [ho, Sem.run_bind, hr, Result.andThen_ok]
    exact hK _ _ h
theorem wpList_store_new {ops : Array Oper} {rest : List Oper} {o : Oper} {a : Act} {w : World} {Q : Exit → Act → World → Prop} (hgd : o.guard = none) (T : TypeId) (x y : Operand) (ho : o.op = .store T x y)
    (cs ds : List Value) (hx : a.eval x = .pointer (some ⟨w.heap.size, 0, none⟩)) (hy : a.eval y = .agg ds.toArray) (hi : (Try.prog.info? T).map (·.size) = some ds.length) (hl : cs.length = ds.length) (h1 : ∀ u ∈ ds, u.oneCell' = true)
    (h : wpList Try.prog ops Q rest (a.put o.dst undef) (w.alloc (.cells ds.toArray T))) : wpList Try.prog ops Q (o :: rest) a (w.alloc (.cells cs.toArray T)) :=
  wpList_plain hgd fun K hK => by
    unfold Oper.wp execOp
    simp only [ho, hx, hy, Instr.storeAt, Instr.sureAddr, Sem.run_bind, Sem.run_pure, Result.andThen_ok, run_storeVar_new w T cs.toArray ds.toArray (by simpa using hi) (by simpa using hl) (all_oneCell_toArray h1)]
    exact hK _ _ h
def zeroWc : List Value := .int .i64 0 :: List.replicate 128 (.int .u8 0)
theorem zeroW_cells : zeroW.cells = zeroWc.toArray := rfl
def encW (x : Wt) : List Value := .int .i64 (x.1 : Int) :: b8s x.2.1
theorem encW_len (x : Wt) : (encW x).length = 129 := by simp [encW, blk_len]
theorem encW_one (x : Wt) : ∀ u ∈ encW x, u.oneCell' = true := fun u hu => by
  rcases List.mem_cons.1 hu with rfl | hu
  · rfl
  · obtain ⟨b, _, rfl⟩ := List.mem_map.1 hu; rfl
/-- the cells of the k-th that waits -/
theorem wt_load {w : World} {O S : Nat → Prop} {A : Option Addr} {n c : Nat} {l : List Wt} (h : RowOn cWt w O S (.slice A n c) l) (k : Nat) (hk : k < l.length) : ∃ ad, A = some ad ∧ ∀ (j : Nat) (v : Value), (encW (l[k]))[j]? = some v → w.cell? ((ad.add (k * 129)).add j) = some v := by
  obtain ⟨ad, cs, e, _, ⟨rfl, _⟩, hc⟩ := h.at_ k _ (List.getElem?_eq_getElem hk)
  exact ⟨ad, e, fun j v hv => by rw [add_add]; exact hc j v hv⟩
end Go.Proofs.Ythfnikdapknohaa

namespace Go.Proofs.Ythfnikdapknohaa
set_option linter.unusedSimpArgs false
set_option linter.unusedVariables false
open Go.RowKit

structure MFile where
  name : List UInt8
  id : UInt32
  size : Int
  blocks : List Int
structure MMan where
  ver : UInt64
  next : UInt32
  files : List MFile
def encF (f : MFile) (v : Value) : List Value := [.string (bst f.name), .int .u32 (f.id.toNat : Int), .int .i64 f.size, v]
def fileOk (f : MFile) : Prop := f.name.length ≤ maxLen ∧ -9223372036854775808 ≤ f.size ∧ f.size ≤ 9223372036854775807
def cFile : Cdc MFile where
  n := 4
  at_ := fun w S cs f => ∃ v, cs = encF f v ∧ RowOn cInt w S S v f.blocks ∧ fileOk f
  len := fun h => by obtain ⟨v, rfl, _⟩ := h; rfl
  one := fun h => by
    obtain ⟨v, rfl, h, _⟩ := h
    obtain ⟨A, c, rfl, _⟩ := h
    intro u hu
    simp [encF] at hu
    rcases hu with rfl | rfl | rfl | rfl <;> rfl
  keep := fun h hk => by obtain ⟨v, e, h, ok⟩ := h; exact ⟨v, e, h.keep hk hk, ok⟩
  mono := fun h hk => by obtain ⟨v, e, h, ok⟩ := h; exact ⟨v, e, h.mono hk hk, ok⟩
/-- files in blocks below B, all that they lead to too -/
abbrev ByF (w : World) (B : Nat) (v : Value) (l : List MFile) : Prop := RowOn cFile w (fun k => k < B) (fun k => k < B) v l
abbrev ByI (w : World) (B : Nat) (v : Value) (l : List Int) : Prop := RowOn cInt w (fun k => k < B) (fun k => k < B) v l
theorem ByF.below {w w' : World} {B : Nat} {v : Value} {l : List MFile} (h : ByF w B v l) (hb : Below B w w') : ByF w' B v l := h.keep (fun p hp => hb.cell hp) (fun p hp => hb.cell hp)
theorem ByF.more {w : World} {B B' : Nat} {v : Value} {l : List MFile} (h : ByF w B v l) (hB : B ≤ B') : ByF w B' v l := h.mono (fun k hk => Nat.lt_of_lt_of_le hk hB) (fun k hk => Nat.lt_of_lt_of_le hk hB)
theorem ByF.step {w w' : World} {v : Value} {l : List MFile} (h : ByF w w.heap.size v l) (hb : Below w.heap.size w w') : ByF w' w'.heap.size v l := (h.below hb).more hb.size
theorem ByI.below {w w' : World} {B : Nat} {v : Value} {l : List Int} (h : ByI w B v l) (hb : Below B w w') : ByI w' B v l := h.keep (fun p hp => hb.cell hp) (fun p hp => hb.cell hp)
theorem ByI.more {w : World} {B B' : Nat} {v : Value} {l : List Int} (h : ByI w B v l) (hB : B ≤ B') : ByI w B' v l := h.mono (fun k hk => Nat.lt_of_lt_of_le hk hB) (fun k hk => Nat.lt_of_lt_of_le hk hB)
theorem ByI.step {w w' : World} {v : Value} {l : List Int} (h : ByI w w.heap.size v l) (hb : Below w.heap.size w w') : ByI w' w'.heap.size v l := (h.below hb).more hb.size
/-- the cells of the k-th number -/
theorem ByI.cells {w : World} {B : Nat} {A : Option Addr} {n c : Nat} {l : List Int} (h : ByI w B (.slice A n c) l) (k : Nat) (hk : k < l.length) : n = l.length ∧ ∃ ad, A = some ad ∧ ad.block < B ∧ w.cell? (ad.add k) = some (.int .i64 l[k]) ∧ -9223372036854775808 ≤ l[k] ∧ l[k] ≤ 9223372036854775807 := by
  obtain ⟨ad, cs, e, hb, ⟨rfl, ok⟩, hc⟩ := h.at_ k _ (List.getElem?_eq_getElem hk)
  have := hc 0 _ rfl
  simp only [cInt, Cdc.flat, Nat.mul_one, Nat.add_zero] at this
  exact ⟨(h.len_).1, ad, e, hb, this, ok⟩
/-- the cells of the k-th file -/
theorem ByF.cells {w : World} {B : Nat} {A : Option Addr} {n c : Nat} {l : List MFile} (h : ByF w B (.slice A n c) l) (k : Nat) (hk : k < l.length) :
    n = l.length ∧ ∃ ad v, A = some ad ∧ ad.block < B ∧ ByI w B v (l[k]).blocks ∧ fileOk l[k] ∧ (∀ (j : Nat) (u : Value), (encF l[k] v)[j]? = some u → w.cell? ((ad.add (k * 4)).add j) = some u) := by
  obtain ⟨ad, cs, e, hb, ⟨v, rfl, hr, ok⟩, hc⟩ := h.at_ k _ (List.getElem?_eq_getElem hk)
  exact ⟨(h.len_).1, ad, v, e, hb, hr, ok, fun j u hu => by rw [add_add]; exact hc j u hu⟩
theorem ByF.ok {w : World} {B : Nat} {v : Value} {l : List MFile} (h : ByF w B v l) : ∀ f ∈ l, fileOk f := by
  intro f hf
  obtain ⟨i, hi, rfl⟩ := List.mem_iff_getElem.1 hf
  obtain ⟨A, c, rfl, _, _⟩ := h.form
  obtain ⟨_, _, _, _, _, _, ok, _⟩ := h.cells i hi
  exact ok
def encM (m : MMan) (v : Value) : List Value := [.int .u64 (m.ver.toNat : Int), .int .u32 (m.next.toNat : Int), v]
/-- the value v is a manifest -/
def MAt (w : World) (B : Nat) (v : Value) (m : MMan) : Prop := ∃ vf, v = .agg (encM m vf).toArray ∧ ByF w B vf m.files
theorem MAt.below {w w' : World} {B : Nat} {v : Value} {m : MMan} (h : MAt w B v m) (hb : Below B w w') : MAt w' B v m := by obtain ⟨vf, e, h⟩ := h; exact ⟨vf, e, h.below hb⟩
theorem MAt.more {w : World} {B B' : Nat} {v : Value} {m : MMan} (h : MAt w B v m) (hB : B ≤ B') : MAt w B' v m := by obtain ⟨vf, e, h⟩ := h; exact ⟨vf, e, h.more hB⟩
theorem MAt.step {w w' : World} {v : Value} {m : MMan} (h : MAt w w.heap.size v m) (hb : Below w.heap.size w w') : MAt w' w'.heap.size v m := (h.below hb).more hb.size

theorem bst_of (s : ByteArray) : ∃ l, s = bst l ∧ l.length = s.size := ⟨s.data.toList, by unfold bst; simp, by simp⟩
theorem InC.ints {w : World} {cs : List Value} (h : InC w 158 cs) : ∃ v xs, cs = [v] ∧ ByI w w.heap.size v xs := h.row (C := cInt) Try.underlying158 (by kernel_rfl) (by decide) fun cs hc => hc.i64 Try.underlying3
end Go.Proofs.Ythfnikdapknohaa

namespace Go.Proofs.Ythfnikdapknohaa
set_option linter.unusedSimpArgs false
set_option linter.unusedVariables false
open Go.RowKit

def manyOf (n : Int) : Int := if n ≤ 0 then 0 else (n - 1) / 112 + 1
end Go.Proofs.Ythfnikdapknohaa

namespace Go.Proofs.Ythfnikdapknohaa
set_option linter.unusedSimpArgs false
set_option linter.unusedVariables false
open Go.RowKit

abbrev bless := Op.bytesLess
theorem bless_irrefl : ∀ a, bless a a = false
  | [] => rfl
  | x :: a => by simp [bless, Op.bytesLess]; exact bless_irrefl a
theorem bless_trans : ∀ a b c, bless a b = true → bless b c = true → bless a c = true
  | _, [], _, h, _ => by simp [bless, Op.bytesLess] at h
  | _, _ :: _, [], _, h => by simp [bless, Op.bytesLess] at h
  | [], _ :: _, _ :: _, _, _ => rfl
  | x :: a, y :: b, z :: c, h, k => by
    simp only [bless, Op.bytesLess, Bool.or_eq_true, Bool.and_eq_true, decide_eq_true_eq, beq_iff_eq] at h k ⊢
    rcases h with h | ⟨rfl, h⟩
    · rcases k with k | ⟨rfl, k⟩
      · exact .inl (UInt8.lt_trans h k)
      · exact .inl h
    · rcases k with k | ⟨rfl, k⟩
      · exact .inl k
      · exact .inr ⟨rfl, bless_trans a b c h k⟩
theorem bless_total : ∀ a b, bless a b = true ∨ a = b ∨ bless b a = true
  | [], [] => .inr (.inl rfl)
  | [], _ :: _ => .inl rfl
  | _ :: _, [] => .inr (.inr rfl)
  | x :: a, y :: b => by
    simp only [bless, Op.bytesLess, Bool.or_eq_true, Bool.and_eq_true, decide_eq_true_eq, beq_iff_eq, List.cons.injEq]
    rcases Nat.lt_trichotomy x.toNat y.toNat with h | h | h
    · exact .inl (.inl (UInt8.lt_iff_toNat_lt.2 h))
    · have e : x = y := UInt8.toNat_inj.1 h
      subst e
      rcases bless_total a b with h | h | h
      · exact .inl (.inr ⟨rfl, h⟩)
      · exact .inr (.inl ⟨rfl, h⟩)
      · exact .inr (.inr (.inr ⟨rfl, h⟩))
    · exact .inr (.inr (.inl (UInt8.lt_iff_toNat_lt.2 h)))
def u64Of (n : Int) : Nat := (n % 18446744073709551616).toNat
theorem u64Of_lt (n : Int) : u64Of n < 18446744073709551616 := by unfold u64Of; omega
theorem u64Of_wrap (n : Int) : IntKind.u64.wrap n = (u64Of n : Int) := by rw [wrap_u64]; unfold u64Of; omega
def nums (l : List Int) : List UInt8 := l.flatMap fun b => vput (u64Of b)
def bodyF (f : MFile) : List UInt8 := vput f.name.length ++ f.name ++ vput f.id.toNat ++ vput (u64Of f.size) ++ nums f.blocks
def bodyM (m : MMan) : List UInt8 := vput m.ver.toNat ++ vput m.next.toNat ++ vput m.files.length ++ m.files.flatMap bodyF
/-- a file by itself -/
def basicF (next : UInt32) (f : MFile) : Bool := !(decide (f.name.length < 1) || decide (32 < f.name.length) || decide (next.toNat ≤ f.id.toNat) || decide (f.size < 0) || decide (manyOf f.size ≠ (f.blocks.length : Int)))
/-- beside one ahead of it -/
def besideF (p f : MFile) : Bool := !(decide (p.id = f.id) || !(bless p.name f.name))
def blockOk (prev : List MFile) (l : List Int) (a : Nat) : Bool := !(decide (l.getD a 0 < 32) || decide (65536 ≤ l.getD a 0) || decide (l.getD a 0 ∈ l.take a)) && prev.all fun p => !decide (l.getD a 0 ∈ p.blocks)
def blocksOk (prev : List MFile) (l : List Int) (n : Nat) : Bool := (List.range n).all (blockOk prev l)
def fileR (next : UInt32) (prev : List MFile) (f : MFile) : Bool := basicF next f && prev.all (fun p => besideF p f) && blocksOk prev f.blocks f.blocks.length
def filesR (m : MMan) (n : Nat) : Bool := (List.range n).all fun i => fileR m.next (m.files.take i) (m.files.getD i ⟨[], 0, 0, []⟩)
def mayM (m : MMan) : Bool := filesR m m.files.length && decide ((bodyM m).length + 13 ≤ 2048)
def greatN (l : List MFile) : Nat := (l.map fun f => min f.blocks.length 3000 + min f.name.length 3000).sum
def greatM (m : MMan) : Bool := decide (60 < m.files.length) || decide (3000 < greatN m.files)
theorem filesR_succ (m : MMan) (i : Nat) (hi : i < m.files.length) : filesR m (i + 1) = (filesR m i && fileR m.next (m.files.take i) m.files[i]) := by
  unfold filesR
  rw [List.range_succ, List.all_append]
  simp [List.getD_eq_getElem?_getD, List.getElem?_eq_getElem hi]
theorem filesR_false (m : MMan) (i : Nat) (h : filesR m i = false) : ∀ n, i ≤ n → filesR m n = false := by
  intro n hn
  unfold filesR at h ⊢
  rw [List.all_eq_false] at h ⊢
  obtain ⟨x, hx, hx2⟩ := h
  exact ⟨x, by simp at hx ⊢; omega, hx2⟩
theorem filesR_at (m : MMan) (n i : Nat) (h : filesR m n = true) (hi : i < n) (hn : n ≤ m.files.length) : fileR m.next (m.files.take i) (m.files[i]'(by omega)) = true := by
  unfold filesR at h
  rw [List.all_eq_true] at h
  have := h i (by simpa using hi)
  rw [List.getD_eq_getElem?_getD, List.getElem?_eq_getElem (by omega)] at this
  exact this
theorem greatN_snoc (l : List MFile) (k : Nat) (hk : k < l.length) : greatN (l.take (k + 1)) = greatN (l.take k) + (min (l[k]).blocks.length 3000 + min (l[k]).name.length 3000) := by
  unfold greatN
  rw [List.take_add_one, List.getElem?_eq_getElem hk, Option.toList_some, List.map_append, List.sum_append]
  simp
theorem greatN_le (l : List MFile) : greatN l ≤ l.length * 6000 := by
  induction l with
  | nil => simp [greatN]
  | cons f t ih =>
    have : greatN (f :: t) = min f.blocks.length 3000 + min f.name.length 3000 + greatN t := by simp [greatN]
    rw [this, List.length_cons]
    omega
theorem greatN_take (l : List MFile) (k : Nat) : greatN (l.take k) ≤ l.length * 6000 :=
  Nat.le_trans (greatN_le _) (Nat.mul_le_mul_right _ (List.length_take_le' _ _))
end Go.Proofs.Ythfnikdapknohaa

namespace Go.Proofs.Ythfnikdapknohaa
set_option linter.unusedSimpArgs false
set_option linter.unusedVariables false
open Go.RowKit

theorem add_mid' (a : Addr) (j : Nat) (hj : j ≠ 0) : a.add j = { block := a.block, off := a.off + j } := by unfold Addr.add; rw [if_neg hj]
theorem BoxAt.blwM {T : TypeId} {w w' : World} {g : Nat} {cs : List Value} (h : BoxAt T w g cs) (hb : Below w.heap.size w w') : BoxAt T w' g cs := h.below h.lt hb
end Go.Proofs.Ythfnikdapknohaa

namespace Go.Proofs.Ythfnikdapknohaa
set_option linter.unusedSimpArgs false
set_option linter.unusedVariables false
open Go.RowKit

/-- what '[]byte(s)' leaves -/
structure SB (w w' : World) (c : Nat) (l : List UInt8) : Prop where
  by_ : By w' w'.heap.size (.slice (some ⟨w.heap.size, 0, none⟩) l.length c) l
  free : ∀ j, j < l.length → w'.frozen? ⟨w.heap.size, j, none⟩ = false
  below : Below w.heap.size w w'
  size : w'.heap.size = w.heap.size + 1
theorem sb_of (w : World) (l : List UInt8) (hl : l.length ≤ 281474976710656) : SB w (Lib.bytesWorld w 5 (bst l)) (grownCap w (bst l).size 0 5) l := by
  have hG := grownCap_ge w (bst l).size 0 5
  have hG63 := grownCap_le_maxLen w (bst l).size 0 5 (by show l.length ≤ _; unfold maxLen; omega)
  refine ⟨⟨_, _, rfl, hG, hG63, ?_⟩, fun j hj => ?_, ?_, Lib.bytesWorld_size _ _ _⟩
  · refine ⟨by simp [b8s], fun hn => ⟨_, rfl, by rw [Lib.bytesWorld_size]; exact Nat.lt_succ_self _, fun j u hu => ?_⟩⟩
    have hj : j < l.length := by have := (List.getElem?_eq_some_iff.1 hu).1; rwa [b8s_length] at this
    rw [b8s_get l j hj] at hu
    have := Lib.bytesWorld_cell w 5 (bst l) j hj
    rw [Addr.add_lit, Nat.zero_add, this, ← hu]
    have e : (bst l).data.toList = l := by simp [bst]
    rw [e, List.getD_eq_getElem?_getD, List.getElem?_eq_getElem hj]
    rfl
  · have h := Lib.bytesWorld_at_new w 5 (bst l)
    have hs : l.length ≤ (Lib.bytesCells w 5 (bst l)).size := by simp [Lib.bytesCells, bst]
    simp only [World.frozen?, h]
    simp
    omega
  · exact ⟨rfl, rfl, rfl, by rw [Lib.bytesWorld_size]; exact Nat.le_succ _, fun k hk => Lib.bytesWorld_at_old w _ _ k hk⟩
theorem wpList_conv_sb {ops : Array Oper} {rest : List Oper} {o : Oper} {a : Act} {w : World} {Q : Exit → Act → World → Prop} (hgd : o.guard = none) (x : Operand) (ho : o.op = .convert 9 25 x) (l : List UInt8) (hx : a.eval x = .string (bst l)) (hl : l.length ≤ 281474976710656)
    (h : ∀ c w', SB w w' c l → wpList Try.prog ops Q rest (a.put o.dst (.slice (some ⟨w.heap.size, 0, none⟩) l.length c)) w') : wpList Try.prog ops Q (o :: rest) a w :=
  wpList_plain hgd fun K hK => by
    have hr := Lib.run_convert_string_bytes (P := Try.prog) w 9 25 5 (bst l) Try.underlying9 Try.underlying25 Try.underlying5
    unfold Oper.wp execOp
    simp only [ho, hx, Sem.run_bind, hr, Result.andThen_ok]
    exact hK _ _ (h _ _ (sb_of w l hl))
/-- a byte of it is written -/
theorem By.set_ {w : World} {B g k n c : Nat} {l : List UInt8} (h : By w B (.slice (some ⟨g, 0, none⟩) n c) l) (hk : k < l.length) (b : UInt8) : By (w.setCell ⟨g, k, none⟩ (.int .u8 (b.toNat : Int))) B (.slice (some ⟨g, 0, none⟩) n c) (l.set k b) := by
  obtain ⟨A, c', e, h1, h2, h3, h4⟩ := h
  injection e with e1 e2 e3
  subst e1; subst e2; subst e3
  obtain ⟨ad, e, hb, hc⟩ := h4 (by omega)
  injection e with e
  subst e
  refine ⟨_, _, by rw [List.length_set], by rw [List.length_set]; exact h1, h2, by simp [b8s], fun hn => ⟨_, rfl, hb, fun j u hu => ?_⟩⟩
  have e : b8s (l.set k b) = (b8s l).set k (b8 b) := by unfold b8s; rw [List.map_set]
  rw [e, List.getElem?_set] at hu
  rw [Addr.add_lit, Nat.zero_add]
  have hck := hc k _ (b8s_get l k hk)
  rw [Addr.add_lit, Nat.zero_add] at hck
  by_cases hkj : k = j
  · subst hkj
    rw [if_pos rfl, if_pos (by rw [b8s_length]; exact hk)] at hu
    rw [World.cell?_setCell_same _ _ _ hck, ← hu]
    rfl
  · rw [if_neg hkj] at hu
    have := hc j u hu
    rw [Addr.add_lit, Nat.zero_add] at this
    rw [World.cell?_setCell_other _ _ _ _ (by intro e; injection e with _ e _; omega), this]
end Go.Proofs.Ythfnikdapknohaa

namespace Go.Proofs.Ythfnikdapknohaa
set_option linter.unusedSimpArgs false
set_option linter.unusedVariables false
open Go.RowKit

structure Wr (w1 w : World) (v : Value) (l : List UInt8) : Prop where
  own : Ow w w1.heap.size v l
  blw : Below w1.heap.size w1 w
structure WrB (T : TypeId) (w1 w : World) (g : Nat) (cs : List Value) (v : Value) (l : List UInt8) : Prop where
  own : Ow w w1.heap.size v l
  blw : Below w1.heap.size w1 w
  box : BoxAt T w g cs
  ne : v.ownBlock ≠ some g
theorem Ext.neM {w w' : World} {v v' : Value} (h : Ext w w' v v') {g : Nat} (hg : g < w.heap.size) (hv : v.ownBlock ≠ some g) : v'.ownBlock ≠ some g := by
  rcases h.at_ with h1 | h1
  · rw [h1]; exact hv
  · intro e; have := h1 g e; omega
theorem Wr.num {w1 w wa wb : World} {v v' : Value} {l l' : List UInt8} (h : Wr w1 w v l) (hb : Below w.heap.size w wa) (hx : Ext wa wb v v') (ho : Ow wb w1.heap.size v' l') : Wr w1 wb v' l' :=
  ⟨ho, (h.blw.trans (hb.mono h.blw.size)).trans (hx.below (Nat.le_trans h.blw.size hb.size) fun q hq => (h.own.blk q hq).1)⟩
theorem WrB.num {T : TypeId} {g : Nat} {cs : List Value} {w1 w wa wb : World} {v v' : Value} {l l' : List UInt8} (h : WrB T w1 w g cs v l) (hb : Below w.heap.size w wa) (hx : Ext wa wb v v') (ho : Ow wb w1.heap.size v' l') : WrB T w1 wb g cs v' l' :=
  have hg := h.box.lt
  have hga := Nat.lt_of_lt_of_le hg hb.size
  ⟨ho, (h.blw.trans (hb.mono h.blw.size)).trans (hx.below (Nat.le_trans h.blw.size hb.size) fun q hq => (h.own.blk q hq).1), (h.box.below hg hb).grown hx.gr h.ne, hx.neM hga h.ne⟩
theorem Wr.put (T : TypeId) {w1 w : World} {v : Value} {l : List UInt8} (h : Wr w1 w v l) (cs : List Value) : WrB T w1 (w.alloc (.cells cs.toArray T)) w.heap.size cs v l :=
  ⟨h.own.alloc _, h.blw.trans ((balloc w _).mono h.blw.size), BoxAt.new_ _ _ _, fun e => Nat.lt_irrefl _ (h.own.blk _ e).2⟩
theorem WrB.wr {T : TypeId} {g : Nat} {cs : List Value} {w1 w : World} {v : Value} {l : List UInt8} (h : WrB T w1 w g cs v l) : Wr w1 w v l := ⟨h.own, h.blw⟩
theorem flat_take_le {α : Type} (f : α → List UInt8) (l : List α) (k : Nat) (hk : k < l.length) : ((l.take k).flatMap f).length + (f l[k]).length ≤ (l.flatMap f).length := by
  have e : l.flatMap f = (l.take k).flatMap f ++ (f l[k] ++ (l.drop (k + 1)).flatMap f) := by
    conv => lhs; rw [← List.take_append_drop k l, List.drop_eq_getElem_cons hk]
    rw [List.flatMap_append, List.flatMap_cons]
  rw [e]
  simp only [List.length_append]
  omega
theorem flat_take_succ {α : Type} (f : α → List UInt8) (l : List α) (k : Nat) (hk : k < l.length) : (l.take (k + 1)).flatMap f = (l.take k).flatMap f ++ f l[k] := by
  rw [List.take_add_one, List.getElem?_eq_getElem hk, Option.toList_some, List.flatMap_append, List.flatMap_cons, List.flatMap_nil, List.append_nil]
theorem nums_succ (l : List Int) (k : Nat) (hk : k < l.length) : nums (l.take (k + 1)) = nums (l.take k) ++ vput (u64Of l[k]) := flat_take_succ _ l k hk
theorem nums_le (l : List Int) (k : Nat) (hk : k < l.length) : (nums (l.take k)).length + (vput (u64Of l[k])).length ≤ (nums l).length := flat_take_le _ l k hk
theorem bodyF_len (f : MFile) : (bodyF f).length = (vput f.name.length).length + f.name.length + (vput f.id.toNat).length + (vput (u64Of f.size)).length + (nums f.blocks).length := by simp [bodyF]; omega
theorem bodyM_len (m : MMan) : (bodyM m).length = (vput m.ver.toNat).length + (vput m.next.toNat).length + (vput m.files.length).length + (m.files.flatMap bodyF).length := by simp [bodyM]; omega
theorem encF_one (f : MFile) (v : Value) (hv : v.oneCell' = true) : ∀ u ∈ encF f v, u.oneCell' = true := fun u hu => by
  simp [encF] at hu
  rcases hu with rfl | rfl | rfl | rfl
  · rfl
  · rfl
  · rfl
  · exact hv
def zeroFc : List Value := [.string (bst []), .int .u32 0, .int .i64 0, .slice none 0 0]
theorem zeroF_cells : (Value.agg zeroFc.toArray).cells = zeroFc.toArray := rfl
theorem balloc_lt (w : World) (o : Obj) {B : Nat} (hB : B ≤ w.heap.size) : Below B w (w.alloc o) := (balloc w o).mono hB

end Go.Proofs.Ythfnikdapknohaa

namespace Go.Proofs.Ythfnikdapknohaa
set_option linter.unusedSimpArgs false
set_option linter.unusedVariables false
open Go.RowKit

theorem blocksOk_succ (prev : List MFile) (l : List Int) (a : Nat) : blocksOk prev l (a + 1) = (blocksOk prev l a && blockOk prev l a) := by
  unfold blocksOk
  rw [List.range_succ, List.all_append]
  simp
theorem blocksOk_false (prev : List MFile) (l : List Int) (a : Nat) (h : blocksOk prev l (a + 1) = false) (n : Nat) (ha : a < n) : blocksOk prev l n = false := by
  unfold blocksOk at h ⊢
  rw [List.all_eq_false] at h ⊢
  obtain ⟨x, hx, hx2⟩ := h
  exact ⟨x, by simp at hx ⊢; omega, hx2⟩
theorem blockOk_eq (prev : List MFile) (l : List Int) (a : Nat) (ha : a < l.length) : blockOk prev l a = (!(decide (l[a] < 32) || decide (65536 ≤ l[a]) || decide (l[a] ∈ l.take a)) && prev.all fun p => !decide (l[a] ∈ p.blocks)) := by
  unfold blockOk
  rw [List.getD_eq_getElem?_getD, List.getElem?_eq_getElem ha]
  rfl
end Go.Proofs.Ythfnikdapknohaa

namespace Go.Proofs.Ythfnikdapknohaa
set_option linter.unusedSimpArgs false
set_option linter.unusedVariables false
open Go.RowKit

theorem sum_mem_le : ∀ (l : List Nat) (x : Nat), x ∈ l → x ≤ l.sum
  | [], _, h => by cases h
  | y :: l, x, h => by
    rw [List.sum_cons]
    rcases List.mem_cons.1 h with rfl | h
    · omega
    · have := sum_mem_le l x h; omega
theorem nums_len (l : List Int) : (nums l).length ≤ l.length * 11 := by
  induction l with
  | nil => simp [nums]
  | cons x l ih =>
    have e : nums (x :: l) = vput (u64Of x) ++ nums l := rfl
    have := (vput_len64 (u64Of x) (u64Of_lt x)).2
    rw [e, List.length_append, List.length_cons]
    omega
theorem flat_len_le (l : List MFile) (B : Nat) (h : ∀ f ∈ l, (bodyF f).length ≤ B) : (l.flatMap bodyF).length ≤ l.length * B := by
  induction l with
  | nil => simp
  | cons f l ih =>
    rw [List.flatMap_cons, List.length_append, List.length_cons, Nat.add_mul]
    have := h f (by simp)
    have := ih fun g hg => h g (by simp [hg])
    omega
theorem small_file (m : MMan) (hg : greatM m = false) (f : MFile) (hf : f ∈ m.files) (hb : basicF m.next f = true) : f.name.length ≤ 32 ∧ 1 ≤ f.name.length ∧ f.blocks.length ≤ 2999 := by
  unfold greatM at hg
  simp only [Bool.or_eq_false_iff, decide_eq_false_iff_not] at hg
  unfold basicF at hb
  simp only [Bool.not_eq_true', Bool.or_eq_false_iff, decide_eq_false_iff_not] at hb
  have := sum_mem_le (m.files.map fun f => min f.blocks.length 3000 + min f.name.length 3000) _ (List.mem_map.2 ⟨f, hf, rfl⟩)
  have h2 : greatN m.files = (m.files.map fun f => min f.blocks.length 3000 + min f.name.length 3000).sum := rfl
  omega
theorem bodyF_small (m : MMan) (hg : greatM m = false) (f : MFile) (hf : f ∈ m.files) (hb : basicF m.next f = true) : (bodyF f).length ≤ 40000 := by
  obtain ⟨h1, h2, h3⟩ := small_file m hg f hf hb
  rw [bodyF_len]
  have := nums_len f.blocks
  have := (vput_len64 f.name.length (by omega)).2
  have := (vput_len64 f.id.toNat (by have := u32_lt f.id; omega)).2
  have := (vput_len64 (u64Of f.size) (u64Of_lt _)).2
  omega
theorem filesR_basic (m : MMan) (h : filesR m m.files.length = true) (f : MFile) (hf : f ∈ m.files) : basicF m.next f = true := by
  obtain ⟨i, hi, rfl⟩ := List.mem_iff_getElem.1 hf
  have := filesR_at m _ i h hi (Nat.le_refl _)
  unfold fileR at this
  simp only [Bool.and_eq_true] at this
  exact this.1.1
theorem bodyM_small (m : MMan) (hg : greatM m = false) (h : filesR m m.files.length = true) : (bodyM m).length ≤ 2400033 := by
  have hn : m.files.length ≤ 60 := by
    unfold greatM at hg
    simp only [Bool.or_eq_false_iff, decide_eq_false_iff_not] at hg
    omega
  have := flat_len_le m.files 40000 fun f hf => bodyF_small m hg f hf (filesR_basic m h f hf)
  rw [bodyM_len]
  have := (vput_len64 m.ver.toNat (u64_lt _)).2
  have := (vput_len64 m.next.toNat (by have := u32_lt m.next; omega)).2
  have := (vput_len64 m.files.length (by omega)).2
  omega
end Go.Proofs.Ythfnikdapknohaa

namespace Go.Proofs.Ythfnikdapknohaa
set_option linter.unusedSimpArgs false
set_option linter.unusedVariables false
open Go.RowKit Go.Maps

/-- block b is a set of at most n numbers: those of S -/
def MSet (k : TypeId) (q : IntKind) (w : World) (b n : Nat) (S : List Int) : Prop :=
  ∃ D : DataW Unit, w.ownsMap Try.prog k unitElem b n D ∧ ∀ x, (Lit.int q x).wf = true → Maps.has D (.int q x) = decide (x ∈ S)
theorem MSet.lt {k : TypeId} {q : IntKind} {w : World} {b n : Nat} {S : List Int} (h : MSet k q w b n S) : b < w.heap.size := by obtain ⟨D, h, _⟩ := h; exact h.lt
theorem MSet.congr {k : TypeId} {q : IntKind} {w : World} {b n : Nat} {S S' : List Int} (h : MSet k q w b n S) (hS : ∀ x, x ∈ S ↔ x ∈ S') : MSet k q w b n S' := by
  obtain ⟨D, h, hh⟩ := h
  exact ⟨D, h, fun x hx => (hh x hx).trans (decide_eq_decide.2 (hS x))⟩
theorem MSet.kept {k : TypeId} {q : IntKind} {w w' : World} {b n : Nat} {S : List Int} (h : MSet k q w b n S) {row : Option Nat} (hg : w.grownBy w' row) (hne : some b ≠ row) : MSet k q w' b n S := by
  obtain ⟨D, h, hh⟩ := h
  exact ⟨D, h.kept hg hne, hh⟩
theorem MSet.blw {k : TypeId} {q : IntKind} {w w' : World} {b n : Nat} {S : List Int} (h : MSet k q w b n S) (hb : Below w.heap.size w w') : MSet k q w' b n S :=
  h.kept (row := none) ⟨hb.os, hb.tape, hb.output, hb.size, fun i hi _ => hb.block i hi⟩ (by simp)
theorem MSet.mono {k : TypeId} {q : IntKind} {w : World} {b n n' : Nat} {S : List Int} (h : MSet k q w b n S) (hn : n ≤ n') : MSet k q w b n' S := by
  obtain ⟨D, h, hh⟩ := h
  exact ⟨D, h.mono hn, hh⟩
theorem MSet.new_ (k : TypeId) (q : IntKind) (w : World) : MSet k q (w.alloc (.map #[] 0)) w.heap.size 0 [] :=
  ⟨.map [], World.ownsMap_made _ _ _ _, fun x _ => by simp [Maps.has]⟩
/-- all but the blocks m1, m2 stay -/
structure Bt (m1 m2 : Nat) (w w' : World) : Prop where
  os : w'.os = w.os
  tape : w'.tape = w.tape
  output : w'.output = w.output
  size : w.heap.size ≤ w'.heap.size
  block : ∀ k, k < w.heap.size → k ≠ m1 → k ≠ m2 → w'.heap[k]? = w.heap[k]?
theorem Bt.of {m1 m2 : Nat} {w w' : World} (h : Below w.heap.size w w') : Bt m1 m2 w w' := ⟨h.os, h.tape, h.output, h.size, fun k hk _ _ => h.block k hk⟩
theorem Bt.trans {m1 m2 : Nat} {a b c : World} (h : Bt m1 m2 a b) (k : Bt m1 m2 b c) : Bt m1 m2 a c :=
  ⟨k.os.trans h.os, k.tape.trans h.tape, k.output.trans h.output, Nat.le_trans h.size k.size, fun i hi h1 h2 => (k.block i (Nat.lt_of_lt_of_le hi h.size) h1 h2).trans (h.block i hi h1 h2)⟩
theorem Bt.grown {m1 m2 m : Nat} {a b c : World} (h : Bt m1 m2 a b) (hg : b.grownBy c (some m)) (hm : m = m1 ∨ m = m2) : Bt m1 m2 a c :=
  h.trans ⟨hg.os, hg.tape, hg.output, hg.size, fun k hk h1 h2 => hg.block k hk (fun e => by injection e with e; rcases hm with hm | hm <;> omega)⟩
theorem Bt.step {m1 m2 : Nat} {a b c : World} (h : Bt m1 m2 a b) (hb : Below b.heap.size b c) : Bt m1 m2 a c := h.trans (Bt.of hb)
theorem Bt.low {m1 m2 B : Nat} {w w' : World} (h : Bt m1 m2 w w') (h1 : B ≤ m1) (h2 : B ≤ m2) (hB : B ≤ w.heap.size) : Below B w w' :=
  ⟨h.os, h.tape, h.output, h.size, fun k hk => h.block k (by omega) (by omega) (by omega)⟩
theorem Bt.box {m1 m2 g : Nat} {T : TypeId} {cs : List Value} {w w' : World} (h : Bt m1 m2 w w') (hx : BoxAt T w g cs) (h1 : g ≠ m1) (h2 : g ≠ m2) : BoxAt T w' g cs := (h.block g hx.lt h1 h2).trans hx
def blkC (S2 : List Int) (l : List Int) (a : Nat) : Bool := !(decide (l.getD a 0 ∈ l.take a ++ S2) || decide (l.getD a 0 < 32) || decide (65536 ≤ l.getD a 0))
def blksC (S2 : List Int) (l : List Int) (n : Nat) : Bool := (List.range n).all (blkC S2 l)
/-- manifest.right's answer -/
def rightC (next : UInt32) (S1 S2 : List Int) (f : MFile) : Bool := basicF next f && !(decide ((f.id.toNat : Int) ∈ S1)) && blksC S2 f.blocks f.blocks.length
theorem blksC_succ (S2 l : List Int) (a : Nat) : blksC S2 l (a + 1) = (blksC S2 l a && blkC S2 l a) := by
  unfold blksC
  rw [List.range_succ, List.all_append]
  simp
theorem blksC_false (S2 l : List Int) (a : Nat) (h : blksC S2 l (a + 1) = false) (n : Nat) (ha : a < n) : blksC S2 l n = false := by
  unfold blksC at h ⊢
  rw [List.all_eq_false] at h ⊢
  obtain ⟨x, hx, hx2⟩ := h
  exact ⟨x, by simp at hx ⊢; omega, hx2⟩
theorem blkC_eq (S2 l : List Int) (a : Nat) (ha : a < l.length) : blkC S2 l a = !(decide (l[a] ∈ l.take a ++ S2) || decide (l[a] < 32) || decide (65536 ≤ l[a])) := by
  unfold blkC
  rw [List.getD_eq_getElem?_getD, List.getElem?_eq_getElem ha]
  rfl
theorem mem_snocL {x y : Int} {a b : List Int} : y ∈ x :: (a ++ b) ↔ y ∈ a ++ [x] ++ b := by
  rw [List.mem_cons, List.mem_append, List.mem_append, List.mem_append, List.mem_singleton]
  constructor
  · rintro (h | h | h)
    · exact .inl (.inr h)
    · exact .inl (.inl h)
    · exact .inr h
  · rintro ((h | h) | h)
    · exact .inr (.inl h)
    · exact .inl h
    · exact .inr (.inr h)
theorem wf_u32 (x : UInt32) : (Lit.int .u32 (x.toNat : Int)).wf = true := by
  have := u32_lt x
  have e1 : IntKind.u32.min = 0 := by decide
  have e2 : IntKind.u32.max = 4294967295 := by decide
  simp [Lit.wf, e1, e2]
  omega
theorem wf_i64 (x : Int) (h1 : -9223372036854775808 ≤ x) (h2 : x ≤ 9223372036854775807) : (Lit.int .i64 x).wf = true := by
  have e1 : IntKind.i64.min = -9223372036854775808 := by decide
  have e2 : IntKind.i64.max = 9223372036854775807 := by decide
  simp [Lit.wf, e1, e2]
  omega
end Go.Proofs.Ythfnikdapknohaa

namespace Go.Proofs.Ythfnikdapknohaa
set_option linter.unusedSimpArgs false
set_option linter.unusedVariables false
open Go.RowKit

theorem strCells_bst (l : List UInt8) : Lib.strCells (bst l) = b8s l := by simp [Lib.strCells, bst, b8s, b8]
theorem bst_size (l : List UInt8) : (bst l).size = l.length := rfl
theorem wpList_apps {ops : Array Oper} {rest : List Oper} {o : Oper} {a : Act} {w : World} {Q : Exit → Act → World → Prop} (hgd : o.guard = none) (s x : Operand)
    (ho : o.op = .call { callee := .builtin .append, args := #[s, x], argTypes := #[25, 9] })
    {base : Nat} {v : Value} {l : List UInt8} (l2 : List UInt8) (hown : Ow w base v l) (hs : a.eval s = v) (hx : a.eval x = .string (bst l2))
    (hsz : l.length + l2.length ≤ 140737488355328) (hbase : base ≤ w.heap.size)
    (h : ∀ v' w', Ow w' base v' (l ++ l2) → Ext w w' v v' → wpList Try.prog ops Q rest (a.put o.dst v') w') : wpList Try.prog ops Q (o :: rest) a w := by
  obtain ⟨i, hi, hz0, hz1, hz2⟩ := info_parts info8
  have hu8 := Try.underlying25
  have hust := Try.underlying9
  refine wpList_plain hgd fun K hK => ?_
  obtain ⟨v', w', hr, h2, h3, h4⟩ := Lib.run_append_own_string (P := Try.prog) w base 25 9 o.type 5 i hu8 hust hi hz0 hz1 hz2 v l.length (b8s l) hown (bst l2)
    (by rw [bst_size]; unfold maxLen; omega) (by rw [bst_size]; omega) hbase
  have hat : v'.ownBlock = v.ownBlock ∨ v'.ownBlock = some w.heap.size := by
    rcases hown.2 with ⟨rfl, hn⟩ | ⟨g, cap, cur, rfl, hbg, hg, hnc, hcm, hcs, htake⟩
    · by_cases hm : l2.length = 0
      · exact .inl (by rw [h4.2 ⟨rfl, hm⟩])
      · have hk := run_append_nil_string (P := Try.prog) w 25 9 o.type 5 i (.int .u8 0) hu8 hust hi hz0 (bst l2) (by rw [bst_size]; omega) (by rw [bst_size]; omega) (by rw [bst_size, hz2]; omega)
        rw [hr] at hk
        injection hk with hk1 _
        exact .inr (by rw [hk1]; rfl)
    · by_cases hroom : l.length + (bst l2).size ≤ cap
      · have hcs' : cur.size = cap := by simpa using hcs
        have hk := Lib.run_append_room_string (P := Try.prog) w 25 9 o.type 5 i hu8 hust hi hz1 g l.length cap cur hg (bst l2) hroom (by omega)
        rw [hr] at hk
        injection hk with hk1 _
        exact .inl (by rw [hk1]; rfl)
      · have holds : ∀ j u, (b8s l)[j]? = some u → w.cell? ((⟨g, 0, none⟩ : Addr).add j) = some u := hown.cells (g := g) rfl
        have hk := Lib.run_append_grow_string (P := Try.prog) w 25 9 o.type 5 i (.int .u8 0) hu8 hust hi hz0 ⟨g, 0, none⟩ l.length cap (b8s l) (by rw [hz1, b8s_length]; omega) holds (bst l2) (by omega) (by rw [bst_size]; omega)
          (by rw [hz2]; exact growslice_fits (by omega) (by rw [bst_size]; omega))
        rw [hr] at hk
        injection hk with hk1 _
        exact .inr (by rw [hk1]; rfl)
  unfold Oper.wp execOp
  simp only [ho, resolve, invoke, builtin, Sem.run_bind, Sem.run_pure, Result.andThen_ok, List.map_toArray, List.map_cons, List.map_nil, hs, hx, hr]
  refine hK _ _ (h v' w' ?_ ⟨h3, ?_⟩)
  · unfold Ow
    rw [List.length_append, b8s_append, ← strCells_bst l2]
    exact h2
  · rcases hat with h5 | h5
    · exact .inl h5
    · exact .inr fun k hk => by rw [h5] at hk; injection hk with hk; omega
end Go.Proofs.Ythfnikdapknohaa

namespace Go.Proofs.Ythfnikdapknohaa
set_option linter.unusedSimpArgs false
set_option linter.unusedVariables false
open Go.RowKit

theorem WrB.drew {T : TypeId} {g : Nat} {cs : List Value} {w1 w : World} {v : Value} {l : List UInt8} (h : WrB T w1 w g cs v l) : WrB T w1 w.drew g cs v l := ⟨h.own, h.blw.drew, h.box, h.ne⟩

end Go.Proofs.Ythfnikdapknohaa

namespace Go.Proofs.Ythfnikdapknohaa
set_option linter.unusedSimpArgs false
set_option linter.unusedVariables false
open Go.RowKit

theorem zeroCells8 (n : Nat) : Builtin.zeroCells (Value.cells (.int .u8 0)) n = (b8s (List.replicate n 0)).toArray := by
  apply Array.ext
  · simp [Builtin.zeroCells, Value.cells, b8s]
  · intro i h1 h2
    simp [Builtin.zeroCells, Value.cells, b8s, b8, Nat.mod_one]

theorem run_zero8 (w : World) (base : Nat) (v : Value) (l : List UInt8) (hown : Ow w base v l) (n : Nat) (ty : TypeId) (hsz : l.length + n ≤ 140737488355328) (hbase : base ≤ w.heap.size) :
    ∃ v' w', (Builtin.append_ #[25, 3] ty #[v, .int .i64 (n : Int)]).run Try.prog w = .ok v' w' ∧ Ow w' base v' (l ++ List.replicate n 0) ∧ Ext w w' v v' := by
  obtain ⟨i, hi, hz0, hz1, hz2⟩ := info_parts info8
  have hw : IntKind.i64.wrap (n : Int) = n := by rw [wrap_i64]; omega
  have hneg : ¬ ((n : Int) < 0) := by omega
  have h48i : ¬ (281474976710656 < (n : Int)) := by omega
  by_cases hn : n = 0
  · subst hn
    refine ⟨v, w, ?_, by simpa using hown, Ext.refl _ _⟩
    obtain ⟨A, c, rfl, hc, _, _⟩ := hown.form_
    cases A with
    | none => simp [Builtin.append_, run_underlying Try.underlying25, run_underlying Try.underlying3, sizeOf, typeInfo, hi, hz1, hz2, asInt, asIntOf, wrap_i64, hc]
    | some a => simp [Builtin.append_, run_underlying Try.underlying25, run_underlying Try.underlying3, sizeOf, typeInfo, hi, hz1, hz2, asInt, asIntOf, wrap_i64, hc, storeCells]
  · have h0 : 0 < n := by omega
    -- a new row
    have grows : ∀ (bs : Option Addr) (cap : Nat), cap < l.length + n → (Builtin.firstCells 1 l.length (.slice bs l.length cap)).run Try.prog w.drew = .ok (b8s l).toArray w.drew → v = .slice bs l.length cap →
        ∃ v' w', (Builtin.append_ #[25, 3] ty #[v, .int .i64 (n : Int)]).run Try.prog w = .ok v' w' ∧ Ow w' base v' (l ++ List.replicate n 0) ∧ Ext w w' v v' := by
      intro bs cap hcap hf hv
      have hr := Lib.run_append_grow_zeros (P := Try.prog) w 25 3 ty 5 i (.int .u8 0) .i64 .i64 Try.underlying25 Try.underlying3 hi hz0 bs l.length cap (b8s l) (by rw [hz1]; exact hf) n h0 (by omega) hcap (by omega) (by rw [hz2]; omega)
        (growslice_fits hcap (by rw [hz2]; omega))
      rw [← hv] at hr
      have hge := grownCap_ge w (l.length + n) cap 5
      have hcm := grownCap_le_maxLen w (l.length + n) cap 5 (by unfold maxLen; omega)
      generalize grownCap w (l.length + n) cap 5 = nc at *
      refine ⟨_, _, hr, ⟨by simp [b8s], .inr ⟨w.heap.size, nc, _, by simp, hbase, heap_alloc_new w.drew _, by simpa using hge, hcm, ?_, ?_⟩⟩, ⟨⟨rfl, rfl, rfl, by simp, fun k hk _ => heap_alloc_old w.drew _ hk⟩, .inr fun k hk => ?_⟩⟩
      · simp [Builtin.zeroCells, Value.cells, b8s]; omega
      · rw [zeroCells8, Array.toList_append, Array.toList_append, b8s_append]
        exact List.take_left' (by simp [b8s])
      · simp [Value.ownBlock] at hk
        omega
    rcases hown.2 with ⟨hv, hl0⟩ | ⟨g, cap, cur, hv, hb, hg, hnc, hcm, hcs, htake⟩
    · have hl : l = [] := List.eq_nil_of_length_eq_zero hl0
      subst hl
      exact grows none 0 (by simpa using h0) rfl hv
    · by_cases hroom : l.length + n ≤ cap
      · have hst := run_storeCells_at Try.prog g l.length 5 (b8s (List.replicate n 0)) 0 cur w hg (by simp [b8s]; omega) (b8s_one _)
        simp only [Nat.add_zero] at hst
        have hr : (Builtin.append_ #[25, 3] ty #[v, .int .i64 (n : Int)]).run Try.prog w = .ok (.slice (some ⟨g, 0, none⟩) (l.length + n) cap) (w.setRow g (cur.toList.take l.length ++ b8s (List.replicate n 0) ++ cur.toList.drop (l.length + (b8s (List.replicate n 0)).length)).toArray) := by
          rw [hv]
          simp [Builtin.append_, run_underlying Try.underlying25, run_underlying Try.underlying3, sizeOf, typeInfo, zeroValue, hi, hz0, hz1, hz2, asInt, asIntOf, hw, hneg, h48i, hroom, hn, zeroCells8, Addr.add_lit, hst]
        refine ⟨_, _, hr, ⟨by simp [b8s], .inr ⟨g, cap, _, by simp, hb, setRow_heap w g cur _ _ _ hg, by simpa using hroom, hcm, ?_, ?_⟩⟩, ⟨⟨rfl, rfl, rfl, by simp, fun k _ hk => setRow_other w g k _ (fun e => hk (by rw [hv]; simp [Value.ownBlock, e]))⟩, .inl (by rw [hv]; rfl)⟩⟩
        · simp [b8s]; omega
        · have e1 : cur.toList.take l.length = b8s l := by simpa using htake
          rw [e1]
          rw [List.take_append_of_le_length (by simp [b8s])]
          rw [List.take_of_length_le (by simp [b8s])]
          simp [b8s]
      · have hcells : ∀ j u, (b8s l)[j]? = some u → w.cell? ((⟨g, 0, none⟩ : Addr).add j) = some u := World.ownsRow.cells hown (g := g) (by rw [hv]; rfl)
        refine grows (some ⟨g, 0, none⟩) cap (by omega) ?_ hv
        have := run_loadCells_list (P := Try.prog) w.drew ⟨g, 0, none⟩ (b8s l) hcells
        simpa [Builtin.firstCells, b8s] using this

theorem wpList_zero8 {ops : Array Oper} {rest : List Oper} {o : Oper} {a : Act} {w : World} {Q : Exit → Act → World → Prop} (hgd : o.guard = none) (s x : Operand)
    (ho : o.op = .call { callee := .builtin .append, args := #[s, x], argTypes := #[25, 3] })
    {base : Nat} {v : Value} {l : List UInt8} (hown : Ow w base v l) (n : Nat) (hs : a.eval s = v) (hx : a.eval x = .int .i64 (n : Int))
    (hsz : l.length + n ≤ 140737488355328) (hbase : base ≤ w.heap.size)
    (h : ∀ v' w', Ow w' base v' (l ++ List.replicate n 0) → Ext w w' v v' → wpList Try.prog ops Q rest (a.put o.dst v') w') : wpList Try.prog ops Q (o :: rest) a w := by
  obtain ⟨v', w', hr, h2, h3⟩ := run_zero8 w base v l hown n o.type hsz hbase
  exact Lib.wpList_append_run w hgd s x _ _ ho v _ hs hx v' w' hr (h v' w' h2 h3)
end Go.Proofs.Ythfnikdapknohaa

namespace Go.Proofs.Ythfnikdapknohaa
set_option linter.unusedSimpArgs false
set_option linter.unusedVariables false
open Go.RowKit

theorem infoSec : (Try.prog.info? 87).map (·.size) = some 2 := by kernel_rfl
/-- block g holds a Section -/
def SecAt (w : World) (g : Nat) (k v : Value) : Prop := w.heap[g]? = some (.cells #[k, v] 87 (0, 0))
theorem gsetRow (w : World) (g : Nat) (cs : Array Value) : w.grownBy (w.setRow g cs) (some g) :=
  ⟨rfl, rfl, rfl, by simp, fun i _ hne => setRow_other w g i cs (fun e => hne (by rw [e]))⟩
theorem SecAt.new_ (w : World) (k v : Value) : SecAt (w.alloc (.cells #[k, v] 87)) w.heap.size k v := heap_alloc_new w _
theorem SecAt.alloc {w : World} {g : Nat} {k v : Value} (h : SecAt w g k v) (hg : g < w.heap.size) (o : Obj) : SecAt (w.alloc o) g k v := (heap_alloc_old w o hg).trans h
theorem SecAt.below {w w' : World} {g B : Nat} {k v : Value} (h : SecAt w g k v) (hg : g < B) (hb : Below B w w') : SecAt w' g k v := (hb.block g hg).trans h
theorem SecAt.put {w : World} {g : Nat} {k v : Value} (h : SecAt w g k v) (k' v' : Value) : SecAt (w.setRow g #[k', v']) g k' v' := setRow_heap _ _ _ _ _ _ h
theorem SecAt.other {w : World} {g : Nat} {k v : Value} (h : SecAt w g k v) (g' : Nat) (hne : g ≠ g') (cs : Array Value) : SecAt (w.setRow g' cs) g k v := (setRow_other w g' g cs hne).trans h
theorem SecAt.lt {w : World} {g : Nat} {k v : Value} (h : SecAt w g k v) : g < w.heap.size := (Array.getElem?_eq_some_iff.1 h).1
theorem SecAt.cell0 {w : World} {g : Nat} {k v : Value} (h : SecAt w g k v) : w.cell? { block := g, off := 0 } = some k := by
  unfold SecAt at h; simp [World.cell?, h]
theorem SecAt.cell1 {w : World} {g : Nat} {k v : Value} (h : SecAt w g k v) : w.cell? { block := g, off := 1 } = some v := by
  unfold SecAt at h; simp [World.cell?, h]
theorem Ow.setRow_ {w : World} {base : Nat} {v : Value} {l : List UInt8} (h : Ow w base v l) {g : Nat} (hg : g < base) (cs : Array Value) : Ow (w.setRow g cs) base v l :=
  h.keep (gsetRow w g cs) (by
    cases hv : v.ownBlock with
    | none => exact .inl rfl
    | some k => exact .inr (fun e => by injection e with e; have := (h.blk k hv).1; omega))
theorem By.setRow_ {w : World} {B : Nat} {v : Value} {l : List UInt8} (h : By w B v l) {g : Nat} (hg : B ≤ g) (cs : Array Value) : By (w.setRow g cs) B v l :=
  h.below (bsetRow (Below.refl _ _) hg cs)

theorem results_sec {fn : Func} {p q r : Tmp} (h : fn.results = #[.cell p 87, .tmp q, .tmp r]) (tmps : Array Value) (w : World) (g : Nat) (k v : Value)
    (hp : tmps.getD p undef = .pointer (some ⟨g, 0, none⟩)) (hs : SecAt w g k v) :
    (results fn tmps).run Try.prog w = .ok (.tuple #[.agg #[k, v], tmps.getD q undef, tmps.getD r undef]) w := by
  have hp' : tmps[p]?.getD undef = .pointer (some ⟨g, 0, none⟩) := by simpa using hp
  have hr := run_loadVar_row w g 87 87 #[k, v] (0, 0) _ hs Try.underlying87 rfl infoSec
  simp [results, h, hp', asAddr, hr]

theorem wpList_store_sec {ops : Array Oper} {rest : List Oper} {o : Oper} {a : Act} {w : World} {Q : Exit → Act → World → Prop} (hgd : o.guard = none) (x y : Operand) (ho : o.op = .store 87 x y)
    (g : Nat) (k v k' v' : Value) (hx : a.eval x = .pointer (some ⟨g, 0, none⟩)) (hy : a.eval y = .agg #[k', v']) (hs : SecAt w g k v) (h1 : k'.oneCell' = true) (h2 : v'.oneCell' = true)
    (h : SecAt (w.setRow g #[k', v']) g k' v' → wpList Try.prog ops Q rest (a.put o.dst undef) (w.setRow g #[k', v'])) : wpList Try.prog ops Q (o :: rest) a w :=
  wpList_store_row hgd 87 x y ho g #[k', v'] hx hy 87 #[k, v] hs infoSec rfl (by
    intro u hu
    simp at hu
    rcases hu with rfl | rfl
    · exact h1
    · exact h2) (h (hs.put k' v'))
theorem wpList_load_sec {ops : Array Oper} {rest : List Oper} {o : Oper} {a : Act} {w : World} {Q : Exit → Act → World → Prop} (hgd : o.guard = none) (x : Operand) (ho : o.op = .load 87 x)
    (g : Nat) (k v : Value) (hx : a.eval x = .pointer (some ⟨g, 0, none⟩)) (hs : SecAt w g k v)
    (h : wpList Try.prog ops Q rest (a.put o.dst (.agg #[k, v])) w) : wpList Try.prog ops Q (o :: rest) a w :=
  wpList_load_row hgd 87 x ho g hx 87 #[k, v] (0, 0) _ hs Try.underlying87 rfl infoSec h
end Go.Proofs.Ythfnikdapknohaa

namespace Go.Proofs.Ythfnikdapknohaa
set_option linter.unusedSimpArgs false
set_option linter.unusedVariables false
open Go.RowKit

set_option maxRecDepth 100000 in
set_option maxHeartbeats 800000 in
theorem fput_any (w : World) (base : Nat) (v0 : Value) (l0 : List UInt8) (hown : Ow w base v0 l0) (k : UInt8) (v : Value) (l : List UInt8) (hby : By w base v l) (hsz : l.length ≤ 1048576) (hsz0 : l0.length ≤ 1099511627776)
    (hbase : base ≤ w.heap.size) :
    Calls Try.prog 61 #[v0, .agg #[.int .u8 (k.toNat : Int), v]] w fun e w' => ∃ v', e = .returned (.tuple #[v', .int .i64 0]) ∧ Ow w' base v' (l0 ++ frameOf k l) ∧ Ext w w' v0 v' := by
  have hby0 := hby
  obtain ⟨A, c, rfl, hc1, hc2, hrd⟩ := hby
  obtain ⟨A0, c0, rfl, hd1, hd2, hf0⟩ := hown.form_
  unfold maxLen at hc2 hd2
  have hx : (UInt32.ofNat l.length).toNat = l.length := by rw [UInt32.toNat_ofNat']; omega
  have h0 := fourAt0 (UInt32.ofNat l.length)
  have h1 := fourAt1 (UInt32.ofNat l.length)
  have h2 := fourAt2 (UInt32.ofNat l.length)
  have h3 := fourAt3 (UInt32.ofNat l.length)
  rw [hx] at h0 h1 h2 h3
  have h2' : (l.length : Int) / 65536 = ((fourAt (UInt32.ofNat l.length) 2).toNat : Int) := by omega
  have h3' : (l.length : Int) / 16777216 = ((fourAt (UInt32.ofNat l.length) 3).toNat : Int) := by omega
  clear h2 h3
  have hg : (UInt32.ofNat l.length).toNat < 4294967296 := u32_lt _
  have hcl : (k :: four (UInt32.ofNat l.length)).length = 5 := rfl
  have HF : Hid (frameOf k l = markOf (k :: four (UInt32.ofNat l.length)) ++ markOf l) := by unfold Hid; rfl
  have hby := By.new_ (w.alloc (.cells #[.int .u8 (k.toNat : Int), .slice A l.length c] 87)) (k :: four (UInt32.ofNat l.length)) (by simp [four_length, maxLen])
  have hv : (b8s (k :: four (UInt32.ofNat l.length))).toArray = #[.int .u8 (k.toNat : Int), .int .u8 ((fourAt (UInt32.ofNat l.length) 0).toNat : Int), .int .u8 ((fourAt (UInt32.ofNat l.length) 1).toNat : Int), .int .u8 ((fourAt (UInt32.ofNat l.length) 2).toNat : Int), .int .u8 ((fourAt (UInt32.ofNat l.length) 3).toNat : Int)] := rfl
  rw [hv] at hby
  clear hv
  have g0 := u8_lt (fourAt (UInt32.ofNat l.length) 0)
  have g1 := u8_lt (fourAt (UInt32.ofNat l.length) 1)
  generalize fourAt (UInt32.ofNat l.length) 0 = b0 at *
  generalize fourAt (UInt32.ofNat l.length) 1 = b1 at *
  generalize fourAt (UInt32.ofNat l.length) 2 = b2 at *
  generalize fourAt (UInt32.ofNat l.length) 3 = b3 at *
  generalize k :: four (UInt32.ofNat l.length) = hd at *
  have hml : (markOf hd).length = 9 := by rw [markOf_length]; omega
  rw [hcl] at hby
  clear hx hg
  go_enter Try.func61, Try.ntmps61
  go_wp2_with fail
  have hby1 := hby.more (B' := (w.heap.size + 1 + 1)) (by simp)
  refine (mark_any _ _ hd (by simpa using hby1) (by rw [hcl]; decide)).mono ?_
  rintro e w1 ⟨v1, rfl, hown1, hb1⟩
  have hb01 := bstep (bstep (balloc w _) (balloc _ _)) hb1
  have hown01 : Ow w1 base (.slice A0 l0.length c0) l0 := ((hown.alloc _).alloc _).below_ hb1
  have hbox1 : w1.cell? ⟨w.heap.size, 1, none⟩ = some (.slice A l.length c) := by
    rw [hb1.cell (by simp; omega), World.cell?_alloc_lt _ _ _ (by simp)]
    rw [World.cell?_alloc_new]; rfl
  have hb1v : By w1 base (.slice A l.length c) l := hby0.below (hb01.mono hbase)
  have hs1 := hb01.size
  have hne0 : ∀ k, (Value.slice A0 l0.length c0).ownBlock = some k → base ≤ k ∧ k < w.heap.size := hown.blk
  have hlt1 : w.heap.size < w1.heap.size := by have := hb1.size; simp at this; omega
  have hstep : ∀ (w2 : World) (v2 : Value), Ext w1 w2 (.slice A0 l0.length c0) v2 → w2.cell? { block := w.heap.size, off := 1 } = some (.slice A l.length c) ∧ By w2 base (.slice A l.length c) l := by
    intro w2 v2 hext2
    refine ⟨?_, hb1v.below (hext2.below (Nat.le_trans hbase hs1) fun k hk => (hne0 k hk).1)⟩
    rw [hext2.gr.cell_far _ hlt1 (fun e => absurd (show w.heap.size < w.heap.size from (hne0 _ e.symm).2) (by omega))]
    exact hbox1
  have Hstep := Lib.hid hstep
  clear hstep
  clear hne0 hf0 h0 h1 h2' h3' g0 g1 hby hby1 hrd
  go_wp2_with (
               at_builtin
               refine wpList_app8 rfl (.tmp 13) (.tmp 28) rfl hown01 hown1.by_ rfl rfl (by omega) (Nat.le_trans hbase hs1) ?_
               intro v2 w2 hown2 hext2
               have hs2 := hext2.gr.size
               have hbox2 := (Hstep.out w2 v2 hext2).1)
  have hb2v := (Hstep.out w2 v2 hext2).2
  refine (mark_any _ _ l (hb2v.more (Nat.le_trans (Nat.le_trans hbase hs1) hs2)) (by omega)).mono ?_
  rintro e w3 ⟨v3, rfl, hown3, hb3⟩
  have hown23 := hown2.below_ hb3
  have hml2 : (markOf l).length = l.length + 4 := markOf_length _
  have hs3 := hb3.size
  have hx1 := hext2.after hb01 _ rfl
  have hx3 := hx1.then_ hb3
  have hal : (l0 ++ markOf hd).length = l0.length + 9 := by rw [List.length_append, hml]
  go_wp2_with (
               at_builtin
               refine wpList_app8 rfl (.tmp 30) (.tmp 33) rfl hown23 hown3.by_ rfl rfl (by omega) (Nat.le_trans hbase hx3.gr.size) ?_
               intro v4 w4 hown4 hext4)
  go_ret2
  refine ⟨_, rfl, ?_, hx3.trans hext4⟩
  rw [HF.out, ← List.append_assoc]
  exact hown4

/-- too long a body isn't put -/
theorem fput_long (w : World) (v0 : Value) (k : UInt8) (A : Option Addr) (n c : Nat) (hn : 1048576 < n) (hc1 : n ≤ c) (hc2 : c ≤ maxLen) :
    Calls Try.prog 61 #[v0, .agg #[.int .u8 (k.toNat : Int), .slice A n c]] w fun e w' => e = .returned (.tuple #[v0, .int .i64 4]) ∧ Below w.heap.size w w' := by
  unfold maxLen at hc2
  go_enter Try.func61, Try.ntmps61
  go_wp2_with fail
  go_ret2
  exact ⟨rfl, balloc _ _⟩

set_option maxRecDepth 100000 in
set_option maxHeartbeats 1600000 in
theorem fget_any (w : World) (v : Value) (l : List UInt8) (hby : By w w.heap.size v l) (hsz : l.length ≤ 1099511627776) :
    Calls Try.prog 41 #[v] w fun e w' => ∃ v', e = .returned (.tuple #[.agg #[.int .u8 ((sK l).toNat : Int), v'], .int .i64 ((sN l : Nat) : Int), .int .i64 (sE l)]) ∧ Ow w' w.heap.size v' (sL l) ∧ Below w.heap.size w w' := by
  have hby0 := hby
  obtain ⟨A, c, rfl, hc1, hc2, hrd⟩ := hby
  unfold maxLen at hc2
  by_cases h9 : l.length < 9
  · have hE : sE l = 2 := by simp [sE, h9]
    have hL : sL l = [] := by simp [sL, hE]
    have hN : sN l = 0 := by simp [sN, hE]
    have hK : sK l = 0 := by simp [sK, hE]
    rw [hE, hL, hN, hK]
    clear hE hL hN hK
    go_enter Try.func41, Try.ntmps41
    go_wp2_with fail
    refine bodyPost_ret (v := .tuple #[.agg #[.int .u8 0, .slice none 0 0], .int .i64 0, .int .i64 2]) (by simp [results, Try.results41, go_sem]) rfl ?_
    exact ⟨_, rfl, Ow.nil_ _ _, balloc _ _⟩
  · have hcut : By w w.heap.size (.slice A 9 c) (l.take 9) := hby0.front_ (by omega)
    have ht9 : (l.take 9).length = 9 := by simp; omega
    cases hf : fitsB (l.take 9) with
    | false =>
      have hE : sE l = 5 := by simp [sE, h9, hf]
      have hL : sL l = [] := by simp [sL, hE]
      have hN : sN l = 0 := by simp [sN, hE]
      have hK : sK l = 0 := by simp [sK, hE]
      have hE9 : fitsE (l.take 9) = 5 := by unfold fitsE; rw [hf, ht9]; rfl
      have hL9 : fitsL (l.take 9) = [] := by unfold fitsL; rw [hf]; rfl
      rw [hE, hL, hN, hK]
      clear hE hL hN hK hrd
      generalize l.take 9 = t9 at *
      go_enter Try.func41, Try.ntmps41
      go_wp2_with fail
      refine (fits_any _ _ t9 ((hcut.alloc (Nat.le_refl _) _).more (by simp)) (by omega)).mono ?_
      rw [hE9, hL9]
      rintro e w1 ⟨v1, rfl, hown1, hb1⟩
      have hb01 := bstep (balloc w _) hb1
      have hs1 : SecAt w1 w.heap.size (.int .u8 0) (.slice none 0 0) := (SecAt.new_ w _ _).below (by simp) hb1
      go_wp2_with (refine wpList_store_sec rfl (.tmp 2) _ rfl w.heap.size _ _ (.int .u8 0) (.slice none 0 0) rfl rfl hs1 rfl rfl ?_
                   intro hs2)
      refine bodyPost_ret (results_sec rfl _ _ _ _ _ rfl hs2) rfl ?_
      exact ⟨_, rfl, Ow.nil_ _ _, bsetRow hb01 (Nat.le_refl _) _⟩
    | true =>
      obtain ⟨ad, rfl, _, _⟩ := hrd.ad (by omega)
      have hL9 : fitsL (l.take 9) = l.take 5 := by unfold fitsL; rw [hf, ht9]; simp [List.take_take]
      have hE9 : fitsE (l.take 9) = 0 := by unfold fitsE; rw [hf, ht9]; rfl
      have hle : sLen l = (l.getD 1 0).toNat + 256 * (l.getD 2 0).toNat + 65536 * (l.getD 3 0).toNat + 16777216 * (l.getD 4 0).toNat := rfl
      have hlt := sLen_lt l
      have hE : sE l = if 1048576 < sLen l then 4 else if l.length < sLen l + 13 then 2 else if fitsB ((l.drop 9).take (sLen l + 4)) then 0 else 5 := by
        unfold sE; rw [if_neg h9, hf, if_neg (by simp)]
      have hN : sN l = if sE l = 0 then sLen l + 13 else 0 := rfl
      have hL : sL l = if sE l = 0 then (l.drop 9).take (sLen l) else [] := rfl
      have hK : sK l = if sE l = 0 then l.getD 0 0 else 0 := rfl
      have hlen5 : (l.take 5).length = 5 := by simp; omega
      have hg : ∀ i, i < 5 → (l.take 5)[i]? = some (l.getD i 0) := by
        intro i hi
        rw [List.getElem?_take, if_pos hi]
        exact getD_get8 l i (by omega)
      have hcut2 : ∀ k, k ≤ l.length - 9 → By w w.heap.size (.slice (if c = 9 then some ad else some { block := ad.block, off := ad.off + 9 }) k (c - 9)) ((l.drop 9).take k) := fun k hk =>
        (hby0.back_ (k := 9) (by omega)).front_ (by simp; omega)
      have HE := Lib.hid hE
      have HN := Lib.hid hN
      have HL := Lib.hid hL
      have HK := Lib.hid hK
      have Hg := Lib.hid hg
      have Hle := Lib.hid hle
      have Hcut2 := Lib.hid hcut2
      clear hE hN hL hK hg hle hcut2 hrd
      generalize sE l = E at *
      generalize sN l = N at *
      generalize sL l = L at *
      generalize sK l = K0 at *
      generalize l.take 9 = t9 at *
      generalize l.take 5 = t5 at *
      go_enter Try.func41, Try.ntmps41
      go_wp2_with fail
      refine (fits_any _ _ t9 ((hcut.alloc (Nat.le_refl _) _).more (by simp)) (by omega)).mono ?_
      rw [hE9, hL9]
      rintro e w1 ⟨v1, rfl, hown1, hb1⟩
      have hb01 := bstep (balloc w _) hb1
      have hs1 : SecAt w1 w.heap.size (.int .u8 0) (.slice none 0 0) := (SecAt.new_ w _ _).below (by simp) hb1
      obtain ⟨A1, c1, rfl, hd1, hd2, hf1⟩ := hown1.form_
      obtain ⟨g1, rfl, hg1, hg2⟩ := hf1 (by omega)
      have hx0 := hown1.cell_ rfl 0 _ (Hg.out 0 (by omega))
      have hx1 := hown1.cell_ rfl 1 _ (Hg.out 1 (by omega))
      have hx2 := hown1.cell_ rfl 2 _ (Hg.out 2 (by omega))
      have hx3 := hown1.cell_ rfl 3 _ (Hg.out 3 (by omega))
      have hx4 := hown1.cell_ rfl 4 _ (Hg.out 4 (by omega))
      rw [hlen5] at hd1 hown1
      unfold maxLen at hd2
      generalize l.getD 0 0 = x0 at *
      generalize l.getD 1 0 = x1 at *
      generalize l.getD 2 0 = x2 at *
      generalize l.getD 3 0 = x3 at *
      generalize l.getD 4 0 = x4 at *
      have hhead := head_or x1 x2 x3 x4
      rw [← Hle.out] at hhead
      have b1 := u8_lt x1
      have b2 := u8_lt x2
      have b3 := u8_lt x3
      have b4 := u8_lt x4
      rw [hlen5]
      go_wp2_with fail
      go_quiet (fail)
      clear hx1 hx2 hx3 hx4 hhead
      generalize sLen l = n at *
      have hs2 : SecAt (w1.drewN nq) w.heap.size (.int .u8 0) (.slice none 0 0) := hs1
      have hb2 : Below w.heap.size w (w1.drewN nq) := bdrewN hb01 nq
      have hx2 : (w1.drewN nq).cell? { block := g1, off := 0 } = some (.int .u8 (x0.toNat : Int)) := hx0
      have hown2 : Ow (w1.drewN nq) (w.heap.size + 1) (.slice (some ⟨g1, 0, none⟩) 5 c1) t5 := by simpa using (show Ow (w1.drewN nq) _ _ _ from hown1)
      clear hs1 hb01 hx0 hb1 hown1
      generalize w1.drewN nq = W at *
      by_cases hbig : 1048576 < n
      · have e1 : E = 4 := by rw [HE.out, if_pos hbig]
        have e2 : N = 0 := by rw [HN.out, e1]; rfl
        have e3 : L = [] := by rw [HL.out, e1]; rfl
        have e4 : K0 = 0 := by rw [HK.out, e1]; rfl
        subst e1
        subst e2
        subst e3
        subst e4
        clear HE HN HL HK Hcut2 Hle
        go_wp2_with (refine wpList_store_sec rfl (.tmp 2) _ rfl w.heap.size _ _ (.int .u8 0) (.slice none 0 0) rfl rfl hs2 rfl rfl ?_
                     intro hs3)
        refine bodyPost_ret (results_sec rfl _ _ _ _ _ rfl hs3) rfl ?_
        exact ⟨_, rfl, Ow.nil_ _ _, bsetRow hb2 (Nat.le_refl _) _⟩
      · by_cases hsh : l.length < n + 13
        · have e1 : E = 2 := by rw [HE.out, if_neg hbig, if_pos hsh]
          have e2 : N = 0 := by rw [HN.out, e1]; rfl
          have e3 : L = [] := by rw [HL.out, e1]; rfl
          have e4 : K0 = 0 := by rw [HK.out, e1]; rfl
          subst e1
          subst e2
          subst e3
          subst e4
          clear HE HN HL HK Hcut2 Hle
          go_wp2_with (refine wpList_store_sec rfl (.tmp 2) _ rfl w.heap.size _ _ (.int .u8 0) (.slice none 0 0) rfl rfl hs2 rfl rfl ?_
                       intro hs3)
          refine bodyPost_ret (results_sec rfl _ _ _ _ _ rfl hs3) rfl ?_
          exact ⟨_, rfl, Ow.nil_ _ _, bsetRow hb2 (Nat.le_refl _) _⟩
        · have hc3 := Hcut2.out (n + 4) (by omega)
          have hlen3 : ((l.drop 9).take (n + 4)).length = n + 4 := by simp; omega
          have htk : ((l.drop 9).take (n + 4)).take (((l.drop 9).take (n + 4)).length - 4) = (l.drop 9).take n := by
            rw [hlen3, List.take_take]; congr 1; omega
          have hc9 : ¬ c = 9 := by omega
          rw [if_neg hc9] at hc3
          have HtL : Hid (fitsL ((l.drop 9).take (n + 4)) = if fitsB ((l.drop 9).take (n + 4)) then (l.drop 9).take n else []) := by
            unfold Hid fitsL; rw [htk]
          have HtE : Hid (fitsE ((l.drop 9).take (n + 4)) = if fitsB ((l.drop 9).take (n + 4)) then 0 else 5) := by
            unfold Hid fitsE; rw [if_neg (by omega)]
          clear htk Hcut2
          rw [if_neg hbig, if_neg hsh] at HE
          generalize (l.drop 9).take (n + 4) = tn at *
          generalize (l.drop 9).take n = own at *
          go_wp2_with fail
          rw [show 9 + n - 5 = n + 4 from by omega]
          refine (fits_any _ _ tn (hc3.step hb2) (by omega)).mono ?_
          rw [HtE.out, HtL.out]
          cases hfb : fitsB tn with
          | false =>
            have e1 : E = 5 := by rw [HE.out, hfb]; rfl
            have e2 : N = 0 := by rw [HN.out, e1]; rfl
            have e3 : L = [] := by rw [HL.out, e1]; rfl
            have e4 : K0 = 0 := by rw [HK.out, e1]; rfl
            subst e1
            subst e2
            subst e3
            subst e4
            clear HE HN HL HK Hle HtE HtL
            rintro e w3 ⟨v3, rfl, hown3, hb3⟩
            have hb23 := bstep hb2 hb3
            have hs3 := hs2.below hs2.lt hb3
            go_wp2_with (refine wpList_store_sec rfl (.tmp 2) _ rfl w.heap.size _ _ (.int .u8 0) (.slice none 0 0) rfl rfl hs3 rfl rfl ?_
                         intro hs4)
            refine bodyPost_ret (results_sec rfl _ _ _ _ _ rfl hs4) rfl ?_
            exact ⟨_, rfl, Ow.nil_ _ _, bsetRow hb23 (Nat.le_refl _) _⟩
          | true =>
            have e1 : E = 0 := by rw [HE.out, hfb]; rfl
            have e2 : N = n + 13 := by rw [HN.out, e1]; rfl
            have e3 : L = own := by rw [HL.out, e1]; rfl
            have e4 : K0 = x0 := by rw [HK.out, e1]; rfl
            subst e1
            subst e2
            subst e3
            subst e4
            clear HE HN HL HK Hle HtE HtL
            rintro e w3 ⟨v3, rfl, hown3, hb3⟩
            have hb23 := bstep hb2 hb3
            have hs3 := hs2.below hs2.lt hb3
            have hx3 : w3.cell? { block := g1, off := 0 } = some (.int .u8 (K0.toNat : Int)) := (hb3.cell (hown2.blk g1 rfl).2).trans hx2
            rw [if_pos rfl] at hown3
            obtain ⟨A3, c3, rfl, hd31, hd32, hf3⟩ := hown3.form_
            have hgs := hs2.lt
            go_wp2_with (refine wpList_store_sec rfl (.tmp 2) _ rfl w.heap.size _ _ (.int .u8 (K0.toNat : Int)) (.slice A3 L.length c3) rfl rfl hs3 rfl rfl ?_
                         intro hs4)
            have hown4 := (hown3.setRow_ hgs #[.int .u8 (K0.toNat : Int), .slice A3 L.length c3]).mono (Nat.le_of_lt hgs)
            refine bodyPost_ret (results_sec rfl _ _ _ _ _ rfl hs4) rfl ?_
            refine ⟨_, ?_, hown4, bsetRow hb23 (Nat.le_refl _) _⟩
            simp; omega

end Go.Proofs.Ythfnikdapknohaa

namespace Go.Proofs.Ythfnikdapknohaa
set_option linter.unusedSimpArgs false
set_option linter.unusedVariables false
open Go.RowKit Go.Maps

theorem obO_no {P : Program} {dl : List (Option Nat)} {Φ : List (Value → Prop)} {ds : List Nat} {a : Act} {s i : Nat} {J : Bool → Value → World → Prop} {ph : Value → Prop} {o : Oper}
    (h : ∀ f, PreO dl Φ f o.after.toList → ¬ Gd dl f o.guard ∧ ph undef) (hi : i ≠ s) : ObO P dl Φ ds a s J i ph o :=
  fun f b w' _ _ h3 => ⟨fun hg => absurd hg (h f h3).1, fun _ => ⟨(h f h3).2, hi⟩⟩
theorem Bt.pre_drew {m1 m2 : Nat} {a b : World} (h : Bt m1 m2 a.drew b) : Bt m1 m2 a b := ⟨h.os, h.tape, h.output, h.size, h.block⟩
theorem cell_of_block {w w' : World} {p : Addr} (h : w'.heap[p.block]? = w.heap[p.block]?) : w'.cell? p = w.cell? p := by unfold World.cell?; rw [h]
def idsOf (l : List MFile) : List Int := l.map fun f => (f.id.toNat : Int)
def blksOf (l : List MFile) : List Int := l.flatMap (·.blocks)
def nblk (l : List MFile) : Nat := (l.map fun f => f.blocks.length).sum
theorem beside_all (f : MFile) : ∀ prev : List MFile, prev.all (fun p => besideF p f) = (!(decide ((f.id.toNat : Int) ∈ idsOf prev)) && prev.all fun p => bless p.name f.name)
  | [] => by simp [idsOf]
  | p :: t => by
    have hi : (p.id = f.id) ↔ ((f.id.toNat : Int) = (p.id.toNat : Int)) := by
      rw [← UInt32.toNat_inj]
      omega
    rw [List.all_cons, List.all_cons, beside_all f t]
    unfold besideF idsOf
    simp only [List.map_cons, List.mem_cons]
    by_cases h1 : p.id = f.id
    · have := hi.1 h1
      simp [h1]
    · have h2 : ¬ ((f.id.toNat : Int) = (p.id.toNat : Int)) := fun e => h1 (hi.2 e)
      simp only [h1, h2, decide_false, Bool.false_or, false_or, Bool.not_not]
      cases bless p.name f.name <;> simp
theorem notin_all (x : Int) : ∀ prev : List MFile, prev.all (fun p => !decide (x ∈ p.blocks)) = !decide (x ∈ blksOf prev)
  | [] => by simp [blksOf]
  | p :: t => by
    rw [List.all_cons, notin_all x t]
    have e : blksOf (p :: t) = p.blocks ++ blksOf t := rfl
    rw [e]
    simp only [List.mem_append]
    by_cases h1 : x ∈ p.blocks <;> simp [h1]
theorem blkC_same (prev : List MFile) (l : List Int) (a : Nat) : blockOk prev l a = blkC (blksOf prev) l a := by
  unfold blockOk blkC
  rw [notin_all]
  generalize l.getD a 0 = x
  simp only [List.mem_append]
  by_cases h1 : x ∈ l.take a <;> by_cases h2 : x ∈ blksOf prev <;> by_cases h3 : x < 32 <;> by_cases h4 : 65536 ≤ x <;> simp [h1, h2, h3, h4]
theorem blksC_same (prev : List MFile) (l : List Int) (n : Nat) : blocksOk prev l n = blksC (blksOf prev) l n := by
  unfold blocksOk blksC
  congr 1
  funext a
  exact blkC_same prev l a
theorem filesR_rise (m : MMan) (k : Nat) (hk : k ≤ m.files.length) (h : filesR m k = true) (a b : Nat) (hb : b < k) (hab : a < b) : bless (m.files[a]'(by omega)).name (m.files[b]'(by omega)).name = true := by
  have := filesR_at m k b h hb hk
  unfold fileR at this
  rw [beside_all] at this
  simp only [Bool.and_eq_true, List.all_eq_true] at this
  refine this.1.2.2 _ ?_
  rw [List.mem_take_iff_getElem]
  exact ⟨a, by omega, rfl⟩
/-- one file's turn, as the code tells it -/
theorem round_eq (m : MMan) (k : Nat) (hk : k < m.files.length) (h : filesR m k = true) : fileR m.next (m.files.take k) m.files[k] =
    ((decide (k = 0) || bless (m.files[k - 1]'(by omega)).name m.files[k].name) && rightC m.next (idsOf (m.files.take k)) (blksOf (m.files.take k)) m.files[k]) := by
  have hall : (m.files.take k).all (fun p => bless p.name m.files[k].name) = (decide (k = 0) || bless (m.files[k - 1]'(by omega)).name m.files[k].name) := by
    by_cases h0 : k = 0
    · subst h0
      simp
    · simp only [h0, decide_false, Bool.false_or]
      cases hb : bless (m.files[k - 1]'(by omega)).name m.files[k].name with
      | true =>
        rw [List.all_eq_true]
        intro p hp
        obtain ⟨a, ha, rfl⟩ := List.mem_take_iff_getElem.1 hp
        have ha' : a < k := by omega
        rcases Nat.lt_or_ge a (k - 1) with hl | hl
        · exact bless_trans _ _ _ (filesR_rise m k (by omega) h a (k - 1) (by omega) hl) hb
        · obtain rfl : a = k - 1 := by omega
          exact hb
      | false =>
        rw [List.all_eq_false]
        refine ⟨m.files[k - 1]'(by omega), ?_, by simp [hb]⟩
        rw [List.mem_take_iff_getElem]
        exact ⟨k - 1, by omega, rfl⟩
  unfold fileR rightC
  rw [beside_all, hall, blksC_same]
  generalize basicF m.next m.files[k] = q1
  generalize decide ((m.files[k].id.toNat : Int) ∈ idsOf (m.files.take k)) = q2
  generalize (decide (k = 0) || bless (m.files[k - 1]'(by omega)).name m.files[k].name) = q3
  generalize blksC (blksOf (m.files.take k)) m.files[k].blocks m.files[k].blocks.length = q4
  cases q1 <;> cases q2 <;> cases q3 <;> cases q4 <;> rfl
theorem vput_pos (n : Nat) (h : n < 18446744073709551616) : 1 ≤ (vput n).length := (vput_len64 n h).1
theorem nums_ge (l : List Int) : l.length ≤ (nums l).length := by
  induction l with
  | nil => simp [nums]
  | cons x l ih =>
    have e : nums (x :: l) = vput (u64Of x) ++ nums l := rfl
    have := vput_pos (u64Of x) (u64Of_lt x)
    rw [e, List.length_append, List.length_cons]
    omega
theorem nblk_le : ∀ l : List MFile, nblk l ≤ (l.flatMap bodyF).length
  | [] => by simp [nblk]
  | f :: t => by
    have e : nblk (f :: t) = f.blocks.length + nblk t := by simp [nblk]
    rw [e, List.flatMap_cons, List.length_append, bodyF_len]
    have := nblk_le t
    have := nums_ge f.blocks
    omega
theorem len_le : ∀ l : List MFile, l.length ≤ (l.flatMap bodyF).length
  | [] => by simp
  | f :: t => by
    rw [List.flatMap_cons, List.length_append, bodyF_len, List.length_cons]
    have := len_le t
    have := vput_pos f.id.toNat (by have := u32_lt f.id; omega)
    omega
theorem nblk_take (l : List MFile) (k : Nat) (hk : k < l.length) : nblk (l.take (k + 1)) = nblk (l.take k) + l[k].blocks.length := by
  unfold nblk
  rw [List.take_add_one, List.getElem?_eq_getElem hk, Option.toList_some, List.map_append, List.sum_append]
  simp
theorem nblk_take_le (l : List MFile) (k : Nat) (hk : k < l.length) : nblk (l.take k) + l[k].blocks.length ≤ (l.flatMap bodyF).length := by
  rw [← nblk_take l k hk]
  refine Nat.le_trans (nblk_le _) ?_
  have e : l.flatMap bodyF = (l.take (k + 1)).flatMap bodyF ++ (l.drop (k + 1)).flatMap bodyF := by rw [← List.flatMap_append, List.take_append_drop]
  rw [e, List.length_append]
  omega
theorem ids_take (l : List MFile) (k : Nat) (hk : k < l.length) (x : Int) : x ∈ (l[k].id.toNat : Int) :: idsOf (l.take k) ↔ x ∈ idsOf (l.take (k + 1)) := by
  unfold idsOf
  rw [List.take_add_one, List.getElem?_eq_getElem hk, Option.toList_some, List.map_append, List.mem_append, List.mem_cons]
  simp only [List.map_cons, List.map_nil, List.mem_singleton]
  exact Or.comm
theorem blks_take (l : List MFile) (k : Nat) (hk : k < l.length) (x : Int) : x ∈ l[k].blocks ++ blksOf (l.take k) ↔ x ∈ blksOf (l.take (k + 1)) := by
  unfold blksOf
  rw [List.take_add_one, List.getElem?_eq_getElem hk, Option.toList_some, List.flatMap_append, List.mem_append, List.mem_append, List.flatMap_cons, List.flatMap_nil, List.append_nil]
  exact Or.comm

end Go.Proofs.Ythfnikdapknohaa

namespace Go.Proofs.Ythfnikdapknohaa
set_option linter.unusedSimpArgs false
set_option linter.unusedVariables false
open Go.RowKit

/-- blocks: so many are to come -/
def rblk : Nat → List Int → List UInt8 → Int → List Int × List UInt8 × Int
  | 0, acc, l, e => (acc, l, e)
  | n + 1, acc, l, e => if e ≠ 0 then (acc, l, e) else rblk n (acc ++ [((numS 65536 l e).1 : Int)]) (numS 65536 l e).2.1 (numS 65536 l e).2.2
def rf1 (l : List UInt8) (e : Int) : Nat × List UInt8 × Int := numS 32 l e
def rf2 (l : List UInt8) (e : Int) : List UInt8 × List UInt8 × Int := bytesS ((rf1 l e).1 : Int) (rf1 l e).2.1 (rf1 l e).2.2
def rf3 (l : List UInt8) (e : Int) : Nat × List UInt8 × Int := numS 4294967295 (rf2 l e).2.1 (rf2 l e).2.2
def rf4 (l : List UInt8) (e : Int) : Nat × List UInt8 × Int := numS 7340032 (rf3 l e).2.1 (rf3 l e).2.2
def rf5 (l : List UInt8) (e : Int) : List Int × List UInt8 × Int := rblk (manyOf ((rf4 l e).1 : Int)).toNat [] (rf4 l e).2.1 (rf4 l e).2.2
/-- one file -/
def rfileP (l : List UInt8) (e : Int) : MFile × List UInt8 × Int := (⟨(rf2 l e).1, UInt32.ofNat (rf3 l e).1, ((rf4 l e).1 : Int), (rf5 l e).1⟩, (rf5 l e).2.1, (rf5 l e).2.2)
def rfilesP : Nat → List MFile → List UInt8 → Int → List MFile × List UInt8 × Int
  | 0, acc, l, e => (acc, l, e)
  | n + 1, acc, l, e => if e ≠ 0 then (acc, l, e) else rfilesP n (acc ++ [(rfileP l e).1]) (rfileP l e).2.1 (rfileP l e).2.2
def rm1 (l : List UInt8) : Nat × List UInt8 × Int := numS 18446744073709551615 l 0
def rm2 (l : List UInt8) : Nat × List UInt8 × Int := numS 4294967295 (rm1 l).2.1 (rm1 l).2.2
def rm3 (l : List UInt8) : Nat × List UInt8 × Int := numS 2048 (rm2 l).2.1 (rm2 l).2.2
def rm4 (l : List UInt8) : List MFile × List UInt8 × Int := rfilesP (rm3 l).1 [] (rm3 l).2.1 (rm3 l).2.2
def rmanP (l : List UInt8) : MMan := ⟨UInt64.ofNat (rm1 l).1, UInt32.ofNat (rm2 l).1, (rm4 l).1⟩

section
variable {P : Nat → Prop} {w w' : World}
theorem OwnR.chg {α : Type} {E : TypeId} {C : Cdc α} {base : Nat} {S : Nat → Prop} {v : Value} {xs : List α} (h : OwnR E C w base S v xs) (hc : Chg P w w') (hv : ∀ k, v.ownBlock = some k → ¬ P k) (hS : ∀ k, S k → ¬ P k) : OwnR E C w' base S v xs := by
  have hb := h.blk
  obtain ⟨css, hl, ⟨h1, h2⟩, h3, h4⟩ := h
  refine ⟨css, hl, ⟨h1, ?_⟩, fun i cs x hcs hx => C.keep (h3 i cs x hcs hx) fun p hp => World.cell?_of_block (hc.block p.block (h4 _ hp).1 (hS _ hp)), fun k hk => ⟨Nat.lt_of_lt_of_le (h4 k hk).1 hc.size, (h4 k hk).2⟩⟩
  rcases h2 with h2 | ⟨g, cap, cur, e, hg, h5, r⟩
  · exact .inl h2
  · have hk := hb g (by rw [e]; rfl)
    exact .inr ⟨g, cap, cur, e, hg, (hc.block g hk.2 (hv g (by rw [e]; rfl))).trans h5, r⟩
theorem OwnR.rowOwn {α : Type} {E : TypeId} {C : Cdc α} {base : Nat} {S : Nat → Prop} {v : Value} {xs : List α} (h : OwnR E C w base S v xs) : RowOn C w (fun k => v.ownBlock = some k) S v xs := by
  have h0 := h.row
  rcases h.form with ⟨rfl, rfl⟩ | ⟨g, cap, rfl, h1, h2, _, _⟩
  · exact RowOn.nil_
  · obtain ⟨A, c, e, hc1, hc2, h3⟩ := h0
    injection e with e1 e2 e3
    subst e1
    exact ⟨_, cap, rfl, h1, h2, fun hn => by
      obtain ⟨ad, e4, _, h5⟩ := h3 hn
      injection e4 with e4
      subst e4
      exact ⟨_, rfl, rfl, h5⟩⟩
end
/-- a manifest among new blocks (from lo on) -/
def MIn (w : World) (lo : Nat) (v : Value) (m : MMan) : Prop := ∃ vf, v = .agg (encM m vf).toArray ∧ RowOn cFile w (fun k => lo ≤ k ∧ k < w.heap.size) (fun k => lo ≤ k ∧ k < w.heap.size) vf m.files
theorem MIn.mat {w : World} {lo : Nat} {v : Value} {m : MMan} (h : MIn w lo v m) : MAt w w.heap.size v m := by
  obtain ⟨vf, e, h⟩ := h
  exact ⟨vf, e, h.mono (fun k hk => hk.2) (fun k hk => hk.2)⟩
theorem MIn.chg {w w' : World} {lo : Nat} {v : Value} {m : MMan} {P : Nat → Prop} (h : MIn w lo v m) (hc : Chg P w w') (hp : ∀ k, P k → k < lo) : MIn w' lo v m := by
  obtain ⟨vf, e, h⟩ := h
  have hk : ∀ p : Addr, (lo ≤ p.block ∧ p.block < w.heap.size) → w'.cell? p = w.cell? p := fun p hq => World.cell?_of_block (hc.block p.block hq.2 fun hx => by have := hp _ hx; omega)
  have := hc.size
  exact ⟨vf, e, (h.keep hk hk).mono (fun k hk => ⟨hk.1, by omega⟩) (fun k hk => ⟨hk.1, by omega⟩)⟩
theorem MIn.step {w w' : World} {lo : Nat} {v : Value} {m : MMan} (h : MIn w lo v m) (hb : Below w.heap.size w w') : MIn w' lo v m := h.chg (P := fun _ => False) (Chg.ofBelow hb) (fun _ h => h.elim)
theorem MIn.low {w : World} {lo lo' : Nat} {v : Value} {m : MMan} (h : MIn w lo v m) (hl : lo' ≤ lo) : MIn w lo' v m := by
  obtain ⟨vf, e, h⟩ := h
  exact ⟨vf, e, h.mono (fun k hk => ⟨by omega, hk.2⟩) (fun k hk => ⟨by omega, hk.2⟩)⟩
def zeroMc : List Value := [.int .u64 0, .int .u32 0, .slice none 0 0]
theorem zeroM_cells : (Value.agg zeroMc.toArray).cells = zeroMc.toArray := rfl
theorem info_i64 : (Try.prog.info? 3).map (fun i => (i.zero, i.size, i.bytes)) = some (some (.int .i64 0), cInt.n, 8) := by kernel_rfl
theorem encM_one (m : MMan) (v : Value) (hv : v.oneCell' = true) : ∀ u ∈ encM m v, u.oneCell' = true := fun u hu => by
  simp [encM] at hu
  rcases hu with rfl | rfl | rfl
  · rfl
  · rfl
  · exact hv
theorem manyOf_nat (n : Nat) : manyOf (n : Int) = (((manyOf (n : Int)).toNat : Nat) : Int) := by unfold manyOf; split <;> omega
theorem manyOf_le (n : Nat) (h : n ≤ 7340032) : (manyOf (n : Int)).toNat ≤ 65536 := by unfold manyOf; split <;> omega
end Go.Proofs.Ythfnikdapknohaa
