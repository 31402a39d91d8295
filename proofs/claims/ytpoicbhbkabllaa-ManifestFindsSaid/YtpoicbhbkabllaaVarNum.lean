/- varint.Reader.Num -/
import Derived.Test.YtpoicbhbkabllaaVarRd
namespace Go.Proofs.Ytpoicbhbkabllaa
set_option linter.unusedSimpArgs false
set_option linter.unusedVariables false
open Go.RowKit

theorem vgo_cons (l : List UInt8) (k n : Nat) (hk : k < l.length) : vgo (l.drop k) k n =
    if k = 9 ∧ 1 < (l[k]).toNat % 128 ∨ 9 < k ∨ 0 < k ∧ (l[k]).toNat = 0 then .inl 3
    else if 127 < (l[k]).toNat then vgo (l.drop (k + 1)) (k + 1) (n + (l[k]).toNat % 128 * 2 ^ (7 * k))
    else .inr (n + (l[k]).toNat % 128 * 2 ^ (7 * k), k + 1) := by
  rw [List.drop_eq_getElem_cons hk]
  rfl
theorem and127 (c : UInt8) : bits .and .u8 (c.toNat : Int) 127 = (c.toNat : Int) % 128 := by
  have h := and_u8 c 127
  rw [show (((127 : UInt8).toNat : Nat) : Int) = 127 from rfl] at h
  rw [h, UInt8.toNat_and]
  have : c.toNat &&& (127 : UInt8).toNat = c.toNat % 128 := Nat.and_two_pow_sub_one_eq_mod c.toNat 7
  omega
theorem or_shift (n a i : Nat) (hi : i ≤ 9) (hn : n < 2 ^ (7 * i)) (ha : a < 128) (h9 : i = 9 → a ≤ 1) : bits .or .u64 (n : Int) ((a * 2 ^ (7 * i) : Nat) : Int) = ((n + a * 2 ^ (7 * i) : Nat) : Int) ∧ a * 2 ^ (7 * i) < 18446744073709551616 ∧ n + a * 2 ^ (7 * i) < 18446744073709551616 := by
  have hb : n + a * 2 ^ (7 * i) < 18446744073709551616 ∧ n < 18446744073709551616 := by
    rcases Nat.lt_or_ge i 9 with h | h
    · have h2 : 2 ^ (7 * i) ≤ 2 ^ 56 := Nat.pow_le_pow_right (by decide) (by omega)
      have := Nat.mul_le_mul (show a ≤ 127 by omega) h2
      omega
    · obtain rfl : i = 9 := by omega
      have := Nat.mul_le_mul_right (2 ^ (7 * 9)) (h9 rfl)
      omega
  refine ⟨?_, by omega, hb.1⟩
  have h := or_u64 (UInt64.ofNat n) (UInt64.ofNat (a * 2 ^ (7 * i)))
  have e1 : (UInt64.ofNat n).toNat = n := by rw [UInt64.toNat_ofNat']; exact Nat.mod_eq_of_lt (by omega)
  have e2 : (UInt64.ofNat (a * 2 ^ (7 * i))).toNat = a * 2 ^ (7 * i) := by rw [UInt64.toNat_ofNat']; exact Nat.mod_eq_of_lt (by omega)
  rw [UInt64.toNat_or, e1, e2] at h
  rw [h, Nat.or_comm, Nat.mul_comm, ← Nat.two_pow_add_eq_or_of_lt hn a]
  congr 1
  omega

set_option maxRecDepth 100000 in
set_option maxHeartbeats 1600000 in
theorem vnum_any (w : World) (g : Nat) (l : List UInt8) (e : Int) (most : Nat) (hm : most < 18446744073709551616) (h : RdrAt w g l e) :
    Calls Try.prog 83 #[.pointer (some ⟨g, 0, none⟩), .int .u64 (most : Int)] w fun ev w' => ev = .returned (.int .u64 ((numS most l e).1 : Nat)) ∧ RdrAt w' g (numS most l e).2.1 (numS most l e).2.2 ∧ w.grownBy w' (some g) := by
  have h0 := h
  obtain ⟨v, l', h1, h2, h3, h4, h5⟩ := h
  have hc := h1.cell 1 _ rfl
  have hd := h1.cell 0 _ rfl
  have hfr := h1.frozen 0
  by_cases he : e = 0
  · obtain rfl := h3 he
    subst he
    obtain ⟨A, c, rfl, hc1, hc2, hrd⟩ := id h2
    unfold maxLen at hc2
    have hbad := fun (n : Int) hn => vbad_any w g l' 0 n h0 hn
    have Hbad := Lib.hid hbad
    have hres : numS most l' 0 = numR most l' := by unfold numS; rw [if_neg (by simp)]
    have hRe : ∀ e, vgo l' 0 0 = .inl e → numR most l' = (0, [], e) := fun e h => by unfold numR; rw [h]
    have hRb : ∀ n k, vgo l' 0 0 = .inr (n, k) → most < n → numR most l' = (0, [], 9) := fun n k h hb => by unfold numR; rw [h]; exact if_pos hb
    have hRo : ∀ n k, vgo l' 0 0 = .inr (n, k) → ¬ most < n → numR most l' = (n, l'.drop k, 0) := fun n k h hb => by unfold numR; rw [h]; exact if_neg hb
    rw [hres]
    generalize numR most l' = R at *
    have HRe := Lib.hid hRe
    have HRb := Lib.hid hRb
    have HRo := Lib.hid hRo
    clear hres hbad h0 h3 h4 h5 hRe hRb hRo
    go_enter Try.func83, Try.ntmps83
    go_wp2_with fail
    go_loop [5, 22] (fun x i => ∃ k n : Nat, k ≤ l'.length ∧ k ≤ 10 ∧ i = .int .i64 k ∧ x = .int .u64 n ∧ vgo l' 0 0 = vgo (l'.drop k) k n ∧ n < 18446744073709551616 ∧ (k ≤ 9 → n < 2 ^ (7 * k))) (fun _ i => l'.length - (intOf i).toNat)
    case atStart => exact ⟨0, 0, by omega, by omega, rfl, rfl, by simp, by simp, by simp⟩
    case round =>
      obtain ⟨k, n, hk, hk10, rfl, rfl, hv, hn, hn9⟩ := hrel
      by_cases hlt : k < l'.length
      · rw [vgo_cons l' k n hlt] at hv
        obtain ⟨ad, rfl, _, hcs⟩ := hrd.ad (by omega)
        have hx := hcs k _ (b8s_get l' k hlt)
        have hback := h2.back_ (k := k + 1) (by omega)
        generalize l'[k] = b at *
        have hb := u8_lt b
        have hand := and127 b
        have hl8 := fun W => len8_any W (b.toNat % 128) (by omega)
        have hbl := bitLen_small (b.toNat % 128) (by omega)
        have hcast : ((b.toNat : Int) % 128) = ((b.toNat % 128 : Nat) : Int) := by omega
        rw [hcast] at hand
        clear hcast
        have hL := hbl.1
        generalize Lib.bitLen (b.toNat % 128) = L at *
        have Hl8 := Lib.hid hl8
        have Hback := Lib.hid hback
        have Hbl := Lib.hid hbl.2
        have Hn9 := Lib.hid hn9
        clear hl8 hback hrd hcs hbl hn9
        by_cases herr : k = 9 ∧ 1 < b.toNat % 128 ∨ 9 < k ∨ 0 < k ∧ b.toNat = 0
        · rw [if_pos herr] at hv
          have h64 : 64 < k * 7 + L ∨ k * 7 + L ≤ 64 ∧ 0 < k ∧ b.toNat = 0 := by
            have := Hbl.out; omega
          have HR := Lib.hid (HRe.out 3 hv)
          clear hv Hn9 herr Hbl HRe HRb HRo
          rcases h64 with h64 | ⟨h64, h0k, hb0⟩
          · go_wp2_with (first
              | (go_at_call 96; refine (Hl8.out _).mono ?_; rintro _ _ ⟨rfl, rfl⟩)
              | (go_at_call 97; refine (Hbad.out 3 (by decide)).mono ?_; rintro _ w1 ⟨rfl, hr1, hg1⟩))
            go_ret
            rw [HR.out]
            exact ⟨rfl, hr1, hg1⟩
          · have hz : ((b.toNat : Int) == 0) = true := by simp; omega
            clear hb0
            go_wp2_with (first
              | (go_at_call 96; refine (Hl8.out _).mono ?_; rintro _ _ ⟨rfl, rfl⟩)
              | (go_at_call 97; refine (Hbad.out 3 (by decide)).mono ?_; rintro _ w1 ⟨rfl, hr1, hg1⟩))
            go_ret
            rw [HR.out]
            exact ⟨rfl, hr1, hg1⟩
        · rw [if_neg herr] at hv
          have h64 : k * 7 + L ≤ 64 ∧ (k = 0 ∨ 0 < b.toNat) ∧ k ≤ 9 ∧ (k = 9 → b.toNat % 128 ≤ 1) := by
            have := Hbl.out; omega
          obtain ⟨h64, h0k, hk9, h9⟩ := h64
          obtain ⟨hor, hsh, hn'⟩ := or_shift n (b.toNat % 128) k hk9 (Hn9.out hk9) (Nat.mod_lt _ (by decide)) h9
          have H9 := Lib.hid h9
          have h64' : decide (64 < (k : Int) * 7 + (L : Int)) = false := by simp; omega
          have hz : 0 < k → ((b.toNat : Int) == 0) = false := fun h => by simp; omega
          have hpow : k + 1 ≤ 9 → n + b.toNat % 128 * 2 ^ (7 * k) < 2 ^ (7 * (k + 1)) := fun h => by
            have h1 := Hn9.out hk9
            have h2 := Nat.mul_le_mul_right (2 ^ (7 * k)) (show b.toNat % 128 ≤ 127 by omega)
            rw [show 7 * (k + 1) = 7 * k + 7 from by omega, Nat.pow_add]
            omega
          have hor' : bits .or .u64 (n : Int) (IntKind.u64.wrap ((b.toNat : Int) % 128 * 2 ^ (7 * k))) = ((n + b.toNat % 128 * 2 ^ (7 * k) : Nat) : Int) := by
            have e : ((b.toNat : Int) % 128 * 2 ^ (7 * k)) = ((b.toNat % 128 * 2 ^ (7 * k) : Nat) : Int) := by simp
            rw [e, wrap_u64, Int.emod_eq_of_lt (by omega) (by omega)]
            exact hor
          have Hpow := Lib.hid hpow
          clear herr h9 Hbl hor hsh hpow
          generalize n + b.toNat % 128 * 2 ^ (7 * k) = N at *
          by_cases hgt : 127 < b.toNat
          · rw [if_pos hgt] at hv
            have Hv := Lib.hid hv
            clear hv
            by_cases hk0 : 0 < k
            all_goals
              first | have hz := hz hk0 | (have hk0i : decide (0 < k) = false := (by simp; omega); clear hk0)
              go_wp2_with (first
                | (go_at_call 96; refine (Hl8.out _).mono ?_; rintro _ _ ⟨rfl, rfl⟩))
              exact ⟨⟨_, N, by omega, by omega, by go_num, rfl, Hv.out, hn', Hpow.out⟩, by simp [intOf]; omega⟩
          · rw [if_neg hgt] at hv
            by_cases hmo : most < N
            · have HR := Lib.hid (HRb.out _ _ hv hmo)
              clear hv HRb HRo HRe Hpow
              by_cases hk0 : 0 < k
              all_goals
                first | have hz := hz hk0 | (have hk0i : decide (0 < k) = false := (by simp; omega); clear hk0)
                go_wp2_with (first
                  | (go_at_call 96; refine (Hl8.out _).mono ?_; rintro _ _ ⟨rfl, rfl⟩)
                  | (go_at_call 97; refine (Hbad.out 9 (by decide)).mono ?_; rintro _ w1 ⟨rfl, hr1, hg1⟩))
                go_ret
                rw [HR.out]
                exact ⟨rfl, hr1, hg1⟩
            · have HR := Lib.hid (HRo.out _ _ hv hmo)
              have Hput := Lib.hid (fun u => h1.put 0 u)
              clear hv HRb HRo HRe Hpow
              by_cases hk0 : 0 < k
              all_goals
                first | have hz := hz hk0 | (have hk0i : decide (0 < k) = false := (by simp; omega); clear hk0)
                go_wp2_with (first
                  | (go_at_call 96; refine (Hl8.out _).mono ?_; rintro _ _ ⟨rfl, rfl⟩))
                all_goals
                  go_ret
                  rw [HR.out]
                  have hb2 := Hback.out
                  first | rw [if_pos (show c = k + 1 by first | assumption | omega), show c - (k + 1) = 0 from by omega] at hb2 | rw [if_neg (show ¬ c = k + 1 by first | assumption | omega)] at hb2
                  exact ⟨rfl, ⟨_, _, Hput.out _, hb2.below ((Below.refl _ _).setCell (p := ⟨g, 0, none⟩) (Nat.le_refl _) _), fun _ => rfl, fun h => absurd rfl h, by show _ ≤ (0 : Int); decide, by show (0 : Int) ≤ _; decide⟩, gset _ _ _⟩
      · obtain rfl : k = l'.length := by omega
        rw [List.drop_eq_nil_of_le (Nat.le_refl _)] at hv
        have HR := Lib.hid (HRe.out 2 hv)
        clear hv HRe HRb HRo
        go_wp2_with (first
          | (go_at_call 97; refine (Hbad.out 2 (by decide)).mono ?_; rintro _ w1 ⟨rfl, hr1, hg1⟩))
        go_ret
        rw [HR.out]
        exact ⟨rfl, hr1, hg1⟩
  · have hne : (e != 0) = true := by simpa using he
    have hne' : (e == 0) = false := by simpa using he
    have hR : numS most l e = (0, [], e) := by unfold numS; rw [if_pos he]
    rw [hR]
    have hl := h4 he
    subst hl
    clear hR
    go_enter Try.func83, Try.ntmps83
    go_wp2_with fail
    go_ret
    exact ⟨rfl, h0, grefl _ _⟩
end Go.Proofs.Ytpoicbhbkabllaa
