/- the reference's Num of a reader -/
import Derived.Test.YtpoicbhbkabllaaVarNum
import Derived.RegionTactic
import Derived.ChangeAlike
namespace Go.Proofs.Ytpoicbhbkabllaa
set_option linter.unusedSimpArgs false
set_option linter.unusedVariables false
open Go.RowKit

theorem bdrew {B : Nat} {a w : World} (h : Below B a w) : Below B a w.drew := h.drew
set_option maxRecDepth 100000 in
set_option maxHeartbeats 1600000 in
theorem rnum_any (w : World) (B : Nat) (v : Value) (l : List UInt8) (e : Int) (most : Nat) (hm : most < 18446744073709551616) (hby : By w B v l) (hB : B ≤ w.heap.size) (hl : e ≠ 0 → l = []) :
    Calls Try.prog 61 #[.agg #[v, .int .i64 e], .int .u64 (most : Int)] w fun ev w' => ∃ v', ev = .returned (.tuple #[.int .u64 ((numS most l e).1 : Nat), .agg #[v', .int .i64 (numS most l e).2.2]]) ∧ By w' B v' (numS most l e).2.1 ∧ Below w.heap.size w w' := by
  obtain ⟨A, c, rfl, hc1, hc2, hrd⟩ := id hby
  unfold maxLen at hc2
  by_cases he : e = 0
  · subst he
    have hres : numS most l 0 = numR most l := by unfold numS; rw [if_neg (by simp)]
    have hRe : ∀ e, vgo l 0 0 = .inl e → numR most l = (0, [], e) := fun e h => by unfold numR; rw [h]
    have hRb : ∀ n k, vgo l 0 0 = .inr (n, k) → most < n → numR most l = (0, [], 9) := fun n k h hb => by unfold numR; rw [h]; exact if_pos hb
    have hRo : ∀ n k, vgo l 0 0 = .inr (n, k) → ¬ most < n → numR most l = (n, l.drop k, 0) := fun n k h hb => by unfold numR; rw [h]; exact if_neg hb
    rw [hres]
    generalize numR most l = R at *
    have HRe := Lib.hid hRe
    have HRb := Lib.hid hRb
    have HRo := Lib.hid hRo
    clear hres hRe hRb hRo hl
    go_enter Try.func61, Try.ntmps61
    go_wp2_with fail
    go_loop [6, 7, 17] (fun x s i => ∃ k n sc : Nat, k ≤ l.length ∧ k ≤ 10 ∧ i = .int .i64 k ∧ x = .int .u64 n ∧ s = .int .u64 sc ∧ sc = 2 ^ (7 * k) % 18446744073709551616 ∧ vgo l 0 0 = vgo (l.drop k) k n ∧ n < 18446744073709551616 ∧ (k ≤ 9 → n < 2 ^ (7 * k))) (fun _ _ i => l.length - (intOf i).toNat)
    case atStart => exact ⟨0, 0, 1, by omega, by omega, rfl, rfl, rfl, by simp, by simp, by simp, by simp⟩
    case round =>
      obtain ⟨k, n, sc, hk, hk10, rfl, rfl, rfl, hsc0, hv, hn, hn9⟩ := hrel
      have hscl : sc < 18446744073709551616 := by omega
      have Hsc0 := Lib.hid hsc0
      clear hsc0
      by_cases hlt : k < l.length
      · rw [vgo_cons l k n hlt] at hv
        obtain ⟨ad, rfl, hab, hcs⟩ := hrd.ad (by omega)
        have hx := hcs k _ (b8s_get l k hlt)
        have hback := hby.back_ (k := k + 1) (by omega)
        have hx' : ((w.alloc (.cells #[.slice (some ad) l.length c, .int .i64 0] 114)).alloc (.cells #[.slice none 0 0, .int .i64 0] 114)).cell? (ad.add k) = some (.int .u8 ((l[k]).toNat : Int)) := by
          rw [World.cell?_alloc_lt _ _ _ (by rw [add_block]; simp; omega), World.cell?_alloc_lt _ _ _ (by rw [add_block]; omega)]
          exact hx
        generalize l[k] = b at *
        have hb := u8_lt b
        have Hback := Lib.hid hback
        have Hn9 := Lib.hid hn9
        clear hback hrd hcs hn9 hby hx
        by_cases herr : k = 9 ∧ 1 < b.toNat % 128 ∨ 9 < k ∨ 0 < k ∧ b.toNat = 0
        · rw [if_pos herr] at hv
          have HR := Lib.hid (HRe.out 3 hv)
          clear hv Hn9 HRe HRb HRo
          have h3 : (((k : Int) == 9) = true ∧ decide (1 < (b.toNat : Int) % 128) = true) ∨ (((k : Int) == 9) = true ∧ decide (1 < (b.toNat : Int) % 128) = false ∧ decide (9 < (k : Int)) = false ∧ decide (0 < k) = true ∧ ((b.toNat : Int) == 0) = true) ∨ (((k : Int) == 9) = false ∧ decide (9 < (k : Int)) = true) ∨ (((k : Int) == 9) = false ∧ decide (9 < (k : Int)) = false ∧ decide (0 < k) = true ∧ ((b.toNat : Int) == 0) = true) := by
            by_cases h9 : k = 9
            · by_cases h1 : 1 < b.toNat % 128
              · left; simp; omega
              · right; left; simp; omega
            · by_cases hk9 : 9 < k
              · right; right; left; simp; omega
              · right; right; right; simp; omega
          clear herr
          rcases h3 with ⟨h1, h2⟩ | ⟨h1, h2, h3, h4, h5⟩ | ⟨h1, h2⟩ | ⟨h1, h2, h3, h4⟩
          all_goals
            go_wp2_with fail
            refine bodyPost_ret (v := .tuple #[.int .u64 0, .agg #[.slice none 0 0, .int .i64 3]]) (by simp [results, Try.results61, go_sem]) rfl ?_
            rw [HR.out]
            exact ⟨_, rfl, By.nil_, bstep (balloc _ _) (balloc _ _)⟩
        · rw [if_neg herr] at hv
          have h3 : (((k : Int) == 9) = true ∧ decide (1 < (b.toNat : Int) % 128) = false ∧ decide (9 < (k : Int)) = false ∧ decide (0 < k) = true ∧ ((b.toNat : Int) == 0) = false) ∨ (((k : Int) == 9) = false ∧ decide (9 < (k : Int)) = false ∧ decide (0 < k) = true ∧ ((b.toNat : Int) == 0) = false) ∨ (((k : Int) == 9) = false ∧ decide (9 < (k : Int)) = false ∧ decide (0 < k) = false) := by
            by_cases h9 : k = 9
            · left; simp; omega
            · right
              by_cases hk0 : 0 < k
              · left; simp; omega
              · right; simp; omega
          have hk9 : k ≤ 9 ∧ (k = 9 → b.toNat % 128 ≤ 1) := by omega
          obtain ⟨hor, hsh, hn'⟩ := or_shift n (b.toNat % 128) k hk9.1 (Hn9.out hk9.1) (Nat.mod_lt _ (by decide)) hk9.2
          have hpow : k + 1 ≤ 9 → n + b.toNat % 128 * 2 ^ (7 * k) < 2 ^ (7 * (k + 1)) := fun h => by
            have h1 := Hn9.out hk9.1
            have h2 := Nat.mul_le_mul_right (2 ^ (7 * k)) (show b.toNat % 128 ≤ 127 by omega)
            rw [show 7 * (k + 1) = 7 * k + 7 from by omega, Nat.pow_add]
            omega
          have h2k : 2 ^ (7 * k) < 18446744073709551616 := Nat.lt_of_le_of_lt (Nat.pow_le_pow_right (by decide) (show 7 * k ≤ 63 by omega)) (by decide)
          have hsc1 : sc = 2 ^ (7 * k) := by rw [Hsc0.out, Nat.mod_eq_of_lt h2k]
          have hsum : IntKind.u64.wrap ((n : Int) + IntKind.u64.wrap ((b.toNat : Int) % 128 * (sc : Int))) = ((n + b.toNat % 128 * 2 ^ (7 * k) : Nat) : Int) := by
            rw [← hsc1] at hsh hn' ⊢
            have e : ((b.toNat : Int) % 128 * (sc : Int)) = ((b.toNat % 128 * sc : Nat) : Int) := by simp
            rw [e]
            generalize b.toNat % 128 * sc = q at *
            have hq : IntKind.u64.wrap (q : Int) = q := by rw [wrap_u64]; omega
            rw [hq, wrap_u64]
            omega
          have hsc : IntKind.u64.wrap ((sc : Int) * 128) = ((2 ^ (7 * (k + 1)) % 18446744073709551616 : Nat) : Int) := by
            rw [show 7 * (k + 1) = 7 * k + 7 from by omega, Nat.pow_add, ← hsc1, wrap_u64]
            omega
          have Hpow := Lib.hid hpow
          have Hsc := Lib.hid hsc
          clear herr hor hsh hpow hk9 h2k hsc hsc1
          generalize n + b.toNat % 128 * 2 ^ (7 * k) = N at *
          by_cases hgt : b.toNat < 128
          · rw [if_neg (by omega)] at hv
            by_cases hmo : most < N
            · have HR := Lib.hid (HRb.out _ _ hv hmo)
              clear hv HRb HRo HRe Hpow Hsc
              rcases h3 with ⟨h1, h2, h3, h4, h5⟩ | ⟨h1, h2, h3, h4⟩ | ⟨h1, h2, h3⟩
              all_goals
                go_wp2_with fail
                refine bodyPost_ret (v := .tuple #[.int .u64 0, .agg #[.slice none 0 0, .int .i64 9]]) (by simp [results, Try.results61, go_sem]) rfl ?_
                rw [HR.out]
                exact ⟨_, rfl, By.nil_, bstep (balloc _ _) (balloc _ _)⟩
            · have HR := Lib.hid (HRo.out _ _ hv hmo)
              clear hv HRb HRo HRe Hpow Hsc
              rcases h3 with ⟨h1, h2, h3, h4, h5⟩ | ⟨h1, h2, h3, h4⟩ | ⟨h1, h2, h3⟩
              all_goals
                go_wp2_with fail
                go_region
                have hb2 := Hback.out
                by_cases hck : c = k + 1
                · rw [if_pos hck] at hb2 ⊢
                  go_wp2_with fail
                  refine bodyPost_ret (v := .tuple #[.int .u64 (N : Int), .agg #[.slice (some ad) (l.length - (k + 1)) (c - (k + 1)), .int .i64 0]]) (by simp [results, Try.results61, go_sem]) rfl ?_
                  rw [HR.out]
                  exact ⟨_, rfl, hb2.below ((bdrew (bstep (balloc _ _) (balloc _ _))).mono hB), bdrew (bstep (balloc _ _) (balloc _ _))⟩
                · rw [if_neg hck] at hb2 ⊢
                  go_wp2_with fail
                  refine bodyPost_ret (v := .tuple #[.int .u64 (N : Int), .agg #[.slice (some { block := ad.block, off := ad.off + (k + 1) }) (l.length - (k + 1)) (c - (k + 1)), .int .i64 0]]) (by simp [results, Try.results61, go_sem]) rfl ?_
                  rw [HR.out]
                  refine ⟨_, rfl, ?_, bdrew (bstep (balloc _ _) (balloc _ _))⟩
                  have hb3 := hb2.below ((bdrew (bstep (balloc w (.cells #[.slice (some ad) l.length c, .int .i64 0] 114)) (balloc _ (.cells #[.slice (some { block := ad.block, off := ad.off + (k + 1) }) (l.length - (k + 1)) (c - (k + 1)), .int .i64 0] 114)))).mono hB)
                  simpa [Addr.add] using hb3
          · rw [if_pos (by omega)] at hv
            have Hv := Lib.hid hv
            clear hv HRb HRo HRe
            rcases h3 with ⟨h1, h2, h3, h4, h5⟩ | ⟨h1, h2, h3, h4⟩ | ⟨h1, h2, h3⟩
            all_goals
              go_wp2_with fail
              refine ⟨⟨k + 1, N, _, by omega, ?_, by go_num, rfl, congrArg (Value.int .u64) Hsc.out, rfl, Hv.out, hn', Hpow.out⟩, by simp [intOf]; omega⟩
              all_goals (simp at h1 h2; omega)
      · obtain rfl : k = l.length := by omega
        rw [List.drop_eq_nil_of_le (Nat.le_refl _)] at hv
        have HR := Lib.hid (HRe.out 2 hv)
        clear hv HRe HRb HRo
        go_wp2_with fail
        refine bodyPost_ret (v := .tuple #[.int .u64 0, .agg #[.slice none 0 0, .int .i64 2]]) (by simp [results, Try.results61, go_sem]) rfl ?_
        rw [HR.out]
        exact ⟨_, rfl, By.nil_, bstep (balloc _ _) (balloc _ _)⟩
  · have hne : (e != 0) = true := by simpa using he
    have hne' : (e == 0) = false := by simpa using he
    have hR : numS most l e = (0, [], e) := by unfold numS; rw [if_pos he]
    rw [hR]
    have hl := hl he
    subst hl
    clear hR
    go_enter Try.func61, Try.ntmps61
    go_wp2_with fail
    go_region
    go_wp2_with fail
    refine bodyPost_ret (v := .tuple #[.int .u64 0, .agg #[.slice A 0 c, .int .i64 e]]) (by simp [results, Try.results61, go_sem]) rfl ?_
    exact ⟨_, rfl, hby.below ((bdrew (bstep (balloc _ _) (balloc _ _))).mono hB), bdrew (bstep (balloc _ _) (balloc _ _))⟩
end Go.Proofs.Ytpoicbhbkabllaa
