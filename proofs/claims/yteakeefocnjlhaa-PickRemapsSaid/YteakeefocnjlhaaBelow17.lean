/- palmerref17.below, Alias, Remap -/
import Derived.Test.YteakeefocnjlhaaPickLaw
import Derived.Test.YteakeefocnjlhaaTo
namespace Go.Proofs.Yteakeefocnjlhaa
set_option linter.unusedSimpArgs false
set_option linter.unusedVariables false
open Go.RowKit

set_option maxRecDepth 100000 in
set_option maxHeartbeats 6400000 in
theorem rbelow_any (w : World) (B : Nat) (v : Value) (t : List GCell) (S to x : Nat) (hS : S ≤ 2147483647) (ht : t.length ≤ 1048576) (hok : ∀ c ∈ t, c.cut.toNat ≤ S) (hx : x < S * t.length) (h : ByC w B v t) :
    Calls Try.prog 78 #[v, .int .u64 (S : Int), .int .i64 (to : Int), .int .u64 (x : Int)] w fun e w' => e = .returned (.int .u64 (metC S t to x : Nat)) ∧ w = w' := by
  obtain ⟨A, c, rfl, hc1, hc2⟩ := h.form
  unfold maxLen at hc2
  have hxb : x < 2147483647 * 1048576 := Nat.lt_of_lt_of_le hx (Nat.mul_le_mul hS ht)
  have hcell := fun k c hc hcS m hm => metC_cell S t to k c hc hcS m hm
  have Hcell := Lib.hid hcell
  have Hok := Lib.hid hok
  have hle := metC_le S t to
  have Hle := Lib.hid hle
  clear hcell hok hle
  go_enter Try.func78, Try.ntmps78
  go_wp2_with fail
  go_loop [9, 15] (fun a i => ∃ k : Nat, k ≤ t.length ∧ i = .int .i64 k ∧ a = .int .u64 (metC S t to (min (S * k) x) : Nat)) (fun _ i => t.length - (intOf i).toNat)
  case atStart => exact ⟨0, by omega, rfl, by simp [metC]⟩
  case round =>
    obtain ⟨k, hk, rfl, rfl⟩ := hrel
    by_cases hlt : k < t.length
    · obtain ⟨ad, rfl, hab, hx0, hx1⟩ := h.cells k hlt
      have hcS := Hok.out _ (List.getElem_mem hlt)
      have hot := u32_lt (t[k]).oth
      have hce := Hcell.out k t[k] (List.getElem?_eq_getElem hlt) hcS
      have hm2 : k * S ≤ 1048576 * 2147483647 := Nat.mul_le_mul (by omega) hS
      have hmul : IntKind.u64.wrap ((k : Int) * (S : Int)) = ((k * S : Nat) : Int) := by
        rw [← Int.natCast_mul, wrap_u64]; omega
      have hS1 : S * (k + 1) = S * k + S := Nat.mul_succ S k
      have hkS : k * S = S * k := Nat.mul_comm k S
      rw [hkS] at hmul hm2
      generalize (t[k]).cut.toNat = cut at *
      generalize (t[k]).oth.toNat = oth at *
      have HS1 := Lib.hid hS1
      clear hkS hS1
      generalize S * k = f at *
      by_cases hfx : x ≤ f
      · have hd : decide (x ≤ f) = true := decide_eq_true hfx
        have hmin : min f x = x := Nat.min_eq_right hfx
        rw [hmin]
        clear hce hmin
        go_wp2_with fail
        go_ret
        exact ⟨rfl, rfl⟩
      · have hd : decide (x ≤ f) = false := decide_eq_false hfx
        have hmin : min f x = f := Nat.min_eq_left (by omega)
        rw [hmin]
        have hsub : IntKind.u64.wrap ((x : Int) - (f : Int)) = ((x - f : Nat) : Int) := by rw [wrap_u64]; omega
        obtain ⟨d, hdd⟩ : ∃ d, d = x - f := ⟨_, rfl⟩
        rw [← hdd] at hsub
        obtain ⟨m, hm⟩ : ∃ m, m = min d S := ⟨_, rfl⟩
        have hnew : min (S * (k + 1)) x = f + m := by rw [HS1.out, hm, hdd]; omega
        have hcm := hce m (by rw [hm]; exact Nat.min_le_right _ _)
        have hl1 := Hle.out f
        have hl2 := Hle.out (f + m)
        have hfb : f < x := by omega
        have hmb : m ≤ S := by rw [hm]; exact Nat.min_le_right _ _
        have Hnew := Lib.hid hnew
        generalize metC S t to f = n at *
        have ein : (decide (S < d) = true ∧ m = S) ∨ (decide (S < d) = false ∧ m = d) := by
          by_cases e : S < d
          · left; exact ⟨decide_eq_true e, by omega⟩
          · right; exact ⟨decide_eq_false e, by omega⟩
        have e2 : (((k : Int) == (to : Int)) = true ∧ k = to) ∨ (((k : Int) == (to : Int)) = false ∧ k ≠ to) := by
          by_cases e : k = to
          · left; exact ⟨by simp [e], e⟩
          · right; exact ⟨beq_eq_false_iff_ne.2 (by omega), e⟩
        have e3 : (((oth : Int) == (to : Int)) = true ∧ oth = to) ∨ (((oth : Int) == (to : Int)) = false ∧ oth ≠ to) := by
          by_cases e : oth = to
          · left; exact ⟨by simp [e], e⟩
          · right; exact ⟨beq_eq_false_iff_ne.2 (by omega), e⟩
        have e4 : (decide (cut < m) = true ∧ min m cut = cut ∧ cut < m) ∨ (decide (cut < m) = false ∧ min m cut = m ∧ m ≤ cut) := by
          by_cases e : cut < m
          · left; exact ⟨decide_eq_true e, by omega, e⟩
          · right; exact ⟨decide_eq_false e, by omega, by omega⟩
        have hmin2 : min (m : Int) (cut : Int) = ((min m cut : Nat) : Int) := by omega
        clear hce hmin hm hnew hdd
        have hdb : d < 18446744073709551616 ∨ True := Or.inr trivial
        clear hdb
        rcases e2 with ⟨h2, h2'⟩ | ⟨h2, h2'⟩ <;> rcases e3 with ⟨h3, h3'⟩ | ⟨h3, h3'⟩ <;> rcases e4 with ⟨h4, h4', h5⟩ | ⟨h4, h4', h5⟩
        all_goals
          simp only [h2', h3', h4', if_true, if_false] at hcm hmin2
          try rw [if_neg h2'] at hcm
          try rw [if_neg h3'] at hcm
          have Hcm := Lib.hid hcm
          have H5 := Lib.hid h5
          clear hcm h2' h3' h4' h5
          rcases ein with ⟨h1, h1'⟩ | ⟨h1, h1'⟩
          all_goals
            subst h1'
            go_wp2_with fail
            go_round
            case rel => exact ⟨k + 1, by omega, by go_num, by rw [Hnew.out, Hcm.out]; first | (go_num; done) | (have h5 := H5.out; congr 1; omega)⟩
            case measure => simp [intOf]; omega
    · obtain rfl : k = t.length := by omega
      rw [Nat.min_eq_right (by omega)]
      go_wp2_with fail
      go_ret
      exact ⟨rfl, rfl⟩

set_option maxRecDepth 100000 in
set_option maxHeartbeats 1600000 in
theorem ralias17_any (w : World) (B : Nat) (v v2 : Value) (l : List GArc) (t : List GCell) (x : Nat) (hxt : x < ptotal l) (hm : mayOk l t = true) (hl : l.length ≤ 1048576) (h : ByA w B v l) (h2 : ByC w B v2 t) (hB : B ≤ w.heap.size) :
    Calls Try.prog 77 #[v, v2, .int .u64 (x : Int)] w fun e w' => e = .returned (.tuple #[.int .i64 (toP (gsum l) t x : Nat), .bool true]) ∧ Below w.heap.size w w' := by
  obtain ⟨A, c, rfl, hc1, hc2⟩ := h.form
  obtain ⟨A2, c2, rfl, hd1, hd2⟩ := h2.form
  unfold maxLen at hc2 hd2
  obtain ⟨hlt, _⟩ := mayOk_parts hm
  have hto := (palias_ok hm hxt).2
  obtain ⟨hg, hW0, hk0, hW1⟩ := ptotal_pos hxt
  have hpl : gsum l * l.length ≤ 2147483647 * 1048576 := Nat.mul_le_mul hW1 hl
  have hxb : x < 18446744073709551616 := by rw [ptotal_eq hxt] at hxt; omega
  have hd : decide (ptotal l ≤ x) = false := decide_eq_false (by omega)
  have hle1 : ((l.length : Int) == (t.length : Int)) = true := by simp [hlt]
  have hle2 : ((l.length : Int) != (t.length : Int)) = false := by simp [hlt]
  have ht1 := rtotal_any w B _ l (by omega) h
  have hge : decide (l.length ≤ toP (gsum l) t x) = false := decide_eq_false (by omega)
  have hro := fun w' hb => rto_any w' B (.slice A2 t.length c2) t (gsum l) x hW0 (by omega) hxb (by omega) hb (by omega)
  have Hro := Lib.hid hro
  have H1 := Lib.hid h
  have H2 := Lib.hid h2
  have Hlt := Lib.hid hlt
  clear hro h h2 hlt hxt hm hg
  generalize toP (gsum l) t x = to at *
  go_enter Try.func77, Try.ntmps77
  go_wp2_with fail
  refine ht1.mono ?_
  rintro _ _ ⟨rfl, q, rfl⟩
  have hbq := bdrewN (Below.refl w.heap.size w) q
  go_wp2_with fail
  refine (rgsum_any (w.drewN q) B _ l (by omega) (H1.out.below (hbq.mono hB))).mono ?_
  rintro _ _ ⟨rfl, rfl⟩
  go_wp2_with fail
  refine (Hro.out (w.drewN q) (H2.out.below (hbq.mono hB))).mono ?_
  rintro _ w1 ⟨rfl, hb1⟩
  go_wp2_with fail
  go_ret2
  exact ⟨rfl, bstep hbq hb1⟩

end Go.Proofs.Yteakeefocnjlhaa
