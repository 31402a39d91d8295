/- '==' of two cells; palmerref16.Same -/
import Derived.Test.YteakeefocnjlhaaCell
import Derived.Laws.StructEq
import Derived.BigQuiet
namespace Go.Proofs.Yteakeefocnjlhaa
set_option linter.unusedSimpArgs false
set_option linter.unusedVariables false
open Go.RowKit
theorem fieldsCell : Try.prog.fieldsOf 83 = #[{ name := "Cut", type := 26, offset := 0, embedded := false, tag := "", pkgPath := "", byteOffset := 0 }, { name := "Other", type := 33, offset := 1, embedded := false, tag := "", pkgPath := "", byteOffset := 8 }] := by kernel_rfl
theorem eqCell_ (d : Nat) (w : World) (a b c e : Int) : (Op.equalIn (d + 2) 83 (.agg #[.int .u64 a, .int .u32 b]) (.agg #[.int .u64 c, .int .u32 e])).run Try.prog w = .ok (a == c && b == e) w := by
  rw [run_equalIn_struct w (d + 1) 83 _ _ (by rw [fieldsCell]; exact Try.underlying83) (by kernel_rfl), fieldsCell]
  have h33 := Try.underlying33
  have h64 := Try.underlying26
  have p0 : ∀ (x y : Int), (part 26 #[.int .u64 x, .int .u32 y] 0).run Try.prog w = .ok (.int .u64 x) w := fun x y => by kernel_rfl
  have p1 : ∀ (x y : Int), (part 33 #[.int .u64 x, .int .u32 y] 1).run Try.prog w = .ok (.int .u32 y) w := fun x y => by kernel_rfl
  simp only [Op.eqFields, Sem.run_bind, Sem.run_ite, p0, p1, Result.andThen_ok, run_equalIn_int w d 26 _ .u64 _ _ h64, run_equalIn_int w d 33 _ .u32 _ _ h33]
  by_cases h1 : a = c <;> by_cases h2 : b = e <;> simp [h1, h2]
theorem eqCell (w : World) (a b c e : Int) : (Op.equalIn 10000 83 (.agg #[.int .u64 a, .int .u32 b]) (.agg #[.int .u64 c, .int .u32 e])).run Try.prog w = .ok (a == c && b == e) w := eqCell_ 9998 w a b c e
theorem guardCell : Try.prog.eqGuardType Try.prog.depth 83 = false := by kernel_rfl
set_option maxRecDepth 100000 in
set_option maxHeartbeats 1600000 in
theorem csame_any (w : World) (B1 B2 : Nat) (v1 v2 : Value) (l1 l2 : List GCell) (h1 : ByC w B1 v1 l1) (h2 : ByC w B2 v2 l2) :
    Calls Try.prog 61 #[v1, v2] w fun e w' => e = .returned (.bool (decide (l1 = l2))) ∧ ∃ q, w' = w.drewN q := by
  obtain ⟨A1, c1, rfl, ha1, ha2⟩ := h1.form
  obtain ⟨A2, c2, rfl, hb1, hb2⟩ := h2.form
  unfold maxLen at ha2 hb2
  by_cases hlen : l1.length = l2.length
  · have hd : ∀ k, (hk : k < l1.length) → (hk2 : k < l2.length) → l1[k] ≠ l2[k] → decide (l1 = l2) = false := fun k hk hk2 hne => decide_eq_false fun e => hne (by subst e; rfl)
    have hy : (∀ k, (hk : k < l1.length) → (hk2 : k < l2.length) → l1[k] = l2[k]) → decide (l1 = l2) = true := fun h => decide_eq_true (List.ext_getElem hlen fun k h1 h2 => h k h1 h2)
    have Hd := Lib.hid hd
    have Hy := Lib.hid hy
    have Hlen := Lib.hid hlen
    have hnb : (((l1.length : Nat) : Int) == ((l2.length : Nat) : Int)) = true := by simp; omega
    have hnb' : (((l1.length : Nat) : Int) != ((l2.length : Nat) : Int)) = false := by simp; omega
    clear hd hy hlen
    generalize decide (l1 = l2) = D at *
    go_enter Try.func61, Try.ntmps61
    go_wp2_with fail
    go_loopw [13] (fun i wr => ∃ k : Nat, k ≤ l1.length ∧ i = .int .i64 k ∧ (∀ j, (hj : j < k) → (hj1 : j < l1.length) → (hj2 : j < l2.length) → l1[j] = l2[j]) ∧ ∃ q, wr = w.drewN q) (fun i _ => l1.length - (intOf i).toNat)
    case atStart => exact ⟨0, by omega, rfl, fun j hj => by omega, 0, rfl⟩
    case round =>
      obtain ⟨k, hk, rfl, hall, q, rfl⟩ := hrel
      by_cases hlt : k < l1.length
      · have hlt2 : k < l2.length := by rw [← Hlen.out]; exact hlt
        obtain ⟨ad1, rfl, _, hx0, hx1⟩ := ByC.cells h1 k hlt
        obtain ⟨ad2, rfl, _, hy0, hy1⟩ := ByC.cells h2 k hlt2
        have Hall := Lib.hid hall
        have Hd1 := Lib.hid (Hd.out k hlt hlt2)
        clear hall
        have hcase : l1[k] = l2[k] ∨ l1[k] ≠ l2[k] := Decidable.em _
        have Hst : Hid (l1[k] = l2[k] → ∀ j, (hj : j < k + 1) → (hj1 : j < l1.length) → (hj2 : j < l2.length) → l1[j] = l2[j]) := fun he j hj hj1 hj2 => by
          rcases Nat.lt_or_ge j k with h | h
          · exact Hall.out j h hj1 hj2
          · obtain rfl : j = k := by omega
            exact he
        generalize l1[k] = a at *
        generalize l2[k] = b at *
        obtain ⟨a1, a2⟩ := a
        obtain ⟨b1, b2⟩ := b
        simp only at hx0 hx1 hy0 hy1
        have heq := eqCell
        have hgd := guardCell
        by_cases hab : a1 = b1 ∧ a2 = b2
        · obtain ⟨rfl, rfl⟩ := hab
          go_wp2_with fail
          go_quiet (fail)
          go_wp2_with fail
          go_roundw
          case rel => exact ⟨k + 1, by omega, by go_num, Hst.out (by first | rfl | trivial), q + nq, by simp⟩
          case measure => simp [intOf]; omega
        · have hb : (((a1.toNat : Nat) : Int) == ((b1.toNat : Nat) : Int) && ((a2.toNat : Nat) : Int) == ((b2.toNat : Nat) : Int)) = false := by
            rw [Bool.and_eq_false_iff]
            by_cases h : a1 = b1
            · right
              exact beq_eq_false_iff_ne.2 fun e => hab ⟨h, UInt32.toNat_inj.1 (by omega)⟩
            · left
              exact beq_eq_false_iff_ne.2 fun e => h (UInt64.toNat_inj.1 (by omega))
          have hD := Hd1.out fun e => hab (by injection e with e1 e2; exact ⟨e1, e2⟩)
          have HD := Lib.hid hD
          clear hab hD
          go_wp2_with fail
          go_quiet (fail)
          go_wp2_with fail
          go_ret
          rw [HD.out]
          exact ⟨rfl, q + nq, by simp⟩
      · obtain rfl : k = l1.length := by omega
        have hyy := Hy.out fun j hj hj2 => hall j hj hj hj2
        have HY := Lib.hid hyy
        clear hall hyy
        go_wp2_with fail
        go_ret
        rw [HY.out]
        exact ⟨rfl, q, rfl⟩
  · have hne : ((l1.length : Int) == (l2.length : Int)) = false := by simp; omega
    have hne' : ((l1.length : Int) != (l2.length : Int)) = true := by simp; omega
    go_enter Try.func61, Try.ntmps61
    go_wp2_with fail
    go_ret
    refine ⟨?_, 0, rfl⟩
    rw [decide_eq_false (fun e => hlen (by rw [e]))]; rfl
end Go.Proofs.Yteakeefocnjlhaa
