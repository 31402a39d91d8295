/- palmerref16.first -/
import Derived.Test.YteakeefocnjlhaaBuild
namespace Go.Proofs.Yteakeefocnjlhaa
set_option linter.unusedSimpArgs false
set_option linter.unusedVariables false
open Go.RowKit

def fst1 (W : Nat) (above : Bool) (xs : List Nat) : Option Nat := xs.findIdx? (if above = true then (fun x => decide (W < x)) else (fun x => decide (x < W)))
def fstV (o : Option Nat) : Value := match o with
  | some i => .tuple #[.int .i64 (i : Int), .bool true]
  | none => .tuple #[.int .i64 0, .bool false]

set_option maxRecDepth 100000 in
set_option maxHeartbeats 1600000 in
theorem rfirst_any (w : World) (base : Nat) (v : Value) (xs : List Nat) (W : Nat) (above : Bool) (hl : xs.length ≤ 4294967296) (h : RwAt 26 .u64 w base v xs) :
    Calls Try.prog 83 #[v, .int .u64 (W : Int), .bool above] w fun e w' => e = .returned (fstV (fst1 W above xs)) ∧ w = w' := by
  obtain ⟨A, c, rfl, hc1, hc2⟩ := h.form
  unfold maxLen at hc2
  have hyes : ∀ k (hk : k < xs.length), (∀ j (hj : j < k), (if above = true then decide (W < xs[j]) else decide (xs[j] < W)) = false) → (if above = true then decide (W < xs[k]) else decide (xs[k] < W)) = true → fst1 W above xs = some k := fun k hk h1 h2 => by
    unfold fst1
    rw [List.findIdx?_eq_some_iff_getElem]
    refine ⟨hk, ?_, fun j hj hp => ?_⟩
    · cases above <;> simpa using h2
    · have := h1 j hj
      cases above <;> simp at this hp <;> omega
  have hno : (∀ j (hj : j < xs.length), (if above = true then decide (W < xs[j]) else decide (xs[j] < W)) = false) → fst1 W above xs = none := fun h1 => by
    unfold fst1
    rw [List.findIdx?_eq_none_iff]
    intro x hx
    obtain ⟨k, hk, rfl⟩ := List.mem_iff_getElem.1 hx
    have := h1 k hk
    cases above <;> simpa using this
  have Hyes := Lib.hid hyes
  have Hno := Lib.hid hno
  clear hyes hno
  generalize fst1 W above xs = F at *
  cases above with
  | true =>
    go_enter Try.func83, Try.ntmps83
    go_wp2_with fail
    go_loop [11] (fun i => ∃ k : Nat, k ≤ xs.length ∧ i = .int .i64 k ∧ ∀ j (hj : j < k) (hjl : j < xs.length), decide (W < xs[j]) = false) (fun i => xs.length - (intOf i).toNat)
    case atStart => exact ⟨0, by omega, rfl, fun j hj => by omega⟩
    case round =>
      obtain ⟨k, hk, rfl, hall⟩ := hrel
      have Hall := Lib.hid hall
      clear hall
      by_cases hlt : k < xs.length
      · obtain ⟨_, b, off, rfl, hb1, hb2, hx, _⟩ := h.at_ k xs[k] (List.getElem?_eq_getElem hlt)
        have Hs : Hid (decide (W < xs[k]) = false → ∀ j (hj : j < k + 1) (hjl : j < xs.length), decide (W < xs[j]) = false) := fun he j hj hjl => by
          rcases Nat.lt_or_ge j k with h | h
          · exact Hall.out j h hjl
          · obtain rfl : j = k := by omega
            exact he
        have Hy : Hid (decide (W < xs[k]) = true → F = some k) := fun he => Hyes.out k hlt (fun j hj => by simpa using Hall.out j hj (by omega)) (by simpa using he)
        generalize xs[k] = y at *
        by_cases hd : W < y
        · have hd1 : decide (W < y) = true := decide_eq_true hd
          have e := Lib.hid (Hy.out hd1)
          go_wp2_with fail
          go_ret2
          rw [e.out]
          exact ⟨rfl, rfl⟩
        · have hd1 : decide (W < y) = false := decide_eq_false hd
          go_wp2_with fail
          go_round
          case rel => exact ⟨k + 1, by omega, by go_num, Hs.out hd1⟩
          case measure => simp [intOf]; omega
      · obtain rfl : k = xs.length := by omega
        have e := Lib.hid (Hno.out (fun j hj => by simpa using Hall.out j hj hj))
        go_wp2_with fail
        go_ret2
        rw [e.out]
        exact ⟨rfl, rfl⟩
  | false =>
    go_enter Try.func83, Try.ntmps83
    go_wp2_with fail
    go_loop [11] (fun i => ∃ k : Nat, k ≤ xs.length ∧ i = .int .i64 k ∧ ∀ j (hj : j < k) (hjl : j < xs.length), decide (xs[j] < W) = false) (fun i => xs.length - (intOf i).toNat)
    case atStart => exact ⟨0, by omega, rfl, fun j hj => by omega⟩
    case round =>
      obtain ⟨k, hk, rfl, hall⟩ := hrel
      have Hall := Lib.hid hall
      clear hall
      by_cases hlt : k < xs.length
      · obtain ⟨_, b, off, rfl, hb1, hb2, hx, _⟩ := h.at_ k xs[k] (List.getElem?_eq_getElem hlt)
        have Hs : Hid (decide (xs[k] < W) = false → ∀ j (hj : j < k + 1) (hjl : j < xs.length), decide (xs[j] < W) = false) := fun he j hj hjl => by
          rcases Nat.lt_or_ge j k with h | h
          · exact Hall.out j h hjl
          · obtain rfl : j = k := by omega
            exact he
        have Hy : Hid (decide (xs[k] < W) = true → F = some k) := fun he => Hyes.out k hlt (fun j hj => by simpa using Hall.out j hj (by omega)) (by simpa using he)
        generalize xs[k] = y at *
        by_cases hd : y < W
        · have hd1 : decide (y < W) = true := decide_eq_true hd
          have e := Lib.hid (Hy.out hd1)
          go_wp2_with fail
          go_ret2
          rw [e.out]
          exact ⟨rfl, rfl⟩
        · have hd1 : decide (y < W) = false := decide_eq_false hd
          go_wp2_with fail
          go_round
          case rel => exact ⟨k + 1, by omega, by go_num, Hs.out hd1⟩
          case measure => simp [intOf]; omega
      · obtain rfl : k = xs.length := by omega
        have e := Lib.hid (Hno.out (fun j hj => by simpa using Hall.out j hj hj))
        go_wp2_with fail
        go_ret2
        rw [e.out]
        exact ⟨rfl, rfl⟩
end Go.Proofs.Yteakeefocnjlhaa
