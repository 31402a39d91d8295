/- gaps.Find: the binary search -/
import Derived.Test.YteakeefocnjlhaaGapsRef2
namespace Go.Proofs.Yteakeefocnjlhaa
set_option linter.unusedSimpArgs false
set_option linter.unusedVariables false
open Go.RowKit

set_option maxRecDepth 100000 in
set_option maxHeartbeats 800000 in
theorem isnan32 (w : World) (a : Nat) (ha : a < 4294967296) : Calls Try.prog 85 #[.int .u32 (a : Int)] w fun e w' => e = .returned (.bool false) ∧ w = w' := by
  go_enter Try.func85, Try.ntmps85
  go_wp2_with fail
  go_ret
  exact ⟨rfl, rfl⟩
def cmp3 (a b : Nat) : Int := if a < b then -1 else if b < a then 1 else 0
set_option maxRecDepth 100000 in
set_option maxHeartbeats 800000 in
theorem compare32 (w : World) (a b : Nat) (ha : a < 4294967296) (hb : b < 4294967296) : Calls Try.prog 72 #[.int .u32 (a : Int), .int .u32 (b : Int)] w fun e w' => e = .returned (.int .i64 (cmp3 a b)) ∧ w = w' := by
  have hc : cmp3 a b = if a < b then -1 else if b < a then 1 else 0 := rfl
  by_cases h1 : a < b
  · rw [if_pos h1] at hc
    rw [hc]
    clear hc
    go_enter Try.func72, Try.ntmps72
    go_wp2_with fail
    refine (isnan32 w a ha).mono ?_
    rintro _ _ ⟨rfl, rfl⟩
    go_wp2_with fail
    refine (isnan32 w b hb).mono ?_
    rintro _ _ ⟨rfl, rfl⟩
    go_wp2_with fail
    go_ret
    exact ⟨rfl, rfl⟩
  · rw [if_neg h1] at hc
    have hd1 : decide ((a : Int) < (b : Int)) = false := by simp; omega
    have hd1' : decide (a < b) = false := by simp; omega
    by_cases h2 : b < a
    · rw [if_pos h2] at hc
      rw [hc]
      clear hc h1
      go_enter Try.func72, Try.ntmps72
      go_wp2_with fail
      refine (isnan32 w a ha).mono ?_
      rintro _ _ ⟨rfl, rfl⟩
      go_wp2_with fail
      refine (isnan32 w b hb).mono ?_
      rintro _ _ ⟨rfl, rfl⟩
      go_wp2_with fail
      go_ret
      exact ⟨rfl, rfl⟩
    · rw [if_neg h2] at hc
      rw [hc]
      have hd2 : decide ((b : Int) < (a : Int)) = false := by simp; omega
      have hd2' : decide (b < a) = false := by simp; omega
      clear hc h1 h2
      go_enter Try.func72, Try.ntmps72
      go_wp2_with fail
      refine (isnan32 w a ha).mono ?_
      rintro _ _ ⟨rfl, rfl⟩
      go_wp2_with fail
      refine (isnan32 w b hb).mono ?_
      rintro _ _ ⟨rfl, rfl⟩
      go_wp2_with fail
      go_ret
      exact ⟨rfl, rfl⟩
set_option maxRecDepth 100000 in
set_option maxHeartbeats 800000 in
theorem find1_any (w : World) (a x b : Nat) (ha : a < 4294967296) (hb : b < 4294967296) : Calls Try.prog 71 #[.agg #[.int .u32 (a : Int), .int .u32 (x : Int)], .int .u32 (b : Int)] w fun e w' => e = .returned (.int .i64 (cmp3 a b)) ∧ Below w.heap.size w w' := by
  have hc := fun W => compare32 W a b ha hb
  have Hc := Lib.hid hc
  clear hc
  generalize cmp3 a b = c at *
  go_enter Try.func71, Try.ntmps71
  go_wp2_with fail
  refine (Hc.out _).mono ?_
  rintro _ _ ⟨rfl, rfl⟩
  go_wp2_with fail
  go_ret
  exact ⟨rfl, balloc _ _⟩
/-- where an end stands among rising ones -/
def FoundAt (l : List GArc) (t : Nat) (i : Nat) (b : Bool) : Prop :=
  i ≤ l.length ∧ (∀ j, (h : j < l.length) → j < i → (l[j]).to.toNat < t) ∧ (∀ j, (h : j < l.length) → i ≤ j → t ≤ (l[j]).to.toNat) ∧ b = decide (∃ h : i < l.length, (l[i]).to.toNat = t)
set_option maxRecDepth 100000 in
set_option maxHeartbeats 1600000 in
theorem bsf_any (w : World) (B : Nat) (v : Value) (l : List GArc) (hl : l.length ≤ 4294967296) (t : Nat) (ht : t < 4294967296) (h : ByA w B v l) (hB : B ≤ w.heap.size) (hs : ∀ i j, (hi : i < j) → (hj : j < l.length) → (l[i]'(by omega)).to.toNat < (l[j]).to.toNat) :
    Calls Try.prog 70 #[v, .int .u32 (t : Int), .func (.func 71) #[] #[]] w fun e w' => ∃ i b, e = .returned (.tuple #[.int .i64 (i : Nat), .bool b]) ∧ FoundAt l t i b ∧ Below w.heap.size w w' := by
  obtain ⟨A, c, rfl, hc1, hc2⟩ := h.form
  unfold maxLen at hc2
  have Hs := Lib.hid hs
  clear hs
  go_enter Try.func70, Try.ntmps70
  go_wp2_with fail
  go_loopw [9, 10] (fun lo hi wr => ∃ a b : Nat, lo = .int .i64 a ∧ hi = .int .i64 b ∧ a ≤ b ∧ b ≤ l.length ∧ (∀ j, (h : j < l.length) → j < a → (l[j]).to.toNat < t) ∧ (∀ j, (h : j < l.length) → b ≤ j → t ≤ (l[j]).to.toNat) ∧ Below w.heap.size w wr) (fun lo hi _ => (intOf hi).toNat - (intOf lo).toNat)
  case atStart => exact ⟨0, l.length, rfl, rfl, by omega, by omega, fun j _ hj => by omega, fun j hj1 hj2 => by omega, Below.refl _ _⟩
  case round =>
    obtain ⟨a, b, rfl, rfl, hab, hbn, hlo, hhi, hbl⟩ := hrel
    have hsz := hbl.size
    have Hlo := Lib.hid hlo
    have Hhi := Lib.hid hhi
    clear hlo hhi
    by_cases hlt : a < b
    · obtain ⟨m, hm⟩ : ∃ m, m = (a + b) / 2 := ⟨_, rfl⟩
      have hmi : ((a : Int) + (b : Int)) / 2 = ((m : Nat) : Int) := by omega
      have hml : m < l.length := by omega
      obtain ⟨ad, rfl, hadb, hx0, hx1⟩ := (h.below (hbl.mono hB)).cells m hml
      have hto := u32_lt (l[m]).to
      have hf := fun W => find1_any W (l[m]).to.toNat (l[m]).wt.toNat t hto ht
      have Hf := Lib.hid hf
      have hcm : cmp3 (l[m]).to.toNat t = if (l[m]).to.toNat < t then -1 else if t < (l[m]).to.toNat then 1 else 0 := rfl
      have hlow : (l[m]).to.toNat < t → ∀ j, (h : j < l.length) → j < m + 1 → (l[j]).to.toNat < t := fun hl j hj hjm => by
        rcases Nat.lt_or_ge j m with h | h
        · have := Hs.out j m h hml; omega
        · obtain rfl : j = m := by omega
          exact hl
      have hhigh : ¬ (l[m]).to.toNat < t → ∀ j, (h : j < l.length) → m ≤ j → t ≤ (l[j]).to.toNat := fun hl j hj hjm => by
        rcases Nat.lt_or_ge m j with h | h
        · have := Hs.out m j h hj; omega
        · obtain rfl : j = m := by omega
          omega
      have Hlow := Lib.hid hlow
      have Hhigh := Lib.hid hhigh
      have Hcm := Lib.hid hcm
      have Hm := Lib.hid hm
      clear hf hlow hhigh hcm hm
      generalize cmp3 (l[m]).to.toNat t = C at *
      generalize (l[m]).wt.toNat = wx at *
      generalize (l[m]).to.toNat = x at *
      by_cases hcase : x < t
      · have hC : C = -1 := by rw [Hcm.out, if_pos hcase]
        subst hC
        have hlow := Hlow.out hcase
        have Hlow2 := Lib.hid hlow
        clear hlow hcase Hcm Hhigh Hlow
        go_wp2_with (go_at_call 71; refine (Hf.out _).mono ?_; rintro _ w1 ⟨rfl, hb1⟩)
        go_roundw
        case rel => exact ⟨m + 1, b, by go_num, rfl, by have := Hm.out; omega, hbn, Hlow2.out, Hhi.out, bstep hbl hb1⟩
        case measure => have := Hm.out; simp [intOf]; omega
      · have hC : C = 0 ∨ C = 1 := by
          rw [Hcm.out, if_neg hcase]
          split
          · right; rfl
          · left; rfl
        have hhigh := Hhigh.out hcase
        have Hhigh2 := Lib.hid hhigh
        clear hhigh hcase Hcm Hhigh Hlow
        rcases hC with rfl | rfl
        all_goals
          go_wp2_with (go_at_call 71; refine (Hf.out _).mono ?_; rintro _ w1 ⟨rfl, hb1⟩)
          go_roundw
          case rel => exact ⟨a, m, rfl, by go_num, by have := Hm.out; omega, by omega, Hlo.out, Hhigh2.out, bstep hbl hb1⟩
          case measure => have := Hm.out; simp [intOf]; omega
    · obtain rfl : b = a := by omega
      by_cases hbl2 : b < l.length
      · obtain ⟨ad, rfl, hadb, hx0, hx1⟩ := (h.below (hbl.mono hB)).cells b hbl2
        have hto := u32_lt (l[b]).to
        have hf := fun W => find1_any W (l[b]).to.toNat (l[b]).wt.toNat t hto ht
        have Hf := Lib.hid hf
        have hcm : cmp3 (l[b]).to.toNat t = if (l[b]).to.toNat < t then -1 else if t < (l[b]).to.toNat then 1 else 0 := rfl
        have hge := Hhi.out b hbl2 (Nat.le_refl _)
        have hfd : FoundAt l t b (decide (∃ h : b < l.length, (l[b]).to.toNat = t)) := ⟨hbn, Hlo.out, Hhi.out, rfl⟩
        rw [if_neg (by omega)] at hcm
        have hdec : decide (∃ h : b < l.length, (l[b]).to.toNat = t) = decide ((l[b]).to.toNat = t) := decide_eq_decide.2 ⟨fun ⟨_, h⟩ => h, fun h => ⟨hbl2, h⟩⟩
        rw [hdec] at hfd
        have Hfd := Lib.hid hfd
        clear hf hdec hfd
        generalize cmp3 (l[b]).to.toNat t = C at *
        generalize (l[b]).wt.toNat = wx at *
        generalize (l[b]).to.toNat = x at *
        by_cases hcase : t < x
        · rw [if_pos hcase] at hcm
          subst hcm
          have hD : decide (x = t) = false := by simp; omega
          rw [hD] at Hfd
          clear hcase hD hge
          go_wp2_with (go_at_call 71; refine (Hf.out _).mono ?_; rintro _ w1 ⟨rfl, hb1⟩)
          go_ret2
          exact ⟨b, _, rfl, Hfd.out, bstep hbl hb1⟩
        · rw [if_neg hcase] at hcm
          subst hcm
          have hD : decide (x = t) = true := by simp; omega
          rw [hD] at Hfd
          clear hcase hD hge
          go_wp2_with (go_at_call 71; refine (Hf.out _).mono ?_; rintro _ w1 ⟨rfl, hb1⟩)
          go_ret2
          exact ⟨b, _, rfl, Hfd.out, bstep hbl hb1⟩
      · have hfd : FoundAt l t b (decide (∃ h : b < l.length, (l[b]).to.toNat = t)) := ⟨hbn, Hlo.out, Hhi.out, rfl⟩
        rw [decide_eq_false (fun ⟨h, _⟩ => hbl2 h)] at hfd
        have Hfd := Lib.hid hfd
        have hd : decide (b < l.length) = false := by simpa using hbl2
        clear hfd
        go_wp2_with fail
        go_ret2
        exact ⟨b, _, rfl, Hfd.out, hbl⟩

theorem rise_lt (l : List GArc) (hr : rise none l = true) : ∀ i j, (hi : i < j) → (hj : j < l.length) → (l[i]'(by omega)).to.toNat < (l[j]).to.toNat := by
  intro i j hi hj
  induction j with
  | zero => omega
  | succ j ih =>
    have h1 := nextOf_le l (j + 1) hj hr
    rw [nextOf_succ l j (by omega)] at h1
    rcases Nat.lt_or_ge i j with h | h
    · have := ih h (by omega); omega
    · obtain rfl : i = j := by omega
      omega
set_option maxRecDepth 100000 in
set_option maxHeartbeats 800000 in
theorem gapsfind_any (w : World) (B : Nat) (v : Value) (l : List GArc) (hl : l.length ≤ 4294967296) (t : Nat) (ht : t < 4294967296) (h : ByA w B v l) (hB : B ≤ w.heap.size) (hr : rise none l = true) :
    Calls Try.prog 27 #[v, .int .u32 (t : Int)] w fun e w' => ∃ i b, e = .returned (.tuple #[.int .i64 (i : Nat), .bool b]) ∧ FoundAt l t i b ∧ Below w.heap.size w w' := by
  have hs := bsf_any w B v l hl t ht h hB (rise_lt l hr)
  have Hs := Lib.hid hs
  obtain ⟨A, c, rfl, hc1, hc2⟩ := h.form
  clear hs h
  go_enter Try.func27, Try.ntmps27
  go_wp2_with fail
  refine Hs.out.mono ?_
  rintro _ w1 ⟨i, b, rfl, hf, hb1⟩
  have Hf := Lib.hid hf
  clear hf
  go_wp2_with fail
  go_ret2
  exact ⟨i, b, rfl, Hf.out, hb1⟩
end Go.Proofs.Yteakeefocnjlhaa
