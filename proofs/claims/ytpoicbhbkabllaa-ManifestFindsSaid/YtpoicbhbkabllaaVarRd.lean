/- varint.Reader: each method's step -/
import Derived.Test.YtpoicbhbkabllaaVarPut
import Derived.StillTailTactics
import Derived.Outline
import Derived.Lib.BitFns
namespace Go.Proofs.Ytpoicbhbkabllaa
set_option linter.unusedSimpArgs false
set_option linter.unusedVariables false
open Go.RowKit

/-- block g holds a Reader of which l is left, with error e -/
def RdrAt (w : World) (g : Nat) (l : List UInt8) (e : Int) : Prop :=
  ∃ v l', BoxAt 156 w g [v, .int .i64 e] ∧ By w g v l' ∧ (e = 0 → l' = l) ∧ (e ≠ 0 → l = []) ∧ -9223372036854775808 ≤ e ∧ e ≤ 9223372036854775807
theorem RdrAt.lt {w : World} {g : Nat} {l : List UInt8} {e : Int} (h : RdrAt w g l e) : g < w.heap.size := by
  obtain ⟨v, l', h1, _⟩ := h; exact h1.lt
theorem RdrAt.below {w w' : World} {g B : Nat} {l : List UInt8} {e : Int} (h : RdrAt w g l e) (hg : g < B) (hb : Below B w w') : RdrAt w' g l e := by
  obtain ⟨v, l', h1, h2, h3⟩ := h
  exact ⟨v, l', h1.below hg hb, h2.below (hb.mono (by omega)), h3⟩
theorem RdrAt.grown {w w' : World} {g : Nat} {row : Option Nat} {l : List UInt8} {e : Int} (h : RdrAt w g l e) (hg : w.grownBy w' row) (hr : ∀ k, row = some k → g < k) : RdrAt w' g l e := by
  have hl := h.lt
  obtain ⟨v, l', h1, h2, h3⟩ := h
  have hb : Below (g + 1) w w' := (Below.refl _ _).grown hg (by omega) (fun k hk => by have := hr k hk; omega)
  exact ⟨v, l', h1.below (by omega) hb, h2.below (hb.mono (by omega)), h3⟩
theorem RdrAt.err {w : World} {g : Nat} {l : List UInt8} {e : Int} (h : RdrAt w g l e) : e ≠ 0 → l = [] := by
  obtain ⟨v, l', h1, h2, h3, h4, _⟩ := h; exact h4

def badL (l : List UInt8) (e n : Int) : List UInt8 := if e = 0 ∧ n ≠ 0 then [] else l
def badE (e n : Int) : Int := if e = 0 then n else e
def endE (l : List UInt8) (e : Int) : Int := if 0 < l.length then 4 else e
/-! ### the table of Len8 -/
theorem ret_i64 {a b : Int} (h : a = b) : Ending.returned (.int .i64 a) = .returned (.int .i64 b) := by rw [h]
set_option maxHeartbeats 4000000 in
set_option maxRecDepth 100000 in
theorem len8_any (w : World) (n : Nat) (hn : n < 256) : Calls Try.prog 96 #[.int .u8 (n : Int)] w fun e w' => e = .returned (.int .i64 (Lib.bitLen n : Nat)) ∧ w = w' := by
  go_enter Try.func96, Try.ntmps96
  go_wp2_with fail
  go_ret
  refine ⟨ret_i64 ?_, rfl⟩
  clear w
  revert n
  unfold wrap64
  decide +kernel
theorem bitLen_small (n : Nat) (h : n < 128) : Lib.bitLen n ≤ 7 ∧ (Lib.bitLen n ≤ 1 ↔ n ≤ 1) := by
  have : ∀ x : Fin 128, Lib.bitLen x.1 ≤ 7 ∧ (Lib.bitLen x.1 ≤ 1 ↔ x.1 ≤ 1) := by decide +kernel
  exact this ⟨n, h⟩

set_option maxRecDepth 100000 in
set_option maxHeartbeats 800000 in
theorem vnew_any (w : World) (A : Option Addr) (n c : Nat) : Calls Try.prog 82 #[.slice A n c] w fun e w' => e = .returned (.pointer (some ⟨w.heap.size, 0, none⟩)) ∧ w' = w.alloc (.cells #[.slice A n c, .int .i64 0] 156) := by
  go_enter Try.func82, Try.ntmps82
  go_wp2_with fail
  go_ret
  exact ⟨rfl, rfl⟩
theorem RdrAt.new_ {w : World} {v : Value} {l : List UInt8} (h : By w w.heap.size v l) : RdrAt (w.alloc (.cells #[v, .int .i64 0] 156)) w.heap.size l 0 :=
  ⟨v, l, BoxAt.new_ _ _ _, h.alloc (Nat.le_refl _) _, fun _ => rfl, fun h => absurd rfl h, by decide, by decide⟩

set_option maxRecDepth 100000 in
set_option maxHeartbeats 800000 in
theorem verr_any (w : World) (g : Nat) (l : List UInt8) (e : Int) (h : RdrAt w g l e) : Calls Try.prog 84 #[.pointer (some ⟨g, 0, none⟩)] w fun ev w' => ev = .returned (.int .i64 e) ∧ w = w' := by
  obtain ⟨v, l', h1, _⟩ := h
  have hc := h1.cell 1 _ rfl
  go_enter Try.func84, Try.ntmps84
  go_wp2_with fail
  go_ret
  exact ⟨rfl, rfl⟩
set_option maxRecDepth 100000 in
set_option maxHeartbeats 800000 in
theorem vleft_any (w : World) (g : Nat) (l : List UInt8) (e : Int) (h : RdrAt w g l e) : Calls Try.prog 98 #[.pointer (some ⟨g, 0, none⟩)] w fun ev w' => ev = .returned (.int .i64 (l.length : Nat)) ∧ w = w' := by
  obtain ⟨v, l', h1, h2, h3, h4, _⟩ := h
  have hc := h1.cell 1 _ rfl
  have hd := h1.cell 0 _ rfl
  by_cases he : e = 0
  · obtain rfl := h3 he
    subst he
    obtain ⟨A, c, rfl, _⟩ := h2
    go_enter Try.func98, Try.ntmps98
    go_wp2_with fail
    go_ret
    exact ⟨rfl, rfl⟩
  · obtain rfl := h4 he
    have hne : (e == 0) = false := by simpa using he
    have hne' : (e != 0) = true := by simpa using he
    go_enter Try.func98, Try.ntmps98
    go_wp2_with fail
    go_ret
    exact ⟨rfl, rfl⟩
set_option maxRecDepth 100000 in
set_option maxHeartbeats 800000 in
theorem vbad_any (w : World) (g : Nat) (l : List UInt8) (e n : Int) (h : RdrAt w g l e) (hn : -9223372036854775808 ≤ n ∧ n ≤ 9223372036854775807) :
    Calls Try.prog 97 #[.pointer (some ⟨g, 0, none⟩), .int .i64 n] w fun ev w' => ev = .returned (.tuple #[]) ∧ RdrAt w' g (badL l e n) (badE e n) ∧ w.grownBy w' (some g) := by
  obtain ⟨v, l', h1, h2, h3, h4, h5⟩ := h
  have hc := h1.cell 1 _ rfl
  have hfr := h1.frozen 1
  by_cases he : e = 0
  · obtain rfl := h3 he
    subst he
    by_cases hn0 : n = 0
    · subst hn0
      go_enter Try.func97, Try.ntmps97
      go_wp2_with fail
      go_end0
      exact ⟨rfl, ⟨v, l', h1, h2, fun _ => by simp [badL], fun h => absurd rfl h, by decide, by decide⟩, grefl _ _⟩
    · have hne : (n == 0) = false := by simpa using hn0
      have hne' : (n != 0) = true := by simpa using hn0
      go_enter Try.func97, Try.ntmps97
      go_wp2_with fail
      go_end0
      refine ⟨rfl, ?_, gset _ _ _⟩
      rw [badL, badE, if_pos ⟨rfl, hn0⟩, if_pos rfl]
      exact ⟨v, l', h1.put 1 _, h2.below ((Below.refl _ _).setCell (p := ⟨g, 1, none⟩) (Nat.le_refl _) _), fun h => absurd h hn0, fun _ => rfl, hn⟩
  · have hne : (e == 0) = false := by simpa using he
    go_enter Try.func97, Try.ntmps97
    go_wp2_with fail
    go_end0
    refine ⟨rfl, ?_, grefl _ _⟩
    rw [badL, badE, if_neg (fun h => he h.1), if_neg he]
    exact ⟨v, l', h1, h2, h3, h4, h5⟩
set_option maxRecDepth 100000 in
set_option maxHeartbeats 800000 in
theorem vend_any (w : World) (g : Nat) (l : List UInt8) (e : Int) (h : RdrAt w g l e) : Calls Try.prog 87 #[.pointer (some ⟨g, 0, none⟩)] w fun ev w' => ev = .returned (.int .i64 (endE l e)) ∧ w = w' := by
  have hl := vleft_any w g l e h
  have he := verr_any w g l e h
  by_cases h0 : 0 < l.length
  · rw [endE, if_pos h0]
    go_enter Try.func87, Try.ntmps87
    go_wp2_with fail
    refine hl.mono ?_
    rintro _ _ ⟨rfl, rfl⟩
    go_wp2_with fail
    go_ret
    exact ⟨rfl, rfl⟩
  · rw [endE, if_neg h0]
    go_enter Try.func87, Try.ntmps87
    go_wp2_with fail
    refine hl.mono ?_
    rintro _ _ ⟨rfl, rfl⟩
    go_wp2_with fail
    refine he.mono ?_
    rintro _ _ ⟨rfl, rfl⟩
    go_wp2_with fail
    go_ret
    exact ⟨rfl, rfl⟩
end Go.Proofs.Ytpoicbhbkabllaa
