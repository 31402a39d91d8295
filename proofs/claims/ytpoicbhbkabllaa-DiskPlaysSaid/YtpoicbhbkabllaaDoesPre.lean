/- palmerlaw06.does: what it leaves. -/
import Derived.Test.YtpoicbhbkabllaaActs
import Derived.Deep.Cut
namespace Go.Proofs.Ytpoicbhbkabllaa
set_option linter.unusedSimpArgs false
set_option linter.unusedVariables false
open Go.RowKit

def DoesPost (B : Nat) (X O : Nat → Prop) (w : World) (g : Nat) (d' : DState) (m' : RD) (v' : Value) (w' : World) : Prop :=
  ∃ O', RDV w' O' v' m' ∧ (∀ k, O' k → k < w'.heap.size ∧ (O k ∨ w.heap.size ≤ k)) ∧ DK B (fun k => X k ∨ O' k) w' g d' ∧ DChg B X w w'
theorem does_close {B : Nat} {X XX O O' : Nat → Prop} {w wE w2 : World} {g g7 : Nat} {d' : DState} {m' : RD} {v' : Value}
    (hv : RDV wE O' v' m') (hO : ∀ k, O' k → k < wE.heap.size ∧ k ≠ g7) (hON : ∀ k, O' k → O k ∨ w.heap.size ≤ k) (hd : DK B XX wE g d') (hXX : ∀ k, X k ∨ O' k ∨ k = g7 → XX k) (hc : DChg B X w wE) (h7 : w.heap.size ≤ g7)
    (hb : Below wE.heap.size wE w2) (cs : List Value) : DoesPost B X O w g d' m' v' (w2.setRow g7 cs.toArray) := by
  have hs := hb.size
  have cy : Chg (fun q => q = g7) w2 (w2.setRow g7 cs.toArray) := Chg.ofGrown (gsetRow' w2 g7 _) (fun k e => by injection e with e; exact e.symm)
  refine ⟨O', (hv.below hb (fun k hk => (hO k hk).1)).chg cy (fun k hk => ⟨by have := (hO k hk).1; omega, (hO k hk).2⟩), fun k hk => ?_, ?_, ?_⟩
  · exact ⟨by have := (hO k hk).1; have := cy.size; omega, hON k hk⟩
  · exact ((hd.below_ hb).grown (gsetRow' w2 g7 _) (fun q e => .inr (hXX q (.inr (.inr (by injection e with e; exact e.symm)))))).apart (fun k hk => .inl (hXX k (hk.elim .inl (fun h => .inr (.inl h)))))
  · have h2 := hc.trans (Chg.ofBelow (P := fun k => B ≤ k ∧ ¬ X k) hb)
    exact h2.past cy (fun i hi => .inl (by omega))
/-- the cells of an act -/
def encA (a : ActS) : List Value := [.int .i64 a.kind, .int .i64 a.i, .int .i64 a.n, .int .u8 (a.c.toNat : Int), .bool a.short, .int .u64 (a.keep : Int), .int .u64 (a.torn : Int)]
theorem DChg.more' {B : Nat} {X X' : Nat → Prop} {w w' : World} (h : DChg B X' w w') (hX : ∀ k, X k → X' k) : DChg B X w w' := Chg.more h fun k _ hk => ⟨hk.1, fun hx => hk.2 (hX k hx)⟩
theorem DK.chg {B : Nat} {X P : Nat → Prop} {w w' : World} {g : Nat} {d : DState} (h : DK B X w g d) (hc : Chg P w w') (hp : ∀ q, P q → q < B ∨ X q) : DK B X w' g d := by
  obtain ⟨S, h1, h2⟩ := h
  refine ⟨S, h1.keep hc.size fun k hk => hc.block k (h1.lt k hk) (fun e => ?_), h2⟩
  rcases hp k e with h | h
  · have := (h2 _ hk).1; omega
  · exact (h2 _ hk).2 h
theorem act_else {d : DState} {m : RD} {a : ActS} (h : a.kind ≠ 0 ∧ a.kind ≠ 1 ∧ a.kind ≠ 2 ∧ a.kind ≠ 3 ∧ a.kind ≠ 4 ∧ a.kind ≠ 5) : actD d a = d ∧ actR m a = m := by
  obtain ⟨h0, h1, h2, h3, h4, h5⟩ := h
  unfold actD actR
  rw [if_neg h0, if_neg h1, if_neg h2, if_neg h3, if_neg h4, if_neg h5, if_neg h0, if_neg h1, if_neg h2, if_neg h3, if_neg h4, if_neg h5]
  exact ⟨rfl, rfl⟩
theorem filledL_le (c : UInt8) (s : Bool) : (filledL c s).length ≤ 128 := by
  unfold filledL
  split
  · rw [List.length_take, fillL_len]; omega
  · rw [fillL_len]; omega
end Go.Proofs.Ytpoicbhbkabllaa
