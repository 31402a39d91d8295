/- A disk that the caller has made: each deed, told by what it leaves alone. -/
import Derived.Test.YtpoicbhbkabllaaDiskNil
namespace Go.Proofs.Ytpoicbhbkabllaa
set_option linter.unusedSimpArgs false
set_option linter.unusedVariables false
open Go.RowKit

/-! ### a disk that the caller has made -/
/-- the disk at g, all its blocks from B on, none of them in X -/
def DK (B : Nat) (X : Nat → Prop) (w : World) (g : Nat) (d : DState) : Prop := ∃ S, DiskAt w S g d ∧ ∀ k, S k → B ≤ k ∧ ¬ X k
theorem DK.post {B : Nat} {X S : Nat → Prop} {w w' : World} {g : Nat} {d' : DState} (hS : ∀ k, S k → B ≤ k ∧ ¬ X k) (hX : ∀ k, X k → k < w.heap.size) (hB : B ≤ w.heap.size) (h : DPost w S g d' w') : DK B X w' g d' ∧ Chg (fun k => B ≤ k ∧ ¬ X k) w w' := by
  obtain ⟨S', h1, h2, h3⟩ := h
  refine ⟨⟨S', h1, fun k hk => ?_⟩, h3.more fun k _ hk => hS k hk⟩
  rcases h2 k hk with h | h
  · exact hS k h
  · exact ⟨Nat.le_trans hB h, fun hx => by have := hX k hx; omega⟩
theorem DK.below_ {B : Nat} {X : Nat → Prop} {w w' : World} {g : Nat} {d : DState} (h : DK B X w g d) (hb : Below w.heap.size w w') : DK B X w' g d := by
  obtain ⟨S, h1, h2⟩ := h
  exact ⟨S, h1.below_ hb, h2⟩
/-- one more block that it has nothing to do with -/
theorem DK.apart {B : Nat} {X X' : Nat → Prop} {w : World} {g : Nat} {d : DState} (h : DK B X w g d) (hX : ∀ k, X' k → X k ∨ w.heap.size ≤ k) : DK B X' w g d := by
  obtain ⟨S, h1, h2⟩ := h
  refine ⟨S, h1, fun k hk => ⟨(h2 k hk).1, fun hx => ?_⟩⟩
  rcases hX k hx with h | h
  · exact (h2 k hk).2 h
  · have := h1.lt k hk; omega
theorem BX.of {w : World} {S : Nat → Prop} {v : Value} {l : List UInt8} (h : By w w.heap.size v l) (hn : ∀ q, v.ownBlock = some q → ¬ S q) : BX w S v l := by
  obtain ⟨A, c, h1, h2, h3, h4⟩ := (h.toRow (S := fun _ => True))
  subst h1
  refine ⟨A, c, rfl, h2, h3, fun hl => ?_⟩
  obtain ⟨ad, rfl, hb, hc⟩ := h4 hl
  exact ⟨ad, rfl, ⟨hb, hn _ rfl⟩, hc⟩

/-- what a deed may change -/
abbrev DChg (B : Nat) (X : Nat → Prop) (w w' : World) : Prop := Chg (fun k => B ≤ k ∧ ¬ X k) w w'
section
variable {B : Nat} {X : Nat → Prop} {w w' : World} {g : Nat} {d : DState}
theorem DChg.below_ (h : DChg B X w w') (hB : B ≤ w.heap.size) : Below B w w' := Chg.below h hB fun k hk => hk.1
theorem DChg.box {T : TypeId} {q : Nat} {cs : List Value} (h : DChg B X w w') (hq : X q) (hb : BoxAt T w q cs) : BoxAt T w' q cs := hb.chg h fun hk => hk.2 hq
theorem DK.lt (h : DK B X w g d) : g < w.heap.size ∧ B ≤ g := by
  obtain ⟨S, h1, h2⟩ := h
  exact ⟨h1.lt g h1.here, (h2 g h1.here).1⟩
theorem dwrite_dk {i : Int} {v : Value} {b : List UInt8} (h : DK B X w g d) (hX : ∀ k, X k → k < w.heap.size) (hB : B ≤ w.heap.size) (hw : d.wt.length ≤ 1000000) (hv : By w w.heap.size v b) (hvX : ∀ q, v.ownBlock = some q → q < B ∨ X q) :
    Calls Try.prog 16 #[.pointer (some ⟨g, 0, none⟩), .int .i64 i, v] w fun e w' => e = .returned (.int .i64 (writeE d i b)) ∧ DK B X w' g (writeD d i b) ∧ DChg B X w w' := by
  obtain ⟨S, h1, h2⟩ := h
  refine (dwrite_any w S g d i v b hw h1 (BX.of hv fun q hq hs => ?_)).mono ?_
  · rcases hvX q hq with h | h
    · have := (h2 q hs).1; omega
    · exact (h2 q hs).2 h
  · rintro e w' ⟨he, hp⟩
    exact ⟨he, DK.post h2 hX hB hp⟩
theorem dsync_dk (h : DK B X w g d) (hX : ∀ k, X k → k < w.heap.size) (hB : B ≤ w.heap.size) (hw : d.wt.length ≤ 1000000) :
    Calls Try.prog 15 #[.pointer (some ⟨g, 0, none⟩)] w fun e w' => e = .returned (.int .i64 (syncE d)) ∧ DK B X w' g (syncD d) ∧ DChg B X w w' := by
  obtain ⟨S, h1, h2⟩ := h
  refine (dsync_any w S g d hw h1).mono ?_
  rintro e w' ⟨he, hp⟩
  exact ⟨he, DK.post h2 hX hB hp⟩
theorem dback_dk {keep torn : Nat} (h : DK B X w g d) (hX : ∀ k, X k → k < w.heap.size) (hB : B ≤ w.heap.size) (hkp : keep < 18446744073709551616) (htn : torn < 18446744073709551616) (hw : d.wt.length ≤ 1000000) :
    Calls Try.prog 19 #[.pointer (some ⟨g, 0, none⟩), .int .u64 (keep : Int), .int .u64 (torn : Int)] w fun e w' => e = .returned (.tuple #[]) ∧ DK B X w' g (backD d keep torn) ∧ DChg B X w w' := by
  obtain ⟨S, h1, h2⟩ := h
  refine (dback_any w S g d keep torn hkp htn hw h1).mono ?_
  rintro e w' ⟨he, hp⟩
  exact ⟨he, DK.post h2 hX hB hp⟩
theorem dspoil_dk {i at_ : Int} {c : UInt8} (h : DK B X w g d) (hX : ∀ k, X k → k < w.heap.size) (hB : B ≤ w.heap.size) :
    Calls Try.prog 27 #[.pointer (some ⟨g, 0, none⟩), .int .i64 i, .int .i64 at_, .int .u8 (c.toNat : Int)] w fun e w' => e = .returned (.int .i64 (spoilE d i at_)) ∧ DK B X w' g (spoilD d i at_ c) ∧ DChg B X w w' := by
  obtain ⟨S, h1, h2⟩ := h
  refine (dspoil_any w S g d i at_ c h1).mono ?_
  rintro e w' ⟨he, hp⟩
  exact ⟨he, DK.post h2 hX hB hp⟩
theorem dfuse_dk {n : Int} (h : DK B X w g d) (hn : -9223372036854775808 ≤ n ∧ n ≤ 9223372036854775807) :
    Calls Try.prog 14 #[.pointer (some ⟨g, 0, none⟩), .int .i64 n] w fun e w' => e = .returned (.tuple #[]) ∧ DK B X w' g { d with fuse := n } ∧ DChg B X w w' := by
  obtain ⟨S, h1, h2⟩ := h
  refine (dfuse_any w S g d n hn h1).mono ?_
  rintro e w' ⟨he, hd, hc⟩
  exact ⟨he, ⟨S, hd, h2⟩, hc.more fun k _ hk => h2 k hk⟩
theorem doff_dk (h : DK B X w g d) :
    Calls Try.prog 26 #[.pointer (some ⟨g, 0, none⟩)] w fun e w' => e = .returned (.tuple #[]) ∧ DK B X w' g { d with off := true } ∧ DChg B X w w' := by
  obtain ⟨S, h1, h2⟩ := h
  refine (doff_any w S g d h1).mono ?_
  rintro e w' ⟨he, hd, hc⟩
  exact ⟨he, ⟨S, hd, h2⟩, hc.more fun k _ hk => h2 k hk⟩
theorem dread_dk {i : Int} (h : DK B X w g d) (hw : d.wt.length ≤ 1000000) :
    Calls Try.prog 20 #[.pointer (some ⟨g, 0, none⟩), .int .i64 i] w fun e w' => ∃ v, e = .returned (.tuple #[v, .int .i64 (mayE d i)]) ∧ Fresh w.heap.size w' v (readL d i) ∧ DK B X w' g d ∧ Below w.heap.size w w' := by
  obtain ⟨S, h1, h2⟩ := h
  refine (dread_any w S g d i hw h1).mono ?_
  rintro e w' ⟨v, he, hf, hb⟩
  exact ⟨v, he, hf, ⟨S, h1.below_ hb, h2⟩, hb⟩
theorem don_dk (h : DK B X w g d) : Calls Try.prog 18 #[.pointer (some ⟨g, 0, none⟩)] w fun e w' => e = .returned (.bool (!d.off)) ∧ w = w' := by
  obtain ⟨S, h1, h2⟩ := h
  exact don_any w S g d h1
theorem dcount_dk (h : DK B X w g d) : Calls Try.prog 24 #[.pointer (some ⟨g, 0, none⟩)] w fun e w' => e = .returned (.int .i64 (d.bl.length : Int)) ∧ w = w' := by
  obtain ⟨S, h1, h2⟩ := h
  exact dcount_any w S g d h1
theorem dwaiting_dk (h : DK B X w g d) : Calls Try.prog 21 #[.pointer (some ⟨g, 0, none⟩)] w fun e w' => e = .returned (.int .i64 (d.wt.length : Int)) ∧ w = w' := by
  obtain ⟨S, h1, h2⟩ := h
  exact dwaiting_any w S g d h1
theorem DK.set_ (h : DK B X w g d) (p : Addr) (u : Value) (hp : p.block < B ∨ X p.block) : DK B X (w.setCell p u) g d := by
  obtain ⟨S, h1, h2⟩ := h
  refine ⟨S, h1.keep (by simp [World.setCell]) fun k hk => Below.heap_setCell w p u k (fun e => ?_), h2⟩
  subst e
  rcases hp with h | h
  · have := (h2 _ hk).1; omega
  · exact (h2 _ hk).2 h
theorem DK.grown {row : Option Nat} (h : DK B X w g d) (hg : w.grownBy w' row) (hp : ∀ q, row = some q → q < B ∨ X q) : DK B X w' g d := by
  obtain ⟨S, h1, h2⟩ := h
  refine ⟨S, h1.keep hg.size fun k hk => hg.block k (h1.lt k hk) (fun e => ?_), h2⟩
  rcases hp k e.symm with h | h
  · have := (h2 _ hk).1; omega
  · exact (h2 _ hk).2 h
theorem DK.wts (h : DK B X w g d) : ∀ x ∈ d.wt, x.1 < d.bl.length := by
  obtain ⟨S, h1, h2⟩ := h
  exact h1.wts
theorem dnew_dk (w : World) (n : Nat) (h1 : 1 ≤ n) (h2 : n ≤ 65536) :
    Calls Try.prog 13 #[.int .i64 (n : Int)] w fun e w' => ∃ g, e = .returned (.tuple #[.pointer (some ⟨g, 0, none⟩), .int .i64 0]) ∧ DK w.heap.size (fun _ => False) w' g (newD n) ∧ Below w.heap.size w w' := by
  refine (dnew_any w n h1 h2).mono ?_
  rintro e w' ⟨g, S, he, hd, hS, hb⟩
  exact ⟨g, he, ⟨S, hd, fun k hk => ⟨hS k hk, fun h => h⟩⟩, hb⟩
end
end Go.Proofs.Ytpoicbhbkabllaa
