/- (*alias.rests).next and give, over rows with spare cells -/
import Derived.Test.YteakeefocnjlhaaRw
import Derived.Test.YteakeefocnjlhaaBuildCnt
import Derived.BigRegion
import Derived.Deep.LoopGhost
namespace Go.Proofs.Yteakeefocnjlhaa
set_option linter.unusedSimpArgs false
set_option linter.unusedVariables false
open Go.RowKit

/-- what a call has changed: blocks of P, and new ones -/
structure Chg (P : Nat → Prop) (w w' : World) : Prop where
  os : w'.os = w.os
  tape : w'.tape = w.tape
  output : w'.output = w.output
  size : w.heap.size ≤ w'.heap.size
  block : ∀ k, k < w.heap.size → ¬ P k → w'.heap[k]? = w.heap[k]?
theorem Chg.refl (P : Nat → Prop) (w : World) : Chg P w w := ⟨rfl, rfl, rfl, Nat.le_refl _, fun _ _ _ => rfl⟩
theorem Chg.trans {P : Nat → Prop} {a b c : World} (h : Chg P a b) (k : Chg P b c) : Chg P a c :=
  ⟨k.os.trans h.os, k.tape.trans h.tape, k.output.trans h.output, Nat.le_trans h.size k.size, fun i hi hn => (k.block i (Nat.lt_of_lt_of_le hi h.size) hn).trans (h.block i hi hn)⟩
theorem Chg.more {P Q : Nat → Prop} {a b : World} (h : Chg P a b) (hq : ∀ k, k < a.heap.size → P k → Q k) : Chg Q a b := ⟨h.os, h.tape, h.output, h.size, fun k hk hn => h.block k hk fun hp => hn (hq k hk hp)⟩
theorem Chg.ofGrown {P : Nat → Prop} {a b : World} {row : Option Nat} (h : a.grownBy b row) (hr : ∀ k, row = some k → P k) : Chg P a b := ⟨h.os, h.tape, h.output, h.size, fun k hk hn => h.block k hk fun e => hn (hr k e.symm)⟩
theorem Chg.ofBelow {P : Nat → Prop} {a b : World} (h : Below a.heap.size a b) : Chg P a b := ⟨h.os, h.tape, h.output, h.size, fun k hk _ => h.block k hk⟩
theorem Chg.set {P : Nat → Prop} (w : World) (p : Addr) (u : Value) (h : P p.block) : Chg P w (w.setCell p u) := Chg.ofGrown (gset w p u) fun k e => by injection e with e; rw [← e]; exact h
theorem Chg.drew_ {P : Nat → Prop} {a b : World} (h : Chg P a b) : Chg P a b.drew := ⟨h.os, h.tape, h.output, h.size, h.block⟩
theorem Chg.alloc_ {P : Nat → Prop} {a b : World} (h : Chg P a b) (o : Obj) : Chg P a (b.alloc o) := h.trans (Chg.ofBelow (balloc b o))
/-- changes of what was new are none -/
theorem Chg.past {P Q : Nat → Prop} {a b c : World} (h : Chg P a b) (k : Chg Q b c) (hq : ∀ i, Q i → a.heap.size ≤ i ∨ P i) : Chg P a c :=
  ⟨k.os.trans h.os, k.tape.trans h.tape, k.output.trans h.output, Nat.le_trans h.size k.size, fun i hi hn => (k.block i (Nat.lt_of_lt_of_le hi h.size) (fun hx => by
    rcases hq i hx with h1 | h1
    · omega
    · exact hn h1)).trans (h.block i hi hn)⟩
theorem Chg.below {P : Nat → Prop} {a b : World} {B : Nat} (h : Chg P a b) (hB : B ≤ a.heap.size) (hp : ∀ k, P k → B ≤ k) : Below B a b := by
  have h1 := h.block
  refine (Below.refl B a).trans ⟨h.os, h.tape, h.output, h.size, fun k hk => h1 k (by omega) fun hx => by have := hp k hx; omega⟩
theorem BoxAt.chg {P : Nat → Prop} {T : TypeId} {w w' : World} {g : Nat} {cs : List Value} (h : BoxAt T w g cs) (hc : Chg P w w') (hn : ¬ P g) : BoxAt T w' g cs := (hc.block g h.lt hn).trans h
theorem RwAt.chg {P : Nat → Prop} {T : TypeId} {K : IntKind} {w w' : World} {base : Nat} {v : Value} {xs : List Nat} (h : RwAt T K w base v xs) (hc : Chg P w w') (hn : ∀ q, v.ownBlock = some q → ¬ P q) : RwAt T K w' base v xs := by
  obtain ⟨A, c, rfl, h1, h2, h3, h4⟩ := h
  refine ⟨A, c, rfl, h1, h2, fun q hq => ⟨(h3 q hq).1, Nat.lt_of_lt_of_le (h3 q hq).2 hc.size⟩, fun hcc => ?_⟩
  obtain ⟨b, off, cs, rfl, hb, hl, hx⟩ := h4 hcc
  exact ⟨b, off, cs, rfl, hb.chg hc (hn b rfl), hl, hx⟩

theorem RwAt.set_ {T : TypeId} {K : IntKind} {w : World} {base : Nat} {v : Value} {xs : List Nat} (h : RwAt T K w base v xs) (p : Addr) (u : Value) (hne : v.ownBlock ≠ some p.block) : RwAt T K (w.setCell p u) base v xs :=
  h.keep (gset w p u) fun q hq e => hne (by rw [hq]; exact e.symm)
theorem Chg.drewN_ {P : Nat → Prop} {a b : World} (h : Chg P a b) (n : Nat) : Chg P a (b.drewN n) := ⟨h.os, h.tape, h.output, h.size, h.block⟩

set_option maxRecDepth 100000 in
set_option maxHeartbeats 1600000 in
theorem nextR_any (w : World) (g W base : Nat) (vl vp : Value) (rich p : Nat) (ps : List Nat) (hbx : BoxAt 117 w g [.int .u64 (W : Int), vl, vp, .int .i64 (rich : Int)]) (hr : RwAt 3 .i64 w base vp (p :: ps)) :
    Calls Try.prog 81 #[.pointer (some ⟨g, 0, none⟩)] w fun e w' => e = .returned (.int .i64 (p : Int)) ∧ ∃ vp', w' = w.setCell ⟨g, 2, none⟩ vp' ∧ RwAt 3 .i64 w base vp' ps ∧ vp'.ownBlock = vp.ownBlock := by
  obtain ⟨A, c, rfl, hc1, hc2⟩ := hr.form
  obtain ⟨_, b, off, rfl, hb1, hb2, hx, hxf⟩ := hr.at_ 0 p rfl
  have hy := hbx.cell 2 _ rfl
  have hf := hbx.frozen 2
  unfold maxLen at hc2
  simp only [List.length_cons] at hc1 hy
  rw [Nat.add_zero] at hx hxf
  have hcl : ps.length + 1 ≤ c := hc1
  have htail : ∀ v' : Value, v' = .slice (some ⟨b, (if c = 1 then off else off + 1), none⟩) ps.length (c - 1) → RwAt 3 .i64 w base v' ps := by
    rintro v' rfl
    obtain ⟨A', c', e, h1, h2, h3, h4⟩ := hr
    injection e with e1 e2 e3
    subst e1; subst e3
    refine ⟨_, _, rfl, by omega, by unfold maxLen at h2 ⊢; omega, h3, fun hc => ?_⟩
    obtain ⟨b', off', cs, e, hb, hl, hg⟩ := h4 (by omega)
    injection e with e; injection e with e1 e2 _
    subst e1; subst e2
    rw [if_neg (by omega)]
    refine ⟨b, off + 1, cs, rfl, hb, by omega, fun j x hj => ?_⟩
    have := hg (j + 1) x (by simpa using hj)
    rw [show off + 1 + j = off + (j + 1) from by omega]
    exact this
  have Ht := Lib.hid htail
  clear htail hbx hr
  by_cases h1 : c = 1
  · have hc1' : (c == 1) = true := by simpa using h1
    go_enter Try.func81, Try.ntmps81
    go_wp2_with fail
    go_ret
    exact ⟨rfl, _, rfl, Ht.out _ (by simp [h1]), rfl⟩
  · have hc1' : (c == 1) = false := by simpa using h1
    go_enter Try.func81, Try.ntmps81
    go_wp2_with fail
    go_ret
    exact ⟨rfl, _, rfl, Ht.out _ (by simp [h1]), rfl⟩

set_option maxRecDepth 100000 in
set_option maxHeartbeats 1600000 in
theorem bsearch_any (w : World) (base : Nat) (v : Value) (ps : List Nat) (r : Nat) (h : RwAt 3 .i64 w base v ps) (hps : ps.length ≤ 4294967296) (hs : ps.Pairwise (· < ·)) :
    Calls Try.prog 88 #[v, .int .i64 (r : Int)] w fun e w' => ∃ fo, e = .returned (.tuple #[.int .i64 ((ps.countP fun x => decide (x < r) : Nat) : Int), .bool fo]) ∧ ∃ q, w' = w.drewN q := by
  obtain ⟨A, c, rfl, h1, h2⟩ := h.form
  cases hp : ps with
  | nil =>
    subst hp
    refine (Any.slices_BinarySearch_int_empty lays225 A c (r : Int) w).mono ?_
    rintro e w' ⟨rfl, rfl⟩
    exact ⟨false, rfl, 0, rfl⟩
  | cons a t =>
    rw [← hp]
    obtain ⟨_, b, off, rfl, _, _, _, _⟩ := h.at_ 0 a (by rw [hp]; rfl)
    have hz : (ps.map fun (x : Nat) => (x : Int)).length = ps.length := by simp
    have htk : (ps.map fun (x : Nat) => (x : Int)).take ps.length = ps.map fun (x : Nat) => (x : Int) := List.take_of_length_le (by rw [hz]; omega)
    have hcnt : (ps.map fun (x : Nat) => (x : Int)).countP (fun x => decide (x < (r : Int))) = ps.countP fun x => decide (x < r) := by
      rw [List.countP_map]
      congr 1
      funext x
      simp
    refine (Any.slices_BinarySearch_int lays225 b off ps.length c (ps.map fun (x : Nat) => (x : Int)) (r : Int) w (by omega) (by omega) (fun j hj => ?_) ?_).mono ?_
    · rw [hz] at hj
      obtain ⟨_, b', off', e, _, _, hx, _⟩ := h.at_ j ps[j] (List.getElem?_eq_getElem hj)
      injection e with e; injection e with e1 e2 _
      subst e1; subst e2
      rw [hx]
      simp [List.getD, hj]
    · rw [htk, List.pairwise_map]
      exact hs.imp fun hab => by omega
    · rw [htk, hcnt]
      rintro e w' ⟨rfl, q, rfl⟩
      exact ⟨_, rfl, q, rfl⟩
end Go.Proofs.Yteakeefocnjlhaa
