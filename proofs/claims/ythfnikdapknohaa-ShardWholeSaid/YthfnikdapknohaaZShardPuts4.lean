/- Lemmas for the law ShardPuts: Disks: the document's, in plain, and that it agrees with the program's.; What a round keeps; whole things loaded, stored and made within a fence.; The document's disks: how one lies in memory; zeros, last, New, deed, bit.; The document's disks: Good, Read, New, deed (printed by wip/gen/rdisk2.py); The document's disks: New, deed; manifest.read (printed by wip/gen/mant.py); graph.own, graph.New (printed by wip/gen/shnew.py); alias.Put of a table that lies anywhere but in the row that grows; shard.above, shard.put, shard.whole (printed by wip/gen/shput.py); shard.Put; The document's check (package palmerref02): Sum, Four, Mark and Fits are the plain functions that the code's are. The rows are readable slices of at most 2^40 bytes.; palmerref02.Fits: bytes without their check, or the error's number. The row is a readable slice of at most 2^40 bytes.; The document's sections (package palmerref05): Put and Get compute what the plain functions say.; palmerref23.Put (printed by wip/gen/shrput.py); shard.read: a row with its table; lines of a shard in memory; A range over a function whose values lead into memory: the iterator tells of each value what holds of the world at its yield (R), and in the end what holds of all (S). The body never leaves the loop early.; The law of a region that draws its order and whose end waits, within the wide fence.; (*shard.Shard).Len, Rows, and the iterator (printed by wip/gen/shiter.py); palmerlaw23.rows: a range over the iterator; bytes.Equal. No condition. -/
import Derived.Test.YthfnikdapknohaaZShardPuts3
import Derived.RangeFuncNested
import Derived.RangeFuncBound
import Derived.RangeFuncCalls
import Derived.RangeFuncLeaves
import Derived.RangeFuncBox
import Derived.Shelf.Abstract
import Derived.Shelf.RegionOpen
import Derived.WalkKit
import Derived.OwnWalkIn
import Derived.TacticsInMore
import Derived.LoopNIn
import Derived.LoopIn
import Derived.Deep.WholeRow
import Derived.Deep.MidRow
import Derived.RangeFuncWrites
import Derived.OrdersIn
import Derived.BigRegionIn
namespace Go.Proofs.Ythfnikdapknohaa
set_option linter.unusedSimpArgs false
set_option linter.unusedVariables false

abbrev RW := Int × List UInt8
structure RD where
  count : Int
  off : Bool
  fuse : Int
  made : List RW
  wait : List RW
def lastR (l : List RW) (i : Int) (b : List UInt8) : List UInt8 := l.foldl (fun b x => if x.1 = i then x.2 else b) b
def zerosL : List UInt8 := List.replicate 128 0
def goodR (m : RD) (i : Int) : List UInt8 := lastR m.made i zerosL
def readRE (m : RD) (i : Int) : Int := if m.off = true then 6 else if 0 ≤ i ∧ i < m.count then 0 else 9
def readRL (m : RD) (i : Int) : List UInt8 := if readRE m i ≠ 0 then [] else lastR m.wait i (goodR m i)
def putMade (l : List RW) (x : RW) : List RW := l.filter (fun y => decide (y.1 ≠ x.1)) ++ [x]
def putRD (m : RD) (x : RW) : RD := { m with made := putMade m.made x }
def deedRE (m : RD) : Int := if m.fuse = 0 then 6 else 0
def deedRD (m : RD) : RD := if m.fuse = 0 then { m with off := true } else if 0 < m.fuse then { m with fuse := m.fuse - 1 } else m
def writeRE (m : RD) (i : Int) (b : List UInt8) : Int := if readRE m i ≠ 0 then readRE m i else if b.length ≠ 128 then 3 else deedRE m
def writeRD (m : RD) (i : Int) (b : List UInt8) : RD :=
  if readRE m i ≠ 0 then m else if b.length ≠ 128 then m else if deedRE m ≠ 0 then deedRD m else { deedRD m with wait := m.wait ++ [(i, b)] }
def syncRE (m : RD) : Int := if m.off = true then 6 else deedRE m
def syncRD (m : RD) : RD := if m.off = true then m else if deedRE m ≠ 0 then deedRD m else { (m.wait.foldl putRD (deedRD m)) with wait := [] }
def backRS (keep torn k : Nat) (x : RW) (m : RD) : RD := if bitAt keep k = true then putRD m x else if bitAt torn k = true then putRD m (x.1, x.2.take 64 ++ (goodR m x.1).drop 64) else m
def backRL (keep torn : Nat) : Nat → List RW → RD → RD
  | _, [], m => m
  | k, x :: t, m => backRL keep torn (k + 1) t (backRS keep torn k x m)
def backRD (m : RD) (keep torn : Nat) : RD := { backRL keep torn 0 m.wait m with wait := [], off := false, fuse := -1 }
def spoilRE (m : RD) (i at_ : Int) : Int := if 0 ≤ i ∧ i < m.count ∧ 0 ≤ at_ ∧ at_ < 128 then 0 else 9
def spoilRD (m : RD) (i at_ : Int) (c : UInt8) : RD := if spoilRE m i at_ ≠ 0 then m else putRD m (i, (goodR m i).set at_.toNat ((goodR m i).getD at_.toNat 0 ^^^ c))
def newR (n : Int) : RD := { count := n, off := false, fuse := -1, made := [], wait := [] }

/-! ### the last one -/
theorem lastR_snoc (l : List RW) (x : RW) (i : Int) (b : List UInt8) : lastR (l ++ [x]) i b = if x.1 = i then x.2 else lastR l i b := by simp [lastR]
theorem lastR_filter (k i : Int) (h : k ≠ i) : ∀ (l : List RW) (b : List UInt8), lastR (l.filter (fun y => decide (y.1 ≠ k))) i b = lastR l i b
  | [], _ => rfl
  | x :: l, b => by
    rw [List.filter_cons]
    by_cases hx : x.1 = k
    · have hxi : ¬ x.1 = i := fun e => h (hx.symm.trans e)
      rw [if_neg (by simp [hx]), lastR_filter k i h l b]
      show _ = lastR l i (if x.1 = i then x.2 else b)
      rw [if_neg hxi]
    · rw [if_pos (by simp [hx])]
      exact lastR_filter k i h l (if x.1 = i then x.2 else b)
theorem lastR_put (l : List RW) (x : RW) (i : Int) (b : List UInt8) : lastR (putMade l x) i b = if x.1 = i then x.2 else lastR l i b := by
  unfold putMade
  rw [lastR_snoc]
  by_cases h : x.1 = i
  · rw [if_pos h, if_pos h]
  · rw [if_neg h, if_neg h, lastR_filter _ _ h]
theorem lastR_wt (wt : List Wt) (i : Nat) : ∀ b : Blk, lastR (wt.map fun x => ((x.1 : Int), x.2.1)) (i : Int) b.1 = (lastW wt i b).1 := by
  induction wt with
  | nil => intro b; rfl
  | cons x t ih =>
    intro b
    have := ih (if x.1 = i then x.2 else b)
    show lastR (t.map _) (i : Int) (if (x.1 : Int) = (i : Int) then x.2.1 else b.1) = (lastW t i (if x.1 = i then x.2 else b)).1
    rw [← this]
    congr 1
    by_cases h : x.1 = i
    · rw [if_pos h, if_pos (by omega)]
    · rw [if_neg h, if_neg (by omega)]

/-! ### that both agree -/
structure RelD (d : DState) (m : RD) : Prop where
  count : m.count = (d.bl.length : Int)
  off : m.off = d.off
  fuse : m.fuse = d.fuse
  good : ∀ i, i < d.bl.length → goodR m (i : Int) = (d.bl.getD i zeroB).1
  wait : m.wait = d.wt.map fun x => ((x.1 : Int), x.2.1)
theorem rel_mayE {d : DState} {m : RD} (h : RelD d m) (i : Int) : readRE m i = mayE d i := by unfold readRE mayE; rw [h.off, h.count]
theorem mayE_in {d : DState} {i : Int} (h : mayE d i = 0) : 0 ≤ i ∧ i < (d.bl.length : Int) := by
  unfold mayE at h
  split at h
  · cases h
  · split at h
    · assumption
    · cases h
theorem rel_read {d : DState} {m : RD} (h : RelD d m) (i : Int) : readRL m i = readL d i := by
  unfold readRL readL
  rw [rel_mayE h]
  by_cases hm : mayE d i ≠ 0
  · rw [if_pos hm, if_pos hm]
  · rw [if_neg hm, if_neg hm]
    have hi := mayE_in (by simpa using hm)
    obtain ⟨k, rfl⟩ : ∃ k : Nat, i = (k : Int) := ⟨i.toNat, by omega⟩
    rw [h.good k (by omega), h.wait, Int.toNat_natCast, lastR_wt]
    rfl
theorem rel_deedE {d : DState} {m : RD} (h : RelD d m) : deedRE m = deedE d := by unfold deedRE deedE; rw [h.fuse]
theorem rel_deed {d : DState} {m : RD} (h : RelD d m) : RelD (deedD d) (deedRD m) := by
  unfold deedD deedRD
  rw [h.fuse]
  split
  · exact ⟨h.count, rfl, rfl, h.good, h.wait⟩
  · split
    · exact ⟨h.count, h.off, rfl, h.good, h.wait⟩
    · exact h
theorem rel_writeE {d : DState} {m : RD} (h : RelD d m) (i : Int) (b : List UInt8) : writeRE m i b = writeE d i b := by unfold writeRE writeE; rw [rel_mayE h, rel_deedE h]
theorem deedRD_wait (m : RD) : (deedRD m).wait = m.wait := by unfold deedRD; split <;> (try split) <;> rfl
theorem deedRD_made (m : RD) : (deedRD m).made = m.made := by unfold deedRD; split <;> (try split) <;> rfl
theorem rel_write {d : DState} {m : RD} (h : RelD d m) (i : Int) (b : List UInt8) : RelD (writeD d i b) (writeRD m i b) := by
  unfold writeD writeRD
  rw [rel_mayE h, rel_deedE h]
  by_cases hm : mayE d i ≠ 0
  · rw [if_pos hm, if_pos hm]; exact h
  · rw [if_neg hm, if_neg hm]
    by_cases hb : b.length = 128
    · rw [dif_pos hb, if_neg (show ¬ b.length ≠ 128 by simp [hb])]
      have hd := rel_deed h
      by_cases he : deedE d ≠ 0
      · rw [if_pos he, if_pos he]; exact hd
      · rw [if_neg he, if_neg he]
        have hi := mayE_in (by simpa using hm)
        refine ⟨hd.count, hd.off, hd.fuse, hd.good, ?_⟩
        show m.wait ++ [(i, b)] = (d.wt ++ [(i.toNat, (⟨b, hb⟩ : Blk))]).map _
        rw [List.map_append, h.wait]
        simp only [List.map_cons, List.map_nil]
        rw [Int.toNat_of_nonneg hi.1]
    · rw [dif_neg hb, if_pos hb]; exact h
theorem rel_put {d : DState} {m : RD} (h : RelD d m) (k : Nat) (c : Blk) (hk : k < d.bl.length) : RelD { d with bl := d.bl.set k c } (putRD m ((k : Int), c.1)) := by
  refine ⟨by simp only [List.length_set]; exact h.count, h.off, h.fuse, fun i hi => ?_, h.wait⟩
  simp only [List.length_set] at hi
  show lastR (putMade m.made ((k : Int), c.1)) (i : Int) zerosL = ((d.bl.set k c).getD i zeroB).1
  rw [lastR_put]
  rw [List.getD_eq_getElem?_getD, List.getElem?_set]
  by_cases hik : k = i
  · subst hik
    rw [if_pos rfl, if_pos rfl, if_pos hk]
    rfl
  · rw [if_neg (by simp; omega), if_neg hik]
    have := h.good i hi
    unfold goodR at this
    rw [this, List.getD_eq_getElem?_getD]
theorem putRD_wait (m : RD) (x : RW) : (putRD m x).wait = m.wait := rfl
theorem rel_syncs (m0w : List RW) (wt : List Wt) : ∀ (d : DState) (m : RD), RelD d m → (∀ x ∈ wt, x.1 < d.bl.length) →
    RelD { d with bl := syncBl wt d.bl } ((wt.map fun x => ((x.1 : Int), x.2.1)).foldl putRD m) := by
  induction wt with
  | nil => intro d m h _; exact h
  | cons x t ih =>
    intro d m h hx
    have h1 := rel_put h x.1 x.2 (hx x (by simp))
    have := ih { d with bl := d.bl.set x.1 x.2 } _ h1 (fun y hy => by simp only [List.length_set]; exact hx y (by simp [hy]))
    exact this
theorem foldl_putRD_wait (l : List RW) : ∀ m : RD, (l.foldl putRD m).wait = m.wait := by
  induction l with
  | nil => intro m; rfl
  | cons x t ih => intro m; exact ih _
theorem rel_syncE {d : DState} {m : RD} (h : RelD d m) : syncRE m = syncE d := by unfold syncRE syncE; rw [h.off, rel_deedE h]
theorem rel_sync {d : DState} {m : RD} (h : RelD d m) (hw : ∀ x ∈ d.wt, x.1 < d.bl.length) : RelD (syncD d) (syncRD m) := by
  unfold syncD syncRD
  rw [h.off, rel_deedE h]
  by_cases ho : d.off = true
  · rw [if_pos ho, if_pos ho]; exact h
  · rw [if_neg ho, if_neg ho]
    by_cases he : deedE d ≠ 0
    · rw [if_pos he, if_pos he]; exact rel_deed h
    · rw [if_neg he, if_neg he]
      have h1 := rel_syncs [] d.wt (deedD d) (deedRD m) (rel_deed h) (by rw [deedD_bl]; exact hw)
      rw [← h.wait, deedD_bl] at h1
      exact ⟨h1.count, h1.off, h1.fuse, h1.good, rfl⟩
theorem rel_backS {d : DState} {m : RD} (h : RelD d m) (keep torn k : Nat) (x : Wt) (hx : x.1 < d.bl.length) :
    RelD { d with bl := backStep keep torn k x d.bl } (backRS keep torn k ((x.1 : Int), x.2.1) m) := by
  unfold backStep backRS
  by_cases hk : bitAt keep k = true
  · rw [if_pos hk, if_pos hk]; exact rel_put h _ _ hx
  · rw [if_neg hk, if_neg hk]
    by_cases ht : bitAt torn k = true
    · rw [if_pos ht, if_pos ht]
      have := rel_put h x.1 (over (d.bl.getD x.1 zeroB) 0 (x.2.1.take 64)) hx
      have e : (over (d.bl.getD x.1 zeroB) 0 (x.2.1.take 64)).1 = x.2.1.take 64 ++ (goodR m (x.1 : Int)).drop 64 := by
        rw [h.good _ hx]
        have hl : (x.2.1.take 64).length = 64 := by rw [List.length_take, x.2.2]; rfl
        unfold over
        rw [dif_pos (by omega)]
        simp only [hl, List.take_zero, List.nil_append, Nat.zero_add]
      rw [e] at this
      exact this
    · rw [if_neg ht, if_neg ht]; exact h
theorem rel_backs (keep torn : Nat) (wt : List Wt) : ∀ (k : Nat) (d : DState) (m : RD), RelD d m → (∀ x ∈ wt, x.1 < d.bl.length) →
    RelD { d with bl := backBl keep torn k wt d.bl } (backRL keep torn k (wt.map fun x => ((x.1 : Int), x.2.1)) m) := by
  induction wt with
  | nil => intro k d m h _; exact h
  | cons x t ih =>
    intro k d m h hx
    have h1 := rel_backS h keep torn k x (hx x (by simp))
    exact ih (k + 1) { d with bl := backStep keep torn k x d.bl } _ h1 (fun y hy => by simp only [backStep_len]; exact hx y (by simp [hy]))
theorem rel_back {d : DState} {m : RD} (h : RelD d m) (keep torn : Nat) (hw : ∀ x ∈ d.wt, x.1 < d.bl.length) : RelD (backD d keep torn) (backRD m keep torn) := by
  unfold backD backRD
  have h1 := rel_backs keep torn d.wt 0 d m h hw
  rw [← h.wait] at h1
  exact ⟨h1.count, rfl, rfl, h1.good, rfl⟩
theorem rel_spoilE {d : DState} {m : RD} (h : RelD d m) (i at_ : Int) : spoilRE m i at_ = spoilE d i at_ := by unfold spoilRE spoilE; rw [h.count]
theorem rel_spoil {d : DState} {m : RD} (h : RelD d m) (i at_ : Int) (c : UInt8) : RelD (spoilD d i at_ c) (spoilRD m i at_ c) := by
  unfold spoilD spoilRD
  rw [rel_spoilE h]
  by_cases he : spoilE d i at_ ≠ 0
  · rw [if_pos he, if_pos he]; exact h
  · rw [if_neg he, if_neg he]
    have hi : 0 ≤ i ∧ i < (d.bl.length : Int) ∧ 0 ≤ at_ ∧ at_ < 128 := by
      unfold spoilE at he
      split at he
      · assumption
      · simp at he
    obtain ⟨k, rfl⟩ : ∃ k : Nat, i = (k : Int) := ⟨i.toNat, by omega⟩
    obtain ⟨j, rfl⟩ : ∃ j : Nat, at_ = (j : Int) := ⟨at_.toNat, by omega⟩
    rw [Int.toNat_natCast, Int.toNat_natCast]
    have hk : k < d.bl.length := by omega
    have hg := h.good k hk
    have := rel_put h k (over (d.bl.getD k zeroB) j [(d.bl.getD k zeroB).1.getD j 0 ^^^ c]) hk
    have e : (over (d.bl.getD k zeroB) j [(d.bl.getD k zeroB).1.getD j 0 ^^^ c]).1 = (goodR m (k : Int)).set j ((goodR m (k : Int)).getD j 0 ^^^ c) := by
      rw [hg]
      apply List.ext_getElem?
      intro q
      have hl := (d.bl.getD k zeroB).2
      rw [over_get _ _ _ (by simp; omega), List.getElem?_set]
      by_cases hq : j = q
      · subst hq
        rw [if_pos (by simp), if_pos rfl, if_pos (by omega), Nat.sub_self]
        rfl
      · rw [if_neg (by simp; omega), if_neg hq]
    rw [e] at this
    exact this
theorem rel_new (n : Nat) : RelD { bl := List.replicate n zeroB, wt := [], off := false, fuse := -1 } (newR (n : Int)) := by
  refine ⟨by simp [newR], rfl, rfl, fun i hi => ?_, rfl⟩
  show zerosL = _
  rw [List.getD_eq_getElem?_getD, List.getElem?_replicate]
  split <;> rfl
end Go.Proofs.Ythfnikdapknohaa

namespace Go.Proofs.Ythfnikdapknohaa
set_option linter.unusedSimpArgs false
set_option linter.unusedVariables false
open Go.RowKit Go.Shelf
attribute [local go_sem] Oper.semAt_some

/-- what a round keeps: each block of cells, but those of B -/
structure Kp (B : Nat → Prop) (W W' : World) : Prop where
  size : W.heap.size ≤ W'.heap.size
  same : ∀ (k : Nat) (o : Obj), ¬ B k → W.heap[k]? = some o → o.isCells = true → W'.heap[k]? = some o
section
variable {B : Nat → Prop} {W W' W'' : World}
theorem Kp.refl (B : Nat → Prop) (W : World) : Kp B W W := ⟨Nat.le_refl _, fun _ _ _ h _ => h⟩
theorem Kp.trans (h : Kp B W W') (k : Kp B W' W'') : Kp B W W'' := ⟨Nat.le_trans h.size k.size, fun i o hi h1 h2 => k.same i o hi (h.same i o hi h1 h2) h2⟩
theorem Kp.putObj (B : Nat → Prop) (m : Nat) (W : World) (l : Nat) (o o' : Obj) (_ : m ≤ l) (ho : W.heap[l]? = some o) (hc : o.isCells = false) (_ : o.isWalk = false) : Kp B W (W.putObj l o') :=
  ⟨(grownBy_putObj' W l o').size, fun k q _ hk hq => by
    have hne : k ≠ l := fun e => by subst e; rw [ho] at hk; injection hk with hk; subst hk; rw [hc] at hq; cases hq
    exact ((grownBy_putObj' W l o').block k (Array.getElem?_eq_some_iff.1 hk).1 (fun e => hne (by injection e))).trans hk⟩
theorem Kp.ofGrown {row : Option Nat} (h : W.grownBy W' row) (hr : ∀ k, row = some k → B k) : Kp B W W' :=
  ⟨h.size, fun k o hb hk _ => (h.block k (Array.getElem?_eq_some_iff.1 hk).1 (fun e => hb (hr k e.symm))).trans hk⟩
theorem Kp.set (W : World) (p : Addr) (u : Value) (h : B p.block) : Kp B W (W.setCell p u) := Kp.ofGrown (gset W p u) fun k e => by injection e with e; rw [← e]; exact h
theorem Kp.alloc (B : Nat → Prop) (W : World) (o : Obj) : Kp B W (W.alloc o) := Kp.ofGrown (gbelow (balloc W o) none) fun _ e => by cases e
theorem Kp.drew (B : Nat → Prop) (W : World) : Kp B W W.drew := ⟨Nat.le_refl _, fun _ _ _ h _ => h⟩
theorem Kp.drewN (B : Nat → Prop) (W : World) (n : Nat) : Kp B W (W.drewN n) := ⟨Nat.le_refl _, fun _ _ _ h _ => h⟩
theorem Kp.ofBelow (h : Below W.heap.size W W') : Kp B W W' := Kp.ofGrown (gbelow h none) fun _ e => by cases e
theorem Kp.cell (h : Kp B W W') {p : Addr} {v : Value} (hp : W.cell? p = some v) (hb : ¬ B p.block) : W'.cell? p = some v := by
  cases ho : W.heap[p.block]? with
  | none => simp [World.cell?, ho] at hp
  | some o =>
    cases o with
    | cells c e fr =>
      have := h.same _ _ hb ho rfl
      simp only [World.cell?, ho] at hp
      simp only [World.cell?, this]
      exact hp
    | _ => simp [World.cell?, ho] at hp
theorem Kp.row {α : Type} {C : Cdc α} {B0 : Nat} {v : Value} {l : List α} (hC : ∀ w cs x, C.at_ w (fun _ => True) cs x → C.at_ W' (fun _ => True) cs x) (hk : Kp B W W') (hB : ∀ k, B k → B0 ≤ k) (h : RowOn C W (fun k => k < B0) (fun _ => True) v l) : RowOn C W' (fun k => k < B0) (fun _ => True) v l := by
  obtain ⟨A, c, h1, h2, h3, h4⟩ := h
  refine ⟨A, c, h1, h2, h3, fun hn => ?_⟩
  obtain ⟨ad, e, hb', hc⟩ := h4 hn
  refine ⟨ad, e, hb', fun i x hx => ?_⟩
  obtain ⟨cs, ha, hcs⟩ := hc i x hx
  exact ⟨cs, hC _ _ _ ha, fun j u hu => hk.cell (hcs j u hu) fun hb => by have := hB _ hb; rw [add_block] at this; omega⟩
theorem Kp.box {T : TypeId} {g : Nat} {cs : List Value} (hk : Kp B W W') (hb : ¬ B g) (h : BoxAt T W g cs) : BoxAt T W' g cs := hk.same g _ hb h rfl
end

/-- what has come when k rounds are over -/
def upto {α : Type} (f : Nat → α) (k : Nat) : List α := (List.range k).map f
theorem upto_succ {α : Type} (f : Nat → α) (k : Nat) : upto f (k + 1) = upto f k ++ [f k] := by simp [upto, List.range_succ]
theorem upto_length {α : Type} (f : Nat → α) (k : Nat) : (upto f k).length = k := by simp [upto]
theorem upto_mem {α : Type} (f : Nat → α) (k : Nat) (x : α) : x ∈ upto f k ↔ ∃ j, j < k ∧ f j = x := by simp [upto]
theorem BoxAt.ownk {T : TypeId} {g : Nat} {cs : List Value} {X Y : World} {row : Option Nat} (hb : BoxAt T X g cs) (hg : X.grownBy Y row) (hr : ∀ r, row = some r → ∃ o : Obj, X.heap[r]? = some o ∧ o.isCells = false) : BoxAt T Y g cs :=
  hb.grown hg fun e => by
    obtain ⟨o, ho, hc⟩ := hr _ e
    rw [show _ = _ from hb] at ho
    injection ho with ho
    subst ho
    cases hc

/-! ### whole things, within a fence -/
section
variable {F : Fence} {n : Nat} {ops : Array Oper} {rest : List Oper} {o : Oper} {a : Act} {w : World} {Q : Exit → Act → World → Prop}
theorem wpListIn_load_agg (hgd : o.guard = none) (T : TypeId) (x : Operand) (ho : o.op = .load T x)
    (ad : Addr) (hx : a.eval x = .pointer (some ad)) (cs : List Value) (hc : ∀ (j : Nat) (v : Value), cs[j]? = some v → w.cell? (ad.add j) = some v) {d : TypeDesc} (hu : Try.prog.underlying T = some d)
    (hd : (match d with | .struct _ | .array _ _ => true | _ => false) = true) (hi : (Try.prog.info? T).map (·.size) = some cs.length)
    (h : wpListIn F n Try.prog ops Q rest (a.put o.dst (.agg cs.toArray)) w) : wpListIn F n Try.prog ops Q (o :: rest) a w :=
  wpListIn_plain hgd fun K hK => by
    unfold Oper.wpIn
    refine ⟨by simp [Oper.about, ho], ?_⟩
    rw [Oper.semAt_plain F _ _ (by rw [ho]; intro c hc'; cases hc')]
    unfold execOp
    simp only [ho, hx, Instr.loadAt, Instr.sureAddr, Sem.run_bind, Sem.run_pure, Result.andThen_ok, run_loadVar_cells w ad T cs hc hu hd hi]
    exact hK _ _ h
theorem wpListIn_store_box (hgd : o.guard = none) (T T' : TypeId) (x y : Operand) (ho : o.op = .store T x y)
    (g : Nat) (cs ds : List Value) (hx : a.eval x = .pointer (some ⟨g, 0, none⟩)) (hy : a.eval y = .agg ds.toArray) (hs : BoxAt T' w g cs) (hl : ds.length = cs.length) (h1 : ∀ u ∈ ds, u.oneCell' = true)
    (hi : (Try.prog.info? T).map (·.size) = some ds.length)
    (h : BoxAt T' (w.setRow g ds.toArray) g ds → wpListIn F n Try.prog ops Q rest (a.put o.dst undef) (w.setRow g ds.toArray)) : wpListIn F n Try.prog ops Q (o :: rest) a w :=
  wpListIn_plain hgd fun K hK => by
    unfold Oper.wpIn
    refine ⟨by simp [Oper.about, ho], ?_⟩
    rw [Oper.semAt_plain F _ _ (by rw [ho]; intro c hc'; cases hc')]
    have hst := run_storeVar_row (P := Try.prog) w g T' T cs.toArray ds.toArray hs (by simpa using hi) (by simpa using hl) (by simpa using h1)
    unfold execOp
    simp only [ho, hx, hy, Instr.storeAt, Instr.sureAddr, Sem.run_bind, Sem.run_pure, Result.andThen_ok, hst]
    exact hK _ _ (h (hs.setRow ds))
theorem wpListIn_alloc_z (hgd : o.guard = none) (T : TypeId) (ho : o.op = .alloc T) {z : Value} {m bytes : Nat}
    (hinfo : (Try.prog.info? T).map (fun i => (i.zero, i.size, i.bytes)) = some (some z, m, bytes)) (cs : List Value) (hz : z.cells = cs.toArray)
    (h : wpListIn F n Try.prog ops Q rest (a.put o.dst (.pointer (some ⟨w.heap.size, 0, none⟩))) (w.alloc (.cells cs.toArray T))) : wpListIn F n Try.prog ops Q (o :: rest) a w :=
  wpListIn_plain hgd fun K hK => by
    obtain ⟨i, hi, hz0, hz1, hby⟩ := info_parts hinfo
    have hr : (Instr.alloc T true (.tuple #[])).run Try.prog w = .ok (.pointer (some ⟨w.heap.size, 0, none⟩)) (w.alloc (.cells cs.toArray T)) := by
      simp [Instr.alloc, Sem.run_bind, zeroValue, typeInfo, hi, hz0, newVar, newRow, hz]
    unfold Oper.wpIn
    refine ⟨by simp [Oper.about, ho], ?_⟩
    rw [Oper.semAt_plain F _ _ (by rw [ho]; intro c hc'; cases hc')]
    unfold execOp
    simp only [ho, Sem.run_bind, hr, Result.andThen_ok]
    exact hK _ _ h
theorem wpListIn_store_new (hgd : o.guard = none) (T : TypeId) (x y : Operand) (ho : o.op = .store T x y)
    (cs ds : List Value) (hx : a.eval x = .pointer (some ⟨w.heap.size, 0, none⟩)) (hy : a.eval y = .agg ds.toArray) (hi : (Try.prog.info? T).map (·.size) = some ds.length) (hl : cs.length = ds.length) (h1 : ∀ u ∈ ds, u.oneCell' = true)
    (h : wpListIn F n Try.prog ops Q rest (a.put o.dst undef) (w.alloc (.cells ds.toArray T))) : wpListIn F n Try.prog ops Q (o :: rest) a (w.alloc (.cells cs.toArray T)) :=
  wpListIn_plain hgd fun K hK => by
    unfold Oper.wpIn
    refine ⟨by simp [Oper.about, ho], ?_⟩
    rw [Oper.semAt_plain F _ _ (by rw [ho]; intro c hc'; cases hc')]
    unfold execOp
    simp only [ho, hx, hy, Instr.storeAt, Instr.sureAddr, Sem.run_bind, Sem.run_pure, Result.andThen_ok, run_storeVar_new w T cs.toArray ds.toArray (by simpa using hi) (by simpa using hl) (all_oneCell_toArray h1)]
    exact hK _ _ h
end
/-! ### bytes in a block of the call's own, of whatever array type -/
theorem By.ofBox {T : TypeId} {w : World} {g : Nat} {l : List UInt8} (h : BoxAt T w g (b8s l)) (hm : l.length ≤ maxLen) : By w w.heap.size (.slice (some ⟨g, 0, none⟩) l.length l.length) l :=
  ⟨_, _, rfl, Nat.le_refl _, hm, by rw [b8s_length]; omega, fun _ => ⟨_, rfl, h.lt, h.cells⟩⟩
/-- v reads as l, in a block from B on (or is nil), and may be written -/
def Fresh (B : Nat) (w : World) (v : Value) (l : List UInt8) : Prop :=
  (v = .slice none 0 0 ∧ l = []) ∨ ∃ g c T cs, v = .slice (some ⟨g, 0, none⟩) l.length c ∧ l.length ≤ c ∧ c ≤ maxLen ∧ B ≤ g ∧ BoxAt T w g cs ∧ ∀ (j : Nat) (u : Value), (b8s l)[j]? = some u → cs[j]? = some u
section
variable {B : Nat} {w w' : World} {v : Value} {l : List UInt8}
theorem Fresh.nil_ : Fresh B w (.slice none 0 0) [] := .inl ⟨rfl, rfl⟩
theorem Fresh.by_ (h : Fresh B w v l) : By w w.heap.size v l := by
  rcases h with ⟨rfl, rfl⟩ | ⟨g, c, T, cs, rfl, h1, h2, h3, h4, h5⟩
  · exact By.nil_
  · exact ⟨_, _, rfl, h1, h2, by rw [b8s_length]; omega, fun _ => ⟨_, rfl, h4.lt, fun j u hu => h4.cells j u (h5 j u hu)⟩⟩
theorem Fresh.form (h : Fresh B w v l) : ∃ A c, v = .slice A l.length c ∧ l.length ≤ c ∧ c ≤ maxLen := by
  rcases h with ⟨rfl, rfl⟩ | ⟨g, c, T, cs, rfl, h1, h2, h3, h4⟩
  · exact ⟨none, 0, rfl, Nat.le_refl _, Nat.zero_le _⟩
  · exact ⟨_, c, rfl, h1, h2⟩
theorem Fresh.more {B' : Nat} (h : Fresh B w v l) (hB : B' ≤ B) : Fresh B' w v l := by
  rcases h with h | ⟨g, c, T, cs, h0, h1, h2, h3, h4⟩
  · exact .inl h
  · exact .inr ⟨g, c, T, cs, h0, h1, h2, Nat.le_trans hB h3, h4⟩
theorem Fresh.below_ (h : Fresh B w v l) (hb : Below w.heap.size w w') : Fresh B w' v l := by
  rcases h with h | ⟨g, c, T, cs, h0, h1, h2, h3, h4, h5⟩
  · exact .inl h
  · exact .inr ⟨g, c, T, cs, h0, h1, h2, h3, h4.below h4.lt hb, h5⟩
theorem Fresh.blk (h : Fresh B w v l) : ∀ q, v.ownBlock = some q → B ≤ q ∧ q < w.heap.size := by
  rcases h with ⟨rfl, rfl⟩ | ⟨g, c, T, cs, rfl, h1, h2, h3, h4, h5⟩
  · intro q hq; simp [Value.ownBlock] at hq
  · intro q hq
    have e : g = q := by injection hq
    subst e
    exact ⟨h3, h4.lt⟩
theorem Fresh.grown {row : Option Nat} (h : Fresh B w v l) (hg : w.grownBy w' row) (hne : ∀ q, v.ownBlock = some q → row ≠ some q) : Fresh B w' v l := by
  rcases h with h | ⟨g, c, T, cs, h0, h1, h2, h3, h4, h5⟩
  · exact .inl h
  · exact .inr ⟨g, c, T, cs, h0, h1, h2, h3, h4.grown hg (hne g (by rw [h0]; rfl)), h5⟩
theorem Fresh.chg {P : Nat → Prop} (h : Fresh B w v l) (hc : Chg P w w') (hn : ∀ q, v.ownBlock = some q → ¬ P q) : Fresh B w' v l := by
  rcases h with h | ⟨g, c, T, cs, h0, h1, h2, h3, h4, h5⟩
  · exact .inl h
  · exact .inr ⟨g, c, T, cs, h0, h1, h2, h3, h4.chg hc (hn g (by rw [h0]; rfl)), h5⟩
/-- a cell of it, and its being written -/
theorem Fresh.put {A : Option Addr} {n c : Nat} (h : Fresh B w (.slice A n c) l) (k : Nat) (hk : k < l.length) : ∃ g, A = some ⟨g, 0, none⟩ ∧ B ≤ g ∧ g < w.heap.size ∧ w.frozen? ⟨g, k, none⟩ = false ∧ w.cell? ⟨g, k, none⟩ = some (.int .u8 ((l[k]).toNat : Int)) ∧
    ∀ b : UInt8, Fresh B (w.setCell ⟨g, k, none⟩ (.int .u8 (b.toNat : Int))) (.slice A n c) (l.set k b) := by
  rcases h with ⟨h, rfl⟩ | ⟨g, c', T, cs, e, h1, h2, h3, h4, h5⟩
  · simp at hk
  · injection e with e1 e2 e3
    subst e1; subst e2; subst e3
    have hkc := h5 k _ (b8s_get l k hk)
    have hkl : k < cs.length := (List.getElem?_eq_some_iff.1 hkc).1
    refine ⟨g, rfl, h3, h4.lt, h4.frozen k, h4.cell k _ hkc, fun b => .inr ⟨g, c, T, cs.set k (b8 b), by rw [List.length_set], by rw [List.length_set]; exact h1, h2, h3, h4.put k (b8 b), fun j u hu => ?_⟩⟩
    have e : b8s (l.set k b) = (b8s l).set k (b8 b) := by unfold b8s; rw [List.map_set]
    rw [e, List.getElem?_set] at hu
    rw [List.getElem?_set]
    by_cases hkj : k = j
    · subst hkj
      rw [if_pos rfl, if_pos (by rw [b8s_length]; exact hk)] at hu
      rw [if_pos rfl, if_pos hkl]; exact hu
    · rw [if_neg hkj] at hu ⊢
      exact h5 j u hu
theorem Fresh.front {A : Option Addr} {n c k : Nat} (h : Fresh B w (.slice A n c) l) (hk : k ≤ l.length) (hk0 : 0 < k) : Fresh B w (.slice A k c) (l.take k) := by
  rcases h with ⟨h, rfl⟩ | ⟨g, c', T, cs, e, h1, h2, h3, h4, h5⟩
  · simp at hk; omega
  · injection e with e1 e2 e3
    subst e1; subst e3
    refine .inr ⟨g, c, T, cs, by simp [hk], by simp; omega, h2, h3, h4, fun j u hu => h5 j u ?_⟩
    unfold b8s at hu ⊢
    rw [List.map_take, List.getElem?_take] at hu
    split at hu
    · exact hu
    · cases hu
theorem Ow.fresh {base : Nat} (h : Ow w base v l) : Fresh base w v l := by
  obtain ⟨hz, h2⟩ := h
  rcases h2 with ⟨rfl, hn⟩ | ⟨g, cap, cur, rfl, hg, hh, h3, h4, h5, h6⟩
  · exact .inl ⟨rfl, List.eq_nil_of_length_eq_zero hn⟩
  · refine .inr ⟨g, cap, _, cur.toList, rfl, h3, h4, hg, hh, fun j u hu => ?_⟩
    rw [← h6, List.getElem?_take] at hu
    split at hu
    · exact hu
    · cases hu
end
end Go.Proofs.Ythfnikdapknohaa

namespace Go.Proofs.Ythfnikdapknohaa
set_option linter.unusedSimpArgs false
set_option linter.unusedVariables false
open Go.RowKit

def cRW : Cdc RW := Cdc.flat 2 (fun x => [.int .i64 x.1, .string (bst x.2)]) (fun x => x.2.length = 128) (fun _ => rfl) (fun x u hu => by simp at hu; rcases hu with rfl | rfl <;> rfl)
abbrev ByR (w : World) (O : Nat → Prop) (v : Value) (l : List RW) : Prop := RowOn cRW w O (fun _ => True) v l
theorem ByR.below {w w' : World} {O : Nat → Prop} {B : Nat} {v : Value} {l : List RW} (h : ByR w O v l) (hb : Below B w w') (hO : ∀ k, O k → k < B) : ByR w' O v l := by
  obtain ⟨A, c, h1, h2, h3, h4⟩ := h
  refine ⟨A, c, h1, h2, h3, fun hn => ?_⟩
  obtain ⟨ad, e, hb', hc⟩ := h4 hn
  refine ⟨ad, e, hb', fun i x hx => ?_⟩
  obtain ⟨cs, ha, hcs⟩ := hc i x hx
  exact ⟨cs, ha, fun j u hu => (hb.cell (by rw [add_block]; exact hO _ hb')).trans (hcs j u hu)⟩
theorem ByR.more {w : World} {O O' : Nat → Prop} {v : Value} {l : List RW} (h : ByR w O v l) (hB : ∀ k, O k → O' k) : ByR w O' v l := RowOn.mono h hB (fun _ hk => hk)
theorem ByR.chg {w w' : World} {O P : Nat → Prop} {v : Value} {l : List RW} (h : ByR w O v l) (hc : Chg P w w') (hO : ∀ k, O k → k < w.heap.size ∧ ¬ P k) : ByR w' O v l := by
  obtain ⟨A, c, h1, h2, h3, h4⟩ := h
  refine ⟨A, c, h1, h2, h3, fun hn => ?_⟩
  obtain ⟨ad, e, hb', hcc⟩ := h4 hn
  refine ⟨ad, e, hb', fun i x hx => ?_⟩
  obtain ⟨cs, ha, hcs⟩ := hcc i x hx
  exact ⟨cs, ha, fun j u hu => (World.cell?_of_block (hc.block _ (by rw [add_block]; exact (hO _ hb').1) (by rw [add_block]; exact (hO _ hb').2))).trans (hcs j u hu)⟩
theorem ByR.nil_ {w : World} {O : Nat → Prop} : ByR w O (.slice none 0 0) [] := RowOn.nil_
theorem ByR.ok {w : World} {O : Nat → Prop} {v : Value} {l : List RW} (h : ByR w O v l) : ∀ x ∈ l, x.2.length = 128 := by
  intro x hx
  obtain ⟨i, hi, rfl⟩ := List.mem_iff_getElem.1 hx
  obtain ⟨A, c, rfl, _, _⟩ := h.form
  obtain ⟨ad, cs, _, _, ⟨_, hk⟩, _⟩ := h.at_ i _ (List.getElem?_eq_getElem hi)
  exact hk
/-- the cells of the k-th -/
theorem ByR.cells {w : World} {O : Nat → Prop} {A : Option Addr} {n c : Nat} {l : List RW} (h : ByR w O (.slice A n c) l) (k : Nat) (hk : k < l.length) : n = l.length ∧ ∃ ad, A = some ad ∧ O ad.block ∧ w.cell? (ad.add (k * 2)) = some (.int .i64 (l[k]).1) ∧ w.cell? { block := (ad.add (k * 2)).block, off := (ad.add (k * 2)).off + 1 } = some (.string (bst (l[k]).2)) := by
  obtain ⟨ad, cs, e, hb, ⟨rfl, _⟩, hc⟩ := h.at_ k _ (List.getElem?_eq_getElem hk)
  refine ⟨(h.len_).1, ad, e, hb, hc 0 _ rfl, ?_⟩
  have := hc 1 _ rfl
  rw [← add_add] at this
  have e2 : (ad.add (k * cRW.n)).add 1 = { block := (ad.add (k * 2)).block, off := (ad.add (k * 2)).off + 1 } := by simp [Addr.add, cRW, Cdc.flat]; exact ⟨rfl, rfl⟩
  rw [e2] at this
  exact this
/-- the value v is a disk of the document's, its rows in blocks of O -/
def RDV (w : World) (O : Nat → Prop) (v : Value) (m : RD) : Prop := ∃ v1 v2, v = .agg #[.int .i64 m.count, .bool m.off, .int .i64 m.fuse, v1, v2] ∧ ByR w O v1 m.made ∧ ByR w O v2 m.wait ∧
  (-9223372036854775808 ≤ m.count ∧ m.count ≤ 9223372036854775807) ∧ (-9223372036854775808 ≤ m.fuse ∧ m.fuse ≤ 9223372036854775807)
section
variable {w w' : World} {O O' P : Nat → Prop} {v : Value} {m : RD}
theorem RDV.below {B : Nat} (h : RDV w O v m) (hb : Below B w w') (hO : ∀ k, O k → k < B) : RDV w' O v m := by
  obtain ⟨v1, v2, e, h1, h2, h3, h4⟩ := h
  exact ⟨v1, v2, e, h1.below hb hO, h2.below hb hO, h3, h4⟩
theorem RDV.chg (h : RDV w O v m) (hc : Chg P w w') (hO : ∀ k, O k → k < w.heap.size ∧ ¬ P k) : RDV w' O v m := by
  obtain ⟨v1, v2, e, h1, h2, h3, h4⟩ := h
  exact ⟨v1, v2, e, h1.chg hc hO, h2.chg hc hO, h3, h4⟩
theorem RDV.more (h : RDV w O v m) (hO : ∀ k, O k → O' k) : RDV w O' v m := by
  obtain ⟨v1, v2, e, h1, h2, h3, h4⟩ := h
  exact ⟨v1, v2, e, h1.more hO, h2.more hO, h3, h4⟩
end
/-- what a call has made, beside what there was -/
def Onew (O : Nat → Prop) (w w' : World) : Nat → Prop := fun k => O k ∨ (w.heap.size ≤ k ∧ k < w'.heap.size)
theorem lastR_len {l : List RW} (h : ∀ x ∈ l, x.2.length = 128) (i : Int) : ∀ b : List UInt8, b.length = 128 → (lastR l i b).length = 128 := by
  induction l with
  | nil => intro b hb; exact hb
  | cons x t ih =>
    intro b hb
    show (lastR t i (if x.1 = i then x.2 else b)).length = 128
    refine ih (fun y hy => h y (by simp [hy])) _ ?_
    split
    · exact h x (by simp)
    · exact hb
theorem zerosL_len : zerosL.length = 128 := by simp [zerosL]
theorem goodR_len {w : World} {O : Nat → Prop} {v : Value} {m : RD} (h : ByR w O v m.made) (i : Int) : (goodR m i).length = 128 := lastR_len h.ok i _ zerosL_len

theorem testBit_div (n k : Nat) : n.testBit k = ((n / 2 ^ k) % 2 == 1) := by
  rw [Nat.testBit_eq_decide_div_mod_eq]
  rcases Nat.mod_two_eq_zero_or_one (n / 2 ^ k) with h | h <;> simp [h]
end Go.Proofs.Ythfnikdapknohaa

namespace Go.Proofs.Ythfnikdapknohaa
set_option linter.unusedSimpArgs false
set_option linter.unusedVariables false
open Go.RowKit

theorem readRE_off {m : RD} {i : Int} (h : m.off = true) : readRE m i = 6 := by unfold readRE; rw [if_pos h]
theorem readRE_in {m : RD} {i : Int} (h : m.off = false) (hi : 0 ≤ i ∧ i < m.count) : readRE m i = 0 := by unfold readRE; rw [if_neg (by simp [h]), if_pos hi]
theorem readRE_out {m : RD} {i : Int} (h : m.off = false) (hi : ¬ (0 ≤ i ∧ i < m.count)) : readRE m i = 9 := by unfold readRE; rw [if_neg (by simp [h]), if_neg hi]
theorem readRL_no {m : RD} {i : Int} (h : readRE m i ≠ 0) : readRL m i = [] := by unfold readRL; rw [if_pos h]
theorem readRL_yes {m : RD} {i : Int} (h : readRE m i = 0) : readRL m i = lastR m.wait i (goodR m i) := by unfold readRL; rw [if_neg (by simp [h])]
theorem BoxAt.blw {T : TypeId} {w w' : World} {g : Nat} {cs : List Value} (h : BoxAt T w g cs) (hb : Below w.heap.size w w') : BoxAt T w' g cs := h.below h.lt hb
end Go.Proofs.Ythfnikdapknohaa

namespace Go.Proofs.Ythfnikdapknohaa
set_option linter.unusedSimpArgs false
set_option linter.unusedVariables false
open Go.RowKit

/-- results: a struct that lies in memory, then a slot -/
theorem results_ct {fn : Func} {p q : Tmp} {T : TypeId} (h : fn.results = #[.cell p T, .tmp q]) (tmps : Array Value) (w : World) (g : Nat) (cs : List Value)
    (hp : tmps.getD p undef = .pointer (some ⟨g, 0, none⟩)) (hs : ∀ (j : Nat) (v : Value), cs[j]? = some v → w.cell? ((⟨g, 0, none⟩ : Addr).add j) = some v) {d : TypeDesc} (hu : Try.prog.underlying T = some d)
    (hd : (match d with | .struct _ | .array _ _ => true | _ => false) = true) (hi : (Try.prog.info? T).map (·.size) = some cs.length) :
    (results fn tmps).run Try.prog w = .ok (.tuple #[.agg cs.toArray, tmps.getD q undef]) w := by
  have hp' : tmps[p]?.getD undef = .pointer (some ⟨g, 0, none⟩) := by simpa using hp
  have hr := run_loadVar_cells w ⟨g, 0, none⟩ T cs hs hu hd hi
  simp [results, h, hp', asAddr, hr]
/-- how a disk of the document's lies in cells -/
abbrev encD (m : RD) (v1 v2 : Value) : List Value := [.int .i64 m.count, .bool m.off, .int .i64 m.fuse, v1, v2]
theorem RDV.mk' {w : World} {O : Nat → Prop} {m : RD} {v1 v2 : Value} (h1 : ByR w O v1 m.made) (h2 : ByR w O v2 m.wait) (h3 : -9223372036854775808 ≤ m.count ∧ m.count ≤ 9223372036854775807) (h4 : -9223372036854775808 ≤ m.fuse ∧ m.fuse ≤ 9223372036854775807) : RDV w O (.agg (encD m v1 v2).toArray) m := ⟨v1, v2, rfl, h1, h2, h3, h4⟩
end Go.Proofs.Ythfnikdapknohaa

namespace Go.Proofs.Ythfnikdapknohaa
set_option linter.unusedSimpArgs false
set_option linter.unusedVariables false
open Go.RowKit

theorem u32_small (n : Nat) (h : n ≤ 4294967295) : IntKind.u32.wrap (n : Int) = ((UInt32.ofNat n).toNat : Int) := by
  rw [IntKind.wrap_u32', UInt32.toNat_ofNat']
  omega
theorem BoxAt.drewq {T : TypeId} {w : World} {g : Nat} {cs : List Value} (h : BoxAt T w g cs) : BoxAt T w.drew g cs := h
theorem BoxAt.ofAlloc {T : TypeId} {w : World} {g : Nat} {cs : List Value} {o : Obj} (h : BoxAt T (w.alloc o) g cs) (hg : g < w.heap.size) : BoxAt T w g cs := (heap_alloc_old w o hg).symm.trans h
theorem bytesS_len' (n : Int) (s : List UInt8) (e : Int) : (bytesS n s e).2.1.length ≤ s.length ∧ ((bytesS n s e).1.length : Int) ≤ max n 0 := by
  unfold bytesS
  repeat' split
  all_goals simp
  all_goals omega
end Go.Proofs.Ythfnikdapknohaa

namespace Go.Proofs.Ythfnikdapknohaa
set_option linter.unusedSimpArgs false
set_option linter.unusedVariables false
open Go.RowKit

def Ph.ownA (base : Nat) (l : List GArc) : Ph := ⟨fun v w => OwnF 70 cArc w base v l, fun _ _ _ h hb => h.below_ hb⟩
def Ph.rowA (fr base : Nat) (l : List GArc) : Ph := ⟨fun v w => ∃ u, v = .agg #[.int .u32 (fr : Int), u] ∧ OwnF 70 cArc w base u l, fun _ _ _ ⟨u, e, h⟩ hb => ⟨u, e, h.below_ hb⟩⟩
/-- two cells, whatever they hold -/
def cRaw : Cdc (Value × Value) where
  n := 2
  at_ := fun w S cs x => cs = [x.1, x.2] ∧ x.1.oneCell' = true ∧ x.2.oneCell' = true
  len := fun h => by rw [h.1]; rfl
  one := fun h => by obtain ⟨rfl, h1, h2⟩ := h; intro u hu; simp at hu; rcases hu with rfl | rfl <;> assumption
  keep := fun h _ => h
  mono := fun h _ => h
theorem run_slice_row (w : World) (a b : Value) (ha : a.oneCell' = true := by rfl) : (Instr.buildSlice 22 1 #[(0, .agg #[a, b])]).run Try.prog w =
    .ok (.slice (some ⟨w.heap.size, 0, none⟩) 1 1) (w.alloc (.cells #[a, b] 75)) := by
  obtain ⟨it, hit, hz0, hz1, hby⟩ := info_parts infoRow
  refine run_buildSlice w _ _ 1 _ _ it _ Try.underlying22 hit hz0 (by rw [hz1]; decide) (by rw [hz1]; decide) ?_
  rw [hz1]
  exact fill_whole 2 _ [a, b] (by first | rfl | simp) (by first | rfl | simp)
theorem rowC_one (fr : Nat) (A : Option Addr) (n c : Nat) : ∀ u ∈ ([.int .u32 (fr : Int), .slice A n c] : List Value), u.oneCell' = true := by
  intro u hu; simp at hu; rcases hu with rfl | rfl <;> rfl

set_option maxRecDepth 100000 in
set_option maxHeartbeats 1600000 in
theorem own_any (w : World) (fr : Nat) (A : Option Addr) (c : Nat) (l : List GArc) (hl : l.length ≤ 1048576) (h : ByA w w.heap.size (.slice A l.length c) l) :
    Calls Try.prog 73 #[.agg #[.int .u32 (fr : Int), .slice A l.length c]] w fun e w' => ∃ u, e = .returned (.agg #[.int .u32 (fr : Int), u]) ∧ OwnF 70 cArc w' w.heap.size u l ∧ Below w.heap.size w w' := by
  obtain ⟨w1, hw1⟩ : ∃ w1, w1 = (w.alloc (.cells #[.int .u32 (fr : Int), .slice A l.length c] 75)).alloc (.cells #[.int .u32 0, .slice none 0 0] 75) := ⟨_, rfl⟩
  have hb1 : Below w.heap.size w w1 := by rw [hw1]; exact bstep (balloc _ _) (balloc _ _)
  have hx : BoxAt 75 w1 w.heap.size [.int .u32 (fr : Int), .slice A l.length c] := by
    rw [hw1]
    exact (BoxAt.new_ 75 w [.int .u32 (fr : Int), .slice A l.length c]).alloc _
  have hy : BoxAt 75 w1 (w.heap.size + 1) [.int .u32 0, .slice none 0 0] := by
    rw [hw1]
    have := BoxAt.new_ 75 (w.alloc (.cells #[.int .u32 (fr : Int), .slice A l.length c] 75)) [.int .u32 0, .slice none 0 0]
    simpa using this
  have Hx := Lib.hid hx
  have Hy := Lib.hid hy
  have Hl := Lib.hid (h.below hb1)
  have Hs : Hid (w.heap.size ≤ w1.heap.size) := Lib.hid hb1.size
  have Hb := Lib.hid hb1
  have Hz : Hid (w1.heap.size = w.heap.size + 2) := Lib.hid (by rw [hw1]; simp)
  clear hx hy h hb1
  go_enter Try.func73, Try.ntmps73
  go_upto_region 1 with fail
  rw [← hw1]
  clear hw1
  refine wp_region_tail (ds := [3, 4, 5, 6, 7, 8]) 6 [some 3, some 4, some 5, some 6, some 7, some 8]
    [Ph.is (.pointer (some ⟨w.heap.size, 0, none⟩)),
      Ph.is (.int .u32 (fr : Int)),
      Ph.is (.pointer (some ⟨w.heap.size, 1, none⟩)),
      Ph.is (.slice A l.length c),
      Ph.ownA w1.heap.size l,
      Ph.rowA fr w1.heap.size l] rfl rfl (by kernel_rfl) (by kernel_rfl) (by kernel_rfl) ?_ ?_
  · refine ⟨?_, ?_, ?_, ?_, ?_, ?_, trivial⟩
    · -- 0: slot 3 := Op.fieldAddr 75 t1 0
      refine ob_yes fun f w' hb hp => ?_
      simp [PreOf, factOf, valOf, Ph.is, Ph.by_, Ph.any, Region.binds, Ph.ownA, Ph.rowA] at hp
      refine ⟨by simp [Gd, valOf, hp], ?_⟩
      refine mild_val (.pointer (some ⟨w.heap.size, 0, none⟩)) ?_ rfl
      simp [execOp, evalF, hp, go_sem]
    · -- 1: slot 4 := Op.load 51 t3
      refine ob_yes fun f w' hb hp => ?_
      simp [PreOf, factOf, valOf, Ph.is, Ph.by_, Ph.any, Region.binds, Ph.ownA, Ph.rowA] at hp
      refine ⟨by simp [Gd, valOf, hp], ?_⟩
      have hc := (Hx.out.below Hx.out.lt hb).cell 0 _ rfl
      refine mild_val (.int .u32 (fr : Int)) ?_ rfl
      simp [execOp, evalF, hp, hc, go_sem]
    · -- 2: slot 5 := Op.fieldAddr 75 t1 1
      refine ob_yes fun f w' hb hp => ?_
      simp [PreOf, factOf, valOf, Ph.is, Ph.by_, Ph.any, Region.binds, Ph.ownA, Ph.rowA] at hp
      refine ⟨by simp [Gd, valOf, hp], ?_⟩
      refine mild_val (.pointer (some ⟨w.heap.size, 1, none⟩)) ?_ rfl
      simp [execOp, evalF, hp, go_sem]
    · -- 3: slot 6 := Op.load 65 t5
      refine ob_yes fun f w' hb hp => ?_
      simp [PreOf, factOf, valOf, Ph.is, Ph.by_, Ph.any, Region.binds, Ph.ownA, Ph.rowA] at hp
      refine ⟨by simp [Gd, valOf, hp], ?_⟩
      have hc := (Hx.out.below Hx.out.lt hb).cell 1 _ rfl
      refine mild_val (.slice A l.length c) ?_ rfl
      simp [execOp, evalF, hp, hc, go_sem]
    · -- 4: slot 7 := Op.call   value (Operand.func 69), args := #[t6], argTypes := #[65]  
      refine ob_yes fun f w' hb hp => ?_
      simp [PreOf, factOf, valOf, Ph.is, Ph.by_, Ph.any, Region.binds, Ph.ownA, Ph.rowA] at hp
      refine ⟨by simp [Gd, valOf, hp], ?_⟩
      refine mild_call 69 _ _ Try.f69 Try.func69 (by kernel_rfl) (by kernel_rfl) rfl ?_
      simp [evalF, hp, Ph.is, Ph.by_, Ph.any, Ph.ownA, Ph.rowA]
      refine (cloneA w' _ l ((Hl.out.below (hb.mono Hs.out)).more (Nat.le_trans Hs.out hb.size)) (by omega)).mono ?_
      rintro _ w7 ⟨v7, rfl, ho, hb7⟩
      exact ⟨_, rfl, hb7, ho.more hb.size⟩
    · -- 5: slot 8 := Op.build 75 #[(0, t4), (1, t7)]
      refine ob_yes fun f w' hb hp => ?_
      simp [PreOf, factOf, valOf, Ph.is, Ph.by_, Ph.any, Region.binds, Ph.ownA, Ph.rowA] at hp
      refine ⟨by simp [Gd, valOf, hp], ?_⟩
      obtain ⟨hp0, hp1⟩ := hp
      obtain ⟨A7, c7, e7, _, _, _⟩ := hp1.form'
      refine mild_val (.agg #[.int .u32 (fr : Int), .slice A7 l.length c7]) ?_ ⟨_, rfl, e7 ▸ hp1⟩
      simp [execOp, evalF, hp0, e7, go_sem]
  · intro f w2 hb2 hp
    simp only [PostOf, Ph.is, Ph.by_, Ph.any, Ph.ownA, Ph.rowA] at hp
    obtain ⟨h0, h1, h2, h3, h4, h5, _⟩ := hp
    simp only [fills, List.foldl_cons, List.foldl_nil, Act.put, List.setIfInBounds_toArray, List.set_cons_zero, List.set_cons_succ, h0, h1, h2, h3]
    clear h0 h1 h2 h3
    generalize f 7 = v7 at *
    generalize f 8 = v8 at *
    simp only [List.drop_succ_cons, List.drop_zero]
    obtain ⟨u, hu5, hu6⟩ := h5
    have hy2 := Hy.out.below Hy.out.lt hb2
    obtain ⟨Au, cu, rfl, _, _, _⟩ := hu6.form'
    have Hy2 := Lib.hid hy2
    have Hu6 := Lib.hid hu6
    have hu1 := (rowC_one fr Au l.length cu)
    have Hu1 := Lib.hid hu1
    clear hy2 hu6 hu1
    subst hu5
    go_wp2_with (refine wpList_store_box rfl 75 75 (.tmp 2) (.tmp 8) rfl (w.heap.size + 1) [.int .u32 0, .slice none 0 0] [.int .u32 (fr : Int), .slice Au l.length cu] rfl rfl Hy2.out rfl Hu1.out infoRow2 ?_; intro hend)
    have hg : w2.grownBy (w2.setRow (w.heap.size + 1) ([.int .u32 (fr : Int), .slice Au l.length cu] : List Value).toArray) (some (w.heap.size + 1)) := gsetRow' _ _ _
    have hbl := (Hb.out.trans (hb2.mono Hs.out)).trans (gofBelow hg (B := w.heap.size) (Nat.le_trans Hs.out hb2.size) (fun k hk => by injection hk with hk; omega))
    refine bodyPost_ret (results_c rfl _ _ (w.heap.size + 1) _ rfl (fun j v hj => (hend.cells j v hj : _)) Try.underlying75 rfl infoRow2) rfl ?_
    exact ⟨_, rfl, (Hu6.out.keep hg (by
      rcases hq : Value.ownBlock (.slice Au l.length cu) with _ | q
      · exact .inl rfl
      · exact .inr (fun e => by have := (Hu6.out.blk q hq).1; have := Hz.out; injection e with e; omega)) (fun _ h => h.elim)).more Hs.out, hbl⟩

set_option maxRecDepth 100000 in
set_option maxHeartbeats 3200000 in
theorem gnew_any (w : World) (B : Nat) (v : Value) (l : List GRow) (hs : rsz l ≤ 1048576) (h : ByRw w B v l) (hB : B ≤ w.heap.size) :
    Calls Try.prog 37 #[v] w fun e w' => ∃ g, e = .returned (.tuple #[g, .int .i64 (newE none l)]) ∧ Below w.heap.size w w' := by
  obtain ⟨A, c, rfl, hc1, hc2⟩ := h.form
  unfold maxLen at hc2
  have Hstop := Lib.hid (newE_stop l)
  have Hat := Lib.hid (newE_at l)
  have Hrow := Lib.hid (rsz_at l)
  have hl := rsz_len l
  have H := Lib.hid h
  clear h
  obtain ⟨G, hG⟩ : ∃ G, w.heap.size = G := ⟨_, rfl⟩
  go_enter Try.func37, Try.ntmps37
  go_wp2_with fail
  try rw [hG]
  go_loopw [11] (fun i wr => ∃ (k : Nat) (acc : List (Value × Value)) (va : Value), k ≤ l.length ∧ i = .int .i64 k ∧ newE none (l.take k) = 0 ∧ BoxAt 136 wr G [va] ∧ OwnF 75 cRaw wr (G + 1) va acc ∧ acc.length = k ∧ G + 1 ≤ wr.heap.size ∧ Below G w wr) (fun i _ => l.length - (intOf i).toNat)
  case atStart => exact ⟨0, [], .slice none 0 0, by omega, rfl, rfl, by rw [← hG]; exact BoxAt.new_ _ _ _, OwnF.nil_ _ _, rfl, by rw [← hG]; simp, by rw [← hG]; exact balloc _ _⟩
  case round =>
    obtain ⟨k, acc, va, hk, rfl, h0, hbG, hva, hacc, hge, hbw⟩ := hrel
    have HbG := Lib.hid hbG
    have Hva := Lib.hid hva
    have Hbw := Lib.hid hbw
    have Hacc : Hid (acc.length ≤ 549755813887) := Lib.hid (by omega)
    clear hbG hva hbw
    by_cases hlt : k < l.length
    · obtain ⟨ad, Aa, ca, rfl, hab, hcl, hya⟩ := (H.out.below (Hbw.out.mono (by omega))).row k hlt
      have hE := Hat.out k hlt h0
      have HE := Lib.hid hE
      have HS := Lib.hid (Hstop.out (k + 1))
      have hal := Hrow.out k hlt
      have hfr := u32_lt (l[k]).fr
      have Hcl := Lib.hid hcl
      have Hcells := Lib.hid (fun m hm => H.out.cells m hm)
      have hnb : nbrs (l[k]).arcs = (decide (0 < (l[k]).arcs.length) && gmay (l[k]).arcs) := rfl
      have Hnb := Lib.hid hnb
      have Hya := Lib.hid (hya.below ((balloc wr (.cells #[.int .u32 ((l[k]).fr.toNat : Int), .slice Aa (l[k]).arcs.length ca] 75)).mono (Nat.le_trans hB (by omega) : B ≤ wr.heap.size)))
      have hnx : ∀ m, k = m + 1 → ∃ hm : m < l.length, nxt 0 (l.take k) = (l[m]).fr.toNat + 1 := by
        rintro m rfl
        refine ⟨by omega, ?_⟩
        rw [List.take_add_one, List.getElem?_eq_getElem (by omega)]
        exact nxt_snoc _ _ _
      have Hnx := Lib.hid hnx
      have Hnx0 : Hid (k = 0 → nxt 0 (l.take k) = 0) := Lib.hid (by rintro rfl; rfl)
      clear hE hcl hnb hya hnx
      generalize (l[k]).fr.toNat = fr at *
      obtain ⟨arcs, harcs⟩ : ∃ a, a = (l[k]).arcs := ⟨_, rfl⟩
      rw [← harcs] at HE Hnb Hya Hcl hal
      obtain ⟨m, hm⟩ : ∃ m, m = arcs.length := ⟨_, rfl⟩
      rw [← hm] at Hnb Hya Hcl hal
      have Hm := Lib.hid hm
      clear harcs hm
      go_upto_region 5 with (first
        | (refine wpList_load_agg rfl 75 (.tmp 14) rfl (ad.add (k * 2)) rfl [.int .u32 (fr : Int), .slice Aa m ca] Hcl.out Try.underlying75 rfl infoRow2 ?_)
        | (refine wpList_alloc_z rfl 75 rfl infoRow [.int .u32 0, .slice none 0 0] rfl ?_)
        | (refine wpList_store_new rfl 75 (.tmp 6) (.tmp 15) rfl [.int .u32 0, .slice none 0 0] [.int .u32 (fr : Int), .slice Aa m ca] rfl rfl infoRow2 rfl (rowC_one _ _ _ _) ?_))
      have hbR := BoxAt.new_ 75 wr [.int .u32 (fr : Int), .slice Aa m ca]
      have hb5 := balloc wr (.cells #[.int .u32 (fr : Int), .slice Aa m ca] 75)
      have hG5 := HbG.out.below HbG.out.lt hb5
      have hva5 := Hva.out.below_ hb5
      have hbw5 := Hbw.out.trans (hb5.mono (by omega : G ≤ wr.heap.size))
      have Hne : Hid (va.ownBlock ≠ some wr.heap.size) := Lib.hid (fun e => by have := (Hva.out.blk _ e).2; omega)
      have hge5 : G + 1 ≤ (wr.alloc (.cells #[.int .u32 (fr : Int), .slice Aa m ca] 75)).heap.size := by simp; omega
      have HbR := Lib.hid hbR
      have HbG5 := Lib.hid hG5
      have Hva5 := Lib.hid hva5
      have Hbw5 := Lib.hid hbw5
      have hsz5 : wr.heap.size ≤ (wr.alloc (.cells #[.int .u32 (fr : Int), .slice Aa m ca] 75)).heap.size := hb5.size
      clear hbR hb5 hG5 hva5 hbw5 HbG Hva Hbw Hcl
      generalize wr.alloc (.cells #[.int .u32 (fr : Int), .slice Aa m ca] 75) = w5 at *
      generalize hgr : wr.heap.size = gr at *
      have hc1' := HbR.out.cell 1 _ rfl
      have hc0' := HbR.out.cell 0 _ rfl
      have hmy := gmay_any w5 B (.slice Aa m ca) arcs (by have := Hm.out; omega) Hya.out (Nat.le_trans hB (by omega))
      have Hmy := Lib.hid hmy
      clear hmy
      by_cases hz : m = 0
      · have hzd : ((m : Int) == 0) = true := by simp [hz]
        have hf : newE none l = 3 := by
          have e : newE none (l.take (k + 1)) = 3 := by rw [HE.out, if_pos (by rw [Hnb.out, hz]; simp)]
          rw [HS.out (by rw [e]; decide), e]
        have Hf := Lib.hid hf
        clear hf HE HS Hnb Hmy Hnx Hnx0 hz h0 Hcells
        go_wp2_with fail
        go_ret2
        rw [Hf.out]
        exact ⟨_, rfl, Hbw5.out.mono (by omega)⟩
      · have hzd : ((m : Int) == 0) = false := beq_eq_false_iff_ne.2 (by omega)
        have hnb2 : nbrs arcs = gmay arcs := by rw [Hnb.out, decide_eq_true (by omega)]; rfl
        have Hnb2 := Lib.hid hnb2
        clear hnb2 Hnb
        cases hg : gmay arcs with
        | false =>
          have hf : newE none l = 3 := by
            have e : newE none (l.take (k + 1)) = 3 := by rw [HE.out, if_pos (by rw [Hnb2.out, hg])]
            rw [HS.out (by rw [e]; decide), e]
          rw [hg] at Hmy
          have Hf := Lib.hid hf
          clear hf HE HS Hnb2 Hnx Hnx0 hz h0 hg Hcells
          go_wp2_with fail
          refine Hmy.out.mono ?_
          rintro _ w6 ⟨rfl, hb6⟩
          have Hb6 := Lib.hid hb6
          clear hb6 hc0' hc1'
          go_wp2_with fail
          go_ret2
          rw [Hf.out]
          exact ⟨_, rfl, (Hbw5.out.trans (Hb6.out.mono (by omega))).mono (by omega)⟩
        | true =>
          have hEt : newE none (l.take (k + 1)) = if fr < nxt 0 (l.take k) then 13 else 0 := by rw [HE.out, if_neg (by rw [Hnb2.out, hg]; decide)]
          rw [hg] at Hmy
          have HEt := Lib.hid hEt
          clear hEt HE Hnb2 hz h0 hg
          go_wp2_with fail
          refine Hmy.out.mono ?_
          rintro _ w6 ⟨rfl, hb6⟩
          have HR6 := Lib.hid (HbR.out.below HbR.out.lt hb6)
          have HG6 := Lib.hid (HbG5.out.below HbG5.out.lt hb6)
          have Hva6 := Lib.hid (Hva5.out.below_ hb6)
          have Hbw6 := Lib.hid (Hbw5.out.trans (hb6.mono (by omega : G ≤ w5.heap.size)))
          have hge6 : G + 1 ≤ w6.heap.size := Nat.le_trans hge5 hb6.size
          have Hya6 := Lib.hid (Hya.out.below (hb6.mono (Nat.le_trans hB (by omega))))
          have Hh6 := Lib.hid (H.out.below (Hbw6.out.mono (by omega)))
          clear hc0' hc1' hb6 Hmy HbR HbG5 Hva5 Hbw5 Hya
          have hc1 := HR6.out.cell 1 _ rfl
          have hc0 := HR6.out.cell 0 _ rfl
          rcases Nat.eq_zero_or_pos k with hk0 | hk0
          · have hok : newE none (l.take (k + 1)) = 0 := by rw [HEt.out, Hnx0.out hk0, if_neg (by omega)]
            have Hok := Lib.hid hok
            have hd0 : decide ((k : Int) > 0) = false := decide_eq_false (by omega)
            have hd1 : decide (0 < k) = false := decide_eq_false (by omega)
            clear hok HEt Hnx0 Hnx HS hk0 Hcells
            go_wp2_with fail
            go_quiet (fail)
            go_wp2_with fail
            have HG : Hid (BoxAt 136 (w6.drewN nq) G [va]) := Lib.hid (show BoxAt 136 (w6.drewN nq) G [va] from HG6.out)
            have HR : Hid (BoxAt 75 (w6.drewN nq) gr [.int .u32 (fr : Int), .slice Aa m ca]) := Lib.hid (show BoxAt 75 (w6.drewN nq) gr [.int .u32 (fr : Int), .slice Aa m ca] from HR6.out)
            have Hva : Hid (OwnF 75 cRaw (w6.drewN nq) (G + 1) va acc) := Lib.hid (show OwnF 75 cRaw (w6.drewN nq) (G + 1) va acc from Hva6.out)
            have Hbw8 : Hid (Below G w (w6.drewN nq)) := Lib.hid (bdrewN Hbw6.out nq)
            have Hge : Hid (G + 1 ≤ (w6.drewN nq).heap.size) := Lib.hid hge6
            have Hown9 : Hid (Calls Try.prog 73 #[.agg #[.int .u32 (fr : Int), .slice Aa m ca]] (w6.drewN nq).drew fun e w' => ∃ u, e = .returned (.agg #[.int .u32 (fr : Int), u]) ∧ u.oneCell' = true ∧ Below (w6.drewN nq).heap.size (w6.drewN nq) w') := Lib.hid (by
              have hya' : ByA (w6.drewN nq).drew (w6.drewN nq).drew.heap.size (.slice Aa m ca) arcs := (show ByA (w6.drewN nq).drew B (.slice Aa m ca) arcs from Hya6.out).more (show B ≤ w6.heap.size by omega)
              rw [Hm.out] at hya' ⊢
              refine (own_any _ fr Aa ca arcs (by have := Hm.out; omega) hya').mono ?_
              rintro e w' ⟨u, h1, h2, h3⟩
              obtain ⟨Au, cu, rfl, _⟩ := h2.form'
              exact ⟨_, h1, rfl, ⟨h3.os, h3.tape, h3.output, h3.size, h3.block⟩⟩)
            clear HG6 HR6 Hva6 Hya6 Hh6 hc0 hc1 Hbw6
            generalize w6.drewN nq = w8 at *
            refine wp_region_mixL (ds := [41, 42, 43, 44, 45, 46, 47, 48, 49]) 9 (fun bb vs W' => BoxAt 136 W' G [va] ∧ BoxAt 75 W' gr [.int .u32 (fr : Int), .slice Aa m ca] ∧ (bb 7 = true → bb 6 = true) ∧ (bb 8 = true → bb 7 = true) ∧ (bb 6 = false → W' = w8.drew) ∧ (bb 6 = true → bb 7 = false → ∃ u, vs 6 = .agg #[.int .u32 (fr : Int), u] ∧ u.oneCell' = true ∧ Below w8.heap.size w8 W') ∧ (bb 7 = true → bb 8 = false → ∃ u W9, u.oneCell' = true ∧ Below w8.heap.size w8 W9 ∧ W' = W9.alloc (.cells #[.int .u32 (fr : Int), u] 75) ∧ vs 7 = .slice (some ⟨W9.heap.size, 0, none⟩) 1 1) ∧ (bb 8 = true → ∃ x W9, Below w8.heap.size w8 W9 ∧ OwnF 75 cRaw W' (G + 1) (vs 8) (acc ++ [x]) ∧ Ext W9 W' va (vs 8))) [some 41, some 42, some 43, some 44, some 45, some 46, some 47, some 48, some 49]
              [fun v => v = .pointer (some ⟨G, 0, none⟩), fun v => v = .pointer (some ⟨G, 0, none⟩), fun v => v = .pointer (some ⟨G, 0, none⟩), fun v => v = .pointer (some ⟨G, 0, none⟩), fun v => v = va, fun v => v = .agg #[.int .u32 (fr : Int), .slice Aa m ca], fun _ => True, fun _ => True, fun _ => True]
              rfl rfl rfl (by kernel_rfl) (by kernel_rfl) ?_ (fun _ => ⟨HG.out, HR.out, by simp, by simp, fun _ => rfl, by simp, by simp, by simp⟩) ?_
            · refine ⟨?_, ?_, ?_, ?_, ?_, ?_, ?_, ?_, ?_, trivial⟩
              · -- 0: slot 41 := Op.move t4
                refine obM_yes fun f bb w' hj hs hd hp => ?_
                simp [PreO, factO, valOf, Region.binds] at hp hd
                refine ⟨by simp [Gd, valOf, hp], ?_⟩
                refine mildM_val (.pointer (some ⟨G, 0, none⟩)) (w' := w') ?_ rfl (by simpa using hj)
                simp [execOp, evalF, hp, go_sem]
              · -- 1: slot 42 := Op.move t4
                refine obM_yes fun f bb w' hj hs hd hp => ?_
                simp [PreO, factO, valOf, Region.binds] at hp hd
                refine ⟨by simp [Gd, valOf, hp], ?_⟩
                refine mildM_val (.pointer (some ⟨G, 0, none⟩)) (w' := w') ?_ rfl (by simpa using hj)
                simp [execOp, evalF, hp, go_sem]
              · -- 2: slot 43 := Op.nilCheck t42
                refine obM_yes fun f bb w' hj hs hd hp => ?_
                simp [PreO, factO, valOf, Region.binds] at hp hd
                refine ⟨by simp [Gd, valOf, hp], ?_⟩
                refine mildM_val (.pointer (some ⟨G, 0, none⟩)) (w' := w') ?_ rfl (by simpa using hj)
                simp [execOp, evalF, hp, go_sem]
              · -- 3: slot 44 := Op.fieldAddr 136 t43 0
                refine obM_yes fun f bb w' hj hs hd hp => ?_
                simp [PreO, factO, valOf, Region.binds] at hp hd
                refine ⟨by simp [Gd, valOf, hp], ?_⟩
                refine mildM_val (.pointer (some ⟨G, 0, none⟩)) (w' := w') ?_ rfl (by simpa using hj)
                simp [execOp, evalF, hp, go_sem]
              · -- 4: slot 45 := Op.load 22 t44
                refine obM_yes fun f bb w' hj hs hd hp => ?_
                simp [PreO, factO, valOf, Region.binds] at hp hd
                refine ⟨by simp [Gd, valOf, hp], ?_⟩
                have hc := hj.1.cell 0 _ rfl
                refine mildM_val (va) (w' := w') ?_ rfl (by simpa using hj)
                simp [execOp, evalF, hp, go_sem, hc]
              · -- 5: slot 46 := Op.load 75 t6
                refine obM_yes fun f bb w' hj hs hd hp => ?_
                simp [PreO, factO, valOf, Region.binds] at hp hd
                refine ⟨by simp [Gd, valOf, hp], ?_⟩
                have hl := run_loadVar_cells w' ⟨gr, 0, none⟩ 75 [.int .u32 (fr : Int), .slice Aa m ca] hj.2.1.cells Try.underlying75 rfl infoRow2
                refine mildM_val (.agg #[.int .u32 (fr : Int), .slice Aa m ca]) (w' := w') ?_ rfl (by simpa using hj)
                simp only [execOp, evalF, List.contains_eq_mem, Instr.loadAt, Instr.sureAddr, Sem.run_bind, Sem.run_pure, Result.andThen_ok]
                simp [hp, hl]
              · -- 6: slot 47 := Op.call   value (Operand.func 73), args := #[t46], argTypes := #[75]  
                refine obM_yes fun f bb w' hj hs hd hp => ?_
                simp [PreO, factO, valOf, Region.binds] at hp hd
                refine ⟨by simp [Gd, valOf, hp], ?_⟩
                obtain ⟨j1, j2, j3, j4, j5, j6, j7, j8⟩ := hj
                have h7 : bb 7 = false := by cases hx : bb 7 with | false => rfl | true => rw [j3 hx] at hs; cases hs
                have h8 : bb 8 = false := by cases hx : bb 8 with | false => rfl | true => rw [j4 hx] at h7; cases h7
                have hw' := j5 hs
                subst hw'
                refine mildM_call 73 _ _ Try.f73 Try.func73 (by kernel_rfl) (by kernel_rfl) rfl ?_
                refine calls_args (args' := #[.agg #[.int .u32 (fr : Int), .slice Aa m ca]]) (by simp [evalF, hp]) ?_
                refine Hown9.out.mono ?_
                rintro _ w9 ⟨u, rfl, hu, hb9⟩
                exact ⟨_, rfl, trivial, HG.out.below HG.out.lt hb9, HR.out.below HR.out.lt hb9, by simp [h7], by simpa using j4, by simp, fun _ _ => ⟨u, rfl, hu, hb9⟩, by simp [h7], by simp [h8]⟩
              · -- 7: slot 48 := Op.buildSlice 22 1 #[(0, t47)]
                refine obM_yes fun f bb w' hj hs hd hp => ?_
                simp [PreO, factO, valOf, Region.binds] at hp hd
                refine ⟨by simp [Gd, valOf, hp], ?_⟩
                obtain ⟨j1, j2, j3, j4, j5, j6, j7, j8⟩ := hj
                have h6 : bb 6 = true := by simpa using hd
                have h8 : bb 8 = false := by cases hx : bb 8 with | false => rfl | true => rw [j4 hx] at hs; cases hs
                obtain ⟨u, hv6, hu, hb9⟩ := j6 h6 hs
                have hv6' : f 47 = .agg #[.int .u32 (fr : Int), u] := by simpa [valOf] using hv6
                refine mildM_val (.slice (some ⟨w'.heap.size, 0, none⟩) 1 1) (w' := w'.alloc (.cells #[.int .u32 (fr : Int), u] 75)) ?_ trivial ⟨j1.alloc _, j2.alloc _, by simp [h6], by simp, by simp [h6], by simp, fun _ _ => ⟨u, w', hu, hb9, rfl, rfl⟩, by simp [h8]⟩
                have hr := run_slice_row w' (.int .u32 (fr : Int)) u
                simp [execOp, evalF, hv6', hr]
              · -- 8: slot 49 := Op.call   builtin append, args := #[t45, t48], argTypes := #[22, 22]  
                refine obM_yes fun f bb w' hj hs hd hp => ?_
                simp [PreO, factO, valOf, Region.binds] at hp hd
                refine ⟨by simp [Gd, valOf, hp], ?_⟩
                obtain ⟨j1, j2, j3, j4, j5, j6, j7, j8⟩ := hj
                have h7 : bb 7 = true := by first | exact hd.2.1 | exact hd.2 | exact hd
                have h6 := j3 h7
                obtain ⟨u, W9, hu, hb9, hw9, hv7⟩ := j7 h7 hs
                subst hw9
                have q1 := (Hva.out.below_ hb9)
                have q2 : G + 1 ≤ W9.heap.size := Nat.le_trans Hge.out hb9.size
                refine mildM_ex (exec_app1R (C := cRaw) (.tmp 45) (.tmp 48) 22 rfl Try.underlying22 infoRow (by kernel_rfl) (by decide) (by decide) [.int .u32 (fr : Int), u] q1 (y := (Value.int .u32 (fr : Int), u)) ⟨rfl, rfl, hu⟩ (by simp [evalF, hp]) (by simpa [evalF, valOf] using hv7) Hacc.out q2) ?_
                intro v' w3 g1 g2
                refine ⟨trivial, (j1.ofAlloc (Nat.lt_of_lt_of_le HG.out.lt hb9.size)).grown g2.gr (fun e => by have := (q1.blk _ e).1; omega), (j2.ofAlloc (Nat.lt_of_lt_of_le HR.out.lt hb9.size)).grown g2.gr Hne.out, by simpa using j3, by simp [h7], by simp [h6], by simp [h7], by simp, fun _ => ⟨_, W9, hb9, g1, g2⟩⟩
            · intro f bb wd hall hj hp
              simp only [PostO] at hp
              obtain ⟨e0, e1, e2, e3, e4, e5, _, _, _, _⟩ := hp
              simp only [fills, List.foldl_cons, List.foldl_nil, Act.put, List.setIfInBounds_toArray, List.set_cons_zero, List.set_cons_succ, e0, e1, e2, e3, e4, e5]
              clear e0 e1 e2 e3 e4 e5
              simp only [List.drop_succ_cons, List.drop_zero]
              obtain ⟨x, W9, hb9, hof, hex⟩ : ∃ x W9, Below w8.heap.size w8 W9 ∧ OwnF 75 cRaw wd (G + 1) (f 49) (acc ++ [x]) ∧ Ext W9 wd va (f 49) := hj.2.2.2.2.2.2.2 (by simp [hall])
              have hbG := hj.1
              clear hj hall
              generalize f 47 = v47 at *
              generalize f 48 = v48 at *
              generalize f 49 = v49 at *
              obtain ⟨A49, c49, rfl, _, _, _⟩ := hof.form'
              have hl1 : (acc ++ [x]).length = k + 1 := by simp; omega
              rw [hl1] at hof hex
              have hcG := hbG.cell 0 _ rfl
              have hfG := hbG.frozen 0
              have q3 := hb9.size
              have q4 := hex.gr.size
              have hge8 := Hge.out
              have HbG := Lib.hid (hbG.put 0 (.slice A49 (k + 1) c49))
              have Hof := Lib.hid (OwnR.grownRd hof (gset wd ⟨G, 0, none⟩ (.slice A49 (k + 1) c49)) (Nat.lt_succ_self G))
              have Hbw9 := Lib.hid (((Hbw8.out.trans (hb9.mono (by omega : G ≤ w8.heap.size))).trans (hex.below (B := G) (by omega) (fun q hq => by have := (Hva.out.blk q hq).1; omega))).setCell (p := ⟨G, 0, none⟩) (Nat.le_refl _) (.slice A49 (k + 1) c49))
              clear hb9 hof hex hbG
              go_wp2_with fail
              go_roundw
              case rel => exact ⟨k + 1, acc ++ [x], _, by omega, by go_num, Hok.out, HbG.out, Hof.out, by simp; omega, by simp [World.setCell]; omega, Hbw9.out⟩
              case measure => simp [intOf]; omega
          · obtain ⟨p, rfl⟩ : ∃ p, k = p + 1 := ⟨k - 1, by omega⟩
            obtain ⟨hp, hnx⟩ := Hnx.out p rfl
            obtain ⟨ad2, Ab, cb, e2, _, hy0, hy1, _⟩ := Hh6.out.cells p hp
            injection e2 with e2
            subst e2
            have hk1 : (((p + 1 : Nat) : Int) - 1) = (p : Int) := by omega
            have hgt : decide (((p + 1 : Nat) : Int) > 0) = true := decide_eq_true (by omega)
            have hgt' : decide (0 < p + 1) = true := decide_eq_true (by omega)
            have hw1 : wrap64 (((p + 1 : Nat) : Int) - 1) = (p : Int) := by unfold wrap64; omega
            have hfr2 := u32_lt (l[p]).fr
            rw [hnx] at HEt
            clear Hnx Hnx0 Hcells hnx
            generalize (l[p]).fr.toNat = f2 at *
            by_cases hle : fr ≤ f2
            · have hd : decide ((fr : Int) ≤ (f2 : Int)) = true := decide_eq_true (by omega)
              have hd' : decide (fr ≤ f2) = true := decide_eq_true hle
              have hf : newE none l = 13 := by
                have e : newE none (l.take (p + 1 + 1)) = 13 := by rw [HEt.out, if_pos (by omega)]
                rw [HS.out (by rw [e]; decide), e]
              have Hf := Lib.hid hf
              clear hf HEt HS hle
              go_wp2_with fail
              go_quiet (fail)
              go_wp2_with fail
              go_ret2
              rw [Hf.out]
              exact ⟨_, rfl, (bdrewN Hbw6.out _).mono (by omega)⟩
            · have hd : decide ((fr : Int) ≤ (f2 : Int)) = false := decide_eq_false (by omega)
              have hd' : decide (fr ≤ f2) = false := decide_eq_false hle
              have hok : newE none (l.take (p + 1 + 1)) = 0 := by rw [HEt.out, if_neg (by omega)]
              have Hok := Lib.hid hok
              clear hok HEt HS hle
              go_wp2_with fail
              go_quiet (fail)
              go_wp2_with fail
              have HG : Hid (BoxAt 136 (w6.drewN nq) G [va]) := Lib.hid (show BoxAt 136 (w6.drewN nq) G [va] from HG6.out)
              have HR : Hid (BoxAt 75 (w6.drewN nq) gr [.int .u32 (fr : Int), .slice Aa m ca]) := Lib.hid (show BoxAt 75 (w6.drewN nq) gr [.int .u32 (fr : Int), .slice Aa m ca] from HR6.out)
              have Hva : Hid (OwnF 75 cRaw (w6.drewN nq) (G + 1) va acc) := Lib.hid (show OwnF 75 cRaw (w6.drewN nq) (G + 1) va acc from Hva6.out)
              have Hbw8 : Hid (Below G w (w6.drewN nq)) := Lib.hid (bdrewN Hbw6.out nq)
              have Hge : Hid (G + 1 ≤ (w6.drewN nq).heap.size) := Lib.hid hge6
              have Hown9 : Hid (Calls Try.prog 73 #[.agg #[.int .u32 (fr : Int), .slice Aa m ca]] (w6.drewN nq).drew fun e w' => ∃ u, e = .returned (.agg #[.int .u32 (fr : Int), u]) ∧ u.oneCell' = true ∧ Below (w6.drewN nq).heap.size (w6.drewN nq) w') := Lib.hid (by
                have hya' : ByA (w6.drewN nq).drew (w6.drewN nq).drew.heap.size (.slice Aa m ca) arcs := (show ByA (w6.drewN nq).drew B (.slice Aa m ca) arcs from Hya6.out).more (show B ≤ w6.heap.size by omega)
                rw [Hm.out] at hya' ⊢
                refine (own_any _ fr Aa ca arcs (by have := Hm.out; omega) hya').mono ?_
                rintro e w' ⟨u, h1, h2, h3⟩
                obtain ⟨Au, cu, rfl, _⟩ := h2.form'
                exact ⟨_, h1, rfl, ⟨h3.os, h3.tape, h3.output, h3.size, h3.block⟩⟩)
              clear HG6 HR6 Hva6 Hya6 Hh6 hc0 hc1 Hbw6
              generalize w6.drewN nq = w8 at *
              refine wp_region_mixL (ds := [41, 42, 43, 44, 45, 46, 47, 48, 49]) 9 (fun bb vs W' => BoxAt 136 W' G [va] ∧ BoxAt 75 W' gr [.int .u32 (fr : Int), .slice Aa m ca] ∧ (bb 7 = true → bb 6 = true) ∧ (bb 8 = true → bb 7 = true) ∧ (bb 6 = false → W' = w8.drew) ∧ (bb 6 = true → bb 7 = false → ∃ u, vs 6 = .agg #[.int .u32 (fr : Int), u] ∧ u.oneCell' = true ∧ Below w8.heap.size w8 W') ∧ (bb 7 = true → bb 8 = false → ∃ u W9, u.oneCell' = true ∧ Below w8.heap.size w8 W9 ∧ W' = W9.alloc (.cells #[.int .u32 (fr : Int), u] 75) ∧ vs 7 = .slice (some ⟨W9.heap.size, 0, none⟩) 1 1) ∧ (bb 8 = true → ∃ x W9, Below w8.heap.size w8 W9 ∧ OwnF 75 cRaw W' (G + 1) (vs 8) (acc ++ [x]) ∧ Ext W9 W' va (vs 8))) [some 41, some 42, some 43, some 44, some 45, some 46, some 47, some 48, some 49]
                [fun v => v = .pointer (some ⟨G, 0, none⟩), fun v => v = .pointer (some ⟨G, 0, none⟩), fun v => v = .pointer (some ⟨G, 0, none⟩), fun v => v = .pointer (some ⟨G, 0, none⟩), fun v => v = va, fun v => v = .agg #[.int .u32 (fr : Int), .slice Aa m ca], fun _ => True, fun _ => True, fun _ => True]
                rfl rfl rfl (by kernel_rfl) (by kernel_rfl) ?_ (fun _ => ⟨HG.out, HR.out, by simp, by simp, fun _ => rfl, by simp, by simp, by simp⟩) ?_
              · refine ⟨?_, ?_, ?_, ?_, ?_, ?_, ?_, ?_, ?_, trivial⟩
                · -- 0: slot 41 := Op.move t4
                  refine obM_yes fun f bb w' hj hs hd hp => ?_
                  simp [PreO, factO, valOf, Region.binds] at hp hd
                  refine ⟨by simp [Gd, valOf, hp], ?_⟩
                  refine mildM_val (.pointer (some ⟨G, 0, none⟩)) (w' := w') ?_ rfl (by simpa using hj)
                  simp [execOp, evalF, hp, go_sem]
                · -- 1: slot 42 := Op.move t4
                  refine obM_yes fun f bb w' hj hs hd hp => ?_
                  simp [PreO, factO, valOf, Region.binds] at hp hd
                  refine ⟨by simp [Gd, valOf, hp], ?_⟩
                  refine mildM_val (.pointer (some ⟨G, 0, none⟩)) (w' := w') ?_ rfl (by simpa using hj)
                  simp [execOp, evalF, hp, go_sem]
                · -- 2: slot 43 := Op.nilCheck t42
                  refine obM_yes fun f bb w' hj hs hd hp => ?_
                  simp [PreO, factO, valOf, Region.binds] at hp hd
                  refine ⟨by simp [Gd, valOf, hp], ?_⟩
                  refine mildM_val (.pointer (some ⟨G, 0, none⟩)) (w' := w') ?_ rfl (by simpa using hj)
                  simp [execOp, evalF, hp, go_sem]
                · -- 3: slot 44 := Op.fieldAddr 136 t43 0
                  refine obM_yes fun f bb w' hj hs hd hp => ?_
                  simp [PreO, factO, valOf, Region.binds] at hp hd
                  refine ⟨by simp [Gd, valOf, hp], ?_⟩
                  refine mildM_val (.pointer (some ⟨G, 0, none⟩)) (w' := w') ?_ rfl (by simpa using hj)
                  simp [execOp, evalF, hp, go_sem]
                · -- 4: slot 45 := Op.load 22 t44
                  refine obM_yes fun f bb w' hj hs hd hp => ?_
                  simp [PreO, factO, valOf, Region.binds] at hp hd
                  refine ⟨by simp [Gd, valOf, hp], ?_⟩
                  have hc := hj.1.cell 0 _ rfl
                  refine mildM_val (va) (w' := w') ?_ rfl (by simpa using hj)
                  simp [execOp, evalF, hp, go_sem, hc]
                · -- 5: slot 46 := Op.load 75 t6
                  refine obM_yes fun f bb w' hj hs hd hp => ?_
                  simp [PreO, factO, valOf, Region.binds] at hp hd
                  refine ⟨by simp [Gd, valOf, hp], ?_⟩
                  have hl := run_loadVar_cells w' ⟨gr, 0, none⟩ 75 [.int .u32 (fr : Int), .slice Aa m ca] hj.2.1.cells Try.underlying75 rfl infoRow2
                  refine mildM_val (.agg #[.int .u32 (fr : Int), .slice Aa m ca]) (w' := w') ?_ rfl (by simpa using hj)
                  simp only [execOp, evalF, List.contains_eq_mem, Instr.loadAt, Instr.sureAddr, Sem.run_bind, Sem.run_pure, Result.andThen_ok]
                  simp [hp, hl]
                · -- 6: slot 47 := Op.call   value (Operand.func 73), args := #[t46], argTypes := #[75]  
                  refine obM_yes fun f bb w' hj hs hd hp => ?_
                  simp [PreO, factO, valOf, Region.binds] at hp hd
                  refine ⟨by simp [Gd, valOf, hp], ?_⟩
                  obtain ⟨j1, j2, j3, j4, j5, j6, j7, j8⟩ := hj
                  have h7 : bb 7 = false := by cases hx : bb 7 with | false => rfl | true => rw [j3 hx] at hs; cases hs
                  have h8 : bb 8 = false := by cases hx : bb 8 with | false => rfl | true => rw [j4 hx] at h7; cases h7
                  have hw' := j5 hs
                  subst hw'
                  refine mildM_call 73 _ _ Try.f73 Try.func73 (by kernel_rfl) (by kernel_rfl) rfl ?_
                  refine calls_args (args' := #[.agg #[.int .u32 (fr : Int), .slice Aa m ca]]) (by simp [evalF, hp]) ?_
                  refine Hown9.out.mono ?_
                  rintro _ w9 ⟨u, rfl, hu, hb9⟩
                  exact ⟨_, rfl, trivial, HG.out.below HG.out.lt hb9, HR.out.below HR.out.lt hb9, by simp [h7], by simpa using j4, by simp, fun _ _ => ⟨u, rfl, hu, hb9⟩, by simp [h7], by simp [h8]⟩
                · -- 7: slot 48 := Op.buildSlice 22 1 #[(0, t47)]
                  refine obM_yes fun f bb w' hj hs hd hp => ?_
                  simp [PreO, factO, valOf, Region.binds] at hp hd
                  refine ⟨by simp [Gd, valOf, hp], ?_⟩
                  obtain ⟨j1, j2, j3, j4, j5, j6, j7, j8⟩ := hj
                  have h6 : bb 6 = true := by simpa using hd
                  have h8 : bb 8 = false := by cases hx : bb 8 with | false => rfl | true => rw [j4 hx] at hs; cases hs
                  obtain ⟨u, hv6, hu, hb9⟩ := j6 h6 hs
                  have hv6' : f 47 = .agg #[.int .u32 (fr : Int), u] := by simpa [valOf] using hv6
                  refine mildM_val (.slice (some ⟨w'.heap.size, 0, none⟩) 1 1) (w' := w'.alloc (.cells #[.int .u32 (fr : Int), u] 75)) ?_ trivial ⟨j1.alloc _, j2.alloc _, by simp [h6], by simp, by simp [h6], by simp, fun _ _ => ⟨u, w', hu, hb9, rfl, rfl⟩, by simp [h8]⟩
                  have hr := run_slice_row w' (.int .u32 (fr : Int)) u
                  simp [execOp, evalF, hv6', hr]
                · -- 8: slot 49 := Op.call   builtin append, args := #[t45, t48], argTypes := #[22, 22]  
                  refine obM_yes fun f bb w' hj hs hd hp => ?_
                  simp [PreO, factO, valOf, Region.binds] at hp hd
                  refine ⟨by simp [Gd, valOf, hp], ?_⟩
                  obtain ⟨j1, j2, j3, j4, j5, j6, j7, j8⟩ := hj
                  have h7 : bb 7 = true := by first | exact hd.2.1 | exact hd.2 | exact hd
                  have h6 := j3 h7
                  obtain ⟨u, W9, hu, hb9, hw9, hv7⟩ := j7 h7 hs
                  subst hw9
                  have q1 := (Hva.out.below_ hb9)
                  have q2 : G + 1 ≤ W9.heap.size := Nat.le_trans Hge.out hb9.size
                  refine mildM_ex (exec_app1R (C := cRaw) (.tmp 45) (.tmp 48) 22 rfl Try.underlying22 infoRow (by kernel_rfl) (by decide) (by decide) [.int .u32 (fr : Int), u] q1 (y := (Value.int .u32 (fr : Int), u)) ⟨rfl, rfl, hu⟩ (by simp [evalF, hp]) (by simpa [evalF, valOf] using hv7) Hacc.out q2) ?_
                  intro v' w3 g1 g2
                  refine ⟨trivial, (j1.ofAlloc (Nat.lt_of_lt_of_le HG.out.lt hb9.size)).grown g2.gr (fun e => by have := (q1.blk _ e).1; omega), (j2.ofAlloc (Nat.lt_of_lt_of_le HR.out.lt hb9.size)).grown g2.gr Hne.out, by simpa using j3, by simp [h7], by simp [h6], by simp [h7], by simp, fun _ => ⟨_, W9, hb9, g1, g2⟩⟩
              · intro f bb wd hall hj hp
                simp only [PostO] at hp
                obtain ⟨e0, e1, e2, e3, e4, e5, _, _, _, _⟩ := hp
                simp only [fills, List.foldl_cons, List.foldl_nil, Act.put, List.setIfInBounds_toArray, List.set_cons_zero, List.set_cons_succ, e0, e1, e2, e3, e4, e5]
                clear e0 e1 e2 e3 e4 e5
                simp only [List.drop_succ_cons, List.drop_zero]
                obtain ⟨x, W9, hb9, hof, hex⟩ : ∃ x W9, Below w8.heap.size w8 W9 ∧ OwnF 75 cRaw wd (G + 1) (f 49) (acc ++ [x]) ∧ Ext W9 wd va (f 49) := hj.2.2.2.2.2.2.2 (by simp [hall])
                have hbG := hj.1
                clear hj hall
                generalize f 47 = v47 at *
                generalize f 48 = v48 at *
                generalize f 49 = v49 at *
                obtain ⟨A49, c49, rfl, _, _, _⟩ := hof.form'
                have hl1 : (acc ++ [x]).length = p + 1 + 1 := by simp; omega
                rw [hl1] at hof hex
                have hcG := hbG.cell 0 _ rfl
                have hfG := hbG.frozen 0
                have q3 := hb9.size
                have q4 := hex.gr.size
                have hge8 := Hge.out
                have HbG := Lib.hid (hbG.put 0 (.slice A49 (p + 1 + 1) c49))
                have Hof := Lib.hid (OwnR.grownRd hof (gset wd ⟨G, 0, none⟩ (.slice A49 (p + 1 + 1) c49)) (Nat.lt_succ_self G))
                have Hbw9 := Lib.hid (((Hbw8.out.trans (hb9.mono (by omega : G ≤ w8.heap.size))).trans (hex.below (B := G) (by omega) (fun q hq => by have := (Hva.out.blk q hq).1; omega))).setCell (p := ⟨G, 0, none⟩) (Nat.le_refl _) (.slice A49 (p + 1 + 1) c49))
                clear hb9 hof hex hbG
                go_wp2_with fail
                go_roundw
                case rel => exact ⟨p + 1 + 1, acc ++ [x], _, by omega, by go_num, Hok.out, HbG.out, Hof.out, by simp; omega, by simp [World.setCell]; omega, Hbw9.out⟩
                case measure => simp [intOf]; omega
    · obtain rfl : k = l.length := by omega
      rw [List.take_length] at h0
      have H0 := Lib.hid h0
      clear h0
      go_wp2_with fail
      go_ret2
      rw [H0.out]
      exact ⟨_, rfl, Hbw.out.mono (by omega)⟩
end Go.Proofs.Ythfnikdapknohaa

namespace Go.Proofs.Ythfnikdapknohaa
set_option linter.unusedSimpArgs false
set_option linter.unusedVariables false
open Go.RowKit

theorem cellsT {w : World} {T S : Nat → Prop} {A : Option Addr} {n c : Nat} {l : List GCell} (h : RowOn cCell w T S (.slice A n c) l) (k : Nat) (hk : k < l.length) :
    ∃ ad, A = some ad ∧ T ad.block ∧ w.cell? (ad.add (k * 2)) = some (.int .u64 ((l[k]).cut.toNat : Int)) ∧ w.cell? { block := (ad.add (k * 2)).block, off := (ad.add (k * 2)).off + 1 } = some (.int .u32 ((l[k]).oth.toNat : Int)) := by
  obtain ⟨ad, cs, e, hb, ⟨rfl, _⟩, hc⟩ := h.at_ k l[k] (List.getElem?_eq_getElem hk)
  refine ⟨ad, e, hb, hc 0 _ rfl, ?_⟩
  have := hc 1 _ rfl
  rw [← add_add] at this
  have e2 : (ad.add (k * cCell.n)).add 1 = { block := (ad.add (k * 2)).block, off := (ad.add (k * 2)).off + 1 } := by simp [Addr.add, cCell, Cdc.flat]
  rw [← e2]
  exact this
set_option maxRecDepth 100000 in
set_option maxHeartbeats 3200000 in
theorem aputT_any (w : World) (base : Nat) (T : Nat → Prop) (v0 : Value) (l0 : List UInt8) (hown : Ow w base v0 l0) (v : Value) (l : List GCell) (hl : l.length ≤ 1073741824) (hl0 : l0.length ≤ 1073741824) (h : RowOn cCell w T (fun _ => True) v l) (hT : ∀ k, T k → k < w.heap.size ∧ v0.ownBlock ≠ some k) (hbase : base ≤ w.heap.size) :
    Calls Try.prog 76 #[v0, v] w fun e w' => ∃ v', e = .returned v' ∧ Ow w' base v' (l0 ++ cput l) ∧ Ext w w' v0 v' := by
  obtain ⟨A, c, rfl, hc1, hc2⟩ := h.form
  unfold maxLen at hc2
  go_enter Try.func76, Try.ntmps76
  go_wp2_with fail
  go_loopw [0, 9] (fun b i wr => ∃ k : Nat, k ≤ l.length ∧ i = .int .i64 k ∧ Ow wr base b (l0 ++ cput (l.take k)) ∧ Ext w wr v0 b ∧ RowOn cCell wr T (fun _ => True) (.slice A l.length c) l) (fun _ i _ => l.length - (intOf i).toNat)
  case atStart => exact ⟨0, by omega, rfl, by simpa [cput] using hown, Ext.refl w v0, h⟩
  case round =>
    obtain ⟨k, hk, rfl, hob, hext, hrow⟩ := hrel
    have hsz := hext.gr.size
    have HTn : Hid (∀ k, T k → some k ≠ u0.ownBlock) := Lib.hid (fun k hk e => by
      rcases hext.at_ with h1 | h1
      · exact (hT k hk).2 (by rw [← h1]; exact e.symm)
      · have := h1 k e.symm; have := (hT k hk).1; omega)
    have hsz' : base ≤ wr.heap.size := Nat.le_trans hbase hsz
    by_cases hlt : k < l.length
    · obtain ⟨ad, rfl, hab, hx0, hx1⟩ := cellsT hrow k hlt
      have hgl := cput_len (l.take k)
      have htk : (l.take k).length ≤ 1073741824 := by simp; omega
      have hbl : (l0 ++ cput (l.take k)).length ≤ 30000000000 := by simp only [List.length_append]; omega
      have hsn : l0 ++ cput (l.take (k + 1)) = l0 ++ cput (l.take k) ++ vput (l[k]).cut.toNat ++ vput (l[k]).oth.toNat := by rw [cput_snoc l k hlt]; simp
      have hcu := u64_lt (l[k]).cut
      have hot := u32_lt (l[k]).oth
      have Hsn := Lib.hid hsn
      clear hgl htk hsn
      generalize l[k] = a at *
      generalize hpp : l0 ++ cput (l.take k) = pre at *
      have Hpp := Lib.hid hpp
      clear hpp
      go_wp2_with fail
      have hbx := BoxAt.new_ 73 wr [.int .u64 (a.cut.toNat : Int), .int .u32 (a.oth.toNat : Int)]
      have hxa : Ext wr (wr.alloc (.cells [.int .u64 (a.cut.toNat : Int), .int .u32 (a.oth.toNat : Int)].toArray 73)) u0 u0 := (Ext.refl wr u0).then_ (balloc _ _)
      have hn0 : Value.ownBlock u0 ≠ some wr.heap.size := fun e => by have := (hob.blk _ e).2; omega
      have hsa : (wr.alloc (.cells [.int .u64 (a.cut.toNat : Int), .int .u32 (a.oth.toNat : Int)].toArray 73)).heap.size = wr.heap.size + 1 := by simp
      have hoba := hob.alloc (.cells [.int .u64 (a.cut.toNat : Int), .int .u32 (a.oth.toNat : Int)].toArray 73)
      generalize wr.alloc (.cells [.int .u64 (a.cut.toNat : Int), .int .u32 (a.oth.toNat : Int)].toArray 73) = wa at *
      refine wp_region_oneL (ds := [13, 14, 15, 16, 17, 18, 19]) 7 3
        (fun b v W' => if b = true then Ow W' base v (pre ++ vput a.cut.toNat) ∧ Ext wa W' u0 v ∧ BoxAt 73 W' wr.heap.size [.int .u64 (a.cut.toNat : Int), .int .u32 (a.oth.toNat : Int)] ∧ v.ownBlock ≠ some wr.heap.size else W' = wa.drew)
        [some 13, some 14, some 15, some 16, some 17, some 18, some 19]
        [fun v => v = u0, fun v => v = .pointer (some ⟨wr.heap.size, 0, none⟩), fun v => v = .int .u64 (a.cut.toNat : Int), fun _ => True, fun v => v = .pointer (some ⟨wr.heap.size, 1, none⟩), fun v => v = .int .u32 (a.oth.toNat : Int), fun v => v = .int .u64 (a.oth.toNat : Int)]
        (by decide) rfl rfl rfl (by kernel_rfl) (by kernel_rfl) ?_ (fun _ => by simp) ?_
      · refine ⟨?_, ?_, ?_, ?_, ?_, ?_, ?_, trivial⟩
        · refine obO_yes fun f b w' hj hs hp => ?_
          simp [PreO, factO, valOf, Region.binds] at hp
          refine ⟨by simp [Gd, valOf, hp], ?_⟩
          refine mildO_val u0 (by decide) ?_ rfl
          simp [execOp, evalF, hp]
        · refine obO_yes fun f b w' hj hs hp => ?_
          simp [PreO, factO, valOf, Region.binds] at hp
          refine ⟨by simp [Gd, valOf, hp], ?_⟩
          refine mildO_val (.pointer (some ⟨wr.heap.size, 0, none⟩)) (by decide) ?_ rfl
          simp [execOp, evalF, hp, go_sem]
        · refine obO_yes fun f b w' hj hs hp => ?_
          simp [PreO, factO, valOf, Region.binds] at hp
          refine ⟨by simp [Gd, valOf, hp], ?_⟩
          refine mildO_val (.int .u64 (a.cut.toNat : Int)) (by decide) ?_ rfl
          have hc : BoxAt 73 w' wr.heap.size [.int .u64 (a.cut.toNat : Int), .int .u32 (a.oth.toNat : Int)] := by
            cases b with
            | true => simp at hj; exact hj.2.2.1
            | false => simp at hj; subst hj; exact hbx
          have hc0 := hc.cell 0 _ rfl
          simp [execOp, evalF, hp, hc0, go_sem]
        · refine obO_yes fun f b w' hj hs hp => ?_
          simp [PreO, factO, valOf, Region.binds] at hp
          refine ⟨by simp [Gd, valOf, hp], ?_⟩
          obtain rfl : b = false := hs rfl
          simp at hj
          subst hj
          refine mildO_call 59 _ _ Try.f59 rfl Try.func59 (by kernel_rfl) (by kernel_rfl) rfl ?_
          simp [evalF, hp]
          have hoba' : Ow wa.drew base u0 pre := hoba
          have hbx' : BoxAt 73 wa.drew wr.heap.size [.int .u64 (a.cut.toNat : Int), .int .u32 (a.oth.toNat : Int)] := hbx
          have hsd : wa.drew.heap.size = wa.heap.size := rfl
          refine (vput_any wa.drew base u0 pre hoba' a.cut.toNat (by omega) (by omega) (by omega)).mono ?_
          rintro _ w3 ⟨v3, rfl, hob3, hext3⟩
          exact ⟨v3, rfl, hob3, Ext.trans ((Ext.refl wa u0).then_ (bdrew (Below.refl _ wa))) hext3, hbx'.grown hext3.gr hn0, hext3.ne (g := wr.heap.size) (by omega) hn0⟩
        · refine obO_yes fun f b w' hj hs hp => ?_
          simp [PreO, factO, valOf, Region.binds] at hp
          refine ⟨by simp [Gd, valOf, hp], ?_⟩
          refine mildO_val (.pointer (some ⟨wr.heap.size, 1, none⟩)) (by decide) ?_ rfl
          simp [execOp, evalF, hp, go_sem]
        · refine obO_yes fun f b w' hj hs hp => ?_
          simp [PreO, factO, valOf, Region.binds] at hp
          refine ⟨by simp [Gd, valOf, hp], ?_⟩
          refine mildO_val (.int .u32 (a.oth.toNat : Int)) (by decide) ?_ rfl
          have hc : BoxAt 73 w' wr.heap.size [.int .u64 (a.cut.toNat : Int), .int .u32 (a.oth.toNat : Int)] := by
            cases b with
            | true => simp at hj; exact hj.2.2.1
            | false => simp at hj; subst hj; exact hbx
          have hc0 := hc.cell 1 _ rfl
          simp [execOp, evalF, hp, hc0, go_sem]
        · refine obO_yes fun f b w' hj hs hp => ?_
          simp [PreO, factO, valOf, Region.binds] at hp
          refine ⟨by simp [Gd, valOf, hp], ?_⟩
          refine mildO_val (.int .u64 (a.oth.toNat : Int)) (by decide) ?_ rfl
          simp [execOp, evalF, hp, go_sem]
          rw [wrap_u64]; omega
      · intro f w2 hj hp
        simp only [PostO] at hp
        obtain ⟨h0, h1, h2, _, h4, h5, h6, _⟩ := hp
        simp only [if_true, valOf] at hj
        obtain ⟨hob3, hext3, hbx3, hn3⟩ := hj
        simp only [List.getElem?_cons_succ, List.getElem?_cons_zero] at hob3 hext3 hn3
        simp only [fills, List.foldl_cons, List.foldl_nil, Act.put, List.setIfInBounds_toArray, List.set_cons_zero, List.set_cons_succ, h0, h1, h2, h4, h5, h6]
        clear h0 h1 h2 h4 h5 h6
        generalize f 16 = v16 at *
        simp only [List.drop_succ_cons, List.drop_zero]
        have hlv := vput_len64 a.cut.toNat hcu
        have hp1 : (pre ++ vput a.cut.toNat).length ≤ 30000000100 := by rw [List.length_append]; omega
        have hs3 := hext3.gr.size
        have hc0 := hbx3.cell 0 _ rfl
        have hc1 := hbx3.cell 1 _ rfl
        go_wp2_with fail
        refine (vput_any w2 base v16 _ hob3 a.oth.toNat (by omega) (by omega) (by omega)).mono ?_
        rintro _ w4 ⟨v4, rfl, hob4, hext4⟩
        have hx04 := hxa.trans (hext3.trans hext4)
        clear hc0 hc1
        go_wp2_with fail
        go_roundw
        case rel => exact ⟨k + 1, by omega, by go_num, by rw [Hsn.out]; exact hob4, hext.trans hx04, hrow.keepO (fun _ _ _ _ _ h => h) (fun p hp => World.cell?_of_block (hx04.gr.block p.block (Nat.lt_of_lt_of_le (hT _ hp).1 hsz) (HTn.out p.block hp)))⟩
        case measure => simp [intOf]; omega
    · obtain rfl : k = l.length := by omega
      rw [List.take_length] at hob
      go_wp2_with fail
      go_ret
      exact ⟨_, rfl, hob, hext⟩
end Go.Proofs.Ythfnikdapknohaa

namespace Go.Proofs.Ythfnikdapknohaa
set_option linter.unusedSimpArgs false
set_option linter.unusedVariables false
open Go.RowKit

/-- append(s, x...), s the call's own, x any readable row, as an operation is run -/
theorem exec_app8 {o : Oper} {ρ : Operand → Value} {w : World} (s x : Operand)
    (ho : o.op = .call { callee := .builtin .append, args := #[s, x], argTypes := #[25, 25] })
    {base B : Nat} {v v2 : Value} {l l2 : List UInt8} (hown : Ow w base v l) (hby : By w B v2 l2) (hs : ρ s = v) (hx : ρ x = v2)
    (hsz : l.length + l2.length ≤ 140737488355328) (hbase : base ≤ w.heap.size) :
    ∃ v' w', (execOp ρ o).run Try.prog w = .ok (.value v') w' ∧ Ow w' base v' (l ++ l2) ∧ Ext w w' v v' := by
  obtain ⟨i, hi, hz0, hz1, hz2⟩ := info_parts info8
  obtain ⟨A, c, rfl, _, _, hrd⟩ := hby
  obtain ⟨v', w', hr, h2, h3, h5⟩ := run_append_rd (P := Try.prog) w base 25 o.type 5 i (.int .u8 0) 1 1 Try.underlying25 hi hz0 hz1 hz2 rfl (by omega) v l.length (b8s l) hown B A l2.length c (b8s l2) hrd (b8s_one l2)
    (by unfold maxLen; omega) (by omega) hbase
  refine ⟨v', w', ?_, ?_, ⟨h3, ?_⟩⟩
  · unfold execOp
    simp only [ho, resolve, invoke, builtin, Sem.run_bind, Sem.run_pure, Result.andThen_ok, List.map_toArray, List.map_cons, List.map_nil, hs, hx, hr]
  · unfold Ow
    rw [List.length_append, b8s_append]
    exact h2
  · rcases h5 with h5 | h5
    · exact .inl h5
    · exact .inr fun k hk => by rw [h5] at hk; injection hk with hk; omega

set_option maxHeartbeats 800000 in
theorem above_any (w : World) (n : UInt32) (next : Nat) (h : next ≤ n.toNat) :
    Calls Try.prog 60 #[.int .u32 (n.toNat : Int), .int .u64 (next : Int)] w fun e w' => e = .returned (.int .u64 ((n.toNat - next : Nat) : Int)) ∧ w = w' := by
  have hn := u32_lt n
  have hw : IntKind.u64.wrap (n.toNat : Int) = (n.toNat : Int) := by rw [wrap_u64]; omega
  have hw2 : IntKind.u64.wrap ((n.toNat : Int) - (next : Int)) = (n.toNat : Int) - (next : Int) := by rw [wrap_u64]; omega
  generalize n.toNat = m at *
  go_enter Try.func60, Try.ntmps60
  go_wp2_with fail
  go_ret
  refine ⟨?_, rfl⟩
  show Ending.returned (.int .u64 _) = _
  congr 2
  omega

set_option maxRecDepth 100000 in
set_option maxHeartbeats 3200000 in
theorem shput1_any (w : World) (base B : Nat) (v0 : Value) (b0 : List UInt8) (hown : Ow w base v0 b0) (r : GRow) (Aa : Option Addr) (ca next : Nat) (h1 : next ≤ r.fr.toNat) (hn : nbrs r.arcs = true) (hl : r.arcs.length ≤ 1048576) (hl0 : b0.length ≤ 100000000)
    (h : ByA w B (.slice Aa r.arcs.length ca) r.arcs) (hB : B ≤ base) (hbase : base ≤ w.heap.size) :
    Calls Try.prog 38 #[v0, .agg #[.int .u32 (r.fr.toNat : Int), .slice Aa r.arcs.length ca], .int .u64 (next : Int)] w fun e w' => ∃ v', e = .returned v' ∧ Ow w' base v' (b0 ++ row1 next r) ∧ Ext w w' v0 v' := by
  have hf := u32_lt r.fr
  have hvl := (vput_len64 (r.fr.toNat - next) (by omega)).2
  have hgl : (gput r.arcs).length ≤ 11 + 22 * r.arcs.length := by
    have := vput_len64 r.arcs.length (by omega)
    have := gapsL_len r.arcs 0
    simp only [gput, List.length_append]
    omega
  obtain ⟨hgm, h0⟩ := nbrs_gmay hn
  have hbl := btab_len r.arcs hl (gmay_sum' hgm)
  have hcl := cput_len (btab r.arcs)
  have hbtl : (btab r.arcs).length ≤ 1048576 := by omega
  rw [hbl] at hcl
  have Hgm := Lib.hid hgm
  have Hnb := Lib.hid hn
  obtain ⟨w1, hw1⟩ : ∃ w1, w.alloc (.cells #[.int .u32 (r.fr.toNat : Int), .slice Aa r.arcs.length ca] 75) = w1 := ⟨_, rfl⟩
  have hb1 : Below w.heap.size w w1 := by rw [← hw1]; exact balloc _ _
  obtain ⟨gr, hgr⟩ : ∃ gr, w.heap.size = gr := ⟨_, rfl⟩
  have HR : Hid (BoxAt 75 w1 gr [.int .u32 (r.fr.toNat : Int), .slice Aa r.arcs.length ca]) := Lib.hid (by rw [← hw1, ← hgr]; exact BoxAt.new_ _ _ _)
  have Hne : Hid (v0.ownBlock ≠ some gr) := Lib.hid (fun e => by have := (hown.blk _ e).2; omega)
  have Hown : Hid (Ow w1 base v0 b0) := Lib.hid (by rw [← hw1]; exact hown.alloc _)
  have Hbase : Hid (base ≤ w1.heap.size) := Lib.hid (Nat.le_trans hbase hb1.size)
  have Hya := Lib.hid (h.below (hb1.mono (Nat.le_trans hB hbase)))
  have Hx01 : Hid (Ext w w1 v0 v0) := Lib.hid ((Ext.refl w v0).then_ hb1)
  have Hb1 := Lib.hid hb1
  clear hown h hgm hbl hb1 hn
  go_enter Try.func38, Try.ntmps38
  go_upto_region 1 with fail
  try rw [hw1]
  clear hw1
  refine wp_region_mixLI (ds := [10, 11, 12, 13, 14, 15, 16, 17, 18, 9, 19, 20, 0]) 13 (fun bb vs W' => BoxAt 75 W' gr [.int .u32 (r.fr.toNat : Int), .slice Aa r.arcs.length ca] ∧ (bb 8 = true → bb 5 = true) ∧ (bb 5 = false → W' = w1.drew) ∧ (bb 5 = true → bb 8 = false → Ow W' base (vs 5) (b0 ++ vput (r.fr.toNat - next)) ∧ Ext w1 W' v0 (vs 5)) ∧ (bb 8 = true → ∃ v8, vs 8 = .tuple #[v8, .int .i64 0] ∧ Ow W' base v8 (b0 ++ vput (r.fr.toNat - next) ++ gput r.arcs) ∧ Ext w1 W' v0 v8) ∧ (bb 9 = true → bb 8 = true ∧ vs 9 = vs 8) ∧ (bb 10 = true → bb 9 = true ∧ vs 8 = .tuple #[vs 10, .int .i64 0]) ∧ (bb 12 = true → bb 0 = true ∧ bb 10 = true ∧ vs 12 = vs 10) ∧ (bb 12 = false → vs 12 = v0)) [some 10, some 11, some 12, some 13, some 14, some 15, some 16, some 17, some 18, some 9, some 19, some 20, some 0]
    [fun v => v = v0, fun v => v = .pointer (some ⟨gr, 0, none⟩), fun v => v = .int .u32 (r.fr.toNat : Int), fun v => v = .int .u64 (next : Int), fun v => v = .int .u64 ((r.fr.toNat - next : Nat) : Int), fun _ => True, fun v => v = .pointer (some ⟨gr, 1, none⟩), fun v => v = .slice Aa r.arcs.length ca, fun _ => True, fun _ => True, fun _ => True, fun v => v = .int .i64 0, fun _ => True]
    rfl rfl rfl (by kernel_rfl) (by kernel_rfl) ?_ ⟨HR.out, by simp, fun _ => rfl, by simp, by simp, by simp, by simp, by simp, by simp [valOf]⟩ ?_
  · refine ⟨?_, ?_, ?_, ?_, ?_, ?_, ?_, ?_, ?_, ?_, ?_, ?_, ?_, trivial⟩
    · -- 0: slot 10 := Op.move t0
      refine obM_yes fun f bb w' hj hs hd hp => ?_
      simp [PreO, factO, valOf, Region.binds] at hp hd
      refine ⟨by simp [Gd, valOf, hp], ?_⟩
      have h12 : bb 12 = false := by cases hx : bb 12 with | false => rfl | true => rw [(hj.2.2.2.2.2.2.2.1 hx).1] at hs; cases hs
      have e0 : f 0 = v0 := hj.2.2.2.2.2.2.2.2 h12
      refine mildM_val (v0) (w' := w') ?_ rfl (by obtain ⟨j1, j2, j3, j4, j5, j6, j7, j8, j9⟩ := hj; exact ⟨j1, by simpa using j2, by simpa using j3, by simpa using j4, by simpa using j5, by simpa using j6, by simpa using j7, by simp [h12], by simpa using j9⟩)
      simp [execOp, evalF, hp, go_sem, e0]
    · -- 1: slot 11 := Op.fieldAddr 75 t4 0
      refine obM_yes fun f bb w' hj hs hd hp => ?_
      simp [PreO, factO, valOf, Region.binds] at hp hd
      refine ⟨by simp [Gd, valOf, hp], ?_⟩
      refine mildM_val (.pointer (some ⟨gr, 0, none⟩)) (w' := w') ?_ rfl (by simpa using hj)
      simp [execOp, evalF, hp, go_sem]
    · -- 2: slot 12 := Op.load 51 t11
      refine obM_yes fun f bb w' hj hs hd hp => ?_
      simp [PreO, factO, valOf, Region.binds] at hp hd
      refine ⟨by simp [Gd, valOf, hp], ?_⟩
      have hc := hj.1.cell 0 _ rfl
      refine mildM_val (.int .u32 (r.fr.toNat : Int)) (w' := w') ?_ rfl (by simpa using hj)
      simp [execOp, evalF, hp, go_sem, hc]
    · -- 3: slot 13 := Op.move t2
      refine obM_yes fun f bb w' hj hs hd hp => ?_
      simp [PreO, factO, valOf, Region.binds] at hp hd
      refine ⟨by simp [Gd, valOf, hp], ?_⟩
      refine mildM_val (.int .u64 (next : Int)) (w' := w') ?_ rfl (by simpa using hj)
      simp [execOp, evalF, hp, go_sem]
    · -- 4: slot 14 := Op.call   value (Operand.func 60), args := #[t12, t13], argTypes := #[51, 71]  
      refine obM_yes fun f bb w' hj hs hd hp => ?_
      simp [PreO, factO, valOf, Region.binds] at hp hd
      refine ⟨by simp [Gd, valOf, hp], ?_⟩
      refine mildM_call 60 _ _ Try.f60 Try.func60 (by kernel_rfl) (by kernel_rfl) rfl ?_
      refine calls_args (args' := #[.int .u32 (r.fr.toNat : Int), .int .u64 (next : Int)]) (by simp [evalF, hp]) ?_
      refine (above_any w' r.fr next h1).mono ?_
      rintro _ _ ⟨rfl, rfl⟩
      exact ⟨_, rfl, rfl, by simpa using hj⟩
    · -- 5: slot 15 := Op.call   value (Operand.func 59), args := #[t10, t14], argTypes := #[25, 71]  
      refine obM_yes fun f bb w' hj hs hd hp => ?_
      simp [PreO, factO, valOf, Region.binds] at hp hd
      refine ⟨by simp [Gd, valOf, hp], ?_⟩
      obtain ⟨j1, j2, j3, j4, j5, j6, j7, j8, j9⟩ := hj
      have h8 : bb 8 = false := by cases hx : bb 8 with | false => rfl | true => (have := j2 hx; simp_all)
      have h9 : bb 9 = false := by cases hx : bb 9 with | false => rfl | true => rw [(j6 hx).1] at h8; cases h8
      have h10 : bb 10 = false := by cases hx : bb 10 with | false => rfl | true => rw [(j7 hx).1] at h9; cases h9
      have h12 : bb 12 = false := by cases hx : bb 12 with | false => rfl | true => rw [(j8 hx).2.1] at h10; cases h10
      have hw' := j3 hs
      subst hw'
      refine mildM_call 59 _ _ Try.f59 Try.func59 (by kernel_rfl) (by kernel_rfl) rfl ?_
      refine calls_args (args' := #[v0, .int .u64 ((r.fr.toNat - next : Nat) : Int)]) (by simp [evalF, hp]) ?_
      refine (vput_any w1.drew base v0 b0 Hown.out (r.fr.toNat - next) (by omega) (by omega) Hbase.out).mono ?_
      rintro _ w9 ⟨v9, rfl, ho, hx⟩
      exact ⟨_, rfl, trivial, j1.grown hx.gr Hne.out, by simp, by simp, fun _ _ => ⟨ho, ⟨⟨hx.gr.os, hx.gr.tape, hx.gr.output, hx.gr.size, hx.gr.block⟩, hx.at_⟩⟩, by simp [h8], by simp [h9], by simp [h10], by simp [h12], fun _ => by simpa using j9 h12⟩
    · -- 6: slot 16 := Op.fieldAddr 75 t4 1
      refine obM_yes fun f bb w' hj hs hd hp => ?_
      simp [PreO, factO, valOf, Region.binds] at hp hd
      refine ⟨by simp [Gd, valOf, hp], ?_⟩
      refine mildM_val (.pointer (some ⟨gr, 1, none⟩)) (w' := w') ?_ rfl (by simpa using hj)
      simp [execOp, evalF, hp, go_sem]
    · -- 7: slot 17 := Op.load 65 t16
      refine obM_yes fun f bb w' hj hs hd hp => ?_
      simp [PreO, factO, valOf, Region.binds] at hp hd
      refine ⟨by simp [Gd, valOf, hp], ?_⟩
      have hc := hj.1.cell 1 _ rfl
      refine mildM_val (.slice Aa r.arcs.length ca) (w' := w') ?_ rfl (by simpa using hj)
      simp [execOp, evalF, hp, go_sem, hc]
    · -- 8: slot 18 := Op.call   value (Operand.func 74), args := #[t15, t17], argTypes := #[25, 65]  
      refine obM_yes fun f bb w' hj hs hd hp => ?_
      simp [PreO, factO, valOf, Region.binds] at hp hd
      refine ⟨by simp [Gd, valOf, hp], ?_⟩
      obtain ⟨j1, j2, j3, j4, j5, j6, j7, j8, j9⟩ := hj
      have h9 : bb 9 = false := by cases hx : bb 9 with | false => rfl | true => rw [(j6 hx).1] at hs; cases hs
      have h10 : bb 10 = false := by cases hx : bb 10 with | false => rfl | true => rw [(j7 hx).1] at h9; cases h9
      have h12 : bb 12 = false := by cases hx : bb 12 with | false => rfl | true => rw [(j8 hx).2.1] at h10; cases h10
      have h5 : bb 5 = true := by first | exact hd.1 | exact hd.2.1 | exact hd.2 | exact hd
      obtain ⟨ho, hx⟩ := j4 h5 hs
      have ho' : Ow w' base (f 15) (b0 ++ vput (r.fr.toNat - next)) := by simpa [valOf] using ho
      have hx' : Ext w1 w' v0 (f 15) := by simpa [valOf] using hx
      have hB1 : base ≤ w'.heap.size := Nat.le_trans Hbase.out hx'.gr.size
      have hya : ByA w' B (.slice Aa r.arcs.length ca) r.arcs := Hya.out.below ((hx'.below Hbase.out (fun q hq => (Hown.out.blk q hq).1)).mono hB)
      refine mildM_call 74 _ _ Try.f74 Try.func74 (by kernel_rfl) (by kernel_rfl) rfl ?_
      refine calls_args (args' := #[f 15, .slice Aa r.arcs.length ca]) (by simp [evalF, hp]) ?_
      refine (gapsput_any w' base B (f 15) _ ho' (.slice Aa r.arcs.length ca) r.arcs (by omega) (by rw [List.length_append]; omega) hya hB hB1 Hgm.out).mono ?_
      rintro _ w9 ⟨v9, rfl, ho9, hx9⟩
      exact ⟨_, rfl, trivial, (j1.grown hx9.gr (fun e => by
        rcases hx'.at_ with h | h
        · exact Hne.out (by rw [← h]; exact e)
        · exact absurd (h _ e) (by have := HR.out.lt; omega))), by simp [h5], by simp [h5], by simp, fun _ => ⟨_, rfl, ho9, hx'.trans hx9⟩, by simp [h9], by simp [h10], by simp [h12], fun _ => by simpa using j9 h12⟩
    · -- 9: slot 9 := Op.move t18
      refine obM_yes fun f bb w' hj hs hd hp => ?_
      simp [PreO, factO, valOf, Region.binds] at hp hd
      refine ⟨by simp [Gd, valOf, hp], ?_⟩
      obtain ⟨j1, j2, j3, j4, j5, j6, j7, j8, j9⟩ := hj
      have h8 : bb 8 = true := by first | exact hd.1 | exact hd.2 | exact hd
      have h10 : bb 10 = false := by cases hx : bb 10 with | false => rfl | true => rw [(j7 hx).1] at hs; cases hs
      have h12 : bb 12 = false := by cases hx : bb 12 with | false => rfl | true => rw [(j8 hx).2.1] at h10; cases h10
      refine mildM_val (f 18) (w' := w') ?_ trivial ⟨j1, by simpa using j2, by simpa using j3, by simpa using j4, by simpa using j5, fun _ => ⟨by simpa using h8, rfl⟩, by simp [h10], by simp [h12], fun _ => by simpa using j9 h12⟩
      simp [execOp, evalF]
    · -- 10: slot 19 := Op.extract t9 0
      refine obM_yes fun f bb w' hj hs hd hp => ?_
      simp [PreO, factO, valOf, Region.binds] at hp hd
      refine ⟨by simp [Gd, valOf, hp], ?_⟩
      obtain ⟨j1, j2, j3, j4, j5, j6, j7, j8, j9⟩ := hj
      have h12 : bb 12 = false := by cases hx : bb 12 with | false => rfl | true => rw [(j8 hx).2.1] at hs; cases hs
      have h9 : bb 9 = true := by first | exact hd.1 | exact hd.2 | exact hd
      obtain ⟨h8, e9⟩ := j6 h9
      obtain ⟨v8, e8, ho8, hx8⟩ := j5 h8
      have e9' : f 9 = .tuple #[v8, .int .i64 0] := e9.trans e8
      refine mildM_val v8 (w' := w') ?_ trivial ⟨j1, by simpa using j2, by simpa using j3, by simpa using j4, by simpa using j5, by simpa using j6, fun _ => ⟨by simpa using h9, by simpa [dstVal] using e8⟩, by simp [h12], fun _ => by simpa using j9 h12⟩
      simp [execOp, evalF, e9', go_sem]
    · -- 11: slot 20 := Op.extract t9 1
      refine obM_yes fun f bb w' hj hs hd hp => ?_
      simp [PreO, factO, valOf, Region.binds] at hp hd
      refine ⟨by simp [Gd, valOf, hp], ?_⟩
      have h9 : bb 9 = true := by first | exact hd.1 | exact hd.2 | exact hd
      obtain ⟨h8, e9⟩ := hj.2.2.2.2.2.1 h9
      obtain ⟨v8, e8, _, _⟩ := hj.2.2.2.2.1 h8
      have e9' : f 9 = .tuple #[v8, .int .i64 0] := e9.trans e8
      refine mildM_val (.int .i64 0) (w' := w') ?_ rfl (by simpa using hj)
      simp [execOp, evalF, hp, go_sem, e9']
    · -- 12: slot 0 := Op.assign t19
      refine obM_yes fun f bb w' hj hs hd hp => ?_
      simp [PreO, factO, valOf, Region.binds] at hp hd
      refine ⟨by simp [Gd, valOf, hp], ?_⟩
      obtain ⟨j1, j2, j3, j4, j5, j6, j7, j8, j9⟩ := hj
      have h10 : bb 10 = true := by first | exact hd.1 | exact hd.2.1 | exact hd
      obtain ⟨h9, e10⟩ := j7 h10
      have h0 : bb 0 = true := by simp_all
      refine mildM_val (f 19) (w' := w') ?_ trivial ⟨j1, by simpa using j2, by simpa using j3, by simpa using j4, by simpa using j5, by simpa using j6, by simpa using j7, fun _ => ⟨by simpa using h0, by simpa using h10, rfl⟩, by simp⟩
      simp [execOp, evalF]
  · intro f bb wd hall hj hp
    simp only [PostO] at hp
    obtain ⟨e0, e1, e2, e3, e4, _, e6, e7, _, _, _, e11, _, _⟩ := hp
    simp only [fills, List.foldl_cons, List.foldl_nil, Act.put, List.setIfInBounds_toArray, List.set_cons_zero, List.set_cons_succ, e0, e1, e2, e3, e4, e6, e7, e11]
    clear e0 e1 e2 e3 e4 e6 e7 e11
    simp only [List.drop_succ_cons, List.drop_zero]
    obtain ⟨v8, e8, ho8, hx8⟩ : ∃ v8, f 18 = .tuple #[v8, .int .i64 0] ∧ Ow wd base v8 (b0 ++ vput (r.fr.toNat - next) ++ gput r.arcs) ∧ Ext w1 wd v0 v8 := hj.2.2.2.2.1 (by simp [hall])
    have e9 : f 9 = f 18 := (hj.2.2.2.2.2.1 (by simp [hall])).2
    have e10 : f 18 = .tuple #[f 19, .int .i64 0] := (hj.2.2.2.2.2.2.1 (by simp [hall])).2
    have e11 : f 19 = v8 := by rw [e8] at e10; injection e10 with e; injection e with e; injection e with e1 e2; exact e1.symm
    have e12 : f 0 = v8 := ((hj.2.2.2.2.2.2.2.1 (by simp [hall])).2.2 : f 0 = f 19).trans e11
    have hR := hj.1
    clear hj hall
    rw [e9, e11, e8, e12]
    clear e8 e9 e10 e11 e12
    generalize f 15 = v15 at *
    have Hx8 := Lib.hid (Hx01.out.trans hx8)
    have Ho8 := Lib.hid ho8
    have hs8 : base ≤ wd.heap.size := Nat.le_trans Hbase.out hx8.gr.size
    have Hya8 := Lib.hid (Hya.out.below ((hx8.below Hbase.out (fun q hq => (Hown.out.blk q hq).1)).mono hB))
    have hc1 := hR.cell 1 _ rfl
    clear hx8 ho8 hR
    have hpl : (b0 ++ vput (r.fr.toNat - next) ++ gput r.arcs).length ≤ 200000000 := by simp only [List.length_append]; omega
    obtain ⟨fin, hfin⟩ : ∃ fin, fin = b0 ++ row1 next r := ⟨_, rfl⟩
    have Hend := Lib.hid hfin
    have Hfin : Hid (b0 ++ vput (r.fr.toNat - next) ++ gput r.arcs ++ cput (btab r.arcs) = fin) := Lib.hid (by rw [hfin]; simp [row1])
    clear hfin
    generalize b0 ++ vput (r.fr.toNat - next) ++ gput r.arcs = pre at *
    obtain ⟨A8, c8', rfl, _, _, _⟩ := Ho8.out.form_
    clear hvl hgl hcl
    go_wp2_with fail
    refine (build_any wd B (.slice Aa r.arcs.length ca) r.arcs hl Hya8.out (Nat.le_trans hB hs8) Hnb.out).mono ?_
    rintro _ w5 ⟨v5, rfl, ho5, hb5⟩
    have Hx5 := Lib.hid (Hx8.out.then_ hb5)
    have Ho85 := Lib.hid (Ho8.out.below_ hb5)
    have hs5 : base ≤ w5.heap.size := Nat.le_trans hs8 hb5.size
    have ho5r := ho5.row.mono (O' := fun k => wd.heap.size ≤ k ∧ k < w5.heap.size) (S' := fun _ => True) (fun _ h => h) (fun _ h => h.elim)
    have ho5l : (btab r.arcs).length ≤ 1048576 := by omega
    obtain ⟨A5, c5, rfl, _, _, _⟩ := ho5.form'
    have Ho5r := Lib.hid ho5r
    have hblk : ∀ q, Value.ownBlock (.slice A8 pre.length c8') = some q → q < wd.heap.size := fun q hq => (Ho8.out.blk q hq).2
    have Hblk := Lib.hid hblk
    clear ho5r ho5 hb5 hc1 hblk
    go_wp2_with fail
    refine (aputT_any w5 base (fun k => wd.heap.size ≤ k ∧ k < w5.heap.size) _ _ Ho85.out _ (btab r.arcs) (by omega) (by omega) Ho5r.out (fun k hk => ⟨hk.2, fun e => by have := Hblk.out _ e; omega⟩) hs5).mono ?_
    rintro _ w6 ⟨v6, rfl, ho6, hx6⟩
    rw [Hfin.out] at ho6
    have Ho6 := Lib.hid ho6
    have Hx6 := Lib.hid (Hx5.out.trans hx6)
    clear ho6 hx6
    go_wp2_with fail
    go_ret
    rw [← Hend.out]
    exact ⟨_, rfl, Ho6.out, Hx6.out⟩

set_option maxRecDepth 100000 in
set_option maxHeartbeats 3200000 in
theorem whole_any (w : World) (v : Value) (l : List UInt8) (many : Nat) (hm : many ≤ 1048576) (hby : By w w.heap.size v l) (hl : l.length ≤ 1048500) :
    Calls Try.prog 39 #[.int .i64 (many : Int), v] w fun e w' => ∃ v', e = .returned (.tuple #[v', .int .i64 0]) ∧ Ow w' w.heap.size v' (frameOf 83 (vput many ++ l)) ∧ Below w.heap.size w w' := by
  obtain ⟨A, c, rfl, hc1, hc2, _⟩ := id hby
  unfold maxLen at hc2
  have Hby := Lib.hid hby
  have hvl := (vput_len64 many (by omega)).2
  have hcv : IntKind.u64.wrap (many : Int) = (many : Int) := by rw [wrap_u64]; omega
  clear hby
  go_enter Try.func39, Try.ntmps39
  go_wp2_with fail
  refine (vput_any w w.heap.size (.slice none 0 0) [] (Ow.nil_ _ _) many (by omega) (by simp) (Nat.le_refl _)).mono ?_
  rintro _ w2 ⟨v2, rfl, ho2, hx2⟩
  rw [List.nil_append] at ho2
  have Hb2 := Lib.hid (hx2.below (Nat.le_refl _) (by simp [Value.ownBlock]))
  have Ho2 := Lib.hid ho2
  clear ho2 hx2
  obtain ⟨vm, hvm⟩ : ∃ vm, vm = vput many := ⟨_, rfl⟩
  rw [← hvm] at hvl Ho2
  have Hvm := Lib.hid hvm
  clear hvm
  obtain ⟨A2, c2, rfl, _, _, _⟩ := Ho2.out.form_
  go_wp2_with (at_builtin
               refine wpList_app8 rfl (.tmp 11) (.tmp 12) rfl Ho2.out (Hby.out.below Hb2.out) rfl rfl (by omega) Hb2.out.size ?_
               intro v3 w3 ho3 hx3
               have Ho3 := Lib.hid ho3
               have Hb3 := Lib.hid (Hb2.out.trans (hx3.below Hb2.out.size fun q hq => (Ho2.out.blk q hq).1))
               clear ho3 hx3
               have hl3 : (vm ++ l).length ≤ 1048576 := by rw [List.length_append]; omega
               obtain ⟨body, hbody⟩ : ∃ body, body = vm ++ l := ⟨_, rfl⟩
               rw [← hbody] at Ho3 hl3
               have Hbody := Lib.hid hbody
               clear hbody
               obtain ⟨A3, c3, rfl, _, _, _⟩ := Ho3.out.form_)
  refine (fput_any w3 w3.heap.size (.slice none 0 0) [] (Ow.nil_ _ _) 83 (.slice A3 body.length c3) body Ho3.out.by_ hl3 (by simp) (Nat.le_refl _)).mono ?_
  rintro _ w4 ⟨v4, rfl, ho4, hx4⟩
  rw [List.nil_append] at ho4
  have Ho4 := Lib.hid (ho4.mono Hb3.out.size)
  have Hb4 := Lib.hid (Hb3.out.trans ((hx4.below (Nat.le_refl _) (by simp [Value.ownBlock])).mono Hb3.out.size))
  clear ho4 hx4
  obtain ⟨fr, hfr⟩ : ∃ fr, fr = frameOf 83 body := ⟨_, rfl⟩
  rw [← hfr] at Ho4
  have Hfr := Lib.hid hfr
  clear hfr
  obtain ⟨A4, c4, rfl, _, _, _⟩ := Ho4.out.form_
  go_wp2_with fail
  go_ret2
  have hend : frameOf 83 (vput many ++ l) = fr := by rw [Hfr.out, Hbody.out, Hvm.out]
  rw [hend]
  exact ⟨_, rfl, Ho4.out, Hb4.out⟩
end Go.Proofs.Ythfnikdapknohaa

namespace Go.Proofs.Ythfnikdapknohaa
set_option linter.unusedSimpArgs false
set_option linter.unusedVariables false
open Go.RowKit

/-- Put's error -/
def shE (l : List GRow) : Int := if l = [] then 1 else newE none l
theorem BoxAt.cellsB {T : TypeId} {w : World} {g : Nat} {cs : List Value} (h : BoxAt T w g cs) : ∀ (j : Nat) (v : Value), cs[j]? = some v → w.cell? ((⟨g, 0, none⟩ : Addr).add j) = some v := h.cells
set_option maxRecDepth 100000 in
set_option maxHeartbeats 3200000 in
theorem shput_any (w : World) (B : Nat) (v : Value) (l : List GRow) (hs : rsz l ≤ 20000) (h : ByRw w B v l) (hB : B ≤ w.heap.size) :
    Calls Try.prog 13 #[v] w fun e w' => ∃ v', e = .returned (.tuple #[v', .int .i64 (shE l)]) ∧ (shE l ≠ 0 → v' = .slice none 0 0) ∧ (shE l = 0 → Ow w' w.heap.size v' (senc l)) ∧ Below w.heap.size w w' := by
  obtain ⟨A, c, rfl, hc1, hc2⟩ := h.form
  unfold maxLen at hc2
  have hnew := gnew_any w B (.slice A l.length c) l (by omega) h hB
  by_cases hl0 : l = []
  · have hE : shE l = 1 := if_pos hl0
    rw [hE]
    subst hl0
    clear hnew
    go_enter Try.func13, Try.ntmps13
    go_wp2_with fail
    go_ret2
    exact ⟨_, rfl, fun _ => rfl, fun h => absurd h (by decide), Below.refl _ _⟩
  · have hE : shE l = newE none l := if_neg hl0
    rw [hE]
    have hlen : 0 < l.length := List.length_pos_iff.2 hl0
    have hd0 : ((l.length : Int) == 0) = false := beq_eq_false_iff_ne.2 (by omega)
    have hd1 : (l.length == 0) = false := beq_eq_false_iff_ne.2 (by omega)
    by_cases hn : newE none l = 0
    · rw [hn] at hnew ⊢
      have Hrw := Lib.hid (newE_row l · · hn)
      have Hn := Lib.hid hn
      have Hnew := Lib.hid hnew
      have H := Lib.hid h
      have Hsz := Lib.hid (rsz_at l)
      have hlz := rsz_len l
      have Hbl := Lib.hid (fun k => rowsB_len (l.take k) none 0 (newE_take l k hn) (by have := rsz_take l k; omega))
      have Htk := Lib.hid (rsz_take l)
      clear hn hnew h hE hl0
      go_enter Try.func13, Try.ntmps13
      go_wp2_with fail
      refine Hnew.out.mono ?_
      rintro _ w2 ⟨g2, rfl, hb2⟩
      have Hb2 := Lib.hid hb2
      clear hb2 Hnew
      go_wp2_with fail
      go_loopw [6, 7, 23] (fun b nx i wr => ∃ k : Nat, k ≤ l.length ∧ i = .int .i64 k ∧ nx = .int .u64 ((nxt 0 (l.take k) : Nat) : Int) ∧ Ow wr w.heap.size b (rowsB 0 (l.take k)) ∧ Below w.heap.size w wr) (fun _ _ i _ => l.length - (intOf i).toNat)
      case atStart => exact ⟨0, by omega, rfl, rfl, Ow.nil_ _ _, Hb2.out⟩
      case round =>
        obtain ⟨k, hk, rfl, rfl, hob, hbw⟩ := hrel
        have Hob := Lib.hid hob
        have Hbw := Lib.hid hbw
        have hszr := hbw.size
        clear hob hbw
        by_cases hlt : k < l.length
        · obtain ⟨ad, Aa, ca, rfl, hab, hcl, hya⟩ := (H.out.below (Hbw.out.mono hB)).row k hlt
          obtain ⟨hnb, hnx⟩ := Hrw.out k hlt
          have hal := Hsz.out k hlt
          have hbk := Hbl.out k
          have htk := Htk.out k
          have hsn : rowsB 0 (l.take (k + 1)) = rowsB 0 (l.take k) ++ row1 (nxt 0 (l.take k)) l[k] := by
            rw [List.take_add_one, List.getElem?_eq_getElem hlt]
            exact rowsB_snoc _ _ _
          have hns : nxt 0 (l.take (k + 1)) = (l[k]).fr.toNat + 1 := by
            rw [List.take_add_one, List.getElem?_eq_getElem hlt]
            exact nxt_snoc _ _ _
          have hfr := u32_lt (l[k]).fr
          have Hcl := Lib.hid hcl
          have Hnb := Lib.hid hnb
          have Hya := Lib.hid hya
          have Hsn := Lib.hid hsn
          have Hns := Lib.hid hns
          have hnl := nxt_le (l.take k)
          clear hcl hnb hya hsn hns
          generalize l[k] = r at *
          have hbl2 : (rowsB 0 (l.take k)).length ≤ 1000000 := by omega
          clear hbk htk
          generalize hnn : nxt 0 (l.take k) = nx at *
          generalize hpre : rowsB 0 (l.take k) = pre at *
          clear hnn hpre
          go_upto_region 11 with (first
            | (refine wpList_load_agg rfl 75 (.tmp 25) rfl (ad.add (k * 2)) rfl [.int .u32 (r.fr.toNat : Int), .slice Aa r.arcs.length ca] Hcl.out Try.underlying75 rfl infoRow2 ?_)
            | (refine wpList_alloc_z rfl 75 rfl infoRow [.int .u32 0, .slice none 0 0] rfl ?_)
            | (refine wpList_store_new rfl 75 (.tmp 9) (.tmp 26) rfl [.int .u32 0, .slice none 0 0] [.int .u32 (r.fr.toNat : Int), .slice Aa r.arcs.length ca] rfl rfl infoRow2 rfl (rowC_one _ _ _ _) ?_))
          have hbR := BoxAt.new_ 75 wr [.int .u32 (r.fr.toNat : Int), .slice Aa r.arcs.length ca]
          have hb5 := balloc wr (.cells #[.int .u32 (r.fr.toNat : Int), .slice Aa r.arcs.length ca] 75)
          have Hne : Hid (Value.ownBlock u6 ≠ some wr.heap.size) := Lib.hid (fun e => by have := (Hob.out.blk _ e).2; omega)
          have Hob5 := Lib.hid (Hob.out.below_ hb5)
          have Hbw5 := Lib.hid (Hbw.out.trans (hb5.mono hszr))
          have Hya5 := Lib.hid (Hya.out.below (hb5.mono (Nat.le_trans hB hszr)))
          have HbR := Lib.hid hbR
          have hs5 : w.heap.size ≤ (wr.alloc (.cells #[.int .u32 (r.fr.toNat : Int), .slice Aa r.arcs.length ca] 75)).heap.size := Nat.le_trans hszr hb5.size
          clear hbR hb5 Hob Hbw Hcl Hya
          generalize wr.alloc (.cells #[.int .u32 (r.fr.toNat : Int), .slice Aa r.arcs.length ca] 75) = w5 at *
          generalize hgr : wr.heap.size = gr at *
          clear hgr
          go_wp2_with (refine wpList_load_agg rfl 75 (.tmp 9) rfl ⟨gr, 0, none⟩ rfl [.int .u32 (r.fr.toNat : Int), .slice Aa r.arcs.length ca] HbR.out.cells Try.underlying75 rfl infoRow2 ?_)
          refine (shput1_any w5 w.heap.size B _ pre Hob5.out r Aa ca nx hnx Hnb.out (by omega) (by omega) Hya5.out hB hs5).mono ?_
          rintro _ w6 ⟨v6, rfl, ho6, hx6⟩
          have hR6 := HbR.out.grown hx6.gr Hne.out
          have Hb6 := Lib.hid (Hbw5.out.trans (hx6.below hs5 (fun q hq => (Hob5.out.blk q hq).1)))
          have Ho6 := Lib.hid ho6
          have hc0 := hR6.cell 0 _ rfl
          clear ho6 hx6 hR6
          have hcv : IntKind.u64.wrap (r.fr.toNat : Int) = (r.fr.toNat : Int) := by rw [wrap_u64]; omega
          have hcw : IntKind.u64.wrap ((r.fr.toNat : Int) + 1) = (r.fr.toNat : Int) + 1 := by rw [wrap_u64]; omega
          go_wp2_with fail
          go_roundw
          case rel => exact ⟨k + 1, by omega, by go_num, by rw [Hns.out]; go_num, by rw [Hsn.out]; exact Ho6.out, Hb6.out⟩
          case measure => simp [intOf]; omega
        · obtain rfl : k = l.length := by omega
          rw [List.take_length] at Hob
          have hbl := Hbl.out l.length
          rw [List.take_length] at hbl
          have hse : senc l = frameOf 83 (vput l.length ++ rowsB 0 l) := rfl
          have Hse := Lib.hid hse
          have hrl : (rowsB 0 l).length ≤ 1048500 := by omega
          clear hse hbl
          obtain ⟨rb, hrb⟩ : ∃ rb, rb = rowsB 0 l := ⟨_, rfl⟩
          rw [← hrb] at Hob Hse hrl
          clear hrb
          obtain ⟨Ab, cb, rfl, _, _, _⟩ := Hob.out.form_
          go_wp2_with fail
          refine (whole_any wr _ rb l.length (by omega) Hob.out.by_ hrl).mono ?_
          rintro _ w7 ⟨v7, rfl, ho7, hb7⟩
          have Ho7 := Lib.hid (ho7.mono hszr)
          have Hb7 := Lib.hid (Hbw.out.trans (hb7.mono hszr))
          clear ho7 hb7
          go_wp2_with fail
          go_ret2
          rw [Hse.out]
          exact ⟨_, rfl, fun h => absurd rfl h, fun _ => Ho7.out, Hb7.out⟩
    · have hne : (newE none l == 0) = false := by simpa using hn
      have hne' : (newE none l != 0) = true := by simpa using hn
      have Hn := Lib.hid hn
      have Hnew := Lib.hid hnew
      clear hn hnew hE hl0
      generalize newE none l = e at *
      go_enter Try.func13, Try.ntmps13
      go_wp2_with fail
      refine Hnew.out.mono ?_
      rintro _ w2 ⟨g2, rfl, hb2⟩
      have Hb2 := Lib.hid hb2
      clear hb2 Hnew
      go_wp2_with fail
      go_ret2
      exact ⟨_, rfl, fun _ => rfl, fun h => absurd h Hn.out, Hb2.out⟩
end Go.Proofs.Ythfnikdapknohaa

namespace Go.Proofs.Ythfnikdapknohaa
set_option linter.unusedSimpArgs false
set_option linter.unusedVariables false
open Go.RowKit

theorem stp_even' (x : UInt32) (h : ¬ (x.toNat : Int) % 2 = 1) : ((x.toNat : Int) / 2) = ((stp x).toNat : Int) := by
  have h2 : x.toNat % 2 = 0 := by omega
  rw [stp_even x h2]
  simp [UInt32.toNat_shiftRight, Nat.shiftRight_eq_div_pow]
theorem stp_odd' (x : UInt32) (h : (x.toNat : Int) % 2 = 1) : bits BinOp.xor IntKind.u32 ((x.toNat : Int) / 2) 3988292384 = ((stp x).toNat : Int) := by
  have := stp_walk x
  rw [h] at this
  simpa using this
theorem updB_run (x : UInt32) (l : List UInt8) : l.foldl updB x = run x l := by
  unfold run
  induction l generalizing x with
  | nil => rfl
  | cons c l ih => rw [List.foldl_cons, List.foldl_cons, ih, upd_bits]

set_option maxRecDepth 100000 in
set_option maxHeartbeats 800000 in
theorem rsum_any (w : World) (B : Nat) (v : Value) (l : List UInt8) (hby : By w B v l) :
    Calls Try.prog 95 #[v] w fun e w' => e = .returned (.int .u32 ((crcOf l).toNat : Int)) ∧ Below w.heap.size w w' := by
  obtain ⟨A, c, rfl, hc1, hc2, hrd⟩ := hby
  unfold maxLen at hc2
  go_enter Try.func95, Try.ntmps95
  go_wp2
  go_loop [3, 8] (fun x i => ∃ k : Nat, k ≤ l.length ∧ i = .int .i64 k ∧ x = .int .u32 ((run 4294967295 (l.take k)).toNat : Int)) (fun _ i => l.length - (intOf i).toNat)
  case atStart => exact ⟨0, by omega, rfl, rfl⟩
  case round =>
    obtain ⟨k, hk, rfl, rfl⟩ := hrel
    by_cases hlt : k < l.length
    · obtain ⟨ad, rfl, _, hcs⟩ := hrd.ad (by omega)
      have hcell := hcs k _ (b8s_get l k hlt)
      have hst : run 4294967295 (l.take (k + 1)) = stps 8 (run 4294967295 (l.take k) ^^^ (l[k]).toUInt32) := by
        rw [List.take_succ_eq_append_getElem hlt, run_snoc, upd_bits]; rfl
      have Hst := Lib.hid hst
      clear hcs hst
      generalize l[k] = b at *
      generalize run 4294967295 (l.take k) = x at *
      have hx : bits BinOp.xor IntKind.u32 (x.toNat : Int) (b.toNat : Int) = ((x ^^^ b.toUInt32).toNat : Int) := by
        rw [← xor_u32, ← wrap_u32_u8, IntKind.wrap_u32']
        have := u8_lt b
        congr 1; omega
      have hb := u8_lt b
      generalize x ^^^ b.toUInt32 = y at *
      go_wp2
      go_loop [3, 5] (fun x i => ∃ j : Nat, j ≤ 8 ∧ i = .int .i64 j ∧ x = .int .u32 ((stps j y).toNat : Int)) (fun _ i => 8 - (intOf i).toNat)
      case atStart => exact ⟨0, by omega, rfl, rfl⟩
      case round =>
        obtain ⟨j, hj, rfl, rfl⟩ := hrel
        by_cases hlt2 : j < 8
        · have hss := stps_succ j y
          have Hss := Lib.hid hss
          clear hss
          generalize stps j y = z at *
          have hzl := u32_lt z
          by_cases hodd : (z.toNat : Int) % 2 = 1
          · have h1 := stp_odd' z hodd
            have h2 : ((z.toNat : Int) % 2 == 1) = true := by simpa using hodd
            clear hodd
            go_wp2
            go_round
            case rel => exact ⟨j + 1, by omega, by go_num, by rw [Hss.out, ← h1]⟩
            case measure => simp [intOf]; omega
          · have h1 := stp_even' z hodd
            have h2 : ((z.toNat : Int) % 2 == 1) = false := by simpa using hodd
            clear hodd
            go_wp2
            go_round
            case rel => exact ⟨j + 1, by omega, by go_num, by rw [Hss.out, ← h1]⟩
            case measure => simp [intOf]; omega
        · obtain rfl : j = 8 := by omega
          go_wp2
          go_round
          case rel => exact ⟨k + 1, by omega, by go_num, by rw [Hst.out]⟩
          case measure => simp [intOf]; omega
    · obtain rfl : k = l.length := by omega
      have hfin : bits BinOp.xor IntKind.u32 ((run 4294967295 l).toNat : Int) 4294967295 = ((crcOf l).toNat : Int) := by
        have := xor_u32 (run 4294967295 l) 4294967295
        rw [show ((4294967295 : UInt32).toNat : Int) = 4294967295 from rfl] at this
        rw [this]
        show ((run 4294967295 l ^^^ (-1)).toNat : Int) = _
        rw [UInt32.xor_neg_one]; rfl
      rw [List.take_length]
      go_wp2
      go_ret
      refine ⟨?_, Below.refl _ _⟩
      rfl

set_option maxHeartbeats 400000 in
theorem rfour_any (w : World) (x : UInt32) :
    Calls Try.prog 84 #[.int .u32 (x.toNat : Int)] w fun e w' => ∃ v, e = .returned v ∧ Ow w' w.heap.size v (four x) ∧ Below w.heap.size w w' := by
  have h0 := fourAt0 x
  have h1 := fourAt1 x
  have h2 := fourAt2 x
  have h3 : (x.toNat : Int) / 16777216 = ((fourAt x 3).toNat : Int) := by
    rw [← fourAt3 x]; have := u32_lt x; omega
  have hn := Ow.new_ w (four x) (by simp [four_length, maxLen])
  have hb := balloc w (.cells (b8s (four x)).toArray 5)
  have hx := u32_lt x
  have g0 := u8_lt (fourAt x 0)
  have g1 := u8_lt (fourAt x 1)
  have g2 := u8_lt (fourAt x 2)
  have g3 := u8_lt (fourAt x 3)
  have hv : (b8s (four x)).toArray = #[.int .u8 ((fourAt x 0).toNat : Int), .int .u8 ((fourAt x 1).toNat : Int), .int .u8 ((fourAt x 2).toNat : Int), .int .u8 ((fourAt x 3).toNat : Int)] := rfl
  rw [hv] at hn hb
  clear hv
  generalize fourAt x 0 = b0 at *
  generalize fourAt x 1 = b1 at *
  generalize fourAt x 2 = b2 at *
  generalize fourAt x 3 = b3 at *
  go_enter Try.func84, Try.ntmps84
  go_wp2
  go_ret
  exact ⟨_, rfl, hn, hb⟩

set_option maxHeartbeats 400000 in
theorem rmark_any (w : World) (v : Value) (l : List UInt8) (hby : By w w.heap.size v l) (hsz : l.length ≤ 1099511627776) :
    Calls Try.prog 85 #[v] w fun e w' => ∃ v', e = .returned v' ∧ Ow w' w.heap.size v' (markOf l) ∧ Below w.heap.size w w' := by
  have hby0 := hby
  obtain ⟨A, c, rfl, hc1, hc2, hrd⟩ := hby
  go_enter Try.func85, Try.ntmps85
  go_wp2_with (first
    | (at_builtin
       refine wpList_app8 rfl (.tmp 4) (.tmp 5) rfl (Ow.new_ w [] (Nat.zero_le _)) (hby0.alloc (Nat.le_refl _) _) rfl rfl (by simp; omega) (by simp) ?_
       intro v1 w1 hown1 hext1
       have hb1 := (balloc w _).trans (hext1.below (by simp) (by simp [Value.ownBlock])))
    | (go_at_call 95; refine (rsum_any _ _ _ l (hby0.below hb1)).mono ?_; rintro e w2 ⟨rfl, hb2⟩)
    | (go_at_call 84; refine (rfour_any _ _).mono ?_; rintro e w3 ⟨v3, rfl, hown3, hb3⟩)
    | (at_builtin
       refine wpList_app8 rfl (.tmp 7) (.tmp 10) rfl ((hown1.below_ hb2).below_ hb3) hown3.by_ rfl rfl (by simp [four_length]; omega) (bstep hb1 (bstep hb2 hb3)).size ?_
       intro v4 w4 hown4 hext4))
  go_ret
  exact ⟨_, rfl, hown4, (bstep hb1 (bstep hb2 hb3)).trans (hext4.below (bstep hb1 (bstep hb2 hb3)).size fun k hk => (hown1.blk k hk).1)⟩
end Go.Proofs.Ythfnikdapknohaa

namespace Go.Proofs.Ythfnikdapknohaa
set_option linter.unusedSimpArgs false
set_option linter.unusedVariables false
open Go.RowKit

set_option maxRecDepth 100000 in
set_option maxHeartbeats 800000 in
theorem rfits_any (w : World) (v : Value) (l : List UInt8) (hby : By w w.heap.size v l) (hsz : l.length ≤ 1099511627776) :
    Calls Try.prog 86 #[v] w fun e w' => ∃ v', e = .returned (.tuple #[v', .int .i64 (fitsE l)]) ∧ Ow w' w.heap.size v' (fitsL l) ∧ Below w.heap.size w w' := by
  have hby0 := hby
  obtain ⟨A, c, rfl, hc1, hc2, hrd⟩ := hby
  unfold maxLen at hc2
  by_cases h4 : l.length < 4
  · have hE : fitsE l = 2 := by simp [fitsE, h4]
    have hL : fitsL l = [] := by
      have : fitsB l = false := by simp [fitsB]; omega
      simp [fitsL, this]
    rw [hE, hL]
    clear hE hL
    go_enter Try.func86, Try.ntmps86
    go_wp2_with fail
    go_ret2
    exact ⟨_, rfl, Ow.new_ w [] (Nat.zero_le _), balloc _ _⟩
  · have hown : By w w.heap.size (.slice A (l.length - 4) c) (l.take (l.length - 4)) := by
      refine ⟨A, c, by simp, by simp; omega, hc2, ?_⟩
      have := hrd.front (k := l.length - 4) (by omega)
      simpa [b8s, List.map_take] using this
    have hlt : (l.take (l.length - 4)).length = l.length - 4 := by simp
    have HE : Hid (fitsE l = if markOf (l.take (l.length - 4)) = l then 0 else 5) := by
      unfold Hid fitsE fitsB
      rw [if_neg h4]
      by_cases hm : markOf (l.take (l.length - 4)) = l
      · rw [if_pos (by simp [hm]; omega), if_pos hm]
      · rw [if_neg (by simp [hm]), if_neg hm]
    have HL : Hid (fitsL l = if markOf (l.take (l.length - 4)) = l then l.take (l.length - 4) else []) := by
      unfold Hid fitsL fitsB
      by_cases hm : markOf (l.take (l.length - 4)) = l
      · rw [if_pos (by simp [hm]; omega), if_pos hm]
      · rw [if_neg (by simp [hm]), if_neg hm]
    have Hlt := Lib.hid hlt
    clear hlt
    generalize fitsE l = E at *
    generalize fitsL l = L at *
    generalize l.take (l.length - 4) = l0 at *
    go_enter Try.func86, Try.ntmps86
    go_wp2_with (first
      | (at_builtin
         refine wpList_app8 rfl (.tmp 9) (.tmp 14) rfl (Ow.new_ w [] (Nat.zero_le _)) (hown.alloc (Nat.le_refl _) _) rfl rfl (by rw [Hlt.out]; simp; omega) (by simp) ?_
         intro v1 w1 hown1 hext1
         have hb1 := (balloc w _).trans (hext1.below (by simp) (by simp [Value.ownBlock]))))
    refine wp_region_typed [some 16, some 17, some 18, some 19, some 20, some 21] [16, 17, 18, 19, 20, 21] [Ph.is v1, Ph.by_ (markOf l0), Ph.is (.string (bst (markOf l0))), Ph.is (.slice A l.length c), Ph.is (.string (bst l)), Ph.is (.bool (!(decide (markOf l0 = l))))] rfl rfl (by kernel_rfl) (by kernel_rfl) ?_ ?_
    · have hc2 : ∀ w', Below w1.heap.size w1 w' → (convert 25 9 (.slice A l.length c)).run Try.prog w' = .ok (.string (bst l)) w' := fun w' hb => conv8 ((hby0.step hb1).below hb)
      have hq := bst_eq (markOf l0) l
      refine ⟨?_, ?_, ?_, ?_, ?_, ?_, trivial⟩
      all_goals
        refine ob_yes fun f w' hb hp => ?_
        simp [PreOf, factOf, valOf, Ph.is, Ph.by_, Region.binds] at hp
        refine ⟨by simp [Gd], ?_⟩
      · refine mild_val v1 ?_ ?_ <;> simp [execOp, evalF, Ph.is]
      · refine mild_call 85 _ _ Try.f85 Try.func85 (by kernel_rfl) (by kernel_rfl) rfl ?_
        simp [evalF, hp, Ph.by_]
        refine (rmark_any w' v1 l0 ?_ (by rw [Hlt.out]; omega)).mono ?_
        · exact hown1.by_.step hb
        · rintro e w2 ⟨v2, rfl, hown2, hb2⟩
          exact ⟨v2, rfl, hb2, hown2.by_⟩
      · refine mild_val (.string (bst (markOf l0))) ?_ rfl
        have hcc := conv8 hp
        simp [execOp, evalF, hcc]
      · refine mild_val (.slice A l.length c) ?_ ?_ <;> simp [execOp, evalF, Ph.is]
      · refine mild_val (.string (bst l)) ?_ rfl
        simp [execOp, evalF, hp, hc2 w' hb]
      · refine mild_val (.bool (!decide (markOf l0 = l))) ?_ rfl
        simp [execOp, evalF, hp, go_sem]
        exact hq
    · intro f w2 hb2 hp
      simp only [PostOf, Ph.is, Ph.by_] at hp
      obtain ⟨h16, h17, h18, h19, h20, h21, _⟩ := hp
      simp only [fills, List.foldl_cons, List.foldl_nil, Act.put, List.setIfInBounds_toArray, List.set_cons_zero, List.set_cons_succ, h16, h18, h19, h20, h21]
      clear h16 h17 h18 h19 h20 h21
      generalize f 17 = v17
      have hb02 := bstep hb1 hb2
      by_cases hm : markOf l0 = l
      · rw [decide_eq_true hm]
        have Hm := Lib.hid hm
        clear hm
        go_wp2_with fail
        go_ret2
        refine ⟨v1, by rw [HE.out, if_pos Hm.out]; rfl, ?_, hb02⟩
        rw [HL.out, if_pos Hm.out]
        exact hown1.below_ hb2
      · rw [decide_eq_false hm]
        have Hm := Lib.hid hm
        clear hm
        go_wp2_with fail
        go_ret2
        refine ⟨_, by rw [HE.out, if_neg Hm.out]; rfl, ?_, hb02.trans ((balloc w2 _).mono hb02.size)⟩
        rw [HL.out, if_neg Hm.out]
        exact (Ow.new_ w2 [] (Nat.zero_le _)).mono hb02.size
end Go.Proofs.Ythfnikdapknohaa

namespace Go.Proofs.Ythfnikdapknohaa
set_option linter.unusedSimpArgs false
set_option linter.unusedVariables false
open Go.RowKit

/-- a row of the function's own -/
def Ph.ow (base : Nat) (l : List UInt8) : Ph := ⟨fun v w => Ow w base v l, fun _ _ _ h hb => h.below_ hb⟩

set_option maxRecDepth 100000 in
set_option maxHeartbeats 1600000 in
theorem rfput_any (w : World) (k : UInt8) (v : Value) (l : List UInt8) (hby : By w w.heap.size v l) (hsz : l.length ≤ 1048577) :
    Calls Try.prog 52 #[.agg #[.int .u8 (k.toNat : Int), v]] w fun e w' => ∃ v', e = .returned v' ∧ Ow w' w.heap.size v' (frameOf k l) ∧ Below w.heap.size w w' := by
  have hby0 := hby
  obtain ⟨A, c, rfl, hc1, hc2, hrd⟩ := hby
  unfold maxLen at hc2
  have hwl : IntKind.u32.wrap (l.length : Int) = ((UInt32.ofNat l.length).toNat : Int) := by rw [IntKind.wrap_u32', UInt32.toNat_ofNat']; omega
  have HF : Hid (frameOf k l = markOf ([k] ++ four (UInt32.ofNat l.length)) ++ markOf l) := by unfold Hid; rfl
  have hf4 : ∀ x, (four x).length = 4 := fun _ => rfl
  generalize UInt32.ofNat l.length = n32 at *
  go_enter Try.func52, Try.ntmps52
  go_wp2_with fail
  have hbx : SecAt (w.alloc (.cells #[.int .u8 (k.toNat : Int), .slice A l.length c] 87)) w.heap.size (.int .u8 (k.toNat : Int)) (.slice A l.length c) := SecAt.new_ _ _ _
  have hb0 := balloc w (.cells #[.int .u8 (k.toNat : Int), .slice A l.length c] 87)
  have hWs : (w.alloc (.cells #[.int .u8 (k.toNat : Int), .slice A l.length c] 87)).heap.size = w.heap.size + 1 := by simp
  generalize w.alloc (.cells #[.int .u8 (k.toNat : Int), .slice A l.length c] 87) = W at *
  refine wp_region_tail (ds := [4, 5, 6, 7, 8, 9, 10, 11]) 8 [some 4, some 5, some 6, some 7, some 8, some 9, some 10, some 11]
    [Ph.is (.pointer (some { block := w.heap.size, off := 0 })),
      Ph.is (.int .u8 (k.toNat : Int)),
      Ph.ow (w.heap.size + 1) [k],
      Ph.is (.pointer (some { block := w.heap.size, off := 1 })),
      Ph.is (.slice A l.length c),
      Ph.is (.int .i64 (l.length : Int)),
      Ph.is (.int .u32 (n32.toNat : Int)),
      Ph.by_ (four n32)] rfl rfl (by kernel_rfl) (by kernel_rfl) (by kernel_rfl) ?_ ?_
  · refine ⟨?_, ?_, ?_, ?_, ?_, ?_, ?_, ?_, trivial⟩
    · -- 0: slot 4 := Op.fieldAddr 46 t1 0
      refine ob_yes fun f w' hb hp => ?_
      simp [PreOf, factOf, valOf, Ph.is, Ph.by_, Ph.any, Region.binds, Ph.ow] at hp
      refine ⟨by simp [Gd, valOf, hp], ?_⟩
      refine mild_val (.pointer (some { block := w.heap.size, off := 0 })) ?_ rfl
      simp [execOp, evalF, hp, go_sem]
    · -- 1: slot 5 := Op.load 5 t4
      refine ob_yes fun f w' hb hp => ?_
      simp [PreOf, factOf, valOf, Ph.is, Ph.by_, Ph.any, Region.binds, Ph.ow] at hp
      refine ⟨by simp [Gd, valOf, hp], ?_⟩
      refine mild_val (.int .u8 (k.toNat : Int)) ?_ rfl
      have hc := (hbx.below hbx.lt hb).cell0
      simp [execOp, evalF, hp, hc, go_sem]
    · -- 2: slot 6 := Op.buildSlice 22 1 #[(0, t5)]
      refine ob_yes fun f w' hb hp => ?_
      simp [PreOf, factOf, valOf, Ph.is, Ph.by_, Ph.any, Region.binds, Ph.ow] at hp
      refine ⟨by simp [Gd, valOf, hp], ?_⟩
      refine mild_alloc (.slice (some ⟨w'.heap.size, 0, none⟩) 1 1) (.cells (b8s [k]).toArray 5) ?_ ((Ow.new_ w' [k] (by simp [maxLen])).mono (hWs ▸ hb.size))
      simp [execOp, evalF, hp, go_sem, b8s, b8]
    · -- 3: slot 7 := Op.fieldAddr 46 t1 1
      refine ob_yes fun f w' hb hp => ?_
      simp [PreOf, factOf, valOf, Ph.is, Ph.by_, Ph.any, Region.binds, Ph.ow] at hp
      refine ⟨by simp [Gd, valOf, hp], ?_⟩
      refine mild_val (.pointer (some { block := w.heap.size, off := 1 })) ?_ rfl
      simp [execOp, evalF, hp, go_sem]
    · -- 4: slot 8 := Op.load 22 t7
      refine ob_yes fun f w' hb hp => ?_
      simp [PreOf, factOf, valOf, Ph.is, Ph.by_, Ph.any, Region.binds, Ph.ow] at hp
      refine ⟨by simp [Gd, valOf, hp], ?_⟩
      refine mild_val (.slice A l.length c) ?_ rfl
      have hc := (hbx.below hbx.lt hb).cell1
      simp [execOp, evalF, hp, hc, go_sem]
    · -- 5: slot 9 := Op.call   builtin len, args := #[t8], argTypes := #[22]  
      refine ob_yes fun f w' hb hp => ?_
      simp [PreOf, factOf, valOf, Ph.is, Ph.by_, Ph.any, Region.binds, Ph.ow] at hp
      refine ⟨by simp [Gd, valOf, hp], ?_⟩
      refine mild_val (.int .i64 (l.length : Int)) ?_ rfl
      simp [execOp, evalF, hp, go_sem]
    · -- 6: slot 10 := Op.convert 3 24 t9
      refine ob_yes fun f w' hb hp => ?_
      simp [PreOf, factOf, valOf, Ph.is, Ph.by_, Ph.any, Region.binds, Ph.ow] at hp
      refine ⟨by simp [Gd, valOf, hp], ?_⟩
      refine mild_val (.int .u32 (n32.toNat : Int)) ?_ rfl
      simp [execOp, evalF, hp, go_sem, hwl]
    · -- 7: slot 11 := Op.call   value (Operand.func 32), args := #[t10], argTypes := #[24]  
      refine ob_yes fun f w' hb hp => ?_
      simp [PreOf, factOf, valOf, Ph.is, Ph.by_, Ph.any, Region.binds, Ph.ow] at hp
      refine ⟨by simp [Gd, valOf, hp], ?_⟩
      refine mild_call 84 _ _ Try.f84 Try.func84 (by kernel_rfl) (by kernel_rfl) rfl ?_
      simp [evalF, hp, Ph.is, Ph.by_, Ph.any, Ph.ow]
      exact (rfour_any w' n32).mono fun e w2 ⟨v, h1, h2, h3⟩ => ⟨v, h1, h3, h2.by_⟩
  · intro f w2 hb2 hp
    simp only [PostOf, Ph.is, Ph.by_, Ph.any, Ph.ow] at hp
    obtain ⟨h0, h1, h2, h3, h4, h5, h6, h7, _⟩ := hp
    simp only [fills, List.foldl_cons, List.foldl_nil, Act.put, List.setIfInBounds_toArray, List.set_cons_zero, List.set_cons_succ, h0, h1, h3, h4, h5, h6]
    clear h0 h1 h3 h4 h5 h6
    generalize f 6 = v6 at *
    generalize f 11 = v11 at *
    simp only [List.drop_succ_cons, List.drop_zero]
    have hb02 := bstep hb0 hb2
    refine wpList_app8 rfl (.tmp 6) (.tmp 11) rfl h2 h7 rfl rfl (by simp [hf4]) (hWs ▸ hb2.size) ?_
    intro v3 w3 hown3 hext3
    have hb03 : Below w.heap.size w w3 := hb02.trans (hext3.below hb02.size fun k hk => Nat.le_of_succ_le (h2.blk k hk).1)
    have hbx2 : SecAt w3 w.heap.size (.int .u8 (k.toNat : Int)) (.slice A l.length c) := by
      have h9 := hbx.below hbx.lt hb2
      refine (hext3.gr.block w.heap.size h9.lt (fun e => absurd (h2.blk _ e.symm).1 (by omega))).trans h9
    have hby2 := hby0.step hb03
    have hhd : ([k] ++ four n32).length = 5 := rfl
    generalize [k] ++ four n32 = hd at *
    have hv3 : By w3 w3.heap.size v3 hd := hown3.by_
    have hs2 := hb03.size
    clear h2 h7 hext3 hown3 hbx hb0 hb2 hb02 hWs
    have hml1 := markOf_length hd
    have hml2 := markOf_length l
    go_wp2_with fail
    refine wp_region_tail (ds := [13, 14, 15, 16, 17]) 5 [some 13, some 14, some 15, some 16, some 17]
      [Ph.by_ hd,
        Ph.ow w.heap.size (markOf hd),
        Ph.is (.pointer (some { block := w.heap.size, off := 1 })),
        Ph.is (.slice A l.length c),
        Ph.by_ (markOf l)] rfl rfl (by kernel_rfl) (by kernel_rfl) (by kernel_rfl) ?_ ?_
    · refine ⟨?_, ?_, ?_, ?_, ?_, trivial⟩
      · -- 0: slot 13 := Op.move t3
        refine ob_yes fun f w' hb hp => ?_
        simp [PreOf, factOf, valOf, Ph.is, Ph.by_, Ph.any, Region.binds, Ph.ow] at hp
        refine ⟨by simp [Gd, valOf, hp], ?_⟩
        exact mild_val _ rfl (hv3.step hb)
      · -- 1: slot 14 := Op.call   value (Operand.func 20), args := #[t13], argTypes := #[22]  
        refine ob_yes fun f w' hb hp => ?_
        simp [PreOf, factOf, valOf, Ph.is, Ph.by_, Ph.any, Region.binds, Ph.ow] at hp
        refine ⟨by simp [Gd, valOf, hp], ?_⟩
        refine mild_call 85 _ _ Try.f85 Try.func85 (by kernel_rfl) (by kernel_rfl) rfl ?_
        simp [evalF, hp, Ph.is, Ph.by_, Ph.any, Ph.ow]
        exact (rmark_any w' _ hd hp (by omega)).mono fun e w4 ⟨v, h1, h2, h3⟩ => ⟨v, h1, h3, h2.mono (Nat.le_trans hs2 hb.size)⟩
      · -- 2: slot 15 := Op.fieldAddr 46 t1 1
        refine ob_yes fun f w' hb hp => ?_
        simp [PreOf, factOf, valOf, Ph.is, Ph.by_, Ph.any, Region.binds, Ph.ow] at hp
        refine ⟨by simp [Gd, valOf, hp], ?_⟩
        refine mild_val (.pointer (some { block := w.heap.size, off := 1 })) ?_ rfl
        simp [execOp, evalF, hp, go_sem]
      · -- 3: slot 16 := Op.load 22 t15
        refine ob_yes fun f w' hb hp => ?_
        simp [PreOf, factOf, valOf, Ph.is, Ph.by_, Ph.any, Region.binds, Ph.ow] at hp
        refine ⟨by simp [Gd, valOf, hp], ?_⟩
        refine mild_val (.slice A l.length c) ?_ rfl
        have hc := (hbx2.below hbx2.lt hb).cell1
        simp [execOp, evalF, hp, hc, go_sem]
      · -- 4: slot 17 := Op.call   value (Operand.func 20), args := #[t16], argTypes := #[22]  
        refine ob_yes fun f w' hb hp => ?_
        simp [PreOf, factOf, valOf, Ph.is, Ph.by_, Ph.any, Region.binds, Ph.ow] at hp
        refine ⟨by simp [Gd, valOf, hp], ?_⟩
        refine mild_call 85 _ _ Try.f85 Try.func85 (by kernel_rfl) (by kernel_rfl) rfl ?_
        simp [evalF, hp, Ph.is, Ph.by_, Ph.any, Ph.ow]
        exact (rmark_any w' _ l ((hby2.step hb)) (by omega)).mono fun e w4 ⟨v, h1, h2, h3⟩ => ⟨v, h1, h3, h2.by_⟩
    · intro f w4 hb4 hp
      simp only [PostOf, Ph.is, Ph.by_, Ph.any, Ph.ow] at hp
      obtain ⟨h0, h1, h2, h3, h4, _⟩ := hp
      simp only [fills, List.foldl_cons, List.foldl_nil, Act.put, List.setIfInBounds_toArray, List.set_cons_zero, List.set_cons_succ, h2, h3]
      clear h2 h3
      generalize f 13 = v13 at *
      generalize f 14 = v14 at *
      generalize f 17 = v17 at *
      simp only [List.drop_succ_cons, List.drop_zero]
      have hb04 := bstep hb03 hb4
      refine wpList_app8 rfl (.tmp 14) (.tmp 17) rfl h1 h4 rfl rfl (by omega) hb04.size ?_
      intro v5 w5 hown5 hext5
      have hb05 : Below w.heap.size w w5 := hb04.trans (hext5.below hb04.size fun k hk => (h1.blk k hk).1)
      go_wp2_with fail
      go_ret
      exact ⟨_, rfl, HF.out ▸ hown5, hb05⟩

set_option maxRecDepth 100000 in
set_option maxHeartbeats 1600000 in
theorem rfget_any (w : World) (v : Value) (l : List UInt8) (hby : By w w.heap.size v l) (hsz : l.length ≤ 1099511627776) :
    Calls Try.prog 53 #[v] w fun e w' => ∃ v', e = .returned (.tuple #[.agg #[.int .u8 ((sK l).toNat : Int), v'], .int .i64 ((sN l : Nat) : Int), .int .i64 (sE l)]) ∧ Ow w' w.heap.size v' (sL l) ∧ Below w.heap.size w w' := by
  have hby0 := hby
  obtain ⟨A, c, rfl, hc1, hc2, hrd⟩ := hby
  unfold maxLen at hc2
  have hN1 : SecAt ((w.alloc (.cells #[.int .u8 0, .slice none 0 0] 87)).alloc (.cells #[.int .u8 0, .slice none 0 0] 87)) (w.heap.size + 1) (.int .u8 0) (.slice none 0 0) := by simpa using SecAt.new_ (w.alloc (.cells #[.int .u8 0, .slice none 0 0] 87)) (.int .u8 0) (.slice none 0 0)
  obtain ⟨W0, hW0, hR, hN0, hb0⟩ : ∃ W0, ((w.alloc (.cells #[.int .u8 0, .slice none 0 0] 87)).alloc (.cells #[.int .u8 0, .slice none 0 0] 87)).setRow (w.heap.size + 1) #[.int .u8 0, .slice none 0 0] = W0 ∧ SecAt W0 w.heap.size (.int .u8 0) (.slice none 0 0) ∧ SecAt W0 (w.heap.size + 1) (.int .u8 0) (.slice none 0 0) ∧ Below w.heap.size w W0 :=
    ⟨_, rfl, ((SecAt.new_ w _ _).alloc (by simp) _).other _ (by omega) _, hN1.put _ _, bsetRow (bstep (balloc _ _) (balloc _ _)) (by omega) _⟩
  have hE : sE l = if l.length < 9 then 2 else if fitsB (l.take 9) = false then 5 else if 1048576 < sLen l then 4 else if l.length < sLen l + 13 then 2 else if fitsB ((l.drop 9).take (sLen l + 4)) then 0 else 5 := rfl
  have hN : sN l = if sE l = 0 then sLen l + 13 else 0 := rfl
  have hL : sL l = if sE l = 0 then (l.drop 9).take (sLen l) else [] := rfl
  have hK : sK l = if sE l = 0 then l.getD 0 0 else 0 := rfl
  have HE := Lib.hid hE
  have HN := Lib.hid hN
  have HL := Lib.hid hL
  have HK := Lib.hid hK
  clear hE hN hL hK
  generalize sE l = E at *
  generalize sN l = N at *
  generalize sL l = L at *
  generalize sK l = K0 at *
  by_cases h9 : l.length < 9
  · skip
    have e1 : E = 2 := by rw [HE.out, if_pos h9]
    have e2 : N = 0 := by rw [HN.out, e1]; rfl
    have e3 : L = [] := by rw [HL.out, e1]; rfl
    have e4 : K0 = 0 := by rw [HK.out, e1]; rfl
    subst e1
    subst e2
    subst e3
    subst e4
    clear HE HN HL HK
    go_enter Try.func53, Try.ntmps53
    go_wp2_with (first
      | (refine wpList_store_sec rfl (.tmp 5) _ rfl (w.heap.size + 1) _ _ (.int .u8 0) (.slice none 0 0) rfl rfl hN1 rfl rfl ?_
         rw [hW0]
         intro _)
      | (refine wpList_load_sec rfl (.tmp 5) rfl (w.heap.size + 1) _ _ rfl hN0 ?_)
      | (refine wpList_store_sec rfl (.tmp 2) _ rfl w.heap.size _ _ (.int .u8 0) (.slice none 0 0) rfl rfl hR rfl rfl ?_
         intro hs9))
    refine bodyPost_ret (results_sec rfl _ _ _ _ _ rfl hs9) rfl ?_
    exact ⟨_, rfl, Ow.nil_ _ _, bsetRow hb0 (Nat.le_refl _) _⟩
  · have hcut : By w w.heap.size (.slice A 9 c) (l.take 9) := hby0.front_ (by omega)
    have ht9 : (l.take 9).length = 9 := by simp; omega
    rw [if_neg h9] at HE
    cases hf : fitsB (l.take 9) with
    | false =>
      have hE9 : fitsE (l.take 9) = 5 := by unfold fitsE; rw [hf, ht9]; rfl
      have hL9 : fitsL (l.take 9) = [] := by unfold fitsL; rw [hf]; rfl
      have e1 : E = 5 := by rw [HE.out, if_pos hf]
      have e2 : N = 0 := by rw [HN.out, e1]; rfl
      have e3 : L = [] := by rw [HL.out, e1]; rfl
      have e4 : K0 = 0 := by rw [HK.out, e1]; rfl
      subst e1
      subst e2
      subst e3
      subst e4
      clear HE HN HL HK
      clear hrd
      generalize l.take 9 = t9 at *
      go_enter Try.func53, Try.ntmps53
      go_wp2_with (first
        | (refine wpList_store_sec rfl (.tmp 5) _ rfl (w.heap.size + 1) _ _ (.int .u8 0) (.slice none 0 0) rfl rfl hN1 rfl rfl ?_
           rw [hW0]
           intro _))
      refine (rfits_any _ _ t9 (hcut.step hb0) (by omega)).mono ?_
      rw [hE9, hL9]
      rintro e w1 ⟨v1, rfl, hown1, hb1⟩
      have hb01 := bstep hb0 hb1
      have hR1 := hR.below hR.lt hb1
      have hN2 := hN0.below hN0.lt hb1
      go_wp2_with (first
        | (refine wpList_load_sec rfl (.tmp 5) rfl (w.heap.size + 1) _ _ rfl hN2 ?_)
        | (refine wpList_store_sec rfl (.tmp 2) _ rfl w.heap.size _ _ (.int .u8 0) (.slice none 0 0) rfl rfl hR1 rfl rfl ?_
           intro hs9))
      refine bodyPost_ret (results_sec rfl _ _ _ _ _ rfl hs9) rfl ?_
      exact ⟨_, rfl, Ow.nil_ _ _, bsetRow hb01 (Nat.le_refl _) _⟩
    | true =>
      obtain ⟨ad, rfl, _, _⟩ := hrd.ad (by omega)
      have hL9 : fitsL (l.take 9) = l.take 5 := by unfold fitsL; rw [hf, ht9]; simp [List.take_take]
      have hE9 : fitsE (l.take 9) = 0 := by unfold fitsE; rw [hf, ht9]; rfl
      have hle : sLen l = (l.getD 1 0).toNat + 256 * (l.getD 2 0).toNat + 65536 * (l.getD 3 0).toNat + 16777216 * (l.getD 4 0).toNat := rfl
      have hlt := sLen_lt l
      rw [if_neg (show ¬ fitsB (l.take 9) = false by rw [hf]; simp)] at HE
      have hlen5 : (l.take 5).length = 5 := by simp; omega
      have hg : ∀ i, i < 5 → (l.take 5)[i]? = some (l.getD i 0) := by
        intro i hi
        rw [List.getElem?_take, if_pos hi]
        exact getD_get8 l i (by omega)
      have hcut2 : ∀ k, k ≤ l.length - 9 → By w w.heap.size (.slice (if c = 9 then some ad else some { block := ad.block, off := ad.off + 9 }) k (c - 9)) ((l.drop 9).take k) := fun k hk =>
        (hby0.back_ (k := 9) (by omega)).front_ (by simp; omega)
      have Hg := Lib.hid hg
      have Hle := Lib.hid hle
      have Hcut2 := Lib.hid hcut2
      clear hg hle hcut2 hrd
      generalize l.take 9 = t9 at *
      generalize l.take 5 = t5 at *
      go_enter Try.func53, Try.ntmps53
      go_wp2_with (first
        | (refine wpList_store_sec rfl (.tmp 5) _ rfl (w.heap.size + 1) _ _ (.int .u8 0) (.slice none 0 0) rfl rfl hN1 rfl rfl ?_
           rw [hW0]
           intro _))
      refine (rfits_any _ _ t9 (hcut.step hb0) (by omega)).mono ?_
      rw [hE9, hL9]
      rintro e w1 ⟨v1, rfl, hown1, hb1⟩
      have hb01 := bstep hb0 hb1
      have hR1 := hR.below hR.lt hb1
      have hN2 := hN0.below hN0.lt hb1
      have hW0s := hN0.lt
      obtain ⟨A1, c1, rfl, hd1, hd2, hf1⟩ := hown1.form_
      obtain ⟨g1, rfl, hg1, hg2⟩ := hf1 (by omega)
      have hx0 := hown1.cell_ rfl 0 _ (Hg.out 0 (by omega))
      have hx1 := hown1.cell_ rfl 1 _ (Hg.out 1 (by omega))
      have hx2 := hown1.cell_ rfl 2 _ (Hg.out 2 (by omega))
      have hx3 := hown1.cell_ rfl 3 _ (Hg.out 3 (by omega))
      have hx4 := hown1.cell_ rfl 4 _ (Hg.out 4 (by omega))
      rw [hlen5] at hd1 hown1
      unfold maxLen at hd2
      have Hle2 : Hid (sLen l = (l.getD 1 0).toNat + 256 * (l.getD 2 0).toNat + 65536 * (l.getD 3 0).toNat + 16777216 * (l.getD 4 0).toNat) := Hle
      clear Hle
      generalize l.getD 0 0 = x0 at *
      generalize l.getD 1 0 = x1 at *
      generalize l.getD 2 0 = x2 at *
      generalize l.getD 3 0 = x3 at *
      generalize l.getD 4 0 = x4 at *
      have b1 := u8_lt x1
      have b2 := u8_lt x2
      have b3 := u8_lt x3
      have b4 := u8_lt x4
      rw [hlen5]
      have hR2 := hR1
      have hN3 := hN2
      clear hW0 hN1
      go_wp2_with fail
      go_quiet (fail)
      have hn : (x1.toNat : Int) + 256 * (x2.toNat : Int) + 65536 * (x3.toNat : Int) + 16777216 * (x4.toNat : Int) = (sLen l : Int) := by rw [Hle2.out]; omega
      rw [hn]
      clear hx1 hx2 hx3 hx4 hn
      generalize sLen l = n at *
      have hR3 : SecAt (w1.drewN nq) w.heap.size (.int .u8 0) (.slice none 0 0) := hR2
      have hN4 : SecAt (w1.drewN nq) (w.heap.size + 1) (.int .u8 0) (.slice none 0 0) := hN3
      have hb2 : Below w.heap.size w (w1.drewN nq) := bdrewN hb01 nq
      have hx2 : (w1.drewN nq).cell? { block := g1, off := 0 } = some (.int .u8 (x0.toNat : Int)) := hx0
      have hown2 : Ow (w1.drewN nq) W0.heap.size (.slice (some ⟨g1, 0, none⟩) 5 c1) t5 := hown1
      clear hR1 hR2 hN2 hN3 hb01 hx0 hb1 hown1
      generalize w1.drewN nq = W at *
      by_cases hbig : 1048576 < n
      · skip
        have e1 : E = 4 := by rw [HE.out, if_pos hbig]
        have e2 : N = 0 := by rw [HN.out, e1]; rfl
        have e3 : L = [] := by rw [HL.out, e1]; rfl
        have e4 : K0 = 0 := by rw [HK.out, e1]; rfl
        subst e1
        subst e2
        subst e3
        subst e4
        clear HE HN HL HK
        clear Hcut2 Hle2
        go_wp2_with (first
          | (refine wpList_load_sec rfl (.tmp 5) rfl (w.heap.size + 1) _ _ rfl hN4 ?_)
          | (refine wpList_store_sec rfl (.tmp 2) _ rfl w.heap.size _ _ (.int .u8 0) (.slice none 0 0) rfl rfl hR3 rfl rfl ?_
             intro hs9))
        refine bodyPost_ret (results_sec rfl _ _ _ _ _ rfl hs9) rfl ?_
        exact ⟨_, rfl, Ow.nil_ _ _, bsetRow hb2 (Nat.le_refl _) _⟩
      · by_cases hsh : l.length < n + 13
        · skip
          have e1 : E = 2 := by rw [HE.out, if_neg hbig, if_pos hsh]
          have e2 : N = 0 := by rw [HN.out, e1]; rfl
          have e3 : L = [] := by rw [HL.out, e1]; rfl
          have e4 : K0 = 0 := by rw [HK.out, e1]; rfl
          subst e1
          subst e2
          subst e3
          subst e4
          clear HE HN HL HK
          clear Hcut2 Hle2
          go_wp2_with (first
            | (refine wpList_load_sec rfl (.tmp 5) rfl (w.heap.size + 1) _ _ rfl hN4 ?_)
            | (refine wpList_store_sec rfl (.tmp 2) _ rfl w.heap.size _ _ (.int .u8 0) (.slice none 0 0) rfl rfl hR3 rfl rfl ?_
               intro hs9))
          refine bodyPost_ret (results_sec rfl _ _ _ _ _ rfl hs9) rfl ?_
          exact ⟨_, rfl, Ow.nil_ _ _, bsetRow hb2 (Nat.le_refl _) _⟩
        · have hc3 := Hcut2.out (n + 4) (by omega)
          have hlen3 : ((l.drop 9).take (n + 4)).length = n + 4 := by simp; omega
          have htk : ((l.drop 9).take (n + 4)).take (((l.drop 9).take (n + 4)).length - 4) = (l.drop 9).take n := by
            rw [hlen3, List.take_take]; congr 1; omega
          have hc9 : ¬ c = 9 := by omega
          rw [if_neg hc9] at hc3
          have HtL : Hid (fitsL ((l.drop 9).take (n + 4)) = if fitsB ((l.drop 9).take (n + 4)) then (l.drop 9).take n else []) := by
            unfold Hid fitsL; rw [htk]
          have HtE : Hid (fitsE ((l.drop 9).take (n + 4)) = if fitsB ((l.drop 9).take (n + 4)) then 0 else 5) := by
            unfold Hid fitsE; rw [if_neg (by omega)]
          clear htk Hcut2 Hle2
          rw [if_neg hbig, if_neg hsh] at HE
          generalize (l.drop 9).take (n + 4) = tn at *
          generalize (l.drop 9).take n = own at *
          go_wp2_with fail
          rw [show n + 13 - 9 = n + 4 from by omega]
          refine (rfits_any _ _ tn (hc3.step hb2) (by omega)).mono ?_
          rw [HtE.out, HtL.out]
          cases hfb : fitsB tn with
          | false =>
            rw [hfb] at HE
            have e1 : E = 5 := by rw [HE.out, if_neg (by simp)]
            have e2 : N = 0 := by rw [HN.out, e1]; rfl
            have e3 : L = [] := by rw [HL.out, e1]; rfl
            have e4 : K0 = 0 := by rw [HK.out, e1]; rfl
            subst e1
            subst e2
            subst e3
            subst e4
            clear HE HN HL HK
            clear HtE HtL
            rintro e w3 ⟨v3, rfl, hown3, hb3⟩
            have hb23 := bstep hb2 hb3
            have hR4 := hR3.below hR3.lt hb3
            have hN5 := hN4.below hN4.lt hb3
            go_wp2_with (first
              | (refine wpList_load_sec rfl (.tmp 5) rfl (w.heap.size + 1) _ _ rfl hN5 ?_)
              | (refine wpList_store_sec rfl (.tmp 2) _ rfl w.heap.size _ _ (.int .u8 0) (.slice none 0 0) rfl rfl hR4 rfl rfl ?_
                 intro hs9))
            refine bodyPost_ret (results_sec rfl _ _ _ _ _ rfl hs9) rfl ?_
            exact ⟨_, rfl, Ow.nil_ _ _, bsetRow hb23 (Nat.le_refl _) _⟩
          | true =>
            have e1 : E = 0 := by rw [HE.out, hfb]; rfl
            have e2 : N = n + 13 := by rw [HN.out, e1]; rfl
            have e3 : L = own := by rw [HL.out, e1]; rfl
            have e4 : K0 = x0 := by rw [HK.out, e1]; rfl
            subst e1
            subst e2
            subst e3
            subst e4
            clear HE HN HL HK HtE HtL
            rintro e w3 ⟨v3, rfl, hown3, hb3⟩
            have hb23 := bstep hb2 hb3
            have hR4 := hR3.below hR3.lt hb3
            have hx3 : w3.cell? { block := g1, off := 0 } = some (.int .u8 (K0.toNat : Int)) := (hb3.cell (hown2.blk g1 rfl).2).trans hx2
            rw [if_pos rfl] at hown3
            obtain ⟨A3, c3, rfl, hd31, hd32, hf3⟩ := hown3.form_
            have hgs := hR3.lt
            go_wp2_with (refine wpList_store_sec rfl (.tmp 2) _ rfl w.heap.size _ _ (.int .u8 (K0.toNat : Int)) (.slice A3 L.length c3) rfl rfl hR4 rfl rfl ?_
                         intro hs4)
            have hown4 := (hown3.setRow_ hgs #[.int .u8 (K0.toNat : Int), .slice A3 L.length c3]).mono (Nat.le_of_lt hgs)
            refine bodyPost_ret (results_sec rfl _ _ _ _ _ rfl hs4) rfl ?_
            exact ⟨_, rfl, hown4, bsetRow hb23 (Nat.le_refl _) _⟩

end Go.Proofs.Ythfnikdapknohaa

namespace Go.Proofs.Ythfnikdapknohaa
set_option linter.unusedSimpArgs false
set_option linter.unusedVariables false
open Go.RowKit

set_option maxRecDepth 100000 in
set_option maxHeartbeats 1000000 in
theorem rsput_any (w : World) (B : Nat) (v : Value) (l : List GRow) (hs : rsz l ≤ 20000) (h : ByRw w B v l) (hB : B ≤ w.heap.size) (hn : newE none l = 0) :
    Calls Try.prog 16 #[v] w fun e w' => ∃ v', e = .returned v' ∧ Ow w' w.heap.size v' (senc l) ∧ Below w.heap.size w w' := by
  obtain ⟨A, c, rfl, hc1, hc2⟩ := h.form
  unfold maxLen at hc2
  have Hrw := Lib.hid (newE_row l · · hn)
  have H := Lib.hid h
  have Hsz := Lib.hid (rsz_at l)
  have hlz := rsz_len l
  have Hbl := Lib.hid (fun k => rowsB_len (l.take k) none 0 (newE_take l k hn) (by have := rsz_take l k; omega))
  have Htk := Lib.hid (rsz_take l)
  have Hsb := Lib.hid (sbody_len l hn hs)
  have hcv : IntKind.u64.wrap (l.length : Int) = (l.length : Int) := by rw [wrap_u64]; omega
  have hvl := (vput_len64 l.length (by omega)).2
  clear hn h
  go_enter Try.func16, Try.ntmps16
  go_wp2_with fail
  refine (refnum_any l.length w (by omega)).mono ?_
  rintro _ w2 ⟨v2, rfl, ho2, hb2⟩
  have Ho2 : Hid (Ow w2 w.heap.size v2 (vput l.length ++ rowsB 0 (l.take 0))) := Lib.hid (by simpa [rowsB] using ho2)
  have Hb2 := Lib.hid hb2
  clear hb2 ho2
  go_wp2_with fail
  go_loopw [3, 12] (fun b i wr => ∃ k : Nat, k ≤ l.length ∧ i = .int .i64 k ∧ Ow wr w.heap.size b (vput l.length ++ rowsB 0 (l.take k)) ∧ Below w.heap.size w wr) (fun _ i _ => l.length - (intOf i).toNat)
  case atStart => exact ⟨0, by omega, rfl, Ho2.out, Hb2.out⟩
  case round =>
    obtain ⟨k, hk, rfl, hob, hbw⟩ := hrel
    have Hob := Lib.hid hob
    have Hbw := Lib.hid hbw
    have hszr := hbw.size
    clear hob hbw
    by_cases hlt : k < l.length
    · obtain ⟨ad, Aa, ca, rfl, hab, hx0, hx1, hya⟩ := (H.out.below (Hbw.out.mono hB)).cells k hlt
      obtain ⟨hnb, hnx⟩ := Hrw.out k hlt
      have hal := Hsz.out k hlt
      have hbk := Hbl.out k
      have htk := Htk.out k
      have Hsn : Hid (vput l.length ++ rowsB 0 (l.take (k + 1)) = vput l.length ++ rowsB 0 (l.take k) ++ vput ((l[k]).fr.toNat - nxt 0 (l.take k)) ++ gput (l[k]).arcs ++ cput (btab (l[k]).arcs)) := Lib.hid (by
        rw [List.take_add_one, List.getElem?_eq_getElem hlt]
        show vput l.length ++ rowsB 0 (l.take k ++ [l[k]]) = _
        rw [rowsB_snoc, row1]
        simp only [List.append_assoc])
      have Hnxt : Hid (∀ m, k = m + 1 → ∃ hm : m < l.length, nxt 0 (l.take k) = (l[m]).fr.toNat + 1) := Lib.hid (by
        rintro m rfl
        refine ⟨by omega, ?_⟩
        rw [List.take_add_one, List.getElem?_eq_getElem (by omega)]
        exact nxt_snoc _ _ _)
      have Hnx0 : Hid (k = 0 → nxt 0 (l.take k) = 0) := Lib.hid (by rintro rfl; rfl)
      have Hcells := Lib.hid (fun m hm => (H.out.below (Hbw.out.mono hB)).cells m hm)
      have hfr := u32_lt (l[k]).fr
      have Hnb := Lib.hid hnb
      have Hya := Lib.hid hya
      clear hnb hya
      obtain ⟨hgm, hne0⟩ := nbrs_gmay Hnb.out
      have hrise : rise none (l[k]).arcs = true := by unfold gmay at hgm; rw [Bool.and_eq_true] at hgm; exact hgm.1
      have Hrise := Lib.hid hrise
      have hbt := btab_len (l[k]).arcs (by omega) (gmay_sum' hgm)
      have hgl : (gput (l[k]).arcs).length ≤ 11 + 22 * (l[k]).arcs.length := by
        have := vput_len64 (l[k]).arcs.length (by omega)
        have := gapsL_len (l[k]).arcs 0
        simp only [gput, List.length_append]
        omega
      have hcl := cput_len (btab (l[k]).arcs)
      have hbtl : (btab (l[k]).arcs).length ≤ 1048576 := by omega
      rw [hbt] at hcl
      clear hgm hrise hbt
      generalize l[k] = r at *
      have hpl : (vput l.length ++ rowsB 0 (l.take k)).length ≤ 1000000 := by rw [List.length_append]; omega
      clear hbk htk
      generalize nxt 0 (l.take k) = nx at *
      generalize vput l.length ++ rowsB 0 (l.take k) = pre at *
      rcases Nat.eq_zero_or_pos k with hk0 | hk0
      · have hd0 : decide ((k : Int) > 0) = false := decide_eq_false (by omega)
        have hd1 : decide (0 < k) = false := decide_eq_false (by omega)
        have hg := fun W => gap_any W k 0 r.fr (by omega) (.inl hk0)
        have hgn : gapN k 0 r.fr = r.fr.toNat - nx := by rw [Hnx0.out hk0, hk0]; rfl
        rw [hgn] at hg
        have Hg : Hid (∀ W, Calls Try.prog 49 #[.int .i64 (k : Int), .int .u32 0, .int .u32 (r.fr.toNat : Int)] W fun e w' => e = .returned (.int .u64 ((r.fr.toNat - nx : Nat) : Int)) ∧ W = w') := Lib.hid hg
        clear hg hgn Hnx0 Hnxt Hcells hk0
        go_wp2_with fail
        refine (Hg.out _).mono ?_
        rintro _ _ ⟨rfl, rfl⟩
        go_wp2_with fail
        refine (refnum_any (r.fr.toNat - nx) _ (by omega)).mono ?_
        rintro _ w4 ⟨v4, rfl, ho4, hb4⟩
        have Hob4 := Lib.hid (Hob.out.below_ hb4)
        have Hbw4 := Lib.hid (Hbw.out.trans (hb4.mono hszr))
        have Hya4 := Lib.hid (Hya.out.below (hb4.mono (Nat.le_trans hB hszr)))
        have Hby4 := Lib.hid ho4.by_
        have hc1_4 := (hb4.mono (Nat.le_trans hB hszr)).cell (p := { block := (ad.add ((k) * 2)).block, off := (ad.add ((k) * 2)).off + 1 }) (by show (ad.add ((k) * 2)).block < B; rw [add_block]; exact hab)
        have hc1_4' := hc1_4.trans hx1
        have hs4 := Nat.le_trans hszr hb4.size
        have hvn := (vput_len64 (r.fr.toNat - nx) (by omega)).2
        clear ho4 hb4 hc1_4 hx0 hx1 Hob Hbw Hya
        go_wp2_with (at_builtin
                     refine wpList_app8 rfl (.tmp 23) (.tmp 32) rfl Hob4.out Hby4.out rfl rfl (by omega) hs4 ?_
                     intro v5 w5 ho5 hx5
                     have Ho5 := Lib.hid ho5
                     have hb45 := hx5.below (B := w.heap.size) hs4 (fun q hq => (Hob4.out.blk q hq).1)
                     have Hb5 := Lib.hid (Hbw4.out.trans hb45)
                     have Hya5 := Lib.hid (Hya4.out.below (hb45.mono hB))
                     have hc1_5 := ((hb45.mono hB).cell (p := { block := (ad.add ((k) * 2)).block, off := (ad.add ((k) * 2)).off + 1 }) (by show (ad.add ((k) * 2)).block < B; rw [add_block]; exact hab)).trans hc1_4'
                     have hs5 := Hb5.out.size
                     clear ho5 hx5 hb45 hc1_4' Hya4 Hbw4 Hob4 Hby4)
        refine (rgput_any w5 B (.slice Aa r.arcs.length ca) r.arcs (by omega) Hya5.out (Nat.le_trans hB hs5) Hrise.out).mono ?_
        rintro _ w6 ⟨v6, rfl, ho6, hb6⟩
        have Hob6 := Lib.hid (Ho5.out.below_ hb6)
        have Hbw6 := Lib.hid (Hb5.out.trans (hb6.mono hs5))
        have Hya6 := Lib.hid (Hya5.out.below (hb6.mono (Nat.le_trans hB hs5)))
        have Hby6 := Lib.hid ho6.by_
        have hc1_6 := ((hb6.mono (Nat.le_trans hB hs5)).cell (p := { block := (ad.add ((k) * 2)).block, off := (ad.add ((k) * 2)).off + 1 }) (by show (ad.add ((k) * 2)).block < B; rw [add_block]; exact hab)).trans hc1_5
        have hs6 := Nat.le_trans hs5 hb6.size
        clear ho6 hb6 hc1_5 Ho5 Hb5 Hya5
        go_wp2_with (at_builtin
                     refine wpList_app8 rfl (.tmp 34) (.tmp 40) rfl Hob6.out Hby6.out rfl rfl (by rw [List.length_append]; omega) hs6 ?_
                     intro v7 w7 ho7 hx7
                     have Ho7 := Lib.hid ho7
                     have hb67 := hx7.below (B := w.heap.size) hs6 (fun q hq => (Hob6.out.blk q hq).1)
                     have Hb7 := Lib.hid (Hbw6.out.trans hb67)
                     have Hya7 := Lib.hid (Hya6.out.below (hb67.mono hB))
                     have hc1_7 := ((hb67.mono hB).cell (p := { block := (ad.add ((k) * 2)).block, off := (ad.add ((k) * 2)).off + 1 }) (by show (ad.add ((k) * 2)).block < B; rw [add_block]; exact hab)).trans hc1_6
                     have hs7 := Hb7.out.size
                     clear ho7 hx7 hb67 hc1_6 Hya6 Hbw6 Hob6 Hby6)
        refine (rbuild_any w7 B (.slice Aa r.arcs.length ca) r.arcs (by omega) Hya7.out (Nat.le_trans hB hs7) Hnb.out).mono ?_
        rintro _ w8 ⟨v8, rfl, ho8, hb8⟩
        have Hob8 := Lib.hid (Ho7.out.below_ hb8)
        have Hbw8 := Lib.hid (Hb7.out.trans (hb8.mono hs7))
        have hs8 := Nat.le_trans hs7 hb8.size
        have Hbc8 : Hid (ByC w8 w8.heap.size v8 (btab r.arcs)) := Lib.hid (ho8.rowLt.mono (fun _ h => h) (fun _ _ => trivial))
        obtain ⟨A8, c8', rfl, _, _, _⟩ := ho8.form'
        clear ho8 hb8 Ho7 Hb7 Hya7 hc1_7
        go_wp2_with fail
        refine (rcput_any w8 w8.heap.size _ (btab r.arcs) (by omega) Hbc8.out (Nat.le_refl _)).mono ?_
        rintro _ w9 ⟨v9, rfl, ho9, hb9⟩
        have Hob9 := Lib.hid (Hob8.out.below_ hb9)
        have Hbw9 := Lib.hid (Hbw8.out.trans (hb9.mono hs8))
        have Hby9 := Lib.hid ho9.by_
        have hs9 := Nat.le_trans hs8 hb9.size
        clear ho9 hb9 Hob8 Hbw8 Hbc8
        go_wp2_with (at_builtin
                     refine wpList_app8 rfl (.tmp 42) (.tmp 49) rfl Hob9.out Hby9.out rfl rfl (by simp only [List.length_append]; omega) hs9 ?_
                     intro v10 w10 ho10 hx10
                     have Ho10 := Lib.hid ho10
                     have Hb10 := Lib.hid (Hbw9.out.trans (hx10.below (B := w.heap.size) hs9 (fun q hq => (Hob9.out.blk q hq).1)))
                     clear ho10 hx10 Hob9 Hbw9 Hby9)
        go_roundw
        case rel => exact ⟨k + 1, by omega, by go_num, by rw [Hsn.out]; exact Ho10.out, Hb10.out⟩
        case measure => simp [intOf]; omega
      · obtain ⟨p, rfl⟩ : ∃ p, k = p + 1 := ⟨k - 1, by omega⟩
        obtain ⟨hp, hnx2⟩ := Hnxt.out p rfl
        obtain ⟨ad2, Ab, cb, e2, _, hy0, hy1, _⟩ := Hcells.out p hp
        injection e2 with e2
        subst e2
        have hk1 : (((p + 1 : Nat) : Int) - 1) = (p : Int) := by omega
        have hgt : decide (((p + 1 : Nat) : Int) > 0) = true := decide_eq_true (by omega)
        have hgt' : decide (0 < p + 1) = true := decide_eq_true (by omega)
        have hw1 : wrap64 (((p + 1 : Nat) : Int) - 1) = (p : Int) := by unfold wrap64; omega
        have hfr2 := u32_lt (l[p]).fr
        have hg := fun W => gap_any W (p + 1) (l[p]).fr r.fr (by omega) (.inr (by omega))
        have hgn : gapN (p + 1) (l[p]).fr r.fr = r.fr.toNat - nx := by unfold gapN; rw [if_neg (by omega), hnx2]
        rw [hgn] at hg
        have Hg : Hid (∀ W, Calls Try.prog 49 #[.int .i64 ((p : Int) + 1), .int .u32 ((l[p]).fr.toNat : Int), .int .u32 (r.fr.toNat : Int)] W fun e w' => e = .returned (.int .u64 ((r.fr.toNat - nx : Nat) : Int)) ∧ W = w') := Lib.hid (by simpa using hg)
        clear hg hgn Hnx0 Hnxt Hcells hk0 hy1 hnx2
        generalize (l[p]).fr.toNat = f2 at *
        go_wp2_with fail
        refine (Hg.out _).mono ?_
        rintro _ _ ⟨rfl, rfl⟩
        go_wp2_with fail
        refine (refnum_any (r.fr.toNat - nx) _ (by omega)).mono ?_
        rintro _ w4 ⟨v4, rfl, ho4, hb4⟩
        have Hob4 := Lib.hid (Hob.out.below_ hb4)
        have Hbw4 := Lib.hid (Hbw.out.trans (hb4.mono hszr))
        have Hya4 := Lib.hid (Hya.out.below (hb4.mono (Nat.le_trans hB hszr)))
        have Hby4 := Lib.hid ho4.by_
        have hc1_4 := (hb4.mono (Nat.le_trans hB hszr)).cell (p := { block := (ad.add ((p + 1) * 2)).block, off := (ad.add ((p + 1) * 2)).off + 1 }) (by show (ad.add ((p + 1) * 2)).block < B; rw [add_block]; exact hab)
        have hc1_4' := hc1_4.trans hx1
        have hs4 := Nat.le_trans hszr hb4.size
        have hvn := (vput_len64 (r.fr.toNat - nx) (by omega)).2
        clear ho4 hb4 hc1_4 hx0 hx1 Hob Hbw Hya
        go_wp2_with (at_builtin
                     refine wpList_app8 rfl (.tmp 23) (.tmp 32) rfl Hob4.out Hby4.out rfl rfl (by omega) hs4 ?_
                     intro v5 w5 ho5 hx5
                     have Ho5 := Lib.hid ho5
                     have hb45 := hx5.below (B := w.heap.size) hs4 (fun q hq => (Hob4.out.blk q hq).1)
                     have Hb5 := Lib.hid (Hbw4.out.trans hb45)
                     have Hya5 := Lib.hid (Hya4.out.below (hb45.mono hB))
                     have hc1_5 := ((hb45.mono hB).cell (p := { block := (ad.add ((p + 1) * 2)).block, off := (ad.add ((p + 1) * 2)).off + 1 }) (by show (ad.add ((p + 1) * 2)).block < B; rw [add_block]; exact hab)).trans hc1_4'
                     have hs5 := Hb5.out.size
                     clear ho5 hx5 hb45 hc1_4' Hya4 Hbw4 Hob4 Hby4)
        refine (rgput_any w5 B (.slice Aa r.arcs.length ca) r.arcs (by omega) Hya5.out (Nat.le_trans hB hs5) Hrise.out).mono ?_
        rintro _ w6 ⟨v6, rfl, ho6, hb6⟩
        have Hob6 := Lib.hid (Ho5.out.below_ hb6)
        have Hbw6 := Lib.hid (Hb5.out.trans (hb6.mono hs5))
        have Hya6 := Lib.hid (Hya5.out.below (hb6.mono (Nat.le_trans hB hs5)))
        have Hby6 := Lib.hid ho6.by_
        have hc1_6 := ((hb6.mono (Nat.le_trans hB hs5)).cell (p := { block := (ad.add ((p + 1) * 2)).block, off := (ad.add ((p + 1) * 2)).off + 1 }) (by show (ad.add ((p + 1) * 2)).block < B; rw [add_block]; exact hab)).trans hc1_5
        have hs6 := Nat.le_trans hs5 hb6.size
        clear ho6 hb6 hc1_5 Ho5 Hb5 Hya5
        go_wp2_with (at_builtin
                     refine wpList_app8 rfl (.tmp 34) (.tmp 40) rfl Hob6.out Hby6.out rfl rfl (by rw [List.length_append]; omega) hs6 ?_
                     intro v7 w7 ho7 hx7
                     have Ho7 := Lib.hid ho7
                     have hb67 := hx7.below (B := w.heap.size) hs6 (fun q hq => (Hob6.out.blk q hq).1)
                     have Hb7 := Lib.hid (Hbw6.out.trans hb67)
                     have Hya7 := Lib.hid (Hya6.out.below (hb67.mono hB))
                     have hc1_7 := ((hb67.mono hB).cell (p := { block := (ad.add ((p + 1) * 2)).block, off := (ad.add ((p + 1) * 2)).off + 1 }) (by show (ad.add ((p + 1) * 2)).block < B; rw [add_block]; exact hab)).trans hc1_6
                     have hs7 := Hb7.out.size
                     clear ho7 hx7 hb67 hc1_6 Hya6 Hbw6 Hob6 Hby6)
        refine (rbuild_any w7 B (.slice Aa r.arcs.length ca) r.arcs (by omega) Hya7.out (Nat.le_trans hB hs7) Hnb.out).mono ?_
        rintro _ w8 ⟨v8, rfl, ho8, hb8⟩
        have Hob8 := Lib.hid (Ho7.out.below_ hb8)
        have Hbw8 := Lib.hid (Hb7.out.trans (hb8.mono hs7))
        have hs8 := Nat.le_trans hs7 hb8.size
        have Hbc8 : Hid (ByC w8 w8.heap.size v8 (btab r.arcs)) := Lib.hid (ho8.rowLt.mono (fun _ h => h) (fun _ _ => trivial))
        obtain ⟨A8, c8', rfl, _, _, _⟩ := ho8.form'
        clear ho8 hb8 Ho7 Hb7 Hya7 hc1_7
        go_wp2_with fail
        refine (rcput_any w8 w8.heap.size _ (btab r.arcs) (by omega) Hbc8.out (Nat.le_refl _)).mono ?_
        rintro _ w9 ⟨v9, rfl, ho9, hb9⟩
        have Hob9 := Lib.hid (Hob8.out.below_ hb9)
        have Hbw9 := Lib.hid (Hbw8.out.trans (hb9.mono hs8))
        have Hby9 := Lib.hid ho9.by_
        have hs9 := Nat.le_trans hs8 hb9.size
        clear ho9 hb9 Hob8 Hbw8 Hbc8
        go_wp2_with (at_builtin
                     refine wpList_app8 rfl (.tmp 42) (.tmp 49) rfl Hob9.out Hby9.out rfl rfl (by simp only [List.length_append]; omega) hs9 ?_
                     intro v10 w10 ho10 hx10
                     have Ho10 := Lib.hid ho10
                     have Hb10 := Lib.hid (Hbw9.out.trans (hx10.below (B := w.heap.size) hs9 (fun q hq => (Hob9.out.blk q hq).1)))
                     clear ho10 hx10 Hob9 Hbw9 Hby9)
        go_roundw
        case rel => exact ⟨p + 1 + 1, by omega, by go_num, by rw [Hsn.out]; exact Ho10.out, Hb10.out⟩
        case measure => simp [intOf]; omega
    · obtain rfl : k = l.length := by omega
      rw [List.take_length] at Hob
      have hse : senc l = frameOf 83 (vput l.length ++ rowsB 0 l) := rfl
      have hrl : (vput l.length ++ rowsB 0 l).length ≤ 1048576 := by have := Hsb.out; unfold sbody at this; omega
      have Hse := Lib.hid hse
      clear hse
      obtain ⟨rb, hrb⟩ : ∃ rb, rb = vput l.length ++ rowsB 0 l := ⟨_, rfl⟩
      rw [← hrb] at Hob Hse hrl
      clear hrb
      obtain ⟨Ab, cb, rfl, _, _, _⟩ := Hob.out.form_
      go_wp2_with fail
      refine (rfput_any wr 83 (.slice Ab rb.length cb) rb Hob.out.by_ (by omega)).mono ?_
      rintro _ w7 ⟨v7, rfl, ho7, hb7⟩
      have Ho7 := Lib.hid (ho7.mono hszr)
      have Hb7 := Lib.hid (Hbw.out.trans (hb7.mono hszr))
      clear ho7 hb7
      go_wp2_with fail
      go_ret
      rw [Hse.out]
      exact ⟨_, rfl, Ho7.out, Hb7.out⟩
end Go.Proofs.Ythfnikdapknohaa

namespace Go.Proofs.Ythfnikdapknohaa
set_option linter.unusedSimpArgs false
set_option linter.unusedVariables false
open Go.RowKit

/-- a line: a row and its table -/
def cLine : Cdc GLine where
  n := 3
  at_ := fun w S cs x => ∃ va vt, cs = [.int .u32 (x.1.fr.toNat : Int), va, vt] ∧ RowOn cArc w S (fun _ => True) va x.1.arcs ∧ RowOn cCell w S (fun _ => True) vt x.2
  len := fun h => by obtain ⟨va, vt, rfl, _⟩ := h; rfl
  one := fun h => by obtain ⟨va, vt, rfl, h, h'⟩ := h; obtain ⟨A, c, rfl, _⟩ := h; obtain ⟨A', c', rfl, _⟩ := h'; intro u hu; simp at hu; rcases hu with rfl | rfl | rfl <;> rfl
  keep := fun h hk => by obtain ⟨va, vt, e, h, h'⟩ := h; exact ⟨va, vt, e, h.keepO (fun _ _ _ _ _ h => h) hk, h'.keepO (fun _ _ _ _ _ h => h) hk⟩
  mono := fun h hk => by obtain ⟨va, vt, e, h, h'⟩ := h; exact ⟨va, vt, e, h.mono hk (fun _ h => h), h'.mono hk (fun _ h => h)⟩
theorem infoLine : (Try.prog.info? 98).map (fun i => (i.zero, i.size, i.bytes)) = some (some (.agg #[.int .u32 0, .slice none 0 0, .slice none 0 0]), 3, 56) := by kernel_rfl
theorem infoLine2 : (Try.prog.info? 98).map (·.size) = some 3 := by kernel_rfl
def lineC (fr : Nat) (va vt : Value) : List Value := [.int .u32 (fr : Int), va, vt]
theorem lineC_one (fr : Nat) (A A' : Option Addr) (n c n' c' : Nat) : ∀ u ∈ lineC fr (.slice A n c) (.slice A' n' c'), u.oneCell' = true := by
  intro u hu; simp [lineC] at hu; rcases hu with rfl | rfl | rfl <;> rfl
theorem lineZ_one : ∀ u ∈ ([.int .u32 0, .slice none 0 0, .slice none 0 0] : List Value), u.oneCell' = true := by
  intro u hu; simp at hu; rcases hu with rfl | rfl | rfl <;> rfl
theorem OwnR.put_ {α : Type} {E : TypeId} {C : Cdc α} {w : World} {base : Nat} {v : Value} {xs : List α} (h : OwnF E C w base v xs) (g : Nat) (hg : g < base) (cs : Array Value) : OwnF E C (w.setRow g cs) base v xs :=
  OwnR.grownRd h (gsetRow' w g cs) hg
theorem RdrAt.setRow_ {w : World} {g : Nat} {l : List UInt8} {e : Int} (h : RdrAt w g l e) (g' : Nat) (hg : g < g') (cs : Array Value) : RdrAt (w.setRow g' cs) g l e :=
  h.grown (gsetRow' w g' cs) (fun k hk => by injection hk with hk; omega)

set_option maxRecDepth 100000 in
set_option maxHeartbeats 1600000 in
theorem shread_any (w : World) (g : Nat) (s : List UInt8) (e : Int) (next : Nat) (hl : s.length ≤ 1000000) (hnx : next ≤ 4294967295) (h : RdrAt w g s e) :
    Calls Try.prog 45 #[.pointer (some ⟨g, 0, none⟩), .int .u64 (next : Int)] w fun ev w' => ∃ A c A' c', ev = .returned (.agg (lineC (rowL next s e).1.fr.toNat (.slice A (rowL next s e).1.arcs.length c) (.slice A' (rowL next s e).2.length c')).toArray) ∧
      OwnF 70 cArc w' (w.heap.size + 1) (.slice A (rowL next s e).1.arcs.length c) (rowL next s e).1.arcs ∧ OwnF 73 cCell w' (w.heap.size + 1) (.slice A' (rowL next s e).2.length c') (rowL next s e).2 ∧ RdrAt w' g (rowC next s e).2.1 (rowC next s e).2.2 ∧ w.grownBy w' (some g) := by
  have hg := h.lt
  have hlen := row_len next s e
  obtain ⟨n1, s1, e1, hN⟩ : ∃ a b c, rowN next s e = (a, b, c) := ⟨_, _, _, rfl⟩
  have hNlt := (numS_lt (4294967295 - next) s e).2
  obtain ⟨aa, s2, e2, hA⟩ : ∃ a b c, rowA next s e = (a, b, c) := ⟨_, _, _, rfl⟩
  obtain ⟨cc, s3, e3, hC⟩ : ∃ a b c, rowC next s e = (a, b, c) := ⟨_, _, _, rfl⟩
  have hfr : (rowL next s e).1.fr.toNat = next + n1 := by
    show (UInt32.ofNat (next + (rowN next s e).1)).toNat = _
    rw [hN]
    show (UInt32.ofNat (next + n1)).toNat = _
    have : (rowN next s e).1 ≤ 4294967295 - next := hNlt
    rw [hN] at this
    rw [UInt32.toNat_ofNat']
    simp only at this
    omega
  have harcs : (rowL next s e).1.arcs = aa := by show (rowA next s e).1 = _; rw [hA]
  have htab : (rowL next s e).2 = cc := by show (rowC next s e).1 = _; rw [hC]
  rw [hfr, harcs, htab, hC]
  have hN' : numS (4294967295 - next) s e = (n1, s1, e1) := hN
  have hA' : gread s1 e1 = (aa, s2, e2) := by rw [← hA]; unfold rowA; rw [hN]
  have hC' : cget (gsum aa) (min (aa.length - 1) 4294967295) aa.length [] s2 e2 = (cc, s3, e3) := by rw [← hC]; unfold rowC cellsR; rw [hA]
  rw [hN'] at hNlt
  rw [hN, hA, hC] at hlen
  simp only at hNlt hlen
  have hV := fun W h => vnum_any W g s e (4294967295 - next) (by omega) h
  rw [hN'] at hV
  have hG := fun W h => gapsget_any W g s1 e1 (by omega) h
  rw [hA'] at hG
  have hgl := gsum_lt aa
  have hT := fun W h => aget_any W g aa.length (gsum aa) s2 e2 (by omega) (by omega) h
  rw [hC'] at hT
  have Hv := Lib.hid hV
  have Hg := Lib.hid hG
  have Ht := Lib.hid hT
  have H := Lib.hid (h.below hg (balloc w (.cells #[.int .u32 0, .slice none 0 0, .slice none 0 0] 98)))
  have hal : aa.length ≤ 1000000 := by omega
  clear hV hG hT hN hA hC hfr harcs htab hN' hA' hC' h hlen
  have hsub : IntKind.u64.wrap (4294967295 - (next : Int)) = ((4294967295 - next : Nat) : Int) := by rw [wrap_u64]; omega
  have hsub2 : (4294967295 : Int) - (next : Int) = ((4294967295 - next : Nat) : Int) := by omega
  have hadd : IntKind.u64.wrap ((next : Int) + (n1 : Int)) = ((next + n1 : Nat) : Int) := by rw [wrap_u64]; omega
  have hcv : IntKind.u32.wrap ((next : Int) + (n1 : Int)) = (next : Int) + (n1 : Int) := by rw [IntKind.wrap_u32']; omega
  have hbx0 := BoxAt.new_ 98 w [.int .u32 0, .slice none 0 0, .slice none 0 0]
  have hb0 := balloc w (.cells #[.int .u32 0, .slice none 0 0, .slice none 0 0] 98)
  have hsz0 : (w.alloc (.cells #[.int .u32 0, .slice none 0 0, .slice none 0 0] 98)).heap.size = w.heap.size + 1 := by simp
  go_enter Try.func45, Try.ntmps45
  go_upto_region 1 with (refine wpList_alloc_z rfl 98 rfl infoLine [.int .u32 0, .slice none 0 0, .slice none 0 0] rfl ?_)
  have Hbx := Lib.hid hbx0
  have Hb0 := Lib.hid hb0
  clear hbx0 hb0
  generalize w.alloc (.cells #[.int .u32 0, .slice none 0 0, .slice none 0 0] 98) = w0 at *
  generalize hR : w.heap.size = R at *
  go_wp2_with fail
  try simp only [hsub2]
  refine (Hv.out w0 H.out).mono ?_
  rintro _ w1 ⟨rfl, hr1, hg1⟩
  have Hr1 := Lib.hid hr1
  have Hbx1 := Lib.hid (Hbx.out.grown hg1 (fun e => by injection e with e; omega))
  have Hg1 := Lib.hid hg1
  have hsz1 := hg1.size
  clear hr1 hg1 Hv H Hbx
  go_wp2_with fail
  refine (Hg.out w1 Hr1.out).mono ?_
  rintro _ w2 ⟨v2, rfl, ho2, hr2, hg2⟩
  have Hr2 := Lib.hid hr2
  have Hbx2 := Lib.hid (Hbx1.out.grown hg2 (fun e => by injection e with e; omega))
  have Hg2 := Lib.hid (gtrans Hg1.out hg2)
  have hsz2 := hg2.size
  have Ho2 := Lib.hid (ho2.more (base' := R + 1) (by omega))
  obtain ⟨A2, c2, rfl, _, _, _⟩ := ho2.form'
  clear hr2 hg2 ho2 Hg Hbx1 Hg1 Hr1
  go_wp2_with fail
  refine (gsum_any w2 w2.heap.size (.slice A2 aa.length c2) aa (by omega) (Ho2.out.rowLt.mono (fun _ h => h) (fun _ _ => trivial)) (Nat.le_refl _)).mono ?_
  rintro _ w3 ⟨rfl, hb3⟩
  have Hr3 := Lib.hid (Hr2.out.below Hr2.out.lt hb3)
  have Hbx3 := Lib.hid (Hbx2.out.below Hbx2.out.lt hb3)
  have Hg3 := Lib.hid (gtrans Hg2.out (gbelow hb3 _))
  have Ho3 := Lib.hid (Ho2.out.below_ hb3)
  have hsz3 := hb3.size
  clear hb3 Hr2 Hbx2 Hg2 Ho2
  go_wp2_with fail
  refine (Ht.out w3 Hr3.out).mono ?_
  rintro _ w4 ⟨v4, rfl, ho4, hr4, hg4⟩
  have Hr4 := Lib.hid hr4
  have Hbx4 := Lib.hid (Hbx3.out.grown hg4 (fun e => by injection e with e; omega))
  have Hg4 := Lib.hid (gtrans Hg3.out hg4)
  have Ho3' := Lib.hid (OwnR.grownRd Ho3.out hg4 (by omega))
  have Ho4 := Lib.hid (ho4.more (base' := R + 1) (by omega))
  obtain ⟨A4, c4, rfl, _, _, _⟩ := ho4.form'
  clear hr4 hg4 ho4 Ht Hbx3 Hg3 Hr3 Ho3
  have hone := lineC_one (next + n1) A2 A4 aa.length c2 cc.length c4
  have Hone := Lib.hid hone
  clear hone
  go_wp2_with (refine wpList_store_box rfl 98 98 (.tmp 4) (.tmp 25) rfl R [.int .u32 0, .slice none 0 0, .slice none 0 0] (lineC (next + n1) (.slice A2 aa.length c2) (.slice A4 cc.length c4)) rfl (by simp [lineC, Act.eval]) Hbx4.out rfl Hone.out infoLine2 ?_; intro hend)
  refine bodyPost_ret (results_c rfl _ _ R _ rfl (fun j v hj => (hend.cells j v hj : _)) Try.underlying98 rfl infoLine2) rfl ?_
  rw [hR]
  exact ⟨A2, c2, A4, c4, rfl, Ho3'.out.put_ R (by omega) _, Ho4.out.put_ R (by omega) _, Hr4.out.setRow_ R (by omega) _, gnew (gtrans (gbelow (by rw [hR]; exact Hb0.out) _) Hg4.out) (gsetRow' _ _ _) (fun i hi => by injection hi with hi; left; omega)⟩
end Go.Proofs.Ythfnikdapknohaa

namespace Go.Proofs.Ythfnikdapknohaa
set_option linter.unusedSimpArgs false
set_option linter.unusedVariables false
open Go.RowKit Go.Shelf

/-- what an iterator promises: all values, one behind the other -/
def Iter_ {α : Type} (P : Program) (n gf : Nat) (lb : Array Value) (encs : α → Array Value) (Kr : World → World → Prop) (R : α → World → Prop) (S : List α → World → Prop) (N : Nat) (w : World) : Prop :=
  ∀ (l : Nat) (J : List α → World → Prop) (W : World), Below w.heap.size w W → AbidesFrom W.heap.size J →
    (∀ pre x W1, J pre W1 → R x W1 → pre.length < N → YieldAt Fence.wide (n - 1) P l (encs x) W1 fun e W' => e = .returned (.bool true) ∧ J (pre ++ [x]) W' ∧ Kr W1 W') → J [] W →
    CallsIn Fence.wide n P gf (#[.func (.yield l) #[] #[]] ++ lb) W fun e W' => (∃ v, e = .returned v) ∧ ∃ xs, S xs W' ∧ J xs W'

theorem range_all {α : Type} {P : Program} {g : Operand} {ps : Array Tmp} {assign body : Code} {Q : Exit → Act → World → Prop} {a : Act} {w : World} {n gf : Nat} {lb : Array Value}
    (hg : a.eval g = .func (.func gf) #[] lb) (eg : ∀ args w, (callFunc gf args).run P w = .ok (.enter gf args) w)
    {encs : α → Array Value} {Kr : World → World → Prop} (hKt : ∀ {X Y Z : World}, Kr X Y → Kr Y Z → Kr X Z) (hKp : ∀ (W : World) (q : Nat) (o o' : Obj), W.heap[q]? = some o → o.isCells = false → Kr W (W.putObj q o')) {R : α → World → Prop} {S : List α → World → Prop} {N : Nat} (hps : ∀ x, (encs x).size = ps.size) (hit : Iter_ P (n - 1) gf lb encs Kr R S N w)
    (I : List α → World → Prop) (hI : OwnFrom w.heap.size I) (hS : OwnFrom w.heap.size S) (h0 : I [] w)
    (Ax : Act → List α → α → Act → World → Prop) (hAx : ∀ pre x a', OwnFrom w.heap.size (fun (_ : Unit) W => Ax a pre x a' W))
    (hassign : ∀ (l : Nat) (pre : List α) (x : α) (W : World), w.heap.size ≤ l → I pre W → R x W →
      assign.wpIn (Fence.wide.inRound l) (n - 1 - 1) P (fun e a' W' => e = .normal ∧ KeepsFrom w.heap.size W W' ∧ Kr W W' ∧ Ax a pre x a' W') { tmps := (ps.zip (encs x)).foldl (fun t (p, v) => t.setIfInBounds p v) a.tmps, defers := [] } W)
    (hbody : ∀ (l : Nat) (pre : List α) (x : α) (a' : Act) (W : World), w.heap.size ≤ l → Ax a pre x a' W → pre.length < N →
      body.wpIn (Fence.wide.inRound l) (n - 1 - 1) P (fun e _ W' => e = .normal ∧ KeepsFrom w.heap.size W W' ∧ Kr W W' ∧ I (pre ++ [x]) W') a' W)
    (hdone : ∀ (D : Nat) (xs : List α) (W : World), w.heap.size ≤ D → S xs W → I xs W → W.heap[D]? = some (.deferred (some [])) → Q .normal { a with defers := { target := .collected D, args := #[] } :: a.defers } W) :
    (Code.rangeFunc g ps assign body).wpIn Fence.wide n P Q a w := by
  refine wpIn_rangeFunc fun fn hfn => ?_
  -- the loop's record, and its block
  obtain ⟨L, hL⟩ : ∃ L, L = w.heap.size + 1 := ⟨_, rfl⟩
  obtain ⟨lp, hlp⟩ : ∃ lp : LoopState → Loop, lp = fun st => { state := st, pending := none, fn, tmps := a.tmps, params := ps, assign, body, defers := w.heap.size } := ⟨_, rfl⟩
  have e1 : ∀ st, ({ lp st with state := .busy } : Loop) = lp .busy := fun st => by rw [hlp]
  have e2 : ∀ st st', ({ lp st with state := st' } : Loop) = lp st' := fun st st' => by rw [hlp]
  have e3 : ∀ st st', ({ lp st with state := st', pending := none } : Loop) = lp st' := fun st st' => by rw [hlp]
  obtain ⟨W1, hW1⟩ : ∃ W1, W1 = (w.alloc (.deferred (some []))).alloc (.loop (lp .ready)) := ⟨_, rfl⟩
  have hsz1 : W1.heap.size = w.heap.size + 2 := by rw [hW1]; simp
  have hl1 : W1.heap[L]? = some (.loop (lp .ready)) := by
    rw [hW1, hL]
    have := World.alloc_heap_new (w.alloc (.deferred (some []))) (.loop (lp .ready))
    rwa [World.size_alloc] at this
  have hd1 : W1.heap[w.heap.size]? = some (.deferred (some [])) := by rw [hW1]; exact (heap_alloc_old _ _ (by simp)).trans (World.alloc_heap_new w _)
  have hb1 : Below w.heap.size w W1 := by rw [hW1]; exact bstep (balloc _ _) (balloc _ _)
  have hi1 : I [] W1 := by rw [hW1]; exact hI.alloc _ (hI.alloc _ h0)
  have hkb : ∀ (W : World) (st : LoopState) (o' : Obj), W.heap[L]? = some (.loop (lp st)) → Kr W (W.putObj L o') := fun W st o' h => hKp W L _ o' h rfl
  refine ⟨L, [{ target := .collected w.heap.size, args := #[] }], W1, { target := .fn (.func gf) lb, args := #[.func (.yield L) #[] #[]] }, W1, gf, #[.func (.yield L) #[] #[]] ++ lb, W1, ?_, ?_, fun _ _ => trivial, ?_, fun h => by simp [Fence.wide] at h, ?_⟩
  · have := run_enterLoop_outer (P := P) (w := w) fn a.tmps ps assign body
    rw [hW1, hL, hlp]
    exact this
  · simp only [resolve, hg]
    simp [go_sem]
  · simp [invoke, go_sem, eg]
  refine (hit L (fun pre W => I pre W ∧ W.heap[L]? = some (.loop (lp .ready)) ∧ W.heap[w.heap.size]? = some (.deferred (some []))) W1 hb1 ?_ ?_ ⟨hi1, hl1, hd1⟩).mono ?_
  · -- what the iterator does besides leaves this
    rintro s A C row ⟨ha, hb, hc⟩ hgr hr
    have hrow : ∀ r, row = some r → w.heap.size ≤ r ∧ ∃ o : Obj, A.heap[r]? = some o ∧ o.isCells = false := fun r e => by
      obtain ⟨hB, o, ho, hw⟩ := hr r e
      exact ⟨by omega, o, ho, Obj.not_cells_of_walk hw⟩
    have keep : ∀ (q : Nat) (o : Obj), A.heap[q]? = some o → o.isWalk = false → C.heap[q]? = some o := fun q o ho hw => by
      refine (hgr.block q (Array.getElem?_eq_some_iff.1 ho).1 fun e => ?_).trans ho
      obtain ⟨_, o', ho', hw'⟩ := hr q e.symm
      rw [ho] at ho'
      injection ho' with ho'
      rw [ho', hw'] at hw
      cases hw
    exact ⟨hI s A C row ha hgr hrow, keep _ _ hb rfl, keep _ _ hc rfl⟩
  · -- a round
    rintro pre x W ⟨hi, hl, hd⟩ hRx hlen
    have hlt := (Array.getElem?_eq_some_iff.1 hl).1
    have hy := run_yield (P := P) (args := encs x) hl (by rw [hlp]; exact hps x)
    have f1 : (lp .ready).fn = fn := by rw [hlp]
    have f2 : (lp .ready).params = ps := by rw [hlp]
    have f3 : (lp .ready).tmps = a.tmps := by rw [hlp]
    have f4 : (lp .ready).assign = assign := by rw [hlp]
    have f5 : (lp .ready).body = body := by rw [hlp]
    rw [f1, f2, f3, f4, f5] at hy
    refine ⟨fn, _, assign, body, hy, roundIn_of_wpIn trivial (wpIn_mono (hassign L pre x W (by omega) hi hRx) ?_)⟩
    rintro e a2 W2 ⟨rfl, hk2, hp2, hx2⟩
    have hl2 := hk2.same _ _ (by omega) hl rfl
    have hd2 := hk2.same _ _ (Nat.le_refl _) hd rfl
    refine ⟨_, run_beginRound hl2 (by rw [hlp]), ?_⟩
    rw [e1]
    have hlt2 := (Array.getElem?_eq_some_iff.1 hl2).1
    have hl3 : (W2.putObj L (.loop (lp .busy))).heap[L]? = some (.loop (lp .busy)) := World.putObj_heap_same hlt2
    have hd3 : (W2.putObj L (.loop (lp .busy))).heap[w.heap.size]? = some (.deferred (some [])) := (World.putObj_heap_other (by omega)).trans hd2
    refine wpIn_mono (hbody L pre x a2 _ (by omega) ((hAx pre x a2).putObj (s := ()) _ hx2 (by omega) hl2 rfl) hlen) ?_
    rintro e a4 W4 ⟨rfl, hk4, hp4, hi4⟩
    have hl4 := hk4.same _ _ (by omega) hl3 rfl
    have hd4 := hk4.same _ _ (Nat.le_refl _) hd3 rfl
    have hlt4 := (Array.getElem?_eq_some_iff.1 hl4).1
    have hr := run_endRound (P := P) none hl4
    rw [show (if (none : Option Code).isNone then LoopState.ready else LoopState.done) = LoopState.ready from rfl, e3] at hr
    refine ⟨_, _, hr, rfl, ⟨hI.putObj _ hi4 (by omega) hl4 rfl, World.putObj_heap_same hlt4, (World.putObj_heap_other (by omega)).trans hd4⟩, ?_⟩
    exact hKt (hKt hp2 (hkb _ _ _ hl2)) (hKt hp4 (hkb _ _ _ hl4))
  · -- behind it
    rintro e W2 ⟨⟨v, rfl⟩, xs, hSx, hi, hl, hd⟩
    have hr := run_endLoop (P := P) hl (by rw [hlp]; simp)
    rw [e2] at hr
    have hp : (lp .ready).pending = none := by rw [hlp]
    rw [hp] at hr
    exact ⟨none, _, hr, hdone _ xs _ (Nat.le_refl _) (hS.putObj _ hSx (by omega) hl rfl) (hI.putObj _ hi (by omega) hl rfl) ((World.putObj_heap_other (by omega)).trans hd)⟩
end Go.Proofs.Ythfnikdapknohaa

namespace Go.Proofs.Ythfnikdapknohaa
set_option linter.unusedSimpArgs false
set_option linter.unusedVariables false
open Go.RowKit

section
variable {P : Program} {l : List Oper} {dl : List (Option Nat)} {Φ : List Ph} {a : Act} {w : World} {Q : Exit → Act → World → Prop} {nn : Nat}
theorem lexIn_tail {l2 : List Oper} (hback : backB (l ++ l2) = true) (hanc : ∀ (listed : Array Bool), Closed (l ++ l2) listed → ∀ (i : Nat) (o : Oper), (l ++ l2)[i]? = some o → l.length ≤ i → (∀ e ∈ o.after, Region.binds .any e = true → listed.getD e.on false = true) → ∀ k, k < i → listed.getD k false = true) :
    ∀ (rest : List Oper) (m : Nat) (listed : Array Bool), l.length ≤ m → (∀ j : Nat, rest[j]? = (l ++ l2)[m + j]?) → m + rest.length = (l ++ l2).length → listed.size = (l ++ l2).length → (∀ i, i < m → listed.getD i false = true) →
      (∀ i, m ≤ i → i < (l ++ l2).length → listed.getD i false = false) →
      ∀ {a : Act} {w : World}, wpListIn Fence.wide nn P (l ++ l2).toArray Q rest a w → wpAnyIn Fence.wide nn P .any (l ++ l2).toArray Q rest.length listed a w
  | [], m, listed, hlm, hos, hml, hs, hlow, hhigh, a, w, h => by
    refine ⟨?_, h⟩
    rw [List.eq_nil_iff_forall_not_mem]
    intro i hi
    obtain ⟨h1, o, ho, _⟩ := mem_ready.1 hi
    have hil : i < (l ++ l2).length := by
      have := (Array.getElem?_eq_some_iff.1 ho).1
      simpa using this
    have h2 := hlow i (by simpa [← hml] using hil)
    rw [Array.getD_eq_getD_getElem?, Array.getElem?_eq_getElem (by omega)] at h1 h2
    simp at h1 h2
    rw [h1] at h2
    cases h2
  | o :: rest, m, listed, hlm, hos, hml, hs, hlow, hhigh, a, w, h => by
    have hm0 : (l ++ l2)[m]? = some o := by have := hos 0; simpa using this.symm
    have hmlt : m < (l ++ l2).length := (List.getElem?_eq_some_iff.1 hm0).1
    have hclo : Closed (l ++ l2) listed := by
      intro i oi hoi hl e he hb
      have hil : i < (l ++ l2).length := (List.getElem?_eq_some_iff.1 hoi).1
      have him : i < m := by
        rcases Nat.lt_or_ge i m with h | h
        · exact h
        · rw [hhigh i h hil] at hl; cases hl
      exact hlow e.on (Nat.lt_trans (back_spec hback i oi hoi e he hb) him)
    have hready : m ∈ Region.ready .any (l ++ l2).toArray listed := by
      rw [mem_ready]
      refine ⟨?_, o, by simpa using hm0, fun e he hb => hlow e.on (back_spec hback m o hm0 e he hb)⟩
      have := hhigh m (Nat.le_refl _) hmlt
      rw [Array.getD_eq_getD_getElem?] at this ⊢
      rw [Array.getElem?_eq_getElem (by omega)] at this ⊢
      exact this
    rw [List.length_cons]
    refine ⟨fun h0 => ?_, fun i hi => ?_⟩
    · rw [h0] at hready; cases hready
    · obtain ⟨hun, oi, hoi, hpre⟩ := mem_ready.1 hi
      have hoi' : (l ++ l2)[i]? = some oi := by simpa using hoi
      have hil : i < (l ++ l2).length := (List.getElem?_eq_some_iff.1 hoi').1
      have him : ¬ i < m := by
        intro h1
        have h2 := hlow i h1
        rw [Array.getD_eq_getD_getElem?, Array.getElem?_eq_getElem (by omega)] at h2 hun
        simp at h2 hun
        rw [hun] at h2
        cases h2
      have hi_eq : i = m := by
        rcases Nat.lt_or_ge m i with h1 | h1
        · have h2 := hanc listed hclo i oi hoi' (by omega) hpre m h1
          rw [hhigh m (Nat.le_refl _) hmlt] at h2
          cases h2
        · omega
      subst hi_eq
      rw [hm0] at hoi'
      injection hoi' with hoi'
      subst hoi'
      have hnext : ∀ a' w', wpListIn Fence.wide nn P (l ++ l2).toArray Q rest a' w' → wpAnyIn Fence.wide nn P .any (l ++ l2).toArray Q rest.length (listed.setIfInBounds i true) a' w' := by
        intro a' w' h'
        refine lexIn_tail hback hanc rest (i + 1) _ (by omega) (fun j => by have := hos (j + 1); simpa [Nat.add_assoc, Nat.add_comm 1 j] using this) (by simp at hml ⊢; omega) (by simpa using hs) ?_ ?_ h'
        · intro k hk
          by_cases hki : k = i
          · rw [hki, Array.getD_eq_getD_getElem?, Array.getElem?_setIfInBounds_self_of_lt (by omega)]; rfl
          · rw [getD_set_ne false (Ne.symm hki)]; exact hlow k (by omega)
        · intro k h1 h2
          rw [getD_set_ne false (by omega)]; exact hhigh k (by omega) h2
      unfold wpOpIn
      simp only [hoi]
      unfold wpListIn at h
      split at h
      · rename_i hw
        rw [if_pos hw]
        exact Oper.wpIn_mono hnext h
      · rename_i hw
        rw [if_neg hw]
        exact ⟨h.1, hnext _ _ h.2⟩
theorem typedIn_aux2 {l2 : List Oper} (hdl : l.map (·.dst) = dl) (hn : typedB l a.tmps.size = true) (ht : tailB l l2 = true) (hob : ObAll P dl Φ (dstsOf_ l) a w l Φ)
    (hQ : ∀ f w', Below w.heap.size w w' → PostOf f w' dl Φ → wpListIn Fence.wide nn P (l ++ l2).toArray Q l2 (fills (dstsOf_ l) f a) w') :
    ∀ (fuel : Nat) (listed : Array Bool) (rem : List Nat), rem.length = fuel → listed.size = (l ++ l2).length → rem.Nodup → (∀ i, i ∈ rem ↔ i < l.length ∧ listed.getD i true = false) →
      (∀ i, l.length ≤ i → i < (l ++ l2).length → listed.getD i false = false) → Closed (l ++ l2) listed →
      ∀ f w', Below w.heap.size w w' → (∀ i, i < l.length → listed.getD i false = true → factOf dl Φ f w' i) →
      wpAnyIn Fence.wide nn P .any (l ++ l2).toArray Q (fuel + l2.length) listed (fills (dstsOf_ l) f a) w' := by
  simp only [typedB, Bool.and_eq_true] at hn
  obtain ⟨⟨⟨hnd, hlt⟩, hed⟩, _⟩ := hn
  have hdlg : ∀ i : Nat, dl[i]? = (l[i]?).map (fun (o : Oper) => o.dst) := fun i => by rw [← hdl]; simp
  have hnd := of_decide_eq_true hnd
  have hlt : ∀ d ∈ dstsOf_ l, d < a.tmps.size := fun d hd => of_decide_eq_true (List.all_eq_true.1 hlt d hd)
  have hed : ∀ (i : Nat) (o : Oper), l[i]? = some o → ∀ e ∈ o.after, Region.binds .any e = true → e.on < i := by
    intro i o ho e he hb
    have h1 := List.all_eq_true.1 hed (o, i) (by
      rw [List.mem_zipIdx_iff_getElem?]; exact ho)
    have h2 := (Array.all_eq_true_iff_forall_mem.1 h1) e he
    simpa [hb] using h2
  have hanc := tail_anc ht
  have hback : backB (l ++ l2) = true := by simp only [tailB, Bool.and_eq_true] at ht; exact ht.1.1
  have hguard : guardB l = true := by simp only [tailB, Bool.and_eq_true] at ht; exact ht.1.2
  intro fuel
  induction fuel with
  | zero =>
    intro listed rem hrem hs hnr hmem hhi hcl f w' hb hf
    have hr0 : rem = [] := List.eq_nil_of_length_eq_zero hrem
    have hal : ∀ i, i < l.length → listed.getD i false = true := by
      intro i hi
      rcases hc : listed.getD i false with _ | _
      · exfalso
        have : i ∈ rem := (hmem i).2 ⟨hi, by
          rw [Array.getD_eq_getD_getElem?] at hc ⊢
          rw [Array.getElem?_eq_getElem (by rw [hs, List.length_append]; omega)] at hc ⊢
          exact hc⟩
        rw [hr0] at this
        cases this
      · rfl
    rw [Nat.zero_add]
    refine lexIn_tail (l := l) hback hanc l2 l.length listed (Nat.le_refl _) (fun j => by rw [List.getElem?_append_right (by omega)]; congr 1; omega) (by simp) hs hal hhi ?_
    refine hQ f w' hb (postOf_mk dl Φ fun i d hd => ?_)
    have hi : i < l.length := by
      have := (List.getElem?_eq_some_iff.1 hd).1
      rw [← hdl] at this
      simpa using this
    have := hf i hi (hal i hi)
    unfold factOf valOf at this
    rw [hd] at this
    cases d <;> exact this
  | succ fuel ih =>
    intro listed rem hrem hs hnr hmem hhi hcl f w' hb hf
    rw [show fuel + 1 + l2.length = (fuel + l2.length) + 1 by omega]
    refine ⟨fun h => ?_, fun i hi => ?_⟩
    · exfalso
      -- the least one that has not come up may come up
      have hno : ∀ i, i < l.length → listed.getD i false = true := by
        intro i
        induction i using Nat.strongRecOn with
        | _ i ih =>
          intro hi
          rcases hc : listed.getD i false with _ | _
          · exfalso
            have hm : i ∈ Region.ready .any (l ++ l2).toArray listed := by
              rw [mem_ready]
              refine ⟨?_, l[i], by simp [List.getElem?_append_left hi, hi], fun e he hb => ?_⟩
              · rw [Array.getD_eq_getD_getElem?] at hc ⊢
                rw [Array.getElem?_eq_getElem (by rw [hs, List.length_append]; omega)] at hc ⊢
                exact hc
              · have := hed i l[i] (by simp [hi]) e he hb
                exact ih e.on this (by omega)
            rw [h] at hm
            cases hm
          · rfl
      obtain ⟨k, hk⟩ : ∃ k, k ∈ rem := by
        cases rem with
        | nil => simp at hrem
        | cons x _ => exact ⟨x, List.mem_cons_self ..⟩
      obtain ⟨hk1, hk2⟩ := (hmem k).1 hk
      have h1 := hno k hk1
      rw [Array.getD_eq_getD_getElem?, Array.getElem?_eq_getElem (by rw [hs, List.length_append]; omega)] at h1 hk2
      simp at h1 hk2
      rw [h1] at hk2
      cases hk2
    obtain ⟨hun, o, ho, hpre⟩ := mem_ready.1 hi
    have hil : i < l.length := by
      rcases Nat.lt_or_ge i l.length with h | h
      · exact h
      · exfalso
        have hall := hanc listed hcl i o (by simpa using ho) h hpre
        obtain ⟨k, hk⟩ : ∃ k, k ∈ rem := by
          cases rem with
          | nil => simp at hrem
          | cons x _ => exact ⟨x, List.mem_cons_self ..⟩
        obtain ⟨hk1, hk2⟩ := (hmem k).1 hk
        have h1 := hall k (by omega)
        rw [Array.getD_eq_getD_getElem?, Array.getElem?_eq_getElem (by rw [hs, List.length_append]; omega)] at h1 hk2
        simp at h1 hk2
        rw [h1] at hk2
        cases hk2
    have hol : l[i]? = some o := by
      have h1 : (l ++ l2)[i]? = some o := by simpa using ho
      rwa [List.getElem?_append_left hil] at h1
    have hcl2 : Closed (l ++ l2) (listed.setIfInBounds i true) := by
      intro k ok hok hlk e he hbd
      by_cases hki : k = i
      · subst hki
        have h1 : (l ++ l2)[k]? = some o := by simpa using ho
        rw [h1] at hok
        injection hok with hok
        subst hok
        have h2 := hpre e he hbd
        by_cases hei : e.on = k
        · rw [hei] at h2 ⊢; rw [Array.getD_eq_getD_getElem?, Array.getElem?_setIfInBounds_self_of_lt (by rw [hs, List.length_append]; omega)]; rfl
        · rw [getD_set_ne false (Ne.symm hei)]; exact h2
      · rw [getD_set_ne false (Ne.symm hki)] at hlk
        have h2 := hcl k ok hok hlk e he hbd
        by_cases hei : e.on = i
        · rw [hei, Array.getD_eq_getD_getElem?, Array.getElem?_setIfInBounds_self_of_lt (by rw [hs, List.length_append]; omega)]; rfl
        · rw [getD_set_ne false (Ne.symm hei)]; exact h2
    have hhi2 : ∀ k, l.length ≤ k → k < (l ++ l2).length → (listed.setIfInBounds i true).getD k false = false := by
      intro k h1 h2
      rw [getD_set_ne false (by omega)]
      exact hhi k h1 h2
    have hp : PreOf dl Φ f w' o.after.toList := preOf_mk _ fun e he hbd => by
      have he' : e ∈ o.after := by simpa using he
      have hlist := hpre e he' hbd
      exact hf e.on (Nat.lt_trans (hed i o hol e he' hbd) hil) hlist
    have hone := obAll_get l Φ hob i o hol f w' hb hp
    have hgd := yielded_iff2 l l2 dl hdl (dstsOf_ l) f a hlt (fun d hd => by
      rw [← hdl] at hd
      obtain ⟨oo, h1, h2⟩ := List.mem_map.1 hd
      exact List.mem_filterMap.2 ⟨oo, h1, h2⟩) o.guard o rfl (fun j b hg => guard_spec hguard hol j b hg)
    -- what follows once the value is there
    have hnext : ∀ v w'', Below w'.heap.size w' w'' → (Φ.getD i default).p (dstVal o.dst v) w'' →
        wpAnyIn Fence.wide nn P .any (l ++ l2).toArray Q (fuel + l2.length) (listed.setIfInBounds i true) ((fills (dstsOf_ l) f a).put o.dst v) w'' := by
      intro v w'' hb' hv
      have hrem' : (rem.erase i).length = fuel := by
        have : i ∈ rem := (hmem i).2 ⟨hil, hun⟩
        rw [List.length_erase_of_mem this]; omega
      have hmem' : ∀ k, k ∈ rem.erase i ↔ k < l.length ∧ (listed.setIfInBounds i true).getD k true = false := by
        intro k
        rw [hnr.mem_erase_iff, hmem]
        by_cases hk : k = i
        · subst hk
          simp only [ne_eq, not_true, false_and, false_iff, not_and]
          intro hk
          rw [Array.getD_eq_getD_getElem?, Array.getElem?_setIfInBounds_self_of_lt (by rw [hs, List.length_append]; omega)]
          simp
        · rw [getD_set_ne true (Ne.symm hk)]
          simp [hk]
      have hst : ∀ k, k < l.length → k ≠ i → (listed.setIfInBounds i true).getD k false = true → listed.getD k false = true := by
        intro k _ hk h
        rw [getD_set_ne false (Ne.symm hk)] at h
        exact h
      cases hd : o.dst with
      | none =>
        show wpAnyIn Fence.wide nn P .any (l ++ l2).toArray Q (fuel + l2.length) _ (fills (dstsOf_ l) f a) w''
        refine ih _ (rem.erase i) hrem' (by simpa using hs) (hnr.erase i) hmem' hhi2 hcl2 f w'' (hb.trans (hb'.mono hb.size)) fun k hk hl => ?_
        by_cases hki : k = i
        · subst hki
          unfold factOf valOf
          rw [hdlg, hol]
          simp only [Option.map_some, hd]
          simpa [hd] using hv
        · exact (Φ.getD k default).st _ _ _ (hf k hk (hst k hk hki hl)) hb'
      | some d =>
        have hdm : d ∈ dstsOf_ l := List.mem_filterMap.2 ⟨o, List.mem_of_getElem? hol, hd⟩
        rw [fills_put _ _ _ _ _ hdm]
        refine ih _ (rem.erase i) hrem' (by simpa using hs) (hnr.erase i) hmem' hhi2 hcl2 _ w'' (hb.trans (hb'.mono hb.size)) fun k hk hl => ?_
        by_cases hki : k = i
        · subst hki
          unfold factOf valOf
          rw [hdlg, hol]
          simp only [Option.map_some, hd]
          simpa [hd] using hv
        · have h0 := (Φ.getD k default).st _ _ _ (hf k hk (hst k hk hki hl)) hb'
          unfold factOf
          have hval : valOf dl (fun t => if t = d then v else f t) k = valOf dl f k := by
            unfold valOf
            rw [hdlg]
            cases hok : l[k]? with
            | none => rfl
            | some ok =>
              cases hdk : ok.dst with
              | none => simp [hdk]
              | some dk =>
                simp only [Option.map_some, hdk]
                rw [if_neg]
                intro e
                subst e
                -- two operations with one slot
                have h3 : (dstsOf_ l).Nodup := hnd
                have : ∀ (m : List Oper) (x y : Nat) (ox oy : Oper), (m.filterMap (·.dst)).Nodup → m[x]? = some ox → m[y]? = some oy → ox.dst = some dk → oy.dst = some dk → x = y := by
                  intro m
                  induction m with
                  | nil => intro x y ox oy _ hx; simp at hx
                  | cons q m ihm =>
                    intro x y ox oy hnd hx hy hdx hdy
                    cases x with
                    | zero =>
                      cases y with
                      | zero => rfl
                      | succ y =>
                        exfalso
                        simp at hx hy
                        subst hx
                        simp only [List.filterMap_cons, hdx] at hnd
                        exact (List.nodup_cons.1 hnd).1 (List.mem_filterMap.2 ⟨oy, List.mem_of_getElem? hy, hdy⟩)
                    | succ x =>
                      cases y with
                      | zero =>
                        exfalso
                        simp at hx hy
                        subst hy
                        simp only [List.filterMap_cons, hdy] at hnd
                        exact (List.nodup_cons.1 hnd).1 (List.mem_filterMap.2 ⟨ox, List.mem_of_getElem? hx, hdx⟩)
                      | succ y =>
                        simp at hx hy
                        have : (m.filterMap (·.dst)).Nodup := by
                          simp only [List.filterMap_cons] at hnd
                          cases hq : q.dst with
                          | none => simpa [hq] using hnd
                          | some _ => simp only [hq] at hnd; exact (List.nodup_cons.1 hnd).2
                        rw [ihm x y ox oy this hx hy hdx hdy]
                exact hki (this l k i ok o h3 hok hol hdk hd)
          rw [hval]
          exact h0
    unfold wpOpIn
    simp only [ho]
    by_cases hw : Region.wanted o (yielded (l ++ l2).toArray (fills (dstsOf_ l) f a).tmps) = true
    · replace hone := hone.1 (hgd.1 hw)
      simp only [hw, if_true]
      unfold Oper.wpIn
      refine ⟨fun _ _ => trivial, ?_⟩
      show Oper.uponIn Fence.wide nn P o _ _ _ ((execOp (fills (dstsOf_ l) f a).eval o).run P w')
      rw [evalF_fills f hlt]
      generalize (execOp (evalF (dstsOf_ l) f a) o).run P w' = r at *
      cases r with
      | ok n w'' =>
        cases n <;> simp only [mildUpon] at hone <;> simp only [Oper.uponIn]
        case value u =>
          exact hnext u w'' hone.1 hone.2
        case skip =>
          refine hnext undef w'' hone.1 ?_
          cases o.dst <;> exact hone.2
        case enter f' args =>
          refine ⟨fun h => by simp [Fence.wide] at h, (callsIn_wide.2 hone).mono ?_⟩
          rintro e w3 ⟨v, rfl, hb3, hv⟩
          exact hnext v w3 hb3 hv
      | halt x w'' => simp only [mildUpon] at hone
    · replace hone := hone.2 (fun h => hw (hgd.2 h))
      simp only [hw]
      refine ⟨fun _ _ => trivial, hnext undef w' (Below.refl _ _) ?_⟩
      cases o.dst <;> exact hone

/-- THE LAW: a region that draws its order; n: how many operations come ahead of the end that waits for all. -/
theorem wpIn_region_tail {id : Nat} {L : List Oper} {ds : List Nat} (n : Nat) (dl : List (Option Nat)) (Φ : List Ph) (hdl : (L.take n).map (·.dst) = dl) (hds : dstsOf_ (L.take n) = ds) (hm : P.follows .mixedOrders = true)
    (hn : typedB (L.take n) a.tmps.size = true) (ht : tailB (L.take n) (L.drop n) = true) (hob : ObAll P dl Φ ds a w (L.take n) Φ)
    (hQ : ∀ f w', Below w.heap.size w w' → PostOf f w' dl Φ → wpListIn Fence.wide nn P L.toArray Q (L.drop n) (fills ds f a) w') : (Code.region id L.toArray true).wpIn Fence.wide nn P Q a w := by
  subst hds
  refine wpIn_region_any hm ?_
  have hL : L.take n ++ L.drop n = L := List.take_append_drop n L
  have := typedIn_aux2 (l2 := L.drop n) hdl hn ht hob (by rw [hL]; exact hQ) (L.take n).length (Array.replicate L.length false) (List.range (L.take n).length) (by simp) (by rw [hL]; simp) List.nodup_range (by
    intro i
    simp only [List.mem_range, Array.getD_eq_getD_getElem?]
    constructor
    · intro h; exact ⟨h, by
        have : i < L.length := by rw [List.length_take] at h; omega
        simp [this]⟩
    · exact fun h => h.1) (by
    intro i _ hi
    rw [hL] at hi
    simp [Array.getD_eq_getD_getElem?, hi]) (by
    intro i o _ hl
    exfalso
    simp [Array.getD_eq_getD_getElem?, Array.getElem?_replicate] at hl
    split at hl <;> simp at hl) (fun t => a.tmps.getD t undef) { w with drawn := w.drawn + 1 } ((Below.refl _ w).drew) (by
    intro i hi h
    exfalso
    simp [Array.getD_eq_getD_getElem?, Array.getElem?_replicate] at h
    split at h <;> simp at h)
  rw [fills_self, hL] at this
  have hlen : (L.take n).length + (L.drop n).length = L.toArray.size := by rw [← List.length_append, hL]; simp
  rw [hlen] at this
  exact this
end
end Go.Proofs.Ythfnikdapknohaa

namespace Go.Proofs.Ythfnikdapknohaa
set_option linter.unusedSimpArgs false
set_option linter.unusedVariables false
open Go.RowKit Go.Shelf
attribute [local go_sem] Oper.semAt_some

/-- a block of rows -/
def rowT : Obj → Prop
  | .cells _ t _ => t = 75
  | _ => False
/-- what a round keeps: all blocks of cells but block V and, from L0 on, blocks of rows -/
structure KrR (V L0 : Nat) (W W' : World) : Prop where
  size : W.heap.size ≤ W'.heap.size
  same : ∀ (k : Nat) (o : Obj), ¬ (k = V ∨ (L0 ≤ k ∧ rowT o)) → W.heap[k]? = some o → o.isCells = true → W'.heap[k]? = some o
section
variable {V L0 : Nat} {W W' W'' : World}
theorem KrR.refl (V L0 : Nat) (W : World) : KrR V L0 W W := ⟨Nat.le_refl _, fun _ _ _ h _ => h⟩
theorem KrR.trans (h : KrR V L0 W W') (k : KrR V L0 W' W'') : KrR V L0 W W'' := ⟨Nat.le_trans h.size k.size, fun i o hi h1 h2 => k.same i o hi (h.same i o hi h1 h2) h2⟩
theorem KrR.putObj (V L0 : Nat) (W : World) (l : Nat) (o o' : Obj) (ho : W.heap[l]? = some o) (hc : o.isCells = false) : KrR V L0 W (W.putObj l o') :=
  ⟨(grownBy_putObj' W l o').size, fun k q _ hk hq => by
    have hne : k ≠ l := fun e => by subst e; rw [ho] at hk; injection hk with hk; subst hk; rw [hc] at hq; cases hq
    exact ((grownBy_putObj' W l o').block k (Array.getElem?_eq_some_iff.1 hk).1 (fun e => hne (by injection e))).trans hk⟩
theorem KrR.ofGrown {row : Option Nat} (h : W.grownBy W' row) (hr : ∀ k, row = some k → k = V ∨ (L0 ≤ k ∧ ∃ o, W.heap[k]? = some o ∧ rowT o)) : KrR V L0 W W' :=
  ⟨h.size, fun k o hb hk _ => (h.block k (Array.getElem?_eq_some_iff.1 hk).1 (fun e => hb (by
    rcases hr k e.symm with h | ⟨h1, o', h2, h3⟩
    · exact .inl h
    · rw [hk] at h2; injection h2 with h2; subst h2; exact .inr ⟨h1, h3⟩))).trans hk⟩
theorem KrR.ofBelow (h : Below W.heap.size W W') : KrR V L0 W W' := KrR.ofGrown (gbelow h none) fun _ e => by cases e
theorem KrR.block (h : KrR V L0 W W') (hV : L0 ≤ V) {k : Nat} {o : Obj} (hk : k < L0) (hh : W.heap[k]? = some o) (hc : o.isCells = true) : W'.heap[k]? = some o :=
  h.same k o (fun e => by rcases e with e | e <;> omega) hh hc
theorem KrR.cell (h : KrR V L0 W W') (hV : L0 ≤ V) {p : Addr} {v : Value} (hp : W.cell? p = some v) (hk : p.block < L0) : W'.cell? p = some v := by
  cases ho : W.heap[p.block]? with
  | none => simp [World.cell?, ho] at hp
  | some o =>
    cases o with
    | cells c e fr =>
      have := h.block hV hk ho rfl
      simp only [World.cell?, ho] at hp
      simp only [World.cell?, this]
      exact hp
    | _ => simp [World.cell?, ho] at hp
theorem KrR.box {T : TypeId} {g : Nat} {cs : List Value} (h : KrR V L0 W W') (hb : BoxAt T W g cs) (hg : g ≠ V) (hT : g < L0 ∨ T ≠ 75) : BoxAt T W' g cs :=
  h.same g _ (fun e => by
    rcases e with e | ⟨e1, e2⟩
    · exact hg e
    · rcases hT with h | h
      · omega
      · exact h e2) hb rfl
theorem RowOn.krR {α : Type} {C : Cdc α} (h : KrR V L0 W W') (hV : L0 ≤ V) {v : Value} {xs : List α}
    (hC : ∀ cs x, C.at_ W (fun k => k < L0) cs x → C.at_ W' (fun k => k < L0) cs x) (hr : RowOn C W (fun k => k < L0) (fun k => k < L0) v xs) : RowOn C W' (fun k => k < L0) (fun k => k < L0) v xs := by
  obtain ⟨A, c, h1, h2, h3, h4⟩ := hr
  refine ⟨A, c, h1, h2, h3, fun hn => ?_⟩
  obtain ⟨ad, e, hb, hc⟩ := h4 hn
  refine ⟨ad, e, hb, fun i x hx => ?_⟩
  obtain ⟨cs, ha, hcs⟩ := hc i x hx
  exact ⟨cs, hC _ _ ha, fun j u hu => h.cell hV (hcs j u hu) (by rw [add_block]; exact hb)⟩
theorem krArc (h : KrR V L0 W W') (hV : L0 ≤ V) {v : Value} {xs : List GArc} (hr : RowOn cArc W (fun k => k < L0) (fun _ => True) v xs) : RowOn cArc W' (fun k => k < L0) (fun _ => True) v xs := by
  obtain ⟨A, c, h1, h2, h3, h4⟩ := hr
  refine ⟨A, c, h1, h2, h3, fun hn => ?_⟩
  obtain ⟨ad, e, hb, hc⟩ := h4 hn
  refine ⟨ad, e, hb, fun i x hx => ?_⟩
  obtain ⟨cs, ha, hcs⟩ := hc i x hx
  exact ⟨cs, ha, fun j u hu => h.cell hV (hcs j u hu) (by rw [add_block]; exact hb)⟩
theorem krCell (h : KrR V L0 W W') (hV : L0 ≤ V) {v : Value} {xs : List GCell} (hr : RowOn cCell W (fun k => k < L0) (fun _ => True) v xs) : RowOn cCell W' (fun k => k < L0) (fun _ => True) v xs := by
  obtain ⟨A, c, h1, h2, h3, h4⟩ := hr
  refine ⟨A, c, h1, h2, h3, fun hn => ?_⟩
  obtain ⟨ad, e, hb, hc⟩ := h4 hn
  refine ⟨ad, e, hb, fun i x hx => ?_⟩
  obtain ⟨cs, ha, hcs⟩ := hc i x hx
  exact ⟨cs, ha, fun j u hu => h.cell hV (hcs j u hu) (by rw [add_block]; exact hb)⟩
theorem krLines (h : KrR V L0 W W') (hV : L0 ≤ V) {v : Value} {xs : List GLine} (hr : RowOn cLine W (fun k => k < L0) (fun k => k < L0) v xs) : RowOn cLine W' (fun k => k < L0) (fun k => k < L0) v xs :=
  RowOn.krR h hV (fun cs x hx => by
    obtain ⟨va, vt, e, h1, h2⟩ := hx
    exact ⟨va, vt, e, krArc h hV h1, krCell h hV h2⟩) hr
/-- an own row of arcs stays -/
theorem krOwnA (h : KrR V L0 W W') {base : Nat} {v : Value} {xs : List GArc} (hb : V < base) (hr : OwnF 70 cArc W base v xs) : OwnF 70 cArc W' base v xs := by
  obtain ⟨css, hl, ⟨hz, h2⟩, h3, h4⟩ := hr
  refine ⟨css, hl, ⟨hz, ?_⟩, h3, fun k hk => hk.elim⟩
  rcases h2 with h2 | ⟨g, cap, cur, e, hg, hh, r⟩
  · exact .inl h2
  · exact .inr ⟨g, cap, cur, e, hg, h.same g _ (fun e => by
      rcases e with e | ⟨_, e⟩
      · omega
      · exact absurd (show (70 : Nat) = 75 from e) (by decide)) hh rfl, r⟩
end

/-- the lines of a shard: block g holds the slice of lines, all in blocks below L0 -/
def LinesAt (W : World) (L0 g : Nat) (lines : List GLine) : Prop := ∃ A c, BoxAt 94 W g [.slice A lines.length c] ∧ g < L0 ∧ lines.length ≤ c ∧ c ≤ maxLen ∧ RowOn cLine W (fun k => k < L0) (fun k => k < L0) (.slice A lines.length c) lines
theorem LinesAt.below {W W' : World} {L0 g : Nat} {lines : List GLine} (h : LinesAt W L0 g lines) (hb : Below L0 W W') : LinesAt W' L0 g lines := by
  obtain ⟨A, c, h1, h2, h3, h4, h5⟩ := h
  exact ⟨A, c, h1.below h2 hb, h2, h3, h4, h5.keep (fun p hp => hb.cell hp) (fun p hp => hb.cell hp)⟩
theorem LinesAt.kr {V L0 : Nat} {W W' : World} {g : Nat} {lines : List GLine} (h : LinesAt W L0 g lines) (hk : KrR V L0 W W') (hV : L0 ≤ V) : LinesAt W' L0 g lines := by
  obtain ⟨A, c, h1, h2, h3, h4, h5⟩ := h
  exact ⟨A, c, hk.box h1 (by omega) (.inl h2), h2, h3, h4, krLines hk hV h5⟩
theorem LinesAt.more {W : World} {L0 L1 g : Nat} {lines : List GLine} (h : LinesAt W L0 g lines) (hL : L0 ≤ L1) : LinesAt W L1 g lines := by
  obtain ⟨A, c, h1, h2, h3, h4, h5⟩ := h
  exact ⟨A, c, h1, by omega, h3, h4, h5.mono (fun _ h => by omega) (fun _ h => by omega)⟩
/-- the cells of one line -/
theorem LinesAt.line {W : World} {L0 : Nat} {A : Option Addr} {n c : Nat} {lines : List GLine} (h : RowOn cLine W (fun k => k < L0) (fun k => k < L0) (.slice A n c) lines) (k : Nat) (hk : k < lines.length) :
    ∃ ad Aa ca At ct, A = some ad ∧ ad.block < L0 ∧ (∀ (j : Nat) (u : Value), (lineC (lines[k]).1.fr.toNat (.slice Aa (lines[k]).1.arcs.length ca) (.slice At (lines[k]).2.length ct))[j]? = some u → W.cell? ((ad.add (k * 3)).add j) = some u) ∧
      ByA W L0 (.slice Aa (lines[k]).1.arcs.length ca) (lines[k]).1.arcs ∧ ByC W L0 (.slice At (lines[k]).2.length ct) (lines[k]).2 := by
  obtain ⟨ad, cs, e, hb, ⟨va, vt, rfl, hva, hvt⟩, hc⟩ := h.at_ k lines[k] (List.getElem?_eq_getElem hk)
  obtain ⟨Aa, ca, rfl, _, _⟩ := hva.form
  obtain ⟨At, ct, rfl, _, _⟩ := hvt.form
  exact ⟨ad, Aa, ca, At, ct, e, hb, fun j u hu => by rw [add_add]; exact hc j u hu, hva, hvt⟩

set_option maxHeartbeats 800000 in
theorem slen_any (w : World) (L0 g : Nat) (lines : List GLine) (h : LinesAt w L0 g lines) :
    Calls Try.prog 17 #[.pointer (some ⟨g, 0, none⟩)] w fun e w' => e = .returned (.int .i64 (lines.length : Int)) ∧ w = w' := by
  obtain ⟨A, c, h1, h2, h3, h4, h5⟩ := h
  have hc := h1.cell 0 _ rfl
  go_enter Try.func17, Try.ntmps17
  go_wp2_with fail
  go_ret
  exact ⟨rfl, rfl⟩
set_option maxHeartbeats 800000 in
theorem slen_nil (w : World) : Calls Try.prog 17 #[.pointer none] w fun e w' => e = .returned (.int .i64 0) ∧ w = w' := by
  go_enter Try.func17, Try.ntmps17
  go_wp2_with fail
  go_ret
  exact ⟨rfl, rfl⟩
set_option maxHeartbeats 800000 in
theorem srows_any (w : World) (p : Option Addr) : Calls Try.prog 46 #[.pointer p] w fun e w' => e = .returned (.func (.func 83) #[] #[.pointer (some ⟨w.heap.size, 0, none⟩)]) ∧ w' = w.alloc (.cells #[.pointer p] 30) := by
  go_enter Try.func46, Try.ntmps46
  go_wp2_with fail
  go_ret
  exact ⟨rfl, rfl⟩

/-- what is yielded: a row's number, and a copy of its arcs -/
abbrev encY (x : GRow × Value) : Array Value := #[.agg #[.int .u32 (x.1.fr.toNat : Int), x.2]]
def goodY (base : Nat) (xs : List (GRow × Value)) (W : World) : Prop := ∀ x ∈ xs, OwnF 70 cArc W base x.2 x.1.arcs
theorem goodY.kr {V L0 base : Nat} {W W' : World} {xs : List (GRow × Value)} (h : goodY base xs W) (hk : KrR V L0 W W') (hb : V < base) : goodY base xs W' := fun x hx => krOwnA hk hb (h x hx)

set_option maxRecDepth 100000 in
set_option maxHeartbeats 3200000 in
theorem rows_iter (n : Nat) (hn : 1 ≤ n) (w : World) (V L0 Bs g : Nat) (lines : List GLine) (hV : L0 ≤ V) (hVw : V < w.heap.size) (hBs : BoxAt 30 w Bs [.pointer (some ⟨g, 0, none⟩)]) (hBV : Bs ≠ V) (hl : LinesAt w L0 g lines) (hsz : rsz (rowsOf lines) ≤ 1048576) :
    Iter_ Try.prog n 83 #[.pointer (some ⟨Bs, 0, none⟩)] encY (KrR V L0) (fun x W => OwnF 70 cArc W w.heap.size x.2 x.1.arcs) (fun xs W => xs.map Prod.fst = rowsOf lines ∧ goodY w.heap.size xs W) lines.length w := by
  intro l J W hbW hJ hY h0
  have HBs := Lib.hid (hBs.below hBs.lt hbW)
  have Hl := Lib.hid (hl.below (hbW.mono (by omega)))
  have hll : lines.length ≤ 1048576 := by have := rsz_len (rowsOf lines); simp [rowsOf] at this; simp only [rowsOf] at hsz; omega
  have Hrz := Lib.hid (rsz_at (rowsOf lines))
  have hszW := hbW.size
  have HY := Lib.hid hY
  have HJ := Lib.hid hJ
  clear hBs hl hY hJ
  refine callsIn_of_wp Try.func83 rfl trivial ?_ rfl
  simp only [Try.ntmps83, List.size_toArray, List.length_cons, List.length_nil, Nat.reduceAdd, Nat.reduceSub, Array.replicate_succ, Array.replicate_zero, List.push_toArray, List.append_toArray, List.nil_append, List.cons_append]
  have hcB := HBs.out.cell 0 _ rfl
  gi_wp2
  refine ⟨trivial, ?_⟩
  refine (callsIn_wide.2 (slen_any W L0 g lines Hl.out)).mono ?_
  rintro _ _ ⟨rfl, rfl⟩
  gi_wp2
  clear hcB
  gi_loopw [7] (fun i wr => ∃ (k : Nat) (pre : List (GRow × Value)), k ≤ lines.length ∧ i = .int .i64 k ∧ pre.map Prod.fst = (rowsOf lines).take k ∧ J pre wr ∧ goodY w.heap.size pre wr ∧ KrR V L0 W wr ∧ W.heap.size ≤ wr.heap.size)
    (fun i _ => lines.length - (intOf i).toNat)
  case atStart => exact ⟨0, [], Nat.zero_le _, rfl, rfl, h0, (fun x hx => by simp at hx : goodY w.heap.size [] W), KrR.refl _ _ _, Nat.le_refl _⟩
  case round =>
    obtain ⟨k, pre, hk, rfl, hpre, hJs, hgy, hkr, hsz2⟩ := hrel
    have Hpre := Lib.hid hpre
    have HJs := Lib.hid hJs
    have Hgy := Lib.hid hgy
    have Hkr := Lib.hid hkr
    clear hpre hJs hgy hkr
    by_cases hlt : k < lines.length
    · have HBs2 := Lib.hid (Hkr.out.box HBs.out hBV (.inr (by decide)))
      have Hl2 := Lib.hid (Hl.out.kr Hkr.out hV)
      obtain ⟨A, c, hbx, hgL, hlc, hcm, hrow⟩ := Hl2.out
      have hcs := HBs2.out.cell 0 _ rfl
      have hcg := hbx.cell 0 _ rfl
      obtain ⟨ad, Aa, ca, At, ct, rfl, hab, hcl, hya, hyt⟩ := LinesAt.line hrow k hlt
      have hal := Hrz.out k (by simpa [rowsOf] using hlt)
      have hal2 : (lines[k]).1.arcs.length ≤ 1048576 := by simp only [rowsOf, List.getElem_map] at hal; simp only [rowsOf] at hsz; omega
      have Hpk : Hid ((rowsOf lines).take (k + 1) = (rowsOf lines).take k ++ [(lines[k]).1]) := Lib.hid (by
        rw [List.take_add_one, List.getElem?_eq_getElem (by simpa [rowsOf] using hlt)]
        simp [rowsOf])
      have Hcl := Lib.hid hcl
      have Hya := Lib.hid hya
      clear hcl hya hyt hal hbx hrow hlc
      generalize lines[k] = r at *
      gi_wp2_with (first
        | (refine wpListIn_load_agg rfl 98 (.tmp 15) rfl (ad.add (k * 3)) rfl (lineC r.1.fr.toNat (.slice Aa r.1.arcs.length ca) (.slice At r.2.length ct)) Hcl.out Try.underlying98 rfl infoLine2 ?_)
        | (refine wpListIn_alloc_z rfl 98 rfl infoLine [.int .u32 0, .slice none 0 0, .slice none 0 0] rfl ?_)
        | (refine wpListIn_store_new rfl 98 (.tmp 4) (.tmp 16) rfl [.int .u32 0, .slice none 0 0, .slice none 0 0] (lineC r.1.fr.toNat (.slice Aa r.1.arcs.length ca) (.slice At r.2.length ct)) rfl rfl infoLine2 rfl (lineC_one _ _ _ _ _ _ _) ?_))
      simp only [Act.put, List.setIfInBounds_toArray, List.set_cons_zero, List.set_cons_succ]
      have hb5 := balloc wr (.cells (lineC r.1.fr.toNat (.slice Aa r.1.arcs.length ca) (.slice At r.2.length ct)).toArray 98)
      have Hgl := Lib.hid (BoxAt.new_ 98 wr (lineC r.1.fr.toNat (.slice Aa r.1.arcs.length ca) (.slice At r.2.length ct)))
      have Hya5 := Lib.hid ((Hya.out.below (hb5.mono (by omega))).more (B' := (wr.alloc (.cells (lineC r.1.fr.toNat (.slice Aa r.1.arcs.length ca) (.slice At r.2.length ct)).toArray 98)).heap.size) (by have := hb5.size; omega))
      have hsz5 := hb5.size
      have Hb5 := Lib.hid hb5
      clear hb5 Hcl Hya
      generalize wr.alloc (.cells (lineC r.1.fr.toNat (.slice Aa r.1.arcs.length ca) (.slice At r.2.length ct)).toArray 98) = w5 at *
      have Hya := Hya5
      clear Hya5 hcs hcg
      generalize hgl : wr.heap.size = gl at *
      refine wpIn_region_tail (ds := [17, 18, 19, 20, 21, 22, 23, 24, 25]) 9 [some 17, some 18, some 19, some 20, some 21, some 22, some 23, some 24, some 25]
        [Ph.is (.func (.yield l) #[] #[]),
          Ph.is (.pointer (some ⟨gl, 0, none⟩)),
          Ph.is (.pointer (some ⟨gl, 0, none⟩)),
          Ph.is (.int .u32 (r.1.fr.toNat : Int)),
          Ph.is (.pointer (some ⟨gl, 0, none⟩)),
          Ph.is (.pointer (some ⟨gl, 1, none⟩)),
          Ph.is (.slice Aa r.1.arcs.length ca),
          Ph.ownA w5.heap.size r.1.arcs,
          Ph.rowA r.1.fr.toNat w5.heap.size r.1.arcs] rfl rfl (by kernel_rfl) (by kernel_rfl) (by kernel_rfl) ?_ ?_
      · refine ⟨?_, ?_, ?_, ?_, ?_, ?_, ?_, ?_, ?_, trivial⟩
        · -- 0: slot 17 := Op.move t0
          refine ob_yes fun f w' hb hp => ?_
          simp [PreOf, factOf, valOf, Ph.is, Ph.by_, Ph.any, Region.binds, Ph.ownA, Ph.rowA] at hp
          refine ⟨by simp [Gd, valOf, hp], ?_⟩
          refine mild_val (.func (.yield l) #[] #[]) ?_ rfl
          simp [execOp, evalF, hp]
        · -- 1: slot 18 := Op.fieldAddr 98 t4 0
          refine ob_yes fun f w' hb hp => ?_
          simp [PreOf, factOf, valOf, Ph.is, Ph.by_, Ph.any, Region.binds, Ph.ownA, Ph.rowA] at hp
          refine ⟨by simp [Gd, valOf, hp], ?_⟩
          refine mild_val (.pointer (some ⟨gl, 0, none⟩)) ?_ rfl
          simp [execOp, evalF, hp, go_sem]
        · -- 2: slot 19 := Op.fieldAddr 75 t18 0
          refine ob_yes fun f w' hb hp => ?_
          simp [PreOf, factOf, valOf, Ph.is, Ph.by_, Ph.any, Region.binds, Ph.ownA, Ph.rowA] at hp
          refine ⟨by simp [Gd, valOf, hp], ?_⟩
          refine mild_val (.pointer (some ⟨gl, 0, none⟩)) ?_ rfl
          simp [execOp, evalF, hp, go_sem]
        · -- 3: slot 20 := Op.load 51 t19
          refine ob_yes fun f w' hb hp => ?_
          simp [PreOf, factOf, valOf, Ph.is, Ph.by_, Ph.any, Region.binds, Ph.ownA, Ph.rowA] at hp
          refine ⟨by simp [Gd, valOf, hp], ?_⟩
          have hc := (Hgl.out.below Hgl.out.lt hb).cell 0 _ rfl
          refine mild_val (.int .u32 (r.1.fr.toNat : Int)) ?_ rfl
          simp [execOp, evalF, hp, hc, go_sem]
        · -- 4: slot 21 := Op.fieldAddr 98 t4 0
          refine ob_yes fun f w' hb hp => ?_
          simp [PreOf, factOf, valOf, Ph.is, Ph.by_, Ph.any, Region.binds, Ph.ownA, Ph.rowA] at hp
          refine ⟨by simp [Gd, valOf, hp], ?_⟩
          refine mild_val (.pointer (some ⟨gl, 0, none⟩)) ?_ rfl
          simp [execOp, evalF, hp, go_sem]
        · -- 5: slot 22 := Op.fieldAddr 75 t21 1
          refine ob_yes fun f w' hb hp => ?_
          simp [PreOf, factOf, valOf, Ph.is, Ph.by_, Ph.any, Region.binds, Ph.ownA, Ph.rowA] at hp
          refine ⟨by simp [Gd, valOf, hp], ?_⟩
          refine mild_val (.pointer (some ⟨gl, 1, none⟩)) ?_ rfl
          simp [execOp, evalF, hp, go_sem]
        · -- 6: slot 23 := Op.load 65 t22
          refine ob_yes fun f w' hb hp => ?_
          simp [PreOf, factOf, valOf, Ph.is, Ph.by_, Ph.any, Region.binds, Ph.ownA, Ph.rowA] at hp
          refine ⟨by simp [Gd, valOf, hp], ?_⟩
          have hc := (Hgl.out.below Hgl.out.lt hb).cell 1 _ rfl
          refine mild_val (.slice Aa r.1.arcs.length ca) ?_ rfl
          simp [execOp, evalF, hp, hc, go_sem]
        · -- 7: slot 24 := Op.call   value (Operand.func 69), args := #[t23], argTypes := #[65]  
          refine ob_yes fun f w' hb hp => ?_
          simp [PreOf, factOf, valOf, Ph.is, Ph.by_, Ph.any, Region.binds, Ph.ownA, Ph.rowA] at hp
          refine ⟨by simp [Gd, valOf, hp], ?_⟩
          refine mild_call 69 _ _ Try.f69 Try.func69 (by kernel_rfl) (by kernel_rfl) rfl ?_
          simp [evalF, hp, Ph.is, Ph.by_, Ph.any, Ph.ownA, Ph.rowA]
          refine (cloneA w' _ r.1.arcs ((Hya.out.below hb).more hb.size) (by omega)).mono ?_
          rintro _ w7 ⟨v7, rfl, ho, hb7⟩
          exact ⟨_, rfl, hb7, ho.more hb.size⟩
        · -- 8: slot 25 := Op.build 75 #[(0, t20), (1, t24)]
          refine ob_yes fun f w' hb hp => ?_
          simp [PreOf, factOf, valOf, Ph.is, Ph.by_, Ph.any, Region.binds, Ph.ownA, Ph.rowA] at hp
          refine ⟨by simp [Gd, valOf, hp], ?_⟩
          obtain ⟨hp0, hp1⟩ := hp
          obtain ⟨A7, c7, e7, _, _, _⟩ := hp1.form'
          refine mild_val (.agg #[.int .u32 (r.1.fr.toNat : Int), .slice A7 r.1.arcs.length c7]) ?_ ⟨_, rfl, e7 ▸ hp1⟩
          simp [execOp, evalF, hp0, e7, go_sem]
      · intro f w2 hb2 hp
        simp only [PostOf, Ph.is, Ph.by_, Ph.any, Ph.ownA, Ph.rowA] at hp
        obtain ⟨h0, h1, h2, h3, h4, h5, h6, h7, h8, _⟩ := hp
        simp only [fills, List.foldl_cons, List.foldl_nil, Act.put, List.setIfInBounds_toArray, List.set_cons_zero, List.set_cons_succ, h0, h1, h2, h3, h4, h5, h6]
        clear h0 h1 h2 h3 h4 h5 h6
        generalize f 24 = v24 at *
        generalize f 25 = v25 at *
        simp only [List.drop_succ_cons, List.drop_zero]
        obtain ⟨u, hu, hou⟩ := h8
        obtain ⟨Au, cu, rfl, _, _, _⟩ := hou.form'
        subst hu
        have hbr : Below wr.heap.size wr w2 := by rw [hgl]; exact Hb5.out.trans (hb2.mono hsz5)
        have Hou := Lib.hid (hou.more (base' := w.heap.size) (by omega))
        have hJ2 := HJ.out pre wr w2 none HJs.out (gbelow hbr none) (fun r e => by cases e)
        obtain ⟨fn, tmps, assign, body, hy, hR⟩ := HY.out pre (r.1, .slice Au r.1.arcs.length cu) w2 hJ2 Hou.out (by have := congrArg List.length Hpre.out; simp [rowsOf] at this; omega)
        have Hgy2 := Lib.hid (fun (x : GRow × Value) hx => (Hgy.out x hx).below_ hbr)
        have Hkr2 := Lib.hid (Hkr.out.trans (KrR.ofBelow hbr))
        have hsz22 := hbr.size
        dsimp only [encY] at hy
        clear Hgl Hb5 hbr hb2 hou h7 hJ2
        gi_wp2
        refine hR.mono ?_
        rintro e W3 ⟨rfl, hJ3, hk3⟩
        have Hk3 := Lib.hid (Hkr2.out.trans hk3)
        have HJ3 := Lib.hid hJ3
        have Hg3 : Hid (goodY w.heap.size (pre ++ [(r.1, .slice Au r.1.arcs.length cu)]) W3) := Lib.hid (goodY.kr (W := w2) (fun x hx => by
          rcases List.mem_append.1 hx with h | h
          · exact Hgy2.out x h
          · simp at h; subst h; exact Hou.out) hk3 hVw)
        have hs3 := hk3.size
        have Hp3 : Hid ((pre ++ [(r.1, Value.slice Au r.1.arcs.length cu)]).map Prod.fst = (rowsOf lines).take (k + 1)) := Lib.hid (by rw [List.map_append, Hpre.out, Hpk.out]; rfl)
        clear hR hy hk3 hJ3 Hou Hgy2
        gi_wp2
        go_roundw
        case rel => exact ⟨k + 1, _, by omega, by go_num, Hp3.out, HJ3.out, Hg3.out, Hk3.out, by omega⟩
        case measure => simp [intOf]; omega
    · obtain rfl : k = lines.length := by omega
      have hpe : pre.map Prod.fst = rowsOf lines := by rw [Hpre.out, List.take_of_length_le (by simp [rowsOf])]
      have Hpe := Lib.hid hpe
      clear hpe
      gi_wp2
      go_end0
      exact ⟨⟨_, rfl⟩, pre, ⟨Hpe.out, Hgy.out⟩, HJs.out⟩
end Go.Proofs.Ythfnikdapknohaa

namespace Go.Proofs.Ythfnikdapknohaa
set_option linter.unusedSimpArgs false
set_option linter.unusedVariables false
open Go.RowKit Go.Shelf
attribute [local go_sem] Oper.semAt_some

theorem OwnR.ownk {α : Type} {E : TypeId} {C : Cdc α} {X Y : World} {base : Nat} {v : Value} {xs : List α} {row : Option Nat} (h : OwnF E C X base v xs) (hg : X.grownBy Y row) (hr : ∀ r, row = some r → ∃ o : Obj, X.heap[r]? = some o ∧ o.isCells = false) : OwnF E C Y base v xs := by
  have h0 := h
  obtain ⟨css, hl, ⟨hz, h2⟩, h3, h4⟩ := h0
  refine h.keep hg ?_ (fun _ h => h.elim)
  rcases h2 with ⟨rfl, _⟩ | ⟨g, cap, cur, rfl, _, hh, _⟩
  · exact .inl rfl
  · refine .inr fun e => ?_
    obtain ⟨o, ho, hc⟩ := hr g e.symm
    rw [hh] at ho
    injection ho with ho
    subst ho
    cases hc
/-- an own row's block holds such things -/
theorem OwnR.blkT {α : Type} {E : TypeId} {C : Cdc α} {X : World} {base : Nat} {v : Value} {xs : List α} (h : OwnF E C X base v xs) : ∀ q, v.ownBlock = some q → ∃ cur, X.heap[q]? = some (.cells cur E (0, 0)) := by
  obtain ⟨css, hl, ⟨hz, h2⟩, h3, h4⟩ := h
  rcases h2 with ⟨rfl, _⟩ | ⟨g, cap, cur, rfl, _, hh, _⟩
  · intro q hq; simp [Value.ownBlock] at hq
  · intro q hq
    have e : g = q := by injection hq
    subst e
    exact ⟨cur, hh⟩
section
variable {F : Fence} {n : Nat} {ops : Array Oper} {rest : List Oper} {o : Oper} {a : Act} {w : World} {Q : Exit → Act → World → Prop}
theorem wpListIn_slice_row (hgd : o.guard = none) (x : Operand) (ho : o.op = .buildSlice 22 1 #[(0, x)]) (u1 u2 : Value) (hx : a.eval x = .agg #[u1, u2]) (h1 : u1.oneCell' = true)
    (h : wpListIn F n Try.prog ops Q rest (a.put o.dst (.slice (some ⟨w.heap.size, 0, none⟩) 1 1)) (w.alloc (.cells #[u1, u2] 75))) : wpListIn F n Try.prog ops Q (o :: rest) a w :=
  wpListIn_plain hgd fun K hK => by
    unfold Oper.wpIn
    refine ⟨by simp [Oper.about, ho], ?_⟩
    rw [Oper.semAt_plain F _ _ (by rw [ho]; intro c hc'; cases hc')]
    have hr := run_slice_row w u1 u2 h1
    unfold execOp
    simp only [ho, List.map_toArray, List.map_cons, List.map_nil, hx, Sem.run_bind, hr, Result.andThen_ok]
    exact hK _ _ h
theorem wpListIn_app1R {α : Type} {E : TypeId} {C : Cdc α} {S : Nat → Prop} (hgd : o.guard = none) (s x : Operand) (t : TypeId)
    (ho : o.op = .call { callee := .builtin .append, args := #[s, x], argTypes := #[t, t] })
    (ht : Try.prog.underlying t = some (.slice E)) {z : Value} {bytes : Nat} (hinfo : (Try.prog.info? E).map (fun i => (i.zero, i.size, i.bytes)) = some (some z, C.n, bytes)) (hz2 : z.cells.size = C.n) (hn0 : 0 < C.n) (hb0 : bytes ≤ 256)
    {base : Nat} {v : Value} {xs : List α} {y : α} (cs : List Value) (hown : OwnR E C w base S v xs) (hy : C.at_ w S cs y) (hs : a.eval s = v) (hx : a.eval x = .slice (some ⟨w.heap.size, 0, none⟩) 1 1)
    (hsz : xs.length ≤ 549755813887) (hbase : base ≤ w.heap.size)
    (h : ∀ v' w', OwnR E C w' base S v' (xs ++ [y]) → Ext w w' v v' → wpListIn F n Try.prog ops Q rest (a.put o.dst v') w') : wpListIn F n Try.prog ops Q (o :: rest) a (w.alloc (.cells cs.toArray E)) :=
  wpListIn_plain hgd fun K hK => by
    unfold Oper.wpIn
    refine ⟨by simp [Oper.about, ho, resolve, Target.leads], ?_⟩
    rw [Oper.semAt_plain F _ _ (by rw [ho]; intro c hc'; cases hc')]
    obtain ⟨v', w', hr, h1, h2⟩ := exec_app1R (C := C) (ρ := a.eval) (o := o) s x t ho ht hinfo hz2 hn0 hb0 cs hown hy hs hx hsz hbase
    rw [hr]
    exact hK _ _ (h v' w' h1 h2)
theorem wpListIn_store_sl (hgd : o.guard = none) (x y : Operand) (ho : o.op = .store 22 x y) (g off : Nat) (A : Option Addr) (m c : Nat) (old : Value) (hx : a.eval x = .pointer (some ⟨g, off, none⟩)) (hy : a.eval y = .slice A m c)
    (hc : w.cell? ⟨g, off, none⟩ = some old) (hf : w.frozen? ⟨g, off, none⟩ = false)
    (h : wpListIn F n Try.prog ops Q rest (a.put o.dst undef) (w.setCell ⟨g, off, none⟩ (.slice A m c))) : wpListIn F n Try.prog ops Q (o :: rest) a w :=
  wpListIn_plain hgd fun K hK => by
    unfold Oper.wpIn
    refine ⟨by simp [Oper.about, ho], ?_⟩
    rw [Oper.semAt_plain F _ _ (by rw [ho]; intro c hc'; cases hc')]
    have hr : (execOp a.eval o).run Try.prog w = .ok .skip (w.setCell ⟨g, off, none⟩ (.slice A m c)) := by
      unfold execOp
      simp only [ho, hx, hy]
      simp [go_sem, hc, hf]
    rw [hr]
    exact hK _ _ h
end
/-- the value reads as these rows, all in blocks from base on -/
abbrev RowsF (w : World) (base : Nat) (v : Value) (l : List GRow) : Prop := RowOn cRow w (fun k => base ≤ k ∧ k < w.heap.size) (fun k => base ≤ k ∧ k < w.heap.size) v l
theorem RowsF.byR {w : World} {base : Nat} {v : Value} {l : List GRow} (h : RowsF w base v l) : ByRw w w.heap.size v l := h.mono (fun _ h => h.2) (fun _ h => h.2)
def rawY (x : GRow × Value) : Value × Value := (.int .u32 (x.1.fr.toNat : Int), x.2)
theorem rowsOfRaw {W : World} {base : Nat} {va : Value} {xs : List (GRow × Value)} (h : OwnF 75 cRaw W base va (xs.map rawY)) {b2 : Nat} (hb : base ≤ b2) (hg : goodY b2 xs W) : RowsF W base va (xs.map Prod.fst) := by
  obtain ⟨A, c, e, h1, h2, h3⟩ := h.row
  refine ⟨A, c, by simpa using e, by simpa using h1, h2, fun hn => ?_⟩
  obtain ⟨ad, e1, hO, hc⟩ := h3 (by simpa using hn)
  refine ⟨ad, e1, hO, fun i x hx => ?_⟩
  rw [List.getElem?_map] at hx
  obtain ⟨y, hy, rfl⟩ := Option.map_eq_some_iff.1 hx
  obtain ⟨cs, ⟨rfl, _, _⟩, hcs⟩ := hc i (rawY y) (by rw [List.getElem?_map, hy]; rfl)
  refine ⟨_, ⟨y.2, rfl, ?_⟩, hcs⟩
  exact (hg y (List.mem_of_getElem? hy)).row.mono (fun _ h => ⟨by omega, h.2⟩) (fun _ h => h.elim)

theorem func_not_nil_ (d : Nat) (W : World) (fn : Fn) (bs : Array Value) : (Op.equalIn (d + 1) 101 (.func fn #[] bs) .nilFunc).run Try.prog W = .ok false W := by
  have hu : Try.prog.underlying 101 = some (.func #[150] #[] false) := by kernel_rfl
  unfold Op.equalIn
  simp [Sem.run_bind, run_underlying hu, go_sem]
theorem func_not_nil (W : World) (fn : Fn) (bs : Array Value) : (binOp .eql 101 (.func fn #[] bs) .nilFunc).run Try.prog W = .ok (.bool false) W := by
  have h := func_not_nil_ 9999 W fn bs
  have e : (binOp .eql 101 (.func fn #[] bs) .nilFunc).run Try.prog W = ((Op.equalIn (9999 + 1) 101 (.func fn #[] bs) .nilFunc).run Try.prog W).andThen fun a w' => .ok (.bool a) w' := by
    simp [binOp, go_sem, Op.equal, Op.maxDepth]
  rw [e, h]
  rfl
set_option maxRecDepth 100000 in
set_option maxHeartbeats 3200000 in
theorem lrows_any (w : World) (L0 g : Nat) (lines : List GLine) (h : LinesAt w L0 g lines) (hL : L0 ≤ w.heap.size) (hsz : rsz (rowsOf lines) ≤ 1048576) :
    Calls Try.prog 19 #[.pointer (some ⟨g, 0, none⟩)] w fun e w' => ∃ v', e = .returned v' ∧ RowsF w' w.heap.size v' (rowsOf lines) ∧ Below w.heap.size w w' := by
  have hfn := func_not_nil
  obtain ⟨w3, hw3⟩ : ∃ w3, ((w.alloc (.cells #[] 75)).alloc (.cells #[.slice (some ⟨w.heap.size, 0, none⟩) 0 0] 22)).alloc (.cells #[.pointer (some ⟨g, 0, none⟩)] 30) = w3 := ⟨_, rfl⟩
  have hb3 : Below w.heap.size w w3 := by rw [← hw3]; exact bstep (bstep (balloc _ _) (balloc _ _)) (balloc _ _)
  have hz3 : w3.heap.size = w.heap.size + 1 + 1 + 1 := by rw [← hw3]; simp
  have hV3 : BoxAt 22 w3 (w.heap.size + 1) [.slice (some ⟨w.heap.size, 0, none⟩) 0 0] := by
    rw [← hw3]
    have := (BoxAt.new_ 22 (w.alloc (.cells #[] 75)) [.slice (some ⟨w.heap.size, 0, none⟩) 0 0]).alloc (.cells #[.pointer (some ⟨g, 0, none⟩)] 30)
    simpa using this
  have hB3 : BoxAt 30 w3 (w.heap.size + 1 + 1) [.pointer (some ⟨g, 0, none⟩)] := by
    rw [← hw3]
    have := BoxAt.new_ 30 ((w.alloc (.cells #[] 75)).alloc (.cells #[.slice (some ⟨w.heap.size, 0, none⟩) 0 0] 22)) [.pointer (some ⟨g, 0, none⟩)]
    simpa using this
  have ho3 : OwnF 75 cRaw w3 w.heap.size (.slice (some ⟨w.heap.size, 0, none⟩) 0 0) [] := by
    rw [← hw3]
    exact (((OwnR.new_ (xs := ([] : List (Value × Value))) (S := fun _ => False) w [] rfl (by simp) (fun i cs x h => by simp at h) (fun _ h => h.elim)).alloc _).alloc _)
  have Hl3 := Lib.hid ((h.below (hb3.mono hL)).more hL)
  have Hb3 := Lib.hid hb3
  have HV3 := Lib.hid hV3
  have HB3 := Lib.hid hB3
  have Ho3 := Lib.hid ho3
  clear hb3 hV3 hB3 ho3 h
  have hll : (rowsOf lines).length ≤ 1048576 := by have := rsz_len (rowsOf lines); omega
  have hlln : lines.length ≤ 1048576 := by simpa [rowsOf] using hll
  refine (callsIn_wide (n := 5)).1 ?_
  refine callsIn_of_wp_marks Try.func19 rfl trivial ?_ rfl
  simp only [Try.ntmps19, List.size_toArray, List.length_cons, List.length_nil, Nat.reduceAdd, Nat.reduceSub, Array.replicate_succ, Array.replicate_zero, List.push_toArray, List.append_toArray, List.nil_append, List.cons_append]
  gi_wp2
  refine ⟨trivial, ?_⟩
  refine (callsIn_wide.2 (srows_any _ _)).mono ?_
  rintro _ _ ⟨rfl, rfl⟩
  gi_wp2
  try rw [hw3]
  clear hw3
  refine range_all (gf := 83) (lb := #[.pointer (some ⟨w.heap.size + 1 + 1, 0, none⟩)]) rfl (enters_of Try.func83 (by kernel_rfl) rfl) (Kr := KrR (w.heap.size + 1) w.heap.size) (fun h k => h.trans k) (fun W q o o' h1 h2 => KrR.putObj _ _ W q o o' h1 h2)
    (fun _ => rfl) (rows_iter 4 (by omega) w3 (w.heap.size + 1) w.heap.size (w.heap.size + 1 + 1) g lines (by omega) (by omega) HB3.out (by omega) Hl3.out hsz)
    (fun pre W => (∃ va, BoxAt 22 W (w.heap.size + 1) [va] ∧ OwnF 75 cRaw W w.heap.size va (pre.map rawY) ∧ w3.heap.size ≤ W.heap.size) ∧ Below w.heap.size w W)
    (OwnFrom.and (Own.from (fun s X Y row hs hg hr => by obtain ⟨va, i1, i2, i3⟩ := hs; exact ⟨va, i1.ownk hg hr, OwnR.ownk i2 hg hr, Nat.le_trans i3 hg.size⟩) _) (ownFrom_below (Nat.le_refl _) (by omega)))
    (fun s X Y row hs hg hr => ⟨hs.1, fun x hx => OwnR.ownk (hs.2 x hx) hg (fun r e => (hr r e).2)⟩)
    ⟨⟨_, HV3.out, Ho3.out, Nat.le_refl _⟩, Hb3.out⟩
    (fun _ pre x a' W => ((∃ va, BoxAt 22 W (w.heap.size + 1) [va] ∧ OwnF 75 cRaw W w.heap.size va (pre.map rawY) ∧ w3.heap.size ≤ W.heap.size) ∧ Below w.heap.size w W) ∧ x.2.oneCell' = true ∧ ∃ Bx, w3.heap.size ≤ Bx ∧ BoxAt 75 W Bx [.int .u32 (x.1.fr.toNat : Int), x.2] ∧
      a' = { tmps := #[.pointer (some ⟨g, 0, none⟩), undef, .slice none 0 0, .pointer (some ⟨w.heap.size + 1, 0, none⟩), .func (.func 83) #[] #[.pointer (some ⟨w.heap.size + 1 + 1, 0, none⟩)], .pointer (some ⟨Bx, 0, none⟩), .slice (some ⟨w.heap.size, 0, none⟩) 0 0, .pointer (some ⟨g, 0, none⟩),
        .func (.func 83) #[] #[.pointer (some ⟨w.heap.size + 1 + 1, 0, none⟩)], .func (.func 83) #[] #[.pointer (some ⟨w.heap.size + 1 + 1, 0, none⟩)], .bool false, undef, .func (.func 83) #[] #[.pointer (some ⟨w.heap.size + 1 + 1, 0, none⟩)], .agg #[.int .u32 (x.1.fr.toNat : Int), x.2], undef, undef, undef, undef, undef], defers := [] })
    (fun pre x a' _ X Y row hs hg hr => by
      obtain ⟨⟨⟨va, i1, i2, i3⟩, i4⟩, i5, Bx, i6, i7, i8⟩ := hs
      have hr' := fun r e => (hr r e).2
      exact ⟨⟨⟨va, i1.ownk hg hr', OwnR.ownk i2 hg hr', Nat.le_trans i3 hg.size⟩, ownFrom_below (Nat.le_refl _) (by omega) () X Y row i4 hg hr⟩, i5, Bx, i6, i7.ownk hg hr', i8⟩)
    ?assign ?body ?done
  case assign =>
    rintro lq pre x W hlq ⟨⟨va, i1, i2, i3⟩, i4⟩ hR
    obtain ⟨Ax, cx, hx2, _, _, _⟩ := hR.form'
    obtain ⟨r, xv⟩ := x
    simp only at hx2
    subst hx2
    have hone := rowC_one r.fr.toNat Ax r.arcs.length cx
    have Hone := Lib.hid hone
    clear hone hR
    dsimp only [encY]
    gi_wp2_with (first
      | (refine wpListIn_alloc_z rfl 75 rfl infoRow [.int .u32 0, .slice none 0 0] rfl ?_)
      | (refine wpListIn_store_new rfl 75 (.tmp 5) (.tmp 13) rfl [.int .u32 0, .slice none 0 0] [.int .u32 (r.fr.toNat : Int), .slice Ax r.arcs.length cx] rfl rfl infoRow2 rfl Hone.out ?_))
    exact ⟨(KeepsOthers.alloc _ _).from _, KrR.ofBelow (balloc _ _), ⟨⟨va, i1.alloc _, i2.alloc _, by omega⟩, i4.alloc i4.size _⟩, rfl, by omega, BoxAt.new_ 75 W [.int .u32 (r.fr.toNat : Int), .slice Ax r.arcs.length cx]⟩
  case body =>
    rintro lq pre x a' W hlq ⟨⟨⟨va, i1, i2, i3⟩, i4⟩, i5, Bx, i6, i7, rfl⟩ hlen
    obtain ⟨r, xv⟩ := x
    simp only at i5 i7
    have hlm : (pre.map rawY).length = pre.length := List.length_map ..
    obtain ⟨Av, cv, rfl, _, _, _⟩ := i2.form'
    have hneV : Value.ownBlock (.slice Av (pre.map rawY).length cv) ≠ some (w.heap.size + 1) := fun e => by
      obtain ⟨cur, hcur⟩ := i2.blkT _ e
      have : W.heap[w.heap.size + 1]? = _ := i1
      rw [hcur] at this
      injection this with this
      injection this with _ h2 _
      exact absurd h2 (by decide)
    rw [hlm] at i1 i2 hneV
    have hcV := i1.cell 0 _ rfl
    have I1 := Lib.hid i1
    have I2 := Lib.hid i2
    have I4 := Lib.hid i4
    have I7 := Lib.hid i7
    have HneV := Lib.hid hneV
    have h4s := i4.size
    clear i1 i2 i4 i7 hneV
    gi_wp2_with (first
      | (refine wpListIn_load_agg (o := { dst := some 15, op := .load 75 (.tmp 5), type := _, pos := _, after := _, guard := none }) rfl 75 (.tmp 5) rfl ⟨Bx, 0, none⟩ rfl [.int .u32 (r.fr.toNat : Int), xv] I7.out.cells Try.underlying75 rfl infoRow2 ?_)
      | (refine wpListIn_slice_row (o := { dst := some 16, op := .buildSlice 22 1 #[(0, .tmp 15)], type := _, pos := _, after := _, guard := none }) rfl (.tmp 15) rfl (.int .u32 (r.fr.toNat : Int)) xv rfl rfl ?_)
      | (refine wpListIn_app1R (C := cRaw) (o := { dst := some 17, op := .call { callee := .builtin .append, args := #[.tmp 14, .tmp 16], argTypes := #[22, 22] }, type := _, pos := _, after := _, guard := none }) rfl (.tmp 14) (.tmp 16) 22 rfl Try.underlying22 infoRow (by kernel_rfl) (by decide) (by decide) [.int .u32 (r.fr.toNat : Int), xv] I2.out (y := (Value.int .u32 (r.fr.toNat : Int), xv)) ⟨rfl, rfl, i5⟩ rfl rfl (by rw [hlm]; omega) h4s ?_
         intro v6 w6 ho6 hx6
         have hV6 := I1.out.grown hx6.gr HneV.out
         obtain ⟨A6, c6, rfl, _, _, _⟩ := ho6.form'
         have hl6 : (pre.map rawY ++ [((Value.int .u32 (r.fr.toNat : Int)), xv)]).length = pre.length + 1 := by simp
         rw [hl6] at ho6 hx6
         have hcV6 := hV6.cell 0 _ rfl
         have hfV6 := hV6.frozen 0
         have Ho6 := Lib.hid ho6
         have Hx6 := Lib.hid hx6
         have HV6 := Lib.hid hV6
         clear ho6 hx6 hV6
         rw [hl6]
         refine wpListIn_store_sl rfl (.tmp 3) (.tmp 17) rfl (w.heap.size + 1) 0 A6 (pre.length + 1) c6 _ rfl rfl hcV6 hfV6 ?_))
    have h6s := Hx6.out.gr.size
    have hne6 := Hx6.out.ne (g := w.heap.size + 1) (by omega) HneV.out
    have hss : (w6.setCell ⟨w.heap.size + 1, 0, none⟩ (.slice A6 (pre.length + 1) c6)).heap.size = w6.heap.size := by simp [World.setCell]
    have hput := HV6.out.put 0 (.slice A6 (pre.length + 1) c6)
    refine ⟨⟨?_, fun k o hk ho hc => ?_⟩, ?_, ⟨.slice A6 (pre.length + 1) c6, hput, ?_, ?_⟩, ?_⟩
    · have := h6s; simp only [World.setCell, Array.size_modify]; exact this
    · refine (Below.heap_setCell _ _ _ k (by show k ≠ w.heap.size + 1; omega)).trans ((Hx6.out.gr.block k (Array.getElem?_eq_some_iff.1 ho).1 fun e => ?_).trans ho)
      obtain ⟨cur, hcur⟩ := I2.out.blkT k e.symm
      rw [ho] at hcur
      injection hcur with hcur
      subst hcur
      cases hc
    · refine KrR.trans (KrR.ofGrown Hx6.out.gr fun k e => .inr ?_) (KrR.ofGrown (gset w6 ⟨w.heap.size + 1, 0, none⟩ _) fun k e => .inl (by injection e with e; exact e.symm))
      obtain ⟨cur, hcur⟩ := I2.out.blkT k e
      exact ⟨(I2.out.blk k e).1, _, hcur, rfl⟩
    · exact Ho6.out.keep (gset w6 ⟨w.heap.size + 1, 0, none⟩ _) (by
        rcases hq : Value.ownBlock (.slice A6 (pre.length + 1) c6) with _ | q
        · exact .inl rfl
        · exact .inr (fun e => hne6 (by rw [hq]; exact e))) (fun _ h => h.elim)
    · omega
    · exact (I4.out.trans (Hx6.out.below (B := w.heap.size) h4s (fun q hq => (I2.out.blk q hq).1))).setCell (p := ⟨w.heap.size + 1, 0, none⟩) (by show w.heap.size ≤ w.heap.size + 1; omega) _
  case done =>
    rintro D xs W hD ⟨hS1, hS2⟩ ⟨⟨va, i1, i2, i3⟩, i4⟩ hK
    have hrf := rowsOfRaw i2 (b2 := w3.heap.size) (by omega) hS2
    rw [hS1] at hrf
    have Hrf := Lib.hid hrf
    have H4 := Lib.hid i4
    have hcV := i1.cell 0 _ rfl
    obtain ⟨Av, cv, rfl, _, _, _⟩ := i2.form'
    clear hS1 hS2 i1 i2 hrf i4
    gi_wp2
    refine ⟨by simp, .inl ⟨_, _, rfl, run_takeDeferred hK, ?_⟩⟩
    have hlx : (xs.map rawY).length = xs.length := List.length_map ..
    rw [hlx] at Hrf
    have hpc : ∀ p : Addr, (W.putObj D (.deferred none)).cell? p = W.cell? p := fun p => by
      by_cases hp : p.block = D
      · have h1 : (W.putObj D (.deferred none)).heap[p.block]? = some (.deferred none) := by rw [hp]; exact World.putObj_heap_same (Array.getElem?_eq_some_iff.1 hK).1
        rw [hp] at h1
        simp only [World.cell?, hp, h1, hK]
      · simp only [World.cell?, World.putObj_heap_other hp]
    have hps : (W.putObj D (.deferred none)).heap.size = W.heap.size := by simp [World.putObj]
    refine ⟨_, results_tmp rfl _ _ _, _, rfl, ?_, H4.out.trans (belowK_b (w := w) (Nat.le_refl _) W D _ _ (by omega) hK rfl rfl)⟩
    have := Hrf.out.keep (w' := W.putObj D (.deferred none)) (fun p _ => hpc p) (fun p _ => hpc p)
    rw [← hps] at this
    exact this
end Go.Proofs.Ythfnikdapknohaa

namespace Go.Proofs.Ythfnikdapknohaa
set_option linter.unusedSimpArgs false
set_option linter.unusedVariables false
open Go.RowKit

set_option maxHeartbeats 400000 in
theorem equalB (w : World) (B1 B2 : Nat) (v1 v2 : Value) (l1 l2 : List UInt8) (h1 : By w B1 v1 l1) (h2 : By w B2 v2 l2) :
    Calls Try.prog 47 #[v1, v2] w fun e w' => e = .returned (.bool (decide (l1 = l2))) ∧ w = w' := by
  have hc1' := conv8 h1
  have hc2' := conv8 h2
  have he := bst_eq l1 l2
  clear h1 h2
  generalize decide (l1 = l2) = D at *
  go_enter Try.func47, Try.ntmps47
  go_wp2_with fail
  go_ret
  refine ⟨?_, rfl⟩
  rw [← he]
  rfl
end Go.Proofs.Ythfnikdapknohaa
