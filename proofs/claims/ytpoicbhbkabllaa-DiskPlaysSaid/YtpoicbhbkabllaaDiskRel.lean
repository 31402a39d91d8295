/- Disks: the document's, in plain, and that it agrees with the program's. -/
import Derived.Test.YtpoicbhbkabllaaDiskPure
namespace Go.Proofs.Ytpoicbhbkabllaa
set_option linter.unusedSimpArgs false
set_option linter.unusedVariables false

abbrev RW := Int × List UInt8
structure RD where
  count : Int
  off : Bool
  fuse : Int
  made : List RW
  wait : List RW
def lastR (l : List RW) (i : Int) (b : List UInt8) : List UInt8 := l.foldl (fun b x => if x.1 = i then x.2 else b) b
def zerosL : List UInt8 := List.replicate 128 0
def goodR (m : RD) (i : Int) : List UInt8 := lastR m.made i zerosL
def readRE (m : RD) (i : Int) : Int := if m.off = true then 6 else if 0 ≤ i ∧ i < m.count then 0 else 9
def readRL (m : RD) (i : Int) : List UInt8 := if readRE m i ≠ 0 then [] else lastR m.wait i (goodR m i)
def putMade (l : List RW) (x : RW) : List RW := l.filter (fun y => decide (y.1 ≠ x.1)) ++ [x]
def putRD (m : RD) (x : RW) : RD := { m with made := putMade m.made x }
def deedRE (m : RD) : Int := if m.fuse = 0 then 6 else 0
def deedRD (m : RD) : RD := if m.fuse = 0 then { m with off := true } else if 0 < m.fuse then { m with fuse := m.fuse - 1 } else m
def writeRE (m : RD) (i : Int) (b : List UInt8) : Int := if readRE m i ≠ 0 then readRE m i else if b.length ≠ 128 then 3 else deedRE m
def writeRD (m : RD) (i : Int) (b : List UInt8) : RD :=
  if readRE m i ≠ 0 then m else if b.length ≠ 128 then m else if deedRE m ≠ 0 then deedRD m else { deedRD m with wait := m.wait ++ [(i, b)] }
def syncRE (m : RD) : Int := if m.off = true then 6 else deedRE m
def syncRD (m : RD) : RD := if m.off = true then m else if deedRE m ≠ 0 then deedRD m else { (m.wait.foldl putRD (deedRD m)) with wait := [] }
def backRS (keep torn k : Nat) (x : RW) (m : RD) : RD := if bitAt keep k = true then putRD m x else if bitAt torn k = true then putRD m (x.1, x.2.take 64 ++ (goodR m x.1).drop 64) else m
def backRL (keep torn : Nat) : Nat → List RW → RD → RD
  | _, [], m => m
  | k, x :: t, m => backRL keep torn (k + 1) t (backRS keep torn k x m)
def backRD (m : RD) (keep torn : Nat) : RD := { backRL keep torn 0 m.wait m with wait := [], off := false, fuse := -1 }
def spoilRE (m : RD) (i at_ : Int) : Int := if 0 ≤ i ∧ i < m.count ∧ 0 ≤ at_ ∧ at_ < 128 then 0 else 9
def spoilRD (m : RD) (i at_ : Int) (c : UInt8) : RD := if spoilRE m i at_ ≠ 0 then m else putRD m (i, (goodR m i).set at_.toNat ((goodR m i).getD at_.toNat 0 ^^^ c))
def newR (n : Int) : RD := { count := n, off := false, fuse := -1, made := [], wait := [] }

/-! ### the last one -/
theorem lastR_snoc (l : List RW) (x : RW) (i : Int) (b : List UInt8) : lastR (l ++ [x]) i b = if x.1 = i then x.2 else lastR l i b := by simp [lastR]
theorem lastR_filter (k i : Int) (h : k ≠ i) : ∀ (l : List RW) (b : List UInt8), lastR (l.filter (fun y => decide (y.1 ≠ k))) i b = lastR l i b
  | [], _ => rfl
  | x :: l, b => by
    rw [List.filter_cons]
    by_cases hx : x.1 = k
    · have hxi : ¬ x.1 = i := fun e => h (hx.symm.trans e)
      rw [if_neg (by simp [hx]), lastR_filter k i h l b]
      show _ = lastR l i (if x.1 = i then x.2 else b)
      rw [if_neg hxi]
    · rw [if_pos (by simp [hx])]
      exact lastR_filter k i h l (if x.1 = i then x.2 else b)
theorem lastR_put (l : List RW) (x : RW) (i : Int) (b : List UInt8) : lastR (putMade l x) i b = if x.1 = i then x.2 else lastR l i b := by
  unfold putMade
  rw [lastR_snoc]
  by_cases h : x.1 = i
  · rw [if_pos h, if_pos h]
  · rw [if_neg h, if_neg h, lastR_filter _ _ h]
theorem lastR_wt (wt : List Wt) (i : Nat) : ∀ b : Blk, lastR (wt.map fun x => ((x.1 : Int), x.2.1)) (i : Int) b.1 = (lastW wt i b).1 := by
  induction wt with
  | nil => intro b; rfl
  | cons x t ih =>
    intro b
    have := ih (if x.1 = i then x.2 else b)
    show lastR (t.map _) (i : Int) (if (x.1 : Int) = (i : Int) then x.2.1 else b.1) = (lastW t i (if x.1 = i then x.2 else b)).1
    rw [← this]
    congr 1
    by_cases h : x.1 = i
    · rw [if_pos h, if_pos (by omega)]
    · rw [if_neg h, if_neg (by omega)]

/-! ### that both agree -/
structure RelD (d : DState) (m : RD) : Prop where
  count : m.count = (d.bl.length : Int)
  off : m.off = d.off
  fuse : m.fuse = d.fuse
  good : ∀ i, i < d.bl.length → goodR m (i : Int) = (d.bl.getD i zeroB).1
  wait : m.wait = d.wt.map fun x => ((x.1 : Int), x.2.1)
theorem rel_mayE {d : DState} {m : RD} (h : RelD d m) (i : Int) : readRE m i = mayE d i := by unfold readRE mayE; rw [h.off, h.count]
theorem mayE_in {d : DState} {i : Int} (h : mayE d i = 0) : 0 ≤ i ∧ i < (d.bl.length : Int) := by
  unfold mayE at h
  split at h
  · cases h
  · split at h
    · assumption
    · cases h
theorem rel_read {d : DState} {m : RD} (h : RelD d m) (i : Int) : readRL m i = readL d i := by
  unfold readRL readL
  rw [rel_mayE h]
  by_cases hm : mayE d i ≠ 0
  · rw [if_pos hm, if_pos hm]
  · rw [if_neg hm, if_neg hm]
    have hi := mayE_in (by simpa using hm)
    obtain ⟨k, rfl⟩ : ∃ k : Nat, i = (k : Int) := ⟨i.toNat, by omega⟩
    rw [h.good k (by omega), h.wait, Int.toNat_natCast, lastR_wt]
    rfl
theorem rel_deedE {d : DState} {m : RD} (h : RelD d m) : deedRE m = deedE d := by unfold deedRE deedE; rw [h.fuse]
theorem rel_deed {d : DState} {m : RD} (h : RelD d m) : RelD (deedD d) (deedRD m) := by
  unfold deedD deedRD
  rw [h.fuse]
  split
  · exact ⟨h.count, rfl, rfl, h.good, h.wait⟩
  · split
    · exact ⟨h.count, h.off, rfl, h.good, h.wait⟩
    · exact h
theorem rel_writeE {d : DState} {m : RD} (h : RelD d m) (i : Int) (b : List UInt8) : writeRE m i b = writeE d i b := by unfold writeRE writeE; rw [rel_mayE h, rel_deedE h]
theorem deedRD_wait (m : RD) : (deedRD m).wait = m.wait := by unfold deedRD; split <;> (try split) <;> rfl
theorem deedRD_made (m : RD) : (deedRD m).made = m.made := by unfold deedRD; split <;> (try split) <;> rfl
theorem rel_write {d : DState} {m : RD} (h : RelD d m) (i : Int) (b : List UInt8) : RelD (writeD d i b) (writeRD m i b) := by
  unfold writeD writeRD
  rw [rel_mayE h, rel_deedE h]
  by_cases hm : mayE d i ≠ 0
  · rw [if_pos hm, if_pos hm]; exact h
  · rw [if_neg hm, if_neg hm]
    by_cases hb : b.length = 128
    · rw [dif_pos hb, if_neg (show ¬ b.length ≠ 128 by simp [hb])]
      have hd := rel_deed h
      by_cases he : deedE d ≠ 0
      · rw [if_pos he, if_pos he]; exact hd
      · rw [if_neg he, if_neg he]
        have hi := mayE_in (by simpa using hm)
        refine ⟨hd.count, hd.off, hd.fuse, hd.good, ?_⟩
        show m.wait ++ [(i, b)] = (d.wt ++ [(i.toNat, (⟨b, hb⟩ : Blk))]).map _
        rw [List.map_append, h.wait]
        simp only [List.map_cons, List.map_nil]
        rw [Int.toNat_of_nonneg hi.1]
    · rw [dif_neg hb, if_pos hb]; exact h
theorem rel_put {d : DState} {m : RD} (h : RelD d m) (k : Nat) (c : Blk) (hk : k < d.bl.length) : RelD { d with bl := d.bl.set k c } (putRD m ((k : Int), c.1)) := by
  refine ⟨by simp only [List.length_set]; exact h.count, h.off, h.fuse, fun i hi => ?_, h.wait⟩
  simp only [List.length_set] at hi
  show lastR (putMade m.made ((k : Int), c.1)) (i : Int) zerosL = ((d.bl.set k c).getD i zeroB).1
  rw [lastR_put]
  rw [List.getD_eq_getElem?_getD, List.getElem?_set]
  by_cases hik : k = i
  · subst hik
    rw [if_pos rfl, if_pos rfl, if_pos hk]
    rfl
  · rw [if_neg (by simp; omega), if_neg hik]
    have := h.good i hi
    unfold goodR at this
    rw [this, List.getD_eq_getElem?_getD]
theorem putRD_wait (m : RD) (x : RW) : (putRD m x).wait = m.wait := rfl
theorem rel_syncs (m0w : List RW) (wt : List Wt) : ∀ (d : DState) (m : RD), RelD d m → (∀ x ∈ wt, x.1 < d.bl.length) →
    RelD { d with bl := syncBl wt d.bl } ((wt.map fun x => ((x.1 : Int), x.2.1)).foldl putRD m) := by
  induction wt with
  | nil => intro d m h _; exact h
  | cons x t ih =>
    intro d m h hx
    have h1 := rel_put h x.1 x.2 (hx x (by simp))
    have := ih { d with bl := d.bl.set x.1 x.2 } _ h1 (fun y hy => by simp only [List.length_set]; exact hx y (by simp [hy]))
    exact this
theorem foldl_putRD_wait (l : List RW) : ∀ m : RD, (l.foldl putRD m).wait = m.wait := by
  induction l with
  | nil => intro m; rfl
  | cons x t ih => intro m; exact ih _
theorem rel_syncE {d : DState} {m : RD} (h : RelD d m) : syncRE m = syncE d := by unfold syncRE syncE; rw [h.off, rel_deedE h]
theorem rel_sync {d : DState} {m : RD} (h : RelD d m) (hw : ∀ x ∈ d.wt, x.1 < d.bl.length) : RelD (syncD d) (syncRD m) := by
  unfold syncD syncRD
  rw [h.off, rel_deedE h]
  by_cases ho : d.off = true
  · rw [if_pos ho, if_pos ho]; exact h
  · rw [if_neg ho, if_neg ho]
    by_cases he : deedE d ≠ 0
    · rw [if_pos he, if_pos he]; exact rel_deed h
    · rw [if_neg he, if_neg he]
      have h1 := rel_syncs [] d.wt (deedD d) (deedRD m) (rel_deed h) (by rw [deedD_bl]; exact hw)
      rw [← h.wait, deedD_bl] at h1
      exact ⟨h1.count, h1.off, h1.fuse, h1.good, rfl⟩
theorem rel_backS {d : DState} {m : RD} (h : RelD d m) (keep torn k : Nat) (x : Wt) (hx : x.1 < d.bl.length) :
    RelD { d with bl := backStep keep torn k x d.bl } (backRS keep torn k ((x.1 : Int), x.2.1) m) := by
  unfold backStep backRS
  by_cases hk : bitAt keep k = true
  · rw [if_pos hk, if_pos hk]; exact rel_put h _ _ hx
  · rw [if_neg hk, if_neg hk]
    by_cases ht : bitAt torn k = true
    · rw [if_pos ht, if_pos ht]
      have := rel_put h x.1 (over (d.bl.getD x.1 zeroB) 0 (x.2.1.take 64)) hx
      have e : (over (d.bl.getD x.1 zeroB) 0 (x.2.1.take 64)).1 = x.2.1.take 64 ++ (goodR m (x.1 : Int)).drop 64 := by
        rw [h.good _ hx]
        have hl : (x.2.1.take 64).length = 64 := by rw [List.length_take, x.2.2]; rfl
        unfold over
        rw [dif_pos (by omega)]
        simp only [hl, List.take_zero, List.nil_append, Nat.zero_add]
      rw [e] at this
      exact this
    · rw [if_neg ht, if_neg ht]; exact h
theorem rel_backs (keep torn : Nat) (wt : List Wt) : ∀ (k : Nat) (d : DState) (m : RD), RelD d m → (∀ x ∈ wt, x.1 < d.bl.length) →
    RelD { d with bl := backBl keep torn k wt d.bl } (backRL keep torn k (wt.map fun x => ((x.1 : Int), x.2.1)) m) := by
  induction wt with
  | nil => intro k d m h _; exact h
  | cons x t ih =>
    intro k d m h hx
    have h1 := rel_backS h keep torn k x (hx x (by simp))
    exact ih (k + 1) { d with bl := backStep keep torn k x d.bl } _ h1 (fun y hy => by simp only [backStep_len]; exact hx y (by simp [hy]))
theorem rel_back {d : DState} {m : RD} (h : RelD d m) (keep torn : Nat) (hw : ∀ x ∈ d.wt, x.1 < d.bl.length) : RelD (backD d keep torn) (backRD m keep torn) := by
  unfold backD backRD
  have h1 := rel_backs keep torn d.wt 0 d m h hw
  rw [← h.wait] at h1
  exact ⟨h1.count, rfl, rfl, h1.good, rfl⟩
theorem rel_spoilE {d : DState} {m : RD} (h : RelD d m) (i at_ : Int) : spoilRE m i at_ = spoilE d i at_ := by unfold spoilRE spoilE; rw [h.count]
theorem rel_spoil {d : DState} {m : RD} (h : RelD d m) (i at_ : Int) (c : UInt8) : RelD (spoilD d i at_ c) (spoilRD m i at_ c) := by
  unfold spoilD spoilRD
  rw [rel_spoilE h]
  by_cases he : spoilE d i at_ ≠ 0
  · rw [if_pos he, if_pos he]; exact h
  · rw [if_neg he, if_neg he]
    have hi : 0 ≤ i ∧ i < (d.bl.length : Int) ∧ 0 ≤ at_ ∧ at_ < 128 := by
      unfold spoilE at he
      split at he
      · assumption
      · simp at he
    obtain ⟨k, rfl⟩ : ∃ k : Nat, i = (k : Int) := ⟨i.toNat, by omega⟩
    obtain ⟨j, rfl⟩ : ∃ j : Nat, at_ = (j : Int) := ⟨at_.toNat, by omega⟩
    rw [Int.toNat_natCast, Int.toNat_natCast]
    have hk : k < d.bl.length := by omega
    have hg := h.good k hk
    have := rel_put h k (over (d.bl.getD k zeroB) j [(d.bl.getD k zeroB).1.getD j 0 ^^^ c]) hk
    have e : (over (d.bl.getD k zeroB) j [(d.bl.getD k zeroB).1.getD j 0 ^^^ c]).1 = (goodR m (k : Int)).set j ((goodR m (k : Int)).getD j 0 ^^^ c) := by
      rw [hg]
      apply List.ext_getElem?
      intro q
      have hl := (d.bl.getD k zeroB).2
      rw [over_get _ _ _ (by simp; omega), List.getElem?_set]
      by_cases hq : j = q
      · subst hq
        rw [if_pos (by simp), if_pos rfl, if_pos (by omega), Nat.sub_self]
        rfl
      · rw [if_neg (by simp; omega), if_neg hq]
    rw [e] at this
    exact this
theorem rel_new (n : Nat) : RelD { bl := List.replicate n zeroB, wt := [], off := false, fuse := -1 } (newR (n : Int)) := by
  refine ⟨by simp [newR], rfl, rfl, fun i hi => ?_, rfl⟩
  show zerosL = _
  rw [List.getD_eq_getElem?_getD, List.getElem?_replicate]
  split <;> rfl
end Go.Proofs.Ytpoicbhbkabllaa
