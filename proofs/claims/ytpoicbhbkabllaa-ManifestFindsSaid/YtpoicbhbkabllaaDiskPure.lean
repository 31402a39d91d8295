/- Disks: what each deed does, in plain. -/
import Derived.Test.YtpoicbhbkabllaaDisk
namespace Go.Proofs.Ytpoicbhbkabllaa
set_option linter.unusedSimpArgs false
set_option linter.unusedVariables false

def mayE (d : DState) (i : Int) : Int := if d.off = true then 6 else if 0 ≤ i ∧ i < (d.bl.length : Int) then 0 else 9
def deedE (d : DState) : Int := if d.fuse = 0 then 6 else 0
def deedD (d : DState) : DState := if d.fuse = 0 then { d with off := true } else if 0 < d.fuse then { d with fuse := d.fuse - 1 } else d
def writeE (d : DState) (i : Int) (b : List UInt8) : Int := if mayE d i ≠ 0 then mayE d i else if b.length ≠ 128 then 3 else deedE d
def writeD (d : DState) (i : Int) (b : List UInt8) : DState :=
  if mayE d i ≠ 0 then d else if h : b.length = 128 then (if deedE d ≠ 0 then deedD d else { deedD d with wt := d.wt ++ [(i.toNat, ⟨b, h⟩)] }) else d
def lastW (wt : List Wt) (i : Nat) (b : Blk) : Blk := wt.foldl (fun b x => if x.1 = i then x.2 else b) b
def zeroB : Blk := ⟨List.replicate 128 0, by simp⟩
def readB (d : DState) (i : Nat) : Blk := lastW d.wt i (d.bl.getD i zeroB)
def readL (d : DState) (i : Int) : List UInt8 := if mayE d i ≠ 0 then [] else (readB d i.toNat).1
def syncBl (wt : List Wt) (bl : List Blk) : List Blk := wt.foldl (fun bl x => bl.set x.1 x.2) bl
def syncE (d : DState) : Int := if d.off = true then 6 else deedE d
def syncD (d : DState) : DState := if d.off = true then d else if deedE d ≠ 0 then deedD d else { deedD d with bl := syncBl d.wt d.bl, wt := [] }
def bitAt (n k : Nat) : Bool := n.testBit (k % 64)
def backStep (keep torn k : Nat) (x : Wt) (bl : List Blk) : List Blk := if bitAt keep k = true then bl.set x.1 x.2 else if bitAt torn k = true then bl.set x.1 (over (bl.getD x.1 zeroB) 0 (x.2.1.take 64)) else bl
def backBl (keep torn : Nat) : Nat → List Wt → List Blk → List Blk
  | _, [], bl => bl
  | k, x :: t, bl => backBl keep torn (k + 1) t (backStep keep torn k x bl)
def backD (d : DState) (keep torn : Nat) : DState := { bl := backBl keep torn 0 d.wt d.bl, wt := [], off := false, fuse := -1 }
def spoilE (d : DState) (i at_ : Int) : Int := if 0 ≤ i ∧ i < (d.bl.length : Int) ∧ 0 ≤ at_ ∧ at_ < 128 then 0 else 9
def spoilD (d : DState) (i at_ : Int) (c : UInt8) : DState := if spoilE d i at_ ≠ 0 then d else { d with bl := d.bl.set i.toNat (over (d.bl.getD i.toNat zeroB) at_.toNat [(d.bl.getD i.toNat zeroB).1.getD at_.toNat 0 ^^^ c]) }
theorem syncBl_len (wt : List Wt) : ∀ bl, (syncBl wt bl).length = bl.length := by
  induction wt with
  | nil => intro bl; rfl
  | cons x t ih => intro bl; show (syncBl t _).length = _; rw [ih]; simp
theorem backStep_len (keep torn k : Nat) (x : Wt) (bl : List Blk) : (backStep keep torn k x bl).length = bl.length := by unfold backStep; split <;> (try split) <;> simp
theorem backBl_len (keep torn : Nat) (wt : List Wt) : ∀ k bl, (backBl keep torn k wt bl).length = bl.length := by
  induction wt with
  | nil => intro k bl; rfl
  | cons x t ih => intro k bl; rw [backBl, ih, backStep_len]
theorem syncBl_snoc (wt : List Wt) (x : Wt) (bl : List Blk) : syncBl (wt ++ [x]) bl = (syncBl wt bl).set x.1 x.2 := by simp [syncBl]
theorem backBl_snoc (keep torn : Nat) (wt : List Wt) (x : Wt) : ∀ k bl, backBl keep torn k (wt ++ [x]) bl = backStep keep torn (k + wt.length) x (backBl keep torn k wt bl) := by
  induction wt with
  | nil => intro k bl; rfl
  | cons y t ih => intro k bl; rw [List.cons_append, backBl, ih, backBl]; congr 1; simp; omega
theorem deedD_bl (d : DState) : (deedD d).bl = d.bl := by unfold deedD; split <;> (try split) <;> rfl
theorem deedD_wt (d : DState) : (deedD d).wt = d.wt := by unfold deedD; split <;> (try split) <;> rfl
end Go.Proofs.Ytpoicbhbkabllaa
