/- Manifests, in plain: their bytes; which may be. -/
import Derived.Test.YtpoicbhbkabllaaMan
import Derived.Test.YtpoicbhbkabllaaMany
import Derived.Test.YtpoicbhbkabllaaVarRefBy
namespace Go.Proofs.Ytpoicbhbkabllaa
set_option linter.unusedSimpArgs false
set_option linter.unusedVariables false
open Go.RowKit

abbrev bless := Op.bytesLess
theorem bless_irrefl : ∀ a, bless a a = false
  | [] => rfl
  | x :: a => by simp [bless, Op.bytesLess]; exact bless_irrefl a
theorem bless_trans : ∀ a b c, bless a b = true → bless b c = true → bless a c = true
  | _, [], _, h, _ => by simp [bless, Op.bytesLess] at h
  | _, _ :: _, [], _, h => by simp [bless, Op.bytesLess] at h
  | [], _ :: _, _ :: _, _, _ => rfl
  | x :: a, y :: b, z :: c, h, k => by
    simp only [bless, Op.bytesLess, Bool.or_eq_true, Bool.and_eq_true, decide_eq_true_eq, beq_iff_eq] at h k ⊢
    rcases h with h | ⟨rfl, h⟩
    · rcases k with k | ⟨rfl, k⟩
      · exact .inl (UInt8.lt_trans h k)
      · exact .inl h
    · rcases k with k | ⟨rfl, k⟩
      · exact .inl k
      · exact .inr ⟨rfl, bless_trans a b c h k⟩
theorem bless_total : ∀ a b, bless a b = true ∨ a = b ∨ bless b a = true
  | [], [] => .inr (.inl rfl)
  | [], _ :: _ => .inl rfl
  | _ :: _, [] => .inr (.inr rfl)
  | x :: a, y :: b => by
    simp only [bless, Op.bytesLess, Bool.or_eq_true, Bool.and_eq_true, decide_eq_true_eq, beq_iff_eq, List.cons.injEq]
    rcases Nat.lt_trichotomy x.toNat y.toNat with h | h | h
    · exact .inl (.inl (UInt8.lt_iff_toNat_lt.2 h))
    · have e : x = y := UInt8.toNat_inj.1 h
      subst e
      rcases bless_total a b with h | h | h
      · exact .inl (.inr ⟨rfl, h⟩)
      · exact .inr (.inl ⟨rfl, h⟩)
      · exact .inr (.inr (.inr ⟨rfl, h⟩))
    · exact .inr (.inr (.inl (UInt8.lt_iff_toNat_lt.2 h)))
def u64Of (n : Int) : Nat := (n % 18446744073709551616).toNat
theorem u64Of_lt (n : Int) : u64Of n < 18446744073709551616 := by unfold u64Of; omega
theorem u64Of_wrap (n : Int) : IntKind.u64.wrap n = (u64Of n : Int) := by rw [wrap_u64]; unfold u64Of; omega
def nums (l : List Int) : List UInt8 := l.flatMap fun b => vput (u64Of b)
def bodyF (f : MFile) : List UInt8 := vput f.name.length ++ f.name ++ vput f.id.toNat ++ vput (u64Of f.size) ++ nums f.blocks
def bodyM (m : MMan) : List UInt8 := vput m.ver.toNat ++ vput m.next.toNat ++ vput m.files.length ++ m.files.flatMap bodyF
/-- a file by itself -/
def basicF (next : UInt32) (f : MFile) : Bool := !(decide (f.name.length < 1) || decide (32 < f.name.length) || decide (next.toNat ≤ f.id.toNat) || decide (f.size < 0) || decide (manyOf f.size ≠ (f.blocks.length : Int)))
/-- beside one ahead of it -/
def besideF (p f : MFile) : Bool := !(decide (p.id = f.id) || !(bless p.name f.name))
def blockOk (prev : List MFile) (l : List Int) (a : Nat) : Bool := !(decide (l.getD a 0 < 32) || decide (65536 ≤ l.getD a 0) || decide (l.getD a 0 ∈ l.take a)) && prev.all fun p => !decide (l.getD a 0 ∈ p.blocks)
def blocksOk (prev : List MFile) (l : List Int) (n : Nat) : Bool := (List.range n).all (blockOk prev l)
def fileR (next : UInt32) (prev : List MFile) (f : MFile) : Bool := basicF next f && prev.all (fun p => besideF p f) && blocksOk prev f.blocks f.blocks.length
def filesR (m : MMan) (n : Nat) : Bool := (List.range n).all fun i => fileR m.next (m.files.take i) (m.files.getD i ⟨[], 0, 0, []⟩)
def mayM (m : MMan) : Bool := filesR m m.files.length && decide ((bodyM m).length + 13 ≤ 2048)
def greatN (l : List MFile) : Nat := (l.map fun f => min f.blocks.length 3000 + min f.name.length 3000).sum
def greatM (m : MMan) : Bool := decide (60 < m.files.length) || decide (3000 < greatN m.files)
theorem filesR_succ (m : MMan) (i : Nat) (hi : i < m.files.length) : filesR m (i + 1) = (filesR m i && fileR m.next (m.files.take i) m.files[i]) := by
  unfold filesR
  rw [List.range_succ, List.all_append]
  simp [List.getD_eq_getElem?_getD, List.getElem?_eq_getElem hi]
theorem filesR_false (m : MMan) (i : Nat) (h : filesR m i = false) : ∀ n, i ≤ n → filesR m n = false := by
  intro n hn
  unfold filesR at h ⊢
  rw [List.all_eq_false] at h ⊢
  obtain ⟨x, hx, hx2⟩ := h
  exact ⟨x, by simp at hx ⊢; omega, hx2⟩
theorem filesR_at (m : MMan) (n i : Nat) (h : filesR m n = true) (hi : i < n) (hn : n ≤ m.files.length) : fileR m.next (m.files.take i) (m.files[i]'(by omega)) = true := by
  unfold filesR at h
  rw [List.all_eq_true] at h
  have := h i (by simpa using hi)
  rw [List.getD_eq_getElem?_getD, List.getElem?_eq_getElem (by omega)] at this
  exact this
theorem greatN_snoc (l : List MFile) (k : Nat) (hk : k < l.length) : greatN (l.take (k + 1)) = greatN (l.take k) + (min (l[k]).blocks.length 3000 + min (l[k]).name.length 3000) := by
  unfold greatN
  rw [List.take_add_one, List.getElem?_eq_getElem hk, Option.toList_some, List.map_append, List.sum_append]
  simp
theorem greatN_le (l : List MFile) : greatN l ≤ l.length * 6000 := by
  induction l with
  | nil => simp [greatN]
  | cons f t ih =>
    have : greatN (f :: t) = min f.blocks.length 3000 + min f.name.length 3000 + greatN t := by simp [greatN]
    rw [this, List.length_cons]
    omega
theorem greatN_take (l : List MFile) (k : Nat) : greatN (l.take k) ≤ l.length * 6000 :=
  Nat.le_trans (greatN_le _) (Nat.mul_le_mul_right _ (List.length_take_le' _ _))
end Go.Proofs.Ytpoicbhbkabllaa
