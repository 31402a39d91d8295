/- rows of cells written in place -/
import Derived.Test.YteakeefocnjlhaaGive2
import Derived.Test.YteakeefocnjlhaaAwake17
import Derived.Laws.MakeOwn
namespace Go.Proofs.Yteakeefocnjlhaa
set_option linter.unusedSimpArgs false
set_option linter.unusedVariables false
open Go.RowKit

def cellsOf : List GCell → List Value
  | [] => []
  | c :: r => .int .u64 (c.cut.toNat : Int) :: .int .u32 (c.oth.toNat : Int) :: cellsOf r
theorem cellsOf_len : ∀ l : List GCell, (cellsOf l).length = l.length * 2
  | [] => rfl
  | c :: r => by simp [cellsOf, cellsOf_len r]; omega
theorem cellsOf_flat : ∀ l : List GCell, cellsOf l = (l.map fun a => [Value.int .u64 (a.cut.toNat : Int), .int .u32 (a.oth.toNat : Int)]).flatten
  | [] => rfl
  | c :: r => by simp [cellsOf, cellsOf_flat r]
theorem cellsOf_set : ∀ (l : List GCell) (k : Nat) (c : GCell), k < l.length → ((cellsOf l).set (k * 2) (.int .u64 (c.cut.toNat : Int))).set (k * 2 + 1) (.int .u32 (c.oth.toNat : Int)) = cellsOf (l.set k c)
  | [], k, c, h => by simp at h
  | a :: r, 0, c, h => by simp [cellsOf]
  | a :: r, k + 1, c, h => by
    have ih := cellsOf_set r k c (by simpa using h)
    rw [show (k + 1) * 2 = k * 2 + 2 from by omega]
    simp only [cellsOf, List.set_cons_succ, ih]
theorem cellsOf_get (l : List GCell) (k : Nat) (h : k < l.length * 2) : ((cellsOf l)[k]?).isSome = true := by
  rw [List.getElem?_eq_getElem (by rw [cellsOf_len]; exact h)]; rfl
/-- the box is a row of one's own -/
theorem BoxAt.ownC {w : World} {g base : Nat} {l : List GCell} (h : BoxAt 83 w g (cellsOf l)) (hb : base ≤ g) (hm : l.length ≤ maxLen) : OwnF 83 cCell w base (.slice (some ⟨g, 0, none⟩) l.length l.length) l := by
  refine ⟨l.map fun a => [Value.int .u64 (a.cut.toNat : Int), .int .u32 (a.oth.toNat : Int)], by simp, ⟨?_, .inr ⟨g, l.length, (cellsOf l).toArray, rfl, hb, h, Nat.le_refl _, hm, ?_, ?_⟩⟩, ?_, fun _ h => h.elim⟩
  · rw [← cellsOf_flat, cellsOf_len]; rfl
  · simp [cellsOf_len]; rfl
  · rw [← cellsOf_flat]
    exact List.take_of_length_le (by simp [cellsOf_len]; exact Nat.le_refl _)
  · intro i cs x hc hx
    rw [List.getElem?_map, hx] at hc
    injection hc with hc
    exact ⟨hc.symm, trivial⟩
theorem RwAt.ofOwn64 {w : World} {base : Nat} {v : Value} {xs : List UInt64} {ys : List Nat} (h : OwnF 26 c64 w base v xs) (hy : ys = xs.map fun x => x.toNat) : RwAt 26 .u64 w base v ys := by
  obtain ⟨css, hl, ⟨hlen, hv⟩, h3, _⟩ := h
  have hyl : ys.length = xs.length := by rw [hy]; simp
  rcases hv with ⟨rfl, hn⟩ | ⟨g, cap, cur, rfl, hb, hh, h1, h2, hs, ht⟩
  · refine ⟨none, 0, by rw [hyl, hn], by omega, Nat.zero_le _, fun q hq => (by cases hq), fun h => absurd h (by omega)⟩
  · refine ⟨_, cap, by rw [hyl], by omega, h2, fun q hq => ?_, fun _ => ⟨g, 0, cur.toList, rfl, hh, ?_, fun j x hx => ?_⟩⟩
    · injection hq with hq
      subst hq
      exact ⟨hb, (Array.getElem?_eq_some_iff.1 hh).1⟩
    · simp [hs]; show cap ≤ cap * 1; omega
    · rw [hy, List.getElem?_map] at hx
      obtain ⟨u, hu, rfl⟩ := Option.map_eq_some_iff.1 hx
      have hj : j < xs.length := (List.getElem?_eq_some_iff.1 hu).1
      obtain ⟨e, _⟩ := h3 j css[j] u (List.getElem?_eq_getElem (by omega)) hu
      have hcl := OwnR.clen hl h3
      have hf := flat_get c64.n css hcl j css[j] 0 (List.getElem?_eq_getElem (by omega)) (by decide)
      rw [e, show c64.n = 1 from rfl] at hf
      rw [← ht, show c64.n = 1 from rfl, List.getElem?_take] at hf
      split at hf
      · rw [Nat.zero_add]
        rw [show j * 1 + 0 = j from by omega] at hf
        exact hf
      · cases hf
theorem RwAt.ofOwnInt {w : World} {base : Nat} {v : Value} {xs : List Int} {ys : List Nat} (h : OwnF 3 cInt w base v xs) (hy : xs = ys.map fun (x : Nat) => (x : Int)) : RwAt 3 .i64 w base v ys := by
  obtain ⟨css, hl, ⟨hlen, hv⟩, h3, _⟩ := h
  have hyl : ys.length = xs.length := by rw [hy]; simp
  rcases hv with ⟨rfl, hn⟩ | ⟨g, cap, cur, rfl, hb, hh, h1, h2, hs, ht⟩
  · refine ⟨none, 0, by rw [hyl, hn], by omega, Nat.zero_le _, fun q hq => (by cases hq), fun h => absurd h (by omega)⟩
  · refine ⟨_, cap, by rw [hyl], by omega, h2, fun q hq => ?_, fun _ => ⟨g, 0, cur.toList, rfl, hh, ?_, fun j x hx => ?_⟩⟩
    · injection hq with hq
      subst hq
      exact ⟨hb, (Array.getElem?_eq_some_iff.1 hh).1⟩
    · simp [hs]; show cap ≤ cap * 1; omega
    · have hu : xs[j]? = some (x : Int) := by rw [hy, List.getElem?_map, hx]; rfl
      have hj : j < xs.length := (List.getElem?_eq_some_iff.1 hu).1
      obtain ⟨e, _⟩ := h3 j css[j] _ (List.getElem?_eq_getElem (by omega)) hu
      have hcl := OwnR.clen hl h3
      have hf := flat_get cInt.n css hcl j css[j] 0 (List.getElem?_eq_getElem (by omega)) (by decide)
      rw [e, show cInt.n = 1 from rfl] at hf
      rw [← ht, show cInt.n = 1 from rfl, List.getElem?_take] at hf
      split at hf
      · rw [Nat.zero_add]
        rw [show j * 1 + 0 = j from by omega] at hf
        exact hf
      · cases hf
theorem lefts_nat (l : List GArc) (hl : l.length ≤ 1048576) : (bst0 l).left = (lefts l l.length).map fun x => x.toNat := by
  show (List.range l.length).map (left0 l) = _
  unfold lefts
  rw [List.map_map]
  apply List.map_congr_left
  intro i hi
  have hi : i < l.length := by simpa using hi
  have h1 := u32_lt (l[i]).wt
  have : l.length * (l[i]).wt.toNat ≤ 1048576 * 4294967296 := Nat.mul_le_mul hl (by omega)
  have e : left0 l i = l.length * (l[i]).wt.toNat := by rw [left0, List.getElem?_eq_getElem hi]; rfl
  simp only [Function.comp]
  rw [UInt64.toNat_ofNat', e]
  omega
theorem poors_nat (l : List GArc) : poors l l.length = (poorL (gsum l) (bst0 l).left).map fun (x : Nat) => (x : Int) := by
  unfold poors poorL
  congr 1
  have hlen : (bst0 l).left.length = l.length := by simp [bst0]
  rw [hlen]
  apply List.filter_congr
  intro i hi
  have hi : i < l.length := by simpa using hi
  show decide (left0 l i < gsum l) = decide (((List.range l.length).map (left0 l)).getD i 0 < gsum l)
  rw [getD_lefts l i hi]
/-- the first cells, laid so far -/
def outK (W n k : Nat) : List GCell := (List.range n).map fun i => if i < k then mkC W i else ⟨0, 0⟩
theorem outK_len (W n k : Nat) : (outK W n k).length = n := by simp [outK]
theorem outK_set (W n k : Nat) (hk : k < n) : (outK W n k).set k (mkC W k) = outK W n (k + 1) := by
  apply List.ext_getElem?
  intro j
  rw [List.getElem?_set]
  unfold outK
  simp only [List.length_map, List.length_range, List.getElem?_map]
  by_cases hj : j < n
  · rw [List.getElem?_range hj]
    by_cases h1 : k = j
    · subst h1; simp [hk]
    · rw [if_neg h1]
      simp only [Option.map_some]
      by_cases h2 : j < k
      · rw [if_pos h2, if_pos (by omega)]
      · rw [if_neg h2, if_neg (by omega)]
  · rw [List.getElem?_eq_none (by simp; omega), if_neg (by omega)]
    rfl
theorem outK_all (W n : Nat) : outK W n n = (List.range n).map (mkC W) := by
  unfold outK
  apply List.map_congr_left
  intro i hi
  rw [if_pos (by simpa using hi)]
theorem infoCell : (Try.prog.info? 83).map (fun i => (i.zero, i.size, i.bytes)) = some (some (.agg #[.int .u64 0, .int .u32 0]), 2, 16) := by kernel_rfl
theorem cellsOf_get2 : ∀ (l : List GCell) (k : Nat) (c : GCell), l[k]? = some c → (cellsOf l)[k * 2]? = some (.int .u64 (c.cut.toNat : Int)) ∧ (cellsOf l)[k * 2 + 1]? = some (.int .u32 (c.oth.toNat : Int))
  | [], k, c, h => by simp at h
  | a :: r, 0, c, h => by simp at h; subst h; simp [cellsOf]
  | a :: r, k + 1, c, h => by
    have ih := cellsOf_get2 r k c (by simpa using h)
    rw [show (k + 1) * 2 = k * 2 + 2 from by omega]
    simp only [cellsOf, List.getElem?_cons_succ]
    exact ih
theorem madeC (n W : Nat) : madeCells (Value.cells (.agg #[.int .u64 0, .int .u32 0])) (n * 2) = (cellsOf (outK W n 0)).toArray := by
  apply Array.ext
  · simp [madeCells, Value.cells, cellsOf_len, outK_len]
  · intro i h1 h2
    have hi : i < n * 2 := by simpa [madeCells, Value.cells] using h1
    have hg := cellsOf_get2 (outK W n 0) (i / 2) ⟨0, 0⟩ (by
      unfold outK
      rw [List.getElem?_map, List.getElem?_range (by omega)]
      simp)
    have h3 : i < (cellsOf (outK W n 0)).length := by rw [cellsOf_len, outK_len]; exact hi
    rcases Nat.mod_two_eq_zero_or_one i with hm | hm
    · have e : i / 2 * 2 = i := by omega
      rw [e, List.getElem?_eq_getElem h3] at hg
      have := Option.some.inj hg.1
      simp [madeCells, Value.cells, this, hm]
    · have e : i / 2 * 2 + 1 = i := by omega
      rw [e, List.getElem?_eq_getElem h3] at hg
      have := Option.some.inj hg.2
      simp [madeCells, Value.cells, this, hm]
theorem makeC (n W : Nat) (hn : n ≤ 4294967296) : ∀ w : World, (Instr.makeSlice 67 (.int .i64 (n : Int)) (.int .i64 (n : Int))).run Try.prog w = .ok (.slice (some ⟨w.heap.size, 0, none⟩) n n) (w.alloc (.cells (cellsOf (outK W n 0)).toArray 83)) := fun w => by
  obtain ⟨i, hi, hz0, hz1, hz2⟩ := info_parts infoCell
  have hr := run_make (P := Try.prog) w 67 83 i (.agg #[.int .u64 0, .int .u32 0]) Try.underlying67 hi hz0 .i64 .i64 (n : Int) (n : Int) (by omega) (by omega) (by rw [hz2]; omega) (by omega)
  rw [Int.toNat_natCast, hz1, madeC n W] at hr
  exact hr
theorem BoxAt.putCell {w : World} {go : Nat} {out : List GCell} (h : BoxAt 83 w go (cellsOf out)) (k : Nat) (c : GCell) (hk : k < out.length) (a b : Int) (ha : a = (c.cut.toNat : Int)) (hb : b = (c.oth.toNat : Int)) :
    BoxAt 83 ((w.setCell ⟨go, k * 2, none⟩ (.int .u64 a)).setCell ⟨go, k * 2 + 1, none⟩ (.int .u32 b)) go (cellsOf (out.set k c)) := by
  subst ha; subst hb
  rw [← cellsOf_set out k c hk]
  exact (h.put _ _).put _ _
end Go.Proofs.Yteakeefocnjlhaa
