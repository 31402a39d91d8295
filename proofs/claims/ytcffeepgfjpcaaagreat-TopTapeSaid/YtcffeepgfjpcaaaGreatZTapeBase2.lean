/- Lemmas for the law TapeBase: Rows of numbers in a block of one's own, with spare cells and an offset; slices.Insert at ints.; The table of neighbours: each neighbour is come to by d times its weight (plain).; (*alias.rests).next and give, over rows with spare cells; (*alias.rests).give; pick.Total, palmerref17.Total, pick.Alias; pick.Alias; palmerlaw17.awake returns true; rows of cells written in place; alias.Build; palmerref16.first; palmerref16.Build; alias.Get; alias.Put; What is put is read: cells.; slices.Equal at bytes.; The cyclic redundancy check in plain Lean: the table's way and the bit's way are one. No condition.; crc.table gives the table of the check's bytes. No condition.; crc.Sum gives the check of all rows' bytes, one behind the other. The rows are readable slices.; crc.Mark is the bytes with their check, in memory of one's own; crc.Fits tells whether bytes end in their check. The rows are readable slices of at most 2^40 bytes.; crc.Fits: bytes without their check, or the error. The row is a readable slice of at most 2^40 bytes.; What the check finds: bits turned within 32, and one byte turned, are never missed. Plain Lean. No condition.; Pages in plain Lean: what a page's block is; the code's test and the document's are one; what is found. No condition.; frame in plain Lean: a section's bytes, what is read of bytes; Rows of a graph as a shard's bytes, and what is read of bytes, plainly. No condition.; Edges and the rows of sorted edges, plainly.; the document's reading of neighbours; '=. No condition. -/
import Derived.Test.YtcffeepgfjpcaaaGreatZTapeBase1
import Derived.BigRegion
import Derived.Deep.LoopGhost
import Derived.BigQuiet
import Derived.Laws.MakeOwn
import Derived.WalkMore
import Derived.WalkKit
import Derived.Test.YtcffeepgfjpcaaaGreatRows
import Derived.Laws.StructEq
import Derived.Deep.Cut
import Derived.Maps.RangeWalk
import Derived.Maps.OwnSet
import Derived.Maps.Views
namespace Go.Proofs.YtcffeepgfjpcaaaGreat
set_option linter.unusedSimpArgs false
set_option linter.unusedVariables false
open Go.RowKit

def RwAt (T : TypeId) (K : IntKind) (w : World) (base : Nat) (v : Value) (xs : List Nat) : Prop :=
  ∃ A c, v = .slice A xs.length c ∧ xs.length ≤ c ∧ c ≤ maxLen ∧ (∀ q, v.ownBlock = some q → base ≤ q ∧ q < w.heap.size) ∧
    (0 < c → ∃ b off cs, A = some ⟨b, off, none⟩ ∧ BoxAt T w b cs ∧ off + c ≤ cs.length ∧ ∀ (j x : Nat), xs[j]? = some x → cs[off + j]? = some (.int K (x : Int)))
section
variable {T : TypeId} {K : IntKind} {w w' : World} {base : Nat} {v : Value} {xs : List Nat}
theorem RwAt.keep {row : Option Nat} (h : RwAt T K w base v xs) (hg : w.grownBy w' row) (hne : ∀ q, v.ownBlock = some q → row ≠ some q) : RwAt T K w' base v xs := by
  obtain ⟨A, c, rfl, h1, h2, h3, h4⟩ := h
  refine ⟨A, c, rfl, h1, h2, fun q hq => ⟨(h3 q hq).1, Nat.lt_of_lt_of_le (h3 q hq).2 hg.size⟩, fun hc => ?_⟩
  obtain ⟨b, off, cs, rfl, hb, hl, hx⟩ := h4 hc
  exact ⟨b, off, cs, rfl, hb.grown hg (hne b rfl), hl, hx⟩
theorem RwAt.below_ (h : RwAt T K w base v xs) (hb : Below w.heap.size w w') : RwAt T K w' base v xs := h.keep (gbelow hb none) fun _ _ e => by cases e
theorem RwAt.alloc_ (h : RwAt T K w base v xs) (o : Obj) : RwAt T K (w.alloc o) base v xs := h.below_ (balloc w o)
theorem RwAt.drew_ (h : RwAt T K w base v xs) : RwAt T K w.drew base v xs := h
theorem RwAt.drewN_ (h : RwAt T K w base v xs) (n : Nat) : RwAt T K (w.drewN n) base v xs := h
theorem RwAt.blk (h : RwAt T K w base v xs) : ∀ q, v.ownBlock = some q → base ≤ q ∧ q < w.heap.size := by
  obtain ⟨A, c, rfl, h1, h2, h3, h4⟩ := h; exact h3
theorem RwAt.form (h : RwAt T K w base v xs) : ∃ A c, v = .slice A xs.length c ∧ xs.length ≤ c ∧ c ≤ maxLen := by
  obtain ⟨A, c, rfl, h1, h2, h3, h4⟩ := h; exact ⟨A, c, rfl, h1, h2⟩
/-- the cell of an element -/
theorem RwAt.at_ {A : Option Addr} {n c : Nat} (h : RwAt T K w base (.slice A n c) xs) (i x : Nat) (hx : xs[i]? = some x) :
    n = xs.length ∧ ∃ b off, A = some ⟨b, off, none⟩ ∧ base ≤ b ∧ b < w.heap.size ∧ w.cell? ⟨b, off + i, none⟩ = some (.int K (x : Int)) ∧ w.frozen? ⟨b, off + i, none⟩ = false := by
  obtain ⟨A', c', e, h1, h2, h3, h4⟩ := h
  injection e with e1 e2 e3
  subst e1; subst e3
  have hi : i < xs.length := (List.getElem?_eq_some_iff.1 hx).1
  obtain ⟨b, off, cs, rfl, hb, hl, hg⟩ := h4 (by omega)
  exact ⟨e2, b, off, rfl, (h3 b rfl).1, (h3 b rfl).2, hb.cell _ _ (hg i x hx), hb.frozen _⟩
/-- an element is written -/
theorem RwAt.put {b off n c : Nat} (h : RwAt T K w base (.slice (some ⟨b, off, none⟩) n c) xs) (i y : Nat) (hi : i < xs.length) :
    RwAt T K (w.setCell ⟨b, off + i, none⟩ (.int K (y : Int))) base (.slice (some ⟨b, off, none⟩) n c) (xs.set i y) := by
  obtain ⟨A', c', e, h1, h2, h3, h4⟩ := h
  injection e with e1 e2 e3
  subst e1; subst e3; subst e2
  obtain ⟨b', off', cs, e, hb, hl, hg⟩ := h4 (by omega)
  injection e with e; injection e with e1 e2 _
  subst e1; subst e2
  refine ⟨_, _, by rw [List.length_set], by rw [List.length_set]; exact h1, h2, fun q hq => ⟨(h3 q hq).1, by have := (h3 q hq).2; simp [World.setCell]; exact this⟩, fun hc => ⟨b, off, _, rfl, hb.put _ _, by rw [List.length_set]; exact hl, fun j x hx => ?_⟩⟩
  rw [List.getElem?_set] at hx ⊢
  by_cases hij : i = j
  · subst hij
    rw [if_pos rfl, if_pos hi] at hx
    injection hx with hx
    rw [if_pos rfl, if_pos (by omega), hx]
  · rw [if_neg hij] at hx
    rw [if_neg (by omega)]
    exact hg j x hx
end

/-! ### cells, one behind the other -/
theorem ins_get (xs : List Nat) (a j k : Nat) (ha : a ≤ xs.length) : (ins xs a j)[k]? = if k < a then xs[k]? else if k = a then some j else xs[k - 1]? := by
  unfold ins
  rw [List.getElem?_append, List.length_take, Nat.min_eq_left ha]
  split
  · rw [List.getElem?_take, if_pos (by assumption)]
  · split
    · subst_vars; simp
    · rw [show k - a = (k - 1 - a) + 1 from by omega, List.getElem?_cons_succ, List.getElem?_drop, show a + (k - 1 - a) = k - 1 from by omega]

def valsI (xs : List Nat) : List Value := xs.map fun (x : Nat) => Value.int .i64 (x : Int)
theorem valsI_one (xs : List Nat) : ∀ v ∈ valsI xs, v.oneCell' = true := by
  intro v hv
  simp [valsI] at hv
  obtain ⟨x, _, rfl⟩ := hv
  rfl
theorem valsI_get (xs : List Nat) (j : Nat) (v : Value) (h : (valsI xs)[j]? = some v) : ∃ x, xs[j]? = some x ∧ v = .int .i64 (x : Int) := by
  simp [valsI] at h
  obtain ⟨x, h1, h2⟩ := h
  exact ⟨x, h1, h2.symm⟩
theorem valsI_at (xs : List Nat) (j x : Nat) (h : xs[j]? = some x) : (valsI xs)[j]? = some (.int .i64 (x : Int)) := by simp [valsI, h]

theorem zc (n : Nat) : Builtin.zeroCells (Value.int .i64 0).cells n = (List.replicate n (Value.int .i64 0)).toArray := by
  apply Array.ext
  · simp [Builtin.zeroCells, Value.cells]
  · intro i h1 h2
    simp [Builtin.zeroCells, Value.cells, Nat.mod_one]

set_option maxRecDepth 100000 in
set_option maxHeartbeats 1600000 in
theorem insert_any (w : World) (base : Nat) (v : Value) (xs : List Nat) (a j vb : Nat) (ha : a ≤ xs.length) (hlen : xs.length ≤ 4294967296) (h : RwAt 3 .i64 w base v xs) (harg : BoxAt 3 w vb [.int .i64 (j : Int)]) (hvb : v.ownBlock ≠ some vb) (hbase : base ≤ w.heap.size) :
    Calls Tryz.prog 78 #[v, .int .i64 (a : Nat), .slice (some ⟨vb, 0, none⟩) 1 1] w fun e w' => ∃ v', e = .returned v' ∧ RwAt 3 .i64 w' base v' (ins xs a j) ∧ w.grownBy w' v.ownBlock ∧ (v'.ownBlock = v.ownBlock ∨ ∃ q, v'.ownBlock = some q ∧ w.heap.size ≤ q) := by
  obtain ⟨A, c, rfl, h1, h2, h3, h4⟩ := h
  have hvl : ([Value.int .i64 (j : Int)] : List Value).length = 1 := rfl
  have hcl : (valsI xs).length = xs.length := by simp [valsI]
  have h1v : ∀ u ∈ ([Value.int .i64 (j : Int)] : List Value), u.oneCell' = true := by simp [Value.oneCell']
  have hvs : ∀ k u, ([Value.int .i64 (j : Int)] : List Value)[k]? = some u → w.cell? ⟨vb, 0 + k, none⟩ = some u := fun k u hu => by rw [Nat.zero_add]; exact harg.cell k u hu
  have hil := ins_len xs a j ha
  have hbig : (xs.length + 1) * 8 ≤ 140737488355328 := by omega
  unfold maxLen at h2
  by_cases hroom : xs.length + 1 ≤ c
  · obtain ⟨b, off, cs, rfl, hb, hl, hg⟩ := h4 (by omega)
    have hsp : ∀ k, k < xs.length + 1 → (w.cell? ⟨b, off + k, none⟩).isSome = true := fun k hk => by
      rw [hb.cell (off + k) _ (List.getElem?_eq_getElem (by omega))]; rfl
    have hb3 := h3 b rfl
    by_cases hn : a = xs.length
    · subst hn
      refine (Any2.slices_Insert_int_end_room lays221 b off xs.length c vb 0 1 1 [.int .i64 (j : Int)] w (by omega) hroom (by omega) rfl (fun k hk => by rw [Nat.add_assoc]; exact hsp _ (by omega)) (fun k hk => hb.frozen _) hvs h1v).mono ?_
      rintro e w' ⟨rfl, rfl⟩
      refine ⟨_, rfl, ⟨_, _, by rw [hil], by rw [hil]; exact hroom, by unfold maxLen; exact h2, fun q hq => ⟨(h3 q hq).1, Nat.lt_of_lt_of_le (h3 q hq).2 (gsetCells b _ w _).size⟩, fun _ => ⟨b, off, _, rfl, hb.setCells_ _ _, by rw [puts_len]; exact hl, fun k x hx => ?_⟩⟩, gsetCells b _ w _, Or.inl rfl⟩
      rw [ins_get _ _ _ _ (Nat.le_refl _)] at hx
      rw [puts_get _ _ _ _ (by simp; omega)]
      simp only [List.length_cons, List.length_nil]
      by_cases hk : k < xs.length
      · rw [if_pos hk] at hx
        rw [if_neg (by omega)]
        exact hg k x hx
      · rw [if_neg hk] at hx
        by_cases hk2 : k = xs.length
        · subst hk2
          rw [if_pos rfl] at hx
          injection hx with hx
          rw [if_pos (by omega), Nat.sub_self, ← hx]
          rfl
        · rw [if_neg hk2, List.getElem?_eq_none (by omega)] at hx
          cases hx
    · have hsb : w.shape? b = some (3, cs.length) := by have := hb; unfold BoxAt at this; simp [World.shape?, this]
      have hsa : w.shape? vb = some (3, 1) := by have := harg; unfold BoxAt at this; simp [World.shape?, this]
      refine (Any2.slices_Insert_int_shift lays221 b off xs.length c a vb 0 1 1 (valsI xs) [.int .i64 (j : Int)] w (by omega) (by omega) hroom (by omega) (fun e => hvb (by rw [e]; rfl)) hcl rfl
        (fun k u hu => by obtain ⟨x, hx, rfl⟩ := valsI_get xs k u hu; exact hb.cell _ _ (hg k x hx)) hsp (fun k _ => hb.frozen _) hvs (valsI_one xs) h1v _ _ 1 cs.length hsa hsb (by omega) (harg.frozen _) (harg.frozen _)).mono ?_
      rintro e w' ⟨rfl, rfl⟩
      have hgr : w.grownBy ((w.drew.setCells b (off + (a + 1)) ((valsI xs).drop a)).setCells b (off + a) [.int .i64 (j : Int)]) (some b) := gtrans (gtrans (gdrew_ (grefl w _)) (gsetCells b _ w.drew _)) (gsetCells b _ _ _)
      have hdl : ((valsI xs).drop a).length = xs.length - a := by rw [List.length_drop, hcl]
      refine ⟨_, rfl, ⟨_, _, by rw [hil], by rw [hil]; exact hroom, by unfold maxLen; exact h2, fun q hq => ⟨(h3 q hq).1, Nat.lt_of_lt_of_le (h3 q hq).2 hgr.size⟩, fun _ => ⟨b, off, _, rfl, BoxAt.setCells_ _ _ (BoxAt.setCells_ (w := w.drew) _ _ hb), by rw [puts_len, puts_len]; exact hl, fun k x hx => ?_⟩⟩, hgr, Or.inl rfl⟩
      rw [ins_get _ _ _ _ ha] at hx
      rw [puts_get _ _ _ _ (by rw [puts_len]; simp; omega), puts_get _ _ _ _ (by rw [hdl]; omega), hdl]
      simp only [List.length_cons, List.length_nil]
      by_cases hk : k < a
      · rw [if_pos hk] at hx
        rw [if_neg (by omega), if_neg (by omega)]
        exact hg k x hx
      · rw [if_neg hk] at hx
        by_cases hk2 : k = a
        · subst hk2
          rw [if_pos rfl] at hx
          injection hx with hx
          rw [if_pos (by omega), Nat.sub_self, ← hx]
          rfl
        · rw [if_neg hk2] at hx
          have hkl : k - 1 < xs.length := (List.getElem?_eq_some_iff.1 hx).1
          rw [if_neg (by omega), if_pos (by omega), List.getElem?_drop, show a + (off + k - (off + (a + 1))) = k - 1 from by omega]
          exact valsI_at xs _ x hx
  · by_cases hn : a = xs.length
    · subst hn
      refine (Any2.slices_Insert_int_end_grow lays221 A xs.length c vb 0 1 1 (valsI xs) [.int .i64 (j : Int)] w (by omega) h1 (by omega) hbig hcl rfl (fun e => by
          rcases Nat.eq_zero_or_pos xs.length with h0 | h0
          · exact h0
          · obtain ⟨b, off, cs, e2, _⟩ := h4 (by omega)
            rw [e] at e2; cases e2) (fun ad e k u hu => by
          obtain ⟨x, hx, rfl⟩ := valsI_get xs k u hu
          have hk : k < xs.length := (List.getElem?_eq_some_iff.1 hx).1
          obtain ⟨b, off, cs, e2, hb, hl, hg⟩ := h4 (by omega)
          rw [e] at e2
          injection e2 with e2
          subst e2
          have := hb.cell _ _ (hg k x hx)
          rw [Addr.add_lit]
          exact this) hvs h1v).mono ?_
      rintro e w' ⟨rfl, rfl⟩
      have hG := grownCap_ge w (xs.length + 1) c 3
      have hG63 := grownCap_le_maxLen w (xs.length + 1) c 3 (by unfold maxLen; omega)
      rw [zc]
      have hne := BoxAt.new_ 3 w.drew ((valsI xs ++ [Value.int .i64 (j : Int)]) ++ List.replicate (grownCap w (xs.length + 1) c 3 - (xs.length + 1)) (Value.int .i64 0))
      have hgr : w.grownBy (w.drew.alloc (.cells ((valsI xs ++ [Value.int .i64 (j : Int)]).toArray ++ (List.replicate (grownCap w (xs.length + 1) c 3 - (xs.length + 1)) (Value.int .i64 0)).toArray) 3)) (Value.slice A xs.length c).ownBlock := gbelow (((Below.refl w.heap.size w).drew).alloc (Nat.le_refl _) _) _
      rw [List.append_toArray] at hgr ⊢
      refine ⟨_, rfl, ⟨_, _, by rw [hil]; rfl, by rw [hil]; exact hG, hG63, fun q hq => ?_, fun _ => ⟨w.heap.size, 0, _, rfl, hne, ?_, fun k x hx => ?_⟩⟩, hgr, Or.inr ⟨w.heap.size, rfl, Nat.le_refl _⟩⟩
      · injection hq with hq
        subst hq
        exact ⟨hbase, by simp⟩
      · simp [valsI]; omega
      · rw [ins_get _ _ _ _ (Nat.le_refl _)] at hx
        rw [Nat.zero_add, List.getElem?_append_left (by
          have hkx : k < xs.length + 1 := by
            by_cases hk : k < xs.length
            · omega
            · rw [if_neg hk] at hx
              by_cases hk2 : k = xs.length
              · omega
              · rw [if_neg hk2, List.getElem?_eq_none (by omega)] at hx; cases hx
          simp [valsI]; omega)]
        by_cases hk : k < xs.length
        · rw [if_pos hk] at hx
          rw [List.getElem?_append_left (by rw [hcl]; exact hk)]
          exact valsI_at xs _ x hx
        · rw [if_neg hk] at hx
          by_cases hk2 : k = xs.length
          · subst hk2
            rw [if_pos rfl] at hx
            injection hx with hx
            rw [List.getElem?_append_right (by rw [hcl]; omega), hcl, Nat.sub_self, ← hx]
            rfl
          · rw [if_neg hk2, List.getElem?_eq_none (by omega)] at hx
            cases hx
    · obtain ⟨b, off, cs, rfl, hb, hl, hg⟩ := h4 (by omega)
      refine (Any2.slices_Insert_int_grow lays221 b off xs.length c a vb 0 1 1 (valsI xs) [.int .i64 (j : Int)] w (by omega) (by omega) h1 (by omega) hbig hcl rfl
        (fun k u hu => by obtain ⟨x, hx, rfl⟩ := valsI_get xs k u hu; exact hb.cell _ _ (hg k x hx)) hvs (valsI_one xs) h1v).mono ?_
      rintro e w' ⟨rfl, rfl⟩
      have hG := grownCap_ge w (xs.length + 1) c 3
      have hG63 := grownCap_le_maxLen w (xs.length + 1) c 3 (by unfold maxLen; omega)
      have hgc : grownCap w (xs.length + 1) c (lays221_ren.t 3) = grownCap w (xs.length + 1) c 3 := rfl
      rw [hgc]
      generalize grownCap w (xs.length + 1) c 3 = G at *
      rw [zc, zc, List.append_toArray, List.append_toArray]
      have hdl : ((valsI xs).drop a).length = xs.length - a := by rw [List.length_drop, hcl]
      have htl : ((valsI xs).take a).length = a := by rw [List.length_take, hcl, Nat.min_eq_left ha]
      generalize hROW : (valsI xs).take a ++ List.replicate (xs.length + 1 - a) (Value.int .i64 0) ++ List.replicate (G - (xs.length + 1)) (Value.int .i64 0) = ROW
      have hRl : ROW.length = G := by rw [← hROW]; simp [htl]; omega
      have hne : BoxAt 3 (w.alloc (.cells ROW.toArray 3)).drew w.heap.size ROW := (BoxAt.new_ 3 w ROW)
      have hn1 := BoxAt.setCells_ [Value.int .i64 (j : Int)] a hne
      have hn2 := BoxAt.setCells_ ((valsI xs).drop a) (a + 1) (w := ((w.alloc (.cells ROW.toArray 3)).drew.setCells w.heap.size a [Value.int .i64 (j : Int)]).drew) hn1
      have hgr : w.grownBy ((((w.alloc (.cells ROW.toArray 3)).drew.setCells w.heap.size a [Value.int .i64 (j : Int)]).drew).setCells w.heap.size (a + 1) ((valsI xs).drop a)) (some b) :=
        gnew (gnew (gbelow ((balloc w (.cells ROW.toArray 3)).drew) (some b)) (gdrew_ (gsetCells w.heap.size [Value.int .i64 (j : Int)] _ a)) (fun i e => Or.inl (by injection e with e; omega))) (gsetCells w.heap.size _ _ _) (fun i e => Or.inl (by injection e with e; omega))
      refine ⟨_, rfl, ⟨_, _, by rw [hil], by rw [hil]; exact hG, hG63, fun q hq => ?_, fun _ => ⟨w.heap.size, 0, _, rfl, hn2, ?_, fun k x hx => ?_⟩⟩, hgr, Or.inr ⟨w.heap.size, rfl, Nat.le_refl _⟩⟩
      · injection hq with hq
        subst hq
        exact ⟨hbase, hn2.lt⟩
      · rw [puts_len, puts_len, hRl]; omega
      · rw [ins_get _ _ _ _ ha] at hx
        rw [Nat.zero_add, puts_get _ _ _ _ (by rw [puts_len, hdl, hRl]; omega), puts_get _ _ _ _ (by simp; omega), hdl]
        simp only [List.length_cons, List.length_nil]
        by_cases hk : k < a
        · rw [if_pos hk] at hx
          rw [if_neg (by omega), if_neg (by omega), ← hROW, List.append_assoc, List.getElem?_append_left (by omega), List.getElem?_take, if_pos hk]
          exact valsI_at xs _ x hx
        · rw [if_neg hk] at hx
          by_cases hk2 : k = a
          · subst hk2
            rw [if_pos rfl] at hx
            injection hx with hx
            rw [if_neg (by omega), if_pos (by omega), Nat.sub_self, ← hx]
            rfl
          · rw [if_neg hk2] at hx
            have hkl : k - 1 < xs.length := (List.getElem?_eq_some_iff.1 hx).1
            rw [if_pos (by omega), List.getElem?_drop, show a + (k - (a + 1)) = k - 1 from by omega]
            exact valsI_at xs _ x hx
end Go.Proofs.YtcffeepgfjpcaaaGreat

namespace Go.Proofs.YtcffeepgfjpcaaaGreat
set_option linter.unusedSimpArgs false
set_option linter.unusedVariables false
open Go.RowKit

/-! ### how many draws come to a neighbour, without wrapping -/
def ncell (W k i : Nat) (c : GCell) : Nat := (if i = k then min c.cut.toNat W else 0) + (if c.oth.toNat = k then W - min c.cut.toNat W else 0)
def ncntF (W k : Nat) : Nat → List GCell → Nat
  | _, [] => 0
  | o, c :: r => ncell W k o c + ncntF W k (o + 1) r
theorem ncntF_set (W k : Nat) : ∀ (l : List GCell) (o i : Nat) (c0 c : GCell), l[i]? = some c0 → ncntF W k o (l.set i c) + ncell W k (o + i) c0 = ncntF W k o l + ncell W k (o + i) c
  | [], o, i, c0, c, h => by simp at h
  | a :: l, o, 0, c0, c, h => by
    simp at h
    subst h
    simp [ncntF]
    omega
  | a :: l, o, i + 1, c0, c, h => by
    have ih := ncntF_set W k l (o + 1) i c0 c (by simpa using h)
    simp only [List.set_cons_succ, ncntF]
    rw [show o + 1 + i = o + (i + 1) from by omega] at ih
    omega
theorem ncntF_snoc (W k : Nat) : ∀ (l : List GCell) (o : Nat) (c : GCell), ncntF W k o (l ++ [c]) = ncntF W k o l + ncell W k (o + l.length) c
  | [], o, c => by simp [ncntF]
  | a :: l, o, c => by
    have ih := ncntF_snoc W k l (o + 1) c
    simp only [List.cons_append, ncntF, ih, List.length_cons]
    rw [show o + 1 + l.length = o + (l.length + 1) from by omega]
    omega
theorem cstep_n (W : Nat) (k i : Nat) (c : GCell) (N : Nat) : cstep W (k : Int) i c (N % 18446744073709551616) = (N + ncell W k i c) % 18446744073709551616 := by
  unfold cstep ncell
  simp only
  have e : (if W < c.cut.toNat then W else c.cut.toNat) = min c.cut.toNat W := by simp only [Nat.min_def]; split <;> split <;> omega
  rw [e]
  generalize min c.cut.toNat W = m
  by_cases h1 : i = k
  · have h1' : (i : Int) = (k : Int) := by omega
    rw [if_pos h1, if_pos h1']
    by_cases h2 : c.oth.toNat = k
    · have h2' : (c.oth.toNat : Int) = (k : Int) := by omega
      rw [if_pos h2, if_pos h2']; omega
    · have h2' : ¬ (c.oth.toNat : Int) = (k : Int) := by omega
      rw [if_neg h2, if_neg h2']; omega
  · have h1' : ¬ (i : Int) = (k : Int) := by omega
    rw [if_neg h1, if_neg h1']
    by_cases h2 : c.oth.toNat = k
    · have h2' : (c.oth.toNat : Int) = (k : Int) := by omega
      rw [if_pos h2, if_pos h2']; omega
    · have h2' : ¬ (c.oth.toNat : Int) = (k : Int) := by omega
      rw [if_neg h2, if_neg h2']; omega
theorem cntK_n (W k : Nat) (l : List GCell) : ∀ m, m ≤ l.length → cntK W (k : Int) l m = ncntF W k 0 (l.take m) % 18446744073709551616
  | 0, _ => by simp [cntK, ncntF]
  | m + 1, h => by
    rw [cntK_succ W _ l m (by omega), cntK_n W k l m (by omega), cstep_n, List.take_add_one, List.getElem?_eq_getElem (by omega), Option.toList_some, ncntF_snoc, List.length_take, Nat.min_eq_left (by omega), Nat.zero_add]
theorem cnt_n (W k : Nat) (l : List GCell) : cnt W (k : Int) l = ncntF W k 0 l % 18446744073709551616 := by
  rw [cnt, cntK_n W k l l.length (Nat.le_refl _), List.take_length]

/-! ### what holds at each turn -/
structure BInv (W n M : Nat) (d0 : Nat → Nat) (s : BSt) : Prop where
  ll : s.left.length = n
  ol : s.out.length = n
  sum : s.left.sum = n * W
  un : ∀ k, k < n → s.left.getD k 0 ≠ W → s.out[k]? = some (mkC W k)
  cn : ∀ k, k < n → ncntF W k 0 s.out + s.left.getD k 0 = W + d0 k
  ok : ∀ c ∈ s.out, c.cut.toNat ≤ W ∧ c.oth.toNat < n
  mx : ∀ k, k < n → s.left.getD k 0 ≤ M
theorem mkC_cut (c o : Nat) (h : c < 18446744073709551616) : (mkC c o).cut.toNat = c := by simp only [mkC, UInt64.toNat_ofNat']; omega
theorem mkC_oth (c o : Nat) (h : o < 4294967296) : (mkC c o).oth.toNat = o := by simp only [mkC, UInt32.toNat_ofNat']; omega
theorem BInv.next {W n M : Nat} {d0 : Nat → Nat} {s : BSt} (h : BInv W n M d0 s) (hn : n ≤ 4294967296) (hW : W < 18446744073709551616) (hWM : W ≤ M) (i j : Nat) (hi : i < n) (hj : j < n) (hiW : s.left.getD i 0 < W) (hjW : W < s.left.getD j 0) :
    BInv W n M d0 ⟨pay W s.left i j, s.out.set i (mkC (s.left.getD i 0) j)⟩ := by
  have hij : i ≠ j := fun e => by subst e; omega
  have hi' : i < s.left.length := by rw [h.ll]; exact hi
  have hj' : j < s.left.length := by rw [h.ll]; exact hj
  have hg := fun k => pay_get W s.left i j k hi' hj'
  have hoi := h.un i hi (by omega)
  refine ⟨by rw [pay_len]; exact h.ll, by rw [List.length_set]; exact h.ol, by rw [pay_sum W s.left i j hi' hj' hiW hjW]; exact h.sum, ?_, ?_, ?_, ?_⟩
  · intro k hk hne
    simp only [hg] at hne
    rw [List.getElem?_set]
    by_cases h1 : i = k
    · rw [if_pos h1] at hne; exact absurd rfl hne
    · rw [if_neg h1] at hne ⊢
      by_cases h2 : j = k
      · subst h2; exact h.un j hk (by omega)
      · rw [if_neg h2] at hne; exact h.un k hk hne
  · intro k hk
    have hs := ncntF_set W k s.out 0 i (mkC W i) (mkC (s.left.getD i 0) j) hoi
    have hc := h.cn k hk
    simp only [hg]
    unfold ncell at hs
    rw [mkC_cut W i hW, mkC_oth W i (by omega), mkC_cut _ _ (by omega), mkC_oth _ _ (by omega), Nat.zero_add] at hs
    rw [Nat.min_eq_left (Nat.le_refl W), Nat.min_eq_left (by omega : s.left.getD i 0 ≤ W)] at hs
    by_cases h1 : i = k
    · have h2 : ¬ j = k := fun e => hij (h1.trans e.symm)
      rw [if_pos h1, if_pos h1, if_pos h1, if_neg h2] at hs
      rw [if_pos h1]
      subst h1
      omega
    · rw [if_neg h1, if_neg h1, if_neg h1] at hs
      rw [if_neg h1]
      by_cases h2 : j = k
      · rw [if_pos h2] at hs ⊢
        subst h2
        omega
      · rw [if_neg h2] at hs ⊢
        omega
  · intro c hc
    rcases List.mem_or_eq_of_mem_set hc with hc | rfl
    · exact h.ok c hc
    · rw [mkC_cut _ _ (by omega), mkC_oth _ _ (by omega)]
      omega
  · intro k hk
    have := h.mx k hk
    have hmj := h.mx j hj
    simp only [hg]
    split
    · exact hWM
    · split
      · omega
      · exact this

/-! ### the first rests and cells -/
def bst0 (l : List GArc) : BSt := ⟨(List.range l.length).map (left0 l), (List.range l.length).map (mkC (gsum l))⟩
def btab (l : List GArc) : List GCell := (brun (gsum l) (l.length + 1) (bst0 l)).out
theorem ncntF_first (W k : Nat) (hW : W < 18446744073709551616) : ∀ (n o : Nat), o + n ≤ 4294967296 → ncntF W k o ((List.range' o n).map (mkC W)) = if o ≤ k ∧ k < o + n then W else 0
  | 0, o, _ => by rw [if_neg (by omega)]; simp [ncntF]
  | n + 1, o, h => by
    have ih := ncntF_first W k hW n (o + 1) (by omega)
    simp only [List.range'_succ, List.map_cons, ncntF, ih]
    unfold ncell
    rw [mkC_cut W o hW, mkC_oth W o (by omega), Nat.min_eq_left (Nat.le_refl W), Nat.sub_self]
    by_cases h1 : o = k
    · rw [if_pos h1, if_pos h1, if_neg (by omega), if_pos (by omega)]; rfl
    · rw [if_neg h1, if_neg h1]
      by_cases h2 : o + 1 ≤ k ∧ k < o + 1 + n
      · rw [if_pos h2, if_pos (by omega)]; omega
      · rw [if_neg h2, if_neg (by omega)]
theorem sum_mul (n : Nat) : ∀ l : List Nat, (l.map fun x => n * x).sum = n * l.sum
  | [] => by simp
  | a :: l => by simp [sum_mul n l, Nat.mul_add]
theorem lefts_sum (l : List GArc) : ((List.range l.length).map (left0 l)).sum = l.length * gsum l := by
  have : (List.range l.length).map (left0 l) = (l.map fun a => a.wt.toNat).map fun x => l.length * x := by
    apply List.ext_getElem
    · simp
    · intro i h1 h2
      simp at h1
      simp [left0, List.getElem?_eq_getElem h1]
  rw [this, sum_mul]
  rfl
theorem getD_lefts (l : List GArc) (k : Nat) (hk : k < l.length) : ((List.range l.length).map (left0 l)).getD k 0 = left0 l k := by
  rw [getD_get _ _ (by simpa using hk)]
  simp
theorem bst0_inv (l : List GArc) (hl : l.length ≤ 1048576) (hg : gsum l ≤ 2147483647) : BInv (gsum l) l.length 4503599627370496 (left0 l) (bst0 l) := by
  refine ⟨by simp [bst0], by simp [bst0], lefts_sum l, ?_, ?_, ?_, ?_⟩
  · intro k hk _
    simp [bst0, List.getElem?_range hk]
  · intro k hk
    have := ncntF_first (gsum l) k (by omega) l.length 0 (by omega)
    rw [← List.range_eq_range', if_pos (by omega)] at this
    show ncntF (gsum l) k 0 ((List.range l.length).map (mkC (gsum l))) + ((List.range l.length).map (left0 l)).getD k 0 = _
    rw [this, getD_lefts l k hk]
  · intro c hc
    simp [bst0] at hc
    obtain ⟨k, hk, rfl⟩ := hc
    rw [mkC_cut _ _ (by omega), mkC_oth _ _ (by omega)]
    omega
  · intro k hk
    show ((List.range l.length).map (left0 l)).getD k 0 ≤ _
    rw [getD_lefts l k hk, left0, List.getElem?_eq_getElem hk]
    have h1 := u32_lt (l[k]).wt
    have : l.length * (l[k]).wt.toNat ≤ 1048576 * 4294967296 := Nat.mul_le_mul hl (by omega)
    simpa using this
/-- one turn, as the program goes: or nobody lacks -/
theorem BInv.turn {W n M : Nat} {d0 : Nat → Nat} {s : BSt} (h : BInv W n M d0 s) : (poorL W s.left = [] ∧ bstep1 W s = none) ∨
    ∃ i j r, poorL W s.left = i :: r ∧ i < n ∧ j < n ∧ s.left.getD i 0 < W ∧ W < s.left.getD j 0 ∧ bstep1 W s = some ⟨pay W s.left i j, s.out.set i (mkC (s.left.getD i 0) j)⟩ ∧ (∀ k, k < j → s.left.getD k 0 ≤ W) := by
  cases hp : poorL W s.left with
  | nil => exact Or.inl ⟨rfl, by rw [bstep1, poor_none W s.left hp]⟩
  | cons i r =>
    obtain ⟨h1, h2, h3⟩ := poor_head W s.left i r hp
    right
    cases hf : s.left.findIdx? (fun x => decide (W < x)) with
    | none =>
      rw [List.findIdx?_eq_none_iff] at hf
      have := rich_ex W s.left i (by rw [h.sum, h.ll]) h2 h3 s.left.length (fun k hk => by
        have := hf _ (List.getElem_mem hk)
        rw [getD_get _ _ hk]
        have h9 : ¬ W < s.left[k] := fun hx => by rw [decide_eq_true hx] at this; cases this
        omega) (Nat.le_refl _)
      omega
    | some j =>
      have hf' := hf
      rw [List.findIdx?_eq_some_iff_getElem] at hf
      obtain ⟨hj, hjW, hb⟩ := hf
      rw [← getD_get] at hjW
      refine ⟨i, j, r, rfl, by rw [← h.ll]; exact h2, by rw [← h.ll]; exact hj, h3, by simpa using hjW, by rw [bstep1, h1, hf'], fun k hk => ?_⟩
      have := hb k hk
      rw [← getD_get] at this
      have h9 : ¬ W < s.left.getD k 0 := fun hx => this (decide_eq_true hx)
      omega
theorem brun_inv (l : List GArc) (hl : l.length ≤ 1048576) (hg : gsum l ≤ 2147483647) : ∀ k, BInv (gsum l) l.length 4503599627370496 (left0 l) (brun (gsum l) k (bst0 l))
  | 0 => bst0_inv l hl hg
  | k + 1 => by
    have ih := brun_inv l hl hg k
    rw [brun]
    rcases ih.turn with ⟨h1, h2⟩ | ⟨i, j, r, h1, h2, h3, h4, h5, h6, h7⟩
    · rw [h2]; exact ih
    · rw [h6]; exact ih.next (by omega) (by omega) (by omega) i j h2 h3 h4 h5
theorem brun_bad (l : List GArc) (hl : l.length ≤ 1048576) (hg : gsum l ≤ 2147483647) : ∀ k, (∃ m, m ≤ k ∧ bstep1 (gsum l) (brun (gsum l) m (bst0 l)) = none) ∨ k + bad (gsum l) (brun (gsum l) k (bst0 l)).left ≤ l.length
  | 0 => Or.inr (by have := bad_le (gsum l) (bst0 l).left; simp [bst0] at this ⊢; exact this)
  | k + 1 => by
    rcases brun_bad l hl hg k with ⟨m, hm, h⟩ | h
    · exact Or.inl ⟨m, by omega, h⟩
    · have ih := brun_inv l hl hg k
      rcases ih.turn with ⟨h1, h2⟩ | ⟨i, j, r, h1, h2, h3, h4, h5, h6, h7⟩
      · exact Or.inl ⟨k, by omega, h2⟩
      · right
        rw [brun, h6]
        have := bad_pay (gsum l) (brun (gsum l) k (bst0 l)).left i j (by rw [ih.ll]; exact h2) (by rw [ih.ll]; exact h3) h4 h5
        show k + 1 + bad _ (pay _ _ _ _) ≤ _
        omega
/-- where it stops is the table -/
theorem btab_at (l : List GArc) (k : Nat) (hk : k ≤ l.length + 1) (h : bstep1 (gsum l) (brun (gsum l) k (bst0 l)) = none) : (brun (gsum l) k (bst0 l)).out = btab l := by
  have := brun_stop (gsum l) k (bst0 l) h (l.length + 1 - k)
  rw [show k + (l.length + 1 - k) = l.length + 1 from by omega] at this
  rw [btab, this]
theorem btab_stop (l : List GArc) (hl : l.length ≤ 1048576) (hg : gsum l ≤ 2147483647) : ∃ k, BInv (gsum l) l.length 4503599627370496 (left0 l) (brun (gsum l) k (bst0 l)) ∧ poorL (gsum l) (brun (gsum l) k (bst0 l)).left = [] ∧ (brun (gsum l) k (bst0 l)).out = btab l := by
  rcases brun_bad l hl hg (l.length + 1) with ⟨m, hm, h⟩ | h
  · have hi := brun_inv l hl hg m
    refine ⟨m, hi, ?_, btab_at l m hm h⟩
    rcases hi.turn with ⟨h1, h2⟩ | ⟨i, j, r, h1, h2, h3, h4, h5, h6, h7⟩
    · exact h1
    · rw [h] at h6; cases h6
  · omega
theorem btab_len (l : List GArc) (hl : l.length ≤ 1048576) (hg : gsum l ≤ 2147483647) : (btab l).length = l.length := by
  obtain ⟨k, hi, _, e⟩ := btab_stop l hl hg
  rw [← e]; exact hi.ol
theorem btab_ok (l : List GArc) (hl : l.length ≤ 1048576) (hg : gsum l ≤ 2147483647) : ∀ c ∈ btab l, c.cut.toNat ≤ gsum l ∧ c.oth.toNat < l.length := by
  obtain ⟨k, hi, _, e⟩ := btab_stop l hl hg
  rw [← e]; exact hi.ok
theorem btab_n (l : List GArc) (hl : l.length ≤ 1048576) (hg : gsum l ≤ 2147483647) (i : Nat) (hi : i < l.length) : ncntF (gsum l) i 0 (btab l) = l.length * (l[i]).wt.toNat := by
  obtain ⟨k, h, hp, e⟩ := btab_stop l hl hg
  have h1 := h.cn i hi
  have hall := sum_gt_one (gsum l) _ (by rw [h.sum, h.ll]) (fun x hx => by
    obtain ⟨q, hq, rfl⟩ := List.mem_iff_getElem.1 hx
    have : ¬ q ∈ poorL (gsum l) (brun (gsum l) k (bst0 l)).left := by rw [hp]; simp
    rw [poorL_mem, getD_get _ _ hq] at this
    omega)
  have h2 := hall _ (List.getElem_mem (by rw [h.ll]; exact hi))
  rw [← getD_get] at h2
  rw [← e]
  rw [h2] at h1
  have : left0 l i = l.length * (l[i]).wt.toNat := by rw [left0, List.getElem?_eq_getElem hi]; rfl
  omega
theorem btab_cnt (l : List GArc) (hl : l.length ≤ 1048576) (hg : gsum l ≤ 2147483647) (i : Nat) (hi : i < l.length) : cnt (gsum l) (i : Int) (btab l) = l.length * (l[i]).wt.toNat := by
  rw [cnt_n, btab_n l hl hg i hi, Nat.mod_eq_of_lt]
  have h1 := u32_lt (l[i]).wt
  have : l.length * (l[i]).wt.toNat ≤ 1048576 * 4294967296 := Nat.mul_le_mul hl (by omega)
  omega
theorem btab_may (l : List GArc) (hl : l.length ≤ 1048576) (h : nbrs l = true) (hg : gsum l ≤ 2147483647) : mayOk l (btab l) = true := by
  have hn := btab_len l hl hg
  refine mayOk_yes h hn.symm ?_ fun k hk => btab_cnt l hl hg k hk
  unfold cgood
  rw [List.all_eq_true]
  intro c hc
  have := btab_ok l hl hg c hc
  rw [hn]
  simp [this]
end Go.Proofs.YtcffeepgfjpcaaaGreat

namespace Go.Proofs.YtcffeepgfjpcaaaGreat
set_option linter.unusedSimpArgs false
set_option linter.unusedVariables false
open Go.RowKit

theorem RwAt.chg {P : Nat → Prop} {T : TypeId} {K : IntKind} {w w' : World} {base : Nat} {v : Value} {xs : List Nat} (h : RwAt T K w base v xs) (hc : Chg P w w') (hn : ∀ q, v.ownBlock = some q → ¬ P q) : RwAt T K w' base v xs := by
  obtain ⟨A, c, rfl, h1, h2, h3, h4⟩ := h
  refine ⟨A, c, rfl, h1, h2, fun q hq => ⟨(h3 q hq).1, Nat.lt_of_lt_of_le (h3 q hq).2 hc.size⟩, fun hcc => ?_⟩
  obtain ⟨b, off, cs, rfl, hb, hl, hx⟩ := h4 hcc
  exact ⟨b, off, cs, rfl, hb.chg hc (hn b rfl), hl, hx⟩

theorem RwAt.set_ {T : TypeId} {K : IntKind} {w : World} {base : Nat} {v : Value} {xs : List Nat} (h : RwAt T K w base v xs) (p : Addr) (u : Value) (hne : v.ownBlock ≠ some p.block) : RwAt T K (w.setCell p u) base v xs :=
  h.keep (gset w p u) fun q hq e => hne (by rw [hq]; exact e.symm)

set_option maxRecDepth 100000 in
set_option maxHeartbeats 1600000 in
theorem nextR_any (w : World) (g W base : Nat) (vl vp : Value) (rich p : Nat) (ps : List Nat) (hbx : BoxAt 104 w g [.int .u64 (W : Int), vl, vp, .int .i64 (rich : Int)]) (hr : RwAt 3 .i64 w base vp (p :: ps)) :
    Calls Tryz.prog 47 #[.pointer (some ⟨g, 0, none⟩)] w fun e w' => e = .returned (.int .i64 (p : Int)) ∧ ∃ vp', w' = w.setCell ⟨g, 2, none⟩ vp' ∧ RwAt 3 .i64 w base vp' ps ∧ vp'.ownBlock = vp.ownBlock := by
  obtain ⟨A, c, rfl, hc1, hc2⟩ := hr.form
  obtain ⟨_, b, off, rfl, hb1, hb2, hx, hxf⟩ := hr.at_ 0 p rfl
  have hy := hbx.cell 2 _ rfl
  have hf := hbx.frozen 2
  unfold maxLen at hc2
  simp only [List.length_cons] at hc1 hy
  rw [Nat.add_zero] at hx hxf
  have hcl : ps.length + 1 ≤ c := hc1
  have htail : ∀ v' : Value, v' = .slice (some ⟨b, (if c = 1 then off else off + 1), none⟩) ps.length (c - 1) → RwAt 3 .i64 w base v' ps := by
    rintro v' rfl
    obtain ⟨A', c', e, h1, h2, h3, h4⟩ := hr
    injection e with e1 e2 e3
    subst e1; subst e3
    refine ⟨_, _, rfl, by omega, by unfold maxLen at h2 ⊢; omega, h3, fun hc => ?_⟩
    obtain ⟨b', off', cs, e, hb, hl, hg⟩ := h4 (by omega)
    injection e with e; injection e with e1 e2 _
    subst e1; subst e2
    rw [if_neg (by omega)]
    refine ⟨b, off + 1, cs, rfl, hb, by omega, fun j x hj => ?_⟩
    have := hg (j + 1) x (by simpa using hj)
    rw [show off + 1 + j = off + (j + 1) from by omega]
    exact this
  have Ht := Lib.hid htail
  clear htail hbx hr
  by_cases h1 : c = 1
  · have hc1' : (c == 1) = true := by simpa using h1
    go_enter Tryz.func47, Tryz.ntmps47
    go_wp2_with fail
    go_ret
    exact ⟨rfl, _, rfl, Ht.out _ (by simp [h1]), rfl⟩
  · have hc1' : (c == 1) = false := by simpa using h1
    go_enter Tryz.func47, Tryz.ntmps47
    go_wp2_with fail
    go_ret
    exact ⟨rfl, _, rfl, Ht.out _ (by simp [h1]), rfl⟩

set_option maxRecDepth 100000 in
set_option maxHeartbeats 1600000 in
theorem bsearch_any (w : World) (base : Nat) (v : Value) (ps : List Nat) (r : Nat) (h : RwAt 3 .i64 w base v ps) (hps : ps.length ≤ 4294967296) (hs : ps.Pairwise (· < ·)) :
    Calls Tryz.prog 77 #[v, .int .i64 (r : Int)] w fun e w' => ∃ fo, e = .returned (.tuple #[.int .i64 ((ps.countP fun x => decide (x < r) : Nat) : Int), .bool fo]) ∧ ∃ q, w' = w.drewN q := by
  obtain ⟨A, c, rfl, h1, h2⟩ := h.form
  cases hp : ps with
  | nil =>
    subst hp
    refine (Any.slices_BinarySearch_int_empty lays225 A c (r : Int) w).mono ?_
    rintro e w' ⟨rfl, rfl⟩
    exact ⟨false, rfl, 0, rfl⟩
  | cons a t =>
    rw [← hp]
    obtain ⟨_, b, off, rfl, _, _, _, _⟩ := h.at_ 0 a (by rw [hp]; rfl)
    have hz : (ps.map fun (x : Nat) => (x : Int)).length = ps.length := by simp
    have htk : (ps.map fun (x : Nat) => (x : Int)).take ps.length = ps.map fun (x : Nat) => (x : Int) := List.take_of_length_le (by rw [hz]; omega)
    have hcnt : (ps.map fun (x : Nat) => (x : Int)).countP (fun x => decide (x < (r : Int))) = ps.countP fun x => decide (x < r) := by
      rw [List.countP_map]
      congr 1
      funext x
      simp
    refine (Any.slices_BinarySearch_int lays225 b off ps.length c (ps.map fun (x : Nat) => (x : Int)) (r : Int) w (by omega) (by omega) (fun j hj => ?_) ?_).mono ?_
    · rw [hz] at hj
      obtain ⟨_, b', off', e, _, _, hx, _⟩ := h.at_ j ps[j] (List.getElem?_eq_getElem hj)
      injection e with e; injection e with e1 e2 _
      subst e1; subst e2
      rw [hx]
      simp [List.getD, hj]
    · rw [htk, List.pairwise_map]
      exact hs.imp fun hab => by omega
    · rw [htk, hcnt]
      rintro e w' ⟨rfl, q, rfl⟩
      exact ⟨_, rfl, q, rfl⟩
end Go.Proofs.YtcffeepgfjpcaaaGreat

namespace Go.Proofs.YtcffeepgfjpcaaaGreat
set_option linter.unusedSimpArgs false
set_option linter.unusedVariables false
open Go.RowKit

set_option maxRecDepth 100000 in
set_option maxHeartbeats 3200000 in
theorem give_any (w : World) (g W base n : Nat) (vl vp : Value) (rich i j : Nat) (left ps : List Nat) (P : Nat → Prop) (hbx : BoxAt 104 w g [.int .u64 (W : Int), vl, vp, .int .i64 (rich : Int)])
    (hl : RwAt 23 .u64 w base vl left) (hp : RwAt 3 .i64 w base vp ps) (hap : Apart vl vp) (hgl : vl.ownBlock ≠ some g) (hgp : vp.ownBlock ≠ some g) (hbase : base ≤ w.heap.size)
    (hn : left.length = n) (hn2 : n ≤ 1048576) (hps : ps.length ≤ n) (hW : W ≤ 2147483647) (hi : i < n) (hj : j < n) (hiW : left.getD i 0 < W) (hjW : W < left.getD j 0) (hmx : left.getD j 0 ≤ 4503599627370496) (hr : rich ≤ j)
    (hrk : ∀ k, k < j → left.getD k 0 ≤ W) (hpr : ps.Pairwise (· < ·)) (hPg : P g) (hPl : ∀ q, vl.ownBlock = some q → P q) (hPp : ∀ q, vp.ownBlock = some q → P q) :
    Calls Tryz.prog 48 #[.pointer (some ⟨g, 0, none⟩), .int .i64 (i : Int)] w fun e w' => e = .returned (.int .i64 (j : Int)) ∧ ∃ vp', BoxAt 104 w' g [.int .u64 (W : Int), vl, vp', .int .i64 (j : Int)] ∧
      RwAt 23 .u64 w' base vl (pay W left i j) ∧ RwAt 3 .i64 w' base vp' (if left.getD j 0 - (W - left.getD i 0) < W then ins ps (ps.countP fun x => decide (x < j)) j else ps) ∧
      (vp'.ownBlock = vp.ownBlock ∨ ∃ q, vp'.ownBlock = some q ∧ w.heap.size ≤ q) ∧ Chg P w w' := by
  have Hrk := Lib.hid hrk
  have Hpr := Lib.hid hpr
  have HPl := Lib.hid hPl
  have HPp := Lib.hid hPp
  clear hrk hpr hPl hPp
  have hij : i ≠ j := fun e => by subst e; omega
  obtain ⟨ps', hps'⟩ : ∃ ps', ps' = (if left.getD j 0 - (W - left.getD i 0) < W then ins ps (ps.countP fun x => decide (x < j)) j else ps) := ⟨_, rfl⟩
  rw [← hps']
  have Hps := Lib.hid hps'
  clear hps'
  go_enter Tryz.func48, Tryz.ntmps48
  go_wp2_with fail
  go_loopg [] (j - rich) (fun gh wr => ∃ r : Nat, r ≤ j ∧ j - r ≤ gh ∧ BoxAt 104 wr g [.int .u64 (W : Int), vl, vp, .int .i64 (r : Int)] ∧ RwAt 23 .u64 wr base vl left ∧ RwAt 3 .i64 wr base vp ps ∧ Chg P w wr)
  case atStart => exact ⟨rich, hr, Nat.le_refl _, hbx, hl, hp, Chg.refl _ _⟩
  case round =>
    obtain ⟨r, hrj, hgh, hbx1, hl1, hp1, hc1⟩ := hrel
    obtain ⟨Al, cl, rfl, hcl1, hcl2⟩ := hl1.form
    unfold maxLen at hcl2
    obtain ⟨_, b, off, rfl, hb1, hb2, hxj, hxf⟩ := hl1.at_ j (left.getD j 0) (by rw [getD_get _ _ (by omega)]; exact List.getElem?_eq_getElem _)
    obtain ⟨_, b', off', e, _, _, hxi, _⟩ := hl1.at_ i (left.getD i 0) (by rw [getD_get _ _ (by omega)]; exact List.getElem?_eq_getElem _)
    injection e with e; injection e with e1 e2 _
    subst e1; subst e2
    have hy0 := hbx1.cell 0 _ rfl
    have hy1 := hbx1.cell 1 _ rfl
    have hy3 := hbx1.cell 3 _ rfl
    have hf3 := hbx1.frozen 3
    rw [hn] at hy1
    by_cases hrlt : r < j
    · have hle := Hrk.out r hrlt
      obtain ⟨_, b', off', e, _, _, hxr, _⟩ := hl1.at_ r (left.getD r 0) (by rw [getD_get _ _ (by omega)]; exact List.getElem?_eq_getElem _)
      injection e with e; injection e with e1 e2 _
      subst e1; subst e2
      have Hbx1 := Lib.hid hbx1
      have Hl1 := Lib.hid hl1
      have Hp1 := Lib.hid hp1
      have Hc1 := Lib.hid hc1
      clear hbx1 hl1 hp1 hc1 hxj hxi
      generalize left.getD r 0 = lr at *
      have hd : decide (lr ≤ W) = true := decide_eq_true hle
      have hrn : r < left.length := by omega
      go_wp2_with fail
      go_quiet (fail)
      go_wp2_with fail
      go_roundg (j - (r + 1))
      case measure => omega
      case rel => exact ⟨r + 1, by omega, Nat.le_refl _, BoxAt.put (w := wr.drewN _) Hbx1.out 3 _, (Hl1.out.drewN_ _).set_ _ _ hgl, (Hp1.out.drewN_ _).set_ _ _ hgp, (Hc1.out.drewN_ _).trans (Chg.set _ _ _ hPg)⟩
    · obtain rfl : r = j := by omega
      have Hbx1 := Lib.hid hbx1
      have Hl1 := Lib.hid hl1
      have Hp1 := Lib.hid hp1
      have Hc1 := Lib.hid hc1
      clear hbx1 hl1 hp1 hc1
      generalize hLI : left.getD i 0 = li at *
      generalize hLJ : left.getD r 0 = lj at *
      have HLI := Lib.hid hLI
      have HLJ := Lib.hid hLJ
      clear hLI hLJ
      have hd : decide (lj ≤ W) = false := decide_eq_false (by omega)
      have hrn : r < left.length := by omega
      have hin : i < left.length := by omega
      go_wp2_with fail
      go_quiet (fail)
      go_wp2_with fail
      have HbxD := Lib.hid (show BoxAt 104 (wr.drewN nq) g _ from Hbx1.out)
      have HlD := Lib.hid (Hl1.out.drewN_ nq)
      have HpD := Lib.hid (Hp1.out.drewN_ nq)
      have HcD := Lib.hid (Hc1.out.drewN_ nq)
      have hb2D : b < (wr.drewN nq).heap.size := hb2
      replace hxj : (wr.drewN nq).cell? _ = _ := hxj
      replace hxi : (wr.drewN nq).cell? _ = _ := hxi
      replace hy0 : (wr.drewN nq).cell? _ = _ := hy0
      replace hy1 : (wr.drewN nq).cell? _ = _ := hy1
      replace hxf : (wr.drewN nq).frozen? _ = _ := hxf
      clear hbx hl hp hb2 hy3 hf3 Hbx1 Hl1 Hp1 Hc1
      generalize wr.drewN nq = wd at *
      have hs1 : IntKind.u64.wrap ((W : Int) - (li : Int)) = ((W - li : Nat) : Int) := by rw [wrap_u64]; omega
      have hs2 : IntKind.u64.wrap ((lj : Int) - ((W - li : Nat) : Int)) = ((lj - (W - li) : Nat) : Int) := by rw [wrap_u64]; omega
      have hs3 : IntKind.u64.wrap ((lj : Int) - IntKind.u64.wrap ((W : Int) - (li : Int))) = ((lj - (W - li) : Nat) : Int) := by rw [hs1, hs2]
      go_region
      have hgb : g ≠ b := fun e => hgl (by rw [e]; rfl)
      have hl2 := Lib.hid ((HlD.out.put r (lj - (W - li)) (by omega)).drew_)
      have hp2 := Lib.hid ((HpD.out.set_ ⟨b, off + r, none⟩ (.int .u64 ((lj - (W - li) : Nat) : Int)) (fun e => hap b rfl e)).drew_)
      have hbx2 := Lib.hid (show BoxAt 104 (wd.setCell ⟨b, off + r, none⟩ (.int .u64 ((lj - (W - li) : Nat) : Int))).drew g _ from HbxD.out.other ⟨b, off + r, none⟩ (.int .u64 ((lj - (W - li) : Nat) : Int)) (fun e => hgb e.symm))
      have hc2 := Lib.hid ((HcD.out.trans (Chg.set wd ⟨b, off + r, none⟩ (.int .u64 ((lj - (W - li) : Nat) : Int)) (HPl.out b rfl))).drew_)
      clear hxj hxi hy0 hy1 hxf HbxD HlD HpD HcD hb2D
      generalize (wd.setCell ⟨b, off + r, none⟩ (.int .u64 ((lj - (W - li) : Nat) : Int))).drew = w2 at *
      have hy0 := hbx2.out.cell 0 _ rfl
      have hy1 := hbx2.out.cell 1 _ rfl
      rw [hn] at hy1
      obtain ⟨_, b', off', e, _, _, hxi, hxf⟩ := hl2.out.at_ i li (by rw [List.getElem?_set, if_neg (fun e => hij e.symm), List.getElem?_eq_getElem hin, ← HLI.out, getD_get])
      injection e with e; injection e with e1 e2 _
      subst e1; subst e2
      go_wp2_with fail
      go_region
      have hl3 := Lib.hid ((hl2.out.put i W (by rw [List.length_set]; omega)).drew_)
      have hp3 := Lib.hid ((hp2.out.set_ ⟨b, off + i, none⟩ (.int .u64 (W : Int)) (fun e => hap b rfl e)).drew_)
      have hbx3 := Lib.hid (show BoxAt 104 (w2.setCell ⟨b, off + i, none⟩ (.int .u64 (W : Int))).drew g _ from hbx2.out.other ⟨b, off + i, none⟩ (.int .u64 (W : Int)) (fun e => hgb e.symm))
      have hc3 := Lib.hid ((hc2.out.trans (Chg.set w2 ⟨b, off + i, none⟩ (.int .u64 (W : Int)) (HPl.out b rfl))).drew_)
      clear hxi hxf hy0 hy1 hl2 hp2 hbx2 hc2
      generalize (w2.setCell ⟨b, off + i, none⟩ (.int .u64 (W : Int))).drew = w3 at *
      have hy0 := hbx3.out.cell 0 _ rfl
      have hy1 := hbx3.out.cell 1 _ rfl
      have hy2 := hbx3.out.cell 2 _ rfl
      have hf2 := hbx3.out.frozen 2
      rw [hn] at hy1
      obtain ⟨_, b', off', e, _, _, hxj, _⟩ := hl3.out.at_ r (lj - (W - li)) (by rw [List.getElem?_set, if_neg hij, List.getElem?_set, if_pos rfl, if_pos (by omega)])
      injection e with e; injection e with e1 e2 _
      subst e1; subst e2
      have hpay : (left.set r (lj - (W - li))).set i W = pay W left i r := by unfold pay; rw [HLI.out, HLJ.out]
      rw [hpay] at hl3
      have Hpay := Lib.hid hpay
      clear hpay
      clear hs1 hs2 hs3
      have hnjb : lj - (W - li) ≤ 4503599627370496 := by omega
      generalize hnj : lj - (W - li) = nj at *
      have Hnj := Lib.hid hnj
      clear hnj
      by_cases hlt : nj < W
      · have hd2 : decide (nj < W) = true := decide_eq_true hlt
        go_wp2_with fail
        go_quiet (fail)
        go_wp2_with fail
        obtain ⟨Ap, cp, rfl, hcp1, hcp2⟩ := hp3.out.form
        go_wp2_with fail
        refine (bsearch_any (w3.drewN nq) base _ ps r (hp3.out.drewN_ _) (by omega) Hpr.out).mono ?_
        rintro _ w4 ⟨fo, rfl, q4, rfl⟩
        have hl4 := Lib.hid ((hl3.out.drewN_ nq).drewN_ q4)
        have hp4 := Lib.hid ((hp3.out.drewN_ nq).drewN_ q4)
        have hbx4 := Lib.hid (show BoxAt 104 ((w3.drewN nq).drewN q4) g _ from hbx3.out)
        have hc4 := Lib.hid ((hc3.out.drewN_ nq).drewN_ q4)
        replace hy2 : ((w3.drewN nq).drewN q4).cell? _ = _ := hy2
        replace hf2 : ((w3.drewN nq).drewN q4).frozen? _ = _ := hf2
        have hle : ps.countP (fun x => decide (x < r)) ≤ ps.length := List.countP_le_length
        have e9 := Hps.out
        rw [if_pos hlt] at e9
        have E9 := Lib.hid e9
        clear hxj hy0 hy1 hl3 hp3 hbx3 hc3 e9 Hps
        generalize (w3.drewN nq).drewN q4 = w4 at *
        generalize (ps.countP fun x => decide (x < r)) = at4 at *
        go_wp2_with fail
        have hp5 := (hp4.out.alloc_ (.cells #[.int .i64 (r : Int)] 3))
        have harg := BoxAt.new_ 3 w4 [.int .i64 (r : Int)]
        have hbx5 := Lib.hid (hbx4.out.alloc (.cells #[.int .i64 (r : Int)] 3))
        have hl5 := Lib.hid (hl4.out.alloc_ (.cells #[.int .i64 (r : Int)] 3))
        have hblk := hp4.out.blk
        refine (insert_any _ base _ ps at4 r w4.heap.size hle (by omega) hp5 harg (fun e => by have := (hblk _ e).2; omega) (by have := hc4.out.size; simp; omega)).mono ?_
        rintro _ w6 ⟨v6, rfl, hp6, hg6, ho6⟩
        obtain ⟨A6, c6, rfl, h61, h62⟩ := hp6.form
        have hbx6 := hbx5.out.grown hg6 hgp
        have hl6 := Lib.hid (hl5.out.keep hg6 hap)
        have hc6 := Lib.hid ((hc4.out.alloc_ (.cells #[.int .i64 (r : Int)] 3)).trans (Chg.ofGrown hg6 HPp.out))
        have hglt := hbx5.out.lt
        have hws : w.heap.size ≤ (w4.alloc (.cells #[.int .i64 (r : Int)] 3)).heap.size := (hc4.out.alloc_ _).size
        have hg6' : (Value.slice A6 (ins ps at4 r).length c6).ownBlock ≠ some g := fun e => by
          rcases ho6 with h | ⟨q, h, h2⟩
          · exact hgp (by rw [← h]; exact e)
          · rw [h] at e; injection e with e; omega
        have hy2' := hbx6.cell 2 _ rfl
        have hf2' := hbx6.frozen 2
        have ho7 : (Value.slice A6 (ins ps at4 r).length c6).ownBlock = (Value.slice Ap ps.length cp).ownBlock ∨ ∃ q, (Value.slice A6 (ins ps at4 r).length c6).ownBlock = some q ∧ w.heap.size ≤ q := by
          rcases ho6 with h | ⟨q, h, h2⟩
          · exact Or.inl h
          · exact Or.inr ⟨q, h, by omega⟩
        have Hp6 := Lib.hid hp6
        have Hbx6 := Lib.hid hbx6
        have Ho7 := Lib.hid ho7
        have Hg6' := Lib.hid hg6'
        clear hp6 hbx6 ho6 ho7 hg6 hp5 harg hbx5 hl5 hp4 hl4 hbx4 hc4 hy2 hf2 hg6' hglt hblk hws
        go_wp2_with fail
        go_ret
        exact ⟨rfl, _, Hbx6.out.put 2 _, hl6.out.set_ _ _ hgl, by rw [E9.out]; exact Hp6.out.set_ _ _ Hg6'.out, Ho7.out, hc6.out.trans (Chg.set _ _ _ hPg)⟩
      · have hd2 : decide (nj < W) = false := decide_eq_false hlt
        go_wp2_with fail
        go_quiet (fail)
        go_wp2_with fail
        go_ret
        have e9 := Hps.out
        rw [if_neg hlt] at e9
        subst e9
        exact ⟨rfl, vp, hbx3.out, hl3.out, hp3.out, Or.inl rfl, hc3.out.drewN_ _⟩
end Go.Proofs.YtcffeepgfjpcaaaGreat

namespace Go.Proofs.YtcffeepgfjpcaaaGreat
set_option linter.unusedSimpArgs false
set_option linter.unusedVariables false
open Go.RowKit

def ptotal (l : List GArc) : Nat := if gmay l = true then gsum l * l.length else 0
theorem gmay_sum {l : List GArc} (h : gmay l = true) : gsum l ≤ 2147483647 := by
  unfold gmay at h
  simp at h
  exact h.2
set_option maxRecDepth 100000 in
set_option maxHeartbeats 800000 in
theorem ptotal_any (w : World) (B : Nat) (v : Value) (l : List GArc) (hl : l.length ≤ 4294967296) (h : ByA w B v l) (hB : B ≤ w.heap.size) :
    Calls Tryz.prog 24 #[v] w fun e w' => e = .returned (.int .u64 (ptotal l : Nat)) ∧ Below w.heap.size w w' := by
  obtain ⟨A, c, rfl, hc1, hc2⟩ := h.form
  unfold maxLen at hc2
  have hmy := gmay_any w B _ l hl h hB
  have hsum := fun W h hW => gsum_any W B (.slice A l.length c) l hl h hW
  have Hsum := Lib.hid hsum
  clear hsum
  unfold ptotal
  cases hm : gmay l with
  | false =>
    rw [hm] at hmy
    go_enter Tryz.func24, Tryz.ntmps24
    clear hm
    go_wp2_with fail
    refine hmy.mono ?_
    rintro _ w1 ⟨rfl, hb1⟩
    go_wp2_with fail
    go_ret
    exact ⟨rfl, hb1⟩
  | true =>
    have hs := gmay_sum hm
    rw [hm] at hmy
    have hmb : gsum l * l.length ≤ 2147483647 * 4294967296 := Nat.mul_le_mul hs hl
    have hmul : IntKind.u64.wrap ((gsum l : Int) * (l.length : Int)) = ((gsum l * l.length : Nat) : Int) := by
      rw [← Int.natCast_mul, wrap_u64]; omega
    have Hmul := Lib.hid hmul
    clear hmul
    go_enter Tryz.func24, Tryz.ntmps24
    clear hm
    go_wp2_with fail
    refine hmy.mono ?_
    rintro _ w1 ⟨rfl, hb1⟩
    go_wp2_with fail
    refine (Hsum.out w1 (h.below (hb1.mono hB)) (Nat.le_trans hB hb1.size)).mono ?_
    rintro _ w2 ⟨rfl, hb2⟩
    have hmul := Hmul.out
    go_wp2_with fail
    go_ret
    exact ⟨by first | rfl | simp, bstep hb1 hb2⟩

end Go.Proofs.YtcffeepgfjpcaaaGreat

namespace Go.Proofs.YtcffeepgfjpcaaaGreat
set_option linter.unusedSimpArgs false
set_option linter.unusedVariables false
open Go.RowKit

/-- the neighbour that a draw comes to -/
def palias (l : List GArc) (t : List GCell) (x : Nat) : Nat × Bool :=
  if l.length = t.length ∧ x < ptotal l then
    let c := (t[x / gsum l]?).getD ⟨0, 0⟩
    if x % gsum l < c.cut.toNat then (x / gsum l, true) else if c.oth.toNat < l.length then (c.oth.toNat, true) else (0, false)
  else (0, false)
theorem palias_no {l : List GArc} {t : List GCell} {x : Nat} (h : ¬ (l.length = t.length ∧ x < ptotal l)) : palias l t x = (0, false) := by
  unfold palias; rw [if_neg h]
theorem ptotal_pos {l : List GArc} {x : Nat} (h : x < ptotal l) : gmay l = true ∧ 0 < gsum l ∧ x / gsum l < l.length ∧ gsum l ≤ 2147483647 := by
  unfold ptotal at h
  split at h
  · rename_i hg
    have h0 : 0 < gsum l := Nat.pos_of_ne_zero fun e => by rw [e] at h; simp at h
    exact ⟨hg, h0, Nat.div_lt_of_lt_mul h, gmay_sum hg⟩
  · omega
theorem palias_yes {l : List GArc} {t : List GCell} {x : Nat} (hlt : l.length = t.length) (hx : x < ptotal l) (hk : x / gsum l < t.length) :
    palias l t x = if x % gsum l < (t[x / gsum l]).cut.toNat then (x / gsum l, true) else if (t[x / gsum l]).oth.toNat < l.length then ((t[x / gsum l]).oth.toNat, true) else (0, false) := by
  unfold palias
  rw [if_pos ⟨hlt, hx⟩, List.getElem?_eq_getElem hk]
  rfl

set_option maxRecDepth 100000 in
set_option maxHeartbeats 1600000 in
theorem palias_any (w : World) (B B2 : Nat) (v v2 : Value) (l : List GArc) (t : List GCell) (x : Nat) (hx : x < 18446744073709551616) (hl : l.length ≤ 4294967296) (ht : t.length ≤ 4294967296) (h : ByA w B v l) (h2 : ByC w B2 v2 t) (hB : B ≤ w.heap.size) (hB2 : B2 ≤ w.heap.size) :
    Calls Tryz.prog 26 #[v, v2, .int .u64 (x : Int)] w fun e w' => e = .returned (.tuple #[.int .i64 ((palias l t x).1 : Nat), .bool (palias l t x).2]) ∧ Below w.heap.size w w' := by
  obtain ⟨A, c, rfl, hc1, hc2⟩ := h.form
  obtain ⟨A2, c2, rfl, hd1, hd2⟩ := h2.form
  unfold maxLen at hc2 hd2
  have hS := gsum_lt l
  have htot := ptotal_any w B _ l hl h hB
  have hsum := fun W h hW => gsum_any W B (.slice A l.length c) l hl h hW
  have Hsum := Lib.hid hsum
  have Htot := Lib.hid htot
  clear hsum htot
  by_cases hlt : l.length = t.length
  · have hle1 : ((l.length : Int) == (t.length : Int)) = true := by simp [hlt]
    have hle2 : ((l.length : Int) != (t.length : Int)) = false := by simp [hlt]
    have hpt : ptotal l < 18446744073709551616 := by
      unfold ptotal
      split
      · rename_i hg
        have := Nat.mul_le_mul (gmay_sum hg) hl
        omega
      · omega
    by_cases hxt : x < ptotal l
    · obtain ⟨hg, hW0, hk, hW1⟩ := ptotal_pos hxt
      have hkt : x / gsum l < t.length := by omega
      have hpa := palias_yes hlt hxt hkt
      have hge : decide (ptotal l ≤ x) = false := decide_eq_false (by omega)
      obtain ⟨ad, rfl, hab, hx0, hx1⟩ := ByC.cells h2 (x / gsum l) hkt
      have hcu := u64_lt (t[x / gsum l]).cut
      have hot := u32_lt (t[x / gsum l]).oth
      have Hpa := Lib.hid hpa
      have hcs : ∀ W, Below w.heap.size w W → W.cell? (ad.add (x / gsum l * 2)) = some (.int .u64 ((t[x / gsum l]).cut.toNat : Int)) ∧ W.cell? { block := (ad.add (x / gsum l * 2)).block, off := (ad.add (x / gsum l * 2)).off + 1 } = some (.int .u32 ((t[x / gsum l]).oth.toNat : Int)) := fun W hW =>
        ⟨(hW.cell (by rw [add_block]; omega)).trans hx0, (hW.cell (by show (ad.add (x / gsum l * 2)).block < _; rw [add_block]; omega)).trans hx1⟩
      have Hcs := Lib.hid hcs
      clear hpa hcs hx0 hx1
      have Hlt := Lib.hid hlt
      generalize (t[x / gsum l]).cut.toNat = cut at *
      generalize (t[x / gsum l]).oth.toNat = oth at *
      have hq : Int.tdiv (x : Int) (gsum l : Int) = ((x / gsum l : Nat) : Int) := rfl
      have hr : Int.tmod (x : Int) (gsum l : Int) = ((x % gsum l : Nat) : Int) := rfl
      have hn0 : ((gsum l : Int) == 0) = false := beq_eq_false_iff_ne.2 (by omega)
      have hn1 : ¬ ((gsum l : Nat) = 0) := by omega
      have hkb : decide (((x / gsum l : Nat) : Int) < (t.length : Int)) = true := decide_eq_true (by omega)
      have hrl : x % gsum l < gsum l := Nat.mod_lt _ hW0
      clear hlt hxt hg hW0 hk
      go_enter Tryz.func26, Tryz.ntmps26
      go_wp2_with fail
      refine Htot.out.mono ?_
      rintro _ w1 ⟨rfl, hb1⟩
      go_wp2_with fail
      refine (Hsum.out w1 (h.below (hb1.mono hB)) (Nat.le_trans hB hb1.size)).mono ?_
      rintro _ w2 ⟨rfl, hb2⟩
      have hb02 := bstep hb1 hb2
      obtain ⟨hx0, hx1⟩ := Hcs.out w2 hb02
      generalize hqq : x / gsum l = qd at *
      generalize hrr : x % gsum l = rm at *
      generalize gsum l = S at *
      have hqb : qd ≤ 9223372036854775807 := by omega
      have hb3 := bstep hb02 (balloc w2 (.cells #[.int .u64 (cut : Int), .int .u32 (oth : Int)] 106))
      have Hb3 := Lib.hid hb3
      clear hb3 hqq hrr
      by_cases hc : rm < cut
      · have hp := Lib.hid ((Hpa.out).trans (if_pos hc))
        have hd : decide (rm < cut) = true := decide_eq_true hc
        clear hc
        go_wp2_with fail
        go_quiet (fail)
        go_wp2_with fail
        go_ret2
        rw [hp.out]
        exact ⟨rfl, bdrewN Hb3.out _⟩
      · have hp := Lib.hid ((Hpa.out).trans (if_neg hc))
        have hd : decide (rm < cut) = false := decide_eq_false hc
        clear hc
        by_cases ho : oth < l.length
        · have hp2 := Lib.hid ((hp.out).trans (if_pos ho))
          have hd2 : decide (oth < l.length) = true := decide_eq_true ho
          clear ho
          go_wp2_with fail
          go_quiet (fail)
          go_wp2_with fail
          go_ret2
          rw [hp2.out]
          exact ⟨rfl, bdrewN Hb3.out _⟩
        · have hp2 := Lib.hid ((hp.out).trans (if_neg ho))
          have hd2 : decide (oth < l.length) = false := decide_eq_false ho
          clear ho
          go_wp2_with fail
          go_quiet (fail)
          go_wp2_with fail
          go_ret2
          rw [hp2.out]
          exact ⟨rfl, bdrewN Hb3.out _⟩
    · have hpa := palias_no (l := l) (t := t) (x := x) (fun e => hxt e.2)
      have hge : decide (ptotal l ≤ x) = true := decide_eq_true (by omega)
      have Hpa := Lib.hid hpa
      clear hpa hxt hlt
      go_enter Tryz.func26, Tryz.ntmps26
      go_wp2_with fail
      refine Htot.out.mono ?_
      rintro _ w1 ⟨rfl, hb1⟩
      go_wp2_with fail
      go_ret2
      rw [Hpa.out]
      exact ⟨rfl, hb1⟩
  · have hle1 : ((l.length : Int) == (t.length : Int)) = false := beq_eq_false_iff_ne.2 (by omega)
    have hle2 : ((l.length : Int) != (t.length : Int)) = true := by simp; omega
    have hpa := palias_no (l := l) (t := t) (x := x) (fun e => hlt e.1)
    have Hpa := Lib.hid hpa
    clear hpa hlt
    go_enter Tryz.func26, Tryz.ntmps26
    go_wp2_with fail
    go_ret2
    rw [Hpa.out]
    exact ⟨rfl, Below.refl _ _⟩
end Go.Proofs.YtcffeepgfjpcaaaGreat

namespace Go.Proofs.YtcffeepgfjpcaaaGreat
set_option linter.unusedSimpArgs false
set_option linter.unusedVariables false
open Go.RowKit

theorem OwnC.new_ (w : World) (l : List GCell) (hm : l.length ≤ maxLen) :
    OwnF 106 cCell (w.alloc (.cells ((l.map fun a => [Value.int .u64 (a.cut.toNat : Int), .int .u32 (a.oth.toNat : Int)]).flatten.toArray) 106)) w.heap.size (.slice (some ⟨w.heap.size, 0, none⟩) l.length l.length) l :=
  OwnR.new_ w _ (by simp) hm (fun i cs x hc hx => by
    rw [List.getElem?_map, hx] at hc
    injection hc with hc
    exact ⟨hc.symm, trivial⟩) fun _ h => h.elim
theorem OwnF.byC {w : World} {base : Nat} {v : Value} {l : List GCell} (h : OwnF 106 cCell w base v l) : ByC w w.heap.size v l := h.row.mono (fun _ hk => hk.2) fun _ h => h.elim

end Go.Proofs.YtcffeepgfjpcaaaGreat

namespace Go.Proofs.YtcffeepgfjpcaaaGreat
set_option linter.unusedSimpArgs false
set_option linter.unusedVariables false
open Go.RowKit

def cellsOf : List GCell → List Value
  | [] => []
  | c :: r => .int .u64 (c.cut.toNat : Int) :: .int .u32 (c.oth.toNat : Int) :: cellsOf r
theorem cellsOf_len : ∀ l : List GCell, (cellsOf l).length = l.length * 2
  | [] => rfl
  | c :: r => by simp [cellsOf, cellsOf_len r]; omega
theorem cellsOf_flat : ∀ l : List GCell, cellsOf l = (l.map fun a => [Value.int .u64 (a.cut.toNat : Int), .int .u32 (a.oth.toNat : Int)]).flatten
  | [] => rfl
  | c :: r => by simp [cellsOf, cellsOf_flat r]
theorem cellsOf_set : ∀ (l : List GCell) (k : Nat) (c : GCell), k < l.length → ((cellsOf l).set (k * 2) (.int .u64 (c.cut.toNat : Int))).set (k * 2 + 1) (.int .u32 (c.oth.toNat : Int)) = cellsOf (l.set k c)
  | [], k, c, h => by simp at h
  | a :: r, 0, c, h => by simp [cellsOf]
  | a :: r, k + 1, c, h => by
    have ih := cellsOf_set r k c (by simpa using h)
    rw [show (k + 1) * 2 = k * 2 + 2 from by omega]
    simp only [cellsOf, List.set_cons_succ, ih]
/-- the box is a row of one's own -/
theorem BoxAt.ownC {w : World} {g base : Nat} {l : List GCell} (h : BoxAt 106 w g (cellsOf l)) (hb : base ≤ g) (hm : l.length ≤ maxLen) : OwnF 106 cCell w base (.slice (some ⟨g, 0, none⟩) l.length l.length) l := by
  refine ⟨l.map fun a => [Value.int .u64 (a.cut.toNat : Int), .int .u32 (a.oth.toNat : Int)], by simp, ⟨?_, .inr ⟨g, l.length, (cellsOf l).toArray, rfl, hb, h, Nat.le_refl _, hm, ?_, ?_⟩⟩, ?_, fun _ h => h.elim⟩
  · rw [← cellsOf_flat, cellsOf_len]; rfl
  · simp [cellsOf_len]; rfl
  · rw [← cellsOf_flat]
    exact List.take_of_length_le (by simp [cellsOf_len]; exact Nat.le_refl _)
  · intro i cs x hc hx
    rw [List.getElem?_map, hx] at hc
    injection hc with hc
    exact ⟨hc.symm, trivial⟩
theorem RwAt.ofOwn64 {w : World} {base : Nat} {v : Value} {xs : List UInt64} {ys : List Nat} (h : OwnF 23 c64 w base v xs) (hy : ys = xs.map fun x => x.toNat) : RwAt 23 .u64 w base v ys := by
  obtain ⟨css, hl, ⟨hlen, hv⟩, h3, _⟩ := h
  have hyl : ys.length = xs.length := by rw [hy]; simp
  rcases hv with ⟨rfl, hn⟩ | ⟨g, cap, cur, rfl, hb, hh, h1, h2, hs, ht⟩
  · refine ⟨none, 0, by rw [hyl, hn], by omega, Nat.zero_le _, fun q hq => (by cases hq), fun h => absurd h (by omega)⟩
  · refine ⟨_, cap, by rw [hyl], by omega, h2, fun q hq => ?_, fun _ => ⟨g, 0, cur.toList, rfl, hh, ?_, fun j x hx => ?_⟩⟩
    · injection hq with hq
      subst hq
      exact ⟨hb, (Array.getElem?_eq_some_iff.1 hh).1⟩
    · simp [hs]; show cap ≤ cap * 1; omega
    · rw [hy, List.getElem?_map] at hx
      obtain ⟨u, hu, rfl⟩ := Option.map_eq_some_iff.1 hx
      have hj : j < xs.length := (List.getElem?_eq_some_iff.1 hu).1
      obtain ⟨e, _⟩ := h3 j css[j] u (List.getElem?_eq_getElem (by omega)) hu
      have hcl := OwnR.clen hl h3
      have hf := flat_get c64.n css hcl j css[j] 0 (List.getElem?_eq_getElem (by omega)) (by decide)
      rw [e, show c64.n = 1 from rfl] at hf
      rw [← ht, show c64.n = 1 from rfl, List.getElem?_take] at hf
      split at hf
      · rw [Nat.zero_add]
        rw [show j * 1 + 0 = j from by omega] at hf
        exact hf
      · cases hf
theorem RwAt.ofOwnInt {w : World} {base : Nat} {v : Value} {xs : List Int} {ys : List Nat} (h : OwnF 3 cInt w base v xs) (hy : xs = ys.map fun (x : Nat) => (x : Int)) : RwAt 3 .i64 w base v ys := by
  obtain ⟨css, hl, ⟨hlen, hv⟩, h3, _⟩ := h
  have hyl : ys.length = xs.length := by rw [hy]; simp
  rcases hv with ⟨rfl, hn⟩ | ⟨g, cap, cur, rfl, hb, hh, h1, h2, hs, ht⟩
  · refine ⟨none, 0, by rw [hyl, hn], by omega, Nat.zero_le _, fun q hq => (by cases hq), fun h => absurd h (by omega)⟩
  · refine ⟨_, cap, by rw [hyl], by omega, h2, fun q hq => ?_, fun _ => ⟨g, 0, cur.toList, rfl, hh, ?_, fun j x hx => ?_⟩⟩
    · injection hq with hq
      subst hq
      exact ⟨hb, (Array.getElem?_eq_some_iff.1 hh).1⟩
    · simp [hs]; show cap ≤ cap * 1; omega
    · have hu : xs[j]? = some (x : Int) := by rw [hy, List.getElem?_map, hx]; rfl
      have hj : j < xs.length := (List.getElem?_eq_some_iff.1 hu).1
      obtain ⟨e, _⟩ := h3 j css[j] _ (List.getElem?_eq_getElem (by omega)) hu
      have hcl := OwnR.clen hl h3
      have hf := flat_get cInt.n css hcl j css[j] 0 (List.getElem?_eq_getElem (by omega)) (by decide)
      rw [e, show cInt.n = 1 from rfl] at hf
      rw [← ht, show cInt.n = 1 from rfl, List.getElem?_take] at hf
      split at hf
      · rw [Nat.zero_add]
        rw [show j * 1 + 0 = j from by omega] at hf
        exact hf
      · cases hf
theorem lefts_nat (l : List GArc) (hl : l.length ≤ 1048576) : (bst0 l).left = (lefts l l.length).map fun x => x.toNat := by
  show (List.range l.length).map (left0 l) = _
  unfold lefts
  rw [List.map_map]
  apply List.map_congr_left
  intro i hi
  have hi : i < l.length := by simpa using hi
  have h1 := u32_lt (l[i]).wt
  have : l.length * (l[i]).wt.toNat ≤ 1048576 * 4294967296 := Nat.mul_le_mul hl (by omega)
  have e : left0 l i = l.length * (l[i]).wt.toNat := by rw [left0, List.getElem?_eq_getElem hi]; rfl
  simp only [Function.comp]
  rw [UInt64.toNat_ofNat', e]
  omega
theorem poors_nat (l : List GArc) : poors l l.length = (poorL (gsum l) (bst0 l).left).map fun (x : Nat) => (x : Int) := by
  unfold poors poorL
  congr 1
  have hlen : (bst0 l).left.length = l.length := by simp [bst0]
  rw [hlen]
  apply List.filter_congr
  intro i hi
  have hi : i < l.length := by simpa using hi
  show decide (left0 l i < gsum l) = decide (((List.range l.length).map (left0 l)).getD i 0 < gsum l)
  rw [getD_lefts l i hi]
/-- the first cells, laid so far -/
def outK (W n k : Nat) : List GCell := (List.range n).map fun i => if i < k then mkC W i else ⟨0, 0⟩
theorem outK_len (W n k : Nat) : (outK W n k).length = n := by simp [outK]
theorem outK_set (W n k : Nat) (hk : k < n) : (outK W n k).set k (mkC W k) = outK W n (k + 1) := by
  apply List.ext_getElem?
  intro j
  rw [List.getElem?_set]
  unfold outK
  simp only [List.length_map, List.length_range, List.getElem?_map]
  by_cases hj : j < n
  · rw [List.getElem?_range hj]
    by_cases h1 : k = j
    · subst h1; simp [hk]
    · rw [if_neg h1]
      simp only [Option.map_some]
      by_cases h2 : j < k
      · rw [if_pos h2, if_pos (by omega)]
      · rw [if_neg h2, if_neg (by omega)]
  · rw [List.getElem?_eq_none (by simp; omega), if_neg (by omega)]
    rfl
theorem outK_all (W n : Nat) : outK W n n = (List.range n).map (mkC W) := by
  unfold outK
  apply List.map_congr_left
  intro i hi
  rw [if_pos (by simpa using hi)]
theorem infoCell : (Tryz.prog.info? 106).map (fun i => (i.zero, i.size, i.bytes)) = some (some (.agg #[.int .u64 0, .int .u32 0]), 2, 16) := by kernel_rfl
theorem cellsOf_get2 : ∀ (l : List GCell) (k : Nat) (c : GCell), l[k]? = some c → (cellsOf l)[k * 2]? = some (.int .u64 (c.cut.toNat : Int)) ∧ (cellsOf l)[k * 2 + 1]? = some (.int .u32 (c.oth.toNat : Int))
  | [], k, c, h => by simp at h
  | a :: r, 0, c, h => by simp at h; subst h; simp [cellsOf]
  | a :: r, k + 1, c, h => by
    have ih := cellsOf_get2 r k c (by simpa using h)
    rw [show (k + 1) * 2 = k * 2 + 2 from by omega]
    simp only [cellsOf, List.getElem?_cons_succ]
    exact ih
theorem madeC (n W : Nat) : madeCells (Value.cells (.agg #[.int .u64 0, .int .u32 0])) (n * 2) = (cellsOf (outK W n 0)).toArray := by
  apply Array.ext
  · simp [madeCells, Value.cells, cellsOf_len, outK_len]
  · intro i h1 h2
    have hi : i < n * 2 := by simpa [madeCells, Value.cells] using h1
    have hg := cellsOf_get2 (outK W n 0) (i / 2) ⟨0, 0⟩ (by
      unfold outK
      rw [List.getElem?_map, List.getElem?_range (by omega)]
      simp)
    have h3 : i < (cellsOf (outK W n 0)).length := by rw [cellsOf_len, outK_len]; exact hi
    rcases Nat.mod_two_eq_zero_or_one i with hm | hm
    · have e : i / 2 * 2 = i := by omega
      rw [e, List.getElem?_eq_getElem h3] at hg
      have := Option.some.inj hg.1
      simp [madeCells, Value.cells, this, hm]
    · have e : i / 2 * 2 + 1 = i := by omega
      rw [e, List.getElem?_eq_getElem h3] at hg
      have := Option.some.inj hg.2
      simp [madeCells, Value.cells, this, hm]
theorem makeC (n W : Nat) (hn : n ≤ 4294967296) : ∀ w : World, (Instr.makeSlice 56 (.int .i64 (n : Int)) (.int .i64 (n : Int))).run Tryz.prog w = .ok (.slice (some ⟨w.heap.size, 0, none⟩) n n) (w.alloc (.cells (cellsOf (outK W n 0)).toArray 106)) := fun w => by
  obtain ⟨i, hi, hz0, hz1, hz2⟩ := info_parts infoCell
  have hr := run_make (P := Tryz.prog) w 56 106 i (.agg #[.int .u64 0, .int .u32 0]) Tryz.underlying56 hi hz0 .i64 .i64 (n : Int) (n : Int) (by omega) (by omega) (by rw [hz2]; omega) (by omega)
  rw [Int.toNat_natCast, hz1, madeC n W] at hr
  exact hr
theorem BoxAt.putCell {w : World} {go : Nat} {out : List GCell} (h : BoxAt 106 w go (cellsOf out)) (k : Nat) (c : GCell) (hk : k < out.length) (a b : Int) (ha : a = (c.cut.toNat : Int)) (hb : b = (c.oth.toNat : Int)) :
    BoxAt 106 ((w.setCell ⟨go, k * 2, none⟩ (.int .u64 a)).setCell ⟨go, k * 2 + 1, none⟩ (.int .u32 b)) go (cellsOf (out.set k c)) := by
  subst ha; subst hb
  rw [← cellsOf_set out k c hk]
  exact (h.put _ _).put _ _
end Go.Proofs.YtcffeepgfjpcaaaGreat

namespace Go.Proofs.YtcffeepgfjpcaaaGreat
set_option linter.unusedSimpArgs false
set_option linter.unusedVariables false
open Go.RowKit

set_option maxRecDepth 100000 in
set_option maxHeartbeats 800000 in
theorem build_no (w : World) (B : Nat) (v : Value) (l : List GArc) (hl : l.length ≤ 4294967296) (h : ByA w B v l) (hB : B ≤ w.heap.size) (hn : nbrs l = false) :
    Calls Tryz.prog 21 #[v] w fun e w' => e = .returned (.tuple #[.slice none 0 0, .int .i64 3]) ∧ Below w.heap.size w w' := by
  obtain ⟨A, c, rfl, hc1, hc2⟩ := h.form
  unfold maxLen at hc2
  have hmay := gmay_any w B _ l hl h hB
  unfold nbrs at hn
  by_cases h0 : l.length = 0
  · have hd : (l.length == 0) = true := by simpa using h0
    have hd1 : ((l.length : Int) == 0) = true := by simp [h0]
    clear hmay h0
    go_enter Tryz.func21, Tryz.ntmps21
    go_wp2_with fail
    go_step3
    go_wp2_with fail
    rw [Exit.noGoto_ret]
    go_ret2
    exact ⟨rfl, Below.refl _ _⟩
  · have hgm : gmay l = false := by
      rw [decide_eq_true (by omega), Bool.true_and] at hn
      exact hn
    rw [hgm] at hmay
    have hd : (l.length == 0) = false := beq_eq_false_iff_ne.2 (by omega)
    have hd1 : ((l.length : Int) == 0) = false := beq_eq_false_iff_ne.2 (by omega)
    have Hmay := Lib.hid hmay
    clear hmay h0
    go_enter Tryz.func21, Tryz.ntmps21
    go_wp2_with fail
    go_step3
    go_wp2_with fail
    refine Hmay.out.mono ?_
    rintro _ w1 ⟨rfl, hb1⟩
    go_wp2_with fail
    rw [Exit.noGoto_ret]
    go_ret2
    exact ⟨rfl, hb1⟩

set_option maxRecDepth 100000 in
set_option maxHeartbeats 3200000 in
theorem build_any (w : World) (B : Nat) (v : Value) (l : List GArc) (hl : l.length ≤ 1048576) (h : ByA w B v l) (hB : B ≤ w.heap.size) (hn : nbrs l = true) :
    Calls Tryz.prog 21 #[v] w fun e w' => ∃ vo, e = .returned (.tuple #[vo, .int .i64 0]) ∧ OwnF 106 cCell w' w.heap.size vo (btab l) ∧ Below w.heap.size w w' := by
  obtain ⟨A, c, rfl, hc1, hc2⟩ := h.form
  unfold maxLen at hc2
  unfold nbrs at hn
  rw [Bool.and_eq_true, decide_eq_true_eq] at hn
  obtain ⟨h0, hgm⟩ := hn
  have hsum := gmay_sum hgm
  have hmay := gmay_any w B _ l (by omega) h hB
  rw [hgm] at hmay
  have hbeg := fun W h hB => begin_any W B (.slice A l.length c) l hl h hB
  have hd : (l.length == 0) = false := beq_eq_false_iff_ne.2 (by omega)
  have hd1 : ((l.length : Int) == 0) = false := beq_eq_false_iff_ne.2 (by omega)
  have hmk := makeC l.length (gsum l) (by omega)
  have Hmay := Lib.hid hmay
  have Hbeg := Lib.hid hbeg
  have hinv := brun_inv l hl hsum
  have Hinv := Lib.hid hinv
  have hl64 := lefts_nat l hl
  have hpin := poors_nat l
  have Hl64 := Lib.hid hl64
  have Hpin := Lib.hid hpin
  have hat := btab_at l
  have Hat := Lib.hid hat
  have hoa := outK_all (gsum l) l.length
  have Hoa := Lib.hid hoa
  have hos := outK_set (gsum l) l.length
  have Hos := Lib.hid hos
  have H0 := Lib.hid h0
  clear hmay hbeg hinv hl64 hpin hgm hat hoa hos h0
  go_enter Tryz.func21, Tryz.ntmps21
  go_wp2_with fail
  go_step3
  go_wp2_with fail
  refine Hmay.out.mono ?_
  rintro _ w1 ⟨rfl, hb1⟩
  go_wp2_with fail
  refine (Hbeg.out w1 (h.below (hb1.mono hB)) (by have := hb1.size; omega)).mono ?_
  rintro _ w2 ⟨g, vl, vp, rfl, hg1, hbx, hol, hop, hap, hb2⟩
  have hb02 := bstep hb1 hb2
  have hs2 := hb02.size
  have hlt2 := hbx.lt
  have hgw : w.heap.size ≤ g := by have := hb1.size; omega
  have hrl := RwAt.ofOwn64 hol Hl64.out
  have hrp := RwAt.ofOwnInt hop Hpin.out
  have hgl : vl.ownBlock ≠ some g := fun e => by have := (hrl.blk _ e).1; omega
  have hgp : vp.ownBlock ≠ some g := fun e => by have := (hrp.blk _ e).1; omega
  have Hbx := Lib.hid hbx
  have Hrl := Lib.hid hrl
  have Hrp := Lib.hid hrp
  have Hb02 := Lib.hid hb02
  have Hap := Lib.hid hap
  clear hbx hol hop hap hb2 hb1 hrl hrp hb02 Hmay Hbeg
  go_wp2_with fail
  have hbc0 := BoxAt.new_ 106 w2 (cellsOf (outK (gsum l) l.length 0))
  have hbx3 := Hbx.out.alloc (.cells (cellsOf (outK (gsum l) l.length 0)).toArray 106)
  have hrl3 := Hrl.out.alloc_ (.cells (cellsOf (outK (gsum l) l.length 0)).toArray 106)
  have hrp3 := Hrp.out.alloc_ (.cells (cellsOf (outK (gsum l) l.length 0)).toArray 106)
  have hb3 := Hb02.out.trans ((balloc w2 (.cells (cellsOf (outK (gsum l) l.length 0)).toArray 106)).mono hs2)
  have hlo : vl.ownBlock ≠ some w2.heap.size := fun e => by have := (Hrl.out.blk _ e).2; omega
  have hpo : vp.ownBlock ≠ some w2.heap.size := fun e => by have := (Hrp.out.blk _ e).2; omega
  have hgo : g ≠ w2.heap.size := by omega
  have hz3 : (w2.alloc (.cells (cellsOf (outK (gsum l) l.length 0)).toArray 106)).heap.size = w2.heap.size + 1 := by simp
  clear hmk Hbx Hrl Hrp Hb02
  generalize w2.alloc (.cells (cellsOf (outK (gsum l) l.length 0)).toArray 106) = w3 at *
  generalize w2.heap.size = go at *
  have Hbc0 := Lib.hid hbc0
  have Hbx3 := Lib.hid hbx3
  have Hrl3 := Lib.hid hrl3
  have Hrp3 := Lib.hid hrp3
  have Hb3 := Lib.hid hb3
  clear hbc0 hbx3 hrl3 hrp3 hb3
  go_loopw [24] (fun i wr => ∃ k : Nat, k ≤ l.length ∧ i = .int .i64 k ∧ BoxAt 106 wr go (cellsOf (outK (gsum l) l.length k)) ∧ BoxAt 104 wr g [.int .u64 (gsum l : Nat), vl, vp, .int .i64 0] ∧ RwAt 23 .u64 wr (g + 1) vl (bst0 l).left ∧ RwAt 3 .i64 wr (g + 1) vp (poorL (gsum l) (bst0 l).left) ∧ Below w.heap.size w wr ∧ go < wr.heap.size) (fun i _ => l.length - (intOf i).toNat)
  case atStart => exact ⟨0, by omega, rfl, Hbc0.out, Hbx3.out, Hrl3.out, Hrp3.out, Hb3.out, by omega⟩
  case round =>
    obtain ⟨k, hk, rfl, hbc, hbx, hrl, hrp, hbl, hgz⟩ := hrel
    have Hbc := Lib.hid hbc
    have Hbx := Lib.hid hbx
    have Hrl := Lib.hid hrl
    have Hrp := Lib.hid hrp
    have Hbl := Lib.hid hbl
    by_cases hlt : k < l.length
    · have hy0 := hbx.cell 0 _ rfl
      have hgk : (outK (gsum l) l.length k)[k]? = some ⟨0, 0⟩ := by unfold outK; rw [List.getElem?_map, List.getElem?_range hlt]; simp
      obtain ⟨hq0, hq1⟩ := cellsOf_get2 _ k _ hgk
      have hx0 := hbc.cell _ _ hq0
      have hx1 := hbc.cell _ _ hq1
      have hf0 := hbc.frozen (k * 2)
      have hf1 := hbc.frozen (k * 2 + 1)
      have hwk : IntKind.u32.wrap (k : Int) = (k : Int) := by rw [IntKind.wrap_u32']; omega
      clear hbc hbx hrl hrp hbl hq0 hq1 hgk
      go_wp2_with fail
      go_roundw
      case rel => exact ⟨k + 1, by omega, by go_num, by rw [← Hos.out k hlt]; exact Hbc.out.putCell k (mkC (gsum l) k) (by rw [outK_len]; exact hlt) _ _ (by rw [mkC_cut _ _ (by omega)]) (by rw [mkC_oth _ _ (by omega)]), (Hbx.out.other _ _ (fun e => hgo e.symm)).other _ _ (fun e => hgo e.symm), (Hrl.out.set_ _ _ hlo).set_ _ _ hlo, (Hrp.out.set_ _ _ hpo).set_ _ _ hpo, (Hbl.out.setCell (p := ⟨go, k * 2, none⟩) (by show w.heap.size ≤ go; omega) _).setCell (p := ⟨go, k * 2 + 1, none⟩) (by show w.heap.size ≤ go; omega) _, by simp [World.setCell]; exact hgz⟩
      case measure => simp [intOf]; omega
    · obtain rfl : k = l.length := by omega
      clear hbc hbx hrl hrp hbl
      rw [Hoa.out] at Hbc
      go_wp2_with fail
      go_step3
      go_wp2_with fail
      go_loopg [] l.length (fun gh wr => ∃ (k : Nat) (vp : Value) (rich : Nat), bad (gsum l) (brun (gsum l) k (bst0 l)).left ≤ gh ∧ k + bad (gsum l) (brun (gsum l) k (bst0 l)).left ≤ l.length ∧ BoxAt 104 wr g [.int .u64 (gsum l : Nat), vl, vp, .int .i64 (rich : Int)] ∧
        RwAt 23 .u64 wr (g + 1) vl (brun (gsum l) k (bst0 l)).left ∧ RwAt 3 .i64 wr (g + 1) vp (poorL (gsum l) (brun (gsum l) k (bst0 l)).left) ∧ Apart vl vp ∧ vp.ownBlock ≠ some g ∧ vp.ownBlock ≠ some go ∧
        BoxAt 106 wr go (cellsOf (brun (gsum l) k (bst0 l)).out) ∧ (∀ q, q < rich → (brun (gsum l) k (bst0 l)).left.getD q 0 ≤ gsum l) ∧ Below w.heap.size w wr ∧ go < wr.heap.size)
      case atStart =>
        have hb0 := bad_le (gsum l) (bst0 l).left
        have hb1 : (bst0 l).left.length = l.length := by simp [bst0]
        exact ⟨0, vp, 0, by show bad _ (bst0 l).left ≤ _; omega, by show 0 + bad _ (bst0 l).left ≤ _; omega, Hbx.out, Hrl.out, Hrp.out, Hap.out, hgp, hpo, Hbc.out, fun q hq => by omega, Hbl.out, hgz⟩
      case round =>
        clear Hbc Hbx Hrl Hrp Hbl hgz hgp hpo Hap
        obtain ⟨k, vp, rich, hgh, hkb, hbx, hrl, hrp, hap, hgp, hpo, hbc, hrk, hbl, hgz⟩ := hrel
        have hI := Hinv.out k
        rcases hI.turn with ⟨hp0, hst⟩ | ⟨i, j, r, hp, hi, hj, hiW, hjW, hst, hjk⟩
        · rw [hp0] at hrp
          obtain ⟨Ap, cp, rfl, hcp1, hcp2⟩ := hrp.form
          have hy2 := hbx.cell 2 _ rfl
          have hout := Hat.out k (by omega) hst
          rw [hout] at hbc
          have hol := hI.ol
          rw [hout] at hol
          have hown := hbc.ownC (base := w.heap.size) (by omega) (by rw [hol]; unfold maxLen; omega)
          rw [hol] at hown
          have Hown := Lib.hid hown
          have Hbl := Lib.hid hbl
          clear hbx hrl hrp hap hgp hpo hbc hrk hbl hI hst hp0 hout hol hown hkb hgh
          go_wp2_with fail
          rw [Exit.noGoto_ret]
          go_ret2
          exact ⟨_, rfl, Hown.out, Hbl.out⟩
        · rw [hp] at hrp
          have hnx := brun_succ _ k _ _ hst
          have hpp := poor_pay (gsum l) _ i j r hp (by rw [hI.ll]; exact hj) hjW
          have hbp := bad_pay (gsum l) _ i j (by rw [hI.ll]; exact hi) (by rw [hI.ll]; exact hj) hiW hjW
          have hpg := fun q => pay_get (gsum l) (brun (gsum l) k (bst0 l)).left i j q (by rw [hI.ll]; exact hi) (by rw [hI.ll]; exact hj)
          have hrr := poorL_rise (gsum l) (brun (gsum l) k (bst0 l)).left
          rw [hp, List.pairwise_cons] at hrr
          have hpl := poorL_len (gsum l) (brun (gsum l) k (bst0 l)).left
          rw [hp, hI.ll, List.length_cons] at hpl
          have hmx := hI.mx j hj
          have hmi := hI.mx i hi
          have hll := hI.ll
          have hol := hI.ol
          obtain ⟨Ap, cp, rfl, hcp1, hcp2⟩ := hrp.form
          have hrich : rich ≤ j := by
            apply Nat.le_of_not_lt
            intro hx
            have := hrk j hx
            omega
          have hz1 : (((r.length + 1 : Nat) : Int) == 0) = false := beq_eq_false_iff_ne.2 (by omega)
          have hz2 : ((r.length + 1) == 0) = false := beq_eq_false_iff_ne.2 (by omega)
          have hnxt := nextR_any wr g (gsum l) (g + 1) vl _ rich i r hbx hrp
          have hy2 := hbx.cell 2 _ rfl
          rw [List.length_cons] at hy2
          have Hbx := Lib.hid hbx
          have Hrl := Lib.hid hrl
          have Hbc := Lib.hid hbc
          have Hbl := Lib.hid hbl
          have Hnx := Lib.hid hnx
          have Hpp := Lib.hid hpp
          have Hpg := Lib.hid hpg
          have Hrr := Lib.hid hrr.2
          have Hjk := Lib.hid hjk
          have Hnxt := Lib.hid hnxt
          have Hap := Lib.hid hap
          have Hgp := Lib.hid hgp
          have Hpo := Lib.hid hpo
          clear hbx hrl hbc hbl hnx hpp hpg hrr hjk hnxt hap hgp hpo hI hp hst hrk hrp
          generalize brun (gsum l) k (bst0 l) = s at *
          go_wp2_with fail
          refine Hnxt.out.mono ?_
          rintro _ w4 ⟨rfl, vp4, rfl, hrp4, ho4⟩
          have hgp4 : vp4.ownBlock ≠ some g := fun e => Hgp.out (by rw [← ho4]; exact e)
          have hpo4 : vp4.ownBlock ≠ some go := fun e => Hpo.out (by rw [← ho4]; exact e)
          have hap4 : Apart vl vp4 := fun q hq e => Hap.out q hq (by rw [← ho4]; exact e)
          have hbx4 := Hbx.out.put 2 vp4
          have hrl4 := Hrl.out.set_ ⟨g, 2, none⟩ vp4 hgl
          have hrp4' := hrp4.set_ ⟨g, 2, none⟩ vp4 hgp4
          have hbc4 := Hbc.out.other ⟨g, 2, none⟩ vp4 hgo
          have hbl4 := Hbl.out.setCell (p := ⟨g, 2, none⟩) hgw vp4
          have hgz4 : go < (wr.setCell ⟨g, 2, none⟩ vp4).heap.size := by simp [World.setCell]; exact hgz
          clear Hbx Hrl Hbc Hbl hrp4 ho4 Hnxt hy2 hgz Hap Hgp Hpo
          obtain ⟨Al, cl, rfl, hcl1, hcl2⟩ := hrl4.form
          obtain ⟨_, b, off, rfl, hb1, hb2, hxi, hxf⟩ := hrl4.at_ i (s.left.getD i 0) (by rw [getD_get _ _ (by omega)]; exact List.getElem?_eq_getElem _)
          have hy1 := hbx4.cell 1 _ rfl
          have hP := give_any _ g (gsum l) (g + 1) l.length _ vp4 rich i j s.left r (fun q => q = g ∨ (Value.slice (some ⟨b, off, none⟩) s.left.length cl).ownBlock = some q ∨ vp4.ownBlock = some q) hbx4 hrl4 hrp4' hap4 hgl hgp4 (by omega) hll hl (by omega) hsum hi hj hiW hjW hmx hrich Hjk.out Hrr.out (Or.inl rfl) (fun q hq => Or.inr (Or.inl hq)) (fun q hq => Or.inr (Or.inr hq))
          have HP := Lib.hid hP
          have Hbc4 := Lib.hid hbc4
          have Hbl4 := Lib.hid hbl4
          have hblk4 := hrp4'.blk
          have hblkl := hrl4.blk
          have Hblk4 := Lib.hid hblk4
          have Hblkl := Lib.hid hblkl
          have Hgp4 := Lib.hid hgp4
          have Hpo4 := Lib.hid hpo4
          have Hap4 := Lib.hid hap4
          rw [hll] at hy1
          clear hP hbc4 hbl4 hbx4 hrl4 hrp4' hblk4 hblkl hgp4 hpo4 hap4
          have hiin : i < s.left.length := by omega
          unfold maxLen at hcl2
          generalize wr.setCell ⟨g, 2, none⟩ vp4 = w4 at *
          generalize hLI : s.left.getD i 0 = li at *
          have HLI := Lib.hid hLI
          clear hLI
          go_wp2_with fail
          refine HP.out.mono ?_
          rintro _ w5 ⟨rfl, vp5, hbx5, hrl5, hrp5, ho5, hc5⟩
          have hnP : ¬ (go = g ∨ (Value.slice (some ⟨b, off, none⟩) s.left.length cl).ownBlock = some go ∨ vp4.ownBlock = some go) := by
            rintro (e | e | e)
            · exact hgo e.symm
            · exact hlo e
            · exact Hpo4.out e
          have hbc5 := Hbc4.out.chg hc5 hnP
          have hbl5 := Hbl4.out.trans (hc5.below (B := w.heap.size) (by have := Hbl4.out.size; omega) (by
            rintro q (e | e | e)
            · omega
            · have := (Hblkl.out q e).1; omega
            · have := (Hblk4.out q e).1; omega))
          have hgz5 : go < w5.heap.size := Nat.lt_of_lt_of_le hgz4 hc5.size
          have hog5 : vp5.ownBlock ≠ some g := fun e => by
            rcases ho5 with h | ⟨q, h, h2⟩
            · exact Hgp4.out (by rw [← h]; exact e)
            · rw [h] at e; injection e with e; omega
          have hoo5 : vp5.ownBlock ≠ some go := fun e => by
            rcases ho5 with h | ⟨q, h, h2⟩
            · exact Hpo4.out (by rw [← h]; exact e)
            · rw [h] at e; injection e with e; omega
          have hap5 : Apart (Value.slice (some ⟨b, off, none⟩) s.left.length cl) vp5 := fun q hq e => by
            rcases ho5 with h | ⟨q', h, h2⟩
            · exact Hap4.out q hq (by rw [← h]; exact e)
            · rw [h] at e; injection e with e
              have := (Hblkl.out q hq).2
              omega
          have hgi : s.out[i]? = some s.out[i] := List.getElem?_eq_getElem (by omega)
          obtain ⟨hq0, hq1⟩ := cellsOf_get2 _ i _ hgi
          have hx0 := hbc5.cell _ _ hq0
          have hx1 := hbc5.cell _ _ hq1
          have hf0 := hbc5.frozen (i * 2)
          have hf1 := hbc5.frozen (i * 2 + 1)
          have hwk : IntKind.u32.wrap (j : Int) = (j : Int) := by rw [IntKind.wrap_u32']; omega
          generalize (s.out[i]).cut.toNat = oc at *
          generalize (s.out[i]).oth.toNat = oo at *
          have Hbx5 := Lib.hid hbx5
          have Hrl5 := Lib.hid hrl5
          have Hrp5 := Lib.hid hrp5
          have Hbc5 := Lib.hid hbc5
          have Hbl5 := Lib.hid hbl5
          have Hog5 := Lib.hid hog5
          have Hoo5 := Lib.hid hoo5
          have Hap5 := Lib.hid hap5
          clear hbx5 hrl5 hrp5 hbc5 hbl5 hog5 hoo5 hap5 ho5 hc5 hnP hq0 hq1 hgi Hbc4 Hbl4 Hblk4 Hblkl Hgp4 Hpo4 Hap4 HP hy1 hxi hxf
          go_wp2_with fail
          go_roundg (bad (gsum l) (pay (gsum l) s.left i j))
          case measure => omega
          case rel =>
            refine ⟨k + 1, vp5, j, ?_, ?_, ?_, ?_, ?_, Hap5.out, Hog5.out, Hoo5.out, ?_, ?_, ?_, ?_⟩
            · rw [Hnx.out]; exact Nat.le_refl _
            · rw [Hnx.out]; show k + 1 + bad _ (pay _ _ _ _) ≤ _; omega
            · exact (Hbx5.out.other ⟨go, i * 2, none⟩ _ (fun e => hgo e.symm)).other ⟨go, i * 2 + 1, none⟩ _ (fun e => hgo e.symm)
            · rw [Hnx.out]; exact (Hrl5.out.set_ ⟨go, i * 2, none⟩ _ hlo).set_ ⟨go, i * 2 + 1, none⟩ _ hlo
            · rw [Hnx.out]
              show RwAt _ _ _ _ _ (poorL (gsum l) (pay (gsum l) s.left i j))
              rw [Hpp.out]
              exact (Hrp5.out.set_ ⟨go, i * 2, none⟩ _ Hoo5.out).set_ ⟨go, i * 2 + 1, none⟩ _ Hoo5.out
            · rw [Hnx.out]
              have := Hbc5.out.putCell i (mkC li j) (by omega) _ _ (by rw [mkC_cut _ _ (by omega)]) (by rw [mkC_oth _ _ (by omega)])
              rw [← HLI.out] at this ⊢
              exact this
            · intro q hq
              rw [Hnx.out]
              show (pay (gsum l) s.left i j).getD q 0 ≤ _
              rw [Hpg.out]
              split
              · exact Nat.le_refl _
              · rw [if_neg (by omega)]
                exact Hjk.out q hq
            · exact (Hbl5.out.setCell (p := ⟨go, i * 2, none⟩) (by show w.heap.size ≤ go; omega) _).setCell (p := ⟨go, i * 2 + 1, none⟩) (by show w.heap.size ≤ go; omega) _
            · simp [World.setCell]; exact hgz5
end Go.Proofs.YtcffeepgfjpcaaaGreat

namespace Go.Proofs.YtcffeepgfjpcaaaGreat
set_option linter.unusedSimpArgs false
set_option linter.unusedVariables false
open Go.RowKit

end Go.Proofs.YtcffeepgfjpcaaaGreat

namespace Go.Proofs.YtcffeepgfjpcaaaGreat
set_option linter.unusedSimpArgs false
set_option linter.unusedVariables false
open Go.RowKit

/-- a row of cells of one's own, with spare room -/
def CRow (w : World) (base : Nat) (v : Value) (out : List GCell) : Prop :=
  ∃ g c sp, v = .slice (some ⟨g, 0, none⟩) out.length c ∧ base ≤ g ∧ out.length ≤ c ∧ c ≤ maxLen ∧ BoxAt 106 w g (cellsOf out ++ sp) ∧ (cellsOf out ++ sp).length = c * 2
theorem CRow.own {w : World} {base : Nat} {v : Value} {out : List GCell} (h : CRow w base v out) : OwnF 106 cCell w base v out := by
  obtain ⟨g, c, sp, rfl, h1, h2, h3, h4, h5⟩ := h
  refine ⟨out.map fun a => [Value.int .u64 (a.cut.toNat : Int), .int .u32 (a.oth.toNat : Int)], by simp, ⟨?_, .inr ⟨g, c, (cellsOf out ++ sp).toArray, rfl, h1, h4, h2, h3, ?_, ?_⟩⟩, ?_, fun _ h => h.elim⟩
  · rw [← cellsOf_flat, cellsOf_len]; rfl
  · rw [List.size_toArray, h5]; rfl
  · rw [← cellsOf_flat]
    show List.take (out.length * 2) (cellsOf out ++ sp) = cellsOf out
    rw [← cellsOf_len, List.take_left]
  · intro i cs x hc hx
    rw [List.getElem?_map, hx] at hc
    injection hc with hc
    exact ⟨hc.symm, trivial⟩
theorem CRow.blk {w : World} {base : Nat} {v : Value} {out : List GCell} (h : CRow w base v out) : ∃ g, v.ownBlock = some g ∧ base ≤ g ∧ g < w.heap.size := by
  obtain ⟨g, c, sp, rfl, h1, h2, h3, h4, h5⟩ := h
  exact ⟨g, rfl, h1, h4.lt⟩
theorem CRow.form {w : World} {base : Nat} {A : Option Addr} {n c : Nat} {out : List GCell} (h : CRow w base (.slice A n c) out) : ∃ g, A = some ⟨g, 0, none⟩ ∧ n = out.length ∧ out.length ≤ c ∧ c ≤ maxLen := by
  obtain ⟨g, c', sp, e, h1, h2, h3, h4, h5⟩ := h
  injection e with e1 e2 e3
  subst e3
  exact ⟨g, e1, e2, h2, h3⟩
theorem CRow.drew_ {w : World} {base : Nat} {v : Value} {out : List GCell} (h : CRow w base v out) : CRow w.drew base v out := h
theorem CRow.set_ {w : World} {base : Nat} {v : Value} {out : List GCell} (h : CRow w base v out) (p : Addr) (u : Value) (hne : v.ownBlock ≠ some p.block) : CRow (w.setCell p u) base v out := by
  obtain ⟨g, c, sp, rfl, h1, h2, h3, h4, h5⟩ := h
  exact ⟨g, c, sp, rfl, h1, h2, h3, h4.other p u (fun e => hne (by rw [e]; rfl)), h5⟩
theorem CRow.put {w : World} {base g n c : Nat} {out : List GCell} (h : CRow w base (.slice (some ⟨g, 0, none⟩) n c) out) (k : Nat) (x : GCell) (hk : k < out.length) (a b : Int) (ha : a = (x.cut.toNat : Int)) (hb : b = (x.oth.toNat : Int)) :
    CRow ((w.setCell ⟨g, k * 2, none⟩ (.int .u64 a)).setCell ⟨g, k * 2 + 1, none⟩ (.int .u32 b)) base (.slice (some ⟨g, 0, none⟩) n c) (out.set k x) := by
  obtain ⟨g', c', sp, e, h1, h2, h3, h4, h5⟩ := h
  injection e with e1 e2 e3
  injection e1 with e1; injection e1 with e1 _ _
  subst e1; subst e2; subst e3; subst ha; subst hb
  have hb2 := (h4.put (k * 2) (.int .u64 (x.cut.toNat : Int))).put (k * 2 + 1) (.int .u32 (x.oth.toNat : Int))
  have hkl : k * 2 + 1 < (cellsOf out).length := by rw [cellsOf_len]; omega
  rw [List.set_append_left _ _ (by omega), List.set_append_left _ _ (by rw [List.length_set]; omega), cellsOf_set out k x hk] at hb2
  refine ⟨g, c, sp, by rw [List.length_set], h1, by rw [List.length_set]; exact h2, h3, hb2, ?_⟩
  rw [List.length_append, cellsOf_len, List.length_set, ← h5, List.length_append, cellsOf_len]
end Go.Proofs.YtcffeepgfjpcaaaGreat

namespace Go.Proofs.YtcffeepgfjpcaaaGreat
set_option linter.unusedSimpArgs false
set_option linter.unusedVariables false
open Go.RowKit

def lenOf : Value → Nat
  | .slice _ n _ => n
  | _ => 0

end Go.Proofs.YtcffeepgfjpcaaaGreat

namespace Go.Proofs.YtcffeepgfjpcaaaGreat
set_option linter.unusedSimpArgs false
set_option linter.unusedVariables false
open Go.RowKit

end Go.Proofs.YtcffeepgfjpcaaaGreat

namespace Go.Proofs.YtcffeepgfjpcaaaGreat
set_option linter.unusedSimpArgs false
set_option linter.unusedVariables false
open Go.RowKit

end Go.Proofs.YtcffeepgfjpcaaaGreat

namespace Go.Proofs.YtcffeepgfjpcaaaGreat
set_option linter.unusedSimpArgs false
set_option linter.unusedVariables false
open Go.RowKit

end Go.Proofs.YtcffeepgfjpcaaaGreat

namespace Go.Proofs.YtcffeepgfjpcaaaGreat
set_option linter.unusedSimpArgs false
set_option linter.unusedVariables false

def poly : UInt32 := 3988292384
/-- one bit -/
def stp (x : UInt32) : UInt32 := (x >>> 1) ^^^ (poly * (x &&& 1))
def stps : Nat → UInt32 → UInt32
  | 0, x => x
  | n + 1, x => stps n (stp x)
/-- the table -/
def tabN (i : Nat) : UInt32 := stps 8 (UInt32.ofNat i)
/-- one byte, by the table -/
def upd (x : UInt32) (c : UInt8) : UInt32 := tabN (x.toUInt8 ^^^ c).toNat ^^^ (x >>> 8)
def run (x : UInt32) (l : List UInt8) : UInt32 := l.foldl upd x
end Go.Proofs.YtcffeepgfjpcaaaGreat

namespace Go.Proofs.YtcffeepgfjpcaaaGreat
set_option linter.unusedSimpArgs false
set_option linter.unusedVariables false
open Go.RowKit

end Go.Proofs.YtcffeepgfjpcaaaGreat

namespace Go.Proofs.YtcffeepgfjpcaaaGreat
set_option linter.unusedSimpArgs false
set_option linter.unusedVariables false
open Go.RowKit

end Go.Proofs.YtcffeepgfjpcaaaGreat

namespace Go.Proofs.YtcffeepgfjpcaaaGreat
set_option linter.unusedSimpArgs false
set_option linter.unusedVariables false
open Go.RowKit

end Go.Proofs.YtcffeepgfjpcaaaGreat

namespace Go.Proofs.YtcffeepgfjpcaaaGreat
set_option linter.unusedSimpArgs false
set_option linter.unusedVariables false
open Go.RowKit

end Go.Proofs.YtcffeepgfjpcaaaGreat

namespace Go.Proofs.YtcffeepgfjpcaaaGreat
set_option linter.unusedSimpArgs false
set_option linter.unusedVariables false

/-! ### no state but 0 comes to 0 -/
end Go.Proofs.YtcffeepgfjpcaaaGreat

namespace Go.Proofs.YtcffeepgfjpcaaaGreat
set_option linter.unusedSimpArgs false
set_option linter.unusedVariables false

def zeros (n : Nat) : List UInt8 := List.replicate n 0
end Go.Proofs.YtcffeepgfjpcaaaGreat

namespace Go.Proofs.YtcffeepgfjpcaaaGreat
set_option linter.unusedSimpArgs false
set_option linter.unusedVariables false
open Go.RowKit

end Go.Proofs.YtcffeepgfjpcaaaGreat

namespace Go.Proofs.YtcffeepgfjpcaaaGreat
set_option linter.unusedSimpArgs false
set_option linter.unusedVariables false
open Go.RowKit

/-- a row: a vertex and its arcs -/
structure GRow where
  fr : UInt32
  arcs : List GArc
deriving DecidableEq
theorem nbrs_gmay {l : List GArc} (h : nbrs l = true) : gmay l = true ∧ 0 < l.length := by
  unfold nbrs at h
  rw [Bool.and_eq_true, decide_eq_true_eq] at h
  exact ⟨h.2, h.1⟩
theorem gmay_sum' {l : List GArc} (h : gmay l = true) : gsum l ≤ 2147483647 := by
  unfold gmay at h
  rw [Bool.and_eq_true, decide_eq_true_eq] at h
  exact h.2

/-! ### sizes -/
end Go.Proofs.YtcffeepgfjpcaaaGreat

namespace Go.Proofs.YtcffeepgfjpcaaaGreat
set_option linter.unusedSimpArgs false
set_option linter.unusedVariables false

structure GEdge where
  fr : UInt32
  to : UInt32
  wt : UInt32
deriving DecidableEq
/-- a key as a number -/
def GEdge.num (x : GEdge) : Nat := (x.fr.toNat * 4294967296 + x.to.toNat) * 4294967296 + x.wt.toNat
theorem GEdge.num_inj {x y : GEdge} (h : x.num = y.num) : x = y := by
  have h1 := u32_lt x.to
  have h2 := u32_lt y.to
  have h3 := u32_lt x.wt
  have h4 := u32_lt y.wt
  unfold GEdge.num at h
  cases x; cases y
  simp only at *
  have e3 : ∀ a b : UInt32, a.toNat = b.toNat → a = b := fun a b h => UInt32.toNat_inj.1 h
  congr 1 <;> (apply e3; omega)
/-- all weight of the edges from v to t, of the edges from v, of the arcs to t, of the rows' -/
def wsum (l : List GEdge) (v t : UInt32) : Nat := (l.map fun x => if x.fr = v ∧ x.to = t then x.wt.toNat else 0).sum
def vsum (l : List GEdge) (v : UInt32) : Nat := (l.map fun x => if x.fr = v then x.wt.toNat else 0).sum
def asum (l : List GArc) (t : UInt32) : Nat := (l.map fun a => if a.to = t then a.wt.toNat else 0).sum
def rsumT (R : List GRow) (v t : UInt32) : Nat := (R.map fun r => if r.fr = v then asum r.arcs t else 0).sum
def rsumV (R : List GRow) (v : UInt32) : Nat := (R.map fun r => if r.fr = v then gsum r.arcs else 0).sum
/-- one more weight to the last arc, or one more arc -/
def addArc (l : List GArc) (x : GEdge) : List GArc :=
  match l.getLast? with
  | some a => if a.to = x.to then l.dropLast ++ [⟨a.to, a.wt + x.wt⟩] else l ++ [⟨x.to, x.wt⟩]
  | none => [⟨x.to, x.wt⟩]
def fullP (cur : GRow) (x : GEdge) : Bool := decide (0 < cur.arcs.length) && decide (cur.fr ≠ x.fr)
def takeP (cur : GRow) (x : GEdge) : GRow := if fullP cur x = true ∨ cur.arcs.length = 0 then ⟨x.fr, [⟨x.to, x.wt⟩]⟩ else ⟨cur.fr, addArc cur.arcs x⟩
def hasP (cur : GRow) (x : GEdge) : Nat := if 0 < cur.arcs.length ∧ cur.fr = x.fr then gsum cur.arcs else 0
def overP (cur : GRow) (x : GEdge) : Bool := decide (2147483647 < hasP cur x + x.wt.toNat)
def curL (cur : GRow) : List GRow := if cur.arcs.length = 0 then [] else [cur]
/-- the rows of sorted edges, behind those that are there; none: a sum is too great -/
def mrow : List GEdge → GRow → List GRow → Option (List GRow)
  | [], cur, out => some (out ++ curL cur)
  | x :: t, cur, out => if overP cur x then none else mrow t (takeP cur x) (if fullP cur x then out ++ [cur] else out)
/-- what the iterator yields -/
def eachY : List GEdge → GRow → List (GRow × Int)
  | [], cur => (curL cur).map fun r => (r, 0)
  | x :: t, cur => if overP cur x then [(⟨0, []⟩, 10)] else (if fullP cur x then [(cur, 0)] else []) ++ eachY t (takeP cur x)

theorem asum_append (a b : List GArc) (t : UInt32) : asum (a ++ b) t = asum a t + asum b t := by simp [asum]
theorem asum_one (a : GArc) (t : UInt32) : asum [a] t = if a.to = t then a.wt.toNat else 0 := by simp [asum]
theorem rsumT_append (a b : List GRow) (v t : UInt32) : rsumT (a ++ b) v t = rsumT a v t + rsumT b v t := by simp [rsumT]
theorem rsumT_one (r : GRow) (v t : UInt32) : rsumT [r] v t = if r.fr = v then asum r.arcs t else 0 := by simp [rsumT]
theorem rsumV_append (a b : List GRow) (v : UInt32) : rsumV (a ++ b) v = rsumV a v + rsumV b v := by simp [rsumV]
theorem rsumV_one (r : GRow) (v : UInt32) : rsumV [r] v = if r.fr = v then gsum r.arcs else 0 := by simp [rsumV]
theorem wsum_append (a b : List GEdge) (v t : UInt32) : wsum (a ++ b) v t = wsum a v t + wsum b v t := by simp [wsum]
theorem wsum_one (x : GEdge) (v t : UInt32) : wsum [x] v t = if x.fr = v ∧ x.to = t then x.wt.toNat else 0 := by simp [wsum]
theorem vsum_append (a b : List GEdge) (v : UInt32) : vsum (a ++ b) v = vsum a v + vsum b v := by simp [vsum]
theorem vsum_one (x : GEdge) (v : UInt32) : vsum [x] v = if x.fr = v then x.wt.toNat else 0 := by simp [vsum]
/-- what holds of the rows when the edges P are put in -/
structure RInv (P : List GEdge) (out : List GRow) (cur : GRow) : Prop where
  sT : ∀ v t, rsumT (out ++ curL cur) v t = wsum P v t
  sV : ∀ v, rsumV (out ++ curL cur) v = vsum P v
  ok : ∀ r ∈ out ++ curL cur, 0 < r.arcs.length ∧ gmay r.arcs = true
  up : (out ++ curL cur).Pairwise fun a b => a.fr.toNat < b.fr.toNat
  mem : ∀ v, (∃ r ∈ out ++ curL cur, r.fr = v) ↔ ∃ x ∈ P, x.fr = v
  low : ∀ r ∈ out, ∀ y ∈ curL cur, r.fr.toNat < y.fr.toNat
  last : (P = [] ∧ out = [] ∧ cur.arcs.length = 0) ∨ (∃ y i a, P.getLast? = some y ∧ cur.fr = y.fr ∧ cur.arcs = i ++ [a] ∧ a.to = y.to)
theorem RInv.start : RInv [] [] ⟨0, []⟩ := ⟨fun _ _ => rfl, fun _ => rfl, fun r h => (by simp [curL] at h), (by simp [curL]), fun v => by simp [curL], fun r h => (by simp at h), .inl ⟨rfl, rfl, rfl⟩⟩
theorem curL_some {r : GRow} (h : 0 < r.arcs.length) : curL r = [r] := by unfold curL; rw [if_neg (by omega)]
theorem gmay_parts {l : List GArc} : gmay l = true ↔ rise none l = true ∧ gsum l ≤ 2147483647 := by unfold gmay; simp
theorem gmay_single {x : GEdge} (h0 : x.wt ≠ 0) (h1 : x.wt.toNat ≤ 2147483647) : gmay [⟨x.to, x.wt⟩] = true := by
  rw [gmay_parts]
  exact ⟨by simp [rise, h0], by rw [gsum_one]; exact h1⟩
/-- a new row behind the others -/
theorem RInv.fresh {P : List GEdge} {out : List GRow} {cur : GRow} {x : GEdge} (h : RInv P out cur) (h0 : x.wt ≠ 0) (h1 : x.wt.toNat ≤ 2147483647)
    (hup : ∀ r ∈ out ++ curL cur, r.fr.toNat < x.fr.toNat) : RInv (P ++ [x]) (out ++ curL cur) ⟨x.fr, [⟨x.to, x.wt⟩]⟩ := by
  have hc : curL ⟨x.fr, [⟨x.to, x.wt⟩]⟩ = [⟨x.fr, [⟨x.to, x.wt⟩]⟩] := rfl
  refine ⟨fun v t => ?_, fun v => ?_, fun r hr => ?_, ?_, fun v => ?_, fun r hr y hy => ?_, .inr ⟨x, [], ⟨x.to, x.wt⟩, by simp, rfl, rfl, rfl⟩⟩
  · rw [hc, rsumT_append, h.sT, wsum_append, rsumT_one, wsum_one]
    simp only [asum_one]
    by_cases e : x.fr = v <;> by_cases e2 : x.to = t <;> simp [e, e2]
  · rw [hc, rsumV_append, h.sV, vsum_append, rsumV_one, vsum_one]
    simp only [gsum_one]
  · rw [hc] at hr
    rcases List.mem_append.1 hr with hr | hr
    · exact h.ok r hr
    · rw [List.mem_singleton] at hr
      subst hr
      exact ⟨by simp, gmay_single h0 h1⟩
  · rw [hc, List.pairwise_append]
    exact ⟨h.up, by simp, fun a ha b hb => by rw [List.mem_singleton] at hb; subst hb; exact hup a ha⟩
  · rw [hc]
    have hm := h.mem v
    constructor
    · rintro ⟨r, hr, e⟩
      rcases List.mem_append.1 hr with hr | hr
      · obtain ⟨z, hz, e2⟩ := hm.1 ⟨r, hr, e⟩
        exact ⟨z, by simp [hz], e2⟩
      · rw [List.mem_singleton] at hr
        subst hr
        exact ⟨x, by simp, e⟩
    · rintro ⟨z, hz, e⟩
      rcases List.mem_append.1 hz with hz | hz
      · obtain ⟨r, hr, e2⟩ := hm.2 ⟨z, hz, e⟩
        exact ⟨r, List.mem_append.2 (.inl hr), e2⟩
      · rw [List.mem_singleton] at hz
        subst hz
        exact ⟨_, List.mem_append.2 (.inr (List.mem_singleton.2 rfl)), e⟩
  · rw [hc, List.mem_singleton] at hy
    subst hy
    exact hup r hr
theorem addArc_last {i : List GArc} {a : GArc} {x : GEdge} : addArc (i ++ [a]) x = if a.to = x.to then i ++ [⟨a.to, a.wt + x.wt⟩] else i ++ [a] ++ [⟨x.to, x.wt⟩] := by
  unfold addArc
  rw [List.getLast?_concat, List.dropLast_concat]
theorem u32_add {a b : UInt32} (h : a.toNat + b.toNat ≤ 2147483647) : (a + b).toNat = a.toNat + b.toNat := by
  rw [UInt32.toNat_add, Nat.mod_eq_of_lt (by omega)]
/-- the arcs of a row with one more weight -/
theorem addArc_ok {i : List GArc} {a : GArc} {x : GEdge} (hg : gmay (i ++ [a]) = true) (h0 : x.wt ≠ 0) (hs : gsum (i ++ [a]) + x.wt.toNat ≤ 2147483647) (hle : a.to.toNat ≤ x.to.toNat) :
    gmay (addArc (i ++ [a]) x) = true ∧ gsum (addArc (i ++ [a]) x) = gsum (i ++ [a]) + x.wt.toNat ∧ (∀ t, asum (addArc (i ++ [a]) x) t = asum (i ++ [a]) t + if x.to = t then x.wt.toNat else 0) ∧ ∃ j b, addArc (i ++ [a]) x = j ++ [b] ∧ b.to = x.to := by
  rw [gmay_parts] at hg
  obtain ⟨hr, hg⟩ := hg
  have hw : x.wt.toNat ≠ 0 := fun e => h0 (UInt32.toNat_inj.1 e)
  rw [addArc_last]
  rw [gsum_append, gsum_one] at hs hg
  by_cases e : a.to = x.to
  · rw [if_pos e]
    have hadd : (a.wt + x.wt).toNat = a.wt.toNat + x.wt.toNat := u32_add (by omega)
    have hg2 : gsum (i ++ [⟨a.to, a.wt + x.wt⟩]) = gsum (i ++ [a]) + x.wt.toNat := by
      rw [gsum_append, gsum_one, gsum_append, gsum_one]
      simp only
      omega
    refine ⟨?_, hg2, fun t => ?_, i, _, rfl, e⟩
    · rw [gmay_parts, hg2, gsum_append, gsum_one]
      refine ⟨?_, by omega⟩
      rw [rise_append] at hr ⊢
      have hne : (a.wt + x.wt) ≠ 0 := fun e => by
        have := congrArg UInt32.toNat e
        rw [hadd] at this
        simp at this
        omega
      simp only [rise, Bool.and_eq_true] at hr ⊢
      exact ⟨hr.1, ⟨by simp [hne], hr.2.1.2⟩, trivial⟩
    · rw [asum_append, asum_append, asum_one, asum_one]
      simp only [e]
      by_cases e2 : x.to = t <;> simp [e2, hadd]
      omega
  · rw [if_neg e]
    have hlt : a.to.toNat < x.to.toNat := by
      have : a.to.toNat ≠ x.to.toNat := fun h => e (UInt32.toNat_inj.1 h)
      omega
    have hg2 : gsum (i ++ [a] ++ [⟨x.to, x.wt⟩]) = gsum (i ++ [a]) + x.wt.toNat := by rw [gsum_append, gsum_one]
    refine ⟨?_, hg2, fun t => ?_, i ++ [a], _, rfl, rfl⟩
    · rw [gmay_parts, hg2, gsum_append, gsum_one]
      refine ⟨?_, by omega⟩
      rw [rise_append, hr, lastTo_snoc]
      simp [rise, h0]
      exact UInt32.lt_iff_toNat_lt.2 hlt
    · rw [asum_append, asum_one]
/-- one more edge -/
theorem RInv.step {P : List GEdge} {out : List GRow} {cur : GRow} {x : GEdge} (h : RInv P out cur) (h0 : x.wt ≠ 0) (hle : ∀ y, P.getLast? = some y → y.num ≤ x.num) (ho : overP cur x = false) :
    RInv (P ++ [x]) (if fullP cur x then out ++ [cur] else out) (takeP cur x) := by
  have hov : hasP cur x + x.wt.toNat ≤ 2147483647 := by unfold overP at ho; simpa using ho
  rcases h.last with ⟨rfl, rfl, hc⟩ | ⟨y, i, a, hy, hf, ha, hto⟩
  · have hfl : fullP cur x = false := by unfold fullP; simp [hc]
    have htk : takeP cur x = ⟨x.fr, [⟨x.to, x.wt⟩]⟩ := by unfold takeP; rw [if_pos (.inr hc)]
    rw [hfl, htk]
    have := h.fresh h0 (by omega) (by unfold curL; rw [if_pos hc]; simp)
    have e : curL cur = [] := by unfold curL; rw [if_pos hc]
    rw [e] at this
    simpa using this
  · have hpos : 0 < cur.arcs.length := by rw [ha]; simp
    have hcl := curL_some hpos
    have hnum := hle y hy
    unfold GEdge.num at hnum
    have b1 := u32_lt x.to
    have b2 := u32_lt y.to
    have b3 := u32_lt x.wt
    have b4 := u32_lt y.wt
    by_cases e : cur.fr = x.fr
    · have hfl : fullP cur x = false := by unfold fullP; simp [e]
      have htk : takeP cur x = ⟨cur.fr, addArc cur.arcs x⟩ := by unfold takeP; rw [if_neg]; rintro (h | h); rw [hfl] at h; cases h; omega
      rw [hfl, htk]
      simp only [Bool.false_eq_true, if_false]
      have hok := h.ok cur (by rw [hcl]; simp)
      have hhas : hasP cur x = gsum cur.arcs := by unfold hasP; rw [if_pos ⟨hpos, e⟩]
      have hyx : y.fr = x.fr := hf.symm.trans e
      rw [hyx] at hnum
      have hle2 : a.to.toNat ≤ x.to.toNat := by rw [hto]; omega
      obtain ⟨g1, g2, g3, j, b, g4, g5⟩ := addArc_ok (i := i) (a := a) (x := x) (by rw [← ha]; exact hok.2) h0 (by rw [← ha]; omega) hle2
      rw [← ha] at g1 g2 g3 g4
      have hcl2 : curL ⟨cur.fr, addArc cur.arcs x⟩ = [⟨cur.fr, addArc cur.arcs x⟩] := curL_some (by simp only; rw [g4]; simp)
      have hT := h.sT
      have hV := h.sV
      have hU := h.up
      have hM := h.mem
      have hL := h.low
      have hO := h.ok
      rw [hcl] at hT hV hU hM hL hO
      refine ⟨fun v t => ?_, fun v => ?_, fun r hr => ?_, ?_, fun v => ?_, fun r hr z hz => ?_, .inr ⟨x, j, b, by simp, e, g4, g5⟩⟩
      · rw [hcl2, wsum_append, ← hT, rsumT_append, rsumT_append, rsumT_one, rsumT_one, wsum_one]
        simp only [g3, e]
        by_cases e1 : x.fr = v <;> by_cases e2 : x.to = t <;> simp [e1, e2]
        omega
      · rw [hcl2, vsum_append, ← hV, rsumV_append, rsumV_append, rsumV_one, rsumV_one, vsum_one]
        simp only [g2, e]
        by_cases e1 : x.fr = v <;> simp [e1]
        omega
      · rw [hcl2] at hr
        rcases List.mem_append.1 hr with hr | hr
        · exact hO r (List.mem_append.2 (.inl hr))
        · rw [List.mem_singleton] at hr
          subst hr
          exact ⟨by simp only; rw [g4]; simp, g1⟩
      · rw [hcl2]
        rw [List.pairwise_append] at hU ⊢
        exact ⟨hU.1, by simp, fun p hp q hq => by rw [List.mem_singleton] at hq; subst hq; exact hU.2.2 p hp cur (by simp)⟩
      · rw [hcl2]
        have hm := hM v
        constructor
        · rintro ⟨r, hr, e1⟩
          have : ∃ z ∈ P, z.fr = v := by
            refine hm.1 ?_
            rcases List.mem_append.1 hr with hr | hr
            · exact ⟨r, List.mem_append.2 (.inl hr), e1⟩
            · rw [List.mem_singleton] at hr
              subst hr
              exact ⟨cur, by simp, e1⟩
          obtain ⟨z, hz, e2⟩ := this
          exact ⟨z, by simp [hz], e2⟩
        · rintro ⟨z, hz, e1⟩
          rcases List.mem_append.1 hz with hz | hz
          · obtain ⟨r, hr, e2⟩ := hm.2 ⟨z, hz, e1⟩
            rcases List.mem_append.1 hr with hr | hr
            · exact ⟨r, List.mem_append.2 (.inl hr), e2⟩
            · rw [List.mem_singleton] at hr
              subst hr
              exact ⟨_, List.mem_append.2 (.inr (List.mem_singleton.2 rfl)), e2⟩
          · rw [List.mem_singleton] at hz
            subst hz
            exact ⟨_, List.mem_append.2 (.inr (List.mem_singleton.2 rfl)), e.trans e1⟩
      · rw [hcl2, List.mem_singleton] at hz
        subst hz
        exact hL r hr cur (by simp)
    · have hfl : fullP cur x = true := by unfold fullP; simp [e, hpos]
      have htk : takeP cur x = ⟨x.fr, [⟨x.to, x.wt⟩]⟩ := by unfold takeP; rw [if_pos (.inl hfl)]
      rw [hfl, htk]
      simp only [if_true]
      have hlt : cur.fr.toNat < x.fr.toNat := by
        have h1 : cur.fr.toNat ≠ x.fr.toNat := fun h => e (UInt32.toNat_inj.1 h)
        rw [hf] at h1 ⊢
        omega
      have := h.fresh h0 (by omega) (fun r hr => by
        rcases List.mem_append.1 hr with hr | hr
        · have := h.low r hr cur (by rw [hcl]; simp)
          omega
        · rw [hcl, List.mem_singleton] at hr
          subst hr
          exact hlt)
      rw [hcl] at this
      exact this
/-- the neighbours of a vertex -/
def arcsR (R : List GRow) (v : UInt32) : List GArc := match R.find? (fun r => r.fr == v) with | some r => r.arcs | none => []
structure RowsOk (l : List GEdge) (R : List GRow) : Prop where
  sT : ∀ v t, rsumT R v t = wsum l v t
  sV : ∀ v, rsumV R v = vsum l v
  ok : ∀ r ∈ R, 0 < r.arcs.length ∧ gmay r.arcs = true
  up : R.Pairwise fun a b => a.fr.toNat < b.fr.toNat
  mem : ∀ v, (∃ r ∈ R, r.fr = v) ↔ ∃ x ∈ l, x.fr = v
theorem rsum_zero : ∀ (R : List GRow) (v t : UInt32), (∀ r ∈ R, r.fr ≠ v) → rsumT R v t = 0 ∧ rsumV R v = 0
  | [], _, _, _ => ⟨rfl, rfl⟩
  | r :: R, v, t, h => by
    have h1 := rsum_zero R v t fun q hq => h q (by simp [hq])
    have h2 := h r (by simp)
    have e1 : rsumT (r :: R) v t = rsumT [r] v t + rsumT R v t := rsumT_append [r] R v t
    have e2 : rsumV (r :: R) v = rsumV [r] v + rsumV R v := rsumV_append [r] R v
    rw [e1, e2, rsumT_one, rsumV_one, if_neg h2, if_neg h2, h1.1, h1.2]
    exact ⟨rfl, rfl⟩
theorem arcsR_sum : ∀ (R : List GRow) (v t : UInt32), (R.Pairwise fun a b => a.fr.toNat < b.fr.toNat) → rsumT R v t = asum (arcsR R v) t ∧ rsumV R v = gsum (arcsR R v)
  | [], _, _, _ => ⟨rfl, rfl⟩
  | r :: R, v, t, h => by
    rw [List.pairwise_cons] at h
    have e1 : rsumT (r :: R) v t = rsumT [r] v t + rsumT R v t := rsumT_append [r] R v t
    have e2 : rsumV (r :: R) v = rsumV [r] v + rsumV R v := rsumV_append [r] R v
    rw [e1, e2, rsumT_one, rsumV_one]
    by_cases e : r.fr = v
    · have hz := rsum_zero R v t fun q hq e2 => by
        have := h.1 q hq
        rw [e, e2] at this
        omega
      have ea : arcsR (r :: R) v = r.arcs := by unfold arcsR; rw [List.find?_cons_of_pos (by simp [e])]
      rw [if_pos e, if_pos e, hz.1, hz.2, ea]
      exact ⟨rfl, rfl⟩
    · have ea : arcsR (r :: R) v = arcsR R v := by unfold arcsR; rw [List.find?_cons_of_neg (by simp [e])]
      have ih := arcsR_sum R v t h.2
      rw [if_neg e, if_neg e, ih.1, ih.2, ea]
      exact ⟨Nat.zero_add _, Nat.zero_add _⟩
theorem RowsOk.arcs {l : List GEdge} {R : List GRow} (h : RowsOk l R) (v : UInt32) : (∀ t, asum (arcsR R v) t = wsum l v t) ∧ gsum (arcsR R v) = vsum l v ∧ gmay (arcsR R v) = true ∧ ((arcsR R v).length = 0 ↔ ¬ ∃ x ∈ l, x.fr = v) := by
  refine ⟨fun t => (arcsR_sum R v t h.up).1.symm.trans (h.sT v t), (arcsR_sum R v 0 h.up).2.symm.trans (h.sV v), ?_, ?_⟩
  · unfold arcsR
    cases hf : R.find? (fun r => r.fr == v) with
    | none => rfl
    | some r => exact (h.ok r (List.mem_of_find?_eq_some hf)).2
  · rw [← h.mem v]
    unfold arcsR
    cases hf : R.find? (fun r => r.fr == v) with
    | none =>
      simp only [List.length_nil, true_iff]
      rintro ⟨r, hr, e⟩
      have := List.find?_eq_none.1 hf r hr
      simp [e] at this
    | some r =>
      have hm := List.mem_of_find?_eq_some hf
      have hv : r.fr = v := by have := List.find?_some hf; simpa using this
      have := (h.ok r hm).1
      constructor
      · intro h0
        simp only at h0
        omega
      · intro hn; exact absurd ⟨r, hm, hv⟩ hn
theorem rise_to : ∀ (l : List GArc) (p : Option UInt32) (b : GArc), rise p l = true → b ∈ l → (match p with | none => True | some q => q.toNat < b.to.toNat) ∧ b.wt ≠ 0
  | [], _, _, _, h => by simp at h
  | a :: t, p, b, hr, h => by
    rw [rise_cons] at hr
    simp only [Bool.and_eq_true] at hr
    rcases List.mem_cons.1 h with rfl | h
    · refine ⟨?_, by simpa using hr.1.1⟩
      cases p with
      | none => trivial
      | some q => exact UInt32.lt_iff_toNat_lt.1 (by simpa using hr.1.2)
    · have := rise_to t (some a.to) b hr.2 h
      refine ⟨?_, this.2⟩
      cases p with
      | none => trivial
      | some q =>
        have h1 := UInt32.lt_iff_toNat_lt.1 (by simpa using hr.1.2 : q < a.to)
        have h2 := this.1
        simp only at h2 ⊢
        omega
theorem asum_none (l : List GArc) (t : UInt32) (h : ∀ a ∈ l, a.to ≠ t) : asum l t = 0 := by
  induction l with
  | nil => rfl
  | cons a l ih =>
    have e : asum (a :: l) t = asum [a] t + asum l t := asum_append [a] l t
    rw [e, asum_one, if_neg (h a (by simp)), ih fun b hb => h b (by simp [hb])]
/-- each arc's weight is all that comes to its end -/
theorem asum_at : ∀ (l : List GArc) (p : Option UInt32) (b : GArc), rise p l = true → b ∈ l → asum l b.to = b.wt.toNat
  | [], _, _, _, h => by simp at h
  | a :: l, p, b, hr, h => by
    have e : asum (a :: l) b.to = asum [a] b.to + asum l b.to := asum_append [a] l b.to
    have hr2 : rise (some a.to) l = true := by rw [rise_cons] at hr; simp only [Bool.and_eq_true] at hr; exact hr.2
    rw [e, asum_one]
    rcases List.mem_cons.1 h with rfl | h
    · rw [if_pos rfl, asum_none l b.to fun c hc e => by
        have := (rise_to l (some b.to) c hr2 hc).1
        simp only at this
        rw [e] at this
        omega]
      rfl
    · have hlt := (rise_to l (some a.to) b hr2 h).1
      simp only at hlt
      rw [if_neg (fun e => by rw [e] at hlt; omega), asum_at l (some a.to) b hr2 h, Nat.zero_add]
end Go.Proofs.YtcffeepgfjpcaaaGreat

namespace Go.Proofs.YtcffeepgfjpcaaaGreat
set_option linter.unusedSimpArgs false
set_option linter.unusedVariables false
open Go.RowKit

theorem OwnA.empty (W : World) (g base : Nat) (hg : W.heap.size = g) (hb : base ≤ g) : OwnF 48 cArc (W.alloc (.cells #[] 48)) base (.slice (some ⟨g, 0, none⟩) 0 0) [] := by
  subst hg
  exact (OwnA.new_ W [] (by simp)).more hb
end Go.Proofs.YtcffeepgfjpcaaaGreat

namespace Go.Proofs.YtcffeepgfjpcaaaGreat
set_option linter.unusedSimpArgs false
set_option linter.unusedVariables false
open Go.RowKit
end Go.Proofs.YtcffeepgfjpcaaaGreat

namespace Go.Proofs.YtcffeepgfjpcaaaGreat
set_option linter.unusedSimpArgs false
set_option linter.unusedVariables false
open Go.RowKit

theorem RowOn.keepO {α : Type} {C : Cdc α} (hC : ∀ w w' S cs x, C.at_ w S cs x → C.at_ w' S cs x) {w w' : World} {O S : Nat → Prop} {v : Value} {xs : List α} (h : RowOn C w O S v xs) (hO : ∀ p : Addr, O p.block → w'.cell? p = w.cell? p) : RowOn C w' O S v xs := by
  obtain ⟨A, c, h1, h2, h3, h4⟩ := h
  refine ⟨A, c, h1, h2, h3, fun hn => ?_⟩
  obtain ⟨ad, e, hb, hc⟩ := h4 hn
  refine ⟨ad, e, hb, fun i x hx => ?_⟩
  obtain ⟨cs, ha, hcs⟩ := hc i x hx
  exact ⟨cs, hC _ _ _ _ _ ha, fun j u hu => (hO _ (by rw [add_block]; exact hb)).trans (hcs j u hu)⟩
/-- a row -/
def cRow : Cdc GRow where
  n := 2
  at_ := fun w S cs x => ∃ v, cs = [.int .u32 (x.fr.toNat : Int), v] ∧ RowOn cArc w S (fun _ => True) v x.arcs
  len := fun h => by obtain ⟨v, rfl, _⟩ := h; rfl
  one := fun h => by obtain ⟨v, rfl, h⟩ := h; obtain ⟨A, c, rfl, _⟩ := h; intro u hu; simp at hu; rcases hu with rfl | rfl <;> rfl
  keep := fun h hk => by obtain ⟨v, e, h⟩ := h; exact ⟨v, e, h.keepO (fun _ _ _ _ _ h => h) hk⟩
  mono := fun h hk => by obtain ⟨v, e, h⟩ := h; exact ⟨v, e, h.mono hk (fun _ h => h)⟩
theorem infoRow : (Tryz.prog.info? 132).map (fun i => (i.zero, i.size, i.bytes)) = some (some (.agg #[.int .u32 0, .slice none 0 0]), 2, 32) := by kernel_rfl
theorem infoRow2 : (Tryz.prog.info? 132).map (·.size) = some 2 := by kernel_rfl
theorem InC.rows' {w : World} {cs : List Value} (h : InC w 74 cs) : ∃ v xs, cs = [v] ∧ RowOn cRow w (fun k => k < w.heap.size) (fun k => k < w.heap.size) v xs :=
  h.row (C := cRow) Tryz.underlying74 (by kernel_rfl) (by decide) fun cs hc => by
    obtain ⟨hl, hf⟩ := hc.fields Tryz.underlying132 (by kernel_rfl) (by kernel_rfl)
    obtain ⟨u0, h0, g0⟩ := hf 0 _ rfl
    obtain ⟨u1, h1, g1⟩ := hf 1 _ rfl
    obtain ⟨n0, e0, k0⟩ := InC.u32 (S := fun _ => True) Tryz.underlying24 g0
    obtain ⟨v1, xs, e1, k1⟩ := g1.arcs'
    simp at e0 e1
    subst e0; subst e1
    match cs, hl with
    | [c0, c1], _ =>
      injection h0 with h0
      injection h1 with h1
      subst h0; subst h1
      exact ⟨⟨n0, xs⟩, c1, rfl, k1.mono (fun _ h => h) (fun _ _ => trivial)⟩
/-- the value reads as these rows, all in blocks below B -/
abbrev ByRw (w : World) (B : Nat) (v : Value) (l : List GRow) : Prop := RowOn cRow w (fun k => k < B) (fun k => k < B) v l
theorem ByRw.below {w w' : World} {B : Nat} {v : Value} {l : List GRow} (h : ByRw w B v l) (hb : Below B w w') : ByRw w' B v l := h.keep (fun p hp => hb.cell hp) (fun p hp => hb.cell hp)
theorem ByRw.more {w : World} {B B' : Nat} {v : Value} {l : List GRow} (h : ByRw w B v l) (hB : B ≤ B') : ByRw w B' v l := h.mono (fun _ hk => by omega) fun _ hk => by omega
theorem ByRw.step {w w' : World} {v : Value} {l : List GRow} (h : ByRw w w.heap.size v l) (hb : Below w.heap.size w w') : ByRw w' w'.heap.size v l := (h.below hb).more hb.size
theorem InC.rows {w : World} {v : Value} (h : InC w 74 [v]) : ∃ l, ByRw w w.heap.size v l := by
  obtain ⟨v', xs, e, hr⟩ := h.rows'
  injection e with e
  subst e
  exact ⟨xs, hr⟩
theorem add1 (a : Addr) : a.add 1 = { block := a.block, off := a.off + 1 } := by simp [Addr.add]
/-- the cells of the k-th row -/
theorem ByRw.cells {w : World} {B : Nat} {A : Option Addr} {n c : Nat} {l : List GRow} (h : ByRw w B (.slice A n c) l) (k : Nat) (hk : k < l.length) :
    ∃ ad Aa ca, A = some ad ∧ ad.block < B ∧ w.cell? (ad.add (k * 2)) = some (.int .u32 ((l[k]).fr.toNat : Int)) ∧ w.cell? { block := (ad.add (k * 2)).block, off := (ad.add (k * 2)).off + 1 } = some (.slice Aa (l[k]).arcs.length ca) ∧
      ByA w B (.slice Aa (l[k]).arcs.length ca) (l[k]).arcs := by
  obtain ⟨ad, cs, e, hb, ⟨v, rfl, hv⟩, hc⟩ := h.at_ k l[k] (List.getElem?_eq_getElem hk)
  obtain ⟨Aa, ca, rfl, _, _⟩ := hv.form
  refine ⟨ad, Aa, ca, e, hb, hc 0 _ rfl, ?_, hv⟩
  have := hc 1 _ rfl
  rw [← add_add] at this
  rw [← add1]
  exact this
/-- the same, as what a load of the whole row brings -/
theorem ByRw.row {w : World} {B : Nat} {A : Option Addr} {n c : Nat} {l : List GRow} (h : ByRw w B (.slice A n c) l) (k : Nat) (hk : k < l.length) :
    ∃ ad Aa ca, A = some ad ∧ ad.block < B ∧ (∀ (j : Nat) (u : Value), ([.int .u32 ((l[k]).fr.toNat : Int), .slice Aa (l[k]).arcs.length ca] : List Value)[j]? = some u → w.cell? ((ad.add (k * 2)).add j) = some u) ∧
      ByA w B (.slice Aa (l[k]).arcs.length ca) (l[k]).arcs := by
  obtain ⟨ad, cs, e, hb, ⟨v, rfl, hv⟩, hc⟩ := h.at_ k l[k] (List.getElem?_eq_getElem hk)
  obtain ⟨Aa, ca, rfl, _, _⟩ := hv.form
  exact ⟨ad, Aa, ca, e, hb, fun j u hu => by rw [add_add]; exact hc j u hu, hv⟩

/-! ### copies -/
set_option maxHeartbeats 800000 in
theorem cloneA (w : World) (v : Value) (l : List GArc) (h : ByA w w.heap.size v l) (hsz : l.length ≤ 4294967296) :
    Calls Tryz.prog 41 #[v] w fun e w' => ∃ v', e = .returned v' ∧ OwnF 48 cArc w' w.heap.size v' l ∧ Below w.heap.size w w' := by
  have hn := eqnil 45 48 Tryz.underlying45
  have hby2 : RowOn cArc (w.alloc (.cells #[] 48)) (fun k => k < w.heap.size) (fun _ => False) v l := (h.below (balloc w _)).mono (fun _ h => h) (fun _ h => h) |> fun h => by
    obtain ⟨A, c, h1, h2, h3, h4⟩ := h
    exact ⟨A, c, h1, h2, h3, h4⟩
  obtain ⟨A, c, rfl, hc1, hc2⟩ := h.form
  unfold maxLen at hc2
  cases A with
  | none =>
    have h0 : l = [] := by
      cases l with
      | nil => rfl
      | cons a t =>
        obtain ⟨ad, _, e, _⟩ := h.at_ 0 a rfl
        cases e
    subst h0
    go_enter Tryz.func41, Tryz.ntmps41
    go_wp2
    go_ret
    exact ⟨_, rfl, OwnF.nil_ _ _, Below.refl _ _⟩
  | some ad =>
    go_enter Tryz.func41, Tryz.ntmps41
    go_wp2_with (first
      | (at_builtin
         refine wpList_appR rfl (.tmp 5) (.tmp 6) 45 rfl Tryz.underlying45 infoArc rfl (by decide) (by decide) (OwnA.empty w w.heap.size w.heap.size rfl (Nat.le_refl _)) hby2 rfl rfl (by simp; omega) (by simp) ?_
         intro v1 w1 hown1 hext1))
    go_ret
    exact ⟨_, rfl, by simpa using hown1, ((Below.refl _ _).alloc (Nat.le_refl _) _).trans (hext1.below (by simp) (by simp [Value.ownBlock]))⟩
theorem OwnC.empty (W : World) (g base : Nat) (hg : W.heap.size = g) (hb : base ≤ g) : OwnF 106 cCell (W.alloc (.cells #[] 106)) base (.slice (some ⟨g, 0, none⟩) 0 0) [] := by
  subst hg
  exact (OwnR.new_ (xs := ([] : List GCell)) (S := fun _ => False) W [] rfl (by simp) (fun i cs x h => by simp at h) (fun _ h => h.elim)).more hb
end Go.Proofs.YtcffeepgfjpcaaaGreat

namespace Go.Proofs.YtcffeepgfjpcaaaGreat
set_option linter.unusedSimpArgs false
set_option linter.unusedVariables false
open Go.RowKit

def be4 (n : Nat) : List UInt8 := [UInt8.ofNat (n / 16777216), UInt8.ofNat (n / 65536), UInt8.ofNat (n / 256), UInt8.ofNat n]
def keyL (x : GEdge) : List UInt8 := be4 x.fr.toNat ++ be4 x.to.toNat ++ be4 x.wt.toNat
theorem keyL_length (x : GEdge) : (keyL x).length = 12 := rfl
def edgeC (x : GEdge) : List Value := [.int .u32 (x.fr.toNat : Int), .int .u32 (x.to.toNat : Int), .int .u32 (x.wt.toNat : Int)]
def edgeV (x : GEdge) : Value := .agg (edgeC x).toArray
theorem BoxAt.bl_ {T : TypeId} {w w' : World} {g : Nat} {cs : List Value} (h : BoxAt T w g cs) (hb : Below w.heap.size w w') : BoxAt T w' g cs := h.below h.lt hb
theorem wpList_make8c {ops : Array Oper} {rest : List Oper} {o : Oper} {a : Act} {w : World} {Q : Exit → Act → World → Prop} (hgd : o.guard = none) (x y : Operand) (base : Nat) (hbase : base ≤ w.heap.size)
    (ho : o.op = .makeSlice 40 x y) (c : Nat) (hx : a.eval x = .int .i64 0) (hy : a.eval y = .int .i64 (c : Int)) (hc : c ≤ 1048576)
    (h : ∀ v' w', Ow w' base v' [] → Below w.heap.size w w' → wpList Tryz.prog ops Q rest (a.put o.dst v') w') : wpList Tryz.prog ops Q (o :: rest) a w := by
  obtain ⟨i, hi, hz0, hz1, hz2⟩ := info_parts info8
  refine wpList_plain hgd fun K hK => ?_
  obtain ⟨w', hr, hown, hg⟩ := run_make_own w base 40 5 i _ 1 Tryz.underlying40 hi hz0 hz1 .i64 .i64 c (by rw [hz2]; omega) (by simp [maxLen]; omega) hbase
  unfold Oper.wp execOp
  simp only [ho, hx, hy, Sem.run_bind, Sem.run_pure, Result.andThen_ok, hr]
  exact hK _ _ (h _ _ hown ⟨hg.os, hg.tape, hg.output, hg.size, fun k hk => hg.block k hk (by simp)⟩)
theorem idx3_0 (W : World) (a b c : Value) : (Instr.index 121 (.agg #[a, b, c]) (.int .i64 0)).run Tryz.prog W = .ok a W := by
  simp [Instr.index, run_underlying Tryz.underlying121, asIntOf, go_sem]
theorem idx3_1 (W : World) (a b c : Value) : (Instr.index 121 (.agg #[a, b, c]) (.int .i64 1)).run Tryz.prog W = .ok b W := by
  simp [Instr.index, run_underlying Tryz.underlying121, asIntOf, go_sem]
theorem idx3_2 (W : World) (a b c : Value) : (Instr.index 121 (.agg #[a, b, c]) (.int .i64 2)).run Tryz.prog W = .ok c W := by
  simp [Instr.index, run_underlying Tryz.underlying121, asIntOf, go_sem]
theorem b8_of (z : Int) (m : Nat) (h : z = ((m % 256 : Nat) : Int)) : Value.int .u8 z = b8 (UInt8.ofNat m) := by
  subst h
  unfold b8
  rw [UInt8.toNat_ofNat']
theorem u8_div (n k : Nat) : ((UInt8.ofNat (n / k)).toNat : Int) = (n : Int) / (k : Int) % 256 := by
  rw [UInt8.toNat_ofNat']
  omega

set_option maxRecDepth 100000 in
set_option maxHeartbeats 1600000 in
theorem key_any (w : World) (x : GEdge) :
    Calls Tryz.prog 31 #[edgeV x] w fun e w' => ∃ v, e = .returned v ∧ Ow w' w.heap.size v (keyL x) ∧ Below w.heap.size w w' := by
  obtain ⟨w0, hw0⟩ : ∃ w0, w0 = w.alloc (.cells (edgeC x).toArray 55) := ⟨_, rfl⟩
  have hb0 : Below w.heap.size w w0 := by rw [hw0]; exact balloc w _
  have hx0 : BoxAt 55 w0 w.heap.size (edgeC x) := by rw [hw0]; exact BoxAt.new_ _ _ _
  have Hw0 := Lib.hid hw0
  have Hb0 := Lib.hid hb0
  have hs0 := hb0.size
  have b0 := u32_lt x.fr
  have b1 := u32_lt x.to
  have b2 := u32_lt x.wt
  have hk : keyL x = be4 x.fr.toNat ++ be4 x.to.toNat ++ be4 x.wt.toNat := rfl
  have hcs : edgeC x = [.int .u32 (x.fr.toNat : Int), .int .u32 (x.to.toNat : Int), .int .u32 (x.wt.toNat : Int)] := rfl
  unfold edgeV
  rw [hcs] at Hw0 hx0 ⊢
  have Hk := Lib.hid hk
  have X0 := Lib.hid hx0
  clear hw0 hx0 hb0 hk hcs
  generalize x.fr.toNat = n0 at *
  generalize x.to.toNat = n1 at *
  generalize x.wt.toNat = n2 at *
  go_enter Tryz.func31, Tryz.ntmps31
  go_upto_region 1 with fail
  rw [← Hw0.out]
  go_wp2_with (refine wpList_make8c rfl (.const (.int .i64 0)) (.const (.int .i64 12)) w.heap.size hs0 rfl 12 rfl rfl (by omega) ?_; intro v1 w1 ho1 hb1; (have hc0 := (X0.out.bl_ hb1).cell 0 _ rfl); (have hc1 := (X0.out.bl_ hb1).cell 1 _ rfl); (have hc2 := (X0.out.bl_ hb1).cell 2 _ rfl))
  have Hb1 := Lib.hid (bstep Hb0.out hb1)
  have Ho1 := Lib.hid ho1
  clear ho1 hb1 hc0 hc1 hc2
  go_loopw [3, 15] (fun v iv wr => ∃ i : Nat, i ≤ 3 ∧ iv = .int .i64 i ∧ Ow wr w.heap.size v ((be4 n0 ++ be4 n1 ++ be4 n2).take (4 * i)) ∧ Below w.heap.size w wr) (fun _ iv _ => 3 - (intOf iv).toNat)
  case atStart => exact ⟨0, by omega, rfl, Ho1.out, Hb1.out⟩
  case round =>
    obtain ⟨i, hi, hiv, hown, hbl⟩ := hrel
    have Hown := Lib.hid hown
    have Hbl := Lib.hid hbl
    clear hown hbl Ho1 Hb1
    have h4 : i = 0 ∨ i = 1 ∨ i = 2 ∨ i = 3 := by omega
    obtain rfl | rfl | rfl | rfl := h4
    · replace hiv : _ = Value.int .i64 0 := hiv
      subst hiv
      have hi0 := idx3_0 wr (.int .u32 n0) (.int .u32 n1) (.int .u32 n2)
      go_wp2_with fail
      clear hi0
      go_loopw [3, 18] (fun v jv wr => ∃ j : Nat, j ≤ 4 ∧ jv = .int .i64 j ∧ Ow wr w.heap.size v ([] ++ (be4 n0).take j) ∧ Below w.heap.size w wr) (fun _ jv _ => 4 - (intOf jv).toNat)
      case atStart => exact ⟨0, by omega, rfl, by simpa [be4] using Hown.out, Hbl.out⟩
      case round =>
        obtain ⟨j, hj, rfl, hown, hbl⟩ := hrel
        have Hown := Lib.hid hown
        have Hbl := Lib.hid hbl
        have hwr := hbl.size
        clear hown hbl
        have h5 : j = 0 ∨ j = 1 ∨ j = 2 ∨ j = 3 ∨ j = 4 := by omega
        obtain rfl | rfl | rfl | rfl | rfl := h5
        · go_wp2_with (at_builtin; go_loud (refine wpList_app1 rfl (.tmp 21) (.tmp 28) rfl (b := UInt8.ofNat (n0 / 16777216)) Hown.out (b8_of _ _ (by omega)) rfl rfl (by simp [be4]) hwr ?_); intro v2 w2 hown2 hext2)
          have hbl2 := Hbl.out.trans (hext2.below hwr (fun q hq => (World.ownsRow.lt Hown.out q hq).1))
          have hown3 : Ow w2 w.heap.size v2 ([] ++ (be4 n0).take 1) := by simpa [be4] using hown2
          have Hbl2 := Lib.hid hbl2
          have Hown3 := Lib.hid hown3
          clear hown2 hext2 hbl2 hown3
          try go_wp2_with fail
          go_roundw
          case rel => exact ⟨1, by omega, rfl, Hown3.out, Hbl2.out⟩
          case measure => simp [intOf]
        · go_wp2_with (at_builtin; go_loud (refine wpList_app1 rfl (.tmp 21) (.tmp 28) rfl (b := UInt8.ofNat (n0 / 65536)) Hown.out (b8_of _ _ (by omega)) rfl rfl (by simp [be4]) hwr ?_); intro v2 w2 hown2 hext2)
          have hbl2 := Hbl.out.trans (hext2.below hwr (fun q hq => (World.ownsRow.lt Hown.out q hq).1))
          have hown3 : Ow w2 w.heap.size v2 ([] ++ (be4 n0).take 2) := by simpa [be4] using hown2
          have Hbl2 := Lib.hid hbl2
          have Hown3 := Lib.hid hown3
          clear hown2 hext2 hbl2 hown3
          try go_wp2_with fail
          go_roundw
          case rel => exact ⟨2, by omega, rfl, Hown3.out, Hbl2.out⟩
          case measure => simp [intOf]
        · go_wp2_with (at_builtin; go_loud (refine wpList_app1 rfl (.tmp 21) (.tmp 28) rfl (b := UInt8.ofNat (n0 / 256)) Hown.out (b8_of _ _ (by omega)) rfl rfl (by simp [be4]) hwr ?_); intro v2 w2 hown2 hext2)
          have hbl2 := Hbl.out.trans (hext2.below hwr (fun q hq => (World.ownsRow.lt Hown.out q hq).1))
          have hown3 : Ow w2 w.heap.size v2 ([] ++ (be4 n0).take 3) := by simpa [be4] using hown2
          have Hbl2 := Lib.hid hbl2
          have Hown3 := Lib.hid hown3
          clear hown2 hext2 hbl2 hown3
          try go_wp2_with fail
          go_roundw
          case rel => exact ⟨3, by omega, rfl, Hown3.out, Hbl2.out⟩
          case measure => simp [intOf]
        · go_wp2_with (at_builtin; go_loud (refine wpList_app1 rfl (.tmp 21) (.tmp 28) rfl (b := UInt8.ofNat (n0)) Hown.out (b8_of _ _ (by omega)) rfl rfl (by simp [be4]) hwr ?_); intro v2 w2 hown2 hext2)
          have hbl2 := Hbl.out.trans (hext2.below hwr (fun q hq => (World.ownsRow.lt Hown.out q hq).1))
          have hown3 : Ow w2 w.heap.size v2 ([] ++ (be4 n0).take 4) := by simpa [be4] using hown2
          have Hbl2 := Lib.hid hbl2
          have Hown3 := Lib.hid hown3
          clear hown2 hext2 hbl2 hown3
          try go_wp2_with fail
          go_roundw
          case rel => exact ⟨4, by omega, rfl, Hown3.out, Hbl2.out⟩
          case measure => simp [intOf]
        · go_wp2_with fail
          go_roundw
          case rel => exact ⟨1, by omega, rfl, by simpa [be4] using Hown.out, Hbl.out⟩
          case measure => simp [intOf]
    · replace hiv : _ = Value.int .i64 1 := hiv
      subst hiv
      have hi0 := idx3_1 wr (.int .u32 n0) (.int .u32 n1) (.int .u32 n2)
      go_wp2_with fail
      clear hi0
      go_loopw [3, 18] (fun v jv wr => ∃ j : Nat, j ≤ 4 ∧ jv = .int .i64 j ∧ Ow wr w.heap.size v (be4 n0 ++ (be4 n1).take j) ∧ Below w.heap.size w wr) (fun _ jv _ => 4 - (intOf jv).toNat)
      case atStart => exact ⟨0, by omega, rfl, by simpa [be4] using Hown.out, Hbl.out⟩
      case round =>
        obtain ⟨j, hj, rfl, hown, hbl⟩ := hrel
        have Hown := Lib.hid hown
        have Hbl := Lib.hid hbl
        have hwr := hbl.size
        clear hown hbl
        have h5 : j = 0 ∨ j = 1 ∨ j = 2 ∨ j = 3 ∨ j = 4 := by omega
        obtain rfl | rfl | rfl | rfl | rfl := h5
        · go_wp2_with (at_builtin; go_loud (refine wpList_app1 rfl (.tmp 21) (.tmp 28) rfl (b := UInt8.ofNat (n1 / 16777216)) Hown.out (b8_of _ _ (by omega)) rfl rfl (by simp [be4]) hwr ?_); intro v2 w2 hown2 hext2)
          have hbl2 := Hbl.out.trans (hext2.below hwr (fun q hq => (World.ownsRow.lt Hown.out q hq).1))
          have hown3 : Ow w2 w.heap.size v2 (be4 n0 ++ (be4 n1).take 1) := by simpa [be4] using hown2
          have Hbl2 := Lib.hid hbl2
          have Hown3 := Lib.hid hown3
          clear hown2 hext2 hbl2 hown3
          try go_wp2_with fail
          go_roundw
          case rel => exact ⟨1, by omega, rfl, Hown3.out, Hbl2.out⟩
          case measure => simp [intOf]
        · go_wp2_with (at_builtin; go_loud (refine wpList_app1 rfl (.tmp 21) (.tmp 28) rfl (b := UInt8.ofNat (n1 / 65536)) Hown.out (b8_of _ _ (by omega)) rfl rfl (by simp [be4]) hwr ?_); intro v2 w2 hown2 hext2)
          have hbl2 := Hbl.out.trans (hext2.below hwr (fun q hq => (World.ownsRow.lt Hown.out q hq).1))
          have hown3 : Ow w2 w.heap.size v2 (be4 n0 ++ (be4 n1).take 2) := by simpa [be4] using hown2
          have Hbl2 := Lib.hid hbl2
          have Hown3 := Lib.hid hown3
          clear hown2 hext2 hbl2 hown3
          try go_wp2_with fail
          go_roundw
          case rel => exact ⟨2, by omega, rfl, Hown3.out, Hbl2.out⟩
          case measure => simp [intOf]
        · go_wp2_with (at_builtin; go_loud (refine wpList_app1 rfl (.tmp 21) (.tmp 28) rfl (b := UInt8.ofNat (n1 / 256)) Hown.out (b8_of _ _ (by omega)) rfl rfl (by simp [be4]) hwr ?_); intro v2 w2 hown2 hext2)
          have hbl2 := Hbl.out.trans (hext2.below hwr (fun q hq => (World.ownsRow.lt Hown.out q hq).1))
          have hown3 : Ow w2 w.heap.size v2 (be4 n0 ++ (be4 n1).take 3) := by simpa [be4] using hown2
          have Hbl2 := Lib.hid hbl2
          have Hown3 := Lib.hid hown3
          clear hown2 hext2 hbl2 hown3
          try go_wp2_with fail
          go_roundw
          case rel => exact ⟨3, by omega, rfl, Hown3.out, Hbl2.out⟩
          case measure => simp [intOf]
        · go_wp2_with (at_builtin; go_loud (refine wpList_app1 rfl (.tmp 21) (.tmp 28) rfl (b := UInt8.ofNat (n1)) Hown.out (b8_of _ _ (by omega)) rfl rfl (by simp [be4]) hwr ?_); intro v2 w2 hown2 hext2)
          have hbl2 := Hbl.out.trans (hext2.below hwr (fun q hq => (World.ownsRow.lt Hown.out q hq).1))
          have hown3 : Ow w2 w.heap.size v2 (be4 n0 ++ (be4 n1).take 4) := by simpa [be4] using hown2
          have Hbl2 := Lib.hid hbl2
          have Hown3 := Lib.hid hown3
          clear hown2 hext2 hbl2 hown3
          try go_wp2_with fail
          go_roundw
          case rel => exact ⟨4, by omega, rfl, Hown3.out, Hbl2.out⟩
          case measure => simp [intOf]
        · go_wp2_with fail
          go_roundw
          case rel => exact ⟨2, by omega, rfl, by simpa [be4] using Hown.out, Hbl.out⟩
          case measure => simp [intOf]
    · replace hiv : _ = Value.int .i64 2 := hiv
      subst hiv
      have hi0 := idx3_2 wr (.int .u32 n0) (.int .u32 n1) (.int .u32 n2)
      go_wp2_with fail
      clear hi0
      go_loopw [3, 18] (fun v jv wr => ∃ j : Nat, j ≤ 4 ∧ jv = .int .i64 j ∧ Ow wr w.heap.size v ((be4 n0 ++ be4 n1) ++ (be4 n2).take j) ∧ Below w.heap.size w wr) (fun _ jv _ => 4 - (intOf jv).toNat)
      case atStart => exact ⟨0, by omega, rfl, by simpa [be4] using Hown.out, Hbl.out⟩
      case round =>
        obtain ⟨j, hj, rfl, hown, hbl⟩ := hrel
        have Hown := Lib.hid hown
        have Hbl := Lib.hid hbl
        have hwr := hbl.size
        clear hown hbl
        have h5 : j = 0 ∨ j = 1 ∨ j = 2 ∨ j = 3 ∨ j = 4 := by omega
        obtain rfl | rfl | rfl | rfl | rfl := h5
        · go_wp2_with (at_builtin; go_loud (refine wpList_app1 rfl (.tmp 21) (.tmp 28) rfl (b := UInt8.ofNat (n2 / 16777216)) Hown.out (b8_of _ _ (by omega)) rfl rfl (by simp [be4]) hwr ?_); intro v2 w2 hown2 hext2)
          have hbl2 := Hbl.out.trans (hext2.below hwr (fun q hq => (World.ownsRow.lt Hown.out q hq).1))
          have hown3 : Ow w2 w.heap.size v2 ((be4 n0 ++ be4 n1) ++ (be4 n2).take 1) := by simpa [be4] using hown2
          have Hbl2 := Lib.hid hbl2
          have Hown3 := Lib.hid hown3
          clear hown2 hext2 hbl2 hown3
          try go_wp2_with fail
          go_roundw
          case rel => exact ⟨1, by omega, rfl, Hown3.out, Hbl2.out⟩
          case measure => simp [intOf]
        · go_wp2_with (at_builtin; go_loud (refine wpList_app1 rfl (.tmp 21) (.tmp 28) rfl (b := UInt8.ofNat (n2 / 65536)) Hown.out (b8_of _ _ (by omega)) rfl rfl (by simp [be4]) hwr ?_); intro v2 w2 hown2 hext2)
          have hbl2 := Hbl.out.trans (hext2.below hwr (fun q hq => (World.ownsRow.lt Hown.out q hq).1))
          have hown3 : Ow w2 w.heap.size v2 ((be4 n0 ++ be4 n1) ++ (be4 n2).take 2) := by simpa [be4] using hown2
          have Hbl2 := Lib.hid hbl2
          have Hown3 := Lib.hid hown3
          clear hown2 hext2 hbl2 hown3
          try go_wp2_with fail
          go_roundw
          case rel => exact ⟨2, by omega, rfl, Hown3.out, Hbl2.out⟩
          case measure => simp [intOf]
        · go_wp2_with (at_builtin; go_loud (refine wpList_app1 rfl (.tmp 21) (.tmp 28) rfl (b := UInt8.ofNat (n2 / 256)) Hown.out (b8_of _ _ (by omega)) rfl rfl (by simp [be4]) hwr ?_); intro v2 w2 hown2 hext2)
          have hbl2 := Hbl.out.trans (hext2.below hwr (fun q hq => (World.ownsRow.lt Hown.out q hq).1))
          have hown3 : Ow w2 w.heap.size v2 ((be4 n0 ++ be4 n1) ++ (be4 n2).take 3) := by simpa [be4] using hown2
          have Hbl2 := Lib.hid hbl2
          have Hown3 := Lib.hid hown3
          clear hown2 hext2 hbl2 hown3
          try go_wp2_with fail
          go_roundw
          case rel => exact ⟨3, by omega, rfl, Hown3.out, Hbl2.out⟩
          case measure => simp [intOf]
        · go_wp2_with (at_builtin; go_loud (refine wpList_app1 rfl (.tmp 21) (.tmp 28) rfl (b := UInt8.ofNat (n2)) Hown.out (b8_of _ _ (by omega)) rfl rfl (by simp [be4]) hwr ?_); intro v2 w2 hown2 hext2)
          have hbl2 := Hbl.out.trans (hext2.below hwr (fun q hq => (World.ownsRow.lt Hown.out q hq).1))
          have hown3 : Ow w2 w.heap.size v2 ((be4 n0 ++ be4 n1) ++ (be4 n2).take 4) := by simpa [be4] using hown2
          have Hbl2 := Lib.hid hbl2
          have Hown3 := Lib.hid hown3
          clear hown2 hext2 hbl2 hown3
          try go_wp2_with fail
          go_roundw
          case rel => exact ⟨4, by omega, rfl, Hown3.out, Hbl2.out⟩
          case measure => simp [intOf]
        · go_wp2_with fail
          go_roundw
          case rel => exact ⟨3, by omega, rfl, by simpa [be4] using Hown.out, Hbl.out⟩
          case measure => simp [intOf]
    · replace hiv : _ = Value.int .i64 3 := hiv
      subst hiv
      go_wp2_with fail
      go_ret
      refine ⟨_, rfl, ?_, Hbl.out⟩
      rw [Hk.out]
      simpa [be4] using Hown.out
end Go.Proofs.YtcffeepgfjpcaaaGreat

namespace Go.Proofs.YtcffeepgfjpcaaaGreat
set_option linter.unusedSimpArgs false
set_option linter.unusedVariables false
open Go.RowKit Go.Maps

/-- numbers under a word: each's place in the job, the least, the greatest -/
structure NumSpec where
  key : List UInt8
  l : List (Nat × Nat × Nat)
def numT : List NumSpec := [
  ⟨[108, 101, 110, 103, 116, 104], [(2, 0, 65536)]⟩, ⟨[119, 97, 108, 107, 115], [(3, 1, 65536)]⟩, ⟨[114, 101, 115, 116, 97, 114, 116], [(5, 0, 4294967295), (6, 1, 4294967295)]⟩,
  ⟨[98, 105, 97, 115], [(7, 1, 65536), (8, 1, 65536)]⟩, ⟨[116, 114, 105, 101, 115], [(9, 1, 1024)]⟩, ⟨[98, 101, 115, 116], [(10, 0, 1024)]⟩, ⟨[115, 104, 97, 114, 100], [(11, 1, 65536)]⟩,
  ⟨[114, 111, 111, 109], [(12, 1, 16777216)]⟩, ⟨[112, 111, 111, 108], [(13, 2, 65536)]⟩, ⟨[115, 111, 114, 116], [(14, 1, 4096)]⟩]
def specC (gj : Nat) (l : List (Nat × Nat × Nat)) : List Value := l.flatMap fun x => [.pointer (some ⟨gj, x.1, none⟩), .int .u64 (x.2.1 : Int), .int .u64 (x.2.2 : Int)]
def mkS (c : Nat × Nat) : Value := .slice (some ⟨c.1, 0, none⟩) c.2 c.2
def nsR (v : Value) : Option (DataW Value × List MemPlace) :=
  match v with
  | .slice (some ⟨_, 0, none⟩) n c => if n = c then some (.held v, []) else none
  | _ => none
theorem nsR_mk (c : Nat × Nat) : nsR (mkS c) = some (.held (mkS c), []) := by simp [nsR, mkS]
theorem nsR_inv (v : Value) (y : DataW Value × List MemPlace) (h : nsR v = some y) : ∃ c, v = mkS c := by
  unfold nsR at h
  split at h
  · rename_i g n c
    split at h
    · rename_i e
      subst e
      exact ⟨(g, n), rfl⟩
    · cases h
  · cases h
theorem keyOf_str (s : List UInt8) (hs : s.length ≤ maxLen) : keyOf Tryz.prog 9 (.string (bst s)) = some (.string s) := by
  have e : (bst s).data.toList = s := by simp [bst]
  have e2 : (bst s).size ≤ maxLen := by show s.toArray.size ≤ maxLen; simpa using hs
  rw [keyOf_string Tryz.underlying9]
  simp [mapKey, Tryz.underlying9, e, e2]
/-- block b is a map of just the words of S, each to its numbers of the job at gj -/
def NumMap (W : World) (b gj : Nat) (S : NumSpec → Prop) (n : Nat) : Prop :=
  ∃ D : DataW Value, W.ownsMap Tryz.prog 9 nsR b n D ∧
    (∀ kl, has D kl = true → ∃ x, S x ∧ ∃ g, kl = .string x.key ∧ (∀ z, D.atKey kl z = .held (mkS (g, x.l.length))) ∧ BoxAt 211 W g (specC gj x.l)) ∧ ∀ x, S x → has D (.string x.key) = true
theorem NumMap.lt {W : World} {b gj n : Nat} {S : NumSpec → Prop} (h : NumMap W b gj S n) : b < W.heap.size := by obtain ⟨D, h, _⟩ := h; exact h.lt
theorem NumMap.grown {W W' : World} {b gj n : Nat} {S : NumSpec → Prop} (h : NumMap W b gj S n) (hb : Below W.heap.size W W') : NumMap W' b gj S n := by
  obtain ⟨D, h1, h2, h3⟩ := h
  refine ⟨D, h1.kept (row := none) (gbelow hb none) (by simp), fun kl hk => ?_, h3⟩
  obtain ⟨x, hx, g, e, ha, hbx⟩ := h2 kl hk
  exact ⟨x, hx, g, e, ha, hbx.bl_ hb⟩
theorem NumMap.cast {W : World} {b gj n n' : Nat} {S S' : NumSpec → Prop} (h : NumMap W b gj S n) (hS : ∀ x, S' x ↔ S x) (hn : n' = n) : NumMap W b gj S' n' := by
  subst hn
  obtain ⟨D, h1, h2, h3⟩ := h
  refine ⟨D, h1, fun kl hk => ?_, fun x hx => h3 x ((hS x).1 hx)⟩
  obtain ⟨x, hx, r⟩ := h2 kl hk
  exact ⟨x, (hS x).2 hx, r⟩
theorem NumMap.new_ (W : World) (gj : Nat) : NumMap (W.alloc (.map #[] 0)) W.heap.size gj (fun _ => False) 0 :=
  ⟨.map [], World.ownsMap_made _ _ _ _, fun kl h => by simp [Maps.has] at h, fun x h => h.elim⟩
theorem NumMap.ne {W : World} {b gj n g : Nat} {S : NumSpec → Prop} {T : TypeId} {cs : List Value} (h : NumMap W b gj S n) (hb : BoxAt T W g cs) : b ≠ g := fun e => by
  subst e
  obtain ⟨D, ⟨es, clock, h1, _⟩, _⟩ := h
  rw [show W.heap[b]? = _ from hb] at h1
  cases h1
theorem NumMap.put {w : World} {b gj n : Nat} {S : NumSpec → Prop} (hM : NumMap w b gj S n) (hn : n < 100) (sp : NumSpec) (hnew : ∀ y, S y → y.key ≠ sp.key) (hsl : sp.key.length ≤ 100) (g : Nat) (hbx : BoxAt 211 w g (specC gj sp.l)) :
    ∃ w', (Instr.mapUpdate 205 (.map (some b)) (.string (bst sp.key)) (mkS (g, sp.l.length))).run Tryz.prog w = .ok () w' ∧ NumMap w' b gj (fun x => S x ∨ x = sp) (n + 1) ∧ w.grownBy w' (some b) := by
  have hbg := hM.ne hbx
  have hM' := hM
  obtain ⟨D, h1, h2, h3⟩ := hM
  obtain ⟨w', hrun, r1, r2⟩ := h1.update (string_keyed Tryz.underlying9) Tryz.underlying205 (by simp [maxLen]; omega) (keyOf_str sp.key (by simp [maxLen]; omega)) (nsR_mk (g, sp.l.length))
  refine ⟨w', hrun, ⟨_, r1, fun kl hk => ?_, fun y hy => ?_⟩, r2⟩
  · by_cases e : kl = .string sp.key
    · subst e
      exact ⟨sp, .inr rfl, g, rfl, fun z => atKey_put_same h1.isMap (by simp [WideAt.IsKeyLit]) _ z, hbx.grown r2 (fun e => hbg (by injection e))⟩
    · rw [has_put_other e] at hk
      obtain ⟨y, hy, g', e', ha, hb'⟩ := h2 kl hk
      have hne := hM'.ne hb'
      exact ⟨y, .inl hy, g', e', fun z => by rw [atKey_put_other e]; exact ha z, hb'.grown r2 (fun e => hne (by injection e))⟩
  · rcases hy with hy | rfl
    · rw [has_put_other (by intro e; injection e with e; exact hnew y hy e)]
      exact h3 y hy
    · exact has_put_same h1.isMap (by simp [WideAt.IsKeyLit]) _
theorem infoNum : (Tryz.prog.info? 211).map (fun i => (i.zero, i.size, i.bytes)) = some (some (.agg #[.pointer none, .int .u64 0, .int .u64 0]), 3, 24) := by kernel_rfl
theorem infoNum3 : (Tryz.prog.info? 211).map (·.size) = some 3 := by kernel_rfl
theorem run_bsNum1 (w : World) (p q r : Value) : (Instr.buildSlice 208 1 #[(0, .agg #[p, q, r])]).run Tryz.prog w = .ok (.slice (some ⟨w.heap.size, 0, none⟩) 1 1) (w.alloc (.cells #[p, q, r] 211)) := by
  obtain ⟨it, hit, hz0, hz1, hby⟩ := info_parts infoNum
  refine run_buildSlice w _ _ 1 _ _ it _ Tryz.underlying208 hit hz0 (by rw [hz1]; decide) (by rw [hz1]; decide) ?_
  rw [hz1]
  exact fill_whole 3 _ [p, q, r] (by first | rfl | simp) (by first | rfl | simp)
theorem fill_3x2 (cells : Array Value) (hc : cells.size = 6) (p q r p2 q2 r2 : Value) : Instr.fill (fun i => some (i * 3, 3)) cells [(0, .agg #[p, q, r]), (1, .agg #[p2, q2, r2])] = some #[p, q, r, p2, q2, r2] := by
  obtain ⟨l⟩ := cells
  match l, hc with
  | [c0, c1, c2, c3, c4, c5], _ => simp [Instr.fill, Value.cells]
theorem run_bsNum2 (w : World) (p q r p2 q2 r2 : Value) : (Instr.buildSlice 208 2 #[(0, .agg #[p, q, r]), (1, .agg #[p2, q2, r2])]).run Tryz.prog w = .ok (.slice (some ⟨w.heap.size, 0, none⟩) 2 2) (w.alloc (.cells #[p, q, r, p2, q2, r2] 211)) := by
  obtain ⟨it, hit, hz0, hz1, hby⟩ := info_parts infoNum
  refine run_buildSlice w _ _ 2 _ _ it _ Tryz.underlying208 hit hz0 (by rw [hz1]; decide) (by rw [hz1]; decide) ?_
  rw [hz1]
  exact fill_3x2 _ (by simp) p q r p2 q2 r2
end Go.Proofs.YtcffeepgfjpcaaaGreat

namespace Go.Proofs.YtcffeepgfjpcaaaGreat
set_option linter.unusedSimpArgs false
set_option linter.unusedVariables false
open Go.RowKit

/-- how one operation may run -/
def mildS (P : Program) (d : Option Nat) (ph : Value → Prop) (i : Nat) (J : (Nat → Bool) → (Nat → Value) → World → Prop) (b : Nat → Bool) (vs : Nat → Value) : Result Next → Prop
  | .ok (.value u) w'' => ph (dstVal d u) ∧ J (fun s => if s = i then true else b s) (fun s => if s = i then dstVal d u else vs s) w''
  | .ok .skip w'' => d = none ∧ ph undef ∧ J (fun s => if s = i then true else b s) (fun s => if s = i then undef else vs s) w''
  | .ok (.enter f args) w'' => Calls P f args w'' (fun e w3 => ∃ v, e = .returned v ∧ ph (dstVal d v) ∧ J (fun s => if s = i then true else b s) (fun s => if s = i then dstVal d v else vs s) w3)
  | _ => False
def ObS (P : Program) (dl : List (Option Nat)) (Φ : List (Value → Prop)) (ds : List Nat) (a : Act) (J : (Nat → Bool) → (Nat → Value) → World → Prop) (i : Nat) (ph : Value → Prop) (o : Oper) : Prop :=
  ∀ f b w', J b (valOf dl f) w' → b i = false → (∀ e ∈ o.after.toList, Region.binds .any e = true → b e.on = true) → PreO dl Φ f o.after.toList →
    (Gd dl f o.guard → mildS P o.dst ph i J b (valOf dl f) ((execOp (evalF ds f a) o).run P w')) ∧
    (¬ Gd dl f o.guard → ph undef ∧ J (fun s => if s = i then true else b s) (fun s => if s = i then undef else valOf dl f s) w')

section
variable {P : Program} {l : List Oper} {dl : List (Option Nat)} {Φ : List (Value → Prop)} {a : Act} {w : World} {Q : Exit → Act → World → Prop} {J : (Nat → Bool) → (Nat → Value) → World → Prop}
theorem mixS_aux {l2 : List Oper} (hdl : l.map (·.dst) = dl) (hn : typedB l a.tmps.size = true) (ht : tailB l l2 = true) (hob : ∀ (i : Nat) (o : Oper), l[i]? = some o → ObS P dl Φ (dstsOf_ l) a J i (Φ.getD i fun _ => True) o)
    (hQ : ∀ f b w', (∀ i, i < l.length → b i = true) → J b (valOf dl f) w' → PostO f dl Φ → wpList P (l ++ l2).toArray Q l2 (fills (dstsOf_ l) f a) w') :
    ∀ (fuel : Nat) (listed : Array Bool) (rem : List Nat), rem.length = fuel → listed.size = (l ++ l2).length → rem.Nodup → (∀ i, i ∈ rem ↔ i < l.length ∧ listed.getD i true = false) →
      (∀ i, l.length ≤ i → i < (l ++ l2).length → listed.getD i false = false) → Closed (l ++ l2) listed →
      ∀ f w', J (fun s => listed.getD s false) (valOf dl f) w' → (∀ i, i < l.length → listed.getD i false = true → factO dl Φ f i) →
      wpAny P .any (l ++ l2).toArray Q (fuel + l2.length) listed (fills (dstsOf_ l) f a) w' := by
  simp only [typedB, Bool.and_eq_true] at hn
  obtain ⟨⟨⟨hnd, hlt⟩, hed⟩, _⟩ := hn
  have hdlg : ∀ i : Nat, dl[i]? = (l[i]?).map (fun (o : Oper) => o.dst) := fun i => by rw [← hdl]; simp
  have hnd := of_decide_eq_true hnd
  have hlt : ∀ d ∈ dstsOf_ l, d < a.tmps.size := fun d hd => of_decide_eq_true (List.all_eq_true.1 hlt d hd)
  have hed : ∀ (i : Nat) (o : Oper), l[i]? = some o → ∀ e ∈ o.after, Region.binds .any e = true → e.on < i := by
    intro i o ho e he hb
    have h1 := List.all_eq_true.1 hed (o, i) (by
      rw [List.mem_zipIdx_iff_getElem?]; exact ho)
    have h2 := (Array.all_eq_true_iff_forall_mem.1 h1) e he
    simpa [hb] using h2
  have hanc := tail_anc ht
  have hback : backB (l ++ l2) = true := by simp only [tailB, Bool.and_eq_true] at ht; exact ht.1.1
  have hguard : guardB l = true := by simp only [tailB, Bool.and_eq_true] at ht; exact ht.1.2
  intro fuel
  induction fuel with
  | zero =>
    intro listed rem hrem hs hnr hmem hhi hcl f w' hb hf
    have hr0 : rem = [] := List.eq_nil_of_length_eq_zero hrem
    have hal : ∀ i, i < l.length → listed.getD i false = true := by
      intro i hi
      rcases hc : listed.getD i false with _ | _
      · exfalso
        have : i ∈ rem := (hmem i).2 ⟨hi, by
          rw [Array.getD_eq_getD_getElem?] at hc ⊢
          rw [Array.getElem?_eq_getElem (by rw [hs, List.length_append]; omega)] at hc ⊢
          exact hc⟩
        rw [hr0] at this
        cases this
      · rfl
    rw [Nat.zero_add]
    refine lex_tail (l := l) hback hanc l2 l.length listed (Nat.le_refl _) (fun j => by rw [List.getElem?_append_right (by omega)]; congr 1; omega) (by simp) hs hal hhi ?_
    refine hQ f _ w' hal hb (postO_mk dl Φ fun i d hd => ?_)
    have hi : i < l.length := by
      have := (List.getElem?_eq_some_iff.1 hd).1
      rw [← hdl] at this
      simpa using this
    have := hf i hi (hal i hi)
    unfold factO valOf at this
    rw [hd] at this
    cases d <;> exact this
  | succ fuel ih =>
    intro listed rem hrem hs hnr hmem hhi hcl f w' hb hf
    rw [show fuel + 1 + l2.length = (fuel + l2.length) + 1 by omega]
    refine ⟨fun h => ?_, fun i hi => ?_⟩
    · exfalso
      -- the least one that has not come up may come up
      have hno : ∀ i, i < l.length → listed.getD i false = true := by
        intro i
        induction i using Nat.strongRecOn with
        | _ i ih =>
          intro hi
          rcases hc : listed.getD i false with _ | _
          · exfalso
            have hm : i ∈ Region.ready .any (l ++ l2).toArray listed := by
              rw [mem_ready]
              refine ⟨?_, l[i], by simp [List.getElem?_append_left hi, hi], fun e he hb => ?_⟩
              · rw [Array.getD_eq_getD_getElem?] at hc ⊢
                rw [Array.getElem?_eq_getElem (by rw [hs, List.length_append]; omega)] at hc ⊢
                exact hc
              · have := hed i l[i] (by simp [hi]) e he hb
                exact ih e.on this (by omega)
            rw [h] at hm
            cases hm
          · rfl
      obtain ⟨k, hk⟩ : ∃ k, k ∈ rem := by
        cases rem with
        | nil => simp at hrem
        | cons x _ => exact ⟨x, List.mem_cons_self ..⟩
      obtain ⟨hk1, hk2⟩ := (hmem k).1 hk
      have h1 := hno k hk1
      rw [Array.getD_eq_getD_getElem?, Array.getElem?_eq_getElem (by rw [hs, List.length_append]; omega)] at h1 hk2
      simp at h1 hk2
      rw [h1] at hk2
      cases hk2
    obtain ⟨hun, o, ho, hpre⟩ := mem_ready.1 hi
    have hil : i < l.length := by
      rcases Nat.lt_or_ge i l.length with h | h
      · exact h
      · exfalso
        have hall := hanc listed hcl i o (by simpa using ho) h hpre
        obtain ⟨k, hk⟩ : ∃ k, k ∈ rem := by
          cases rem with
          | nil => simp at hrem
          | cons x _ => exact ⟨x, List.mem_cons_self ..⟩
        obtain ⟨hk1, hk2⟩ := (hmem k).1 hk
        have h1 := hall k (by omega)
        rw [Array.getD_eq_getD_getElem?, Array.getElem?_eq_getElem (by rw [hs, List.length_append]; omega)] at h1 hk2
        simp at h1 hk2
        rw [h1] at hk2
        cases hk2
    have hol : l[i]? = some o := by
      have h1 : (l ++ l2)[i]? = some o := by simpa using ho
      rwa [List.getElem?_append_left hil] at h1
    have hcl2 : Closed (l ++ l2) (listed.setIfInBounds i true) := by
      intro k ok hok hlk e he hbd
      by_cases hki : k = i
      · subst hki
        have h1 : (l ++ l2)[k]? = some o := by simpa using ho
        rw [h1] at hok
        injection hok with hok
        subst hok
        have h2 := hpre e he hbd
        by_cases hei : e.on = k
        · rw [hei] at h2 ⊢; rw [Array.getD_eq_getD_getElem?, Array.getElem?_setIfInBounds_self_of_lt (by rw [hs, List.length_append]; omega)]; rfl
        · rw [getD_set_ne false (Ne.symm hei)]; exact h2
      · rw [getD_set_ne false (Ne.symm hki)] at hlk
        have h2 := hcl k ok hok hlk e he hbd
        by_cases hei : e.on = i
        · rw [hei, Array.getD_eq_getD_getElem?, Array.getElem?_setIfInBounds_self_of_lt (by rw [hs, List.length_append]; omega)]; rfl
        · rw [getD_set_ne false (Ne.symm hei)]; exact h2
    have hhi2 : ∀ k, l.length ≤ k → k < (l ++ l2).length → (listed.setIfInBounds i true).getD k false = false := by
      intro k h1 h2
      rw [getD_set_ne false (by omega)]
      exact hhi k h1 h2
    have hp : PreO dl Φ f o.after.toList := preO_mk _ fun e he hbd => by
      have he' : e ∈ o.after := by simpa using he
      have hlist := hpre e he' hbd
      exact hf e.on (Nat.lt_trans (hed i o hol e he' hbd) hil) hlist
    have huf : listed.getD i false = false := by
      rw [Array.getD_eq_getD_getElem?] at hun ⊢
      rw [Array.getElem?_eq_getElem (by rw [hs, List.length_append]; omega)] at hun ⊢
      exact hun
    have hone := hob i o hol f (fun s => listed.getD s false) w' hb huf (fun e he hbd => hpre e (by simpa using he) hbd) hp
    have hbs : (fun s => (listed.setIfInBounds i true).getD s false) = fun s => if s = i then true else listed.getD s false := by
      funext s
      by_cases hsi : s = i
      · subst hsi; rw [if_pos rfl, Array.getD_eq_getD_getElem?, Array.getElem?_setIfInBounds_self_of_lt (by rw [hs, List.length_append]; omega)]; rfl
      · rw [if_neg hsi, getD_set_ne false (fun e => hsi e.symm)]
    have hgd := yielded_iff2 l l2 dl hdl (dstsOf_ l) f a hlt (fun d hd => by
      rw [← hdl] at hd
      obtain ⟨oo, h1, h2⟩ := List.mem_map.1 hd
      exact List.mem_filterMap.2 ⟨oo, h1, h2⟩) o.guard o rfl (fun j b hg => guard_spec hguard hol j b hg)
    have hval : ∀ (d : Nat), o.dst = some d → ∀ v k, k ≠ i → valOf dl (fun t => if t = d then v else f t) k = valOf dl f k := by
      intro d hd v k hki
      unfold valOf
      rw [hdlg]
      cases hok : l[k]? with
      | none => rfl
      | some ok =>
        cases hdk : ok.dst with
        | none => simp [hdk]
        | some dk =>
          simp only [Option.map_some, hdk]
          rw [if_neg]
          intro e
          subst e
          have h3 : (dstsOf_ l).Nodup := hnd
          have : ∀ (m : List Oper) (x y : Nat) (ox oy : Oper), (m.filterMap (·.dst)).Nodup → m[x]? = some ox → m[y]? = some oy → ox.dst = some dk → oy.dst = some dk → x = y := by
            intro m
            induction m with
            | nil => intro x y ox oy _ hx; simp at hx
            | cons q m ihm =>
              intro x y ox oy hnd hx hy hdx hdy
              cases x with
              | zero =>
                cases y with
                | zero => rfl
                | succ y =>
                  exfalso
                  simp at hx hy
                  subst hx
                  simp only [List.filterMap_cons, hdx] at hnd
                  exact (List.nodup_cons.1 hnd).1 (List.mem_filterMap.2 ⟨oy, List.mem_of_getElem? hy, hdy⟩)
              | succ x =>
                cases y with
                | zero =>
                  exfalso
                  simp at hx hy
                  subst hy
                  simp only [List.filterMap_cons, hdy] at hnd
                  exact (List.nodup_cons.1 hnd).1 (List.mem_filterMap.2 ⟨ox, List.mem_of_getElem? hx, hdx⟩)
                | succ y =>
                  simp at hx hy
                  have : (m.filterMap (·.dst)).Nodup := by
                    simp only [List.filterMap_cons] at hnd
                    cases hq : q.dst with
                    | none => simpa [hq] using hnd
                    | some _ => simp only [hq] at hnd; exact (List.nodup_cons.1 hnd).2
                  rw [ihm x y ox oy this hx hy hdx hdy]
          exact hki (this l k i ok o h3 hok hol hdk hd)
    -- what follows once the value is there
    have hnext : ∀ v w'', J (fun s => if s = i then true else listed.getD s false) (fun s => if s = i then dstVal o.dst v else valOf dl f s) w'' → (Φ.getD i fun _ => True) (dstVal o.dst v) →
        wpAny P .any (l ++ l2).toArray Q (fuel + l2.length) (listed.setIfInBounds i true) ((fills (dstsOf_ l) f a).put o.dst v) w'' := by
      intro v w'' hb' hv
      have hrem' : (rem.erase i).length = fuel := by
        have : i ∈ rem := (hmem i).2 ⟨hil, hun⟩
        rw [List.length_erase_of_mem this]; omega
      have hmem' : ∀ k, k ∈ rem.erase i ↔ k < l.length ∧ (listed.setIfInBounds i true).getD k true = false := by
        intro k
        rw [hnr.mem_erase_iff, hmem]
        by_cases hk : k = i
        · subst hk
          simp only [ne_eq, not_true, false_and, false_iff, not_and]
          intro hk
          rw [Array.getD_eq_getD_getElem?, Array.getElem?_setIfInBounds_self_of_lt (by rw [hs, List.length_append]; omega)]
          simp
        · rw [getD_set_ne true (Ne.symm hk)]
          simp [hk]
      have hst : ∀ k, k < l.length → k ≠ i → (listed.setIfInBounds i true).getD k false = true → listed.getD k false = true := by
        intro k _ hk h
        rw [getD_set_ne false (Ne.symm hk)] at h
        exact h
      cases hd : o.dst with
      | none =>
        show wpAny P .any (l ++ l2).toArray Q (fuel + l2.length) _ (fills (dstsOf_ l) f a) w''
        refine ih _ (rem.erase i) hrem' (by simpa using hs) (hnr.erase i) hmem' hhi2 hcl2 f w'' ?_ fun k hk hl => ?_
        · have e : (fun s => if s = i then dstVal o.dst v else valOf dl f s) = valOf dl f := by
            funext s
            by_cases hsi : s = i
            · rw [if_pos hsi]
              subst hsi
              unfold valOf
              rw [hdlg, hol]
              simp only [Option.map_some, hd]
              rfl
            · rw [if_neg hsi]
          rw [e] at hb'
          rw [hbs]; exact hb'
        · by_cases hki : k = i
          · subst hki
            unfold factO valOf
            rw [hdlg, hol]
            simp only [Option.map_some, hd]
            simpa [hd] using hv
          · exact hf k hk (hst k hk hki hl)
      | some d =>
        have hdm : d ∈ dstsOf_ l := List.mem_filterMap.2 ⟨o, List.mem_of_getElem? hol, hd⟩
        rw [fills_put _ _ _ _ _ hdm]
        refine ih _ (rem.erase i) hrem' (by simpa using hs) (hnr.erase i) hmem' hhi2 hcl2 _ w'' ?_ fun k hk hl => ?_
        · have e : (fun s => if s = i then dstVal o.dst v else valOf dl f s) = valOf dl (fun t => if t = d then v else f t) := by
            funext s
            by_cases hsi : s = i
            · rw [if_pos hsi]
              subst hsi
              unfold valOf
              rw [hdlg, hol]
              simp only [Option.map_some, hd]
              simp
            · rw [if_neg hsi, hval d hd v s hsi]
          rw [e] at hb'
          rw [hbs]; exact hb'
        · by_cases hki : k = i
          · subst hki
            unfold factO valOf
            rw [hdlg, hol]
            simp only [Option.map_some, hd]
            simpa [hd] using hv
          · have h0 := hf k hk (hst k hk hki hl)
            unfold factO at h0 ⊢
            rw [hval d hd v k hki]
            exact h0
    unfold wpOp
    simp only [ho]
    by_cases hw : Region.wanted o (yielded (l ++ l2).toArray (fills (dstsOf_ l) f a).tmps) = true
    · replace hone := hone.1 (hgd.1 hw)
      simp only [hw, if_true]
      left
      unfold Oper.wp
      rw [evalF_fills f hlt]
      generalize (execOp (evalF (dstsOf_ l) f a) o).run P w' = r at *
      cases r with
      | ok n w'' =>
        cases n <;> simp only [mildS] at hone <;> simp only [Oper.upon]
        case value u => exact hnext u _ hone.2 hone.1
        case skip =>
          obtain ⟨hd0, h1, h2⟩ := hone
          have h3 := hnext undef w'' (by rw [hd0]; exact h2) (by rw [hd0]; exact h1)
          exact h3
        case enter f' args =>
          refine hone.mono ?_
          rintro e w3 ⟨v, rfl, hv, hj⟩
          exact hnext v w3 hj hv
      | halt x w'' => simp only [mildS] at hone
    · replace hone := hone.2 (fun h => hw (hgd.2 h))
      simp only [hw]
      refine hnext undef w' ?_ ?_
      · have := hone.2
        cases hd : o.dst <;> exact this
      · cases o.dst <;> exact hone.1

/-- THE LAW: n operations, of which some change the world, then the end. -/
theorem wp_region_mixSI {id : Nat} {L : List Oper} {ds : List Nat} (n : Nat) (J : (Nat → Bool) → (Nat → Value) → World → Prop) (dl : List (Option Nat)) (Φ : List (Value → Prop)) (hdl : (L.take n).map (·.dst) = dl) (hds : dstsOf_ (L.take n) = ds) (hm : P.follows .mixedOrders = true)
    (hn : typedB (L.take n) a.tmps.size = true) (ht : tailB (L.take n) (L.drop n) = true) (hob : ∀ (i : Nat) (o : Oper), (L.take n)[i]? = some o → ObS P dl Φ ds a J i (Φ.getD i fun _ => True) o) (h0 : J (fun _ => false) (valOf dl fun t => a.tmps.getD t undef) w.drew)
    (hQ : ∀ f b w', (∀ i, i < (L.take n).length → b i = true) → J b (valOf dl f) w' → PostO f dl Φ → wpList P L.toArray Q (L.drop n) (fills ds f a) w') : (Code.region id L.toArray true).wp P Q a w := by
  subst hds
  refine wp_region_any hm ?_
  have hL : L.take n ++ L.drop n = L := List.take_append_drop n L
  have hf0 : (fun s => (Array.replicate L.length false).getD s false) = fun _ => false := by
    funext s
    rw [Array.getD_eq_getD_getElem?, Array.getElem?_replicate]; split <;> rfl
  have := mixS_aux (l2 := L.drop n) hdl hn ht hob (by rw [hL]; exact hQ) (L.take n).length (Array.replicate L.length false) (List.range (L.take n).length) (by simp) (by rw [hL]; simp) List.nodup_range (by
    intro i
    simp only [List.mem_range, Array.getD_eq_getD_getElem?]
    constructor
    · intro h; exact ⟨h, by
        have : i < L.length := by rw [List.length_take] at h; omega
        simp [this]⟩
    · exact fun h => h.1) (by
    intro i _ hi
    rw [hL] at hi
    simp [Array.getD_eq_getD_getElem?, hi]) (by
    intro i o _ hl
    exfalso
    simp [Array.getD_eq_getD_getElem?, Array.getElem?_replicate] at hl
    split at hl <;> simp at hl) (fun t => a.tmps.getD t undef) { w with drawn := w.drawn + 1 } (by rw [hf0]; exact h0) (by
    intro i hi h
    exfalso
    simp [Array.getD_eq_getD_getElem?, Array.getElem?_replicate] at h
    split at h <;> simp at h)
  rw [fills_self, hL] at this
  have hlen : (L.take n).length + (L.drop n).length = L.toArray.size := by rw [← List.length_append, hL]; simp
  rw [hlen] at this
  exact this
theorem wp_region_mixS {id : Nat} {L : List Oper} {ds : List Nat} (n : Nat) (J : (Nat → Bool) → (Nat → Value) → World → Prop) (dl : List (Option Nat)) (Φ : List (Value → Prop)) (hdl : (L.take n).map (·.dst) = dl) (hds : dstsOf_ (L.take n) = ds) (hm : P.follows .mixedOrders = true)
    (hn : typedB (L.take n) a.tmps.size = true) (ht : tailB (L.take n) (L.drop n) = true) (hob : ∀ (i : Nat) (o : Oper), (L.take n)[i]? = some o → ObS P dl Φ ds a J i (Φ.getD i fun _ => True) o) (h0 : ∀ v, J (fun _ => false) v w.drew)
    (hQ : ∀ f b w', (∀ i, i < (L.take n).length → b i = true) → J b (valOf dl f) w' → PostO f dl Φ → wpList P L.toArray Q (L.drop n) (fills ds f a) w') : (Code.region id L.toArray true).wp P Q a w := 
  wp_region_mixSI n J dl Φ hdl hds hm hn ht hob (h0 _) hQ
end

/-! ### one by one -/
def ObSAll (P : Program) (dl : List (Option Nat)) (Φ : List (Value → Prop)) (ds : List Nat) (a : Act) (J : (Nat → Bool) → (Nat → Value) → World → Prop) : Nat → List Oper → List (Value → Prop) → Prop
  | _, [], _ => True
  | _, _ :: _, [] => False
  | i, o :: os, ph :: phs => ObS P dl Φ ds a J i ph o ∧ ObSAll P dl Φ ds a J (i + 1) os phs
theorem obSAll_get {P : Program} {dl : List (Option Nat)} {Φ : List (Value → Prop)} {ds : List Nat} {a : Act} {J : (Nat → Bool) → (Nat → Value) → World → Prop} : ∀ (os : List Oper) (phs : List (Value → Prop)) (k : Nat), ObSAll P dl Φ ds a J k os phs →
    ∀ (i : Nat) (o : Oper), os[i]? = some o → ObS P dl Φ ds a J (k + i) (phs.getD i fun _ => True) o
  | [], _, _, _ => fun i o h => by simp at h
  | _ :: _, [], _, h => h.elim
  | x :: os, ph :: phs, k, h => fun i o ho => by
    cases i with
    | zero => obtain rfl : x = o := by simpa using ho
              exact h.1
    | succ i =>
      have := obSAll_get os phs (k + 1) h.2 i o (by simpa using ho)
      rw [show k + (i + 1) = k + 1 + i by omega]
      simpa using this
section
variable {P : Program} {dl : List (Option Nat)} {Φ : List (Value → Prop)} {ds : List Nat} {a : Act} {w : World} {i : Nat} {J : (Nat → Bool) → (Nat → Value) → World → Prop} {ph : Value → Prop} {o : Oper}
theorem obS_yes (h : ∀ f b w', J b (valOf dl f) w' → b i = false → (∀ e ∈ o.after.toList, Region.binds .any e = true → b e.on = true) → PreO dl Φ f o.after.toList → Gd dl f o.guard ∧ mildS P o.dst ph i J b (valOf dl f) ((execOp (evalF ds f a) o).run P w')) : ObS P dl Φ ds a J i ph o := by
  intro f b w' h1 h2 h3 h4
  have := h f b w' h1 h2 h3 h4
  exact ⟨fun _ => this.2, fun hn => absurd this.1 hn⟩
theorem mildS_val {d : Option Nat} {q : Value → Prop} {r : Result Next} {w' : World} {b : Nat → Bool} {vs : Nat → Value} (u : Value) (hr : r = .ok (.value u) w') (hq : q (dstVal d u)) (hj : J (fun s => if s = i then true else b s) (fun s => if s = i then dstVal d u else vs s) w') : mildS P d q i J b vs r := by
  subst hr
  exact ⟨hq, hj⟩
theorem mildS_skip {q : Value → Prop} {r : Result Next} {w' : World} {b : Nat → Bool} {vs : Nat → Value} (hr : r = .ok .skip w') (hq : q undef) (hj : J (fun s => if s = i then true else b s) (fun s => if s = i then undef else vs s) w') : mildS P none q i J b vs r := by
  subst hr
  exact ⟨rfl, hq, hj⟩
theorem mildS_ex {d : Option Nat} {q : Value → Prop} {r : Result Next} {b : Nat → Bool} {vs : Nat → Value} {A B : Value → World → Prop} (hr : ∃ v' w3, r = .ok (.value v') w3 ∧ A v' w3 ∧ B v' w3)
    (h : ∀ v' w3, A v' w3 → B v' w3 → q (dstVal d v') ∧ J (fun s => if s = i then true else b s) (fun s => if s = i then dstVal d v' else vs s) w3) : mildS P d q i J b vs r := by
  obtain ⟨v', w3, rfl, h1, h2⟩ := hr
  exact h v' w3 h1 h2
end
theorem wp_region_mixSL {P : Program} {a : Act} {w : World} {Q : Exit → Act → World → Prop} {id : Nat} {L : List Oper} {ds : List Nat} (n : Nat) (J : (Nat → Bool) → (Nat → Value) → World → Prop) (dl : List (Option Nat)) (Φ : List (Value → Prop)) (hdl : (L.take n).map (·.dst) = dl) (hds : dstsOf_ (L.take n) = ds) (hm : P.follows .mixedOrders = true)
    (hn : typedB (L.take n) a.tmps.size = true) (ht : tailB (L.take n) (L.drop n) = true) (hob : ObSAll P dl Φ ds a J 0 (L.take n) Φ) (h0 : ∀ v, J (fun _ => false) v w.drew)
    (hQ : ∀ f b w', (∀ i, i < (L.take n).length → b i = true) → J b (valOf dl f) w' → PostO f dl Φ → wpList P L.toArray Q (L.drop n) (fills ds f a) w') : (Code.region id L.toArray true).wp P Q a w :=
  wp_region_mixS n J dl Φ hdl hds hm hn ht (fun i o ho => by simpa using obSAll_get _ _ 0 hob i o ho) h0 hQ
end Go.Proofs.YtcffeepgfjpcaaaGreat

namespace Go.Proofs.YtcffeepgfjpcaaaGreat
set_option linter.unusedSimpArgs false
set_option linter.unusedVariables false
open Go.RowKit Go.Maps

def insI (i : Nat) : Nat := ([6, 12, 22, 32, 38, 44, 51, 58, 65, 72] : List Nat).getD i 999
def bsI (i : Nat) : Nat := ([5, 11, 21, 31, 37, 43, 50, 57, 64, 71] : List Nat).getD i 998
def spI (i : Nat) : NumSpec := numT.getD i ⟨[], []⟩
theorem insI_inj : ∀ i, i < 10 → ∀ j, j < 10 → insI i = insI j → i = j := by decide
theorem spI_key : ∀ i, i < 10 → ∀ j, j < 10 → (spI i).key = (spI j).key → i = j := by decide
theorem spI_len : ∀ i, i < 10 → (spI i).key.length ≤ 100 := by decide
theorem insI_bsI : ∀ i, i < 10 → ∀ j, j < 10 → insI i ≠ bsI j := by decide
theorem insI_0 : ∀ i, i < 10 → insI i ≠ 0 ∧ bsI i ≠ 0 := by decide
theorem insI_m : ∀ i, i < 10 → (73 ≠ insI i ∧ 73 ≠ bsI i) ∧ 74 ≠ insI i ∧ 74 ≠ bsI i := by decide
theorem bsI_inj : ∀ i, i < 10 → ∀ j, j < 10 → bsI i = bsI j → i = j := by decide
theorem insI_lt : ∀ i, i < 10 → insI i < 75 := by decide
def c1 (b : Bool) : Nat := if b then 1 else 0
def cntB (bb : Nat → Bool) : Nat := ((List.range 10).map fun i => c1 (bb (insI i))).sum
/-- what holds while the map is filled, in whatever order -/
structure NJ (w : World) (gj : Nat) (bb : Nat → Bool) (vs : Nat → Value) (W : World) : Prop where
  map : bb 0 = true → ∃ b, vs 0 = .map (some b) ∧ w.heap.size ≤ b ∧ NumMap W b gj (fun x => ∃ i, i < 10 ∧ bb (insI i) = true ∧ x = spI i) (cntB bb)
  no : ∀ i, i < 10 → bb (insI i) = true → bb 0 = true
  sl : ∀ i, i < 10 → bb (bsI i) = true → ∃ g, vs (bsI i) = mkS (g, (spI i).l.length) ∧ BoxAt 211 W g (specC gj (spI i).l)
  bl : Below w.heap.size w W
  m1 : bb 73 = true → bb 0 = true ∧ vs 73 = vs 0
  m2 : bb 74 = true → bb 73 = true ∧ vs 74 = vs 73
theorem NJ.start (w : World) (gj : Nat) (v : Nat → Value) : NJ w gj (fun _ => false) v w.drew := ⟨fun h => (by cases h), fun _ _ h => (by cases h), fun _ _ h => (by cases h), (Below.refl _ _).drew, fun h => (by cases h), fun h => (by cases h)⟩
def special (k : Nat) : Bool := decide (k = 0) || decide (k = 73) || decide (k = 74) || (List.range 10).any fun i => decide (insI i = k) || decide (bsI i = k)
theorem special_no {k : Nat} (h : special k = false) : (k ≠ 0 ∧ k ≠ 73 ∧ k ≠ 74) ∧ ∀ i, i < 10 → insI i ≠ k ∧ bsI i ≠ k := by
  unfold special at h
  rw [Bool.or_eq_false_iff, List.any_eq_false, Bool.or_eq_false_iff, Bool.or_eq_false_iff] at h
  refine ⟨⟨by simpa using h.1.1.1, by simpa using h.1.1.2, by simpa using h.1.2⟩, fun i hi => ?_⟩
  have := h.2 i (by simpa using hi)
  simpa using this
section
variable {w W : World} {gj : Nat} {bb : Nat → Bool} {vs : Nat → Value}
theorem cntB_congr {bb bb' : Nat → Bool} (h : ∀ i, i < 10 → bb' (insI i) = bb (insI i)) : cntB bb' = cntB bb := by
  unfold cntB
  congr 1
  refine List.map_congr_left fun i hi => ?_
  rw [h i (by simpa using hi)]
theorem NJ.other {k : Nat} {v : Value} (h : NJ w gj bb vs W) (hk : special k = false) : NJ w gj (fun s => if s = k then true else bb s) (fun s => if s = k then v else vs s) W := by
  obtain ⟨⟨k0, k73, k74⟩, hk⟩ := special_no hk
  refine ⟨fun h0 => ?_, fun i hi hb => ?_, fun i hi hb => ?_, h.bl, by simp only [if_neg (Ne.symm k73), if_neg (Ne.symm k0)]; exact h.m1, by simp only [if_neg (Ne.symm k73), if_neg (Ne.symm k74)]; exact h.m2⟩
  · simp only [if_neg (Ne.symm k0)] at h0 ⊢
    obtain ⟨b, e, hb, hm⟩ := h.map h0
    refine ⟨b, e, hb, hm.cast (fun x => ?_) (cntB_congr fun i hi => by simp only [if_neg (hk i hi).1])⟩
    constructor
    · rintro ⟨i, hi, hx, e⟩
      simp only [if_neg (hk i hi).1] at hx
      exact ⟨i, hi, hx, e⟩
    · rintro ⟨i, hi, hx, e⟩
      exact ⟨i, hi, by simp only [if_neg (hk i hi).1]; exact hx, e⟩
  · simp only [if_neg (hk i hi).1] at hb
    simp only [if_neg (Ne.symm k0)]
    exact h.no i hi hb
  · simp only [if_neg (hk i hi).2] at hb ⊢
    exact h.sl i hi hb
theorem NJ.map0 (h : NJ w gj bb vs W) (hs : bb 0 = false) : NJ w gj (fun s => if s = 0 then true else bb s) (fun s => if s = 0 then Value.map (some W.heap.size) else vs s) (W.alloc (.map #[] 0)) := by
  have hno : ∀ i, i < 10 → bb (insI i) = false := fun i hi => by
    cases hx : bb (insI i) with
    | false => rfl
    | true => rw [h.no i hi hx] at hs; cases hs
  refine ⟨fun _ => ⟨W.heap.size, by simp, h.bl.size, (NumMap.new_ W gj).cast (fun x => ?_) ?_⟩, fun i hi hb => by simp, fun i hi hb => ?_, bstep h.bl (balloc _ _), fun h73 => ?_, fun h74 => ?_⟩
  · constructor
    · rintro ⟨i, hi, hx, e⟩
      simp only [if_neg (insI_0 i hi).1] at hx
      rw [hno i hi] at hx
      cases hx
    · exact fun h => h.elim
  · have e : cntB (fun s => if s = 0 then true else bb s) = cntB (fun _ => false) := cntB_congr fun i hi => by simp only [if_neg (insI_0 i hi).1]; exact hno i hi
    rw [e]
    rfl
  · simp only [if_neg (insI_0 i hi).2] at hb ⊢
    obtain ⟨g, e, hx⟩ := h.sl i hi hb
    exact ⟨g, e, hx.alloc _⟩
  · simp at h73
    rw [(h.m1 h73).1] at hs
    cases hs
  · simp at h74
    rw [(h.m1 (h.m2 h74).1).1] at hs
    cases hs
theorem NJ.bs (h : NJ w gj bb vs W) (i0 : Nat) (hi0 : i0 < 10) {k : Nat} {cs : List Value} {v : Value} (hk : bsI i0 = k) (hb : BoxAt 211 (W.alloc (.cells cs.toArray 211)) W.heap.size cs)
    (hcs : cs = specC gj (spI i0).l := by rfl) (hv : v = mkS (W.heap.size, (spI i0).l.length) := by rfl) :
    NJ w gj (fun s => if s = k then true else bb s) (fun s => if s = k then v else vs s) (W.alloc (.cells cs.toArray 211)) := by
  subst hk
  have k0 : ¬ 0 = bsI i0 := fun e => (insI_0 i0 hi0).2 e.symm
  have km := insI_m i0 hi0
  refine ⟨fun h0 => ?_, fun i hi hb => ?_, fun i hi hb' => ?_, bstep h.bl (balloc _ _), by simp only [if_neg km.1.2, if_neg k0]; exact h.m1, by simp only [if_neg km.1.2, if_neg km.2.2]; exact h.m2⟩
  · simp only [if_neg k0] at h0 ⊢
    obtain ⟨b, e, hb, hm⟩ := h.map h0
    refine ⟨b, e, hb, (hm.grown (balloc _ _)).cast (fun x => ?_) (cntB_congr fun i hi => by simp only [if_neg (insI_bsI i hi i0 hi0)])⟩
    constructor
    · rintro ⟨i, hi, hx, e⟩
      simp only [if_neg (insI_bsI i hi i0 hi0)] at hx
      exact ⟨i, hi, hx, e⟩
    · rintro ⟨i, hi, hx, e⟩
      exact ⟨i, hi, by simp only [if_neg (insI_bsI i hi i0 hi0)]; exact hx, e⟩
  · simp only [if_neg (insI_bsI i hi i0 hi0)] at hb
    simp only [if_neg k0]
    exact h.no i hi hb
  · by_cases e : bsI i = bsI i0
    · obtain rfl := bsI_inj i hi i0 hi0 e
      simp only [if_true]
      exact ⟨W.heap.size, hv, by rw [← hcs]; exact hb⟩
    · simp only [if_neg e] at hb' ⊢
      obtain ⟨g, e, hx⟩ := h.sl i hi hb'
      exact ⟨g, e, hx.alloc _⟩
theorem cntB_put (i0 : Nat) (hi0 : i0 < 10) (hs : bb (insI i0) = false) : cntB (fun s => if s = insI i0 then true else bb s) = cntB bb + 1 ∧ cntB bb < 100 := by
  have key : ∀ m, m ≤ 10 → ((List.range m).map fun i => c1 (if insI i = insI i0 then true else bb (insI i))).sum = ((List.range m).map fun i => c1 (bb (insI i))).sum + (if i0 < m then 1 else 0) ∧ ((List.range m).map fun i => c1 (bb (insI i))).sum ≤ m := by
    intro m
    induction m with
    | zero => intro _; simp
    | succ m ih =>
      intro hm
      obtain ⟨h1, h2⟩ := ih (by omega)
      rw [List.range_succ, List.map_append, List.map_append, List.sum_append, List.sum_append, h1]
      simp only [List.map_cons, List.map_nil, List.sum_cons, List.sum_nil]
      have hc : ∀ b, c1 b ≤ 1 := fun b => by cases b <;> simp [c1]
      have := hc (bb (insI m))
      by_cases e : m = i0
      · subst e
        rw [if_pos rfl, hs]
        simp [c1]
        simp [c1] at h2
        omega
      · rw [if_neg (fun h => e (insI_inj m (by omega) i0 hi0 h))]
        constructor
        · by_cases h : i0 < m
          · rw [if_pos h, if_pos (by omega)]; omega
          · rw [if_neg h, if_neg (by omega)]; omega
        · omega
  obtain ⟨h1, h2⟩ := key 10 (Nat.le_refl _)
  rw [if_pos hi0] at h1
  exact ⟨h1, by unfold cntB; omega⟩
theorem NJ.ins (h : NJ w gj bb vs W) (i0 : Nat) (hi0 : i0 < 10) {k : Nat} (hs : bb k = false) (hd0 : bb 0 = true) {kb : Nat} (hdb : bb kb = true) {v : Value} (hk : insI i0 = k := by rfl) (hkb : bsI i0 = kb := by rfl) :
    ∃ b g w', vs 0 = .map (some b) ∧ vs kb = mkS (g, (spI i0).l.length) ∧ (Instr.mapUpdate 205 (.map (some b)) (.string (bst (spI i0).key)) (mkS (g, (spI i0).l.length))).run Tryz.prog W = .ok () w' ∧
      NJ w gj (fun s => if s = k then true else bb s) (fun s => if s = k then v else vs s) w' := by
  subst hk hkb
  obtain ⟨b, e, hb, hm⟩ := h.map hd0
  obtain ⟨g, e2, hx⟩ := h.sl i0 hi0 hdb
  obtain ⟨hc1, hc2⟩ := cntB_put (bb := bb) i0 hi0 hs
  obtain ⟨w', hr, hm', hg⟩ := hm.put hc2 (spI i0) (fun y hy => by
    obtain ⟨i, hi, hbi, rfl⟩ := hy
    intro e
    obtain rfl := spI_key i hi i0 hi0 e
    rw [hs] at hbi
    cases hbi) (spI_len i0 hi0) g hx
  refine ⟨b, g, w', e, e2, hr, fun _ => ?_, fun i hi _ => ?_, fun i hi hb' => ?_, h.bl.grown hg h.bl.size (fun k e => by injection e with e; omega), ?_, ?_⟩
  · have k0 : ¬ 0 = insI i0 := fun e => (insI_0 i0 hi0).1 e.symm
    simp only [if_neg k0]
    refine ⟨b, e, hb, hm'.cast (fun x => ?_) hc1⟩
    constructor
    · rintro ⟨i, hi, hx, rfl⟩
      by_cases e : insI i = insI i0
      · obtain rfl := insI_inj i hi i0 hi0 e
        exact .inr rfl
      · simp only [if_neg e] at hx
        exact .inl ⟨i, hi, hx, rfl⟩
    · rintro (⟨i, hi, hx, rfl⟩ | rfl)
      · refine ⟨i, hi, ?_, rfl⟩
        by_cases e : insI i = insI i0
        · simp [e]
        · simp only [if_neg e]; exact hx
      · exact ⟨i0, hi0, by simp, rfl⟩
  · have k0 : ¬ 0 = insI i0 := fun e => (insI_0 i0 hi0).1 e.symm
    simp only [if_neg k0]
    exact hd0
  · simp only [if_neg (Ne.symm (insI_bsI i0 hi0 i hi))] at hb' ⊢
    obtain ⟨g', e', hx'⟩ := h.sl i hi hb'
    have hne := hm.ne hx'
    exact ⟨g', e', hx'.grown hg (fun e => hne (by injection e))⟩
  · have k0 : ¬ 0 = insI i0 := fun e => (insI_0 i0 hi0).1 e.symm
    simp only [if_neg (insI_m i0 hi0).1.1, if_neg k0]
    exact h.m1
  · simp only [if_neg (insI_m i0 hi0).1.1, if_neg (insI_m i0 hi0).2.1]
    exact h.m2
theorem NJ.mvs {k : Nat} {v : Value} (h : NJ w gj bb vs W) (hk : k = 73 ∨ k = 74) (hm1 : (if 73 = k then true else bb 73) = true → bb 0 = true ∧ (if 73 = k then v else vs 73) = vs 0) (hm2 : (if 74 = k then true else bb 74) = true → (if 73 = k then true else bb 73) = true ∧ (if 74 = k then v else vs 74) = (if 73 = k then v else vs 73)) :
    NJ w gj (fun s => if s = k then true else bb s) (fun s => if s = k then v else vs s) W := by
  have k0 : ¬ 0 = k := by omega
  have hk2 : ∀ i, i < 10 → insI i ≠ k ∧ bsI i ≠ k := fun i hi => by
    have := insI_m i hi
    rcases hk with rfl | rfl
    · exact ⟨Ne.symm this.1.1, Ne.symm this.1.2⟩
    · exact ⟨Ne.symm this.2.1, Ne.symm this.2.2⟩
  refine ⟨fun h0 => ?_, fun i hi hb => ?_, fun i hi hb => ?_, h.bl, by simp only [if_neg k0]; exact hm1, hm2⟩
  · simp only [if_neg k0] at h0 ⊢
    obtain ⟨b, e, hb, hm⟩ := h.map h0
    refine ⟨b, e, hb, hm.cast (fun x => ?_) (cntB_congr fun i hi => by simp only [if_neg (hk2 i hi).1])⟩
    constructor
    · rintro ⟨i, hi, hx, e⟩
      simp only [if_neg (hk2 i hi).1] at hx
      exact ⟨i, hi, hx, e⟩
    · rintro ⟨i, hi, hx, e⟩
      exact ⟨i, hi, by simp only [if_neg (hk2 i hi).1]; exact hx, e⟩
  · simp only [if_neg (hk2 i hi).1] at hb
    simp only [if_neg k0]
    exact h.no i hi hb
  · simp only [if_neg (hk2 i hi).2] at hb ⊢
    exact h.sl i hi hb
theorem NJ.mv73 {v : Value} (h : NJ w gj bb vs W) (h0 : bb 0 = true) (hv : v = vs 0) : NJ w gj (fun s => if s = 73 then true else bb s) (fun s => if s = 73 then v else vs s) W :=
  NJ.mvs h (.inl rfl) (fun _ => ⟨h0, by simp [hv]⟩) (fun h74 => by simp at h74 ⊢; have := h.m2 h74; rw [hv, this.2, (h.m1 this.1).2])
theorem NJ.mv74 {v : Value} (h : NJ w gj bb vs W) (h0 : bb 73 = true) (hv : v = vs 73) : NJ w gj (fun s => if s = 74 then true else bb s) (fun s => if s = 74 then v else vs s) W :=
  NJ.mvs h (.inr rfl) (fun h73 => by simp at h73 ⊢; exact h.m1 h73) (fun _ => by simp [hv, h0])
end
theorem okUnit {w w' : World} {m k v : Value} {t : TypeId} (h : (Instr.mapUpdate t m k v).run Tryz.prog w = .ok () w') : ((Instr.mapUpdate t m k v).run Tryz.prog w).andThen (fun _ w' => Result.ok Next.skip w') = .ok .skip w' := by
  rw [h]; rfl
set_option maxRecDepth 100000 in
set_option maxHeartbeats 6400000 in
theorem numbers_any (w : World) (gj : Nat) :
    Calls Tryz.prog 125 #[.pointer (some ⟨gj, 0, none⟩)] w fun e w' => ∃ b, e = .returned (.map (some b)) ∧ w.heap.size ≤ b ∧ NumMap w' b gj (fun x => ∃ i, i < 10 ∧ x = spI i) 10 ∧ Below w.heap.size w w' := by
  go_enter Tryz.func125, Tryz.ntmps125
  go_upto_region 1 with fail
  refine wp_region_mixSL (ds := [3, 4, 5, 6, 7, 8, 9, 10, 11, 12, 13, 14, 15, 16, 17, 18, 19, 20, 21, 22, 23, 24, 25, 26, 27, 28, 29, 30, 31, 32, 33, 34, 35, 36, 37, 38, 39, 40, 41, 42, 43, 44, 45, 46, 47, 48, 49, 50, 51, 52, 53, 54, 55, 56, 57, 58, 59, 60, 61, 62, 63, 64, 65, 66, 2]) 75 (fun bb vs W' => NJ w gj bb vs W') [some 3, some 4, some 5, some 6, some 7, some 8, none, some 9, some 10, some 11, some 12, some 13, none, some 14, some 15, some 16, some 17, some 18, some 19, some 20, some 21, some 22, none, some 23, some 24, some 25, some 26, some 27, some 28, some 29, some 30, some 31, none, some 32, some 33, some 34, some 35, some 36, none, some 37, some 38, some 39, some 40, some 41, none, some 42, some 43, some 44, some 45, some 46, some 47, none, some 48, some 49, some 50, some 51, some 52, some 53, none, some 54, some 55, some 56, some 57, some 58, some 59, none, some 60, some 61, some 62, some 63, some 64, some 65, none, some 66, some 2]
    [fun _ => True, fun v => v = .pointer (some ⟨gj, 0, none⟩), fun v => v = .pointer (some ⟨gj, 0, none⟩), fun v => v = .pointer (some ⟨gj, 2, none⟩), fun v => v = .agg #[.pointer (some ⟨gj, 2, none⟩), .int .u64 0, .int .u64 65536], fun _ => True, fun _ => True, fun v => v = .pointer (some ⟨gj, 0, none⟩), fun v => v = .pointer (some ⟨gj, 0, none⟩), fun v => v = .pointer (some ⟨gj, 3, none⟩), fun v => v = .agg #[.pointer (some ⟨gj, 3, none⟩), .int .u64 1, .int .u64 65536], fun _ => True, fun _ => True, fun v => v = .pointer (some ⟨gj, 0, none⟩), fun v => v = .pointer (some ⟨gj, 0, none⟩), fun v => v = .pointer (some ⟨gj, 5, none⟩), fun v => v = .agg #[.pointer (some ⟨gj, 5, none⟩), .int .u64 0, .int .u64 4294967295], fun v => v = .pointer (some ⟨gj, 0, none⟩), fun v => v = .pointer (some ⟨gj, 0, none⟩), fun v => v = .pointer (some ⟨gj, 6, none⟩), fun v => v = .agg #[.pointer (some ⟨gj, 6, none⟩), .int .u64 1, .int .u64 4294967295], fun _ => True, fun _ => True, fun v => v = .pointer (some ⟨gj, 0, none⟩), fun v => v = .pointer (some ⟨gj, 0, none⟩), fun v => v = .pointer (some ⟨gj, 7, none⟩), fun v => v = .agg #[.pointer (some ⟨gj, 7, none⟩), .int .u64 1, .int .u64 65536], fun v => v = .pointer (some ⟨gj, 0, none⟩), fun v => v = .pointer (some ⟨gj, 0, none⟩), fun v => v = .pointer (some ⟨gj, 8, none⟩), fun v => v = .agg #[.pointer (some ⟨gj, 8, none⟩), .int .u64 1, .int .u64 65536], fun _ => True, fun _ => True, fun v => v = .pointer (some ⟨gj, 0, none⟩), fun v => v = .pointer (some ⟨gj, 0, none⟩), fun v => v = .pointer (some ⟨gj, 9, none⟩), fun v => v = .agg #[.pointer (some ⟨gj, 9, none⟩), .int .u64 1, .int .u64 1024], fun _ => True, fun _ => True, fun v => v = .pointer (some ⟨gj, 0, none⟩), fun v => v = .pointer (some ⟨gj, 0, none⟩), fun v => v = .pointer (some ⟨gj, 10, none⟩), fun v => v = .agg #[.pointer (some ⟨gj, 10, none⟩), .int .u64 0, .int .u64 1024], fun _ => True, fun _ => True, fun v => v = .pointer (some ⟨gj, 0, none⟩), fun v => v = .pointer (some ⟨gj, 0, none⟩), fun v => v = .pointer (some ⟨gj, 11, none⟩), fun v => v = .pointer (some ⟨gj, 11, none⟩), fun v => v = .agg #[.pointer (some ⟨gj, 11, none⟩), .int .u64 1, .int .u64 65536], fun _ => True, fun _ => True, fun v => v = .pointer (some ⟨gj, 0, none⟩), fun v => v = .pointer (some ⟨gj, 0, none⟩), fun v => v = .pointer (some ⟨gj, 11, none⟩), fun v => v = .pointer (some ⟨gj, 12, none⟩), fun v => v = .agg #[.pointer (some ⟨gj, 12, none⟩), .int .u64 1, .int .u64 16777216], fun _ => True, fun _ => True, fun v => v = .pointer (some ⟨gj, 0, none⟩), fun v => v = .pointer (some ⟨gj, 0, none⟩), fun v => v = .pointer (some ⟨gj, 11, none⟩), fun v => v = .pointer (some ⟨gj, 13, none⟩), fun v => v = .agg #[.pointer (some ⟨gj, 13, none⟩), .int .u64 2, .int .u64 65536], fun _ => True, fun _ => True, fun v => v = .pointer (some ⟨gj, 0, none⟩), fun v => v = .pointer (some ⟨gj, 0, none⟩), fun v => v = .pointer (some ⟨gj, 11, none⟩), fun v => v = .pointer (some ⟨gj, 14, none⟩), fun v => v = .agg #[.pointer (some ⟨gj, 14, none⟩), .int .u64 1, .int .u64 4096], fun _ => True, fun _ => True, fun _ => True, fun _ => True]
    rfl rfl rfl (by kernel_rfl) (by kernel_rfl) ?_ (fun _ => NJ.start _ _ _) ?_
  · refine ⟨?_, ?_, ?_, ?_, ?_, ?_, ?_, ?_, ?_, ?_, ?_, ?_, ?_, ?_, ?_, ?_, ?_, ?_, ?_, ?_, ?_, ?_, ?_, ?_, ?_, ?_, ?_, ?_, ?_, ?_, ?_, ?_, ?_, ?_, ?_, ?_, ?_, ?_, ?_, ?_, ?_, ?_, ?_, ?_, ?_, ?_, ?_, ?_, ?_, ?_, ?_, ?_, ?_, ?_, ?_, ?_, ?_, ?_, ?_, ?_, ?_, ?_, ?_, ?_, ?_, ?_, ?_, ?_, ?_, ?_, ?_, ?_, ?_, ?_, ?_, trivial⟩
    · -- 0: slot 3 := Op.makeMap 205 none
      refine obS_yes fun f bb w' hj hs hd hp => ?_
      simp [PreO, factO, valOf, Region.binds] at hp hd
      refine ⟨by simp [Gd, valOf, hp], ?_⟩
      refine mildS_val (.map (some w'.heap.size)) (w' := w'.alloc (.map #[] 0)) ?_ trivial (NJ.map0 hj hs)
      have hr := run_makeMap (P := Tryz.prog) 205 w'
      simp [execOp, evalF, hp, hr]
    · -- 1: slot 4 := Op.move t0
      refine obS_yes fun f bb w' hj hs hd hp => ?_
      simp [PreO, factO, valOf, Region.binds] at hp hd
      refine ⟨by simp [Gd, valOf, hp], ?_⟩
      refine mildS_val (.pointer (some ⟨gj, 0, none⟩)) (w' := w') ?_ rfl (NJ.other hj (by decide))
      simp [execOp, evalF, hp, go_sem]
    · -- 2: slot 5 := Op.nilCheck t4
      refine obS_yes fun f bb w' hj hs hd hp => ?_
      simp [PreO, factO, valOf, Region.binds] at hp hd
      refine ⟨by simp [Gd, valOf, hp], ?_⟩
      refine mildS_val (.pointer (some ⟨gj, 0, none⟩)) (w' := w') ?_ rfl (NJ.other hj (by decide))
      simp [execOp, evalF, hp, go_sem]
    · -- 3: slot 6 := Op.fieldAddr 29 t5 2
      refine obS_yes fun f bb w' hj hs hd hp => ?_
      simp [PreO, factO, valOf, Region.binds] at hp hd
      refine ⟨by simp [Gd, valOf, hp], ?_⟩
      refine mildS_val (.pointer (some ⟨gj, 2, none⟩)) (w' := w') ?_ rfl (NJ.other hj (by decide))
      simp [execOp, evalF, hp, go_sem]
    · -- 4: slot 7 := Op.build 211 #[(0, t6), (1, const (0:u64)), (2, const (65536:u64))]
      refine obS_yes fun f bb w' hj hs hd hp => ?_
      simp [PreO, factO, valOf, Region.binds] at hp hd
      refine ⟨by simp [Gd, valOf, hp], ?_⟩
      refine mildS_val (.agg #[.pointer (some ⟨gj, 2, none⟩), .int .u64 0, .int .u64 65536]) (w' := w') ?_ rfl (NJ.other hj (by decide))
      simp [execOp, evalF, hp, go_sem]
    · -- 5: slot 8 := Op.buildSlice 208 1 #[(0, t7)]
      refine obS_yes fun f bb w' hj hs hd hp => ?_
      simp [PreO, factO, valOf, Region.binds] at hp hd
      refine ⟨by simp [Gd, valOf, hp], ?_⟩
      refine mildS_val (.slice (some ⟨w'.heap.size, 0, none⟩) 1 1) (w' := w'.alloc (.cells #[.pointer (some ⟨gj, 2, none⟩), .int .u64 0, .int .u64 65536] 211)) ?_ trivial (NJ.bs hj 0 (by decide) rfl (BoxAt.new_ _ _ _))
      have hr := run_bsNum1 w' (.pointer (some ⟨gj, 2, none⟩)) (.int .u64 0) (.int .u64 65536)
      simp [execOp, evalF, hp, hr]
    · -- 6: slot None := Op.insert 205 t3 (const (Value.string   data := #[108, 101, 110, 103, 116, 104]  )) t8
      refine obS_yes fun f bb w' hj hs hd hp => ?_
      simp [PreO, factO, valOf, Region.binds] at hp hd
      refine ⟨by simp [Gd, valOf, hp], ?_⟩
      have hd0 : bb 0 = true := by first | exact hd.1 | exact hd.2.1 | exact hd.2 | exact hd | simp_all
      have hdb : bb 5 = true := by first | exact hd.1 | exact hd.2.1 | exact hd.2 | exact hd | simp_all
      obtain ⟨b0, g0, w3, hv0, hv1, hr, hj3⟩ := NJ.ins hj 0 (by decide) hs hd0 hdb
      refine mildS_skip (w' := w3) ?_ trivial hj3
      have e0 : f 3 = .map (some b0) := hv0
      have e1 : f 8 = mkS (g0, 1) := hv1
      simp [execOp, evalF, e0, e1]
      exact okUnit hr
    · -- 7: slot 9 := Op.move t0
      refine obS_yes fun f bb w' hj hs hd hp => ?_
      simp [PreO, factO, valOf, Region.binds] at hp hd
      refine ⟨by simp [Gd, valOf, hp], ?_⟩
      refine mildS_val (.pointer (some ⟨gj, 0, none⟩)) (w' := w') ?_ rfl (NJ.other hj (by decide))
      simp [execOp, evalF, hp, go_sem]
    · -- 8: slot 10 := Op.nilCheck t9
      refine obS_yes fun f bb w' hj hs hd hp => ?_
      simp [PreO, factO, valOf, Region.binds] at hp hd
      refine ⟨by simp [Gd, valOf, hp], ?_⟩
      refine mildS_val (.pointer (some ⟨gj, 0, none⟩)) (w' := w') ?_ rfl (NJ.other hj (by decide))
      simp [execOp, evalF, hp, go_sem]
    · -- 9: slot 11 := Op.fieldAddr 29 t10 3
      refine obS_yes fun f bb w' hj hs hd hp => ?_
      simp [PreO, factO, valOf, Region.binds] at hp hd
      refine ⟨by simp [Gd, valOf, hp], ?_⟩
      refine mildS_val (.pointer (some ⟨gj, 3, none⟩)) (w' := w') ?_ rfl (NJ.other hj (by decide))
      simp [execOp, evalF, hp, go_sem]
    · -- 10: slot 12 := Op.build 211 #[(0, t11), (1, const (1:u64)), (2, const (65536:u64))]
      refine obS_yes fun f bb w' hj hs hd hp => ?_
      simp [PreO, factO, valOf, Region.binds] at hp hd
      refine ⟨by simp [Gd, valOf, hp], ?_⟩
      refine mildS_val (.agg #[.pointer (some ⟨gj, 3, none⟩), .int .u64 1, .int .u64 65536]) (w' := w') ?_ rfl (NJ.other hj (by decide))
      simp [execOp, evalF, hp, go_sem]
    · -- 11: slot 13 := Op.buildSlice 208 1 #[(0, t12)]
      refine obS_yes fun f bb w' hj hs hd hp => ?_
      simp [PreO, factO, valOf, Region.binds] at hp hd
      refine ⟨by simp [Gd, valOf, hp], ?_⟩
      refine mildS_val (.slice (some ⟨w'.heap.size, 0, none⟩) 1 1) (w' := w'.alloc (.cells #[.pointer (some ⟨gj, 3, none⟩), .int .u64 1, .int .u64 65536] 211)) ?_ trivial (NJ.bs hj 1 (by decide) rfl (BoxAt.new_ _ _ _))
      have hr := run_bsNum1 w' (.pointer (some ⟨gj, 3, none⟩)) (.int .u64 1) (.int .u64 65536)
      simp [execOp, evalF, hp, hr]
    · -- 12: slot None := Op.insert 205 t3 (const (Value.string   data := #[119, 97, 108, 107, 115]  )) t13
      refine obS_yes fun f bb w' hj hs hd hp => ?_
      simp [PreO, factO, valOf, Region.binds] at hp hd
      refine ⟨by simp [Gd, valOf, hp], ?_⟩
      have hd0 : bb 0 = true := by first | exact hd.1 | exact hd.2.1 | exact hd.2 | exact hd | simp_all
      have hdb : bb 11 = true := by first | exact hd.1 | exact hd.2.1 | exact hd.2 | exact hd | simp_all
      obtain ⟨b0, g0, w3, hv0, hv1, hr, hj3⟩ := NJ.ins hj 1 (by decide) hs hd0 hdb
      refine mildS_skip (w' := w3) ?_ trivial hj3
      have e0 : f 3 = .map (some b0) := hv0
      have e1 : f 13 = mkS (g0, 1) := hv1
      simp [execOp, evalF, e0, e1]
      exact okUnit hr
    · -- 13: slot 14 := Op.move t0
      refine obS_yes fun f bb w' hj hs hd hp => ?_
      simp [PreO, factO, valOf, Region.binds] at hp hd
      refine ⟨by simp [Gd, valOf, hp], ?_⟩
      refine mildS_val (.pointer (some ⟨gj, 0, none⟩)) (w' := w') ?_ rfl (NJ.other hj (by decide))
      simp [execOp, evalF, hp, go_sem]
    · -- 14: slot 15 := Op.nilCheck t14
      refine obS_yes fun f bb w' hj hs hd hp => ?_
      simp [PreO, factO, valOf, Region.binds] at hp hd
      refine ⟨by simp [Gd, valOf, hp], ?_⟩
      refine mildS_val (.pointer (some ⟨gj, 0, none⟩)) (w' := w') ?_ rfl (NJ.other hj (by decide))
      simp [execOp, evalF, hp, go_sem]
    · -- 15: slot 16 := Op.fieldAddr 29 t15 5
      refine obS_yes fun f bb w' hj hs hd hp => ?_
      simp [PreO, factO, valOf, Region.binds] at hp hd
      refine ⟨by simp [Gd, valOf, hp], ?_⟩
      refine mildS_val (.pointer (some ⟨gj, 5, none⟩)) (w' := w') ?_ rfl (NJ.other hj (by decide))
      simp [execOp, evalF, hp, go_sem]
    · -- 16: slot 17 := Op.build 211 #[(0, t16), (1, const (0:u64)), (2, const (4294967295:u64))]
      refine obS_yes fun f bb w' hj hs hd hp => ?_
      simp [PreO, factO, valOf, Region.binds] at hp hd
      refine ⟨by simp [Gd, valOf, hp], ?_⟩
      refine mildS_val (.agg #[.pointer (some ⟨gj, 5, none⟩), .int .u64 0, .int .u64 4294967295]) (w' := w') ?_ rfl (NJ.other hj (by decide))
      simp [execOp, evalF, hp, go_sem]
    · -- 17: slot 18 := Op.move t0
      refine obS_yes fun f bb w' hj hs hd hp => ?_
      simp [PreO, factO, valOf, Region.binds] at hp hd
      refine ⟨by simp [Gd, valOf, hp], ?_⟩
      refine mildS_val (.pointer (some ⟨gj, 0, none⟩)) (w' := w') ?_ rfl (NJ.other hj (by decide))
      simp [execOp, evalF, hp, go_sem]
    · -- 18: slot 19 := Op.nilCheck t18
      refine obS_yes fun f bb w' hj hs hd hp => ?_
      simp [PreO, factO, valOf, Region.binds] at hp hd
      refine ⟨by simp [Gd, valOf, hp], ?_⟩
      refine mildS_val (.pointer (some ⟨gj, 0, none⟩)) (w' := w') ?_ rfl (NJ.other hj (by decide))
      simp [execOp, evalF, hp, go_sem]
    · -- 19: slot 20 := Op.fieldAddr 29 t19 6
      refine obS_yes fun f bb w' hj hs hd hp => ?_
      simp [PreO, factO, valOf, Region.binds] at hp hd
      refine ⟨by simp [Gd, valOf, hp], ?_⟩
      refine mildS_val (.pointer (some ⟨gj, 6, none⟩)) (w' := w') ?_ rfl (NJ.other hj (by decide))
      simp [execOp, evalF, hp, go_sem]
    · -- 20: slot 21 := Op.build 211 #[(0, t20), (1, const (1:u64)), (2, const (4294967295:u64))]
      refine obS_yes fun f bb w' hj hs hd hp => ?_
      simp [PreO, factO, valOf, Region.binds] at hp hd
      refine ⟨by simp [Gd, valOf, hp], ?_⟩
      refine mildS_val (.agg #[.pointer (some ⟨gj, 6, none⟩), .int .u64 1, .int .u64 4294967295]) (w' := w') ?_ rfl (NJ.other hj (by decide))
      simp [execOp, evalF, hp, go_sem]
    · -- 21: slot 22 := Op.buildSlice 208 2 #[(0, t17), (1, t21)]
      refine obS_yes fun f bb w' hj hs hd hp => ?_
      simp [PreO, factO, valOf, Region.binds] at hp hd
      refine ⟨by simp [Gd, valOf, hp], ?_⟩
      refine mildS_val (.slice (some ⟨w'.heap.size, 0, none⟩) 2 2) (w' := w'.alloc (.cells #[.pointer (some ⟨gj, 5, none⟩), .int .u64 0, .int .u64 4294967295, .pointer (some ⟨gj, 6, none⟩), .int .u64 1, .int .u64 4294967295] 211)) ?_ trivial (NJ.bs hj 2 (by decide) rfl (BoxAt.new_ _ _ _))
      have hr := run_bsNum2 w' (.pointer (some ⟨gj, 5, none⟩)) (.int .u64 0) (.int .u64 4294967295) (.pointer (some ⟨gj, 6, none⟩)) (.int .u64 1) (.int .u64 4294967295)
      simp [execOp, evalF, hp, hr]
    · -- 22: slot None := Op.insert 205 t3 (const (Value.string   data := #[114, 101, 115, 116, 97, 114, 116]  )) t22
      refine obS_yes fun f bb w' hj hs hd hp => ?_
      simp [PreO, factO, valOf, Region.binds] at hp hd
      refine ⟨by simp [Gd, valOf, hp], ?_⟩
      have hd0 : bb 0 = true := by first | exact hd.1 | exact hd.2.1 | exact hd.2 | exact hd | simp_all
      have hdb : bb 21 = true := by first | exact hd.1 | exact hd.2.1 | exact hd.2 | exact hd | simp_all
      obtain ⟨b0, g0, w3, hv0, hv1, hr, hj3⟩ := NJ.ins hj 2 (by decide) hs hd0 hdb
      refine mildS_skip (w' := w3) ?_ trivial hj3
      have e0 : f 3 = .map (some b0) := hv0
      have e1 : f 22 = mkS (g0, 2) := hv1
      simp [execOp, evalF, e0, e1]
      exact okUnit hr
    · -- 23: slot 23 := Op.move t0
      refine obS_yes fun f bb w' hj hs hd hp => ?_
      simp [PreO, factO, valOf, Region.binds] at hp hd
      refine ⟨by simp [Gd, valOf, hp], ?_⟩
      refine mildS_val (.pointer (some ⟨gj, 0, none⟩)) (w' := w') ?_ rfl (NJ.other hj (by decide))
      simp [execOp, evalF, hp, go_sem]
    · -- 24: slot 24 := Op.nilCheck t23
      refine obS_yes fun f bb w' hj hs hd hp => ?_
      simp [PreO, factO, valOf, Region.binds] at hp hd
      refine ⟨by simp [Gd, valOf, hp], ?_⟩
      refine mildS_val (.pointer (some ⟨gj, 0, none⟩)) (w' := w') ?_ rfl (NJ.other hj (by decide))
      simp [execOp, evalF, hp, go_sem]
    · -- 25: slot 25 := Op.fieldAddr 29 t24 7
      refine obS_yes fun f bb w' hj hs hd hp => ?_
      simp [PreO, factO, valOf, Region.binds] at hp hd
      refine ⟨by simp [Gd, valOf, hp], ?_⟩
      refine mildS_val (.pointer (some ⟨gj, 7, none⟩)) (w' := w') ?_ rfl (NJ.other hj (by decide))
      simp [execOp, evalF, hp, go_sem]
    · -- 26: slot 26 := Op.build 211 #[(0, t25), (1, const (1:u64)), (2, const (65536:u64))]
      refine obS_yes fun f bb w' hj hs hd hp => ?_
      simp [PreO, factO, valOf, Region.binds] at hp hd
      refine ⟨by simp [Gd, valOf, hp], ?_⟩
      refine mildS_val (.agg #[.pointer (some ⟨gj, 7, none⟩), .int .u64 1, .int .u64 65536]) (w' := w') ?_ rfl (NJ.other hj (by decide))
      simp [execOp, evalF, hp, go_sem]
    · -- 27: slot 27 := Op.move t0
      refine obS_yes fun f bb w' hj hs hd hp => ?_
      simp [PreO, factO, valOf, Region.binds] at hp hd
      refine ⟨by simp [Gd, valOf, hp], ?_⟩
      refine mildS_val (.pointer (some ⟨gj, 0, none⟩)) (w' := w') ?_ rfl (NJ.other hj (by decide))
      simp [execOp, evalF, hp, go_sem]
    · -- 28: slot 28 := Op.nilCheck t27
      refine obS_yes fun f bb w' hj hs hd hp => ?_
      simp [PreO, factO, valOf, Region.binds] at hp hd
      refine ⟨by simp [Gd, valOf, hp], ?_⟩
      refine mildS_val (.pointer (some ⟨gj, 0, none⟩)) (w' := w') ?_ rfl (NJ.other hj (by decide))
      simp [execOp, evalF, hp, go_sem]
    · -- 29: slot 29 := Op.fieldAddr 29 t28 8
      refine obS_yes fun f bb w' hj hs hd hp => ?_
      simp [PreO, factO, valOf, Region.binds] at hp hd
      refine ⟨by simp [Gd, valOf, hp], ?_⟩
      refine mildS_val (.pointer (some ⟨gj, 8, none⟩)) (w' := w') ?_ rfl (NJ.other hj (by decide))
      simp [execOp, evalF, hp, go_sem]
    · -- 30: slot 30 := Op.build 211 #[(0, t29), (1, const (1:u64)), (2, const (65536:u64))]
      refine obS_yes fun f bb w' hj hs hd hp => ?_
      simp [PreO, factO, valOf, Region.binds] at hp hd
      refine ⟨by simp [Gd, valOf, hp], ?_⟩
      refine mildS_val (.agg #[.pointer (some ⟨gj, 8, none⟩), .int .u64 1, .int .u64 65536]) (w' := w') ?_ rfl (NJ.other hj (by decide))
      simp [execOp, evalF, hp, go_sem]
    · -- 31: slot 31 := Op.buildSlice 208 2 #[(0, t26), (1, t30)]
      refine obS_yes fun f bb w' hj hs hd hp => ?_
      simp [PreO, factO, valOf, Region.binds] at hp hd
      refine ⟨by simp [Gd, valOf, hp], ?_⟩
      refine mildS_val (.slice (some ⟨w'.heap.size, 0, none⟩) 2 2) (w' := w'.alloc (.cells #[.pointer (some ⟨gj, 7, none⟩), .int .u64 1, .int .u64 65536, .pointer (some ⟨gj, 8, none⟩), .int .u64 1, .int .u64 65536] 211)) ?_ trivial (NJ.bs hj 3 (by decide) rfl (BoxAt.new_ _ _ _))
      have hr := run_bsNum2 w' (.pointer (some ⟨gj, 7, none⟩)) (.int .u64 1) (.int .u64 65536) (.pointer (some ⟨gj, 8, none⟩)) (.int .u64 1) (.int .u64 65536)
      simp [execOp, evalF, hp, hr]
    · -- 32: slot None := Op.insert 205 t3 (const (Value.string   data := #[98, 105, 97, 115]  )) t31
      refine obS_yes fun f bb w' hj hs hd hp => ?_
      simp [PreO, factO, valOf, Region.binds] at hp hd
      refine ⟨by simp [Gd, valOf, hp], ?_⟩
      have hd0 : bb 0 = true := by first | exact hd.1 | exact hd.2.1 | exact hd.2 | exact hd | simp_all
      have hdb : bb 31 = true := by first | exact hd.1 | exact hd.2.1 | exact hd.2 | exact hd | simp_all
      obtain ⟨b0, g0, w3, hv0, hv1, hr, hj3⟩ := NJ.ins hj 3 (by decide) hs hd0 hdb
      refine mildS_skip (w' := w3) ?_ trivial hj3
      have e0 : f 3 = .map (some b0) := hv0
      have e1 : f 31 = mkS (g0, 2) := hv1
      simp [execOp, evalF, e0, e1]
      exact okUnit hr
    · -- 33: slot 32 := Op.move t0
      refine obS_yes fun f bb w' hj hs hd hp => ?_
      simp [PreO, factO, valOf, Region.binds] at hp hd
      refine ⟨by simp [Gd, valOf, hp], ?_⟩
      refine mildS_val (.pointer (some ⟨gj, 0, none⟩)) (w' := w') ?_ rfl (NJ.other hj (by decide))
      simp [execOp, evalF, hp, go_sem]
    · -- 34: slot 33 := Op.nilCheck t32
      refine obS_yes fun f bb w' hj hs hd hp => ?_
      simp [PreO, factO, valOf, Region.binds] at hp hd
      refine ⟨by simp [Gd, valOf, hp], ?_⟩
      refine mildS_val (.pointer (some ⟨gj, 0, none⟩)) (w' := w') ?_ rfl (NJ.other hj (by decide))
      simp [execOp, evalF, hp, go_sem]
    · -- 35: slot 34 := Op.fieldAddr 29 t33 9
      refine obS_yes fun f bb w' hj hs hd hp => ?_
      simp [PreO, factO, valOf, Region.binds] at hp hd
      refine ⟨by simp [Gd, valOf, hp], ?_⟩
      refine mildS_val (.pointer (some ⟨gj, 9, none⟩)) (w' := w') ?_ rfl (NJ.other hj (by decide))
      simp [execOp, evalF, hp, go_sem]
    · -- 36: slot 35 := Op.build 211 #[(0, t34), (1, const (1:u64)), (2, const (1024:u64))]
      refine obS_yes fun f bb w' hj hs hd hp => ?_
      simp [PreO, factO, valOf, Region.binds] at hp hd
      refine ⟨by simp [Gd, valOf, hp], ?_⟩
      refine mildS_val (.agg #[.pointer (some ⟨gj, 9, none⟩), .int .u64 1, .int .u64 1024]) (w' := w') ?_ rfl (NJ.other hj (by decide))
      simp [execOp, evalF, hp, go_sem]
    · -- 37: slot 36 := Op.buildSlice 208 1 #[(0, t35)]
      refine obS_yes fun f bb w' hj hs hd hp => ?_
      simp [PreO, factO, valOf, Region.binds] at hp hd
      refine ⟨by simp [Gd, valOf, hp], ?_⟩
      refine mildS_val (.slice (some ⟨w'.heap.size, 0, none⟩) 1 1) (w' := w'.alloc (.cells #[.pointer (some ⟨gj, 9, none⟩), .int .u64 1, .int .u64 1024] 211)) ?_ trivial (NJ.bs hj 4 (by decide) rfl (BoxAt.new_ _ _ _))
      have hr := run_bsNum1 w' (.pointer (some ⟨gj, 9, none⟩)) (.int .u64 1) (.int .u64 1024)
      simp [execOp, evalF, hp, hr]
    · -- 38: slot None := Op.insert 205 t3 (const (Value.string   data := #[116, 114, 105, 101, 115]  )) t36
      refine obS_yes fun f bb w' hj hs hd hp => ?_
      simp [PreO, factO, valOf, Region.binds] at hp hd
      refine ⟨by simp [Gd, valOf, hp], ?_⟩
      have hd0 : bb 0 = true := by first | exact hd.1 | exact hd.2.1 | exact hd.2 | exact hd | simp_all
      have hdb : bb 37 = true := by first | exact hd.1 | exact hd.2.1 | exact hd.2 | exact hd | simp_all
      obtain ⟨b0, g0, w3, hv0, hv1, hr, hj3⟩ := NJ.ins hj 4 (by decide) hs hd0 hdb
      refine mildS_skip (w' := w3) ?_ trivial hj3
      have e0 : f 3 = .map (some b0) := hv0
      have e1 : f 36 = mkS (g0, 1) := hv1
      simp [execOp, evalF, e0, e1]
      exact okUnit hr
    · -- 39: slot 37 := Op.move t0
      refine obS_yes fun f bb w' hj hs hd hp => ?_
      simp [PreO, factO, valOf, Region.binds] at hp hd
      refine ⟨by simp [Gd, valOf, hp], ?_⟩
      refine mildS_val (.pointer (some ⟨gj, 0, none⟩)) (w' := w') ?_ rfl (NJ.other hj (by decide))
      simp [execOp, evalF, hp, go_sem]
    · -- 40: slot 38 := Op.nilCheck t37
      refine obS_yes fun f bb w' hj hs hd hp => ?_
      simp [PreO, factO, valOf, Region.binds] at hp hd
      refine ⟨by simp [Gd, valOf, hp], ?_⟩
      refine mildS_val (.pointer (some ⟨gj, 0, none⟩)) (w' := w') ?_ rfl (NJ.other hj (by decide))
      simp [execOp, evalF, hp, go_sem]
    · -- 41: slot 39 := Op.fieldAddr 29 t38 10
      refine obS_yes fun f bb w' hj hs hd hp => ?_
      simp [PreO, factO, valOf, Region.binds] at hp hd
      refine ⟨by simp [Gd, valOf, hp], ?_⟩
      refine mildS_val (.pointer (some ⟨gj, 10, none⟩)) (w' := w') ?_ rfl (NJ.other hj (by decide))
      simp [execOp, evalF, hp, go_sem]
    · -- 42: slot 40 := Op.build 211 #[(0, t39), (1, const (0:u64)), (2, const (1024:u64))]
      refine obS_yes fun f bb w' hj hs hd hp => ?_
      simp [PreO, factO, valOf, Region.binds] at hp hd
      refine ⟨by simp [Gd, valOf, hp], ?_⟩
      refine mildS_val (.agg #[.pointer (some ⟨gj, 10, none⟩), .int .u64 0, .int .u64 1024]) (w' := w') ?_ rfl (NJ.other hj (by decide))
      simp [execOp, evalF, hp, go_sem]
    · -- 43: slot 41 := Op.buildSlice 208 1 #[(0, t40)]
      refine obS_yes fun f bb w' hj hs hd hp => ?_
      simp [PreO, factO, valOf, Region.binds] at hp hd
      refine ⟨by simp [Gd, valOf, hp], ?_⟩
      refine mildS_val (.slice (some ⟨w'.heap.size, 0, none⟩) 1 1) (w' := w'.alloc (.cells #[.pointer (some ⟨gj, 10, none⟩), .int .u64 0, .int .u64 1024] 211)) ?_ trivial (NJ.bs hj 5 (by decide) rfl (BoxAt.new_ _ _ _))
      have hr := run_bsNum1 w' (.pointer (some ⟨gj, 10, none⟩)) (.int .u64 0) (.int .u64 1024)
      simp [execOp, evalF, hp, hr]
    · -- 44: slot None := Op.insert 205 t3 (const (Value.string   data := #[98, 101, 115, 116]  )) t41
      refine obS_yes fun f bb w' hj hs hd hp => ?_
      simp [PreO, factO, valOf, Region.binds] at hp hd
      refine ⟨by simp [Gd, valOf, hp], ?_⟩
      have hd0 : bb 0 = true := by first | exact hd.1 | exact hd.2.1 | exact hd.2 | exact hd | simp_all
      have hdb : bb 43 = true := by first | exact hd.1 | exact hd.2.1 | exact hd.2 | exact hd | simp_all
      obtain ⟨b0, g0, w3, hv0, hv1, hr, hj3⟩ := NJ.ins hj 5 (by decide) hs hd0 hdb
      refine mildS_skip (w' := w3) ?_ trivial hj3
      have e0 : f 3 = .map (some b0) := hv0
      have e1 : f 41 = mkS (g0, 1) := hv1
      simp [execOp, evalF, e0, e1]
      exact okUnit hr
    · -- 45: slot 42 := Op.move t0
      refine obS_yes fun f bb w' hj hs hd hp => ?_
      simp [PreO, factO, valOf, Region.binds] at hp hd
      refine ⟨by simp [Gd, valOf, hp], ?_⟩
      refine mildS_val (.pointer (some ⟨gj, 0, none⟩)) (w' := w') ?_ rfl (NJ.other hj (by decide))
      simp [execOp, evalF, hp, go_sem]
    · -- 46: slot 43 := Op.nilCheck t42
      refine obS_yes fun f bb w' hj hs hd hp => ?_
      simp [PreO, factO, valOf, Region.binds] at hp hd
      refine ⟨by simp [Gd, valOf, hp], ?_⟩
      refine mildS_val (.pointer (some ⟨gj, 0, none⟩)) (w' := w') ?_ rfl (NJ.other hj (by decide))
      simp [execOp, evalF, hp, go_sem]
    · -- 47: slot 44 := Op.fieldAddr 29 t43 11
      refine obS_yes fun f bb w' hj hs hd hp => ?_
      simp [PreO, factO, valOf, Region.binds] at hp hd
      refine ⟨by simp [Gd, valOf, hp], ?_⟩
      refine mildS_val (.pointer (some ⟨gj, 11, none⟩)) (w' := w') ?_ rfl (NJ.other hj (by decide))
      simp [execOp, evalF, hp, go_sem]
    · -- 48: slot 45 := Op.fieldAddr 27 t44 0
      refine obS_yes fun f bb w' hj hs hd hp => ?_
      simp [PreO, factO, valOf, Region.binds] at hp hd
      refine ⟨by simp [Gd, valOf, hp], ?_⟩
      refine mildS_val (.pointer (some ⟨gj, 11, none⟩)) (w' := w') ?_ rfl (NJ.other hj (by decide))
      simp [execOp, evalF, hp, go_sem]
    · -- 49: slot 46 := Op.build 211 #[(0, t45), (1, const (1:u64)), (2, const (65536:u64))]
      refine obS_yes fun f bb w' hj hs hd hp => ?_
      simp [PreO, factO, valOf, Region.binds] at hp hd
      refine ⟨by simp [Gd, valOf, hp], ?_⟩
      refine mildS_val (.agg #[.pointer (some ⟨gj, 11, none⟩), .int .u64 1, .int .u64 65536]) (w' := w') ?_ rfl (NJ.other hj (by decide))
      simp [execOp, evalF, hp, go_sem]
    · -- 50: slot 47 := Op.buildSlice 208 1 #[(0, t46)]
      refine obS_yes fun f bb w' hj hs hd hp => ?_
      simp [PreO, factO, valOf, Region.binds] at hp hd
      refine ⟨by simp [Gd, valOf, hp], ?_⟩
      refine mildS_val (.slice (some ⟨w'.heap.size, 0, none⟩) 1 1) (w' := w'.alloc (.cells #[.pointer (some ⟨gj, 11, none⟩), .int .u64 1, .int .u64 65536] 211)) ?_ trivial (NJ.bs hj 6 (by decide) rfl (BoxAt.new_ _ _ _))
      have hr := run_bsNum1 w' (.pointer (some ⟨gj, 11, none⟩)) (.int .u64 1) (.int .u64 65536)
      simp [execOp, evalF, hp, hr]
    · -- 51: slot None := Op.insert 205 t3 (const (Value.string   data := #[115, 104, 97, 114, 100]  )) t47
      refine obS_yes fun f bb w' hj hs hd hp => ?_
      simp [PreO, factO, valOf, Region.binds] at hp hd
      refine ⟨by simp [Gd, valOf, hp], ?_⟩
      have hd0 : bb 0 = true := by first | exact hd.1 | exact hd.2.1 | exact hd.2 | exact hd | simp_all
      have hdb : bb 50 = true := by first | exact hd.1 | exact hd.2.1 | exact hd.2 | exact hd | simp_all
      obtain ⟨b0, g0, w3, hv0, hv1, hr, hj3⟩ := NJ.ins hj 6 (by decide) hs hd0 hdb
      refine mildS_skip (w' := w3) ?_ trivial hj3
      have e0 : f 3 = .map (some b0) := hv0
      have e1 : f 47 = mkS (g0, 1) := hv1
      simp [execOp, evalF, e0, e1]
      exact okUnit hr
    · -- 52: slot 48 := Op.move t0
      refine obS_yes fun f bb w' hj hs hd hp => ?_
      simp [PreO, factO, valOf, Region.binds] at hp hd
      refine ⟨by simp [Gd, valOf, hp], ?_⟩
      refine mildS_val (.pointer (some ⟨gj, 0, none⟩)) (w' := w') ?_ rfl (NJ.other hj (by decide))
      simp [execOp, evalF, hp, go_sem]
    · -- 53: slot 49 := Op.nilCheck t48
      refine obS_yes fun f bb w' hj hs hd hp => ?_
      simp [PreO, factO, valOf, Region.binds] at hp hd
      refine ⟨by simp [Gd, valOf, hp], ?_⟩
      refine mildS_val (.pointer (some ⟨gj, 0, none⟩)) (w' := w') ?_ rfl (NJ.other hj (by decide))
      simp [execOp, evalF, hp, go_sem]
    · -- 54: slot 50 := Op.fieldAddr 29 t49 11
      refine obS_yes fun f bb w' hj hs hd hp => ?_
      simp [PreO, factO, valOf, Region.binds] at hp hd
      refine ⟨by simp [Gd, valOf, hp], ?_⟩
      refine mildS_val (.pointer (some ⟨gj, 11, none⟩)) (w' := w') ?_ rfl (NJ.other hj (by decide))
      simp [execOp, evalF, hp, go_sem]
    · -- 55: slot 51 := Op.fieldAddr 27 t50 1
      refine obS_yes fun f bb w' hj hs hd hp => ?_
      simp [PreO, factO, valOf, Region.binds] at hp hd
      refine ⟨by simp [Gd, valOf, hp], ?_⟩
      refine mildS_val (.pointer (some ⟨gj, 12, none⟩)) (w' := w') ?_ rfl (NJ.other hj (by decide))
      simp [execOp, evalF, hp, go_sem]
    · -- 56: slot 52 := Op.build 211 #[(0, t51), (1, const (1:u64)), (2, const (16777216:u64))]
      refine obS_yes fun f bb w' hj hs hd hp => ?_
      simp [PreO, factO, valOf, Region.binds] at hp hd
      refine ⟨by simp [Gd, valOf, hp], ?_⟩
      refine mildS_val (.agg #[.pointer (some ⟨gj, 12, none⟩), .int .u64 1, .int .u64 16777216]) (w' := w') ?_ rfl (NJ.other hj (by decide))
      simp [execOp, evalF, hp, go_sem]
    · -- 57: slot 53 := Op.buildSlice 208 1 #[(0, t52)]
      refine obS_yes fun f bb w' hj hs hd hp => ?_
      simp [PreO, factO, valOf, Region.binds] at hp hd
      refine ⟨by simp [Gd, valOf, hp], ?_⟩
      refine mildS_val (.slice (some ⟨w'.heap.size, 0, none⟩) 1 1) (w' := w'.alloc (.cells #[.pointer (some ⟨gj, 12, none⟩), .int .u64 1, .int .u64 16777216] 211)) ?_ trivial (NJ.bs hj 7 (by decide) rfl (BoxAt.new_ _ _ _))
      have hr := run_bsNum1 w' (.pointer (some ⟨gj, 12, none⟩)) (.int .u64 1) (.int .u64 16777216)
      simp [execOp, evalF, hp, hr]
    · -- 58: slot None := Op.insert 205 t3 (const (Value.string   data := #[114, 111, 111, 109]  )) t53
      refine obS_yes fun f bb w' hj hs hd hp => ?_
      simp [PreO, factO, valOf, Region.binds] at hp hd
      refine ⟨by simp [Gd, valOf, hp], ?_⟩
      have hd0 : bb 0 = true := by first | exact hd.1 | exact hd.2.1 | exact hd.2 | exact hd | simp_all
      have hdb : bb 57 = true := by first | exact hd.1 | exact hd.2.1 | exact hd.2 | exact hd | simp_all
      obtain ⟨b0, g0, w3, hv0, hv1, hr, hj3⟩ := NJ.ins hj 7 (by decide) hs hd0 hdb
      refine mildS_skip (w' := w3) ?_ trivial hj3
      have e0 : f 3 = .map (some b0) := hv0
      have e1 : f 53 = mkS (g0, 1) := hv1
      simp [execOp, evalF, e0, e1]
      exact okUnit hr
    · -- 59: slot 54 := Op.move t0
      refine obS_yes fun f bb w' hj hs hd hp => ?_
      simp [PreO, factO, valOf, Region.binds] at hp hd
      refine ⟨by simp [Gd, valOf, hp], ?_⟩
      refine mildS_val (.pointer (some ⟨gj, 0, none⟩)) (w' := w') ?_ rfl (NJ.other hj (by decide))
      simp [execOp, evalF, hp, go_sem]
    · -- 60: slot 55 := Op.nilCheck t54
      refine obS_yes fun f bb w' hj hs hd hp => ?_
      simp [PreO, factO, valOf, Region.binds] at hp hd
      refine ⟨by simp [Gd, valOf, hp], ?_⟩
      refine mildS_val (.pointer (some ⟨gj, 0, none⟩)) (w' := w') ?_ rfl (NJ.other hj (by decide))
      simp [execOp, evalF, hp, go_sem]
    · -- 61: slot 56 := Op.fieldAddr 29 t55 11
      refine obS_yes fun f bb w' hj hs hd hp => ?_
      simp [PreO, factO, valOf, Region.binds] at hp hd
      refine ⟨by simp [Gd, valOf, hp], ?_⟩
      refine mildS_val (.pointer (some ⟨gj, 11, none⟩)) (w' := w') ?_ rfl (NJ.other hj (by decide))
      simp [execOp, evalF, hp, go_sem]
    · -- 62: slot 57 := Op.fieldAddr 27 t56 2
      refine obS_yes fun f bb w' hj hs hd hp => ?_
      simp [PreO, factO, valOf, Region.binds] at hp hd
      refine ⟨by simp [Gd, valOf, hp], ?_⟩
      refine mildS_val (.pointer (some ⟨gj, 13, none⟩)) (w' := w') ?_ rfl (NJ.other hj (by decide))
      simp [execOp, evalF, hp, go_sem]
    · -- 63: slot 58 := Op.build 211 #[(0, t57), (1, const (2:u64)), (2, const (65536:u64))]
      refine obS_yes fun f bb w' hj hs hd hp => ?_
      simp [PreO, factO, valOf, Region.binds] at hp hd
      refine ⟨by simp [Gd, valOf, hp], ?_⟩
      refine mildS_val (.agg #[.pointer (some ⟨gj, 13, none⟩), .int .u64 2, .int .u64 65536]) (w' := w') ?_ rfl (NJ.other hj (by decide))
      simp [execOp, evalF, hp, go_sem]
    · -- 64: slot 59 := Op.buildSlice 208 1 #[(0, t58)]
      refine obS_yes fun f bb w' hj hs hd hp => ?_
      simp [PreO, factO, valOf, Region.binds] at hp hd
      refine ⟨by simp [Gd, valOf, hp], ?_⟩
      refine mildS_val (.slice (some ⟨w'.heap.size, 0, none⟩) 1 1) (w' := w'.alloc (.cells #[.pointer (some ⟨gj, 13, none⟩), .int .u64 2, .int .u64 65536] 211)) ?_ trivial (NJ.bs hj 8 (by decide) rfl (BoxAt.new_ _ _ _))
      have hr := run_bsNum1 w' (.pointer (some ⟨gj, 13, none⟩)) (.int .u64 2) (.int .u64 65536)
      simp [execOp, evalF, hp, hr]
    · -- 65: slot None := Op.insert 205 t3 (const (Value.string   data := #[112, 111, 111, 108]  )) t59
      refine obS_yes fun f bb w' hj hs hd hp => ?_
      simp [PreO, factO, valOf, Region.binds] at hp hd
      refine ⟨by simp [Gd, valOf, hp], ?_⟩
      have hd0 : bb 0 = true := by first | exact hd.1 | exact hd.2.1 | exact hd.2 | exact hd | simp_all
      have hdb : bb 64 = true := by first | exact hd.1 | exact hd.2.1 | exact hd.2 | exact hd | simp_all
      obtain ⟨b0, g0, w3, hv0, hv1, hr, hj3⟩ := NJ.ins hj 8 (by decide) hs hd0 hdb
      refine mildS_skip (w' := w3) ?_ trivial hj3
      have e0 : f 3 = .map (some b0) := hv0
      have e1 : f 59 = mkS (g0, 1) := hv1
      simp [execOp, evalF, e0, e1]
      exact okUnit hr
    · -- 66: slot 60 := Op.move t0
      refine obS_yes fun f bb w' hj hs hd hp => ?_
      simp [PreO, factO, valOf, Region.binds] at hp hd
      refine ⟨by simp [Gd, valOf, hp], ?_⟩
      refine mildS_val (.pointer (some ⟨gj, 0, none⟩)) (w' := w') ?_ rfl (NJ.other hj (by decide))
      simp [execOp, evalF, hp, go_sem]
    · -- 67: slot 61 := Op.nilCheck t60
      refine obS_yes fun f bb w' hj hs hd hp => ?_
      simp [PreO, factO, valOf, Region.binds] at hp hd
      refine ⟨by simp [Gd, valOf, hp], ?_⟩
      refine mildS_val (.pointer (some ⟨gj, 0, none⟩)) (w' := w') ?_ rfl (NJ.other hj (by decide))
      simp [execOp, evalF, hp, go_sem]
    · -- 68: slot 62 := Op.fieldAddr 29 t61 11
      refine obS_yes fun f bb w' hj hs hd hp => ?_
      simp [PreO, factO, valOf, Region.binds] at hp hd
      refine ⟨by simp [Gd, valOf, hp], ?_⟩
      refine mildS_val (.pointer (some ⟨gj, 11, none⟩)) (w' := w') ?_ rfl (NJ.other hj (by decide))
      simp [execOp, evalF, hp, go_sem]
    · -- 69: slot 63 := Op.fieldAddr 27 t62 3
      refine obS_yes fun f bb w' hj hs hd hp => ?_
      simp [PreO, factO, valOf, Region.binds] at hp hd
      refine ⟨by simp [Gd, valOf, hp], ?_⟩
      refine mildS_val (.pointer (some ⟨gj, 14, none⟩)) (w' := w') ?_ rfl (NJ.other hj (by decide))
      simp [execOp, evalF, hp, go_sem]
    · -- 70: slot 64 := Op.build 211 #[(0, t63), (1, const (1:u64)), (2, const (4096:u64))]
      refine obS_yes fun f bb w' hj hs hd hp => ?_
      simp [PreO, factO, valOf, Region.binds] at hp hd
      refine ⟨by simp [Gd, valOf, hp], ?_⟩
      refine mildS_val (.agg #[.pointer (some ⟨gj, 14, none⟩), .int .u64 1, .int .u64 4096]) (w' := w') ?_ rfl (NJ.other hj (by decide))
      simp [execOp, evalF, hp, go_sem]
    · -- 71: slot 65 := Op.buildSlice 208 1 #[(0, t64)]
      refine obS_yes fun f bb w' hj hs hd hp => ?_
      simp [PreO, factO, valOf, Region.binds] at hp hd
      refine ⟨by simp [Gd, valOf, hp], ?_⟩
      refine mildS_val (.slice (some ⟨w'.heap.size, 0, none⟩) 1 1) (w' := w'.alloc (.cells #[.pointer (some ⟨gj, 14, none⟩), .int .u64 1, .int .u64 4096] 211)) ?_ trivial (NJ.bs hj 9 (by decide) rfl (BoxAt.new_ _ _ _))
      have hr := run_bsNum1 w' (.pointer (some ⟨gj, 14, none⟩)) (.int .u64 1) (.int .u64 4096)
      simp [execOp, evalF, hp, hr]
    · -- 72: slot None := Op.insert 205 t3 (const (Value.string   data := #[115, 111, 114, 116]  )) t65
      refine obS_yes fun f bb w' hj hs hd hp => ?_
      simp [PreO, factO, valOf, Region.binds] at hp hd
      refine ⟨by simp [Gd, valOf, hp], ?_⟩
      have hd0 : bb 0 = true := by first | exact hd.1 | exact hd.2.1 | exact hd.2 | exact hd | simp_all
      have hdb : bb 71 = true := by first | exact hd.1 | exact hd.2.1 | exact hd.2 | exact hd | simp_all
      obtain ⟨b0, g0, w3, hv0, hv1, hr, hj3⟩ := NJ.ins hj 9 (by decide) hs hd0 hdb
      refine mildS_skip (w' := w3) ?_ trivial hj3
      have e0 : f 3 = .map (some b0) := hv0
      have e1 : f 65 = mkS (g0, 1) := hv1
      simp [execOp, evalF, e0, e1]
      exact okUnit hr
    · -- 73: slot 66 := Op.move t3
      refine obS_yes fun f bb w' hj hs hd hp => ?_
      simp [PreO, factO, valOf, Region.binds] at hp hd
      refine ⟨by simp [Gd, valOf, hp], ?_⟩
      have hd0 : bb 0 = true := by first | exact hd.1 | exact hd.2.1 | exact hd.2 | exact hd | simp_all
      exact mildS_val (f 3) (by simp [execOp, evalF]) trivial (NJ.mv73 hj hd0 rfl)
    · -- 74: slot 2 := Op.assign t66
      refine obS_yes fun f bb w' hj hs hd hp => ?_
      simp [PreO, factO, valOf, Region.binds] at hp hd
      refine ⟨by simp [Gd, valOf, hp], ?_⟩
      have hd0 : bb 73 = true := by first | exact hd.1 | exact hd.2.1 | exact hd.2 | exact hd | simp_all
      exact mildS_val (f 66) (by simp [execOp, evalF]) trivial (NJ.mv74 hj hd0 rfl)
  · intro f bb wd hall hj hp
    simp only [PostO] at hp
    obtain ⟨_, e1, e2, e3, e4, _, _, e7, e8, e9, e10, _, _, e13, e14, e15, e16, e17, e18, e19, e20, _, _, e23, e24, e25, e26, e27, e28, e29, e30, _, _, e33, e34, e35, e36, _, _, e39, e40, e41, e42, _, _, e45, e46, e47, e48, e49, _, _, e52, e53, e54, e55, e56, _, _, e59, e60, e61, e62, e63, _, _, e66, e67, e68, e69, e70, _, _, _, _, _⟩ := hp
    simp only [fills, List.foldl_cons, List.foldl_nil, Act.put, List.setIfInBounds_toArray, List.set_cons_zero, List.set_cons_succ, e1, e2, e3, e4, e7, e8, e9, e10, e13, e14, e15, e16, e17, e18, e19, e20, e23, e24, e25, e26, e27, e28, e29, e30, e33, e34, e35, e36, e39, e40, e41, e42, e45, e46, e47, e48, e49, e52, e53, e54, e55, e56, e59, e60, e61, e62, e63, e66, e67, e68, e69, e70]
    clear e1 e2 e3 e4 e7 e8 e9 e10 e13 e14 e15 e16 e17 e18 e19 e20 e23 e24 e25 e26 e27 e28 e29 e30 e33 e34 e35 e36 e39 e40 e41 e42 e45 e46 e47 e48 e49 e52 e53 e54 e55 e56 e59 e60 e61 e62 e63 e66 e67 e68 e69 e70
    try simp only [List.drop_succ_cons, List.drop_zero]
    obtain ⟨b, eb, hbb, hm⟩ := hj.map (hall 0 (by decide))
    have e2 := (hj.m2 (hall 74 (by decide))).2.trans ((hj.m1 (hall 73 (by decide))).2.trans eb)
    have hm' : NumMap wd b gj (fun x => ∃ i, i < 10 ∧ x = spI i) 10 := hm.cast (fun x => by
      constructor
      · rintro ⟨i, hi, e⟩
        exact ⟨i, hi, hall _ (Nat.lt_of_lt_of_le (insI_lt i hi) (by decide)), e⟩
      · rintro ⟨i, hi, _, e⟩
        exact ⟨i, hi, e⟩) (by
      have : cntB bb = cntB (fun _ => true) := cntB_congr fun i hi => hall _ (Nat.lt_of_lt_of_le (insI_lt i hi) (by decide))
      rw [this]
      rfl)
    have hbl := hj.bl
    have e2' : f 2 = .map (some b) := e2
    have HM := Lib.hid hm'
    have HB := Lib.hid hbl
    clear hj hall hm hm' hbl eb e2
    rw [e2']
    change wpList _ _ _ [] _ _
    go_wp2_with fail
    go_ret
    exact ⟨b, rfl, hbb, HM.out, HB.out⟩
end Go.Proofs.YtcffeepgfjpcaaaGreat

namespace Go.Proofs.YtcffeepgfjpcaaaGreat
set_option linter.unusedSimpArgs false
set_option linter.unusedVariables false
open Go.RowKit

theorem OwnR.chgT {w w' : World} {P : Nat → Prop} {α : Type} {E : TypeId} {C : Cdc α} {base : Nat} {S : Nat → Prop} {v : Value} {xs : List α} (h : OwnR E C w base S v xs) (hc : Chg P w w') (hv : ∀ k, v.ownBlock = some k → ¬ P k) (hS : ∀ k, S k → ¬ P k) : OwnR E C w' base S v xs := by
  have hb := h.blk
  obtain ⟨css, hl, ⟨h1, h2⟩, h3, h4⟩ := h
  refine ⟨css, hl, ⟨h1, ?_⟩, fun i cs x hcs hx => C.keep (h3 i cs x hcs hx) fun p hp => World.cell?_of_block (hc.block p.block (h4 _ hp).1 (hS _ hp)), fun k hk => ⟨Nat.lt_of_lt_of_le (h4 k hk).1 hc.size, (h4 k hk).2⟩⟩
  rcases h2 with h2 | ⟨g, cap, cur, e, hg, h5, r⟩
  · exact .inl h2
  · have hk := hb g (by rw [e]; rfl)
    exact .inr ⟨g, cap, cur, e, hg, (hc.block g hk.2 (hv g (by rw [e]; rfl))).trans h5, r⟩
theorem ownR_ne_boxT {α : Type} {E T : TypeId} {C : Cdc α} {w : World} {base : Nat} {S : Nat → Prop} {v : Value} {xs : List α} {g : Nat} {cs : List Value} (hET : E ≠ T) (h : OwnR E C w base S v xs) (hb : BoxAt T w g cs) : ∀ k, v.ownBlock = some k → k ≠ g := by
  obtain ⟨_, _, ⟨_, h2⟩, _⟩ := h
  intro k hk e
  subst e
  rcases h2 with ⟨rfl, _⟩ | ⟨g', cap, cur, rfl, _, h3, _⟩
  · cases hk
  · injection hk with hk
    subst hk
    have := h3.symm.trans hb
    injection this with this
    injection this with _ h _
    exact hET h
theorem rowOfBoxT {α : Type} {C : Cdc α} {W : World} {S : Nat → Prop} {T : TypeId} {g : Nat} {cs : List Value} {y : α} (h : BoxAt T W g cs) (hy : C.at_ W S cs y) : RowOn C W (fun _ => True) S (.slice (some ⟨g, 0, none⟩) 1 1) [y] :=
  ⟨_, 1, rfl, Nat.le_refl _, by simp [maxLen], fun _ => ⟨_, rfl, trivial, fun i x hi => by
    match i, hi with
    | 0, hi =>
      injection hi with hi
      subst hi
      exact ⟨cs, hy, fun j u hu => by
        have := h.cell j u hu
        rcases j with _ | j <;> simpa [Addr.add] using this⟩
    | i + 1, hi => simp at hi⟩⟩
def TmpT (T : TypeId) (cs : List Value) (W : World) (b1 b2 : Bool) (v : Value) : Prop := b1 = true → b2 = false → ∃ g, v = .slice (some ⟨g, 0, none⟩) 1 1 ∧ BoxAt T W g cs
section
variable {W W' : World} {c base : Nat} {v : Value} {b1 b2 : Bool} {cs : List Value} {T E : TypeId}
theorem TmpT.below (h : TmpT T cs W b1 b2 v) (hb : Below W.heap.size W W') : TmpT T cs W' b1 b2 v := fun h1 h2 => by
  obtain ⟨g, e, hx⟩ := h h1 h2
  exact ⟨g, e, hx.below hx.lt hb⟩
theorem boxKeptT {α : Type} {C : Cdc α} {g : Nat} {xs : List α} {v' : Value} (hET : E ≠ T) (ho : OwnF E C W base v xs) (hx : Ext W W' v v') (h : BoxAt T W g cs) : BoxAt T W' g cs := h.grown hx.gr (fun e => ownR_ne_boxT hET ho h _ e rfl)
theorem TmpT.kept {α : Type} {C : Cdc α} {xs : List α} {v2 v' : Value} (hET : E ≠ T) (ho : OwnF E C W base v xs) (hx : Ext W W' v v') (h : TmpT T cs W b1 b2 v2) : TmpT T cs W' b1 b2 v2 := fun h1 h2 => by
  obtain ⟨g, e, hx2⟩ := h h1 h2
  exact ⟨g, e, boxKeptT hET ho hx hx2⟩
theorem ownSetT {α : Type} {C : Cdc α} {xs : List α} {ds : List Value} (hET : E ≠ T) (ho : OwnF E C W base v xs) (h : BoxAt T W c ds) (j : Nat) (u : Value) : OwnF E C (W.setCell ⟨c, j, none⟩ u) base v xs :=
  OwnR.chgT ho (Chg.set (P := fun k => k = c) W ⟨c, j, none⟩ u rfl) (fun k hk e => ownR_ne_boxT hET ho h k hk e) (fun _ h => h.elim)
theorem TmpT.set {ds : List Value} {T2 : TypeId} (hT : T ≠ T2) (h : TmpT T cs W b1 b2 v) (hb : BoxAt T2 W c ds) (j : Nat) (u : Value) : TmpT T cs (W.setCell ⟨c, j, none⟩ u) b1 b2 v := fun h1 h2 => by
  obtain ⟨g, e, hx⟩ := h h1 h2
  refine ⟨g, e, hx.other _ _ (fun e => ?_)⟩
  simp only at e
  subst e
  have := hx.symm.trans hb
  injection this with this
  injection this with _ e _
  exact hT e
end
theorem run_slice_arcT (w : World) (a b : Int) : (Instr.buildSlice 45 1 #[(0, .agg #[.int .u32 a, .int .u32 b])]).run Tryz.prog w =
    .ok (.slice (some ⟨w.heap.size, 0, none⟩) 1 1) (w.alloc (.cells #[.int .u32 a, .int .u32 b] 48)) := by
  obtain ⟨it, hit, hz0, hz1, hby⟩ := info_parts infoArc
  refine run_buildSlice w _ _ 1 _ _ it _ Tryz.underlying45 hit hz0 (by rw [hz1]; decide) (by rw [hz1]; decide) ?_
  rw [hz1, show cArc.n = 2 from rfl]
  exact fill_whole 2 _ [.int .u32 a, .int .u32 b] (by first | rfl | simp) (by first | rfl | simp)
end Go.Proofs.YtcffeepgfjpcaaaGreat

namespace Go.Proofs.YtcffeepgfjpcaaaGreat
set_option linter.unusedSimpArgs false
set_option linter.unusedVariables false
open Go.RowKit

def cU32 : Cdc UInt32 := Cdc.flat 1 (fun b => [.int .u32 (b.toNat : Int)]) (fun _ => True) (fun _ => rfl) (fun x u hu => by simp at hu; subst hu; rfl)
theorem infoU32 : (Tryz.prog.info? 24).map (fun i => (i.zero, i.size, i.bytes)) = some (some (.int .u32 0), cU32.n, 4) := by kernel_rfl
abbrev ByU (w : World) (B : Nat) (v : Value) (l : List UInt32) : Prop := RowOn cU32 w (fun k => k < B) (fun k => k < B) v l
theorem ByU.below {w w' : World} {B : Nat} {v : Value} {l : List UInt32} (h : ByU w B v l) (hb : Below B w w') : ByU w' B v l := h.keep (fun p hp => hb.cell hp) (fun p hp => hb.cell hp)
theorem ByU.more {w : World} {B B' : Nat} {v : Value} {l : List UInt32} (h : ByU w B v l) (hB : B ≤ B') : ByU w B' v l := h.mono (fun _ hk => by omega) fun _ hk => by omega
theorem ByU.cells {w : World} {B : Nat} {A : Option Addr} {n c : Nat} {l : List UInt32} (h : ByU w B (.slice A n c) l) (k : Nat) (hk : k < l.length) : ∃ ad, A = some ad ∧ ad.block < B ∧ w.cell? (ad.add k) = some (.int .u32 ((l[k]).toNat : Int)) := by
  obtain ⟨ad, cs, e, hb, ⟨rfl, _⟩, hc⟩ := h.at_ k l[k] (List.getElem?_eq_getElem hk)
  have := hc 0 _ rfl
  simp only [cU32, Cdc.flat, Nat.mul_one, Nat.add_zero] at this
  exact ⟨ad, e, hb, this⟩
theorem InC.u32s {w : World} {v : Value} (h : InC w 25 [v]) : ∃ l, ByU w w.heap.size v l := by
  obtain ⟨v', xs, e, hr⟩ := h.row (C := cU32) Tryz.underlying25 (by kernel_rfl) (by decide) fun cs hc => by
    obtain ⟨n, e, _⟩ := InC.u32 (S := fun _ => True) Tryz.underlying24 hc
    exact ⟨n, e, trivial⟩
  injection e with e
  subst e
  exact ⟨xs, hr⟩
theorem OwnU.empty (W : World) (g base : Nat) (hg : W.heap.size = g) (hb : base ≤ g) : OwnF 24 cU32 (W.alloc (.cells #[] 24)) base (.slice (some ⟨g, 0, none⟩) 0 0) [] := by
  subst hg
  exact (OwnR.new_ (xs := ([] : List UInt32)) (S := fun _ => False) W [] rfl (by simp) (fun i cs x h => by simp at h) (fun _ h => h.elim)).more hb
set_option maxHeartbeats 800000 in
theorem cloneU (w : World) (v : Value) (l : List UInt32) (h : ByU w w.heap.size v l) (hsz : l.length ≤ 4294967296) :
    Calls Tryz.prog 126 #[v] w fun e w' => ∃ v', e = .returned v' ∧ OwnF 24 cU32 w' w.heap.size v' l ∧ Below w.heap.size w w' := by
  have hn := eqnil 25 24 Tryz.underlying25
  have hby2 : RowOn cU32 (w.alloc (.cells #[] 24)) (fun k => k < w.heap.size) (fun _ => False) v l := (h.below (balloc w _)).mono (fun _ h => h) (fun _ h => h) |> fun h => by
    obtain ⟨A, c, h1, h2, h3, h4⟩ := h
    exact ⟨A, c, h1, h2, h3, h4⟩
  obtain ⟨A, c, rfl, hc1, hc2⟩ := h.form
  unfold maxLen at hc2
  cases A with
  | none =>
    have h0 : l = [] := by
      cases l with
      | nil => rfl
      | cons a t =>
        obtain ⟨ad, _, e, _⟩ := h.at_ 0 a rfl
        cases e
    subst h0
    go_enter Tryz.func126, Tryz.ntmps126
    go_wp2
    go_ret
    exact ⟨_, rfl, OwnF.nil_ _ _, Below.refl _ _⟩
  | some ad =>
    go_enter Tryz.func126, Tryz.ntmps126
    go_wp2_with (first
      | (at_builtin
         refine wpList_appR rfl (.tmp 5) (.tmp 6) 25 rfl Tryz.underlying25 infoU32 rfl (by decide) (by decide) (OwnU.empty w w.heap.size w.heap.size rfl (Nat.le_refl _)) hby2 rfl rfl (by simp; omega) (by simp) ?_
         intro v1 w1 hown1 hext1))
    go_ret
    exact ⟨_, rfl, by simpa using hown1, ((Below.refl _ _).alloc (Nat.le_refl _) _).trans (hext1.below (by simp) (by simp [Value.ownBlock]))⟩

set_option maxRecDepth 100000 in
set_option maxHeartbeats 1600000 in
theorem compactU (w : World) (B : Nat) (v : Value) (l : List UInt32) (h : ByU w B v l) (hl : l.length ≤ 1048576) (hne : ∀ i, (hi : i + 1 < l.length) → l[i + 1] ≠ l[i]) :
    Calls Tryz.prog 128 #[v] w fun e w' => e = .returned v ∧ ∃ q, w' = w.drewN q := by
  obtain ⟨A, c, rfl, hc1, hc2⟩ := h.form
  unfold maxLen at hc2
  have Hne := Lib.hid hne
  clear hne
  by_cases h2 : l.length < 2
  · have hd : decide ((l.length : Int) < 2) = true := decide_eq_true (by omega)
    go_enter Tryz.func128, Tryz.ntmps128
    go_wp2_with fail
    go_ret
    exact ⟨rfl, 0, rfl⟩
  · have hd : decide ((l.length : Int) < 2) = false := decide_eq_false (by omega)
    go_enter Tryz.func128, Tryz.ntmps128
    go_wp2_with fail
    go_loopw [3] (fun iv wr => ∃ k q : Nat, 1 ≤ k ∧ k ≤ l.length ∧ iv = .int .i64 k ∧ wr = w.drewN q) (fun iv _ => l.length - (intOf iv).toNat)
    case atStart => exact ⟨1, 0, by omega, by omega, rfl, rfl⟩
    case round =>
      obtain ⟨k, q, hk1, hk, rfl, rfl⟩ := hrel
      by_cases hlt : k < l.length
      · obtain ⟨m, hkm⟩ : ∃ m, k = m + 1 := ⟨k - 1, by omega⟩
        have hdk : decide ((k : Int) < (l.length : Int)) = true := decide_eq_true (by omega)
        have he : ((k : Int) - 1) = (m : Int) := by omega
        obtain ⟨ad, rfl, hab, hx0⟩ := h.cells k hlt
        obtain ⟨ad2, e, _, hx1⟩ := h.cells m (by omega)
        injection e with e
        subst e
        have hn := Hne.out m (by omega)
        have hn2 : (l[k]).toNat ≠ (l[m]).toNat := fun e => hn (by have := UInt32.toNat_inj.1 e; subst hkm; exact this)
        have hb1 := u32_lt l[k]
        have hb2 := u32_lt l[m]
        have hml : m < l.length := by omega
        clear hn
        generalize (l[k]).toNat = a at *
        generalize (l[m]).toNat = b at *
        have hq : ((a : Int) == (b : Int)) = false := beq_eq_false_iff_ne.2 (by omega)
        have Hkm := Lib.hid hkm
        clear hkm
        go_wp2_with fail
        go_quiet (fail)
        go_wp2_with fail
        go_roundw
        case rel => exact ⟨k + 1, q + nq, by omega, by omega, by go_num, by simp⟩
        case measure => simp [intOf]; omega
      · have hdk : decide ((k : Int) < (l.length : Int)) = false := decide_eq_false (by omega)
        go_wp2_with fail
        go_ret
        exact ⟨rfl, q, rfl⟩
end Go.Proofs.YtcffeepgfjpcaaaGreat

namespace Go.Proofs.YtcffeepgfjpcaaaGreat
set_option linter.unusedSimpArgs false
set_option linter.unusedVariables false
open Go.RowKit Go.Maps

structure GJob where
  kind : UInt8
  seed : UInt64
  len : UInt32
  walks : UInt32
  srcs : List UInt32
  stop : UInt32
  of_ : UInt32
  p : UInt32
  q : UInt32
  tries : UInt32
  best : UInt32
  shard : UInt32
  room : UInt32
  pool : UInt32
  sort : UInt32
def jobC (j : GJob) (v : Value) : List Value := [.int .u8 (j.kind.toNat : Int), .int .u64 (j.seed.toNat : Int), .int .u32 (j.len.toNat : Int), .int .u32 (j.walks.toNat : Int), v, .int .u32 (j.stop.toNat : Int), .int .u32 (j.of_.toNat : Int),
  .int .u32 (j.p.toNat : Int), .int .u32 (j.q.toNat : Int), .int .u32 (j.tries.toNat : Int), .int .u32 (j.best.toNat : Int), .int .u32 (j.shard.toNat : Int), .int .u32 (j.room.toNat : Int), .int .u32 (j.pool.toNat : Int), .int .u32 (j.sort.toNat : Int)]
def jobN (j : GJob) (o : Nat) : Nat := [0, 0, j.len.toNat, j.walks.toNat, 0, j.stop.toNat, j.of_.toNat, j.p.toNat, j.q.toNat, j.tries.toNat, j.best.toNat, j.shard.toNat, j.room.toNat, j.pool.toNat, j.sort.toNat].getD o 0
def JobAt (w : World) (B : Nat) (v : Value) (j : GJob) : Prop := ∃ vs, v = .agg (jobC j vs).toArray ∧ ByU w B vs j.srcs
theorem JobAt.below {w w' : World} {B : Nat} {v : Value} {j : GJob} (h : JobAt w B v j) (hb : Below B w w') : JobAt w' B v j := by obtain ⟨vs, e, h⟩ := h; exact ⟨vs, e, h.below hb⟩
theorem JobAt.more {w : World} {B B' : Nat} {v : Value} {j : GJob} (h : JobAt w B v j) (hB : B ≤ B') : JobAt w B' v j := by obtain ⟨vs, e, h⟩ := h; exact ⟨vs, e, h.more hB⟩
theorem JobAt.step {w w' : World} {v : Value} {j : GJob} (h : JobAt w w.heap.size v j) (hb : Below w.heap.size w w') : JobAt w' w'.heap.size v j := (h.below hb).more hb.size
def specOk (j : GJob) (x : Nat × Nat × Nat) : Bool := decide (x.2.1 ≤ jobN j x.1) && decide (jobN j x.1 ≤ x.2.2)
def numsOk (j : GJob) : Bool := (List.range 10).all fun i => (spI i).l.all (specOk j)
/-- may a job whose sources are all different be? -/
def mayJ (j : GJob) : Bool := decide (j.kind.toNat < 3) && (decide (j.stop.toNat ≤ j.of_.toNat) && (decide (0 < j.srcs.length) && (decide (j.srcs.length ≤ 256) && numsOk j)))
/-- slices.Sort hands back a permutation of these -/
def SortOk (l : List UInt32) : Prop := ∀ (W : World) (base : Nat) (v : Value), OwnF 24 cU32 W base v l → base ≤ W.heap.size →
  Calls Tryz.prog 127 #[v] W fun e w' => e = .returned (.tuple #[]) ∧ ∃ l' : List UInt32, l'.Perm l ∧ OwnF 24 cU32 w' base v l' ∧ Chg (fun k => v.ownBlock = some k) W w'
theorem infoS3 : (Tryz.prog.info? 203).map (fun i => (i.zero, i.size, i.bytes)) = some (some (.agg #[.string ⟨#[]⟩, .string ⟨#[]⟩, .string ⟨#[]⟩]), 3, 48) := by kernel_rfl
theorem infoS33 : (Tryz.prog.info? 203).map (·.size) = some 3 := by kernel_rfl
set_option maxRecDepth 100000 in
set_option maxHeartbeats 800000 in
theorem kinds_any (w : World) : Calls Tryz.prog 124 #[] w fun e w' => ∃ v, e = .returned v ∧ Below w.heap.size w w' := by
  have Hone : Hid (∀ u ∈ ([.string { data := #[102, 105, 120, 101, 100] }, .string { data := #[114, 101, 115, 116, 97, 114, 116] }, .string { data := #[115, 101, 99, 111, 110, 100] }] : List Value), u.oneCell' = true) := Lib.hid fun u hu => by
    simp at hu
    rcases hu with rfl | rfl | rfl <;> rfl
  go_enter Tryz.func124, Tryz.ntmps124
  go_wp2_with (first
    | (refine wpList_alloc_z rfl 203 rfl infoS3 [.string ⟨#[]⟩, .string ⟨#[]⟩, .string ⟨#[]⟩] rfl ?_)
    | (refine wpList_store_newX rfl 203 (.tmp 0) (.tmp 1) rfl [.string ⟨#[]⟩, .string ⟨#[]⟩, .string ⟨#[]⟩] [.string { data := #[102, 105, 120, 101, 100] }, .string { data := #[114, 101, 115, 116, 97, 114, 116] }, .string { data := #[115, 101, 99, 111, 110, 100] }] rfl rfl infoS33 rfl Hone.out ?_
       intro w4 hbx4 hb4 hz4))
  refine bodyPost_ret (results_c rfl _ _ w.heap.size [.string { data := #[102, 105, 120, 101, 100] }, .string { data := #[114, 101, 115, 116, 97, 114, 116] }, .string { data := #[115, 101, 99, 111, 110, 100] }] rfl (fun j v hj => (hbx4.cells j v hj : _)) Tryz.underlying203 rfl infoS33) rfl ?_
  exact ⟨_, rfl, hb4⟩
end Go.Proofs.YtcffeepgfjpcaaaGreat
