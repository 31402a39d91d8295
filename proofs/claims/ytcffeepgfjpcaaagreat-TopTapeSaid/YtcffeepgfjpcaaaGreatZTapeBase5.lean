/- Lemmas for the law TapeBase: the last arc of an own row gets another weight; (*merge.merger).take onto a row that is there; slices.Values of rows of bytes, as an iterator; A range over a function as range_x (TopRange), for an iterator that itself ranges over a function, and writes into blocks of its own between two yields: what the caller holds (J) bears changes of blocks of some types (Ts) that no yielded value stands in (blk).; alias.Put of a table that lies anywhere but in the row that grows; shard.above, shard.put, shard.whole (printed by wip/gen/shput.py); shard.Put; The document's check (package palmerref02): Sum, Four, Mark and Fits are the plain functions that the code's are. The rows are readable slices of at most 2^40 bytes.; palmerref02.Fits: bytes without their check, or the error's number. The row is a readable slice of at most 2^40 bytes.; The document's sections (package palmerref05): Put and Get compute what the plain functions say.; palmerref23.Put (printed by wip/gen/shrput.py); shard.read: a row with its table; lines of a shard in memory; A range over a function whose values lead into memory: the iterator tells of each value what holds of the world at its yield (R), and in the end what holds of all (S). The body never leaves the loop early.; The law of a region that draws its order and whose end waits, within the wide fence.; (*shard.Shard).Len, Rows, and the iterator (printed by wip/gen/shiter.py); palmerlaw23.rows: a range over the iterator; merge.Each: the plain side of a round, and. No condition. -/
import Derived.Test.YtcffeepgfjpcaaaGreatZTapeBase4
import Derived.RangeFuncWrites
import Derived.TacticsInMore
import Derived.OrdersIn
import Derived.BigRegionIn
import Derived.BigFrameIn
import Derived.Sort.CutIn
import Derived.Shelf.SlSortCmp.NoneTotal
import Derived.Sort.WalkA
import Derived.Deep.LoopGhost
import Derived.Deep.Cut
import Derived.Deep.CutRange
import Derived.Shelf.SlSortCmp.Whole1
namespace Go.Proofs.YtcffeepgfjpcaaaGreat
set_option linter.unusedSimpArgs false
set_option linter.unusedVariables false
open Go.RowKit

def arcC (a : GArc) : List Value := [.int .u32 (a.to.toNat : Int), .int .u32 (a.wt.toNat : Int)]
theorem arcsC_len (l : List GArc) : (l.map arcC).flatten.length = 2 * l.length := by
  induction l with
  | nil => rfl
  | cons a t ih =>
    rw [List.map_cons, List.flatten_cons, List.length_append, ih, List.length_cons]
    show 2 + 2 * t.length = _
    omega
theorem arcsC_set (l : List GArc) (a b : GArc) (h : b.to = a.to) : ((l ++ [a]).map arcC).flatten.set (2 * l.length + 1) (.int .u32 (b.wt.toNat : Int)) = ((l ++ [b]).map arcC).flatten := by
  have hl := arcsC_len l
  rw [List.map_append, List.map_append, List.flatten_append, List.flatten_append, List.set_append, hl, if_neg (by omega)]
  congr 1
  have e : 2 * l.length + 1 - 2 * l.length = 1 := by omega
  rw [e]
  simp [arcC, h]
/-- the own row's cells -/
theorem OwnF.arcs_cells {w : World} {base : Nat} {v : Value} {xs : List GArc} (h : OwnF 48 cArc w base v xs) : w.ownsRow base 48 2 v xs.length (xs.map arcC).flatten := by
  obtain ⟨css, hl, h1, h3, h4⟩ := h
  have e : css = xs.map arcC := by
    refine List.ext_getElem (by simpa using hl) fun i hi1 hi2 => ?_
    have := h3 i css[i] xs[i] (List.getElem?_eq_getElem hi1) (List.getElem?_eq_getElem (by omega))
    rw [this.1]
    simp [arcC]
  rw [← e]
  exact h1
theorem OwnF.of_cells {w : World} {base : Nat} {v : Value} {xs : List GArc} (h : w.ownsRow base 48 2 v xs.length (xs.map arcC).flatten) : OwnF 48 cArc w base v xs :=
  ⟨xs.map arcC, by simp, h, fun i cs x hc hx => by
    rw [List.getElem?_map, hx] at hc
    injection hc with hc
    exact ⟨hc.symm, trivial⟩, fun k hk => hk.elim⟩
theorem OwnF.setLast {W : World} {base : Nat} {v : Value} {l : List GArc} {a b : GArc} (h : OwnF 48 cArc W base v (l ++ [a])) (hb : b.to = a.to) :
    ∃ g c, v = .slice (some ⟨g, 0, none⟩) (l.length + 1) c ∧ base ≤ g ∧ g < W.heap.size ∧ c ≤ maxLen ∧ l.length + 1 ≤ c ∧ W.cell? ⟨g, 2 * l.length, none⟩ = some (.int .u32 (a.to.toNat : Int)) ∧ W.cell? ⟨g, 2 * l.length + 1, none⟩ = some (.int .u32 (a.wt.toNat : Int)) ∧ W.frozen? ⟨g, 2 * l.length + 1, none⟩ = false ∧
      OwnF 48 cArc (W.setCell ⟨g, 2 * l.length + 1, none⟩ (.int .u32 (b.wt.toNat : Int))) base v (l ++ [b]) := by
  have hc := h.arcs_cells
  have hcl := arcsC_len (l ++ [a])
  obtain ⟨h1, h2⟩ := hc
  rw [List.length_append, List.length_singleton] at h1 h2 hcl
  rcases h2 with ⟨_, hn⟩ | ⟨g, cap, cur, e, hg, h5, h6, h7, h8, h9⟩
  · omega
  · have hbx : BoxAt 48 W g cur.toList := by simpa [BoxAt] using h5
    have hget : ∀ j, j < (l.length + 1) * 2 → cur.toList[j]? = ((l ++ [a]).map arcC).flatten[j]? := fun j hj => by
      rw [← h9, List.getElem?_take, if_pos hj]
    have happ : ((l ++ [a]).map arcC).flatten = (l.map arcC).flatten ++ arcC a := by simp
    have hl := arcsC_len l
    have e0 : ((l ++ [a]).map arcC).flatten[2 * l.length]? = some (.int .u32 (a.to.toNat : Int)) := by
      rw [happ, List.getElem?_append_right (by omega), hl, Nat.sub_self]
      rfl
    have e1 : ((l ++ [a]).map arcC).flatten[2 * l.length + 1]? = some (.int .u32 (a.wt.toNat : Int)) := by
      rw [happ, List.getElem?_append_right (by omega), hl, show 2 * l.length + 1 - 2 * l.length = 1 from by omega]
      rfl
    refine ⟨g, cap, e, hg, hbx.lt, h7, h6, hbx.cell _ _ ((hget _ (by omega)).trans e0), hbx.cell _ _ ((hget _ (by omega)).trans e1), hbx.frozen _, OwnF.of_cells ?_⟩
    have hput := hbx.put (2 * l.length + 1) (.int .u32 (b.wt.toNat : Int))
    have hcl2 := arcsC_len (l ++ [b])
    rw [List.length_append, List.length_singleton] at hcl2
    rw [List.length_append, List.length_singleton]
    refine ⟨by omega, .inr ⟨g, cap, (cur.toList.set (2 * l.length + 1) (.int .u32 (b.wt.toNat : Int))).toArray, e, hg, by simpa [BoxAt] using hput, h6, h7, by simpa using h8, ?_⟩⟩
    rw [List.toList_toArray, List.take_set, h9, arcsC_set l a b hb]
end Go.Proofs.YtcffeepgfjpcaaaGreat

namespace Go.Proofs.YtcffeepgfjpcaaaGreat
set_option linter.unusedSimpArgs false
set_option linter.unusedVariables false
open Go.RowKit

set_option maxRecDepth 100000 in
set_option maxHeartbeats 3200000 in
theorem take_more (w : World) (g base : Nat) (x : GEdge) (fr : Nat) (va vl : Value) (l : List GArc) (a : GArc) (hb : BoxAt 166 w g (mgC fr va vl)) (hown : OwnF 48 cArc w base va (l ++ [a]))
    (hfr : fr = x.fr.toNat) (hbase : base ≤ w.heap.size) (hlen : l.length ≤ 1048576) (hsum : a.wt.toNat + x.wt.toNat ≤ 2147483647) :
    Calls Tryz.prog 95 #[.pointer (some ⟨g, 0, none⟩), edgeV x] w fun e w' => e = .returned (.tuple #[]) ∧ ∃ va', BoxAt 166 w' g (mgC fr va' vl) ∧
      OwnF 48 cArc w' base va' (addArc (l ++ [a]) x) ∧ Chg (fun k => k = g ∨ va.ownBlock = some k) w w' := by
  rw [addArc_last]
  obtain ⟨gb, cb, e, q1, q2, q3, q4, -, -, -, -⟩ := hown.setLast (b := a) rfl
  subst e
  obtain ⟨w0, hw0⟩ : ∃ w0, w0 = w.alloc (.cells (edgeC x).toArray 55) := ⟨_, rfl⟩
  have hb0 : Below w.heap.size w w0 := by rw [hw0]; exact balloc w _
  have hx0 : BoxAt 55 w0 w.heap.size (edgeC x) := by rw [hw0]; exact BoxAt.new_ _ _ _
  have hgl := hb.lt
  have hg0 := hb.bl_ hb0
  have hfu := fun W (hW : Below w.heap.size w W) => full_any W g x fr (l.length + 1) cb (some ⟨gb, 0, none⟩) vl (hb.below hb.lt hW)
  have hfn : fullN (l.length + 1) fr x = false := by unfold fullN; simp [hfr]
  rw [hfn] at hfu
  have Hfu := Lib.hid hfu
  have Hw0 := Lib.hid hw0
  have Hb0 := Lib.hid hb0
  have X0 := Lib.hid hx0
  have G0 := Lib.hid hg0
  have O0 := Lib.hid (hown.below_ hb0)
  have hgb : gb ≠ g := (ownR_ne_boxT (by decide) hown hb gb rfl)
  have hz0 : w0.heap.size = w.heap.size + 1 := by rw [hw0]; simp
  have hcs : edgeC x = [.int .u32 (x.fr.toNat : Int), .int .u32 (x.to.toNat : Int), .int .u32 (x.wt.toNat : Int)] := rfl
  obtain ⟨ar, har⟩ : ∃ ar : GArc, ar = ⟨x.to, x.wt⟩ := ⟨_, rfl⟩
  obtain ⟨aw, has⟩ : ∃ aw : GArc, aw = ⟨a.to, a.wt + x.wt⟩ := ⟨_, rfl⟩
  have hast : aw.to = a.to := by rw [has]
  have hasw : aw.wt.toNat = a.wt.toNat + x.wt.toNat := by rw [has]; exact u32_add hsum
  have HAr : Hid (∀ W : World, cArc.at_ W (fun _ => True) [.int .u32 (x.to.toNat : Int), .int .u32 (x.wt.toNat : Int)] ar) := Lib.hid fun W => by rw [har]; exact ⟨rfl, trivial⟩
  have hte : (a.to = x.to) ↔ a.to.toNat = x.to.toNat := UInt32.toNat_inj.symm
  rw [← har, ← has]
  obtain ⟨rl, hrl⟩ : ∃ rl, rl = (if a.to = x.to then l ++ [aw] else l ++ [a] ++ [ar]) := ⟨_, rfl⟩
  rw [← hrl]
  have Hrl := Lib.hid hrl
  clear hrl
  unfold edgeV at Hfu ⊢
  rw [hcs] at Hw0 X0 Hfu ⊢
  have hal := hown
  have Hte := Lib.hid hte
  have Hast := Lib.hid hast
  clear hw0 hx0 hb0 hg0 hcs hb hfu hfn har has hte hast hown hal hfr
  go_enter Tryz.func95, Tryz.ntmps95
  go_upto_region 1 with fail
  rw [← Hw0.out]
  go_wp2_with (refine wpList_load_agg rfl 55 (.tmp 3) rfl ⟨w.heap.size, 0, none⟩ rfl [.int .u32 (x.fr.toNat : Int), .int .u32 (x.to.toNat : Int), .int .u32 (x.wt.toNat : Int)] X0.out.cells Tryz.underlying55 rfl infoEdge3 ?_)
  refine (Hfu.out w0 Hb0.out).mono ?_
  rintro _ w1 ⟨rfl, hb1⟩
  have X1 := Lib.hid (X0.out.bl_ hb1)
  have hG1 := G0.out.bl_ hb1
  have Hb1 := Lib.hid (bstep Hb0.out hb1)
  have O1 := Lib.hid (O0.out.below_ hb1)
  have hc1 := hG1.cell 1 _ rfl
  have hx1 := X1.out.cell 1 _ rfl
  have G1 := Lib.hid hG1
  obtain ⟨gb', cb', e', -, -, -, -, p0, p1, p2, -⟩ := OwnF.setLast O1.out (b := aw) Hast.out
  injection e' with e1 e2 e3
  injection e1 with e1
  injection e1 with e1 _ _
  subst e1
  rw [Nat.mul_comm] at p0
  have hm9 : decide (0 < l.length + 1) = true := by simp
  clear hb1 hG1 X0 G0 O0 Hb0 p1 p2 e2 e3
  generalize hmm : l.length = m at *
  --WALK
  go_wp2_with fail
  generalize hn1 : x.to.toNat = n1 at *
  generalize hn2 : x.wt.toNat = n2 at *
  generalize hn0 : x.fr.toNat = n0 at *
  generalize hat : a.to.toNat = at_ at *
  generalize haw : a.wt.toNat = aw_ at *
  by_cases heq : at_ = n1
  · have hd : ((at_ : Int) == (n1 : Int)) = true := by simp [heq]
    have hif : a.to = x.to := Hte.out.2 heq
    have hrl2 := Hrl.out
    rw [if_pos hif] at hrl2
    have Hrl2 := Lib.hid hrl2
    clear hrl2 Hrl
    have Heq := Lib.hid heq
    clear heq hif
    go_quiet (fail)
    have G3 : Hid (BoxAt 166 (w1.drewN nq) g (mgC fr (Value.slice (some ⟨gb, 0, none⟩) (m + 1) cb) vl)) := Lib.hid G1.out
    have X3 : Hid (BoxAt 55 (w1.drewN nq) w.heap.size [.int .u32 (n0 : Int), .int .u32 (n1 : Int), .int .u32 (n2 : Int)]) := Lib.hid X1.out
    have Hb3 := Lib.hid (bdrewN Hb1.out nq)
    have hz3 := Hb3.out.size
    have O3 : Hid (OwnF 48 cArc (w1.drewN nq) base (Value.slice (some ⟨gb, 0, none⟩) (m + 1) cb) (l ++ [a])) := Lib.hid (OwnR.below_ O1.out (bdrewN (Below.refl _ _) nq))
    clear G1 X1 Hb1 O1 hc1 hx1 p0
    generalize w1.drewN nq = w3 at *
    go_upto_region 5 with fail
    have Haw := Lib.hid haw
    refine wp_region_mixSL (ds := [46, 47, 48, 49, 50, 51, 52, 53, 54, 55, 56, 57, 58, 59, 60]) 16 (fun bb vs W' => BoxAt 166 W' g (mgC fr (Value.slice (some ⟨gb, 0, none⟩) (m + 1) cb) vl) ∧ BoxAt 55 W' w.heap.size [.int .u32 (n0 : Int), .int .u32 (n1 : Int), .int .u32 (n2 : Int)] ∧ Chg (fun k => k = g ∨ (Value.slice (some ⟨gb, 0, none⟩) (m + 1) cb).ownBlock = some k) w3 W' ∧ OwnF 48 cArc W' base (Value.slice (some ⟨gb, 0, none⟩) (m + 1) cb) (l ++ [cond (bb 15) aw a]) ∧ (bb 15 = true → bb 9 = true)) [some 46, some 47, some 48, some 49, some 50, some 51, some 52, some 53, some 54, some 55, some 56, some 57, some 58, some 59, some 60, none]
      [fun v => v = .pointer (some ⟨g, 0, none⟩), fun v => v = .pointer (some ⟨g, 0, none⟩), fun v => v = .pointer (some ⟨g, 0, none⟩), fun v => v = .pointer (some ⟨g, 1, none⟩), fun v => v = (Value.slice (some ⟨gb, 0, none⟩) (m + 1) cb), fun v => v = .int .i64 ((m : Int) + 1), fun v => v = .int .i64 (m : Int), fun v => v = .pointer (some ⟨gb, m * 2, none⟩), fun v => v = .pointer (some ⟨gb, m * 2 + 1, none⟩), fun v => v = .int .u32 (aw_ : Int), fun v => v = .pointer (some ⟨w.heap.size, 2, none⟩), fun v => v = .int .u32 (n2 : Int), fun v => v = .int .u32 ((aw_ + n2 : Nat) : Int), fun v => v = .pointer (some ⟨gb, m * 2, none⟩), fun v => v = .pointer (some ⟨gb, m * 2 + 1, none⟩), fun _ => True]
      rfl rfl rfl (by kernel_rfl) (by kernel_rfl) ?_ (fun _ => ⟨G3.out, X3.out, Chg.ofBelow ⟨rfl, rfl, rfl, Nat.le_refl _, fun _ _ => rfl⟩, by simpa using (show OwnF 48 cArc w3.drew base (Value.slice (some ⟨gb, 0, none⟩) (m + 1) cb) (l ++ [a]) from OwnR.drew_T O3.out), fun h => (by cases h)⟩) ?_
    · refine ⟨?_, ?_, ?_, ?_, ?_, ?_, ?_, ?_, ?_, ?_, ?_, ?_, ?_, ?_, ?_, ?_, trivial⟩
      · -- 0: slot 46 := Op.move t0
        refine obS_yes fun f bb w' hj hs hd hp => ?_
        simp [PreO, factO, valOf, Region.binds] at hp hd
        refine ⟨by simp [Gd, valOf, hp], ?_⟩
        refine mildS_val (.pointer (some ⟨g, 0, none⟩)) (w' := w') ?_ rfl (by simpa using hj)
        simp [execOp, evalF, hp, go_sem]
      · -- 1: slot 47 := Op.nilCheck t46
        refine obS_yes fun f bb w' hj hs hd hp => ?_
        simp [PreO, factO, valOf, Region.binds] at hp hd
        refine ⟨by simp [Gd, valOf, hp], ?_⟩
        refine mildS_val (.pointer (some ⟨g, 0, none⟩)) (w' := w') ?_ rfl (by simpa using hj)
        simp [execOp, evalF, hp, go_sem]
      · -- 2: slot 48 := Op.fieldAddr 166 t47 0
        refine obS_yes fun f bb w' hj hs hd hp => ?_
        simp [PreO, factO, valOf, Region.binds] at hp hd
        refine ⟨by simp [Gd, valOf, hp], ?_⟩
        refine mildS_val (.pointer (some ⟨g, 0, none⟩)) (w' := w') ?_ rfl (by simpa using hj)
        simp [execOp, evalF, hp, go_sem]
      · -- 3: slot 49 := Op.fieldAddr 132 t48 1
        refine obS_yes fun f bb w' hj hs hd hp => ?_
        simp [PreO, factO, valOf, Region.binds] at hp hd
        refine ⟨by simp [Gd, valOf, hp], ?_⟩
        refine mildS_val (.pointer (some ⟨g, 1, none⟩)) (w' := w') ?_ rfl (by simpa using hj)
        simp [execOp, evalF, hp, go_sem]
      · -- 4: slot 50 := Op.load 45 t49
        refine obS_yes fun f bb w' hj hs hd hp => ?_
        simp [PreO, factO, valOf, Region.binds] at hp hd
        refine ⟨by simp [Gd, valOf, hp], ?_⟩
        have hc : w'.cell? ⟨g, 1, none⟩ = some (Value.slice (some ⟨gb, 0, none⟩) (m + 1) cb) := hj.1.cell 1 _ rfl
        refine mildS_val ((Value.slice (some ⟨gb, 0, none⟩) (m + 1) cb)) (w' := w') ?_ rfl (by simpa using hj)
        simp [execOp, evalF, hp, go_sem, hc]
      · -- 5: slot 51 := Op.move t4
        refine obS_yes fun f bb w' hj hs hd hp => ?_
        simp [PreO, factO, valOf, Region.binds] at hp hd
        refine ⟨by simp [Gd, valOf, hp], ?_⟩
        refine mildS_val (.int .i64 ((m : Int) + 1)) (w' := w') ?_ rfl (by simpa using hj)
        simp [execOp, evalF, hp, go_sem]
      · -- 6: slot 52 := Op.binOp BinOp.sub 3 t51 (const (1:i64)) 3
        refine obS_yes fun f bb w' hj hs hd hp => ?_
        simp [PreO, factO, valOf, Region.binds] at hp hd
        refine ⟨by simp [Gd, valOf, hp], ?_⟩
        refine mildS_val (.int .i64 (m : Int)) (w' := w') ?_ rfl (by simpa using hj)
        simp [execOp, evalF, hp, go_sem]
        try (rw [wrap_i64]; omega)
      · -- 7: slot 53 := Op.indexAddr 45 t50 t52
        refine obS_yes fun f bb w' hj hs hd hp => ?_
        simp [PreO, factO, valOf, Region.binds] at hp hd
        refine ⟨by simp [Gd, valOf, hp], ?_⟩
        refine mildS_val (.pointer (some ⟨gb, m * 2, none⟩)) (w' := w') ?_ rfl (by simpa using hj)
        simp [execOp, evalF, hp, go_sem, Instr.indexAt, Addr.add]
        try (intro h; omega)
      · -- 8: slot 54 := Op.fieldAddr 48 t53 1
        refine obS_yes fun f bb w' hj hs hd hp => ?_
        simp [PreO, factO, valOf, Region.binds] at hp hd
        refine ⟨by simp [Gd, valOf, hp], ?_⟩
        refine mildS_val (.pointer (some ⟨gb, m * 2 + 1, none⟩)) (w' := w') ?_ rfl (by simpa using hj)
        simp [execOp, evalF, hp, go_sem]
      · -- 9: slot 55 := Op.load 24 t54
        refine obS_yes fun f bb w' hj hs hd hp => ?_
        simp [PreO, factO, valOf, Region.binds] at hp hd
        refine ⟨by simp [Gd, valOf, hp], ?_⟩
        have h15 : bb 15 = false := by cases hx : bb 15 with | false => rfl | true => rw [hj.2.2.2.2 hx] at hs; cases hs
        have k4 := hj.2.2.2.1
        rw [h15] at k4
        simp only [cond_false] at k4
        obtain ⟨gb', cb', e', -, -, -, -, c0, c1, c2, c3⟩ := OwnF.setLast (b := aw) k4 Hast.out
        injection e' with e1 e2 e3
        injection e1 with e1
        injection e1 with e1 _ _
        subst e1
        rw [hmm, Nat.mul_comm] at c1 c2 c3
        rw [Haw.out] at c1
        refine mildS_val (.int .u32 (aw_ : Int)) (w' := w') ?_ rfl (by obtain ⟨j1, j2, j3, j4, j5⟩ := hj; exact ⟨j1, j2, j3, by simpa using j4, by simp⟩)
        simp [execOp, evalF, hp, go_sem, c1]
      · -- 10: slot 56 := Op.fieldAddr 55 t3 2
        refine obS_yes fun f bb w' hj hs hd hp => ?_
        simp [PreO, factO, valOf, Region.binds] at hp hd
        refine ⟨by simp [Gd, valOf, hp], ?_⟩
        refine mildS_val (.pointer (some ⟨w.heap.size, 2, none⟩)) (w' := w') ?_ rfl (by simpa using hj)
        simp [execOp, evalF, hp, go_sem]
      · -- 11: slot 57 := Op.load 24 t56
        refine obS_yes fun f bb w' hj hs hd hp => ?_
        simp [PreO, factO, valOf, Region.binds] at hp hd
        refine ⟨by simp [Gd, valOf, hp], ?_⟩
        have hc : w'.cell? ⟨w.heap.size, 2, none⟩ = some (.int .u32 (n2 : Int)) := hj.2.1.cell 2 _ rfl
        refine mildS_val (.int .u32 (n2 : Int)) (w' := w') ?_ rfl (by simpa using hj)
        simp [execOp, evalF, hp, go_sem, hc]
      · -- 12: slot 58 := Op.binOp BinOp.add 24 t55 t57 24
        refine obS_yes fun f bb w' hj hs hd hp => ?_
        simp [PreO, factO, valOf, Region.binds] at hp hd
        refine ⟨by simp [Gd, valOf, hp], ?_⟩
        refine mildS_val (.int .u32 ((aw_ + n2 : Nat) : Int)) (w' := w') ?_ rfl (by simpa using hj)
        simp [execOp, evalF, hp, go_sem]
        try (rw [IntKind.wrap_u32']; omega)
      · -- 13: slot 59 := Op.indexAddr 45 t50 t52
        refine obS_yes fun f bb w' hj hs hd hp => ?_
        simp [PreO, factO, valOf, Region.binds] at hp hd
        refine ⟨by simp [Gd, valOf, hp], ?_⟩
        refine mildS_val (.pointer (some ⟨gb, m * 2, none⟩)) (w' := w') ?_ rfl (by simpa using hj)
        simp [execOp, evalF, hp, go_sem, Instr.indexAt, Addr.add]
        try (intro h; omega)
      · -- 14: slot 60 := Op.fieldAddr 48 t59 1
        refine obS_yes fun f bb w' hj hs hd hp => ?_
        simp [PreO, factO, valOf, Region.binds] at hp hd
        refine ⟨by simp [Gd, valOf, hp], ?_⟩
        refine mildS_val (.pointer (some ⟨gb, m * 2 + 1, none⟩)) (w' := w') ?_ rfl (by simpa using hj)
        simp [execOp, evalF, hp, go_sem]
      · -- 15: slot None := Op.store 24 t60 t58
        refine obS_yes fun f bb w' hj hs hd hp => ?_
        simp [PreO, factO, valOf, Region.binds] at hp hd
        refine ⟨by simp [Gd, valOf, hp], ?_⟩
        obtain ⟨j1, j2, j3, j4, j5⟩ := hj
        have h9 : bb 9 = true := by simp_all
        have k4 : OwnF 48 cArc w' base (Value.slice (some ⟨gb, 0, none⟩) (m + 1) cb) (l ++ [a]) := by rw [hs] at j4; simpa using j4
        obtain ⟨gb', cb', e', -, -, -, -, c0, c1, c2, c3⟩ := OwnF.setLast (b := aw) k4 Hast.out
        injection e' with e1 e2 e3
        injection e1 with e1
        injection e1 with e1 _ _
        subst e1
        rw [hmm, Nat.mul_comm] at c1 c2 c3
        refine mildS_skip (w' := w'.setCell ⟨gb, m * 2 + 1, none⟩ (.int .u32 (aw.wt.toNat : Int))) ?_ trivial ⟨j1.other _ _ (by show gb ≠ g; exact hgb), j2.other _ _ (by show gb ≠ w.heap.size; omega), j3.trans (Chg.set _ _ _ (.inr rfl)), by simpa using c3, by simp [h9]⟩
        rw [hasw]
        simp [execOp, evalF, hp, go_sem, c1, c2]
    · intro f bb wd hall hj hp
      simp only [PostO] at hp
      obtain ⟨e0, e1, e2, e3, e4, e5, e6, e7, e8, e9, e10, e11, e12, e13, e14, _, _⟩ := hp
      simp only [fills, List.foldl_cons, List.foldl_nil, Act.put, List.setIfInBounds_toArray, List.set_cons_zero, List.set_cons_succ, e0, e1, e2, e3, e4, e5, e6, e7, e8, e9, e10, e11, e12, e13, e14]
      clear e0 e1 e2 e3 e4 e5 e6 e7 e8 e9 e10 e11 e12 e13 e14
      simp only [List.drop_succ_cons, List.drop_zero]
      obtain ⟨j1, j2, j3, j4, j5⟩ := hj
      have b15 : bb 15 = true := hall 15 (by decide)
      rw [b15] at j4
      have k4 : OwnF 48 cArc wd base (Value.slice (some ⟨gb, 0, none⟩) (m + 1) cb) (l ++ [aw]) := j4
      clear j4
      go_wp2_with fail
      refine bodyPost_ret (results_none rfl _ _ _) rfl ?_
      refine ⟨rfl, _, j1, ?_, (Chg.ofBelow Hb3.out).trans j3⟩
      rw [Hrl2.out]
      exact k4
  · have hd : ((at_ : Int) == (n1 : Int)) = false := beq_eq_false_iff_ne.2 (by omega)
    have hif : ¬ a.to = x.to := fun h => heq (Hte.out.1 h)
    have hrl2 := Hrl.out
    rw [if_neg hif] at hrl2
    have Hrl2 := Lib.hid hrl2
    clear hrl2 Hrl
    have Heq := Lib.hid heq
    clear heq hif
    go_quiet (fail)
    have G3 : Hid (BoxAt 166 (w1.drewN nq) g (mgC fr (Value.slice (some ⟨gb, 0, none⟩) (m + 1) cb) vl)) := Lib.hid G1.out
    have X3 : Hid (BoxAt 55 (w1.drewN nq) w.heap.size [.int .u32 (n0 : Int), .int .u32 (n1 : Int), .int .u32 (n2 : Int)]) := Lib.hid X1.out
    have Hb3 := Lib.hid (bdrewN Hb1.out nq)
    have hz3 := Hb3.out.size
    have O3 : Hid (OwnF 48 cArc (w1.drewN nq) base (Value.slice (some ⟨gb, 0, none⟩) (m + 1) cb) (l ++ [a])) := Lib.hid (OwnR.below_ O1.out (bdrewN (Below.refl _ _) nq))
    clear G1 X1 Hb1 O1 hc1 hx1 p0
    generalize w1.drewN nq = w3 at *
    go_upto_region 6 with fail
    refine wp_region_mixSL (ds := [61, 62, 63, 64, 65, 66, 67, 68, 69, 70, 71, 72, 73, 74, 75, 76]) 17 (fun bb vs W' => BoxAt 166 W' g (mgC fr (cond (bb 16) (vs 12) ((Value.slice (some ⟨gb, 0, none⟩) (m + 1) cb))) vl) ∧ BoxAt 55 W' w.heap.size [.int .u32 (n0 : Int), .int .u32 (n1 : Int), .int .u32 (n2 : Int)] ∧ Chg (fun k => k = g ∨ (Value.slice (some ⟨gb, 0, none⟩) (m + 1) cb).ownBlock = some k) w3 W' ∧ OwnF 48 cArc W' base (cond (bb 12) (vs 12) ((Value.slice (some ⟨gb, 0, none⟩) (m + 1) cb))) ((l ++ [a]) ++ cond (bb 12) [ar] []) ∧ TmpT 48 [.int .u32 (n1 : Int), .int .u32 (n2 : Int)] W' (bb 11) (bb 12) (vs 11) ∧ (bb 16 = true → bb 5 = true) ∧ (bb 16 = true → bb 12 = true)) [some 61, some 62, some 63, some 64, some 65, some 66, some 67, some 68, some 69, some 70, some 71, some 72, some 73, some 74, some 75, some 76, none]
      [fun v => v = .pointer (some ⟨g, 0, none⟩), fun v => v = .pointer (some ⟨g, 0, none⟩), fun v => v = .pointer (some ⟨g, 0, none⟩), fun v => v = .pointer (some ⟨g, 0, none⟩), fun v => v = .pointer (some ⟨g, 1, none⟩), fun v => v = (Value.slice (some ⟨gb, 0, none⟩) (m + 1) cb), fun v => v = .pointer (some ⟨w.heap.size, 1, none⟩), fun v => v = .int .u32 (n1 : Int), fun v => v = .pointer (some ⟨w.heap.size, 2, none⟩), fun v => v = .int .u32 (n2 : Int), fun v => v = .agg #[.int .u32 (n1 : Int), .int .u32 (n2 : Int)], fun _ => True, fun _ => True, fun v => v = .pointer (some ⟨g, 0, none⟩), fun v => v = .pointer (some ⟨g, 0, none⟩), fun v => v = .pointer (some ⟨g, 1, none⟩), fun _ => True]
      rfl rfl rfl (by kernel_rfl) (by kernel_rfl) ?_ (fun _ => ⟨G3.out, X3.out, Chg.ofBelow ⟨rfl, rfl, rfl, Nat.le_refl _, fun _ _ => rfl⟩, by simpa using (show OwnF 48 cArc w3.drew base ((Value.slice (some ⟨gb, 0, none⟩) (m + 1) cb)) ((l ++ [a])) from OwnR.drew_T O3.out), fun h _ => (by cases h), fun h => (by cases h), fun h => (by cases h)⟩) ?_
    · refine ⟨?_, ?_, ?_, ?_, ?_, ?_, ?_, ?_, ?_, ?_, ?_, ?_, ?_, ?_, ?_, ?_, ?_, trivial⟩
      · -- 0: slot 61 := Op.move t0
        refine obS_yes fun f bb w' hj hs hd hp => ?_
        simp [PreO, factO, valOf, Region.binds] at hp hd
        refine ⟨by simp [Gd, valOf, hp], ?_⟩
        refine mildS_val (.pointer (some ⟨g, 0, none⟩)) (w' := w') ?_ rfl (by simpa using hj)
        simp [execOp, evalF, hp, go_sem]
      · -- 1: slot 62 := Op.move t0
        refine obS_yes fun f bb w' hj hs hd hp => ?_
        simp [PreO, factO, valOf, Region.binds] at hp hd
        refine ⟨by simp [Gd, valOf, hp], ?_⟩
        refine mildS_val (.pointer (some ⟨g, 0, none⟩)) (w' := w') ?_ rfl (by simpa using hj)
        simp [execOp, evalF, hp, go_sem]
      · -- 2: slot 63 := Op.nilCheck t62
        refine obS_yes fun f bb w' hj hs hd hp => ?_
        simp [PreO, factO, valOf, Region.binds] at hp hd
        refine ⟨by simp [Gd, valOf, hp], ?_⟩
        refine mildS_val (.pointer (some ⟨g, 0, none⟩)) (w' := w') ?_ rfl (by simpa using hj)
        simp [execOp, evalF, hp, go_sem]
      · -- 3: slot 64 := Op.fieldAddr 166 t63 0
        refine obS_yes fun f bb w' hj hs hd hp => ?_
        simp [PreO, factO, valOf, Region.binds] at hp hd
        refine ⟨by simp [Gd, valOf, hp], ?_⟩
        refine mildS_val (.pointer (some ⟨g, 0, none⟩)) (w' := w') ?_ rfl (by simpa using hj)
        simp [execOp, evalF, hp, go_sem]
      · -- 4: slot 65 := Op.fieldAddr 132 t64 1
        refine obS_yes fun f bb w' hj hs hd hp => ?_
        simp [PreO, factO, valOf, Region.binds] at hp hd
        refine ⟨by simp [Gd, valOf, hp], ?_⟩
        refine mildS_val (.pointer (some ⟨g, 1, none⟩)) (w' := w') ?_ rfl (by simpa using hj)
        simp [execOp, evalF, hp, go_sem]
      · -- 5: slot 66 := Op.load 45 t65
        refine obS_yes fun f bb w' hj hs hd hp => ?_
        simp [PreO, factO, valOf, Region.binds] at hp hd
        refine ⟨by simp [Gd, valOf, hp], ?_⟩
        have h16 : bb 16 = false := by cases hx : bb 16 with | false => rfl | true => rw [hj.2.2.2.2.2.1 hx] at hs; cases hs
        have hc : w'.cell? ⟨g, 1, none⟩ = some ((Value.slice (some ⟨gb, 0, none⟩) (m + 1) cb)) := by have h := hj.1; rw [h16] at h; exact BoxAt.cell h 1 _ rfl
        refine mildS_val ((Value.slice (some ⟨gb, 0, none⟩) (m + 1) cb)) (w' := w') ?_ rfl (by obtain ⟨j1, j2, j3, j4, j5, j6, j7⟩ := hj; exact ⟨by simpa using j1, j2, j3, by simpa using j4, by simpa using j5, by simp, by simpa using j7⟩)
        simp [execOp, evalF, hp, go_sem, hc]
      · -- 6: slot 67 := Op.fieldAddr 55 t3 1
        refine obS_yes fun f bb w' hj hs hd hp => ?_
        simp [PreO, factO, valOf, Region.binds] at hp hd
        refine ⟨by simp [Gd, valOf, hp], ?_⟩
        refine mildS_val (.pointer (some ⟨w.heap.size, 1, none⟩)) (w' := w') ?_ rfl (by simpa using hj)
        simp [execOp, evalF, hp, go_sem]
      · -- 7: slot 68 := Op.load 24 t67
        refine obS_yes fun f bb w' hj hs hd hp => ?_
        simp [PreO, factO, valOf, Region.binds] at hp hd
        refine ⟨by simp [Gd, valOf, hp], ?_⟩
        have hc : w'.cell? ⟨w.heap.size, 1, none⟩ = some (.int .u32 (n1 : Int)) := hj.2.1.cell 1 _ rfl
        refine mildS_val (.int .u32 (n1 : Int)) (w' := w') ?_ rfl (by simpa using hj)
        simp [execOp, evalF, hp, go_sem, hc]
      · -- 8: slot 69 := Op.fieldAddr 55 t3 2
        refine obS_yes fun f bb w' hj hs hd hp => ?_
        simp [PreO, factO, valOf, Region.binds] at hp hd
        refine ⟨by simp [Gd, valOf, hp], ?_⟩
        refine mildS_val (.pointer (some ⟨w.heap.size, 2, none⟩)) (w' := w') ?_ rfl (by simpa using hj)
        simp [execOp, evalF, hp, go_sem]
      · -- 9: slot 70 := Op.load 24 t69
        refine obS_yes fun f bb w' hj hs hd hp => ?_
        simp [PreO, factO, valOf, Region.binds] at hp hd
        refine ⟨by simp [Gd, valOf, hp], ?_⟩
        have hc : w'.cell? ⟨w.heap.size, 2, none⟩ = some (.int .u32 (n2 : Int)) := hj.2.1.cell 2 _ rfl
        refine mildS_val (.int .u32 (n2 : Int)) (w' := w') ?_ rfl (by simpa using hj)
        simp [execOp, evalF, hp, go_sem, hc]
      · -- 10: slot 71 := Op.build 48 #[(0, t68), (1, t70)]
        refine obS_yes fun f bb w' hj hs hd hp => ?_
        simp [PreO, factO, valOf, Region.binds] at hp hd
        refine ⟨by simp [Gd, valOf, hp], ?_⟩
        refine mildS_val (.agg #[.int .u32 (n1 : Int), .int .u32 (n2 : Int)]) (w' := w') ?_ rfl (by simpa using hj)
        simp [execOp, evalF, hp, go_sem]
      · -- 11: slot 72 := Op.buildSlice 45 1 #[(0, t71)]
        refine obS_yes fun f bb w' hj hs hd hp => ?_
        simp [PreO, factO, valOf, Region.binds] at hp hd
        refine ⟨by simp [Gd, valOf, hp], ?_⟩
        obtain ⟨j1, j2, j3, j4, j5, j6, j7⟩ := hj
        refine mildS_val (.slice (some ⟨w'.heap.size, 0, none⟩) 1 1) (w' := w'.alloc (.cells #[.int .u32 (n1 : Int), .int .u32 (n2 : Int)] 48)) ?_ trivial ⟨by simpa using j1.bl_ (balloc _ _), j2.bl_ (balloc _ _), j3.trans (Chg.ofBelow (balloc _ _)), by simpa using j4.below_ (balloc _ _), fun _ _ => ⟨_, by simp, BoxAt.new_ _ _ [.int .u32 (n1 : Int), .int .u32 (n2 : Int)]⟩, by simpa using j6, by simpa using j7⟩
        have hr := run_slice_arcT w' (n1 : Int) (n2 : Int)
        simp [execOp, evalF, hp, hr]
      · -- 12: slot 73 := Op.call   builtin append, args := #[t66, t72], argTypes := #[45, 45]  
        refine obS_yes fun f bb w' hj hs hd hp => ?_
        simp [PreO, factO, valOf, Region.binds] at hp hd
        refine ⟨by simp [Gd, valOf, hp], ?_⟩
        obtain ⟨j1, j2, j3, j4, j5, j6, j7⟩ := hj
        have h16 : bb 16 = false := by cases hx : bb 16 with | false => rfl | true => rw [j7 hx] at hs; cases hs
        have h11 : bb 11 = true := by first | exact hd.1 | exact hd.2.1 | exact hd.2 | exact hd | simp_all
        obtain ⟨q, hv11, hq⟩ := j5 h11 hs
        have k4 : OwnF 48 cArc w' base ((Value.slice (some ⟨gb, 0, none⟩) (m + 1) cb)) ((l ++ [a])) := by rw [hs] at j4; simpa using j4
        have k1 := j1
        rw [h16] at k1
        refine mildS_ex (exec_appR (C := cArc) (O := fun _ => True) (.tmp 66) (.tmp 72) 45 rfl Tryz.underlying45 infoArc (by kernel_rfl) (by decide) (by decide) k4 (rowOfBoxT hq (HAr.out w')) (by simp [evalF, hp]) (by simpa [evalF, valOf] using hv11) (by simp only [List.length_append, List.length_singleton]; omega) (Nat.le_trans ((Nat.le_trans hbase hz3)) j3.size)) ?_
        intro v' w3 g1 g2
        refine ⟨trivial, ?_, boxKeptT (by decide) k4 g2 j2, j3.trans (Chg.ofGrown g2.gr fun k e => .inr e), by simpa using g1, by simp [TmpT], by simpa using j6, by simp [h16]⟩
        simp only [h16]
        exact boxKeptT (by decide) k4 g2 k1
      · -- 13: slot 74 := Op.nilCheck t61
        refine obS_yes fun f bb w' hj hs hd hp => ?_
        simp [PreO, factO, valOf, Region.binds] at hp hd
        refine ⟨by simp [Gd, valOf, hp], ?_⟩
        refine mildS_val (.pointer (some ⟨g, 0, none⟩)) (w' := w') ?_ rfl (by simpa using hj)
        simp [execOp, evalF, hp, go_sem]
      · -- 14: slot 75 := Op.fieldAddr 166 t74 0
        refine obS_yes fun f bb w' hj hs hd hp => ?_
        simp [PreO, factO, valOf, Region.binds] at hp hd
        refine ⟨by simp [Gd, valOf, hp], ?_⟩
        refine mildS_val (.pointer (some ⟨g, 0, none⟩)) (w' := w') ?_ rfl (by simpa using hj)
        simp [execOp, evalF, hp, go_sem]
      · -- 15: slot 76 := Op.fieldAddr 132 t75 1
        refine obS_yes fun f bb w' hj hs hd hp => ?_
        simp [PreO, factO, valOf, Region.binds] at hp hd
        refine ⟨by simp [Gd, valOf, hp], ?_⟩
        refine mildS_val (.pointer (some ⟨g, 1, none⟩)) (w' := w') ?_ rfl (by simpa using hj)
        simp [execOp, evalF, hp, go_sem]
      · -- 16: slot None := Op.store 45 t76 t73
        refine obS_yes fun f bb w' hj hs hd hp => ?_
        simp [PreO, factO, valOf, Region.binds] at hp hd
        refine ⟨by simp [Gd, valOf, hp], ?_⟩
        obtain ⟨j1, j2, j3, j4, j5, j6, j7⟩ := hj
        have h5 : bb 5 = true := by simp_all
        have h12 : bb 12 = true := by simp_all
        have hc := j1.cell 1 _ rfl
        have hf := j1.frozen 1
        have k4 : OwnF 48 cArc w' base (f 73) ((l ++ [a]) ++ [ar]) := by have h := j4; rw [h12] at h; exact h
        obtain ⟨A9, c9, e9, _, _, _⟩ := k4.form'
        refine mildS_skip (w' := w'.setCell ⟨g, 1, none⟩ (f 73)) ?_ trivial ⟨?_, j2.other _ _ (by show g ≠ w.heap.size; omega), j3.trans (Chg.set _ _ _ (.inl rfl)), ?_, ?_, by simp [h5], by simp [h12]⟩
        · simp [execOp, evalF, hp, go_sem, hc, hf, e9]
        · exact j1.put 1 (f 73)
        · exact ownSetT (by decide) j4 j1 1 (f 73)
        · simpa using TmpT.set (by decide) j5 j1 1 (f 73)
    · intro f bb wd hall hj hp
      simp only [PostO] at hp
      obtain ⟨e0, e1, e2, e3, e4, e5, e6, e7, e8, e9, e10, _, _, e13, e14, e15, _, _⟩ := hp
      simp only [fills, List.foldl_cons, List.foldl_nil, Act.put, List.setIfInBounds_toArray, List.set_cons_zero, List.set_cons_succ, e0, e1, e2, e3, e4, e5, e6, e7, e8, e9, e10, e13, e14, e15]
      clear e0 e1 e2 e3 e4 e5 e6 e7 e8 e9 e10 e13 e14 e15
      simp only [List.drop_succ_cons, List.drop_zero]
      obtain ⟨j1, j2, j3, j4, j5, j6, j7⟩ := hj
      have b12 : bb 12 = true := hall 12 (by decide)
      have b16 : bb 16 = true := hall 16 (by decide)
      rw [b16] at j1
      rw [b12] at j4
      have k1 : BoxAt 166 wd g (mgC fr (f 73) vl) := j1
      have k4 : OwnF 48 cArc wd base (f 73) (l ++ [a] ++ [ar]) := j4
      clear j1 j4
      generalize f 73 = vz at *
      go_wp2_with fail
      go_end0
      refine ⟨rfl, vz, k1, ?_, (Chg.ofBelow Hb3.out).trans j3⟩
      rw [Hrl2.out]
      exact k4
end Go.Proofs.YtcffeepgfjpcaaaGreat

namespace Go.Proofs.YtcffeepgfjpcaaaGreat
set_option linter.unusedSimpArgs false
set_option linter.unusedVariables false
open Go.RowKit Go.Shelf

set_option maxRecDepth 100000 in
set_option maxHeartbeats 1600000 in
theorem vals_iter (n : Nat) (hn : 1 ≤ n) (w : World) (B Bs : Nat) (hBw : B ≤ w.heap.size) (A : Option Addr) (c : Nat) (vals : List Value) (hlen : vals.length ≤ 1048576) (hb : BoxAt 70 w Bs [.slice A vals.length c])
    (hcell : ∀ i, (h : i < vals.length) → ∃ ad, A = some ad ∧ ad.block < B ∧ w.cell? (ad.add i) = some vals[i]) :
    IterX (α := Nat) Tryz.prog n 97 #[.pointer (some ⟨Bs, 0, none⟩)] (fun i => #[vals.getD i undef]) (fun X Y => Below B X Y)
      (fun pre i _ => i = pre.length ∧ i < vals.length) (fun xs _ => xs = List.range vals.length) (fun pre => True) (fun _ => True) w := by
  intro l J Jx W hW hJ hJx hY h0
  have hbW := (hb.below hb.lt hW).cell 0 _ rfl
  have hcW : ∀ i, (h : i < vals.length) → ∃ ad, A = some ad ∧ ad.block < B ∧ W.cell? (ad.add i) = some vals[i] := fun i h => by
    obtain ⟨ad, e, h1, h2⟩ := hcell i h
    exact ⟨ad, e, h1, (hW.cell (p := ad.add i) (by rw [add_block]; omega)).trans h2⟩
  have hszW := hW.size
  have HcW := Lib.hid hcW
  have HY := Lib.hid hY
  clear hY hb hcell hJ hJx hcW
  refine callsIn_of_wp Tryz.func97 rfl trivial ?_ rfl
  simp only [Tryz.ntmps97, List.size_toArray, List.length_cons, List.length_nil, Nat.reduceAdd, Nat.reduceSub, Array.replicate_succ, Array.replicate_zero, List.push_toArray, List.append_toArray, List.nil_append, List.cons_append]
  gi_wp2
  gi_loopw [7] (fun i wr => ∃ k : Nat, k ≤ vals.length ∧ i = .int .i64 k ∧ J (List.range k) wr ∧ Below B W wr) (fun i _ => vals.length - (intOf i).toNat)
  case atStart => exact ⟨0, Nat.zero_le _, rfl, h0, Below.refl _ _⟩
  case round =>
    obtain ⟨k, hk, rfl, hJs, hbr⟩ := hrel
    have HJs := Lib.hid hJs
    have Hbr := Lib.hid hbr
    clear hJs hbr h0
    by_cases hlt : k < vals.length
    · obtain ⟨ad, rfl, hab, hx⟩ := HcW.out k hlt
      have hx2 := (Hbr.out.cell (p := ad.add k) (by rw [add_block]; exact hab)).trans hx
      obtain ⟨fn, tmps, assign, body, hy, hR⟩ := HY.out (List.range k) k wr HJs.out ⟨by simp, hlt⟩ trivial
      have hg : vals.getD k undef = vals[k] := by simp [List.getD, hlt]
      rw [hg] at hy
      have hdk : decide ((k : Int) < (vals.length : Int)) = true := decide_eq_true (by omega)
      rw [← List.range_succ] at hR
      clear hx hg
      generalize vals[k] = vk at *
      gi_wp2
      refine hR.mono ?_
      clear hR hy
      rintro e W3 (⟨rfl, hJ3, hk3, -⟩ | ⟨rfl, hJx3⟩)
      · have HJ3 := Lib.hid hJ3
        have HK3 := Lib.hid hk3
        clear hJ3 hk3
        gi_wp2
        go_roundw
        case rel => exact ⟨k + 1, by omega, by go_num, HJ3.out, Hbr.out.trans HK3.out⟩
        case measure => simp [intOf]; omega
      · gi_wp2
        refine bodyPost_ret (results_none rfl _ _ _) rfl ?_
        exact ⟨⟨_, rfl⟩, .inr ⟨_, trivial, hJx3⟩⟩
    · have hdk : decide ((k : Int) < (vals.length : Int)) = false := decide_eq_false (by omega)
      have e : k = vals.length := by omega
      gi_wp2
      go_end0
      exact ⟨⟨_, rfl⟩, .inl ⟨_, rfl, by rw [← e]; exact HJs.out⟩⟩
end Go.Proofs.YtcffeepgfjpcaaaGreat

namespace Go.Proofs.YtcffeepgfjpcaaaGreat
set_option linter.unusedSimpArgs false
set_option linter.unusedVariables false
open Go.RowKit Go.Shelf

def cellsTy : Obj → Option TypeId
  | .cells _ T _ => some T
  | _ => none
def AbM {α : Type} (B : Nat) (Ts : List TypeId) (blk : α → Option Nat) (J : List α → World → Prop) : Prop :=
  ∀ (s : List α) (A C : World) (P : Nat → Prop), J s A → Chg P A C → (∀ r, P r → r < A.heap.size → B ≤ r ∧ ∃ o : Obj, A.heap[r]? = some o ∧ (o.isCells = false ∨ ∃ T, cellsTy o = some T ∧ T ∈ Ts ∧ ∀ x ∈ s, blk x ≠ some r)) → J s C
section
variable {α : Type} {B : Nat} {Ts : List TypeId} {blk : α → Option Nat} {J : List α → World → Prop}
theorem AbM.putObj (h : AbM B Ts blk J) {s : List α} {W : World} {l : Nat} {o : Obj} (o' : Obj) (hs : J s W) (hB : B ≤ l) (hl : W.heap[l]? = some o) (ho : o.isCells = false) : J s (W.putObj l o') :=
  h s W _ (fun k => k = l) hs ⟨rfl, rfl, rfl, by simp, fun k _ hk => World.putObj_heap_other (fun e => hk (by rw [e]))⟩ fun r e _ => by subst e; exact ⟨hB, o, hl, .inl ho⟩
theorem AbM.below (h : AbM B Ts blk J) {s : List α} {W W' : World} (hs : J s W) (hb : Below W.heap.size W W') : J s W' :=
  h s W W' (fun _ => False) hs ⟨hb.os, hb.tape, hb.output, hb.size, fun k hk _ => hb.block k hk⟩ fun r e _ => e.elim
theorem AbM.alloc (h : AbM B Ts blk J) {s : List α} {W : World} (o : Obj) (hs : J s W) : J s (W.alloc o) := h.below hs (balloc W o)
end
/-- what an iterator promises: S: all have come; Sp: a part -/
def IterZ {α : Type} (P : Program) (n gf : Nat) (lb : Array Value) (encs : α → Array Value) (Ts : List TypeId) (blk : α → Option Nat) (Kr : World → World → Prop) (R : List α → α → World → Prop) (S : List α → World → Prop) (Sp : List α → Prop) (Bd : List α → Prop) (w : World) : Prop :=
  ∀ (l : Nat) (J Jx : List α → World → Prop) (W : World), Below w.heap.size w W → AbM W.heap.size Ts blk J → AbM W.heap.size Ts blk Jx →
    (∀ pre x W1, J pre W1 → R pre x W1 → Bd pre → YieldAt Fence.wide (n - 1) P l (encs x) W1 fun e W' =>
      (e = .returned (.bool true) ∧ J (pre ++ [x]) W' ∧ Kr W1 W' ∧ Bd (pre ++ [x])) ∨ (e = .returned (.bool false) ∧ Jx (pre ++ [x]) W' ∧ KeepsFrom (w.heap.size + 2) W1 W')) → J [] W →
    CallsIn Fence.wide n P gf (#[.func (.yield l) #[] #[]] ++ lb) W fun e W' => (∃ v, e = .returned v) ∧ ((∃ xs, S xs W' ∧ J xs W') ∨ ∃ pre, Sp pre ∧ Jx pre W')


theorem range_z {α : Type} {P : Program} {g : Operand} {ps : Array Tmp} {assign body : Code} {Q : Exit → Act → World → Prop} {a : Act} {w : World} {n gf : Nat} {lb : Array Value}
    (hg : a.eval g = .func (.func gf) #[] lb) (eg : ∀ args w, (callFunc gf args).run P w = .ok (.enter gf args) w)
    {encs : α → Array Value} {Ts : List TypeId} {blk : α → Option Nat} {Kr : World → World → Prop} (hKt : ∀ {X Y Z : World}, Kr X Y → Kr Y Z → Kr X Z) (hKp : ∀ (W : World) (o o' : Obj), W.heap[w.heap.size + 1]? = some o → o.isCells = false → Kr W (W.putObj (w.heap.size + 1) o')) {R : List α → α → World → Prop} {S : List α → World → Prop} {Sp Bd : List α → Prop} (hps : ∀ x, (encs x).size = ps.size) (hit : IterZ P (n - 1) gf lb encs Ts blk Kr R S Sp Bd w)
    (I : List α → World → Prop) (Ix : Code → List α → World → Prop) (hI : AbM w.heap.size Ts blk I) (hIx : ∀ c, AbM w.heap.size Ts blk (Ix c)) (hS : OwnFrom w.heap.size S) (h0 : I [] w)
    (Ax : Act → List α → α → Act → World → Prop) (hAx : ∀ pre x a', OwnFrom w.heap.size (fun (_ : Unit) W => Ax a pre x a' W))
    (hassign : ∀ (l : Nat) (pre : List α) (x : α) (W : World), w.heap.size ≤ l → I pre W → R pre x W →
      assign.wpIn (Fence.wide.inRound l) (n - 1 - 1) P (fun e a' W' => e = .normal ∧ KeepsFrom w.heap.size W W' ∧ Kr W W' ∧ Ax a pre x a' W') { tmps := (ps.zip (encs x)).foldl (fun t (p, v) => t.setIfInBounds p v) a.tmps, defers := [] } W)
    (hbody : ∀ (l : Nat) (pre : List α) (x : α) (a' : Act) (W : World), w.heap.size ≤ l → Ax a pre x a' W → Bd pre →
      body.wpIn (Fence.wide.inRound l) (n - 1 - 1) P (postX w.heap.size Kr I Ix Bd (pre ++ [x]) W) a' W)
    (hdone : ∀ (D : Nat) (xs : List α) (W : World), w.heap.size ≤ D → S xs W → I xs W → W.heap[D]? = some (.deferred (some [])) → Q .normal { a with defers := { target := .collected D, args := #[] } :: a.defers } W)
    (hstop : ∀ (D : Nat) (c : Code) (pre : List α) (W : World), w.heap.size ≤ D → Sp pre → Ix c pre W → W.heap[D]? = some (.deferred (some [])) → c.wpIn Fence.wide n P Q { a with defers := { target := .collected D, args := #[] } :: a.defers } W) :
    (Code.rangeFunc g ps assign body).wpIn Fence.wide n P Q a w := by
  refine wpIn_rangeFunc fun fn hfn => ?_
  obtain ⟨L, hL⟩ : ∃ L, L = w.heap.size + 1 := ⟨_, rfl⟩
  obtain ⟨lp, hlp⟩ : ∃ lp : LoopState → Option Code → Loop, lp = fun st pe => { state := st, pending := pe, fn, tmps := a.tmps, params := ps, assign, body, defers := w.heap.size } := ⟨_, rfl⟩
  have e1 : ∀ st pe, ({ lp st pe with state := .busy } : Loop) = lp .busy pe := fun st pe => by rw [hlp]
  have e2 : ∀ st st' pe, ({ lp st pe with state := st' } : Loop) = lp st' pe := fun st st' pe => by rw [hlp]
  have e3 : ∀ st st' pe pe', ({ lp st pe with state := st', pending := pe' } : Loop) = lp st' pe' := fun st st' pe pe' => by rw [hlp]
  obtain ⟨W1, hW1⟩ : ∃ W1, W1 = (w.alloc (.deferred (some []))).alloc (.loop (lp .ready none)) := ⟨_, rfl⟩
  have hsz1 : W1.heap.size = w.heap.size + 2 := by rw [hW1]; simp
  have hl1 : W1.heap[L]? = some (.loop (lp .ready none)) := by
    rw [hW1, hL]
    have := World.alloc_heap_new (w.alloc (.deferred (some []))) (.loop (lp .ready none))
    rwa [World.size_alloc] at this
  have hd1 : W1.heap[w.heap.size]? = some (.deferred (some [])) := by rw [hW1]; exact (heap_alloc_old _ _ (by simp)).trans (World.alloc_heap_new w _)
  have hb1 : Below w.heap.size w W1 := by rw [hW1]; exact bstep (balloc _ _) (balloc _ _)
  have hi1 : I [] W1 := by rw [hW1]; exact hI.alloc _ (hI.alloc _ h0)
  have hkb : ∀ (W : World) (st : LoopState) (pe : Option Code) (o' : Obj), W.heap[L]? = some (.loop (lp st pe)) → Kr W (W.putObj L o') := fun W st pe o' h => by subst hL; exact hKp W _ o' h rfl
  have keep : ∀ {A C : World} {P : Nat → Prop}, Chg P A C → (∀ r, P r → r < A.heap.size → W1.heap.size ≤ r) → ∀ (q : Nat) (o : Obj), A.heap[q]? = some o → q < W1.heap.size → C.heap[q]? = some o := fun hc hr q o ho hw => by
    have hlt := (Array.getElem?_eq_some_iff.1 ho).1
    refine (hc.block q hlt fun e => ?_).trans ho
    have h1 := hr q e hlt
    omega
  refine ⟨L, [{ target := .collected w.heap.size, args := #[] }], W1, { target := .fn (.func gf) lb, args := #[.func (.yield L) #[] #[]] }, W1, gf, #[.func (.yield L) #[] #[]] ++ lb, W1, ?_, ?_, fun _ _ => trivial, ?_, fun h => by simp [Fence.wide] at h, ?_⟩
  · have := run_enterLoop_outer (P := P) (w := w) fn a.tmps ps assign body
    rw [hW1, hL, hlp]
    exact this
  · simp only [resolve, hg]
    simp [go_sem]
  · simp [invoke, go_sem, eg]
  refine (hit L (fun pre W => I pre W ∧ W.heap[L]? = some (.loop (lp .ready none)) ∧ W.heap[w.heap.size]? = some (.deferred (some [])))
    (fun pre W => ∃ c, Ix c pre W ∧ W.heap[L]? = some (.loop (lp .done (some c))) ∧ W.heap[w.heap.size]? = some (.deferred (some []))) W1 hb1 ?_ ?_ ?_ ⟨hi1, hl1, hd1⟩).mono ?_
  · rintro s A C P ⟨ha, hb, hc⟩ hgr hr
    exact ⟨hI s A C P ha hgr fun r h1 h2 => by obtain ⟨h3, h4⟩ := hr r h1 h2; exact ⟨by omega, h4⟩, keep hgr (fun r h1 h2 => (hr r h1 h2).1) _ _ hb (by omega), keep hgr (fun r h1 h2 => (hr r h1 h2).1) _ _ hc (by omega)⟩
  · rintro s A C P ⟨c, ha, hb, hc⟩ hgr hr
    exact ⟨c, hIx c s A C P ha hgr fun r h1 h2 => by obtain ⟨h3, h4⟩ := hr r h1 h2; exact ⟨by omega, h4⟩, keep hgr (fun r h1 h2 => (hr r h1 h2).1) _ _ hb (by omega), keep hgr (fun r h1 h2 => (hr r h1 h2).1) _ _ hc (by omega)⟩
  · -- a round
    rintro pre x W ⟨hi, hl, hd⟩ hRx hbd
    have hlt := (Array.getElem?_eq_some_iff.1 hl).1
    have hy := run_yield (P := P) (args := encs x) hl (by rw [hlp]; exact hps x)
    have f1 : (lp .ready none).fn = fn := by rw [hlp]
    have f2 : (lp .ready none).params = ps := by rw [hlp]
    have f3 : (lp .ready none).tmps = a.tmps := by rw [hlp]
    have f4 : (lp .ready none).assign = assign := by rw [hlp]
    have f5 : (lp .ready none).body = body := by rw [hlp]
    rw [f1, f2, f3, f4, f5] at hy
    refine ⟨fn, _, assign, body, hy, roundIn_of_wpIn trivial (wpIn_mono (hassign L pre x W (by omega) hi hRx) ?_)⟩
    rintro e a2 W2 ⟨rfl, hk2, hp2, hx2⟩
    have hl2 := hk2.same _ _ (by omega) hl rfl
    have hd2 := hk2.same _ _ (Nat.le_refl _) hd rfl
    refine ⟨_, run_beginRound hl2 (by rw [hlp]), ?_⟩
    rw [e1]
    have hlt2 := (Array.getElem?_eq_some_iff.1 hl2).1
    have hl3 : (W2.putObj L (.loop (lp .busy none))).heap[L]? = some (.loop (lp .busy none)) := World.putObj_heap_same hlt2
    have hd3 : (W2.putObj L (.loop (lp .busy none))).heap[w.heap.size]? = some (.deferred (some [])) := (World.putObj_heap_other (by omega)).trans hd2
    refine wpIn_mono (hbody L pre x a2 _ (by omega) ((hAx pre x a2).putObj (s := ()) _ hx2 (by omega) hl2 rfl) hbd) ?_
    have fin : ∀ (jump : Option Code) (W4 : World), KeepsFrom w.heap.size (W2.putObj L (.loop (lp .busy none))) W4 →
        (Instr.endRound L jump).run P W4 = .ok (.bool jump.isNone) (W4.putObj L (.loop (lp (if jump.isNone then .ready else .done) jump))) ∧ W4.heap[L]? = some (.loop (lp .busy none)) ∧
        (W4.putObj L (.loop (lp (if jump.isNone then .ready else .done) jump))).heap[L]? = some (.loop (lp (if jump.isNone then .ready else .done) jump)) ∧
        (W4.putObj L (.loop (lp (if jump.isNone then .ready else .done) jump))).heap[w.heap.size]? = some (.deferred (some [])) := fun jump W4 hk4 => by
      have hl4 := hk4.same _ _ (by omega) hl3 rfl
      have hd4 := hk4.same _ _ (Nat.le_refl _) hd3 rfl
      have hr := run_endRound (P := P) jump hl4
      rw [e3] at hr
      exact ⟨hr, hl4, World.putObj_heap_same (Array.getElem?_eq_some_iff.1 hl4).1, (World.putObj_heap_other (by omega)).trans hd4⟩
    have hkm : ∀ {X Y : World}, KeepsFrom w.heap.size X Y → KeepsFrom (w.heap.size + 2) X Y := fun h => ⟨h.size, fun k o hk h1 h2 => h.same k o (by omega) h1 h2⟩
    have hkp : ∀ (X : World) (o : Obj), KeepsFrom (w.heap.size + 2) X (X.putObj L o) := fun X o => KeepsFrom.of_grownBy (grownBy_putObj' X L o) fun j e => by injection e with e; omega
    have hkk : ∀ (W4 : World) (o : Obj), KeepsFrom w.heap.size (W2.putObj L (.loop (lp .busy none))) W4 → KeepsFrom (w.heap.size + 2) W (W4.putObj L o) := fun W4 o hk4 => (((hkm hk2).trans (hkp _ _)).trans (hkm hk4)).trans (hkp _ _)
    rintro e a4 W4 hp
    cases e with
    | normal =>
      obtain ⟨hk4, hp4, hi4, hbd4⟩ := hp
      obtain ⟨hr, hl4, hl5, hd5⟩ := fin none W4 hk4
      exact ⟨_, _, hr, .inl ⟨rfl, ⟨hI.putObj _ hi4 (by omega) hl4 rfl, hl5, hd5⟩, hKt (hKt hp2 (hkb _ _ _ _ hl2)) (hKt hp4 (hkb _ _ _ _ hl4)), hbd4⟩⟩
    | ret =>
      obtain ⟨hk4, hi4⟩ := hp
      obtain ⟨hr, hl4, hl5, hd5⟩ := fin (some .ret) W4 hk4
      exact ⟨_, _, hr, .inr ⟨rfl, ⟨.ret, (hIx _).putObj _ hi4 (by omega) hl4 rfl, hl5, hd5⟩, hkk _ _ hk4⟩⟩
    | exit id =>
      obtain ⟨hk4, hi4⟩ := hp
      obtain ⟨hr, hl4, hl5, hd5⟩ := fin (some (.exit id)) W4 hk4
      exact ⟨_, _, hr, .inr ⟨rfl, ⟨.exit id, (hIx _).putObj _ hi4 (by omega) hl4 rfl, hl5, hd5⟩, hkk _ _ hk4⟩⟩
    | goto t => exact hp.elim
    | panic ch => exact hp.elim
    | outgrown => exact hp.elim
  · -- behind it
    rintro e W2 ⟨⟨v, rfl⟩, (⟨xs, hSx, hi, hl, hd⟩ | ⟨pre, hSp, c, hi, hl, hd⟩)⟩
    · have hr := run_endLoop (P := P) hl (by rw [hlp]; simp)
      rw [e2] at hr
      have hp : (lp .ready none).pending = none := by rw [hlp]
      rw [hp] at hr
      exact ⟨none, _, hr, hdone _ xs _ (Nat.le_refl _) (hS.putObj _ hSx (by omega) hl rfl) (hI.putObj _ hi (by omega) hl rfl) ((World.putObj_heap_other (by omega)).trans hd)⟩
    · have hr := run_endLoop (P := P) hl (by rw [hlp]; simp)
      rw [e2] at hr
      have hp : (lp .done (some c)).pending = some c := by rw [hlp]
      rw [hp] at hr
      exact ⟨some c, _, hr, hstop _ c pre _ (Nat.le_refl _) hSp ((hIx c).putObj _ hi (by omega) hl rfl) ((World.putObj_heap_other (by omega)).trans hd)⟩
end Go.Proofs.YtcffeepgfjpcaaaGreat

namespace Go.Proofs.YtcffeepgfjpcaaaGreat
set_option linter.unusedSimpArgs false
set_option linter.unusedVariables false
open Go.RowKit

end Go.Proofs.YtcffeepgfjpcaaaGreat

namespace Go.Proofs.YtcffeepgfjpcaaaGreat
set_option linter.unusedSimpArgs false
set_option linter.unusedVariables false
open Go.RowKit

end Go.Proofs.YtcffeepgfjpcaaaGreat

namespace Go.Proofs.YtcffeepgfjpcaaaGreat
set_option linter.unusedSimpArgs false
set_option linter.unusedVariables false
open Go.RowKit

end Go.Proofs.YtcffeepgfjpcaaaGreat

namespace Go.Proofs.YtcffeepgfjpcaaaGreat
set_option linter.unusedSimpArgs false
set_option linter.unusedVariables false
open Go.RowKit

end Go.Proofs.YtcffeepgfjpcaaaGreat

namespace Go.Proofs.YtcffeepgfjpcaaaGreat
set_option linter.unusedSimpArgs false
set_option linter.unusedVariables false
open Go.RowKit

end Go.Proofs.YtcffeepgfjpcaaaGreat

namespace Go.Proofs.YtcffeepgfjpcaaaGreat
set_option linter.unusedSimpArgs false
set_option linter.unusedVariables false
open Go.RowKit

end Go.Proofs.YtcffeepgfjpcaaaGreat

namespace Go.Proofs.YtcffeepgfjpcaaaGreat
set_option linter.unusedSimpArgs false
set_option linter.unusedVariables false
open Go.RowKit

end Go.Proofs.YtcffeepgfjpcaaaGreat

namespace Go.Proofs.YtcffeepgfjpcaaaGreat
set_option linter.unusedSimpArgs false
set_option linter.unusedVariables false
open Go.RowKit

theorem OwnR.put_ {α : Type} {E : TypeId} {C : Cdc α} {w : World} {base : Nat} {v : Value} {xs : List α} (h : OwnF E C w base v xs) (g : Nat) (hg : g < base) (cs : Array Value) : OwnF E C (w.setRow g cs) base v xs :=
  OwnR.grownRd h (gsetRow' w g cs) hg
end Go.Proofs.YtcffeepgfjpcaaaGreat

namespace Go.Proofs.YtcffeepgfjpcaaaGreat
set_option linter.unusedSimpArgs false
set_option linter.unusedVariables false
open Go.RowKit Go.Shelf

end Go.Proofs.YtcffeepgfjpcaaaGreat

namespace Go.Proofs.YtcffeepgfjpcaaaGreat
set_option linter.unusedSimpArgs false
set_option linter.unusedVariables false
open Go.RowKit

section
variable {P : Program} {l : List Oper} {dl : List (Option Nat)} {Φ : List Ph} {a : Act} {w : World} {Q : Exit → Act → World → Prop} {nn : Nat}
end
end Go.Proofs.YtcffeepgfjpcaaaGreat

namespace Go.Proofs.YtcffeepgfjpcaaaGreat
set_option linter.unusedSimpArgs false
set_option linter.unusedVariables false
open Go.RowKit Go.Shelf
attribute [local go_sem] Oper.semAt_some

/-- a block of rows -/
def rowT : Obj → Prop
  | .cells _ t _ => t = 132
  | _ => False
/-- what a round keeps: all blocks of cells but block V and, from L0 on, blocks of rows -/
structure KrR (V L0 : Nat) (W W' : World) : Prop where
  size : W.heap.size ≤ W'.heap.size
  same : ∀ (k : Nat) (o : Obj), ¬ (k = V ∨ (L0 ≤ k ∧ rowT o)) → W.heap[k]? = some o → o.isCells = true → W'.heap[k]? = some o
section
variable {V L0 : Nat} {W W' W'' : World}
theorem KrR.refl (V L0 : Nat) (W : World) : KrR V L0 W W := ⟨Nat.le_refl _, fun _ _ _ h _ => h⟩
theorem KrR.trans (h : KrR V L0 W W') (k : KrR V L0 W' W'') : KrR V L0 W W'' := ⟨Nat.le_trans h.size k.size, fun i o hi h1 h2 => k.same i o hi (h.same i o hi h1 h2) h2⟩
theorem KrR.putObj (V L0 : Nat) (W : World) (l : Nat) (o o' : Obj) (ho : W.heap[l]? = some o) (hc : o.isCells = false) : KrR V L0 W (W.putObj l o') :=
  ⟨(grownBy_putObj' W l o').size, fun k q _ hk hq => by
    have hne : k ≠ l := fun e => by subst e; rw [ho] at hk; injection hk with hk; subst hk; rw [hc] at hq; cases hq
    exact ((grownBy_putObj' W l o').block k (Array.getElem?_eq_some_iff.1 hk).1 (fun e => hne (by injection e))).trans hk⟩
theorem KrR.ofGrown {row : Option Nat} (h : W.grownBy W' row) (hr : ∀ k, row = some k → k = V ∨ (L0 ≤ k ∧ ∃ o, W.heap[k]? = some o ∧ rowT o)) : KrR V L0 W W' :=
  ⟨h.size, fun k o hb hk _ => (h.block k (Array.getElem?_eq_some_iff.1 hk).1 (fun e => hb (by
    rcases hr k e.symm with h | ⟨h1, o', h2, h3⟩
    · exact .inl h
    · rw [hk] at h2; injection h2 with h2; subst h2; exact .inr ⟨h1, h3⟩))).trans hk⟩
theorem KrR.ofBelow (h : Below W.heap.size W W') : KrR V L0 W W' := KrR.ofGrown (gbelow h none) fun _ e => by cases e
theorem KrR.block (h : KrR V L0 W W') (hV : L0 ≤ V) {k : Nat} {o : Obj} (hk : k < L0) (hh : W.heap[k]? = some o) (hc : o.isCells = true) : W'.heap[k]? = some o :=
  h.same k o (fun e => by rcases e with e | e <;> omega) hh hc
theorem KrR.cell (h : KrR V L0 W W') (hV : L0 ≤ V) {p : Addr} {v : Value} (hp : W.cell? p = some v) (hk : p.block < L0) : W'.cell? p = some v := by
  cases ho : W.heap[p.block]? with
  | none => simp [World.cell?, ho] at hp
  | some o =>
    cases o with
    | cells c e fr =>
      have := h.block hV hk ho rfl
      simp only [World.cell?, ho] at hp
      simp only [World.cell?, this]
      exact hp
    | _ => simp [World.cell?, ho] at hp
theorem KrR.box {T : TypeId} {g : Nat} {cs : List Value} (h : KrR V L0 W W') (hb : BoxAt T W g cs) (hg : g ≠ V) (hT : g < L0 ∨ T ≠ 132) : BoxAt T W' g cs :=
  h.same g _ (fun e => by
    rcases e with e | ⟨e1, e2⟩
    · exact hg e
    · rcases hT with h | h
      · omega
      · exact h e2) hb rfl
/-- an own row of arcs stays -/
theorem krOwnA (h : KrR V L0 W W') {base : Nat} {v : Value} {xs : List GArc} (hb : V < base) (hr : OwnF 48 cArc W base v xs) : OwnF 48 cArc W' base v xs := by
  obtain ⟨css, hl, ⟨hz, h2⟩, h3, h4⟩ := hr
  refine ⟨css, hl, ⟨hz, ?_⟩, h3, fun k hk => hk.elim⟩
  rcases h2 with h2 | ⟨g, cap, cur, e, hg, hh, r⟩
  · exact .inl h2
  · exact .inr ⟨g, cap, cur, e, hg, h.same g _ (fun e => by
      rcases e with e | ⟨_, e⟩
      · omega
      · exact absurd (show (48 : Nat) = 132 from e) (by decide)) hh rfl, r⟩
end

def goodY (base : Nat) (xs : List (GRow × Value)) (W : World) : Prop := ∀ x ∈ xs, OwnF 48 cArc W base x.2 x.1.arcs
theorem goodY.kr {V L0 base : Nat} {W W' : World} {xs : List (GRow × Value)} (h : goodY base xs W) (hk : KrR V L0 W W') (hb : V < base) : goodY base xs W' := fun x hx => krOwnA hk hb (h x hx)

end Go.Proofs.YtcffeepgfjpcaaaGreat

namespace Go.Proofs.YtcffeepgfjpcaaaGreat
set_option linter.unusedSimpArgs false
set_option linter.unusedVariables false
open Go.RowKit Go.Shelf
attribute [local go_sem] Oper.semAt_some

theorem OwnR.ownk {α : Type} {E : TypeId} {C : Cdc α} {X Y : World} {base : Nat} {v : Value} {xs : List α} {row : Option Nat} (h : OwnF E C X base v xs) (hg : X.grownBy Y row) (hr : ∀ r, row = some r → ∃ o : Obj, X.heap[r]? = some o ∧ o.isCells = false) : OwnF E C Y base v xs := by
  have h0 := h
  obtain ⟨css, hl, ⟨hz, h2⟩, h3, h4⟩ := h0
  refine h.keep hg ?_ (fun _ h => h.elim)
  rcases h2 with ⟨rfl, _⟩ | ⟨g, cap, cur, rfl, _, hh, _⟩
  · exact .inl rfl
  · refine .inr fun e => ?_
    obtain ⟨o, ho, hc⟩ := hr g e.symm
    rw [hh] at ho
    injection ho with ho
    subst ho
    cases hc
/-- an own row's block holds such things -/
theorem OwnR.blkT {α : Type} {E : TypeId} {C : Cdc α} {X : World} {base : Nat} {v : Value} {xs : List α} (h : OwnF E C X base v xs) : ∀ q, v.ownBlock = some q → ∃ cur, X.heap[q]? = some (.cells cur E (0, 0)) := by
  obtain ⟨css, hl, ⟨hz, h2⟩, h3, h4⟩ := h
  rcases h2 with ⟨rfl, _⟩ | ⟨g, cap, cur, rfl, _, hh, _⟩
  · intro q hq; simp [Value.ownBlock] at hq
  · intro q hq
    have e : g = q := by injection hq
    subst e
    exact ⟨cur, hh⟩
section
variable {F : Fence} {n : Nat} {ops : Array Oper} {rest : List Oper} {o : Oper} {a : Act} {w : World} {Q : Exit → Act → World → Prop}
theorem wpListIn_slice_row (hgd : o.guard = none) (x : Operand) (ho : o.op = .buildSlice 74 1 #[(0, x)]) (u1 u2 : Value) (hx : a.eval x = .agg #[u1, u2]) (h1 : u1.oneCell' = true)
    (h : wpListIn F n Tryz.prog ops Q rest (a.put o.dst (.slice (some ⟨w.heap.size, 0, none⟩) 1 1)) (w.alloc (.cells #[u1, u2] 132))) : wpListIn F n Tryz.prog ops Q (o :: rest) a w :=
  wpListIn_plain hgd fun K hK => by
    unfold Oper.wpIn
    refine ⟨by simp [Oper.about, ho], ?_⟩
    rw [Oper.semAt_plain F _ _ (by rw [ho]; intro c hc'; cases hc')]
    have hr := run_slice_row w u1 u2 h1
    unfold execOp
    simp only [ho, List.map_toArray, List.map_cons, List.map_nil, hx, Sem.run_bind, hr, Result.andThen_ok]
    exact hK _ _ h
theorem wpListIn_app1R {α : Type} {E : TypeId} {C : Cdc α} {S : Nat → Prop} (hgd : o.guard = none) (s x : Operand) (t : TypeId)
    (ho : o.op = .call { callee := .builtin .append, args := #[s, x], argTypes := #[t, t] })
    (ht : Tryz.prog.underlying t = some (.slice E)) {z : Value} {bytes : Nat} (hinfo : (Tryz.prog.info? E).map (fun i => (i.zero, i.size, i.bytes)) = some (some z, C.n, bytes)) (hz2 : z.cells.size = C.n) (hn0 : 0 < C.n) (hb0 : bytes ≤ 256)
    {base : Nat} {v : Value} {xs : List α} {y : α} (cs : List Value) (hown : OwnR E C w base S v xs) (hy : C.at_ w S cs y) (hs : a.eval s = v) (hx : a.eval x = .slice (some ⟨w.heap.size, 0, none⟩) 1 1)
    (hsz : xs.length ≤ 549755813887) (hbase : base ≤ w.heap.size)
    (h : ∀ v' w', OwnR E C w' base S v' (xs ++ [y]) → Ext w w' v v' → wpListIn F n Tryz.prog ops Q rest (a.put o.dst v') w') : wpListIn F n Tryz.prog ops Q (o :: rest) a (w.alloc (.cells cs.toArray E)) :=
  wpListIn_plain hgd fun K hK => by
    unfold Oper.wpIn
    refine ⟨by simp [Oper.about, ho, resolve, Target.leads], ?_⟩
    rw [Oper.semAt_plain F _ _ (by rw [ho]; intro c hc'; cases hc')]
    obtain ⟨v', w', hr, h1, h2⟩ := exec_app1R (C := C) (ρ := a.eval) (o := o) s x t ho ht hinfo hz2 hn0 hb0 cs hown hy hs hx hsz hbase
    rw [hr]
    exact hK _ _ (h v' w' h1 h2)
theorem wpListIn_store_sl (hgd : o.guard = none) (x y : Operand) (ho : o.op = .store 74 x y) (g off : Nat) (A : Option Addr) (m c : Nat) (old : Value) (hx : a.eval x = .pointer (some ⟨g, off, none⟩)) (hy : a.eval y = .slice A m c)
    (hc : w.cell? ⟨g, off, none⟩ = some old) (hf : w.frozen? ⟨g, off, none⟩ = false)
    (h : wpListIn F n Tryz.prog ops Q rest (a.put o.dst undef) (w.setCell ⟨g, off, none⟩ (.slice A m c))) : wpListIn F n Tryz.prog ops Q (o :: rest) a w :=
  wpListIn_plain hgd fun K hK => by
    unfold Oper.wpIn
    refine ⟨by simp [Oper.about, ho], ?_⟩
    rw [Oper.semAt_plain F _ _ (by rw [ho]; intro c hc'; cases hc')]
    have hr : (execOp a.eval o).run Tryz.prog w = .ok .skip (w.setCell ⟨g, off, none⟩ (.slice A m c)) := by
      unfold execOp
      simp only [ho, hx, hy]
      simp [go_sem, hc, hf]
    rw [hr]
    exact hK _ _ h
end
/-- the value reads as these rows, all in blocks from base on -/
abbrev RowsF (w : World) (base : Nat) (v : Value) (l : List GRow) : Prop := RowOn cRow w (fun k => base ≤ k ∧ k < w.heap.size) (fun k => base ≤ k ∧ k < w.heap.size) v l
theorem RowsF.byR {w : World} {base : Nat} {v : Value} {l : List GRow} (h : RowsF w base v l) : ByRw w w.heap.size v l := h.mono (fun _ h => h.2) (fun _ h => h.2)
end Go.Proofs.YtcffeepgfjpcaaaGreat

namespace Go.Proofs.YtcffeepgfjpcaaaGreat
set_option linter.unusedSimpArgs false
set_option linter.unusedVariables false
open Go.RowKit Go.Shelf

theorem eachY_over {x : GEdge} {t : List GEdge} {cur : GRow} (h : overP cur x = true) : eachY (x :: t) cur = [(⟨0, []⟩, 10)] := by rw [eachY, if_pos h]
theorem eachY_go {x : GEdge} {t : List GEdge} {cur : GRow} (h : overP cur x = false) : eachY (x :: t) cur = (if fullP cur x = true then [(cur, 0)] else []) ++ eachY t (takeP cur x) := by
  rw [eachY, if_neg (by simp [h])]
theorem full_eq (cur : GRow) (x : GEdge) : fullN cur.arcs.length cur.fr.toNat x = fullP cur x := by
  unfold fullN fullP
  congr 1
  have : cur.fr = x.fr ↔ cur.fr.toNat = x.fr.toNat := UInt32.toNat_inj.symm
  simp only [ne_eq, this]
theorem mgE_eq (cur : GRow) (x : GEdge) : mgE cur.fr.toNat cur.arcs.length (gsum cur.arcs) x = if overP cur x = true then 10 else 0 := by
  unfold mgE overP hasP
  have : cur.fr = x.fr ↔ cur.fr.toNat = x.fr.toNat := UInt32.toNat_inj.symm
  simp only [this]
  by_cases h1 : 0 < cur.arcs.length <;> by_cases h2 : cur.fr.toNat = x.fr.toNat <;> simp [h1, h2]
/-- what is yielded: a row and an error -/
abbrev encE (x : Value × Int) : Array Value := #[x.1, .int .i64 x.2]
def rowBlk (x : Value × Int) : Option Nat :=
  match x.1 with
  | .agg a => (a.getD 1 undef).ownBlock
  | _ => none
structure KrM (V L0 H : Nat) (X Y : World) : Prop where
  kr : KrR V L0 X Y
  bl : Below L0 X Y
  kf : KeepsFrom H X Y
theorem KrM.trans {V L0 H : Nat} {X Y Z : World} (h : KrM V L0 H X Y) (k : KrM V L0 H Y Z) : KrM V L0 H X Z := ⟨h.kr.trans k.kr, h.bl.trans k.bl, h.kf.trans k.kf⟩
/-- an own row of things of another type stays -/
theorem krOwnT {V L0 : Nat} {W W' : World} {α : Type} {E : TypeId} {C : Cdc α} (hE : E ≠ 132) (h : KrR V L0 W W') {base : Nat} {v : Value} {xs : List α} (hb : V < base) (hr : OwnF E C W base v xs) : OwnF E C W' base v xs := by
  obtain ⟨css, hl, ⟨hz, h2⟩, h3, h4⟩ := hr
  refine ⟨css, hl, ⟨hz, ?_⟩, fun i cs x hc hx => C.keep (h3 i cs x hc hx) fun p hp => hp.elim, fun k hk => hk.elim⟩
  rcases h2 with h2 | ⟨g, cap, cur, e, hg, hh, r⟩
  · exact .inl h2
  · exact .inr ⟨g, cap, cur, e, hg, h.same g _ (fun e => by
      rcases e with e | ⟨_, e⟩
      · omega
      · exact hE e) hh rfl, r⟩
theorem owChg {P : Nat → Prop} {W W' : World} (h : Chg P W W') {base : Nat} {v : Value} {xs : List UInt8} (hb : ∀ k cs, P k → W.heap[k]? ≠ some (.cells cs 5 (0, 0))) (hr : Ow W base v xs) : Ow W' base v xs := by
  obtain ⟨hz, h2⟩ := hr
  refine ⟨hz, ?_⟩
  rcases h2 with h2 | ⟨g, cap, cur, e, hg, hh, r⟩
  · exact .inl h2
  · exact .inr ⟨g, cap, cur, e, hg, (h.block g (Array.getElem?_eq_some_iff.1 hh).1 (fun hp => hb g _ hp hh)).trans hh, r⟩
/-- the state of a round: k keys are taken; J: the caller's -/
def EachI (J : List (Value × Int) → World → Prop) (L : List GEdge) (l g yb L0 S0 : Nat) (w : World) (k : Nat) (W : World) : Prop :=
  ∃ ys va vl base cur last, J ys W ∧ BoxAt 166 W g (mgC cur.fr.toNat va vl) ∧ OwnF 48 cArc W base va cur.arcs ∧ base ≤ W.heap.size ∧ S0 ≤ base ∧ (∀ x ∈ ys, ∀ q, rowBlk x = some q → q < base ∧ q ≠ g) ∧
    Ow W S0 vl last ∧ (∀ x, L[k]? = some x → 0 ≤ Lib.compareBytes (keyL x) last) ∧ BoxAt 164 W yb [.func (.yield l) #[] #[]] ∧ (∃ es, eachY L ⟨0, []⟩ = es ++ eachY (L.drop k) cur ∧ es.length = ys.length) ∧
    Below L0 w W ∧ cur.arcs.length ≤ k ∧ gsum cur.arcs ≤ 2147483647
theorem Ow.ownk {X Y : World} {base : Nat} {v : Value} {xs : List UInt8} {row : Option Nat} (hr0 : Ow X base v xs) (hg : X.grownBy Y row) (hr : ∀ r, row = some r → ∃ o : Obj, X.heap[r]? = some o ∧ o.isCells = false) : Ow Y base v xs := by
  obtain ⟨hz, h2⟩ := hr0
  refine ⟨hz, ?_⟩
  rcases h2 with h2 | ⟨g, cap, cur, e, hg2, hh, r⟩
  · exact .inl h2
  · exact .inr ⟨g, cap, cur, e, hg2, (hg.block g (Array.getElem?_eq_some_iff.1 hh).1 (fun e => by
      obtain ⟨o, ho, hc⟩ := hr g e.symm
      rw [hh] at ho
      injection ho with ho
      subst ho
      cases hc)).trans hh, r⟩
theorem AbM.own {α : Type} {B : Nat} {Ts : List TypeId} {blk : α → Option Nat} {J : List α → World → Prop} (h : AbM B Ts blk J) {s : List α} {X Y : World} {row : Option Nat} (hs : J s X) (hg : X.grownBy Y row)
    (hr : ∀ r, row = some r → B ≤ r ∧ ∃ o : Obj, X.heap[r]? = some o ∧ o.isCells = false) : J s Y :=
  h s X Y (fun k => row = some k) hs ⟨hg.os, hg.tape, hg.output, hg.size, fun k hk hn => hg.block k hk fun e => hn e.symm⟩ fun r e _ => by
    obtain ⟨h1, o, h2, h3⟩ := hr r e
    exact ⟨h1, o, h2, .inl h3⟩
theorem EachI.own {J : List (Value × Int) → World → Prop} {B : Nat} {L : List GEdge} {l g yb L0 S0 : Nat} {w : World} {k : Nat} {X Y : World} {row : Option Nat} (hLw : L0 ≤ w.heap.size) (hJ : AbM B [166, 48] rowBlk J) (h : EachI J L l g yb L0 S0 w k X) (hg : X.grownBy Y row)
    (hr : ∀ r, row = some r → (B ≤ r ∧ L0 ≤ r) ∧ ∃ o : Obj, X.heap[r]? = some o ∧ o.isCells = false) : EachI J L l g yb L0 S0 w k Y := by
  obtain ⟨ys, va, vl, base, cur, last, q1, q2, q3, q4, q5, q6, q7, q8, q9, q10, q11, q12, q13⟩ := h
  have hr2 := fun r e => (hr r e).2
  exact ⟨ys, va, vl, base, cur, last, hJ.own q1 hg (fun r e => ⟨(hr r e).1.1, (hr r e).2⟩), q2.ownk hg hr2, OwnR.ownk q3 hg hr2, Nat.le_trans q4 hg.size, q5, q6, q7.ownk hg hr2, q8, q9.ownk hg hr2, q10, q11.grown hg (Nat.le_trans hLw q11.size) (fun r e => (hr r e).1.2), q12, q13⟩
theorem keepsChg {P : Nat → Prop} {X Y : World} (h : Chg P X Y) (B : Nat) (hP : ∀ k, P k → k < X.heap.size → ∃ o : Obj, X.heap[k]? = some o ∧ o.isCells = true) : KeepsFrom B X Y :=
  ⟨h.size, fun k o _ hk hc => (h.block k (Array.getElem?_eq_some_iff.1 hk).1 (fun hp => by
    obtain ⟨o2, h2, h3⟩ := hP k hp (Array.getElem?_eq_some_iff.1 hk).1
    rw [hk] at h2
    injection h2 with h2
    rw [h2, h3] at hc
    cases hc)).trans hk⟩
theorem keepsBelow {X Y : World} (h : Below X.heap.size X Y) (B : Nat) : KeepsFrom B X Y := ⟨h.size, fun k o _ hk _ => (h.block k (Array.getElem?_eq_some_iff.1 hk).1).trans hk⟩
theorem keepsMono {B B' : Nat} {X Y : World} (h : KeepsFrom B X Y) (hB : B ≤ B') : KeepsFrom B' X Y := ⟨h.size, fun k o hk h1 h2 => h.same k o (by omega) h1 h2⟩
theorem over_le {cur : GRow} {x : GEdge} (h : overP cur x = false) : hasP cur x + x.wt.toNat ≤ 2147483647 := by unfold overP at h; simpa using h
theorem not_full {cur : GRow} {x : GEdge} (h : fullP cur x = false) (h0 : 0 < cur.arcs.length) : cur.fr = x.fr := by
  unfold fullP at h
  simp only [h0, decide_true, Bool.true_and, decide_eq_false_iff_not, ne_eq, Classical.not_not] at h
  exact h
theorem takeP_new {cur : GRow} {x : GEdge} (h : fullP cur x = true ∨ cur.arcs.length = 0) : takeP cur x = ⟨x.fr, [⟨x.to, x.wt⟩]⟩ := by unfold takeP; rw [if_pos h]
theorem takeP_more {cur : GRow} {x : GEdge} (h : fullP cur x = false) (h0 : 0 < cur.arcs.length) : takeP cur x = ⟨cur.fr, addArc cur.arcs x⟩ := by
  unfold takeP
  rw [if_neg]
  rintro (h1 | h1)
  · rw [h] at h1; cases h1
  · omega
theorem takeP_sum {cur : GRow} {x : GEdge} (ho : overP cur x = false) : gsum (takeP cur x).arcs ≤ 2147483647 := by
  have h := over_le ho
  cases hf : fullP cur x with
  | true => rw [takeP_new (.inl hf)]; simp only [gsum_one]; omega
  | false =>
    rcases Nat.eq_zero_or_pos cur.arcs.length with h0 | h0
    · rw [takeP_new (.inr h0)]; simp only [gsum_one]; omega
    · rw [takeP_more hf h0]
      have hh : hasP cur x = gsum cur.arcs := by unfold hasP; rw [if_pos ⟨h0, not_full hf h0⟩]
      obtain ⟨i, a, e⟩ : ∃ i a, cur.arcs = i ++ [a] := ⟨_, _, (List.dropLast_concat_getLast (List.ne_nil_of_length_pos h0)).symm⟩
      simp only [e, addArc_last]
      rw [hh, e, gsum_append, gsum_one] at h
      split
      · rw [gsum_append, gsum_one]
        have : (a.wt + x.wt).toNat = a.wt.toNat + x.wt.toNat := u32_add (by omega)
        simp only
        omega
      · rw [gsum_append, gsum_one, gsum_append, gsum_one]
        simp only
        omega
theorem takeP_len {cur : GRow} {x : GEdge} : (takeP cur x).arcs.length ≤ cur.arcs.length + 1 := by
  unfold takeP
  split
  · simp
  · rcases Nat.eq_zero_or_pos cur.arcs.length with h0 | h0
    · have : cur.arcs = [] := List.eq_nil_of_length_eq_zero h0
      simp [this, addArc]
    · obtain ⟨i, a, e⟩ : ∃ i a, cur.arcs = i ++ [a] := ⟨_, _, (List.dropLast_concat_getLast (List.ne_nil_of_length_pos h0)).symm⟩
      simp only [e, addArc_last]
      split <;> simp
theorem take_any22 (w : World) (g base : Nat) (x : GEdge) (cur : GRow) (va vl : Value) (hb : BoxAt 166 w g (mgC cur.fr.toNat va vl)) (hown : OwnF 48 cArc w base va cur.arcs)
    (hbase : base ≤ w.heap.size) (hlen : cur.arcs.length ≤ 1048576) (ho : overP cur x = false) :
    Calls Tryz.prog 95 #[.pointer (some ⟨g, 0, none⟩), edgeV x] w fun e w' => e = .returned (.tuple #[]) ∧ ∃ va' base', BoxAt 166 w' g (mgC (takeP cur x).fr.toNat va' vl) ∧
      OwnF 48 cArc w' base' va' (takeP cur x).arcs ∧ Chg (fun k => k = g ∨ (fullP cur x = false ∧ va.ownBlock = some k)) w w' ∧ base ≤ base' ∧ base' ≤ w'.heap.size ∧ (fullP cur x = true → base' = w.heap.size) := by
  have hov := over_le ho
  by_cases hn : fullP cur x = true ∨ cur.arcs.length = 0
  · obtain ⟨A, c, rfl, _⟩ := hown.form'
    rw [takeP_new hn]
    refine (take_new w g x cur.fr.toNat cur.arcs.length c A vl hb (by rw [full_eq]; exact hn)).mono ?_
    rintro e w' ⟨rfl, va', h1, h2, h3⟩
    exact ⟨rfl, va', w.heap.size, h1, h2, h3.more (fun k _ h => .inl h), hbase, h3.size, fun _ => rfl⟩
  · have hf : fullP cur x = false := by
      cases h : fullP cur x with
      | false => rfl
      | true => exact absurd (.inl h) hn
    have h0 : 0 < cur.arcs.length := by
      rcases Nat.eq_zero_or_pos cur.arcs.length with h | h
      · exact absurd (.inr h) hn
      · exact h
    have hfr := not_full hf h0
    have hh : hasP cur x = gsum cur.arcs := by unfold hasP; rw [if_pos ⟨h0, hfr⟩]
    rw [takeP_more hf h0]
    obtain ⟨i, a, e⟩ : ∃ i a, cur.arcs = i ++ [a] := ⟨_, _, (List.dropLast_concat_getLast (List.ne_nil_of_length_pos h0)).symm⟩
    rw [hh, e, gsum_append, gsum_one] at hov
    rw [e] at hown hlen ⊢
    refine (take_more w g base x cur.fr.toNat va vl i a hb hown (by rw [hfr]) hbase (by simp at hlen; omega) (by omega)).mono ?_
    rintro e w' ⟨rfl, va', h1, h2, h3⟩
    exact ⟨rfl, va', base, h1, h2, h3.more (fun k _ h => h.imp id fun h => ⟨hf, h⟩), Nat.le_refl _, Nat.le_trans hbase h3.size, fun h => by rw [hf] at h; cases h⟩
section
variable {F : Fence} {n : Nat} {ops : Array Oper} {rest : List Oper} {o : Oper} {a : Act} {w : World} {Q : Exit → Act → World → Prop}
theorem wpListIn_load_aggG (hw : Region.wanted o (yielded ops a.tmps) = true) (T : TypeId) (x : Operand) (ho : o.op = .load T x)
    (ad : Addr) (hx : a.eval x = .pointer (some ad)) (cs : List Value) (hc : ∀ (j : Nat) (v : Value), cs[j]? = some v → w.cell? (ad.add j) = some v) {d : TypeDesc} (hu : Tryz.prog.underlying T = some d)
    (hd : (match d with | .struct _ | .array _ _ => true | _ => false) = true) (hi : (Tryz.prog.info? T).map (·.size) = some cs.length)
    (h : wpListIn F n Tryz.prog ops Q rest (a.put o.dst (.agg cs.toArray)) w) : wpListIn F n Tryz.prog ops Q (o :: rest) a w :=
  BigFrame.wpListIn_want hw fun K hK => by
    unfold Oper.wpIn
    refine ⟨by simp [Oper.about, ho], ?_⟩
    rw [Oper.semAt_plain F _ _ (by rw [ho]; intro c hc'; cases hc')]
    unfold execOp
    simp only [ho, hx, Instr.loadAt, Instr.sureAddr, Sem.run_bind, Sem.run_pure, Result.andThen_ok, run_loadVar_cells w ad T cs hc hu hd hi]
    exact hK _ _ h
end
end Go.Proofs.YtcffeepgfjpcaaaGreat

namespace Go.Proofs.YtcffeepgfjpcaaaGreat
set_option linter.unusedSimpArgs false
set_option linter.unusedVariables false
open Go.RowKit Go.Shelf
attribute [local go_sem] Oper.semAt_some

theorem infoMerger : (Tryz.prog.info? 166).map (fun i => (i.zero, i.size, i.bytes)) = some (some (.agg #[.int .u32 0, .slice none 0 0, .slice none 0 0]), 3, 56) := by kernel_rfl
theorem func_not_nilK_ (d : Nat) (W : World) (fn : Fn) (bs : Array Value) : (Op.equalIn (d + 1) 129 (.func fn #[] bs) .nilFunc).run Tryz.prog W = .ok false W := by
  have hu : Tryz.prog.underlying 129 = some (.func #[172] #[] false) := by kernel_rfl
  unfold Op.equalIn
  simp [Sem.run_bind, run_underlying hu, go_sem]
theorem func_not_nilK (W : World) (fn : Fn) (bs : Array Value) : (binOp .eql 129 (.func fn #[] bs) .nilFunc).run Tryz.prog W = .ok (.bool false) W := by
  have h := func_not_nilK_ 9999 W fn bs
  have e : (binOp .eql 129 (.func fn #[] bs) .nilFunc).run Tryz.prog W = ((Op.equalIn (9999 + 1) 129 (.func fn #[] bs) .nilFunc).run Tryz.prog W).andThen fun a w' => .ok (.bool a) w' := by
    simp [binOp, go_sem, Op.equal, Op.maxDepth]
  rw [e, h]
  rfl
theorem roundIn_wide {n n' : Nat} {P : Program} {l l' : Nat} {f : FuncId} {tmps : Array Value} {assign body : Code} {w : World} {R : Ending → World → Prop} (h : RoundIn Fence.wide n P l f tmps assign body w R) : RoundIn (Fence.wide.inRound l') n' P l f tmps assign body w R :=
  ⟨trivial, fun c cs _ => h.2 c cs (room_wide _)⟩

set_option maxRecDepth 100000 in
set_option maxHeartbeats 3200000 in
theorem each_iter (n : Nat) (hn : 3 ≤ n) (w : World) (V L0 : Nat) (hV : L0 ≤ V) (hVw : V < w.heap.size) (L : List GEdge) (vals : List Value) (kb Bs : Nat) (A : Option Addr) (c : Nat)
    (hkb : BoxAt 129 w kb [.func (.func 97) #[] #[.pointer (some ⟨Bs, 0, none⟩)]]) (hbs : BoxAt 70 w Bs [.slice A vals.length c]) (hlen : vals.length = L.length) (hl20 : L.length ≤ 1048576)
    (hcell : ∀ i, (h : i < vals.length) → ∃ ad, A = some ad ∧ ad.block < L0 ∧ w.cell? (ad.add i) = some vals[i])
    (hkeys : ∀ i, (h : i < vals.length) → By w L0 vals[i] (keyL (L[i]'(by omega)))) (hsort : L.Pairwise fun a b => a.num ≤ b.num) (hwt : ∀ x ∈ L, x.wt ≠ 0) :
    IterZ (α := Value × Int) Tryz.prog n 92 #[.pointer (some ⟨kb, 0, none⟩)] encE [166, 48] rowBlk (KrM V L0 (w.heap.size + 2))
      (fun pre x W => ∃ r va, (eachY L ⟨0, []⟩)[pre.length]? = some (r, x.2) ∧ x.1 = .agg #[.int .u32 (r.fr.toNat : Int), va] ∧ OwnF 48 cArc W w.heap.size va r.arcs)
      (fun xs _ => xs.length = (eachY L ⟨0, []⟩).length) (fun _ => True) (fun _ => True) w := by
  intro l J Jx W hW hJ hJx hY h0
  have hfn := func_not_nilK
  have hsW := hW.size
  obtain ⟨w0, hw0⟩ : ∃ w0, w0 = (W.alloc (.cells #[.func (.yield l) #[] #[]] 164)).alloc (.cells [.int .u32 0, .slice none 0 0, .slice none 0 0].toArray 166) := ⟨_, rfl⟩
  have hb0 : Below W.heap.size W w0 := by rw [hw0]; exact bstep (balloc _ _) (balloc _ _)
  have hkW := ((hkb.below hkb.lt hW).bl_ hb0).cell 0 _ rfl
  have hy0 : BoxAt 164 w0 W.heap.size [.func (.yield l) #[] #[]] := by rw [hw0]; exact (BoxAt.new_ _ W [.func (.yield l) #[] #[]]).alloc _
  have hg0 : BoxAt 166 w0 (W.heap.size + 1) (mgC 0 (.slice none 0 0) (.slice none 0 0)) := by
    rw [hw0]
    have := BoxAt.new_ 166 (W.alloc (.cells #[.func (.yield l) #[] #[]] 164)) (mgC 0 (.slice none 0 0) (.slice none 0 0))
    rwa [World.size_alloc] at this
  have hz0 : w0.heap.size = W.heap.size + 2 := by rw [hw0]; simp
  have Hw0 := Lib.hid hw0
  have Hb0 := Lib.hid hb0
  have Hy0 := Lib.hid hy0
  have Hg0 := Lib.hid hg0
  have hbW := hW.mono (show L0 ≤ w.heap.size by omega)
  have hbsW := hbs.below hbs.lt hW
  have hcW : ∀ i, (h : i < vals.length) → ∃ ad, A = some ad ∧ ad.block < L0 ∧ W.cell? (ad.add i) = some vals[i] := fun i h => by
    obtain ⟨ad, e, h1, h2⟩ := hcell i h
    exact ⟨ad, e, h1, (hW.cell (p := ad.add i) (by rw [add_block]; omega)).trans h2⟩
  have HY := Lib.hid hY
  have HJ := Lib.hid hJ
  have HJx := Lib.hid hJx
  have HcW := Lib.hid hcW
  have HkyW := Lib.hid hkeys
  have HbsW := Lib.hid hbsW
  have HbW := Lib.hid hbW
  have H0 := Lib.hid h0
  have Hsort := Lib.hid hsort
  have Hwt := Lib.hid hwt
  clear hw0 hb0 hy0 hg0 hY hJ hJx hcW hbsW hbW hcell hkeys hkb hbs hW h0 hsort hwt
  refine callsIn_of_wp_marks Tryz.func92 rfl trivial ?_ rfl
  simp only [Tryz.ntmps92, List.size_toArray, List.length_cons, List.length_nil, Nat.reduceAdd, Nat.reduceSub, Array.replicate_succ, Array.replicate_zero, List.push_toArray, List.append_toArray, List.nil_append, List.cons_append]
  gi_wp2_with (first
    | ((with_reducible refine wpListIn_alloc_z ?_ 166 ?_ infoMerger [.int .u32 0, .slice none 0 0, .slice none 0 0] ?_ ?_); exact rfl; exact rfl; exact rfl; rw [← Hw0.out]))
  refine range_x (α := Nat) (encs := fun i => #[vals.getD i undef]) (gf := 97) (lb := #[.pointer (some ⟨Bs, 0, none⟩)]) rfl (enters_of Tryz.func97 (by kernel_rfl) rfl)
    (Kr := fun X Y => Below L0 X Y) (fun h k => h.trans k) (fun W2 q o o' h1 h2 h3 => ⟨rfl, rfl, rfl, by simp, fun k hk => World.putObj_heap_other (by omega)⟩) (fun _ => rfl)
    (vals_iter (n - 1) (by omega) w0 L0 Bs (by omega) A c vals (by omega) (HbsW.out.bl_ Hb0.out) (fun i h => by obtain ⟨ad, e, h1, h2⟩ := HcW.out i h; exact ⟨ad, e, h1, (Hb0.out.cell (p := ad.add i) (by rw [add_block]; omega)).trans h2⟩))
    (fun pre W' => EachI J L l (W.heap.size + 1) W.heap.size L0 W.heap.size w pre.length W')
    (fun c pre W' => c = .ret ∧ ((∃ xs, xs.length = (eachY L ⟨0, []⟩).length ∧ J xs W') ∨ ∃ ys, Jx ys W'))
    ?hI ?hIx (fun _ _ _ _ h _ _ => h) ?h0
    (fun _ pre x a' W' => a' = { tmps := #[.func (.yield l) #[] #[], .pointer (some ⟨kb, 0, none⟩), .pointer (some ⟨W.heap.size, 0, none⟩), .pointer (some ⟨W.heap.size + 1, 0, none⟩), vals.getD x undef, undef, undef, undef, undef, .func (.func 97) #[] #[.pointer (some ⟨Bs, 0, none⟩)], .bool false, .func (.func 97) #[] #[.pointer (some ⟨Bs, 0, none⟩)], vals.getD x undef, undef, undef, undef, undef, undef, undef, undef, undef, undef, undef, undef, undef, undef, undef, undef, undef, undef, undef, undef, undef, undef, undef, undef, undef, undef, undef, undef, undef, undef, undef, undef, undef, undef, undef, undef, undef], defers := [] } ∧ x = pre.length ∧ x < vals.length ∧ EachI J L l (W.heap.size + 1) W.heap.size L0 W.heap.size w pre.length W') ?hAx ?assign ?body ?done ?stop
  case hI => exact fun pre X Y row h hg hr => h.own (by omega) HJ.out hg fun r e => ⟨by have := (hr r e).1; omega, (hr r e).2⟩
  case hIx =>
    rintro c pre X Y row ⟨rfl, h⟩ hg hr
    refine ⟨rfl, ?_⟩
    rcases h with ⟨xs, h1, h2⟩ | ⟨ys, h1⟩
    · exact .inl ⟨xs, h1, HJ.out.own h2 hg fun r e => ⟨by have := (hr r e).1; omega, (hr r e).2⟩⟩
    · exact .inr ⟨ys, HJx.out.own h1 hg fun r e => ⟨by have := (hr r e).1; omega, (hr r e).2⟩⟩
  case h0 =>
    refine ⟨[], .slice none 0 0, .slice none 0 0, W.heap.size, ⟨0, []⟩, [], HJ.out.below H0.out Hb0.out, Hg0.out, OwnF.nil_ _ _, by omega, Nat.le_refl _, fun x h => by simp at h, World.ownsRow_nil _ _ _ _, fun x _ => ?_, Hy0.out, ⟨[], rfl, rfl⟩, HbW.out.trans (Hb0.out.mono (by omega)), Nat.zero_le _, by simp [gsum]⟩
    have : (keyL x).length = 12 := keyL_length x
    cases hk : keyL x with
    | nil => rw [hk] at this; cases this
    | cons a t => simp [Lib.compareBytes]
  case hAx =>
    rintro pre x a' _ X Y row ⟨h1, h2, h3, h4⟩ hg hr
    exact ⟨h1, h2, h3, h4.own (by omega) HJ.out hg fun r e => ⟨by have := (hr r e).1; omega, (hr r e).2⟩⟩
  case assign =>
    intro lq pre x W2 hl hi hR
    have HI := Lib.hid hi
    clear hi
    gi_wp2
    exact ⟨KeepsFrom.refl _ _, Below.refl _ _, by omega, HI.out⟩
  case body =>
    rintro lq pre k _ W1 hlq ⟨rfl, hk, hkl, ys, va, vl, base, cur, last, q1, q2, q3, q4, q5, q6, q7, q8, q9, q10, q11, q12, q13⟩ -
    have hpk : (pre ++ [k]).length = k + 1 := by rw [List.length_append, List.length_singleton, hk]
    rw [← hk] at q8 q10 q12
    have hkL : k < L.length := by omega
    obtain ⟨x, hx⟩ : ∃ x, x = L[k] := ⟨_, rfl⟩
    obtain ⟨vk, hvk⟩ : ∃ vk, vk = vals.getD k undef := ⟨_, rfl⟩
    have hvk2 : vals[k] = vk := by rw [hvk]; simp [List.getD, hkl]
    have hby1 : By W1 L0 vk (keyL x) := by rw [← hvk2, hx]; exact (HkyW.out k hkl).below q11
    have hle := q8 x (by rw [hx]; exact List.getElem?_eq_getElem hkL)
    have hw0x : x.wt ≠ 0 := Hwt.out x (by rw [hx]; exact List.getElem_mem hkL)
    have hdr : L.drop k = x :: L.drop (k + 1) := by rw [hx]; exact List.drop_eq_getElem_cons hkL
    rw [hdr] at q10
    have hs1 : W.heap.size + 2 ≤ W1.heap.size := by have := q2.lt; have := q9.lt; omega
    obtain ⟨Aa, ca, rfl, hc1, hc2, hAf⟩ := q3.form'
    have hmay := may_any22 W1 W1.heap.size (W.heap.size + 1) x vk vl last cur.fr.toNat ca Aa cur.arcs q2 (hby1.more (by omega)) q7.by_ (q3.rowLt.mono (fun _ h => h) (fun _ h => h.elim)) (Nat.le_refl _) hle hw0x q13 (by omega)
    rw [mgE_eq] at hmay
    have Hmay := Lib.hid hmay
    have Q1 := Lib.hid q1
    have Q2 := Lib.hid q2
    have Q3 := Lib.hid q3
    have Q6 := Lib.hid q6
    have Q7 := Lib.hid q7
    have Q9 := Lib.hid q9
    have Q10 := Lib.hid q10
    have Q11 := Lib.hid q11
    have Hby := Lib.hid hby1
    have Hx := Lib.hid hx
    have Hvk := Lib.hid hvk
    have hcy := q9.cell 0 _ rfl
    have Hone : Hid (∀ u ∈ edgeC x, u.oneCell' = true) := Lib.hid fun u hu => by
      simp [edgeC] at hu
      rcases hu with rfl | rfl | rfl <;> rfl
    rw [← hvk]
    have Hpk := Lib.hid hpk
    clear hpk hmay q1 q2 q3 q6 q7 q8 q9 q10 q11 hby1 hx hvk hvk2 hle hdr H0 Hb0 Hw0 Hy0 Hg0 HbW hcy hk
    cases ho : overP cur x with
    | true =>
      rw [ho] at Hmay
      simp only [if_true] at Hmay
      gi_wp2
      refine ⟨trivial, fun _ => by omega, ?_⟩
      refine (CallsIn.inRound lq (callsIn_wide.2 Hmay.out)).mono ?_
      rintro _ W2 ⟨rfl, hb2⟩
      have hs2 := hb2.size
      obtain ⟨W3, hW3⟩ : ∃ W3, W3 = W2.alloc (.cells (edgeC x).toArray 55) := ⟨_, rfl⟩
      have hb3 : Below W1.heap.size W1 W3 := by rw [hW3]; exact bstep hb2 (balloc _ _)
      have HW3 := Lib.hid hW3
      have Hb3 := Lib.hid hb3
      have hcy3 := (Q9.out.bl_ hb3).cell 0 _ rfl
      have hJ3 : J ys W3 := HJ.out.below Q1.out hb3
      obtain ⟨fn, tmps, assign, body, hy, hR⟩ := HY.out ys (.agg #[.int .u32 0, .slice none 0 0], 10) W3 hJ3 (by
        obtain ⟨es, he, hel⟩ := Q10.out
        refine ⟨⟨0, []⟩, .slice none 0 0, ?_, rfl, OwnF.nil_ _ _⟩
        rw [he, eachY_over ho, ← hel]
        simp) trivial
      have HR := Lib.hid hR
      unfold edgeV
      clear hW3 hb3 hb2 hR hJ3
      gi_wp2_with (first
        | ((with_reducible refine wpListIn_alloc_z ?_ 55 ?_ infoEdge zeroEc ?_ ?_); exact rfl; exact rfl; exact rfl)
        | ((with_reducible refine wpListIn_store_new ?_ 55 (.tmp 5) (.tmp 16) ?_ zeroEc (edgeC x) ?_ ?_ ?_ ?_ Hone.out ?_); exact rfl; exact rfl; exact rfl; exact rfl; exact infoEdge3; exact rfl; rw [← HW3.out]))
      refine ⟨fun _ => by omega, ?_⟩
      refine (roundIn_wide HR.out).mono ?_
      have Hkf := Lib.hid (keepsBelow Hb3.out w0.heap.size)
      have Hn4 : Hid ((ys ++ [((.agg #[.int .u32 0, .slice none 0 0], 10) : Value × Int)]).length = (eachY L ⟨0, []⟩).length) := Lib.hid (by
        obtain ⟨es, he, hel⟩ := Q10.out
        rw [he, eachY_over ho, List.length_append, List.length_append, hel]
        rfl)
      clear hy hcy3 HR
      rintro e W4 (⟨rfl, hJ4, hk4, -⟩ | ⟨rfl, hJ4, hk4⟩)
      · have Hk4 := Lib.hid (keepsMono hk4.kf (show w.heap.size + 2 ≤ w0.heap.size by omega))
        have HJ4 := Lib.hid hJ4
        clear hk4 hJ4
        gi_wp2
        exact ⟨Hkf.out.trans Hk4.out, rfl, .inl ⟨_, Hn4.out, HJ4.out⟩⟩
      · have Hk4 := Lib.hid (keepsMono hk4 (show w.heap.size + 2 ≤ w0.heap.size by omega))
        have HJ4 := Lib.hid hJ4
        clear hk4 hJ4
        gi_wp2
        exact ⟨Hkf.out.trans Hk4.out, rfl, .inr ⟨_, HJ4.out⟩⟩
    | false =>
      rw [ho] at Hmay
      simp only [Bool.false_eq_true, if_false] at Hmay
      gi_wp2
      refine ⟨trivial, fun _ => by omega, ?_⟩
      refine (CallsIn.inRound lq (callsIn_wide.2 Hmay.out)).mono ?_
      rintro _ W2 ⟨rfl, hb2⟩
      have hs2 := hb2.size
      obtain ⟨W3, hW3⟩ : ∃ W3, W3 = W2.alloc (.cells (edgeC x).toArray 55) := ⟨_, rfl⟩
      have hb3 : Below W1.heap.size W1 W3 := by rw [hW3]; exact bstep hb2 (balloc _ _)
      have hE3 : BoxAt 55 W3 W2.heap.size (edgeC x) := by rw [hW3]; exact BoxAt.new_ _ _ _
      have hG3 := Q2.out.bl_ hb3
      have hz3 : W3.heap.size = W2.heap.size + 1 := by rw [hW3]; simp
      have hrc : ∀ (j : Nat) (v : Value), [Value.int .u32 (cur.fr.toNat : Int), Value.slice Aa cur.arcs.length ca][j]? = some v → W3.cell? ((⟨W.heap.size + 1, 0, none⟩ : Addr).add j) = some v := fun j v h => hG3.cells j v (by
        match j, h with
        | 0, h => exact h
        | 1, h => exact h)
      obtain ⟨W4, hW4⟩ : ∃ W4, W4 = W3.alloc (.cells [Value.int .u32 (cur.fr.toNat : Int), Value.slice Aa cur.arcs.length ca].toArray 132) := ⟨_, rfl⟩
      have hb4 : Below W3.heap.size W3 W4 := by rw [hW4]; exact balloc _ _
      have hD4 : BoxAt 132 W4 W3.heap.size [Value.int .u32 (cur.fr.toNat : Int), Value.slice Aa cur.arcs.length ca] := by rw [hW4]; exact BoxAt.new_ _ _ _
      have hE4 := hE3.bl_ hb4
      have hG4 := hG3.bl_ hb4
      have hfull := full_any W4 (W.heap.size + 1) x cur.fr.toNat cur.arcs.length ca Aa vl hG4
      rw [full_eq] at hfull
      have hz4 : W4.heap.size = W3.heap.size + 1 := by rw [hW4]; simp
      have HW3 := Lib.hid hW3
      have HW4 := Lib.hid hW4
      have Hb4 := Lib.hid (bstep hb3 hb4)
      have HG4 := Lib.hid hG4
      have HE4 := Lib.hid hE4
      have HD4 := Lib.hid hD4
      have Hrc := Lib.hid hrc
      have Hfull := Lib.hid hfull
      have Hone2 := Lib.hid (rowC_one cur.fr.toNat Aa cur.arcs.length ca)
      have Hz3 := Lib.hid hz3
      have Hz4 := Lib.hid hz4
      unfold edgeV at Hfull ⊢
      clear hW3 hW4 hb2 hb3 hb4 hG3 hG4 hE3 hE4 hD4 hrc hfull hz3 hz4
      gi_wp2_with (first
        | ((with_reducible refine wpListIn_alloc_z ?_ 55 ?_ infoEdge zeroEc ?_ ?_); exact rfl; exact rfl; exact rfl)
        | ((with_reducible refine wpListIn_store_new ?_ 55 (.tmp 5) (.tmp 16) ?_ zeroEc (edgeC x) ?_ ?_ ?_ ?_ Hone.out ?_); exact rfl; exact rfl; exact rfl; exact rfl; exact infoEdge3; exact rfl; rw [← HW3.out])
        | ((with_reducible refine wpListIn_load_agg ?_ 132 (.tmp 24) ?_ ⟨W.heap.size + 1, 0, none⟩ ?_ [.int .u32 (cur.fr.toNat : Int), .slice Aa cur.arcs.length ca] Hrc.out Tryz.underlying132 ?_ ?_ ?_); exact rfl; exact rfl; exact rfl; exact rfl; exact infoRow2)
        | ((with_reducible refine wpListIn_alloc_z ?_ 132 ?_ infoRow [.int .u32 0, .slice none 0 0] ?_ ?_); exact rfl; exact rfl; exact rfl)
        | ((with_reducible refine wpListIn_store_new ?_ 132 (.tmp 7) (.tmp 25) ?_ [.int .u32 0, .slice none 0 0] [.int .u32 (cur.fr.toNat : Int), .slice Aa cur.arcs.length ca] ?_ ?_ ?_ ?_ Hone2.out ?_); exact rfl; exact rfl; exact rfl; exact rfl; exact infoRow2; exact rfl; rw [← HW4.out])
        | ((with_reducible refine wpListIn_load_agg ?_ 55 (.tmp 5) ?_ ⟨W2.heap.size, 0, none⟩ ?_ (edgeC x) HE4.out.cells Tryz.underlying55 ?_ ?_ ?_); exact rfl; exact rfl; exact rfl; exact rfl; exact infoEdge3))
      -- BODY2
      refine ⟨trivial, fun _ => by omega, ?_⟩
      refine (CallsIn.inRound lq (callsIn_wide.2 Hfull.out)).mono ?_
      rintro _ W5 ⟨rfl, hb5⟩
      have hB5 : Below W1.heap.size W1 W5 := bstep Hb4.out hb5
      have hG5 := HG4.out.bl_ hb5
      have hE5 := HE4.out.bl_ hb5
      have hD5 := HD4.out.bl_ hb5
      have hY5 := Q9.out.bl_ hB5
      have hA5 := Q3.out.below_ hB5
      have hJ5 : J ys W5 := HJ.out.below Q1.out hB5
      have hs5 := hB5.size
      have hs54 := hb5.size
      clear Hfull Hmay Hrc HW3 HW4 HE4 HD4 HG4 Hb4 Hone2 hb5
      cases hf : fullP cur x with
      | false =>
        obtain ⟨ys6, hys6⟩ : ∃ ys6, ys6 = ys := ⟨_, rfl⟩
        obtain ⟨W6, hW6⟩ : ∃ W6, W6 = W5 := ⟨_, rfl⟩
        have hJ6 : J ys6 W6 := by rw [hys6, hW6]; exact hJ5
        have hG6 : BoxAt 166 W6 (W.heap.size + 1) (mgC cur.fr.toNat (.slice Aa cur.arcs.length ca) vl) := by rw [hW6]; exact hG5
        have hE6 : BoxAt 55 W6 W2.heap.size (edgeC x) := by rw [hW6]; exact hE5
        have hA6 : OwnF 48 cArc W6 base (.slice Aa cur.arcs.length ca) cur.arcs := by rw [hW6]; exact hA5
        have hY6 : BoxAt 164 W6 W.heap.size [.func (.yield l) #[] #[]] := by rw [hW6]; exact hY5
        have hB6 : Below L0 W1 W6 := by rw [hW6]; exact hB5.mono (by omega)
        have hK6 : KeepsFrom w0.heap.size W1 W6 := by rw [hW6]; exact keepsBelow hB5 _
        have hq6 : ∀ y ∈ ys6, ∀ q, rowBlk y = some q → q < (if fullP cur x = true then W6.heap.size else base) ∧ q ≠ W.heap.size + 1 := by
          rw [hys6, hf]
          simp only [Bool.false_eq_true, if_false]
          exact Q6.out
        have hes6 : ∃ es, eachY L ⟨0, []⟩ = es ++ eachY (L.drop (k + 1)) (takeP cur x) ∧ es.length = ys6.length := by
          obtain ⟨es, he, hel⟩ := Q10.out
          rw [eachY_go ho, hf] at he
          rw [hys6]
          exact ⟨es, by simpa using he, hel⟩
        rw [← hW6]
        clear hJ5 hG5 hE5 hD5 hY5 hA5 hB5 hys6 hW6 Q1 Q2 Q3 Q6 Q9 Q10
        have htk := take_any22 W6 (W.heap.size + 1) base x cur (.slice Aa cur.arcs.length ca) vl hG6 hA6 (by have := hB6.size; omega) (by omega) ho
        unfold edgeV at htk
        have Htk := Lib.hid htk
        have HJ6 := Lib.hid hJ6
        have HG6 := Lib.hid hG6
        have HE6 := Lib.hid hE6
        have HA6 := Lib.hid hA6
        have HY6 := Lib.hid hY6
        have HB6 := Lib.hid hB6
        have HK6 := Lib.hid hK6
        have Hq6 := Lib.hid hq6
        have Hes6 := Lib.hid hes6
        have hs6 := hB6.size
        clear htk hJ6 hG6 hE6 hA6 hY6 hB6 hK6 hq6 hes6
        gi_upto_region 11 with ((with_reducible refine And.intro ?_ ?_); (intro f hf; cases hf))
        gi_wp2_with ((with_reducible refine wpListIn_load_agg ?_ 55 (.tmp 5) ?_ ⟨W2.heap.size, 0, none⟩ ?_ (edgeC x) HE6.out.cells Tryz.underlying55 ?_ ?_ ?_); exact rfl; exact rfl; exact rfl; exact rfl; exact infoEdge3)
        refine ⟨trivial, fun _ => by omega, ?_⟩
        refine (CallsIn.inRound lq (callsIn_wide.2 Htk.out)).mono ?_
        rintro _ W7 ⟨rfl, va7, b7, hG7, hA7, hc7, hb7, hb7', hb7f⟩
        have hs7 := hc7.size
        have hPg : ∀ r, (r = W.heap.size + 1 ∨ (fullP cur x = false ∧ (Value.slice Aa cur.arcs.length ca).ownBlock = some r)) → W.heap.size ≤ r := fun r hr => by
          rcases hr with rfl | ⟨_, hr⟩
          · omega
          · have := (HA6.out.blk r hr).1; omega
        have hB7 : Below L0 W1 W7 := HB6.out.trans (hc7.below (B := L0) (by omega) fun r hr => by have := hPg r hr; omega)
        have hJ7 : J ys6 W7 := HJ.out ys6 W6 W7 _ HJ6.out hc7 fun r hr hlt => ⟨hPg r hr, by
          rcases hr with rfl | ⟨hff, hr⟩
          · exact ⟨_, HG6.out, .inr ⟨_, rfl, by simp, fun y hy e => (Hq6.out y hy _ e).2 rfl⟩⟩
          · obtain ⟨cu, hcu⟩ := OwnR.blkT HA6.out r hr
            refine ⟨_, hcu, .inr ⟨_, rfl, by simp, fun y hy e => ?_⟩⟩
            have h1 := (HA6.out.blk r hr).1
            have h2 := (Hq6.out y hy _ e).1
            rw [hff] at h2
            simp only [Bool.false_eq_true, if_false] at h2
            omega⟩
        have hY7 : BoxAt 164 W7 W.heap.size [.func (.yield l) #[] #[]] := HY6.out.chg hc7 fun hp => by
          rcases hp with h | ⟨_, h⟩
          · omega
          · exact ownR_ne_boxT (by decide) HA6.out HY6.out _ h rfl
        have hK7 : KeepsFrom w0.heap.size W1 W7 := HK6.out.trans (keepsChg hc7 _ fun r hr _ => by
          rcases hr with rfl | ⟨_, hr⟩
          · exact ⟨_, HG6.out, rfl⟩
          · obtain ⟨cu, hcu⟩ := OwnR.blkT HA6.out r hr
            exact ⟨_, hcu, rfl⟩)
        have hby7 : By W7 W7.heap.size vk (keyL x) := (Hby.out.below hB7).more (by omega)
        have hcl := clone8 W7 vk (keyL x) hby7 (by rw [keyL_length]; omega)
        have Hcl := Lib.hid hcl
        have HG7 := Lib.hid hG7
        have HA7 := Lib.hid hA7
        have HB7 := Lib.hid hB7
        have HJ7 := Lib.hid hJ7
        have HY7 := Lib.hid hY7
        have HK7 := Lib.hid hK7
        have Hb7f := Lib.hid hb7f
        have Hq7 : Hid (∀ y ∈ ys6, ∀ q, rowBlk y = some q → q < b7 ∧ q ≠ W.heap.size + 1) := Lib.hid fun y hy q hq => by
          obtain ⟨h1, h2⟩ := Hq6.out y hy q hq
          refine ⟨?_, h2⟩
          cases hff : fullP cur x with
          | true => rw [hff] at h1; rw [hb7f hff]; exact h1
          | false => rw [hff] at h1; simp only [Bool.false_eq_true, if_false] at h1; omega
        clear hcl hG7 hA7 hc7 hB7 hJ7 hY7 hK7 hb7f hPg hby7 Htk HJ6 HG6 HE6 HA6 HY6 HB6 HK6 Hq6
        gi_wp2
        refine ⟨trivial, fun _ => by omega, ?_⟩
        refine (CallsIn.inRound lq (callsIn_wide.2 Hcl.out)).mono ?_
        rintro _ W8 ⟨v8, rfl, ho8, hb8⟩
        have hs8 := hb8.size
        have hG8 := HG7.out.bl_ hb8
        have hc8 := hG8.cell 2 _ rfl
        have hf8 := hG8.frozen 2
        have hA8 := HA7.out.below_ hb8
        have hY8 := HY7.out.bl_ hb8
        obtain ⟨A8, c8, rfl, _⟩ := ho8.by_
        have HG8 := Lib.hid hG8
        have HA8 := Lib.hid hA8
        have HY8 := Lib.hid hY8
        have Ho8 := Lib.hid ho8
        have Hb8 := Lib.hid hb8
        clear hG8 hA8 hY8 ho8 hb8 HG7 HA7 HY7 Hcl
        gi_wp2
        have hset : Chg (fun r => r = W.heap.size + 1) W8 (W8.setCell ⟨W.heap.size + 1, 2, none⟩ (Value.slice A8 (keyL x).length c8)) := Chg.set _ _ _ rfl
        refine ⟨(HK7.out.trans (keepsBelow Hb8.out _)).trans (keepsChg hset _ fun r hr _ => by subst hr; exact ⟨_, HG8.out, rfl⟩), (HB7.out.trans (Hb8.out.mono (by omega))).trans (hset.below (by omega) fun r hr => by omega), ?_, trivial⟩
        dsimp only
        rw [Hpk.out]
        refine ⟨ys6, va7, .slice A8 (keyL x).length c8, b7, takeP cur x, keyL x, HJ.out ys6 W8 _ _ (HJ.out.below HJ7.out Hb8.out) hset (fun r hr _ => by subst hr; exact ⟨by omega, _, HG8.out, .inr ⟨_, rfl, by simp, fun y hy e => (Hq7.out y hy _ e).2 rfl⟩⟩),
          HG8.out.put 2 _, OwnR.chgT HA8.out hset (fun r hr e => ownR_ne_boxT (by decide) HA8.out HG8.out r hr e) (fun _ h => h.elim), by simp only [World.setCell, Array.size_modify]; omega, by omega, Hq7.out, owChg hset (fun r cs hr e => by subst hr; exact absurd (HG8.out.symm.trans e) (by intro h; injection h with h; injection h with _ h _; exact absurd h (by decide))) (Ho8.out.mono (by omega)), fun y hy => ?_, HY8.out.chg hset (by omega), Hes6.out,
          ((Q11.out.trans HB7.out).trans (Hb8.out.mono (by omega))).trans (hset.below (by omega) fun r hr => by omega), by have := takeP_len (cur := cur) (x := x); omega, takeP_sum ho⟩
        obtain ⟨hk1, hye⟩ := List.getElem?_eq_some_iff.1 hy
        rw [cmp_key]
        have hnum : x.num ≤ y.num := by
          rw [Hx.out, ← hye]
          exact List.pairwise_iff_getElem.1 Hsort.out k (k + 1) hkL hk1 (by omega)
        rw [if_neg (by omega)]
        split <;> omega
      | true =>
        obtain ⟨fn, tmps, assign, body, hy, hR⟩ := HY.out ys (.agg #[.int .u32 (cur.fr.toNat : Int), .slice Aa cur.arcs.length ca], 0) W5 hJ5 (by
          obtain ⟨es, he, hel⟩ := Q10.out
          refine ⟨cur, .slice Aa cur.arcs.length ca, ?_, rfl, hA5.more (by omega)⟩
          rw [he, eachY_go ho, hf, ← hel]
          simp) trivial
        have HR := Lib.hid hR
        have HJ5 := Lib.hid hJ5
        have HG5 := Lib.hid hG5
        have HE5 := Lib.hid hE5
        have HD5 := Lib.hid hD5
        have HA5 := Lib.hid hA5
        have HY5 := Lib.hid hY5
        have HB5 := Lib.hid hB5
        have hcy5 := hY5.cell 0 _ rfl
        clear hR hJ5 hG5 hE5 hD5 hY5 hA5 hB5 Q1 Q2 Q3 Q9
        gi_wp2_with ((with_reducible refine wpListIn_load_aggG ?_ 132 (.tmp 7) ?_ ⟨W3.heap.size, 0, none⟩ ?_ [.int .u32 (cur.fr.toNat : Int), .slice Aa cur.arcs.length ca] HD5.out.cells Tryz.underlying132 ?_ ?_ ?_); exact rfl; exact rfl; exact rfl; exact rfl; exact infoRow2)
        refine ⟨fun _ => by omega, ?_⟩
        refine (roundIn_wide HR.out).mono ?_
        have Hkf := Lib.hid (keepsBelow HB5.out w0.heap.size)
        clear hy hcy5 HR
        rintro e W6 (⟨rfl, hJ7, hk4, -⟩ | ⟨rfl, hJ7, hk4⟩)
        · obtain ⟨ys6, hys6⟩ : ∃ ys6, ys6 = ys ++ [((.agg #[.int .u32 (cur.fr.toNat : Int), .slice Aa cur.arcs.length ca], 0) : Value × Int)] := ⟨_, rfl⟩
          have hJ6 : J ys6 W6 := by rw [hys6]; exact hJ7
          have hG6 : BoxAt 166 W6 (W.heap.size + 1) (mgC cur.fr.toNat (.slice Aa cur.arcs.length ca) vl) := hk4.kr.box HG5.out (by omega) (.inr (by decide))
          have hE6 : BoxAt 55 W6 W2.heap.size (edgeC x) := hk4.kr.box HE5.out (by omega) (.inr (by decide))
          have hA6 : OwnF 48 cArc W6 base (.slice Aa cur.arcs.length ca) cur.arcs := krOwnT (by decide) hk4.kr (by omega) HA5.out
          have hY6 : BoxAt 164 W6 W.heap.size [.func (.yield l) #[] #[]] := hk4.kr.box HY5.out (by omega) (.inr (by decide))
          have hB6 : Below L0 W1 W6 := (HB5.out.mono (by omega)).trans hk4.bl
          have hK6 : KeepsFrom w0.heap.size W1 W6 := Hkf.out.trans (keepsMono hk4.kf (show w.heap.size + 2 ≤ w0.heap.size by omega))
          have hs56 := hk4.kr.size
          have hq6 : ∀ y ∈ ys6, ∀ q, rowBlk y = some q → q < (if fullP cur x = true then W6.heap.size else base) ∧ q ≠ W.heap.size + 1 := by
            rw [hys6, hf]
            simp only [if_true]
            intro y hy q hq
            rcases List.mem_append.1 hy with h | h
            · obtain ⟨h1, h2⟩ := Q6.out y h q hq
              exact ⟨by omega, h2⟩
            · rw [List.mem_singleton] at h
              subst h
              exact ⟨by have := (HA5.out.blk q hq).2; omega, ownR_ne_boxT (by decide) HA5.out HG5.out q hq⟩
          have hes6 : ∃ es, eachY L ⟨0, []⟩ = es ++ eachY (L.drop (k + 1)) (takeP cur x) ∧ es.length = ys6.length := by
            obtain ⟨es, he, hel⟩ := Q10.out
            rw [eachY_go ho, hf] at he
            rw [hys6]
            exact ⟨es ++ [(cur, 0)], by rw [he]; simp, by simp [hel]⟩
          clear hJ7 hk4 HJ5 HG5 HE5 HD5 HA5 HY5 HB5 Hkf hys6 Q6 Q10
          have htk := take_any22 W6 (W.heap.size + 1) base x cur (.slice Aa cur.arcs.length ca) vl hG6 hA6 (by have := hB6.size; omega) (by omega) ho
          unfold edgeV at htk
          have Htk := Lib.hid htk
          have HJ6 := Lib.hid hJ6
          have HG6 := Lib.hid hG6
          have HE6 := Lib.hid hE6
          have HA6 := Lib.hid hA6
          have HY6 := Lib.hid hY6
          have HB6 := Lib.hid hB6
          have HK6 := Lib.hid hK6
          have Hq6 := Lib.hid hq6
          have Hes6 := Lib.hid hes6
          have hs6 := hB6.size
          clear htk hJ6 hG6 hE6 hA6 hY6 hB6 hK6 hq6 hes6
          gi_upto_region 11 with ((with_reducible refine And.intro ?_ ?_); (intro f hf; cases hf))
          gi_wp2_with ((with_reducible refine wpListIn_load_agg ?_ 55 (.tmp 5) ?_ ⟨W2.heap.size, 0, none⟩ ?_ (edgeC x) HE6.out.cells Tryz.underlying55 ?_ ?_ ?_); exact rfl; exact rfl; exact rfl; exact rfl; exact infoEdge3)
          refine ⟨trivial, fun _ => by omega, ?_⟩
          refine (CallsIn.inRound lq (callsIn_wide.2 Htk.out)).mono ?_
          rintro _ W7 ⟨rfl, va7, b7, hG7, hA7, hc7, hb7, hb7', hb7f⟩
          have hs7 := hc7.size
          have hPg : ∀ r, (r = W.heap.size + 1 ∨ (fullP cur x = false ∧ (Value.slice Aa cur.arcs.length ca).ownBlock = some r)) → W.heap.size ≤ r := fun r hr => by
            rcases hr with rfl | ⟨_, hr⟩
            · omega
            · have := (HA6.out.blk r hr).1; omega
          have hB7 : Below L0 W1 W7 := HB6.out.trans (hc7.below (B := L0) (by omega) fun r hr => by have := hPg r hr; omega)
          have hJ7 : J ys6 W7 := HJ.out ys6 W6 W7 _ HJ6.out hc7 fun r hr hlt => ⟨hPg r hr, by
            rcases hr with rfl | ⟨hff, hr⟩
            · exact ⟨_, HG6.out, .inr ⟨_, rfl, by simp, fun y hy e => (Hq6.out y hy _ e).2 rfl⟩⟩
            · obtain ⟨cu, hcu⟩ := OwnR.blkT HA6.out r hr
              refine ⟨_, hcu, .inr ⟨_, rfl, by simp, fun y hy e => ?_⟩⟩
              have h1 := (HA6.out.blk r hr).1
              have h2 := (Hq6.out y hy _ e).1
              rw [hff] at h2
              simp only [Bool.false_eq_true, if_false] at h2
              omega⟩
          have hY7 : BoxAt 164 W7 W.heap.size [.func (.yield l) #[] #[]] := HY6.out.chg hc7 fun hp => by
            rcases hp with h | ⟨_, h⟩
            · omega
            · exact ownR_ne_boxT (by decide) HA6.out HY6.out _ h rfl
          have hK7 : KeepsFrom w0.heap.size W1 W7 := HK6.out.trans (keepsChg hc7 _ fun r hr _ => by
            rcases hr with rfl | ⟨_, hr⟩
            · exact ⟨_, HG6.out, rfl⟩
            · obtain ⟨cu, hcu⟩ := OwnR.blkT HA6.out r hr
              exact ⟨_, hcu, rfl⟩)
          have hby7 : By W7 W7.heap.size vk (keyL x) := (Hby.out.below hB7).more (by omega)
          have hcl := clone8 W7 vk (keyL x) hby7 (by rw [keyL_length]; omega)
          have Hcl := Lib.hid hcl
          have HG7 := Lib.hid hG7
          have HA7 := Lib.hid hA7
          have HB7 := Lib.hid hB7
          have HJ7 := Lib.hid hJ7
          have HY7 := Lib.hid hY7
          have HK7 := Lib.hid hK7
          have Hb7f := Lib.hid hb7f
          have Hq7 : Hid (∀ y ∈ ys6, ∀ q, rowBlk y = some q → q < b7 ∧ q ≠ W.heap.size + 1) := Lib.hid fun y hy q hq => by
            obtain ⟨h1, h2⟩ := Hq6.out y hy q hq
            refine ⟨?_, h2⟩
            cases hff : fullP cur x with
            | true => rw [hff] at h1; rw [hb7f hff]; exact h1
            | false => rw [hff] at h1; simp only [Bool.false_eq_true, if_false] at h1; omega
          clear hcl hG7 hA7 hc7 hB7 hJ7 hY7 hK7 hb7f hPg hby7 Htk HJ6 HG6 HE6 HA6 HY6 HB6 HK6 Hq6
          gi_wp2
          refine ⟨trivial, fun _ => by omega, ?_⟩
          refine (CallsIn.inRound lq (callsIn_wide.2 Hcl.out)).mono ?_
          rintro _ W8 ⟨v8, rfl, ho8, hb8⟩
          have hs8 := hb8.size
          have hG8 := HG7.out.bl_ hb8
          have hc8 := hG8.cell 2 _ rfl
          have hf8 := hG8.frozen 2
          have hA8 := HA7.out.below_ hb8
          have hY8 := HY7.out.bl_ hb8
          obtain ⟨A8, c8, rfl, _⟩ := ho8.by_
          have HG8 := Lib.hid hG8
          have HA8 := Lib.hid hA8
          have HY8 := Lib.hid hY8
          have Ho8 := Lib.hid ho8
          have Hb8 := Lib.hid hb8
          clear hG8 hA8 hY8 ho8 hb8 HG7 HA7 HY7 Hcl
          gi_wp2
          have hset : Chg (fun r => r = W.heap.size + 1) W8 (W8.setCell ⟨W.heap.size + 1, 2, none⟩ (Value.slice A8 (keyL x).length c8)) := Chg.set _ _ _ rfl
          refine ⟨(HK7.out.trans (keepsBelow Hb8.out _)).trans (keepsChg hset _ fun r hr _ => by subst hr; exact ⟨_, HG8.out, rfl⟩), (HB7.out.trans (Hb8.out.mono (by omega))).trans (hset.below (by omega) fun r hr => by omega), ?_, trivial⟩
          dsimp only
          rw [Hpk.out]
          refine ⟨ys6, va7, .slice A8 (keyL x).length c8, b7, takeP cur x, keyL x, HJ.out ys6 W8 _ _ (HJ.out.below HJ7.out Hb8.out) hset (fun r hr _ => by subst hr; exact ⟨by omega, _, HG8.out, .inr ⟨_, rfl, by simp, fun y hy e => (Hq7.out y hy _ e).2 rfl⟩⟩),
            HG8.out.put 2 _, OwnR.chgT HA8.out hset (fun r hr e => ownR_ne_boxT (by decide) HA8.out HG8.out r hr e) (fun _ h => h.elim), by simp only [World.setCell, Array.size_modify]; omega, by omega, Hq7.out, owChg hset (fun r cs hr e => by subst hr; exact absurd (HG8.out.symm.trans e) (by intro h; injection h with h; injection h with _ h _; exact absurd h (by decide))) (Ho8.out.mono (by omega)), fun y hy => ?_, HY8.out.chg hset (by omega), Hes6.out,
            ((Q11.out.trans HB7.out).trans (Hb8.out.mono (by omega))).trans (hset.below (by omega) fun r hr => by omega), by have := takeP_len (cur := cur) (x := x); omega, takeP_sum ho⟩
          obtain ⟨hk1, hye⟩ := List.getElem?_eq_some_iff.1 hy
          rw [cmp_key]
          have hnum : x.num ≤ y.num := by
            rw [Hx.out, ← hye]
            exact List.pairwise_iff_getElem.1 Hsort.out k (k + 1) hkL hk1 (by omega)
          rw [if_neg (by omega)]
          split <;> omega
        · have Hk4 := Lib.hid (keepsMono hk4 (show w.heap.size + 2 ≤ w0.heap.size by omega))
          have HJ7 := Lib.hid hJ7
          clear hk4 hJ7
          gi_wp2
          exact ⟨Hkf.out.trans Hk4.out, rfl, .inr ⟨_, HJ7.out⟩⟩
  case done =>
    rintro D xs W2 hD rfl ⟨ys, va, vl, base, cur, last, q1, q2, q3, q4, q5, q6, q7, q8, q9, q10, q11, q12, q13⟩ hK
    rw [List.length_range] at q10
    rw [hlen, List.drop_length] at q10
    obtain ⟨Aa, ca, rfl, hc1, hc2, hAf⟩ := q3.form'
    have hrc : ∀ (j : Nat) (v : Value), [Value.int .u32 (cur.fr.toNat : Int), Value.slice Aa cur.arcs.length ca][j]? = some v → W2.cell? ((⟨W.heap.size + 1, 0, none⟩ : Addr).add j) = some v := fun j v h => q2.cells j v (by
      match j, h with
      | 0, h => exact h
      | 1, h => exact h)
    have hcy := q9.cell 0 _ rfl
    have hcg := q2.cell 1 _ rfl
    have Hrc := Lib.hid hrc
    have Q1 := Lib.hid q1
    have Q3 := Lib.hid q3
    have Q10 := Lib.hid q10
    have hs2 := q11.size
    have hDw : w.heap.size + 2 ≤ D := by omega
    clear q1 q2 q3 q6 q7 q8 q9 q10 q11 hrc
    rcases Nat.eq_zero_or_pos cur.arcs.length with h0 | h0
    · have hd : decide (0 < cur.arcs.length) = false := by simp [h0]
      have Hh0 := Lib.hid h0
      have Hn : Hid (ys.length = (eachY L ⟨0, []⟩).length) := Lib.hid (by
        obtain ⟨es, he, hel⟩ := Q10.out
        rw [he, ← hel]
        simp [eachY, curL, h0])
      clear h0
      gi_wp2
      refine ⟨by simp, .inl ⟨_, _, rfl, run_takeDeferred hK, ?_⟩⟩
      exact ⟨_, results_none rfl _ _ _, ⟨_, rfl⟩, .inl ⟨ys, Hn.out, HJ.out.putObj _ Q1.out (by omega) hK rfl⟩⟩
    · have hd : decide (0 < cur.arcs.length) = true := by simp [h0]
      have Hn : Hid ((ys ++ [((.agg #[.int .u32 (cur.fr.toNat : Int), .slice Aa cur.arcs.length ca], 0) : Value × Int)]).length = (eachY L ⟨0, []⟩).length) := Lib.hid (by
        obtain ⟨es, he, hel⟩ := Q10.out
        rw [he, List.length_append, List.length_append, hel]
        simp [eachY, curL_some h0])
      obtain ⟨fn, tmps, assign, body, hy, hR⟩ := HY.out ys (.agg #[.int .u32 (cur.fr.toNat : Int), .slice Aa cur.arcs.length ca], 0) W2 Q1.out (by
        obtain ⟨es, he, hel⟩ := Q10.out
        refine ⟨cur, .slice Aa cur.arcs.length ca, ?_, rfl, Q3.out.more (by omega)⟩
        rw [he, ← hel]
        simp [eachY, curL_some h0]) trivial
      have HR := Lib.hid hR
      have Hh0 := Lib.hid h0
      clear hR h0
      gi_wp2_with ((with_reducible refine wpListIn_load_agg ?_ 132 (.tmp 46) ?_ ⟨W.heap.size + 1, 0, none⟩ ?_ [.int .u32 (cur.fr.toNat : Int), .slice Aa cur.arcs.length ca] Hrc.out Tryz.underlying132 ?_ ?_ ?_); exact rfl; exact rfl; exact rfl; exact rfl; exact infoRow2)
      refine ⟨fun _ => by omega, ?_⟩
      refine (roundIn_wide (l' := 0) HR.out).mono ?_
      clear hy hcy hcg HR Hrc Q1 Q3 Q10
      rintro e W4 (⟨rfl, hJ4, hk4, -⟩ | ⟨rfl, hJ4, hk4⟩)
      · have hK4 := hk4.kf.same _ _ hDw hK rfl
        have HJ4 := Lib.hid hJ4
        clear hk4 hJ4 hK
        gi_wp2
        refine ⟨by simp, .inl ⟨_, _, rfl, run_takeDeferred hK4, ?_⟩⟩
        exact ⟨_, results_none rfl _ _ _, ⟨_, rfl⟩, .inl ⟨_, Hn.out, HJ.out.putObj _ HJ4.out (by omega) hK4 rfl⟩⟩
      · have hK4 := hk4.same _ _ hDw hK rfl
        have HJ4 := Lib.hid hJ4
        clear hk4 hJ4 hK
        gi_wp2
        refine ⟨by simp, .inl ⟨_, _, rfl, run_takeDeferred hK4, ?_⟩⟩
        exact ⟨_, results_none rfl _ _ _, ⟨_, rfl⟩, .inr ⟨_, trivial, HJx.out.putObj _ HJ4.out (by omega) hK4 rfl⟩⟩
  case stop =>
    rintro D c pre W2 hD _ ⟨rfl, h⟩ hK
    have H := Lib.hid h
    clear h
    gi_wp2
    refine ⟨by simp, .inl ⟨_, _, rfl, run_takeDeferred hK, ?_⟩⟩
    refine ⟨_, results_none rfl _ _ _, ⟨_, rfl⟩, ?_⟩
    rcases H.out with ⟨xs, h1, h2⟩ | ⟨ys, h1⟩
    · exact .inl ⟨xs, h1, HJ.out.putObj _ h2 (by omega) hK rfl⟩
    · exact .inr ⟨ys, trivial, HJx.out.putObj _ h1 (by omega) hK rfl⟩
end Go.Proofs.YtcffeepgfjpcaaaGreat

namespace Go.Proofs.YtcffeepgfjpcaaaGreat
set_option linter.unusedSimpArgs false
set_option linter.unusedVariables false
open Go.RowKit Go.Shelf
attribute [local go_sem] Oper.semAt_some

theorem eachY_mrow : ∀ (l : List GEdge) (cur : GRow) (out : List GRow), (∀ i r e, (eachY l cur)[i]? = some (r, e) → e = 0 ∨ (e = 10 ∧ i + 1 = (eachY l cur).length ∧ mrow l cur out = none)) ∧
    ((∀ x ∈ eachY l cur, x.2 = 0) → mrow l cur out = some (out ++ (eachY l cur).map Prod.fst))
  | [], cur, out => by
    refine ⟨fun i r e h => .inl ?_, fun _ => ?_⟩
    · have := List.mem_of_getElem? h
      simp only [eachY, List.mem_map] at this
      obtain ⟨_, _, h2⟩ := this
      injection h2 with h3 h4
      exact h4.symm
    · simp [eachY, mrow, Function.comp_def]
  | x :: t, cur, out => by
    cases ho : overP cur x with
    | true =>
      rw [eachY_over ho]
      refine ⟨fun i r e h => ?_, fun h => ?_⟩
      · match i, h with
        | 0, h =>
          injection h with h
          injection h with h1 h2
          exact .inr ⟨h2.symm, rfl, by rw [mrow, if_pos ho]⟩
      · have := h _ (List.mem_singleton.2 rfl)
        cases this
    | false =>
      obtain ⟨h1, h2⟩ := eachY_mrow t (takeP cur x) (if fullP cur x then out ++ [cur] else out)
      rw [eachY_go ho]
      have hm : mrow (x :: t) cur out = mrow t (takeP cur x) (if fullP cur x then out ++ [cur] else out) := by rw [mrow, if_neg (by simp [ho])]
      rw [hm]
      refine ⟨fun i r e h => ?_, fun h => ?_⟩
      · cases hf : fullP cur x with
        | false =>
          rw [hf] at h
          simp only [Bool.false_eq_true, if_false, List.nil_append] at h ⊢
          rw [hf] at h1
          exact h1 i r e h
        | true =>
          rw [hf] at h
          simp only [if_true] at h ⊢
          rw [hf] at h1
          match i, h with
          | 0, h =>
            simp only [List.cons_append, List.nil_append, List.getElem?_cons_zero] at h
            injection h with h
            injection h with h3 h4
            exact .inl h4.symm
          | i + 1, h =>
            simp only [List.cons_append, List.nil_append, List.getElem?_cons_succ] at h
            rcases h1 i r e h with h | ⟨a, b, c⟩
            · exact .inl h
            · exact .inr ⟨a, by simp; omega, c⟩
      · rw [h2 fun y hy => h y (List.mem_append.2 (.inr hy))]
        cases hf : fullP cur x <;> simp
theorem eachY_len : ∀ (l : List GEdge) (cur : GRow), (eachY l cur).length ≤ l.length + 1
  | [], cur => by simp only [eachY, List.length_map, curL]; split <;> simp
  | x :: t, cur => by
    rw [eachY]
    split
    · simp
    · have := eachY_len t (takeP cur x)
      split <;> simp <;> omega
theorem vals_any (w : World) (A : Option Addr) (n c : Nat) : Calls Tryz.prog 60 #[.slice A n c] w fun e w' => e = .returned (.func (.func 97) #[] #[.pointer (some ⟨w.heap.size, 0, none⟩)]) ∧ w' = w.alloc (.cells #[.slice A n c] 70) := by
  go_enter Tryz.func60, Tryz.ntmps60
  go_wp2_with fail
  go_ret
  exact ⟨rfl, rfl⟩
theorem meach_any (w : World) (f : Fn) (bs : Array Value) : Calls Tryz.prog 59 #[.func f #[] bs] w fun e w' => e = .returned (.func (.func 92) #[] #[.pointer (some ⟨w.heap.size, 0, none⟩)]) ∧ w' = w.alloc (.cells #[.func f #[] bs] 129) := by
  go_enter Tryz.func59, Tryz.ntmps59
  go_wp2_with fail
  go_ret
  exact ⟨rfl, rfl⟩
/-- what a yielded value leads to -/
def YOk (L : List GEdge) (base : Nat) (i : Nat) (x : Value × Int) (W : World) : Prop :=
  ∃ r va, (eachY L ⟨0, []⟩)[i]? = some (r, x.2) ∧ x.1 = .agg #[.int .u32 (r.fr.toNat : Int), va] ∧ OwnF 48 cArc W base va r.arcs
def rawE (x : Value × Int) : Value × Value :=
  match x.1 with
  | .agg a => (a.getD 0 undef, a.getD 1 undef)
  | _ => (undef, undef)
def goodE (L : List GEdge) (base : Nat) (xs : List (Value × Int)) (W : World) : Prop := ∀ i x, xs[i]? = some x → YOk L base i x W ∧ x.2 = 0
theorem YOk.chg {L : List GEdge} {base i : Nat} {x : Value × Int} {W W' : World} {P : Nat → Prop} (h : YOk L base i x W) (hc : Chg P W W') (hP : ∀ k, P k → rowBlk x ≠ some k) : YOk L base i x W' := by
  obtain ⟨r, va, h1, h2, h3⟩ := h
  refine ⟨r, va, h1, h2, OwnR.chgT h3 hc (fun k hk hp => hP k hp ?_) (fun _ h => h.elim)⟩
  unfold rowBlk
  rw [h2]
  exact hk
theorem YOk.kr {L : List GEdge} {base i V L0 : Nat} {x : Value × Int} {W W' : World} (h : YOk L base i x W) (hk : KrR V L0 W W') (hV : V < base) : YOk L base i x W' := by
  obtain ⟨r, va, h1, h2, h3⟩ := h
  exact ⟨r, va, h1, h2, krOwnT (by decide) hk hV h3⟩
theorem goodE.kr {L : List GEdge} {base V L0 : Nat} {xs : List (Value × Int)} {W W' : World} (h : goodE L base xs W) (hk : KrR V L0 W W') (hV : V < base) : goodE L base xs W' := fun i x hx => ⟨(h i x hx).1.kr hk hV, (h i x hx).2⟩
/-- rows that were yielded read -/
theorem rowsOfE {W : World} {base b2 : Nat} {L : List GEdge} {va : Value} {xs : List (Value × Int)} (h : OwnF 132 cRaw W base va (xs.map rawE)) (hb : base ≤ b2) (hg : goodE L b2 xs W) (hlen : xs.length = (eachY L ⟨0, []⟩).length) :
    RowsF W base va ((eachY L ⟨0, []⟩).map Prod.fst) := by
  obtain ⟨A, c, e, h1, h2, h3⟩ := h.row
  refine ⟨A, c, by simpa [hlen] using e, by simpa [hlen] using h1, h2, fun hn => ?_⟩
  obtain ⟨ad, e1, hO, hc⟩ := h3 (by simpa [hlen] using hn)
  refine ⟨ad, e1, hO, fun i x hx => ?_⟩
  rw [List.getElem?_map] at hx
  obtain ⟨y, hy, rfl⟩ := Option.map_eq_some_iff.1 hx
  have hi : i < xs.length := by rw [hlen]; exact (List.getElem?_eq_some_iff.1 hy).1
  obtain ⟨⟨r, vr, g1, g2, g3⟩, g4⟩ := hg i xs[i] (List.getElem?_eq_getElem hi)
  rw [hy] at g1
  injection g1 with g1
  have g1' : y.1 = r := by rw [g1]
  obtain ⟨cs, ⟨rfl, _, _⟩, hcs⟩ := hc i (rawE xs[i]) (by rw [List.getElem?_map, List.getElem?_eq_getElem hi]; rfl)
  have hraw : rawE xs[i] = (.int .u32 (r.fr.toNat : Int), vr) := by unfold rawE; rw [g2]; rfl
  rw [hraw] at hcs
  refine ⟨_, ⟨vr, ?_, ?_⟩, hcs⟩
  · rw [g1']
  · rw [g1']
    exact g3.row.mono (fun _ h => ⟨by omega, h.2⟩) (fun _ h => h.elim)
end Go.Proofs.YtcffeepgfjpcaaaGreat

namespace Go.Proofs.YtcffeepgfjpcaaaGreat
set_option linter.unusedSimpArgs false
set_option linter.unusedVariables false
open Go.RowKit Go.Shelf
attribute [local go_sem] Oper.semAt_some

theorem chgBelow {P : Nat → Prop} {X Y : World} {m : Nat} (h : Chg P X Y) (hm : m ≤ X.heap.size) (hP : ∀ k, P k → k < X.heap.size → m ≤ k) : Below m X Y :=
  (h.more (Q := fun k => P k ∧ k < X.heap.size) fun k hk hp => ⟨hp, hk⟩).below hm fun k hk => hP k hk.1 hk.2
theorem YOk.blk {L : List GEdge} {base i : Nat} {x : Value × Int} {W : World} (h : YOk L base i x W) : ∀ k, rowBlk x = some k → ∃ cur, W.heap[k]? = some (.cells cur 48 (0, 0)) := by
  obtain ⟨r, va, h1, h2, h3⟩ := h
  intro k hk
  unfold rowBlk at hk
  rw [h2] at hk
  exact OwnR.blkT h3 k hk
theorem goodE.chg {L : List GEdge} {B : Nat} {xs : List (Value × Int)} {W W' : World} {P : Nat → Prop} (h : goodE L B xs W) (hc : Chg P W W') (hP : ∀ k, P k → k < B) : goodE L B xs W' := fun i x hx =>
  ⟨(h i x hx).1.chg hc fun k hp hk => by
    obtain ⟨r, va, h1, h2, h3⟩ := (h i x hx).1
    unfold rowBlk at hk
    rw [h2] at hk
    have := (h3.blk k hk).1
    have := hP k hp
    omega, (h i x hx).2⟩
theorem goodE.own {L : List GEdge} {B : Nat} {xs : List (Value × Int)} {X Y : World} {row : Option Nat} (h : goodE L B xs X) (hg : X.grownBy Y row) (hr : ∀ r, row = some r → ∃ o : Obj, X.heap[r]? = some o ∧ o.isCells = false) : goodE L B xs Y := fun i x hx => by
  obtain ⟨⟨r, va, h1, h2, h3⟩, h4⟩ := h i x hx
  exact ⟨⟨r, va, h1, h2, OwnR.ownk h3 hg hr⟩, h4⟩
def RowsI (L : List GEdge) (m B : Nat) (w : World) (pre : List (Value × Int)) (W : World) : Prop :=
  (∃ va, BoxAt 74 W (m + 2) [va] ∧ OwnF 132 cRaw W m va (pre.map rawE)) ∧ goodE L B pre W ∧ BoxAt 74 W m [.slice none 0 0] ∧ BoxAt 33 W (m + 1) [.int .i64 0] ∧ B ≤ W.heap.size ∧ Below m w W ∧ pre.length ≤ (eachY L ⟨0, []⟩).length
theorem YOk.abm {L : List GEdge} {B B2 i : Nat} {s : List (Value × Int)} {x : Value × Int} {X Y : World} {P : Nat → Prop} (h : YOk L B2 i x X) (hxs : x ∈ s) (hc : Chg P X Y)
    (hP : ∀ r, P r → r < X.heap.size → B ≤ r ∧ ∃ o : Obj, X.heap[r]? = some o ∧ (o.isCells = false ∨ ∃ T, cellsTy o = some T ∧ T ∈ [166, 48] ∧ ∀ x ∈ s, rowBlk x ≠ some r)) : YOk L B2 i x Y :=
  h.chg hc fun k hp hk => by
    obtain ⟨cur, hcur⟩ := h.blk k hk
    obtain ⟨_, o, ho, hor⟩ := hP k hp (Array.getElem?_eq_some_iff.1 hcur).1
    rw [hcur] at ho
    injection ho with ho
    rcases hor with hor | ⟨T, _, _, hor⟩
    · rw [← ho] at hor; cases hor
    · exact hor x hxs hk
theorem RowsI.abm (L : List GEdge) (m B : Nat) (w : World) (hB : m + 2 < B) (hw : m ≤ w.heap.size) : AbM B [166, 48] rowBlk (RowsI L m B w) := by
  rintro pre X Y P ⟨⟨va, i1, i2⟩, i3, i4, i5, i6, i7, i8⟩ hc hP
  refine ⟨⟨va, i1.chg hc (fun hp => by have := (hP _ hp i1.lt).1; omega), OwnR.chgT i2 hc (fun k hk hp => ?_) (fun _ h => h.elim)⟩, fun i x hx => ⟨(i3 i x hx).1.abm (List.mem_of_getElem? hx) hc hP, (i3 i x hx).2⟩, i4.chg hc (fun hp => by have := (hP _ hp i4.lt).1; omega), i5.chg hc (fun hp => by have := (hP _ hp i5.lt).1; omega),
    Nat.le_trans i6 hc.size, i7.trans (chgBelow hc (by omega) fun k hk hlt => by have := (hP k hk hlt).1; omega), i8⟩
  obtain ⟨cur, hcur⟩ := OwnR.blkT i2 k hk
  obtain ⟨_, o, ho, hor⟩ := hP k hp (Array.getElem?_eq_some_iff.1 hcur).1
  rw [hcur] at ho
  injection ho with ho
  subst ho
  rcases hor with hor | ⟨T, hT, hT2, _⟩
  · cases hor
  · injection hT with hT
    subst hT
    exact absurd hT2 (by decide)

set_option maxRecDepth 100000 in
set_option maxHeartbeats 3200000 in
theorem mrows_any (w : World) (L : List GEdge) (vals : List Value) (A : Option Addr) (c : Nat) (hlen : vals.length = L.length) (hl20 : L.length ≤ 1048576)
    (hcell : ∀ i, (h : i < vals.length) → ∃ ad, A = some ad ∧ ad.block < w.heap.size ∧ w.cell? (ad.add i) = some vals[i])
    (hkeys : ∀ i, (h : i < vals.length) → By w w.heap.size vals[i] (keyL (L[i]'(by omega)))) (hsort : L.Pairwise fun a b => a.num ≤ b.num) (hwt : ∀ x ∈ L, x.wt ≠ 0) :
    Calls Tryz.prog 34 #[.slice A vals.length c] w fun e w' => ∃ v' er, e = .returned (.tuple #[v', .int .i64 er]) ∧ Below w.heap.size w w' ∧
      ((∃ R, mrow L ⟨0, []⟩ [] = some R ∧ er = 0 ∧ RowsF w' w.heap.size v' R) ∨ (mrow L ⟨0, []⟩ [] = none ∧ er = 10 ∧ v' = .slice none 0 0)) := by
  obtain ⟨w1, hw1⟩ : ∃ w1, w1 = ((w.alloc (.cells #[.slice none 0 0] 74)).alloc (.cells #[.int .i64 0] 33)).alloc (.cells #[.slice none 0 0] 74) := ⟨_, rfl⟩
  have hb1 : Below w.heap.size w w1 := by rw [hw1]; exact bstep (bstep (balloc _ _) (balloc _ _)) (balloc _ _)
  have hz1 : w1.heap.size = w.heap.size + 3 := by rw [hw1]; simp
  have hA1 : BoxAt 74 w1 w.heap.size [.slice none 0 0] := by rw [hw1]; exact ((BoxAt.new_ 74 w [.slice none 0 0]).alloc _).alloc _
  have hE1 : BoxAt 33 w1 (w.heap.size + 1) [.int .i64 0] := by
    rw [hw1]
    have := (BoxAt.new_ 33 (w.alloc (.cells #[.slice none 0 0] 74)) [.int .i64 0]).alloc (.cells #[.slice none 0 0] 74)
    rwa [World.size_alloc] at this
  have hV1 : BoxAt 74 w1 (w.heap.size + 2) [.slice none 0 0] := by
    rw [hw1]
    have := BoxAt.new_ 74 ((w.alloc (.cells #[.slice none 0 0] 74)).alloc (.cells #[.int .i64 0] 33)) [.slice none 0 0]
    rwa [World.size_alloc, World.size_alloc] at this
  obtain ⟨w2, hw2⟩ : ∃ w2, w2 = w1.alloc (.cells #[.slice A vals.length c] 70) := ⟨_, rfl⟩
  obtain ⟨w3, hw3⟩ : ∃ w3, w3 = w2.alloc (.cells #[.func (.func 97) #[] #[.pointer (some ⟨w1.heap.size, 0, none⟩)]] 129) := ⟨_, rfl⟩
  have hz2 : w2.heap.size = w1.heap.size + 1 := by rw [hw2]; simp
  have hz3 : w3.heap.size = w2.heap.size + 1 := by rw [hw3]; simp
  have hb2 : Below w1.heap.size w1 w2 := by rw [hw2]; exact balloc _ _
  have hb3 : Below w2.heap.size w2 w3 := by rw [hw3]; exact balloc _ _
  have hS3 : BoxAt 70 w3 w1.heap.size [.slice A vals.length c] := by
    refine BoxAt.bl_ (w := w2) ?_ hb3
    rw [hw2]
    exact BoxAt.new_ _ _ _
  have hK3 : BoxAt 129 w3 w2.heap.size [.func (.func 97) #[] #[.pointer (some ⟨w1.heap.size, 0, none⟩)]] := by rw [hw3]; exact BoxAt.new_ _ _ _
  have hb13 : Below w1.heap.size w1 w3 := bstep hb2 hb3
  have hbw3 : Below w.heap.size w w3 := bstep hb1 hb13
  have hv := fun W => vals_any W A vals.length c
  have hm := fun W => meach_any W (.func 97) #[.pointer (some ⟨w1.heap.size, 0, none⟩)]
  have Hw1 := Lib.hid hw1
  have Hw2 := Lib.hid hw2
  have Hw3 := Lib.hid hw3
  have Hit := Lib.hid (each_iter 4 (by omega) w3 (w.heap.size + 2) w.heap.size (by omega) (by omega) L vals w2.heap.size w1.heap.size A c hK3 hS3 hlen hl20 (fun i h => by
    obtain ⟨ad, e, h1, h2⟩ := hcell i h
    exact ⟨ad, e, h1, (hbw3.cell (p := ad.add i) (by rw [add_block]; omega)).trans h2⟩) (fun i h => (hkeys i h).below hbw3) hsort hwt)
  have HI0 : Hid (RowsI L w.heap.size w3.heap.size w [] w3) := Lib.hid ⟨⟨_, hV1.bl_ hb13, OwnF.nil_ _ _⟩, fun i x h => by simp at h, hA1.bl_ hb13, hE1.bl_ hb13, Nat.le_refl _, hbw3, Nat.zero_le _⟩
  have hab := RowsI.abm L w.heap.size w3.heap.size w (by omega) (Nat.le_refl _)
  have Hab := Lib.hid hab
  have Hv := Lib.hid hv
  have Hm := Lib.hid hm
  have Hy := Lib.hid (eachY_mrow L ⟨0, []⟩ [])
  have Hyl := Lib.hid (eachY_len L ⟨0, []⟩)
  have Hlen := Lib.hid hlen
  have Hz3 : Hid (w3.heap.size = w.heap.size + 5) := Lib.hid (by omega)
  have Hz2 : Hid (w2.heap.size = w.heap.size + 4) := Lib.hid (by omega)
  have Hz1 := Lib.hid hz1
  clear hz1 hz2 hz3 hlen hw1 hw2 hw3 hb1 hb2 hb3 hb13 hbw3 hA1 hE1 hV1 hS3 hK3 hcell hkeys hsort hwt hab hv hm
  refine (callsIn_wide (n := 5)).1 ?_
  refine callsIn_of_wp_marks Tryz.func34 rfl trivial ?_ rfl
  simp only [Tryz.ntmps34, List.size_toArray, List.length_cons, List.length_nil, Nat.reduceAdd, Nat.reduceSub, Array.replicate_succ, Array.replicate_zero, List.push_toArray, List.append_toArray, List.nil_append, List.cons_append]
  gi_wp2
  rw [← Hw1.out]
  refine ⟨trivial, ?_⟩
  refine (callsIn_wide.2 (Hv.out w1)).mono ?_
  rintro _ _ ⟨rfl, rfl⟩
  rw [← Hw2.out]
  gi_wp2
  refine ⟨trivial, ?_⟩
  refine (callsIn_wide.2 (Hm.out w2)).mono ?_
  rintro _ _ ⟨rfl, rfl⟩
  rw [← Hw3.out]
  gi_wp2
  have hR3 := Hz3.out
  refine range_z (α := Value × Int) (encs := encE) (gf := 92) (lb := #[.pointer (some ⟨w2.heap.size, 0, none⟩)]) (Ts := [166, 48]) (blk := rowBlk) rfl (enters_of Tryz.func92 (by kernel_rfl) rfl)
    (Kr := KrM (w.heap.size + 2) w.heap.size (w3.heap.size + 2)) (fun h k => h.trans k)
    (fun W o o' h1 h2 => ⟨KrR.putObj _ _ W _ o o' h1 h2, ⟨rfl, rfl, rfl, by simp, fun k hk => World.putObj_heap_other (by omega)⟩, KeepsFrom.of_grownBy (grownBy_putObj' W _ o') fun j e => by injection e with e; omega⟩)
    (fun _ => rfl) Hit.out
    (fun pre W => RowsI L w.heap.size w3.heap.size w pre W)
    (fun c pre W => c = .ret ∧ BoxAt 74 W w.heap.size [.slice none 0 0] ∧ BoxAt 33 W (w.heap.size + 1) [.int .i64 10] ∧ mrow L ⟨0, []⟩ [] = none ∧ Below w.heap.size w W)
    Hab.out ?hIx (fun _ _ _ _ h _ _ => h) HI0.out
    (fun _ pre x a' W => ∃ Bx, w3.heap.size ≤ Bx ∧ BoxAt 132 W Bx [(rawE x).1, (rawE x).2] ∧ YOk L w3.heap.size pre.length x W ∧ RowsI L w.heap.size w3.heap.size w pre W ∧ a' = { tmps := #[.slice A vals.length c, undef, .pointer (some ⟨w.heap.size, 0, none⟩), .pointer (some ⟨w.heap.size + 1, 0, none⟩), .pointer (some ⟨w.heap.size + 1 + 1, 0, none⟩), .pointer (some ⟨Bx, 0, none⟩), .int .i64 x.2, .slice A vals.length c, .func (.func 97) #[] #[.pointer (some ⟨w1.heap.size, 0, none⟩)], .func (.func 92) #[] #[.pointer (some ⟨w2.heap.size, 0, none⟩)], x.1, .int .i64 x.2, undef, undef, undef, undef, undef, undef, undef, undef], defers := [] }) ?hAx ?assign ?body ?done ?stop
  case hIx =>
    rintro cd pre X Y P ⟨rfl, i1, i2, i3, i4⟩ hc hP
    exact ⟨rfl, i1.chg hc (fun hp => by have := (hP _ hp i1.lt).1; omega), i2.chg hc (fun hp => by have := (hP _ hp i2.lt).1; omega), i3, i4.trans (chgBelow hc i4.size fun k hk hlt => by have := (hP k hk hlt).1; omega)⟩
  case hAx =>
    rintro pre x a' _ X Y row ⟨Bx, i1, i2, i3, i4, i5⟩ hg hr
    have hr2 := fun r e => (hr r e).2
    refine ⟨Bx, i1, i2.ownk hg hr2, ?_, Hab.out.own i4 hg hr, i5⟩
    obtain ⟨r, va, j1, j2, j3⟩ := i3
    exact ⟨r, va, j1, j2, OwnR.ownk j3 hg hr2⟩
  case assign =>
    rintro lq pre x W hlq hI hR
    have hR2 : YOk L w3.heap.size pre.length x W := hR
    obtain ⟨r, va, j1, j2, j3⟩ := hR
    obtain ⟨Ax, cx, rfl, _, _, _⟩ := j3.form'
    have hraw : rawE x = (.int .u32 (r.fr.toNat : Int), .slice Ax r.arcs.length cx) := by unfold rawE; rw [j2]; rfl
    have HI := Lib.hid hI
    have HR := Lib.hid hR2
    have Hone := Lib.hid (rowC_one r.fr.toNat Ax r.arcs.length cx)
    have Hraw := Lib.hid hraw
    have hls := hI.2.2.2.2.1
    obtain ⟨x1, x2⟩ := x
    simp only at j2
    subst j2
    clear hR2 j1 j3 hraw hI hR3
    gi_wp2_with (first
      | ((with_reducible refine wpListIn_alloc_z ?_ 132 ?_ infoRow [.int .u32 0, .slice none 0 0] ?_ ?_); exact rfl; exact rfl; exact rfl)
      | ((with_reducible refine wpListIn_store_new ?_ 132 (.tmp 5) (.tmp 10) ?_ [.int .u32 0, .slice none 0 0] [.int .u32 (r.fr.toNat : Int), .slice Ax r.arcs.length cx] ?_ ?_ ?_ ?_ Hone.out ?_); exact rfl; exact rfl; exact rfl; exact rfl; exact infoRow2; exact rfl))
    have hba := balloc W (.cells #[Value.int .u32 (r.fr.toNat : Int), Value.slice Ax r.arcs.length cx] 132)
    refine ⟨(KeepsOthers.alloc _ _).from _, ⟨KrR.ofBelow hba, hba.mono (by have := Hz3.out; omega), (KeepsOthers.alloc _ _).from _⟩, W.heap.size, hls, ?_, ?_, Hab.out.below HI.out hba, rfl⟩
    · rw [Hraw.out]
      exact BoxAt.new_ 132 W [.int .u32 (r.fr.toNat : Int), .slice Ax r.arcs.length cx]
    · exact HR.out.chg (Chg.ofBelow (P := fun _ => False) hba) fun _ h => h.elim
  case body =>
    rintro lq pre x a' W hlq ⟨Bx, hBx, iX, iY, ⟨⟨va, i1, i2⟩, i3, i4, i5, i6, i7, i8⟩, rfl⟩ -
    obtain ⟨r, vr, j1, j2, j3⟩ := id iY
    obtain ⟨Ax, cx, rfl, _, _, _⟩ := j3.form'
    have hraw : rawE x = (.int .u32 (r.fr.toNat : Int), .slice Ax r.arcs.length cx) := by unfold rawE; rw [j2]; rfl
    rw [hraw] at iX
    have hlm : (pre.map rawE).length = pre.length := List.length_map ..
    obtain ⟨Av, cv, rfl, _, _, _⟩ := i2.form'
    have hneV : Value.ownBlock (.slice Av (pre.map rawE).length cv) ≠ some (w.heap.size + 2) := fun e => by
      obtain ⟨cur, hcur⟩ := i2.blkT _ e
      have : W.heap[w.heap.size + 2]? = _ := i1
      rw [hcur] at this
      injection this with this
      injection this with _ h2 _
      exact absurd h2 (by decide)
    rw [hlm] at i1 i2 hneV
    have hcV := i1.cell 0 _ rfl
    have hlt := (List.getElem?_eq_some_iff.1 j1).1
    have I1 := Lib.hid i1
    have I2 := Lib.hid i2
    have I3 := Lib.hid i3
    have I4 := Lib.hid i4
    have I5 := Lib.hid i5
    have I7 := Lib.hid i7
    have IX := Lib.hid iX
    have IY := Lib.hid iY
    have HneV := Lib.hid hneV
    have Hraw := Lib.hid hraw
    have h7s := i7.size
    have hy1 := Hy.out.1 pre.length r x.2 j1
    have Hy1 := Lib.hid hy1
    have hlen20 : pre.length ≤ 1048577 := by have := Hyl.out; omega
    have J2 := Lib.hid j2
    obtain ⟨x1, x2⟩ := x
    simp only at j2
    subst j2
    dsimp only at Hy1 ⊢
    clear hy1 i1 i2 i3 i4 i5 i7 iX iY hneV hraw j1 j3 hR3
    by_cases hx2 : x2 = 0
    · have Hx2 := Lib.hid hx2
      subst hx2
      gi_wp2_with (first
        | ((with_reducible refine wpListIn_load_agg ?_ 132 (.tmp 5) ?_ ⟨Bx, 0, none⟩ ?_ [.int .u32 (r.fr.toNat : Int), .slice Ax r.arcs.length cx] IX.out.cells Tryz.underlying132 ?_ ?_ ?_); exact rfl; exact rfl; exact rfl; exact rfl; exact infoRow2)
        | ((with_reducible refine wpListIn_slice_row ?_ (.tmp 16) ?_ (.int .u32 (r.fr.toNat : Int)) (.slice Ax r.arcs.length cx) ?_ ?_ ?_); exact rfl; exact rfl; exact rfl; exact rfl)
        | ((with_reducible refine wpListIn_app1R (C := cRaw) ?_ (.tmp 15) (.tmp 17) 74 ?_ Tryz.underlying74 infoRow ?_ ?_ ?_ [.int .u32 (r.fr.toNat : Int), .slice Ax r.arcs.length cx] I2.out (y := (Value.int .u32 (r.fr.toNat : Int), Value.slice Ax r.arcs.length cx)) ?_ ?_ ?_ ?_ ?_ ?_); exact rfl; exact rfl; exact (by kernel_rfl); exact (by decide); exact (by decide); exact ⟨rfl, rfl, rfl⟩; exact rfl; exact rfl; exact (by rw [hlm]; omega); exact (by omega)
           intro v6 w6 ho6 hx6
           have hV6 := I1.out.grown hx6.gr HneV.out
           obtain ⟨A6, c6, rfl, _, _, _⟩ := ho6.form'
           have hl6 : (pre.map rawE ++ [((Value.int .u32 (r.fr.toNat : Int)), Value.slice Ax r.arcs.length cx)]).length = pre.length + 1 := by simp
           rw [hl6] at ho6 hx6
           have hcV6 := hV6.cell 0 _ rfl
           have hfV6 := hV6.frozen 0
           have Ho6 := Lib.hid ho6
           have Hx6 := Lib.hid hx6
           have HV6 := Lib.hid hV6
           clear ho6 hx6 hV6
           rw [hl6]
           refine wpListIn_store_sl rfl (.tmp 4) (.tmp 18) rfl (w.heap.size + 1 + 1) 0 A6 (pre.length + 1) c6 _ rfl rfl hcV6 hfV6 ?_))
      have hz3 := Hz3.out
      have h6s := Hx6.out.gr.size
      have hne6 := Hx6.out.ne (g := w.heap.size + 2) (by omega) HneV.out
      have hc1 : Chg (fun k => (Value.slice Av pre.length cv).ownBlock = some k) W w6 := Chg.ofGrown Hx6.out.gr fun k e => e
      have hc2 : Chg (fun k => k = w.heap.size + 2) w6 (w6.setCell ⟨w.heap.size + 1 + 1, 0, none⟩ (.slice A6 (pre.length + 1) c6)) := Chg.set _ _ _ rfl
      have hkf : ∀ B, KeepsFrom B W (w6.setCell ⟨w.heap.size + 1 + 1, 0, none⟩ (.slice A6 (pre.length + 1) c6)) := fun B => (keepsChg hc1 B fun r hr _ => by
          obtain ⟨cur, hcur⟩ := OwnR.blkT I2.out r hr
          exact ⟨_, hcur, rfl⟩).trans (keepsChg hc2 B fun r hr _ => by subst hr; exact ⟨_, HV6.out, rfl⟩)
      have hkr : KrR (w.heap.size + 2) w.heap.size W (w6.setCell ⟨w.heap.size + 1 + 1, 0, none⟩ (.slice A6 (pre.length + 1) c6)) := KrR.trans (KrR.ofGrown Hx6.out.gr fun k e => .inr (by
          obtain ⟨cur, hcur⟩ := OwnR.blkT I2.out k e
          exact ⟨(I2.out.blk k e).1, _, hcur, rfl⟩)) (KrR.ofGrown (gset w6 ⟨w.heap.size + 1 + 1, 0, none⟩ _) fun k e => .inl (by injection e with e; exact e.symm))
      have hbl : Below w.heap.size W (w6.setCell ⟨w.heap.size + 1 + 1, 0, none⟩ (.slice A6 (pre.length + 1) c6)) := (Hx6.out.below (B := w.heap.size) h7s (fun q hq => (I2.out.blk q hq).1)).setCell (p := ⟨w.heap.size + 1 + 1, 0, none⟩) (by show w.heap.size ≤ w.heap.size + 1 + 1; omega) _
      have hss : (w6.setCell ⟨w.heap.size + 1 + 1, 0, none⟩ (.slice A6 (pre.length + 1) c6)).heap.size = w6.heap.size := by simp [World.setCell]
      refine ⟨hkf _, ⟨hkr, hbl, hkf _⟩, ⟨⟨_, HV6.out.put 0 (.slice A6 (pre.length + 1) c6), ?_⟩, ?_, hkr.box I4.out (by omega) (.inr (by decide)), hkr.box I5.out (by omega) (.inr (by decide)), by omega, I7.out.trans hbl, by rw [List.length_append, List.length_singleton]; omega⟩, trivial⟩
      · have e : (pre ++ [((.agg #[.int .u32 (r.fr.toNat : Int), .slice Ax r.arcs.length cx], 0) : Value × Int)]).map rawE = pre.map rawE ++ [((Value.int .u32 (r.fr.toNat : Int)), Value.slice Ax r.arcs.length cx)] := by
          rw [List.map_append, List.map_singleton, Hraw.out]
        rw [e]
        exact OwnR.chgT Ho6.out hc2 (fun k hk e => hne6 (by rw [hk, e])) (fun _ h => h.elim)
      · intro i y hy
        rcases Nat.lt_or_ge i pre.length with h | h
        · rw [List.getElem?_append_left h] at hy
          exact ⟨(I3.out i y hy).1.kr hkr (by omega), (I3.out i y hy).2⟩
        · rw [List.getElem?_append_right h] at hy
          have h0 : i - pre.length = 0 := by
            have := (List.getElem?_eq_some_iff.1 hy).1
            simp at this
            omega
          rw [h0] at hy
          injection hy with hy
          subst hy
          have e : i = pre.length := by omega
          subst e
          exact ⟨IY.out.kr hkr (by omega), rfl⟩
    · rcases Hy1.out with h | ⟨rfl, h1, h2⟩
      · exact absurd h hx2
      have H2 := Lib.hid h2
      have hc4 := I4.out.cell 0 _ rfl
      have hf4 := I4.out.frozen 0
      have hc5 := (I5.out.other ⟨w.heap.size, 0, none⟩ (.slice none 0 0) (by show w.heap.size ≠ w.heap.size + 1; omega)).cell 0 _ rfl
      have hf5 := (I5.out.other ⟨w.heap.size, 0, none⟩ (.slice none 0 0) (by show w.heap.size ≠ w.heap.size + 1; omega)).frozen 0
      clear h1 h2 hx2
      gi_wp2
      have hz3 := Hz3.out
      have hcA : Chg (fun k => k = w.heap.size) W (W.setCell ⟨w.heap.size, 0, none⟩ (.slice none 0 0)) := Chg.set _ _ _ rfl
      have hcB : Chg (fun k => k = w.heap.size + 1) (W.setCell ⟨w.heap.size, 0, none⟩ (.slice none 0 0)) ((W.setCell ⟨w.heap.size, 0, none⟩ (.slice none 0 0)).setCell ⟨w.heap.size + 1, 0, none⟩ (.int .i64 10)) := Chg.set _ _ _ rfl
      have hA2 := I4.out.put 0 (.slice none 0 0)
      have hB2 := I5.out.other ⟨w.heap.size, 0, none⟩ (.slice none 0 0) (by show w.heap.size ≠ w.heap.size + 1; omega)
      refine ⟨(keepsChg hcA _ fun r hr _ => by subst hr; exact ⟨_, I4.out, rfl⟩).trans (keepsChg hcB _ fun r hr _ => by subst hr; exact ⟨_, hB2, rfl⟩), rfl, hA2.other ⟨w.heap.size + 1, 0, none⟩ _ (by show w.heap.size + 1 ≠ w.heap.size; omega), hB2.put 0 _, H2.out, ?_⟩
      exact (I7.out.setCell (p := ⟨w.heap.size, 0, none⟩) (Nat.le_refl _) _).setCell (p := ⟨w.heap.size + 1, 0, none⟩) (by show w.heap.size ≤ w.heap.size + 1; omega) _
  case done =>
    rintro D xs W hD hS ⟨⟨va, i1, i2⟩, i3, i4, i5, i6, i7, i8⟩ hK
    have hz3 := Hz3.out
    have hall : ∀ y ∈ eachY L ⟨0, []⟩, y.2 = 0 := fun y hy => by
      obtain ⟨i, hi, rfl⟩ := List.mem_iff_getElem.1 hy
      have hi2 : i < xs.length := by rw [hS]; exact hi
      obtain ⟨⟨r, va, h1, _, _⟩, h2⟩ := i3 i xs[i] (List.getElem?_eq_getElem hi2)
      rw [List.getElem?_eq_getElem hi] at h1
      injection h1 with h1
      rw [h1]
      exact h2
    have hm := Hy.out.2 hall
    rw [List.nil_append] at hm
    obtain ⟨Av, cv, rfl, _⟩ := i2.form'
    have hlx : (xs.map rawE).length = xs.length := List.length_map ..
    rw [hlx] at i1
    have hc6 := i1.cell 0 _ rfl
    have hc4 := i4.cell 0 _ rfl
    have hf4 := i4.frozen 0
    have hB2 := i5.other ⟨w.heap.size, 0, none⟩ (.slice Av xs.length cv) (by show w.heap.size ≠ w.heap.size + 1; omega)
    have hc5 := hB2.cell 0 _ rfl
    have hf5 := hB2.frozen 0
    have HB2 := Lib.hid hB2
    have I4 := Lib.hid i4
    have I7 := Lib.hid i7
    have I2 := Lib.hid i2
    have I3 := Lib.hid i3
    have I5 := Lib.hid i5
    have HS := Lib.hid hS
    have Hlx := Lib.hid hlx
    have HM := Lib.hid hm
    clear hS i1 i2 i3 i4 i5 i7 hB2 hm hall hlx hR3 hz3
    gi_wp2
    have hz3 := Hz3.out
    have hA3 := (I4.out.put 0 (.slice Av xs.length cv)).other ⟨w.heap.size + 1, 0, none⟩ (.int .i64 0) (by show w.heap.size + 1 ≠ w.heap.size; omega)
    have hB3 := HB2.out.put 0 (.int .i64 0)
    have hb7 : Below w.heap.size w ((W.setCell ⟨w.heap.size, 0, none⟩ (.slice Av xs.length cv)).setCell ⟨w.heap.size + 1, 0, none⟩ (.int .i64 0)) :=
      (I7.out.setCell (p := ⟨w.heap.size, 0, none⟩) (Nat.le_refl _) _).setCell (p := ⟨w.heap.size + 1, 0, none⟩) (by show w.heap.size ≤ w.heap.size + 1; omega) _
    obtain ⟨W3, hW3⟩ : ∃ W3, W3 = (W.setCell ⟨w.heap.size, 0, none⟩ (.slice Av xs.length cv)).setCell ⟨w.heap.size + 1, 0, none⟩ (.int .i64 0) := ⟨_, rfl⟩
    have hcA : Chg (fun k => k = w.heap.size) W (W.setCell ⟨w.heap.size, 0, none⟩ (.slice Av xs.length cv)) := Chg.set _ _ _ rfl
    have hcB : Chg (fun k => k = w.heap.size + 1) (W.setCell ⟨w.heap.size, 0, none⟩ (.slice Av xs.length cv)) W3 := by rw [hW3]; exact Chg.set _ _ _ rfl
    have hi2 : OwnF 132 cRaw W3 w.heap.size (.slice Av (xs.map rawE).length cv) (xs.map rawE) :=
      OwnR.chgT (OwnR.chgT I2.out hcA (fun k hk e => ownR_ne_boxT (by decide) I2.out I4.out k hk e) (fun _ h => h.elim)) hcB (fun k hk e => ownR_ne_boxT (by decide) I2.out I5.out k hk e) (fun _ h => h.elim)
    have hg3 := (I3.out.chg hcA fun k e => by omega).chg hcB fun k e => by omega
    rw [← hW3] at hA3 hB3 hb7 ⊢
    have hs3 : W.heap.size ≤ W3.heap.size := by rw [hW3]; simp [World.setCell]
    have hK3 : W3.heap[D]? = some (.deferred (some [])) := by
      rw [hW3]
      exact (Below.heap_setCell _ _ _ D (by show D ≠ w.heap.size + 1; omega)).trans ((Below.heap_setCell _ _ _ D (by show D ≠ w.heap.size; omega)).trans hK)
    clear hW3 hcA hcB hc4 hc5 hc6 hf4 hf5
    refine ⟨by simp, .inl ⟨_, _, rfl, run_takeDeferred hK3, ?_⟩⟩
    have hgp := grownBy_putObj' W3 D (.deferred none)
    have hrp : ∀ r, some D = some r → ∃ o : Obj, W3.heap[r]? = some o ∧ o.isCells = false := fun r e => by cases e; exact ⟨_, hK3, rfl⟩
    have hA4 := (hA3.ownk hgp hrp).cell 0 _ rfl
    have hB4 := (hB3.ownk hgp hrp).cell 0 _ rfl
    have hrf := rowsOfE (OwnR.ownk hi2 hgp hrp) (b2 := w3.heap.size) (by omega) (hg3.own hgp hrp) HS.out
    rw [Hlx.out] at hrf
    refine ⟨.tuple #[.slice Av xs.length cv, .int .i64 0], ?_, _, 0, rfl, hb7.trans (belowK_b (w := w) (Nat.le_refl _) W3 D _ _ (by omega) hK3 rfl rfl), .inl ⟨_, HM.out, rfl, hrf⟩⟩
    clear hrf hi2 hg3 hb7
    simp [results, Tryz.f34, go_sem, hA4, hB4]
  case stop =>
    rintro D cd pre W hD _ ⟨rfl, i1, i2, i3, i4⟩ hK
    have hz3 := Hz3.out
    have hgp := grownBy_putObj' W D (.deferred none)
    have hrp : ∀ r, some D = some r → ∃ o : Obj, W.heap[r]? = some o ∧ o.isCells = false := fun r e => by cases e; exact ⟨_, hK, rfl⟩
    have hA4 := (i1.ownk hgp hrp).cell 0 _ rfl
    have hB4 := (i2.ownk hgp hrp).cell 0 _ rfl
    have hb7 := i4.trans (belowK_b (w := w) (Nat.le_refl _) W D _ (.deferred none) (by omega) hK rfl rfl)
    have H7 := Lib.hid hb7
    have H3 := Lib.hid i3
    clear i1 i2 i3 i4 hb7 hgp hrp hR3 hz3
    gi_wp2
    refine ⟨by simp, .inl ⟨_, _, rfl, run_takeDeferred hK, ?_⟩⟩
    refine ⟨.tuple #[.slice none 0 0, .int .i64 10], ?_, _, 10, rfl, H7.out, .inr ⟨H3.out, rfl, rfl⟩⟩
    simp [results, Tryz.f34, go_sem, hA4, hB4]
end Go.Proofs.YtcffeepgfjpcaaaGreat

namespace Go.Proofs.YtcffeepgfjpcaaaGreat
set_option linter.unusedSimpArgs false
set_option linter.unusedVariables false
open Go.RowKit Go.Shelf Go.Sort

theorem sortWorld_chg {α : Type} [Inhabited α] (enc : α → Value) (w : World) (blk off n : Nat) (d : Array α) (os : Array Obj) : Chg (fun k => k = blk) w (sortWorld enc w blk off n d os) := by
  have hsz : (putRow enc (Go.Sort.ahead w n) blk off d).heap.size = w.heap.size := size_putRow enc (Go.Sort.ahead w n) blk off d
  refine ⟨rfl, rfl, rfl, ?_, fun k hk hn => ?_⟩
  · unfold sortWorld
    rw [size_grow, hsz]
    omega
  · unfold sortWorld grow
    have hk2 : k < (putRow enc (Go.Sort.ahead w n) blk off d).heap.size := by rw [hsz]; exact hk
    show ((putRow enc (Go.Sort.ahead w n) blk off d).heap ++ os)[k]? = w.heap[k]?
    rw [Array.getElem?_append_left hk2]
    show ((w.heap.modify blk _)[k]?) = w.heap[k]?
    rw [Array.getElem?_modify, if_neg (fun e => hn e.symm)]
theorem extract_all {β : Type} (a : Array β) (m : Nat) (h : a.size = m) : a.extract 0 m = a := by
  subst h
  exact Array.extract_size
/-- the order of keys -/
def cfK {n : Nat} (L : Fin n → GEdge) (i j : Fin n) : Int := Lib.compareBytes (keyL (L i)) (keyL (L j))
theorem cfK_lt {n : Nat} (L : Fin n → GEdge) (i j : Fin n) : ltOf (cfK L) i j = decide ((L i).num < (L j).num) := by
  unfold ltOf cfK
  rw [cmp_key]
  by_cases h : (L i).num < (L j).num
  · rw [if_pos h]; simp [h]
  · rw [if_neg h]
    split <;> simp [h]
theorem cfK_swo {n : Nat} (L : Fin n → GEdge) : SWO (ltOf (cfK L)) := by
  refine ⟨fun x => ?_, fun x y z h1 h2 => ?_, fun x y z h1 h2 => ?_⟩
  · rw [cfK_lt]; simp
  · rw [cfK_lt] at *
    simp only [decide_eq_true_eq] at *
    omega
  · rw [cfK_lt] at *
    simp only [decide_eq_false_iff_not] at *
    omega

set_option maxRecDepth 100000 in
set_option maxHeartbeats 1600000 in
theorem ksort_any (w : World) (blk cap : Nat) (vals : List Value) (L : List GEdge) (hlen : vals.length = L.length) (hpos : 0 < L.length) (hl20 : L.length ≤ 1048576) (hblk : blk < w.heap.size)
    (hcell : ∀ i, (h : i < vals.length) → w.cell? ⟨blk, i, none⟩ = some vals[i] ∧ w.frozen? ⟨blk, i, none⟩ = false) (h1 : ∀ v ∈ vals, v.oneCell' = true)
    (K : Nat → Prop) (hK : ∀ k, K k → k < w.heap.size ∧ k ≠ blk) (hkeys : ∀ i, (h : i < vals.length) → RowOn c8 w K K vals[i] (keyL (L[i]'(by omega)))) :
    Calls Tryz.prog 32 #[.slice (some ⟨blk, 0, none⟩) vals.length cap, .func (.func 33) #[] #[]] w fun e w' => e = .returned (.tuple #[]) ∧
      ∃ (vals' : List Value) (L' : List GEdge), ∃ hl : vals'.length = L'.length, L'.Perm L ∧ L'.Pairwise (fun a b => a.num ≤ b.num) ∧ (∀ i, (h : i < vals'.length) → w'.cell? ⟨blk, i, none⟩ = some vals'[i]) ∧
        (∀ i, (h : i < vals'.length) → RowOn c8 w' K K vals'[i] (keyL (L'[i]'(by omega)))) ∧ Chg (fun k => k = blk) w w' := by
  obtain ⟨n, hn⟩ : ∃ n, n = vals.length := ⟨_, rfl⟩
  have hn0 : 0 < n := by omega
  haveI : Inhabited (Fin n) := ⟨⟨0, hn0⟩⟩
  obtain ⟨enc, henc⟩ : ∃ enc : Fin n → Value, enc = fun i => vals[i.1]'(by have := i.2; omega) := ⟨_, rfl⟩
  obtain ⟨F, hF⟩ : ∃ F : Fin n → GEdge, F = fun i => L[i.1]'(by have := i.2; omega) := ⟨_, rfl⟩
  obtain ⟨d, hd⟩ : ∃ d : Array (Fin n), d = Array.ofFn id := ⟨_, rfl⟩
  have hds : d.size = n := by rw [hd]; simp
  have hdi : ∀ j, (h : j < n) → d[j]! = ⟨j, h⟩ := fun j h => by
    rw [getElem!_pos d j (by omega)]
    subst hd
    simp
  have hH : Holds enc w blk 0 d := fun j hj => by
    have hj2 : j < n := by omega
    rw [hdi j hj2, henc, Nat.zero_add]
    exact hcell j (by omega)
  have hkeysC : ∀ W, Chg (fun k => k = blk) w W → ∀ i : Fin n, RowOn c8 W K K (enc i) (keyL (F i)) := fun W hW i => by
    rw [henc, hF]
    have hsame : ∀ p : Addr, K p.block → W.cell? p = w.cell? p := fun p hp => World.cell?_of_block (hW.block p.block (hK _ hp).1 (hK _ hp).2)
    exact (hkeys i.1 (by have := i.2; omega)).keep hsame hsame
  have hcmp : CmpLays1 Tryz.prog 33 #[] enc (cfK F) blk 0 d.size w := fun m os dk hs x y => by
    have hc := sortWorld_chg enc w blk 0 m dk os
    have hby : ∀ i : Fin n, By (sortWorld enc w blk 0 m dk os) (sortWorld enc w blk 0 m dk os).heap.size (enc i) (keyL (F i)) := fun i =>
      RowOn.toBy ((hkeysC _ hc i).mono (fun k hk => Nat.lt_of_lt_of_le (hK k hk).1 hc.size) (fun k hk => hk))
    refine (bcmp_any _ _ _ (enc x) (enc y) _ _ (hby x) (hby y)).mono ?_
    rintro e w' ⟨rfl, rfl⟩
    exact ⟨rfl, 0, #[], by rw [grow_empty]; rfl⟩
  have h1e : OneCell enc := fun x => by rw [henc]; exact h1 _ (List.getElem_mem _)
  have hsl := Any.slices_SortFunc sortL enc h1e (cfK F) (cfK_swo F) 33 #[] blk 0 cap d w (enters_of Tryz.func33 (by kernel_rfl) rfl) hcmp hH hblk (by omega)
  rw [hds] at hsl
  rw [← hn]
  refine hsl.mono ?_
  rintro e w' ⟨rfl, d', m, os, ⟨hp1, hp2, hp3⟩, hsrt, rfl⟩
  have hc := sortWorld_chg enc w blk 0 m d' os
  have hd's : d'.size = n := by rw [hp1, hds]
  have hHol := holds_sortWorld enc w blk 0 m d d' os hblk hH hp1
  refine ⟨rfl, d'.toList.map enc, d'.toList.map F, by simp, ?_, ?_, ?_, ?_, hc⟩
  · have e1 : d'.toList.Perm d.toList := by
      have a1 : d'.extract 0 n = d' := extract_all d' n hd's
      have a2 : d.extract 0 n = d := extract_all d n hds
      rw [a1, a2] at hp3
      exact hp3
    have e2 : d.toList.map F = L := by
      apply List.ext_getElem
      · simp [hds]; omega
      · intro i h1 h2
        simp [hd, hF]
    rw [← e2]
    exact e1.map F
  · rw [List.pairwise_iff_getElem]
    intro i j hi hj hij
    have hi2 : i < d'.size := by simpa using hi
    have hj2 : j < d'.size := by simpa using hj
    have := hsrt i j (Nat.zero_le _) hij (by omega)
    rw [cfK_lt, getElem!_pos d' i hi2, getElem!_pos d' j hj2] at this
    simp only [decide_eq_false_iff_not] at this
    simp only [List.getElem_map, Array.getElem_toList]
    omega
  · intro i hi
    have hi2 : i < d'.size := by simpa using hi
    have := (hHol i hi2).1
    rw [getElem!_pos d' i hi2, Nat.zero_add] at this
    simpa using this
  · intro i hi
    simp only [List.getElem_map, Array.getElem_toList]
    exact hkeysC _ hc _
theorem ksort_none (w : World) (p : Option Addr) (cap : Nat) (fv : Value) :
    Calls Tryz.prog 32 #[.slice p 0 cap, fv] w fun e w' => e = .returned (.tuple #[]) ∧ w' = w := AnyF.slices_SortFunc_none (ρ := sortL_ren) { sortL with } p cap fv w
end Go.Proofs.YtcffeepgfjpcaaaGreat

namespace Go.Proofs.YtcffeepgfjpcaaaGreat
set_option linter.unusedSimpArgs false
set_option linter.unusedVariables false
open Go.RowKit Go.Shelf

theorem blen_any (W : World) (n : Nat) (hn : n ≤ 4294967296) : Calls Tryz.prog 57 #[.int .u64 (n : Int)] W fun e w' => e = .returned (.int .i64 (Lib.bitLen n : Nat)) ∧ w' = W := by
  have h := Any.bits_Len (SlLaysF0.n15.bits (P := Tryz.prog) (ρ := sortL_ren) { sortL with }) (n : Int) W (by omega) (by omega)
  rwa [Int.toNat_natCast] at h
set_option maxRecDepth 100000 in
theorem isort_one (w : World) (v : Value) : Calls Tryz.prog 137 #[v, .int .i64 0, .int .i64 1] w fun e w' => e = .returned (.tuple #[]) ∧ w' = w := by
  go_enter Tryz.func137, Tryz.ntmps137
  go_wp2_with fail
  refine wp_loop_rounds 1 ?_
  rw [rounds_succ]
  go_wp2
  go_end0
  exact ⟨rfl, rfl⟩
set_option maxRecDepth 100000 in
theorem pdq_one (w : World) (v : Value) (lim : Nat) : Calls Tryz.prog 132 #[v, .int .i64 0, .int .i64 1, .int .i64 (lim : Int)] w fun e w' => e = .returned (.tuple #[]) ∧ w' = w := by
  have hi := fun W => isort_one W v
  have Hi := Lib.hid hi
  clear hi
  go_enter Tryz.func132, Tryz.ntmps132
  go_wp2_with fail
  refine wp_loop_rounds 1 ?_
  rw [rounds_succ]
  go_wp2_with fail
  refine (Hi.out _).mono ?_
  rintro _ _ ⟨rfl, rfl⟩
  go_wp2_with fail
  (try simp only [Exit.inBlock, Exit.then]); refine bodyPost_ret (results_none rfl _ _ _) rfl ?_
  exact ⟨rfl, rfl⟩
set_option maxRecDepth 100000 in
theorem sort_one (x : UInt32) : SortOk [x] := by
  intro W base v ho hb
  have ho2 := ho
  obtain ⟨A, c, rfl, _⟩ := ho2.form'
  have hp := fun W' n => pdq_one W' (.slice A 1 c) n
  have hl := fun W' => blen_any W' 1 (by omega)
  have Hp := Lib.hid hp
  have Hl := Lib.hid hl
  have Ho := Lib.hid ho
  clear hp hl ho ho2
  go_enter Tryz.func127, Tryz.ntmps127
  go_wp2_with fail
  refine (Hl.out _).mono ?_
  rintro _ _ ⟨rfl, rfl⟩
  go_wp2_with fail
  refine (Hp.out _ _).mono ?_
  rintro _ _ ⟨rfl, rfl⟩
  go_wp2_with fail
  go_end0
  exact ⟨rfl, [x], List.Perm.refl _, Ho.out, Chg.refl _ _⟩
end Go.Proofs.YtcffeepgfjpcaaaGreat

namespace Go.Proofs.YtcffeepgfjpcaaaGreat
set_option linter.unusedSimpArgs false
set_option linter.unusedVariables false
open Go.RowKit Go.Shelf

def cEdge : Cdc GEdge := Cdc.flat 3 edgeC (fun _ => True) (fun _ => rfl) (fun x u hu => by simp [edgeC] at hu; rcases hu with rfl | rfl | rfl <;> rfl)
abbrev ByE (w : World) (B : Nat) (v : Value) (l : List GEdge) : Prop := RowOn cEdge w (fun k => k < B) (fun _ => True) v l
theorem ByE.below {w w' : World} {B : Nat} {v : Value} {l : List GEdge} (h : ByE w B v l) (hb : Below B w w') : ByE w' B v l := by
  obtain ⟨A, c, h1, h2, h3, h4⟩ := h
  refine ⟨A, c, h1, h2, h3, fun hn => ?_⟩
  obtain ⟨ad, e, hO, hc⟩ := h4 hn
  refine ⟨ad, e, hO, fun i x hx => ?_⟩
  obtain ⟨cs, ha, hcs⟩ := hc i x hx
  exact ⟨cs, ha, fun j u hu => (hb.cell (p := ad.add (i * cEdge.n + j)) (by rw [add_block]; exact hO)).trans (hcs j u hu)⟩
theorem ByE.cells {w : World} {B : Nat} {A : Option Addr} {n c : Nat} {l : List GEdge} (h : ByE w B (.slice A n c) l) (k : Nat) (hk : k < l.length) :
    ∃ ad, A = some ad ∧ ad.block < B ∧ ∀ (j : Nat) (v : Value), (edgeC l[k])[j]? = some v → w.cell? ((ad.add (k * 3)).add j) = some v := by
  obtain ⟨ad, cs, e, hb, ⟨hcs, _⟩, hc⟩ := h.at_ k l[k] (List.getElem?_eq_getElem hk)
  refine ⟨ad, e, hb, fun j v hv => ?_⟩
  rw [add_add]
  exact hc j v (by rw [hcs]; exact hv)
/-- a key in one cell, its bytes in a block of S -/
def cKey : Cdc GEdge := (Cdc.row c8).map keyL
theorem infoKey : (Tryz.prog.info? 40).map (fun i => (i.zero, i.size, i.bytes)) = some (some (.slice none 0 0), 1, 24) := by kernel_rfl

theorem ksort_all (w : World) (base : Nat) (K : List Nat) (v : Value) (l : List GEdge) (hl20 : l.length ≤ 1048576) (h : OwnR 40 cKey w base (fun k => k ∈ K) v l) (hb : base ≤ w.heap.size) :
    Calls Tryz.prog 32 #[v, .func (.func 33) #[] #[]] w fun e w' => e = .returned (.tuple #[]) ∧
      ∃ (A : Option Addr) (c : Nat) (vals' : List Value) (L' : List GEdge), ∃ hl : vals'.length = L'.length, v = .slice A vals'.length c ∧ L'.Perm l ∧ L'.Pairwise (fun a b => a.num ≤ b.num) ∧
        (∀ i, (h : i < vals'.length) → ∃ ad, A = some ad ∧ ad.block < w'.heap.size ∧ w'.cell? (ad.add i) = some vals'[i]) ∧
        (∀ i, (h : i < vals'.length) → By w' w'.heap.size vals'[i] (keyL (L'[i]'(by omega)))) ∧ Below base w w' := by
  have hbl := h.blk
  obtain ⟨css, hcl, ⟨hz, h2⟩, h3, h4⟩ := h
  rcases h2 with ⟨rfl, hn⟩ | ⟨g, cap, cur, rfl, hg1, hg2, hg3, hg4, hg5, hg6⟩
  · have : l = [] := List.eq_nil_of_length_eq_zero hn
    subst this
    refine (ksort_none w none 0 _).mono ?_
    rintro e w' ⟨rfl, rfl⟩
    exact ⟨rfl, none, 0, [], [], rfl, rfl, List.Perm.refl _, List.Pairwise.nil, fun i h => by simp at h, fun i h => by simp at h, Below.refl _ _⟩
  · rcases Nat.eq_zero_or_pos l.length with h0 | h0
    · have : l = [] := List.eq_nil_of_length_eq_zero h0
      subst this
      refine (ksort_none w _ cap _).mono ?_
      rintro e w' ⟨rfl, rfl⟩
      exact ⟨rfl, _, cap, [], [], rfl, rfl, List.Perm.refl _, List.Pairwise.nil, fun i h => by simp at h, fun i h => by simp at h, Below.refl _ _⟩
    · have hcsl : ∀ cs ∈ css, cs.length = 1 := fun cs hcs => by
        obtain ⟨i, hi, rfl⟩ := List.mem_iff_getElem.1 hcs
        exact cKey.len (h3 i _ (l[i]'(by omega)) (List.getElem?_eq_getElem hi) (List.getElem?_eq_getElem (by omega)))
      have hvl : css.flatten.length = l.length := by rw [flat_len 1 css hcsl]; omega
      have hvg : ∀ i, (h : i < css.flatten.length) → ∃ v, css.flatten[i] = v ∧ RowOn c8 w (fun k => k ∈ K) (fun k => k ∈ K) v (keyL (l[i]'(by omega))) := fun i h => by
        have hi : i < css.length := by omega
        obtain ⟨v, hv, hr⟩ := h3 i css[i] (l[i]'(by omega)) (List.getElem?_eq_getElem hi) (List.getElem?_eq_getElem (by omega))
        refine ⟨v, ?_, hr⟩
        have := flat_get 1 css hcsl i css[i] 0 (List.getElem?_eq_getElem hi) (by omega)
        rw [hv, Nat.mul_one, Nat.add_zero, List.getElem?_eq_getElem h] at this
        injection this
      have hgl : g < w.heap.size := (hbl g rfl).2
      have hcu : ∀ i, (h : i < css.flatten.length) → w.cell? ⟨g, i, none⟩ = some css.flatten[i] ∧ w.frozen? ⟨g, i, none⟩ = false := fun i h => by
        have e : cur.toList[i]? = some css.flatten[i] := by
          have h5 : i < (cur.toList.take (l.length * cKey.n)).length := by rw [hg6]; exact h
          have h6 : (cur.toList.take (l.length * cKey.n))[i]? = some css.flatten[i] := by
            rw [hg6]; exact List.getElem?_eq_getElem h
          rw [List.getElem?_take] at h6
          split at h6
          · exact h6
          · cases h6
        have e2 : cur[i]? = some css.flatten[i] := by simpa using e
        refine ⟨?_, ?_⟩
        · simp [World.cell?, hg2, e2]
        · simp [World.frozen?, hg2]
      have hks := ksort_any w g cap css.flatten l hvl h0 hl20 hgl hcu (fun u hu => by
        obtain ⟨i, hi, rfl⟩ := List.mem_iff_getElem.1 hu
        obtain ⟨v, hv, hr⟩ := hvg i hi
        obtain ⟨A, c, rfl, _⟩ := hr.form
        rw [hv]
        rfl) (fun k => k ∈ K) (fun k hk => ⟨(h4 k hk).1, fun e => (h4 k hk).2 (by rw [e]; rfl)⟩) (fun i h => by
        obtain ⟨v, hv, hr⟩ := hvg i h
        rw [hv]
        exact hr)
      rw [hvl] at hks
      refine hks.mono ?_
      rintro e w' ⟨rfl, vals', L', hl, hp, hs, hc, hk, hch⟩
      have hlp := hp.length_eq
      refine ⟨rfl, some ⟨g, 0, none⟩, cap, vals', L', hl, by rw [hl, hlp], hp, hs, fun i h => ⟨⟨g, 0, none⟩, rfl, Nat.lt_of_lt_of_le hgl hch.size, ?_⟩, fun i h => RowOn.toBy ((hk i h).mono (fun k hk => Nat.lt_of_lt_of_le (h4 k hk).1 hch.size) (fun k hk => hk)), hch.below hb fun k hk => by subst hk; exact (hbl k rfl).1⟩
      have hadd : (⟨g, 0, none⟩ : Addr).add i = ⟨g, i, none⟩ := by unfold Addr.add; split <;> simp_all
      rw [hadd]
      exact hc i h

theorem Ow.rowIn {w : World} {base : Nat} {v : Value} {l : List UInt8} (h : Ow w base v l) (O S : Nat → Prop) (hO : ∀ k, v.ownBlock = some k → O k) : RowOn c8 w O S v l := by
  obtain ⟨A, c, rfl, h1, h2, hrd⟩ := h.by_
  refine ⟨A, c, rfl, h1, h2, fun hn => ?_⟩
  obtain ⟨ad, rfl, _, hc⟩ := hrd.2 hn
  refine ⟨ad, rfl, hO _ rfl, fun i x hx => ⟨[b8 x], ⟨rfl, trivial⟩, fun j u hu => ?_⟩⟩
  match j, hu with
  | 0, hu =>
    injection hu with hu
    subst hu
    simp only [c8, Cdc.flat, Nat.mul_one, Nat.add_zero]
    refine hc i _ ?_
    simp [b8s, hx]
  | j + 1, hu => simp at hu
set_option maxRecDepth 100000 in
set_option maxHeartbeats 3200000 in
theorem gof_any (w : World) (v : Value) (l : List GEdge) (h : ByE w w.heap.size v l) (hl20 : l.length ≤ 1048576) :
    Calls Tryz.prog 10 #[v] w fun e w' => Below w.heap.size w w' ∧
      (((∃ x ∈ l, x.wt = 0) ∧ e = .returned (.tuple #[.pointer none, .int .i64 9])) ∨ ((∀ x ∈ l, x.wt ≠ 0) ∧ ∃ L, L.Perm l ∧ L.Pairwise (fun a b => a.num ≤ b.num) ∧
        ((mrow L ⟨0, []⟩ [] = none ∧ e = .returned (.tuple #[.pointer none, .int .i64 10])) ∨ ∃ R g, mrow L ⟨0, []⟩ [] = some R ∧ e = .returned (.tuple #[.pointer (some ⟨g, 0, none⟩), .int .i64 0]) ∧ w.heap.size ≤ g ∧ GraphAt w' w'.heap.size g R))) := by
  obtain ⟨A, c, rfl, hc1, hc2⟩ := h.form
  unfold maxLen at hc2
  have Hby := Lib.hid h
  clear h
  go_enter Tryz.func10, Tryz.ntmps10
  go_wp2_with fail
  go_loopw [4, 11] (fun vk i wr => ∃ k : Nat, k ≤ l.length ∧ i = .int .i64 k ∧ ∃ K : List Nat, OwnR 40 cKey wr w.heap.size (fun q => q ∈ K) vk (l.take k) ∧ Below w.heap.size w wr ∧ ∀ x ∈ l.take k, x.wt ≠ 0) (fun _ i _ => l.length - (intOf i).toNat)
  case atStart => exact ⟨0, by omega, rfl, [], OwnR.nil_ (fun _ h => by simp at h), Below.refl _ _, fun x h => by simp at h⟩
  case round =>
    obtain ⟨k, hk, rfl, K, ho, hbl, hz⟩ := hrel
    by_cases hlt : k < l.length
    · obtain ⟨ad, rfl, hab, hx⟩ := (Hby.out.below hbl).cells k hlt
      obtain ⟨x, hxq⟩ : ∃ x, x = l[k] := ⟨_, rfl⟩
      rw [← hxq] at hx
      have htk : l.take (k + 1) = l.take k ++ [x] := by rw [hxq]; exact List.take_succ_eq_append_getElem hlt
      have hxm : x ∈ l := by rw [hxq]; exact List.getElem_mem hlt
      obtain ⟨w1, hw1⟩ : ∃ w1, w1 = wr.alloc (.cells (edgeC x).toArray 55) := ⟨_, rfl⟩
      have hb1 : Below wr.heap.size wr w1 := by rw [hw1]; exact balloc _ _
      have hX1 : BoxAt 55 w1 wr.heap.size (edgeC x) := by rw [hw1]; exact BoxAt.new_ _ _ _
      have hz1 : w1.heap.size = wr.heap.size + 1 := by rw [hw1]; simp
      have hc2 := hX1.cell 2 _ rfl
      have hky := key_any w1 x
      unfold edgeV at hky
      have Hky := Lib.hid hky
      have Hx := Lib.hid hx
      have Hw1 := Lib.hid hw1
      have HX1 := Lib.hid hX1
      have Hb1 := Lib.hid hb1
      have Ho := Lib.hid ho
      have Hbl := Lib.hid hbl
      have Hz := Lib.hid hz
      have Htk := Lib.hid htk
      have Hxm := Lib.hid hxm
      have Hz1 := Lib.hid hz1
      have Hone : Hid (∀ u ∈ edgeC x, u.oneCell' = true) := Lib.hid fun u hu => by
        simp [edgeC] at hu
        rcases hu with rfl | rfl | rfl <;> rfl
      have hbs := hbl.size
      clear hky hx hw1 hX1 hb1 ho hbl hz htk hxm hxq hz1
      by_cases hw0 : x.wt = 0
      · have hwt : (((x.wt.toNat : Nat) : Int) == 0) = true := by rw [hw0]; rfl
        have Hw0 := Lib.hid hw0
        clear hw0
        go_wp2_with (first
          | ((with_reducible refine wpList_load_agg ?_ 55 (.tmp 13) ?_ (ad.add (k * 3)) ?_ (edgeC x) Hx.out Tryz.underlying55 ?_ ?_ ?_); exact rfl; exact rfl; exact rfl; exact rfl; exact infoEdge3)
          | ((with_reducible refine wpList_alloc_z ?_ 55 ?_ infoEdge zeroEc ?_ ?_); exact rfl; exact rfl; exact rfl)
          | ((with_reducible refine wpList_store_new ?_ 55 (.tmp 6) (.tmp 14) ?_ zeroEc (edgeC x) ?_ ?_ ?_ ?_ Hone.out ?_); exact rfl; exact rfl; exact rfl; exact rfl; exact infoEdge3; exact rfl; rw [← Hw1.out]))
        go_ret2
        exact ⟨bstepB Hbl.out Hb1.out hbs, .inl ⟨⟨x, Hxm.out, Hw0.out⟩, rfl⟩⟩
      · have hwt : (((x.wt.toNat : Nat) : Int) == 0) = false := beq_eq_false_iff_ne.2 fun e => hw0 (UInt32.toNat_inj.1 (by simpa using e))
        have Hw0 := Lib.hid hw0
        clear hw0
        go_wp2_with (first
          | ((with_reducible refine wpList_load_agg ?_ 55 (.tmp 13) ?_ (ad.add (k * 3)) ?_ (edgeC x) Hx.out Tryz.underlying55 ?_ ?_ ?_); exact rfl; exact rfl; exact rfl; exact rfl; exact infoEdge3)
          | ((with_reducible refine wpList_alloc_z ?_ 55 ?_ infoEdge zeroEc ?_ ?_); exact rfl; exact rfl; exact rfl)
          | ((with_reducible refine wpList_store_new ?_ 55 (.tmp 6) (.tmp 14) ?_ zeroEc (edgeC x) ?_ ?_ ?_ ?_ Hone.out ?_); exact rfl; exact rfl; exact rfl; exact rfl; exact infoEdge3; exact rfl; rw [← Hw1.out])
          | ((with_reducible refine wpList_load_agg ?_ 55 (.tmp 6) ?_ ⟨wr.heap.size, 0, none⟩ ?_ (edgeC x) HX1.out.cells Tryz.underlying55 ?_ ?_ ?_); exact rfl; exact rfl; exact rfl; exact rfl; exact infoEdge3))
        refine Hky.out.mono ?_
        rintro _ w2 ⟨vk, rfl, hov, hb2⟩
        have hz1 := Hz1.out
        have hb12 : Below wr.heap.size wr w2 := bstep Hb1.out hb2
        have hs2 := hb12.size
        have hs12 := hb2.size
        obtain ⟨gk, ck, rfl, hgk1, hgk2⟩ : ∃ gk ck, vk = .slice (some ⟨gk, 0, none⟩) 12 ck ∧ w1.heap.size ≤ gk ∧ gk < w2.heap.size := by
          have hlt2 := World.ownsRow.lt hov
          obtain ⟨_, h2⟩ := hov
          rcases h2 with ⟨_, hn⟩ | ⟨g, cap, cur, rfl, h3, h4, _⟩
          · rw [keyL_length] at hn; cases hn
          · exact ⟨g, cap, by rw [keyL_length], h3, (Array.getElem?_eq_some_iff.1 h4).1⟩
        have hrow : RowOn c8 w2 (fun q => q ∈ gk :: K) (fun q => q ∈ gk :: K) (.slice (some ⟨gk, 0, none⟩) 12 ck) (keyL x) := hov.rowIn _ _ fun q hq => by
          injection hq with hq
          subst hq
          exact List.mem_cons_self
        have ho2 := (OwnR.below_ Ho.out hb12).widen (S' := fun q => q ∈ gk :: K) (fun q hq => List.mem_cons_of_mem _ hq) (fun q hq => by
          rcases List.mem_cons.1 hq with rfl | hq
          · exact ⟨hgk2, fun e => by have := (Ho.out.blk q e).2; omega⟩
          · obtain ⟨_, _, _, _, h4⟩ := Ho.out
            exact ⟨Nat.lt_of_lt_of_le (h4 q hq).1 hs2, (h4 q hq).2⟩)
        obtain ⟨Av, cv, rfl, _⟩ := ho2.form'
        have hlk : (l.take k).length = k := by rw [List.length_take]; omega
        rw [hlk] at ho2
        have Hb12 := Lib.hid hb12
        have Hrow := Lib.hid hrow
        have Ho2 := Lib.hid ho2
        clear hov hb2 hb12 hrow ho2 Hky Ho
        go_wp2_with (
          (with_reducible refine wpList_app1R (C := cKey) ?_ (.tmp 18) (.tmp 21) 70 ?_ Tryz.underlying70 infoKey ?_ ?_ ?_ [.slice (some ⟨gk, 0, none⟩) 12 ck] Ho2.out (y := x) ?_ ?_ ?_ ?_ ?_ ?_); exact rfl; exact rfl; exact (by kernel_rfl); exact (by decide); exact (by decide); exact ⟨_, rfl, Hrow.out⟩; exact rfl; exact rfl; exact (by rw [hlk]; omega); exact (by omega)
          intro v6 w6 ho6 hx6
          have Ho6 := Lib.hid ho6
          have Hx6 := Lib.hid hx6
          clear ho6 hx6)
        go_roundw
        case rel =>
          refine ⟨k + 1, by omega, by go_num, gk :: K, by rw [Htk.out]; exact Ho6.out, (Hbl.out.trans (Hb12.out.mono hbs)).trans (Hx6.out.below (by omega) (fun q hq => (Ho2.out.blk q hq).1)), fun y hy => ?_⟩
          rw [Htk.out] at hy
          rcases List.mem_append.1 hy with h | h
          · exact Hz.out y h
          · rw [List.mem_singleton] at h
            rw [h]
            exact Hw0.out
        case measure => simp [intOf]; omega
    · have e : k = l.length := by omega
      subst e
      rw [List.take_length] at ho hz
      have hks := ksort_all wr w.heap.size K _ l hl20 ho hbl.size
      have hbs := hbl.size
      obtain ⟨Av, cv, rfl, _⟩ := ho.form'
      have Hks := Lib.hid hks
      have Hz := Lib.hid hz
      have Hbl := Lib.hid hbl
      clear ho hks hz hbl
      go_wp2_with fail
      refine Hks.out.mono ?_
      rintro _ w2 ⟨rfl, A2, c2, vals, L, hl, he, hp, hs, hc, hk2, hb2⟩
      injection he with e1 e2 e3
      subst e1; subst e3
      have hpl := hp.length_eq
      have hwL : ∀ x ∈ L, x.wt ≠ 0 := fun x hx => Hz.out x (hp.mem_iff.1 hx)
      have hmr := mrows_any w2 L vals Av cv hl (by omega) hc hk2 hs hwL
      rw [hl, hpl] at hmr
      have Hmr := Lib.hid hmr
      have Hp := Lib.hid hp
      have Hs := Lib.hid hs
      have Hb2 := Lib.hid (Hbl.out.trans hb2)
      have hs2 := hb2.size
      clear hmr hp hs hc hk2 hb2 hl hpl e2 hwL Hks
      go_wp2_with fail
      refine Hmr.out.mono ?_
      rintro _ w3 ⟨v3, er, rfl, hb3, (⟨R, hm, rfl, hR⟩ | ⟨hm, rfl, rfl⟩)⟩
      · obtain ⟨A3, c3, rfl, _⟩ := hR.form
        have HR := Lib.hid hR
        have Hb3 := Lib.hid hb3
        have Hm := Lib.hid hm
        have hs3 := hb3.size
        clear hR hb3 hm
        go_wp2_with fail
        go_ret2
        have hba := balloc w3 (.cells #[.slice A3 R.length c3] 78)
        have hb23 := Hb2.out.trans (Hb3.out.mono (by have := Hb2.out.size; omega))
        refine ⟨hb23.trans (hba.mono (by have := hb23.size; omega)), .inr ⟨Hz.out, L, Hp.out, Hs.out, .inr ⟨R, w3.heap.size, Hm.out, rfl, by omega, _, BoxAt.new_ 78 w3 [.slice A3 R.length c3], by simp, ?_⟩⟩⟩
        exact (ByRw.below (RowsF.byR HR.out) hba).more (by simp)
      · have Hb3 := Lib.hid hb3
        have Hm := Lib.hid hm
        clear hb3 hm
        go_wp2_with fail
        go_ret2
        exact ⟨Hb2.out.trans (Hb3.out.mono (by have := Hb2.out.size; omega)), .inr ⟨Hz.out, L, Hp.out, Hs.out, .inl ⟨Hm.out, rfl⟩⟩⟩
end Go.Proofs.YtcffeepgfjpcaaaGreat

namespace Go.Proofs.YtcffeepgfjpcaaaGreat
set_option linter.unusedSimpArgs false
set_option linter.unusedVariables false
open Go.RowKit

set_option maxRecDepth 100000 in
set_option maxHeartbeats 1600000 in
theorem same_u (w : World) (B : Nat) (hB : B ≤ w.heap.size) (va vb : Value) (a b : List UInt32) (ha : ByU w B va a) (hb : ByU w B vb b) (hla : a.length ≤ 1048576) (hlb : b.length ≤ 1048576) (r : Bool) (hr : r = decide (a = b)) :
    Calls Tryz.prog 13 #[va, vb] w fun e w' => e = .returned (.bool r) ∧ Below w.heap.size w w' := by
  obtain ⟨A, c, rfl, hc1, hc2⟩ := ha.form
  obtain ⟨A2, c2, rfl, hc3, hc4⟩ := hb.form
  unfold maxLen at hc2 hc4
  have Hr := Lib.hid hr
  clear hr
  by_cases hl : a.length = b.length
  · have hd : ((a.length : Int) == (b.length : Int)) = true := by simp [hl]
    have hd2 : ((a.length : Int) != (b.length : Int)) = false := by simp [hl]
    have Hl := Lib.hid hl
    obtain ⟨n, hn⟩ : ∃ n, n = a.length := ⟨_, rfl⟩
    obtain ⟨m, hm⟩ : ∃ m, m = b.length := ⟨_, rfl⟩
    have hn2 := hn
    have Ha := Lib.hid ha
    have Hb := Lib.hid hb
    clear ha hb hl
    go_enter Tryz.func13, Tryz.ntmps13
    clear hn hm hn2
    go_wp2_with fail
    go_loopw [13] (fun iv wr => ∃ k : Nat, iv = .int .i64 k ∧ k ≤ a.length ∧ (∀ i, (h1 : i < a.length) → (h2 : i < b.length) → i < k → a[i] = b[i]) ∧ Below w.heap.size w wr) (fun iv _ => a.length - (intOf iv).toNat)
    case atStart => exact ⟨0, rfl, by omega, fun i _ _ h => by omega, Below.refl _ _⟩
    case round =>
      obtain ⟨k, rfl, hk, hsm, hbr⟩ := hrel
      have Hsm := Lib.hid hsm
      have Hbr := Lib.hid hbr
      clear hsm hbr
      by_cases hlt : k < a.length
      · have hlt2 : k < b.length := by have := Hl.out; omega
        have hdk : decide ((k : Int) < (a.length : Int)) = true := decide_eq_true (by omega)
        obtain ⟨ad, rfl, hab, hx0⟩ := (Ha.out.below (Hbr.out.mono hB)).cells k hlt
        obtain ⟨ad2, rfl, hab2, hy0⟩ := (Hb.out.below (Hbr.out.mono hB)).cells k hlt2
        by_cases hxy : a[k] = b[k]
        · have hq : (((a[k]).toNat : Int) == ((b[k]).toNat : Int)) = true := by simp [hxy]
          have hq2 : (((a[k]).toNat : Int) != ((b[k]).toNat : Int)) = false := by simp [hxy]
          have HXY := Lib.hid hxy
          clear hxy
          generalize (a[k]).toNat = xa at *
          generalize (b[k]).toNat = xb at *
          go_wp2_with fail
          go_quiet (fail)
          go_wp2_with fail
          go_roundw
          case rel =>
            refine ⟨k + 1, by go_num, by omega, fun i h1 h2 hi => ?_, bdrewN Hbr.out nq⟩
            rcases Nat.lt_or_ge i k with hik | hik
            · exact Hsm.out i h1 h2 hik
            · have : i = k := by omega
              subst this
              exact HXY.out
          case measure => simp [intOf]; omega
        · have hne : (a[k]).toNat ≠ (b[k]).toNat := fun e => hxy (UInt32.toNat_inj.1 e)
          have Hrt : Hid (r = false) := Lib.hid (by rw [Hr.out]; exact decide_eq_false fun e => hxy (by subst e; rfl))
          clear hxy
          generalize (a[k]).toNat = xa at *
          generalize (b[k]).toNat = xb at *
          have hq : ((xa : Int) == (xb : Int)) = false := beq_eq_false_iff_ne.2 (by omega)
          have hq2 : ((xa : Int) != (xb : Int)) = true := by simp; omega
          go_wp2_with fail
          go_quiet (fail)
          go_wp2_with fail
          go_ret
          exact ⟨by rw [Hrt.out]; rfl, bdrewN Hbr.out nq⟩
      · have hdk : decide ((k : Int) < (a.length : Int)) = false := decide_eq_false (by omega)
        have he : a = b := List.ext_getElem Hl.out fun i h1 h2 => Hsm.out i h1 h2 (by omega)
        have Hrt : Hid (r = true) := Lib.hid (by rw [Hr.out]; exact decide_eq_true he)
        clear he
        go_wp2_with fail
        go_ret
        exact ⟨by rw [Hrt.out]; rfl, Hbr.out⟩
  · have hd : ((a.length : Int) == (b.length : Int)) = false := beq_eq_false_iff_ne.2 (by omega)
    have hd2 : ((a.length : Int) != (b.length : Int)) = true := by simp; omega
    have Hrt : Hid (r = false) := Lib.hid (by rw [Hr.out]; exact decide_eq_false fun e => hl (by rw [e]))
    have hne : ¬ (a.length : Int) = (b.length : Int) := by omega
    go_enter Tryz.func13, Tryz.ntmps13
    go_wp2_with fail
    go_ret
    exact ⟨by rw [Hrt.out]; rfl, Below.refl _ _⟩
end Go.Proofs.YtcffeepgfjpcaaaGreat

namespace Go.Proofs.YtcffeepgfjpcaaaGreat
set_option linter.unusedSimpArgs false
set_option linter.unusedVariables false
open Go.RowKit

/-- a load of a struct under a guard that says yes -/
theorem wpList_load_aggGT {ops : Array Oper} {rest : List Oper} {o : Oper} {a : Act} {w : World} {Q : Exit → Act → World → Prop} (hw : Region.wanted o (yielded ops a.tmps) = true) (T : TypeId) (x : Operand) (ho : o.op = .load T x)
    (ad : Addr) (hx : a.eval x = .pointer (some ad)) (cs : List Value) (hc : ∀ (j : Nat) (v : Value), cs[j]? = some v → w.cell? (ad.add j) = some v) {d : TypeDesc} (hu : Tryz.prog.underlying T = some d)
    (hd : (match d with | .struct _ | .array _ _ => true | _ => false) = true) (hi : (Tryz.prog.info? T).map (·.size) = some cs.length)
    (h : wpList Tryz.prog ops Q rest (a.put o.dst (.agg cs.toArray)) w) : wpList Tryz.prog ops Q (o :: rest) a w :=
  BigFrame.wpList_want hw fun K hK => by
    unfold Oper.wp execOp
    simp only [ho, hx, Instr.loadAt, Instr.sureAddr, Sem.run_bind, Sem.run_pure, Result.andThen_ok, run_loadVar_cells w ad T cs hc hu hd hi]
    exact hK _ _ h
theorem flat_u32 : ∀ l : List UInt32, (l.map fun x => [Value.int .u32 (x.toNat : Int)]).flatten = l.map fun x => Value.int .u32 (x.toNat : Int)
  | [] => rfl
  | a :: t => by rw [List.map_cons, List.flatten_cons, flat_u32 t]; rfl
theorem awE_by (w : World) : ByE (w.alloc (.cells #[.int .u32 1, .int .u32 2, .int .u32 1, .int .u32 2, .int .u32 1, .int .u32 1] 55)) (w.heap.size + 1) (.slice (some ⟨w.heap.size, 0, none⟩) 2 2) awE := by
  refine ⟨_, 2, rfl, Nat.le_refl _, by simp [maxLen], fun _ => ⟨_, rfl, Nat.lt_succ_self _, fun i x hx => ?_⟩⟩
  have hb : BoxAt 55 (w.alloc (.cells #[.int .u32 1, .int .u32 2, .int .u32 1, .int .u32 2, .int .u32 1, .int .u32 1] 55)) w.heap.size [.int .u32 1, .int .u32 2, .int .u32 1, .int .u32 2, .int .u32 1, .int .u32 1] := BoxAt.new_ _ _ _
  match i, hx with
  | 0, hx =>
    injection hx with hx
    subst hx
    refine ⟨_, ⟨rfl, trivial⟩, fun j u hu => ?_⟩
    refine hb.cells (0 * cEdge.n + j) u ?_
    match j, hu with
    | 0, hu => exact hu
    | 1, hu => exact hu
    | 2, hu => exact hu
  | 1, hx =>
    injection hx with hx
    subst hx
    refine ⟨_, ⟨rfl, trivial⟩, fun j u hu => ?_⟩
    refine hb.cells (1 * cEdge.n + j) u ?_
    match j, hu with
    | 0, hu => exact hu
    | 1, hu => exact hu
    | 2, hu => exact hu
theorem byU_new (w : World) (l : List UInt32) (hm : l.length ≤ maxLen) (n : Nat) (hn : n = l.length) : OwnF 24 cU32 (w.alloc (.cells (l.map fun x => Value.int .u32 (x.toNat : Int)).toArray 24)) w.heap.size (.slice (some ⟨w.heap.size, 0, none⟩) n n) l := by
  subst hn
  have := OwnR.new_ (C := cU32) (E := 24) (S := fun _ => False) (xs := l) w (l.map fun x => [Value.int .u32 (x.toNat : Int)]) (by simp) hm (fun i cs x h1 h2 => by
    rw [List.getElem?_map, h2] at h1
    injection h1 with h1
    exact ⟨h1.symm, trivial⟩) (fun _ h => h.elim)
  rw [flat_u32] at this
  exact this
set_option maxRecDepth 100000 in
set_option maxHeartbeats 3200000 in
theorem awake_in (w : World) : Calls Tryz.prog 30 #[] w fun e w' => e = .returned (.bool true) ∧ Below w.heap.size w w' := by
  obtain ⟨w1, hw1⟩ : ∃ w1, w1 = w.alloc (.cells #[.int .u32 1, .int .u32 2, .int .u32 1, .int .u32 2, .int .u32 1, .int .u32 1] 55) := ⟨_, rfl⟩
  have hb1 : Below w.heap.size w w1 := by rw [hw1]; exact balloc _ _
  have hz1 : w1.heap.size = w.heap.size + 1 := by rw [hw1]; simp
  have hby : ByE w1 w1.heap.size (.slice (some ⟨w.heap.size, 0, none⟩) 2 2) awE := by rw [hz1, hw1]; exact awE_by w
  have hgo := gof_any w1 _ awE hby (by decide)
  have hbd : ∀ W, (Instr.build 55 #[(0, .int .u32 1), (1, .int .u32 2), (2, .int .u32 1)]).run Tryz.prog W = .ok (.agg #[.int .u32 1, .int .u32 2, .int .u32 1]) W := fun W => run_build W _ _ _ (by kernel_rfl)
  have hbe : ∀ W, (Instr.build 55 #[(0, .int .u32 2), (1, .int .u32 1), (2, .int .u32 1)]).run Tryz.prog W = .ok (.agg #[.int .u32 2, .int .u32 1, .int .u32 1]) W := fun W => run_build W _ _ _ (by kernel_rfl)
  have Hgo := Lib.hid hgo
  have Hb1 := Lib.hid hb1
  have Hw1 := Lib.hid hw1
  have Hz1 := Lib.hid hz1
  clear hgo hb1 hby hw1 hz1
  go_enter Tryz.func30, Tryz.ntmps30
  go_wp2_with fail
  rw [← Hw1.out]
  refine Hgo.out.mono ?_
  rintro e w2 ⟨hb2, (⟨⟨x, hx, hx0⟩, rfl⟩ | ⟨_, L, hp, hs, h⟩)⟩
  · exfalso
    revert hx0
    revert x
    decide
  have hr := aw_rows hp hs
  rcases h with ⟨h1, _⟩ | ⟨R, g, h1, rfl, hgB, hG⟩
  · rw [h1] at hr; cases hr
  rw [h1] at hr
  injection hr with hr
  subst hr
  have Hb2 := Lib.hid (bstep Hb1.out hb2)
  have HG := Lib.hid hG
  have hs2 : w.heap.size ≤ w2.heap.size := Hb2.out.size
  clear hp hs h1 hb2 hG hgB Hgo Hb1 Hw1 Hz1
  have hbg := fun W => jbegin_any W
  have Hbg := Lib.hid hbg
  clear hbg
  go_wp2_with fail
  refine (Hbg.out w2).mono ?_
  rintro _ w3 ⟨rfl, hb3⟩
  obtain ⟨w4, hw4⟩ : ∃ w4, w4 = w3.alloc (.cells (jobC beginJ (.slice none 0 0)).toArray 29) := ⟨_, rfl⟩
  obtain ⟨w5, hw5⟩ : ∃ w5, w5 = w4.alloc (.cells #[.int .u32 1] 24) := ⟨_, rfl⟩
  have hb4 : Below w3.heap.size w3 w4 := by rw [hw4]; exact balloc _ _
  have hb5 : Below w4.heap.size w4 w5 := by rw [hw5]; exact balloc _ _
  have hz4 : w4.heap.size = w3.heap.size + 1 := by rw [hw4]; simp
  have hz5 : w5.heap.size = w4.heap.size + 1 := by rw [hw5]; simp
  have hX4 : BoxAt 29 w4 w3.heap.size (jobC beginJ (.slice none 0 0)) := by rw [hw4]; exact BoxAt.new_ _ _ _
  have hX5 := hX4.bl_ hb5
  have hU5 : OwnF 24 cU32 w5 w4.heap.size (.slice (some ⟨w4.heap.size, 0, none⟩) 1 1) [1] := by rw [hw5]; exact byU_new w4 [1] (by simp [maxLen]) 1 rfl
  have hc4 := hX5.cell 4 _ rfl
  have hf4 := hX5.frozen 4
  have hX6 := hX5.put 4 (.slice (some ⟨w4.heap.size, 0, none⟩) 1 1)
  have hc2 := hX6.cell 2 _ rfl
  have hf2 := hX6.frozen 2
  have hX7 := hX6.put 2 (.int .u32 3)
  obtain ⟨w7, hw7⟩ : ∃ w7, w7 = (w5.setCell ⟨w3.heap.size, 4, none⟩ (.slice (some ⟨w4.heap.size, 0, none⟩) 1 1)).setCell ⟨w3.heap.size, 2, none⟩ (.int .u32 3) := ⟨_, rfl⟩
  rw [← hw7] at hX7
  have hX7' : BoxAt 29 w7 w3.heap.size (jobC awJ (.slice (some ⟨w4.heap.size, 0, none⟩) 1 1)) := hX7
  have hch : Chg (fun k => k = w3.heap.size) w5 w7 := by rw [hw7]; exact (Chg.set (P := fun k => k = w3.heap.size) _ ⟨w3.heap.size, 4, none⟩ _ rfl).trans (Chg.set (P := fun k => k = w3.heap.size) _ ⟨w3.heap.size, 2, none⟩ _ rfl)
  have hs3 := hb3.size
  have hs7 := hch.size
  have hbw7 : Below w2.heap.size w2 w7 := ((hb3.trans ((bstep hb4 hb5).mono (by omega)))).trans (hch.below (by omega) fun k hk => by omega)
  have hU7 : ByU w7 w7.heap.size (.slice (some ⟨w4.heap.size, 0, none⟩) 1 1) [1] := ((OwnR.chgT hU5 hch (fun k hk e => by injection hk with hk; simp only at hk; omega) (fun _ h => h.elim)).rowLt).mono (fun _ h => h) (fun _ h => h.elim)
  have hpa := path_any w7 g awR aw_good ((HG.out.below hbw7).more hbw7.size) (.agg (jobC awJ (.slice (some ⟨w4.heap.size, 0, none⟩) 1 1)).toArray) awJ 0 (by omega) ⟨_, rfl, hU7⟩ (by simp [awJ]) (sort_one 1) (by decide) (by decide)
  rw [aw_path] at hpa
  simp only [Int.natCast_zero] at hpa
  have Hpa := Lib.hid hpa
  have Hw4 := Lib.hid hw4
  have Hw5 := Lib.hid hw5
  have Hw7 := Lib.hid hw7
  have X7 := Lib.hid hX7'
  have Hbw7 := Lib.hid (bstep Hb2.out hbw7)
  have Hone : Hid (∀ u ∈ jobC beginJ (.slice none 0 0), u.oneCell' = true) := Lib.hid (jobC_one beginJ none 0 0)
  clear hpa hw4 hw5 hw7 hX7 hX7' hX6 hX5 hX4 hU5 hU7 hch hbw7 hb3 hb4 hb5 hs3 hz4 hz5 Hbg
  go_wp2_with (first
    | ((with_reducible refine wpList_alloc_z ?_ 29 ?_ infoJobZ (jobC zeroJ (.slice none 0 0)) ?_ ?_); exact rfl; exact rfl; exact rfl)
    | ((with_reducible refine wpList_store_new ?_ 29 (.tmp 3) (.tmp 11) ?_ (jobC zeroJ (.slice none 0 0)) (jobC beginJ (.slice none 0 0)) ?_ ?_ ?_ ?_ Hone.out ?_); exact rfl; exact rfl; exact rfl; exact rfl; exact infoJob_15; exact rfl; rw [← Hw4.out])
    | (rw [← Hw5.out])
    | (rw [← Hw7.out])
    | ((with_reducible refine wpList_load_aggGT ?_ 29 (.tmp 3) ?_ ⟨w3.heap.size, 0, none⟩ ?_ (jobC awJ (.slice (some ⟨w4.heap.size, 0, none⟩) 1 1)) X7.out.cells Tryz.underlying29 ?_ ?_ ?_); exact rfl; exact rfl; exact rfl; exact rfl; exact infoJob_15))
  refine Hpa.out.mono ?_
  rintro _ w8 ⟨vp, rfl, hO8, hb8⟩
  obtain ⟨w9, hw9⟩ : ∃ w9, w9 = w8.alloc (.cells #[.int .u32 1, .int .u32 2, .int .u32 1, .int .u32 2] 24) := ⟨_, rfl⟩
  have hb9 : Below w8.heap.size w8 w9 := by rw [hw9]; exact balloc _ _
  have hU9 : OwnF 24 cU32 w9 w8.heap.size (.slice (some ⟨w8.heap.size, 0, none⟩) 4 4) [1, 2, 1, 2] := by rw [hw9]; exact byU_new w8 [1, 2, 1, 2] (by simp [maxLen]) 4 rfl
  have hO9 := OwnR.below_ hO8 hb9
  have hsm := same_u w9 w9.heap.size (Nat.le_refl _) vp (.slice (some ⟨w8.heap.size, 0, none⟩) 4 4) [1, 2, 1, 2] [1, 2, 1, 2] (hO9.rowLt.mono (fun _ h => h) (fun _ h => h.elim)) (hU9.rowLt.mono (fun _ h => h) (fun _ h => h.elim)) (by decide) (by decide) true (by decide)
  have Hsm := Lib.hid hsm
  have Hw9 := Lib.hid hw9
  have Hb9 := Lib.hid (bstep Hbw7.out (bstep hb8 hb9))
  clear hsm hw9 hb8 hb9 hU9 hO9 hO8 Hpa
  go_wp2_with fail
  rw [← Hw9.out]
  refine Hsm.out.mono ?_
  rintro _ w10 ⟨rfl, hb10⟩
  have Hb10 := Lib.hid (bstep Hb9.out hb10)
  clear hb10
  go_wp2_with fail
  go_ret
  exact ⟨rfl, Hb10.out⟩
theorem awake_any22 (w : World) : Calls Tryz.prog 9 #[] w fun e w' => e = .returned (.bool true) ∧ Below w.heap.size w w' := by
  have h := awake_in w
  have H := Lib.hid h
  clear h
  go_enter Tryz.func9, Tryz.ntmps9
  go_wp2_with fail
  refine H.out.mono ?_
  rintro _ w1 ⟨rfl, hb1⟩
  go_wp2_with fail
  go_ret
  exact ⟨rfl, hb1⟩
end Go.Proofs.YtcffeepgfjpcaaaGreat

namespace Go.Proofs.YtcffeepgfjpcaaaGreat
set_option linter.unusedSimpArgs false
set_option linter.unusedVariables false
open Go.RowKit

/-- a number's cell -/
def eU (x : UInt32) : Value := .int .u32 (x.toNat : Int)
structure Srt (base g off n c : Nat) (l0 : List UInt32) (W0 W : World) : Prop where
  z : off = 0
  ex : ∃ l : List UInt32, l.Perm l0 ∧ l.length = n ∧ W.ownsRow base 24 1 (.slice (some ⟨g, 0, none⟩) n c) n (l.map eU)
  chg : Chg (fun k => k = g) W0 W
  blk : g < W0.heap.size
section
variable {base g off n c : Nat} {l0 : List UInt32} {W0 W W' : World}
theorem Srt.drewN (h : Srt base g off n c l0 W0 W) (q : Nat) : Srt base g off n c l0 W0 (W.drewN q) :=
  ⟨h.z, by obtain ⟨l, h1, h2, h3⟩ := h.ex; exact ⟨l, h1, h2, h3⟩, h.chg.drewN_ q, h.blk⟩
theorem Srt.drew (h : Srt base g off n c l0 W0 W) : Srt base g off n c l0 W0 W.drew := h.drewN 1
theorem Srt.chged (h : Srt base g off n c l0 W0 W) {P : Nat → Prop} (hc : Chg P W W') (hP : ∀ k, P k → W0.heap.size ≤ k) : Srt base g off n c l0 W0 W' := by
  obtain ⟨l, h1, h2, h3⟩ := h.ex
  refine ⟨h.z, ⟨l, h1, h2, ?_⟩, h.chg.past hc fun k hk => .inl (hP k hk), h.blk⟩
  have hg : g < W.heap.size := Nat.lt_of_lt_of_le h.blk h.chg.size
  have hb : W'.heap[g]? = W.heap[g]? := hc.block g hg fun hp => by have := hP g hp; have := h.blk; omega
  rcases h3.2 with ⟨e, hn⟩ | ⟨g', cap', cur, e, hb1, hb2, hrest⟩
  · simp at e
  · have e2 := e
    simp only [Value.slice.injEq, Option.some.injEq, Addr.mk.injEq, and_true, true_and] at e2
    obtain ⟨rfl, rfl⟩ := e2
    exact ⟨h3.1, .inr ⟨g, c, cur, e, hb1, hb.trans hb2, hrest⟩⟩
/-- what a walk wants of the row -/
theorem Srt.fam (h : Srt base g off n c l0 W0 W) : ∃ G : Nat → Nat, (∀ t, t < n → W.cell? ⟨g, off + t, none⟩ = some (.int .u32 (G t : Int))) ∧ (∀ t, t < n → W.frozen? ⟨g, off + t, none⟩ = false) ∧
    Hid (∀ q i j, i < n → j < n → Srt base g off n c l0 W0 (((W.drewN q).setCell ⟨g, off + i, none⟩ (.int .u32 (G j : Int))).setCell ⟨g, off + j, none⟩ (.int .u32 (G i : Int)))) := by
  obtain ⟨l, h1, h2, h3⟩ := h.ex
  obtain rfl := h.z
  have hG : ∀ t (ht : t < l.length), l[t]?.map eU = some (.int .u32 ((l.getD t 0).toNat : Int)) := fun t ht => by
    rw [List.getElem?_eq_getElem ht, Option.map_some, List.getD_eq_getElem?_getD, List.getElem?_eq_getElem ht]; rfl
  refine ⟨fun t => (l.getD t 0).toNat, fun t ht => ?_, fun t _ => ?_, Lib.hid fun q i j hi hj => ?_⟩
  · rw [Nat.zero_add, h3.cellAt t (by omega), List.getElem?_map, hG t (by omega)]
  · rw [Nat.zero_add]; exact h3.frozenAt t
  · rw [Nat.zero_add, Nat.zero_add]
    have h4 : (W.drewN q).ownsRow base 24 1 (.slice (some ⟨g, 0, none⟩) n c) n (l.map eU) := h3
    obtain ⟨s1, c1⟩ := h4.stored i (.int .u32 ((l.getD j 0).toNat : Int))
    obtain ⟨s2, c2⟩ := s1.stored j (.int .u32 ((l.getD i 0).toNat : Int))
    have hi2 : i < l.length := by omega
    have hj2 : j < l.length := by omega
    refine ⟨rfl, ⟨(l.set i l[j]).set j l[i], (List.set_set_perm hi2 hj2).trans h1, by simp [h2], ?_⟩, ?_, h.blk⟩
    · have e : ((l.set i l[j]).set j l[i]).map eU = ((l.map eU).set i (.int .u32 ((l.getD j 0).toNat : Int))).set j (.int .u32 ((l.getD i 0).toNat : Int)) := by
        rw [List.map_set, List.map_set]
        have ei : l.getD i 0 = l[i] := by rw [List.getD_eq_getElem?_getD, List.getElem?_eq_getElem hi2]; rfl
        have ej : l.getD j 0 = l[j] := by rw [List.getD_eq_getElem?_getD, List.getElem?_eq_getElem hj2]; rfl
        rw [ei, ej]
        rfl
      rw [e]
      exact s2
    · exact ((h.chg.drewN_ q).trans (Chg.set _ _ _ rfl)).trans (Chg.set _ _ _ rfl)
/-- behind an exchange's first store the second place still holds something (the two places may be one) -/
theorem famSet {G : Nat → Nat} (hc : ∀ t, t < n → W.cell? ⟨g, off + t, none⟩ = some (.int .u32 (G t : Int))) (i j : Nat) (hi : i < n) (hj : j < n) (v : Value) : ∃ u, (W.setCell ⟨g, off + i, none⟩ v).cell? ⟨g, off + j, none⟩ = some u := by
  by_cases e : i = j
  · subst e; exact ⟨v, World.cell?_setCell_same _ _ _ (hc i hi)⟩
  · exact ⟨_, (World.cell?_setCell_other _ _ _ _ (by intro e'; simp only [Addr.mk.injEq] at e'; omega)).trans (hc j hj)⟩
end
/-- cmp.isNaN, cmp.Less at numbers -/
theorem nanU (x : Nat) (W : World) : Calls Tryz.prog 104 #[.int .u32 (x : Int)] W fun e w' => e = .returned (.bool false) ∧ w' = W := by
  go_enter Tryz.func104, Tryz.ntmps104
  go_wp2
  go_ret
  simp
theorem lessU (x y : Nat) (W : World) : Calls Tryz.prog 143 #[.int .u32 (x : Int), .int .u32 (y : Int)] W fun e w' => e = .returned (.bool (decide (x < y))) ∧ w' = W := by
  have hn := fun W => nanU x W
  have Hn := Lib.hid hn
  clear hn
  go_enter Tryz.func143, Tryz.ntmps143
  go_wp2_with fail
  refine (Hn.out _).mono ?_
  rintro _ _ ⟨rfl, rfl⟩
  go_wp2_with fail
  go_ret
  simp
end Go.Proofs.YtcffeepgfjpcaaaGreat

namespace Go.Proofs.YtcffeepgfjpcaaaGreat
set_option linter.unusedSimpArgs false
set_option linter.unusedVariables false
open Go.RowKit

set_option maxRecDepth 100000 in
set_option maxHeartbeats 3200000 in
theorem insU (base g off n c a b : Nat) (l0 : List UInt32) (W0 W : World) (h : Srt base g off n c l0 W0 W) (hab : a ≤ b) (hb : b ≤ n) (hn : n ≤ 1048576) :
    Calls Tryz.prog 137 #[.slice (some ⟨g, off, none⟩) n c, .int .i64 (a : Int), .int .i64 (b : Int)] W fun e w' => e = .returned (.tuple #[]) ∧ Srt base g off n c l0 W0 w' := by
  have S0 := Lib.hid h
  clear h
  go_enter Tryz.func137, Tryz.ntmps137
  go_wp2
  go_loopw [6] (fun vi wr => ∃ i : Nat, vi = .int .i64 i ∧ a < i ∧ i ≤ b + 1 ∧ Srt base g off n c l0 W0 wr) (fun vi _ => b + 1 - (intOf vi).toNat)
  case atStart => exact ⟨a + 1, by go_num, by omega, by omega, S0.out⟩
  case round =>
    obtain ⟨i, rfl, hai, hib, hS⟩ := hrel
    have S1 := Lib.hid hS
    clear hS
    go_wp2
    · go_loopw [7] (fun vj wr2 => ∃ j : Nat, vj = .int .i64 j ∧ a ≤ j ∧ j ≤ i ∧ Srt base g off n c l0 W0 wr2) (fun vj _ => (intOf vj).toNat)
      case atStart => exact ⟨i, rfl, by omega, Nat.le_refl _, S1.out⟩
      case round =>
        obtain ⟨j, rfl, haj, hji, hS⟩ := hrel
        have hlt : i < b := by assumption
        have SJ := Lib.hid hS
        obtain ⟨G, hcw, hfw, SW⟩ := hS.fam
        clear hS
        go_wp2
        by_cases hja : a < j
        · go_quiet (first | (go_at_call 143; refine Calls.quiet_of_same (lessU _ _ _)))
          go_wp2
          · go_region
            all_goals go_wp2
            go_roundw
            case rel => exact ⟨j - 1, by congr 1; omega, by omega, by omega, SW.out (nq + 1) j (j - 1) (by omega) (by omega)⟩
            case measure => simp [intOf]; omega
          · go_roundw
            case rel => exact ⟨i + 1, by go_num, by omega, by omega, SJ.out.drewN nq⟩
            case measure => simp [intOf]; omega
        · go_quiet (first | (go_at_call 143; refine Calls.quiet_of_same (lessU _ _ _)))
          go_wp2
          go_roundw
          case rel => exact ⟨i + 1, by go_num, by omega, by omega, SJ.out.drewN nq⟩
          case measure => simp [intOf]; omega
    · go_end0
      exact ⟨rfl, S1.out⟩
set_option maxRecDepth 100000 in
set_option maxHeartbeats 3200000 in
theorem revU (base g off n c a b : Nat) (l0 : List UInt32) (W0 W : World) (h : Srt base g off n c l0 W0 W) (hab : a < b) (hb : b ≤ n) (hn : n ≤ 1048576) :
    Calls Tryz.prog 141 #[.slice (some ⟨g, off, none⟩) n c, .int .i64 (a : Int), .int .i64 (b : Int)] W fun e w' => e = .returned (.tuple #[]) ∧ Srt base g off n c l0 W0 w' := by
  have S0 := Lib.hid h
  clear h
  go_enter Tryz.func141, Tryz.ntmps141
  go_wp2
  go_loopw [6, 7] (fun vi vj wr => ∃ i j : Nat, vi = .int .i64 i ∧ vj = .int .i64 j ∧ a ≤ i ∧ i ≤ b ∧ j < b ∧ Srt base g off n c l0 W0 wr) (fun vi _ _ => b + 1 - (intOf vi).toNat)
  case atStart => exact ⟨a, b - 1, by go_num, by congr 1; omega, by omega, by omega, by omega, S0.out⟩
  case round =>
    obtain ⟨i, j, rfl, rfl, hai, hib, hjb, hS⟩ := hrel
    have SJ := Lib.hid hS
    obtain ⟨G, hcw, hfw, SW⟩ := hS.fam
    clear hS
    go_wp2
    · go_region
      all_goals go_wp2
      go_roundw
      case rel => exact ⟨i + 1, j - 1, by go_num, by congr 1; omega, by omega, by omega, by omega, SW.out 1 i j (by omega) (by omega)⟩
      case measure => simp [intOf]; omega
    · go_end0
      exact ⟨rfl, SJ.out⟩
end Go.Proofs.YtcffeepgfjpcaaaGreat

namespace Go.Proofs.YtcffeepgfjpcaaaGreat
set_option linter.unusedSimpArgs false
set_option linter.unusedVariables false
open Go.RowKit

set_option maxRecDepth 100000 in
set_option maxHeartbeats 3200000 in
theorem siftU (base g off n c lo hi fi : Nat) (l0 : List UInt32) (W0 W : World) (h : Srt base g off n c l0 W0 W) (hlo : lo ≤ n) (hb : fi + hi ≤ n) (hn : n ≤ 1048576) :
    Calls Tryz.prog 146 #[.slice (some ⟨g, off, none⟩) n c, .int .i64 (lo : Int), .int .i64 (hi : Int), .int .i64 (fi : Int)] W fun e w' => e = .returned (.tuple #[]) ∧ Srt base g off n c l0 W0 w' := by
  have S0 := Lib.hid h
  clear h
  go_enter Tryz.func146, Tryz.ntmps146
  go_wp2
  go_loopw [8] (fun vi wr => ∃ i : Nat, vi = .int .i64 i ∧ i ≤ n ∧ Srt base g off n c l0 W0 wr) (fun vi _ => n + 1 - (intOf vi).toNat)
  case atStart => exact ⟨lo, by go_num, by omega, S0.out⟩
  case round =>
    obtain ⟨i, rfl, hin, hS⟩ := hrel
    have SJ := Lib.hid hS
    obtain ⟨G, hcw, hfw, SW⟩ := hS.fam
    clear hS
    obtain ⟨ch, hce⟩ : ∃ ch, ch = 2 * i + 1 := ⟨_, rfl⟩
    have hcz : 2 * (i : Int) + 1 = (ch : Int) := by omega
    have HCZ := Lib.hid hcz
    have hci : i < ch := by omega
    clear hce
    by_cases hch : ch < hi
    · have hdd : decide ((hi : Int) ≤ 2 * (i : Int) + 1) = false := decide_eq_false (by omega)
      clear hcz
      go_upto_region 3 with (fail)
      rw [HCZ.out]
      have hr1 : IntKind.i64.wrap ((ch : Int) + 1) = (ch : Int) + 1 := by rw [IntKind.wrap_i64]; omega
      have hr2 : IntKind.i64.wrap ((fi : Int) + (ch : Int)) = (fi : Int) + (ch : Int) := by rw [IntKind.wrap_i64]; omega
      have hr3 : IntKind.i64.wrap ((fi : Int) + (ch : Int) + 1) = (fi : Int) + (ch : Int) + 1 := by rw [IntKind.wrap_i64]; omega
      by_cases hc2 : ch + 1 < hi
      · have hd2 : decide ((ch : Int) + 1 < (hi : Int)) = true := decide_eq_true (by omega)
        have hi2 : (fi : Int) + (ch : Int) + 1 < (n : Int) := by omega
        have hi3 : (fi : Int) + (ch : Int) < (n : Int) := by omega
        go_quiet (first | (go_at_call 143; refine Calls.quiet_of_same (lessU _ _ _)))
        go_wp2
        · obtain ⟨cc, hcc⟩ : ∃ cc : Nat, cc = ch + 1 := ⟨_, rfl⟩
          have HC2 := Lib.hid (show (ch : Int) + 1 = (cc : Int) by omega)
          have hcl : cc < hi := by omega
          have hcl2 : ch < cc := by omega
          clear hcc
          rw [HC2.out]
          have hci2 : i < cc := by omega
          have hcn : fi + cc < n := by omega
          have hin2 : fi + i < n := by omega
          have hr4 : IntKind.i64.wrap ((fi : Int) + (i : Int)) = (fi : Int) + (i : Int) := by rw [IntKind.wrap_i64]; omega
          have hr5 : IntKind.i64.wrap ((fi : Int) + (cc : Int)) = (fi : Int) + (cc : Int) := by rw [IntKind.wrap_i64]; omega
          have hi4 : (fi : Int) + (cc : Int) < (n : Int) := by omega
          have hi5 : (fi : Int) + (i : Int) < (n : Int) := by omega
          have SK := Lib.hid (SJ.out.drewN nq)
          obtain ⟨wk, hwk⟩ : ∃ wk, wk = wr.drewN nq := ⟨_, rfl⟩
          rw [← hwk] at SK ⊢
          obtain ⟨G2, hcw2, hfw2, SW2⟩ := SK.out.fam
          clear hwk hcw hfw SW SJ
          go_quiet (first | (go_at_call 143; refine Calls.quiet_of_same (lessU _ _ _)))
          go_wp2
          · (try simp only [Exit.inBlock, Exit.then]); refine bodyPost_ret (results_none rfl _ _ _) rfl ?_
            exact ⟨rfl, SK.out.drewN _⟩
          · go_region
            all_goals go_wp2
            go_roundw
            case rel => exact ⟨cc, by first | rfl | go_num, by omega, SW2.out _ (fi + i) (fi + cc) (by omega) (by omega)⟩
            case measure => simp [intOf]; omega
        · have HC2 := Lib.hid hc2
          have hcl : ch < hi := hch
          clear hc2 hd2 hi2
          obtain ⟨cc, rfl⟩ : ∃ cc, cc = ch := ⟨_, rfl⟩
          have hci2 : i < cc := by omega
          have hcn : fi + cc < n := by omega
          have hin2 : fi + i < n := by omega
          have hr4 : IntKind.i64.wrap ((fi : Int) + (i : Int)) = (fi : Int) + (i : Int) := by rw [IntKind.wrap_i64]; omega
          have hr5 : IntKind.i64.wrap ((fi : Int) + (cc : Int)) = (fi : Int) + (cc : Int) := by rw [IntKind.wrap_i64]; omega
          have hi4 : (fi : Int) + (cc : Int) < (n : Int) := by omega
          have hi5 : (fi : Int) + (i : Int) < (n : Int) := by omega
          have SK := Lib.hid (SJ.out.drewN nq)
          obtain ⟨wk, hwk⟩ : ∃ wk, wk = wr.drewN nq := ⟨_, rfl⟩
          rw [← hwk] at SK ⊢
          obtain ⟨G2, hcw2, hfw2, SW2⟩ := SK.out.fam
          clear hwk hcw hfw SW SJ
          go_quiet (first | (go_at_call 143; refine Calls.quiet_of_same (lessU _ _ _)))
          go_wp2
          · (try simp only [Exit.inBlock, Exit.then]); refine bodyPost_ret (results_none rfl _ _ _) rfl ?_
            exact ⟨rfl, SK.out.drewN _⟩
          · go_region
            all_goals go_wp2
            go_roundw
            case rel => exact ⟨cc, by first | rfl | go_num, by omega, SW2.out _ (fi + i) (fi + cc) (by omega) (by omega)⟩
            case measure => simp [intOf]; omega
      · have hd2 : decide ((ch : Int) + 1 < (hi : Int)) = false := decide_eq_false (by omega)
        go_quiet (first | (go_at_call 143; refine Calls.quiet_of_same (lessU _ _ _)))
        go_wp2
        obtain ⟨cc, rfl⟩ : ∃ cc, cc = ch := ⟨_, rfl⟩
        have hci2 : i < cc := by omega
        have hcn : fi + cc < n := by omega
        have hin2 : fi + i < n := by omega
        have hr4 : IntKind.i64.wrap ((fi : Int) + (i : Int)) = (fi : Int) + (i : Int) := by rw [IntKind.wrap_i64]; omega
        have hr5 : IntKind.i64.wrap ((fi : Int) + (cc : Int)) = (fi : Int) + (cc : Int) := by rw [IntKind.wrap_i64]; omega
        have hi4 : (fi : Int) + (cc : Int) < (n : Int) := by omega
        have hi5 : (fi : Int) + (i : Int) < (n : Int) := by omega
        have SK := Lib.hid (SJ.out.drewN nq)
        obtain ⟨wk, hwk⟩ : ∃ wk, wk = wr.drewN nq := ⟨_, rfl⟩
        rw [← hwk] at SK ⊢
        obtain ⟨G2, hcw2, hfw2, SW2⟩ := SK.out.fam
        clear hwk hcw hfw SW SJ
        go_quiet (first | (go_at_call 143; refine Calls.quiet_of_same (lessU _ _ _)))
        go_wp2
        · (try simp only [Exit.inBlock, Exit.then]); refine bodyPost_ret (results_none rfl _ _ _) rfl ?_
          exact ⟨rfl, SK.out.drewN _⟩
        · go_region
          all_goals go_wp2
          go_roundw
          case rel => exact ⟨cc, by first | rfl | go_num, by omega, SW2.out _ (fi + i) (fi + cc) (by omega) (by omega)⟩
          case measure => simp [intOf]; omega
    · have hdd : decide ((hi : Int) ≤ 2 * (i : Int) + 1) = true := decide_eq_true (by omega)
      clear hcz
      go_wp2
      go_end0
      exact ⟨rfl, SJ.out⟩
set_option maxRecDepth 100000 in
set_option maxHeartbeats 3200000 in
theorem heapU (base g off n c a b : Nat) (l0 : List UInt32) (W0 W : World) (h : Srt base g off n c l0 W0 W) (hab : a < b) (hb : b ≤ n) (hn : n ≤ 1048576) :
    Calls Tryz.prog 138 #[.slice (some ⟨g, off, none⟩) n c, .int .i64 (a : Int), .int .i64 (b : Int)] W fun e w' => e = .returned (.tuple #[]) ∧ Srt base g off n c l0 W0 w' := by
  have S0 := Lib.hid h
  have Hsf := Lib.hid (fun (lo hi : Nat) (w' : World) (h' : Srt base g off n c l0 W0 w') (h1 : lo ≤ n) (h2 : a + hi ≤ n) => siftU base g off n c lo hi a l0 W0 w' h' h1 h2 hn)
  clear h
  obtain ⟨hi, hhi⟩ : ∃ hi : Nat, hi = b - a := ⟨_, rfl⟩
  have hz : (b : Int) - (a : Int) = (hi : Int) := by omega
  have hz2 : ((hi : Int) - 1).tdiv 2 = (((hi - 1) / 2 : Nat) : Int) := by rw [show (hi : Int) - 1 = ((hi - 1 : Nat) : Int) by omega]; exact (Int.ofNat_tdiv _ _).symm
  have hhn : a + hi ≤ n := by omega
  have hh1 : 1 ≤ hi := by omega
  clear hhi
  go_enter Tryz.func138, Tryz.ntmps138
  go_wp2
  go_loopw [9] (fun vi wr => ∃ i : Int, vi = .int .i64 i ∧ -1 ≤ i ∧ i < n ∧ Srt base g off n c l0 W0 wr) (fun vi _ => (intOf vi + 1).toNat)
  case atStart => exact ⟨_, rfl, by omega, by omega, S0.out⟩
  case round =>
    obtain ⟨i, rfl, hi1, hi2, hS⟩ := hrel
    have S1 := Lib.hid hS
    clear hS
    by_cases hge : 0 ≤ i
    · obtain ⟨k, rfl⟩ := Int.eq_ofNat_of_zero_le hge
      have hkn : k ≤ n := by omega
      have hd : decide ((k : Int) ≥ 0) = true := decide_eq_true (by omega)
      have HC := Lib.hid (Hsf.out k hi _ S1.out hkn hhn)
      go_wp2_with fail
      refine HC.out.mono ?_
      rintro _ w1 ⟨rfl, hS⟩
      have S2 := Lib.hid hS
      clear hS HC
      go_wp2
      go_roundw
      case rel => exact ⟨(k : Int) - 1, rfl, by omega, by omega, S2.out⟩
      case measure => simp [intOf]
    · have hd : decide (i ≥ 0) = false := decide_eq_false hge
      go_wp2
      go_loopw [10] (fun vi wx => ∃ i : Int, vi = .int .i64 i ∧ -1 ≤ i ∧ i < hi ∧ Srt base g off n c l0 W0 wx) (fun vi _ => (intOf vi + 1).toNat)
      case atStart => exact ⟨_, rfl, by omega, by omega, S1.out⟩
      case round =>
        obtain ⟨i, rfl, hi1, hi2, hS⟩ := hrel
        have SJ := Lib.hid hS
        obtain ⟨G, hcw, hfw, SW⟩ := hS.fam
        clear hS
        by_cases hge : 0 ≤ i
        · obtain ⟨k, rfl⟩ := Int.eq_ofNat_of_zero_le hge
          have hd : decide ((k : Int) ≥ 0) = true := decide_eq_true (by omega)
          have hr1 : IntKind.i64.wrap ((a : Int) + (k : Int)) = (a : Int) + (k : Int) := by rw [IntKind.wrap_i64]; omega
          have hb1 : (a : Int) + (k : Int) < (n : Int) := by omega
          obtain ⟨u1, hu1⟩ := famSet hcw a (a + k) (by omega) (by omega) (.int .u32 (G (a + k) : Int))
          go_wp2
          go_region
          all_goals go_wp2_with fail
          refine (Hsf.out 0 k _ (SW.out 1 a (a + k) (by omega) (by omega)) (by omega) (by omega)).mono ?_
          rintro _ w1 ⟨rfl, hS⟩
          have S2 := Lib.hid hS
          clear hS
          go_wp2
          go_roundw
          case rel => exact ⟨(k : Int) - 1, rfl, by omega, by omega, S2.out⟩
          case measure => simp [intOf]
        · have hd : decide (i ≥ 0) = false := decide_eq_false hge
          go_wp2
          go_end0
          exact ⟨rfl, SJ.out⟩
end Go.Proofs.YtcffeepgfjpcaaaGreat

namespace Go.Proofs.YtcffeepgfjpcaaaGreat
set_option linter.unusedSimpArgs false
set_option linter.unusedVariables false
open Go.RowKit

structure Ctr (base g off n c : Nat) (l0 : List UInt32) (W0 : World) (k : Nat) (W : World) : Prop where
  srt : Srt base g off n c l0 W0 W
  box : ∃ s : Int, W.cell? ⟨k, 0, none⟩ = some (.int .i64 s)
  frz : W.frozen? ⟨k, 0, none⟩ = false
  new : W0.heap.size ≤ k
section
variable {base g off n c k : Nat} {l0 : List UInt32} {W0 W : World}
theorem Ctr.drewN (h : Ctr base g off n c l0 W0 k W) (q : Nat) : Ctr base g off n c l0 W0 k (W.drewN q) := ⟨h.srt.drewN q, h.box, h.frz, h.new⟩
theorem Ctr.bump (h : Ctr base g off n c l0 W0 k W) (t : Int) : Ctr base g off n c l0 W0 k (W.setCell ⟨k, 0, none⟩ (.int .i64 t)) := by
  obtain ⟨s, hs⟩ := h.box
  refine ⟨h.srt.chged (P := fun q => q = k) (Chg.set _ _ _ rfl) (fun q e => by subst e; exact h.new), ⟨t, World.cell?_setCell_same _ _ _ hs⟩, ?_, h.new⟩
  rw [World.frozen?_setCell]
  exact h.frz
theorem Ctr.start (h : Srt base g off n c l0 W0 W) (T : TypeId) : Ctr base g off n c l0 W0 W.heap.size (W.alloc (.cells #[.int .i64 0] T)) :=
  ⟨h.chged (P := fun _ => False) (Chg.ofBelow (balloc _ _)) (fun _ h => h.elim), ⟨0, by simp⟩, by simp, h.chg.size⟩
end
set_option maxRecDepth 100000 in
set_option maxHeartbeats 1600000 in
theorem ord2U (base g off n c a b k : Nat) (l0 : List UInt32) (W0 W : World) (h : Ctr base g off n c l0 W0 k W) (ha : a < n) (hb : b < n) (hn : n ≤ 1048576) :
    Calls Tryz.prog 149 #[.slice (some ⟨g, off, none⟩) n c, .int .i64 (a : Int), .int .i64 (b : Int), .pointer (some ⟨k, 0, none⟩)] W
      fun e w' => ∃ x y : Nat, e = .returned (.tuple #[.int .i64 (x : Int), .int .i64 (y : Int)]) ∧ ((x = a ∧ y = b) ∨ (x = b ∧ y = a)) ∧ Ctr base g off n c l0 W0 k w' := by
  have S0 := Lib.hid h
  obtain ⟨G, hcw, hfw, _⟩ := h.srt.fam
  clear h
  go_enter Tryz.func149, Tryz.ntmps149
  go_wp2
  go_quiet (first | (go_at_call 143; refine Calls.quiet_of_same (lessU _ _ _)))
  have SK := Lib.hid (S0.out.drewN nq)
  clear hcw hfw S0
  generalize W.drewN nq = W2 at *
  obtain ⟨s, hs⟩ := SK.out.box
  have hf := SK.out.frz
  have HB := Lib.hid (SK.out.bump)
  go_wp2
  · go_ret2
    exact ⟨b, a, rfl, .inr ⟨rfl, rfl⟩, HB.out _⟩
  · go_ret2
    exact ⟨a, b, rfl, .inl ⟨rfl, rfl⟩, SK.out⟩
set_option maxRecDepth 100000 in
set_option maxHeartbeats 1600000 in
theorem medU (base g off n c a b d k : Nat) (l0 : List UInt32) (W0 W : World) (h : Ctr base g off n c l0 W0 k W) (ha : a < n) (hb : b < n) (hd : d < n) (hn : n ≤ 1048576) :
    Calls Tryz.prog 148 #[.slice (some ⟨g, off, none⟩) n c, .int .i64 (a : Int), .int .i64 (b : Int), .int .i64 (d : Int), .pointer (some ⟨k, 0, none⟩)] W
      fun e w' => ∃ x : Nat, e = .returned (.int .i64 (x : Int)) ∧ (x = a ∨ x = b ∨ x = d) ∧ Ctr base g off n c l0 W0 k w' := by
  have S0 := Lib.hid h
  have HO := Lib.hid (fun (a b : Nat) (w' : World) (h' : Ctr base g off n c l0 W0 k w') (h1 : a < n) (h2 : b < n) => ord2U base g off n c a b k l0 W0 w' h' h1 h2 hn)
  clear h
  go_enter Tryz.func148, Tryz.ntmps148
  go_wp2_with fail
  refine (HO.out a b _ S0.out ha hb).mono ?_
  rintro _ w1 ⟨x1, y1, rfl, h1, S1⟩
  have HS1 := Lib.hid S1
  have H1 := Lib.hid h1
  have hy1 : y1 < n := by omega
  have hx1 : x1 < n := by omega
  clear S1 h1 S0
  go_wp2_with fail
  refine (HO.out y1 d _ HS1.out hy1 hd).mono ?_
  rintro _ w2 ⟨x2, y2, rfl, h2, S2⟩
  have HS2 := Lib.hid S2
  have H2 := Lib.hid h2
  have hy2 : y2 < n := by omega
  have hx2 : x2 < n := by omega
  clear S2 h2 HS1
  go_wp2_with fail
  refine (HO.out x1 x2 _ HS2.out hx1 hx2).mono ?_
  rintro _ w3 ⟨x3, y3, rfl, h3, S3⟩
  have HS3 := Lib.hid S3
  have H3 := Lib.hid h3
  clear S3 h3 HS2
  go_wp2_with fail
  go_ret
  refine ⟨y3, rfl, ?_, HS3.out⟩
  have e1 := H1.out
  have e2 := H2.out
  have e3 := H3.out
  omega
set_option maxRecDepth 100000 in
set_option maxHeartbeats 1600000 in
theorem medAU (base g off n c a k : Nat) (l0 : List UInt32) (W0 W : World) (h : Ctr base g off n c l0 W0 k W) (ha : 1 ≤ a) (hb : a + 1 < n) (hn : n ≤ 1048576) :
    Calls Tryz.prog 147 #[.slice (some ⟨g, off, none⟩) n c, .int .i64 (a : Int), .pointer (some ⟨k, 0, none⟩)] W
      fun e w' => ∃ x : Nat, e = .returned (.int .i64 (x : Int)) ∧ (a ≤ x + 1 ∧ x ≤ a + 1) ∧ Ctr base g off n c l0 W0 k w' := by
  have HM := Lib.hid (medU base g off n c (a - 1) a (a + 1) k l0 W0 W h (by omega) (by omega) (by omega) hn)
  clear h
  have hz1 : (a : Int) - 1 = ((a - 1 : Nat) : Int) := by omega
  have hz2 : (a : Int) + 1 = ((a + 1 : Nat) : Int) := by omega
  obtain ⟨p, hp⟩ : ∃ p, p = a - 1 := ⟨_, rfl⟩
  obtain ⟨q, hq⟩ : ∃ q, q = a + 1 := ⟨_, rfl⟩
  rw [← hp] at HM hz1
  rw [← hq] at HM hz2
  have Hp := Lib.hid hp
  have Hq := Lib.hid hq
  clear hp hq
  go_enter Tryz.func147, Tryz.ntmps147
  go_wp2_with fail
  refine HM.out.mono ?_
  rintro _ w1 ⟨x, rfl, hx, S1⟩
  have HS1 := Lib.hid S1
  have Hx := Lib.hid hx
  clear S1 hx
  go_wp2_with fail
  go_ret
  refine ⟨x, rfl, ?_, HS1.out⟩
  have e1 := Hp.out
  have e2 := Hq.out
  have e3 := Hx.out
  omega
set_option maxRecDepth 100000 in
set_option maxHeartbeats 3200000 in
theorem pivU (base g off n c a b : Nat) (l0 : List UInt32) (W0 W : World) (h : Srt base g off n c l0 W0 W) (hab : a + 8 ≤ b) (hb : b ≤ n) (hn : n ≤ 1048576) :
    Calls Tryz.prog 140 #[.slice (some ⟨g, off, none⟩) n c, .int .i64 (a : Int), .int .i64 (b : Int)] W
      fun e w' => ∃ (x : Nat) (t : Int), e = .returned (.tuple #[.int .i64 (x : Int), .int .i64 t]) ∧ (a ≤ x ∧ x < b) ∧ Srt base g off n c l0 W0 w' := by
  obtain ⟨l, hl⟩ : ∃ l : Nat, l = b - a := ⟨_, rfl⟩
  have hz : (b : Int) - (a : Int) = (l : Int) := by omega
  obtain ⟨f, hf⟩ : ∃ f : Nat, f = l / 4 := ⟨_, rfl⟩
  have hf2 : (l : Int) / 4 = (f : Int) := by omega
  have hf3 : f * 4 ≤ l ∧ l < f * 4 + 4 := by omega
  have h8 : 8 ≤ l := by omega
  have hln : a + l ≤ n := by omega
  have hab2 : b = a + l := by omega
  have hC0 := fun T => Ctr.start h T
  have HC0 := Lib.hid hC0
  have hbw : g < W.heap.size := Nat.lt_of_lt_of_le h.blk h.chg.size
  clear h hl hf hC0
  have HM := Lib.hid (fun (k x y z : Nat) (w' : World) (h' : Ctr base g off n c l0 W0 k w') (h1 : x < n) (h2 : y < n) (h3 : z < n) => medU base g off n c x y z k l0 W0 w' h' h1 h2 h3 hn)
  have HA := Lib.hid (fun (k x : Nat) (w' : World) (h' : Ctr base g off n c l0 W0 k w') (h1 : 1 ≤ x) (h2 : x + 1 < n) => medAU base g off n c x k l0 W0 w' h' h1 h2 hn)
  have hy1 : (a : Int) + (f : Int) = ((a + f : Nat) : Int) := by omega
  have hy2 : (a : Int) + (f : Int) * 2 = ((a + f * 2 : Nat) : Int) := by omega
  have hy3 : (a : Int) + (f : Int) * 3 = ((a + f * 3 : Nat) : Int) := by omega
  obtain ⟨i1, e1⟩ : ∃ i, i = a + f := ⟨_, rfl⟩
  obtain ⟨i2, e2⟩ : ∃ i, i = a + f * 2 := ⟨_, rfl⟩
  obtain ⟨i3, e3⟩ : ∃ i, i = a + f * 3 := ⟨_, rfl⟩
  rw [← e1] at hy1
  rw [← e2] at hy2
  rw [← e3] at hy3
  have hn1 : a ≤ i1 ∧ i1 < b ∧ a ≤ i2 ∧ i2 < b ∧ a ≤ i3 ∧ i3 < b := by omega
  have hnn : 50 ≤ l → 1 ≤ i1 ∧ i1 + 1 < b ∧ 1 ≤ i2 ∧ i2 + 1 < b ∧ 1 ≤ i3 ∧ i3 + 1 < b ∧ a + 1 ≤ i1 ∧ a + 1 ≤ i2 ∧ a + 1 ≤ i3 := by omega
  have Hnn := Lib.hid hnn
  have Hn1 := Lib.hid hn1
  clear e1 e2 e3 hnn hn1 hf3 hab2
  have hd8 : decide ((l : Int) ≥ 8) = true := decide_eq_true (by omega)
  go_enter Tryz.func140, Tryz.ntmps140
  by_cases h50 : 50 ≤ l
  · have hd50 : decide ((l : Int) ≥ 50) = true := decide_eq_true (by omega)
    have hn5 := Hnn.out h50
    have hbn : ∀ q, q < b → q < n := fun q hq => by omega
    have Hbn := Lib.hid hbn
    clear hbn
    go_wp2_with fail
    have HS0 := Lib.hid (HC0.out 3)
    refine (HA.out _ i1 _ HS0.out (by omega) (by omega)).mono ?_
    rintro _ w1 ⟨x1, rfl, hx1, S1⟩
    have HS1 := Lib.hid S1
    have Hx1 := Lib.hid (show a ≤ x1 ∧ x1 < b by omega)
    clear S1 hx1
    go_wp2_with fail
    refine (HA.out _ i2 _ HS1.out (by omega) (by omega)).mono ?_
    rintro _ w2 ⟨x2, rfl, hx2, S2⟩
    have HS2 := Lib.hid S2
    have Hx2 := Lib.hid (show a ≤ x2 ∧ x2 < b by omega)
    clear S2 hx2
    go_wp2_with fail
    refine (HA.out _ i3 _ HS2.out (by omega) (by omega)).mono ?_
    rintro _ w3 ⟨x3, rfl, hx3, S3⟩
    have HS3 := Lib.hid S3
    have Hx3 := Lib.hid (show a ≤ x3 ∧ x3 < b by omega)
    clear S3 hx3
    go_wp2_with fail
    clear hn5
    have q1 := Hx1.out
    have q2 := Hx2.out
    have q3 := Hx3.out
    refine (HM.out _ x1 x2 x3 _ HS3.out (by omega) (by omega) (by omega)).mono ?_
    rintro _ w4 ⟨x, rfl, hx, S4⟩
    have Hx := Lib.hid (show a ≤ x ∧ x < b by omega)
    have HS4 := Lib.hid S4.srt
    obtain ⟨s, hs⟩ := S4.box
    have hfz := S4.frz
    clear S4 hx q1 q2 q3
    by_cases hs0 : s = 0
    · subst hs0
      go_wp2
      go_ret2
      exact ⟨x, _, rfl, Hx.out, HS4.out⟩
    · have hs1 : (s == 0) = false := beq_eq_false_iff_ne.2 hs0
      by_cases hs2 : s = 12
      · subst hs2
        go_wp2
        go_ret2
        exact ⟨x, _, rfl, Hx.out, HS4.out⟩
      · have hs3 : (s == 12) = false := beq_eq_false_iff_ne.2 hs2
        go_wp2
        go_ret2
        exact ⟨x, _, rfl, Hx.out, HS4.out⟩
  · have hd50 : decide ((l : Int) ≥ 50) = false := decide_eq_false (by omega)
    go_wp2_with fail
    have HS0 := Lib.hid (HC0.out 3)
    have q1 := Hn1.out
    refine (HM.out _ i1 i2 i3 _ HS0.out (by omega) (by omega) (by omega)).mono ?_
    rintro _ w4 ⟨x, rfl, hx, S4⟩
    have Hx := Lib.hid (show a ≤ x ∧ x < b by omega)
    have HS4 := Lib.hid S4.srt
    obtain ⟨s, hs⟩ := S4.box
    have hfz := S4.frz
    clear S4 hx q1
    by_cases hs0 : s = 0
    · subst hs0
      go_wp2
      go_ret2
      exact ⟨x, _, rfl, Hx.out, HS4.out⟩
    · have hs1 : (s == 0) = false := beq_eq_false_iff_ne.2 hs0
      by_cases hs2 : s = 12
      · subst hs2
        go_wp2
        go_ret2
        exact ⟨x, _, rfl, Hx.out, HS4.out⟩
      · have hs3 : (s == 12) = false := beq_eq_false_iff_ne.2 hs2
        go_wp2
        go_ret2
        exact ⟨x, _, rfl, Hx.out, HS4.out⟩
end Go.Proofs.YtcffeepgfjpcaaaGreat

namespace Go.Proofs.YtcffeepgfjpcaaaGreat
set_option linter.unusedSimpArgs false
set_option linter.unusedVariables false
open Go.RowKit

set_option maxRecDepth 100000 in
set_option maxHeartbeats 6400000 in
theorem partU (base g off n c a b pv : Nat) (l0 : List UInt32) (W0 W : World) (h : Srt base g off n c l0 W0 W) (hab : a < b) (hp : a ≤ pv ∧ pv < b) (hb : b ≤ n) (hn : n ≤ 1048576) :
    Calls Tryz.prog 145 #[.slice (some ⟨g, off, none⟩) n c, .int .i64 (a : Int), .int .i64 (b : Int), .int .i64 (pv : Int)] W
      fun e w' => ∃ (x : Nat) (r : Bool), e = .returned (.tuple #[.int .i64 (x : Int), .bool r]) ∧ (a ≤ x ∧ x < b) ∧ Srt base g off n c l0 W0 w' := by
  have S0 := Lib.hid h
  clear h
  go_enter Tryz.func145, Tryz.ntmps145
  go_upto_region 1 with (fail)
  generalize W = wv at *
  obtain ⟨G, hcw, hfw, SW⟩ := S0.out.fam
  obtain ⟨u1, hu1⟩ := famSet hcw a pv (by omega) (by omega) (.int .u32 (G pv : Int))
  go_cut [] from 12 (fun wx => Srt base g off n c l0 W0 wx)
  case first =>
    go_region
    all_goals go_wp2
    all_goals go_meet
    all_goals exact SW.out _ a pv (by omega) (by omega)
  case rest =>
    have S1 := Lib.hid hcut
    clear hcut hcw hfw SW hu1
    generalize wc = wv at *
    go_step
    go_step
    obtain ⟨j0, hj0⟩ : ∃ j0 : Nat, (b : Int) - 1 = (j0 : Int) := ⟨b - 1, by omega⟩
    go_cut [10, 11] from 12 (fun vi vj wx => vi = .int .i64 ((a + 1 : Nat) : Int) ∧ vj = .int .i64 (j0 : Int) ∧ wx = wv)
    case first =>
      go_wp2
      go_meet
      exact ⟨by go_num, rfl, rfl⟩
    case rest =>
      obtain ⟨rfl, rfl, rfl⟩ := hcut
      have hj1 : j0 + 1 = b := by omega
      clear hj0
      generalize wc = wv at *
      go_step
      go_step
      go_cut [10] from 12 (fun vi wx => ∃ i : Nat, vi = .int .i64 (i : Int) ∧ (a + 1 ≤ i ∧ i ≤ b) ∧ Srt base g off n c l0 W0 wx)
      case first =>
        go_wp2
        go_loopw [10] (fun vi wx => ∃ i : Nat, vi = .int .i64 (i : Int) ∧ (a + 1 ≤ i ∧ i ≤ b) ∧ Srt base g off n c l0 W0 wx) (fun vi _ => b + 1 - (intOf vi).toNat)
        case atStart => exact ⟨(a + 1), rfl, by omega, S1.out⟩
        case round =>
          obtain ⟨i, rfl, hii, hS⟩ := hrel
          have SI := Lib.hid hS
          obtain ⟨G, hcw, hfw, SW⟩ := hS.fam
          clear hS SW
          by_cases hij : i ≤ j0
          · have hdij : decide ((i : Int) ≤ (j0 : Int)) = true := decide_eq_true (by omega)
            go_wp2
            go_quiet (first | (go_at_call 143; refine Calls.quiet_of_same (lessU _ _ _)))
            go_wp2
            · go_roundw
              case rel => exact ⟨i + 1, by go_num, by omega, SI.out.drewN _⟩
              case measure => simp [intOf]; omega
            · go_meet
              exact ⟨i, rfl, by omega, SI.out.drewN _⟩
          · have hdij : decide ((i : Int) ≤ (j0 : Int)) = false := decide_eq_false (by omega)
            go_wp2
            go_quiet (first | (go_at_call 143; refine Calls.quiet_of_same (lessU _ _ _)))
            go_wp2
            go_meet
            exact ⟨i, rfl, by omega, SI.out.drewN _⟩
      case rest =>
        obtain ⟨i1, rfl, hi1, hS⟩ := hcut
        have S2 := Lib.hid hS
        clear hS
        generalize wc = wv at *
        go_step
        go_step
        go_cut [11] from 12 (fun vi wx => ∃ i : Nat, vi = .int .i64 (i : Int) ∧ (a ≤ i ∧ i < b) ∧ Srt base g off n c l0 W0 wx)
        case first =>
          go_wp2
          go_loopw [11] (fun vi wx => ∃ i : Nat, vi = .int .i64 (i : Int) ∧ (a ≤ i ∧ i < b) ∧ Srt base g off n c l0 W0 wx) (fun vi _ => (intOf vi).toNat)
          case atStart => exact ⟨j0, rfl, by omega, S2.out⟩
          case round =>
            obtain ⟨i, rfl, hii, hS⟩ := hrel
            have SI := Lib.hid hS
            obtain ⟨G, hcw, hfw, SW⟩ := hS.fam
            clear hS SW
            by_cases hij : i1 ≤ i
            · have hdij : decide ((i1 : Int) ≤ (i : Int)) = true := decide_eq_true (by omega)
              go_wp2
              go_quiet (first | (go_at_call 143; refine Calls.quiet_of_same (lessU _ _ _)))
              go_wp2
              · go_roundw
                case rel => exact ⟨i - 1, by congr 1; omega, by omega, SI.out.drewN _⟩
                case measure => simp [intOf]; omega
              · go_meet
                exact ⟨i, rfl, by omega, SI.out.drewN _⟩
            · have hdij : decide ((i1 : Int) ≤ (i : Int)) = false := decide_eq_false (by omega)
              go_wp2
              go_quiet (first | (go_at_call 143; refine Calls.quiet_of_same (lessU _ _ _)))
              go_wp2
              go_meet
              exact ⟨i, rfl, by omega, SI.out.drewN _⟩
        case rest =>
          obtain ⟨j1, rfl, hj2, hS⟩ := hcut
          have S3 := Lib.hid hS
          clear hS
          generalize wc = wv at *
          by_cases hgt : j1 < i1
          · have hdg : decide ((i1 : Int) > (j1 : Int)) = true := decide_eq_true (by omega)
            go_upto_region 8 with (fail)
            obtain ⟨G, hcw, hfw, SW⟩ := S3.out.fam
            obtain ⟨u1, hu1⟩ := famSet hcw j1 a (by omega) (by omega) (.int .u32 (G a : Int))
            go_cut [] from 12 (fun wx => Srt base g off n c l0 W0 wx)
            case first =>
              go_region
              all_goals go_wp2
              all_goals go_meet
              all_goals exact SW.out _ j1 a (by omega) (by omega)
            case rest =>
              have S4 := Lib.hid hcut
              clear hcut hcw hfw SW hu1
              generalize wc = wv at *
              go_wp2
              go_ret2
              exact ⟨j1, _, rfl, by omega, S4.out⟩
          · have hdg : decide ((i1 : Int) > (j1 : Int)) = false := decide_eq_false (by omega)
            go_upto_region 10 with (fail)
            obtain ⟨G, hcw, hfw, SW⟩ := S3.out.fam
            obtain ⟨u1, hu1⟩ := famSet hcw i1 j1 (by omega) (by omega) (.int .u32 (G j1 : Int))
            go_cut [] from 12 (fun wx => Srt base g off n c l0 W0 wx)
            case first =>
              go_region
              all_goals go_wp2
              all_goals go_meet
              all_goals exact SW.out _ i1 j1 (by omega) (by omega)
            case rest =>
              have S4 := Lib.hid hcut
              clear hcut hcw hfw SW hu1
              generalize wc = wv at *
              go_wp2
              go_loopg [10, 11] (n + 2) (fun gh vi vj wx => ∃ i j : Nat, j + 2 - i ≤ gh ∧ vi = .int .i64 (i : Int) ∧ vj = .int .i64 (j : Int) ∧ (a + 1 ≤ i ∧ i ≤ b) ∧ (a ≤ j ∧ j < b) ∧ Srt base g off n c l0 W0 wx)
              case atStart => exact ⟨i1 + 1, j1 - 1, by omega, by go_num, by congr 1; omega, by omega, by omega, S4.out⟩
              case round =>
                obtain ⟨i0, j0, hgh, rfl, rfl, hi0, hj0, hS⟩ := hrel
                have S5 := Lib.hid hS
                clear hS S4 S0
                generalize wr = wv at *
                go_step
                go_step
                go_cut [10] from 99 to 152 (fun vi wx => ∃ i : Nat, vi = .int .i64 (i : Int) ∧ (i0 ≤ i ∧ i ≤ b) ∧ Srt base g off n c l0 W0 wx)
                case first =>
                  go_wp2
                  go_loopw [10] (fun vi wx => ∃ i : Nat, vi = .int .i64 (i : Int) ∧ (i0 ≤ i ∧ i ≤ b) ∧ Srt base g off n c l0 W0 wx) (fun vi _ => b + 1 - (intOf vi).toNat)
                  case atStart => exact ⟨i0, rfl, by omega, S5.out⟩
                  case round =>
                    obtain ⟨i, rfl, hii, hS⟩ := hrel
                    have SI := Lib.hid hS
                    obtain ⟨G, hcw, hfw, SW⟩ := hS.fam
                    clear hS SW
                    by_cases hij : i ≤ j0
                    · have hdij : decide ((i : Int) ≤ (j0 : Int)) = true := decide_eq_true (by omega)
                      go_wp2
                      go_quiet (first | (go_at_call 143; refine Calls.quiet_of_same (lessU _ _ _)))
                      go_wp2
                      · go_roundw
                        case rel => exact ⟨i + 1, by go_num, by omega, SI.out.drewN _⟩
                        case measure => simp [intOf]; omega
                      · go_meet
                        exact ⟨i, rfl, by omega, SI.out.drewN _⟩
                    · have hdij : decide ((i : Int) ≤ (j0 : Int)) = false := decide_eq_false (by omega)
                      go_wp2
                      go_quiet (first | (go_at_call 143; refine Calls.quiet_of_same (lessU _ _ _)))
                      go_wp2
                      go_meet
                      exact ⟨i, rfl, by omega, SI.out.drewN _⟩
                case rest =>
                  obtain ⟨i2, rfl, hi2, hS⟩ := hcut
                  have S6 := Lib.hid hS
                  clear hS
                  generalize wc = wv at *
                  go_step
                  go_step
                  go_cut [11] from 99 to 152 (fun vi wx => ∃ i : Nat, vi = .int .i64 (i : Int) ∧ (a ≤ i ∧ i ≤ j0) ∧ Srt base g off n c l0 W0 wx)
                  case first =>
                    go_wp2
                    go_loopw [11] (fun vi wx => ∃ i : Nat, vi = .int .i64 (i : Int) ∧ (a ≤ i ∧ i ≤ j0) ∧ Srt base g off n c l0 W0 wx) (fun vi _ => (intOf vi).toNat)
                    case atStart => exact ⟨j0, rfl, by omega, S6.out⟩
                    case round =>
                      obtain ⟨i, rfl, hii, hS⟩ := hrel
                      have SI := Lib.hid hS
                      obtain ⟨G, hcw, hfw, SW⟩ := hS.fam
                      clear hS SW
                      by_cases hij : i2 ≤ i
                      · have hdij : decide ((i2 : Int) ≤ (i : Int)) = true := decide_eq_true (by omega)
                        go_wp2
                        go_quiet (first | (go_at_call 143; refine Calls.quiet_of_same (lessU _ _ _)))
                        go_wp2
                        · go_roundw
                          case rel => exact ⟨i - 1, by congr 1; omega, by omega, SI.out.drewN _⟩
                          case measure => simp [intOf]; omega
                        · go_meet
                          exact ⟨i, rfl, by omega, SI.out.drewN _⟩
                      · have hdij : decide ((i2 : Int) ≤ (i : Int)) = false := decide_eq_false (by omega)
                        go_wp2
                        go_quiet (first | (go_at_call 143; refine Calls.quiet_of_same (lessU _ _ _)))
                        go_wp2
                        go_meet
                        exact ⟨i, rfl, by omega, SI.out.drewN _⟩
                  case rest =>
                    obtain ⟨j2, rfl, hj2, hS⟩ := hcut
                    have S7 := Lib.hid hS
                    clear hS
                    generalize wc = wv at *
                    by_cases hgt : j2 < i2
                    · have hdg : decide ((i2 : Int) > (j2 : Int)) = true := decide_eq_true (by omega)
                      go_upto_region 21 with (fail)
                      obtain ⟨G, hcw, hfw, SW⟩ := S7.out.fam
                      obtain ⟨u1, hu1⟩ := famSet hcw j2 a (by omega) (by omega) (.int .u32 (G a : Int))
                      go_cut [] from 12 (fun wx => Srt base g off n c l0 W0 wx)
                      case first =>
                        go_region
                        all_goals go_wp2
                        all_goals go_meet
                        all_goals exact SW.out _ j2 a (by omega) (by omega)
                      case rest =>
                        have S8 := Lib.hid hcut
                        clear hcut hcw hfw SW hu1
                        generalize wc = wv at *
                        go_wp2
                        go_ret2
                        exact ⟨j2, _, rfl, by omega, S8.out⟩
                    · have hdg : decide ((i2 : Int) > (j2 : Int)) = false := decide_eq_false (by omega)
                      go_upto_region 18 with (fail)
                      obtain ⟨G, hcw, hfw, SW⟩ := S7.out.fam
                      obtain ⟨u1, hu1⟩ := famSet hcw i2 j2 (by omega) (by omega) (.int .u32 (G j2 : Int))
                      go_cut [] from 99 to 152 (fun wx => Srt base g off n c l0 W0 wx)
                      case first =>
                        go_region
                        all_goals go_wp2
                        all_goals go_meet
                        all_goals exact SW.out _ i2 j2 (by omega) (by omega)
                      case rest =>
                        have S8 := Lib.hid hcut
                        clear hcut hcw hfw SW hu1
                        generalize wc = wv at *
                        go_wp2
                        go_roundg (j2 + 1 - (i2 + 1))
                        case measure => omega
                        case rel => exact ⟨i2 + 1, j2 - 1, by omega, by go_num, by congr 1; omega, by omega, by omega, S8.out⟩
end Go.Proofs.YtcffeepgfjpcaaaGreat

namespace Go.Proofs.YtcffeepgfjpcaaaGreat
set_option linter.unusedSimpArgs false
set_option linter.unusedVariables false
open Go.RowKit

set_option maxRecDepth 100000 in
set_option maxHeartbeats 6400000 in
theorem partEqU (base g off n c a b pv : Nat) (l0 : List UInt32) (W0 W : World) (h : Srt base g off n c l0 W0 W) (hab : a < b) (hp : a ≤ pv ∧ pv < b) (hb : b ≤ n) (hn : n ≤ 1048576) :
    Calls Tryz.prog 144 #[.slice (some ⟨g, off, none⟩) n c, .int .i64 (a : Int), .int .i64 (b : Int), .int .i64 (pv : Int)] W
      fun e w' => ∃ x : Nat, e = .returned (.int .i64 (x : Int)) ∧ (a < x ∧ x ≤ b) ∧ Srt base g off n c l0 W0 w' := by
  have S0 := Lib.hid h
  clear h
  go_enter Tryz.func144, Tryz.ntmps144
  go_upto_region 1 with (fail)
  generalize W = wv at *
  obtain ⟨G, hcw, hfw, SW⟩ := S0.out.fam
  obtain ⟨u1, hu1⟩ := famSet hcw a pv (by omega) (by omega) (.int .u32 (G pv : Int))
  go_cut [] from 11 (fun wx => Srt base g off n c l0 W0 wx)
  case first =>
    go_region
    all_goals go_wp2
    all_goals go_meet
    all_goals exact SW.out _ a pv (by omega) (by omega)
  case rest =>
    have S1 := Lib.hid hcut
    clear hcut hcw hfw SW hu1
    generalize wc = wv at *
    go_step
    go_step
    obtain ⟨j0, hj0⟩ : ∃ j0 : Nat, (b : Int) - 1 = (j0 : Int) := ⟨b - 1, by omega⟩
    go_cut [9, 10] from 11 (fun vi vj wx => vi = .int .i64 ((a + 1 : Nat) : Int) ∧ vj = .int .i64 (j0 : Int) ∧ wx = wv)
    case first =>
      go_wp2
      go_meet
      exact ⟨by go_num, rfl, rfl⟩
    case rest =>
      obtain ⟨rfl, rfl, rfl⟩ := hcut
      have hj1 : j0 + 1 = b := by omega
      clear hj0
      generalize wc = wv at *
      go_wp2
      go_loopg [9, 10] (n + 2) (fun gh vi vj wx => ∃ i j : Nat, j + 2 - i ≤ gh ∧ vi = .int .i64 (i : Int) ∧ vj = .int .i64 (j : Int) ∧ (a + 1 ≤ i ∧ i ≤ b) ∧ (a ≤ j ∧ j < b) ∧ Srt base g off n c l0 W0 wx)
      case atStart => exact ⟨a + 1, j0, by omega, by go_num, rfl, by omega, by omega, S1.out⟩
      case round =>
        obtain ⟨i0, j0, hgh, rfl, rfl, hi0, hj0, hS⟩ := hrel
        have S5 := Lib.hid hS
        clear hS S1 S0
        generalize wr = wv at *
        go_step
        go_step
        go_cut [9] from 29 to 82 (fun vi wx => ∃ i : Nat, vi = .int .i64 (i : Int) ∧ (i0 ≤ i ∧ i ≤ b) ∧ Srt base g off n c l0 W0 wx)
        case first =>
          go_wp2
          go_loopw [9] (fun vi wx => ∃ i : Nat, vi = .int .i64 (i : Int) ∧ (i0 ≤ i ∧ i ≤ b) ∧ Srt base g off n c l0 W0 wx) (fun vi _ => b + 1 - (intOf vi).toNat)
          case atStart => exact ⟨i0, rfl, by omega, S5.out⟩
          case round =>
            obtain ⟨i, rfl, hii, hS⟩ := hrel
            have SI := Lib.hid hS
            obtain ⟨G, hcw, hfw, SW⟩ := hS.fam
            clear hS SW
            by_cases hij : i ≤ j0
            · have hdij : decide ((i : Int) ≤ (j0 : Int)) = true := decide_eq_true (by omega)
              go_wp2
              go_quiet (first | (go_at_call 143; refine Calls.quiet_of_same (lessU _ _ _)))
              go_wp2
              · go_roundw
                case rel => exact ⟨i + 1, by go_num, by omega, SI.out.drewN _⟩
                case measure => simp [intOf]; omega
              · go_meet
                exact ⟨i, rfl, by omega, SI.out.drewN _⟩
            · have hdij : decide ((i : Int) ≤ (j0 : Int)) = false := decide_eq_false (by omega)
              go_wp2
              go_quiet (first | (go_at_call 143; refine Calls.quiet_of_same (lessU _ _ _)))
              go_wp2
              go_meet
              exact ⟨i, rfl, by omega, SI.out.drewN _⟩
        case rest =>
          obtain ⟨i2, rfl, hi2, hS⟩ := hcut
          have S6 := Lib.hid hS
          clear hS
          generalize wc = wv at *
          go_step
          go_step
          go_cut [10] from 29 to 82 (fun vi wx => ∃ i : Nat, vi = .int .i64 (i : Int) ∧ (a ≤ i ∧ i ≤ j0) ∧ Srt base g off n c l0 W0 wx)
          case first =>
            go_wp2
            go_loopw [10] (fun vi wx => ∃ i : Nat, vi = .int .i64 (i : Int) ∧ (a ≤ i ∧ i ≤ j0) ∧ Srt base g off n c l0 W0 wx) (fun vi _ => (intOf vi).toNat)
            case atStart => exact ⟨j0, rfl, by omega, S6.out⟩
            case round =>
              obtain ⟨i, rfl, hii, hS⟩ := hrel
              have SI := Lib.hid hS
              obtain ⟨G, hcw, hfw, SW⟩ := hS.fam
              clear hS SW
              by_cases hij : i2 ≤ i
              · have hdij : decide ((i2 : Int) ≤ (i : Int)) = true := decide_eq_true (by omega)
                go_wp2
                go_quiet (first | (go_at_call 143; refine Calls.quiet_of_same (lessU _ _ _)))
                go_wp2
                · go_roundw
                  case rel => exact ⟨i - 1, by congr 1; omega, by omega, SI.out.drewN _⟩
                  case measure => simp [intOf]; omega
                · go_meet
                  exact ⟨i, rfl, by omega, SI.out.drewN _⟩
              · have hdij : decide ((i2 : Int) ≤ (i : Int)) = false := decide_eq_false (by omega)
                go_wp2
                go_quiet (first | (go_at_call 143; refine Calls.quiet_of_same (lessU _ _ _)))
                go_wp2
                go_meet
                exact ⟨i, rfl, by omega, SI.out.drewN _⟩
          case rest =>
            obtain ⟨j2, rfl, hj2, hS⟩ := hcut
            have S7 := Lib.hid hS
            clear hS
            generalize wc = wv at *
            by_cases hgt : j2 < i2
            · have hdg : decide ((i2 : Int) > (j2 : Int)) = true := decide_eq_true (by omega)
              go_wp2
              go_ret
              exact ⟨i2, rfl, by omega, S7.out⟩
            · have hdg : decide ((i2 : Int) > (j2 : Int)) = false := decide_eq_false (by omega)
              go_upto_region 8 with (fail)
              obtain ⟨G, hcw, hfw, SW⟩ := S7.out.fam
              obtain ⟨u1, hu1⟩ := famSet hcw i2 j2 (by omega) (by omega) (.int .u32 (G j2 : Int))
              go_cut [] from 29 to 82 (fun wx => Srt base g off n c l0 W0 wx)
              case first =>
                go_region
                all_goals go_wp2
                all_goals go_meet
                all_goals exact SW.out _ i2 j2 (by omega) (by omega)
              case rest =>
                have S8 := Lib.hid hcut
                clear hcut hcw hfw SW hu1
                generalize wc = wv at *
                go_wp2
                go_roundg (j2 + 1 - (i2 + 1))
                case measure => omega
                case rel => exact ⟨i2 + 1, j2 - 1, by omega, by go_num, by congr 1; omega, by omega, by omega, S8.out⟩
end Go.Proofs.YtcffeepgfjpcaaaGreat

namespace Go.Proofs.YtcffeepgfjpcaaaGreat
set_option linter.unusedSimpArgs false
set_option linter.unusedVariables false
open Go.RowKit

set_option maxRecDepth 100000 in
set_option maxHeartbeats 6400000 in
theorem pinsU (base g off n c a b : Nat) (l0 : List UInt32) (W0 W : World) (h : Srt base g off n c l0 W0 W) (hab : a < b) (hb : b ≤ n) (hn : n ≤ 1048576) :
    Calls Tryz.prog 142 #[.slice (some ⟨g, off, none⟩) n c, .int .i64 (a : Int), .int .i64 (b : Int)] W
      fun e w' => ∃ r : Bool, e = .returned (.bool r) ∧ Srt base g off n c l0 W0 w' := by
  have S0 := Lib.hid h
  clear h
  go_enter Tryz.func142, Tryz.ntmps142
  go_wp2
  go_loopg [7, 8] 5 (fun gh vi vj wx => ∃ i j : Nat, 5 - j ≤ gh ∧ vi = .int .i64 (i : Int) ∧ vj = .int .i64 (j : Int) ∧ (a + 1 ≤ i ∧ i ≤ b) ∧ j ≤ 5 ∧ Srt base g off n c l0 W0 wx)
  case atStart => exact ⟨a + 1, 0, by omega, by go_num, rfl, by omega, by omega, S0.out⟩
  case round =>
    obtain ⟨i0, j0, hgh, rfl, rfl, hi0, hj0, hS⟩ := hrel
    have S1 := Lib.hid hS
    clear hS S0
    generalize wr = wv at *
    by_cases hj5 : j0 < 5
    · have hd5 : decide ((j0 : Int) < 5) = true := decide_eq_true (by omega)
      go_step
      go_cut [] from 13 to 132 (fun wx => wx = wv)
      case first =>
        go_wp2
        go_meet
        exact rfl
      case rest =>
        subst hcut
        generalize wc = wv at *
        go_step
        go_step
        go_step
        go_step
        go_cut [7] from 13 to 132 (fun vi wx => ∃ i : Nat, vi = .int .i64 (i : Int) ∧ (a + 1 ≤ i ∧ i ≤ b) ∧ Srt base g off n c l0 W0 wx)
        case first =>
          go_wp2
          go_loopw [7] (fun vi wx => ∃ i : Nat, vi = .int .i64 (i : Int) ∧ (a + 1 ≤ i ∧ i ≤ b) ∧ Srt base g off n c l0 W0 wx) (fun vi _ => b + 1 - (intOf vi).toNat)
          case atStart => exact ⟨i0, rfl, by omega, S1.out⟩
          case round =>
            obtain ⟨i, rfl, hii, hS⟩ := hrel
            have SI := Lib.hid hS
            obtain ⟨G, hcw, hfw, SW⟩ := hS.fam
            clear hS SW
            by_cases hij : i < b
            · have hdij : decide ((i : Int) < (b : Int)) = true := decide_eq_true (by omega)
              go_wp2
              go_quiet (first | (go_at_call 143; refine Calls.quiet_of_same (lessU _ _ _)))
              go_wp2
              · go_roundw
                case rel => exact ⟨i + 1, by go_num, by omega, SI.out.drewN _⟩
                case measure => simp [intOf]; omega
              · go_meet
                exact ⟨i, rfl, by omega, SI.out.drewN _⟩
            · have hdij : decide ((i : Int) < (b : Int)) = false := decide_eq_false (by omega)
              go_wp2
              go_quiet (first | (go_at_call 143; refine Calls.quiet_of_same (lessU _ _ _)))
              go_wp2
              go_meet
              exact ⟨i, rfl, by omega, SI.out.drewN _⟩
        case rest =>
          obtain ⟨i2, rfl, hi2, hS⟩ := hcut
          have S2 := Lib.hid hS
          clear hS
          generalize wc = wv at *
          by_cases hib : i2 = b
          · have hdb : ((i2 : Int) == (b : Int)) = true := by rw [hib]; simp
            clear hib
            go_wp2
            go_ret
            exact ⟨_, rfl, S2.out⟩
          · have hdb : ((i2 : Int) == (b : Int)) = false := beq_eq_false_iff_ne.2 (by omega)
            have hi2b : i2 < b := by omega
            by_cases h50 : b < a + 50
            · have hd50 : decide ((b : Int) - (a : Int) < 50) = true := decide_eq_true (by omega)
              go_wp2
              go_ret
              exact ⟨_, rfl, S2.out⟩
            · have hd50 : decide ((b : Int) - (a : Int) < 50) = false := decide_eq_false (by omega)
              go_upto_region 11 with (fail)
              obtain ⟨ip, hip⟩ : ∃ ip, ip = i2 - 1 := ⟨_, rfl⟩
              have hipz : (i2 : Int) - 1 = (ip : Int) := by omega
              have hipn : ip < n := by omega
              have Hip := Lib.hid hip
              clear hip
              obtain ⟨G, hcw, hfw, SW⟩ := S2.out.fam
              obtain ⟨u1, hu1⟩ := famSet hcw i2 ip (by omega) (by omega) (.int .u32 (G ip : Int))
              go_cut [] from 13 to 132 (fun wx => Srt base g off n c l0 W0 wx)
              case first =>
                go_region
                all_goals go_wp2
                all_goals go_meet
                all_goals exact SW.out _ i2 ip (by omega) (by omega)
              case rest =>
                have S3 := Lib.hid hcut
                clear hcut hcw hfw SW hu1
                generalize wc = wv at *
                go_step
                go_step
                go_cut [] from 13 to 132 (fun wx => Srt base g off n c l0 W0 wx)
                case first =>
                  by_cases h2 : 2 ≤ i2 - a
                  · have hd2 : decide ((i2 : Int) - (a : Int) ≥ 2) = true := decide_eq_true (by omega)
                    go_wp2
                    go_loopw [9] (fun vi wx => ∃ i : Nat, vi = .int .i64 (i : Int) ∧ i < i2 ∧ Srt base g off n c l0 W0 wx) (fun vi _ => (intOf vi).toNat)
                    case atStart => exact ⟨ip, rfl, by have := Hip.out; omega, S3.out⟩
                    case round =>
                      obtain ⟨i, rfl, hii, hS⟩ := hrel
                      have SI := Lib.hid hS
                      obtain ⟨G, hcw, hfw, SW⟩ := hS.fam
                      clear hS
                      by_cases h1 : 1 ≤ i
                      · have hd1 : decide ((i : Int) ≥ 1) = true := decide_eq_true (by omega)
                        obtain ⟨k, hk⟩ : ∃ k, k + 1 = i := ⟨i - 1, by omega⟩
                        subst hk
                        go_wp2
                        go_quiet (first | (go_at_call 143; refine Calls.quiet_of_same (lessU _ _ _)))
                        clear SW hcw hfw
                        have SK := Lib.hid (SI.out.drewN nq)
                        generalize wr.drewN nq = wk at *
                        obtain ⟨G, hcw, hfw, SW⟩ := SK.out.fam
                        go_wp2
                        · go_meet
                          exact SK.out
                        · obtain ⟨u1, hu1⟩ := famSet hcw (k + 1) k (by omega) (by omega) (.int .u32 (G k : Int))
                          go_region
                          all_goals go_wp2
                          go_roundw
                          case rel => exact ⟨k, by first | rfl | (congr 1; omega), by omega, SW.out _ (k + 1) k (by omega) (by omega)⟩
                          case measure => simp [intOf]
                      · have hd1 : decide ((i : Int) ≥ 1) = false := decide_eq_false (by omega)
                        go_wp2
                        go_meet
                        exact SI.out
                  · have hd2 : decide ((i2 : Int) - (a : Int) ≥ 2) = false := decide_eq_false (by omega)
                    go_wp2
                    go_meet
                    exact S3.out
                case rest =>
                  have S4 := Lib.hid hcut
                  clear hcut S3
                  generalize wc = wv at *
                  by_cases h2 : 2 ≤ b - i2
                  · have hd2 : decide ((b : Int) - (i2 : Int) ≥ 2) = true := decide_eq_true (by omega)
                    go_wp2
                    go_loopw [10] (fun vi wx => ∃ i : Nat, vi = .int .i64 (i : Int) ∧ (i2 < i ∧ i ≤ b) ∧ Srt base g off n c l0 W0 wx) (fun vi _ => b + 1 - (intOf vi).toNat)
                    case atStart => exact ⟨i2 + 1, by go_num, by omega, S4.out⟩
                    case round =>
                      obtain ⟨i, rfl, hii, hS⟩ := hrel
                      have SI := Lib.hid hS
                      obtain ⟨G, hcw, hfw, SW⟩ := hS.fam
                      clear hS
                      by_cases h1 : i < b
                      · have hd1 : decide ((i : Int) < (b : Int)) = true := decide_eq_true (by omega)
                        obtain ⟨k, hk⟩ : ∃ k, k + 1 = i := ⟨i - 1, by omega⟩
                        subst hk
                        go_wp2
                        go_quiet (first | (go_at_call 143; refine Calls.quiet_of_same (lessU _ _ _)))
                        clear SW hcw hfw
                        have SK := Lib.hid (SI.out.drewN nq)
                        generalize wr.drewN nq = wk at *
                        obtain ⟨G, hcw, hfw, SW⟩ := SK.out.fam
                        go_wp2
                        · skip
                          go_roundg (5 - (j0 + 1))
                          case measure => omega
                          case rel => exact ⟨i2, j0 + 1, by omega, by go_num, by go_num, by omega, by omega, SK.out⟩
                        · obtain ⟨u1, hu1⟩ := famSet hcw (k + 1) k (by omega) (by omega) (.int .u32 (G k : Int))
                          go_region
                          all_goals go_wp2
                          go_roundw
                          case rel => exact ⟨k + 1 + 1, by go_num, by omega, SW.out _ (k + 1) k (by omega) (by omega)⟩
                          case measure => first | (simp [intOf]; done) | (simp [intOf]; omega)
                      · have hd1 : decide ((i : Int) < (b : Int)) = false := decide_eq_false (by omega)
                        go_wp2
                        go_roundg (5 - (j0 + 1))
                        case measure => omega
                        case rel => exact ⟨i2, j0 + 1, by omega, by go_num, by go_num, by omega, by omega, SI.out⟩
                  · have hd2 : decide ((b : Int) - (i2 : Int) ≥ 2) = false := decide_eq_false (by omega)
                    go_wp2
                    go_roundg (5 - (j0 + 1))
                    case measure => omega
                    case rel => exact ⟨i2, j0 + 1, by omega, by go_num, by go_num, by omega, by omega, S4.out⟩
    · have hd5 : decide ((j0 : Int) < 5) = false := decide_eq_false (by omega)
      go_wp2
      go_ret
      exact ⟨_, rfl, S1.out⟩
end Go.Proofs.YtcffeepgfjpcaaaGreat

namespace Go.Proofs.YtcffeepgfjpcaaaGreat
set_option linter.unusedSimpArgs false
set_option linter.unusedVariables false
open Go.RowKit Go.Shelf Go.Sort Go.Lib

structure Ctu (base g off n c : Nat) (l0 : List UInt32) (W0 : World) (k : Nat) (W : World) : Prop where
  srt : Srt base g off n c l0 W0 W
  box : ∃ X : Nat, X < 18446744073709551616 ∧ W.cell? ⟨k, 0, none⟩ = some (.int .u64 (X : Int))
  frz : W.frozen? ⟨k, 0, none⟩ = false
  new : W0.heap.size ≤ k
section
variable {base g off n c k : Nat} {l0 : List UInt32} {W0 W : World}
theorem Ctu.drewN (h : Ctu base g off n c l0 W0 k W) (q : Nat) : Ctu base g off n c l0 W0 k (W.drewN q) := ⟨h.srt.drewN q, h.box, h.frz, h.new⟩
theorem Ctu.bump (h : Ctu base g off n c l0 W0 k W) (t : Nat) (ht : t < 18446744073709551616) : Ctu base g off n c l0 W0 k (W.setCell ⟨k, 0, none⟩ (.int .u64 (t : Int))) := by
  obtain ⟨s, _, hs⟩ := h.box
  refine ⟨h.srt.chged (P := fun q => q = k) (Chg.set _ _ _ rfl) (fun q e => by subst e; exact h.new), ⟨t, ht, World.cell?_setCell_same _ _ _ hs⟩, ?_, h.new⟩
  rw [World.frozen?_setCell]
  exact h.frz
theorem Ctu.start (h : Srt base g off n c l0 W0 W) (T : TypeId) (t : Nat) (ht : t < 18446744073709551616) : Ctu base g off n c l0 W0 W.heap.size (W.alloc (.cells #[.int .u64 (t : Int)] T)) :=
  ⟨h.chged (P := fun _ => False) (Chg.ofBelow (balloc _ _)) (fun _ h => h.elim), ⟨t, ht, by simp⟩, by simp, h.chg.size⟩
/-- an exchange keeps the box -/
theorem Ctu.swap (h : Ctu base g off n c l0 W0 k W) {G : Nat → Nat} (SW : Hid (∀ q i j, i < n → j < n → Srt base g off n c l0 W0 (((W.drewN q).setCell ⟨g, off + i, none⟩ (.int .u32 (G j : Int))).setCell ⟨g, off + j, none⟩ (.int .u32 (G i : Int)))))
    (q i j : Nat) (hi : i < n) (hj : j < n) : Ctu base g off n c l0 W0 k (((W.drewN q).setCell ⟨g, off + i, none⟩ (.int .u32 (G j : Int))).setCell ⟨g, off + j, none⟩ (.int .u32 (G i : Int))) := by
  have hne : k ≠ g := fun e => by have := h.new; have := h.srt.blk; omega
  obtain ⟨X, hX, hs⟩ := h.box
  refine ⟨SW.out q i j hi hj, ⟨X, hX, ?_⟩, ?_, h.new⟩
  · rw [World.cell?_setCell_other _ _ _ _ (by intro e; simp only [Addr.mk.injEq] at e; exact hne e.1.symm), World.cell?_setCell_other _ _ _ _ (by intro e; simp only [Addr.mk.injEq] at e; exact hne e.1.symm)]
    exact hs
  · rw [World.frozen?_setCell, World.frozen?_setCell]
    exact h.frz
end
set_option maxRecDepth 100000 in
set_option maxHeartbeats 3200000 in
theorem brkU (base g off n c a b : Nat) (l0 : List UInt32) (W0 W : World) (h : Srt base g off n c l0 W0 W) (hab : a + 8 ≤ b) (hb : b ≤ n) (hn : n ≤ 1048576) :
    Calls Tryz.prog 139 #[.slice (some ⟨g, off, none⟩) n c, .int .i64 (a : Int), .int .i64 (b : Int)] W fun e w' => e = .returned (.tuple #[]) ∧ Srt base g off n c l0 W0 w' := by
  obtain ⟨L, hL⟩ : ∃ L : Nat, L = b - a := ⟨_, rfl⟩
  have hz : (b : Int) - (a : Int) = (L : Int) := by omega
  obtain ⟨M, hM⟩ : ∃ M : Nat, M = 1 <<< bitsLen L := ⟨_, rfl⟩
  have hM1 : 1 ≤ M := by rw [hM, Nat.one_shiftLeft]; exact Nat.two_pow_pos _
  have hM2 : M ≤ 2 * L := by rw [hM, Nat.one_shiftLeft]; exact two_pow_bitsLen_le (by omega)
  have hNP : ∀ w, Calls Tryz.prog 110 #[.int .i64 (L : Int)] w fun e w' => e = .returned (.int .u64 (M : Int)) ∧ w' = w := by rw [hM]; exact fun w => AnyF.nextPowerOfTwo (P := Tryz.prog) (ρ := sortL_ren) { sortL with } L (by omega) w
  have hXN := fun (rb X : Nat) (hX : X < 18446744073709551616) (w : World) (hc : w.cell? ⟨rb, 0, none⟩ = some (.int .u64 X)) (hf : w.frozen? ⟨rb, 0, none⟩ = false) => AnyF.xorshift_Next (P := Tryz.prog) (ρ := sortL_ren) { sortL with } rb 0 X hX w hc hf
  clear hM
  obtain ⟨f, hf⟩ : ∃ f : Nat, f = L / 4 := ⟨_, rfl⟩
  have hf2 : (L : Int) / 4 = (f : Int) := by omega
  obtain ⟨i0, hi0⟩ : ∃ i0 : Nat, i0 + 1 = a + f * 2 := ⟨a + f * 2 - 1, by omega⟩
  have hzi : (a : Int) + (f : Int) * 2 - 1 = (i0 : Int) := by omega
  have hzt : (a : Int) + (f : Int) * 2 + 1 = ((i0 + 2 : Nat) : Int) := by omega
  have hi0n : i0 + 2 < n := by omega
  have hLn : a + L ≤ n := by omega
  have h8 : 8 ≤ L := by omega
  have hd8 : decide ((L : Int) ≥ 8) = true := decide_eq_true (by omega)
  have HNP := Lib.hid hNP
  have HXN := Lib.hid hXN
  have HC0 := Lib.hid (fun T => Ctu.start h T L (by omega))
  clear hL hf hi0 hNP hXN h
  go_enter Tryz.func139, Tryz.ntmps139
  go_wp2_with fail
  refine (HNP.out _).mono ?_
  rintro _ _ ⟨rfl, rfl⟩
  go_wp2_with fail
  go_loopg [9] 3 (fun g1 vi wr => ∃ i : Nat, vi = .int .i64 (i : Int) ∧ (i0 ≤ i ∧ i ≤ i0 + 3) ∧ i0 + 3 - i ≤ g1 ∧ Ctu base g off n c l0 W0 W.heap.size wr)
  case atStart => exact ⟨i0, rfl, by omega, by omega, by simpa using HC0.out _⟩
  case round =>
    obtain ⟨i, rfl, hii, hg1, hS⟩ := hrel
    generalize wr = wv at *
    by_cases hlt : i < i0 + 3
    · have hdl : decide ((i : Int) ≤ ((i0 + 2 : Nat) : Int)) = true := decide_eq_true (by omega)
      have hdl2 : decide ((i : Int) ≤ (i0 : Int) + 2) = true := decide_eq_true (by omega)
      obtain ⟨X, hX, hcX⟩ := hS.box
      have HNX := Lib.hid (HXN.out W.heap.size X hX wv hcX hS.frz)
      have hXl : xorNextN X < 18446744073709551616 := xorNextN_lt X hX
      have S2 := Lib.hid ((hS.bump (xorNextN X) hXl).drewN 3)
      obtain ⟨R, hR⟩ : ∃ R, R = xorNextN X := ⟨_, rfl⟩
      rw [← hR] at HNX S2 hXl
      obtain ⟨O, hO⟩ : ∃ O : Nat, O = R &&& (M - 1) := ⟨_, rfl⟩
      have lO : O ≤ M - 1 := by rw [hO]; exact Nat.and_le_right
      have eAnd : bits .and .u64 (R : Int) ((M : Int) - 1) = (O : Int) := by
        rw [show ((M : Int) - 1) = ((M - 1 : Nat) : Int) by omega, bits_and_u64_nat _ _ hXl (by omega), hO]
      clear hR hO hS hcX
      go_wp2_with fail
      refine HNX.out.mono ?_
      rintro _ w2 ⟨rfl, hw2⟩
      rw [← hw2] at S2
      clear hw2 HNX
      go_upto_if 43 with fail
      go_cut [10] from 26 to 64 (fun vo wx => ∃ q : Nat, vo = .int .i64 (q : Int) ∧ q < L ∧ wx = w2)
      case first =>
        by_cases hLO : L ≤ O
        · have hd : decide ((O : Int) ≥ (L : Int)) = true := decide_eq_true (by omega)
          go_wp2
          go_meet
          exact ⟨O - L, by congr 1; omega, by omega, rfl⟩
        · have hd : decide ((O : Int) ≥ (L : Int)) = false := decide_eq_false (by omega)
          go_wp2
          go_meet
          exact ⟨O, rfl, by omega, rfl⟩
      case rest =>
        obtain ⟨q, rfl, hq, hww⟩ := hcut
        subst hww
        have hr1 : IntKind.i64.wrap ((a : Int) + (q : Int)) = (a : Int) + (q : Int) := by rw [IntKind.wrap_i64]; omega
        have hb1 : (a : Int) + (q : Int) < (n : Int) := by omega
        obtain ⟨G, hcw, hfw, SW⟩ := S2.out.srt.fam
        obtain ⟨u1, hu1⟩ := famSet hcw i (a + q) (by omega) (by omega) (.int .u32 (G (a + q) : Int))
        clear eAnd lO
        go_wp2
        go_region
        all_goals go_wp2
        go_roundg (i0 + 3 - (i + 1))
        case measure => omega
        case rel => exact ⟨i + 1, by go_num, by omega, by omega, S2.out.swap SW _ i (a + q) (by omega) (by omega)⟩
    · have hdl : decide ((i : Int) ≤ ((i0 + 2 : Nat) : Int)) = false := decide_eq_false (by omega)
      have hdl2 : decide ((i : Int) ≤ (i0 : Int) + 2) = false := decide_eq_false (by omega)
      go_wp2
      go_end0
      exact ⟨rfl, hS.srt⟩
end Go.Proofs.YtcffeepgfjpcaaaGreat
