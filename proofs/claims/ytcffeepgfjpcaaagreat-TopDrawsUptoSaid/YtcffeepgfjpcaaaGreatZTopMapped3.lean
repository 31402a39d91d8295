/- Lemmas for the law TopMapped: merge.Of at a key; palmerref12.One (printed by wip/gen/toprone.py); a line's words, cut one by one; text.each; mix.Mix, mix.Draw; mix.Row: an iterator without an end; []byte(s): a conversion of a string to bytes.; text.Num; strings.HasPrefix at one byte; edge.limits; edge.numbers; text.each's words as an iterator (printed by wip/gen/topeachw.py); palmerref15.New: the error of rows; palmerref14.Same, palmerref15.Arcs, palmerref23.Few, gap; A call within a region of the mixed law.; Manifests: how one lies in memory; what came in.; page.Many and the document's Many are one function of the size. No condition.; Manifests, in plain: their bytes; which may be.; palmerref09: among, Great (printed by wip/gen/man1.py); palmerref09.Body and manifest.body: a manifest's bytes (printed by wip/gen/manw.py); palmerref09.file, palmerref09.May (printed by wip/gen/manf.py); palmerref09.May; Sets (maps to struct{}); manifest.right (printed by wip/gen/manm.py); append(b, s...): a string's bytes behind an own row.; manifest.body (printed by wip/gen/manb.py); append(s, make([]byte, n)...) onto an own row of bytes. No condition beyond the size.; a Section in memory: a block of two cells; frame.Put, frame.Get compute what the plain functions say; manifest.May (printed by wip/gen/mann.py); What is read of a manifest's bytes, plainly; how a manifest that is being read lies in memory; Disks: the document's, in plain, and that it agrees with the program's.; The document's disks: how one lies in memory; z. No condition. -/
import Derived.Test.YtcffeepgfjpcaaaGreatZTopMapped2
import Derived.Lib.IndexLaws
import Derived.BigQuiet
import Derived.RangeFuncNested
import Derived.RangeFuncBound
import Derived.RangeFuncCalls
import Derived.RangeFuncLeaves
import Derived.RangeFuncBox
import Derived.Shelf.Abstract
import Derived.Shelf.RegionOpen
import Derived.WalkKit
import Derived.OwnWalkIn
import Derived.TacticsInMore
import Derived.LoopNIn
import Derived.LoopIn
import Derived.BigRegionIn
import Derived.Lib.ConvBytes
import Derived.Deep.Cut
import Derived.Maps.OwnSet
import Derived.Lib.AppendStr
import Derived.Lib.AppendZerosOnto
import Derived.Deep.WholeRow
import Derived.Carry
import Derived.RangeFuncWrites
import Derived.OrdersIn
import Derived.BigFrameIn
namespace Go.Proofs.YtcffeepgfjpcaaaGreat
set_option linter.unusedSimpArgs false
set_option linter.unusedVariables false
open Go.RowKit

theorem infoEdge : (Tryz.prog.info? 55).map (fun i => (i.zero, i.size, i.bytes)) = some (some (.agg #[.int .u32 0, .int .u32 0, .int .u32 0]), 3, 12) := by kernel_rfl
theorem infoEdge3 : (Tryz.prog.info? 55).map (·.size) = some 3 := by kernel_rfl
theorem infoA3 : (Tryz.prog.info? 121).map (fun i => (i.zero, i.size, i.bytes)) = some (some (.agg #[.int .u32 0, .int .u32 0, .int .u32 0]), 3, 12) := by kernel_rfl
def zeroEc : List Value := [.int .u32 0, .int .u32 0, .int .u32 0]
/-- the three words of a key of which i bytes were read -/
def segN (l : List UInt8) (i k : Nat) : Nat := valB (((l.take i).drop (4 * k)).take 4)
def segC (l : List UInt8) (i : Nat) : List Value := [.int .u32 (segN l i 0 : Nat), .int .u32 (segN l i 1 : Nat), .int .u32 (segN l i 2 : Nat)]
theorem valB_snoc (l : List UInt8) (b : UInt8) : valB (l ++ [b]) = 256 * valB l + b.toNat := by
  rw [valB_append]
  simp [valB, Nat.mul_comm]
theorem segN_succ (l : List UInt8) (i k : Nat) (hi : i < l.length) : segN l (i + 1) k = if i / 4 = k then 256 * segN l i k + (l[i]).toNat else segN l i k := by
  unfold segN
  rw [List.take_succ_eq_append_getElem hi, List.drop_append]
  have hlen : (l.take i).length = i := by rw [List.length_take]; omega
  rw [hlen]
  by_cases h : i / 4 = k
  · rw [if_pos h]
    have h1 : 4 * k - i = 0 := by omega
    rw [h1, List.drop_zero, ← valB_snoc]
    congr 1
    have h2 : ((l.take i).drop (4 * k)).length ≤ 3 := by rw [List.length_drop, hlen]; omega
    generalize (l.take i).drop (4 * k) = q at *
    have e1 : (q ++ [l[i]]).length ≤ 4 := by rw [List.length_append]; simp only [List.length_cons, List.length_nil]; omega
    rw [List.take_of_length_le e1, List.take_of_length_le (by omega : q.length ≤ 4)]
  · rw [if_neg h]
    by_cases h1 : i < 4 * k
    · have e1 : (l.take i).drop (4 * k) = [] := List.drop_of_length_le (by omega)
      have e2 : ([l[i]] : List UInt8).drop (4 * k - i) = [] := List.drop_of_length_le (by simp; omega)
      rw [e1, e2]
      rfl
    · congr 1
      rw [List.take_append_of_le_length (by rw [List.length_drop, hlen]; omega)]
theorem segN_lt (l : List UInt8) (i : Nat) (hi : i ≤ l.length) : segN l i (i / 4) < 16777216 := by
  unfold segN
  have h := valB_lt (((l.take i).drop (4 * (i / 4))).take 4)
  have h2 : (((l.take i).drop (4 * (i / 4))).take 4).length ≤ 3 := by rw [List.length_take, List.length_drop, List.length_take]; omega
  have h3 : 256 ^ (((l.take i).drop (4 * (i / 4))).take 4).length ≤ 256 ^ 3 := Nat.pow_le_pow_right (by omega) h2
  omega
theorem or_add32 (s b : Nat) (hs : s < 16777216) (hb : b < 256) : bits .or .u32 ((s : Int) * 256) (b : Int) = ((256 * s + b : Nat) : Int) := by
  have e : ((s : Int) * 256) = ((256 * s : Nat) : Int) := by omega
  rw [e, u32_or_nat _ _ (by omega) (by omega)]
  have := Nat.two_pow_add_eq_or_of_lt (i := 8) (b := b) (by omega) s
  simp only [Nat.reducePow] at this
  rw [this]
theorem segN_all (x : GEdge) : segC (keyL x) 12 = edgeC x := by
  have b0 := be4_val _ (u32_lt x.fr)
  have b1 := be4_val _ (u32_lt x.to)
  have b2 := be4_val _ (u32_lt x.wt)
  have e0 : segN (keyL x) 12 0 = valB (be4 x.fr.toNat) := rfl
  have e1 : segN (keyL x) 12 1 = valB (be4 x.to.toNat) := rfl
  have e2 : segN (keyL x) 12 2 = valB (be4 x.wt.toNat) := rfl
  unfold segC edgeC
  rw [e0, e1, e2, b0, b1, b2]

set_option maxRecDepth 100000 in
set_option maxHeartbeats 3200000 in
theorem mof_any (w : World) (B : Nat) (v : Value) (x : GEdge) (h : By w B v (keyL x)) (hB : B ≤ w.heap.size) :
    Calls Tryz.prog 114 #[v] w fun e w' => e = .returned (.tuple #[edgeV x, .int .i64 0]) ∧ Below w.heap.size w w' := by
  obtain ⟨A, c, rfl, hc1, hc2, hr⟩ := h
  obtain ⟨l, hl⟩ : ∃ l, l = keyL x := ⟨_, rfl⟩
  have h12 : l.length = 12 := by rw [hl]; rfl
  have hall := segN_all x
  rw [← hl] at hr hc1 hall ⊢
  rw [h12] at hc1 hr ⊢
  obtain ⟨ad, rfl, hab, hcs⟩ := hr.ad (by omega)
  have hcell : ∀ i (hi : i < l.length), w.cell? (ad.add i) = some (.int .u8 ((l[i]).toNat : Int)) := fun i hi => hcs i _ (by simp [b8s, b8, hi])
  have hs0 : segC l 0 = zeroEc := rfl
  have Hs0 := Lib.hid hs0
  have Hall := Lib.hid hall
  have Hcell := Lib.hid hcell
  have H12 := Lib.hid h12
  clear hl hr hcs hcell h12 hall hs0
  go_enter Tryz.func114, Tryz.ntmps114
  go_upto_region 1 with (first
    | (refine wpList_alloc_z rfl 55 rfl infoEdge zeroEc rfl ?_))
  obtain ⟨w1, hw1⟩ : ∃ w1, w1 = w.alloc (.cells zeroEc.toArray 55) := ⟨_, rfl⟩
  have hb1 : Below w.heap.size w w1 := by rw [hw1]; exact balloc _ _
  have hx1 : BoxAt 55 w1 w.heap.size zeroEc := by rw [hw1]; exact BoxAt.new_ _ _ _
  have hz1 : w1.heap.size = w.heap.size + 1 := by rw [hw1]; simp
  rw [← hw1]
  have Hb1 := Lib.hid hb1
  have X1 := Lib.hid hx1
  clear hw1 hb1 hx1
  go_upto_region 4 with (first
    | (refine wpList_alloc_z rfl 121 rfl infoA3 zeroEc rfl ?_))
  obtain ⟨w2, hw2⟩ : ∃ w2, w2 = w1.alloc (.cells zeroEc.toArray 121) := ⟨_, rfl⟩
  have hb2 : Below w1.heap.size w1 w2 := by rw [hw2]; exact balloc _ _
  have hx2 : BoxAt 121 w2 w1.heap.size zeroEc := by rw [hw2]; exact BoxAt.new_ _ _ _
  rw [← hw2]
  rw [hz1] at hx2 ⊢
  rw [← Hs0.out] at hx2
  have X2 := Lib.hid (X1.out.bl_ hb2)
  have A2 := Lib.hid hx2
  have Hb2 := Lib.hid (bstep Hb1.out hb2)
  clear hw2 hb2 hx2 X1 Hb1 Hs0
  go_wp2_with fail
  go_loopw [13] (fun iv wr => ∃ i : Nat, i ≤ 12 ∧ iv = .int .i64 i ∧ BoxAt 121 wr (w.heap.size + 1) (segC l i) ∧ BoxAt 55 wr w.heap.size zeroEc ∧ Below w.heap.size w wr) (fun iv _ => 12 - (intOf iv).toNat)
  case atStart => exact ⟨0, by omega, rfl, A2.out, X2.out, Hb2.out⟩
  case round =>
    obtain ⟨i, hi, rfl, hbox, hxe, hbl⟩ := hrel
    have Hbox := Lib.hid hbox
    have Hxe := Lib.hid hxe
    have Hbl := Lib.hid hbl
    have hlt12 := H12.out
    clear hbox hxe hbl A2 X2 Hb2
    by_cases hlt : i < 12
    · have hd : decide ((i : Int) < 12) = true := decide_eq_true (by omega)
      have hc := (Hbl.out.cell (by rw [add_block]; omega)).trans (Hcell.out i (by omega))
      have hsn := fun k => segN_succ l i k (by omega)
      have hsl := segN_lt l i (by omega)
      have hb8 := (l[i]).toNat_lt
      have Hsn := Lib.hid hsn
      have h3 : i / 4 = 0 ∨ i / 4 = 1 ∨ i / 4 = 2 := by omega
      clear hsn
      generalize (l[i]).toNat = b at *
      rcases h3 with h3 | h3 | h3
      · have hq : Int.tdiv (i : Int) 4 = 0 := by rw [Int.tdiv_eq_ediv_of_nonneg (by omega)]; omega
        have hcx := Hbox.out.cell 0 _ rfl
        have hfx := Hbox.out.frozen 0
        rw [h3] at hsl
        have hput := Hbox.out.put 0 (.int .u32 ((256 * segN l i 0 + b : Nat) : Int))
        have hseg : (segC l i).set 0 (.int .u32 ((256 * segN l i 0 + b : Nat) : Int)) = segC l (i + 1) := by
          unfold segC
          rw [Hsn.out 0, Hsn.out 1, Hsn.out 2, h3]
          rfl
        rw [hseg] at hput
        have hor := or_add32 (segN l i 0) b hsl hb8
        have Hput := Lib.hid hput
        have Hor := Lib.hid hor
        clear hput hseg hor h3
        generalize segN l i 0 = s0 at *
        go_wp2_with fail
        rw [Hor.out]
        go_roundw
        case rel => exact ⟨i + 1, by omega, by go_num, Hput.out, Hxe.out.other _ _ (by show w.heap.size + 1 ≠ w.heap.size; omega), Below.setCell Hbl.out (by show w.heap.size ≤ w.heap.size + 1; omega) _⟩
        case measure => simp [intOf]; omega
      · have hq : Int.tdiv (i : Int) 4 = 1 := by rw [Int.tdiv_eq_ediv_of_nonneg (by omega)]; omega
        have hcx := Hbox.out.cell 1 _ rfl
        have hfx := Hbox.out.frozen 1
        rw [h3] at hsl
        have hput := Hbox.out.put 1 (.int .u32 ((256 * segN l i 1 + b : Nat) : Int))
        have hseg : (segC l i).set 1 (.int .u32 ((256 * segN l i 1 + b : Nat) : Int)) = segC l (i + 1) := by
          unfold segC
          rw [Hsn.out 0, Hsn.out 1, Hsn.out 2, h3]
          rfl
        rw [hseg] at hput
        have hor := or_add32 (segN l i 1) b hsl hb8
        have Hput := Lib.hid hput
        have Hor := Lib.hid hor
        clear hput hseg hor h3
        generalize segN l i 1 = s0 at *
        go_wp2_with fail
        rw [Hor.out]
        go_roundw
        case rel => exact ⟨i + 1, by omega, by go_num, Hput.out, Hxe.out.other _ _ (by show w.heap.size + 1 ≠ w.heap.size; omega), Below.setCell Hbl.out (by show w.heap.size ≤ w.heap.size + 1; omega) _⟩
        case measure => simp [intOf]; omega
      · have hq : Int.tdiv (i : Int) 4 = 2 := by rw [Int.tdiv_eq_ediv_of_nonneg (by omega)]; omega
        have hcx := Hbox.out.cell 2 _ rfl
        have hfx := Hbox.out.frozen 2
        rw [h3] at hsl
        have hput := Hbox.out.put 2 (.int .u32 ((256 * segN l i 2 + b : Nat) : Int))
        have hseg : (segC l i).set 2 (.int .u32 ((256 * segN l i 2 + b : Nat) : Int)) = segC l (i + 1) := by
          unfold segC
          rw [Hsn.out 0, Hsn.out 1, Hsn.out 2, h3]
          rfl
        rw [hseg] at hput
        have hor := or_add32 (segN l i 2) b hsl hb8
        have Hput := Lib.hid hput
        have Hor := Lib.hid hor
        clear hput hseg hor h3
        generalize segN l i 2 = s0 at *
        go_wp2_with fail
        rw [Hor.out]
        go_roundw
        case rel => exact ⟨i + 1, by omega, by go_num, Hput.out, Hxe.out.other _ _ (by show w.heap.size + 1 ≠ w.heap.size; omega), Below.setCell Hbl.out (by show w.heap.size ≤ w.heap.size + 1; omega) _⟩
        case measure => simp [intOf]; omega
    · obtain rfl : i = 12 := by omega
      have hd : decide (((12 : Nat) : Int) < 12) = false := rfl
      have hc0 := Hbox.out.cell 0 _ rfl
      have hc1 := Hbox.out.cell 1 _ rfl
      have hc2 := Hbox.out.cell 2 _ rfl
      have hall := Hall.out
      unfold segC at hall
      generalize segN l 12 0 = s0 at *
      generalize segN l 12 1 = s1 at *
      generalize segN l 12 2 = s2 at *
      have Hall2 := Lib.hid hall
      have Hone : Hid (∀ u ∈ ([.int .u32 (s0 : Int), .int .u32 (s1 : Int), .int .u32 (s2 : Int)] : List Value), u.oneCell' = true) := Lib.hid fun u hu => by
        simp at hu
        rcases hu with rfl | rfl | rfl <;> rfl
      clear hall
      go_wp2_with (refine wpList_store_boxX rfl 55 55 (.tmp 2) (.tmp 36) rfl w.heap.size zeroEc [.int .u32 (s0 : Int), .int .u32 (s1 : Int), .int .u32 (s2 : Int)] rfl rfl Hxe.out rfl Hone.out infoEdge3 ?_
                   intro we hend hche hze)
      refine bodyPost_ret (results_ctX rfl _ _ w.heap.size [.int .u32 (s0 : Int), .int .u32 (s1 : Int), .int .u32 (s2 : Int)] rfl (fun j v hj => (hend.cells j v hj : _)) Tryz.underlying55 rfl infoEdge3) rfl ?_
      refine ⟨?_, Hbl.out.trans (hche.below (B := w.heap.size) Hbl.out.size (fun k hk => by omega))⟩
      unfold edgeV
      rw [← Hall2.out]
      rfl
end Go.Proofs.YtcffeepgfjpcaaaGreat

namespace Go.Proofs.YtcffeepgfjpcaaaGreat
set_option linter.unusedSimpArgs false
set_option linter.unusedVariables false
open Go.RowKit

/-- a line's words' edge; whether there is one; the error's number -/
def oneW (ws : List (List UInt8)) : GEdge × Bool × Int :=
  if ws.length = 0 then (⟨0, 0, 0⟩, false, 0)
  else if (ws.getD 0 []).getD 0 0 = 35 then (⟨0, 0, 0⟩, false, 0)
  else if ws.length = 1 ∨ 3 < ws.length then (⟨0, 0, 0⟩, false, 12)
  else if (numW (ws.getD 0 []) 4294967295).2 ≠ 0 then (⟨0, 0, 0⟩, false, (numW (ws.getD 0 []) 4294967295).2)
  else if (numW (ws.getD 1 []) 4294967295).2 ≠ 0 then (⟨0, 0, 0⟩, false, (numW (ws.getD 1 []) 4294967295).2)
  else if ws.length = 3 then
    (if (numW (ws.getD 2 []) 2147483647).2 ≠ 0 then (⟨0, 0, 0⟩, false, (numW (ws.getD 2 []) 2147483647).2)
     else if (numW (ws.getD 2 []) 2147483647).1 = 0 then (⟨0, 0, 0⟩, false, 9)
     else (⟨UInt32.ofNat (numW (ws.getD 0 []) 4294967295).1, UInt32.ofNat (numW (ws.getD 1 []) 4294967295).1, UInt32.ofNat (numW (ws.getD 2 []) 2147483647).1⟩, true, 0))
  else (⟨UInt32.ofNat (numW (ws.getD 0 []) 4294967295).1, UInt32.ofNat (numW (ws.getD 1 []) 4294967295).1, 1⟩, true, 0)
theorem numW_le (l : List UInt8) (most : Nat) : (numW l most).1 ≤ most := by
  unfold numW
  split
  · simp
  · split
    · simp
    · split
      · simp
      · simp only; omega
theorem lastOn_pos {s : List (List UInt8) × List UInt8} (h : ∀ x ∈ s.1, 0 < x.length) : ∀ x ∈ lastOn s, 0 < x.length := by
  unfold lastOn
  split
  · rename_i h2
    intro x hx
    rcases List.mem_append.1 hx with hx | hx
    · exact h x hx
    · rw [List.mem_singleton] at hx; rw [hx]; exact h2
  · exact h
theorem wordsP_pos (b : List UInt8) : ∀ x ∈ wordsP b, 0 < x.length := by
  have key : ∀ (b : List UInt8) (s : List (List UInt8) × List UInt8), (∀ x ∈ s.1, 0 < x.length) → ∀ x ∈ (b.foldl wordStep s).1, 0 < x.length := by
    intro b
    induction b with
    | nil => intro s h; exact h
    | cons c t ih =>
      intro s h
      rw [List.foldl_cons]
      refine ih _ ?_
      unfold wordStep
      split
      · exact h
      · exact lastOn_pos h
  exact lastOn_pos (key b _ (fun x h => by simp at h))
theorem wordsP_len (b : List UInt8) : (wordsP b).length ≤ b.length + 1 ∧ ∀ x ∈ wordsP b, x.length ≤ b.length := by
  have key : ∀ (b : List UInt8) (s : List (List UInt8) × List UInt8) (m : Nat), s.2.length ≤ m → (∀ x ∈ s.1, x.length ≤ m) → (b.foldl wordStep s).2.length ≤ m + b.length ∧ ∀ x ∈ (b.foldl wordStep s).1, x.length ≤ m + b.length := by
    intro b
    induction b with
    | nil => intro s m h1 h2; exact ⟨h1, h2⟩
    | cons c t ih =>
      intro s m h1 h2
      rw [List.foldl_cons]
      have := ih (wordStep s c) (m + 1) (by unfold wordStep; split <;> simp <;> omega) (fun x hx => by
        unfold wordStep lastOn at hx
        split at hx
        · have := h2 x hx; omega
        · split at hx
          · rcases List.mem_append.1 hx with hx | hx
            · have := h2 x hx; omega
            · rw [List.mem_singleton] at hx; rw [hx]; omega
          · have := h2 x hx; omega)
      rw [List.length_cons, show m + (t.length + 1) = m + 1 + t.length by omega]
      exact this
  have h1 := wordStep_len b
  obtain ⟨h2, h3⟩ := key b ([], []) 0 (Nat.zero_le _) (fun x h => by simp at h)
  rw [Nat.zero_add] at h2 h3
  unfold wordsP lastOn
  split
  · refine ⟨by rw [List.length_append, List.length_singleton]; omega, fun x hx => ?_⟩
    rcases List.mem_append.1 hx with hx | hx
    · exact h3 x hx
    · rw [List.mem_singleton] at hx; rw [hx]; exact h2
  · exact ⟨by omega, h3⟩
/-- results: a struct that lies in memory, two slots -/
theorem results_ctt {fn : Func} {p q r : Tmp} {T : TypeId} (h : fn.results = #[.cell p T, .tmp q, .tmp r]) (tmps : Array Value) (w : World) (g : Nat) (cs : List Value)
    (hp : tmps.getD p undef = .pointer (some ⟨g, 0, none⟩)) (hs : ∀ (j : Nat) (v : Value), cs[j]? = some v → w.cell? ((⟨g, 0, none⟩ : Addr).add j) = some v) {d : TypeDesc} (hu : Tryz.prog.underlying T = some d)
    (hd : (match d with | .struct _ | .array _ _ => true | _ => false) = true) (hi : (Tryz.prog.info? T).map (·.size) = some cs.length) :
    (results fn tmps).run Tryz.prog w = .ok (.tuple #[.agg cs.toArray, tmps.getD q undef, tmps.getD r undef]) w := by
  have hp' : tmps[p]?.getD undef = .pointer (some ⟨g, 0, none⟩) := by simpa using hp
  have hr := run_loadVar_cells w ⟨g, 0, none⟩ T cs hs hu hd hi
  simp [results, h, hp', asAddr, hr]
set_option maxRecDepth 100000 in
set_option maxHeartbeats 6400000 in
theorem rone_any (w : World) (line : List UInt8) (hl : line.length ≤ 1048576) :
    Calls Tryz.prog 38 #[.string (bst line)] w fun e w' => e = .returned (.tuple #[edgeV (oneW (wordsP line)).1, .bool (oneW (wordsP line)).2.1, .int .i64 (oneW (wordsP line)).2.2]) ∧ Below w.heap.size w w' := by
  have hpos := wordsP_pos line
  obtain ⟨hwl, hwx⟩ := wordsP_len line
  have hwc := fun W => words_any W line hl
  obtain ⟨ws, hws⟩ : ∃ ws, ws = wordsP line := ⟨_, rfl⟩
  rw [← hws] at hpos hwl hwx hwc ⊢
  obtain ⟨r, hr⟩ : ∃ r, r = oneW ws := ⟨_, rfl⟩
  rw [← hr]
  have HrO := Lib.hid hr
  obtain ⟨w2, hw2⟩ : ∃ w2, w2 = (w.alloc (.cells zeroEc.toArray 55)).alloc (.cells zeroEc.toArray 55) := ⟨_, rfl⟩
  have hb2 : Below w.heap.size w w2 := by rw [hw2]; exact bstep (balloc _ _) (balloc _ _)
  have hx2 : BoxAt 55 w2 w.heap.size zeroEc := by rw [hw2]; exact (BoxAt.new_ _ _ _).alloc _
  have hx5 : BoxAt 55 w2 (w.heap.size + 1) zeroEc := by
    rw [hw2]
    have := BoxAt.new_ 55 (w.alloc (.cells zeroEc.toArray 55)) zeroEc
    rwa [World.size_alloc] at this
  have hb0 : ∀ W, (Instr.build 55 #[]).run Tryz.prog W = .ok (.agg zeroEc.toArray) W := fun W => run_build W _ _ _ (by kernel_rfl)
  have HoneZ : Hid (∀ u ∈ zeroEc, u.oneCell' = true) := Lib.hid fun u hu => by
    simp [zeroEc] at hu
    rcases hu with rfl | rfl | rfl <;> rfl
  have Hw2 := Lib.hid hw2
  have Hwc := Lib.hid (hwc w2)
  have Hpos := Lib.hid hpos
  have Hwx := Lib.hid hwx
  have Hb2 := Lib.hid hb2
  have X2 := Lib.hid hx2
  have X5 := Lib.hid hx5
  clear hws hr hw2 hwc hpos hwx hb2 hx2 hx5
  go_enter Tryz.func38, Tryz.ntmps38
  go_wp2_with (first
    | ((with_reducible refine wpList_alloc_z ?_ 55 ?_ infoEdge zeroEc ?_ ?_); exact rfl; exact rfl; exact rfl)
    | ((with_reducible refine wpList_store_new ?_ 55 (.tmp 5) (.tmp 14) ?_ zeroEc zeroEc ?_ ?_ ?_ ?_ HoneZ.out ?_); exact rfl; exact rfl; exact rfl; exact rfl; exact infoEdge3; exact rfl; rw [← Hw2.out]))
  refine Hwc.out.mono ?_
  rintro _ w3 ⟨vw, rfl, how, hb3⟩
  have hS3 : ByS w3 w3.heap.size vw ws := how.rowLt.mono (fun _ h => h) (fun _ h => h.elim)
  obtain ⟨Aw, cw, rfl, _⟩ := how.form'
  have hb23 := bstep Hb2.out hb3
  have X2' := Lib.hid (X2.out.bl_ hb3)
  have X5' := Lib.hid (X5.out.bl_ hb3)
  clear X2 X5
  have X2 := X2'
  have X5 := X5'
  have Hb3 := Lib.hid hb23
  have HS3 := Lib.hid hS3
  clear how hb3 hb23 hS3 X2' X5' Hb2 Hwc hb0 Hw2
  have hs3 := Hb3.out.size
  rcases Nat.eq_zero_or_pos ws.length with h0 | h0
  · have hd0 : ((ws.length : Int) == 0) = true := by rw [h0]; rfl
    have Hr : Hid (r = (⟨0, 0, 0⟩, false, 0)) := Lib.hid (by rw [HrO.out]; unfold oneW; rw [if_pos h0])
    clear h0
    go_wp2_with (first
      | ((with_reducible refine wpList_load_agg ?_ 55 (.tmp 5) ?_ ⟨w.heap.size + 1, 0, none⟩ ?_ zeroEc X5.out.cells Tryz.underlying55 ?_ ?_ ?_); exact rfl; exact rfl; exact rfl; exact rfl; exact infoEdge3)
      | ((with_reducible refine wpList_store_boxX ?_ 55 55 (.tmp 2) (.tmp 27) ?_ w.heap.size zeroEc zeroEc ?_ ?_ X2.out ?_ HoneZ.out ?_ ?_); exact rfl; exact rfl; exact rfl; exact rfl; exact rfl; exact infoEdge3; intro w9 hx9 hc9 hz9))
    refine bodyPost_ret (results_ctt rfl _ _ w.heap.size zeroEc rfl hx9.cells Tryz.underlying55 rfl infoEdge3) rfl ?_
    exact ⟨by rw [Hr.out]; rfl, Hb3.out.trans (hc9.below Hb3.out.size fun q hq => by omega)⟩
  have hd0 : ((ws.length : Int) == 0) = false := beq_eq_false_iff_ne.2 (by omega)
  obtain ⟨ad, rfl, hab, hx0⟩ := HS3.out.cells 0 h0
  have hx0 : w3.cell? ad = some (.string (bst ws[0])) := by rw [add_zero'] at hx0; exact hx0
  have hp0 : 0 < (ws[0]).length := Hpos.out _ (List.getElem_mem h0)
  have hix := fun W => idx_str W ws[0] 0 hp0
  have hg0 : ws.getD 0 [] = ws[0] := by simp [List.getD, h0]
  have hgg : (ws.getD 0 []).getD 0 0 = (ws[0])[0] := by rw [hg0]; simp [List.getD, hp0]
  have hl0 := Hwx.out _ (List.getElem_mem h0)
  obtain ⟨c0, hc0⟩ : ∃ c0, c0 = (ws[0])[0] := ⟨_, rfl⟩
  simp only [Int.natCast_zero] at hix
  rw [← hc0] at hix hgg
  clear hc0
  by_cases h35 : c0 = 35
  · have hd1 : ((c0.toNat : Int) == 35) = true := by rw [h35]; rfl
    have Hr : Hid (r = (⟨0, 0, 0⟩, false, 0)) := Lib.hid (by rw [HrO.out]; unfold oneW; rw [if_neg (by omega), if_pos (by rw [hgg]; exact h35)])
    clear h35 hgg hg0 hl0
    generalize hws0 : ws[0] = ws0 at *
    clear hws0 hp0
    go_wp2_with (first
      | ((with_reducible refine wpList_load_agg ?_ 55 (.tmp 5) ?_ ⟨w.heap.size + 1, 0, none⟩ ?_ zeroEc X5.out.cells Tryz.underlying55 ?_ ?_ ?_); exact rfl; exact rfl; exact rfl; exact rfl; exact infoEdge3)
      | ((with_reducible refine wpList_store_boxX ?_ 55 55 (.tmp 2) (.tmp 27) ?_ w.heap.size zeroEc zeroEc ?_ ?_ X2.out ?_ HoneZ.out ?_ ?_); exact rfl; exact rfl; exact rfl; exact rfl; exact rfl; exact infoEdge3; intro w9 hx9 hc9 hz9))
    refine bodyPost_ret (results_ctt rfl _ _ w.heap.size zeroEc rfl hx9.cells Tryz.underlying55 rfl infoEdge3) rfl ?_
    exact ⟨by rw [Hr.out]; rfl, Hb3.out.trans (hc9.below Hb3.out.size fun q hq => by omega)⟩
  have hd1 : ((c0.toNat : Int) == 35) = false := beq_eq_false_iff_ne.2 fun e => h35 (UInt8.toNat_inj.1 (by have : ((c0.toNat : Nat) : Int) = 35 := e; have h10 : (35 : UInt8).toNat = 35 := rfl; omega))
  have h35' : ¬ (ws.getD 0 []).getD 0 0 = 35 := by rw [hgg]; exact h35
  have H35 := Lib.hid h35'
  have Hg0 := Lib.hid hg0
  clear h35 h35' hgg hg0
  by_cases h1 : ws.length = 1
  · have hd2 : ((ws.length : Int) == 1) = true := by rw [h1]; rfl
    have Hr : Hid (r = (⟨0, 0, 0⟩, false, 12)) := Lib.hid (by rw [HrO.out]; unfold oneW; rw [if_neg (by omega), if_neg H35.out, if_pos (.inl h1)])
    generalize hws0 : ws[0] = ws0 at *
    clear hws0 hp0 h1 hl0
    go_wp2_with (first
      | ((with_reducible refine wpList_load_agg ?_ 55 (.tmp 5) ?_ ⟨w.heap.size + 1, 0, none⟩ ?_ zeroEc X5.out.cells Tryz.underlying55 ?_ ?_ ?_); exact rfl; exact rfl; exact rfl; exact rfl; exact infoEdge3)
      | ((with_reducible refine wpList_store_boxX ?_ 55 55 (.tmp 2) (.tmp 36) ?_ w.heap.size zeroEc zeroEc ?_ ?_ X2.out ?_ HoneZ.out ?_ ?_); exact rfl; exact rfl; exact rfl; exact rfl; exact rfl; exact infoEdge3; intro w9 hx9 hc9 hz9))
    refine bodyPost_ret (results_ctt rfl _ _ w.heap.size zeroEc rfl hx9.cells Tryz.underlying55 rfl infoEdge3) rfl ?_
    exact ⟨by rw [Hr.out]; rfl, Hb3.out.trans (hc9.below Hb3.out.size fun q hq => by omega)⟩
  have hd2 : ((ws.length : Int) == 1) = false := beq_eq_false_iff_ne.2 (by omega)
  by_cases h4 : 3 < ws.length
  · have hd3 : decide ((3 : Int) < (ws.length : Int)) = true := decide_eq_true (by omega)
    have Hr : Hid (r = (⟨0, 0, 0⟩, false, 12)) := Lib.hid (by rw [HrO.out]; unfold oneW; rw [if_neg (by omega), if_neg H35.out, if_pos (.inr h4)])
    generalize hws0 : ws[0] = ws0 at *
    clear hws0 hp0 h1 hl0 h4
    go_wp2_with (first
      | ((with_reducible refine wpList_load_agg ?_ 55 (.tmp 5) ?_ ⟨w.heap.size + 1, 0, none⟩ ?_ zeroEc X5.out.cells Tryz.underlying55 ?_ ?_ ?_); exact rfl; exact rfl; exact rfl; exact rfl; exact infoEdge3)
      | ((with_reducible refine wpList_store_boxX ?_ 55 55 (.tmp 2) (.tmp 36) ?_ w.heap.size zeroEc zeroEc ?_ ?_ X2.out ?_ HoneZ.out ?_ ?_); exact rfl; exact rfl; exact rfl; exact rfl; exact rfl; exact infoEdge3; intro w9 hx9 hc9 hz9))
    refine bodyPost_ret (results_ctt rfl _ _ w.heap.size zeroEc rfl hx9.cells Tryz.underlying55 rfl infoEdge3) rfl ?_
    exact ⟨by rw [Hr.out]; rfl, Hb3.out.trans (hc9.below Hb3.out.size fun q hq => by omega)⟩
  have hd3 : decide ((3 : Int) < (ws.length : Int)) = false := decide_eq_false (by omega)
  have h1l : 1 < ws.length := by omega
  obtain ⟨_, e1, _, hx1⟩ := HS3.out.cells 1 h1l
  injection e1 with e1
  subst e1
  have hx1' : w3.cell? { block := ad.block, off := ad.off + 1 } = some (.string (bst ws[1])) := by rw [← hx1]; simp [Addr.add]
  have hg1 : ws.getD 1 [] = ws[1] := by simp [List.getD, h1l]
  have hl1 := Hwx.out _ (List.getElem_mem h1l)
  have hn0 := fun W => rnum11_any W ws[0] (by omega) 4294967295 (by omega)
  have hn1 := fun W => rnum11_any W ws[1] (by omega) 4294967295 (by omega)
  have hb0' := numW_le ws[0] 4294967295
  have hb1' := numW_le ws[1] 4294967295
  have hone : r = if (numW ws[0] 4294967295).2 ≠ 0 then (⟨0, 0, 0⟩, false, (numW ws[0] 4294967295).2) else if (numW ws[1] 4294967295).2 ≠ 0 then (⟨0, 0, 0⟩, false, (numW ws[1] 4294967295).2)
      else if ws.length = 3 then (if (numW (ws.getD 2 []) 2147483647).2 ≠ 0 then (⟨0, 0, 0⟩, false, (numW (ws.getD 2 []) 2147483647).2) else if (numW (ws.getD 2 []) 2147483647).1 = 0 then (⟨0, 0, 0⟩, false, 9)
        else (⟨UInt32.ofNat (numW ws[0] 4294967295).1, UInt32.ofNat (numW ws[1] 4294967295).1, UInt32.ofNat (numW (ws.getD 2 []) 2147483647).1⟩, true, 0))
      else (⟨UInt32.ofNat (numW ws[0] 4294967295).1, UInt32.ofNat (numW ws[1] 4294967295).1, 1⟩, true, 0) := by
    rw [HrO.out]
    unfold oneW
    rw [if_neg (by omega), if_neg H35.out, if_neg (by omega), Hg0.out, hg1]
  have h23 : ws.length = 2 ∨ ws.length = 3 := by omega
  obtain ⟨a1, ha1⟩ : ∃ a1, a1 = (numW ws[0] 4294967295).1 := ⟨_, rfl⟩
  obtain ⟨a2, ha2⟩ : ∃ a2, a2 = (numW ws[0] 4294967295).2 := ⟨_, rfl⟩
  obtain ⟨b1, hb1⟩ : ∃ b1, b1 = (numW ws[1] 4294967295).1 := ⟨_, rfl⟩
  obtain ⟨b2, hb2⟩ : ∃ b2, b2 = (numW ws[1] 4294967295).2 := ⟨_, rfl⟩
  rw [← ha1] at hb0'
  rw [← hb1] at hb1'
  rw [← ha1, ← ha2, ← hb1, ← hb2] at hone
  simp only [← ha1, ← ha2] at hn0
  simp only [← hb1, ← hb2] at hn1
  simp only [Int.cast_ofNat_Int] at hn0 hn1
  have Hone := Lib.hid hone
  have Hn0 := Lib.hid hn0
  have Hn1 := Lib.hid hn1
  have H23 := Lib.hid h23
  have hwlen : ws.length ≤ 3 := by omega
  clear ha1 ha2 hb1 hb2 hone hn0 hn1 hg1 h23 h1 h4 hl0 hl1 hp0 HrO
  generalize hws0 : ws[0] = ws0 at *
  clear hws0
  generalize hws1 : ws[1] = ws1 at *
  clear hws1
  go_wp2_with fail
  refine (Hn0.out w3).mono ?_
  rintro _ w3x ⟨rfl, hww⟩
  obtain rfl := hww.symm
  by_cases ha : ¬ a2 = 0
  · have hd4 : (a2 != 0) = true := by simp [bne, ha]
    have Hr : Hid (r = (⟨0, 0, 0⟩, false, a2)) := Lib.hid (by rw [Hone.out, if_pos ha])
    clear ha
    go_wp2_with (first
      | ((with_reducible refine wpList_load_agg ?_ 55 (.tmp 5) ?_ ⟨w.heap.size + 1, 0, none⟩ ?_ zeroEc X5.out.cells Tryz.underlying55 ?_ ?_ ?_); exact rfl; exact rfl; exact rfl; exact rfl; exact infoEdge3)
      | ((with_reducible refine wpList_store_boxX ?_ 55 55 (.tmp 2) (.tmp 46) ?_ w.heap.size zeroEc zeroEc ?_ ?_ X2.out ?_ HoneZ.out ?_ ?_); exact rfl; exact rfl; exact rfl; exact rfl; exact rfl; exact infoEdge3; intro w9 hx9 hc9 hz9))
    refine bodyPost_ret (results_ctt rfl _ _ w.heap.size zeroEc rfl hx9.cells Tryz.underlying55 rfl infoEdge3) rfl ?_
    exact ⟨by rw [Hr.out]; rfl, Hb3.out.trans (hc9.below Hb3.out.size fun q hq => by omega)⟩
  have ha := Classical.not_not.1 ha
  have hd4 : (a2 != 0) = false := by simp [bne, ha]
  have Ha := Lib.hid ha
  clear ha
  go_wp2_with fail
  refine (Hn1.out w3).mono ?_
  rintro _ w3x ⟨rfl, hww⟩
  obtain rfl := hww.symm
  by_cases hb : ¬ b2 = 0
  · have hd5 : (b2 != 0) = true := by simp [bne, hb]
    have Hr : Hid (r = (⟨0, 0, 0⟩, false, b2)) := Lib.hid (by rw [Hone.out, if_neg (by rw [Ha.out]; decide), if_pos hb])
    clear hb
    go_wp2_with (first
      | ((with_reducible refine wpList_load_agg ?_ 55 (.tmp 5) ?_ ⟨w.heap.size + 1, 0, none⟩ ?_ zeroEc X5.out.cells Tryz.underlying55 ?_ ?_ ?_); exact rfl; exact rfl; exact rfl; exact rfl; exact infoEdge3)
      | ((with_reducible refine wpList_store_boxX ?_ 55 55 (.tmp 2) (.tmp 57) ?_ w.heap.size zeroEc zeroEc ?_ ?_ X2.out ?_ HoneZ.out ?_ ?_); exact rfl; exact rfl; exact rfl; exact rfl; exact rfl; exact infoEdge3; intro w9 hx9 hc9 hz9))
    refine bodyPost_ret (results_ctt rfl _ _ w.heap.size zeroEc rfl hx9.cells Tryz.underlying55 rfl infoEdge3) rfl ?_
    exact ⟨by rw [Hr.out]; rfl, Hb3.out.trans (hc9.below Hb3.out.size fun q hq => by omega)⟩
  have hb := Classical.not_not.1 hb
  have hd5 : (b2 != 0) = false := by simp [bne, hb]
  have Hbb := Lib.hid hb
  clear hb
  have wa : IntKind.u32.wrap (a1 : Int) = (a1 : Int) := by rw [IntKind.wrap_u32']; omega
  have wb : IntKind.u32.wrap (b1 : Int) = (b1 : Int) := by rw [IntKind.wrap_u32']; omega
  rcases H23.out with h2 | h3
  · have hd6 : ((ws.length : Int) == 3) = false := beq_eq_false_iff_ne.2 (by omega)
    have Hr : Hid (r = (⟨UInt32.ofNat a1, UInt32.ofNat b1, 1⟩, true, 0)) := Lib.hid (by rw [Hone.out, if_neg (by rw [Ha.out]; decide), if_neg (by rw [Hbb.out]; decide), if_neg (by omega)])
    have HoneE : Hid (∀ u ∈ ([.int .u32 (a1 : Int), .int .u32 (b1 : Int), .int .u32 1] : List Value), u.oneCell' = true) := Lib.hid fun u hu => by
      simp at hu
      rcases hu with rfl | rfl | rfl <;> rfl
    have hbd : ∀ W, (Instr.build 55 #[(0, .int .u32 (a1 : Int)), (1, .int .u32 (b1 : Int)), (2, .int .u32 1)]).run Tryz.prog W = .ok (.agg #[.int .u32 (a1 : Int), .int .u32 (b1 : Int), .int .u32 1]) W := fun W => run_build W _ _ _ (by kernel_rfl)
    have ev : edgeV ⟨UInt32.ofNat a1, UInt32.ofNat b1, 1⟩ = .agg #[.int .u32 (a1 : Int), .int .u32 (b1 : Int), .int .u32 1] := by
      unfold edgeV edgeC
      rw [UInt32.toNat_ofNat', UInt32.toNat_ofNat', Nat.mod_eq_of_lt (by omega), Nat.mod_eq_of_lt (by omega)]
      rfl
    have Hev := Lib.hid ev
    clear h2 ev hb0' hb1'
    go_wp2_with (first
      | ((with_reducible refine wpList_load_agg ?_ 55 (.tmp 5) ?_ ⟨w.heap.size + 1, 0, none⟩ ?_ zeroEc X5.out.cells Tryz.underlying55 ?_ ?_ ?_); exact rfl; exact rfl; exact rfl; exact rfl; exact infoEdge3)
      | ((with_reducible refine wpList_store_boxX ?_ 55 55 (.tmp 2) (.tmp 83) ?_ w.heap.size zeroEc [.int .u32 (a1 : Int), .int .u32 (b1 : Int), .int .u32 1] ?_ ?_ X2.out ?_ HoneE.out ?_ ?_); exact rfl; exact rfl; exact rfl; exact rfl; exact rfl; exact infoEdge3; intro w9 hx9 hc9 hz9))
    refine bodyPost_ret (results_ctt rfl _ _ w.heap.size [.int .u32 (a1 : Int), .int .u32 (b1 : Int), .int .u32 1] rfl hx9.cells Tryz.underlying55 rfl infoEdge3) rfl ?_
    exact ⟨by rw [Hr.out]; simp only [Hev.out]; rfl, Hb3.out.trans (hc9.below Hb3.out.size fun q hq => by omega)⟩
  · have hd6 : ((ws.length : Int) == 3) = true := by rw [h3]; rfl
    have h2l : 2 < ws.length := by omega
    obtain ⟨_, e1, _, hx2⟩ := HS3.out.cells 2 h2l
    injection e1 with e1
    subst e1
    have hx2' : w3.cell? { block := ad.block, off := ad.off + 2 } = some (.string (bst ws[2])) := by rw [← hx2]; simp [Addr.add]
    have hg2 : ws.getD 2 [] = ws[2] := by simp [List.getD, h2l]
    have hl2 := Hwx.out _ (List.getElem_mem h2l)
    have hn2 := fun W => rnum11_any W ws[2] (by omega) 2147483647 (by omega)
    have hc0' := numW_le ws[2] 2147483647
    have hone := Hone.out
    rw [if_neg (by rw [Ha.out]; decide), if_neg (by rw [Hbb.out]; decide), if_pos h3, hg2] at hone
    obtain ⟨c1, hc1⟩ : ∃ c1, c1 = (numW ws[2] 2147483647).1 := ⟨_, rfl⟩
    obtain ⟨c2, hc2⟩ : ∃ c2, c2 = (numW ws[2] 2147483647).2 := ⟨_, rfl⟩
    rw [← hc1] at hc0'
    rw [← hc1, ← hc2] at hone
    simp only [← hc1, ← hc2] at hn2
    simp only [Int.cast_ofNat_Int] at hn2
    have Hn2 := Lib.hid hn2
    have HoneC := Lib.hid hone
    clear hone hn2 hc1 hc2 hg2 hl2 h3
    generalize hws2 : ws[2] = ws2 at *
    clear hws2
    go_wp2_with fail
    refine (Hn2.out w3).mono ?_
    rintro _ w3x ⟨rfl, hww⟩
    obtain rfl := hww.symm
    by_cases hc : ¬ c2 = 0
    · have hd7 : (c2 != 0) = true := by simp [bne, hc]
      have Hr : Hid (r = (⟨0, 0, 0⟩, false, c2)) := Lib.hid (by rw [HoneC.out, if_pos hc])
      clear hc
      go_wp2_with (first
        | ((with_reducible refine wpList_load_agg ?_ 55 (.tmp 5) ?_ ⟨w.heap.size + 1, 0, none⟩ ?_ zeroEc X5.out.cells Tryz.underlying55 ?_ ?_ ?_); exact rfl; exact rfl; exact rfl; exact rfl; exact infoEdge3)
        | ((with_reducible refine wpList_store_boxX ?_ 55 55 (.tmp 2) (.tmp 71) ?_ w.heap.size zeroEc zeroEc ?_ ?_ X2.out ?_ HoneZ.out ?_ ?_); exact rfl; exact rfl; exact rfl; exact rfl; exact rfl; exact infoEdge3; intro w9 hx9 hc9 hz9))
      refine bodyPost_ret (results_ctt rfl _ _ w.heap.size zeroEc rfl hx9.cells Tryz.underlying55 rfl infoEdge3) rfl ?_
      exact ⟨by rw [Hr.out]; rfl, Hb3.out.trans (hc9.below Hb3.out.size fun q hq => by omega)⟩
    have hc := Classical.not_not.1 hc
    have hd7 : (c2 != 0) = false := by simp [bne, hc]
    have Hc := Lib.hid hc
    clear hc
    by_cases hz : c1 = 0
    · have hd8 : ((c1 : Int) == 0) = true := by rw [hz]; rfl
      have Hr : Hid (r = (⟨0, 0, 0⟩, false, 9)) := Lib.hid (by rw [HoneC.out, if_neg (by rw [Hc.out]; decide), if_pos hz])
      clear hz
      go_wp2_with (first
        | ((with_reducible refine wpList_load_agg ?_ 55 (.tmp 5) ?_ ⟨w.heap.size + 1, 0, none⟩ ?_ zeroEc X5.out.cells Tryz.underlying55 ?_ ?_ ?_); exact rfl; exact rfl; exact rfl; exact rfl; exact infoEdge3)
        | ((with_reducible refine wpList_store_boxX ?_ 55 55 (.tmp 2) (.tmp 75) ?_ w.heap.size zeroEc zeroEc ?_ ?_ X2.out ?_ HoneZ.out ?_ ?_); exact rfl; exact rfl; exact rfl; exact rfl; exact rfl; exact infoEdge3; intro w9 hx9 hc9 hz9))
      refine bodyPost_ret (results_ctt rfl _ _ w.heap.size zeroEc rfl hx9.cells Tryz.underlying55 rfl infoEdge3) rfl ?_
      exact ⟨by rw [Hr.out]; rfl, Hb3.out.trans (hc9.below Hb3.out.size fun q hq => by omega)⟩
    · have hd8 : ((c1 : Int) == 0) = false := beq_eq_false_iff_ne.2 (by omega)
      have Hr : Hid (r = (⟨UInt32.ofNat a1, UInt32.ofNat b1, UInt32.ofNat c1⟩, true, 0)) := Lib.hid (by rw [HoneC.out, if_neg (by rw [Hc.out]; decide), if_neg hz])
      have wc : IntKind.u32.wrap (c1 : Int) = (c1 : Int) := by rw [IntKind.wrap_u32']; omega
      have HoneE : Hid (∀ u ∈ ([.int .u32 (a1 : Int), .int .u32 (b1 : Int), .int .u32 (c1 : Int)] : List Value), u.oneCell' = true) := Lib.hid fun u hu => by
        simp at hu
        rcases hu with rfl | rfl | rfl <;> rfl
      have hbd : ∀ W, (Instr.build 55 #[(0, .int .u32 (a1 : Int)), (1, .int .u32 (b1 : Int)), (2, .int .u32 (c1 : Int))]).run Tryz.prog W = .ok (.agg #[.int .u32 (a1 : Int), .int .u32 (b1 : Int), .int .u32 (c1 : Int)]) W := fun W => run_build W _ _ _ (by kernel_rfl)
      have ev : edgeV ⟨UInt32.ofNat a1, UInt32.ofNat b1, UInt32.ofNat c1⟩ = .agg #[.int .u32 (a1 : Int), .int .u32 (b1 : Int), .int .u32 (c1 : Int)] := by
        unfold edgeV edgeC
        rw [UInt32.toNat_ofNat', UInt32.toNat_ofNat', UInt32.toNat_ofNat', Nat.mod_eq_of_lt (by omega), Nat.mod_eq_of_lt (by omega), Nat.mod_eq_of_lt (by omega)]
      have Hev := Lib.hid ev
      clear hz ev hb0' hb1' hc0'
      go_wp2_with (first
        | ((with_reducible refine wpList_load_agg ?_ 55 (.tmp 5) ?_ ⟨w.heap.size + 1, 0, none⟩ ?_ zeroEc X5.out.cells Tryz.underlying55 ?_ ?_ ?_); exact rfl; exact rfl; exact rfl; exact rfl; exact infoEdge3)
        | ((with_reducible refine wpList_store_boxX ?_ 55 55 (.tmp 2) (.tmp 83) ?_ w.heap.size zeroEc [.int .u32 (a1 : Int), .int .u32 (b1 : Int), .int .u32 (c1 : Int)] ?_ ?_ X2.out ?_ HoneE.out ?_ ?_); exact rfl; exact rfl; exact rfl; exact rfl; exact rfl; exact infoEdge3; intro w9 hx9 hc9 hz9))
      refine bodyPost_ret (results_ctt rfl _ _ w.heap.size [.int .u32 (a1 : Int), .int .u32 (b1 : Int), .int .u32 (c1 : Int)] rfl hx9.cells Tryz.underlying55 rfl infoEdge3) rfl ?_
      exact ⟨by rw [Hr.out]; simp only [Hev.out]; rfl, Hb3.out.trans (hc9.below Hb3.out.size fun q hq => by omega)⟩
end Go.Proofs.YtcffeepgfjpcaaaGreat

namespace Go.Proofs.YtcffeepgfjpcaaaGreat
set_option linter.unusedSimpArgs false
set_option linter.unusedVariables false
open Go.RowKit

/-- where a line's first word ends -/
def endW (l : List UInt8) : Int := if 0 ≤ Lib.indexByte l 9 ∧ (Lib.indexByte l 32 < 0 ∨ Lib.indexByte l 9 < Lib.indexByte l 32) then Lib.indexByte l 9 else Lib.indexByte l 32
theorem idx_cases (l : List UInt8) (c : UInt8) : (Lib.indexByte l c = -1 ∧ ∀ x ∈ l, x ≠ c) ∨ ∃ o : Nat, Lib.indexByte l c = (o : Int) ∧ (∃ h : o < l.length, l[o] = c) ∧ ∀ x ∈ l.take o, x ≠ c := by
  have h := Lib.indexByte_ge l c
  rcases (by omega : Lib.indexByte l c = -1 ∨ 0 ≤ Lib.indexByte l c) with e | e
  · refine .inl ⟨e, fun x hx h2 => ?_⟩
    obtain ⟨k, hk, hx⟩ := List.getElem_of_mem hx
    exact Lib.indexByte_none e k (by rw [List.getElem?_eq_getElem hk, hx, h2])
  · obtain ⟨o, ho⟩ := Int.eq_ofNat_of_zero_le e
    obtain ⟨h1, h2⟩ := Lib.indexByte_some ho
    obtain ⟨h3, h4⟩ := List.getElem?_eq_some_iff.1 h1
    refine .inr ⟨o, ho, ⟨h3, h4⟩, fun x hx h5 => ?_⟩
    obtain ⟨k, hk, hx⟩ := List.getElem_of_mem hx
    rw [List.length_take] at hk
    refine h2 k (by omega) ?_
    rw [List.getElem_take] at hx
    rw [List.getElem?_eq_getElem (by omega), hx, h5]
theorem wordStep_run (a : List UInt8) (h : ∀ x ∈ a, x ≠ 32 ∧ x ≠ 9) : ∀ (p : List (List UInt8)) (q : List UInt8), a.foldl wordStep (p, q) = (p, q ++ a) := by
  induction a with
  | nil => intro p q; simp
  | cons c t ih =>
    intro p q
    rw [List.foldl_cons]
    have : wordStep (p, q) c = (p, q ++ [c]) := by unfold wordStep; rw [if_pos (h c (by simp))]
    rw [this, ih (fun x hx => h x (by simp [hx]))]
    simp
theorem wordStep_pre (t : List UInt8) : ∀ (p : List (List UInt8)) (q : List UInt8) (p0 : List (List UInt8)), t.foldl wordStep (p0 ++ p, q) = (p0 ++ (t.foldl wordStep (p, q)).1, (t.foldl wordStep (p, q)).2) := by
  induction t with
  | nil => intro p q p0; rfl
  | cons c t ih =>
    intro p q p0
    rw [List.foldl_cons, List.foldl_cons]
    by_cases h : c ≠ 32 ∧ c ≠ 9
    · have e1 : wordStep (p0 ++ p, q) c = (p0 ++ p, q ++ [c]) := by unfold wordStep; rw [if_pos h]
      have e2 : wordStep (p, q) c = (p, q ++ [c]) := by unfold wordStep; rw [if_pos h]
      rw [e1, e2, ih]
    · have e1 : wordStep (p0 ++ p, q) c = (p0 ++ lastOn (p, q), []) := by
        unfold wordStep
        rw [if_neg h]
        unfold lastOn
        split <;> simp
      have e2 : wordStep (p, q) c = (lastOn (p, q), []) := by unfold wordStep; rw [if_neg h]
      rw [e1, e2, ih]
theorem wordsP_none (l : List UInt8) (h : ∀ x ∈ l, x ≠ 32 ∧ x ≠ 9) (h0 : 0 < l.length) : wordsP l = [l] := by
  unfold wordsP
  rw [wordStep_run l h]
  unfold lastOn
  rw [if_pos (by simpa using h0)]
  rfl
theorem wordsP_cut (l : List UInt8) (o : Nat) (ho : o < l.length) (h : ∀ x ∈ l.take o, x ≠ 32 ∧ x ≠ 9) (hs : l[o] = 32 ∨ l[o] = 9) : wordsP l = (if 0 < o then [l.take o] else []) ++ wordsP (l.drop (o + 1)) := by
  have hl : l = l.take o ++ l[o] :: l.drop (o + 1) := by rw [← List.drop_eq_getElem_cons ho, List.take_append_drop]
  have htl : (l.take o).length = o := by rw [List.length_take]; omega
  have e0 : wordsP l = lastOn ((l.take o ++ l[o] :: l.drop (o + 1)).foldl wordStep ([], [])) := by rw [← hl]; rfl
  rw [e0, List.foldl_append, wordStep_run _ h, List.foldl_cons, List.nil_append]
  have e2 : wordStep ([], l.take o) l[o] = ((if 0 < o then [l.take o] else []), []) := by
    unfold wordStep
    rw [if_neg (by rintro ⟨a, b⟩; rcases hs with e | e; exact a e; exact b e)]
    unfold lastOn
    rw [htl]
    split <;> simp
  rw [e2]
  have := wordStep_pre (l.drop (o + 1)) [] [] (if 0 < o then [l.take o] else [])
  rw [List.append_nil] at this
  rw [this]
  unfold wordsP
  generalize (if 0 < o then [l.take o] else []) = p0
  unfold lastOn
  simp only
  split <;> simp
theorem endW_cases (l : List UInt8) (h0 : 0 < l.length) : (endW l < 0 ∧ wordsP l = [l]) ∨ ∃ o : Nat, endW l = (o : Int) ∧ o < l.length ∧ wordsP l = (if 0 < o then [l.take o] else []) ++ wordsP (l.drop (o + 1)) := by
  unfold endW
  rcases idx_cases l 9 with ⟨e9, h9⟩ | ⟨o9, e9, ⟨b9, c9⟩, h9⟩
  · rw [e9, if_neg (by omega)]
    rcases idx_cases l 32 with ⟨e3, h3⟩ | ⟨o3, e3, ⟨b3, c3⟩, h3⟩
    · exact .inl ⟨by omega, wordsP_none l (fun x hx => ⟨h3 x hx, h9 x hx⟩) h0⟩
    · exact .inr ⟨o3, e3, b3, wordsP_cut l o3 b3 (fun x hx => ⟨h3 x hx, h9 x (List.mem_of_mem_take hx)⟩) (.inl c3)⟩
  · rcases idx_cases l 32 with ⟨e3, h3⟩ | ⟨o3, e3, ⟨b3, c3⟩, h3⟩
    · rw [e9, e3, if_pos (by omega)]
      exact .inr ⟨o9, rfl, b9, wordsP_cut l o9 b9 (fun x hx => ⟨h3 x (List.mem_of_mem_take hx), h9 x hx⟩) (.inr c9)⟩
    · rw [e9, e3]
      by_cases h : o9 < o3
      · rw [if_pos (by omega)]
        refine .inr ⟨o9, rfl, b9, wordsP_cut l o9 b9 (fun x hx => ⟨h3 x ?_, h9 x hx⟩) (.inr c9)⟩
        exact (List.take_subset_take_left l (by omega)) hx
      · rw [if_neg (by omega)]
        have hne : o3 ≠ o9 := fun e => by subst e; rw [c9] at c3; cases c3
        refine .inr ⟨o3, rfl, b3, wordsP_cut l o3 b3 (fun x hx => ⟨h3 x hx, h9 x ?_⟩) (.inl c3)⟩
        exact (List.take_subset_take_left l (by omega)) hx
set_option maxRecDepth 100000 in
theorem each_any (w : World) (l : List UInt8) : Calls Tryz.prog 100 #[.string (bst l)] w fun e w' => e = .returned (.func (.func 117) #[] #[.pointer (some ⟨w.heap.size, 0, none⟩)]) ∧ BoxAt 9 w' w.heap.size [.string (bst l)] ∧ Below w.heap.size w w' ∧ w'.heap.size = w.heap.size + 1 := by
  go_enter Tryz.func100, Tryz.ntmps100
  go_wp2_with fail
  go_ret
  exact ⟨rfl, BoxAt.new_ 9 w [.string (bst l)], balloc _ _, by simp⟩
end Go.Proofs.YtcffeepgfjpcaaaGreat

namespace Go.Proofs.YtcffeepgfjpcaaaGreat
set_option linter.unusedSimpArgs false
set_option linter.unusedVariables false
open Go.RowKit

def mixA (n : UInt64) : UInt64 := n + 11400714819323198485
def mixB (n : UInt64) : UInt64 := (n ^^^ (n >>> 30)) * 13787848793156543929
def mixD (n : UInt64) : UInt64 := (n ^^^ (n >>> 27)) * 10723151780598845931
def mixE (n : UInt64) : UInt64 := n ^^^ (n >>> 31)
def mixU (n : UInt64) : UInt64 := mixE (mixD (mixB (mixA n)))
theorem mixA_int (n : UInt64) : IntKind.u64.wrap ((n.toNat : Int) + 11400714819323198485) = ((mixA n).toNat : Int) := add_u64 n 11400714819323198485
theorem mixX_int (n : UInt64) (k : Nat) (hk : k < 64) (d : Int) (hd : d = 2 ^ k) : bits .xor .u64 (n.toNat : Int) ((n.toNat : Int) / d) = ((n ^^^ (n >>> UInt64.ofNat k)).toNat : Int) := by
  rw [div_u64 n k hk d hd, xor_u64]
theorem mixB_int (n : UInt64) : IntKind.u64.wrap (bits .xor .u64 (n.toNat : Int) ((n.toNat : Int) / 1073741824) * 13787848793156543929) = ((mixB n).toNat : Int) := by
  rw [mixX_int n 30 (by decide) _ (by decide)]
  exact mul_u64 (n ^^^ (n >>> 30)) 13787848793156543929
theorem mixD_int (n : UInt64) : IntKind.u64.wrap (bits .xor .u64 (n.toNat : Int) ((n.toNat : Int) / 134217728) * 10723151780598845931) = ((mixD n).toNat : Int) := by
  rw [mixX_int n 27 (by decide) _ (by decide)]
  exact mul_u64 (n ^^^ (n >>> 27)) 10723151780598845931
theorem mixE_int (n : UInt64) : bits .xor .u64 (n.toNat : Int) ((n.toNat : Int) / 2147483648) = ((mixE n).toNat : Int) := mixX_int n 31 (by decide) _ (by decide)
set_option maxRecDepth 100000 in
set_option maxHeartbeats 800000 in
theorem mix_any (w : World) (n : UInt64) : Calls Tryz.prog 135 #[.int .u64 (n.toNat : Int)] w fun e w' => e = .returned (.int .u64 ((mixU n).toNat : Int)) ∧ w = w' := by
  have hA := mixA_int n
  have hB := mixB_int (mixA n)
  have hD := mixD_int (mixB (mixA n))
  have hE := mixE_int (mixD (mixB (mixA n)))
  unfold mixU
  generalize mixE (mixD (mixB (mixA n))) = ne at *
  generalize mixD (mixB (mixA n)) = nd at *
  generalize mixB (mixA n) = nb at *
  generalize mixA n = na at *
  have b0 := u64_lt n
  have b1 := u64_lt na
  have b2 := u64_lt nb
  have b3 := u64_lt nd
  have HA := Lib.hid hA
  have HB := Lib.hid hB
  have HD := Lib.hid hD
  have HE := Lib.hid hE
  clear hA hB hD hE
  go_enter Tryz.func135, Tryz.ntmps135
  go_upto_region 2 with fail
  rw [HA.out]
  go_upto_region 3 with fail
  rw [HB.out]
  go_upto_region 4 with fail
  rw [HD.out]
  go_wp2_with fail
  go_ret
  rw [← HE.out]
  exact ⟨rfl, rfl⟩
theorem mix_q (w : World) (x : UInt64) (n : Nat) : Calls Tryz.prog 135 #[.int .u64 (x.toNat : Int)] (w.drewN n) fun e w' => e = .returned (.int .u64 ((mixU x).toNat : Int)) ∧ ∃ m, w' = w.drewN m :=
  (mix_any (w.drewN n) x).mono fun _ _ ⟨h1, h2⟩ => ⟨h1, n, h2.symm⟩
def drawU (s k t a : UInt64) : UInt64 := mixU (mixU (mixU (mixU s ^^^ k) ^^^ t) ^^^ a)
def tapeC (s k t a : UInt64) : List Value := [.int .u64 (s.toNat : Int), .int .u64 (k.toNat : Int), .int .u64 (t.toNat : Int), .int .u64 (a.toNat : Int)]
set_option maxRecDepth 100000 in
set_option maxHeartbeats 1600000 in
theorem draw_any (w : World) (s k t a : UInt64) : Calls Tryz.prog 134 #[.agg (tapeC s k t a).toArray] w fun e w' => e = .returned (.int .u64 ((drawU s k t a).toNat : Int)) ∧ Below w.heap.size w w' := by
  obtain ⟨w0, hw0⟩ : ∃ w0, w0 = w.alloc (.cells (tapeC s k t a).toArray 194) := ⟨_, rfl⟩
  have hb0 : Below w.heap.size w w0 := by rw [hw0]; exact balloc w _
  have hx0 : BoxAt 194 w0 w.heap.size (tapeC s k t a) := by rw [hw0]; exact BoxAt.new_ _ _ _
  have Hw0 := Lib.hid hw0
  have Hb0 := Lib.hid hb0
  have hc0 := hx0.cell 0 _ rfl
  have hc1 := hx0.cell 1 _ rfl
  have hc2 := hx0.cell 2 _ rfl
  have hc3 := hx0.cell 3 _ rfl
  have hcs : tapeC s k t a = [.int .u64 (s.toNat : Int), .int .u64 (k.toNat : Int), .int .u64 (t.toNat : Int), .int .u64 (a.toNat : Int)] := rfl
  have hm1 := mix_q w0 s
  have hx1 := xor_u64 (mixU s) k
  have hm2 := mix_q w0 (mixU s ^^^ k)
  have hx2 := xor_u64 (mixU (mixU s ^^^ k)) t
  have hm3 := mix_q w0 (mixU (mixU s ^^^ k) ^^^ t)
  have hx3 := xor_u64 (mixU (mixU (mixU s ^^^ k) ^^^ t)) a
  have hm4 := mix_q w0 (mixU (mixU (mixU s ^^^ k) ^^^ t) ^^^ a)
  rw [hcs] at Hw0 ⊢
  unfold drawU
  clear hw0 hb0 hx0 hcs
  generalize mixU (mixU (mixU (mixU s ^^^ k) ^^^ t) ^^^ a) = r4 at *
  generalize mixU (mixU (mixU s ^^^ k) ^^^ t) ^^^ a = q3 at *
  generalize mixU (mixU (mixU s ^^^ k) ^^^ t) = r3 at *
  generalize mixU (mixU s ^^^ k) ^^^ t = q2 at *
  generalize mixU (mixU s ^^^ k) = r2 at *
  generalize mixU s ^^^ k = q1 at *
  generalize mixU s = r1 at *
  have M1 := Lib.hid hm1
  have M2 := Lib.hid hm2
  have M3 := Lib.hid hm3
  have M4 := Lib.hid hm4
  clear hm1 hm2 hm3 hm4
  go_enter Tryz.func134, Tryz.ntmps134
  go_upto_region 1 with fail
  rw [← Hw0.out]
  go_quiet ((go_at_call 135; first | with_reducible exact M1.out _ | with_reducible exact M2.out _ | with_reducible exact M3.out _ | with_reducible exact M4.out _))
  go_wp2_with fail
  go_ret
  exact ⟨rfl, bdrewN Hb0.out _⟩
end Go.Proofs.YtcffeepgfjpcaaaGreat

namespace Go.Proofs.YtcffeepgfjpcaaaGreat
set_option linter.unusedSimpArgs false
set_option linter.unusedVariables false
open Go.RowKit Go.Shelf
attribute [local go_sem] Oper.semAt_some

theorem least_of (p : Nat → Prop) (h : ∃ k, p k) : ∃ k, p k ∧ ∀ j, p j → k ≤ j := by
  obtain ⟨k, hk⟩ := h
  induction k using Nat.strongRecOn with
  | _ k ih =>
    by_cases hx : ∃ j, j < k ∧ p j
    · obtain ⟨j, hj, hp⟩ := hx
      exact ih j hj hp
    · exact ⟨k, hk, fun j hj => Nat.le_of_not_lt fun hlt => hx ⟨j, hlt, hj⟩⟩
theorem wpIn_loop_ghost {F : Fence} {n : Nat} {P : Program} {c : Code} {Q : Exit → Act → World → Prop} {a : Act} {w : World} (I : Nat → Act → World → Prop) (k0 : Nat) (h0 : I k0 a w)
    (round : ∀ k a w, I k a w → c.wpIn F n P (Exit.then (fun a' w' => ∃ k', k' < k ∧ I k' a' w') Q) a w) : (Code.loop c).wpIn F n P Q a w := by
  classical
  obtain ⟨μ, hμ⟩ : ∃ μ : Act → World → Nat, ∀ a w, (∃ k, I k a w) → I (μ a w) a w ∧ ∀ j, I j a w → μ a w ≤ j := by
    refine ⟨fun a w => if h : ∃ k, I k a w then Classical.choose (least_of _ h) else 0, fun a w h => ?_⟩
    simp only [dif_pos h]
    exact Classical.choose_spec (least_of _ h)
  refine wpIn_loop (fun a w => ∃ k, I k a w) μ ⟨k0, h0⟩ fun a w h => ?_
  obtain ⟨h1, h2⟩ := hμ a w h
  refine wpIn_mono (round _ a w h1) ?_
  rintro e a' w' he
  cases e with
  | normal =>
    obtain ⟨k', hk, hI⟩ := he
    exact ⟨⟨k', hI⟩, Nat.lt_of_le_of_lt ((hμ a' w' ⟨k', hI⟩).2 _ hI) hk⟩
  | _ => exact he

def rowU (d : UInt64) : Nat → UInt64
  | 0 => d
  | i + 1 => mixU (rowU d i)
def rowUpto (d : UInt64) (i : Nat) : List UInt64 := (List.range i).map (rowU d)
theorem rowUpto_succ (d : UInt64) (i : Nat) : rowUpto d (i + 1) = rowUpto d i ++ [rowU d i] := by simp [rowUpto, List.range_succ]
theorem rowUpto_len (d : UInt64) (i : Nat) : (rowUpto d i).length = i := by simp [rowUpto]
set_option maxRecDepth 100000 in
set_option maxHeartbeats 800000 in
theorem row_in (n : Nat) (s k t a : UInt64) (w : World) :
    CallsIn Fence.wide n Tryz.prog 129 #[.agg (tapeC s k t a).toArray] w fun e w' => e = .returned (.func (.func 133) #[] #[.pointer (some ⟨w.heap.size, 0, none⟩)]) ∧ w' = w.alloc (.cells (tapeC s k t a).toArray 194) := by
  have hcs : tapeC s k t a = [.int .u64 (s.toNat : Int), .int .u64 (k.toNat : Int), .int .u64 (t.toNat : Int), .int .u64 (a.toNat : Int)] := rfl
  rw [hcs]
  refine callsIn_of_wp Tryz.func129 rfl trivial ?_ rfl
  simp only [Tryz.ntmps129, List.size_toArray, List.length_cons, List.length_nil, Nat.reduceAdd, Nat.reduceSub, Array.replicate_succ, Array.replicate_zero, List.push_toArray, List.append_toArray, List.nil_append, List.cons_append]
  gi_wp2
  go_ret
  exact ⟨rfl, rfl⟩
theorem infoTape4 : (Tryz.prog.info? 194).map (·.size) = some 4 := by kernel_rfl
set_option maxRecDepth 100000 in
set_option maxHeartbeats 3200000 in
theorem row_iter (n : Nat) (hn : 1 ≤ n) (w : World) (Bs : Nat) (s k t a : UInt64) (hb : BoxAt 194 w Bs (tapeC s k t a)) :
    IterX (α := UInt64) Tryz.prog n 133 #[.pointer (some ⟨Bs, 0, none⟩)] (fun x => #[.int .u64 (x.toNat : Int)]) (fun _ _ => True)
      (fun pre x _ => x = rowU (drawU s k t a) pre.length) (fun _ _ => False) (fun pre => ∃ i, pre = rowUpto (drawU s k t a) i) (fun pre => pre.length < 128) w := by
  intro l J Jx W hW hJ hJx hY h0
  have hbW := hb.below hb.lt hW
  have HY := Lib.hid hY
  have HJ := Lib.hid hJ
  clear hY hb hJ hJx
  refine callsIn_of_wp Tryz.func133 rfl trivial ?_ rfl
  simp only [Tryz.ntmps133, List.size_toArray, List.length_cons, List.length_nil, Nat.reduceAdd, Nat.reduceSub, Array.replicate_succ, Array.replicate_zero, List.push_toArray, List.append_toArray, List.nil_append, List.cons_append]
  gi_wp2_with (refine wpListIn_load_agg rfl 194 (.tmp 1) rfl ⟨Bs, 0, none⟩ rfl (tapeC s k t a) hbW.cells Tryz.underlying194 rfl infoTape4 ?_)
  refine ⟨trivial, ?_⟩
  refine (callsIn_wide.2 (draw_any W s k t a)).mono ?_
  rintro _ W1 ⟨rfl, hb1⟩
  have hJ1 : J [] W1 := HJ.out [] W W1 none h0 (gbelow hb1 none) (fun r e => by cases e)
  have hdr : ∀ i, rowU (drawU s k t a) (i + 1) = mixU (rowU (drawU s k t a) i) := fun i => rfl
  have hd0 : rowU (drawU s k t a) 0 = drawU s k t a := rfl
  have hup : ∀ i, rowUpto (drawU s k t a) (i + 1) = rowUpto (drawU s k t a) i ++ [rowU (drawU s k t a) i] := rowUpto_succ _
  have hul : ∀ i, (rowUpto (drawU s k t a) i).length = i := rowUpto_len _
  have hu0 : rowUpto (drawU s k t a) 0 = [] := rfl
  rw [← hd0]
  have hszW := hb1.size
  have Hdr := Lib.hid hdr
  have Hup := Lib.hid hup
  have Hul := Lib.hid hul
  have Hu0 := Lib.hid hu0
  have HJ1 := Lib.hid hJ1
  clear hdr hup hul hu0 hJ1 hd0 hb1 h0 hbW
  generalize rowU (drawU s k t a) = row at *
  obtain ⟨up, hupq⟩ : ∃ up, up = rowUpto (drawU s k t a) := ⟨_, rfl⟩
  rw [← hupq] at Hup Hul Hu0 
  have HUP := Lib.hid hupq
  clear hupq
  generalize tapeC s k t a = tc at *
  gi_wp2
  refine wpIn_loop_ghost (fun kk a' wr => ∃ i : Nat, kk + i = 128 ∧ 0 < kk ∧ J (up i) wr ∧ ∃ u6 u7 u8 u9 u10 : Value, a' = { tmps := #[.func (.yield l) #[] #[], .pointer (some ⟨Bs, 0, none⟩), undef, .int .u64 ((row i).toNat : Int), .agg tc.toArray, .int .u64 ((row 0).toNat : Int), u6, u7, u8, u9, u10], defers := [] }) 128 ?_ ?_
  · refine ⟨0, rfl, by decide, by rw [Hu0.out]; exact HJ1.out, ?_⟩
    (repeat apply Exists.intro)
    rfl
  rintro kk _ wr ⟨i, hki, hk0, hJi, u6, u7, u8, u9, u10, rfl⟩
  have hi : i < 128 := by omega
  obtain ⟨fn, tmps, assign, body, hy, hR⟩ := HY.out (up i) (row i) wr hJi (by rw [Hul.out]) (by rw [Hul.out]; exact hi)
  have hdri := Hdr.out i
  have Hdri := Lib.hid hdri
  have hm := fun W => mix_any W (row i)
  rw [← hdri] at hm
  have Hm := Lib.hid hm
  have hupi := Hup.out i
  rw [← hupi] at hR
  have hlu := Hul.out (i + 1)
  clear hdri hm hupi HJ1 hJi
  obtain ⟨rs, hrs⟩ : ∃ rs, rs = row (i + 1) := ⟨_, rfl⟩
  rw [← hrs] at Hm
  have HRS := Lib.hid hrs
  clear hrs Hdri
  generalize row i = ri at *
  generalize row 0 = r0 at *
  gi_wp2
  refine hR.mono ?_
  clear hR hy
  rintro e W3 (⟨rfl, hJ3, -, hbd⟩ | ⟨rfl, hJx3⟩)
  · rw [hlu] at hbd
    have HJ3 := Lib.hid hJ3
    clear hJ3
    gi_wp2
    refine ⟨trivial, ?_⟩
    refine (callsIn_wide.2 (Hm.out W3)).mono ?_
    rintro _ _ ⟨rfl, rfl⟩
    gi_wp2
    refine ⟨kk - 1, by omega, i + 1, by omega, by omega, HJ3.out, ?_⟩
    rw [← HRS.out]
    (repeat apply Exists.intro)
    rfl
  · gi_wp2
    go_end0
    exact ⟨⟨_, rfl⟩, .inr ⟨_, ⟨i + 1, by rw [HUP.out]⟩, hJx3⟩⟩
end Go.Proofs.YtcffeepgfjpcaaaGreat

namespace Go.Proofs.YtcffeepgfjpcaaaGreat
set_option linter.unusedSimpArgs false
set_option linter.unusedVariables false
open Go.RowKit

/-- what '[]byte(s)' leaves -/
structure SB (w w' : World) (c : Nat) (l : List UInt8) : Prop where
  by_ : By w' w'.heap.size (.slice (some ⟨w.heap.size, 0, none⟩) l.length c) l
  free : ∀ j, j < l.length → w'.frozen? ⟨w.heap.size, j, none⟩ = false
  below : Below w.heap.size w w'
  size : w'.heap.size = w.heap.size + 1
theorem sb_of (w : World) (l : List UInt8) (hl : l.length ≤ 281474976710656) : SB w (Lib.bytesWorld w 5 (bst l)) (grownCap w (bst l).size 0 5) l := by
  have hG := grownCap_ge w (bst l).size 0 5
  have hG63 := grownCap_le_maxLen w (bst l).size 0 5 (by show l.length ≤ _; unfold maxLen; omega)
  refine ⟨⟨_, _, rfl, hG, hG63, ?_⟩, fun j hj => ?_, ?_, Lib.bytesWorld_size _ _ _⟩
  · refine ⟨by simp [b8s], fun hn => ⟨_, rfl, by rw [Lib.bytesWorld_size]; exact Nat.lt_succ_self _, fun j u hu => ?_⟩⟩
    have hj : j < l.length := by have := (List.getElem?_eq_some_iff.1 hu).1; rwa [b8s_length] at this
    rw [b8s_get l j hj] at hu
    have := Lib.bytesWorld_cell w 5 (bst l) j hj
    rw [Addr.add_lit, Nat.zero_add, this, ← hu]
    have e : (bst l).data.toList = l := by simp [bst]
    rw [e, List.getD_eq_getElem?_getD, List.getElem?_eq_getElem hj]
    rfl
  · have h := Lib.bytesWorld_at_new w 5 (bst l)
    have hs : l.length ≤ (Lib.bytesCells w 5 (bst l)).size := by simp [Lib.bytesCells, bst]
    simp only [World.frozen?, h]
    simp
    omega
  · exact ⟨rfl, rfl, rfl, by rw [Lib.bytesWorld_size]; exact Nat.le_succ _, fun k hk => Lib.bytesWorld_at_old w _ _ k hk⟩
theorem wpList_conv_sb {ops : Array Oper} {rest : List Oper} {o : Oper} {a : Act} {w : World} {Q : Exit → Act → World → Prop} (hgd : o.guard = none) (x : Operand) (ho : o.op = .convert 9 40 x) (l : List UInt8) (hx : a.eval x = .string (bst l)) (hl : l.length ≤ 281474976710656)
    (h : ∀ c w', SB w w' c l → wpList Tryz.prog ops Q rest (a.put o.dst (.slice (some ⟨w.heap.size, 0, none⟩) l.length c)) w') : wpList Tryz.prog ops Q (o :: rest) a w :=
  wpList_plain hgd fun K hK => by
    have hr := Lib.run_convert_string_bytes (P := Tryz.prog) w 9 40 5 (bst l) Tryz.underlying9 Tryz.underlying40 Tryz.underlying5
    unfold Oper.wp execOp
    simp only [ho, hx, Sem.run_bind, hr, Result.andThen_ok]
    exact hK _ _ (h _ _ (sb_of w l hl))
/-- a byte of it is written -/
theorem By.set_ {w : World} {B g k n c : Nat} {l : List UInt8} (h : By w B (.slice (some ⟨g, 0, none⟩) n c) l) (hk : k < l.length) (b : UInt8) : By (w.setCell ⟨g, k, none⟩ (.int .u8 (b.toNat : Int))) B (.slice (some ⟨g, 0, none⟩) n c) (l.set k b) := by
  obtain ⟨A, c', e, h1, h2, h3, h4⟩ := h
  injection e with e1 e2 e3
  subst e1; subst e2; subst e3
  obtain ⟨ad, e, hb, hc⟩ := h4 (by omega)
  injection e with e
  subst e
  refine ⟨_, _, by rw [List.length_set], by rw [List.length_set]; exact h1, h2, by simp [b8s], fun hn => ⟨_, rfl, hb, fun j u hu => ?_⟩⟩
  have e : b8s (l.set k b) = (b8s l).set k (b8 b) := by unfold b8s; rw [List.map_set]
  rw [e, List.getElem?_set] at hu
  rw [Addr.add_lit, Nat.zero_add]
  have hck := hc k _ (b8s_get l k hk)
  rw [Addr.add_lit, Nat.zero_add] at hck
  by_cases hkj : k = j
  · subst hkj
    rw [if_pos rfl, if_pos (by rw [b8s_length]; exact hk)] at hu
    rw [World.cell?_setCell_same _ _ _ hck, ← hu]
    rfl
  · rw [if_neg hkj] at hu
    have := hc j u hu
    rw [Addr.add_lit, Nat.zero_add] at this
    rw [World.cell?_setCell_other _ _ _ _ (by intro e; injection e with _ e _; omega), this]
end Go.Proofs.YtcffeepgfjpcaaaGreat

namespace Go.Proofs.YtcffeepgfjpcaaaGreat
set_option linter.unusedSimpArgs false
set_option linter.unusedVariables false
open Go.RowKit

theorem bst_empty (l : List UInt8) : (bst l).toList.isEmpty = decide (l.length = 0) := by
  rw [bst_toList]
  cases l <;> rfl
theorem SB.cell {w w' : World} {c : Nat} {l : List UInt8} (h : SB w w' c l) (k : Nat) (hk : k < l.length) : w'.cell? ⟨w.heap.size, k, none⟩ = some (.int .u8 ((l[k]).toNat : Int)) := by
  obtain ⟨A, c', e, h1, h2, h3, h4⟩ := h.by_
  injection e with e1
  subst e1
  obtain ⟨ad, e, hb, hc⟩ := h4 (by omega)
  injection e with e
  subst e
  have := hc k _ (b8s_get l k hk)
  rw [Addr.add_lit, Nat.zero_add] at this
  exact this
/-- how the program's number goes on: the number, is it over? -/
theorem num_step {most n d v : Nat} {ov : Bool} (hm : most ≤ 18446744073709551615) (hd : d ≤ 9) (h0 : ov = false → n = v ∧ v ≤ most) (h1 : ov = true → most < v) :
    (ov = true ∨ n * 10 / 18446744073709551616 ≠ 0 ∨ (n * 10 % 18446744073709551616 + d) / 18446744073709551616 ≠ 0 ∨ most < (n * 10 % 18446744073709551616 + d) % 18446744073709551616 → most < 10 * v + d) ∧
    (ov = false → n * 10 / 18446744073709551616 = 0 → (n * 10 % 18446744073709551616 + d) / 18446744073709551616 = 0 → ¬ most < (n * 10 % 18446744073709551616 + d) % 18446744073709551616 →
      (n * 10 % 18446744073709551616 + d) % 18446744073709551616 = 10 * v + d ∧ 10 * v + d ≤ most) := by
  cases ov with
  | true =>
    have := h1 rfl
    exact ⟨fun _ => by omega, fun h => by cases h⟩
  | false =>
    obtain ⟨rfl, h2⟩ := h0 rfl
    refine ⟨fun h => ?_, fun _ a b c => ?_⟩
    · rcases h with h | h | h | h
      · cases h
      · omega
      · omega
      · omega
    · omega
set_option maxRecDepth 100000 in
set_option maxHeartbeats 3200000 in
theorem tnum_any (w : World) (l : List UInt8) (hl : l.length ≤ 1048576) (most : Nat) (hm : most ≤ 18446744073709551615) :
    Calls Tryz.prog 102 #[.string (bst l), .int .u64 (most : Int)] w fun e w' => e = .returned (.tuple #[.int .u64 ((numW l most).1 : Int), .int .i64 (numW l most).2]) ∧ Below w.heap.size w w' := by
  have hbz := bst_size l
  have hbe := bst_empty l
  obtain ⟨r1, hr1⟩ : ∃ r1, r1 = (numW l most).1 := ⟨_, rfl⟩
  obtain ⟨r2, hr2⟩ : ∃ r2, r2 = (numW l most).2 := ⟨_, rfl⟩
  rw [← hr1, ← hr2]
  have Hr1 := Lib.hid hr1
  have Hr2 := Lib.hid hr2
  clear hr1 hr2
  have Hbad : Hid (badW l = true → r1 = 0 ∧ r2 = 3) := Lib.hid fun h => by rw [Hr1.out, Hr2.out]; unfold numW; rw [if_pos h]; exact ⟨rfl, rfl⟩
  rcases Nat.eq_zero_or_pos l.length with h0 | h0
  · obtain ⟨rfl, rfl⟩ := Hbad.out (by unfold badW; rw [decide_eq_true h0]; rfl)
    rw [decide_eq_true h0] at hbe
    clear h0
    go_enter Tryz.func102, Tryz.ntmps102
    go_wp2_with fail
    go_ret2
    exact ⟨rfl, Below.refl _ _⟩
  rw [decide_eq_false (by omega)] at hbe
  have hix0 : ∀ W, (Instr.index 9 (.string (bst l)) (.int .i64 0)).run Tryz.prog W = .ok (.int .u8 ((l[0]).toNat : Int)) W := fun W => idx_str W l 0 h0
  by_cases hb : badW l = true
  · obtain ⟨rfl, rfl⟩ := Hbad.out hb
    have hb2 : 1 < l.length ∧ l[0] = 48 := by
      unfold badW at hb
      rw [decide_eq_false (by omega : ¬ l.length = 0)] at hb
      simp [List.getD, h0] at hb
      exact hb
    have hd1 : decide ((1 : Int) < (l.length : Int)) = true := decide_eq_true (by omega)
    have hd2 : (((l[0]).toNat : Int) == 48) = true := by rw [hb2.2]; rfl
    clear hb hb2
    generalize (l[0]).toNat = c0 at *
    clear h0
    go_enter Tryz.func102, Tryz.ntmps102
    go_wp2_with fail
    go_ret2
    exact ⟨rfl, Below.refl _ _⟩
  have hb' : badW l = false := by simpa using hb
  have Hb := Lib.hid hb'
  have Hbad2 : Hid (allDig l = false → r1 = 0 ∧ r2 = 3) := Lib.hid fun h => by rw [Hr1.out, Hr2.out]; unfold numW; rw [if_neg hb, if_pos h]; exact ⟨rfl, rfl⟩
  have hcs : (decide ((1 : Int) < (l.length : Int)) = true ∧ (((l[0]).toNat : Int) == 48) = false) ∨ (decide ((1 : Int) < (l.length : Int)) = false ∧ True) := by
    by_cases h3 : 1 < l.length
    · refine .inl ⟨decide_eq_true (by omega), beq_eq_false_iff_ne.2 fun e => ?_⟩
      have h4 : l[0] = 48 := UInt8.toNat_inj.1 (by have : ((l[0]).toNat : Int) = 48 := e; have h10 : (48 : UInt8).toNat = 48 := rfl; omega)
      have h5 : badW l = true := by unfold badW; rw [decide_eq_true h3]; simp [List.getD, h0, h4]
      rw [h5] at hb'
      cases hb'
    · exact .inr ⟨decide_eq_false (by omega), trivial⟩
  generalize (l[0]).toNat = c0 at *
  clear hb hb' Hbad
  rcases hcs with ⟨hd1, hd2⟩ | ⟨hd1, hd2⟩
  all_goals
    go_enter Tryz.func102, Tryz.ntmps102
    go_wp2_with (
      refine wpList_conv_sb rfl (.tmp 26) rfl l rfl (by omega) ?_
      intro c w1 hsb
      have Hce := Lib.hid (fun k hk => hsb.cell k hk)
      have Hbl := Lib.hid hsb.below
      clear hsb)
    go_loopw [6, 7, 29] (fun vn vo i wr => ∃ (k n : Nat) (ov : Bool), k ≤ l.length ∧ i = .int .i64 (k : Int) ∧ vn = .int .u64 (n : Int) ∧ vo = .bool ov ∧ n < 18446744073709551616 ∧ allDig (l.take k) = true ∧ (ov = false → n = valD (l.take k) ∧ valD (l.take k) ≤ most) ∧ (ov = true → most < valD (l.take k)) ∧ wr = w1) (fun _ _ i _ => l.length - (intOf i).toNat)
    case atStart => exact ⟨0, 0, false, Nat.zero_le _, rfl, rfl, rfl, by omega, rfl, fun _ => ⟨rfl, Nat.zero_le _⟩, (fun h => by cases h), rfl⟩
    case round =>
      obtain ⟨k, n, ov, hk, rfl, rfl, rfl, hn, hal, hv0, hv1, hww⟩ := hrel
      obtain rfl := hww.symm
      by_cases hlt : k < l.length
      · have hx := Hce.out k hlt
        have htk := allDig_take hlt
        have hno := allDig_no hlt
        have hvs : valD (l.take (k + 1)) = 10 * valD (l.take k) + dig l[k] := by rw [List.take_succ_eq_append_getElem hlt, valD_snoc]
        obtain ⟨ch, hch⟩ : ∃ ch, ch = l[k] := ⟨_, rfl⟩
        rw [← hch] at hx htk hno hvs
        have hdk : decide (k < l.length) = true := decide_eq_true (by omega)
        have hdg : isDig ch = (decide (48 ≤ ch.toNat) && decide (ch.toNat ≤ 57)) := rfl
        by_cases h1 : ch.toNat < 48
        · have hd3 : decide ((ch.toNat : Int) < 48) = true := decide_eq_true (by omega)
          have hnd : isDig ch = false := by rw [hdg, decide_eq_false (by omega)]; rfl
          obtain ⟨rfl, rfl⟩ := Hbad2.out (hno hnd)
          clear hdg h1 hnd hch htk hno hvs hal hv0 hv1
          go_wp2_with fail
          go_ret2
          exact ⟨rfl, Hbl.out⟩
        have hd3 : decide ((ch.toNat : Int) < 48) = false := decide_eq_false (by omega)
        by_cases h2 : 57 < ch.toNat
        · have hd4 : decide ((57 : Int) < (ch.toNat : Int)) = true := decide_eq_true (by omega)
          have hnd : isDig ch = false := by rw [hdg, decide_eq_false (by omega : ¬ ch.toNat ≤ 57), Bool.and_false]
          obtain ⟨rfl, rfl⟩ := Hbad2.out (hno hnd)
          clear hdg h1 h2 hnd hch htk hno hvs hal hv0 hv1
          go_wp2_with fail
          go_ret2
          exact ⟨rfl, Hbl.out⟩
        have hd4 : decide ((57 : Int) < (ch.toNat : Int)) = false := decide_eq_false (by omega)
        have hnd : isDig ch = true := by rw [hdg, decide_eq_true (by omega), decide_eq_true (by omega)]; rfl
        have hd9 : dig ch ≤ 9 := by unfold dig; omega
        have hwr : IntKind.u8.wrap ((ch.toNat : Int) - 48) = ((dig ch : Nat) : Int) := by rw [IntKind.wrap_u8']; unfold dig; omega
        have hwr2 : IntKind.u64.wrap ((dig ch : Nat) : Int) = ((dig ch : Nat) : Int) := by rw [wrap_u64]; omega
        have hal2 : allDig (l.take (k + 1)) = true := by rw [htk, hal, hnd]; rfl
        have hst := num_step hm hd9 hv0 hv1
        rw [← hvs] at hst
        have hmul := fun W => bits_Mul64 n 10 hn (by omega) W
        obtain ⟨hi, hhi⟩ : ∃ hi, hi = n * 10 / 18446744073709551616 := ⟨_, rfl⟩
        obtain ⟨lo, hlo⟩ : ∃ lo, lo = n * 10 % 18446744073709551616 := ⟨_, rfl⟩
        obtain ⟨dd, hdd⟩ : ∃ dd, dd = dig ch := ⟨_, rfl⟩
        rw [← hhi, ← hlo, ← hdd] at hst
        simp only [← hhi, ← hlo] at hmul
        rw [← hdd] at hwr hwr2 hd9
        have hadd := fun W => add64_any lo dd W
        obtain ⟨su, hsu⟩ : ∃ su, su = (lo + dd) % 18446744073709551616 := ⟨_, rfl⟩
        obtain ⟨ca, hca⟩ : ∃ ca, ca = (lo + dd) / 18446744073709551616 := ⟨_, rfl⟩
        rw [← hsu, ← hca] at hst
        simp only [← hsu, ← hca] at hadd
        have Hadd := Lib.hid hadd
        have hsl : su < 18446744073709551616 := by rw [hsu]; omega
        have Hst := Lib.hid hst
        have Hal2 := Lib.hid hal2
        have Hmul := Lib.hid hmul
        have Hsl := Lib.hid hsl
        simp only [Int.cast_ofNat_Int] at Hmul
        clear hadd hdg h1 h2 hnd hch htk hno hvs hal hv0 hv1 hal2 hst hmul hhi hlo hdd hsu hca hd9 hsl hn
        have fin : ∀ (ob : Bool), (ob = false → ov = false ∧ hi = 0 ∧ ca = 0 ∧ ¬ most < su) → (ob = true → ov = true ∨ hi ≠ 0 ∨ ca ≠ 0 ∨ most < su) →
            (ob = false → su = valD (l.take (k + 1)) ∧ valD (l.take (k + 1)) ≤ most) ∧ (ob = true → most < valD (l.take (k + 1))) := fun ob h0 h1 =>
          ⟨fun h => by obtain ⟨a, b, c, d⟩ := h0 h; exact ⟨(Hst.out.2 a b c d).1, (Hst.out.2 a b c d).2⟩, fun h => Hst.out.1 (h1 h)⟩
        have Fin := Lib.hid fin
        clear fin Hst
        obtain ⟨b1, hb1⟩ : ∃ b1, ((hi : Int) != 0) = b1 := ⟨_, rfl⟩
        obtain ⟨b2, hb2⟩ : ∃ b2, ((ca : Int) != 0) = b2 := ⟨_, rfl⟩
        obtain ⟨b3, hb3⟩ : ∃ b3, decide (most < su) = b3 := ⟨_, rfl⟩
        have Hf0 : Hid (ov = false → b1 = false → b2 = false → b3 = false → ov = false ∧ hi = 0 ∧ ca = 0 ∧ ¬ most < su) := Lib.hid fun a h1 h2 h3 => by
          subst h1; subst h2; subst h3
          exact ⟨a, by have := bne_eq_false_iff_eq.1 hb1; omega, by have := bne_eq_false_iff_eq.1 hb2; omega, of_decide_eq_false hb3⟩
        have Hf1 : Hid (ov = true ∨ b1 = true ∨ b2 = true ∨ b3 = true → ov = true ∨ hi ≠ 0 ∨ ca ≠ 0 ∨ most < su) := Lib.hid fun h => by
          rcases h with h | h | h | h
          · exact .inl h
          · subst h; exact .inr (.inl (by have := bne_iff_ne.1 hb1; omega))
          · subst h; exact .inr (.inr (.inl (by have := bne_iff_ne.1 hb2; omega)))
          · subst h; exact .inr (.inr (.inr (of_decide_eq_true hb3)))
        cases ov <;> cases b1 <;> cases b2 <;> cases b3
        all_goals
          go_wp2_with fail
          refine (Hmul.out _).mono ?_
          rintro _ _ ⟨rfl, rfl⟩
          go_wp2_with fail
          (try simp only [Hadd.out])
          go_wp2_with fail
          go_roundw
          case rel =>
            refine ⟨k + 1, su, _, by omega, by go_num, rfl, rfl, Hsl.out, Hal2.out, ?_, ?_, by first | rfl | trivial⟩
            · exact (Fin.out _ (fun h => by first | exact Hf0.out rfl rfl rfl rfl | exact Hf0.out trivial trivial trivial trivial | (simp at h; done)) (fun h => by first | (cases h; done) | exact Hf1.out (by simp))).1
            · exact (Fin.out _ (fun h => by first | exact Hf0.out rfl rfl rfl rfl | exact Hf0.out trivial trivial trivial trivial | (simp at h; done)) (fun h => by first | (cases h; done) | exact Hf1.out (by simp))).2
          case measure => simp [intOf]; omega
      · have e : k = l.length := by omega
        rw [e, List.take_length] at hal hv0 hv1
        have hdk : decide (k < l.length) = false := decide_eq_false (by omega)
        have hres : r1 = (if ov = true then 0 else n) ∧ r2 = (if ov = true then 9 else 0) := by
          rw [Hr1.out, Hr2.out]
          unfold numW
          rw [if_neg (by rw [Hb.out]; decide), if_neg (by rw [hal]; decide)]
          cases ov with
          | true => rw [if_pos (hv1 rfl)]; exact ⟨rfl, rfl⟩
          | false => rw [if_neg (by have := (hv0 rfl).2; omega), (hv0 rfl).1]; exact ⟨rfl, rfl⟩
        obtain ⟨rfl, rfl⟩ := hres
        clear hal hv0 hv1 e hlt
        cases ov
        · go_wp2_with fail
          go_ret2
          exact ⟨rfl, Hbl.out⟩
        · go_wp2_with fail
          go_ret2
          exact ⟨rfl, Hbl.out⟩
end Go.Proofs.YtcffeepgfjpcaaaGreat

namespace Go.Proofs.YtcffeepgfjpcaaaGreat
set_option linter.unusedSimpArgs false
set_option linter.unusedVariables false
open Go.RowKit

theorem bst_extract (l : List UInt8) (i j : Nat) : (bst l).extract i j = bst ((l.take j).drop i) := by
  apply ByteArray.ext
  simp only [ByteArray.data_extract, bst, List.extract_toArray, List.extract_eq_take_drop]
  rw [List.drop_take]
theorem bst_extract1 (l : List UInt8) (h : 0 < l.length) : (bst l).extract 0 1 = bst [l[0]] := by
  rw [bst_extract]
  cases l with
  | nil => simp at h
  | cons c t => rfl
set_option maxRecDepth 100000 in
theorem shp_any (w : World) (l : List UInt8) (h0 : 0 < l.length) (hl : l.length ≤ 1048576) : Calls Tryz.prog 101 #[.string (bst l), .string ⟨#[35]⟩] w fun e w' => e = .returned (.bool (decide (l.getD 0 0 = 35))) ∧ w' = w := by
  have hbz := bst_size l
  have hz1 : (⟨#[35]⟩ : ByteArray).size = 1 := rfl
  have hx : (((bst l).extract 0 1).toList == [35]) = decide (l.getD 0 0 = 35) := by
    rw [bst_extract1 l h0, bst_toList]
    have : l.getD 0 0 = l[0] := by simp [List.getD, h0]
    rw [this]
    by_cases h : l[0] = 35
    · rw [h]; rfl
    · rw [decide_eq_false h]
      exact beq_eq_false_iff_ne.2 fun e => h (by injection e)
  generalize decide (l.getD 0 0 = 35) = r at *
  go_enter Tryz.func101, Tryz.ntmps101
  go_wp2_with fail
  go_ret
  exact ⟨by simp [hx], rfl⟩
set_option maxRecDepth 100000 in
theorem hp_any (w : World) (l : List UInt8) (h0 : 0 < l.length) (hl : l.length ≤ 1048576) : Calls Tryz.prog 70 #[.string (bst l), .string ⟨#[35]⟩] w fun e w' => e = .returned (.bool (decide (l.getD 0 0 = 35))) ∧ w' = w := by
  have Hc := Lib.hid (shp_any w l h0 hl)
  generalize decide (l.getD 0 0 = 35) = r at *
  go_enter Tryz.func70, Tryz.ntmps70
  go_wp2_with fail
  refine Hc.out.mono ?_
  rintro _ _ ⟨rfl, rfl⟩
  go_wp2_with fail
  go_ret
  exact ⟨rfl, rfl⟩
/-- the greatest numbers of a line's words -/
def limL : List Nat := [4294967295, 4294967295, 2147483647]
def u64c (l : List Nat) : List Value := l.map fun n => .int .u64 ((n : Nat) : Int)
theorem infoLim : (Tryz.prog.info? 142).map (·.size) = some 3 := by kernel_rfl
set_option maxRecDepth 100000 in
theorem limits_any (w : World) : Calls Tryz.prog 103 #[] w fun e w' => e = .returned (.agg (u64c limL).toArray) ∧ Below w.heap.size w w' := by
  go_enter Tryz.func103, Tryz.ntmps103
  go_wp2_with fail
  refine bodyPost_ret (results_c rfl _ _ w.heap.size (u64c limL) rfl (BoxAt.new_ 142 w (u64c limL)).cells Tryz.underlying142 rfl infoLim) rfl ?_
  exact ⟨rfl, balloc _ _⟩
def num0c : List Value := [.int .u64 0, .int .u64 0, .int .u64 0]
def numsL : List (List UInt8) → Nat → List Nat → List Nat × Int
  | [], _, s => (s, 0)
  | x :: t, i, s =>
    if (numW x (limL.getD i 0)).2 = 0 ∧ i = 2 ∧ (numW x (limL.getD i 0)).1 = 0 then (s, 9)
    else if (numW x (limL.getD i 0)).2 ≠ 0 then (s, (numW x (limL.getD i 0)).2)
    else numsL t (i + 1) (s.set i (numW x (limL.getD i 0)).1)
set_option maxRecDepth 100000 in
theorem lim_at (k : Nat) (hk : k < 3) (W : World) : (Instr.index 142 (.agg (u64c limL).toArray) (.int .i64 (k : Int))).run Tryz.prog W = .ok (.int .u64 ((limL.getD k 0 : Nat) : Int)) W := by
  rcases (by omega : k = 0 ∨ k = 1 ∨ k = 2) with rfl | rfl | rfl <;> rfl
set_option maxRecDepth 100000 in
set_option maxHeartbeats 3200000 in
theorem nums_any (w : World) (v : Value) (ws : List (List UInt8)) (hv : ByS w w.heap.size v ws) (hn : ws.length ≤ 3) (hx : ∀ x ∈ ws, x.length ≤ 1048576) :
    Calls Tryz.prog 71 #[v] w fun e w' => e = .returned (.tuple #[.agg (u64c (numsL ws 0 [0, 0, 1]).1).toArray, .int .i64 (numsL ws 0 [0, 0, 1]).2]) ∧ Below w.heap.size w w' := by
  obtain ⟨A, c, rfl, _⟩ := id hv
  obtain ⟨R, hR⟩ : ∃ R, R = numsL ws 0 [0, 0, 1] := ⟨_, rfl⟩
  rw [← hR]
  obtain ⟨w1, hw1⟩ : ∃ w1, w1 = (w.alloc (.cells num0c.toArray 142)).alloc (.cells (u64c [0, 0, 1]).toArray 142) := ⟨_, rfl⟩
  have hx0 : BoxAt 142 w1 w.heap.size num0c := by rw [hw1]; exact (BoxAt.new_ _ _ _).alloc _
  have hx1 : BoxAt 142 w1 (w.heap.size + 1) (u64c [0, 0, 1]) := by
    rw [hw1]
    have := BoxAt.new_ 142 (w.alloc (.cells num0c.toArray 142)) (u64c [0, 0, 1])
    rwa [World.size_alloc] at this
  have hb1 : Below w.heap.size w w1 := by rw [hw1]; exact bstep (balloc _ _) (balloc _ _)
  have Hw1 := Lib.hid hw1
  have HR := Lib.hid hR
  have HV := Lib.hid hv
  have HX := Lib.hid hx
  have HX0 := Lib.hid hx0
  have HX1 := Lib.hid hx1
  have HB1 := Lib.hid hb1
  clear hw1 hR hv hx hx0 hx1 hb1
  go_enter Tryz.func71, Tryz.ntmps71
  go_wp2_with fail
  rw [show (w.alloc (.cells #[.int .u64 0, .int .u64 0, .int .u64 0] 142)).alloc (.cells #[.int .u64 0, .int .u64 0, .int .u64 1] 142) = w1 from Hw1.out.symm]
  go_loopw [12] (fun i wr => ∃ (k : Nat) (s : List Nat), k ≤ ws.length ∧ i = .int .i64 (k : Int) ∧ s.length = 3 ∧ numsL (ws.drop k) k s = R ∧ BoxAt 142 wr w.heap.size num0c ∧ BoxAt 142 wr (w.heap.size + 1) (u64c s) ∧ Below w.heap.size w wr) (fun i _ => ws.length - (intOf i).toNat)
  case atStart => exact ⟨0, [0, 0, 1], Nat.zero_le _, rfl, rfl, HR.out.symm, HX0.out, HX1.out, HB1.out⟩
  case round =>
    obtain ⟨k, s, hk, rfl, hs3, hre, hx0, hx1, hb⟩ := hrel
    have Hs3 := Lib.hid hs3
    have Hre := Lib.hid hre
    have X0 := Lib.hid hx0
    have X1 := Lib.hid hx1
    have HB := Lib.hid hb
    clear hs3 hre hx0 hx1 hb HX0 HX1 HB1 HR Hw1
    have Hone : Hid (∀ u ∈ u64c s, u.oneCell' = true) := Lib.hid fun u hu => by
      obtain ⟨n, _, rfl⟩ := List.mem_map.1 hu
      rfl
    have Hul : Hid ((u64c s).length = 3) := Lib.hid (by unfold u64c; rw [List.length_map]; exact Hs3.out)
    by_cases hlt : k < ws.length
    · have hdk : decide (k < ws.length) = true := decide_eq_true hlt
      obtain ⟨ad, rfl, hab, hcell⟩ := (HV.out.below HB.out).cells k hlt
      have hdr : ws.drop k = ws[k] :: ws.drop (k + 1) := (List.drop_eq_getElem_cons hlt)
      have hre := Hre.out
      rw [hdr] at hre
      unfold numsL at hre
      have hxl := HX.out _ (List.getElem_mem hlt)
      obtain ⟨x, hx⟩ : ∃ x, x = ws[k] := ⟨_, rfl⟩
      rw [← hx] at hre hcell hxl
      have hlm := fun W => lim_at k (by omega) W
      have hlb : limL.getD k 0 ≤ 18446744073709551615 := by rcases (by omega : k = 0 ∨ k = 1 ∨ k = 2) with rfl | rfl | rfl <;> decide
      have hli := limits_any wr
      obtain ⟨lm, hlmx⟩ : ∃ lm, lm = limL.getD k 0 := ⟨_, rfl⟩
      rw [← hlmx] at hre hlb
      simp only [← hlmx] at hlm
      have htn := fun W => tnum_any W x hxl lm hlb
      obtain ⟨n, hnx⟩ : ∃ n, n = (numW x lm).1 := ⟨_, rfl⟩
      obtain ⟨er, her⟩ : ∃ er, er = (numW x lm).2 := ⟨_, rfl⟩
      rw [← hnx, ← her] at hre
      simp only [← hnx, ← her] at htn
      have Hre' := Lib.hid hre
      have Htn := Lib.hid htn
      have Hli := Lib.hid hli
      clear hx hdr hre Hre hnx her htn hli hlmx hlb hxl
      obtain ⟨lc, hlc⟩ : ∃ lc, lc = (u64c limL).toArray := ⟨_, rfl⟩
      rw [← hlc] at Hli
      simp only [← hlc] at hlm
      clear hlc
      obtain ⟨b1, hb1⟩ : ∃ b1, (er == 0) = b1 := ⟨_, rfl⟩
      obtain ⟨b2, hb2⟩ : ∃ b2, ((k : Int) == 2) = b2 := ⟨_, rfl⟩
      obtain ⟨b3, hb3⟩ : ∃ b3, ((n : Int) == 0) = b3 := ⟨_, rfl⟩
      have hb4 : (er != 0) = !b1 := by rw [← hb1]; rfl
      have Hb9 : Hid (b1 = true → b2 = true → b3 = true → R = (s, 9)) := Lib.hid fun h1 h2 h3 => by
        subst h1; subst h2; subst h3
        rw [← Hre'.out, if_pos ⟨beq_iff_eq.1 hb1, by have := beq_iff_eq.1 hb2; omega, by have := beq_iff_eq.1 hb3; omega⟩]
      have Hbe : Hid (b1 = false → R = (s, er)) := Lib.hid fun h1 => by
        subst h1
        have := beq_eq_false_iff_ne.1 hb1
        rw [← Hre'.out, if_neg (fun h => this h.1), if_pos this]
      have Hbn : Hid (b1 = true → (b2 = false ∨ b3 = false) → numsL (ws.drop (k + 1)) (k + 1) (s.set k n) = R) := Lib.hid fun h1 h2 => by
        subst h1
        rw [← Hre'.out, if_neg, if_neg (by simp [beq_iff_eq.1 hb1])]
        rintro ⟨_, h3, h4⟩
        rcases h2 with h2 | h2
        · subst h2; exact beq_eq_false_iff_ne.1 hb2 (by omega)
        · subst h2; exact beq_eq_false_iff_ne.1 hb3 (by omega)
      clear Hre'
      go_wp2_with fail
      refine Hli.out.mono ?_
      rintro _ w2 ⟨rfl, hw2⟩
      have hz2 := hw2.size
      have X0a := X0.out.bl_ hw2
      have X1a := X1.out.bl_ hw2
      have hB2 := HB.out.trans (hw2.mono HB.out.size)
      go_wp2_with (simp only [hlm])
      refine (Htn.out w2).mono ?_
      rintro _ w3 ⟨rfl, hw3⟩
      have X0b := X0a.bl_ hw3
      have X1b := X1a.bl_ hw3
      have hB3 := hB2.trans (hw3.mono hB2.size)
      have hcx : w3.cell? { block := w.heap.size + 1, off := k } = some (.int .u64 ((s.getD k 0 : Nat) : Int)) := X1b.cell k _ (by
        unfold u64c
        rw [List.getElem?_map, List.getElem?_eq_getElem (by rw [Hs3.out]; omega)]
        simp [List.getD, List.getElem?_eq_getElem (show k < s.length by rw [Hs3.out]; omega)])
      have hfz := X1b.frozen k
      have HX0b := Lib.hid X0b
      have HX1b := Lib.hid X1b
      have HB3 := Lib.hid hB3
      have Hcx := Lib.hid hcx
      clear hw2 X0a X1a hB2 hw3 X0b X1b hB3 Htn Hli hcell X0 X1 HB hz2 hlm hcx
      have hk3 : k < 3 := by omega
      cases b1 with
      | false =>
        have hR := Hbe.out rfl
        have HR := Lib.hid hR
        clear hR Hb9 Hbe Hbn
        go_wp2_with (first
          | ((with_reducible refine wpList_load_agg ?_ 142 (.tmp 4) ?_ ⟨w.heap.size + 1, 0, none⟩ ?_ (u64c s) HX1b.out.cells Tryz.underlying142 ?_ ?_ ?_); exact rfl; exact rfl; exact rfl; exact rfl; exact (infoLim.trans (by rw [Hul.out])))
          | ((with_reducible refine wpList_store_boxX ?_ 142 142 (.tmp 2) (.tmp 37) ?_ w.heap.size num0c (u64c s) ?_ ?_ HX0b.out ?_ Hone.out ?_ ?_); exact rfl; exact rfl; exact rfl; exact rfl; exact Hul.out; exact (infoLim.trans (by rw [Hul.out])); intro w9 hx9 hc9 hz9))
        refine bodyPost_ret (results_ctX rfl _ _ w.heap.size (u64c s) rfl hx9.cells Tryz.underlying142 rfl (infoLim.trans (by rw [Hul.out]))) rfl ?_
        exact ⟨by rw [HR.out]; rfl, HB3.out.trans (hc9.below HB3.out.size fun q hq => by omega)⟩
      | true =>
        have fin : ∀ (w4 : World), w4 = w3.setCell ⟨w.heap.size + 1, k, none⟩ (.int .u64 (n : Int)) → BoxAt 142 w4 w.heap.size num0c ∧ BoxAt 142 w4 (w.heap.size + 1) (u64c (s.set k n)) ∧ Below w.heap.size w w4 := fun w4 e => by
          subst e
          refine ⟨HX0b.out.other _ _ (by simp), ?_, HB3.out.setCell (by simp) _⟩
          have := HX1b.out.put k (.int .u64 (n : Int))
          rwa [show (u64c s).set k (.int .u64 (n : Int)) = u64c (s.set k n) by unfold u64c; rw [List.map_set]] at this
        have Fin := Lib.hid fin
        clear fin Hbe
        have hcx := Hcx.out
        cases b2 with
        | false =>
          have Hbn' := Lib.hid (Hbn.out rfl (.inl rfl))
          clear Hbn Hb9
          go_wp2_with fail
          go_roundw
          case rel =>
            obtain ⟨f1, f2, f3⟩ := Fin.out _ rfl
            exact ⟨k + 1, s.set k n, by omega, by go_num, by rw [List.length_set]; exact Hs3.out, Hbn'.out, f1, f2, f3⟩
          case measure => simp [intOf]; omega
        | true =>
          cases b3 with
          | false =>
            have Hbn' := Lib.hid (Hbn.out rfl (.inr rfl))
            clear Hbn Hb9
            go_wp2_with fail
            go_roundw
            case rel =>
              obtain ⟨f1, f2, f3⟩ := Fin.out _ rfl
              exact ⟨k + 1, s.set k n, by omega, by go_num, by rw [List.length_set]; exact Hs3.out, Hbn'.out, f1, f2, f3⟩
            case measure => simp [intOf]; omega
          | true =>
            have HR := Lib.hid (Hb9.out rfl rfl rfl)
            clear Hbn Hb9 Fin
            go_wp2_with (first
              | ((with_reducible refine wpList_load_agg ?_ 142 (.tmp 4) ?_ ⟨w.heap.size + 1, 0, none⟩ ?_ (u64c s) HX1b.out.cells Tryz.underlying142 ?_ ?_ ?_); exact rfl; exact rfl; exact rfl; exact rfl; exact (infoLim.trans (by rw [Hul.out])))
              | ((with_reducible refine wpList_store_boxX ?_ 142 142 (.tmp 2) (.tmp 37) ?_ w.heap.size num0c (u64c s) ?_ ?_ HX0b.out ?_ Hone.out ?_ ?_); exact rfl; exact rfl; exact rfl; exact rfl; exact Hul.out; exact (infoLim.trans (by rw [Hul.out])); intro w9 hx9 hc9 hz9))
            refine bodyPost_ret (results_ctX rfl _ _ w.heap.size (u64c s) rfl hx9.cells Tryz.underlying142 rfl (infoLim.trans (by rw [Hul.out]))) rfl ?_
            exact ⟨by rw [HR.out]; rfl, HB3.out.trans (hc9.below HB3.out.size fun q hq => by omega)⟩
    · have e : k = ws.length := by omega
      have hdk : decide (k < ws.length) = false := decide_eq_false hlt
      have hre := Hre.out
      rw [e, List.drop_length] at hre
      unfold numsL at hre
      have HR : Hid (R = (s, 0)) := Lib.hid hre.symm
      clear hre Hre e hlt
      go_wp2_with (first
        | ((with_reducible refine wpList_load_agg ?_ 142 (.tmp 4) ?_ ⟨w.heap.size + 1, 0, none⟩ ?_ (u64c s) X1.out.cells Tryz.underlying142 ?_ ?_ ?_); exact rfl; exact rfl; exact rfl; exact rfl; exact (infoLim.trans (by rw [Hul.out])))
        | ((with_reducible refine wpList_store_boxX ?_ 142 142 (.tmp 2) (.tmp 43) ?_ w.heap.size num0c (u64c s) ?_ ?_ X0.out ?_ Hone.out ?_ ?_); exact rfl; exact rfl; exact rfl; exact rfl; exact Hul.out; exact (infoLim.trans (by rw [Hul.out])); intro w9 hx9 hc9 hz9))
      refine bodyPost_ret (results_ctX rfl _ _ w.heap.size (u64c s) rfl hx9.cells Tryz.underlying142 rfl (infoLim.trans (by rw [Hul.out]))) rfl ?_
      exact ⟨by rw [HR.out]; rfl, HB.out.trans (hc9.below HB.out.size fun q hq => by omega)⟩
end Go.Proofs.YtcffeepgfjpcaaaGreat

namespace Go.Proofs.YtcffeepgfjpcaaaGreat
set_option linter.unusedSimpArgs false
set_option linter.unusedVariables false
open Go.RowKit Go.Shelf

def KrB (Bs : Nat) (X Y : World) : Prop := Y.heap[Bs]? = X.heap[Bs]?
theorem chg_setCell (w : World) (g j : Nat) (u : Value) : Chg (fun k => k = g) w (w.setCell ⟨g, j, none⟩ u) :=
  ⟨rfl, rfl, rfl, by simp, fun k _ hk => Below.heap_setCell w ⟨g, j, none⟩ u k hk⟩
set_option maxRecDepth 100000 in
set_option maxHeartbeats 3200000 in
theorem eachw_iter (n : Nat) (hn : 1 ≤ n) (w : World) (Bs : Nat) (l0 : List UInt8) (hl0 : l0.length ≤ 1048576) (hb : BoxAt 9 w Bs [.string (bst l0)]) :
    IterB (α := List UInt8) Tryz.prog n 117 #[.pointer (some ⟨Bs, 0, none⟩)] (fun x => #[.string (bst x)]) Bs (KrB Bs)
      (fun pre x _ => x.length ≤ 1048576 ∧ 0 < x.length ∧ pre.length ≤ l0.length) (fun xs _ => xs = wordsP l0) (fun pre => True) (fun _ => True) w := by
  intro l J Jx W hW hJ hJx hY h0
  have hbW : BoxAt 9 W Bs [.string (bst l0)] := hb.bl_ hW
  have HbW := Lib.hid hbW
  have HY := Lib.hid hY
  have HJa := Lib.hid hJ
  have H0 := Lib.hid h0
  clear hY hb hJ hJx hbW h0
  refine callsIn_of_wp Tryz.func117 rfl trivial ?_ rfl
  simp only [Tryz.ntmps117, List.size_toArray, List.length_cons, List.length_nil, Nat.reduceAdd, Nat.reduceSub, Array.replicate_succ, Array.replicate_zero, List.push_toArray, List.append_toArray, List.nil_append, List.cons_append]
  gi_wp2
  refine wpIn_loop_ghost (fun kk a' wr => ∃ (pre : List (List UInt8)) (rest : List UInt8), kk = rest.length ∧ rest.length + pre.length ≤ l0.length ∧ wordsP l0 = pre ++ wordsP rest ∧ BoxAt 9 wr Bs [.string (bst rest)] ∧ J pre wr ∧ ∃ u2 u3 u4 u5 u6 u7 u8 u9 u10 u11 u12 u13 u14 u15 u16 u17 u18 u19 u20 u21 u22 u23 u24 u25 u26 u27 u28 u29 u30 u31 u32 u33 u34 u35 u36 u37 u38 u39 u40 u41 u42 u43 : Value, a' = { tmps := #[.func (.yield l) #[] #[], .pointer (some ⟨Bs, 0, none⟩), u2, u3, u4, u5, u6, u7, u8, u9, u10, u11, u12, u13, u14, u15, u16, u17, u18, u19, u20, u21, u22, u23, u24, u25, u26, u27, u28, u29, u30, u31, u32, u33, u34, u35, u36, u37, u38, u39, u40, u41, u42, u43], defers := [] }) l0.length ?_ ?_
  · refine ⟨[], l0, rfl, by simp, rfl, HbW.out, H0.out, ?_⟩
    (repeat apply Exists.intro)
    rfl
  rintro kk _ wr ⟨pre, rest, rfl, hlen, hws, hbx, hJp, u2, u3, u4, u5, u6, u7, u8, u9, u10, u11, u12, u13, u14, u15, u16, u17, u18, u19, u20, u21, u22, u23, u24, u25, u26, u27, u28, u29, u30, u31, u32, u33, u34, u35, u36, u37, u38, u39, u40, u41, u42, u43, rfl⟩
  have hbz := bst_size rest
  have hbe := bst_empty rest
  have hbc := hbx.cell 0 _ rfl
  have Hbx := Lib.hid hbx
  have Hws := Lib.hid hws
  have HJp := Lib.hid hJp
  have Hlen := Lib.hid hlen
  clear hbx hws hJp HbW H0 hlen
  rcases Nat.eq_zero_or_pos rest.length with hr0 | hr0
  · rw [decide_eq_true hr0] at hbe
    have hfin : pre = wordsP l0 := by
      rw [Hws.out, List.eq_nil_of_length_eq_zero hr0, show wordsP [] = [] from rfl, List.append_nil]
    have Hfin := Lib.hid hfin
    clear hr0 hfin
    gi_wp2
    go_end0
    exact ⟨⟨_, rfl⟩, .inl ⟨_, Hfin.out, HJp.out⟩⟩
  · rw [decide_eq_false (by omega)] at hbe
    have hx3 := fun W' => strings_IndexByte (bst rest) 32 W'
    have hx9 := fun W' => strings_IndexByte (bst rest) 9 W'
    have hde : (bst rest).data.toList = rest := by simp [bst]
    rw [hde] at hx3 hx9
    rw [show (Int.toNat 32).toUInt8 = (32 : UInt8) from rfl] at hx3
    rw [show (Int.toNat 9).toUInt8 = (9 : UInt8) from rfl] at hx9
    have hend := endW_cases rest hr0
    unfold endW at hend
    obtain ⟨i3, hi3⟩ : ∃ i3, i3 = Lib.indexByte rest 32 := ⟨_, rfl⟩
    obtain ⟨i9, hi9⟩ : ∃ i9, i9 = Lib.indexByte rest 9 := ⟨_, rfl⟩
    rw [← hi3, ← hi9] at hend
    rw [← hi3] at hx3
    rw [← hi9] at hx9
    have Hend := Lib.hid hend
    have Hx3 := Lib.hid hx3
    have Hx9 := Lib.hid hx9
    have Hr0 := Lib.hid hr0
    clear hi3 hi9 hend hx3 hx9 hde
    obtain ⟨b1, hb1⟩ : ∃ b1, decide (0 ≤ i9) = b1 := ⟨_, rfl⟩
    obtain ⟨b2, hb2⟩ : ∃ b2, decide (i3 < 0) = b2 := ⟨_, rfl⟩
    obtain ⟨b3, hb3⟩ : ∃ b3, decide (i9 < i3) = b3 := ⟨_, rfl⟩
    obtain ⟨en, hen⟩ : ∃ en, en = (if 0 ≤ i9 ∧ (i3 < 0 ∨ i9 < i3) then i9 else i3) := ⟨_, rfl⟩
    rw [← hen] at Hend
    have hcs : (b1 = false ∧ en = i3) ∨ (b1 = true ∧ b2 = true ∧ en = i9) ∨ (b1 = true ∧ b2 = false ∧ b3 = true ∧ en = i9) ∨ (b1 = true ∧ b2 = false ∧ b3 = false ∧ en = i3) := by
      cases b1
      · have := of_decide_eq_false hb1
        exact .inl ⟨rfl, by rw [hen, if_neg (by omega)]⟩
      · have h1 := of_decide_eq_true hb1
        cases b2
        · have h2 := of_decide_eq_false hb2
          cases b3
          · have h3 := of_decide_eq_false hb3
            exact .inr (.inr (.inr ⟨rfl, rfl, rfl, by rw [hen, if_neg (by omega)]⟩))
          · have h3 := of_decide_eq_true hb3
            exact .inr (.inr (.inl ⟨rfl, rfl, rfl, by rw [hen, if_pos (by omega)]⟩))
        · have h2 := of_decide_eq_true hb2
          exact .inr (.inl ⟨rfl, rfl, by rw [hen, if_pos (by omega)]⟩)
    clear hen
    have hyy := fun x h1 h2 h3 => HY.out pre x wr HJp.out ⟨h1, h2, h3⟩ trivial
    have Hyy := Lib.hid hyy
    clear hyy
    rcases Hend.out with ⟨hneg, hwp⟩ | ⟨o, heo, ho, hwp⟩
    · obtain ⟨rfl, rfl⟩ : b1 = false ∧ en = i3 := by
        rcases hcs with h | ⟨rfl, rfl, rfl⟩ | ⟨rfl, rfl, rfl, rfl⟩ | ⟨rfl, rfl, rfl, rfl⟩
        · exact h
        · have := of_decide_eq_true hb1; omega
        · have := of_decide_eq_true hb1; omega
        · have := of_decide_eq_false hb2; omega
      have hdn : decide (0 ≤ en) = false := decide_eq_false (by omega)
      have Hwp := Lib.hid hwp
      have HY1 := Hyy.out rest (by have := Hlen.out; omega) Hr0.out (by have := Hlen.out; omega)
      obtain ⟨fn, tmps, assign, body, hy, hR⟩ := HY1
      have Hneg := Lib.hid hneg
      clear hwp Hend Hyy hneg
      gi_wp2
      refine ⟨trivial, ?_⟩
      refine (callsIn_wide.2 (Hx3.out _)).mono ?_
      rintro _ w' ⟨rfl, hww⟩
      obtain rfl := hww.symm
      gi_wp2
      refine ⟨trivial, ?_⟩
      refine (callsIn_wide.2 (Hx9.out _)).mono ?_
      rintro _ w' ⟨rfl, hww⟩
      obtain rfl := hww.symm
      gi_wp2
      refine hR.mono ?_
      clear hR hy
      rintro e W3 (⟨rfl, hJ3, hk3, -⟩ | ⟨rfl, hJx3, -⟩)
      · have hbx3 : BoxAt 9 W3 Bs [.string (bst rest)] := (show W3.heap[Bs]? = wr.heap[Bs]? from hk3).trans Hbx.out
        have hbc3 := hbx3.cell 0 _ rfl
        have hfz3 := hbx3.frozen 0
        have fin : BoxAt 9 (W3.setCell ⟨Bs, 0, none⟩ (.string ⟨#[]⟩)) Bs [.string (bst [])] ∧ J (pre ++ [rest]) (W3.setCell ⟨Bs, 0, none⟩ (.string ⟨#[]⟩)) :=
          ⟨hbx3.put 0 _, HJa.out _ _ _ _ hJ3 (chg_setCell _ _ _ _) fun r e _ => .inl e⟩
        have Fin := Lib.hid fin
        clear hbx3 hk3 fin hJ3 hbc
        gi_wp2
        refine ⟨0, Hr0.out, pre ++ [rest], [], rfl, ?_, ?_, Fin.out.1, Fin.out.2, ?_⟩
        · have := Hlen.out; have := Hr0.out; simp; omega
        · rw [Hws.out, Hwp.out]; simp [show wordsP [] = [] from rfl]
        (repeat apply Exists.intro)
        rfl
      · gi_wp2
        refine bodyPost_ret (results_none rfl _ _ _) rfl ?_
        exact ⟨⟨_, rfl⟩, .inr ⟨_, trivial, hJx3⟩⟩
    · have hx1 := bst_extract rest 0 o
      have hx2 := bst_extract rest (o + 1) rest.length
      rw [List.drop_zero] at hx1
      rw [List.take_length] at hx2
      have hdn : decide (0 ≤ en) = true := decide_eq_true (by omega)
      have hbt := bst_empty (rest.take o)
      rw [show (rest.take o).length = o by rw [List.length_take]; omega] at hbt
      obtain ⟨wd, hwd⟩ : ∃ wd, wd = rest.take o := ⟨_, rfl⟩
      obtain ⟨rs, hrs⟩ : ∃ rs, rs = rest.drop (o + 1) := ⟨_, rfl⟩
      rw [← hwd, ← hrs] at hwp
      rw [← hwd] at hx1 hbt
      rw [← hrs] at hx2
      have hwl : wd.length = o := by rw [hwd, List.length_take]; omega
      have hrl : rs.length + o + 1 = rest.length := by rw [hrs, List.length_drop]; omega
      have Hwl := Lib.hid hwl
      have Hrl := Lib.hid hrl
      have Hwp := Lib.hid hwp
      clear hwd hrs hwl hrl hwp Hend
      have hr1 : rest.length ≤ 1048576 := by have := Hlen.out; omega
      have hw64 : wrap64 ((o : Int) + 1) = (o : Int) + 1 := by unfold wrap64; omega
      have hos : o + 1 ≤ rest.length := ho
      have hos2 : o ≤ rest.length := by omega
      have HJd := Lib.hid (HJa.out.below HJp.out (⟨rfl, rfl, rfl, Nat.le_refl _, fun _ _ => rfl⟩ : Below wr.heap.size wr wr.drew))
      subst heo
      rcases hcs with ⟨rfl, rfl⟩ | ⟨rfl, rfl, rfl⟩ | ⟨rfl, rfl, rfl, rfl⟩ | ⟨rfl, rfl, rfl, rfl⟩
      all_goals
        rcases Nat.eq_zero_or_pos o with ho0 | ho0
        · rw [decide_eq_true ho0] at hbt
          rw [if_neg (by omega)] at Hwp
          have Ho0 := Lib.hid ho0
          have fin : ∀ (w4 : World), w4 = wr.drew.setCell ⟨Bs, 0, none⟩ (.string (bst rs)) → BoxAt 9 w4 Bs [.string (bst rs)] ∧ J pre w4 := fun w4 e => by
            subst e
            exact ⟨(Hbx.out : BoxAt 9 wr.drew Bs _).put 0 _, HJa.out _ _ _ _ HJd.out (chg_setCell _ _ _ _) fun r e _ => .inl e⟩
          have Fin := Lib.hid fin
          have hfz := Hbx.out.frozen 0
          clear fin Hyy ho0
          gi_wp2
          refine ⟨trivial, ?_⟩
          refine (callsIn_wide.2 (Hx3.out _)).mono ?_
          rintro _ w' ⟨rfl, hww⟩
          obtain rfl := hww.symm
          gi_wp2
          refine ⟨trivial, ?_⟩
          refine (callsIn_wide.2 (Hx9.out _)).mono ?_
          rintro _ w' ⟨rfl, hww⟩
          obtain rfl := hww.symm
          gi_wp2
          gi_region
          gi_wp2
          refine ⟨(fun f hf => by cases hf), ?_⟩
          gi_wp2
          obtain ⟨f1, f2⟩ := Fin.out _ rfl
          refine ⟨rs.length, ?_, pre, rs, rfl, ?_, ?_, f1, f2, ?_⟩
          · have := Hrl.out; omega
          · have := Hlen.out; have := Hrl.out; omega
          · rw [Hws.out, Hwp.out]; simp
          (repeat apply Exists.intro)
          rfl
        · rw [decide_eq_false (by omega)] at hbt
          rw [if_pos ho0] at Hwp
          have HY1 := HY.out pre wd wr.drew HJd.out ⟨by have := Hlen.out; have := Hrl.out; have := Hwl.out; omega, by have := Hwl.out; omega, by have := Hlen.out; omega⟩ trivial
          obtain ⟨fn, tmps, assign, body, hy, hR⟩ := HY1
          clear Hyy
          gi_wp2
          refine ⟨trivial, ?_⟩
          refine (callsIn_wide.2 (Hx3.out _)).mono ?_
          rintro _ w' ⟨rfl, hww⟩
          obtain rfl := hww.symm
          gi_wp2
          refine ⟨trivial, ?_⟩
          refine (callsIn_wide.2 (Hx9.out _)).mono ?_
          rintro _ w' ⟨rfl, hww⟩
          obtain rfl := hww.symm
          gi_wp2
          gi_region
          gi_wp2
          refine hR.mono ?_
          clear hR hy
          rintro e W3 (⟨rfl, hJ3, hk3, -⟩ | ⟨rfl, hJx3, -⟩)
          · have hbx3 : BoxAt 9 W3 Bs [.string (bst rest)] := (show W3.heap[Bs]? = wr.heap[Bs]? from hk3).trans Hbx.out
            have hbc3 := hbx3.cell 0 _ rfl
            have hfz3 := hbx3.frozen 0
            have fin : ∀ (w4 : World), w4 = W3.setCell ⟨Bs, 0, none⟩ (.string (bst rs)) → BoxAt 9 w4 Bs [.string (bst rs)] ∧ J (pre ++ [wd]) w4 := fun w4 e => by
              subst e
              exact ⟨hbx3.put 0 _, HJa.out _ _ _ _ hJ3 (chg_setCell _ _ _ _) fun r e _ => .inl e⟩
            have Fin := Lib.hid fin
            clear hbx3 hk3 fin hJ3 hbc
            gi_wp2
            obtain ⟨f1, f2⟩ := Fin.out _ rfl
            refine ⟨rs.length, ?_, pre ++ [wd], rs, rfl, ?_, ?_, f1, f2, ?_⟩
            · have := Hrl.out; omega
            · have := Hlen.out; have := Hrl.out; simp; omega
            · rw [Hws.out, Hwp.out]; simp
            (repeat apply Exists.intro)
            rfl
          · gi_wp2
            refine bodyPost_ret (results_none rfl _ _ _) rfl ?_
            exact ⟨⟨_, rfl⟩, .inr ⟨_, trivial, hJx3⟩⟩
end Go.Proofs.YtcffeepgfjpcaaaGreat

namespace Go.Proofs.YtcffeepgfjpcaaaGreat
set_option linter.unusedSimpArgs false
set_option linter.unusedVariables false
open Go.RowKit

end Go.Proofs.YtcffeepgfjpcaaaGreat

namespace Go.Proofs.YtcffeepgfjpcaaaGreat
set_option linter.unusedSimpArgs false
set_option linter.unusedVariables false
open Go.RowKit

end Go.Proofs.YtcffeepgfjpcaaaGreat

namespace Go.Proofs.YtcffeepgfjpcaaaGreat
set_option linter.unusedSimpArgs false
set_option linter.unusedVariables false
open Go.RowKit

end Go.Proofs.YtcffeepgfjpcaaaGreat

namespace Go.Proofs.YtcffeepgfjpcaaaGreat
set_option linter.unusedSimpArgs false
set_option linter.unusedVariables false
open Go.RowKit

structure MFile where
  name : List UInt8
  id : UInt32
  size : Int
  blocks : List Int
structure MMan where
  ver : UInt64
  next : UInt32
  files : List MFile
def encF (f : MFile) (v : Value) : List Value := [.string (bst f.name), .int .u32 (f.id.toNat : Int), .int .i64 f.size, v]
def fileOk (f : MFile) : Prop := f.name.length ≤ maxLen ∧ -9223372036854775808 ≤ f.size ∧ f.size ≤ 9223372036854775807
def cFile : Cdc MFile where
  n := 4
  at_ := fun w S cs f => ∃ v, cs = encF f v ∧ RowOn cInt w S S v f.blocks ∧ fileOk f
  len := fun h => by obtain ⟨v, rfl, _⟩ := h; rfl
  one := fun h => by
    obtain ⟨v, rfl, h, _⟩ := h
    obtain ⟨A, c, rfl, _⟩ := h
    intro u hu
    simp [encF] at hu
    rcases hu with rfl | rfl | rfl | rfl <;> rfl
  keep := fun h hk => by obtain ⟨v, e, h, ok⟩ := h; exact ⟨v, e, h.keep hk hk, ok⟩
  mono := fun h hk => by obtain ⟨v, e, h, ok⟩ := h; exact ⟨v, e, h.mono hk hk, ok⟩
/-- files in blocks below B, all that they lead to too -/
abbrev ByF (w : World) (B : Nat) (v : Value) (l : List MFile) : Prop := RowOn cFile w (fun k => k < B) (fun k => k < B) v l
abbrev ByI (w : World) (B : Nat) (v : Value) (l : List Int) : Prop := RowOn cInt w (fun k => k < B) (fun k => k < B) v l
theorem ByF.below {w w' : World} {B : Nat} {v : Value} {l : List MFile} (h : ByF w B v l) (hb : Below B w w') : ByF w' B v l := h.keep (fun p hp => hb.cell hp) (fun p hp => hb.cell hp)
theorem ByF.more {w : World} {B B' : Nat} {v : Value} {l : List MFile} (h : ByF w B v l) (hB : B ≤ B') : ByF w B' v l := h.mono (fun k hk => Nat.lt_of_lt_of_le hk hB) (fun k hk => Nat.lt_of_lt_of_le hk hB)
theorem ByF.step {w w' : World} {v : Value} {l : List MFile} (h : ByF w w.heap.size v l) (hb : Below w.heap.size w w') : ByF w' w'.heap.size v l := (h.below hb).more hb.size
theorem ByI.below {w w' : World} {B : Nat} {v : Value} {l : List Int} (h : ByI w B v l) (hb : Below B w w') : ByI w' B v l := h.keep (fun p hp => hb.cell hp) (fun p hp => hb.cell hp)
theorem ByI.more {w : World} {B B' : Nat} {v : Value} {l : List Int} (h : ByI w B v l) (hB : B ≤ B') : ByI w B' v l := h.mono (fun k hk => Nat.lt_of_lt_of_le hk hB) (fun k hk => Nat.lt_of_lt_of_le hk hB)
theorem ByI.step {w w' : World} {v : Value} {l : List Int} (h : ByI w w.heap.size v l) (hb : Below w.heap.size w w') : ByI w' w'.heap.size v l := (h.below hb).more hb.size
/-- the cells of the k-th number -/
theorem ByI.cells {w : World} {B : Nat} {A : Option Addr} {n c : Nat} {l : List Int} (h : ByI w B (.slice A n c) l) (k : Nat) (hk : k < l.length) : n = l.length ∧ ∃ ad, A = some ad ∧ ad.block < B ∧ w.cell? (ad.add k) = some (.int .i64 l[k]) ∧ -9223372036854775808 ≤ l[k] ∧ l[k] ≤ 9223372036854775807 := by
  obtain ⟨ad, cs, e, hb, ⟨rfl, ok⟩, hc⟩ := h.at_ k _ (List.getElem?_eq_getElem hk)
  have := hc 0 _ rfl
  simp only [cInt, Cdc.flat, Nat.mul_one, Nat.add_zero] at this
  exact ⟨(h.len_).1, ad, e, hb, this, ok⟩
/-- the cells of the k-th file -/
theorem ByF.cells {w : World} {B : Nat} {A : Option Addr} {n c : Nat} {l : List MFile} (h : ByF w B (.slice A n c) l) (k : Nat) (hk : k < l.length) :
    n = l.length ∧ ∃ ad v, A = some ad ∧ ad.block < B ∧ ByI w B v (l[k]).blocks ∧ fileOk l[k] ∧ (∀ (j : Nat) (u : Value), (encF l[k] v)[j]? = some u → w.cell? ((ad.add (k * 4)).add j) = some u) := by
  obtain ⟨ad, cs, e, hb, ⟨v, rfl, hr, ok⟩, hc⟩ := h.at_ k _ (List.getElem?_eq_getElem hk)
  exact ⟨(h.len_).1, ad, v, e, hb, hr, ok, fun j u hu => by rw [add_add]; exact hc j u hu⟩
theorem ByF.ok {w : World} {B : Nat} {v : Value} {l : List MFile} (h : ByF w B v l) : ∀ f ∈ l, fileOk f := by
  intro f hf
  obtain ⟨i, hi, rfl⟩ := List.mem_iff_getElem.1 hf
  obtain ⟨A, c, rfl, _, _⟩ := h.form
  obtain ⟨_, _, _, _, _, _, ok, _⟩ := h.cells i hi
  exact ok
def encM (m : MMan) (v : Value) : List Value := [.int .u64 (m.ver.toNat : Int), .int .u32 (m.next.toNat : Int), v]
/-- the value v is a manifest -/
def MAt (w : World) (B : Nat) (v : Value) (m : MMan) : Prop := ∃ vf, v = .agg (encM m vf).toArray ∧ ByF w B vf m.files
theorem MAt.below {w w' : World} {B : Nat} {v : Value} {m : MMan} (h : MAt w B v m) (hb : Below B w w') : MAt w' B v m := by obtain ⟨vf, e, h⟩ := h; exact ⟨vf, e, h.below hb⟩
theorem MAt.more {w : World} {B B' : Nat} {v : Value} {m : MMan} (h : MAt w B v m) (hB : B ≤ B') : MAt w B' v m := by obtain ⟨vf, e, h⟩ := h; exact ⟨vf, e, h.more hB⟩
theorem MAt.step {w w' : World} {v : Value} {m : MMan} (h : MAt w w.heap.size v m) (hb : Below w.heap.size w w') : MAt w' w'.heap.size v m := (h.below hb).more hb.size

theorem InC.ints {w : World} {cs : List Value} (h : InC w 102 cs) : ∃ v xs, cs = [v] ∧ ByI w w.heap.size v xs := h.row (C := cInt) Tryz.underlying102 (by kernel_rfl) (by decide) fun cs hc => hc.i64 Tryz.underlying3
end Go.Proofs.YtcffeepgfjpcaaaGreat

namespace Go.Proofs.YtcffeepgfjpcaaaGreat
set_option linter.unusedSimpArgs false
set_option linter.unusedVariables false
open Go.RowKit

end Go.Proofs.YtcffeepgfjpcaaaGreat

namespace Go.Proofs.YtcffeepgfjpcaaaGreat
set_option linter.unusedSimpArgs false
set_option linter.unusedVariables false
open Go.RowKit

end Go.Proofs.YtcffeepgfjpcaaaGreat

namespace Go.Proofs.YtcffeepgfjpcaaaGreat
set_option linter.unusedSimpArgs false
set_option linter.unusedVariables false
open Go.RowKit

end Go.Proofs.YtcffeepgfjpcaaaGreat

namespace Go.Proofs.YtcffeepgfjpcaaaGreat
set_option linter.unusedSimpArgs false
set_option linter.unusedVariables false
open Go.RowKit

structure Wr (w1 w : World) (v : Value) (l : List UInt8) : Prop where
  own : Ow w w1.heap.size v l
  blw : Below w1.heap.size w1 w
structure WrB (T : TypeId) (w1 w : World) (g : Nat) (cs : List Value) (v : Value) (l : List UInt8) : Prop where
  own : Ow w w1.heap.size v l
  blw : Below w1.heap.size w1 w
  box : BoxAt T w g cs
  ne : v.ownBlock ≠ some g
theorem Ext.neM {w w' : World} {v v' : Value} (h : Ext w w' v v') {g : Nat} (hg : g < w.heap.size) (hv : v.ownBlock ≠ some g) : v'.ownBlock ≠ some g := by
  rcases h.at_ with h1 | h1
  · rw [h1]; exact hv
  · intro e; have := h1 g e; omega
theorem Wr.num {w1 w wa wb : World} {v v' : Value} {l l' : List UInt8} (h : Wr w1 w v l) (hb : Below w.heap.size w wa) (hx : Ext wa wb v v') (ho : Ow wb w1.heap.size v' l') : Wr w1 wb v' l' :=
  ⟨ho, (h.blw.trans (hb.mono h.blw.size)).trans (hx.below (Nat.le_trans h.blw.size hb.size) fun q hq => (h.own.blk q hq).1)⟩
theorem WrB.num {T : TypeId} {g : Nat} {cs : List Value} {w1 w wa wb : World} {v v' : Value} {l l' : List UInt8} (h : WrB T w1 w g cs v l) (hb : Below w.heap.size w wa) (hx : Ext wa wb v v') (ho : Ow wb w1.heap.size v' l') : WrB T w1 wb g cs v' l' :=
  have hg := h.box.lt
  have hga := Nat.lt_of_lt_of_le hg hb.size
  ⟨ho, (h.blw.trans (hb.mono h.blw.size)).trans (hx.below (Nat.le_trans h.blw.size hb.size) fun q hq => (h.own.blk q hq).1), (h.box.below hg hb).grown hx.gr h.ne, hx.neM hga h.ne⟩
theorem Wr.put (T : TypeId) {w1 w : World} {v : Value} {l : List UInt8} (h : Wr w1 w v l) (cs : List Value) : WrB T w1 (w.alloc (.cells cs.toArray T)) w.heap.size cs v l :=
  ⟨h.own.alloc _, h.blw.trans ((balloc w _).mono h.blw.size), BoxAt.new_ _ _ _, fun e => Nat.lt_irrefl _ (h.own.blk _ e).2⟩
theorem WrB.wr {T : TypeId} {g : Nat} {cs : List Value} {w1 w : World} {v : Value} {l : List UInt8} (h : WrB T w1 w g cs v l) : Wr w1 w v l := ⟨h.own, h.blw⟩
end Go.Proofs.YtcffeepgfjpcaaaGreat

namespace Go.Proofs.YtcffeepgfjpcaaaGreat
set_option linter.unusedSimpArgs false
set_option linter.unusedVariables false
open Go.RowKit

end Go.Proofs.YtcffeepgfjpcaaaGreat

namespace Go.Proofs.YtcffeepgfjpcaaaGreat
set_option linter.unusedSimpArgs false
set_option linter.unusedVariables false
open Go.RowKit

end Go.Proofs.YtcffeepgfjpcaaaGreat

namespace Go.Proofs.YtcffeepgfjpcaaaGreat
set_option linter.unusedSimpArgs false
set_option linter.unusedVariables false
open Go.RowKit Go.Maps

/-- block b is a set of at most n numbers: those of S -/
def MSet (k : TypeId) (q : IntKind) (w : World) (b n : Nat) (S : List Int) : Prop :=
  ∃ D : DataW Unit, w.ownsMap Tryz.prog k unitElem b n D ∧ ∀ x, (Lit.int q x).wf = true → Maps.has D (.int q x) = decide (x ∈ S)
theorem MSet.lt {k : TypeId} {q : IntKind} {w : World} {b n : Nat} {S : List Int} (h : MSet k q w b n S) : b < w.heap.size := by obtain ⟨D, h, _⟩ := h; exact h.lt
theorem MSet.congr {k : TypeId} {q : IntKind} {w : World} {b n : Nat} {S S' : List Int} (h : MSet k q w b n S) (hS : ∀ x, x ∈ S ↔ x ∈ S') : MSet k q w b n S' := by
  obtain ⟨D, h, hh⟩ := h
  exact ⟨D, h, fun x hx => (hh x hx).trans (decide_eq_decide.2 (hS x))⟩
theorem MSet.kept {k : TypeId} {q : IntKind} {w w' : World} {b n : Nat} {S : List Int} (h : MSet k q w b n S) {row : Option Nat} (hg : w.grownBy w' row) (hne : some b ≠ row) : MSet k q w' b n S := by
  obtain ⟨D, h, hh⟩ := h
  exact ⟨D, h.kept hg hne, hh⟩
theorem MSet.blw {k : TypeId} {q : IntKind} {w w' : World} {b n : Nat} {S : List Int} (h : MSet k q w b n S) (hb : Below w.heap.size w w') : MSet k q w' b n S :=
  h.kept (row := none) ⟨hb.os, hb.tape, hb.output, hb.size, fun i hi _ => hb.block i hi⟩ (by simp)
theorem MSet.mono {k : TypeId} {q : IntKind} {w : World} {b n n' : Nat} {S : List Int} (h : MSet k q w b n S) (hn : n ≤ n') : MSet k q w b n' S := by
  obtain ⟨D, h, hh⟩ := h
  exact ⟨D, h.mono hn, hh⟩
theorem MSet.new_ (k : TypeId) (q : IntKind) (w : World) : MSet k q (w.alloc (.map #[] 0)) w.heap.size 0 [] :=
  ⟨.map [], World.ownsMap_made _ _ _ _, fun x _ => by simp [Maps.has]⟩
/-- all but the blocks m1, m2 stay -/
structure Bt (m1 m2 : Nat) (w w' : World) : Prop where
  os : w'.os = w.os
  tape : w'.tape = w.tape
  output : w'.output = w.output
  size : w.heap.size ≤ w'.heap.size
  block : ∀ k, k < w.heap.size → k ≠ m1 → k ≠ m2 → w'.heap[k]? = w.heap[k]?
theorem Bt.of {m1 m2 : Nat} {w w' : World} (h : Below w.heap.size w w') : Bt m1 m2 w w' := ⟨h.os, h.tape, h.output, h.size, fun k hk _ _ => h.block k hk⟩
theorem Bt.trans {m1 m2 : Nat} {a b c : World} (h : Bt m1 m2 a b) (k : Bt m1 m2 b c) : Bt m1 m2 a c :=
  ⟨k.os.trans h.os, k.tape.trans h.tape, k.output.trans h.output, Nat.le_trans h.size k.size, fun i hi h1 h2 => (k.block i (Nat.lt_of_lt_of_le hi h.size) h1 h2).trans (h.block i hi h1 h2)⟩
theorem Bt.grown {m1 m2 m : Nat} {a b c : World} (h : Bt m1 m2 a b) (hg : b.grownBy c (some m)) (hm : m = m1 ∨ m = m2) : Bt m1 m2 a c :=
  h.trans ⟨hg.os, hg.tape, hg.output, hg.size, fun k hk h1 h2 => hg.block k hk (fun e => by injection e with e; rcases hm with hm | hm <;> omega)⟩
theorem Bt.step {m1 m2 : Nat} {a b c : World} (h : Bt m1 m2 a b) (hb : Below b.heap.size b c) : Bt m1 m2 a c := h.trans (Bt.of hb)
theorem Bt.low {m1 m2 B : Nat} {w w' : World} (h : Bt m1 m2 w w') (h1 : B ≤ m1) (h2 : B ≤ m2) (hB : B ≤ w.heap.size) : Below B w w' :=
  ⟨h.os, h.tape, h.output, h.size, fun k hk => h.block k (by omega) (by omega) (by omega)⟩
theorem Bt.box {m1 m2 g : Nat} {T : TypeId} {cs : List Value} {w w' : World} (h : Bt m1 m2 w w') (hx : BoxAt T w g cs) (h1 : g ≠ m1) (h2 : g ≠ m2) : BoxAt T w' g cs := (h.block g hx.lt h1 h2).trans hx
end Go.Proofs.YtcffeepgfjpcaaaGreat

namespace Go.Proofs.YtcffeepgfjpcaaaGreat
set_option linter.unusedSimpArgs false
set_option linter.unusedVariables false
open Go.RowKit

end Go.Proofs.YtcffeepgfjpcaaaGreat

namespace Go.Proofs.YtcffeepgfjpcaaaGreat
set_option linter.unusedSimpArgs false
set_option linter.unusedVariables false
open Go.RowKit

theorem WrB.drew {T : TypeId} {g : Nat} {cs : List Value} {w1 w : World} {v : Value} {l : List UInt8} (h : WrB T w1 w g cs v l) : WrB T w1 w.drew g cs v l := ⟨h.own, h.blw.drew, h.box, h.ne⟩

end Go.Proofs.YtcffeepgfjpcaaaGreat

namespace Go.Proofs.YtcffeepgfjpcaaaGreat
set_option linter.unusedSimpArgs false
set_option linter.unusedVariables false
open Go.RowKit

end Go.Proofs.YtcffeepgfjpcaaaGreat

namespace Go.Proofs.YtcffeepgfjpcaaaGreat
set_option linter.unusedSimpArgs false
set_option linter.unusedVariables false
open Go.RowKit

end Go.Proofs.YtcffeepgfjpcaaaGreat

namespace Go.Proofs.YtcffeepgfjpcaaaGreat
set_option linter.unusedSimpArgs false
set_option linter.unusedVariables false
open Go.RowKit

end Go.Proofs.YtcffeepgfjpcaaaGreat

namespace Go.Proofs.YtcffeepgfjpcaaaGreat
set_option linter.unusedSimpArgs false
set_option linter.unusedVariables false
open Go.RowKit Go.Maps

end Go.Proofs.YtcffeepgfjpcaaaGreat

namespace Go.Proofs.YtcffeepgfjpcaaaGreat
set_option linter.unusedSimpArgs false
set_option linter.unusedVariables false
open Go.RowKit

section
variable {P : Nat → Prop} {w w' : World}
theorem OwnR.chg {α : Type} {E : TypeId} {C : Cdc α} {base : Nat} {S : Nat → Prop} {v : Value} {xs : List α} (h : OwnR E C w base S v xs) (hc : Chg P w w') (hv : ∀ k, v.ownBlock = some k → ¬ P k) (hS : ∀ k, S k → ¬ P k) : OwnR E C w' base S v xs := by
  have hb := h.blk
  obtain ⟨css, hl, ⟨h1, h2⟩, h3, h4⟩ := h
  refine ⟨css, hl, ⟨h1, ?_⟩, fun i cs x hcs hx => C.keep (h3 i cs x hcs hx) fun p hp => World.cell?_of_block (hc.block p.block (h4 _ hp).1 (hS _ hp)), fun k hk => ⟨Nat.lt_of_lt_of_le (h4 k hk).1 hc.size, (h4 k hk).2⟩⟩
  rcases h2 with h2 | ⟨g, cap, cur, e, hg, h5, r⟩
  · exact .inl h2
  · have hk := hb g (by rw [e]; rfl)
    exact .inr ⟨g, cap, cur, e, hg, (hc.block g hk.2 (hv g (by rw [e]; rfl))).trans h5, r⟩
end
/-- a manifest among new blocks (from lo on) -/
def MIn (w : World) (lo : Nat) (v : Value) (m : MMan) : Prop := ∃ vf, v = .agg (encM m vf).toArray ∧ RowOn cFile w (fun k => lo ≤ k ∧ k < w.heap.size) (fun k => lo ≤ k ∧ k < w.heap.size) vf m.files
theorem MIn.chg {w w' : World} {lo : Nat} {v : Value} {m : MMan} {P : Nat → Prop} (h : MIn w lo v m) (hc : Chg P w w') (hp : ∀ k, P k → k < lo) : MIn w' lo v m := by
  obtain ⟨vf, e, h⟩ := h
  have hk : ∀ p : Addr, (lo ≤ p.block ∧ p.block < w.heap.size) → w'.cell? p = w.cell? p := fun p hq => World.cell?_of_block (hc.block p.block hq.2 fun hx => by have := hp _ hx; omega)
  have := hc.size
  exact ⟨vf, e, (h.keep hk hk).mono (fun k hk => ⟨hk.1, by omega⟩) (fun k hk => ⟨hk.1, by omega⟩)⟩
theorem MIn.step {w w' : World} {lo : Nat} {v : Value} {m : MMan} (h : MIn w lo v m) (hb : Below w.heap.size w w') : MIn w' lo v m := h.chg (P := fun _ => False) (Chg.ofBelow hb) (fun _ h => h.elim)
theorem MIn.low {w : World} {lo lo' : Nat} {v : Value} {m : MMan} (h : MIn w lo v m) (hl : lo' ≤ lo) : MIn w lo' v m := by
  obtain ⟨vf, e, h⟩ := h
  exact ⟨vf, e, h.mono (fun k hk => ⟨by omega, hk.2⟩) (fun k hk => ⟨by omega, hk.2⟩)⟩
end Go.Proofs.YtcffeepgfjpcaaaGreat

namespace Go.Proofs.YtcffeepgfjpcaaaGreat
set_option linter.unusedSimpArgs false
set_option linter.unusedVariables false

abbrev RW := Int × List UInt8
structure RD where
  count : Int
  off : Bool
  fuse : Int
  made : List RW
  wait : List RW
def lastR (l : List RW) (i : Int) (b : List UInt8) : List UInt8 := l.foldl (fun b x => if x.1 = i then x.2 else b) b
def zerosL : List UInt8 := List.replicate 128 0
def goodR (m : RD) (i : Int) : List UInt8 := lastR m.made i zerosL
structure RelD (d : DState) (m : RD) : Prop where
  count : m.count = (d.bl.length : Int)
  off : m.off = d.off
  fuse : m.fuse = d.fuse
  good : ∀ i, i < d.bl.length → goodR m (i : Int) = (d.bl.getD i zeroB).1
  wait : m.wait = d.wt.map fun x => ((x.1 : Int), x.2.1)
end Go.Proofs.YtcffeepgfjpcaaaGreat

namespace Go.Proofs.YtcffeepgfjpcaaaGreat
set_option linter.unusedSimpArgs false
set_option linter.unusedVariables false
open Go.RowKit

def cRW : Cdc RW := Cdc.flat 2 (fun x => [.int .i64 x.1, .string (bst x.2)]) (fun x => x.2.length = 128) (fun _ => rfl) (fun x u hu => by simp at hu; rcases hu with rfl | rfl <;> rfl)
abbrev ByR (w : World) (O : Nat → Prop) (v : Value) (l : List RW) : Prop := RowOn cRW w O (fun _ => True) v l
theorem ByR.below {w w' : World} {O : Nat → Prop} {B : Nat} {v : Value} {l : List RW} (h : ByR w O v l) (hb : Below B w w') (hO : ∀ k, O k → k < B) : ByR w' O v l := by
  obtain ⟨A, c, h1, h2, h3, h4⟩ := h
  refine ⟨A, c, h1, h2, h3, fun hn => ?_⟩
  obtain ⟨ad, e, hb', hc⟩ := h4 hn
  refine ⟨ad, e, hb', fun i x hx => ?_⟩
  obtain ⟨cs, ha, hcs⟩ := hc i x hx
  exact ⟨cs, ha, fun j u hu => (hb.cell (by rw [add_block]; exact hO _ hb')).trans (hcs j u hu)⟩
theorem ByR.more {w : World} {O O' : Nat → Prop} {v : Value} {l : List RW} (h : ByR w O v l) (hB : ∀ k, O k → O' k) : ByR w O' v l := RowOn.mono h hB (fun _ hk => hk)
theorem ByR.chg {w w' : World} {O P : Nat → Prop} {v : Value} {l : List RW} (h : ByR w O v l) (hc : Chg P w w') (hO : ∀ k, O k → k < w.heap.size ∧ ¬ P k) : ByR w' O v l := by
  obtain ⟨A, c, h1, h2, h3, h4⟩ := h
  refine ⟨A, c, h1, h2, h3, fun hn => ?_⟩
  obtain ⟨ad, e, hb', hcc⟩ := h4 hn
  refine ⟨ad, e, hb', fun i x hx => ?_⟩
  obtain ⟨cs, ha, hcs⟩ := hcc i x hx
  exact ⟨cs, ha, fun j u hu => (World.cell?_of_block (hc.block _ (by rw [add_block]; exact (hO _ hb').1) (by rw [add_block]; exact (hO _ hb').2))).trans (hcs j u hu)⟩
theorem ByR.nil_ {w : World} {O : Nat → Prop} : ByR w O (.slice none 0 0) [] := RowOn.nil_
theorem ByR.ok {w : World} {O : Nat → Prop} {v : Value} {l : List RW} (h : ByR w O v l) : ∀ x ∈ l, x.2.length = 128 := by
  intro x hx
  obtain ⟨i, hi, rfl⟩ := List.mem_iff_getElem.1 hx
  obtain ⟨A, c, rfl, _, _⟩ := h.form
  obtain ⟨ad, cs, _, _, ⟨_, hk⟩, _⟩ := h.at_ i _ (List.getElem?_eq_getElem hi)
  exact hk
/-- the cells of the k-th -/
theorem ByR.cells {w : World} {O : Nat → Prop} {A : Option Addr} {n c : Nat} {l : List RW} (h : ByR w O (.slice A n c) l) (k : Nat) (hk : k < l.length) : n = l.length ∧ ∃ ad, A = some ad ∧ O ad.block ∧ w.cell? (ad.add (k * 2)) = some (.int .i64 (l[k]).1) ∧ w.cell? { block := (ad.add (k * 2)).block, off := (ad.add (k * 2)).off + 1 } = some (.string (bst (l[k]).2)) := by
  obtain ⟨ad, cs, e, hb, ⟨rfl, _⟩, hc⟩ := h.at_ k _ (List.getElem?_eq_getElem hk)
  refine ⟨(h.len_).1, ad, e, hb, hc 0 _ rfl, ?_⟩
  have := hc 1 _ rfl
  rw [← add_add] at this
  have e2 : (ad.add (k * cRW.n)).add 1 = { block := (ad.add (k * 2)).block, off := (ad.add (k * 2)).off + 1 } := by simp [Addr.add, cRW, Cdc.flat]; exact ⟨rfl, rfl⟩
  rw [e2] at this
  exact this
/-- the value v is a disk of the document's, its rows in blocks of O -/
def RDV (w : World) (O : Nat → Prop) (v : Value) (m : RD) : Prop := ∃ v1 v2, v = .agg #[.int .i64 m.count, .bool m.off, .int .i64 m.fuse, v1, v2] ∧ ByR w O v1 m.made ∧ ByR w O v2 m.wait ∧
  (-9223372036854775808 ≤ m.count ∧ m.count ≤ 9223372036854775807) ∧ (-9223372036854775808 ≤ m.fuse ∧ m.fuse ≤ 9223372036854775807)
section
variable {w w' : World} {O O' P : Nat → Prop} {v : Value} {m : RD}
theorem RDV.below {B : Nat} (h : RDV w O v m) (hb : Below B w w') (hO : ∀ k, O k → k < B) : RDV w' O v m := by
  obtain ⟨v1, v2, e, h1, h2, h3, h4⟩ := h
  exact ⟨v1, v2, e, h1.below hb hO, h2.below hb hO, h3, h4⟩
theorem RDV.chg (h : RDV w O v m) (hc : Chg P w w') (hO : ∀ k, O k → k < w.heap.size ∧ ¬ P k) : RDV w' O v m := by
  obtain ⟨v1, v2, e, h1, h2, h3, h4⟩ := h
  exact ⟨v1, v2, e, h1.chg hc hO, h2.chg hc hO, h3, h4⟩
theorem RDV.more (h : RDV w O v m) (hO : ∀ k, O k → O' k) : RDV w O' v m := by
  obtain ⟨v1, v2, e, h1, h2, h3, h4⟩ := h
  exact ⟨v1, v2, e, h1.more hO, h2.more hO, h3, h4⟩
end
end Go.Proofs.YtcffeepgfjpcaaaGreat

namespace Go.Proofs.YtcffeepgfjpcaaaGreat
set_option linter.unusedSimpArgs false
set_option linter.unusedVariables false
open Go.RowKit

theorem BoxAt.blw {T : TypeId} {w w' : World} {g : Nat} {cs : List Value} (h : BoxAt T w g cs) (hb : Below w.heap.size w w') : BoxAt T w' g cs := h.below h.lt hb
end Go.Proofs.YtcffeepgfjpcaaaGreat

namespace Go.Proofs.YtcffeepgfjpcaaaGreat
set_option linter.unusedSimpArgs false
set_option linter.unusedVariables false
open Go.RowKit

end Go.Proofs.YtcffeepgfjpcaaaGreat

namespace Go.Proofs.YtcffeepgfjpcaaaGreat
set_option linter.unusedSimpArgs false
set_option linter.unusedVariables false
open Go.RowKit

end Go.Proofs.YtcffeepgfjpcaaaGreat

namespace Go.Proofs.YtcffeepgfjpcaaaGreat
set_option linter.unusedSimpArgs false
set_option linter.unusedVariables false
open Go.RowKit

def Ph.ownA (base : Nat) (l : List GArc) : Ph := ⟨fun v w => OwnF 48 cArc w base v l, fun _ _ _ h hb => h.below_ hb⟩
/-- two cells, whatever they hold -/
def cRaw : Cdc (Value × Value) where
  n := 2
  at_ := fun w S cs x => cs = [x.1, x.2] ∧ x.1.oneCell' = true ∧ x.2.oneCell' = true
  len := fun h => by rw [h.1]; rfl
  one := fun h => by obtain ⟨rfl, h1, h2⟩ := h; intro u hu; simp at hu; rcases hu with rfl | rfl <;> assumption
  keep := fun h _ => h
  mono := fun h _ => h
theorem run_slice_row (w : World) (a b : Value) (ha : a.oneCell' = true := by rfl) : (Instr.buildSlice 74 1 #[(0, .agg #[a, b])]).run Tryz.prog w =
    .ok (.slice (some ⟨w.heap.size, 0, none⟩) 1 1) (w.alloc (.cells #[a, b] 132)) := by
  obtain ⟨it, hit, hz0, hz1, hby⟩ := info_parts infoRow
  refine run_buildSlice w _ _ 1 _ _ it _ Tryz.underlying74 hit hz0 (by rw [hz1]; decide) (by rw [hz1]; decide) ?_
  rw [hz1]
  exact fill_whole 2 _ [a, b] (by first | rfl | simp) (by first | rfl | simp)
theorem rowC_one (fr : Nat) (A : Option Addr) (n c : Nat) : ∀ u ∈ ([.int .u32 (fr : Int), .slice A n c] : List Value), u.oneCell' = true := by
  intro u hu; simp at hu; rcases hu with rfl | rfl <;> rfl

end Go.Proofs.YtcffeepgfjpcaaaGreat

namespace Go.Proofs.YtcffeepgfjpcaaaGreat
set_option linter.unusedSimpArgs false
set_option linter.unusedVariables false
open Go.RowKit

end Go.Proofs.YtcffeepgfjpcaaaGreat

namespace Go.Proofs.YtcffeepgfjpcaaaGreat
set_option linter.unusedSimpArgs false
set_option linter.unusedVariables false
open Go.RowKit

end Go.Proofs.YtcffeepgfjpcaaaGreat

namespace Go.Proofs.YtcffeepgfjpcaaaGreat
set_option linter.unusedSimpArgs false
set_option linter.unusedVariables false
open Go.RowKit

end Go.Proofs.YtcffeepgfjpcaaaGreat

namespace Go.Proofs.YtcffeepgfjpcaaaGreat
set_option linter.unusedSimpArgs false
set_option linter.unusedVariables false
open Go.RowKit

end Go.Proofs.YtcffeepgfjpcaaaGreat

namespace Go.Proofs.YtcffeepgfjpcaaaGreat
set_option linter.unusedSimpArgs false
set_option linter.unusedVariables false
open Go.RowKit

end Go.Proofs.YtcffeepgfjpcaaaGreat

namespace Go.Proofs.YtcffeepgfjpcaaaGreat
set_option linter.unusedSimpArgs false
set_option linter.unusedVariables false
open Go.RowKit

end Go.Proofs.YtcffeepgfjpcaaaGreat

namespace Go.Proofs.YtcffeepgfjpcaaaGreat
set_option linter.unusedSimpArgs false
set_option linter.unusedVariables false
open Go.RowKit

end Go.Proofs.YtcffeepgfjpcaaaGreat

namespace Go.Proofs.YtcffeepgfjpcaaaGreat
set_option linter.unusedSimpArgs false
set_option linter.unusedVariables false
open Go.RowKit

end Go.Proofs.YtcffeepgfjpcaaaGreat

namespace Go.Proofs.YtcffeepgfjpcaaaGreat
set_option linter.unusedSimpArgs false
set_option linter.unusedVariables false
open Go.RowKit Go.Shelf

end Go.Proofs.YtcffeepgfjpcaaaGreat

namespace Go.Proofs.YtcffeepgfjpcaaaGreat
set_option linter.unusedSimpArgs false
set_option linter.unusedVariables false
open Go.RowKit

section
variable {P : Program} {l : List Oper} {dl : List (Option Nat)} {Φ : List Ph} {a : Act} {w : World} {Q : Exit → Act → World → Prop} {nn : Nat}
end
end Go.Proofs.YtcffeepgfjpcaaaGreat

namespace Go.Proofs.YtcffeepgfjpcaaaGreat
set_option linter.unusedSimpArgs false
set_option linter.unusedVariables false
open Go.RowKit Go.Shelf
attribute [local go_sem] Oper.semAt_some

/-- a block of rows -/
def rowT : Obj → Prop
  | .cells _ t _ => t = 132
  | _ => False
/-- what a round keeps: all blocks of cells but block V and, from L0 on, blocks of rows -/
structure KrR (V L0 : Nat) (W W' : World) : Prop where
  size : W.heap.size ≤ W'.heap.size
  same : ∀ (k : Nat) (o : Obj), ¬ (k = V ∨ (L0 ≤ k ∧ rowT o)) → W.heap[k]? = some o → o.isCells = true → W'.heap[k]? = some o
section
variable {V L0 : Nat} {W W' W'' : World}
theorem KrR.refl (V L0 : Nat) (W : World) : KrR V L0 W W := ⟨Nat.le_refl _, fun _ _ _ h _ => h⟩
theorem KrR.trans (h : KrR V L0 W W') (k : KrR V L0 W' W'') : KrR V L0 W W'' := ⟨Nat.le_trans h.size k.size, fun i o hi h1 h2 => k.same i o hi (h.same i o hi h1 h2) h2⟩
theorem KrR.putObj (V L0 : Nat) (W : World) (l : Nat) (o o' : Obj) (ho : W.heap[l]? = some o) (hc : o.isCells = false) : KrR V L0 W (W.putObj l o') :=
  ⟨(grownBy_putObj' W l o').size, fun k q _ hk hq => by
    have hne : k ≠ l := fun e => by subst e; rw [ho] at hk; injection hk with hk; subst hk; rw [hc] at hq; cases hq
    exact ((grownBy_putObj' W l o').block k (Array.getElem?_eq_some_iff.1 hk).1 (fun e => hne (by injection e))).trans hk⟩
theorem KrR.ofGrown {row : Option Nat} (h : W.grownBy W' row) (hr : ∀ k, row = some k → k = V ∨ (L0 ≤ k ∧ ∃ o, W.heap[k]? = some o ∧ rowT o)) : KrR V L0 W W' :=
  ⟨h.size, fun k o hb hk _ => (h.block k (Array.getElem?_eq_some_iff.1 hk).1 (fun e => hb (by
    rcases hr k e.symm with h | ⟨h1, o', h2, h3⟩
    · exact .inl h
    · rw [hk] at h2; injection h2 with h2; subst h2; exact .inr ⟨h1, h3⟩))).trans hk⟩
theorem KrR.ofBelow (h : Below W.heap.size W W') : KrR V L0 W W' := KrR.ofGrown (gbelow h none) fun _ e => by cases e
theorem KrR.block (h : KrR V L0 W W') (hV : L0 ≤ V) {k : Nat} {o : Obj} (hk : k < L0) (hh : W.heap[k]? = some o) (hc : o.isCells = true) : W'.heap[k]? = some o :=
  h.same k o (fun e => by rcases e with e | e <;> omega) hh hc
theorem KrR.cell (h : KrR V L0 W W') (hV : L0 ≤ V) {p : Addr} {v : Value} (hp : W.cell? p = some v) (hk : p.block < L0) : W'.cell? p = some v := by
  cases ho : W.heap[p.block]? with
  | none => simp [World.cell?, ho] at hp
  | some o =>
    cases o with
    | cells c e fr =>
      have := h.block hV hk ho rfl
      simp only [World.cell?, ho] at hp
      simp only [World.cell?, this]
      exact hp
    | _ => simp [World.cell?, ho] at hp
theorem KrR.box {T : TypeId} {g : Nat} {cs : List Value} (h : KrR V L0 W W') (hb : BoxAt T W g cs) (hg : g ≠ V) (hT : g < L0 ∨ T ≠ 132) : BoxAt T W' g cs :=
  h.same g _ (fun e => by
    rcases e with e | ⟨e1, e2⟩
    · exact hg e
    · rcases hT with h | h
      · omega
      · exact h e2) hb rfl
/-- an own row of arcs stays -/
theorem krOwnA (h : KrR V L0 W W') {base : Nat} {v : Value} {xs : List GArc} (hb : V < base) (hr : OwnF 48 cArc W base v xs) : OwnF 48 cArc W' base v xs := by
  obtain ⟨css, hl, ⟨hz, h2⟩, h3, h4⟩ := hr
  refine ⟨css, hl, ⟨hz, ?_⟩, h3, fun k hk => hk.elim⟩
  rcases h2 with h2 | ⟨g, cap, cur, e, hg, hh, r⟩
  · exact .inl h2
  · exact .inr ⟨g, cap, cur, e, hg, h.same g _ (fun e => by
      rcases e with e | ⟨_, e⟩
      · omega
      · exact absurd (show (48 : Nat) = 132 from e) (by decide)) hh rfl, r⟩
end

def goodY (base : Nat) (xs : List (GRow × Value)) (W : World) : Prop := ∀ x ∈ xs, OwnF 48 cArc W base x.2 x.1.arcs
theorem goodY.kr {V L0 base : Nat} {W W' : World} {xs : List (GRow × Value)} (h : goodY base xs W) (hk : KrR V L0 W W') (hb : V < base) : goodY base xs W' := fun x hx => krOwnA hk hb (h x hx)

end Go.Proofs.YtcffeepgfjpcaaaGreat

namespace Go.Proofs.YtcffeepgfjpcaaaGreat
set_option linter.unusedSimpArgs false
set_option linter.unusedVariables false
open Go.RowKit Go.Shelf
attribute [local go_sem] Oper.semAt_some

theorem OwnR.ownk {α : Type} {E : TypeId} {C : Cdc α} {X Y : World} {base : Nat} {v : Value} {xs : List α} {row : Option Nat} (h : OwnF E C X base v xs) (hg : X.grownBy Y row) (hr : ∀ r, row = some r → ∃ o : Obj, X.heap[r]? = some o ∧ o.isCells = false) : OwnF E C Y base v xs := by
  have h0 := h
  obtain ⟨css, hl, ⟨hz, h2⟩, h3, h4⟩ := h0
  refine h.keep hg ?_ (fun _ h => h.elim)
  rcases h2 with ⟨rfl, _⟩ | ⟨g, cap, cur, rfl, _, hh, _⟩
  · exact .inl rfl
  · refine .inr fun e => ?_
    obtain ⟨o, ho, hc⟩ := hr g e.symm
    rw [hh] at ho
    injection ho with ho
    subst ho
    cases hc
/-- an own row's block holds such things -/
theorem OwnR.blkT {α : Type} {E : TypeId} {C : Cdc α} {X : World} {base : Nat} {v : Value} {xs : List α} (h : OwnF E C X base v xs) : ∀ q, v.ownBlock = some q → ∃ cur, X.heap[q]? = some (.cells cur E (0, 0)) := by
  obtain ⟨css, hl, ⟨hz, h2⟩, h3, h4⟩ := h
  rcases h2 with ⟨rfl, _⟩ | ⟨g, cap, cur, rfl, _, hh, _⟩
  · intro q hq; simp [Value.ownBlock] at hq
  · intro q hq
    have e : g = q := by injection hq
    subst e
    exact ⟨cur, hh⟩
section
variable {F : Fence} {n : Nat} {ops : Array Oper} {rest : List Oper} {o : Oper} {a : Act} {w : World} {Q : Exit → Act → World → Prop}
theorem wpListIn_slice_row (hgd : o.guard = none) (x : Operand) (ho : o.op = .buildSlice 74 1 #[(0, x)]) (u1 u2 : Value) (hx : a.eval x = .agg #[u1, u2]) (h1 : u1.oneCell' = true)
    (h : wpListIn F n Tryz.prog ops Q rest (a.put o.dst (.slice (some ⟨w.heap.size, 0, none⟩) 1 1)) (w.alloc (.cells #[u1, u2] 132))) : wpListIn F n Tryz.prog ops Q (o :: rest) a w :=
  wpListIn_plain hgd fun K hK => by
    unfold Oper.wpIn
    refine ⟨by simp [Oper.about, ho], ?_⟩
    rw [Oper.semAt_plain F _ _ (by rw [ho]; intro c hc'; cases hc')]
    have hr := run_slice_row w u1 u2 h1
    unfold execOp
    simp only [ho, List.map_toArray, List.map_cons, List.map_nil, hx, Sem.run_bind, hr, Result.andThen_ok]
    exact hK _ _ h
theorem wpListIn_app1R {α : Type} {E : TypeId} {C : Cdc α} {S : Nat → Prop} (hgd : o.guard = none) (s x : Operand) (t : TypeId)
    (ho : o.op = .call { callee := .builtin .append, args := #[s, x], argTypes := #[t, t] })
    (ht : Tryz.prog.underlying t = some (.slice E)) {z : Value} {bytes : Nat} (hinfo : (Tryz.prog.info? E).map (fun i => (i.zero, i.size, i.bytes)) = some (some z, C.n, bytes)) (hz2 : z.cells.size = C.n) (hn0 : 0 < C.n) (hb0 : bytes ≤ 256)
    {base : Nat} {v : Value} {xs : List α} {y : α} (cs : List Value) (hown : OwnR E C w base S v xs) (hy : C.at_ w S cs y) (hs : a.eval s = v) (hx : a.eval x = .slice (some ⟨w.heap.size, 0, none⟩) 1 1)
    (hsz : xs.length ≤ 549755813887) (hbase : base ≤ w.heap.size)
    (h : ∀ v' w', OwnR E C w' base S v' (xs ++ [y]) → Ext w w' v v' → wpListIn F n Tryz.prog ops Q rest (a.put o.dst v') w') : wpListIn F n Tryz.prog ops Q (o :: rest) a (w.alloc (.cells cs.toArray E)) :=
  wpListIn_plain hgd fun K hK => by
    unfold Oper.wpIn
    refine ⟨by simp [Oper.about, ho, resolve, Target.leads], ?_⟩
    rw [Oper.semAt_plain F _ _ (by rw [ho]; intro c hc'; cases hc')]
    obtain ⟨v', w', hr, h1, h2⟩ := exec_app1R (C := C) (ρ := a.eval) (o := o) s x t ho ht hinfo hz2 hn0 hb0 cs hown hy hs hx hsz hbase
    rw [hr]
    exact hK _ _ (h v' w' h1 h2)
theorem wpListIn_store_sl (hgd : o.guard = none) (x y : Operand) (ho : o.op = .store 74 x y) (g off : Nat) (A : Option Addr) (m c : Nat) (old : Value) (hx : a.eval x = .pointer (some ⟨g, off, none⟩)) (hy : a.eval y = .slice A m c)
    (hc : w.cell? ⟨g, off, none⟩ = some old) (hf : w.frozen? ⟨g, off, none⟩ = false)
    (h : wpListIn F n Tryz.prog ops Q rest (a.put o.dst undef) (w.setCell ⟨g, off, none⟩ (.slice A m c))) : wpListIn F n Tryz.prog ops Q (o :: rest) a w :=
  wpListIn_plain hgd fun K hK => by
    unfold Oper.wpIn
    refine ⟨by simp [Oper.about, ho], ?_⟩
    rw [Oper.semAt_plain F _ _ (by rw [ho]; intro c hc'; cases hc')]
    have hr : (execOp a.eval o).run Tryz.prog w = .ok .skip (w.setCell ⟨g, off, none⟩ (.slice A m c)) := by
      unfold execOp
      simp only [ho, hx, hy]
      simp [go_sem, hc, hf]
    rw [hr]
    exact hK _ _ h
end
/-- the value reads as these rows, all in blocks from base on -/
abbrev RowsF (w : World) (base : Nat) (v : Value) (l : List GRow) : Prop := RowOn cRow w (fun k => base ≤ k ∧ k < w.heap.size) (fun k => base ≤ k ∧ k < w.heap.size) v l
theorem RowsF.byR {w : World} {base : Nat} {v : Value} {l : List GRow} (h : RowsF w base v l) : ByRw w w.heap.size v l := h.mono (fun _ h => h.2) (fun _ h => h.2)
end Go.Proofs.YtcffeepgfjpcaaaGreat

namespace Go.Proofs.YtcffeepgfjpcaaaGreat
set_option linter.unusedSimpArgs false
set_option linter.unusedVariables false
open Go.RowKit

def fullN (n fr : Nat) (x : GEdge) : Bool := decide (0 < n) && decide (fr ≠ x.fr.toNat)
set_option maxRecDepth 100000 in
set_option maxHeartbeats 3200000 in
theorem full_any (w : World) (g : Nat) (x : GEdge) (fr n c : Nat) (A : Option Addr) (vl : Value) (hb : BoxAt 166 w g [.int .u32 (fr : Int), .slice A n c, vl]) :
    Calls Tryz.prog 94 #[.pointer (some ⟨g, 0, none⟩), edgeV x] w fun e w' => e = .returned (.bool (fullN n fr x)) ∧ Below w.heap.size w w' := by
  obtain ⟨w0, hw0⟩ : ∃ w0, w0 = w.alloc (.cells (edgeC x).toArray 55) := ⟨_, rfl⟩
  have hb0 : Below w.heap.size w w0 := by rw [hw0]; exact balloc w _
  have hx0 : BoxAt 55 w0 w.heap.size (edgeC x) := by rw [hw0]; exact BoxAt.new_ _ _ _
  have hg0 := hb.bl_ hb0
  have Hw0 := Lib.hid hw0
  have Hb0 := Lib.hid hb0
  have hcs : edgeC x = [.int .u32 (x.fr.toNat : Int), .int .u32 (x.to.toNat : Int), .int .u32 (x.wt.toNat : Int)] := rfl
  have hcx := hx0.cell 0 _ rfl
  have hc0 := hg0.cell 0 _ rfl
  have hc1 := hg0.cell 1 _ rfl
  unfold edgeV fullN
  rw [hcs] at Hw0 ⊢
  clear hw0 hx0 hb0 hg0 hcs hb
  generalize x.fr.toNat = n0 at *
  generalize x.to.toNat = n1 at *
  generalize x.wt.toNat = n2 at *
  rcases Nat.eq_zero_or_pos n with h0 | h0
  · subst h0
    go_enter Tryz.func94, Tryz.ntmps94
    go_upto_region 1 with fail
    rw [← Hw0.out]
    go_quiet (fail)
    go_wp2_with fail
    go_ret
    exact ⟨by simp, bdrewN Hb0.out _⟩
  · have hd : decide ((0 : Int) < (n : Int)) = true := decide_eq_true (by omega)
    have hd2 : decide (0 < n) = true := decide_eq_true h0
    by_cases he : fr = n0
    · have hd3 : ((fr : Int) == (n0 : Int)) = true := by simp [he]
      have HE := Lib.hid he
      clear h0 he
      go_enter Tryz.func94, Tryz.ntmps94
      go_upto_region 1 with fail
      rw [← Hw0.out]
      go_quiet (fail)
      go_wp2_with fail
      go_ret
      exact ⟨by simp [HE.out], bdrewN Hb0.out _⟩
    · have hd3 : ((fr : Int) == (n0 : Int)) = false := beq_eq_false_iff_ne.2 (by omega)
      have HE := Lib.hid he
      clear h0 he
      go_enter Tryz.func94, Tryz.ntmps94
      go_upto_region 1 with fail
      rw [← Hw0.out]
      go_quiet (fail)
      go_wp2_with fail
      go_ret
      exact ⟨by have := HE.out; simp [this, hd2]; omega, bdrewN Hb0.out _⟩
end Go.Proofs.YtcffeepgfjpcaaaGreat

namespace Go.Proofs.YtcffeepgfjpcaaaGreat
set_option linter.unusedSimpArgs false
set_option linter.unusedVariables false
open Go.RowKit

/-- the merger's cells -/
abbrev mgC (fr : Nat) (va vl : Value) : List Value := [.int .u32 (fr : Int), va, vl]
def mgE (fr n s : Nat) (x : GEdge) : Int := if decide (0 < n) && decide (fr = x.fr.toNat) then (if 2147483647 < s + x.wt.toNat then 10 else 0) else (if 2147483647 < x.wt.toNat then 10 else 0)
set_option maxRecDepth 100000 in
set_option maxHeartbeats 3200000 in
theorem may_any22 (w : World) (B g : Nat) (x : GEdge) (v vl : Value) (last : List UInt8) (fr c : Nat) (A : Option Addr) (l : List GArc) (hg : BoxAt 166 w g (mgC fr (.slice A l.length c) vl))
    (hk : By w B v (keyL x)) (hl : By w B vl last) (ha : ByA w B (.slice A l.length c) l) (hB : B ≤ w.heap.size) (hle : 0 ≤ Lib.compareBytes (keyL x) last) (h0 : x.wt ≠ 0) (hs : gsum l ≤ 2147483647) (hlen : l.length ≤ 1048576) :
    Calls Tryz.prog 93 #[.pointer (some ⟨g, 0, none⟩), v] w fun e w' => e = .returned (.tuple #[edgeV x, .int .i64 (mgE fr l.length (gsum l) x)]) ∧ Below w.heap.size w w' := by
  have hof := fun W (hW : Below w.heap.size w W) => mof_any W B v x (hk.below (hW.mono hB)) (by have := hW.size; omega)
  have hsum := fun W (hW : Below w.heap.size w W) => gsum_any W B _ l (by omega) (ha.below (hW.mono hB)) (by have := hW.size; omega)
  have hcmp := fun W (hW : Below w.heap.size w W) => bcmp_any W B B v vl _ _ (hk.below (hW.mono hB)) (hl.below (hW.mono hB))
  have Hof := Lib.hid hof
  have Hsum := Lib.hid hsum
  have Hcmp := Lib.hid hcmp
  have Hg := Lib.hid hg
  clear hof hsum hcmp hk hl ha hg
  generalize l.length = n at *
  generalize gsum l = S at *
  generalize Lib.compareBytes (keyL x) last = z at *
  have hcs : edgeC x = [.int .u32 (x.fr.toNat : Int), .int .u32 (x.to.toNat : Int), .int .u32 (x.wt.toNat : Int)] := rfl
  have hz : x.wt.toNat ≠ 0 := fun e => h0 (UInt32.toNat_inj.1 e)
  have b2 := u32_lt x.wt
  obtain ⟨r, hr⟩ : ∃ r, r = mgE fr n S x := ⟨_, rfl⟩
  rw [← hr]
  unfold mgE at hr
  unfold edgeV at Hof ⊢
  rw [hcs] at Hof ⊢
  clear hcs h0
  generalize x.fr.toNat = n0 at *
  generalize x.to.toNat = n1 at *
  generalize x.wt.toNat = n2 at *
  have HR := Lib.hid hr
  clear hr
  have Hone : Hid (∀ u ∈ ([.int .u32 (n0 : Int), .int .u32 (n1 : Int), .int .u32 (n2 : Int)] : List Value), u.oneCell' = true) := Lib.hid fun u hu => by
    simp at hu
    rcases hu with rfl | rfl | rfl <;> rfl
  go_enter Tryz.func93, Tryz.ntmps93
  go_upto_region 1 with (first
    | (refine wpList_alloc_z rfl 55 rfl infoEdge zeroEc rfl ?_))
  obtain ⟨w1, hw1⟩ : ∃ w1, w1 = w.alloc (.cells zeroEc.toArray 55) := ⟨_, rfl⟩
  have hb1 : Below w.heap.size w w1 := by rw [hw1]; exact balloc _ _
  have hx1 : BoxAt 55 w1 w.heap.size zeroEc := by rw [hw1]; exact BoxAt.new_ _ _ _
  have hz1 : w1.heap.size = w.heap.size + 1 := by rw [hw1]; simp
  rw [← hw1]
  have Hb1 := Lib.hid hb1
  have X1 := Lib.hid hx1
  clear hw1 hb1 hx1
  go_wp2_with fail
  refine (Hof.out w1 Hb1.out).mono ?_
  rintro _ w2 ⟨rfl, hb2⟩
  have X2 := Lib.hid (X1.out.bl_ hb2)
  have Hb2 := Lib.hid (bstep Hb1.out hb2)
  clear hb2 X1
  go_upto_region 3 with (first
    | (refine wpList_alloc_z rfl 55 rfl infoEdge zeroEc rfl ?_)
    | (refine wpList_store_newX rfl 55 (.tmp 6) (.tmp 12) rfl zeroEc [.int .u32 (n0 : Int), .int .u32 (n1 : Int), .int .u32 (n2 : Int)] rfl rfl infoEdge3 rfl Hone.out ?_
       intro w3 hbx3 hb3 hz3))
  try simp only [Act.put, List.setIfInBounds_toArray, List.set_cons_zero, List.set_cons_succ]
  have Hb3 := Lib.hid (bstep Hb2.out hb3)
  have X3 := Lib.hid (X2.out.bl_ hb3)
  have E3 := Lib.hid hbx3
  have hG3 := Hg.out.below Hg.out.lt Hb3.out
  have hcg0 := hG3.cell 0 _ rfl
  have hcg1 := hG3.cell 1 _ rfl
  have hcg2 := hG3.cell 2 _ rfl
  have hce0 := hbx3.cell 0 _ rfl
  have hce2 := hbx3.cell 2 _ rfl
  have G3 := Lib.hid hG3
  clear hbx3 hb3 X2 Hb2 hG3
  have hn2 : ((n2 : Int) == 0) = false := beq_eq_false_iff_ne.2 (by omega)
  have hE2 : decide ((n2 : Int) = 0) = false := decide_eq_false (by omega)
  rcases Nat.eq_zero_or_pos n with hl0 | hl0
  · rw [hl0] at hcg1
    have HL : Hid (¬ 0 < n) := Lib.hid (by omega)
    clear hl0
    go_quiet (fail)
    have hb4 := bdrewN Hb3.out nq
    have E4 : Hid (BoxAt 55 (w3.drewN nq) w2.heap.size [.int .u32 (n0 : Int), .int .u32 (n1 : Int), .int .u32 (n2 : Int)]) := Lib.hid E3.out
    have X4 : Hid (BoxAt 55 (w3.drewN nq) w.heap.size zeroEc) := Lib.hid X3.out
    have Hb4 := Lib.hid hb4
    clear hb4
    go_wp2_with fail
    refine (Hcmp.out _ Hb4.out).mono ?_
    rintro _ _ ⟨rfl, rfl⟩
    have hzz : decide (z < 0) = false := decide_eq_false (by omega)
    have X5 := X4
    have E5 := E4
    have Hb5 := Hb4
    clear X4 E4 Hb4
    by_cases ho : 2147483647 < n2
    · have hov : decide ((2147483647 : Int) < (n2 : Int)) = true := decide_eq_true (by omega)
      have HO : Hid (2147483647 < n2) := ho
      go_wp2_with (first
        | (refine wpList_load_agg rfl 55 (.tmp 6) rfl ⟨w2.heap.size, 0, none⟩ rfl [.int .u32 (n0 : Int), .int .u32 (n1 : Int), .int .u32 (n2 : Int)] E5.out.cells Tryz.underlying55 rfl infoEdge3 ?_)
        | (refine wpList_store_boxX rfl 55 55 (.tmp 4) (.tmp 63) rfl w.heap.size zeroEc [.int .u32 (n0 : Int), .int .u32 (n1 : Int), .int .u32 (n2 : Int)] rfl rfl X5.out rfl Hone.out infoEdge3 ?_
           intro we hend hche hze))
      refine bodyPost_ret (results_ctX rfl _ _ w.heap.size [.int .u32 (n0 : Int), .int .u32 (n1 : Int), .int .u32 (n2 : Int)] rfl (fun j v hj => (hend.cells j v hj : _)) Tryz.underlying55 rfl infoEdge3) rfl ?_
      exact ⟨by have h1 := HO.out; rw [HR.out]; simp [HL.out, HO.out]; try omega, Hb5.out.trans (hche.below (B := w.heap.size) Hb5.out.size (fun k hk => by omega))⟩

    · have hov : decide ((2147483647 : Int) < (n2 : Int)) = false := decide_eq_false (by omega)
      have HO : Hid (¬ 2147483647 < n2) := ho
      go_wp2_with (first
        | (refine wpList_load_agg rfl 55 (.tmp 6) rfl ⟨w2.heap.size, 0, none⟩ rfl [.int .u32 (n0 : Int), .int .u32 (n1 : Int), .int .u32 (n2 : Int)] E5.out.cells Tryz.underlying55 rfl infoEdge3 ?_)
        | (refine wpList_store_boxX rfl 55 55 (.tmp 4) (.tmp 64) rfl w.heap.size zeroEc [.int .u32 (n0 : Int), .int .u32 (n1 : Int), .int .u32 (n2 : Int)] rfl rfl X5.out rfl Hone.out infoEdge3 ?_
           intro we hend hche hze))
      refine bodyPost_ret (results_ctX rfl _ _ w.heap.size [.int .u32 (n0 : Int), .int .u32 (n1 : Int), .int .u32 (n2 : Int)] rfl (fun j v hj => (hend.cells j v hj : _)) Tryz.underlying55 rfl infoEdge3) rfl ?_
      exact ⟨by have h1 := HO.out; rw [HR.out]; simp [HL.out, HO.out]; try omega, Hb5.out.trans (hche.below (B := w.heap.size) Hb5.out.size (fun k hk => by omega))⟩

  · have hd : decide ((0 : Int) < (n : Int)) = true := decide_eq_true (by omega)
    have hd9 : decide (0 < n) = true := decide_eq_true hl0
    have HL : Hid (0 < n) := Lib.hid (by omega)
    by_cases he : fr = n0
    · have hd3 : ((fr : Int) == (n0 : Int)) = true := by simp [he]
      have HE := Lib.hid he
      clear he hl0
      go_quiet (fail)
      have hb4 := bdrewN Hb3.out nq
      have E4 : Hid (BoxAt 55 (w3.drewN nq) w2.heap.size [.int .u32 (n0 : Int), .int .u32 (n1 : Int), .int .u32 (n2 : Int)]) := Lib.hid E3.out
      have X4 : Hid (BoxAt 55 (w3.drewN nq) w.heap.size zeroEc) := Lib.hid X3.out
      have Hb4 := Lib.hid hb4
      clear hb4
      go_wp2_with fail
      refine (Hsum.out _ Hb4.out).mono ?_
      rintro _ w6 ⟨rfl, hb6⟩
      have G4 : Hid (BoxAt 166 (w3.drewN nq) g (mgC fr (.slice A n c) vl)) := Lib.hid G3.out
      have hcg26 := (G4.out.bl_ hb6).cell 2 _ rfl
      have hce26 := (E4.out.bl_ hb6).cell 2 _ rfl
      have E6 := Lib.hid (E4.out.bl_ hb6)
      have X6 := Lib.hid (X4.out.bl_ hb6)
      have Hb6 := Lib.hid (bstep Hb4.out hb6)
      clear hb6 E4 X4 Hb4 hcg0 hcg1 hcg2 hce0 hce2
      have E4 := E6
      have X4 := X6
      have Hb4 := Hb6
      clear E6 X6 Hb6
      go_wp2_with fail
      refine (Hcmp.out _ Hb4.out).mono ?_
      rintro _ _ ⟨rfl, rfl⟩
      have hzz : decide (z < 0) = false := decide_eq_false (by omega)
      have X5 := X4
      have E5 := E4
      have Hb5 := Hb4
      clear X4 E4 Hb4
      by_cases ho : 2147483647 - S < n2
      · have hov : decide ((2147483647 : Int) - (S : Int) < (n2 : Int)) = true := decide_eq_true (by omega)
        have HO : Hid (2147483647 - S < n2) := ho
        go_wp2_with (first
          | (refine wpList_load_agg rfl 55 (.tmp 6) rfl ⟨w2.heap.size, 0, none⟩ rfl [.int .u32 (n0 : Int), .int .u32 (n1 : Int), .int .u32 (n2 : Int)] E5.out.cells Tryz.underlying55 rfl infoEdge3 ?_)
          | (refine wpList_store_boxX rfl 55 55 (.tmp 4) (.tmp 63) rfl w.heap.size zeroEc [.int .u32 (n0 : Int), .int .u32 (n1 : Int), .int .u32 (n2 : Int)] rfl rfl X5.out rfl Hone.out infoEdge3 ?_
             intro we hend hche hze))
        refine bodyPost_ret (results_ctX rfl _ _ w.heap.size [.int .u32 (n0 : Int), .int .u32 (n1 : Int), .int .u32 (n2 : Int)] rfl (fun j v hj => (hend.cells j v hj : _)) Tryz.underlying55 rfl infoEdge3) rfl ?_
        exact ⟨by have h1 := HO.out; rw [HR.out]; simp [HL.out, HE.out, HO.out]; try omega, Hb5.out.trans (hche.below (B := w.heap.size) Hb5.out.size (fun k hk => by omega))⟩

      · have hov : decide ((2147483647 : Int) - (S : Int) < (n2 : Int)) = false := decide_eq_false (by omega)
        have HO : Hid (¬ 2147483647 - S < n2) := ho
        go_wp2_with (first
          | (refine wpList_load_agg rfl 55 (.tmp 6) rfl ⟨w2.heap.size, 0, none⟩ rfl [.int .u32 (n0 : Int), .int .u32 (n1 : Int), .int .u32 (n2 : Int)] E5.out.cells Tryz.underlying55 rfl infoEdge3 ?_)
          | (refine wpList_store_boxX rfl 55 55 (.tmp 4) (.tmp 64) rfl w.heap.size zeroEc [.int .u32 (n0 : Int), .int .u32 (n1 : Int), .int .u32 (n2 : Int)] rfl rfl X5.out rfl Hone.out infoEdge3 ?_
             intro we hend hche hze))
        refine bodyPost_ret (results_ctX rfl _ _ w.heap.size [.int .u32 (n0 : Int), .int .u32 (n1 : Int), .int .u32 (n2 : Int)] rfl (fun j v hj => (hend.cells j v hj : _)) Tryz.underlying55 rfl infoEdge3) rfl ?_
        exact ⟨by have h1 := HO.out; rw [HR.out]; simp [HL.out, HE.out, HO.out]; try omega, Hb5.out.trans (hche.below (B := w.heap.size) Hb5.out.size (fun k hk => by omega))⟩

    · have hd3 : ((fr : Int) == (n0 : Int)) = false := beq_eq_false_iff_ne.2 (by omega)
      have HE := Lib.hid he
      clear he hl0
      go_quiet (fail)
      have hb4 := bdrewN Hb3.out nq
      have E4 : Hid (BoxAt 55 (w3.drewN nq) w2.heap.size [.int .u32 (n0 : Int), .int .u32 (n1 : Int), .int .u32 (n2 : Int)]) := Lib.hid E3.out
      have X4 : Hid (BoxAt 55 (w3.drewN nq) w.heap.size zeroEc) := Lib.hid X3.out
      have Hb4 := Lib.hid hb4
      clear hb4
      go_wp2_with fail
      refine (Hcmp.out _ Hb4.out).mono ?_
      rintro _ _ ⟨rfl, rfl⟩
      have hzz : decide (z < 0) = false := decide_eq_false (by omega)
      have X5 := X4
      have E5 := E4
      have Hb5 := Hb4
      clear X4 E4 Hb4
      by_cases ho : 2147483647 < n2
      · have hov : decide ((2147483647 : Int) < (n2 : Int)) = true := decide_eq_true (by omega)
        have HO : Hid (2147483647 < n2) := ho
        go_wp2_with (first
          | (refine wpList_load_agg rfl 55 (.tmp 6) rfl ⟨w2.heap.size, 0, none⟩ rfl [.int .u32 (n0 : Int), .int .u32 (n1 : Int), .int .u32 (n2 : Int)] E5.out.cells Tryz.underlying55 rfl infoEdge3 ?_)
          | (refine wpList_store_boxX rfl 55 55 (.tmp 4) (.tmp 63) rfl w.heap.size zeroEc [.int .u32 (n0 : Int), .int .u32 (n1 : Int), .int .u32 (n2 : Int)] rfl rfl X5.out rfl Hone.out infoEdge3 ?_
             intro we hend hche hze))
        refine bodyPost_ret (results_ctX rfl _ _ w.heap.size [.int .u32 (n0 : Int), .int .u32 (n1 : Int), .int .u32 (n2 : Int)] rfl (fun j v hj => (hend.cells j v hj : _)) Tryz.underlying55 rfl infoEdge3) rfl ?_
        exact ⟨by have h1 := HO.out; rw [HR.out]; simp [HL.out, HE.out, HO.out]; try omega, Hb5.out.trans (hche.below (B := w.heap.size) Hb5.out.size (fun k hk => by omega))⟩

      · have hov : decide ((2147483647 : Int) < (n2 : Int)) = false := decide_eq_false (by omega)
        have HO : Hid (¬ 2147483647 < n2) := ho
        go_wp2_with (first
          | (refine wpList_load_agg rfl 55 (.tmp 6) rfl ⟨w2.heap.size, 0, none⟩ rfl [.int .u32 (n0 : Int), .int .u32 (n1 : Int), .int .u32 (n2 : Int)] E5.out.cells Tryz.underlying55 rfl infoEdge3 ?_)
          | (refine wpList_store_boxX rfl 55 55 (.tmp 4) (.tmp 64) rfl w.heap.size zeroEc [.int .u32 (n0 : Int), .int .u32 (n1 : Int), .int .u32 (n2 : Int)] rfl rfl X5.out rfl Hone.out infoEdge3 ?_
             intro we hend hche hze))
        refine bodyPost_ret (results_ctX rfl _ _ w.heap.size [.int .u32 (n0 : Int), .int .u32 (n1 : Int), .int .u32 (n2 : Int)] rfl (fun j v hj => (hend.cells j v hj : _)) Tryz.underlying55 rfl infoEdge3) rfl ?_
        exact ⟨by have h1 := HO.out; rw [HR.out]; simp [HL.out, HE.out, HO.out]; try omega, Hb5.out.trans (hche.below (B := w.heap.size) Hb5.out.size (fun k hk => by omega))⟩

end Go.Proofs.YtcffeepgfjpcaaaGreat

namespace Go.Proofs.YtcffeepgfjpcaaaGreat
set_option linter.unusedSimpArgs false
set_option linter.unusedVariables false
open Go.RowKit

theorem OwnR.drew_T {α : Type} {E : TypeId} {C : Cdc α} {w : World} {base : Nat} {S : Nat → Prop} {v : Value} {xs : List α} (h : OwnR E C w base S v xs) : OwnR E C w.drew base S v xs := h.below_ (Below.refl _ _).drew
set_option maxRecDepth 100000 in
set_option maxHeartbeats 3200000 in
theorem take_new (w : World) (g : Nat) (x : GEdge) (fr n c : Nat) (A : Option Addr) (vl : Value) (hb : BoxAt 166 w g (mgC fr (.slice A n c) vl)) (hn : fullN n fr x = true ∨ n = 0) :
    Calls Tryz.prog 95 #[.pointer (some ⟨g, 0, none⟩), edgeV x] w fun e w' => e = .returned (.tuple #[]) ∧ ∃ va, BoxAt 166 w' g (mgC x.fr.toNat va vl) ∧
      OwnF 48 cArc w' w.heap.size va [⟨x.to, x.wt⟩] ∧ Chg (fun k => k = g) w w' := by
  obtain ⟨w0, hw0⟩ : ∃ w0, w0 = w.alloc (.cells (edgeC x).toArray 55) := ⟨_, rfl⟩
  have hb0 : Below w.heap.size w w0 := by rw [hw0]; exact balloc w _
  have hx0 : BoxAt 55 w0 w.heap.size (edgeC x) := by rw [hw0]; exact BoxAt.new_ _ _ _
  have hgl := hb.lt
  have hg0 := hb.bl_ hb0
  have hfu := fun W (hW : Below w.heap.size w W) => full_any W g x fr n c A vl (hb.below hb.lt hW)
  have Hfu := Lib.hid hfu
  have Hw0 := Lib.hid hw0
  have Hb0 := Lib.hid hb0
  have X0 := Lib.hid hx0
  have G0 := Lib.hid hg0
  have hz0 : w0.heap.size = w.heap.size + 1 := by rw [hw0]; simp
  have Hn := Lib.hid hn
  have hcs : edgeC x = [.int .u32 (x.fr.toNat : Int), .int .u32 (x.to.toNat : Int), .int .u32 (x.wt.toNat : Int)] := rfl
  obtain ⟨ar, har⟩ : ∃ ar : GArc, ar = ⟨x.to, x.wt⟩ := ⟨_, rfl⟩
  have har1 : ar.to.toNat = x.to.toNat := by rw [har]
  have har2 : ar.wt.toNat = x.wt.toNat := by rw [har]
  have HAr : Hid (∀ W : World, cArc.at_ W (fun _ => True) [.int .u32 (x.to.toNat : Int), .int .u32 (x.wt.toNat : Int)] ar) := Lib.hid fun W => by rw [har]; exact ⟨rfl, trivial⟩
  rw [← har]
  unfold edgeV at Hfu ⊢
  rw [hcs] at Hw0 X0 Hfu ⊢
  clear hw0 hx0 hb0 hg0 hcs hb hfu hn har
  generalize fullN n fr x = fu at *
  generalize x.fr.toNat = n0 at *
  generalize x.to.toNat = n1 at *
  generalize x.wt.toNat = n2 at *
  go_enter Tryz.func95, Tryz.ntmps95
  go_upto_region 1 with fail
  rw [← Hw0.out]
  go_wp2_with (refine wpList_load_agg rfl 55 (.tmp 3) rfl ⟨w.heap.size, 0, none⟩ rfl [.int .u32 (n0 : Int), .int .u32 (n1 : Int), .int .u32 (n2 : Int)] X0.out.cells Tryz.underlying55 rfl infoEdge3 ?_)
  refine (Hfu.out w0 Hb0.out).mono ?_
  rintro _ w1 ⟨rfl, hb1⟩
  have X1 := Lib.hid (X0.out.bl_ hb1)
  have hG1 := G0.out.bl_ hb1
  have Hb1 := Lib.hid (bstep Hb0.out hb1)
  have hc0 := hG1.cell 0 _ rfl
  have hc1 := hG1.cell 1 _ rfl
  have hf0 := hG1.frozen 0
  have hf1 := hG1.frozen 1
  have hx0 := X1.out.cell 0 _ rfl
  have hgne : ¬ w.heap.size = g := by omega
  have hgne2 : ¬ g = w.heap.size := by omega
  have G1 := Lib.hid hG1
  clear hb1 hG1 X0 G0 Hb0
  cases fu with
  | true =>
    go_upto_region 4 with fail
    have G2 : Hid (BoxAt 166 ((w1.setCell { block := g, off := 0 } (Value.int IntKind.u32 ↑n0)).setCell { block := g, off := 1 } (Value.slice none 0 0)) g (mgC n0 (.slice none 0 0) vl)) := Lib.hid ((G1.out.put 0 (.int .u32 n0)).put 1 (.slice none 0 0))
    have X2 : Hid (BoxAt 55 ((w1.setCell { block := g, off := 0 } (Value.int IntKind.u32 ↑n0)).setCell { block := g, off := 1 } (Value.slice none 0 0)) w.heap.size [.int .u32 (n0 : Int), .int .u32 (n1 : Int), .int .u32 (n2 : Int)]) := Lib.hid ((X1.out.other _ _ (by show g ≠ w.heap.size; omega)).other _ _ (by show g ≠ w.heap.size; omega))
    have hch : Chg (fun k => k = g) w ((w1.setCell { block := g, off := 0 } (Value.int IntKind.u32 ↑n0)).setCell { block := g, off := 1 } (Value.slice none 0 0)) := ((Chg.ofBelow Hb1.out).trans (Chg.set (P := fun k => k = g) _ ⟨g, 0, none⟩ _ rfl)).trans (Chg.set (P := fun k => k = g) _ ⟨g, 1, none⟩ _ rfl)
    have Hch := Lib.hid hch
    clear hc0 hc1 hf0 hf1 hx0 hch G1 X1
    generalize ((w1.setCell { block := g, off := 0 } (Value.int IntKind.u32 ↑n0)).setCell { block := g, off := 1 } (Value.slice none 0 0)) = w2 at *
    go_quiet (fail)
    have G3 : Hid (BoxAt 166 (w2.drewN nq) g (mgC n0 (.slice none 0 0) vl)) := Lib.hid G2.out
    have X3 : Hid (BoxAt 55 (w2.drewN nq) w.heap.size [.int .u32 (n0 : Int), .int .u32 (n1 : Int), .int .u32 (n2 : Int)]) := Lib.hid X2.out
    have Hch3 : Hid (Chg (fun k => k = g) w (w2.drewN nq)) := Lib.hid (Hch.out.trans (Chg.ofBelow (bdrewN (Below.refl _ _) nq)))
    have hz3 := Hch3.out.size
    have O3 : Hid (OwnF 48 cArc (w2.drewN nq) w.heap.size (.slice none 0 0) []) := Lib.hid (OwnF.nil_ _ _)
    clear G2 X2 Hch
    generalize w2.drewN nq = w3 at *
    go_upto_region 6 with fail
    refine wp_region_mixSL (ds := [61, 62, 63, 64, 65, 66, 67, 68, 69, 70, 71, 72, 73, 74, 75, 76]) 17 (fun bb vs W' => BoxAt 166 W' g (mgC n0 (cond (bb 16) (vs 12) ((Value.slice none 0 0))) vl) ∧ BoxAt 55 W' w.heap.size [.int .u32 (n0 : Int), .int .u32 (n1 : Int), .int .u32 (n2 : Int)] ∧ Chg (fun k => k = g ∨ (Value.slice none 0 0).ownBlock = some k) w3 W' ∧ OwnF 48 cArc W' w.heap.size (cond (bb 12) (vs 12) ((Value.slice none 0 0))) (([] : List GArc) ++ cond (bb 12) [ar] []) ∧ TmpT 48 [.int .u32 (n1 : Int), .int .u32 (n2 : Int)] W' (bb 11) (bb 12) (vs 11) ∧ (bb 16 = true → bb 5 = true) ∧ (bb 16 = true → bb 12 = true)) [some 61, some 62, some 63, some 64, some 65, some 66, some 67, some 68, some 69, some 70, some 71, some 72, some 73, some 74, some 75, some 76, none]
      [fun v => v = .pointer (some ⟨g, 0, none⟩), fun v => v = .pointer (some ⟨g, 0, none⟩), fun v => v = .pointer (some ⟨g, 0, none⟩), fun v => v = .pointer (some ⟨g, 0, none⟩), fun v => v = .pointer (some ⟨g, 1, none⟩), fun v => v = (Value.slice none 0 0), fun v => v = .pointer (some ⟨w.heap.size, 1, none⟩), fun v => v = .int .u32 (n1 : Int), fun v => v = .pointer (some ⟨w.heap.size, 2, none⟩), fun v => v = .int .u32 (n2 : Int), fun v => v = .agg #[.int .u32 (n1 : Int), .int .u32 (n2 : Int)], fun _ => True, fun _ => True, fun v => v = .pointer (some ⟨g, 0, none⟩), fun v => v = .pointer (some ⟨g, 0, none⟩), fun v => v = .pointer (some ⟨g, 1, none⟩), fun _ => True]
      rfl rfl rfl (by kernel_rfl) (by kernel_rfl) ?_ (fun _ => ⟨G3.out, X3.out, Chg.ofBelow ⟨rfl, rfl, rfl, Nat.le_refl _, fun _ _ => rfl⟩, by simpa using (show OwnF 48 cArc w3.drew w.heap.size ((Value.slice none 0 0)) (([] : List GArc)) from O3.out.drew_T), fun h _ => (by cases h), fun h => (by cases h), fun h => (by cases h)⟩) ?_
    · refine ⟨?_, ?_, ?_, ?_, ?_, ?_, ?_, ?_, ?_, ?_, ?_, ?_, ?_, ?_, ?_, ?_, ?_, trivial⟩
      · -- 0: slot 61 := Op.move t0
        refine obS_yes fun f bb w' hj hs hd hp => ?_
        simp [PreO, factO, valOf, Region.binds] at hp hd
        refine ⟨by simp [Gd, valOf, hp], ?_⟩
        refine mildS_val (.pointer (some ⟨g, 0, none⟩)) (w' := w') ?_ rfl (by simpa using hj)
        simp [execOp, evalF, hp, go_sem]
      · -- 1: slot 62 := Op.move t0
        refine obS_yes fun f bb w' hj hs hd hp => ?_
        simp [PreO, factO, valOf, Region.binds] at hp hd
        refine ⟨by simp [Gd, valOf, hp], ?_⟩
        refine mildS_val (.pointer (some ⟨g, 0, none⟩)) (w' := w') ?_ rfl (by simpa using hj)
        simp [execOp, evalF, hp, go_sem]
      · -- 2: slot 63 := Op.nilCheck t62
        refine obS_yes fun f bb w' hj hs hd hp => ?_
        simp [PreO, factO, valOf, Region.binds] at hp hd
        refine ⟨by simp [Gd, valOf, hp], ?_⟩
        refine mildS_val (.pointer (some ⟨g, 0, none⟩)) (w' := w') ?_ rfl (by simpa using hj)
        simp [execOp, evalF, hp, go_sem]
      · -- 3: slot 64 := Op.fieldAddr 166 t63 0
        refine obS_yes fun f bb w' hj hs hd hp => ?_
        simp [PreO, factO, valOf, Region.binds] at hp hd
        refine ⟨by simp [Gd, valOf, hp], ?_⟩
        refine mildS_val (.pointer (some ⟨g, 0, none⟩)) (w' := w') ?_ rfl (by simpa using hj)
        simp [execOp, evalF, hp, go_sem]
      · -- 4: slot 65 := Op.fieldAddr 132 t64 1
        refine obS_yes fun f bb w' hj hs hd hp => ?_
        simp [PreO, factO, valOf, Region.binds] at hp hd
        refine ⟨by simp [Gd, valOf, hp], ?_⟩
        refine mildS_val (.pointer (some ⟨g, 1, none⟩)) (w' := w') ?_ rfl (by simpa using hj)
        simp [execOp, evalF, hp, go_sem]
      · -- 5: slot 66 := Op.load 45 t65
        refine obS_yes fun f bb w' hj hs hd hp => ?_
        simp [PreO, factO, valOf, Region.binds] at hp hd
        refine ⟨by simp [Gd, valOf, hp], ?_⟩
        have h16 : bb 16 = false := by cases hx : bb 16 with | false => rfl | true => rw [hj.2.2.2.2.2.1 hx] at hs; cases hs
        have hc : w'.cell? ⟨g, 1, none⟩ = some ((Value.slice none 0 0)) := by have h := hj.1; rw [h16] at h; exact BoxAt.cell h 1 _ rfl
        refine mildS_val ((Value.slice none 0 0)) (w' := w') ?_ rfl (by obtain ⟨j1, j2, j3, j4, j5, j6, j7⟩ := hj; exact ⟨by simpa using j1, j2, j3, by simpa using j4, by simpa using j5, by simp, by simpa using j7⟩)
        simp [execOp, evalF, hp, go_sem, hc]
      · -- 6: slot 67 := Op.fieldAddr 55 t3 1
        refine obS_yes fun f bb w' hj hs hd hp => ?_
        simp [PreO, factO, valOf, Region.binds] at hp hd
        refine ⟨by simp [Gd, valOf, hp], ?_⟩
        refine mildS_val (.pointer (some ⟨w.heap.size, 1, none⟩)) (w' := w') ?_ rfl (by simpa using hj)
        simp [execOp, evalF, hp, go_sem]
      · -- 7: slot 68 := Op.load 24 t67
        refine obS_yes fun f bb w' hj hs hd hp => ?_
        simp [PreO, factO, valOf, Region.binds] at hp hd
        refine ⟨by simp [Gd, valOf, hp], ?_⟩
        have hc : w'.cell? ⟨w.heap.size, 1, none⟩ = some (.int .u32 (n1 : Int)) := hj.2.1.cell 1 _ rfl
        refine mildS_val (.int .u32 (n1 : Int)) (w' := w') ?_ rfl (by simpa using hj)
        simp [execOp, evalF, hp, go_sem, hc]
      · -- 8: slot 69 := Op.fieldAddr 55 t3 2
        refine obS_yes fun f bb w' hj hs hd hp => ?_
        simp [PreO, factO, valOf, Region.binds] at hp hd
        refine ⟨by simp [Gd, valOf, hp], ?_⟩
        refine mildS_val (.pointer (some ⟨w.heap.size, 2, none⟩)) (w' := w') ?_ rfl (by simpa using hj)
        simp [execOp, evalF, hp, go_sem]
      · -- 9: slot 70 := Op.load 24 t69
        refine obS_yes fun f bb w' hj hs hd hp => ?_
        simp [PreO, factO, valOf, Region.binds] at hp hd
        refine ⟨by simp [Gd, valOf, hp], ?_⟩
        have hc : w'.cell? ⟨w.heap.size, 2, none⟩ = some (.int .u32 (n2 : Int)) := hj.2.1.cell 2 _ rfl
        refine mildS_val (.int .u32 (n2 : Int)) (w' := w') ?_ rfl (by simpa using hj)
        simp [execOp, evalF, hp, go_sem, hc]
      · -- 10: slot 71 := Op.build 48 #[(0, t68), (1, t70)]
        refine obS_yes fun f bb w' hj hs hd hp => ?_
        simp [PreO, factO, valOf, Region.binds] at hp hd
        refine ⟨by simp [Gd, valOf, hp], ?_⟩
        refine mildS_val (.agg #[.int .u32 (n1 : Int), .int .u32 (n2 : Int)]) (w' := w') ?_ rfl (by simpa using hj)
        simp [execOp, evalF, hp, go_sem]
      · -- 11: slot 72 := Op.buildSlice 45 1 #[(0, t71)]
        refine obS_yes fun f bb w' hj hs hd hp => ?_
        simp [PreO, factO, valOf, Region.binds] at hp hd
        refine ⟨by simp [Gd, valOf, hp], ?_⟩
        obtain ⟨j1, j2, j3, j4, j5, j6, j7⟩ := hj
        refine mildS_val (.slice (some ⟨w'.heap.size, 0, none⟩) 1 1) (w' := w'.alloc (.cells #[.int .u32 (n1 : Int), .int .u32 (n2 : Int)] 48)) ?_ trivial ⟨by simpa using j1.bl_ (balloc _ _), j2.bl_ (balloc _ _), j3.trans (Chg.ofBelow (balloc _ _)), by simpa using j4.below_ (balloc _ _), fun _ _ => ⟨_, by simp, BoxAt.new_ _ _ [.int .u32 (n1 : Int), .int .u32 (n2 : Int)]⟩, by simpa using j6, by simpa using j7⟩
        have hr := run_slice_arcT w' (n1 : Int) (n2 : Int)
        simp [execOp, evalF, hp, hr]
      · -- 12: slot 73 := Op.call   builtin append, args := #[t66, t72], argTypes := #[45, 45]  
        refine obS_yes fun f bb w' hj hs hd hp => ?_
        simp [PreO, factO, valOf, Region.binds] at hp hd
        refine ⟨by simp [Gd, valOf, hp], ?_⟩
        obtain ⟨j1, j2, j3, j4, j5, j6, j7⟩ := hj
        have h16 : bb 16 = false := by cases hx : bb 16 with | false => rfl | true => rw [j7 hx] at hs; cases hs
        have h11 : bb 11 = true := by first | exact hd.1 | exact hd.2.1 | exact hd.2 | exact hd | simp_all
        obtain ⟨q, hv11, hq⟩ := j5 h11 hs
        have k4 : OwnF 48 cArc w' w.heap.size ((Value.slice none 0 0)) (([] : List GArc)) := by rw [hs] at j4; simpa using j4
        have k1 := j1
        rw [h16] at k1
        refine mildS_ex (exec_appR (C := cArc) (O := fun _ => True) (.tmp 66) (.tmp 72) 45 rfl Tryz.underlying45 infoArc (by kernel_rfl) (by decide) (by decide) k4 (rowOfBoxT hq (HAr.out w')) (by simp [evalF, hp]) (by simpa [evalF, valOf] using hv11) (by simp) (Nat.le_trans (hz3) j3.size)) ?_
        intro v' w3 g1 g2
        refine ⟨trivial, ?_, boxKeptT (by decide) k4 g2 j2, j3.trans (Chg.ofGrown g2.gr fun k e => .inr e), by simpa using g1, by simp [TmpT], by simpa using j6, by simp [h16]⟩
        simp only [h16]
        exact boxKeptT (by decide) k4 g2 k1
      · -- 13: slot 74 := Op.nilCheck t61
        refine obS_yes fun f bb w' hj hs hd hp => ?_
        simp [PreO, factO, valOf, Region.binds] at hp hd
        refine ⟨by simp [Gd, valOf, hp], ?_⟩
        refine mildS_val (.pointer (some ⟨g, 0, none⟩)) (w' := w') ?_ rfl (by simpa using hj)
        simp [execOp, evalF, hp, go_sem]
      · -- 14: slot 75 := Op.fieldAddr 166 t74 0
        refine obS_yes fun f bb w' hj hs hd hp => ?_
        simp [PreO, factO, valOf, Region.binds] at hp hd
        refine ⟨by simp [Gd, valOf, hp], ?_⟩
        refine mildS_val (.pointer (some ⟨g, 0, none⟩)) (w' := w') ?_ rfl (by simpa using hj)
        simp [execOp, evalF, hp, go_sem]
      · -- 15: slot 76 := Op.fieldAddr 132 t75 1
        refine obS_yes fun f bb w' hj hs hd hp => ?_
        simp [PreO, factO, valOf, Region.binds] at hp hd
        refine ⟨by simp [Gd, valOf, hp], ?_⟩
        refine mildS_val (.pointer (some ⟨g, 1, none⟩)) (w' := w') ?_ rfl (by simpa using hj)
        simp [execOp, evalF, hp, go_sem]
      · -- 16: slot None := Op.store 45 t76 t73
        refine obS_yes fun f bb w' hj hs hd hp => ?_
        simp [PreO, factO, valOf, Region.binds] at hp hd
        refine ⟨by simp [Gd, valOf, hp], ?_⟩
        obtain ⟨j1, j2, j3, j4, j5, j6, j7⟩ := hj
        have h5 : bb 5 = true := by simp_all
        have h12 : bb 12 = true := by simp_all
        have hc := j1.cell 1 _ rfl
        have hf := j1.frozen 1
        have k4 : OwnF 48 cArc w' w.heap.size (f 73) (([] : List GArc) ++ [ar]) := by have h := j4; rw [h12] at h; exact h
        obtain ⟨A9, c9, e9, _, _, _⟩ := k4.form'
        refine mildS_skip (w' := w'.setCell ⟨g, 1, none⟩ (f 73)) ?_ trivial ⟨?_, j2.other _ _ (by show g ≠ w.heap.size; omega), j3.trans (Chg.set _ _ _ (.inl rfl)), ?_, ?_, by simp [h5], by simp [h12]⟩
        · simp [execOp, evalF, hp, go_sem, hc, hf, e9]
        · exact j1.put 1 (f 73)
        · exact ownSetT (by decide) j4 j1 1 (f 73)
        · simpa using TmpT.set (by decide) j5 j1 1 (f 73)
    · intro f bb wd hall hj hp
      simp only [PostO] at hp
      obtain ⟨e0, e1, e2, e3, e4, e5, e6, e7, e8, e9, e10, _, _, e13, e14, e15, _, _⟩ := hp
      simp only [fills, List.foldl_cons, List.foldl_nil, Act.put, List.setIfInBounds_toArray, List.set_cons_zero, List.set_cons_succ, e0, e1, e2, e3, e4, e5, e6, e7, e8, e9, e10, e13, e14, e15]
      clear e0 e1 e2 e3 e4 e5 e6 e7 e8 e9 e10 e13 e14 e15
      simp only [List.drop_succ_cons, List.drop_zero]
      obtain ⟨j1, j2, j3, j4, j5, j6, j7⟩ := hj
      have b12 : bb 12 = true := hall 12 (by decide)
      have b16 : bb 16 = true := hall 16 (by decide)
      rw [b16] at j1
      rw [b12] at j4
      have k1 : BoxAt 166 wd g (mgC n0 (f 73) vl) := j1
      have k4 : OwnF 48 cArc wd w.heap.size (f 73) [ar] := j4
      clear j1 j4
      generalize f 73 = va at *
      go_wp2_with fail
      go_end0
      exact ⟨rfl, va, k1, k4, Hch3.out.trans (Chg.more j3 fun k _ hk => hk.elim id fun h => by simp [Value.ownBlock] at h)⟩
  | false =>
    obtain rfl : n = 0 := by rcases Hn.out with h | h; cases h; exact h
    go_upto_region 4 with fail
    have G2 : Hid (BoxAt 166 ((w1.setCell { block := g, off := 0 } (Value.int IntKind.u32 ↑n0)).setCell { block := g, off := 1 } (Value.slice none 0 0)) g (mgC n0 (.slice none 0 0) vl)) := Lib.hid ((G1.out.put 0 (.int .u32 n0)).put 1 (.slice none 0 0))
    have X2 : Hid (BoxAt 55 ((w1.setCell { block := g, off := 0 } (Value.int IntKind.u32 ↑n0)).setCell { block := g, off := 1 } (Value.slice none 0 0)) w.heap.size [.int .u32 (n0 : Int), .int .u32 (n1 : Int), .int .u32 (n2 : Int)]) := Lib.hid ((X1.out.other _ _ (by show g ≠ w.heap.size; omega)).other _ _ (by show g ≠ w.heap.size; omega))
    have hch : Chg (fun k => k = g) w ((w1.setCell { block := g, off := 0 } (Value.int IntKind.u32 ↑n0)).setCell { block := g, off := 1 } (Value.slice none 0 0)) := ((Chg.ofBelow Hb1.out).trans (Chg.set (P := fun k => k = g) _ ⟨g, 0, none⟩ _ rfl)).trans (Chg.set (P := fun k => k = g) _ ⟨g, 1, none⟩ _ rfl)
    have Hch := Lib.hid hch
    clear hc0 hc1 hf0 hf1 hx0 hch G1 X1
    generalize ((w1.setCell { block := g, off := 0 } (Value.int IntKind.u32 ↑n0)).setCell { block := g, off := 1 } (Value.slice none 0 0)) = w2 at *
    go_quiet (fail)
    have G3 : Hid (BoxAt 166 (w2.drewN nq) g (mgC n0 (.slice none 0 0) vl)) := Lib.hid G2.out
    have X3 : Hid (BoxAt 55 (w2.drewN nq) w.heap.size [.int .u32 (n0 : Int), .int .u32 (n1 : Int), .int .u32 (n2 : Int)]) := Lib.hid X2.out
    have Hch3 : Hid (Chg (fun k => k = g) w (w2.drewN nq)) := Lib.hid (Hch.out.trans (Chg.ofBelow (bdrewN (Below.refl _ _) nq)))
    have hz3 := Hch3.out.size
    have O3 : Hid (OwnF 48 cArc (w2.drewN nq) w.heap.size (.slice none 0 0) []) := Lib.hid (OwnF.nil_ _ _)
    clear G2 X2 Hch
    generalize w2.drewN nq = w3 at *
    go_upto_region 6 with fail
    refine wp_region_mixSL (ds := [61, 62, 63, 64, 65, 66, 67, 68, 69, 70, 71, 72, 73, 74, 75, 76]) 17 (fun bb vs W' => BoxAt 166 W' g (mgC n0 (cond (bb 16) (vs 12) ((Value.slice none 0 0))) vl) ∧ BoxAt 55 W' w.heap.size [.int .u32 (n0 : Int), .int .u32 (n1 : Int), .int .u32 (n2 : Int)] ∧ Chg (fun k => k = g ∨ (Value.slice none 0 0).ownBlock = some k) w3 W' ∧ OwnF 48 cArc W' w.heap.size (cond (bb 12) (vs 12) ((Value.slice none 0 0))) (([] : List GArc) ++ cond (bb 12) [ar] []) ∧ TmpT 48 [.int .u32 (n1 : Int), .int .u32 (n2 : Int)] W' (bb 11) (bb 12) (vs 11) ∧ (bb 16 = true → bb 5 = true) ∧ (bb 16 = true → bb 12 = true)) [some 61, some 62, some 63, some 64, some 65, some 66, some 67, some 68, some 69, some 70, some 71, some 72, some 73, some 74, some 75, some 76, none]
      [fun v => v = .pointer (some ⟨g, 0, none⟩), fun v => v = .pointer (some ⟨g, 0, none⟩), fun v => v = .pointer (some ⟨g, 0, none⟩), fun v => v = .pointer (some ⟨g, 0, none⟩), fun v => v = .pointer (some ⟨g, 1, none⟩), fun v => v = (Value.slice none 0 0), fun v => v = .pointer (some ⟨w.heap.size, 1, none⟩), fun v => v = .int .u32 (n1 : Int), fun v => v = .pointer (some ⟨w.heap.size, 2, none⟩), fun v => v = .int .u32 (n2 : Int), fun v => v = .agg #[.int .u32 (n1 : Int), .int .u32 (n2 : Int)], fun _ => True, fun _ => True, fun v => v = .pointer (some ⟨g, 0, none⟩), fun v => v = .pointer (some ⟨g, 0, none⟩), fun v => v = .pointer (some ⟨g, 1, none⟩), fun _ => True]
      rfl rfl rfl (by kernel_rfl) (by kernel_rfl) ?_ (fun _ => ⟨G3.out, X3.out, Chg.ofBelow ⟨rfl, rfl, rfl, Nat.le_refl _, fun _ _ => rfl⟩, by simpa using (show OwnF 48 cArc w3.drew w.heap.size ((Value.slice none 0 0)) (([] : List GArc)) from O3.out.drew_T), fun h _ => (by cases h), fun h => (by cases h), fun h => (by cases h)⟩) ?_
    · refine ⟨?_, ?_, ?_, ?_, ?_, ?_, ?_, ?_, ?_, ?_, ?_, ?_, ?_, ?_, ?_, ?_, ?_, trivial⟩
      · -- 0: slot 61 := Op.move t0
        refine obS_yes fun f bb w' hj hs hd hp => ?_
        simp [PreO, factO, valOf, Region.binds] at hp hd
        refine ⟨by simp [Gd, valOf, hp], ?_⟩
        refine mildS_val (.pointer (some ⟨g, 0, none⟩)) (w' := w') ?_ rfl (by simpa using hj)
        simp [execOp, evalF, hp, go_sem]
      · -- 1: slot 62 := Op.move t0
        refine obS_yes fun f bb w' hj hs hd hp => ?_
        simp [PreO, factO, valOf, Region.binds] at hp hd
        refine ⟨by simp [Gd, valOf, hp], ?_⟩
        refine mildS_val (.pointer (some ⟨g, 0, none⟩)) (w' := w') ?_ rfl (by simpa using hj)
        simp [execOp, evalF, hp, go_sem]
      · -- 2: slot 63 := Op.nilCheck t62
        refine obS_yes fun f bb w' hj hs hd hp => ?_
        simp [PreO, factO, valOf, Region.binds] at hp hd
        refine ⟨by simp [Gd, valOf, hp], ?_⟩
        refine mildS_val (.pointer (some ⟨g, 0, none⟩)) (w' := w') ?_ rfl (by simpa using hj)
        simp [execOp, evalF, hp, go_sem]
      · -- 3: slot 64 := Op.fieldAddr 166 t63 0
        refine obS_yes fun f bb w' hj hs hd hp => ?_
        simp [PreO, factO, valOf, Region.binds] at hp hd
        refine ⟨by simp [Gd, valOf, hp], ?_⟩
        refine mildS_val (.pointer (some ⟨g, 0, none⟩)) (w' := w') ?_ rfl (by simpa using hj)
        simp [execOp, evalF, hp, go_sem]
      · -- 4: slot 65 := Op.fieldAddr 132 t64 1
        refine obS_yes fun f bb w' hj hs hd hp => ?_
        simp [PreO, factO, valOf, Region.binds] at hp hd
        refine ⟨by simp [Gd, valOf, hp], ?_⟩
        refine mildS_val (.pointer (some ⟨g, 1, none⟩)) (w' := w') ?_ rfl (by simpa using hj)
        simp [execOp, evalF, hp, go_sem]
      · -- 5: slot 66 := Op.load 45 t65
        refine obS_yes fun f bb w' hj hs hd hp => ?_
        simp [PreO, factO, valOf, Region.binds] at hp hd
        refine ⟨by simp [Gd, valOf, hp], ?_⟩
        have h16 : bb 16 = false := by cases hx : bb 16 with | false => rfl | true => rw [hj.2.2.2.2.2.1 hx] at hs; cases hs
        have hc : w'.cell? ⟨g, 1, none⟩ = some ((Value.slice none 0 0)) := by have h := hj.1; rw [h16] at h; exact BoxAt.cell h 1 _ rfl
        refine mildS_val ((Value.slice none 0 0)) (w' := w') ?_ rfl (by obtain ⟨j1, j2, j3, j4, j5, j6, j7⟩ := hj; exact ⟨by simpa using j1, j2, j3, by simpa using j4, by simpa using j5, by simp, by simpa using j7⟩)
        simp [execOp, evalF, hp, go_sem, hc]
      · -- 6: slot 67 := Op.fieldAddr 55 t3 1
        refine obS_yes fun f bb w' hj hs hd hp => ?_
        simp [PreO, factO, valOf, Region.binds] at hp hd
        refine ⟨by simp [Gd, valOf, hp], ?_⟩
        refine mildS_val (.pointer (some ⟨w.heap.size, 1, none⟩)) (w' := w') ?_ rfl (by simpa using hj)
        simp [execOp, evalF, hp, go_sem]
      · -- 7: slot 68 := Op.load 24 t67
        refine obS_yes fun f bb w' hj hs hd hp => ?_
        simp [PreO, factO, valOf, Region.binds] at hp hd
        refine ⟨by simp [Gd, valOf, hp], ?_⟩
        have hc : w'.cell? ⟨w.heap.size, 1, none⟩ = some (.int .u32 (n1 : Int)) := hj.2.1.cell 1 _ rfl
        refine mildS_val (.int .u32 (n1 : Int)) (w' := w') ?_ rfl (by simpa using hj)
        simp [execOp, evalF, hp, go_sem, hc]
      · -- 8: slot 69 := Op.fieldAddr 55 t3 2
        refine obS_yes fun f bb w' hj hs hd hp => ?_
        simp [PreO, factO, valOf, Region.binds] at hp hd
        refine ⟨by simp [Gd, valOf, hp], ?_⟩
        refine mildS_val (.pointer (some ⟨w.heap.size, 2, none⟩)) (w' := w') ?_ rfl (by simpa using hj)
        simp [execOp, evalF, hp, go_sem]
      · -- 9: slot 70 := Op.load 24 t69
        refine obS_yes fun f bb w' hj hs hd hp => ?_
        simp [PreO, factO, valOf, Region.binds] at hp hd
        refine ⟨by simp [Gd, valOf, hp], ?_⟩
        have hc : w'.cell? ⟨w.heap.size, 2, none⟩ = some (.int .u32 (n2 : Int)) := hj.2.1.cell 2 _ rfl
        refine mildS_val (.int .u32 (n2 : Int)) (w' := w') ?_ rfl (by simpa using hj)
        simp [execOp, evalF, hp, go_sem, hc]
      · -- 10: slot 71 := Op.build 48 #[(0, t68), (1, t70)]
        refine obS_yes fun f bb w' hj hs hd hp => ?_
        simp [PreO, factO, valOf, Region.binds] at hp hd
        refine ⟨by simp [Gd, valOf, hp], ?_⟩
        refine mildS_val (.agg #[.int .u32 (n1 : Int), .int .u32 (n2 : Int)]) (w' := w') ?_ rfl (by simpa using hj)
        simp [execOp, evalF, hp, go_sem]
      · -- 11: slot 72 := Op.buildSlice 45 1 #[(0, t71)]
        refine obS_yes fun f bb w' hj hs hd hp => ?_
        simp [PreO, factO, valOf, Region.binds] at hp hd
        refine ⟨by simp [Gd, valOf, hp], ?_⟩
        obtain ⟨j1, j2, j3, j4, j5, j6, j7⟩ := hj
        refine mildS_val (.slice (some ⟨w'.heap.size, 0, none⟩) 1 1) (w' := w'.alloc (.cells #[.int .u32 (n1 : Int), .int .u32 (n2 : Int)] 48)) ?_ trivial ⟨by simpa using j1.bl_ (balloc _ _), j2.bl_ (balloc _ _), j3.trans (Chg.ofBelow (balloc _ _)), by simpa using j4.below_ (balloc _ _), fun _ _ => ⟨_, by simp, BoxAt.new_ _ _ [.int .u32 (n1 : Int), .int .u32 (n2 : Int)]⟩, by simpa using j6, by simpa using j7⟩
        have hr := run_slice_arcT w' (n1 : Int) (n2 : Int)
        simp [execOp, evalF, hp, hr]
      · -- 12: slot 73 := Op.call   builtin append, args := #[t66, t72], argTypes := #[45, 45]  
        refine obS_yes fun f bb w' hj hs hd hp => ?_
        simp [PreO, factO, valOf, Region.binds] at hp hd
        refine ⟨by simp [Gd, valOf, hp], ?_⟩
        obtain ⟨j1, j2, j3, j4, j5, j6, j7⟩ := hj
        have h16 : bb 16 = false := by cases hx : bb 16 with | false => rfl | true => rw [j7 hx] at hs; cases hs
        have h11 : bb 11 = true := by first | exact hd.1 | exact hd.2.1 | exact hd.2 | exact hd | simp_all
        obtain ⟨q, hv11, hq⟩ := j5 h11 hs
        have k4 : OwnF 48 cArc w' w.heap.size ((Value.slice none 0 0)) (([] : List GArc)) := by rw [hs] at j4; simpa using j4
        have k1 := j1
        rw [h16] at k1
        refine mildS_ex (exec_appR (C := cArc) (O := fun _ => True) (.tmp 66) (.tmp 72) 45 rfl Tryz.underlying45 infoArc (by kernel_rfl) (by decide) (by decide) k4 (rowOfBoxT hq (HAr.out w')) (by simp [evalF, hp]) (by simpa [evalF, valOf] using hv11) (by simp) (Nat.le_trans (hz3) j3.size)) ?_
        intro v' w3 g1 g2
        refine ⟨trivial, ?_, boxKeptT (by decide) k4 g2 j2, j3.trans (Chg.ofGrown g2.gr fun k e => .inr e), by simpa using g1, by simp [TmpT], by simpa using j6, by simp [h16]⟩
        simp only [h16]
        exact boxKeptT (by decide) k4 g2 k1
      · -- 13: slot 74 := Op.nilCheck t61
        refine obS_yes fun f bb w' hj hs hd hp => ?_
        simp [PreO, factO, valOf, Region.binds] at hp hd
        refine ⟨by simp [Gd, valOf, hp], ?_⟩
        refine mildS_val (.pointer (some ⟨g, 0, none⟩)) (w' := w') ?_ rfl (by simpa using hj)
        simp [execOp, evalF, hp, go_sem]
      · -- 14: slot 75 := Op.fieldAddr 166 t74 0
        refine obS_yes fun f bb w' hj hs hd hp => ?_
        simp [PreO, factO, valOf, Region.binds] at hp hd
        refine ⟨by simp [Gd, valOf, hp], ?_⟩
        refine mildS_val (.pointer (some ⟨g, 0, none⟩)) (w' := w') ?_ rfl (by simpa using hj)
        simp [execOp, evalF, hp, go_sem]
      · -- 15: slot 76 := Op.fieldAddr 132 t75 1
        refine obS_yes fun f bb w' hj hs hd hp => ?_
        simp [PreO, factO, valOf, Region.binds] at hp hd
        refine ⟨by simp [Gd, valOf, hp], ?_⟩
        refine mildS_val (.pointer (some ⟨g, 1, none⟩)) (w' := w') ?_ rfl (by simpa using hj)
        simp [execOp, evalF, hp, go_sem]
      · -- 16: slot None := Op.store 45 t76 t73
        refine obS_yes fun f bb w' hj hs hd hp => ?_
        simp [PreO, factO, valOf, Region.binds] at hp hd
        refine ⟨by simp [Gd, valOf, hp], ?_⟩
        obtain ⟨j1, j2, j3, j4, j5, j6, j7⟩ := hj
        have h5 : bb 5 = true := by simp_all
        have h12 : bb 12 = true := by simp_all
        have hc := j1.cell 1 _ rfl
        have hf := j1.frozen 1
        have k4 : OwnF 48 cArc w' w.heap.size (f 73) (([] : List GArc) ++ [ar]) := by have h := j4; rw [h12] at h; exact h
        obtain ⟨A9, c9, e9, _, _, _⟩ := k4.form'
        refine mildS_skip (w' := w'.setCell ⟨g, 1, none⟩ (f 73)) ?_ trivial ⟨?_, j2.other _ _ (by show g ≠ w.heap.size; omega), j3.trans (Chg.set _ _ _ (.inl rfl)), ?_, ?_, by simp [h5], by simp [h12]⟩
        · simp [execOp, evalF, hp, go_sem, hc, hf, e9]
        · exact j1.put 1 (f 73)
        · exact ownSetT (by decide) j4 j1 1 (f 73)
        · simpa using TmpT.set (by decide) j5 j1 1 (f 73)
    · intro f bb wd hall hj hp
      simp only [PostO] at hp
      obtain ⟨e0, e1, e2, e3, e4, e5, e6, e7, e8, e9, e10, _, _, e13, e14, e15, _, _⟩ := hp
      simp only [fills, List.foldl_cons, List.foldl_nil, Act.put, List.setIfInBounds_toArray, List.set_cons_zero, List.set_cons_succ, e0, e1, e2, e3, e4, e5, e6, e7, e8, e9, e10, e13, e14, e15]
      clear e0 e1 e2 e3 e4 e5 e6 e7 e8 e9 e10 e13 e14 e15
      simp only [List.drop_succ_cons, List.drop_zero]
      obtain ⟨j1, j2, j3, j4, j5, j6, j7⟩ := hj
      have b12 : bb 12 = true := hall 12 (by decide)
      have b16 : bb 16 = true := hall 16 (by decide)
      rw [b16] at j1
      rw [b12] at j4
      have k1 : BoxAt 166 wd g (mgC n0 (f 73) vl) := j1
      have k4 : OwnF 48 cArc wd w.heap.size (f 73) [ar] := j4
      clear j1 j4
      generalize f 73 = va at *
      go_wp2_with fail
      go_end0
      exact ⟨rfl, va, k1, k4, Hch3.out.trans (Chg.more j3 fun k _ hk => hk.elim id fun h => by simp [Value.ownBlock] at h)⟩
end Go.Proofs.YtcffeepgfjpcaaaGreat

namespace Go.Proofs.YtcffeepgfjpcaaaGreat
set_option linter.unusedSimpArgs false
set_option linter.unusedVariables false
open Go.RowKit

def arcC (a : GArc) : List Value := [.int .u32 (a.to.toNat : Int), .int .u32 (a.wt.toNat : Int)]
theorem arcsC_len (l : List GArc) : (l.map arcC).flatten.length = 2 * l.length := by
  induction l with
  | nil => rfl
  | cons a t ih =>
    rw [List.map_cons, List.flatten_cons, List.length_append, ih, List.length_cons]
    show 2 + 2 * t.length = _
    omega
theorem arcsC_set (l : List GArc) (a b : GArc) (h : b.to = a.to) : ((l ++ [a]).map arcC).flatten.set (2 * l.length + 1) (.int .u32 (b.wt.toNat : Int)) = ((l ++ [b]).map arcC).flatten := by
  have hl := arcsC_len l
  rw [List.map_append, List.map_append, List.flatten_append, List.flatten_append, List.set_append, hl, if_neg (by omega)]
  congr 1
  have e : 2 * l.length + 1 - 2 * l.length = 1 := by omega
  rw [e]
  simp [arcC, h]
/-- the own row's cells -/
theorem OwnF.arcs_cells {w : World} {base : Nat} {v : Value} {xs : List GArc} (h : OwnF 48 cArc w base v xs) : w.ownsRow base 48 2 v xs.length (xs.map arcC).flatten := by
  obtain ⟨css, hl, h1, h3, h4⟩ := h
  have e : css = xs.map arcC := by
    refine List.ext_getElem (by simpa using hl) fun i hi1 hi2 => ?_
    have := h3 i css[i] xs[i] (List.getElem?_eq_getElem hi1) (List.getElem?_eq_getElem (by omega))
    rw [this.1]
    simp [arcC]
  rw [← e]
  exact h1
theorem OwnF.of_cells {w : World} {base : Nat} {v : Value} {xs : List GArc} (h : w.ownsRow base 48 2 v xs.length (xs.map arcC).flatten) : OwnF 48 cArc w base v xs :=
  ⟨xs.map arcC, by simp, h, fun i cs x hc hx => by
    rw [List.getElem?_map, hx] at hc
    injection hc with hc
    exact ⟨hc.symm, trivial⟩, fun k hk => hk.elim⟩
theorem OwnF.setLast {W : World} {base : Nat} {v : Value} {l : List GArc} {a b : GArc} (h : OwnF 48 cArc W base v (l ++ [a])) (hb : b.to = a.to) :
    ∃ g c, v = .slice (some ⟨g, 0, none⟩) (l.length + 1) c ∧ base ≤ g ∧ g < W.heap.size ∧ c ≤ maxLen ∧ l.length + 1 ≤ c ∧ W.cell? ⟨g, 2 * l.length, none⟩ = some (.int .u32 (a.to.toNat : Int)) ∧ W.cell? ⟨g, 2 * l.length + 1, none⟩ = some (.int .u32 (a.wt.toNat : Int)) ∧ W.frozen? ⟨g, 2 * l.length + 1, none⟩ = false ∧
      OwnF 48 cArc (W.setCell ⟨g, 2 * l.length + 1, none⟩ (.int .u32 (b.wt.toNat : Int))) base v (l ++ [b]) := by
  have hc := h.arcs_cells
  have hcl := arcsC_len (l ++ [a])
  obtain ⟨h1, h2⟩ := hc
  rw [List.length_append, List.length_singleton] at h1 h2 hcl
  rcases h2 with ⟨_, hn⟩ | ⟨g, cap, cur, e, hg, h5, h6, h7, h8, h9⟩
  · omega
  · have hbx : BoxAt 48 W g cur.toList := by simpa [BoxAt] using h5
    have hget : ∀ j, j < (l.length + 1) * 2 → cur.toList[j]? = ((l ++ [a]).map arcC).flatten[j]? := fun j hj => by
      rw [← h9, List.getElem?_take, if_pos hj]
    have happ : ((l ++ [a]).map arcC).flatten = (l.map arcC).flatten ++ arcC a := by simp
    have hl := arcsC_len l
    have e0 : ((l ++ [a]).map arcC).flatten[2 * l.length]? = some (.int .u32 (a.to.toNat : Int)) := by
      rw [happ, List.getElem?_append_right (by omega), hl, Nat.sub_self]
      rfl
    have e1 : ((l ++ [a]).map arcC).flatten[2 * l.length + 1]? = some (.int .u32 (a.wt.toNat : Int)) := by
      rw [happ, List.getElem?_append_right (by omega), hl, show 2 * l.length + 1 - 2 * l.length = 1 from by omega]
      rfl
    refine ⟨g, cap, e, hg, hbx.lt, h7, h6, hbx.cell _ _ ((hget _ (by omega)).trans e0), hbx.cell _ _ ((hget _ (by omega)).trans e1), hbx.frozen _, OwnF.of_cells ?_⟩
    have hput := hbx.put (2 * l.length + 1) (.int .u32 (b.wt.toNat : Int))
    have hcl2 := arcsC_len (l ++ [b])
    rw [List.length_append, List.length_singleton] at hcl2
    rw [List.length_append, List.length_singleton]
    refine ⟨by omega, .inr ⟨g, cap, (cur.toList.set (2 * l.length + 1) (.int .u32 (b.wt.toNat : Int))).toArray, e, hg, by simpa [BoxAt] using hput, h6, h7, by simpa using h8, ?_⟩⟩
    rw [List.toList_toArray, List.take_set, h9, arcsC_set l a b hb]
end Go.Proofs.YtcffeepgfjpcaaaGreat

namespace Go.Proofs.YtcffeepgfjpcaaaGreat
set_option linter.unusedSimpArgs false
set_option linter.unusedVariables false
open Go.RowKit

set_option maxRecDepth 100000 in
set_option maxHeartbeats 3200000 in
theorem take_more (w : World) (g base : Nat) (x : GEdge) (fr : Nat) (va vl : Value) (l : List GArc) (a : GArc) (hb : BoxAt 166 w g (mgC fr va vl)) (hown : OwnF 48 cArc w base va (l ++ [a]))
    (hfr : fr = x.fr.toNat) (hbase : base ≤ w.heap.size) (hlen : l.length ≤ 1048576) (hsum : a.wt.toNat + x.wt.toNat ≤ 2147483647) :
    Calls Tryz.prog 95 #[.pointer (some ⟨g, 0, none⟩), edgeV x] w fun e w' => e = .returned (.tuple #[]) ∧ ∃ va', BoxAt 166 w' g (mgC fr va' vl) ∧
      OwnF 48 cArc w' base va' (addArc (l ++ [a]) x) ∧ Chg (fun k => k = g ∨ va.ownBlock = some k) w w' := by
  rw [addArc_last]
  obtain ⟨gb, cb, e, q1, q2, q3, q4, -, -, -, -⟩ := hown.setLast (b := a) rfl
  subst e
  obtain ⟨w0, hw0⟩ : ∃ w0, w0 = w.alloc (.cells (edgeC x).toArray 55) := ⟨_, rfl⟩
  have hb0 : Below w.heap.size w w0 := by rw [hw0]; exact balloc w _
  have hx0 : BoxAt 55 w0 w.heap.size (edgeC x) := by rw [hw0]; exact BoxAt.new_ _ _ _
  have hgl := hb.lt
  have hg0 := hb.bl_ hb0
  have hfu := fun W (hW : Below w.heap.size w W) => full_any W g x fr (l.length + 1) cb (some ⟨gb, 0, none⟩) vl (hb.below hb.lt hW)
  have hfn : fullN (l.length + 1) fr x = false := by unfold fullN; simp [hfr]
  rw [hfn] at hfu
  have Hfu := Lib.hid hfu
  have Hw0 := Lib.hid hw0
  have Hb0 := Lib.hid hb0
  have X0 := Lib.hid hx0
  have G0 := Lib.hid hg0
  have O0 := Lib.hid (hown.below_ hb0)
  have hgb : gb ≠ g := (ownR_ne_boxT (by decide) hown hb gb rfl)
  have hz0 : w0.heap.size = w.heap.size + 1 := by rw [hw0]; simp
  have hcs : edgeC x = [.int .u32 (x.fr.toNat : Int), .int .u32 (x.to.toNat : Int), .int .u32 (x.wt.toNat : Int)] := rfl
  obtain ⟨ar, har⟩ : ∃ ar : GArc, ar = ⟨x.to, x.wt⟩ := ⟨_, rfl⟩
  obtain ⟨aw, has⟩ : ∃ aw : GArc, aw = ⟨a.to, a.wt + x.wt⟩ := ⟨_, rfl⟩
  have hast : aw.to = a.to := by rw [has]
  have hasw : aw.wt.toNat = a.wt.toNat + x.wt.toNat := by rw [has]; exact u32_add hsum
  have HAr : Hid (∀ W : World, cArc.at_ W (fun _ => True) [.int .u32 (x.to.toNat : Int), .int .u32 (x.wt.toNat : Int)] ar) := Lib.hid fun W => by rw [har]; exact ⟨rfl, trivial⟩
  have hte : (a.to = x.to) ↔ a.to.toNat = x.to.toNat := UInt32.toNat_inj.symm
  rw [← har, ← has]
  obtain ⟨rl, hrl⟩ : ∃ rl, rl = (if a.to = x.to then l ++ [aw] else l ++ [a] ++ [ar]) := ⟨_, rfl⟩
  rw [← hrl]
  have Hrl := Lib.hid hrl
  clear hrl
  unfold edgeV at Hfu ⊢
  rw [hcs] at Hw0 X0 Hfu ⊢
  have hal := hown
  have Hte := Lib.hid hte
  have Hast := Lib.hid hast
  clear hw0 hx0 hb0 hg0 hcs hb hfu hfn har has hte hast hown hal hfr
  go_enter Tryz.func95, Tryz.ntmps95
  go_upto_region 1 with fail
  rw [← Hw0.out]
  go_wp2_with (refine wpList_load_agg rfl 55 (.tmp 3) rfl ⟨w.heap.size, 0, none⟩ rfl [.int .u32 (x.fr.toNat : Int), .int .u32 (x.to.toNat : Int), .int .u32 (x.wt.toNat : Int)] X0.out.cells Tryz.underlying55 rfl infoEdge3 ?_)
  refine (Hfu.out w0 Hb0.out).mono ?_
  rintro _ w1 ⟨rfl, hb1⟩
  have X1 := Lib.hid (X0.out.bl_ hb1)
  have hG1 := G0.out.bl_ hb1
  have Hb1 := Lib.hid (bstep Hb0.out hb1)
  have O1 := Lib.hid (O0.out.below_ hb1)
  have hc1 := hG1.cell 1 _ rfl
  have hx1 := X1.out.cell 1 _ rfl
  have G1 := Lib.hid hG1
  obtain ⟨gb', cb', e', -, -, -, -, p0, p1, p2, -⟩ := OwnF.setLast O1.out (b := aw) Hast.out
  injection e' with e1 e2 e3
  injection e1 with e1
  injection e1 with e1 _ _
  subst e1
  rw [Nat.mul_comm] at p0
  have hm9 : decide (0 < l.length + 1) = true := by simp
  clear hb1 hG1 X0 G0 O0 Hb0 p1 p2 e2 e3
  generalize hmm : l.length = m at *
  --WALK
  go_wp2_with fail
  generalize hn1 : x.to.toNat = n1 at *
  generalize hn2 : x.wt.toNat = n2 at *
  generalize hn0 : x.fr.toNat = n0 at *
  generalize hat : a.to.toNat = at_ at *
  generalize haw : a.wt.toNat = aw_ at *
  by_cases heq : at_ = n1
  · have hd : ((at_ : Int) == (n1 : Int)) = true := by simp [heq]
    have hif : a.to = x.to := Hte.out.2 heq
    have hrl2 := Hrl.out
    rw [if_pos hif] at hrl2
    have Hrl2 := Lib.hid hrl2
    clear hrl2 Hrl
    have Heq := Lib.hid heq
    clear heq hif
    go_quiet (fail)
    have G3 : Hid (BoxAt 166 (w1.drewN nq) g (mgC fr (Value.slice (some ⟨gb, 0, none⟩) (m + 1) cb) vl)) := Lib.hid G1.out
    have X3 : Hid (BoxAt 55 (w1.drewN nq) w.heap.size [.int .u32 (n0 : Int), .int .u32 (n1 : Int), .int .u32 (n2 : Int)]) := Lib.hid X1.out
    have Hb3 := Lib.hid (bdrewN Hb1.out nq)
    have hz3 := Hb3.out.size
    have O3 : Hid (OwnF 48 cArc (w1.drewN nq) base (Value.slice (some ⟨gb, 0, none⟩) (m + 1) cb) (l ++ [a])) := Lib.hid (OwnR.below_ O1.out (bdrewN (Below.refl _ _) nq))
    clear G1 X1 Hb1 O1 hc1 hx1 p0
    generalize w1.drewN nq = w3 at *
    go_upto_region 5 with fail
    have Haw := Lib.hid haw
    refine wp_region_mixSL (ds := [46, 47, 48, 49, 50, 51, 52, 53, 54, 55, 56, 57, 58, 59, 60]) 16 (fun bb vs W' => BoxAt 166 W' g (mgC fr (Value.slice (some ⟨gb, 0, none⟩) (m + 1) cb) vl) ∧ BoxAt 55 W' w.heap.size [.int .u32 (n0 : Int), .int .u32 (n1 : Int), .int .u32 (n2 : Int)] ∧ Chg (fun k => k = g ∨ (Value.slice (some ⟨gb, 0, none⟩) (m + 1) cb).ownBlock = some k) w3 W' ∧ OwnF 48 cArc W' base (Value.slice (some ⟨gb, 0, none⟩) (m + 1) cb) (l ++ [cond (bb 15) aw a]) ∧ (bb 15 = true → bb 9 = true)) [some 46, some 47, some 48, some 49, some 50, some 51, some 52, some 53, some 54, some 55, some 56, some 57, some 58, some 59, some 60, none]
      [fun v => v = .pointer (some ⟨g, 0, none⟩), fun v => v = .pointer (some ⟨g, 0, none⟩), fun v => v = .pointer (some ⟨g, 0, none⟩), fun v => v = .pointer (some ⟨g, 1, none⟩), fun v => v = (Value.slice (some ⟨gb, 0, none⟩) (m + 1) cb), fun v => v = .int .i64 ((m : Int) + 1), fun v => v = .int .i64 (m : Int), fun v => v = .pointer (some ⟨gb, m * 2, none⟩), fun v => v = .pointer (some ⟨gb, m * 2 + 1, none⟩), fun v => v = .int .u32 (aw_ : Int), fun v => v = .pointer (some ⟨w.heap.size, 2, none⟩), fun v => v = .int .u32 (n2 : Int), fun v => v = .int .u32 ((aw_ + n2 : Nat) : Int), fun v => v = .pointer (some ⟨gb, m * 2, none⟩), fun v => v = .pointer (some ⟨gb, m * 2 + 1, none⟩), fun _ => True]
      rfl rfl rfl (by kernel_rfl) (by kernel_rfl) ?_ (fun _ => ⟨G3.out, X3.out, Chg.ofBelow ⟨rfl, rfl, rfl, Nat.le_refl _, fun _ _ => rfl⟩, by simpa using (show OwnF 48 cArc w3.drew base (Value.slice (some ⟨gb, 0, none⟩) (m + 1) cb) (l ++ [a]) from OwnR.drew_T O3.out), fun h => (by cases h)⟩) ?_
    · refine ⟨?_, ?_, ?_, ?_, ?_, ?_, ?_, ?_, ?_, ?_, ?_, ?_, ?_, ?_, ?_, ?_, trivial⟩
      · -- 0: slot 46 := Op.move t0
        refine obS_yes fun f bb w' hj hs hd hp => ?_
        simp [PreO, factO, valOf, Region.binds] at hp hd
        refine ⟨by simp [Gd, valOf, hp], ?_⟩
        refine mildS_val (.pointer (some ⟨g, 0, none⟩)) (w' := w') ?_ rfl (by simpa using hj)
        simp [execOp, evalF, hp, go_sem]
      · -- 1: slot 47 := Op.nilCheck t46
        refine obS_yes fun f bb w' hj hs hd hp => ?_
        simp [PreO, factO, valOf, Region.binds] at hp hd
        refine ⟨by simp [Gd, valOf, hp], ?_⟩
        refine mildS_val (.pointer (some ⟨g, 0, none⟩)) (w' := w') ?_ rfl (by simpa using hj)
        simp [execOp, evalF, hp, go_sem]
      · -- 2: slot 48 := Op.fieldAddr 166 t47 0
        refine obS_yes fun f bb w' hj hs hd hp => ?_
        simp [PreO, factO, valOf, Region.binds] at hp hd
        refine ⟨by simp [Gd, valOf, hp], ?_⟩
        refine mildS_val (.pointer (some ⟨g, 0, none⟩)) (w' := w') ?_ rfl (by simpa using hj)
        simp [execOp, evalF, hp, go_sem]
      · -- 3: slot 49 := Op.fieldAddr 132 t48 1
        refine obS_yes fun f bb w' hj hs hd hp => ?_
        simp [PreO, factO, valOf, Region.binds] at hp hd
        refine ⟨by simp [Gd, valOf, hp], ?_⟩
        refine mildS_val (.pointer (some ⟨g, 1, none⟩)) (w' := w') ?_ rfl (by simpa using hj)
        simp [execOp, evalF, hp, go_sem]
      · -- 4: slot 50 := Op.load 45 t49
        refine obS_yes fun f bb w' hj hs hd hp => ?_
        simp [PreO, factO, valOf, Region.binds] at hp hd
        refine ⟨by simp [Gd, valOf, hp], ?_⟩
        have hc : w'.cell? ⟨g, 1, none⟩ = some (Value.slice (some ⟨gb, 0, none⟩) (m + 1) cb) := hj.1.cell 1 _ rfl
        refine mildS_val ((Value.slice (some ⟨gb, 0, none⟩) (m + 1) cb)) (w' := w') ?_ rfl (by simpa using hj)
        simp [execOp, evalF, hp, go_sem, hc]
      · -- 5: slot 51 := Op.move t4
        refine obS_yes fun f bb w' hj hs hd hp => ?_
        simp [PreO, factO, valOf, Region.binds] at hp hd
        refine ⟨by simp [Gd, valOf, hp], ?_⟩
        refine mildS_val (.int .i64 ((m : Int) + 1)) (w' := w') ?_ rfl (by simpa using hj)
        simp [execOp, evalF, hp, go_sem]
      · -- 6: slot 52 := Op.binOp BinOp.sub 3 t51 (const (1:i64)) 3
        refine obS_yes fun f bb w' hj hs hd hp => ?_
        simp [PreO, factO, valOf, Region.binds] at hp hd
        refine ⟨by simp [Gd, valOf, hp], ?_⟩
        refine mildS_val (.int .i64 (m : Int)) (w' := w') ?_ rfl (by simpa using hj)
        simp [execOp, evalF, hp, go_sem]
        try (rw [wrap_i64]; omega)
      · -- 7: slot 53 := Op.indexAddr 45 t50 t52
        refine obS_yes fun f bb w' hj hs hd hp => ?_
        simp [PreO, factO, valOf, Region.binds] at hp hd
        refine ⟨by simp [Gd, valOf, hp], ?_⟩
        refine mildS_val (.pointer (some ⟨gb, m * 2, none⟩)) (w' := w') ?_ rfl (by simpa using hj)
        simp [execOp, evalF, hp, go_sem, Instr.indexAt, Addr.add]
        try (intro h; omega)
      · -- 8: slot 54 := Op.fieldAddr 48 t53 1
        refine obS_yes fun f bb w' hj hs hd hp => ?_
        simp [PreO, factO, valOf, Region.binds] at hp hd
        refine ⟨by simp [Gd, valOf, hp], ?_⟩
        refine mildS_val (.pointer (some ⟨gb, m * 2 + 1, none⟩)) (w' := w') ?_ rfl (by simpa using hj)
        simp [execOp, evalF, hp, go_sem]
      · -- 9: slot 55 := Op.load 24 t54
        refine obS_yes fun f bb w' hj hs hd hp => ?_
        simp [PreO, factO, valOf, Region.binds] at hp hd
        refine ⟨by simp [Gd, valOf, hp], ?_⟩
        have h15 : bb 15 = false := by cases hx : bb 15 with | false => rfl | true => rw [hj.2.2.2.2 hx] at hs; cases hs
        have k4 := hj.2.2.2.1
        rw [h15] at k4
        simp only [cond_false] at k4
        obtain ⟨gb', cb', e', -, -, -, -, c0, c1, c2, c3⟩ := OwnF.setLast (b := aw) k4 Hast.out
        injection e' with e1 e2 e3
        injection e1 with e1
        injection e1 with e1 _ _
        subst e1
        rw [hmm, Nat.mul_comm] at c1 c2 c3
        rw [Haw.out] at c1
        refine mildS_val (.int .u32 (aw_ : Int)) (w' := w') ?_ rfl (by obtain ⟨j1, j2, j3, j4, j5⟩ := hj; exact ⟨j1, j2, j3, by simpa using j4, by simp⟩)
        simp [execOp, evalF, hp, go_sem, c1]
      · -- 10: slot 56 := Op.fieldAddr 55 t3 2
        refine obS_yes fun f bb w' hj hs hd hp => ?_
        simp [PreO, factO, valOf, Region.binds] at hp hd
        refine ⟨by simp [Gd, valOf, hp], ?_⟩
        refine mildS_val (.pointer (some ⟨w.heap.size, 2, none⟩)) (w' := w') ?_ rfl (by simpa using hj)
        simp [execOp, evalF, hp, go_sem]
      · -- 11: slot 57 := Op.load 24 t56
        refine obS_yes fun f bb w' hj hs hd hp => ?_
        simp [PreO, factO, valOf, Region.binds] at hp hd
        refine ⟨by simp [Gd, valOf, hp], ?_⟩
        have hc : w'.cell? ⟨w.heap.size, 2, none⟩ = some (.int .u32 (n2 : Int)) := hj.2.1.cell 2 _ rfl
        refine mildS_val (.int .u32 (n2 : Int)) (w' := w') ?_ rfl (by simpa using hj)
        simp [execOp, evalF, hp, go_sem, hc]
      · -- 12: slot 58 := Op.binOp BinOp.add 24 t55 t57 24
        refine obS_yes fun f bb w' hj hs hd hp => ?_
        simp [PreO, factO, valOf, Region.binds] at hp hd
        refine ⟨by simp [Gd, valOf, hp], ?_⟩
        refine mildS_val (.int .u32 ((aw_ + n2 : Nat) : Int)) (w' := w') ?_ rfl (by simpa using hj)
        simp [execOp, evalF, hp, go_sem]
        try (rw [IntKind.wrap_u32']; omega)
      · -- 13: slot 59 := Op.indexAddr 45 t50 t52
        refine obS_yes fun f bb w' hj hs hd hp => ?_
        simp [PreO, factO, valOf, Region.binds] at hp hd
        refine ⟨by simp [Gd, valOf, hp], ?_⟩
        refine mildS_val (.pointer (some ⟨gb, m * 2, none⟩)) (w' := w') ?_ rfl (by simpa using hj)
        simp [execOp, evalF, hp, go_sem, Instr.indexAt, Addr.add]
        try (intro h; omega)
      · -- 14: slot 60 := Op.fieldAddr 48 t59 1
        refine obS_yes fun f bb w' hj hs hd hp => ?_
        simp [PreO, factO, valOf, Region.binds] at hp hd
        refine ⟨by simp [Gd, valOf, hp], ?_⟩
        refine mildS_val (.pointer (some ⟨gb, m * 2 + 1, none⟩)) (w' := w') ?_ rfl (by simpa using hj)
        simp [execOp, evalF, hp, go_sem]
      · -- 15: slot None := Op.store 24 t60 t58
        refine obS_yes fun f bb w' hj hs hd hp => ?_
        simp [PreO, factO, valOf, Region.binds] at hp hd
        refine ⟨by simp [Gd, valOf, hp], ?_⟩
        obtain ⟨j1, j2, j3, j4, j5⟩ := hj
        have h9 : bb 9 = true := by simp_all
        have k4 : OwnF 48 cArc w' base (Value.slice (some ⟨gb, 0, none⟩) (m + 1) cb) (l ++ [a]) := by rw [hs] at j4; simpa using j4
        obtain ⟨gb', cb', e', -, -, -, -, c0, c1, c2, c3⟩ := OwnF.setLast (b := aw) k4 Hast.out
        injection e' with e1 e2 e3
        injection e1 with e1
        injection e1 with e1 _ _
        subst e1
        rw [hmm, Nat.mul_comm] at c1 c2 c3
        refine mildS_skip (w' := w'.setCell ⟨gb, m * 2 + 1, none⟩ (.int .u32 (aw.wt.toNat : Int))) ?_ trivial ⟨j1.other _ _ (by show gb ≠ g; exact hgb), j2.other _ _ (by show gb ≠ w.heap.size; omega), j3.trans (Chg.set _ _ _ (.inr rfl)), by simpa using c3, by simp [h9]⟩
        rw [hasw]
        simp [execOp, evalF, hp, go_sem, c1, c2]
    · intro f bb wd hall hj hp
      simp only [PostO] at hp
      obtain ⟨e0, e1, e2, e3, e4, e5, e6, e7, e8, e9, e10, e11, e12, e13, e14, _, _⟩ := hp
      simp only [fills, List.foldl_cons, List.foldl_nil, Act.put, List.setIfInBounds_toArray, List.set_cons_zero, List.set_cons_succ, e0, e1, e2, e3, e4, e5, e6, e7, e8, e9, e10, e11, e12, e13, e14]
      clear e0 e1 e2 e3 e4 e5 e6 e7 e8 e9 e10 e11 e12 e13 e14
      simp only [List.drop_succ_cons, List.drop_zero]
      obtain ⟨j1, j2, j3, j4, j5⟩ := hj
      have b15 : bb 15 = true := hall 15 (by decide)
      rw [b15] at j4
      have k4 : OwnF 48 cArc wd base (Value.slice (some ⟨gb, 0, none⟩) (m + 1) cb) (l ++ [aw]) := j4
      clear j4
      go_wp2_with fail
      refine bodyPost_ret (results_none rfl _ _ _) rfl ?_
      refine ⟨rfl, _, j1, ?_, (Chg.ofBelow Hb3.out).trans j3⟩
      rw [Hrl2.out]
      exact k4
  · have hd : ((at_ : Int) == (n1 : Int)) = false := beq_eq_false_iff_ne.2 (by omega)
    have hif : ¬ a.to = x.to := fun h => heq (Hte.out.1 h)
    have hrl2 := Hrl.out
    rw [if_neg hif] at hrl2
    have Hrl2 := Lib.hid hrl2
    clear hrl2 Hrl
    have Heq := Lib.hid heq
    clear heq hif
    go_quiet (fail)
    have G3 : Hid (BoxAt 166 (w1.drewN nq) g (mgC fr (Value.slice (some ⟨gb, 0, none⟩) (m + 1) cb) vl)) := Lib.hid G1.out
    have X3 : Hid (BoxAt 55 (w1.drewN nq) w.heap.size [.int .u32 (n0 : Int), .int .u32 (n1 : Int), .int .u32 (n2 : Int)]) := Lib.hid X1.out
    have Hb3 := Lib.hid (bdrewN Hb1.out nq)
    have hz3 := Hb3.out.size
    have O3 : Hid (OwnF 48 cArc (w1.drewN nq) base (Value.slice (some ⟨gb, 0, none⟩) (m + 1) cb) (l ++ [a])) := Lib.hid (OwnR.below_ O1.out (bdrewN (Below.refl _ _) nq))
    clear G1 X1 Hb1 O1 hc1 hx1 p0
    generalize w1.drewN nq = w3 at *
    go_upto_region 6 with fail
    refine wp_region_mixSL (ds := [61, 62, 63, 64, 65, 66, 67, 68, 69, 70, 71, 72, 73, 74, 75, 76]) 17 (fun bb vs W' => BoxAt 166 W' g (mgC fr (cond (bb 16) (vs 12) ((Value.slice (some ⟨gb, 0, none⟩) (m + 1) cb))) vl) ∧ BoxAt 55 W' w.heap.size [.int .u32 (n0 : Int), .int .u32 (n1 : Int), .int .u32 (n2 : Int)] ∧ Chg (fun k => k = g ∨ (Value.slice (some ⟨gb, 0, none⟩) (m + 1) cb).ownBlock = some k) w3 W' ∧ OwnF 48 cArc W' base (cond (bb 12) (vs 12) ((Value.slice (some ⟨gb, 0, none⟩) (m + 1) cb))) ((l ++ [a]) ++ cond (bb 12) [ar] []) ∧ TmpT 48 [.int .u32 (n1 : Int), .int .u32 (n2 : Int)] W' (bb 11) (bb 12) (vs 11) ∧ (bb 16 = true → bb 5 = true) ∧ (bb 16 = true → bb 12 = true)) [some 61, some 62, some 63, some 64, some 65, some 66, some 67, some 68, some 69, some 70, some 71, some 72, some 73, some 74, some 75, some 76, none]
      [fun v => v = .pointer (some ⟨g, 0, none⟩), fun v => v = .pointer (some ⟨g, 0, none⟩), fun v => v = .pointer (some ⟨g, 0, none⟩), fun v => v = .pointer (some ⟨g, 0, none⟩), fun v => v = .pointer (some ⟨g, 1, none⟩), fun v => v = (Value.slice (some ⟨gb, 0, none⟩) (m + 1) cb), fun v => v = .pointer (some ⟨w.heap.size, 1, none⟩), fun v => v = .int .u32 (n1 : Int), fun v => v = .pointer (some ⟨w.heap.size, 2, none⟩), fun v => v = .int .u32 (n2 : Int), fun v => v = .agg #[.int .u32 (n1 : Int), .int .u32 (n2 : Int)], fun _ => True, fun _ => True, fun v => v = .pointer (some ⟨g, 0, none⟩), fun v => v = .pointer (some ⟨g, 0, none⟩), fun v => v = .pointer (some ⟨g, 1, none⟩), fun _ => True]
      rfl rfl rfl (by kernel_rfl) (by kernel_rfl) ?_ (fun _ => ⟨G3.out, X3.out, Chg.ofBelow ⟨rfl, rfl, rfl, Nat.le_refl _, fun _ _ => rfl⟩, by simpa using (show OwnF 48 cArc w3.drew base ((Value.slice (some ⟨gb, 0, none⟩) (m + 1) cb)) ((l ++ [a])) from OwnR.drew_T O3.out), fun h _ => (by cases h), fun h => (by cases h), fun h => (by cases h)⟩) ?_
    · refine ⟨?_, ?_, ?_, ?_, ?_, ?_, ?_, ?_, ?_, ?_, ?_, ?_, ?_, ?_, ?_, ?_, ?_, trivial⟩
      · -- 0: slot 61 := Op.move t0
        refine obS_yes fun f bb w' hj hs hd hp => ?_
        simp [PreO, factO, valOf, Region.binds] at hp hd
        refine ⟨by simp [Gd, valOf, hp], ?_⟩
        refine mildS_val (.pointer (some ⟨g, 0, none⟩)) (w' := w') ?_ rfl (by simpa using hj)
        simp [execOp, evalF, hp, go_sem]
      · -- 1: slot 62 := Op.move t0
        refine obS_yes fun f bb w' hj hs hd hp => ?_
        simp [PreO, factO, valOf, Region.binds] at hp hd
        refine ⟨by simp [Gd, valOf, hp], ?_⟩
        refine mildS_val (.pointer (some ⟨g, 0, none⟩)) (w' := w') ?_ rfl (by simpa using hj)
        simp [execOp, evalF, hp, go_sem]
      · -- 2: slot 63 := Op.nilCheck t62
        refine obS_yes fun f bb w' hj hs hd hp => ?_
        simp [PreO, factO, valOf, Region.binds] at hp hd
        refine ⟨by simp [Gd, valOf, hp], ?_⟩
        refine mildS_val (.pointer (some ⟨g, 0, none⟩)) (w' := w') ?_ rfl (by simpa using hj)
        simp [execOp, evalF, hp, go_sem]
      · -- 3: slot 64 := Op.fieldAddr 166 t63 0
        refine obS_yes fun f bb w' hj hs hd hp => ?_
        simp [PreO, factO, valOf, Region.binds] at hp hd
        refine ⟨by simp [Gd, valOf, hp], ?_⟩
        refine mildS_val (.pointer (some ⟨g, 0, none⟩)) (w' := w') ?_ rfl (by simpa using hj)
        simp [execOp, evalF, hp, go_sem]
      · -- 4: slot 65 := Op.fieldAddr 132 t64 1
        refine obS_yes fun f bb w' hj hs hd hp => ?_
        simp [PreO, factO, valOf, Region.binds] at hp hd
        refine ⟨by simp [Gd, valOf, hp], ?_⟩
        refine mildS_val (.pointer (some ⟨g, 1, none⟩)) (w' := w') ?_ rfl (by simpa using hj)
        simp [execOp, evalF, hp, go_sem]
      · -- 5: slot 66 := Op.load 45 t65
        refine obS_yes fun f bb w' hj hs hd hp => ?_
        simp [PreO, factO, valOf, Region.binds] at hp hd
        refine ⟨by simp [Gd, valOf, hp], ?_⟩
        have h16 : bb 16 = false := by cases hx : bb 16 with | false => rfl | true => rw [hj.2.2.2.2.2.1 hx] at hs; cases hs
        have hc : w'.cell? ⟨g, 1, none⟩ = some ((Value.slice (some ⟨gb, 0, none⟩) (m + 1) cb)) := by have h := hj.1; rw [h16] at h; exact BoxAt.cell h 1 _ rfl
        refine mildS_val ((Value.slice (some ⟨gb, 0, none⟩) (m + 1) cb)) (w' := w') ?_ rfl (by obtain ⟨j1, j2, j3, j4, j5, j6, j7⟩ := hj; exact ⟨by simpa using j1, j2, j3, by simpa using j4, by simpa using j5, by simp, by simpa using j7⟩)
        simp [execOp, evalF, hp, go_sem, hc]
      · -- 6: slot 67 := Op.fieldAddr 55 t3 1
        refine obS_yes fun f bb w' hj hs hd hp => ?_
        simp [PreO, factO, valOf, Region.binds] at hp hd
        refine ⟨by simp [Gd, valOf, hp], ?_⟩
        refine mildS_val (.pointer (some ⟨w.heap.size, 1, none⟩)) (w' := w') ?_ rfl (by simpa using hj)
        simp [execOp, evalF, hp, go_sem]
      · -- 7: slot 68 := Op.load 24 t67
        refine obS_yes fun f bb w' hj hs hd hp => ?_
        simp [PreO, factO, valOf, Region.binds] at hp hd
        refine ⟨by simp [Gd, valOf, hp], ?_⟩
        have hc : w'.cell? ⟨w.heap.size, 1, none⟩ = some (.int .u32 (n1 : Int)) := hj.2.1.cell 1 _ rfl
        refine mildS_val (.int .u32 (n1 : Int)) (w' := w') ?_ rfl (by simpa using hj)
        simp [execOp, evalF, hp, go_sem, hc]
      · -- 8: slot 69 := Op.fieldAddr 55 t3 2
        refine obS_yes fun f bb w' hj hs hd hp => ?_
        simp [PreO, factO, valOf, Region.binds] at hp hd
        refine ⟨by simp [Gd, valOf, hp], ?_⟩
        refine mildS_val (.pointer (some ⟨w.heap.size, 2, none⟩)) (w' := w') ?_ rfl (by simpa using hj)
        simp [execOp, evalF, hp, go_sem]
      · -- 9: slot 70 := Op.load 24 t69
        refine obS_yes fun f bb w' hj hs hd hp => ?_
        simp [PreO, factO, valOf, Region.binds] at hp hd
        refine ⟨by simp [Gd, valOf, hp], ?_⟩
        have hc : w'.cell? ⟨w.heap.size, 2, none⟩ = some (.int .u32 (n2 : Int)) := hj.2.1.cell 2 _ rfl
        refine mildS_val (.int .u32 (n2 : Int)) (w' := w') ?_ rfl (by simpa using hj)
        simp [execOp, evalF, hp, go_sem, hc]
      · -- 10: slot 71 := Op.build 48 #[(0, t68), (1, t70)]
        refine obS_yes fun f bb w' hj hs hd hp => ?_
        simp [PreO, factO, valOf, Region.binds] at hp hd
        refine ⟨by simp [Gd, valOf, hp], ?_⟩
        refine mildS_val (.agg #[.int .u32 (n1 : Int), .int .u32 (n2 : Int)]) (w' := w') ?_ rfl (by simpa using hj)
        simp [execOp, evalF, hp, go_sem]
      · -- 11: slot 72 := Op.buildSlice 45 1 #[(0, t71)]
        refine obS_yes fun f bb w' hj hs hd hp => ?_
        simp [PreO, factO, valOf, Region.binds] at hp hd
        refine ⟨by simp [Gd, valOf, hp], ?_⟩
        obtain ⟨j1, j2, j3, j4, j5, j6, j7⟩ := hj
        refine mildS_val (.slice (some ⟨w'.heap.size, 0, none⟩) 1 1) (w' := w'.alloc (.cells #[.int .u32 (n1 : Int), .int .u32 (n2 : Int)] 48)) ?_ trivial ⟨by simpa using j1.bl_ (balloc _ _), j2.bl_ (balloc _ _), j3.trans (Chg.ofBelow (balloc _ _)), by simpa using j4.below_ (balloc _ _), fun _ _ => ⟨_, by simp, BoxAt.new_ _ _ [.int .u32 (n1 : Int), .int .u32 (n2 : Int)]⟩, by simpa using j6, by simpa using j7⟩
        have hr := run_slice_arcT w' (n1 : Int) (n2 : Int)
        simp [execOp, evalF, hp, hr]
      · -- 12: slot 73 := Op.call   builtin append, args := #[t66, t72], argTypes := #[45, 45]  
        refine obS_yes fun f bb w' hj hs hd hp => ?_
        simp [PreO, factO, valOf, Region.binds] at hp hd
        refine ⟨by simp [Gd, valOf, hp], ?_⟩
        obtain ⟨j1, j2, j3, j4, j5, j6, j7⟩ := hj
        have h16 : bb 16 = false := by cases hx : bb 16 with | false => rfl | true => rw [j7 hx] at hs; cases hs
        have h11 : bb 11 = true := by first | exact hd.1 | exact hd.2.1 | exact hd.2 | exact hd | simp_all
        obtain ⟨q, hv11, hq⟩ := j5 h11 hs
        have k4 : OwnF 48 cArc w' base ((Value.slice (some ⟨gb, 0, none⟩) (m + 1) cb)) ((l ++ [a])) := by rw [hs] at j4; simpa using j4
        have k1 := j1
        rw [h16] at k1
        refine mildS_ex (exec_appR (C := cArc) (O := fun _ => True) (.tmp 66) (.tmp 72) 45 rfl Tryz.underlying45 infoArc (by kernel_rfl) (by decide) (by decide) k4 (rowOfBoxT hq (HAr.out w')) (by simp [evalF, hp]) (by simpa [evalF, valOf] using hv11) (by simp only [List.length_append, List.length_singleton]; omega) (Nat.le_trans ((Nat.le_trans hbase hz3)) j3.size)) ?_
        intro v' w3 g1 g2
        refine ⟨trivial, ?_, boxKeptT (by decide) k4 g2 j2, j3.trans (Chg.ofGrown g2.gr fun k e => .inr e), by simpa using g1, by simp [TmpT], by simpa using j6, by simp [h16]⟩
        simp only [h16]
        exact boxKeptT (by decide) k4 g2 k1
      · -- 13: slot 74 := Op.nilCheck t61
        refine obS_yes fun f bb w' hj hs hd hp => ?_
        simp [PreO, factO, valOf, Region.binds] at hp hd
        refine ⟨by simp [Gd, valOf, hp], ?_⟩
        refine mildS_val (.pointer (some ⟨g, 0, none⟩)) (w' := w') ?_ rfl (by simpa using hj)
        simp [execOp, evalF, hp, go_sem]
      · -- 14: slot 75 := Op.fieldAddr 166 t74 0
        refine obS_yes fun f bb w' hj hs hd hp => ?_
        simp [PreO, factO, valOf, Region.binds] at hp hd
        refine ⟨by simp [Gd, valOf, hp], ?_⟩
        refine mildS_val (.pointer (some ⟨g, 0, none⟩)) (w' := w') ?_ rfl (by simpa using hj)
        simp [execOp, evalF, hp, go_sem]
      · -- 15: slot 76 := Op.fieldAddr 132 t75 1
        refine obS_yes fun f bb w' hj hs hd hp => ?_
        simp [PreO, factO, valOf, Region.binds] at hp hd
        refine ⟨by simp [Gd, valOf, hp], ?_⟩
        refine mildS_val (.pointer (some ⟨g, 1, none⟩)) (w' := w') ?_ rfl (by simpa using hj)
        simp [execOp, evalF, hp, go_sem]
      · -- 16: slot None := Op.store 45 t76 t73
        refine obS_yes fun f bb w' hj hs hd hp => ?_
        simp [PreO, factO, valOf, Region.binds] at hp hd
        refine ⟨by simp [Gd, valOf, hp], ?_⟩
        obtain ⟨j1, j2, j3, j4, j5, j6, j7⟩ := hj
        have h5 : bb 5 = true := by simp_all
        have h12 : bb 12 = true := by simp_all
        have hc := j1.cell 1 _ rfl
        have hf := j1.frozen 1
        have k4 : OwnF 48 cArc w' base (f 73) ((l ++ [a]) ++ [ar]) := by have h := j4; rw [h12] at h; exact h
        obtain ⟨A9, c9, e9, _, _, _⟩ := k4.form'
        refine mildS_skip (w' := w'.setCell ⟨g, 1, none⟩ (f 73)) ?_ trivial ⟨?_, j2.other _ _ (by show g ≠ w.heap.size; omega), j3.trans (Chg.set _ _ _ (.inl rfl)), ?_, ?_, by simp [h5], by simp [h12]⟩
        · simp [execOp, evalF, hp, go_sem, hc, hf, e9]
        · exact j1.put 1 (f 73)
        · exact ownSetT (by decide) j4 j1 1 (f 73)
        · simpa using TmpT.set (by decide) j5 j1 1 (f 73)
    · intro f bb wd hall hj hp
      simp only [PostO] at hp
      obtain ⟨e0, e1, e2, e3, e4, e5, e6, e7, e8, e9, e10, _, _, e13, e14, e15, _, _⟩ := hp
      simp only [fills, List.foldl_cons, List.foldl_nil, Act.put, List.setIfInBounds_toArray, List.set_cons_zero, List.set_cons_succ, e0, e1, e2, e3, e4, e5, e6, e7, e8, e9, e10, e13, e14, e15]
      clear e0 e1 e2 e3 e4 e5 e6 e7 e8 e9 e10 e13 e14 e15
      simp only [List.drop_succ_cons, List.drop_zero]
      obtain ⟨j1, j2, j3, j4, j5, j6, j7⟩ := hj
      have b12 : bb 12 = true := hall 12 (by decide)
      have b16 : bb 16 = true := hall 16 (by decide)
      rw [b16] at j1
      rw [b12] at j4
      have k1 : BoxAt 166 wd g (mgC fr (f 73) vl) := j1
      have k4 : OwnF 48 cArc wd base (f 73) (l ++ [a] ++ [ar]) := j4
      clear j1 j4
      generalize f 73 = vz at *
      go_wp2_with fail
      go_end0
      refine ⟨rfl, vz, k1, ?_, (Chg.ofBelow Hb3.out).trans j3⟩
      rw [Hrl2.out]
      exact k4
end Go.Proofs.YtcffeepgfjpcaaaGreat

namespace Go.Proofs.YtcffeepgfjpcaaaGreat
set_option linter.unusedSimpArgs false
set_option linter.unusedVariables false
open Go.RowKit Go.Shelf

set_option maxRecDepth 100000 in
set_option maxHeartbeats 1600000 in
theorem vals_iter (n : Nat) (hn : 1 ≤ n) (w : World) (B Bs : Nat) (hBw : B ≤ w.heap.size) (A : Option Addr) (c : Nat) (vals : List Value) (hlen : vals.length ≤ 1048576) (hb : BoxAt 70 w Bs [.slice A vals.length c])
    (hcell : ∀ i, (h : i < vals.length) → ∃ ad, A = some ad ∧ ad.block < B ∧ w.cell? (ad.add i) = some vals[i]) :
    IterX (α := Nat) Tryz.prog n 97 #[.pointer (some ⟨Bs, 0, none⟩)] (fun i => #[vals.getD i undef]) (fun X Y => Below B X Y)
      (fun pre i _ => i = pre.length ∧ i < vals.length) (fun xs _ => xs = List.range vals.length) (fun pre => True) (fun _ => True) w := by
  intro l J Jx W hW hJ hJx hY h0
  have hbW := (hb.below hb.lt hW).cell 0 _ rfl
  have hcW : ∀ i, (h : i < vals.length) → ∃ ad, A = some ad ∧ ad.block < B ∧ W.cell? (ad.add i) = some vals[i] := fun i h => by
    obtain ⟨ad, e, h1, h2⟩ := hcell i h
    exact ⟨ad, e, h1, (hW.cell (p := ad.add i) (by rw [add_block]; omega)).trans h2⟩
  have hszW := hW.size
  have HcW := Lib.hid hcW
  have HY := Lib.hid hY
  clear hY hb hcell hJ hJx hcW
  refine callsIn_of_wp Tryz.func97 rfl trivial ?_ rfl
  simp only [Tryz.ntmps97, List.size_toArray, List.length_cons, List.length_nil, Nat.reduceAdd, Nat.reduceSub, Array.replicate_succ, Array.replicate_zero, List.push_toArray, List.append_toArray, List.nil_append, List.cons_append]
  gi_wp2
  gi_loopw [7] (fun i wr => ∃ k : Nat, k ≤ vals.length ∧ i = .int .i64 k ∧ J (List.range k) wr ∧ Below B W wr) (fun i _ => vals.length - (intOf i).toNat)
  case atStart => exact ⟨0, Nat.zero_le _, rfl, h0, Below.refl _ _⟩
  case round =>
    obtain ⟨k, hk, rfl, hJs, hbr⟩ := hrel
    have HJs := Lib.hid hJs
    have Hbr := Lib.hid hbr
    clear hJs hbr h0
    by_cases hlt : k < vals.length
    · obtain ⟨ad, rfl, hab, hx⟩ := HcW.out k hlt
      have hx2 := (Hbr.out.cell (p := ad.add k) (by rw [add_block]; exact hab)).trans hx
      obtain ⟨fn, tmps, assign, body, hy, hR⟩ := HY.out (List.range k) k wr HJs.out ⟨by simp, hlt⟩ trivial
      have hg : vals.getD k undef = vals[k] := by simp [List.getD, hlt]
      rw [hg] at hy
      have hdk : decide ((k : Int) < (vals.length : Int)) = true := decide_eq_true (by omega)
      rw [← List.range_succ] at hR
      clear hx hg
      generalize vals[k] = vk at *
      gi_wp2
      refine hR.mono ?_
      clear hR hy
      rintro e W3 (⟨rfl, hJ3, hk3, -⟩ | ⟨rfl, hJx3⟩)
      · have HJ3 := Lib.hid hJ3
        have HK3 := Lib.hid hk3
        clear hJ3 hk3
        gi_wp2
        go_roundw
        case rel => exact ⟨k + 1, by omega, by go_num, HJ3.out, Hbr.out.trans HK3.out⟩
        case measure => simp [intOf]; omega
      · gi_wp2
        refine bodyPost_ret (results_none rfl _ _ _) rfl ?_
        exact ⟨⟨_, rfl⟩, .inr ⟨_, trivial, hJx3⟩⟩
    · have hdk : decide ((k : Int) < (vals.length : Int)) = false := decide_eq_false (by omega)
      have e : k = vals.length := by omega
      gi_wp2
      go_end0
      exact ⟨⟨_, rfl⟩, .inl ⟨_, rfl, by rw [← e]; exact HJs.out⟩⟩
end Go.Proofs.YtcffeepgfjpcaaaGreat

namespace Go.Proofs.YtcffeepgfjpcaaaGreat
set_option linter.unusedSimpArgs false
set_option linter.unusedVariables false
open Go.RowKit Go.Shelf

def cellsTy : Obj → Option TypeId
  | .cells _ T _ => some T
  | _ => none
def AbM {α : Type} (B : Nat) (Ts : List TypeId) (blk : α → Option Nat) (J : List α → World → Prop) : Prop :=
  ∀ (s : List α) (A C : World) (P : Nat → Prop), J s A → Chg P A C → (∀ r, P r → r < A.heap.size → B ≤ r ∧ ∃ o : Obj, A.heap[r]? = some o ∧ (o.isCells = false ∨ ∃ T, cellsTy o = some T ∧ T ∈ Ts ∧ ∀ x ∈ s, blk x ≠ some r)) → J s C
section
variable {α : Type} {B : Nat} {Ts : List TypeId} {blk : α → Option Nat} {J : List α → World → Prop}
theorem AbM.putObj (h : AbM B Ts blk J) {s : List α} {W : World} {l : Nat} {o : Obj} (o' : Obj) (hs : J s W) (hB : B ≤ l) (hl : W.heap[l]? = some o) (ho : o.isCells = false) : J s (W.putObj l o') :=
  h s W _ (fun k => k = l) hs ⟨rfl, rfl, rfl, by simp, fun k _ hk => World.putObj_heap_other (fun e => hk (by rw [e]))⟩ fun r e _ => by subst e; exact ⟨hB, o, hl, .inl ho⟩
theorem AbM.below (h : AbM B Ts blk J) {s : List α} {W W' : World} (hs : J s W) (hb : Below W.heap.size W W') : J s W' :=
  h s W W' (fun _ => False) hs ⟨hb.os, hb.tape, hb.output, hb.size, fun k hk _ => hb.block k hk⟩ fun r e _ => e.elim
theorem AbM.alloc (h : AbM B Ts blk J) {s : List α} {W : World} (o : Obj) (hs : J s W) : J s (W.alloc o) := h.below hs (balloc W o)
end
/-- what an iterator promises: S: all have come; Sp: a part -/
def IterZ {α : Type} (P : Program) (n gf : Nat) (lb : Array Value) (encs : α → Array Value) (Ts : List TypeId) (blk : α → Option Nat) (Kr : World → World → Prop) (R : List α → α → World → Prop) (S : List α → World → Prop) (Sp : List α → Prop) (Bd : List α → Prop) (w : World) : Prop :=
  ∀ (l : Nat) (J Jx : List α → World → Prop) (W : World), Below w.heap.size w W → AbM W.heap.size Ts blk J → AbM W.heap.size Ts blk Jx →
    (∀ pre x W1, J pre W1 → R pre x W1 → Bd pre → YieldAt Fence.wide (n - 1) P l (encs x) W1 fun e W' =>
      (e = .returned (.bool true) ∧ J (pre ++ [x]) W' ∧ Kr W1 W' ∧ Bd (pre ++ [x])) ∨ (e = .returned (.bool false) ∧ Jx (pre ++ [x]) W' ∧ KeepsFrom (w.heap.size + 2) W1 W')) → J [] W →
    CallsIn Fence.wide n P gf (#[.func (.yield l) #[] #[]] ++ lb) W fun e W' => (∃ v, e = .returned v) ∧ ((∃ xs, S xs W' ∧ J xs W') ∨ ∃ pre, Sp pre ∧ Jx pre W')


theorem range_z {α : Type} {P : Program} {g : Operand} {ps : Array Tmp} {assign body : Code} {Q : Exit → Act → World → Prop} {a : Act} {w : World} {n gf : Nat} {lb : Array Value}
    (hg : a.eval g = .func (.func gf) #[] lb) (eg : ∀ args w, (callFunc gf args).run P w = .ok (.enter gf args) w)
    {encs : α → Array Value} {Ts : List TypeId} {blk : α → Option Nat} {Kr : World → World → Prop} (hKt : ∀ {X Y Z : World}, Kr X Y → Kr Y Z → Kr X Z) (hKp : ∀ (W : World) (o o' : Obj), W.heap[w.heap.size + 1]? = some o → o.isCells = false → Kr W (W.putObj (w.heap.size + 1) o')) {R : List α → α → World → Prop} {S : List α → World → Prop} {Sp Bd : List α → Prop} (hps : ∀ x, (encs x).size = ps.size) (hit : IterZ P (n - 1) gf lb encs Ts blk Kr R S Sp Bd w)
    (I : List α → World → Prop) (Ix : Code → List α → World → Prop) (hI : AbM w.heap.size Ts blk I) (hIx : ∀ c, AbM w.heap.size Ts blk (Ix c)) (hS : OwnFrom w.heap.size S) (h0 : I [] w)
    (Ax : Act → List α → α → Act → World → Prop) (hAx : ∀ pre x a', OwnFrom w.heap.size (fun (_ : Unit) W => Ax a pre x a' W))
    (hassign : ∀ (l : Nat) (pre : List α) (x : α) (W : World), w.heap.size ≤ l → I pre W → R pre x W →
      assign.wpIn (Fence.wide.inRound l) (n - 1 - 1) P (fun e a' W' => e = .normal ∧ KeepsFrom w.heap.size W W' ∧ Kr W W' ∧ Ax a pre x a' W') { tmps := (ps.zip (encs x)).foldl (fun t (p, v) => t.setIfInBounds p v) a.tmps, defers := [] } W)
    (hbody : ∀ (l : Nat) (pre : List α) (x : α) (a' : Act) (W : World), w.heap.size ≤ l → Ax a pre x a' W → Bd pre →
      body.wpIn (Fence.wide.inRound l) (n - 1 - 1) P (postX w.heap.size Kr I Ix Bd (pre ++ [x]) W) a' W)
    (hdone : ∀ (D : Nat) (xs : List α) (W : World), w.heap.size ≤ D → S xs W → I xs W → W.heap[D]? = some (.deferred (some [])) → Q .normal { a with defers := { target := .collected D, args := #[] } :: a.defers } W)
    (hstop : ∀ (D : Nat) (c : Code) (pre : List α) (W : World), w.heap.size ≤ D → Sp pre → Ix c pre W → W.heap[D]? = some (.deferred (some [])) → c.wpIn Fence.wide n P Q { a with defers := { target := .collected D, args := #[] } :: a.defers } W) :
    (Code.rangeFunc g ps assign body).wpIn Fence.wide n P Q a w := by
  refine wpIn_rangeFunc fun fn hfn => ?_
  obtain ⟨L, hL⟩ : ∃ L, L = w.heap.size + 1 := ⟨_, rfl⟩
  obtain ⟨lp, hlp⟩ : ∃ lp : LoopState → Option Code → Loop, lp = fun st pe => { state := st, pending := pe, fn, tmps := a.tmps, params := ps, assign, body, defers := w.heap.size } := ⟨_, rfl⟩
  have e1 : ∀ st pe, ({ lp st pe with state := .busy } : Loop) = lp .busy pe := fun st pe => by rw [hlp]
  have e2 : ∀ st st' pe, ({ lp st pe with state := st' } : Loop) = lp st' pe := fun st st' pe => by rw [hlp]
  have e3 : ∀ st st' pe pe', ({ lp st pe with state := st', pending := pe' } : Loop) = lp st' pe' := fun st st' pe pe' => by rw [hlp]
  obtain ⟨W1, hW1⟩ : ∃ W1, W1 = (w.alloc (.deferred (some []))).alloc (.loop (lp .ready none)) := ⟨_, rfl⟩
  have hsz1 : W1.heap.size = w.heap.size + 2 := by rw [hW1]; simp
  have hl1 : W1.heap[L]? = some (.loop (lp .ready none)) := by
    rw [hW1, hL]
    have := World.alloc_heap_new (w.alloc (.deferred (some []))) (.loop (lp .ready none))
    rwa [World.size_alloc] at this
  have hd1 : W1.heap[w.heap.size]? = some (.deferred (some [])) := by rw [hW1]; exact (heap_alloc_old _ _ (by simp)).trans (World.alloc_heap_new w _)
  have hb1 : Below w.heap.size w W1 := by rw [hW1]; exact bstep (balloc _ _) (balloc _ _)
  have hi1 : I [] W1 := by rw [hW1]; exact hI.alloc _ (hI.alloc _ h0)
  have hkb : ∀ (W : World) (st : LoopState) (pe : Option Code) (o' : Obj), W.heap[L]? = some (.loop (lp st pe)) → Kr W (W.putObj L o') := fun W st pe o' h => by subst hL; exact hKp W _ o' h rfl
  have keep : ∀ {A C : World} {P : Nat → Prop}, Chg P A C → (∀ r, P r → r < A.heap.size → W1.heap.size ≤ r) → ∀ (q : Nat) (o : Obj), A.heap[q]? = some o → q < W1.heap.size → C.heap[q]? = some o := fun hc hr q o ho hw => by
    have hlt := (Array.getElem?_eq_some_iff.1 ho).1
    refine (hc.block q hlt fun e => ?_).trans ho
    have h1 := hr q e hlt
    omega
  refine ⟨L, [{ target := .collected w.heap.size, args := #[] }], W1, { target := .fn (.func gf) lb, args := #[.func (.yield L) #[] #[]] }, W1, gf, #[.func (.yield L) #[] #[]] ++ lb, W1, ?_, ?_, fun _ _ => trivial, ?_, fun h => by simp [Fence.wide] at h, ?_⟩
  · have := run_enterLoop_outer (P := P) (w := w) fn a.tmps ps assign body
    rw [hW1, hL, hlp]
    exact this
  · simp only [resolve, hg]
    simp [go_sem]
  · simp [invoke, go_sem, eg]
  refine (hit L (fun pre W => I pre W ∧ W.heap[L]? = some (.loop (lp .ready none)) ∧ W.heap[w.heap.size]? = some (.deferred (some [])))
    (fun pre W => ∃ c, Ix c pre W ∧ W.heap[L]? = some (.loop (lp .done (some c))) ∧ W.heap[w.heap.size]? = some (.deferred (some []))) W1 hb1 ?_ ?_ ?_ ⟨hi1, hl1, hd1⟩).mono ?_
  · rintro s A C P ⟨ha, hb, hc⟩ hgr hr
    exact ⟨hI s A C P ha hgr fun r h1 h2 => by obtain ⟨h3, h4⟩ := hr r h1 h2; exact ⟨by omega, h4⟩, keep hgr (fun r h1 h2 => (hr r h1 h2).1) _ _ hb (by omega), keep hgr (fun r h1 h2 => (hr r h1 h2).1) _ _ hc (by omega)⟩
  · rintro s A C P ⟨c, ha, hb, hc⟩ hgr hr
    exact ⟨c, hIx c s A C P ha hgr fun r h1 h2 => by obtain ⟨h3, h4⟩ := hr r h1 h2; exact ⟨by omega, h4⟩, keep hgr (fun r h1 h2 => (hr r h1 h2).1) _ _ hb (by omega), keep hgr (fun r h1 h2 => (hr r h1 h2).1) _ _ hc (by omega)⟩
  · -- a round
    rintro pre x W ⟨hi, hl, hd⟩ hRx hbd
    have hlt := (Array.getElem?_eq_some_iff.1 hl).1
    have hy := run_yield (P := P) (args := encs x) hl (by rw [hlp]; exact hps x)
    have f1 : (lp .ready none).fn = fn := by rw [hlp]
    have f2 : (lp .ready none).params = ps := by rw [hlp]
    have f3 : (lp .ready none).tmps = a.tmps := by rw [hlp]
    have f4 : (lp .ready none).assign = assign := by rw [hlp]
    have f5 : (lp .ready none).body = body := by rw [hlp]
    rw [f1, f2, f3, f4, f5] at hy
    refine ⟨fn, _, assign, body, hy, roundIn_of_wpIn trivial (wpIn_mono (hassign L pre x W (by omega) hi hRx) ?_)⟩
    rintro e a2 W2 ⟨rfl, hk2, hp2, hx2⟩
    have hl2 := hk2.same _ _ (by omega) hl rfl
    have hd2 := hk2.same _ _ (Nat.le_refl _) hd rfl
    refine ⟨_, run_beginRound hl2 (by rw [hlp]), ?_⟩
    rw [e1]
    have hlt2 := (Array.getElem?_eq_some_iff.1 hl2).1
    have hl3 : (W2.putObj L (.loop (lp .busy none))).heap[L]? = some (.loop (lp .busy none)) := World.putObj_heap_same hlt2
    have hd3 : (W2.putObj L (.loop (lp .busy none))).heap[w.heap.size]? = some (.deferred (some [])) := (World.putObj_heap_other (by omega)).trans hd2
    refine wpIn_mono (hbody L pre x a2 _ (by omega) ((hAx pre x a2).putObj (s := ()) _ hx2 (by omega) hl2 rfl) hbd) ?_
    have fin : ∀ (jump : Option Code) (W4 : World), KeepsFrom w.heap.size (W2.putObj L (.loop (lp .busy none))) W4 →
        (Instr.endRound L jump).run P W4 = .ok (.bool jump.isNone) (W4.putObj L (.loop (lp (if jump.isNone then .ready else .done) jump))) ∧ W4.heap[L]? = some (.loop (lp .busy none)) ∧
        (W4.putObj L (.loop (lp (if jump.isNone then .ready else .done) jump))).heap[L]? = some (.loop (lp (if jump.isNone then .ready else .done) jump)) ∧
        (W4.putObj L (.loop (lp (if jump.isNone then .ready else .done) jump))).heap[w.heap.size]? = some (.deferred (some [])) := fun jump W4 hk4 => by
      have hl4 := hk4.same _ _ (by omega) hl3 rfl
      have hd4 := hk4.same _ _ (Nat.le_refl _) hd3 rfl
      have hr := run_endRound (P := P) jump hl4
      rw [e3] at hr
      exact ⟨hr, hl4, World.putObj_heap_same (Array.getElem?_eq_some_iff.1 hl4).1, (World.putObj_heap_other (by omega)).trans hd4⟩
    have hkm : ∀ {X Y : World}, KeepsFrom w.heap.size X Y → KeepsFrom (w.heap.size + 2) X Y := fun h => ⟨h.size, fun k o hk h1 h2 => h.same k o (by omega) h1 h2⟩
    have hkp : ∀ (X : World) (o : Obj), KeepsFrom (w.heap.size + 2) X (X.putObj L o) := fun X o => KeepsFrom.of_grownBy (grownBy_putObj' X L o) fun j e => by injection e with e; omega
    have hkk : ∀ (W4 : World) (o : Obj), KeepsFrom w.heap.size (W2.putObj L (.loop (lp .busy none))) W4 → KeepsFrom (w.heap.size + 2) W (W4.putObj L o) := fun W4 o hk4 => (((hkm hk2).trans (hkp _ _)).trans (hkm hk4)).trans (hkp _ _)
    rintro e a4 W4 hp
    cases e with
    | normal =>
      obtain ⟨hk4, hp4, hi4, hbd4⟩ := hp
      obtain ⟨hr, hl4, hl5, hd5⟩ := fin none W4 hk4
      exact ⟨_, _, hr, .inl ⟨rfl, ⟨hI.putObj _ hi4 (by omega) hl4 rfl, hl5, hd5⟩, hKt (hKt hp2 (hkb _ _ _ _ hl2)) (hKt hp4 (hkb _ _ _ _ hl4)), hbd4⟩⟩
    | ret =>
      obtain ⟨hk4, hi4⟩ := hp
      obtain ⟨hr, hl4, hl5, hd5⟩ := fin (some .ret) W4 hk4
      exact ⟨_, _, hr, .inr ⟨rfl, ⟨.ret, (hIx _).putObj _ hi4 (by omega) hl4 rfl, hl5, hd5⟩, hkk _ _ hk4⟩⟩
    | exit id =>
      obtain ⟨hk4, hi4⟩ := hp
      obtain ⟨hr, hl4, hl5, hd5⟩ := fin (some (.exit id)) W4 hk4
      exact ⟨_, _, hr, .inr ⟨rfl, ⟨.exit id, (hIx _).putObj _ hi4 (by omega) hl4 rfl, hl5, hd5⟩, hkk _ _ hk4⟩⟩
    | goto t => exact hp.elim
    | panic ch => exact hp.elim
    | outgrown => exact hp.elim
  · -- behind it
    rintro e W2 ⟨⟨v, rfl⟩, (⟨xs, hSx, hi, hl, hd⟩ | ⟨pre, hSp, c, hi, hl, hd⟩)⟩
    · have hr := run_endLoop (P := P) hl (by rw [hlp]; simp)
      rw [e2] at hr
      have hp : (lp .ready none).pending = none := by rw [hlp]
      rw [hp] at hr
      exact ⟨none, _, hr, hdone _ xs _ (Nat.le_refl _) (hS.putObj _ hSx (by omega) hl rfl) (hI.putObj _ hi (by omega) hl rfl) ((World.putObj_heap_other (by omega)).trans hd)⟩
    · have hr := run_endLoop (P := P) hl (by rw [hlp]; simp)
      rw [e2] at hr
      have hp : (lp .done (some c)).pending = some c := by rw [hlp]
      rw [hp] at hr
      exact ⟨some c, _, hr, hstop _ c pre _ (Nat.le_refl _) hSp ((hIx c).putObj _ hi (by omega) hl rfl) ((World.putObj_heap_other (by omega)).trans hd)⟩
end Go.Proofs.YtcffeepgfjpcaaaGreat

namespace Go.Proofs.YtcffeepgfjpcaaaGreat
set_option linter.unusedSimpArgs false
set_option linter.unusedVariables false
open Go.RowKit Go.Shelf

theorem eachY_over {x : GEdge} {t : List GEdge} {cur : GRow} (h : overP cur x = true) : eachY (x :: t) cur = [(⟨0, []⟩, 10)] := by rw [eachY, if_pos h]
theorem eachY_go {x : GEdge} {t : List GEdge} {cur : GRow} (h : overP cur x = false) : eachY (x :: t) cur = (if fullP cur x = true then [(cur, 0)] else []) ++ eachY t (takeP cur x) := by
  rw [eachY, if_neg (by simp [h])]
theorem full_eq (cur : GRow) (x : GEdge) : fullN cur.arcs.length cur.fr.toNat x = fullP cur x := by
  unfold fullN fullP
  congr 1
  have : cur.fr = x.fr ↔ cur.fr.toNat = x.fr.toNat := UInt32.toNat_inj.symm
  simp only [ne_eq, this]
theorem mgE_eq (cur : GRow) (x : GEdge) : mgE cur.fr.toNat cur.arcs.length (gsum cur.arcs) x = if overP cur x = true then 10 else 0 := by
  unfold mgE overP hasP
  have : cur.fr = x.fr ↔ cur.fr.toNat = x.fr.toNat := UInt32.toNat_inj.symm
  simp only [this]
  by_cases h1 : 0 < cur.arcs.length <;> by_cases h2 : cur.fr.toNat = x.fr.toNat <;> simp [h1, h2]
/-- what is yielded: a row and an error -/
abbrev encE (x : Value × Int) : Array Value := #[x.1, .int .i64 x.2]
def rowBlk (x : Value × Int) : Option Nat :=
  match x.1 with
  | .agg a => (a.getD 1 undef).ownBlock
  | _ => none
structure KrM (V L0 H : Nat) (X Y : World) : Prop where
  kr : KrR V L0 X Y
  bl : Below L0 X Y
  kf : KeepsFrom H X Y
theorem KrM.trans {V L0 H : Nat} {X Y Z : World} (h : KrM V L0 H X Y) (k : KrM V L0 H Y Z) : KrM V L0 H X Z := ⟨h.kr.trans k.kr, h.bl.trans k.bl, h.kf.trans k.kf⟩
/-- an own row of things of another type stays -/
theorem krOwnT {V L0 : Nat} {W W' : World} {α : Type} {E : TypeId} {C : Cdc α} (hE : E ≠ 132) (h : KrR V L0 W W') {base : Nat} {v : Value} {xs : List α} (hb : V < base) (hr : OwnF E C W base v xs) : OwnF E C W' base v xs := by
  obtain ⟨css, hl, ⟨hz, h2⟩, h3, h4⟩ := hr
  refine ⟨css, hl, ⟨hz, ?_⟩, fun i cs x hc hx => C.keep (h3 i cs x hc hx) fun p hp => hp.elim, fun k hk => hk.elim⟩
  rcases h2 with h2 | ⟨g, cap, cur, e, hg, hh, r⟩
  · exact .inl h2
  · exact .inr ⟨g, cap, cur, e, hg, h.same g _ (fun e => by
      rcases e with e | ⟨_, e⟩
      · omega
      · exact hE e) hh rfl, r⟩
theorem owChg {P : Nat → Prop} {W W' : World} (h : Chg P W W') {base : Nat} {v : Value} {xs : List UInt8} (hb : ∀ k cs, P k → W.heap[k]? ≠ some (.cells cs 5 (0, 0))) (hr : Ow W base v xs) : Ow W' base v xs := by
  obtain ⟨hz, h2⟩ := hr
  refine ⟨hz, ?_⟩
  rcases h2 with h2 | ⟨g, cap, cur, e, hg, hh, r⟩
  · exact .inl h2
  · exact .inr ⟨g, cap, cur, e, hg, (h.block g (Array.getElem?_eq_some_iff.1 hh).1 (fun hp => hb g _ hp hh)).trans hh, r⟩
/-- the state of a round: k keys are taken; J: the caller's -/
def EachI (J : List (Value × Int) → World → Prop) (L : List GEdge) (l g yb L0 S0 : Nat) (w : World) (k : Nat) (W : World) : Prop :=
  ∃ ys va vl base cur last, J ys W ∧ BoxAt 166 W g (mgC cur.fr.toNat va vl) ∧ OwnF 48 cArc W base va cur.arcs ∧ base ≤ W.heap.size ∧ S0 ≤ base ∧ (∀ x ∈ ys, ∀ q, rowBlk x = some q → q < base ∧ q ≠ g) ∧
    Ow W S0 vl last ∧ (∀ x, L[k]? = some x → 0 ≤ Lib.compareBytes (keyL x) last) ∧ BoxAt 164 W yb [.func (.yield l) #[] #[]] ∧ (∃ es, eachY L ⟨0, []⟩ = es ++ eachY (L.drop k) cur ∧ es.length = ys.length) ∧
    Below L0 w W ∧ cur.arcs.length ≤ k ∧ gsum cur.arcs ≤ 2147483647
theorem Ow.ownk {X Y : World} {base : Nat} {v : Value} {xs : List UInt8} {row : Option Nat} (hr0 : Ow X base v xs) (hg : X.grownBy Y row) (hr : ∀ r, row = some r → ∃ o : Obj, X.heap[r]? = some o ∧ o.isCells = false) : Ow Y base v xs := by
  obtain ⟨hz, h2⟩ := hr0
  refine ⟨hz, ?_⟩
  rcases h2 with h2 | ⟨g, cap, cur, e, hg2, hh, r⟩
  · exact .inl h2
  · exact .inr ⟨g, cap, cur, e, hg2, (hg.block g (Array.getElem?_eq_some_iff.1 hh).1 (fun e => by
      obtain ⟨o, ho, hc⟩ := hr g e.symm
      rw [hh] at ho
      injection ho with ho
      subst ho
      cases hc)).trans hh, r⟩
theorem AbM.own {α : Type} {B : Nat} {Ts : List TypeId} {blk : α → Option Nat} {J : List α → World → Prop} (h : AbM B Ts blk J) {s : List α} {X Y : World} {row : Option Nat} (hs : J s X) (hg : X.grownBy Y row)
    (hr : ∀ r, row = some r → B ≤ r ∧ ∃ o : Obj, X.heap[r]? = some o ∧ o.isCells = false) : J s Y :=
  h s X Y (fun k => row = some k) hs ⟨hg.os, hg.tape, hg.output, hg.size, fun k hk hn => hg.block k hk fun e => hn e.symm⟩ fun r e _ => by
    obtain ⟨h1, o, h2, h3⟩ := hr r e
    exact ⟨h1, o, h2, .inl h3⟩
theorem EachI.own {J : List (Value × Int) → World → Prop} {B : Nat} {L : List GEdge} {l g yb L0 S0 : Nat} {w : World} {k : Nat} {X Y : World} {row : Option Nat} (hLw : L0 ≤ w.heap.size) (hJ : AbM B [166, 48] rowBlk J) (h : EachI J L l g yb L0 S0 w k X) (hg : X.grownBy Y row)
    (hr : ∀ r, row = some r → (B ≤ r ∧ L0 ≤ r) ∧ ∃ o : Obj, X.heap[r]? = some o ∧ o.isCells = false) : EachI J L l g yb L0 S0 w k Y := by
  obtain ⟨ys, va, vl, base, cur, last, q1, q2, q3, q4, q5, q6, q7, q8, q9, q10, q11, q12, q13⟩ := h
  have hr2 := fun r e => (hr r e).2
  exact ⟨ys, va, vl, base, cur, last, hJ.own q1 hg (fun r e => ⟨(hr r e).1.1, (hr r e).2⟩), q2.ownk hg hr2, OwnR.ownk q3 hg hr2, Nat.le_trans q4 hg.size, q5, q6, q7.ownk hg hr2, q8, q9.ownk hg hr2, q10, q11.grown hg (Nat.le_trans hLw q11.size) (fun r e => (hr r e).1.2), q12, q13⟩
theorem keepsChg {P : Nat → Prop} {X Y : World} (h : Chg P X Y) (B : Nat) (hP : ∀ k, P k → k < X.heap.size → ∃ o : Obj, X.heap[k]? = some o ∧ o.isCells = true) : KeepsFrom B X Y :=
  ⟨h.size, fun k o _ hk hc => (h.block k (Array.getElem?_eq_some_iff.1 hk).1 (fun hp => by
    obtain ⟨o2, h2, h3⟩ := hP k hp (Array.getElem?_eq_some_iff.1 hk).1
    rw [hk] at h2
    injection h2 with h2
    rw [h2, h3] at hc
    cases hc)).trans hk⟩
theorem keepsBelow {X Y : World} (h : Below X.heap.size X Y) (B : Nat) : KeepsFrom B X Y := ⟨h.size, fun k o _ hk _ => (h.block k (Array.getElem?_eq_some_iff.1 hk).1).trans hk⟩
theorem keepsMono {B B' : Nat} {X Y : World} (h : KeepsFrom B X Y) (hB : B ≤ B') : KeepsFrom B' X Y := ⟨h.size, fun k o hk h1 h2 => h.same k o (by omega) h1 h2⟩
theorem over_le {cur : GRow} {x : GEdge} (h : overP cur x = false) : hasP cur x + x.wt.toNat ≤ 2147483647 := by unfold overP at h; simpa using h
theorem not_full {cur : GRow} {x : GEdge} (h : fullP cur x = false) (h0 : 0 < cur.arcs.length) : cur.fr = x.fr := by
  unfold fullP at h
  simp only [h0, decide_true, Bool.true_and, decide_eq_false_iff_not, ne_eq, Classical.not_not] at h
  exact h
theorem takeP_new {cur : GRow} {x : GEdge} (h : fullP cur x = true ∨ cur.arcs.length = 0) : takeP cur x = ⟨x.fr, [⟨x.to, x.wt⟩]⟩ := by unfold takeP; rw [if_pos h]
theorem takeP_more {cur : GRow} {x : GEdge} (h : fullP cur x = false) (h0 : 0 < cur.arcs.length) : takeP cur x = ⟨cur.fr, addArc cur.arcs x⟩ := by
  unfold takeP
  rw [if_neg]
  rintro (h1 | h1)
  · rw [h] at h1; cases h1
  · omega
theorem takeP_sum {cur : GRow} {x : GEdge} (ho : overP cur x = false) : gsum (takeP cur x).arcs ≤ 2147483647 := by
  have h := over_le ho
  cases hf : fullP cur x with
  | true => rw [takeP_new (.inl hf)]; simp only [gsum_one]; omega
  | false =>
    rcases Nat.eq_zero_or_pos cur.arcs.length with h0 | h0
    · rw [takeP_new (.inr h0)]; simp only [gsum_one]; omega
    · rw [takeP_more hf h0]
      have hh : hasP cur x = gsum cur.arcs := by unfold hasP; rw [if_pos ⟨h0, not_full hf h0⟩]
      obtain ⟨i, a, e⟩ : ∃ i a, cur.arcs = i ++ [a] := ⟨_, _, (List.dropLast_concat_getLast (List.ne_nil_of_length_pos h0)).symm⟩
      simp only [e, addArc_last]
      rw [hh, e, gsum_append, gsum_one] at h
      split
      · rw [gsum_append, gsum_one]
        have : (a.wt + x.wt).toNat = a.wt.toNat + x.wt.toNat := u32_add (by omega)
        simp only
        omega
      · rw [gsum_append, gsum_one, gsum_append, gsum_one]
        simp only
        omega
theorem takeP_len {cur : GRow} {x : GEdge} : (takeP cur x).arcs.length ≤ cur.arcs.length + 1 := by
  unfold takeP
  split
  · simp
  · rcases Nat.eq_zero_or_pos cur.arcs.length with h0 | h0
    · have : cur.arcs = [] := List.eq_nil_of_length_eq_zero h0
      simp [this, addArc]
    · obtain ⟨i, a, e⟩ : ∃ i a, cur.arcs = i ++ [a] := ⟨_, _, (List.dropLast_concat_getLast (List.ne_nil_of_length_pos h0)).symm⟩
      simp only [e, addArc_last]
      split <;> simp
theorem take_any22 (w : World) (g base : Nat) (x : GEdge) (cur : GRow) (va vl : Value) (hb : BoxAt 166 w g (mgC cur.fr.toNat va vl)) (hown : OwnF 48 cArc w base va cur.arcs)
    (hbase : base ≤ w.heap.size) (hlen : cur.arcs.length ≤ 1048576) (ho : overP cur x = false) :
    Calls Tryz.prog 95 #[.pointer (some ⟨g, 0, none⟩), edgeV x] w fun e w' => e = .returned (.tuple #[]) ∧ ∃ va' base', BoxAt 166 w' g (mgC (takeP cur x).fr.toNat va' vl) ∧
      OwnF 48 cArc w' base' va' (takeP cur x).arcs ∧ Chg (fun k => k = g ∨ (fullP cur x = false ∧ va.ownBlock = some k)) w w' ∧ base ≤ base' ∧ base' ≤ w'.heap.size ∧ (fullP cur x = true → base' = w.heap.size) := by
  have hov := over_le ho
  by_cases hn : fullP cur x = true ∨ cur.arcs.length = 0
  · obtain ⟨A, c, rfl, _⟩ := hown.form'
    rw [takeP_new hn]
    refine (take_new w g x cur.fr.toNat cur.arcs.length c A vl hb (by rw [full_eq]; exact hn)).mono ?_
    rintro e w' ⟨rfl, va', h1, h2, h3⟩
    exact ⟨rfl, va', w.heap.size, h1, h2, h3.more (fun k _ h => .inl h), hbase, h3.size, fun _ => rfl⟩
  · have hf : fullP cur x = false := by
      cases h : fullP cur x with
      | false => rfl
      | true => exact absurd (.inl h) hn
    have h0 : 0 < cur.arcs.length := by
      rcases Nat.eq_zero_or_pos cur.arcs.length with h | h
      · exact absurd (.inr h) hn
      · exact h
    have hfr := not_full hf h0
    have hh : hasP cur x = gsum cur.arcs := by unfold hasP; rw [if_pos ⟨h0, hfr⟩]
    rw [takeP_more hf h0]
    obtain ⟨i, a, e⟩ : ∃ i a, cur.arcs = i ++ [a] := ⟨_, _, (List.dropLast_concat_getLast (List.ne_nil_of_length_pos h0)).symm⟩
    rw [hh, e, gsum_append, gsum_one] at hov
    rw [e] at hown hlen ⊢
    refine (take_more w g base x cur.fr.toNat va vl i a hb hown (by rw [hfr]) hbase (by simp at hlen; omega) (by omega)).mono ?_
    rintro e w' ⟨rfl, va', h1, h2, h3⟩
    exact ⟨rfl, va', base, h1, h2, h3.more (fun k _ h => h.imp id fun h => ⟨hf, h⟩), Nat.le_refl _, Nat.le_trans hbase h3.size, fun h => by rw [hf] at h; cases h⟩
section
variable {F : Fence} {n : Nat} {ops : Array Oper} {rest : List Oper} {o : Oper} {a : Act} {w : World} {Q : Exit → Act → World → Prop}
theorem wpListIn_load_aggG (hw : Region.wanted o (yielded ops a.tmps) = true) (T : TypeId) (x : Operand) (ho : o.op = .load T x)
    (ad : Addr) (hx : a.eval x = .pointer (some ad)) (cs : List Value) (hc : ∀ (j : Nat) (v : Value), cs[j]? = some v → w.cell? (ad.add j) = some v) {d : TypeDesc} (hu : Tryz.prog.underlying T = some d)
    (hd : (match d with | .struct _ | .array _ _ => true | _ => false) = true) (hi : (Tryz.prog.info? T).map (·.size) = some cs.length)
    (h : wpListIn F n Tryz.prog ops Q rest (a.put o.dst (.agg cs.toArray)) w) : wpListIn F n Tryz.prog ops Q (o :: rest) a w :=
  BigFrame.wpListIn_want hw fun K hK => by
    unfold Oper.wpIn
    refine ⟨by simp [Oper.about, ho], ?_⟩
    rw [Oper.semAt_plain F _ _ (by rw [ho]; intro c hc'; cases hc')]
    unfold execOp
    simp only [ho, hx, Instr.loadAt, Instr.sureAddr, Sem.run_bind, Sem.run_pure, Result.andThen_ok, run_loadVar_cells w ad T cs hc hu hd hi]
    exact hK _ _ h
end
end Go.Proofs.YtcffeepgfjpcaaaGreat
