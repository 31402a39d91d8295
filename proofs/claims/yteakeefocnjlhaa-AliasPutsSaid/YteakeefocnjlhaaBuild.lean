/- alias.Build -/
import Derived.Test.YteakeefocnjlhaaBuildRow
import Derived.WalkMore
import Derived.Deep.LoopGhost
namespace Go.Proofs.Yteakeefocnjlhaa
set_option linter.unusedSimpArgs false
set_option linter.unusedVariables false
open Go.RowKit

set_option maxRecDepth 100000 in
set_option maxHeartbeats 800000 in
theorem build_no (w : World) (B : Nat) (v : Value) (l : List GArc) (hl : l.length ≤ 4294967296) (h : ByA w B v l) (hB : B ≤ w.heap.size) (hn : nbrs l = false) :
    Calls Try.prog 57 #[v] w fun e w' => e = .returned (.tuple #[.slice none 0 0, .int .i64 3]) ∧ Below w.heap.size w w' := by
  obtain ⟨A, c, rfl, hc1, hc2⟩ := h.form
  unfold maxLen at hc2
  have hmay := gmay_any w B _ l hl h hB
  unfold nbrs at hn
  by_cases h0 : l.length = 0
  · have hd : (l.length == 0) = true := by simpa using h0
    have hd1 : ((l.length : Int) == 0) = true := by simp [h0]
    clear hmay h0
    go_enter Try.func57, Try.ntmps57
    go_wp2_with fail
    go_step3
    go_wp2_with fail
    rw [Exit.noGoto_ret]
    go_ret2
    exact ⟨rfl, Below.refl _ _⟩
  · have hgm : gmay l = false := by
      rw [decide_eq_true (by omega), Bool.true_and] at hn
      exact hn
    rw [hgm] at hmay
    have hd : (l.length == 0) = false := beq_eq_false_iff_ne.2 (by omega)
    have hd1 : ((l.length : Int) == 0) = false := beq_eq_false_iff_ne.2 (by omega)
    have Hmay := Lib.hid hmay
    clear hmay h0
    go_enter Try.func57, Try.ntmps57
    go_wp2_with fail
    go_step3
    go_wp2_with fail
    refine Hmay.out.mono ?_
    rintro _ w1 ⟨rfl, hb1⟩
    go_wp2_with fail
    rw [Exit.noGoto_ret]
    go_ret2
    exact ⟨rfl, hb1⟩

set_option maxRecDepth 100000 in
set_option maxHeartbeats 3200000 in
theorem build_any (w : World) (B : Nat) (v : Value) (l : List GArc) (hl : l.length ≤ 1048576) (h : ByA w B v l) (hB : B ≤ w.heap.size) (hn : nbrs l = true) :
    Calls Try.prog 57 #[v] w fun e w' => ∃ vo, e = .returned (.tuple #[vo, .int .i64 0]) ∧ OwnF 83 cCell w' w.heap.size vo (btab l) ∧ Below w.heap.size w w' := by
  obtain ⟨A, c, rfl, hc1, hc2⟩ := h.form
  unfold maxLen at hc2
  unfold nbrs at hn
  rw [Bool.and_eq_true, decide_eq_true_eq] at hn
  obtain ⟨h0, hgm⟩ := hn
  have hsum := gmay_sum hgm
  have hmay := gmay_any w B _ l (by omega) h hB
  rw [hgm] at hmay
  have hbeg := fun W h hB => begin_any W B (.slice A l.length c) l hl h hB
  have hd : (l.length == 0) = false := beq_eq_false_iff_ne.2 (by omega)
  have hd1 : ((l.length : Int) == 0) = false := beq_eq_false_iff_ne.2 (by omega)
  have hmk := makeC l.length (gsum l) (by omega)
  have Hmay := Lib.hid hmay
  have Hbeg := Lib.hid hbeg
  have hinv := brun_inv l hl hsum
  have Hinv := Lib.hid hinv
  have hl64 := lefts_nat l hl
  have hpin := poors_nat l
  have Hl64 := Lib.hid hl64
  have Hpin := Lib.hid hpin
  have hat := btab_at l
  have Hat := Lib.hid hat
  have hoa := outK_all (gsum l) l.length
  have Hoa := Lib.hid hoa
  have hos := outK_set (gsum l) l.length
  have Hos := Lib.hid hos
  have H0 := Lib.hid h0
  clear hmay hbeg hinv hl64 hpin hgm hat hoa hos h0
  go_enter Try.func57, Try.ntmps57
  go_wp2_with fail
  go_step3
  go_wp2_with fail
  refine Hmay.out.mono ?_
  rintro _ w1 ⟨rfl, hb1⟩
  go_wp2_with fail
  refine (Hbeg.out w1 (h.below (hb1.mono hB)) (by have := hb1.size; omega)).mono ?_
  rintro _ w2 ⟨g, vl, vp, rfl, hg1, hbx, hol, hop, hap, hb2⟩
  have hb02 := bstep hb1 hb2
  have hs2 := hb02.size
  have hlt2 := hbx.lt
  have hgw : w.heap.size ≤ g := by have := hb1.size; omega
  have hrl := RwAt.ofOwn64 hol Hl64.out
  have hrp := RwAt.ofOwnInt hop Hpin.out
  have hgl : vl.ownBlock ≠ some g := fun e => by have := (hrl.blk _ e).1; omega
  have hgp : vp.ownBlock ≠ some g := fun e => by have := (hrp.blk _ e).1; omega
  have Hbx := Lib.hid hbx
  have Hrl := Lib.hid hrl
  have Hrp := Lib.hid hrp
  have Hb02 := Lib.hid hb02
  have Hap := Lib.hid hap
  clear hbx hol hop hap hb2 hb1 hrl hrp hb02 Hmay Hbeg
  go_wp2_with fail
  have hbc0 := BoxAt.new_ 83 w2 (cellsOf (outK (gsum l) l.length 0))
  have hbx3 := Hbx.out.alloc (.cells (cellsOf (outK (gsum l) l.length 0)).toArray 83)
  have hrl3 := Hrl.out.alloc_ (.cells (cellsOf (outK (gsum l) l.length 0)).toArray 83)
  have hrp3 := Hrp.out.alloc_ (.cells (cellsOf (outK (gsum l) l.length 0)).toArray 83)
  have hb3 := Hb02.out.trans ((balloc w2 (.cells (cellsOf (outK (gsum l) l.length 0)).toArray 83)).mono hs2)
  have hlo : vl.ownBlock ≠ some w2.heap.size := fun e => by have := (Hrl.out.blk _ e).2; omega
  have hpo : vp.ownBlock ≠ some w2.heap.size := fun e => by have := (Hrp.out.blk _ e).2; omega
  have hgo : g ≠ w2.heap.size := by omega
  have hz3 : (w2.alloc (.cells (cellsOf (outK (gsum l) l.length 0)).toArray 83)).heap.size = w2.heap.size + 1 := by simp
  clear hmk Hbx Hrl Hrp Hb02
  generalize w2.alloc (.cells (cellsOf (outK (gsum l) l.length 0)).toArray 83) = w3 at *
  generalize w2.heap.size = go at *
  have Hbc0 := Lib.hid hbc0
  have Hbx3 := Lib.hid hbx3
  have Hrl3 := Lib.hid hrl3
  have Hrp3 := Lib.hid hrp3
  have Hb3 := Lib.hid hb3
  clear hbc0 hbx3 hrl3 hrp3 hb3
  go_loopw [24] (fun i wr => ∃ k : Nat, k ≤ l.length ∧ i = .int .i64 k ∧ BoxAt 83 wr go (cellsOf (outK (gsum l) l.length k)) ∧ BoxAt 117 wr g [.int .u64 (gsum l : Nat), vl, vp, .int .i64 0] ∧ RwAt 26 .u64 wr (g + 1) vl (bst0 l).left ∧ RwAt 3 .i64 wr (g + 1) vp (poorL (gsum l) (bst0 l).left) ∧ Below w.heap.size w wr ∧ go < wr.heap.size) (fun i _ => l.length - (intOf i).toNat)
  case atStart => exact ⟨0, by omega, rfl, Hbc0.out, Hbx3.out, Hrl3.out, Hrp3.out, Hb3.out, by omega⟩
  case round =>
    obtain ⟨k, hk, rfl, hbc, hbx, hrl, hrp, hbl, hgz⟩ := hrel
    have Hbc := Lib.hid hbc
    have Hbx := Lib.hid hbx
    have Hrl := Lib.hid hrl
    have Hrp := Lib.hid hrp
    have Hbl := Lib.hid hbl
    by_cases hlt : k < l.length
    · have hy0 := hbx.cell 0 _ rfl
      have hgk : (outK (gsum l) l.length k)[k]? = some ⟨0, 0⟩ := by unfold outK; rw [List.getElem?_map, List.getElem?_range hlt]; simp
      obtain ⟨hq0, hq1⟩ := cellsOf_get2 _ k _ hgk
      have hx0 := hbc.cell _ _ hq0
      have hx1 := hbc.cell _ _ hq1
      have hf0 := hbc.frozen (k * 2)
      have hf1 := hbc.frozen (k * 2 + 1)
      have hwk : IntKind.u32.wrap (k : Int) = (k : Int) := by rw [IntKind.wrap_u32']; omega
      clear hbc hbx hrl hrp hbl hq0 hq1 hgk
      go_wp2_with fail
      go_roundw
      case rel => exact ⟨k + 1, by omega, by go_num, by rw [← Hos.out k hlt]; exact Hbc.out.putCell k (mkC (gsum l) k) (by rw [outK_len]; exact hlt) _ _ (by rw [mkC_cut _ _ (by omega)]) (by rw [mkC_oth _ _ (by omega)]), (Hbx.out.other _ _ (fun e => hgo e.symm)).other _ _ (fun e => hgo e.symm), (Hrl.out.set_ _ _ hlo).set_ _ _ hlo, (Hrp.out.set_ _ _ hpo).set_ _ _ hpo, (Hbl.out.setCell (p := ⟨go, k * 2, none⟩) (by show w.heap.size ≤ go; omega) _).setCell (p := ⟨go, k * 2 + 1, none⟩) (by show w.heap.size ≤ go; omega) _, by simp [World.setCell]; exact hgz⟩
      case measure => simp [intOf]; omega
    · obtain rfl : k = l.length := by omega
      clear hbc hbx hrl hrp hbl
      rw [Hoa.out] at Hbc
      go_wp2_with fail
      go_step3
      go_wp2_with fail
      go_loopg [] l.length (fun gh wr => ∃ (k : Nat) (vp : Value) (rich : Nat), bad (gsum l) (brun (gsum l) k (bst0 l)).left ≤ gh ∧ k + bad (gsum l) (brun (gsum l) k (bst0 l)).left ≤ l.length ∧ BoxAt 117 wr g [.int .u64 (gsum l : Nat), vl, vp, .int .i64 (rich : Int)] ∧
        RwAt 26 .u64 wr (g + 1) vl (brun (gsum l) k (bst0 l)).left ∧ RwAt 3 .i64 wr (g + 1) vp (poorL (gsum l) (brun (gsum l) k (bst0 l)).left) ∧ Apart vl vp ∧ vp.ownBlock ≠ some g ∧ vp.ownBlock ≠ some go ∧
        BoxAt 83 wr go (cellsOf (brun (gsum l) k (bst0 l)).out) ∧ (∀ q, q < rich → (brun (gsum l) k (bst0 l)).left.getD q 0 ≤ gsum l) ∧ Below w.heap.size w wr ∧ go < wr.heap.size)
      case atStart =>
        have hb0 := bad_le (gsum l) (bst0 l).left
        have hb1 : (bst0 l).left.length = l.length := by simp [bst0]
        exact ⟨0, vp, 0, by show bad _ (bst0 l).left ≤ _; omega, by show 0 + bad _ (bst0 l).left ≤ _; omega, Hbx.out, Hrl.out, Hrp.out, Hap.out, hgp, hpo, Hbc.out, fun q hq => by omega, Hbl.out, hgz⟩
      case round =>
        clear Hbc Hbx Hrl Hrp Hbl hgz hgp hpo Hap
        obtain ⟨k, vp, rich, hgh, hkb, hbx, hrl, hrp, hap, hgp, hpo, hbc, hrk, hbl, hgz⟩ := hrel
        have hI := Hinv.out k
        rcases hI.turn with ⟨hp0, hst⟩ | ⟨i, j, r, hp, hi, hj, hiW, hjW, hst, hjk⟩
        · rw [hp0] at hrp
          obtain ⟨Ap, cp, rfl, hcp1, hcp2⟩ := hrp.form
          have hy2 := hbx.cell 2 _ rfl
          have hout := Hat.out k (by omega) hst
          rw [hout] at hbc
          have hol := hI.ol
          rw [hout] at hol
          have hown := hbc.ownC (base := w.heap.size) (by omega) (by rw [hol]; unfold maxLen; omega)
          rw [hol] at hown
          have Hown := Lib.hid hown
          have Hbl := Lib.hid hbl
          clear hbx hrl hrp hap hgp hpo hbc hrk hbl hI hst hp0 hout hol hown hkb hgh
          go_wp2_with fail
          rw [Exit.noGoto_ret]
          go_ret2
          exact ⟨_, rfl, Hown.out, Hbl.out⟩
        · rw [hp] at hrp
          have hnx := brun_succ _ k _ _ hst
          have hpp := poor_pay (gsum l) _ i j r hp (by rw [hI.ll]; exact hj) hjW
          have hbp := bad_pay (gsum l) _ i j (by rw [hI.ll]; exact hi) (by rw [hI.ll]; exact hj) hiW hjW
          have hpg := fun q => pay_get (gsum l) (brun (gsum l) k (bst0 l)).left i j q (by rw [hI.ll]; exact hi) (by rw [hI.ll]; exact hj)
          have hrr := poorL_rise (gsum l) (brun (gsum l) k (bst0 l)).left
          rw [hp, List.pairwise_cons] at hrr
          have hpl := poorL_len (gsum l) (brun (gsum l) k (bst0 l)).left
          rw [hp, hI.ll, List.length_cons] at hpl
          have hmx := hI.mx j hj
          have hmi := hI.mx i hi
          have hll := hI.ll
          have hol := hI.ol
          obtain ⟨Ap, cp, rfl, hcp1, hcp2⟩ := hrp.form
          have hrich : rich ≤ j := by
            apply Nat.le_of_not_lt
            intro hx
            have := hrk j hx
            omega
          have hz1 : (((r.length + 1 : Nat) : Int) == 0) = false := beq_eq_false_iff_ne.2 (by omega)
          have hz2 : ((r.length + 1) == 0) = false := beq_eq_false_iff_ne.2 (by omega)
          have hnxt := nextR_any wr g (gsum l) (g + 1) vl _ rich i r hbx hrp
          have hy2 := hbx.cell 2 _ rfl
          rw [List.length_cons] at hy2
          have Hbx := Lib.hid hbx
          have Hrl := Lib.hid hrl
          have Hbc := Lib.hid hbc
          have Hbl := Lib.hid hbl
          have Hnx := Lib.hid hnx
          have Hpp := Lib.hid hpp
          have Hpg := Lib.hid hpg
          have Hrr := Lib.hid hrr.2
          have Hjk := Lib.hid hjk
          have Hnxt := Lib.hid hnxt
          have Hap := Lib.hid hap
          have Hgp := Lib.hid hgp
          have Hpo := Lib.hid hpo
          clear hbx hrl hbc hbl hnx hpp hpg hrr hjk hnxt hap hgp hpo hI hp hst hrk hrp
          generalize brun (gsum l) k (bst0 l) = s at *
          go_wp2_with fail
          refine Hnxt.out.mono ?_
          rintro _ w4 ⟨rfl, vp4, rfl, hrp4, ho4⟩
          have hgp4 : vp4.ownBlock ≠ some g := fun e => Hgp.out (by rw [← ho4]; exact e)
          have hpo4 : vp4.ownBlock ≠ some go := fun e => Hpo.out (by rw [← ho4]; exact e)
          have hap4 : Apart vl vp4 := fun q hq e => Hap.out q hq (by rw [← ho4]; exact e)
          have hbx4 := Hbx.out.put 2 vp4
          have hrl4 := Hrl.out.set_ ⟨g, 2, none⟩ vp4 hgl
          have hrp4' := hrp4.set_ ⟨g, 2, none⟩ vp4 hgp4
          have hbc4 := Hbc.out.other ⟨g, 2, none⟩ vp4 hgo
          have hbl4 := Hbl.out.setCell (p := ⟨g, 2, none⟩) hgw vp4
          have hgz4 : go < (wr.setCell ⟨g, 2, none⟩ vp4).heap.size := by simp [World.setCell]; exact hgz
          clear Hbx Hrl Hbc Hbl hrp4 ho4 Hnxt hy2 hgz Hap Hgp Hpo
          obtain ⟨Al, cl, rfl, hcl1, hcl2⟩ := hrl4.form
          obtain ⟨_, b, off, rfl, hb1, hb2, hxi, hxf⟩ := hrl4.at_ i (s.left.getD i 0) (by rw [getD_get _ _ (by omega)]; exact List.getElem?_eq_getElem _)
          have hy1 := hbx4.cell 1 _ rfl
          have hP := give_any _ g (gsum l) (g + 1) l.length _ vp4 rich i j s.left r (fun q => q = g ∨ (Value.slice (some ⟨b, off, none⟩) s.left.length cl).ownBlock = some q ∨ vp4.ownBlock = some q) hbx4 hrl4 hrp4' hap4 hgl hgp4 (by omega) hll hl (by omega) hsum hi hj hiW hjW hmx hrich Hjk.out Hrr.out (Or.inl rfl) (fun q hq => Or.inr (Or.inl hq)) (fun q hq => Or.inr (Or.inr hq))
          have HP := Lib.hid hP
          have Hbc4 := Lib.hid hbc4
          have Hbl4 := Lib.hid hbl4
          have hblk4 := hrp4'.blk
          have hblkl := hrl4.blk
          have Hblk4 := Lib.hid hblk4
          have Hblkl := Lib.hid hblkl
          have Hgp4 := Lib.hid hgp4
          have Hpo4 := Lib.hid hpo4
          have Hap4 := Lib.hid hap4
          rw [hll] at hy1
          clear hP hbc4 hbl4 hbx4 hrl4 hrp4' hblk4 hblkl hgp4 hpo4 hap4
          have hiin : i < s.left.length := by omega
          unfold maxLen at hcl2
          generalize wr.setCell ⟨g, 2, none⟩ vp4 = w4 at *
          generalize hLI : s.left.getD i 0 = li at *
          have HLI := Lib.hid hLI
          clear hLI
          go_wp2_with fail
          refine HP.out.mono ?_
          rintro _ w5 ⟨rfl, vp5, hbx5, hrl5, hrp5, ho5, hc5⟩
          have hnP : ¬ (go = g ∨ (Value.slice (some ⟨b, off, none⟩) s.left.length cl).ownBlock = some go ∨ vp4.ownBlock = some go) := by
            rintro (e | e | e)
            · exact hgo e.symm
            · exact hlo e
            · exact Hpo4.out e
          have hbc5 := Hbc4.out.chg hc5 hnP
          have hbl5 := Hbl4.out.trans (hc5.below (B := w.heap.size) (by have := Hbl4.out.size; omega) (by
            rintro q (e | e | e)
            · omega
            · have := (Hblkl.out q e).1; omega
            · have := (Hblk4.out q e).1; omega))
          have hgz5 : go < w5.heap.size := Nat.lt_of_lt_of_le hgz4 hc5.size
          have hog5 : vp5.ownBlock ≠ some g := fun e => by
            rcases ho5 with h | ⟨q, h, h2⟩
            · exact Hgp4.out (by rw [← h]; exact e)
            · rw [h] at e; injection e with e; omega
          have hoo5 : vp5.ownBlock ≠ some go := fun e => by
            rcases ho5 with h | ⟨q, h, h2⟩
            · exact Hpo4.out (by rw [← h]; exact e)
            · rw [h] at e; injection e with e; omega
          have hap5 : Apart (Value.slice (some ⟨b, off, none⟩) s.left.length cl) vp5 := fun q hq e => by
            rcases ho5 with h | ⟨q', h, h2⟩
            · exact Hap4.out q hq (by rw [← h]; exact e)
            · rw [h] at e; injection e with e
              have := (Hblkl.out q hq).2
              omega
          have hgi : s.out[i]? = some s.out[i] := List.getElem?_eq_getElem (by omega)
          obtain ⟨hq0, hq1⟩ := cellsOf_get2 _ i _ hgi
          have hx0 := hbc5.cell _ _ hq0
          have hx1 := hbc5.cell _ _ hq1
          have hf0 := hbc5.frozen (i * 2)
          have hf1 := hbc5.frozen (i * 2 + 1)
          have hwk : IntKind.u32.wrap (j : Int) = (j : Int) := by rw [IntKind.wrap_u32']; omega
          generalize (s.out[i]).cut.toNat = oc at *
          generalize (s.out[i]).oth.toNat = oo at *
          have Hbx5 := Lib.hid hbx5
          have Hrl5 := Lib.hid hrl5
          have Hrp5 := Lib.hid hrp5
          have Hbc5 := Lib.hid hbc5
          have Hbl5 := Lib.hid hbl5
          have Hog5 := Lib.hid hog5
          have Hoo5 := Lib.hid hoo5
          have Hap5 := Lib.hid hap5
          clear hbx5 hrl5 hrp5 hbc5 hbl5 hog5 hoo5 hap5 ho5 hc5 hnP hq0 hq1 hgi Hbc4 Hbl4 Hblk4 Hblkl Hgp4 Hpo4 Hap4 HP hy1 hxi hxf
          go_wp2_with fail
          go_roundg (bad (gsum l) (pay (gsum l) s.left i j))
          case measure => omega
          case rel =>
            refine ⟨k + 1, vp5, j, ?_, ?_, ?_, ?_, ?_, Hap5.out, Hog5.out, Hoo5.out, ?_, ?_, ?_, ?_⟩
            · rw [Hnx.out]; exact Nat.le_refl _
            · rw [Hnx.out]; show k + 1 + bad _ (pay _ _ _ _) ≤ _; omega
            · exact (Hbx5.out.other ⟨go, i * 2, none⟩ _ (fun e => hgo e.symm)).other ⟨go, i * 2 + 1, none⟩ _ (fun e => hgo e.symm)
            · rw [Hnx.out]; exact (Hrl5.out.set_ ⟨go, i * 2, none⟩ _ hlo).set_ ⟨go, i * 2 + 1, none⟩ _ hlo
            · rw [Hnx.out]
              show RwAt _ _ _ _ _ (poorL (gsum l) (pay (gsum l) s.left i j))
              rw [Hpp.out]
              exact (Hrp5.out.set_ ⟨go, i * 2, none⟩ _ Hoo5.out).set_ ⟨go, i * 2 + 1, none⟩ _ Hoo5.out
            · rw [Hnx.out]
              have := Hbc5.out.putCell i (mkC li j) (by omega) _ _ (by rw [mkC_cut _ _ (by omega)]) (by rw [mkC_oth _ _ (by omega)])
              rw [← HLI.out] at this ⊢
              exact this
            · intro q hq
              rw [Hnx.out]
              show (pay (gsum l) s.left i j).getD q 0 ≤ _
              rw [Hpg.out]
              split
              · exact Nat.le_refl _
              · rw [if_neg (by omega)]
                exact Hjk.out q hq
            · exact (Hbl5.out.setCell (p := ⟨go, i * 2, none⟩) (by show w.heap.size ≤ go; omega) _).setCell (p := ⟨go, i * 2 + 1, none⟩) (by show w.heap.size ≤ go; omega) _
            · simp [World.setCell]; exact hgz5
end Go.Proofs.Yteakeefocnjlhaa
