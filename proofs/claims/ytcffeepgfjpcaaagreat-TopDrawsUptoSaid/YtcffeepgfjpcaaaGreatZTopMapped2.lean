/- Lemmas for the law TopMapped: gaps.Get; alias.begin: what neighbours have left, and who lacks; (*alias.rests).next; The table of neighbours: how it is built (plain), and that it is right.; Rows of numbers in a block of one's own, with spare cells and an offset; slices.Insert at ints.; The table of neighbours: each neighbour is come to by d times its weight (plain).; (*alias.rests).next and give, over rows with spare cells; (*alias.rests).give; pick.Total, palmerref17.Total, pick.Alias; pick.Alias; palmerlaw17.awake returns true; rows of cells written in place; alias.Build; palmerref16.first; palmerref16.Build; alias.Get; alias.Put; What is put is read: cells.; slices.Equal at bytes.; The cyclic redundancy check in plain Lean: the table's way and the bit's way are one. No condition.; crc.table gives the table of the check's bytes. No condition.; crc.Sum gives the check of all rows' bytes, one behind the other. The rows are readable slices.; crc.Mark is the bytes with their check, in memory of one's own; crc.Fits tells whether bytes end in their check. The rows are readable slices of at most 2^40 bytes.; crc.Fits: bytes without their check, or the error. The row is a readable slice of at most 2^40 bytes.; What the check finds: bits turned within 32, and one byte turned, are never missed. Plain Lean. No condition.; Pages in plain Lean: what a page's block is; the code's test and the document's are one; what is found. No condition.; frame in plain Lean: a section's bytes, what is read of bytes; Rows of a grap. No condition. -/
import Derived.Test.YtcffeepgfjpcaaaGreatZTopMapped1
import Derived.BigQuiet
import Derived.Deep.RegionLaw
import Derived.Deep.AppendLies
import Derived.BigRegion
import Derived.Deep.LoopGhost
import Derived.Laws.MakeOwn
import Derived.WalkMore
import Derived.WalkKit
import Derived.Test.YtcffeepgfjpcaaaGreatRows
import Derived.Laws.StructEq
import Derived.Shelf.Small.Strs
import Derived.Shelf.Strings.Search1
import Derived.Shelf.Bits.Mul64
import Derived.Laws.Externs
import Derived.Test.YtcffeepgfjpcaaaGreatProg
import Derived.Deep.Cut
import Derived.Lib.BytesEntry
namespace Go.Proofs.YtcffeepgfjpcaaaGreat
set_option linter.unusedSimpArgs false
set_option linter.unusedVariables false
open Go.RowKit

theorem OwnR.grownRd {α : Type} {E : TypeId} {C : Cdc α} {w w' : World} {base : Nat} {v : Value} {xs : List α} {g : Nat} (h : OwnF E C w base v xs) (hg : w.grownBy w' (some g)) (hb : g < base) : OwnF E C w' base v xs :=
  h.keep hg (by
    cases hv : v.ownBlock with
    | none => exact .inl rfl
    | some q => exact .inr fun e => by injection e with e; have := (h.blk q hv).1; omega) (fun _ h => h.elim)

end Go.Proofs.YtcffeepgfjpcaaaGreat

namespace Go.Proofs.YtcffeepgfjpcaaaGreat
set_option linter.unusedSimpArgs false
set_option linter.unusedVariables false
open Go.RowKit

def left0 (l : List GArc) (i : Nat) : Nat := l.length * ((l[i]?).getD ⟨0, 0⟩).wt.toNat
def lefts (l : List GArc) (k : Nat) : List UInt64 := (List.range k).map fun i => UInt64.ofNat (left0 l i)
def poors (l : List GArc) (k : Nat) : List Int := ((List.range k).filter fun i => decide (left0 l i < gsum l)).map fun (i : Nat) => (i : Int)
theorem lefts_len (l : List GArc) (k : Nat) : (lefts l k).length = k := by simp [lefts]
theorem lefts_succ (l : List GArc) (k : Nat) : lefts l (k + 1) = lefts l k ++ [UInt64.ofNat (left0 l k)] := by simp [lefts, List.range_succ]
theorem poors_yes (l : List GArc) (k : Nat) (h : left0 l k < gsum l) : poors l (k + 1) = poors l k ++ [(k : Int)] := by simp [poors, List.range_succ, h]
theorem poors_no (l : List GArc) (k : Nat) (h : ¬ left0 l k < gsum l) : poors l (k + 1) = poors l k := by simp [poors, List.range_succ, h]
theorem poors_len (l : List GArc) (k : Nat) : (poors l k).length ≤ k := by
  have := List.length_filter_le (fun i => decide (left0 l i < gsum l)) (List.range k)
  simp [poors] at this ⊢
  exact this
theorem info64' : (Tryz.prog.info? 23).map (fun i => (i.zero, i.size, i.bytes)) = some (some (.int .u64 0), c64.n, 8) := by kernel_rfl
theorem infoInt : (Tryz.prog.info? 3).map (fun i => (i.zero, i.size, i.bytes)) = some (some (.int .i64 0), cInt.n, 8) := by kernel_rfl

theorem BoxAt.drew_ {T : TypeId} {w : World} {g : Nat} {cs : List Value} (h : BoxAt T w g cs) : BoxAt T w.drew g cs := h
theorem OwnR.drew_ {α : Type} {E : TypeId} {C : Cdc α} {w : World} {base : Nat} {S : Nat → Prop} {v : Value} {xs : List α} (h : OwnR E C w base S v xs) : OwnR E C w.drew base S v xs := h.below_ (Below.refl _ _).drew

set_option maxRecDepth 100000 in
set_option maxHeartbeats 3200000 in
theorem begin_any (w : World) (B : Nat) (v : Value) (l : List GArc) (hl : l.length ≤ 1048576) (h : ByA w B v l) (hB : B ≤ w.heap.size) :
    Calls Tryz.prog 46 #[v] w fun e w' => ∃ g vl vp, e = .returned (.pointer (some ⟨g, 0, none⟩)) ∧ w.heap.size ≤ g ∧ BoxAt 104 w' g [.int .u64 (gsum l : Nat), vl, vp, .int .i64 0] ∧
      OwnF 23 c64 w' (g + 1) vl (lefts l l.length) ∧ OwnF 3 cInt w' (g + 1) vp (poors l l.length) ∧ Apart vl vp ∧ Below w.heap.size w w' := by
  obtain ⟨A, c, rfl, hc1, hc2⟩ := h.form
  unfold maxLen at hc2
  have hS := gsum_lt l
  have hSS : gsum l < 18446744073709551616 := by omega
  have hsum := gsum_any w B (.slice A l.length c) l (by omega) h hB
  have Hsum := Lib.hid hsum
  clear hsum hS
  go_enter Tryz.func46, Tryz.ntmps46
  go_wp2_with fail
  refine Hsum.out.mono ?_
  rintro _ w1 ⟨rfl, hb1⟩
  go_wp2_with fail
  have hs1 := hb1.size
  have hbx0 := BoxAt.new_ 104 w1 [.int .u64 (gsum l : Nat), .slice none 0 0, .slice none 0 0, .int .i64 0]
  have hb02 := bstep hb1 (balloc w1 (.cells #[.int .u64 (gsum l : Nat), .slice none 0 0, .slice none 0 0, .int .i64 0] 104))
  generalize hgg : w1.heap.size = g at *
  have hw2 : (w1.alloc (.cells #[.int .u64 (gsum l : Nat), .slice none 0 0, .slice none 0 0, .int .i64 0] 104)).heap.size = g + 1 := by simp [hgg]
  generalize hW2 : w1.alloc (.cells #[.int .u64 (gsum l : Nat), .slice none 0 0, .slice none 0 0, .int .i64 0] 104) = w2 at *
  have hbx0' : BoxAt 104 w2 g [.int .u64 (gsum l : Nat), .slice none 0 0, .slice none 0 0, .int .i64 0] := hbx0
  have Hbx0 := Lib.hid hbx0'
  have Hb02 := Lib.hid hb02
  clear hbx0 hbx0' hb02 hb1 hgg hW2
  go_loopw [12] (fun i wr => ∃ (k : Nat) (vl vp : Value), k ≤ l.length ∧ i = .int .i64 k ∧ BoxAt 104 wr g [.int .u64 (gsum l : Nat), vl, vp, .int .i64 0] ∧ OwnF 23 c64 wr (g + 1) vl (lefts l k) ∧ OwnF 3 cInt wr (g + 1) vp (poors l k) ∧ Apart vl vp ∧ Below w.heap.size w wr) (fun i _ => l.length - (intOf i).toNat)
  case atStart => exact ⟨0, _, _, by omega, rfl, Hbx0.out, OwnF.nil_ _ _, OwnF.nil_ _ _, fun q hq => by simp [Value.ownBlock] at hq, Hb02.out⟩
  case round =>
    obtain ⟨k, vl, vp, hk, rfl, hbx, hol, hop, hap, hbl⟩ := hrel
    have hbz := hbl.size
    have hglt := hbx.lt
    by_cases hlt : k < l.length
    · obtain ⟨ad, rfl, hab, hx0, hx1⟩ := (h.below (hbl.mono hB)).cells k hlt
      have hwt := u32_lt (l[k]).wt
      have hl0 : left0 l k = l.length * (l[k]).wt.toNat := by unfold left0; rw [List.getElem?_eq_getElem hlt]; rfl
      have hmb : l.length * (l[k]).wt.toNat ≤ 1048576 * 4294967295 := Nat.mul_le_mul hl (by omega)
      have hmul : IntKind.u64.wrap ((l.length : Int) * ((l[k]).wt.toNat : Int)) = ((l.length * (l[k]).wt.toNat : Nat) : Int) := by
        rw [← Int.natCast_mul, wrap_u64]; omega
      have hls := lefts_succ l k
      have hpy := poors_yes l k
      have hpn := poors_no l k
      rw [hl0] at hls hpy hpn
      generalize (l[k]).to.toNat = to at *
      generalize (l[k]).wt.toNat = wt at *
      generalize l.length * wt = p at *
      obtain ⟨Al, cl, rfl, hcl1, hcl2, _⟩ := hol.form'
      obtain ⟨Ap, cp, rfl, hcp1, hcp2, _⟩ := hop.form'
      rw [lefts_len] at hcl1
      go_wp2_with fail
      have hbA := balloc wr (.cells #[.int .u32 (to : Int), .int .u32 (wt : Int)] 48)
      have hcA := BoxAt.new_ 48 wr [.int .u32 (to : Int), .int .u32 (wt : Int)]
      have Hbx := Lib.hid (hbx.alloc (.cells #[.int .u32 (to : Int), .int .u32 (wt : Int)] 48))
      have HcA := Lib.hid hcA
      have hol' := hol
      have Hol := Lib.hid (hol.below_ hbA)
      have Hop := Lib.hid (hop.below_ hbA)
      have Hbl := Lib.hid (hbl.trans (hbA.mono hbz))
      have Hap := Lib.hid hap
      have Hls := Lib.hid hls
      have Hpy := Lib.hid hpy
      have Hpn := Lib.hid hpn
      clear hbA hcA hbx hol hop hbl hap hls hpy hpn hx0 hx1 hl0
      have hnq : ∀ q, (Value.slice Al (lefts l k).length cl).ownBlock = some q → some q ≠ some wr.heap.size := fun q hq e => by injection e with e; have := (hol'.blk q hq).2; omega
      clear hol'
      have hgcz : wr.heap.size < (wr.alloc (.cells #[.int .u32 (to : Int), .int .u32 (wt : Int)] 48)).heap.size := by simp
      generalize wr.alloc (.cells #[.int .u32 (to : Int), .int .u32 (wt : Int)] 48) = wa at *
      generalize wr.heap.size = gc at *
      have hblk := Hol.out.blk
      have hng : some g ≠ (Value.slice Al (lefts l k).length cl).ownBlock := fun e => by have := hblk _ e.symm; omega
      have hnc : some gc ≠ (Value.slice Al (lefts l k).length cl).ownBlock := fun e => hnq gc e.symm rfl
      have hy1 := Hbx.out.cell 1 _ rfl
      have hf1 := Hbx.out.frozen 1
      have hz1 := HcA.out.cell 1 _ rfl
      have hlg := Hbx.out.lt
      have hp64 : (UInt64.ofNat p).toNat = p := by rw [UInt64.toNat_ofNat']; omega
      clear hblk
      have hq : IntKind.u64.wrap (IntKind.u64.wrap (l.length : Int) * IntKind.u64.wrap (wt : Int)) = (p : Int) := by
        rw [← hmul, wrap_u64 (l.length : Int), wrap_u64 (wt : Int), Int.emod_eq_of_lt (by omega) (by omega), Int.emod_eq_of_lt (by omega) (by omega)]
      have Hq := Lib.hid hq
      clear hq
      go_wp2_with fail
      have hk1 := (Hbx.out.alloc (.cells #[.int .u64 (IntKind.u64.wrap (IntKind.u64.wrap (l.length : Int) * IntKind.u64.wrap (wt : Int)))] 23)).drew_
      have hk2 := (HcA.out.alloc (.cells #[.int .u64 (IntKind.u64.wrap (IntKind.u64.wrap (l.length : Int) * IntKind.u64.wrap (wt : Int)))] 23)).drew_
      have hka := hk1.cell 1 _ rfl
      have hkb := hk2.cell 1 _ rfl
      have hkf := hk1.frozen 1
      have Hk1 := Lib.hid hk1
      have Hk2 := Lib.hid hk2
      have Hka := Lib.hid hka
      have Hkb := Lib.hid hkb
      have Hkf := Lib.hid hkf
      clear hk1 hk2 hka hkb hkf
      go_region_law
        ((go_loud (refine step_app1R (by rfl) _ _ 101 (by rfl) Tryz.underlying101 info64' (by rfl) (by decide) (by decide) (y := UInt64.ofNat p) [.int .u64 (IntKind.u64.wrap (IntKind.u64.wrap (l.length : Int) * IntKind.u64.wrap (wt : Int)))] (Hol.out.alloc _).drew_ ⟨by simp only [hp64, Hq.out], trivial⟩ (BoxAt.new_ 23 wa [.int .u64 (IntKind.u64.wrap (IntKind.u64.wrap (l.length : Int) * IntKind.u64.wrap (wt : Int)))]).drew_ (by rfl) (by rfl) (by rw [lefts_len]; omega) (by simp; omega) ?_); intro v3 w3 hown3 hext3; obtain ⟨A3, c3, rfl, hd1, hd2, _⟩ := hown3.form'; have hk3 := Hk1.out.grown hext3.gr hng.symm; have hs3 := hk3.cell 1 _ rfl; have hs4 := hk3.frozen 1))
      all_goals
        go_wp2_with fail
        rw [lefts_len]
        have hown3' : OwnF 23 c64 w3 (g + 1) (.slice A3 (k + 1) c3) (lefts l (k + 1)) := by
          rw [Hls.out, show k + 1 = (lefts l k ++ [UInt64.ofNat p]).length from by simp [lefts_len]]
          exact hown3
        have hbx4 := hk3.put 1 (.slice A3 (k + 1) c3)
        have hown4 := OwnR.grownRd hown3' (gset w3 ⟨g, 1, none⟩ (.slice A3 (k + 1) c3)) (by show g < g + 1; omega)
        have hopA := (Hop.out.alloc (.cells #[.int .u64 (IntKind.u64.wrap (IntKind.u64.wrap (l.length : Int) * IntKind.u64.wrap (wt : Int)))] 23)).drew_
        have hop4 := OwnR.grownRd (hopA.keep hext3.gr Hap.out.symm.ne (fun _ h => h.elim)) (gset w3 ⟨g, 1, none⟩ (.slice A3 (k + 1) c3)) (by show g < g + 1; omega)
        have hap4 := (Hap.out.symm.ext hext3 (fun q hq => (hopA.blk q hq).2)).symm
        have hb4 : Below w.heap.size w (w3.setCell ⟨g, 1, none⟩ (.slice A3 (k + 1) c3)) := by
          have hA := (Hbl.out.trans ((balloc wa (.cells #[.int .u64 (IntKind.u64.wrap (IntKind.u64.wrap (l.length : Int) * IntKind.u64.wrap (wt : Int)))] 23)).mono Hbl.out.size)).drew
          exact (hA.trans (hext3.below hA.size (fun q hq => by have := (Hol.out.blk q hq).1; omega))).setCell (p := ⟨g, 1, none⟩) hs1 _
        have Hown4 := Lib.hid hown4
        have Hop4 := Lib.hid hop4
        have Hap4 := Lib.hid hap4
        have Hb4 := Lib.hid hb4
        have Hbx4 := Lib.hid hbx4
        have hy0 := hbx4.cell 0 _ rfl
        have hy1' := hbx4.cell 1 _ rfl
        have hy2 := hbx4.cell 2 _ rfl
        obtain ⟨a3, cs3, rfl, hblk3, ⟨rfl, _⟩, hcs3⟩ := hown4.row.at_ k (UInt64.ofNat p) (by rw [Hls.out, List.getElem?_append_right (by rw [lefts_len]; omega), lefts_len, Nat.sub_self]; rfl)
        have hy3 := hcs3 0 _ rfl
        have hp64' : (((UInt64.ofNat p).toNat : Nat) : Int) = (p : Int) := by rw [hp64]
        replace hy3 : (w3.setCell ⟨g, 1, none⟩ (.slice (some a3) (k + 1) c3)).cell? (a3.add k) = some (.int .u64 (p : Int)) := by
          have h9 : k * c64.n + 0 = k := by show k * 1 + 0 = k; omega
          rw [h9, hp64'] at hy3
          exact hy3
        have hkk : decide ((k : Int) < ((k + 1 : Nat) : Int)) = true := decide_eq_true (by omega)
        clear hs3 hs4 hk3 hbx4 hown4 hop4 hap4 hb4 hown3 hown3' hext3 hopA hcs3 hblk3 hd1 hng hnc hy1 hf1 hz1 hp64' hmul hd2
        generalize w3.setCell ⟨g, 1, none⟩ (.slice (some a3) (k + 1) c3) = w4 at *
        by_cases hpw : p < gsum l
        · have hdp : decide (p < gsum l) = true := decide_eq_true hpw
          have Hpp := Lib.hid (Hpy.out hpw)
          clear hpw
          go_wp2_with fail
          go_quiet (fail)
          have hop5 := OwnR.below_ Hop4.out (bdrewN (Below.refl _ _) nq)
          have hpl := poors_len l k
          have hn2 : (poors l k).length ≤ 549755813887 := by omega
          have Hop5 := Lib.hid hop5
          clear hop5 hpl
          have hbx5 : BoxAt 104 (w4.drewN nq) g _ := Hbx4.out
          have hglt5 := hbx5.lt
          have Hbx5 := Lib.hid hbx5
          clear hbx5
          go_wp2_with (at_builtin
                       go_loud (refine wpList_app1R rfl (.tmp 49) (.tmp 51) 102 rfl Tryz.underlying102 infoInt rfl (by decide) (by decide) (y := (k : Int)) [.int .i64 (k : Int)] Hop5.out ⟨rfl, by omega, by omega⟩ rfl rfl hn2 (by omega) ?_)
                       intro v6 w6 hown6 hext6
                       obtain ⟨A6, c6, rfl, _, _, _⟩ := hown6.form'
                       have hng6 : (Value.slice Ap (poors l k).length cp).ownBlock ≠ some g := fun e => by have := (Hop5.out.blk _ e).1; omega
                       have hk6 := Hbx5.out.grown hext6.gr hng6
                       have hs6 := hk6.cell 2 _ rfl
                       have hs7 := hk6.frozen 2)
          have hown6' : OwnF 3 cInt w6 (g + 1) (.slice A6 ((poors l k).length + 1) c6) (poors l (k + 1)) := by
            rw [Hpp.out, show (poors l k).length + 1 = (poors l k ++ [(k : Int)]).length from by simp]
            exact hown6
          have hbx7 := hk6.put 2 (.slice A6 ((poors l k).length + 1) c6)
          have hop7 := OwnR.grownRd hown6' (gset w6 ⟨g, 2, none⟩ (.slice A6 ((poors l k).length + 1) c6)) (by show g < g + 1; omega)
          have holA := OwnR.below_ Hown4.out (bdrewN (Below.refl _ _) nq)
          have hol7 := OwnR.grownRd (holA.keep hext6.gr Hap4.out.ne (fun _ h => h.elim)) (gset w6 ⟨g, 2, none⟩ (.slice A6 ((poors l k).length + 1) c6)) (by show g < g + 1; omega)
          have hap7 := Hap4.out.ext hext6 (fun q hq => (holA.blk q hq).2)
          have hb7 : Below w.heap.size w (w6.setCell ⟨g, 2, none⟩ (.slice A6 ((poors l k).length + 1) c6)) := by
            have hA := bdrewN Hb4.out nq
            exact (hA.trans (hext6.below hA.size (fun q hq => by have := (Hop5.out.blk q hq).1; omega))).setCell (p := ⟨g, 2, none⟩) hs1 _
          clear hs6 hs7 hk6
          go_wp2_with fail
          go_roundw
          case rel => exact ⟨k + 1, _, _, by omega, by go_num, hbx7, hol7, hop7, (by have h := hap7; simp only [List.length_append, List.length_singleton, lefts_len] at h; exact h), hb7⟩
          case measure => simp [intOf]; omega
        · have hdp : decide (p < gsum l) = false := decide_eq_false hpw
          have Hpp := Lib.hid (Hpn.out hpw)
          clear hpw
          go_wp2_with fail
          go_quiet (fail)
          go_wp2_with fail
          go_roundw
          case rel => exact ⟨k + 1, _, _, by omega, by go_num, Hbx4.out, Hown4.out.below_ (bdrewN (Below.refl _ _) _), by rw [Hpp.out]; exact Hop4.out.below_ (bdrewN (Below.refl _ _) _), fun q hq e => Hap4.out q hq e, bdrewN Hb4.out _⟩
          case measure => simp [intOf]; omega
    · obtain rfl : k = l.length := by omega
      go_wp2_with fail
      go_ret
      exact ⟨_, _, _, rfl, hs1, hbx, hol, hop, hap, hbl⟩
end Go.Proofs.YtcffeepgfjpcaaaGreat

namespace Go.Proofs.YtcffeepgfjpcaaaGreat
set_option linter.unusedSimpArgs false
set_option linter.unusedVariables false
open Go.RowKit

end Go.Proofs.YtcffeepgfjpcaaaGreat

namespace Go.Proofs.YtcffeepgfjpcaaaGreat
set_option linter.unusedSimpArgs false
set_option linter.unusedVariables false
open Go.RowKit

/-! ### two lists that rise, with the same members, are one -/
theorem rise_uniq : ∀ (a b : List Nat), a.Pairwise (· < ·) → b.Pairwise (· < ·) → (∀ x, x ∈ a ↔ x ∈ b) → a = b
  | [], [], _, _, _ => rfl
  | [], y :: b, _, _, h => by have := (h y).2 (by simp); simp at this
  | x :: a, [], _, _, h => by have := (h x).1 (by simp); simp at this
  | x :: a, y :: b, ha, hb, h => by
    rw [List.pairwise_cons] at ha hb
    have hxy : x = y := by
      have h1 := (h x).1 (by simp)
      have h2 := (h y).2 (by simp)
      simp at h1 h2
      rcases h1 with h1 | h1
      · exact h1
      · rcases h2 with h2 | h2
        · exact h2.symm
        · have := ha.1 y h2
          have := hb.1 x h1
          omega
    subst hxy
    congr 1
    refine rise_uniq a b ha.2 hb.2 fun z => ⟨fun hz => ?_, fun hz => ?_⟩
    · have h1 := (h z).1 (by simp [hz])
      have h2 := ha.1 z hz
      simp at h1
      rcases h1 with h1 | h1
      · omega
      · exact h1
    · have h1 := (h z).2 (by simp [hz])
      have h2 := hb.1 z hz
      simp at h1
      rcases h1 with h1 | h1
      · omega
      · exact h1

/-! ### put in where it stands in order -/
def ins (xs : List Nat) (a j : Nat) : List Nat := xs.take a ++ j :: xs.drop a
theorem ins_len (xs : List Nat) (a j : Nat) (h : a ≤ xs.length) : (ins xs a j).length = xs.length + 1 := by simp [ins]; omega
theorem ins_mem (xs : List Nat) (a j x : Nat) : x ∈ ins xs a j ↔ x = j ∨ x ∈ xs := by
  unfold ins
  rw [List.mem_append, List.mem_cons]
  constructor
  · rintro (h | h | h)
    · exact Or.inr (List.mem_of_mem_take h)
    · exact Or.inl h
    · exact Or.inr (List.mem_of_mem_drop h)
  · rintro (h | h)
    · exact Or.inr (Or.inl h)
    · rw [← List.take_append_drop a xs] at h
      rw [List.mem_append] at h
      rcases h with h | h
      · exact Or.inl h
      · exact Or.inr (Or.inr h)
theorem ins_rise : ∀ (xs : List Nat) (j : Nat), xs.Pairwise (· < ·) → j ∉ xs → (ins xs (xs.countP fun x => decide (x < j)) j).Pairwise (· < ·)
  | [], j, _, _ => by simp [ins]
  | a :: r, j, h, hj => by
    rw [List.pairwise_cons] at h
    simp at hj
    by_cases hlt : a < j
    · have ih := ins_rise r j h.2 hj.2
      rw [List.countP_cons, if_pos (by simpa using hlt)]
      have : ins (a :: r) ((r.countP fun x => decide (x < j)) + 1) j = a :: ins r (r.countP fun x => decide (x < j)) j := by simp [ins]
      rw [this, List.pairwise_cons]
      refine ⟨fun x hx => ?_, ih⟩
      rw [ins_mem] at hx
      rcases hx with rfl | hx
      · exact hlt
      · exact h.1 x hx
    · have h0 : (a :: r).countP (fun x => decide (x < j)) = 0 := by
        rw [List.countP_eq_zero]
        intro x hx
        simp at hx
        rcases hx with rfl | hx
        · simpa using hlt
        · have := h.1 x hx
          simp; omega
      rw [h0]
      have : ins (a :: r) 0 j = j :: a :: r := by simp [ins]
      rw [this, List.pairwise_cons]
      refine ⟨fun x hx => ?_, List.pairwise_cons.2 h⟩
      simp at hx
      rcases hx with rfl | hx
      · omega
      · have := h.1 x hx
        omega

/-! ### who lacks -/
def poorL (W : Nat) (left : List Nat) : List Nat := (List.range left.length).filter fun k => decide (left.getD k 0 < W)
theorem poorL_mem (W : Nat) (left : List Nat) (k : Nat) : k ∈ poorL W left ↔ k < left.length ∧ left.getD k 0 < W := by simp [poorL]
theorem poorL_rise (W : Nat) (left : List Nat) : (poorL W left).Pairwise (· < ·) := List.Pairwise.filter _ List.pairwise_lt_range
theorem poorL_len (W : Nat) (left : List Nat) : (poorL W left).length ≤ left.length := by
  have := List.length_filter_le (fun k => decide (left.getD k 0 < W)) (List.range left.length)
  simpa [poorL] using this
theorem getD_get (l : List Nat) (k : Nat) (h : k < l.length) : l.getD k 0 = l[k] := by simp [List.getD, h]
theorem getD_set (l : List Nat) (k j x : Nat) (h : j < l.length) : (l.set j x).getD k 0 = if j = k then x else l.getD k 0 := by
  simp only [List.getD, List.getElem?_set]
  split
  · subst_vars; simp [h]
  · rfl

structure BSt where
  left : List Nat
  out : List GCell
def mkC (cut oth : Nat) : GCell := ⟨UInt64.ofNat cut, UInt32.ofNat oth⟩
/-- what stands behind i, who lacks, and j, who has: the rests -/
def pay (W : Nat) (left : List Nat) (i j : Nat) : List Nat := (left.set j (left.getD j 0 - (W - left.getD i 0))).set i W
theorem pay_len (W : Nat) (left : List Nat) (i j : Nat) : (pay W left i j).length = left.length := by simp [pay]
def bstep1 (W : Nat) (s : BSt) : Option BSt :=
  match s.left.findIdx? (fun x => decide (x < W)), s.left.findIdx? (fun x => decide (W < x)) with
  | some i, some j => some ⟨pay W s.left i j, s.out.set i (mkC (s.left.getD i 0) j)⟩
  | _, _ => none
def brun (W : Nat) : Nat → BSt → BSt
  | 0, s => s
  | k + 1, s => match bstep1 W (brun W k s) with
    | some s' => s'
    | none => brun W k s
theorem brun_succ (W k : Nat) (s s' : BSt) (h : bstep1 W (brun W k s) = some s') : brun W (k + 1) s = s' := by rw [brun, h]
theorem brun_stop (W k : Nat) (s : BSt) (h : bstep1 W (brun W k s) = none) : ∀ m, brun W (k + m) s = brun W k s
  | 0 => rfl
  | m + 1 => by
    have ih := brun_stop W k s h m
    rw [show k + (m + 1) = (k + m) + 1 from rfl, brun, ih, h]

theorem poor_head (W : Nat) (left : List Nat) (i : Nat) (r : List Nat) (h : poorL W left = i :: r) : left.findIdx? (fun x => decide (x < W)) = some i ∧ i < left.length ∧ left.getD i 0 < W := by
  have hm := (poorL_mem W left i).1 (by rw [h]; simp)
  refine ⟨?_, hm⟩
  rw [List.findIdx?_eq_some_iff_getElem]
  refine ⟨hm.1, by rw [← getD_get]; simpa using hm.2, fun j hji hj => ?_⟩
  rw [← getD_get] at hj
  have hj' : left.getD j 0 < W := by simpa using hj
  have h2 := (poorL_mem W left j).2 ⟨by omega, hj'⟩
  have hr := poorL_rise W left
  rw [h] at h2 hr
  rw [List.pairwise_cons] at hr
  simp at h2
  rcases h2 with h2 | h2
  · omega
  · have := hr.1 j h2
    omega
theorem poor_none (W : Nat) (left : List Nat) (h : poorL W left = []) : left.findIdx? (fun x => decide (x < W)) = none := by
  rw [List.findIdx?_eq_none_iff]
  intro x hx
  obtain ⟨k, hk, rfl⟩ := List.mem_iff_getElem.1 hx
  have : ¬ k ∈ poorL W left := by rw [h]; simp
  rw [poorL_mem, getD_get _ _ hk] at this
  simp
  omega
theorem pay_get (W : Nat) (left : List Nat) (i j k : Nat) (hi : i < left.length) (hj : j < left.length) : (pay W left i j).getD k 0 = if i = k then W else if j = k then left.getD j 0 - (W - left.getD i 0) else left.getD k 0 := by
  unfold pay
  rw [getD_set _ _ _ _ (by simpa using hi), getD_set _ _ _ _ hj]
/-- who lacks behind a turn -/
theorem poor_pay (W : Nat) (left : List Nat) (i j : Nat) (r : List Nat) (h : poorL W left = i :: r) (hj : j < left.length) (hjW : W < left.getD j 0) :
    poorL W (pay W left i j) = if left.getD j 0 - (W - left.getD i 0) < W then ins r (r.countP fun x => decide (x < j)) j else r := by
  obtain ⟨_, hi, hiW⟩ := poor_head W left i r h
  have hr := poorL_rise W left
  rw [h, List.pairwise_cons] at hr
  have hmem : ∀ x, x ∈ r ↔ x ≠ i ∧ x < left.length ∧ left.getD x 0 < W := fun x => by
    have h1 := poorL_mem W left x
    rw [h] at h1
    simp only [List.mem_cons] at h1
    constructor
    · intro hx
      have := hr.1 x hx
      exact ⟨by omega, h1.1 (Or.inr hx)⟩
    · rintro ⟨h2, h3⟩
      exact (h1.2 h3).resolve_left h2
  have hjr : j ∉ r := fun hx => by have := (hmem j).1 hx; omega
  have hij : i ≠ j := fun e => by subst e; omega
  by_cases hc : left.getD j 0 - (W - left.getD i 0) < W
  · rw [if_pos hc]
    apply rise_uniq
    · exact poorL_rise _ _
    · exact ins_rise r j hr.2 hjr
    · intro x
      rw [poorL_mem, pay_len, pay_get W left i j x hi hj]
      rw [ins_mem, hmem]
      constructor
      · rintro ⟨h1, h2⟩
        split at h2
        · omega
        · split at h2
          · exact Or.inl (by omega)
          · exact Or.inr ⟨by omega, h1, h2⟩
      · rintro (rfl | ⟨h1, h2, h3⟩)
        · refine ⟨hj, ?_⟩
          rw [if_neg hij, if_pos rfl]
          assumption
        · refine ⟨h2, ?_⟩
          rw [if_neg (fun e => h1 e.symm)]
          split
          · assumption
          · exact h3
  · rw [if_neg hc]
    apply rise_uniq
    · exact poorL_rise _ _
    · exact hr.2
    · intro x
      rw [poorL_mem, pay_len, pay_get W left i j x hi hj]
      rw [hmem]
      constructor
      · rintro ⟨h1, h2⟩
        split at h2
        · omega
        · split at h2
          · omega
          · exact ⟨by omega, h1, h2⟩
      · rintro ⟨h1, h2, h3⟩
        refine ⟨h2, ?_⟩
        rw [if_neg (fun e => h1 e.symm)]
        split
        · subst_vars; omega
        · exact h3

/-! ### sums -/
theorem sum_set : ∀ (l : List Nat) (k x : Nat), k < l.length → (l.set k x).sum + l.getD k 0 = l.sum + x
  | [], k, x, h => by simp at h
  | a :: l, 0, x, h => by simp [List.getD]; omega
  | a :: l, k + 1, x, h => by
    have ih := sum_set l k x (by simpa using h)
    simp [List.getD] at ih ⊢
    omega
theorem pay_sum (W : Nat) (left : List Nat) (i j : Nat) (hi : i < left.length) (hj : j < left.length) (hiW : left.getD i 0 < W) (hjW : W < left.getD j 0) : (pay W left i j).sum = left.sum := by
  have hij : j ≠ i := fun e => by subst e; omega
  unfold pay
  have h1 := sum_set (left.set j (left.getD j 0 - (W - left.getD i 0))) i W (by simpa using hi)
  have h2 := sum_set left j (left.getD j 0 - (W - left.getD i 0)) hj
  rw [getD_set _ _ _ _ hj, if_neg hij] at h1
  omega
theorem sum_le_all (W : Nat) : ∀ (l : List Nat), (∀ x ∈ l, x ≤ W) → l.sum ≤ l.length * W
  | [], _ => by simp
  | a :: l, h => by
    have ih := sum_le_all W l fun x hx => h x (by simp [hx])
    have := h a (by simp)
    simp [Nat.add_mul]
    omega
theorem sum_lt_one (W : Nat) : ∀ (l : List Nat), (∀ x ∈ l, x ≤ W) → (∃ x ∈ l, x < W) → l.sum < l.length * W
  | [], _, h => by obtain ⟨x, hx, _⟩ := h; simp at hx
  | a :: l, h, hx => by
    have h1 := h a (by simp)
    have h2 := sum_le_all W l fun x hx => h x (by simp [hx])
    obtain ⟨x, hx, hlt⟩ := hx
    simp at hx
    rcases hx with rfl | hx
    · simp [Nat.add_mul]; omega
    · have := sum_lt_one W l (fun x hx => h x (by simp [hx])) ⟨x, hx, hlt⟩
      simp [Nat.add_mul]; omega
theorem sum_gt_one (W : Nat) (l : List Nat) (h : l.sum = l.length * W) (h1 : ∀ x ∈ l, W ≤ x) : ∀ x ∈ l, x = W := by
  induction l with
  | nil => simp
  | cons a l ih =>
    have h2 : l.length * W ≤ l.sum := by
      clear ih h
      have h1' : ∀ x ∈ l, W ≤ x := fun x hx => h1 x (by simp [hx])
      clear h1
      induction l with
      | nil => simp
      | cons b l ih =>
        have := ih fun x hx => h1' x (by simp [hx])
        have := h1' b (by simp)
        simp [Nat.add_mul]; omega
    have h3 := h1 a (by simp)
    simp [Nat.add_mul] at h
    intro x hx
    simp at hx
    rcases hx with rfl | hx
    · omega
    · exact ih (by omega) (fun x hx => h1 x (by simp [hx])) x hx
/-- who has is there while one lacks -/
theorem rich_ex (W : Nat) (left : List Nat) (i : Nat) (hs : left.sum = left.length * W) (hi : i < left.length) (hiW : left.getD i 0 < W) (m : Nat) (hm : ∀ k, k < m → left.getD k 0 ≤ W) (hmn : m ≤ left.length) : m < left.length := by
  refine Nat.lt_of_le_of_ne hmn fun e => ?_
  have := sum_lt_one W left (fun x hx => by obtain ⟨k, hk, rfl⟩ := List.mem_iff_getElem.1 hx; rw [← getD_get _ _ hk]; exact hm k (by omega)) ⟨left[i], List.getElem_mem hi, by rw [← getD_get]; exact hiW⟩
  omega
def bad (W : Nat) (left : List Nat) : Nat := left.countP fun x => decide (x ≠ W)
theorem countP_set1 (p : Nat → Bool) : ∀ (l : List Nat) (k x : Nat), k < l.length → (l.set k x).countP p + (if p (l.getD k 0) then 1 else 0) = l.countP p + (if p x then 1 else 0)
  | [], k, x, h => by simp at h
  | a :: l, 0, x, h => by simp only [List.set_cons_zero, List.countP_cons, List.getD_cons_zero]; omega
  | a :: l, k + 1, x, h => by
    have ih := countP_set1 p l k x (by simpa using h)
    simp only [List.set_cons_succ, List.countP_cons, List.getD_cons_succ]
    omega
theorem bad_pay (W : Nat) (left : List Nat) (i j : Nat) (hi : i < left.length) (hj : j < left.length) (hiW : left.getD i 0 < W) (hjW : W < left.getD j 0) : bad W (pay W left i j) + 1 ≤ bad W left := by
  have hij : j ≠ i := fun e => by subst e; omega
  unfold bad pay
  have h1 := countP_set1 (fun x => decide (x ≠ W)) (left.set j (left.getD j 0 - (W - left.getD i 0))) i W (by simpa using hi)
  have h2 := countP_set1 (fun x => decide (x ≠ W)) left j (left.getD j 0 - (W - left.getD i 0)) hj
  rw [getD_set _ _ _ _ hj, if_neg hij] at h1
  rw [if_pos (show decide (left.getD i 0 ≠ W) = true from decide_eq_true (by omega)), if_neg (show ¬ decide (W ≠ W) = true from by simp)] at h1
  rw [if_pos (show decide (left.getD j 0 ≠ W) = true from decide_eq_true (by omega))] at h2
  split at h2 <;> omega
theorem bad_le (W : Nat) (left : List Nat) : bad W left ≤ left.length := List.countP_le_length
end Go.Proofs.YtcffeepgfjpcaaaGreat

namespace Go.Proofs.YtcffeepgfjpcaaaGreat
set_option linter.unusedSimpArgs false
set_option linter.unusedVariables false
open Go.RowKit

def RwAt (T : TypeId) (K : IntKind) (w : World) (base : Nat) (v : Value) (xs : List Nat) : Prop :=
  ∃ A c, v = .slice A xs.length c ∧ xs.length ≤ c ∧ c ≤ maxLen ∧ (∀ q, v.ownBlock = some q → base ≤ q ∧ q < w.heap.size) ∧
    (0 < c → ∃ b off cs, A = some ⟨b, off, none⟩ ∧ BoxAt T w b cs ∧ off + c ≤ cs.length ∧ ∀ (j x : Nat), xs[j]? = some x → cs[off + j]? = some (.int K (x : Int)))
section
variable {T : TypeId} {K : IntKind} {w w' : World} {base : Nat} {v : Value} {xs : List Nat}
theorem RwAt.keep {row : Option Nat} (h : RwAt T K w base v xs) (hg : w.grownBy w' row) (hne : ∀ q, v.ownBlock = some q → row ≠ some q) : RwAt T K w' base v xs := by
  obtain ⟨A, c, rfl, h1, h2, h3, h4⟩ := h
  refine ⟨A, c, rfl, h1, h2, fun q hq => ⟨(h3 q hq).1, Nat.lt_of_lt_of_le (h3 q hq).2 hg.size⟩, fun hc => ?_⟩
  obtain ⟨b, off, cs, rfl, hb, hl, hx⟩ := h4 hc
  exact ⟨b, off, cs, rfl, hb.grown hg (hne b rfl), hl, hx⟩
theorem RwAt.below_ (h : RwAt T K w base v xs) (hb : Below w.heap.size w w') : RwAt T K w' base v xs := h.keep (gbelow hb none) fun _ _ e => by cases e
theorem RwAt.alloc_ (h : RwAt T K w base v xs) (o : Obj) : RwAt T K (w.alloc o) base v xs := h.below_ (balloc w o)
theorem RwAt.drew_ (h : RwAt T K w base v xs) : RwAt T K w.drew base v xs := h
theorem RwAt.drewN_ (h : RwAt T K w base v xs) (n : Nat) : RwAt T K (w.drewN n) base v xs := h
theorem RwAt.blk (h : RwAt T K w base v xs) : ∀ q, v.ownBlock = some q → base ≤ q ∧ q < w.heap.size := by
  obtain ⟨A, c, rfl, h1, h2, h3, h4⟩ := h; exact h3
theorem RwAt.form (h : RwAt T K w base v xs) : ∃ A c, v = .slice A xs.length c ∧ xs.length ≤ c ∧ c ≤ maxLen := by
  obtain ⟨A, c, rfl, h1, h2, h3, h4⟩ := h; exact ⟨A, c, rfl, h1, h2⟩
/-- the cell of an element -/
theorem RwAt.at_ {A : Option Addr} {n c : Nat} (h : RwAt T K w base (.slice A n c) xs) (i x : Nat) (hx : xs[i]? = some x) :
    n = xs.length ∧ ∃ b off, A = some ⟨b, off, none⟩ ∧ base ≤ b ∧ b < w.heap.size ∧ w.cell? ⟨b, off + i, none⟩ = some (.int K (x : Int)) ∧ w.frozen? ⟨b, off + i, none⟩ = false := by
  obtain ⟨A', c', e, h1, h2, h3, h4⟩ := h
  injection e with e1 e2 e3
  subst e1; subst e3
  have hi : i < xs.length := (List.getElem?_eq_some_iff.1 hx).1
  obtain ⟨b, off, cs, rfl, hb, hl, hg⟩ := h4 (by omega)
  exact ⟨e2, b, off, rfl, (h3 b rfl).1, (h3 b rfl).2, hb.cell _ _ (hg i x hx), hb.frozen _⟩
/-- an element is written -/
theorem RwAt.put {b off n c : Nat} (h : RwAt T K w base (.slice (some ⟨b, off, none⟩) n c) xs) (i y : Nat) (hi : i < xs.length) :
    RwAt T K (w.setCell ⟨b, off + i, none⟩ (.int K (y : Int))) base (.slice (some ⟨b, off, none⟩) n c) (xs.set i y) := by
  obtain ⟨A', c', e, h1, h2, h3, h4⟩ := h
  injection e with e1 e2 e3
  subst e1; subst e3; subst e2
  obtain ⟨b', off', cs, e, hb, hl, hg⟩ := h4 (by omega)
  injection e with e; injection e with e1 e2 _
  subst e1; subst e2
  refine ⟨_, _, by rw [List.length_set], by rw [List.length_set]; exact h1, h2, fun q hq => ⟨(h3 q hq).1, by have := (h3 q hq).2; simp [World.setCell]; exact this⟩, fun hc => ⟨b, off, _, rfl, hb.put _ _, by rw [List.length_set]; exact hl, fun j x hx => ?_⟩⟩
  rw [List.getElem?_set] at hx ⊢
  by_cases hij : i = j
  · subst hij
    rw [if_pos rfl, if_pos hi] at hx
    injection hx with hx
    rw [if_pos rfl, if_pos (by omega), hx]
  · rw [if_neg hij] at hx
    rw [if_neg (by omega)]
    exact hg j x hx
end

/-! ### cells, one behind the other -/
theorem ins_get (xs : List Nat) (a j k : Nat) (ha : a ≤ xs.length) : (ins xs a j)[k]? = if k < a then xs[k]? else if k = a then some j else xs[k - 1]? := by
  unfold ins
  rw [List.getElem?_append, List.length_take, Nat.min_eq_left ha]
  split
  · rw [List.getElem?_take, if_pos (by assumption)]
  · split
    · subst_vars; simp
    · rw [show k - a = (k - 1 - a) + 1 from by omega, List.getElem?_cons_succ, List.getElem?_drop, show a + (k - 1 - a) = k - 1 from by omega]

def valsI (xs : List Nat) : List Value := xs.map fun (x : Nat) => Value.int .i64 (x : Int)
theorem valsI_one (xs : List Nat) : ∀ v ∈ valsI xs, v.oneCell' = true := by
  intro v hv
  simp [valsI] at hv
  obtain ⟨x, _, rfl⟩ := hv
  rfl
theorem valsI_get (xs : List Nat) (j : Nat) (v : Value) (h : (valsI xs)[j]? = some v) : ∃ x, xs[j]? = some x ∧ v = .int .i64 (x : Int) := by
  simp [valsI] at h
  obtain ⟨x, h1, h2⟩ := h
  exact ⟨x, h1, h2.symm⟩
theorem valsI_at (xs : List Nat) (j x : Nat) (h : xs[j]? = some x) : (valsI xs)[j]? = some (.int .i64 (x : Int)) := by simp [valsI, h]

theorem zc (n : Nat) : Builtin.zeroCells (Value.int .i64 0).cells n = (List.replicate n (Value.int .i64 0)).toArray := by
  apply Array.ext
  · simp [Builtin.zeroCells, Value.cells]
  · intro i h1 h2
    simp [Builtin.zeroCells, Value.cells, Nat.mod_one]

set_option maxRecDepth 100000 in
set_option maxHeartbeats 1600000 in
theorem insert_any (w : World) (base : Nat) (v : Value) (xs : List Nat) (a j vb : Nat) (ha : a ≤ xs.length) (hlen : xs.length ≤ 4294967296) (h : RwAt 3 .i64 w base v xs) (harg : BoxAt 3 w vb [.int .i64 (j : Int)]) (hvb : v.ownBlock ≠ some vb) (hbase : base ≤ w.heap.size) :
    Calls Tryz.prog 78 #[v, .int .i64 (a : Nat), .slice (some ⟨vb, 0, none⟩) 1 1] w fun e w' => ∃ v', e = .returned v' ∧ RwAt 3 .i64 w' base v' (ins xs a j) ∧ w.grownBy w' v.ownBlock ∧ (v'.ownBlock = v.ownBlock ∨ ∃ q, v'.ownBlock = some q ∧ w.heap.size ≤ q) := by
  obtain ⟨A, c, rfl, h1, h2, h3, h4⟩ := h
  have hvl : ([Value.int .i64 (j : Int)] : List Value).length = 1 := rfl
  have hcl : (valsI xs).length = xs.length := by simp [valsI]
  have h1v : ∀ u ∈ ([Value.int .i64 (j : Int)] : List Value), u.oneCell' = true := by simp [Value.oneCell']
  have hvs : ∀ k u, ([Value.int .i64 (j : Int)] : List Value)[k]? = some u → w.cell? ⟨vb, 0 + k, none⟩ = some u := fun k u hu => by rw [Nat.zero_add]; exact harg.cell k u hu
  have hil := ins_len xs a j ha
  have hbig : (xs.length + 1) * 8 ≤ 140737488355328 := by omega
  unfold maxLen at h2
  by_cases hroom : xs.length + 1 ≤ c
  · obtain ⟨b, off, cs, rfl, hb, hl, hg⟩ := h4 (by omega)
    have hsp : ∀ k, k < xs.length + 1 → (w.cell? ⟨b, off + k, none⟩).isSome = true := fun k hk => by
      rw [hb.cell (off + k) _ (List.getElem?_eq_getElem (by omega))]; rfl
    have hb3 := h3 b rfl
    by_cases hn : a = xs.length
    · subst hn
      refine (Any2.slices_Insert_int_end_room lays221 b off xs.length c vb 0 1 1 [.int .i64 (j : Int)] w (by omega) hroom (by omega) rfl (fun k hk => by rw [Nat.add_assoc]; exact hsp _ (by omega)) (fun k hk => hb.frozen _) hvs h1v).mono ?_
      rintro e w' ⟨rfl, rfl⟩
      refine ⟨_, rfl, ⟨_, _, by rw [hil], by rw [hil]; exact hroom, by unfold maxLen; exact h2, fun q hq => ⟨(h3 q hq).1, Nat.lt_of_lt_of_le (h3 q hq).2 (gsetCells b _ w _).size⟩, fun _ => ⟨b, off, _, rfl, hb.setCells_ _ _, by rw [puts_len]; exact hl, fun k x hx => ?_⟩⟩, gsetCells b _ w _, Or.inl rfl⟩
      rw [ins_get _ _ _ _ (Nat.le_refl _)] at hx
      rw [puts_get _ _ _ _ (by simp; omega)]
      simp only [List.length_cons, List.length_nil]
      by_cases hk : k < xs.length
      · rw [if_pos hk] at hx
        rw [if_neg (by omega)]
        exact hg k x hx
      · rw [if_neg hk] at hx
        by_cases hk2 : k = xs.length
        · subst hk2
          rw [if_pos rfl] at hx
          injection hx with hx
          rw [if_pos (by omega), Nat.sub_self, ← hx]
          rfl
        · rw [if_neg hk2, List.getElem?_eq_none (by omega)] at hx
          cases hx
    · have hsb : w.shape? b = some (3, cs.length) := by have := hb; unfold BoxAt at this; simp [World.shape?, this]
      have hsa : w.shape? vb = some (3, 1) := by have := harg; unfold BoxAt at this; simp [World.shape?, this]
      refine (Any2.slices_Insert_int_shift lays221 b off xs.length c a vb 0 1 1 (valsI xs) [.int .i64 (j : Int)] w (by omega) (by omega) hroom (by omega) (fun e => hvb (by rw [e]; rfl)) hcl rfl
        (fun k u hu => by obtain ⟨x, hx, rfl⟩ := valsI_get xs k u hu; exact hb.cell _ _ (hg k x hx)) hsp (fun k _ => hb.frozen _) hvs (valsI_one xs) h1v _ _ 1 cs.length hsa hsb (by omega) (harg.frozen _) (harg.frozen _)).mono ?_
      rintro e w' ⟨rfl, rfl⟩
      have hgr : w.grownBy ((w.drew.setCells b (off + (a + 1)) ((valsI xs).drop a)).setCells b (off + a) [.int .i64 (j : Int)]) (some b) := gtrans (gtrans (gdrew_ (grefl w _)) (gsetCells b _ w.drew _)) (gsetCells b _ _ _)
      have hdl : ((valsI xs).drop a).length = xs.length - a := by rw [List.length_drop, hcl]
      refine ⟨_, rfl, ⟨_, _, by rw [hil], by rw [hil]; exact hroom, by unfold maxLen; exact h2, fun q hq => ⟨(h3 q hq).1, Nat.lt_of_lt_of_le (h3 q hq).2 hgr.size⟩, fun _ => ⟨b, off, _, rfl, BoxAt.setCells_ _ _ (BoxAt.setCells_ (w := w.drew) _ _ hb), by rw [puts_len, puts_len]; exact hl, fun k x hx => ?_⟩⟩, hgr, Or.inl rfl⟩
      rw [ins_get _ _ _ _ ha] at hx
      rw [puts_get _ _ _ _ (by rw [puts_len]; simp; omega), puts_get _ _ _ _ (by rw [hdl]; omega), hdl]
      simp only [List.length_cons, List.length_nil]
      by_cases hk : k < a
      · rw [if_pos hk] at hx
        rw [if_neg (by omega), if_neg (by omega)]
        exact hg k x hx
      · rw [if_neg hk] at hx
        by_cases hk2 : k = a
        · subst hk2
          rw [if_pos rfl] at hx
          injection hx with hx
          rw [if_pos (by omega), Nat.sub_self, ← hx]
          rfl
        · rw [if_neg hk2] at hx
          have hkl : k - 1 < xs.length := (List.getElem?_eq_some_iff.1 hx).1
          rw [if_neg (by omega), if_pos (by omega), List.getElem?_drop, show a + (off + k - (off + (a + 1))) = k - 1 from by omega]
          exact valsI_at xs _ x hx
  · by_cases hn : a = xs.length
    · subst hn
      refine (Any2.slices_Insert_int_end_grow lays221 A xs.length c vb 0 1 1 (valsI xs) [.int .i64 (j : Int)] w (by omega) h1 (by omega) hbig hcl rfl (fun e => by
          rcases Nat.eq_zero_or_pos xs.length with h0 | h0
          · exact h0
          · obtain ⟨b, off, cs, e2, _⟩ := h4 (by omega)
            rw [e] at e2; cases e2) (fun ad e k u hu => by
          obtain ⟨x, hx, rfl⟩ := valsI_get xs k u hu
          have hk : k < xs.length := (List.getElem?_eq_some_iff.1 hx).1
          obtain ⟨b, off, cs, e2, hb, hl, hg⟩ := h4 (by omega)
          rw [e] at e2
          injection e2 with e2
          subst e2
          have := hb.cell _ _ (hg k x hx)
          rw [Addr.add_lit]
          exact this) hvs h1v).mono ?_
      rintro e w' ⟨rfl, rfl⟩
      have hG := grownCap_ge w (xs.length + 1) c 3
      have hG63 := grownCap_le_maxLen w (xs.length + 1) c 3 (by unfold maxLen; omega)
      rw [zc]
      have hne := BoxAt.new_ 3 w.drew ((valsI xs ++ [Value.int .i64 (j : Int)]) ++ List.replicate (grownCap w (xs.length + 1) c 3 - (xs.length + 1)) (Value.int .i64 0))
      have hgr : w.grownBy (w.drew.alloc (.cells ((valsI xs ++ [Value.int .i64 (j : Int)]).toArray ++ (List.replicate (grownCap w (xs.length + 1) c 3 - (xs.length + 1)) (Value.int .i64 0)).toArray) 3)) (Value.slice A xs.length c).ownBlock := gbelow (((Below.refl w.heap.size w).drew).alloc (Nat.le_refl _) _) _
      rw [List.append_toArray] at hgr ⊢
      refine ⟨_, rfl, ⟨_, _, by rw [hil]; rfl, by rw [hil]; exact hG, hG63, fun q hq => ?_, fun _ => ⟨w.heap.size, 0, _, rfl, hne, ?_, fun k x hx => ?_⟩⟩, hgr, Or.inr ⟨w.heap.size, rfl, Nat.le_refl _⟩⟩
      · injection hq with hq
        subst hq
        exact ⟨hbase, by simp⟩
      · simp [valsI]; omega
      · rw [ins_get _ _ _ _ (Nat.le_refl _)] at hx
        rw [Nat.zero_add, List.getElem?_append_left (by
          have hkx : k < xs.length + 1 := by
            by_cases hk : k < xs.length
            · omega
            · rw [if_neg hk] at hx
              by_cases hk2 : k = xs.length
              · omega
              · rw [if_neg hk2, List.getElem?_eq_none (by omega)] at hx; cases hx
          simp [valsI]; omega)]
        by_cases hk : k < xs.length
        · rw [if_pos hk] at hx
          rw [List.getElem?_append_left (by rw [hcl]; exact hk)]
          exact valsI_at xs _ x hx
        · rw [if_neg hk] at hx
          by_cases hk2 : k = xs.length
          · subst hk2
            rw [if_pos rfl] at hx
            injection hx with hx
            rw [List.getElem?_append_right (by rw [hcl]; omega), hcl, Nat.sub_self, ← hx]
            rfl
          · rw [if_neg hk2, List.getElem?_eq_none (by omega)] at hx
            cases hx
    · obtain ⟨b, off, cs, rfl, hb, hl, hg⟩ := h4 (by omega)
      refine (Any2.slices_Insert_int_grow lays221 b off xs.length c a vb 0 1 1 (valsI xs) [.int .i64 (j : Int)] w (by omega) (by omega) h1 (by omega) hbig hcl rfl
        (fun k u hu => by obtain ⟨x, hx, rfl⟩ := valsI_get xs k u hu; exact hb.cell _ _ (hg k x hx)) hvs (valsI_one xs) h1v).mono ?_
      rintro e w' ⟨rfl, rfl⟩
      have hG := grownCap_ge w (xs.length + 1) c 3
      have hG63 := grownCap_le_maxLen w (xs.length + 1) c 3 (by unfold maxLen; omega)
      have hgc : grownCap w (xs.length + 1) c (lays221_ren.t 3) = grownCap w (xs.length + 1) c 3 := rfl
      rw [hgc]
      generalize grownCap w (xs.length + 1) c 3 = G at *
      rw [zc, zc, List.append_toArray, List.append_toArray]
      have hdl : ((valsI xs).drop a).length = xs.length - a := by rw [List.length_drop, hcl]
      have htl : ((valsI xs).take a).length = a := by rw [List.length_take, hcl, Nat.min_eq_left ha]
      generalize hROW : (valsI xs).take a ++ List.replicate (xs.length + 1 - a) (Value.int .i64 0) ++ List.replicate (G - (xs.length + 1)) (Value.int .i64 0) = ROW
      have hRl : ROW.length = G := by rw [← hROW]; simp [htl]; omega
      have hne : BoxAt 3 (w.alloc (.cells ROW.toArray 3)).drew w.heap.size ROW := (BoxAt.new_ 3 w ROW)
      have hn1 := BoxAt.setCells_ [Value.int .i64 (j : Int)] a hne
      have hn2 := BoxAt.setCells_ ((valsI xs).drop a) (a + 1) (w := ((w.alloc (.cells ROW.toArray 3)).drew.setCells w.heap.size a [Value.int .i64 (j : Int)]).drew) hn1
      have hgr : w.grownBy ((((w.alloc (.cells ROW.toArray 3)).drew.setCells w.heap.size a [Value.int .i64 (j : Int)]).drew).setCells w.heap.size (a + 1) ((valsI xs).drop a)) (some b) :=
        gnew (gnew (gbelow ((balloc w (.cells ROW.toArray 3)).drew) (some b)) (gdrew_ (gsetCells w.heap.size [Value.int .i64 (j : Int)] _ a)) (fun i e => Or.inl (by injection e with e; omega))) (gsetCells w.heap.size _ _ _) (fun i e => Or.inl (by injection e with e; omega))
      refine ⟨_, rfl, ⟨_, _, by rw [hil], by rw [hil]; exact hG, hG63, fun q hq => ?_, fun _ => ⟨w.heap.size, 0, _, rfl, hn2, ?_, fun k x hx => ?_⟩⟩, hgr, Or.inr ⟨w.heap.size, rfl, Nat.le_refl _⟩⟩
      · injection hq with hq
        subst hq
        exact ⟨hbase, hn2.lt⟩
      · rw [puts_len, puts_len, hRl]; omega
      · rw [ins_get _ _ _ _ ha] at hx
        rw [Nat.zero_add, puts_get _ _ _ _ (by rw [puts_len, hdl, hRl]; omega), puts_get _ _ _ _ (by simp; omega), hdl]
        simp only [List.length_cons, List.length_nil]
        by_cases hk : k < a
        · rw [if_pos hk] at hx
          rw [if_neg (by omega), if_neg (by omega), ← hROW, List.append_assoc, List.getElem?_append_left (by omega), List.getElem?_take, if_pos hk]
          exact valsI_at xs _ x hx
        · rw [if_neg hk] at hx
          by_cases hk2 : k = a
          · subst hk2
            rw [if_pos rfl] at hx
            injection hx with hx
            rw [if_neg (by omega), if_pos (by omega), Nat.sub_self, ← hx]
            rfl
          · rw [if_neg hk2] at hx
            have hkl : k - 1 < xs.length := (List.getElem?_eq_some_iff.1 hx).1
            rw [if_pos (by omega), List.getElem?_drop, show a + (k - (a + 1)) = k - 1 from by omega]
            exact valsI_at xs _ x hx
end Go.Proofs.YtcffeepgfjpcaaaGreat

namespace Go.Proofs.YtcffeepgfjpcaaaGreat
set_option linter.unusedSimpArgs false
set_option linter.unusedVariables false
open Go.RowKit

/-! ### how many draws come to a neighbour, without wrapping -/
def ncell (W k i : Nat) (c : GCell) : Nat := (if i = k then min c.cut.toNat W else 0) + (if c.oth.toNat = k then W - min c.cut.toNat W else 0)
def ncntF (W k : Nat) : Nat → List GCell → Nat
  | _, [] => 0
  | o, c :: r => ncell W k o c + ncntF W k (o + 1) r
theorem ncntF_set (W k : Nat) : ∀ (l : List GCell) (o i : Nat) (c0 c : GCell), l[i]? = some c0 → ncntF W k o (l.set i c) + ncell W k (o + i) c0 = ncntF W k o l + ncell W k (o + i) c
  | [], o, i, c0, c, h => by simp at h
  | a :: l, o, 0, c0, c, h => by
    simp at h
    subst h
    simp [ncntF]
    omega
  | a :: l, o, i + 1, c0, c, h => by
    have ih := ncntF_set W k l (o + 1) i c0 c (by simpa using h)
    simp only [List.set_cons_succ, ncntF]
    rw [show o + 1 + i = o + (i + 1) from by omega] at ih
    omega
theorem ncntF_snoc (W k : Nat) : ∀ (l : List GCell) (o : Nat) (c : GCell), ncntF W k o (l ++ [c]) = ncntF W k o l + ncell W k (o + l.length) c
  | [], o, c => by simp [ncntF]
  | a :: l, o, c => by
    have ih := ncntF_snoc W k l (o + 1) c
    simp only [List.cons_append, ncntF, ih, List.length_cons]
    rw [show o + 1 + l.length = o + (l.length + 1) from by omega]
    omega
theorem cstep_n (W : Nat) (k i : Nat) (c : GCell) (N : Nat) : cstep W (k : Int) i c (N % 18446744073709551616) = (N + ncell W k i c) % 18446744073709551616 := by
  unfold cstep ncell
  simp only
  have e : (if W < c.cut.toNat then W else c.cut.toNat) = min c.cut.toNat W := by simp only [Nat.min_def]; split <;> split <;> omega
  rw [e]
  generalize min c.cut.toNat W = m
  by_cases h1 : i = k
  · have h1' : (i : Int) = (k : Int) := by omega
    rw [if_pos h1, if_pos h1']
    by_cases h2 : c.oth.toNat = k
    · have h2' : (c.oth.toNat : Int) = (k : Int) := by omega
      rw [if_pos h2, if_pos h2']; omega
    · have h2' : ¬ (c.oth.toNat : Int) = (k : Int) := by omega
      rw [if_neg h2, if_neg h2']; omega
  · have h1' : ¬ (i : Int) = (k : Int) := by omega
    rw [if_neg h1, if_neg h1']
    by_cases h2 : c.oth.toNat = k
    · have h2' : (c.oth.toNat : Int) = (k : Int) := by omega
      rw [if_pos h2, if_pos h2']; omega
    · have h2' : ¬ (c.oth.toNat : Int) = (k : Int) := by omega
      rw [if_neg h2, if_neg h2']; omega
theorem cntK_n (W k : Nat) (l : List GCell) : ∀ m, m ≤ l.length → cntK W (k : Int) l m = ncntF W k 0 (l.take m) % 18446744073709551616
  | 0, _ => by simp [cntK, ncntF]
  | m + 1, h => by
    rw [cntK_succ W _ l m (by omega), cntK_n W k l m (by omega), cstep_n, List.take_add_one, List.getElem?_eq_getElem (by omega), Option.toList_some, ncntF_snoc, List.length_take, Nat.min_eq_left (by omega), Nat.zero_add]
theorem cnt_n (W k : Nat) (l : List GCell) : cnt W (k : Int) l = ncntF W k 0 l % 18446744073709551616 := by
  rw [cnt, cntK_n W k l l.length (Nat.le_refl _), List.take_length]

/-! ### what holds at each turn -/
structure BInv (W n M : Nat) (d0 : Nat → Nat) (s : BSt) : Prop where
  ll : s.left.length = n
  ol : s.out.length = n
  sum : s.left.sum = n * W
  un : ∀ k, k < n → s.left.getD k 0 ≠ W → s.out[k]? = some (mkC W k)
  cn : ∀ k, k < n → ncntF W k 0 s.out + s.left.getD k 0 = W + d0 k
  ok : ∀ c ∈ s.out, c.cut.toNat ≤ W ∧ c.oth.toNat < n
  mx : ∀ k, k < n → s.left.getD k 0 ≤ M
theorem mkC_cut (c o : Nat) (h : c < 18446744073709551616) : (mkC c o).cut.toNat = c := by simp only [mkC, UInt64.toNat_ofNat']; omega
theorem mkC_oth (c o : Nat) (h : o < 4294967296) : (mkC c o).oth.toNat = o := by simp only [mkC, UInt32.toNat_ofNat']; omega
theorem BInv.next {W n M : Nat} {d0 : Nat → Nat} {s : BSt} (h : BInv W n M d0 s) (hn : n ≤ 4294967296) (hW : W < 18446744073709551616) (hWM : W ≤ M) (i j : Nat) (hi : i < n) (hj : j < n) (hiW : s.left.getD i 0 < W) (hjW : W < s.left.getD j 0) :
    BInv W n M d0 ⟨pay W s.left i j, s.out.set i (mkC (s.left.getD i 0) j)⟩ := by
  have hij : i ≠ j := fun e => by subst e; omega
  have hi' : i < s.left.length := by rw [h.ll]; exact hi
  have hj' : j < s.left.length := by rw [h.ll]; exact hj
  have hg := fun k => pay_get W s.left i j k hi' hj'
  have hoi := h.un i hi (by omega)
  refine ⟨by rw [pay_len]; exact h.ll, by rw [List.length_set]; exact h.ol, by rw [pay_sum W s.left i j hi' hj' hiW hjW]; exact h.sum, ?_, ?_, ?_, ?_⟩
  · intro k hk hne
    simp only [hg] at hne
    rw [List.getElem?_set]
    by_cases h1 : i = k
    · rw [if_pos h1] at hne; exact absurd rfl hne
    · rw [if_neg h1] at hne ⊢
      by_cases h2 : j = k
      · subst h2; exact h.un j hk (by omega)
      · rw [if_neg h2] at hne; exact h.un k hk hne
  · intro k hk
    have hs := ncntF_set W k s.out 0 i (mkC W i) (mkC (s.left.getD i 0) j) hoi
    have hc := h.cn k hk
    simp only [hg]
    unfold ncell at hs
    rw [mkC_cut W i hW, mkC_oth W i (by omega), mkC_cut _ _ (by omega), mkC_oth _ _ (by omega), Nat.zero_add] at hs
    rw [Nat.min_eq_left (Nat.le_refl W), Nat.min_eq_left (by omega : s.left.getD i 0 ≤ W)] at hs
    by_cases h1 : i = k
    · have h2 : ¬ j = k := fun e => hij (h1.trans e.symm)
      rw [if_pos h1, if_pos h1, if_pos h1, if_neg h2] at hs
      rw [if_pos h1]
      subst h1
      omega
    · rw [if_neg h1, if_neg h1, if_neg h1] at hs
      rw [if_neg h1]
      by_cases h2 : j = k
      · rw [if_pos h2] at hs ⊢
        subst h2
        omega
      · rw [if_neg h2] at hs ⊢
        omega
  · intro c hc
    rcases List.mem_or_eq_of_mem_set hc with hc | rfl
    · exact h.ok c hc
    · rw [mkC_cut _ _ (by omega), mkC_oth _ _ (by omega)]
      omega
  · intro k hk
    have := h.mx k hk
    have hmj := h.mx j hj
    simp only [hg]
    split
    · exact hWM
    · split
      · omega
      · exact this

/-! ### the first rests and cells -/
def bst0 (l : List GArc) : BSt := ⟨(List.range l.length).map (left0 l), (List.range l.length).map (mkC (gsum l))⟩
def btab (l : List GArc) : List GCell := (brun (gsum l) (l.length + 1) (bst0 l)).out
theorem ncntF_first (W k : Nat) (hW : W < 18446744073709551616) : ∀ (n o : Nat), o + n ≤ 4294967296 → ncntF W k o ((List.range' o n).map (mkC W)) = if o ≤ k ∧ k < o + n then W else 0
  | 0, o, _ => by rw [if_neg (by omega)]; simp [ncntF]
  | n + 1, o, h => by
    have ih := ncntF_first W k hW n (o + 1) (by omega)
    simp only [List.range'_succ, List.map_cons, ncntF, ih]
    unfold ncell
    rw [mkC_cut W o hW, mkC_oth W o (by omega), Nat.min_eq_left (Nat.le_refl W), Nat.sub_self]
    by_cases h1 : o = k
    · rw [if_pos h1, if_pos h1, if_neg (by omega), if_pos (by omega)]; rfl
    · rw [if_neg h1, if_neg h1]
      by_cases h2 : o + 1 ≤ k ∧ k < o + 1 + n
      · rw [if_pos h2, if_pos (by omega)]; omega
      · rw [if_neg h2, if_neg (by omega)]
theorem sum_mul (n : Nat) : ∀ l : List Nat, (l.map fun x => n * x).sum = n * l.sum
  | [] => by simp
  | a :: l => by simp [sum_mul n l, Nat.mul_add]
theorem lefts_sum (l : List GArc) : ((List.range l.length).map (left0 l)).sum = l.length * gsum l := by
  have : (List.range l.length).map (left0 l) = (l.map fun a => a.wt.toNat).map fun x => l.length * x := by
    apply List.ext_getElem
    · simp
    · intro i h1 h2
      simp at h1
      simp [left0, List.getElem?_eq_getElem h1]
  rw [this, sum_mul]
  rfl
theorem getD_lefts (l : List GArc) (k : Nat) (hk : k < l.length) : ((List.range l.length).map (left0 l)).getD k 0 = left0 l k := by
  rw [getD_get _ _ (by simpa using hk)]
  simp
theorem bst0_inv (l : List GArc) (hl : l.length ≤ 1048576) (hg : gsum l ≤ 2147483647) : BInv (gsum l) l.length 4503599627370496 (left0 l) (bst0 l) := by
  refine ⟨by simp [bst0], by simp [bst0], lefts_sum l, ?_, ?_, ?_, ?_⟩
  · intro k hk _
    simp [bst0, List.getElem?_range hk]
  · intro k hk
    have := ncntF_first (gsum l) k (by omega) l.length 0 (by omega)
    rw [← List.range_eq_range', if_pos (by omega)] at this
    show ncntF (gsum l) k 0 ((List.range l.length).map (mkC (gsum l))) + ((List.range l.length).map (left0 l)).getD k 0 = _
    rw [this, getD_lefts l k hk]
  · intro c hc
    simp [bst0] at hc
    obtain ⟨k, hk, rfl⟩ := hc
    rw [mkC_cut _ _ (by omega), mkC_oth _ _ (by omega)]
    omega
  · intro k hk
    show ((List.range l.length).map (left0 l)).getD k 0 ≤ _
    rw [getD_lefts l k hk, left0, List.getElem?_eq_getElem hk]
    have h1 := u32_lt (l[k]).wt
    have : l.length * (l[k]).wt.toNat ≤ 1048576 * 4294967296 := Nat.mul_le_mul hl (by omega)
    simpa using this
/-- one turn, as the program goes: or nobody lacks -/
theorem BInv.turn {W n M : Nat} {d0 : Nat → Nat} {s : BSt} (h : BInv W n M d0 s) : (poorL W s.left = [] ∧ bstep1 W s = none) ∨
    ∃ i j r, poorL W s.left = i :: r ∧ i < n ∧ j < n ∧ s.left.getD i 0 < W ∧ W < s.left.getD j 0 ∧ bstep1 W s = some ⟨pay W s.left i j, s.out.set i (mkC (s.left.getD i 0) j)⟩ ∧ (∀ k, k < j → s.left.getD k 0 ≤ W) := by
  cases hp : poorL W s.left with
  | nil => exact Or.inl ⟨rfl, by rw [bstep1, poor_none W s.left hp]⟩
  | cons i r =>
    obtain ⟨h1, h2, h3⟩ := poor_head W s.left i r hp
    right
    cases hf : s.left.findIdx? (fun x => decide (W < x)) with
    | none =>
      rw [List.findIdx?_eq_none_iff] at hf
      have := rich_ex W s.left i (by rw [h.sum, h.ll]) h2 h3 s.left.length (fun k hk => by
        have := hf _ (List.getElem_mem hk)
        rw [getD_get _ _ hk]
        have h9 : ¬ W < s.left[k] := fun hx => by rw [decide_eq_true hx] at this; cases this
        omega) (Nat.le_refl _)
      omega
    | some j =>
      have hf' := hf
      rw [List.findIdx?_eq_some_iff_getElem] at hf
      obtain ⟨hj, hjW, hb⟩ := hf
      rw [← getD_get] at hjW
      refine ⟨i, j, r, rfl, by rw [← h.ll]; exact h2, by rw [← h.ll]; exact hj, h3, by simpa using hjW, by rw [bstep1, h1, hf'], fun k hk => ?_⟩
      have := hb k hk
      rw [← getD_get] at this
      have h9 : ¬ W < s.left.getD k 0 := fun hx => this (decide_eq_true hx)
      omega
theorem brun_inv (l : List GArc) (hl : l.length ≤ 1048576) (hg : gsum l ≤ 2147483647) : ∀ k, BInv (gsum l) l.length 4503599627370496 (left0 l) (brun (gsum l) k (bst0 l))
  | 0 => bst0_inv l hl hg
  | k + 1 => by
    have ih := brun_inv l hl hg k
    rw [brun]
    rcases ih.turn with ⟨h1, h2⟩ | ⟨i, j, r, h1, h2, h3, h4, h5, h6, h7⟩
    · rw [h2]; exact ih
    · rw [h6]; exact ih.next (by omega) (by omega) (by omega) i j h2 h3 h4 h5
theorem brun_bad (l : List GArc) (hl : l.length ≤ 1048576) (hg : gsum l ≤ 2147483647) : ∀ k, (∃ m, m ≤ k ∧ bstep1 (gsum l) (brun (gsum l) m (bst0 l)) = none) ∨ k + bad (gsum l) (brun (gsum l) k (bst0 l)).left ≤ l.length
  | 0 => Or.inr (by have := bad_le (gsum l) (bst0 l).left; simp [bst0] at this ⊢; exact this)
  | k + 1 => by
    rcases brun_bad l hl hg k with ⟨m, hm, h⟩ | h
    · exact Or.inl ⟨m, by omega, h⟩
    · have ih := brun_inv l hl hg k
      rcases ih.turn with ⟨h1, h2⟩ | ⟨i, j, r, h1, h2, h3, h4, h5, h6, h7⟩
      · exact Or.inl ⟨k, by omega, h2⟩
      · right
        rw [brun, h6]
        have := bad_pay (gsum l) (brun (gsum l) k (bst0 l)).left i j (by rw [ih.ll]; exact h2) (by rw [ih.ll]; exact h3) h4 h5
        show k + 1 + bad _ (pay _ _ _ _) ≤ _
        omega
/-- where it stops is the table -/
theorem btab_at (l : List GArc) (k : Nat) (hk : k ≤ l.length + 1) (h : bstep1 (gsum l) (brun (gsum l) k (bst0 l)) = none) : (brun (gsum l) k (bst0 l)).out = btab l := by
  have := brun_stop (gsum l) k (bst0 l) h (l.length + 1 - k)
  rw [show k + (l.length + 1 - k) = l.length + 1 from by omega] at this
  rw [btab, this]
theorem btab_stop (l : List GArc) (hl : l.length ≤ 1048576) (hg : gsum l ≤ 2147483647) : ∃ k, BInv (gsum l) l.length 4503599627370496 (left0 l) (brun (gsum l) k (bst0 l)) ∧ poorL (gsum l) (brun (gsum l) k (bst0 l)).left = [] ∧ (brun (gsum l) k (bst0 l)).out = btab l := by
  rcases brun_bad l hl hg (l.length + 1) with ⟨m, hm, h⟩ | h
  · have hi := brun_inv l hl hg m
    refine ⟨m, hi, ?_, btab_at l m hm h⟩
    rcases hi.turn with ⟨h1, h2⟩ | ⟨i, j, r, h1, h2, h3, h4, h5, h6, h7⟩
    · exact h1
    · rw [h] at h6; cases h6
  · omega
theorem btab_len (l : List GArc) (hl : l.length ≤ 1048576) (hg : gsum l ≤ 2147483647) : (btab l).length = l.length := by
  obtain ⟨k, hi, _, e⟩ := btab_stop l hl hg
  rw [← e]; exact hi.ol
theorem btab_ok (l : List GArc) (hl : l.length ≤ 1048576) (hg : gsum l ≤ 2147483647) : ∀ c ∈ btab l, c.cut.toNat ≤ gsum l ∧ c.oth.toNat < l.length := by
  obtain ⟨k, hi, _, e⟩ := btab_stop l hl hg
  rw [← e]; exact hi.ok
theorem btab_n (l : List GArc) (hl : l.length ≤ 1048576) (hg : gsum l ≤ 2147483647) (i : Nat) (hi : i < l.length) : ncntF (gsum l) i 0 (btab l) = l.length * (l[i]).wt.toNat := by
  obtain ⟨k, h, hp, e⟩ := btab_stop l hl hg
  have h1 := h.cn i hi
  have hall := sum_gt_one (gsum l) _ (by rw [h.sum, h.ll]) (fun x hx => by
    obtain ⟨q, hq, rfl⟩ := List.mem_iff_getElem.1 hx
    have : ¬ q ∈ poorL (gsum l) (brun (gsum l) k (bst0 l)).left := by rw [hp]; simp
    rw [poorL_mem, getD_get _ _ hq] at this
    omega)
  have h2 := hall _ (List.getElem_mem (by rw [h.ll]; exact hi))
  rw [← getD_get] at h2
  rw [← e]
  rw [h2] at h1
  have : left0 l i = l.length * (l[i]).wt.toNat := by rw [left0, List.getElem?_eq_getElem hi]; rfl
  omega
theorem btab_cnt (l : List GArc) (hl : l.length ≤ 1048576) (hg : gsum l ≤ 2147483647) (i : Nat) (hi : i < l.length) : cnt (gsum l) (i : Int) (btab l) = l.length * (l[i]).wt.toNat := by
  rw [cnt_n, btab_n l hl hg i hi, Nat.mod_eq_of_lt]
  have h1 := u32_lt (l[i]).wt
  have : l.length * (l[i]).wt.toNat ≤ 1048576 * 4294967296 := Nat.mul_le_mul hl (by omega)
  omega
theorem btab_may (l : List GArc) (hl : l.length ≤ 1048576) (h : nbrs l = true) (hg : gsum l ≤ 2147483647) : mayOk l (btab l) = true := by
  have hn := btab_len l hl hg
  refine mayOk_yes h hn.symm ?_ fun k hk => btab_cnt l hl hg k hk
  unfold cgood
  rw [List.all_eq_true]
  intro c hc
  have := btab_ok l hl hg c hc
  rw [hn]
  simp [this]
end Go.Proofs.YtcffeepgfjpcaaaGreat

namespace Go.Proofs.YtcffeepgfjpcaaaGreat
set_option linter.unusedSimpArgs false
set_option linter.unusedVariables false
open Go.RowKit

theorem RwAt.chg {P : Nat → Prop} {T : TypeId} {K : IntKind} {w w' : World} {base : Nat} {v : Value} {xs : List Nat} (h : RwAt T K w base v xs) (hc : Chg P w w') (hn : ∀ q, v.ownBlock = some q → ¬ P q) : RwAt T K w' base v xs := by
  obtain ⟨A, c, rfl, h1, h2, h3, h4⟩ := h
  refine ⟨A, c, rfl, h1, h2, fun q hq => ⟨(h3 q hq).1, Nat.lt_of_lt_of_le (h3 q hq).2 hc.size⟩, fun hcc => ?_⟩
  obtain ⟨b, off, cs, rfl, hb, hl, hx⟩ := h4 hcc
  exact ⟨b, off, cs, rfl, hb.chg hc (hn b rfl), hl, hx⟩

theorem RwAt.set_ {T : TypeId} {K : IntKind} {w : World} {base : Nat} {v : Value} {xs : List Nat} (h : RwAt T K w base v xs) (p : Addr) (u : Value) (hne : v.ownBlock ≠ some p.block) : RwAt T K (w.setCell p u) base v xs :=
  h.keep (gset w p u) fun q hq e => hne (by rw [hq]; exact e.symm)

set_option maxRecDepth 100000 in
set_option maxHeartbeats 1600000 in
theorem nextR_any (w : World) (g W base : Nat) (vl vp : Value) (rich p : Nat) (ps : List Nat) (hbx : BoxAt 104 w g [.int .u64 (W : Int), vl, vp, .int .i64 (rich : Int)]) (hr : RwAt 3 .i64 w base vp (p :: ps)) :
    Calls Tryz.prog 47 #[.pointer (some ⟨g, 0, none⟩)] w fun e w' => e = .returned (.int .i64 (p : Int)) ∧ ∃ vp', w' = w.setCell ⟨g, 2, none⟩ vp' ∧ RwAt 3 .i64 w base vp' ps ∧ vp'.ownBlock = vp.ownBlock := by
  obtain ⟨A, c, rfl, hc1, hc2⟩ := hr.form
  obtain ⟨_, b, off, rfl, hb1, hb2, hx, hxf⟩ := hr.at_ 0 p rfl
  have hy := hbx.cell 2 _ rfl
  have hf := hbx.frozen 2
  unfold maxLen at hc2
  simp only [List.length_cons] at hc1 hy
  rw [Nat.add_zero] at hx hxf
  have hcl : ps.length + 1 ≤ c := hc1
  have htail : ∀ v' : Value, v' = .slice (some ⟨b, (if c = 1 then off else off + 1), none⟩) ps.length (c - 1) → RwAt 3 .i64 w base v' ps := by
    rintro v' rfl
    obtain ⟨A', c', e, h1, h2, h3, h4⟩ := hr
    injection e with e1 e2 e3
    subst e1; subst e3
    refine ⟨_, _, rfl, by omega, by unfold maxLen at h2 ⊢; omega, h3, fun hc => ?_⟩
    obtain ⟨b', off', cs, e, hb, hl, hg⟩ := h4 (by omega)
    injection e with e; injection e with e1 e2 _
    subst e1; subst e2
    rw [if_neg (by omega)]
    refine ⟨b, off + 1, cs, rfl, hb, by omega, fun j x hj => ?_⟩
    have := hg (j + 1) x (by simpa using hj)
    rw [show off + 1 + j = off + (j + 1) from by omega]
    exact this
  have Ht := Lib.hid htail
  clear htail hbx hr
  by_cases h1 : c = 1
  · have hc1' : (c == 1) = true := by simpa using h1
    go_enter Tryz.func47, Tryz.ntmps47
    go_wp2_with fail
    go_ret
    exact ⟨rfl, _, rfl, Ht.out _ (by simp [h1]), rfl⟩
  · have hc1' : (c == 1) = false := by simpa using h1
    go_enter Tryz.func47, Tryz.ntmps47
    go_wp2_with fail
    go_ret
    exact ⟨rfl, _, rfl, Ht.out _ (by simp [h1]), rfl⟩

set_option maxRecDepth 100000 in
set_option maxHeartbeats 1600000 in
theorem bsearch_any (w : World) (base : Nat) (v : Value) (ps : List Nat) (r : Nat) (h : RwAt 3 .i64 w base v ps) (hps : ps.length ≤ 4294967296) (hs : ps.Pairwise (· < ·)) :
    Calls Tryz.prog 77 #[v, .int .i64 (r : Int)] w fun e w' => ∃ fo, e = .returned (.tuple #[.int .i64 ((ps.countP fun x => decide (x < r) : Nat) : Int), .bool fo]) ∧ ∃ q, w' = w.drewN q := by
  obtain ⟨A, c, rfl, h1, h2⟩ := h.form
  cases hp : ps with
  | nil =>
    subst hp
    refine (Any.slices_BinarySearch_int_empty lays225 A c (r : Int) w).mono ?_
    rintro e w' ⟨rfl, rfl⟩
    exact ⟨false, rfl, 0, rfl⟩
  | cons a t =>
    rw [← hp]
    obtain ⟨_, b, off, rfl, _, _, _, _⟩ := h.at_ 0 a (by rw [hp]; rfl)
    have hz : (ps.map fun (x : Nat) => (x : Int)).length = ps.length := by simp
    have htk : (ps.map fun (x : Nat) => (x : Int)).take ps.length = ps.map fun (x : Nat) => (x : Int) := List.take_of_length_le (by rw [hz]; omega)
    have hcnt : (ps.map fun (x : Nat) => (x : Int)).countP (fun x => decide (x < (r : Int))) = ps.countP fun x => decide (x < r) := by
      rw [List.countP_map]
      congr 1
      funext x
      simp
    refine (Any.slices_BinarySearch_int lays225 b off ps.length c (ps.map fun (x : Nat) => (x : Int)) (r : Int) w (by omega) (by omega) (fun j hj => ?_) ?_).mono ?_
    · rw [hz] at hj
      obtain ⟨_, b', off', e, _, _, hx, _⟩ := h.at_ j ps[j] (List.getElem?_eq_getElem hj)
      injection e with e; injection e with e1 e2 _
      subst e1; subst e2
      rw [hx]
      simp [List.getD, hj]
    · rw [htk, List.pairwise_map]
      exact hs.imp fun hab => by omega
    · rw [htk, hcnt]
      rintro e w' ⟨rfl, q, rfl⟩
      exact ⟨_, rfl, q, rfl⟩
end Go.Proofs.YtcffeepgfjpcaaaGreat

namespace Go.Proofs.YtcffeepgfjpcaaaGreat
set_option linter.unusedSimpArgs false
set_option linter.unusedVariables false
open Go.RowKit

set_option maxRecDepth 100000 in
set_option maxHeartbeats 3200000 in
theorem give_any (w : World) (g W base n : Nat) (vl vp : Value) (rich i j : Nat) (left ps : List Nat) (P : Nat → Prop) (hbx : BoxAt 104 w g [.int .u64 (W : Int), vl, vp, .int .i64 (rich : Int)])
    (hl : RwAt 23 .u64 w base vl left) (hp : RwAt 3 .i64 w base vp ps) (hap : Apart vl vp) (hgl : vl.ownBlock ≠ some g) (hgp : vp.ownBlock ≠ some g) (hbase : base ≤ w.heap.size)
    (hn : left.length = n) (hn2 : n ≤ 1048576) (hps : ps.length ≤ n) (hW : W ≤ 2147483647) (hi : i < n) (hj : j < n) (hiW : left.getD i 0 < W) (hjW : W < left.getD j 0) (hmx : left.getD j 0 ≤ 4503599627370496) (hr : rich ≤ j)
    (hrk : ∀ k, k < j → left.getD k 0 ≤ W) (hpr : ps.Pairwise (· < ·)) (hPg : P g) (hPl : ∀ q, vl.ownBlock = some q → P q) (hPp : ∀ q, vp.ownBlock = some q → P q) :
    Calls Tryz.prog 48 #[.pointer (some ⟨g, 0, none⟩), .int .i64 (i : Int)] w fun e w' => e = .returned (.int .i64 (j : Int)) ∧ ∃ vp', BoxAt 104 w' g [.int .u64 (W : Int), vl, vp', .int .i64 (j : Int)] ∧
      RwAt 23 .u64 w' base vl (pay W left i j) ∧ RwAt 3 .i64 w' base vp' (if left.getD j 0 - (W - left.getD i 0) < W then ins ps (ps.countP fun x => decide (x < j)) j else ps) ∧
      (vp'.ownBlock = vp.ownBlock ∨ ∃ q, vp'.ownBlock = some q ∧ w.heap.size ≤ q) ∧ Chg P w w' := by
  have Hrk := Lib.hid hrk
  have Hpr := Lib.hid hpr
  have HPl := Lib.hid hPl
  have HPp := Lib.hid hPp
  clear hrk hpr hPl hPp
  have hij : i ≠ j := fun e => by subst e; omega
  obtain ⟨ps', hps'⟩ : ∃ ps', ps' = (if left.getD j 0 - (W - left.getD i 0) < W then ins ps (ps.countP fun x => decide (x < j)) j else ps) := ⟨_, rfl⟩
  rw [← hps']
  have Hps := Lib.hid hps'
  clear hps'
  go_enter Tryz.func48, Tryz.ntmps48
  go_wp2_with fail
  go_loopg [] (j - rich) (fun gh wr => ∃ r : Nat, r ≤ j ∧ j - r ≤ gh ∧ BoxAt 104 wr g [.int .u64 (W : Int), vl, vp, .int .i64 (r : Int)] ∧ RwAt 23 .u64 wr base vl left ∧ RwAt 3 .i64 wr base vp ps ∧ Chg P w wr)
  case atStart => exact ⟨rich, hr, Nat.le_refl _, hbx, hl, hp, Chg.refl _ _⟩
  case round =>
    obtain ⟨r, hrj, hgh, hbx1, hl1, hp1, hc1⟩ := hrel
    obtain ⟨Al, cl, rfl, hcl1, hcl2⟩ := hl1.form
    unfold maxLen at hcl2
    obtain ⟨_, b, off, rfl, hb1, hb2, hxj, hxf⟩ := hl1.at_ j (left.getD j 0) (by rw [getD_get _ _ (by omega)]; exact List.getElem?_eq_getElem _)
    obtain ⟨_, b', off', e, _, _, hxi, _⟩ := hl1.at_ i (left.getD i 0) (by rw [getD_get _ _ (by omega)]; exact List.getElem?_eq_getElem _)
    injection e with e; injection e with e1 e2 _
    subst e1; subst e2
    have hy0 := hbx1.cell 0 _ rfl
    have hy1 := hbx1.cell 1 _ rfl
    have hy3 := hbx1.cell 3 _ rfl
    have hf3 := hbx1.frozen 3
    rw [hn] at hy1
    by_cases hrlt : r < j
    · have hle := Hrk.out r hrlt
      obtain ⟨_, b', off', e, _, _, hxr, _⟩ := hl1.at_ r (left.getD r 0) (by rw [getD_get _ _ (by omega)]; exact List.getElem?_eq_getElem _)
      injection e with e; injection e with e1 e2 _
      subst e1; subst e2
      have Hbx1 := Lib.hid hbx1
      have Hl1 := Lib.hid hl1
      have Hp1 := Lib.hid hp1
      have Hc1 := Lib.hid hc1
      clear hbx1 hl1 hp1 hc1 hxj hxi
      generalize left.getD r 0 = lr at *
      have hd : decide (lr ≤ W) = true := decide_eq_true hle
      have hrn : r < left.length := by omega
      go_wp2_with fail
      go_quiet (fail)
      go_wp2_with fail
      go_roundg (j - (r + 1))
      case measure => omega
      case rel => exact ⟨r + 1, by omega, Nat.le_refl _, BoxAt.put (w := wr.drewN _) Hbx1.out 3 _, (Hl1.out.drewN_ _).set_ _ _ hgl, (Hp1.out.drewN_ _).set_ _ _ hgp, (Hc1.out.drewN_ _).trans (Chg.set _ _ _ hPg)⟩
    · obtain rfl : r = j := by omega
      have Hbx1 := Lib.hid hbx1
      have Hl1 := Lib.hid hl1
      have Hp1 := Lib.hid hp1
      have Hc1 := Lib.hid hc1
      clear hbx1 hl1 hp1 hc1
      generalize hLI : left.getD i 0 = li at *
      generalize hLJ : left.getD r 0 = lj at *
      have HLI := Lib.hid hLI
      have HLJ := Lib.hid hLJ
      clear hLI hLJ
      have hd : decide (lj ≤ W) = false := decide_eq_false (by omega)
      have hrn : r < left.length := by omega
      have hin : i < left.length := by omega
      go_wp2_with fail
      go_quiet (fail)
      go_wp2_with fail
      have HbxD := Lib.hid (show BoxAt 104 (wr.drewN nq) g _ from Hbx1.out)
      have HlD := Lib.hid (Hl1.out.drewN_ nq)
      have HpD := Lib.hid (Hp1.out.drewN_ nq)
      have HcD := Lib.hid (Hc1.out.drewN_ nq)
      have hb2D : b < (wr.drewN nq).heap.size := hb2
      replace hxj : (wr.drewN nq).cell? _ = _ := hxj
      replace hxi : (wr.drewN nq).cell? _ = _ := hxi
      replace hy0 : (wr.drewN nq).cell? _ = _ := hy0
      replace hy1 : (wr.drewN nq).cell? _ = _ := hy1
      replace hxf : (wr.drewN nq).frozen? _ = _ := hxf
      clear hbx hl hp hb2 hy3 hf3 Hbx1 Hl1 Hp1 Hc1
      generalize wr.drewN nq = wd at *
      have hs1 : IntKind.u64.wrap ((W : Int) - (li : Int)) = ((W - li : Nat) : Int) := by rw [wrap_u64]; omega
      have hs2 : IntKind.u64.wrap ((lj : Int) - ((W - li : Nat) : Int)) = ((lj - (W - li) : Nat) : Int) := by rw [wrap_u64]; omega
      have hs3 : IntKind.u64.wrap ((lj : Int) - IntKind.u64.wrap ((W : Int) - (li : Int))) = ((lj - (W - li) : Nat) : Int) := by rw [hs1, hs2]
      go_region
      have hgb : g ≠ b := fun e => hgl (by rw [e]; rfl)
      have hl2 := Lib.hid ((HlD.out.put r (lj - (W - li)) (by omega)).drew_)
      have hp2 := Lib.hid ((HpD.out.set_ ⟨b, off + r, none⟩ (.int .u64 ((lj - (W - li) : Nat) : Int)) (fun e => hap b rfl e)).drew_)
      have hbx2 := Lib.hid (show BoxAt 104 (wd.setCell ⟨b, off + r, none⟩ (.int .u64 ((lj - (W - li) : Nat) : Int))).drew g _ from HbxD.out.other ⟨b, off + r, none⟩ (.int .u64 ((lj - (W - li) : Nat) : Int)) (fun e => hgb e.symm))
      have hc2 := Lib.hid ((HcD.out.trans (Chg.set wd ⟨b, off + r, none⟩ (.int .u64 ((lj - (W - li) : Nat) : Int)) (HPl.out b rfl))).drew_)
      clear hxj hxi hy0 hy1 hxf HbxD HlD HpD HcD hb2D
      generalize (wd.setCell ⟨b, off + r, none⟩ (.int .u64 ((lj - (W - li) : Nat) : Int))).drew = w2 at *
      have hy0 := hbx2.out.cell 0 _ rfl
      have hy1 := hbx2.out.cell 1 _ rfl
      rw [hn] at hy1
      obtain ⟨_, b', off', e, _, _, hxi, hxf⟩ := hl2.out.at_ i li (by rw [List.getElem?_set, if_neg (fun e => hij e.symm), List.getElem?_eq_getElem hin, ← HLI.out, getD_get])
      injection e with e; injection e with e1 e2 _
      subst e1; subst e2
      go_wp2_with fail
      go_region
      have hl3 := Lib.hid ((hl2.out.put i W (by rw [List.length_set]; omega)).drew_)
      have hp3 := Lib.hid ((hp2.out.set_ ⟨b, off + i, none⟩ (.int .u64 (W : Int)) (fun e => hap b rfl e)).drew_)
      have hbx3 := Lib.hid (show BoxAt 104 (w2.setCell ⟨b, off + i, none⟩ (.int .u64 (W : Int))).drew g _ from hbx2.out.other ⟨b, off + i, none⟩ (.int .u64 (W : Int)) (fun e => hgb e.symm))
      have hc3 := Lib.hid ((hc2.out.trans (Chg.set w2 ⟨b, off + i, none⟩ (.int .u64 (W : Int)) (HPl.out b rfl))).drew_)
      clear hxi hxf hy0 hy1 hl2 hp2 hbx2 hc2
      generalize (w2.setCell ⟨b, off + i, none⟩ (.int .u64 (W : Int))).drew = w3 at *
      have hy0 := hbx3.out.cell 0 _ rfl
      have hy1 := hbx3.out.cell 1 _ rfl
      have hy2 := hbx3.out.cell 2 _ rfl
      have hf2 := hbx3.out.frozen 2
      rw [hn] at hy1
      obtain ⟨_, b', off', e, _, _, hxj, _⟩ := hl3.out.at_ r (lj - (W - li)) (by rw [List.getElem?_set, if_neg hij, List.getElem?_set, if_pos rfl, if_pos (by omega)])
      injection e with e; injection e with e1 e2 _
      subst e1; subst e2
      have hpay : (left.set r (lj - (W - li))).set i W = pay W left i r := by unfold pay; rw [HLI.out, HLJ.out]
      rw [hpay] at hl3
      have Hpay := Lib.hid hpay
      clear hpay
      clear hs1 hs2 hs3
      have hnjb : lj - (W - li) ≤ 4503599627370496 := by omega
      generalize hnj : lj - (W - li) = nj at *
      have Hnj := Lib.hid hnj
      clear hnj
      by_cases hlt : nj < W
      · have hd2 : decide (nj < W) = true := decide_eq_true hlt
        go_wp2_with fail
        go_quiet (fail)
        go_wp2_with fail
        obtain ⟨Ap, cp, rfl, hcp1, hcp2⟩ := hp3.out.form
        go_wp2_with fail
        refine (bsearch_any (w3.drewN nq) base _ ps r (hp3.out.drewN_ _) (by omega) Hpr.out).mono ?_
        rintro _ w4 ⟨fo, rfl, q4, rfl⟩
        have hl4 := Lib.hid ((hl3.out.drewN_ nq).drewN_ q4)
        have hp4 := Lib.hid ((hp3.out.drewN_ nq).drewN_ q4)
        have hbx4 := Lib.hid (show BoxAt 104 ((w3.drewN nq).drewN q4) g _ from hbx3.out)
        have hc4 := Lib.hid ((hc3.out.drewN_ nq).drewN_ q4)
        replace hy2 : ((w3.drewN nq).drewN q4).cell? _ = _ := hy2
        replace hf2 : ((w3.drewN nq).drewN q4).frozen? _ = _ := hf2
        have hle : ps.countP (fun x => decide (x < r)) ≤ ps.length := List.countP_le_length
        have e9 := Hps.out
        rw [if_pos hlt] at e9
        have E9 := Lib.hid e9
        clear hxj hy0 hy1 hl3 hp3 hbx3 hc3 e9 Hps
        generalize (w3.drewN nq).drewN q4 = w4 at *
        generalize (ps.countP fun x => decide (x < r)) = at4 at *
        go_wp2_with fail
        have hp5 := (hp4.out.alloc_ (.cells #[.int .i64 (r : Int)] 3))
        have harg := BoxAt.new_ 3 w4 [.int .i64 (r : Int)]
        have hbx5 := Lib.hid (hbx4.out.alloc (.cells #[.int .i64 (r : Int)] 3))
        have hl5 := Lib.hid (hl4.out.alloc_ (.cells #[.int .i64 (r : Int)] 3))
        have hblk := hp4.out.blk
        refine (insert_any _ base _ ps at4 r w4.heap.size hle (by omega) hp5 harg (fun e => by have := (hblk _ e).2; omega) (by have := hc4.out.size; simp; omega)).mono ?_
        rintro _ w6 ⟨v6, rfl, hp6, hg6, ho6⟩
        obtain ⟨A6, c6, rfl, h61, h62⟩ := hp6.form
        have hbx6 := hbx5.out.grown hg6 hgp
        have hl6 := Lib.hid (hl5.out.keep hg6 hap)
        have hc6 := Lib.hid ((hc4.out.alloc_ (.cells #[.int .i64 (r : Int)] 3)).trans (Chg.ofGrown hg6 HPp.out))
        have hglt := hbx5.out.lt
        have hws : w.heap.size ≤ (w4.alloc (.cells #[.int .i64 (r : Int)] 3)).heap.size := (hc4.out.alloc_ _).size
        have hg6' : (Value.slice A6 (ins ps at4 r).length c6).ownBlock ≠ some g := fun e => by
          rcases ho6 with h | ⟨q, h, h2⟩
          · exact hgp (by rw [← h]; exact e)
          · rw [h] at e; injection e with e; omega
        have hy2' := hbx6.cell 2 _ rfl
        have hf2' := hbx6.frozen 2
        have ho7 : (Value.slice A6 (ins ps at4 r).length c6).ownBlock = (Value.slice Ap ps.length cp).ownBlock ∨ ∃ q, (Value.slice A6 (ins ps at4 r).length c6).ownBlock = some q ∧ w.heap.size ≤ q := by
          rcases ho6 with h | ⟨q, h, h2⟩
          · exact Or.inl h
          · exact Or.inr ⟨q, h, by omega⟩
        have Hp6 := Lib.hid hp6
        have Hbx6 := Lib.hid hbx6
        have Ho7 := Lib.hid ho7
        have Hg6' := Lib.hid hg6'
        clear hp6 hbx6 ho6 ho7 hg6 hp5 harg hbx5 hl5 hp4 hl4 hbx4 hc4 hy2 hf2 hg6' hglt hblk hws
        go_wp2_with fail
        go_ret
        exact ⟨rfl, _, Hbx6.out.put 2 _, hl6.out.set_ _ _ hgl, by rw [E9.out]; exact Hp6.out.set_ _ _ Hg6'.out, Ho7.out, hc6.out.trans (Chg.set _ _ _ hPg)⟩
      · have hd2 : decide (nj < W) = false := decide_eq_false hlt
        go_wp2_with fail
        go_quiet (fail)
        go_wp2_with fail
        go_ret
        have e9 := Hps.out
        rw [if_neg hlt] at e9
        subst e9
        exact ⟨rfl, vp, hbx3.out, hl3.out, hp3.out, Or.inl rfl, hc3.out.drewN_ _⟩
end Go.Proofs.YtcffeepgfjpcaaaGreat

namespace Go.Proofs.YtcffeepgfjpcaaaGreat
set_option linter.unusedSimpArgs false
set_option linter.unusedVariables false
open Go.RowKit

def ptotal (l : List GArc) : Nat := if gmay l = true then gsum l * l.length else 0
theorem gmay_sum {l : List GArc} (h : gmay l = true) : gsum l ≤ 2147483647 := by
  unfold gmay at h
  simp at h
  exact h.2
theorem ptotal_nbrs (l : List GArc) : ptotal l = if nbrs l = true then gsum l * l.length else 0 := by
  unfold ptotal nbrs
  rcases Nat.eq_zero_or_pos l.length with h | h
  · simp [h]
  · simp [h]

set_option maxRecDepth 100000 in
set_option maxHeartbeats 800000 in
theorem ptotal_any (w : World) (B : Nat) (v : Value) (l : List GArc) (hl : l.length ≤ 4294967296) (h : ByA w B v l) (hB : B ≤ w.heap.size) :
    Calls Tryz.prog 24 #[v] w fun e w' => e = .returned (.int .u64 (ptotal l : Nat)) ∧ Below w.heap.size w w' := by
  obtain ⟨A, c, rfl, hc1, hc2⟩ := h.form
  unfold maxLen at hc2
  have hmy := gmay_any w B _ l hl h hB
  have hsum := fun W h hW => gsum_any W B (.slice A l.length c) l hl h hW
  have Hsum := Lib.hid hsum
  clear hsum
  unfold ptotal
  cases hm : gmay l with
  | false =>
    rw [hm] at hmy
    go_enter Tryz.func24, Tryz.ntmps24
    clear hm
    go_wp2_with fail
    refine hmy.mono ?_
    rintro _ w1 ⟨rfl, hb1⟩
    go_wp2_with fail
    go_ret
    exact ⟨rfl, hb1⟩
  | true =>
    have hs := gmay_sum hm
    rw [hm] at hmy
    have hmb : gsum l * l.length ≤ 2147483647 * 4294967296 := Nat.mul_le_mul hs hl
    have hmul : IntKind.u64.wrap ((gsum l : Int) * (l.length : Int)) = ((gsum l * l.length : Nat) : Int) := by
      rw [← Int.natCast_mul, wrap_u64]; omega
    have Hmul := Lib.hid hmul
    clear hmul
    go_enter Tryz.func24, Tryz.ntmps24
    clear hm
    go_wp2_with fail
    refine hmy.mono ?_
    rintro _ w1 ⟨rfl, hb1⟩
    go_wp2_with fail
    refine (Hsum.out w1 (h.below (hb1.mono hB)) (Nat.le_trans hB hb1.size)).mono ?_
    rintro _ w2 ⟨rfl, hb2⟩
    have hmul := Hmul.out
    go_wp2_with fail
    go_ret
    exact ⟨by first | rfl | simp, bstep hb1 hb2⟩

end Go.Proofs.YtcffeepgfjpcaaaGreat

namespace Go.Proofs.YtcffeepgfjpcaaaGreat
set_option linter.unusedSimpArgs false
set_option linter.unusedVariables false
open Go.RowKit

/-- the neighbour that a draw comes to -/
def palias (l : List GArc) (t : List GCell) (x : Nat) : Nat × Bool :=
  if l.length = t.length ∧ x < ptotal l then
    let c := (t[x / gsum l]?).getD ⟨0, 0⟩
    if x % gsum l < c.cut.toNat then (x / gsum l, true) else if c.oth.toNat < l.length then (c.oth.toNat, true) else (0, false)
  else (0, false)
theorem palias_no {l : List GArc} {t : List GCell} {x : Nat} (h : ¬ (l.length = t.length ∧ x < ptotal l)) : palias l t x = (0, false) := by
  unfold palias; rw [if_neg h]
theorem ptotal_pos {l : List GArc} {x : Nat} (h : x < ptotal l) : gmay l = true ∧ 0 < gsum l ∧ x / gsum l < l.length ∧ gsum l ≤ 2147483647 := by
  unfold ptotal at h
  split at h
  · rename_i hg
    have h0 : 0 < gsum l := Nat.pos_of_ne_zero fun e => by rw [e] at h; simp at h
    exact ⟨hg, h0, Nat.div_lt_of_lt_mul h, gmay_sum hg⟩
  · omega
theorem palias_yes {l : List GArc} {t : List GCell} {x : Nat} (hlt : l.length = t.length) (hx : x < ptotal l) (hk : x / gsum l < t.length) :
    palias l t x = if x % gsum l < (t[x / gsum l]).cut.toNat then (x / gsum l, true) else if (t[x / gsum l]).oth.toNat < l.length then ((t[x / gsum l]).oth.toNat, true) else (0, false) := by
  unfold palias
  rw [if_pos ⟨hlt, hx⟩, List.getElem?_eq_getElem hk]
  rfl

set_option maxRecDepth 100000 in
set_option maxHeartbeats 1600000 in
theorem palias_any (w : World) (B B2 : Nat) (v v2 : Value) (l : List GArc) (t : List GCell) (x : Nat) (hx : x < 18446744073709551616) (hl : l.length ≤ 4294967296) (ht : t.length ≤ 4294967296) (h : ByA w B v l) (h2 : ByC w B2 v2 t) (hB : B ≤ w.heap.size) (hB2 : B2 ≤ w.heap.size) :
    Calls Tryz.prog 26 #[v, v2, .int .u64 (x : Int)] w fun e w' => e = .returned (.tuple #[.int .i64 ((palias l t x).1 : Nat), .bool (palias l t x).2]) ∧ Below w.heap.size w w' := by
  obtain ⟨A, c, rfl, hc1, hc2⟩ := h.form
  obtain ⟨A2, c2, rfl, hd1, hd2⟩ := h2.form
  unfold maxLen at hc2 hd2
  have hS := gsum_lt l
  have htot := ptotal_any w B _ l hl h hB
  have hsum := fun W h hW => gsum_any W B (.slice A l.length c) l hl h hW
  have Hsum := Lib.hid hsum
  have Htot := Lib.hid htot
  clear hsum htot
  by_cases hlt : l.length = t.length
  · have hle1 : ((l.length : Int) == (t.length : Int)) = true := by simp [hlt]
    have hle2 : ((l.length : Int) != (t.length : Int)) = false := by simp [hlt]
    have hpt : ptotal l < 18446744073709551616 := by
      unfold ptotal
      split
      · rename_i hg
        have := Nat.mul_le_mul (gmay_sum hg) hl
        omega
      · omega
    by_cases hxt : x < ptotal l
    · obtain ⟨hg, hW0, hk, hW1⟩ := ptotal_pos hxt
      have hkt : x / gsum l < t.length := by omega
      have hpa := palias_yes hlt hxt hkt
      have hge : decide (ptotal l ≤ x) = false := decide_eq_false (by omega)
      obtain ⟨ad, rfl, hab, hx0, hx1⟩ := ByC.cells h2 (x / gsum l) hkt
      have hcu := u64_lt (t[x / gsum l]).cut
      have hot := u32_lt (t[x / gsum l]).oth
      have Hpa := Lib.hid hpa
      have hcs : ∀ W, Below w.heap.size w W → W.cell? (ad.add (x / gsum l * 2)) = some (.int .u64 ((t[x / gsum l]).cut.toNat : Int)) ∧ W.cell? { block := (ad.add (x / gsum l * 2)).block, off := (ad.add (x / gsum l * 2)).off + 1 } = some (.int .u32 ((t[x / gsum l]).oth.toNat : Int)) := fun W hW =>
        ⟨(hW.cell (by rw [add_block]; omega)).trans hx0, (hW.cell (by show (ad.add (x / gsum l * 2)).block < _; rw [add_block]; omega)).trans hx1⟩
      have Hcs := Lib.hid hcs
      clear hpa hcs hx0 hx1
      have Hlt := Lib.hid hlt
      generalize (t[x / gsum l]).cut.toNat = cut at *
      generalize (t[x / gsum l]).oth.toNat = oth at *
      have hq : Int.tdiv (x : Int) (gsum l : Int) = ((x / gsum l : Nat) : Int) := rfl
      have hr : Int.tmod (x : Int) (gsum l : Int) = ((x % gsum l : Nat) : Int) := rfl
      have hn0 : ((gsum l : Int) == 0) = false := beq_eq_false_iff_ne.2 (by omega)
      have hn1 : ¬ ((gsum l : Nat) = 0) := by omega
      have hkb : decide (((x / gsum l : Nat) : Int) < (t.length : Int)) = true := decide_eq_true (by omega)
      have hrl : x % gsum l < gsum l := Nat.mod_lt _ hW0
      clear hlt hxt hg hW0 hk
      go_enter Tryz.func26, Tryz.ntmps26
      go_wp2_with fail
      refine Htot.out.mono ?_
      rintro _ w1 ⟨rfl, hb1⟩
      go_wp2_with fail
      refine (Hsum.out w1 (h.below (hb1.mono hB)) (Nat.le_trans hB hb1.size)).mono ?_
      rintro _ w2 ⟨rfl, hb2⟩
      have hb02 := bstep hb1 hb2
      obtain ⟨hx0, hx1⟩ := Hcs.out w2 hb02
      generalize hqq : x / gsum l = qd at *
      generalize hrr : x % gsum l = rm at *
      generalize gsum l = S at *
      have hqb : qd ≤ 9223372036854775807 := by omega
      have hb3 := bstep hb02 (balloc w2 (.cells #[.int .u64 (cut : Int), .int .u32 (oth : Int)] 106))
      have Hb3 := Lib.hid hb3
      clear hb3 hqq hrr
      by_cases hc : rm < cut
      · have hp := Lib.hid ((Hpa.out).trans (if_pos hc))
        have hd : decide (rm < cut) = true := decide_eq_true hc
        clear hc
        go_wp2_with fail
        go_quiet (fail)
        go_wp2_with fail
        go_ret2
        rw [hp.out]
        exact ⟨rfl, bdrewN Hb3.out _⟩
      · have hp := Lib.hid ((Hpa.out).trans (if_neg hc))
        have hd : decide (rm < cut) = false := decide_eq_false hc
        clear hc
        by_cases ho : oth < l.length
        · have hp2 := Lib.hid ((hp.out).trans (if_pos ho))
          have hd2 : decide (oth < l.length) = true := decide_eq_true ho
          clear ho
          go_wp2_with fail
          go_quiet (fail)
          go_wp2_with fail
          go_ret2
          rw [hp2.out]
          exact ⟨rfl, bdrewN Hb3.out _⟩
        · have hp2 := Lib.hid ((hp.out).trans (if_neg ho))
          have hd2 : decide (oth < l.length) = false := decide_eq_false ho
          clear ho
          go_wp2_with fail
          go_quiet (fail)
          go_wp2_with fail
          go_ret2
          rw [hp2.out]
          exact ⟨rfl, bdrewN Hb3.out _⟩
    · have hpa := palias_no (l := l) (t := t) (x := x) (fun e => hxt e.2)
      have hge : decide (ptotal l ≤ x) = true := decide_eq_true (by omega)
      have Hpa := Lib.hid hpa
      clear hpa hxt hlt
      go_enter Tryz.func26, Tryz.ntmps26
      go_wp2_with fail
      refine Htot.out.mono ?_
      rintro _ w1 ⟨rfl, hb1⟩
      go_wp2_with fail
      go_ret2
      rw [Hpa.out]
      exact ⟨rfl, hb1⟩
  · have hle1 : ((l.length : Int) == (t.length : Int)) = false := beq_eq_false_iff_ne.2 (by omega)
    have hle2 : ((l.length : Int) != (t.length : Int)) = true := by simp; omega
    have hpa := palias_no (l := l) (t := t) (x := x) (fun e => hlt e.1)
    have Hpa := Lib.hid hpa
    clear hpa hlt
    go_enter Tryz.func26, Tryz.ntmps26
    go_wp2_with fail
    go_ret2
    rw [Hpa.out]
    exact ⟨rfl, Below.refl _ _⟩
end Go.Proofs.YtcffeepgfjpcaaaGreat

namespace Go.Proofs.YtcffeepgfjpcaaaGreat
set_option linter.unusedSimpArgs false
set_option linter.unusedVariables false
open Go.RowKit

theorem OwnC.new_ (w : World) (l : List GCell) (hm : l.length ≤ maxLen) :
    OwnF 106 cCell (w.alloc (.cells ((l.map fun a => [Value.int .u64 (a.cut.toNat : Int), .int .u32 (a.oth.toNat : Int)]).flatten.toArray) 106)) w.heap.size (.slice (some ⟨w.heap.size, 0, none⟩) l.length l.length) l :=
  OwnR.new_ w _ (by simp) hm (fun i cs x hc hx => by
    rw [List.getElem?_map, hx] at hc
    injection hc with hc
    exact ⟨hc.symm, trivial⟩) fun _ h => h.elim
theorem OwnF.byC {w : World} {base : Nat} {v : Value} {l : List GCell} (h : OwnF 106 cCell w base v l) : ByC w w.heap.size v l := h.row.mono (fun _ hk => hk.2) fun _ h => h.elim

end Go.Proofs.YtcffeepgfjpcaaaGreat

namespace Go.Proofs.YtcffeepgfjpcaaaGreat
set_option linter.unusedSimpArgs false
set_option linter.unusedVariables false
open Go.RowKit

def cellsOf : List GCell → List Value
  | [] => []
  | c :: r => .int .u64 (c.cut.toNat : Int) :: .int .u32 (c.oth.toNat : Int) :: cellsOf r
theorem cellsOf_len : ∀ l : List GCell, (cellsOf l).length = l.length * 2
  | [] => rfl
  | c :: r => by simp [cellsOf, cellsOf_len r]; omega
theorem cellsOf_flat : ∀ l : List GCell, cellsOf l = (l.map fun a => [Value.int .u64 (a.cut.toNat : Int), .int .u32 (a.oth.toNat : Int)]).flatten
  | [] => rfl
  | c :: r => by simp [cellsOf, cellsOf_flat r]
theorem cellsOf_set : ∀ (l : List GCell) (k : Nat) (c : GCell), k < l.length → ((cellsOf l).set (k * 2) (.int .u64 (c.cut.toNat : Int))).set (k * 2 + 1) (.int .u32 (c.oth.toNat : Int)) = cellsOf (l.set k c)
  | [], k, c, h => by simp at h
  | a :: r, 0, c, h => by simp [cellsOf]
  | a :: r, k + 1, c, h => by
    have ih := cellsOf_set r k c (by simpa using h)
    rw [show (k + 1) * 2 = k * 2 + 2 from by omega]
    simp only [cellsOf, List.set_cons_succ, ih]
/-- the box is a row of one's own -/
theorem BoxAt.ownC {w : World} {g base : Nat} {l : List GCell} (h : BoxAt 106 w g (cellsOf l)) (hb : base ≤ g) (hm : l.length ≤ maxLen) : OwnF 106 cCell w base (.slice (some ⟨g, 0, none⟩) l.length l.length) l := by
  refine ⟨l.map fun a => [Value.int .u64 (a.cut.toNat : Int), .int .u32 (a.oth.toNat : Int)], by simp, ⟨?_, .inr ⟨g, l.length, (cellsOf l).toArray, rfl, hb, h, Nat.le_refl _, hm, ?_, ?_⟩⟩, ?_, fun _ h => h.elim⟩
  · rw [← cellsOf_flat, cellsOf_len]; rfl
  · simp [cellsOf_len]; rfl
  · rw [← cellsOf_flat]
    exact List.take_of_length_le (by simp [cellsOf_len]; exact Nat.le_refl _)
  · intro i cs x hc hx
    rw [List.getElem?_map, hx] at hc
    injection hc with hc
    exact ⟨hc.symm, trivial⟩
theorem RwAt.ofOwn64 {w : World} {base : Nat} {v : Value} {xs : List UInt64} {ys : List Nat} (h : OwnF 23 c64 w base v xs) (hy : ys = xs.map fun x => x.toNat) : RwAt 23 .u64 w base v ys := by
  obtain ⟨css, hl, ⟨hlen, hv⟩, h3, _⟩ := h
  have hyl : ys.length = xs.length := by rw [hy]; simp
  rcases hv with ⟨rfl, hn⟩ | ⟨g, cap, cur, rfl, hb, hh, h1, h2, hs, ht⟩
  · refine ⟨none, 0, by rw [hyl, hn], by omega, Nat.zero_le _, fun q hq => (by cases hq), fun h => absurd h (by omega)⟩
  · refine ⟨_, cap, by rw [hyl], by omega, h2, fun q hq => ?_, fun _ => ⟨g, 0, cur.toList, rfl, hh, ?_, fun j x hx => ?_⟩⟩
    · injection hq with hq
      subst hq
      exact ⟨hb, (Array.getElem?_eq_some_iff.1 hh).1⟩
    · simp [hs]; show cap ≤ cap * 1; omega
    · rw [hy, List.getElem?_map] at hx
      obtain ⟨u, hu, rfl⟩ := Option.map_eq_some_iff.1 hx
      have hj : j < xs.length := (List.getElem?_eq_some_iff.1 hu).1
      obtain ⟨e, _⟩ := h3 j css[j] u (List.getElem?_eq_getElem (by omega)) hu
      have hcl := OwnR.clen hl h3
      have hf := flat_get c64.n css hcl j css[j] 0 (List.getElem?_eq_getElem (by omega)) (by decide)
      rw [e, show c64.n = 1 from rfl] at hf
      rw [← ht, show c64.n = 1 from rfl, List.getElem?_take] at hf
      split at hf
      · rw [Nat.zero_add]
        rw [show j * 1 + 0 = j from by omega] at hf
        exact hf
      · cases hf
theorem RwAt.ofOwnInt {w : World} {base : Nat} {v : Value} {xs : List Int} {ys : List Nat} (h : OwnF 3 cInt w base v xs) (hy : xs = ys.map fun (x : Nat) => (x : Int)) : RwAt 3 .i64 w base v ys := by
  obtain ⟨css, hl, ⟨hlen, hv⟩, h3, _⟩ := h
  have hyl : ys.length = xs.length := by rw [hy]; simp
  rcases hv with ⟨rfl, hn⟩ | ⟨g, cap, cur, rfl, hb, hh, h1, h2, hs, ht⟩
  · refine ⟨none, 0, by rw [hyl, hn], by omega, Nat.zero_le _, fun q hq => (by cases hq), fun h => absurd h (by omega)⟩
  · refine ⟨_, cap, by rw [hyl], by omega, h2, fun q hq => ?_, fun _ => ⟨g, 0, cur.toList, rfl, hh, ?_, fun j x hx => ?_⟩⟩
    · injection hq with hq
      subst hq
      exact ⟨hb, (Array.getElem?_eq_some_iff.1 hh).1⟩
    · simp [hs]; show cap ≤ cap * 1; omega
    · have hu : xs[j]? = some (x : Int) := by rw [hy, List.getElem?_map, hx]; rfl
      have hj : j < xs.length := (List.getElem?_eq_some_iff.1 hu).1
      obtain ⟨e, _⟩ := h3 j css[j] _ (List.getElem?_eq_getElem (by omega)) hu
      have hcl := OwnR.clen hl h3
      have hf := flat_get cInt.n css hcl j css[j] 0 (List.getElem?_eq_getElem (by omega)) (by decide)
      rw [e, show cInt.n = 1 from rfl] at hf
      rw [← ht, show cInt.n = 1 from rfl, List.getElem?_take] at hf
      split at hf
      · rw [Nat.zero_add]
        rw [show j * 1 + 0 = j from by omega] at hf
        exact hf
      · cases hf
theorem lefts_nat (l : List GArc) (hl : l.length ≤ 1048576) : (bst0 l).left = (lefts l l.length).map fun x => x.toNat := by
  show (List.range l.length).map (left0 l) = _
  unfold lefts
  rw [List.map_map]
  apply List.map_congr_left
  intro i hi
  have hi : i < l.length := by simpa using hi
  have h1 := u32_lt (l[i]).wt
  have : l.length * (l[i]).wt.toNat ≤ 1048576 * 4294967296 := Nat.mul_le_mul hl (by omega)
  have e : left0 l i = l.length * (l[i]).wt.toNat := by rw [left0, List.getElem?_eq_getElem hi]; rfl
  simp only [Function.comp]
  rw [UInt64.toNat_ofNat', e]
  omega
theorem poors_nat (l : List GArc) : poors l l.length = (poorL (gsum l) (bst0 l).left).map fun (x : Nat) => (x : Int) := by
  unfold poors poorL
  congr 1
  have hlen : (bst0 l).left.length = l.length := by simp [bst0]
  rw [hlen]
  apply List.filter_congr
  intro i hi
  have hi : i < l.length := by simpa using hi
  show decide (left0 l i < gsum l) = decide (((List.range l.length).map (left0 l)).getD i 0 < gsum l)
  rw [getD_lefts l i hi]
/-- the first cells, laid so far -/
def outK (W n k : Nat) : List GCell := (List.range n).map fun i => if i < k then mkC W i else ⟨0, 0⟩
theorem outK_len (W n k : Nat) : (outK W n k).length = n := by simp [outK]
theorem outK_set (W n k : Nat) (hk : k < n) : (outK W n k).set k (mkC W k) = outK W n (k + 1) := by
  apply List.ext_getElem?
  intro j
  rw [List.getElem?_set]
  unfold outK
  simp only [List.length_map, List.length_range, List.getElem?_map]
  by_cases hj : j < n
  · rw [List.getElem?_range hj]
    by_cases h1 : k = j
    · subst h1; simp [hk]
    · rw [if_neg h1]
      simp only [Option.map_some]
      by_cases h2 : j < k
      · rw [if_pos h2, if_pos (by omega)]
      · rw [if_neg h2, if_neg (by omega)]
  · rw [List.getElem?_eq_none (by simp; omega), if_neg (by omega)]
    rfl
theorem outK_all (W n : Nat) : outK W n n = (List.range n).map (mkC W) := by
  unfold outK
  apply List.map_congr_left
  intro i hi
  rw [if_pos (by simpa using hi)]
theorem infoCell : (Tryz.prog.info? 106).map (fun i => (i.zero, i.size, i.bytes)) = some (some (.agg #[.int .u64 0, .int .u32 0]), 2, 16) := by kernel_rfl
theorem cellsOf_get2 : ∀ (l : List GCell) (k : Nat) (c : GCell), l[k]? = some c → (cellsOf l)[k * 2]? = some (.int .u64 (c.cut.toNat : Int)) ∧ (cellsOf l)[k * 2 + 1]? = some (.int .u32 (c.oth.toNat : Int))
  | [], k, c, h => by simp at h
  | a :: r, 0, c, h => by simp at h; subst h; simp [cellsOf]
  | a :: r, k + 1, c, h => by
    have ih := cellsOf_get2 r k c (by simpa using h)
    rw [show (k + 1) * 2 = k * 2 + 2 from by omega]
    simp only [cellsOf, List.getElem?_cons_succ]
    exact ih
theorem madeC (n W : Nat) : madeCells (Value.cells (.agg #[.int .u64 0, .int .u32 0])) (n * 2) = (cellsOf (outK W n 0)).toArray := by
  apply Array.ext
  · simp [madeCells, Value.cells, cellsOf_len, outK_len]
  · intro i h1 h2
    have hi : i < n * 2 := by simpa [madeCells, Value.cells] using h1
    have hg := cellsOf_get2 (outK W n 0) (i / 2) ⟨0, 0⟩ (by
      unfold outK
      rw [List.getElem?_map, List.getElem?_range (by omega)]
      simp)
    have h3 : i < (cellsOf (outK W n 0)).length := by rw [cellsOf_len, outK_len]; exact hi
    rcases Nat.mod_two_eq_zero_or_one i with hm | hm
    · have e : i / 2 * 2 = i := by omega
      rw [e, List.getElem?_eq_getElem h3] at hg
      have := Option.some.inj hg.1
      simp [madeCells, Value.cells, this, hm]
    · have e : i / 2 * 2 + 1 = i := by omega
      rw [e, List.getElem?_eq_getElem h3] at hg
      have := Option.some.inj hg.2
      simp [madeCells, Value.cells, this, hm]
theorem makeC (n W : Nat) (hn : n ≤ 4294967296) : ∀ w : World, (Instr.makeSlice 56 (.int .i64 (n : Int)) (.int .i64 (n : Int))).run Tryz.prog w = .ok (.slice (some ⟨w.heap.size, 0, none⟩) n n) (w.alloc (.cells (cellsOf (outK W n 0)).toArray 106)) := fun w => by
  obtain ⟨i, hi, hz0, hz1, hz2⟩ := info_parts infoCell
  have hr := run_make (P := Tryz.prog) w 56 106 i (.agg #[.int .u64 0, .int .u32 0]) Tryz.underlying56 hi hz0 .i64 .i64 (n : Int) (n : Int) (by omega) (by omega) (by rw [hz2]; omega) (by omega)
  rw [Int.toNat_natCast, hz1, madeC n W] at hr
  exact hr
theorem BoxAt.putCell {w : World} {go : Nat} {out : List GCell} (h : BoxAt 106 w go (cellsOf out)) (k : Nat) (c : GCell) (hk : k < out.length) (a b : Int) (ha : a = (c.cut.toNat : Int)) (hb : b = (c.oth.toNat : Int)) :
    BoxAt 106 ((w.setCell ⟨go, k * 2, none⟩ (.int .u64 a)).setCell ⟨go, k * 2 + 1, none⟩ (.int .u32 b)) go (cellsOf (out.set k c)) := by
  subst ha; subst hb
  rw [← cellsOf_set out k c hk]
  exact (h.put _ _).put _ _
end Go.Proofs.YtcffeepgfjpcaaaGreat

namespace Go.Proofs.YtcffeepgfjpcaaaGreat
set_option linter.unusedSimpArgs false
set_option linter.unusedVariables false
open Go.RowKit

set_option maxRecDepth 100000 in
set_option maxHeartbeats 800000 in
theorem build_no (w : World) (B : Nat) (v : Value) (l : List GArc) (hl : l.length ≤ 4294967296) (h : ByA w B v l) (hB : B ≤ w.heap.size) (hn : nbrs l = false) :
    Calls Tryz.prog 21 #[v] w fun e w' => e = .returned (.tuple #[.slice none 0 0, .int .i64 3]) ∧ Below w.heap.size w w' := by
  obtain ⟨A, c, rfl, hc1, hc2⟩ := h.form
  unfold maxLen at hc2
  have hmay := gmay_any w B _ l hl h hB
  unfold nbrs at hn
  by_cases h0 : l.length = 0
  · have hd : (l.length == 0) = true := by simpa using h0
    have hd1 : ((l.length : Int) == 0) = true := by simp [h0]
    clear hmay h0
    go_enter Tryz.func21, Tryz.ntmps21
    go_wp2_with fail
    go_step3
    go_wp2_with fail
    rw [Exit.noGoto_ret]
    go_ret2
    exact ⟨rfl, Below.refl _ _⟩
  · have hgm : gmay l = false := by
      rw [decide_eq_true (by omega), Bool.true_and] at hn
      exact hn
    rw [hgm] at hmay
    have hd : (l.length == 0) = false := beq_eq_false_iff_ne.2 (by omega)
    have hd1 : ((l.length : Int) == 0) = false := beq_eq_false_iff_ne.2 (by omega)
    have Hmay := Lib.hid hmay
    clear hmay h0
    go_enter Tryz.func21, Tryz.ntmps21
    go_wp2_with fail
    go_step3
    go_wp2_with fail
    refine Hmay.out.mono ?_
    rintro _ w1 ⟨rfl, hb1⟩
    go_wp2_with fail
    rw [Exit.noGoto_ret]
    go_ret2
    exact ⟨rfl, hb1⟩

set_option maxRecDepth 100000 in
set_option maxHeartbeats 3200000 in
theorem build_any (w : World) (B : Nat) (v : Value) (l : List GArc) (hl : l.length ≤ 1048576) (h : ByA w B v l) (hB : B ≤ w.heap.size) (hn : nbrs l = true) :
    Calls Tryz.prog 21 #[v] w fun e w' => ∃ vo, e = .returned (.tuple #[vo, .int .i64 0]) ∧ OwnF 106 cCell w' w.heap.size vo (btab l) ∧ Below w.heap.size w w' := by
  obtain ⟨A, c, rfl, hc1, hc2⟩ := h.form
  unfold maxLen at hc2
  unfold nbrs at hn
  rw [Bool.and_eq_true, decide_eq_true_eq] at hn
  obtain ⟨h0, hgm⟩ := hn
  have hsum := gmay_sum hgm
  have hmay := gmay_any w B _ l (by omega) h hB
  rw [hgm] at hmay
  have hbeg := fun W h hB => begin_any W B (.slice A l.length c) l hl h hB
  have hd : (l.length == 0) = false := beq_eq_false_iff_ne.2 (by omega)
  have hd1 : ((l.length : Int) == 0) = false := beq_eq_false_iff_ne.2 (by omega)
  have hmk := makeC l.length (gsum l) (by omega)
  have Hmay := Lib.hid hmay
  have Hbeg := Lib.hid hbeg
  have hinv := brun_inv l hl hsum
  have Hinv := Lib.hid hinv
  have hl64 := lefts_nat l hl
  have hpin := poors_nat l
  have Hl64 := Lib.hid hl64
  have Hpin := Lib.hid hpin
  have hat := btab_at l
  have Hat := Lib.hid hat
  have hoa := outK_all (gsum l) l.length
  have Hoa := Lib.hid hoa
  have hos := outK_set (gsum l) l.length
  have Hos := Lib.hid hos
  have H0 := Lib.hid h0
  clear hmay hbeg hinv hl64 hpin hgm hat hoa hos h0
  go_enter Tryz.func21, Tryz.ntmps21
  go_wp2_with fail
  go_step3
  go_wp2_with fail
  refine Hmay.out.mono ?_
  rintro _ w1 ⟨rfl, hb1⟩
  go_wp2_with fail
  refine (Hbeg.out w1 (h.below (hb1.mono hB)) (by have := hb1.size; omega)).mono ?_
  rintro _ w2 ⟨g, vl, vp, rfl, hg1, hbx, hol, hop, hap, hb2⟩
  have hb02 := bstep hb1 hb2
  have hs2 := hb02.size
  have hlt2 := hbx.lt
  have hgw : w.heap.size ≤ g := by have := hb1.size; omega
  have hrl := RwAt.ofOwn64 hol Hl64.out
  have hrp := RwAt.ofOwnInt hop Hpin.out
  have hgl : vl.ownBlock ≠ some g := fun e => by have := (hrl.blk _ e).1; omega
  have hgp : vp.ownBlock ≠ some g := fun e => by have := (hrp.blk _ e).1; omega
  have Hbx := Lib.hid hbx
  have Hrl := Lib.hid hrl
  have Hrp := Lib.hid hrp
  have Hb02 := Lib.hid hb02
  have Hap := Lib.hid hap
  clear hbx hol hop hap hb2 hb1 hrl hrp hb02 Hmay Hbeg
  go_wp2_with fail
  have hbc0 := BoxAt.new_ 106 w2 (cellsOf (outK (gsum l) l.length 0))
  have hbx3 := Hbx.out.alloc (.cells (cellsOf (outK (gsum l) l.length 0)).toArray 106)
  have hrl3 := Hrl.out.alloc_ (.cells (cellsOf (outK (gsum l) l.length 0)).toArray 106)
  have hrp3 := Hrp.out.alloc_ (.cells (cellsOf (outK (gsum l) l.length 0)).toArray 106)
  have hb3 := Hb02.out.trans ((balloc w2 (.cells (cellsOf (outK (gsum l) l.length 0)).toArray 106)).mono hs2)
  have hlo : vl.ownBlock ≠ some w2.heap.size := fun e => by have := (Hrl.out.blk _ e).2; omega
  have hpo : vp.ownBlock ≠ some w2.heap.size := fun e => by have := (Hrp.out.blk _ e).2; omega
  have hgo : g ≠ w2.heap.size := by omega
  have hz3 : (w2.alloc (.cells (cellsOf (outK (gsum l) l.length 0)).toArray 106)).heap.size = w2.heap.size + 1 := by simp
  clear hmk Hbx Hrl Hrp Hb02
  generalize w2.alloc (.cells (cellsOf (outK (gsum l) l.length 0)).toArray 106) = w3 at *
  generalize w2.heap.size = go at *
  have Hbc0 := Lib.hid hbc0
  have Hbx3 := Lib.hid hbx3
  have Hrl3 := Lib.hid hrl3
  have Hrp3 := Lib.hid hrp3
  have Hb3 := Lib.hid hb3
  clear hbc0 hbx3 hrl3 hrp3 hb3
  go_loopw [24] (fun i wr => ∃ k : Nat, k ≤ l.length ∧ i = .int .i64 k ∧ BoxAt 106 wr go (cellsOf (outK (gsum l) l.length k)) ∧ BoxAt 104 wr g [.int .u64 (gsum l : Nat), vl, vp, .int .i64 0] ∧ RwAt 23 .u64 wr (g + 1) vl (bst0 l).left ∧ RwAt 3 .i64 wr (g + 1) vp (poorL (gsum l) (bst0 l).left) ∧ Below w.heap.size w wr ∧ go < wr.heap.size) (fun i _ => l.length - (intOf i).toNat)
  case atStart => exact ⟨0, by omega, rfl, Hbc0.out, Hbx3.out, Hrl3.out, Hrp3.out, Hb3.out, by omega⟩
  case round =>
    obtain ⟨k, hk, rfl, hbc, hbx, hrl, hrp, hbl, hgz⟩ := hrel
    have Hbc := Lib.hid hbc
    have Hbx := Lib.hid hbx
    have Hrl := Lib.hid hrl
    have Hrp := Lib.hid hrp
    have Hbl := Lib.hid hbl
    by_cases hlt : k < l.length
    · have hy0 := hbx.cell 0 _ rfl
      have hgk : (outK (gsum l) l.length k)[k]? = some ⟨0, 0⟩ := by unfold outK; rw [List.getElem?_map, List.getElem?_range hlt]; simp
      obtain ⟨hq0, hq1⟩ := cellsOf_get2 _ k _ hgk
      have hx0 := hbc.cell _ _ hq0
      have hx1 := hbc.cell _ _ hq1
      have hf0 := hbc.frozen (k * 2)
      have hf1 := hbc.frozen (k * 2 + 1)
      have hwk : IntKind.u32.wrap (k : Int) = (k : Int) := by rw [IntKind.wrap_u32']; omega
      clear hbc hbx hrl hrp hbl hq0 hq1 hgk
      go_wp2_with fail
      go_roundw
      case rel => exact ⟨k + 1, by omega, by go_num, by rw [← Hos.out k hlt]; exact Hbc.out.putCell k (mkC (gsum l) k) (by rw [outK_len]; exact hlt) _ _ (by rw [mkC_cut _ _ (by omega)]) (by rw [mkC_oth _ _ (by omega)]), (Hbx.out.other _ _ (fun e => hgo e.symm)).other _ _ (fun e => hgo e.symm), (Hrl.out.set_ _ _ hlo).set_ _ _ hlo, (Hrp.out.set_ _ _ hpo).set_ _ _ hpo, (Hbl.out.setCell (p := ⟨go, k * 2, none⟩) (by show w.heap.size ≤ go; omega) _).setCell (p := ⟨go, k * 2 + 1, none⟩) (by show w.heap.size ≤ go; omega) _, by simp [World.setCell]; exact hgz⟩
      case measure => simp [intOf]; omega
    · obtain rfl : k = l.length := by omega
      clear hbc hbx hrl hrp hbl
      rw [Hoa.out] at Hbc
      go_wp2_with fail
      go_step3
      go_wp2_with fail
      go_loopg [] l.length (fun gh wr => ∃ (k : Nat) (vp : Value) (rich : Nat), bad (gsum l) (brun (gsum l) k (bst0 l)).left ≤ gh ∧ k + bad (gsum l) (brun (gsum l) k (bst0 l)).left ≤ l.length ∧ BoxAt 104 wr g [.int .u64 (gsum l : Nat), vl, vp, .int .i64 (rich : Int)] ∧
        RwAt 23 .u64 wr (g + 1) vl (brun (gsum l) k (bst0 l)).left ∧ RwAt 3 .i64 wr (g + 1) vp (poorL (gsum l) (brun (gsum l) k (bst0 l)).left) ∧ Apart vl vp ∧ vp.ownBlock ≠ some g ∧ vp.ownBlock ≠ some go ∧
        BoxAt 106 wr go (cellsOf (brun (gsum l) k (bst0 l)).out) ∧ (∀ q, q < rich → (brun (gsum l) k (bst0 l)).left.getD q 0 ≤ gsum l) ∧ Below w.heap.size w wr ∧ go < wr.heap.size)
      case atStart =>
        have hb0 := bad_le (gsum l) (bst0 l).left
        have hb1 : (bst0 l).left.length = l.length := by simp [bst0]
        exact ⟨0, vp, 0, by show bad _ (bst0 l).left ≤ _; omega, by show 0 + bad _ (bst0 l).left ≤ _; omega, Hbx.out, Hrl.out, Hrp.out, Hap.out, hgp, hpo, Hbc.out, fun q hq => by omega, Hbl.out, hgz⟩
      case round =>
        clear Hbc Hbx Hrl Hrp Hbl hgz hgp hpo Hap
        obtain ⟨k, vp, rich, hgh, hkb, hbx, hrl, hrp, hap, hgp, hpo, hbc, hrk, hbl, hgz⟩ := hrel
        have hI := Hinv.out k
        rcases hI.turn with ⟨hp0, hst⟩ | ⟨i, j, r, hp, hi, hj, hiW, hjW, hst, hjk⟩
        · rw [hp0] at hrp
          obtain ⟨Ap, cp, rfl, hcp1, hcp2⟩ := hrp.form
          have hy2 := hbx.cell 2 _ rfl
          have hout := Hat.out k (by omega) hst
          rw [hout] at hbc
          have hol := hI.ol
          rw [hout] at hol
          have hown := hbc.ownC (base := w.heap.size) (by omega) (by rw [hol]; unfold maxLen; omega)
          rw [hol] at hown
          have Hown := Lib.hid hown
          have Hbl := Lib.hid hbl
          clear hbx hrl hrp hap hgp hpo hbc hrk hbl hI hst hp0 hout hol hown hkb hgh
          go_wp2_with fail
          rw [Exit.noGoto_ret]
          go_ret2
          exact ⟨_, rfl, Hown.out, Hbl.out⟩
        · rw [hp] at hrp
          have hnx := brun_succ _ k _ _ hst
          have hpp := poor_pay (gsum l) _ i j r hp (by rw [hI.ll]; exact hj) hjW
          have hbp := bad_pay (gsum l) _ i j (by rw [hI.ll]; exact hi) (by rw [hI.ll]; exact hj) hiW hjW
          have hpg := fun q => pay_get (gsum l) (brun (gsum l) k (bst0 l)).left i j q (by rw [hI.ll]; exact hi) (by rw [hI.ll]; exact hj)
          have hrr := poorL_rise (gsum l) (brun (gsum l) k (bst0 l)).left
          rw [hp, List.pairwise_cons] at hrr
          have hpl := poorL_len (gsum l) (brun (gsum l) k (bst0 l)).left
          rw [hp, hI.ll, List.length_cons] at hpl
          have hmx := hI.mx j hj
          have hmi := hI.mx i hi
          have hll := hI.ll
          have hol := hI.ol
          obtain ⟨Ap, cp, rfl, hcp1, hcp2⟩ := hrp.form
          have hrich : rich ≤ j := by
            apply Nat.le_of_not_lt
            intro hx
            have := hrk j hx
            omega
          have hz1 : (((r.length + 1 : Nat) : Int) == 0) = false := beq_eq_false_iff_ne.2 (by omega)
          have hz2 : ((r.length + 1) == 0) = false := beq_eq_false_iff_ne.2 (by omega)
          have hnxt := nextR_any wr g (gsum l) (g + 1) vl _ rich i r hbx hrp
          have hy2 := hbx.cell 2 _ rfl
          rw [List.length_cons] at hy2
          have Hbx := Lib.hid hbx
          have Hrl := Lib.hid hrl
          have Hbc := Lib.hid hbc
          have Hbl := Lib.hid hbl
          have Hnx := Lib.hid hnx
          have Hpp := Lib.hid hpp
          have Hpg := Lib.hid hpg
          have Hrr := Lib.hid hrr.2
          have Hjk := Lib.hid hjk
          have Hnxt := Lib.hid hnxt
          have Hap := Lib.hid hap
          have Hgp := Lib.hid hgp
          have Hpo := Lib.hid hpo
          clear hbx hrl hbc hbl hnx hpp hpg hrr hjk hnxt hap hgp hpo hI hp hst hrk hrp
          generalize brun (gsum l) k (bst0 l) = s at *
          go_wp2_with fail
          refine Hnxt.out.mono ?_
          rintro _ w4 ⟨rfl, vp4, rfl, hrp4, ho4⟩
          have hgp4 : vp4.ownBlock ≠ some g := fun e => Hgp.out (by rw [← ho4]; exact e)
          have hpo4 : vp4.ownBlock ≠ some go := fun e => Hpo.out (by rw [← ho4]; exact e)
          have hap4 : Apart vl vp4 := fun q hq e => Hap.out q hq (by rw [← ho4]; exact e)
          have hbx4 := Hbx.out.put 2 vp4
          have hrl4 := Hrl.out.set_ ⟨g, 2, none⟩ vp4 hgl
          have hrp4' := hrp4.set_ ⟨g, 2, none⟩ vp4 hgp4
          have hbc4 := Hbc.out.other ⟨g, 2, none⟩ vp4 hgo
          have hbl4 := Hbl.out.setCell (p := ⟨g, 2, none⟩) hgw vp4
          have hgz4 : go < (wr.setCell ⟨g, 2, none⟩ vp4).heap.size := by simp [World.setCell]; exact hgz
          clear Hbx Hrl Hbc Hbl hrp4 ho4 Hnxt hy2 hgz Hap Hgp Hpo
          obtain ⟨Al, cl, rfl, hcl1, hcl2⟩ := hrl4.form
          obtain ⟨_, b, off, rfl, hb1, hb2, hxi, hxf⟩ := hrl4.at_ i (s.left.getD i 0) (by rw [getD_get _ _ (by omega)]; exact List.getElem?_eq_getElem _)
          have hy1 := hbx4.cell 1 _ rfl
          have hP := give_any _ g (gsum l) (g + 1) l.length _ vp4 rich i j s.left r (fun q => q = g ∨ (Value.slice (some ⟨b, off, none⟩) s.left.length cl).ownBlock = some q ∨ vp4.ownBlock = some q) hbx4 hrl4 hrp4' hap4 hgl hgp4 (by omega) hll hl (by omega) hsum hi hj hiW hjW hmx hrich Hjk.out Hrr.out (Or.inl rfl) (fun q hq => Or.inr (Or.inl hq)) (fun q hq => Or.inr (Or.inr hq))
          have HP := Lib.hid hP
          have Hbc4 := Lib.hid hbc4
          have Hbl4 := Lib.hid hbl4
          have hblk4 := hrp4'.blk
          have hblkl := hrl4.blk
          have Hblk4 := Lib.hid hblk4
          have Hblkl := Lib.hid hblkl
          have Hgp4 := Lib.hid hgp4
          have Hpo4 := Lib.hid hpo4
          have Hap4 := Lib.hid hap4
          rw [hll] at hy1
          clear hP hbc4 hbl4 hbx4 hrl4 hrp4' hblk4 hblkl hgp4 hpo4 hap4
          have hiin : i < s.left.length := by omega
          unfold maxLen at hcl2
          generalize wr.setCell ⟨g, 2, none⟩ vp4 = w4 at *
          generalize hLI : s.left.getD i 0 = li at *
          have HLI := Lib.hid hLI
          clear hLI
          go_wp2_with fail
          refine HP.out.mono ?_
          rintro _ w5 ⟨rfl, vp5, hbx5, hrl5, hrp5, ho5, hc5⟩
          have hnP : ¬ (go = g ∨ (Value.slice (some ⟨b, off, none⟩) s.left.length cl).ownBlock = some go ∨ vp4.ownBlock = some go) := by
            rintro (e | e | e)
            · exact hgo e.symm
            · exact hlo e
            · exact Hpo4.out e
          have hbc5 := Hbc4.out.chg hc5 hnP
          have hbl5 := Hbl4.out.trans (hc5.below (B := w.heap.size) (by have := Hbl4.out.size; omega) (by
            rintro q (e | e | e)
            · omega
            · have := (Hblkl.out q e).1; omega
            · have := (Hblk4.out q e).1; omega))
          have hgz5 : go < w5.heap.size := Nat.lt_of_lt_of_le hgz4 hc5.size
          have hog5 : vp5.ownBlock ≠ some g := fun e => by
            rcases ho5 with h | ⟨q, h, h2⟩
            · exact Hgp4.out (by rw [← h]; exact e)
            · rw [h] at e; injection e with e; omega
          have hoo5 : vp5.ownBlock ≠ some go := fun e => by
            rcases ho5 with h | ⟨q, h, h2⟩
            · exact Hpo4.out (by rw [← h]; exact e)
            · rw [h] at e; injection e with e; omega
          have hap5 : Apart (Value.slice (some ⟨b, off, none⟩) s.left.length cl) vp5 := fun q hq e => by
            rcases ho5 with h | ⟨q', h, h2⟩
            · exact Hap4.out q hq (by rw [← h]; exact e)
            · rw [h] at e; injection e with e
              have := (Hblkl.out q hq).2
              omega
          have hgi : s.out[i]? = some s.out[i] := List.getElem?_eq_getElem (by omega)
          obtain ⟨hq0, hq1⟩ := cellsOf_get2 _ i _ hgi
          have hx0 := hbc5.cell _ _ hq0
          have hx1 := hbc5.cell _ _ hq1
          have hf0 := hbc5.frozen (i * 2)
          have hf1 := hbc5.frozen (i * 2 + 1)
          have hwk : IntKind.u32.wrap (j : Int) = (j : Int) := by rw [IntKind.wrap_u32']; omega
          generalize (s.out[i]).cut.toNat = oc at *
          generalize (s.out[i]).oth.toNat = oo at *
          have Hbx5 := Lib.hid hbx5
          have Hrl5 := Lib.hid hrl5
          have Hrp5 := Lib.hid hrp5
          have Hbc5 := Lib.hid hbc5
          have Hbl5 := Lib.hid hbl5
          have Hog5 := Lib.hid hog5
          have Hoo5 := Lib.hid hoo5
          have Hap5 := Lib.hid hap5
          clear hbx5 hrl5 hrp5 hbc5 hbl5 hog5 hoo5 hap5 ho5 hc5 hnP hq0 hq1 hgi Hbc4 Hbl4 Hblk4 Hblkl Hgp4 Hpo4 Hap4 HP hy1 hxi hxf
          go_wp2_with fail
          go_roundg (bad (gsum l) (pay (gsum l) s.left i j))
          case measure => omega
          case rel =>
            refine ⟨k + 1, vp5, j, ?_, ?_, ?_, ?_, ?_, Hap5.out, Hog5.out, Hoo5.out, ?_, ?_, ?_, ?_⟩
            · rw [Hnx.out]; exact Nat.le_refl _
            · rw [Hnx.out]; show k + 1 + bad _ (pay _ _ _ _) ≤ _; omega
            · exact (Hbx5.out.other ⟨go, i * 2, none⟩ _ (fun e => hgo e.symm)).other ⟨go, i * 2 + 1, none⟩ _ (fun e => hgo e.symm)
            · rw [Hnx.out]; exact (Hrl5.out.set_ ⟨go, i * 2, none⟩ _ hlo).set_ ⟨go, i * 2 + 1, none⟩ _ hlo
            · rw [Hnx.out]
              show RwAt _ _ _ _ _ (poorL (gsum l) (pay (gsum l) s.left i j))
              rw [Hpp.out]
              exact (Hrp5.out.set_ ⟨go, i * 2, none⟩ _ Hoo5.out).set_ ⟨go, i * 2 + 1, none⟩ _ Hoo5.out
            · rw [Hnx.out]
              have := Hbc5.out.putCell i (mkC li j) (by omega) _ _ (by rw [mkC_cut _ _ (by omega)]) (by rw [mkC_oth _ _ (by omega)])
              rw [← HLI.out] at this ⊢
              exact this
            · intro q hq
              rw [Hnx.out]
              show (pay (gsum l) s.left i j).getD q 0 ≤ _
              rw [Hpg.out]
              split
              · exact Nat.le_refl _
              · rw [if_neg (by omega)]
                exact Hjk.out q hq
            · exact (Hbl5.out.setCell (p := ⟨go, i * 2, none⟩) (by show w.heap.size ≤ go; omega) _).setCell (p := ⟨go, i * 2 + 1, none⟩) (by show w.heap.size ≤ go; omega) _
            · simp [World.setCell]; exact hgz5
end Go.Proofs.YtcffeepgfjpcaaaGreat

namespace Go.Proofs.YtcffeepgfjpcaaaGreat
set_option linter.unusedSimpArgs false
set_option linter.unusedVariables false
open Go.RowKit

end Go.Proofs.YtcffeepgfjpcaaaGreat

namespace Go.Proofs.YtcffeepgfjpcaaaGreat
set_option linter.unusedSimpArgs false
set_option linter.unusedVariables false
open Go.RowKit

/-- a row of cells of one's own, with spare room -/
def CRow (w : World) (base : Nat) (v : Value) (out : List GCell) : Prop :=
  ∃ g c sp, v = .slice (some ⟨g, 0, none⟩) out.length c ∧ base ≤ g ∧ out.length ≤ c ∧ c ≤ maxLen ∧ BoxAt 106 w g (cellsOf out ++ sp) ∧ (cellsOf out ++ sp).length = c * 2
theorem CRow.own {w : World} {base : Nat} {v : Value} {out : List GCell} (h : CRow w base v out) : OwnF 106 cCell w base v out := by
  obtain ⟨g, c, sp, rfl, h1, h2, h3, h4, h5⟩ := h
  refine ⟨out.map fun a => [Value.int .u64 (a.cut.toNat : Int), .int .u32 (a.oth.toNat : Int)], by simp, ⟨?_, .inr ⟨g, c, (cellsOf out ++ sp).toArray, rfl, h1, h4, h2, h3, ?_, ?_⟩⟩, ?_, fun _ h => h.elim⟩
  · rw [← cellsOf_flat, cellsOf_len]; rfl
  · rw [List.size_toArray, h5]; rfl
  · rw [← cellsOf_flat]
    show List.take (out.length * 2) (cellsOf out ++ sp) = cellsOf out
    rw [← cellsOf_len, List.take_left]
  · intro i cs x hc hx
    rw [List.getElem?_map, hx] at hc
    injection hc with hc
    exact ⟨hc.symm, trivial⟩
theorem CRow.blk {w : World} {base : Nat} {v : Value} {out : List GCell} (h : CRow w base v out) : ∃ g, v.ownBlock = some g ∧ base ≤ g ∧ g < w.heap.size := by
  obtain ⟨g, c, sp, rfl, h1, h2, h3, h4, h5⟩ := h
  exact ⟨g, rfl, h1, h4.lt⟩
theorem CRow.form {w : World} {base : Nat} {A : Option Addr} {n c : Nat} {out : List GCell} (h : CRow w base (.slice A n c) out) : ∃ g, A = some ⟨g, 0, none⟩ ∧ n = out.length ∧ out.length ≤ c ∧ c ≤ maxLen := by
  obtain ⟨g, c', sp, e, h1, h2, h3, h4, h5⟩ := h
  injection e with e1 e2 e3
  subst e3
  exact ⟨g, e1, e2, h2, h3⟩
theorem CRow.drew_ {w : World} {base : Nat} {v : Value} {out : List GCell} (h : CRow w base v out) : CRow w.drew base v out := h
theorem CRow.set_ {w : World} {base : Nat} {v : Value} {out : List GCell} (h : CRow w base v out) (p : Addr) (u : Value) (hne : v.ownBlock ≠ some p.block) : CRow (w.setCell p u) base v out := by
  obtain ⟨g, c, sp, rfl, h1, h2, h3, h4, h5⟩ := h
  exact ⟨g, c, sp, rfl, h1, h2, h3, h4.other p u (fun e => hne (by rw [e]; rfl)), h5⟩
theorem CRow.put {w : World} {base g n c : Nat} {out : List GCell} (h : CRow w base (.slice (some ⟨g, 0, none⟩) n c) out) (k : Nat) (x : GCell) (hk : k < out.length) (a b : Int) (ha : a = (x.cut.toNat : Int)) (hb : b = (x.oth.toNat : Int)) :
    CRow ((w.setCell ⟨g, k * 2, none⟩ (.int .u64 a)).setCell ⟨g, k * 2 + 1, none⟩ (.int .u32 b)) base (.slice (some ⟨g, 0, none⟩) n c) (out.set k x) := by
  obtain ⟨g', c', sp, e, h1, h2, h3, h4, h5⟩ := h
  injection e with e1 e2 e3
  injection e1 with e1; injection e1 with e1 _ _
  subst e1; subst e2; subst e3; subst ha; subst hb
  have hb2 := (h4.put (k * 2) (.int .u64 (x.cut.toNat : Int))).put (k * 2 + 1) (.int .u32 (x.oth.toNat : Int))
  have hkl : k * 2 + 1 < (cellsOf out).length := by rw [cellsOf_len]; omega
  rw [List.set_append_left _ _ (by omega), List.set_append_left _ _ (by rw [List.length_set]; omega), cellsOf_set out k x hk] at hb2
  refine ⟨g, c, sp, by rw [List.length_set], h1, by rw [List.length_set]; exact h2, h3, hb2, ?_⟩
  rw [List.length_append, cellsOf_len, List.length_set, ← h5, List.length_append, cellsOf_len]
end Go.Proofs.YtcffeepgfjpcaaaGreat

namespace Go.Proofs.YtcffeepgfjpcaaaGreat
set_option linter.unusedSimpArgs false
set_option linter.unusedVariables false
open Go.RowKit

def lenOf : Value → Nat
  | .slice _ n _ => n
  | _ => 0

end Go.Proofs.YtcffeepgfjpcaaaGreat

namespace Go.Proofs.YtcffeepgfjpcaaaGreat
set_option linter.unusedSimpArgs false
set_option linter.unusedVariables false
open Go.RowKit

end Go.Proofs.YtcffeepgfjpcaaaGreat

namespace Go.Proofs.YtcffeepgfjpcaaaGreat
set_option linter.unusedSimpArgs false
set_option linter.unusedVariables false
open Go.RowKit

end Go.Proofs.YtcffeepgfjpcaaaGreat

namespace Go.Proofs.YtcffeepgfjpcaaaGreat
set_option linter.unusedSimpArgs false
set_option linter.unusedVariables false
open Go.RowKit

end Go.Proofs.YtcffeepgfjpcaaaGreat

namespace Go.Proofs.YtcffeepgfjpcaaaGreat
set_option linter.unusedSimpArgs false
set_option linter.unusedVariables false

def poly : UInt32 := 3988292384
/-- one bit -/
def stp (x : UInt32) : UInt32 := (x >>> 1) ^^^ (poly * (x &&& 1))
def stps : Nat → UInt32 → UInt32
  | 0, x => x
  | n + 1, x => stps n (stp x)
/-- the table -/
def tabN (i : Nat) : UInt32 := stps 8 (UInt32.ofNat i)
/-- one byte, by the table -/
def upd (x : UInt32) (c : UInt8) : UInt32 := tabN (x.toUInt8 ^^^ c).toNat ^^^ (x >>> 8)
def run (x : UInt32) (l : List UInt8) : UInt32 := l.foldl upd x
end Go.Proofs.YtcffeepgfjpcaaaGreat

namespace Go.Proofs.YtcffeepgfjpcaaaGreat
set_option linter.unusedSimpArgs false
set_option linter.unusedVariables false
open Go.RowKit

end Go.Proofs.YtcffeepgfjpcaaaGreat

namespace Go.Proofs.YtcffeepgfjpcaaaGreat
set_option linter.unusedSimpArgs false
set_option linter.unusedVariables false
open Go.RowKit

end Go.Proofs.YtcffeepgfjpcaaaGreat

namespace Go.Proofs.YtcffeepgfjpcaaaGreat
set_option linter.unusedSimpArgs false
set_option linter.unusedVariables false
open Go.RowKit

end Go.Proofs.YtcffeepgfjpcaaaGreat

namespace Go.Proofs.YtcffeepgfjpcaaaGreat
set_option linter.unusedSimpArgs false
set_option linter.unusedVariables false
open Go.RowKit

end Go.Proofs.YtcffeepgfjpcaaaGreat

namespace Go.Proofs.YtcffeepgfjpcaaaGreat
set_option linter.unusedSimpArgs false
set_option linter.unusedVariables false

/-! ### no state but 0 comes to 0 -/
end Go.Proofs.YtcffeepgfjpcaaaGreat

namespace Go.Proofs.YtcffeepgfjpcaaaGreat
set_option linter.unusedSimpArgs false
set_option linter.unusedVariables false

def zeros (n : Nat) : List UInt8 := List.replicate n 0
end Go.Proofs.YtcffeepgfjpcaaaGreat

namespace Go.Proofs.YtcffeepgfjpcaaaGreat
set_option linter.unusedSimpArgs false
set_option linter.unusedVariables false
open Go.RowKit

end Go.Proofs.YtcffeepgfjpcaaaGreat

namespace Go.Proofs.YtcffeepgfjpcaaaGreat
set_option linter.unusedSimpArgs false
set_option linter.unusedVariables false
open Go.RowKit

/-- a row: a vertex and its arcs -/
structure GRow where
  fr : UInt32
  arcs : List GArc
deriving DecidableEq
theorem nbrs_gmay {l : List GArc} (h : nbrs l = true) : gmay l = true ∧ 0 < l.length := by
  unfold nbrs at h
  rw [Bool.and_eq_true, decide_eq_true_eq] at h
  exact ⟨h.2, h.1⟩
theorem gmay_sum' {l : List GArc} (h : gmay l = true) : gsum l ≤ 2147483647 := by
  unfold gmay at h
  rw [Bool.and_eq_true, decide_eq_true_eq] at h
  exact h.2

/-! ### sizes -/
end Go.Proofs.YtcffeepgfjpcaaaGreat

namespace Go.Proofs.YtcffeepgfjpcaaaGreat
set_option linter.unusedSimpArgs false
set_option linter.unusedVariables false
open Go.RowKit

theorem OwnA.empty (W : World) (g base : Nat) (hg : W.heap.size = g) (hb : base ≤ g) : OwnF 48 cArc (W.alloc (.cells #[] 48)) base (.slice (some ⟨g, 0, none⟩) 0 0) [] := by
  subst hg
  exact (OwnA.new_ W [] (by simp)).more hb
end Go.Proofs.YtcffeepgfjpcaaaGreat

namespace Go.Proofs.YtcffeepgfjpcaaaGreat
set_option linter.unusedSimpArgs false
set_option linter.unusedVariables false
open Go.RowKit
end Go.Proofs.YtcffeepgfjpcaaaGreat

namespace Go.Proofs.YtcffeepgfjpcaaaGreat
set_option linter.unusedSimpArgs false
set_option linter.unusedVariables false
open Go.RowKit

theorem RowOn.keepO {α : Type} {C : Cdc α} (hC : ∀ w w' S cs x, C.at_ w S cs x → C.at_ w' S cs x) {w w' : World} {O S : Nat → Prop} {v : Value} {xs : List α} (h : RowOn C w O S v xs) (hO : ∀ p : Addr, O p.block → w'.cell? p = w.cell? p) : RowOn C w' O S v xs := by
  obtain ⟨A, c, h1, h2, h3, h4⟩ := h
  refine ⟨A, c, h1, h2, h3, fun hn => ?_⟩
  obtain ⟨ad, e, hb, hc⟩ := h4 hn
  refine ⟨ad, e, hb, fun i x hx => ?_⟩
  obtain ⟨cs, ha, hcs⟩ := hc i x hx
  exact ⟨cs, hC _ _ _ _ _ ha, fun j u hu => (hO _ (by rw [add_block]; exact hb)).trans (hcs j u hu)⟩
/-- a row -/
def cRow : Cdc GRow where
  n := 2
  at_ := fun w S cs x => ∃ v, cs = [.int .u32 (x.fr.toNat : Int), v] ∧ RowOn cArc w S (fun _ => True) v x.arcs
  len := fun h => by obtain ⟨v, rfl, _⟩ := h; rfl
  one := fun h => by obtain ⟨v, rfl, h⟩ := h; obtain ⟨A, c, rfl, _⟩ := h; intro u hu; simp at hu; rcases hu with rfl | rfl <;> rfl
  keep := fun h hk => by obtain ⟨v, e, h⟩ := h; exact ⟨v, e, h.keepO (fun _ _ _ _ _ h => h) hk⟩
  mono := fun h hk => by obtain ⟨v, e, h⟩ := h; exact ⟨v, e, h.mono hk (fun _ h => h)⟩
theorem infoRow : (Tryz.prog.info? 132).map (fun i => (i.zero, i.size, i.bytes)) = some (some (.agg #[.int .u32 0, .slice none 0 0]), 2, 32) := by kernel_rfl
theorem infoRow2 : (Tryz.prog.info? 132).map (·.size) = some 2 := by kernel_rfl
theorem InC.rows' {w : World} {cs : List Value} (h : InC w 74 cs) : ∃ v xs, cs = [v] ∧ RowOn cRow w (fun k => k < w.heap.size) (fun k => k < w.heap.size) v xs :=
  h.row (C := cRow) Tryz.underlying74 (by kernel_rfl) (by decide) fun cs hc => by
    obtain ⟨hl, hf⟩ := hc.fields Tryz.underlying132 (by kernel_rfl) (by kernel_rfl)
    obtain ⟨u0, h0, g0⟩ := hf 0 _ rfl
    obtain ⟨u1, h1, g1⟩ := hf 1 _ rfl
    obtain ⟨n0, e0, k0⟩ := InC.u32 (S := fun _ => True) Tryz.underlying24 g0
    obtain ⟨v1, xs, e1, k1⟩ := g1.arcs'
    simp at e0 e1
    subst e0; subst e1
    match cs, hl with
    | [c0, c1], _ =>
      injection h0 with h0
      injection h1 with h1
      subst h0; subst h1
      exact ⟨⟨n0, xs⟩, c1, rfl, k1.mono (fun _ h => h) (fun _ _ => trivial)⟩
/-- the value reads as these rows, all in blocks below B -/
abbrev ByRw (w : World) (B : Nat) (v : Value) (l : List GRow) : Prop := RowOn cRow w (fun k => k < B) (fun k => k < B) v l
theorem ByRw.below {w w' : World} {B : Nat} {v : Value} {l : List GRow} (h : ByRw w B v l) (hb : Below B w w') : ByRw w' B v l := h.keep (fun p hp => hb.cell hp) (fun p hp => hb.cell hp)
theorem ByRw.more {w : World} {B B' : Nat} {v : Value} {l : List GRow} (h : ByRw w B v l) (hB : B ≤ B') : ByRw w B' v l := h.mono (fun _ hk => by omega) fun _ hk => by omega
theorem ByRw.step {w w' : World} {v : Value} {l : List GRow} (h : ByRw w w.heap.size v l) (hb : Below w.heap.size w w') : ByRw w' w'.heap.size v l := (h.below hb).more hb.size
theorem InC.rows {w : World} {v : Value} (h : InC w 74 [v]) : ∃ l, ByRw w w.heap.size v l := by
  obtain ⟨v', xs, e, hr⟩ := h.rows'
  injection e with e
  subst e
  exact ⟨xs, hr⟩
theorem add1 (a : Addr) : a.add 1 = { block := a.block, off := a.off + 1 } := by simp [Addr.add]
/-- the cells of the k-th row -/
theorem ByRw.cells {w : World} {B : Nat} {A : Option Addr} {n c : Nat} {l : List GRow} (h : ByRw w B (.slice A n c) l) (k : Nat) (hk : k < l.length) :
    ∃ ad Aa ca, A = some ad ∧ ad.block < B ∧ w.cell? (ad.add (k * 2)) = some (.int .u32 ((l[k]).fr.toNat : Int)) ∧ w.cell? { block := (ad.add (k * 2)).block, off := (ad.add (k * 2)).off + 1 } = some (.slice Aa (l[k]).arcs.length ca) ∧
      ByA w B (.slice Aa (l[k]).arcs.length ca) (l[k]).arcs := by
  obtain ⟨ad, cs, e, hb, ⟨v, rfl, hv⟩, hc⟩ := h.at_ k l[k] (List.getElem?_eq_getElem hk)
  obtain ⟨Aa, ca, rfl, _, _⟩ := hv.form
  refine ⟨ad, Aa, ca, e, hb, hc 0 _ rfl, ?_, hv⟩
  have := hc 1 _ rfl
  rw [← add_add] at this
  rw [← add1]
  exact this
/-- the same, as what a load of the whole row brings -/
theorem ByRw.row {w : World} {B : Nat} {A : Option Addr} {n c : Nat} {l : List GRow} (h : ByRw w B (.slice A n c) l) (k : Nat) (hk : k < l.length) :
    ∃ ad Aa ca, A = some ad ∧ ad.block < B ∧ (∀ (j : Nat) (u : Value), ([.int .u32 ((l[k]).fr.toNat : Int), .slice Aa (l[k]).arcs.length ca] : List Value)[j]? = some u → w.cell? ((ad.add (k * 2)).add j) = some u) ∧
      ByA w B (.slice Aa (l[k]).arcs.length ca) (l[k]).arcs := by
  obtain ⟨ad, cs, e, hb, ⟨v, rfl, hv⟩, hc⟩ := h.at_ k l[k] (List.getElem?_eq_getElem hk)
  obtain ⟨Aa, ca, rfl, _, _⟩ := hv.form
  exact ⟨ad, Aa, ca, e, hb, fun j u hu => by rw [add_add]; exact hc j u hu, hv⟩

/-! ### copies -/
set_option maxHeartbeats 800000 in
theorem cloneA (w : World) (v : Value) (l : List GArc) (h : ByA w w.heap.size v l) (hsz : l.length ≤ 4294967296) :
    Calls Tryz.prog 41 #[v] w fun e w' => ∃ v', e = .returned v' ∧ OwnF 48 cArc w' w.heap.size v' l ∧ Below w.heap.size w w' := by
  have hn := eqnil 45 48 Tryz.underlying45
  have hby2 : RowOn cArc (w.alloc (.cells #[] 48)) (fun k => k < w.heap.size) (fun _ => False) v l := (h.below (balloc w _)).mono (fun _ h => h) (fun _ h => h) |> fun h => by
    obtain ⟨A, c, h1, h2, h3, h4⟩ := h
    exact ⟨A, c, h1, h2, h3, h4⟩
  obtain ⟨A, c, rfl, hc1, hc2⟩ := h.form
  unfold maxLen at hc2
  cases A with
  | none =>
    have h0 : l = [] := by
      cases l with
      | nil => rfl
      | cons a t =>
        obtain ⟨ad, _, e, _⟩ := h.at_ 0 a rfl
        cases e
    subst h0
    go_enter Tryz.func41, Tryz.ntmps41
    go_wp2
    go_ret
    exact ⟨_, rfl, OwnF.nil_ _ _, Below.refl _ _⟩
  | some ad =>
    go_enter Tryz.func41, Tryz.ntmps41
    go_wp2_with (first
      | (at_builtin
         refine wpList_appR rfl (.tmp 5) (.tmp 6) 45 rfl Tryz.underlying45 infoArc rfl (by decide) (by decide) (OwnA.empty w w.heap.size w.heap.size rfl (Nat.le_refl _)) hby2 rfl rfl (by simp; omega) (by simp) ?_
         intro v1 w1 hown1 hext1))
    go_ret
    exact ⟨_, rfl, by simpa using hown1, ((Below.refl _ _).alloc (Nat.le_refl _) _).trans (hext1.below (by simp) (by simp [Value.ownBlock]))⟩
theorem OwnC.empty (W : World) (g base : Nat) (hg : W.heap.size = g) (hb : base ≤ g) : OwnF 106 cCell (W.alloc (.cells #[] 106)) base (.slice (some ⟨g, 0, none⟩) 0 0) [] := by
  subst hg
  exact (OwnR.new_ (xs := ([] : List GCell)) (S := fun _ => False) W [] rfl (by simp) (fun i cs x h => by simp at h) (fun _ h => h.elim)).more hb
end Go.Proofs.YtcffeepgfjpcaaaGreat

namespace Go.Proofs.YtcffeepgfjpcaaaGreat
set_option linter.unusedSimpArgs false
set_option linter.unusedVariables false
open Go.RowKit

abbrev Bs := List UInt8
/-- a string, told by its bytes, in one cell -/
def cS : Cdc (List UInt8) := Cdc.map cStr bst
theorem infoS : (Tryz.prog.info? 9).map (fun i => (i.zero, i.size, i.bytes)) = some (some (.string ⟨#[]⟩), cS.n, 16) := by kernel_rfl
abbrev ByS (w : World) (B : Nat) (v : Value) (l : List (List UInt8)) : Prop := RowOn cS w (fun k => k < B) (fun _ => True) v l
theorem ByS.below {w w' : World} {B : Nat} {v : Value} {l : List (List UInt8)} (h : ByS w B v l) (hb : Below B w w') : ByS w' B v l := by
  obtain ⟨A, c, h1, h2, h3, h4⟩ := h
  refine ⟨A, c, h1, h2, h3, fun hn => ?_⟩
  obtain ⟨ad, e, hO, hc⟩ := h4 hn
  refine ⟨ad, e, hO, fun i x hx => ?_⟩
  obtain ⟨cs, ha, hcs⟩ := hc i x hx
  exact ⟨cs, ha, fun j u hu => (hb.cell (p := ad.add (i * cS.n + j)) (by rw [add_block]; exact hO)).trans (hcs j u hu)⟩
theorem ByS.cells {w : World} {B : Nat} {A : Option Addr} {n c : Nat} {l : List (List UInt8)} (h : ByS w B (.slice A n c) l) (k : Nat) (hk : k < l.length) : ∃ ad, A = some ad ∧ ad.block < B ∧ w.cell? (ad.add k) = some (.string (bst l[k])) := by
  obtain ⟨ad, cs, e, hb, ⟨rfl, _⟩, hc⟩ := h.at_ k l[k] (List.getElem?_eq_getElem hk)
  have := hc 0 _ rfl
  simp only [cS, Cdc.map, cStr, Cdc.flat, Nat.mul_one, Nat.add_zero] at this
  exact ⟨ad, e, hb, this⟩
theorem OwnS.empty (W : World) (g base : Nat) (hg : W.heap.size = g) (hb : base ≤ g) : OwnF 9 cS (W.alloc (.cells #[] 9)) base (.slice (some ⟨g, 0, none⟩) 0 0) [] := by
  subst hg
  exact (OwnR.new_ (xs := ([] : List (List UInt8))) (S := fun _ => False) W [] rfl (by simp) (fun i cs x h => by simp at h) (fun _ h => h.elim)).more hb
theorem OwnB.empty (W : World) (g base : Nat) (hg : W.heap.size = g) (hb : base ≤ g) : OwnF 5 c8 (W.alloc (.cells #[] 5)) base (.slice (some ⟨g, 0, none⟩) 0 0) [] := by
  subst hg
  exact (OwnR.new_ (xs := ([] : List UInt8)) (S := fun _ => False) W [] rfl (by simp) (fun i cs x h => by simp at h) (fun _ h => h.elim)).more hb
theorem info8c : (Tryz.prog.info? 5).map (fun i => (i.zero, i.size, i.bytes)) = some (some (.int .u8 0), c8.n, 1) := by kernel_rfl
theorem bst_size (l : List UInt8) : (bst l).size = l.length := by
  show (bst l).data.size = _
  rw [← Array.length_toList]
  simp [bst]
theorem OwnF.byB {w : World} {base : Nat} {v : Value} {l : List UInt8} (h : OwnF 5 c8 w base v l) : By w w.heap.size v l := RowOn.toBy (h.rowLt)
/-- one byte more: (the lines, the line that isn't over) -/
def lineStep (s : List (List UInt8) × List UInt8) (c : UInt8) : List (List UInt8) × List UInt8 := if c = 10 then (s.1 ++ [s.2], []) else (s.1, s.2 ++ [c])
def lastOn (s : List (List UInt8) × List UInt8) : List (List UInt8) := if 0 < s.2.length then s.1 ++ [s.2] else s.1
def linesP (b : List UInt8) : List (List UInt8) := lastOn (b.foldl lineStep ([], []))
def wordStep (s : List (List UInt8) × List UInt8) (c : UInt8) : List (List UInt8) × List UInt8 := if c ≠ 32 ∧ c ≠ 9 then (s.1, s.2 ++ [c]) else (lastOn s, [])
def wordsP (b : List UInt8) : List (List UInt8) := lastOn (b.foldl wordStep ([], []))
theorem take_foldl {α : Type} (f : α → UInt8 → α) (s : α) (l : List UInt8) (k : Nat) (hk : k < l.length) : (l.take (k + 1)).foldl f s = f ((l.take k).foldl f s) l[k] := by
  rw [List.take_succ_eq_append_getElem hk, List.foldl_append]
  rfl
theorem lineStep_len : ∀ (b : List UInt8), (b.foldl lineStep ([], [])).1.length + (b.foldl lineStep ([], [])).2.length ≤ b.length := by
  have key : ∀ (b : List UInt8) (s : List (List UInt8) × List UInt8), (b.foldl lineStep s).1.length + (b.foldl lineStep s).2.length ≤ s.1.length + s.2.length + b.length := by
    intro b
    induction b with
    | nil => intro s; simp
    | cons c t ih =>
      intro s
      have := ih (lineStep s c)
      rw [List.foldl_cons, List.length_cons]
      have h2 : (lineStep s c).1.length + (lineStep s c).2.length ≤ s.1.length + s.2.length + 1 := by
        unfold lineStep
        split <;> simp <;> omega
      omega
  intro b
  simpa using key b ([], [])
theorem wordStep_len : ∀ (b : List UInt8), (b.foldl wordStep ([], [])).1.length + (b.foldl wordStep ([], [])).2.length ≤ b.length := by
  have key : ∀ (b : List UInt8) (s : List (List UInt8) × List UInt8), (b.foldl wordStep s).1.length + (b.foldl wordStep s).2.length ≤ s.1.length + s.2.length + b.length := by
    intro b
    induction b with
    | nil => intro s; simp
    | cons c t ih =>
      intro s
      have := ih (wordStep s c)
      rw [List.foldl_cons, List.length_cons]
      have h2 : (wordStep s c).1.length + (wordStep s c).2.length ≤ s.1.length + s.2.length + 1 := by
        unfold wordStep lastOn
        split
        · simp; omega
        · split <;> simp <;> omega
      omega
  intro b
  simpa using key b ([], [])
theorem bst_get (l : List UInt8) (k : Nat) (hk : k < l.length) : (bst l)[k]? = some l[k] := by
  have h1 : k < (bst l).size := by rw [bst_size]; exact hk
  rw [getElem?_pos (bst l) k h1]
  congr 1
theorem idx_str (w : World) (l : List UInt8) (k : Nat) (hk : k < l.length) : (Instr.index 9 (.string (bst l)) (.int .i64 (k : Int))).run Tryz.prog w = .ok (.int .u8 ((l[k]).toNat : Int)) w := by
  have h := bst_get l k hk
  have hu : Tryz.prog.underlying 9 = some .string := Tryz.underlying9
  unfold Instr.index
  simp [go_sem, Sem.run_bind, run_underlying hu, h]
end Go.Proofs.YtcffeepgfjpcaaaGreat

namespace Go.Proofs.YtcffeepgfjpcaaaGreat
set_option linter.unusedVariables false
open Go.Shelf
def lays137_ren : Go.Shelf.Ren := ⟨fun | 137 => 118 | 217 => 130 | 266 => 136 | n => n, fun | 9 => 9 | 5 => 5 | 3 => 3 | n => n, fun | n => n⟩
theorem lays137 : Go.Proofs.Lays.n137 Tryz.prog lays137_ren := {
  mixed := by kernel_rfl
  f137 := Tryz.func118.trans (congrArg some (by kernel_rfl))
  f217 := Tryz.func130.trans (congrArg some (by kernel_rfl))
  f266 := Tryz.func136.trans (congrArg some (by kernel_rfl))
  t3 := Tryz.underlying3
  a3 := Tryz.isAgg3
  z3 := Tryz.sizeOf3
  v3 := Tryz.zeroValue3
  t5 := Tryz.underlying5
  a5 := Tryz.isAgg5
  z5 := Tryz.sizeOf5
  v5 := Tryz.zeroValue5
  t9 := Tryz.underlying9
  a9 := Tryz.isAgg9
  z9 := Tryz.sizeOf9
  v9 := Tryz.zeroValue9 }
open Go.RowKit in
/-- strings.IndexByte: "IndexByte returns the index of the first instance of c in s, or -1 if c is not present in s.": IT RETURNS 'Lib.indexByte s c'; the world is as it was. (LAID: no walk: one application.) -/
theorem strings_IndexByte (s : ByteArray) (c : Int) (w : World) :
    Calls Tryz.prog 118 #[.string s, .int .u8 c] w fun e w' => e = .returned (.int .i64 (Lib.indexByte s.data.toList c.toNat.toUInt8)) ∧ w' = w := Any.strings_IndexByte lays137 s c w
def lays264_ren : Go.Shelf.Ren := ⟨fun | 264 => 119 | n => n, fun | 53 => 23 | 46 => 124 | n => n, fun | n => n⟩
theorem lays264 : Go.Proofs.Lays.n264 Tryz.prog lays264_ren := {
  mixed := by kernel_rfl
  f264 := Tryz.func119.trans (congrArg some (by kernel_rfl))
  t46 := Tryz.underlying124
  a46 := Tryz.isAgg124
  z46 := Tryz.sizeOf124
  v46 := Tryz.zeroValue124
  t53 := Tryz.underlying23
  a53 := Tryz.isAgg23
  z53 := Tryz.sizeOf23
  v53 := Tryz.zeroValue23 }
open Go.RowKit Go.Lib in
theorem bits_Mul64 (x y : Nat) (hx : x < 18446744073709551616) (hy : y < 18446744073709551616) (w : World) :
    Calls Tryz.prog 119 #[.int .u64 x, .int .u64 y] w fun e w' => e = .returned (.tuple #[.int .u64 ((x * y / 18446744073709551616 : Nat) : Int), .int .u64 ((x * y % 18446744073709551616 : Nat) : Int)]) ∧ w' = w := Any.bits_Mul64 lays264 x y hx hy w
theorem add64_any (x y : Nat) (w : World) : (callFunc 120 #[.int .u64 (x : Int), .int .u64 (y : Int), .int .u64 0]).run Tryz.prog w =
    .ok (.value (.tuple #[.int .u64 (((x + y) % 18446744073709551616 : Nat) : Int), .int .u64 (((x + y) / 18446744073709551616 : Nat) : Int)])) w := by
  rw [run_callFunc_extern Tryz.func120 (by kernel_rfl) (by kernel_rfl) (by kernel_rfl) (e := add64Entry) (by kernel_rfl), show (Value.int .u64 0) = .int .u64 ((0 : Nat) : Int) from rfl, run_add64 x y ((0 : Nat) : Int) (by omega) (by omega) (by omega) (by omega)]
  simp only [Result.andThen]
  congr 5 <;> omega
end Go.Proofs.YtcffeepgfjpcaaaGreat

namespace Go.Proofs.YtcffeepgfjpcaaaGreat
set_option linter.unusedSimpArgs false
set_option linter.unusedVariables false
open Go.RowKit

def dig (c : UInt8) : Nat := c.toNat - 48
def isDig (c : UInt8) : Bool := decide (48 ≤ c.toNat) && decide (c.toNat ≤ 57)
def valD (l : List UInt8) : Nat := l.foldl (fun n c => 10 * n + dig c) 0
def allDig (l : List UInt8) : Bool := l.all isDig
/-- is a word no number's? -/
def badW (l : List UInt8) : Bool := decide (l.length = 0) || (decide (1 < l.length) && decide (l.getD 0 0 = 48))
/-- a word's number; the error's number -/
def numW (l : List UInt8) (most : Nat) : Nat × Int :=
  if badW l = true then (0, 3) else if allDig l = false then (0, 3) else if most < valD l then (0, 9) else (valD l, 0)
theorem valD_from (l : List UInt8) : ∀ n, l.foldl (fun n c => 10 * n + dig c) n = n * 10 ^ l.length + valD l := by
  induction l with
  | nil => intro n; simp [valD]
  | cons c t ih =>
    intro n
    have h2 : valD (c :: t) = dig c * 10 ^ t.length + valD t := by
      show t.foldl (fun n c => 10 * n + dig c) (10 * 0 + dig c) = _
      rw [ih, Nat.mul_zero, Nat.zero_add]
    rw [List.foldl_cons, ih, h2, List.length_cons, Nat.pow_succ]
    have h3 : 10 * n * 10 ^ t.length = n * (10 ^ t.length * 10) := by rw [Nat.mul_comm 10 n, Nat.mul_assoc, Nat.mul_comm 10 (10 ^ t.length)]
    rw [Nat.add_mul, h3]
    omega
theorem valD_cons (c : UInt8) (t : List UInt8) : valD (c :: t) = dig c * 10 ^ t.length + valD t := by
  have := valD_from t (dig c)
  unfold valD at *
  rw [List.foldl_cons, Nat.mul_zero, Nat.zero_add, this]
theorem valD_snoc (l : List UInt8) (c : UInt8) : valD (l ++ [c]) = 10 * valD l + dig c := by unfold valD; rw [List.foldl_append]; rfl
theorem dig_le {c : UInt8} (h : isDig c = true) : dig c ≤ 9 := by
  unfold isDig at h
  simp at h
  unfold dig
  omega
theorem valD_lt {l : List UInt8} (h : allDig l = true) : valD l < 10 ^ l.length := by
  induction l with
  | nil => simp [valD]
  | cons c t ih =>
    unfold allDig at h ih
    rw [List.all_cons, Bool.and_eq_true] at h
    have h1 := dig_le h.1
    have h2 := ih h.2
    rw [valD_cons, List.length_cons, Nat.pow_succ]
    have : dig c * 10 ^ t.length ≤ 9 * 10 ^ t.length := Nat.mul_le_mul h1 (Nat.le_refl _)
    omega
theorem valD_mono (l : List UInt8) (k : Nat) : valD (l.take k) ≤ valD l := by
  have h : valD l = valD (l.take k) * 10 ^ (l.drop k).length + valD (l.drop k) := by
    rw [← valD_from]
    unfold valD
    rw [← List.foldl_append, List.take_append_drop]
  rw [h]
  have : 1 ≤ 10 ^ (l.drop k).length := Nat.pos_of_ne_zero (by simp)
  calc valD (l.take k) = valD (l.take k) * 1 := by omega
    _ ≤ valD (l.take k) * 10 ^ (l.drop k).length := Nat.mul_le_mul (Nat.le_refl _) this
    _ ≤ _ := by omega
/-- a word that is a number's, of more than one digit, begins with another one than 0 -/
theorem valD_ge {l : List UInt8} (h : allDig l = true) (hb : badW l = false) (h2 : 2 ≤ l.length) : 10 ^ (l.length - 1) ≤ valD l := by
  cases l with
  | nil => simp at h2
  | cons c t =>
    unfold allDig at h
    rw [List.all_cons, Bool.and_eq_true] at h
    have hc : c ≠ 48 := by
      intro e
      subst e
      have h1 : decide (1 < (48 :: t).length) = true := decide_eq_true (by omega)
      unfold badW at hb
      rw [h1] at hb
      simp at hb
    have h3 : 1 ≤ dig c := by
      have h4 := h.1
      unfold isDig at h4
      simp at h4
      unfold dig
      have : c.toNat ≠ 48 := fun e => hc (UInt8.toNat_inj.1 e)
      omega
    rw [valD_cons, List.length_cons, Nat.add_sub_cancel]
    calc 10 ^ t.length = 1 * 10 ^ t.length := by omega
      _ ≤ dig c * 10 ^ t.length := Nat.mul_le_mul h3 (Nat.le_refl _)
      _ ≤ _ := by omega
/-- words of as many digits are ordered as their numbers -/
theorem less_val : ∀ (a b : List UInt8), a.length = b.length → allDig a = true → allDig b = true → Op.bytesLess a b = decide (valD a < valD b)
  | [], [], _, _, _ => by simp [Op.bytesLess, valD]
  | c :: s, d :: t, hl, ha, hb => by
    unfold allDig at ha hb
    rw [List.all_cons, Bool.and_eq_true] at ha hb
    have hl2 : s.length = t.length := by simpa using hl
    have ih := less_val s t hl2 ha.2 hb.2
    have h1 := valD_lt (l := s) ha.2
    have h2 := valD_lt (l := t) hb.2
    have hc := ha.1
    have hd := hb.1
    unfold isDig at hc hd
    simp at hc hd
    rw [valD_cons, valD_cons, ← hl2]
    rw [← hl2] at h2
    generalize 10 ^ s.length = p at *
    unfold Op.bytesLess
    by_cases he : c = d
    · subst he
      have e1 : (decide (c < c) : Bool) = false := by simp
      rw [e1]
      simp only [beq_self_eq_true, Bool.true_and, Bool.false_or]
      rw [ih]
      congr 1
      exact propext ⟨fun h => by omega, fun h => by omega⟩
    · have e2 : (c == d) = false := beq_eq_false_iff_ne.2 he
      have hne : c.toNat ≠ d.toNat := fun e => he (UInt8.toNat_inj.1 e)
      rw [e2, Bool.false_and, Bool.or_false]
      congr 1
      refine propext ⟨fun h => ?_, fun h => ?_⟩
      · have h5 : c.toNat < d.toNat := UInt8.lt_iff_toNat_lt.1 h
        have h6 : dig c + 1 ≤ dig d := by unfold dig; omega
        have h7 : (dig c + 1) * p ≤ dig d * p := Nat.mul_le_mul h6 (Nat.le_refl _)
        rw [Nat.add_mul] at h7
        omega
      · refine UInt8.lt_iff_toNat_lt.2 ?_
        rcases Nat.lt_or_ge c.toNat d.toNat with h5 | h5
        · exact h5
        · exfalso
          have h6 : dig d + 1 ≤ dig c := by unfold dig; omega
          have h7 : (dig d + 1) * p ≤ dig c * p := Nat.mul_le_mul h6 (Nat.le_refl _)
          rw [Nat.add_mul] at h7
          omega
end Go.Proofs.YtcffeepgfjpcaaaGreat

namespace Go.Proofs.YtcffeepgfjpcaaaGreat
set_option linter.unusedSimpArgs false
set_option linter.unusedVariables false
open Go.RowKit

theorem allDig_take {l : List UInt8} {k : Nat} (hk : k < l.length) : allDig (l.take (k + 1)) = (allDig (l.take k) && isDig l[k]) := by
  rw [List.take_succ_eq_append_getElem hk]
  unfold allDig
  rw [List.all_append]
  simp
theorem allDig_no {l : List UInt8} {k : Nat} (hk : k < l.length) (h : isDig l[k] = false) : allDig l = false := by
  unfold allDig
  rw [List.all_eq_false]
  exact ⟨l[k], List.getElem_mem hk, by rw [h]; decide⟩
theorem maxS_val : valD [49, 56, 52, 52, 54, 55, 52, 52, 48, 55, 51, 55, 48, 57, 53, 53, 49, 54, 49, 53] = 18446744073709551615 := by decide
/-- too many digits, or too great a number of twenty -/
theorem over_val {l : List UInt8} (h : allDig l = true) (hb : badW l = false) : (20 < l.length ∨ (l.length = 20 ∧ Op.bytesLess [49, 56, 52, 52, 54, 55, 52, 52, 48, 55, 51, 55, 48, 57, 53, 53, 49, 54, 49, 53] l = true)) ↔ 18446744073709551615 < valD l := by
  constructor
  · rintro (h1 | ⟨h1, h2⟩)
    · have := valD_ge h hb (by omega)
      have h3 : 10 ^ 20 ≤ 10 ^ (l.length - 1) := Nat.pow_le_pow_right (by omega) (by omega)
      have h4 : (10 : Nat) ^ 20 = 100000000000000000000 := by decide
      omega
    · rw [less_val _ _ (by rw [h1]; rfl) (by decide) h, maxS_val] at h2
      exact of_decide_eq_true h2
  · intro h1
    rcases Nat.lt_trichotomy l.length 20 with h2 | h2 | h2
    · have := valD_lt h
      have h3 : 10 ^ l.length ≤ 10 ^ 19 := Nat.pow_le_pow_right (by omega) (by omega)
      have h4 : (10 : Nat) ^ 19 = 10000000000000000000 := by decide
      omega
    · refine .inr ⟨h2, ?_⟩
      rw [less_val _ _ (by rw [h2]; rfl) (by decide) h, maxS_val]
      exact decide_eq_true h1
    · exact .inl h2
theorem gt_less : ∀ a b : List UInt8, (!Op.bytesLess a b && !(a == b)) = Op.bytesLess b a
  | [], [] => by simp [Op.bytesLess]
  | [], c :: t => by simp [Op.bytesLess]
  | c :: t, [] => by simp [Op.bytesLess]
  | c :: s, d :: t => by
    have ih := gt_less s t
    unfold Op.bytesLess
    by_cases he : c = d
    · subst he
      have e1 : (decide (c < c) : Bool) = false := by simp
      rw [e1]
      simp only [beq_self_eq_true, Bool.true_and, Bool.false_or, List.cons_beq_cons]
      exact ih
    · have e2 : (c == d) = false := beq_eq_false_iff_ne.2 he
      have e3 : (d == c) = false := beq_eq_false_iff_ne.2 fun e => he e.symm
      rw [e2, e3, List.cons_beq_cons, e2]
      simp only [Bool.false_and, Bool.or_false, Bool.not_false, Bool.and_true]
      have hne : c.toNat ≠ d.toNat := fun e => he (UInt8.toNat_inj.1 e)
      rw [← decide_not]
      congr 1
      refine propext ⟨fun h => ?_, fun h => ?_⟩
      · have : ¬ c.toNat < d.toNat := fun h2 => h (UInt8.lt_iff_toNat_lt.2 h2)
        exact UInt8.lt_iff_toNat_lt.2 (by omega)
      · intro h2
        have h3 := UInt8.lt_iff_toNat_lt.1 h
        have h4 := UInt8.lt_iff_toNat_lt.1 h2
        omega
theorem binOp_string_gtr (t : TypeId) (a b : ByteArray) : binOp .gtr t (.string a) (.string b) = pure (.bool (Op.bytesLess b.toList a.toList)) := by rw [← gt_less]; simp [binOp, Op.stringOp]
theorem run_string_gtr (t : TypeId) (a b : ByteArray) (W : World) : (binOp .gtr t (.string a) (.string b)).run Tryz.prog W = .ok (.bool (Op.bytesLess b.toList a.toList)) W := by rw [binOp_string_gtr]; rfl
set_option maxRecDepth 100000 in
set_option maxHeartbeats 3200000 in
theorem rnum11_any (w : World) (l : List UInt8) (hl : l.length ≤ 1048576) (most : Nat) (hm : most ≤ 18446744073709551615) :
    Calls Tryz.prog 67 #[.string (bst l), .int .u64 (most : Int)] w fun e w' => e = .returned (.tuple #[.int .u64 ((numW l most).1 : Int), .int .i64 (numW l most).2]) ∧ w' = w := by
  have hbz := bst_size l
  obtain ⟨r1, hr1⟩ : ∃ r1, r1 = (numW l most).1 := ⟨_, rfl⟩
  obtain ⟨r2, hr2⟩ : ∃ r2, r2 = (numW l most).2 := ⟨_, rfl⟩
  rw [← hr1, ← hr2]
  have Hr1 := Lib.hid hr1
  have Hr2 := Lib.hid hr2
  clear hr1 hr2
  have Hbad : Hid (badW l = true → r1 = 0 ∧ r2 = 3) := Lib.hid fun h => by rw [Hr1.out, Hr2.out]; unfold numW; rw [if_pos h]; exact ⟨rfl, rfl⟩
  rcases Nat.eq_zero_or_pos l.length with h0 | h0
  · obtain ⟨rfl, rfl⟩ := Hbad.out (by unfold badW; rw [decide_eq_true h0]; rfl)
    have hd : ((l.length : Int) == 0) = true := by rw [h0]; rfl
    clear h0
    go_enter Tryz.func67, Tryz.ntmps67
    go_wp2_with fail
    go_ret2
    exact ⟨rfl, rfl⟩
  have hd0 : ((l.length : Int) == 0) = false := beq_eq_false_iff_ne.2 (by omega)
  have hix0 : ∀ W, (Instr.index 9 (.string (bst l)) (.int .i64 0)).run Tryz.prog W = .ok (.int .u8 ((l[0]).toNat : Int)) W := fun W => idx_str W l 0 h0
  by_cases hb : badW l = true
  · obtain ⟨rfl, rfl⟩ := Hbad.out hb
    have hb2 : 1 < l.length ∧ l[0] = 48 := by
      unfold badW at hb
      rw [decide_eq_false (by omega : ¬ l.length = 0)] at hb
      simp [List.getD, h0] at hb
      exact hb
    have hd1 : decide ((1 : Int) < (l.length : Int)) = true := decide_eq_true (by omega)
    have hd2 : (((l[0]).toNat : Int) == 48) = true := by rw [hb2.2]; rfl
    clear hb hb2
    generalize (l[0]).toNat = c0 at *
    clear h0
    go_enter Tryz.func67, Tryz.ntmps67
    go_wp2_with fail
    go_ret2
    exact ⟨rfl, rfl⟩
  have hb' : badW l = false := by simpa using hb
  have Hb := Lib.hid hb'
  have hbl := bst_toList l
  have hgt := fun W => run_string_gtr 9 (bst l) ⟨#[49, 56, 52, 52, 54, 55, 52, 52, 48, 55, 51, 55, 48, 57, 53, 53, 49, 54, 49, 53]⟩ W
  rw [hbl] at hgt
  have hmx : (ByteArray.toList ⟨#[49, 56, 52, 52, 54, 55, 52, 52, 48, 55, 51, 55, 48, 57, 53, 53, 49, 54, 49, 53]⟩) = [49, 56, 52, 52, 54, 55, 52, 52, 48, 55, 51, 55, 48, 57, 53, 53, 49, 54, 49, 53] := bst_toList [49, 56, 52, 52, 54, 55, 52, 52, 48, 55, 51, 55, 48, 57, 53, 53, 49, 54, 49, 53]
  rw [hmx] at hgt
  -- the first test says no
  -- REST
  have Hbad2 : Hid (allDig l = false → r1 = 0 ∧ r2 = 3) := Lib.hid fun h => by rw [Hr1.out, Hr2.out]; unfold numW; rw [if_neg hb, if_pos h]; exact ⟨rfl, rfl⟩
  by_cases h3 : 1 < l.length
  · have hd1 : decide ((1 : Int) < (l.length : Int)) = true := decide_eq_true (by omega)
    have hd2 : (((l[0]).toNat : Int) == 48) = false := beq_eq_false_iff_ne.2 fun e => by
      have h4 : l[0] = 48 := UInt8.toNat_inj.1 (by have : ((l[0]).toNat : Int) = 48 := e; have h10 : (48 : UInt8).toNat = 48 := rfl; omega)
      have h5 : badW l = true := by unfold badW; rw [decide_eq_true h3]; simp [List.getD, h0, h4]
      rw [h5] at hb'
      cases hb'
    clear hb hb' h3 Hbad
    generalize (l[0]).toNat = c0 at *
    go_enter Tryz.func67, Tryz.ntmps67
    go_wp2_with fail
    go_loopw [6] (fun i wr => ∃ k : Nat, k ≤ l.length ∧ i = .int .i64 (k : Int) ∧ allDig (l.take k) = true ∧ wr = w) (fun i _ => l.length - (intOf i).toNat)
    case atStart => exact ⟨0, Nat.zero_le _, rfl, rfl, rfl⟩
    case round =>
      obtain ⟨k, hk, rfl, hal, hww⟩ := hrel
      obtain rfl := hww.symm
      have Hal := Lib.hid hal
      clear hal
      by_cases hlt : k < l.length
      · have hix := fun W => idx_str W l k hlt
        have htk := allDig_take hlt
        have hno := allDig_no hlt
        obtain ⟨ch, hch⟩ : ∃ ch, ch = l[k] := ⟨_, rfl⟩
        rw [← hch] at hix htk hno
        have Htk := Lib.hid htk
        have Hno := Lib.hid hno
        have hdk : decide ((k : Int) < (l.length : Int)) = true := decide_eq_true (by omega)
        clear hch htk hno
        have hdg : isDig ch = (decide (48 ≤ ch.toNat) && decide (ch.toNat ≤ 57)) := rfl
        by_cases h1 : ch.toNat < 48
        · have hd3 : decide ((ch.toNat : Int) < 48) = true := decide_eq_true (by omega)
          have hnd : isDig ch = false := by rw [hdg, decide_eq_false (by omega)]; rfl
          obtain ⟨rfl, rfl⟩ := Hbad2.out (Hno.out hnd)
          clear hdg h1 hnd
          go_wp2_with fail
          go_ret2
          exact ⟨rfl, rfl⟩
        · have hd3 : decide ((ch.toNat : Int) < 48) = false := decide_eq_false (by omega)
          by_cases h2 : 57 < ch.toNat
          · have hd4 : decide ((57 : Int) < (ch.toNat : Int)) = true := decide_eq_true (by omega)
            have hnd : isDig ch = false := by rw [hdg, decide_eq_false (by omega : ¬ ch.toNat ≤ 57), Bool.and_false]
            obtain ⟨rfl, rfl⟩ := Hbad2.out (Hno.out hnd)
            clear hdg h1 h2 hnd
            go_wp2_with fail
            go_ret2
            exact ⟨rfl, rfl⟩
          · have hd4 : decide ((57 : Int) < (ch.toNat : Int)) = false := decide_eq_false (by omega)
            have hnd : isDig ch = true := by rw [hdg, decide_eq_true (by omega), decide_eq_true (by omega)]; rfl
            have Hnd := Lib.hid hnd
            clear hdg h1 h2 hnd
            go_wp2_with fail
            go_roundw
            case rel => exact ⟨k + 1, by omega, by go_num, by rw [Htk.out, Hal.out, Hnd.out]; rfl, by first | rfl | trivial⟩
            case measure => simp [intOf]; omega
      · have e : k = l.length := by omega
        have hal : allDig l = true := by have := Hal.out; rw [e, List.take_length] at this; exact this
        have hdk : decide ((k : Int) < (l.length : Int)) = false := decide_eq_false (by omega)
        have hov := over_val hal Hb.out
        have hres : ¬ 18446744073709551615 < valD l → r1 = (if most < valD l then 0 else valD l) ∧ r2 = (if most < valD l then 9 else 0) := fun _ => by
          rw [Hr1.out, Hr2.out]
          unfold numW
          rw [if_neg (by rw [Hb.out]; decide), if_neg (by rw [hal]; decide)]
          split <;> exact ⟨rfl, rfl⟩
        have hbig : 18446744073709551615 < valD l → r1 = 0 ∧ r2 = 9 := fun h => by
          rw [Hr1.out, Hr2.out]
          unfold numW
          rw [if_neg (by rw [Hb.out]; decide), if_neg (by rw [hal]; decide), if_pos (by omega)]
          exact ⟨rfl, rfl⟩
        have Hov := Lib.hid hov
        have Hres := Lib.hid hres
        have Hbig := Lib.hid hbig
        have HAL := Lib.hid hal
        clear hov hres hbig hal Hal
        obtain ⟨bl, hblx⟩ : ∃ bl, bl = Op.bytesLess [49, 56, 52, 52, 54, 55, 52, 52, 48, 55, 51, 55, 48, 57, 53, 53, 49, 54, 49, 53] l := ⟨_, rfl⟩
        have hgl := gt_less l [49, 56, 52, 52, 54, 55, 52, 52, 48, 55, 51, 55, 48, 57, 53, 53, 49, 54, 49, 53]
        rw [← hblx] at hgl
        obtain ⟨x1, hx1⟩ : ∃ x1, Op.bytesLess l [49, 56, 52, 52, 54, 55, 52, 52, 48, 55, 51, 55, 48, 57, 53, 53, 49, 54, 49, 53] = x1 := ⟨_, rfl⟩
        obtain ⟨x2, hx2⟩ : ∃ x2, (l == [49, 56, 52, 52, 54, 55, 52, 52, 48, 55, 51, 55, 48, 57, 53, 53, 49, 54, 49, 53]) = x2 := ⟨_, rfl⟩
        rw [hx1, hx2] at hgl
        have Hblx := Lib.hid hblx
        have Hgl := Lib.hid hgl
        clear hblx hgl hgt
        by_cases h20 : 20 < l.length
        · have hd5 : decide ((20 : Int) < (l.length : Int)) = true := decide_eq_true (by omega)
          obtain ⟨rfl, rfl⟩ := Hbig.out (Hov.out.1 (.inl h20))
          clear h20 e
          go_wp2_with fail
          go_ret2
          exact ⟨rfl, rfl⟩
        have hd5 : decide ((20 : Int) < (l.length : Int)) = false := decide_eq_false (by omega)
        by_cases hbg : l.length = 20 ∧ bl = true
        · obtain ⟨h21, rfl⟩ := hbg
          obtain ⟨rfl, rfl⟩ : x1 = false ∧ x2 = false := by have := Hgl.out; cases x1 <;> cases x2 <;> simp_all
          have hd6 : ((l.length : Int) == 20) = true := by rw [h21]; rfl
          obtain ⟨rfl, rfl⟩ := Hbig.out (Hov.out.1 (.inr ⟨h21, Hblx.out.symm⟩))
          clear h20 e h21
          go_wp2_with fail
          go_ret2
          exact ⟨rfl, rfl⟩
        have hnb : ¬ 18446744073709551615 < valD l := fun h => by
          rcases Hov.out.2 h with h | ⟨h, h2⟩
          · omega
          · exact hbg ⟨h, by rw [Hblx.out]; exact h2⟩
        obtain ⟨g1, g2⟩ := Hres.out hnb
        have G1 := Lib.hid g1
        have G2 := Lib.hid g2
        have Hnb := Lib.hid hnb
        clear g1 g2 hnb Hres Hbig Hov
        by_cases h21 : l.length = 20
        · have hbf : bl = false := by
            cases bl with
            | false => rfl
            | true => exact absurd (And.intro h21 (by first | rfl | trivial)) hbg
          subst hbf
          have hd6 : ((l.length : Int) == 20) = true := by rw [h21]; rfl
          have H21 := Lib.hid h21
          clear h20 hbg h21 e
          have hxx : x1 = true ∨ (x1 = false ∧ x2 = true) := by
            have h := Hgl.out
            revert h
            cases x1 <;> cases x2 <;> simp
          rcases hxx with rfl | ⟨rfl, rfl⟩
          · skip
            go_wp2_with fail
            go_loopw [7, 8] (fun x i wr => ∃ k : Nat, k ≤ l.length ∧ x = .int .u64 ((valD (l.take k) : Nat) : Int) ∧ i = .int .i64 (k : Int) ∧ wr = w) (fun _ i _ => l.length - (intOf i).toNat)
            case atStart => exact ⟨0, Nat.zero_le _, rfl, rfl, rfl⟩
            case round =>
              obtain ⟨k, hk, rfl, rfl, hww⟩ := hrel
              obtain rfl := hww.symm
              by_cases hlt : k < l.length
              · have hix := fun W => idx_str W l k hlt
                have hv1 := valD_mono l (k + 1)
                have hsn : valD (l.take (k + 1)) = 10 * valD (l.take k) + dig l[k] := by rw [List.take_succ_eq_append_getElem hlt, valD_snoc]
                have hdg : isDig l[k] = true := by
                  have := HAL.out
                  unfold allDig at this
                  exact List.all_eq_true.1 this _ (List.getElem_mem hlt)
                have hd9 := dig_le hdg
                have hsub : dig l[k] = (l[k]).toNat - 48 := rfl
                have h48 : 48 ≤ (l[k]).toNat ∧ (l[k]).toNat ≤ 57 := by unfold isDig at hdg; simpa using hdg
                have hnb := Hnb.out
                obtain ⟨ch, hch⟩ : ∃ ch, ch = l[k] := ⟨_, rfl⟩
                rw [← hch] at hix hsn hd9 hsub h48
                have Hsn := Lib.hid hsn
                have w1 : IntKind.u8.wrap ((ch.toNat : Int) - 48) = ((dig ch : Nat) : Int) := by rw [hsub]; simp [IntKind.wrap, IntKind.bits, IntKind.signed]; omega
                have w0 : IntKind.u64.wrap ((dig ch : Nat) : Int) = ((dig ch : Nat) : Int) := by rw [wrap_u64]; omega
                have w2 : IntKind.u64.wrap (10 * ((valD (l.take k) : Nat) : Int)) = 10 * ((valD (l.take k) : Nat) : Int) := by rw [wrap_u64]; omega
                have w3 : IntKind.u64.wrap (10 * ((valD (l.take k) : Nat) : Int) + ((dig ch : Nat) : Int)) = 10 * ((valD (l.take k) : Nat) : Int) + ((dig ch : Nat) : Int) := by rw [wrap_u64]; omega
                have hdk2 : decide ((k : Int) < (l.length : Int)) = true := decide_eq_true (by omega)
                clear hch hsn hv1 hdg hsub hnb h48 hd9
                generalize hdc : dig ch = dc at *
                have Hdc := Lib.hid hdc
                clear hdc
                generalize hva : valD (l.take k) = va at *
                have Hva := Lib.hid hva
                clear hva
                go_wp2_with fail
                go_roundw
                case rel => exact ⟨k + 1, by omega, by rw [Hsn.out]; first | rfl | (congr 1; omega), by go_num, by first | rfl | trivial⟩
                case measure => simp [intOf]; omega
              · have e2 : k = l.length := by omega
                have hte : l.take k = l := by rw [e2, List.take_length]
                rw [hte]
                have hdk2 : decide ((k : Int) < (l.length : Int)) = false := decide_eq_false (by omega)
                clear e2 hte
                generalize hva : valD l = va at *
                have Hva := Lib.hid hva
                clear hva
                by_cases hmv : most < va
                · have hd7 : decide (most < va) = true := decide_eq_true (by omega)
                  obtain rfl : r1 = 0 := by rw [G1.out, if_pos hmv]
                  obtain rfl : r2 = 9 := by rw [G2.out, if_pos hmv]
                  clear hmv
                  go_wp2_with fail
                  go_ret2
                  exact ⟨rfl, rfl⟩
                · have hd7 : decide (most < va) = false := decide_eq_false (by omega)
                  obtain rfl : r1 = va := by rw [G1.out, if_neg hmv]
                  obtain rfl : r2 = 0 := by rw [G2.out, if_neg hmv]
                  clear hmv
                  go_wp2_with fail
                  go_ret2
                  exact ⟨rfl, rfl⟩
          · skip
            go_wp2_with fail
            go_loopw [7, 8] (fun x i wr => ∃ k : Nat, k ≤ l.length ∧ x = .int .u64 ((valD (l.take k) : Nat) : Int) ∧ i = .int .i64 (k : Int) ∧ wr = w) (fun _ i _ => l.length - (intOf i).toNat)
            case atStart => exact ⟨0, Nat.zero_le _, rfl, rfl, rfl⟩
            case round =>
              obtain ⟨k, hk, rfl, rfl, hww⟩ := hrel
              obtain rfl := hww.symm
              by_cases hlt : k < l.length
              · have hix := fun W => idx_str W l k hlt
                have hv1 := valD_mono l (k + 1)
                have hsn : valD (l.take (k + 1)) = 10 * valD (l.take k) + dig l[k] := by rw [List.take_succ_eq_append_getElem hlt, valD_snoc]
                have hdg : isDig l[k] = true := by
                  have := HAL.out
                  unfold allDig at this
                  exact List.all_eq_true.1 this _ (List.getElem_mem hlt)
                have hd9 := dig_le hdg
                have hsub : dig l[k] = (l[k]).toNat - 48 := rfl
                have h48 : 48 ≤ (l[k]).toNat ∧ (l[k]).toNat ≤ 57 := by unfold isDig at hdg; simpa using hdg
                have hnb := Hnb.out
                obtain ⟨ch, hch⟩ : ∃ ch, ch = l[k] := ⟨_, rfl⟩
                rw [← hch] at hix hsn hd9 hsub h48
                have Hsn := Lib.hid hsn
                have w1 : IntKind.u8.wrap ((ch.toNat : Int) - 48) = ((dig ch : Nat) : Int) := by rw [hsub]; simp [IntKind.wrap, IntKind.bits, IntKind.signed]; omega
                have w0 : IntKind.u64.wrap ((dig ch : Nat) : Int) = ((dig ch : Nat) : Int) := by rw [wrap_u64]; omega
                have w2 : IntKind.u64.wrap (10 * ((valD (l.take k) : Nat) : Int)) = 10 * ((valD (l.take k) : Nat) : Int) := by rw [wrap_u64]; omega
                have w3 : IntKind.u64.wrap (10 * ((valD (l.take k) : Nat) : Int) + ((dig ch : Nat) : Int)) = 10 * ((valD (l.take k) : Nat) : Int) + ((dig ch : Nat) : Int) := by rw [wrap_u64]; omega
                have hdk2 : decide ((k : Int) < (l.length : Int)) = true := decide_eq_true (by omega)
                clear hch hsn hv1 hdg hsub hnb h48 hd9
                generalize hdc : dig ch = dc at *
                have Hdc := Lib.hid hdc
                clear hdc
                generalize hva : valD (l.take k) = va at *
                have Hva := Lib.hid hva
                clear hva
                go_wp2_with fail
                go_roundw
                case rel => exact ⟨k + 1, by omega, by rw [Hsn.out]; first | rfl | (congr 1; omega), by go_num, by first | rfl | trivial⟩
                case measure => simp [intOf]; omega
              · have e2 : k = l.length := by omega
                have hte : l.take k = l := by rw [e2, List.take_length]
                rw [hte]
                have hdk2 : decide ((k : Int) < (l.length : Int)) = false := decide_eq_false (by omega)
                clear e2 hte
                generalize hva : valD l = va at *
                have Hva := Lib.hid hva
                clear hva
                by_cases hmv : most < va
                · have hd7 : decide (most < va) = true := decide_eq_true (by omega)
                  obtain rfl : r1 = 0 := by rw [G1.out, if_pos hmv]
                  obtain rfl : r2 = 9 := by rw [G2.out, if_pos hmv]
                  clear hmv
                  go_wp2_with fail
                  go_ret2
                  exact ⟨rfl, rfl⟩
                · have hd7 : decide (most < va) = false := decide_eq_false (by omega)
                  obtain rfl : r1 = va := by rw [G1.out, if_neg hmv]
                  obtain rfl : r2 = 0 := by rw [G2.out, if_neg hmv]
                  clear hmv
                  go_wp2_with fail
                  go_ret2
                  exact ⟨rfl, rfl⟩
        · have hd6 : ((l.length : Int) == 20) = false := beq_eq_false_iff_ne.2 (by omega)
          clear h20 hbg h21 e
          go_wp2_with fail
          go_loopw [7, 8] (fun x i wr => ∃ k : Nat, k ≤ l.length ∧ x = .int .u64 ((valD (l.take k) : Nat) : Int) ∧ i = .int .i64 (k : Int) ∧ wr = w) (fun _ i _ => l.length - (intOf i).toNat)
          case atStart => exact ⟨0, Nat.zero_le _, rfl, rfl, rfl⟩
          case round =>
            obtain ⟨k, hk, rfl, rfl, hww⟩ := hrel
            obtain rfl := hww.symm
            by_cases hlt : k < l.length
            · have hix := fun W => idx_str W l k hlt
              have hv1 := valD_mono l (k + 1)
              have hsn : valD (l.take (k + 1)) = 10 * valD (l.take k) + dig l[k] := by rw [List.take_succ_eq_append_getElem hlt, valD_snoc]
              have hdg : isDig l[k] = true := by
                have := HAL.out
                unfold allDig at this
                exact List.all_eq_true.1 this _ (List.getElem_mem hlt)
              have hd9 := dig_le hdg
              have hsub : dig l[k] = (l[k]).toNat - 48 := rfl
              have h48 : 48 ≤ (l[k]).toNat ∧ (l[k]).toNat ≤ 57 := by unfold isDig at hdg; simpa using hdg
              have hnb := Hnb.out
              obtain ⟨ch, hch⟩ : ∃ ch, ch = l[k] := ⟨_, rfl⟩
              rw [← hch] at hix hsn hd9 hsub h48
              have Hsn := Lib.hid hsn
              have w1 : IntKind.u8.wrap ((ch.toNat : Int) - 48) = ((dig ch : Nat) : Int) := by rw [hsub]; simp [IntKind.wrap, IntKind.bits, IntKind.signed]; omega
              have w0 : IntKind.u64.wrap ((dig ch : Nat) : Int) = ((dig ch : Nat) : Int) := by rw [wrap_u64]; omega
              have w2 : IntKind.u64.wrap (10 * ((valD (l.take k) : Nat) : Int)) = 10 * ((valD (l.take k) : Nat) : Int) := by rw [wrap_u64]; omega
              have w3 : IntKind.u64.wrap (10 * ((valD (l.take k) : Nat) : Int) + ((dig ch : Nat) : Int)) = 10 * ((valD (l.take k) : Nat) : Int) + ((dig ch : Nat) : Int) := by rw [wrap_u64]; omega
              have hdk2 : decide ((k : Int) < (l.length : Int)) = true := decide_eq_true (by omega)
              clear hch hsn hv1 hdg hsub hnb h48 hd9
              generalize hdc : dig ch = dc at *
              have Hdc := Lib.hid hdc
              clear hdc
              generalize hva : valD (l.take k) = va at *
              have Hva := Lib.hid hva
              clear hva
              go_wp2_with fail
              go_roundw
              case rel => exact ⟨k + 1, by omega, by rw [Hsn.out]; first | rfl | (congr 1; omega), by go_num, by first | rfl | trivial⟩
              case measure => simp [intOf]; omega
            · have e2 : k = l.length := by omega
              have hte : l.take k = l := by rw [e2, List.take_length]
              rw [hte]
              have hdk2 : decide ((k : Int) < (l.length : Int)) = false := decide_eq_false (by omega)
              clear e2 hte
              generalize hva : valD l = va at *
              have Hva := Lib.hid hva
              clear hva
              by_cases hmv : most < va
              · have hd7 : decide (most < va) = true := decide_eq_true (by omega)
                obtain rfl : r1 = 0 := by rw [G1.out, if_pos hmv]
                obtain rfl : r2 = 9 := by rw [G2.out, if_pos hmv]
                clear hmv
                go_wp2_with fail
                go_ret2
                exact ⟨rfl, rfl⟩
              · have hd7 : decide (most < va) = false := decide_eq_false (by omega)
                obtain rfl : r1 = va := by rw [G1.out, if_neg hmv]
                obtain rfl : r2 = 0 := by rw [G2.out, if_neg hmv]
                clear hmv
                go_wp2_with fail
                go_ret2
                exact ⟨rfl, rfl⟩
  · have hd1 : decide ((1 : Int) < (l.length : Int)) = false := decide_eq_false (by omega)
    clear hb hb' h3 Hbad hix0
    go_enter Tryz.func67, Tryz.ntmps67
    go_wp2_with fail
    go_loopw [6] (fun i wr => ∃ k : Nat, k ≤ l.length ∧ i = .int .i64 (k : Int) ∧ allDig (l.take k) = true ∧ wr = w) (fun i _ => l.length - (intOf i).toNat)
    case atStart => exact ⟨0, Nat.zero_le _, rfl, rfl, rfl⟩
    case round =>
      obtain ⟨k, hk, rfl, hal, hww⟩ := hrel
      obtain rfl := hww.symm
      have Hal := Lib.hid hal
      clear hal
      by_cases hlt : k < l.length
      · have hix := fun W => idx_str W l k hlt
        have htk := allDig_take hlt
        have hno := allDig_no hlt
        obtain ⟨ch, hch⟩ : ∃ ch, ch = l[k] := ⟨_, rfl⟩
        rw [← hch] at hix htk hno
        have Htk := Lib.hid htk
        have Hno := Lib.hid hno
        have hdk : decide ((k : Int) < (l.length : Int)) = true := decide_eq_true (by omega)
        clear hch htk hno
        have hdg : isDig ch = (decide (48 ≤ ch.toNat) && decide (ch.toNat ≤ 57)) := rfl
        by_cases h1 : ch.toNat < 48
        · have hd3 : decide ((ch.toNat : Int) < 48) = true := decide_eq_true (by omega)
          have hnd : isDig ch = false := by rw [hdg, decide_eq_false (by omega)]; rfl
          obtain ⟨rfl, rfl⟩ := Hbad2.out (Hno.out hnd)
          clear hdg h1 hnd
          go_wp2_with fail
          go_ret2
          exact ⟨rfl, rfl⟩
        · have hd3 : decide ((ch.toNat : Int) < 48) = false := decide_eq_false (by omega)
          by_cases h2 : 57 < ch.toNat
          · have hd4 : decide ((57 : Int) < (ch.toNat : Int)) = true := decide_eq_true (by omega)
            have hnd : isDig ch = false := by rw [hdg, decide_eq_false (by omega : ¬ ch.toNat ≤ 57), Bool.and_false]
            obtain ⟨rfl, rfl⟩ := Hbad2.out (Hno.out hnd)
            clear hdg h1 h2 hnd
            go_wp2_with fail
            go_ret2
            exact ⟨rfl, rfl⟩
          · have hd4 : decide ((57 : Int) < (ch.toNat : Int)) = false := decide_eq_false (by omega)
            have hnd : isDig ch = true := by rw [hdg, decide_eq_true (by omega), decide_eq_true (by omega)]; rfl
            have Hnd := Lib.hid hnd
            clear hdg h1 h2 hnd
            go_wp2_with fail
            go_roundw
            case rel => exact ⟨k + 1, by omega, by go_num, by rw [Htk.out, Hal.out, Hnd.out]; rfl, by first | rfl | trivial⟩
            case measure => simp [intOf]; omega
      · have e : k = l.length := by omega
        have hal : allDig l = true := by have := Hal.out; rw [e, List.take_length] at this; exact this
        have hdk : decide ((k : Int) < (l.length : Int)) = false := decide_eq_false (by omega)
        have hov := over_val hal Hb.out
        have hres : ¬ 18446744073709551615 < valD l → r1 = (if most < valD l then 0 else valD l) ∧ r2 = (if most < valD l then 9 else 0) := fun _ => by
          rw [Hr1.out, Hr2.out]
          unfold numW
          rw [if_neg (by rw [Hb.out]; decide), if_neg (by rw [hal]; decide)]
          split <;> exact ⟨rfl, rfl⟩
        have hbig : 18446744073709551615 < valD l → r1 = 0 ∧ r2 = 9 := fun h => by
          rw [Hr1.out, Hr2.out]
          unfold numW
          rw [if_neg (by rw [Hb.out]; decide), if_neg (by rw [hal]; decide), if_pos (by omega)]
          exact ⟨rfl, rfl⟩
        have Hov := Lib.hid hov
        have Hres := Lib.hid hres
        have Hbig := Lib.hid hbig
        have HAL := Lib.hid hal
        clear hov hres hbig hal Hal
        obtain ⟨bl, hblx⟩ : ∃ bl, bl = Op.bytesLess [49, 56, 52, 52, 54, 55, 52, 52, 48, 55, 51, 55, 48, 57, 53, 53, 49, 54, 49, 53] l := ⟨_, rfl⟩
        have hgl := gt_less l [49, 56, 52, 52, 54, 55, 52, 52, 48, 55, 51, 55, 48, 57, 53, 53, 49, 54, 49, 53]
        rw [← hblx] at hgl
        obtain ⟨x1, hx1⟩ : ∃ x1, Op.bytesLess l [49, 56, 52, 52, 54, 55, 52, 52, 48, 55, 51, 55, 48, 57, 53, 53, 49, 54, 49, 53] = x1 := ⟨_, rfl⟩
        obtain ⟨x2, hx2⟩ : ∃ x2, (l == [49, 56, 52, 52, 54, 55, 52, 52, 48, 55, 51, 55, 48, 57, 53, 53, 49, 54, 49, 53]) = x2 := ⟨_, rfl⟩
        rw [hx1, hx2] at hgl
        have Hblx := Lib.hid hblx
        have Hgl := Lib.hid hgl
        clear hblx hgl hgt
        by_cases h20 : 20 < l.length
        · have hd5 : decide ((20 : Int) < (l.length : Int)) = true := decide_eq_true (by omega)
          obtain ⟨rfl, rfl⟩ := Hbig.out (Hov.out.1 (.inl h20))
          clear h20 e
          go_wp2_with fail
          go_ret2
          exact ⟨rfl, rfl⟩
        have hd5 : decide ((20 : Int) < (l.length : Int)) = false := decide_eq_false (by omega)
        by_cases hbg : l.length = 20 ∧ bl = true
        · obtain ⟨h21, rfl⟩ := hbg
          obtain ⟨rfl, rfl⟩ : x1 = false ∧ x2 = false := by have := Hgl.out; cases x1 <;> cases x2 <;> simp_all
          have hd6 : ((l.length : Int) == 20) = true := by rw [h21]; rfl
          obtain ⟨rfl, rfl⟩ := Hbig.out (Hov.out.1 (.inr ⟨h21, Hblx.out.symm⟩))
          clear h20 e h21
          go_wp2_with fail
          go_ret2
          exact ⟨rfl, rfl⟩
        have hnb : ¬ 18446744073709551615 < valD l := fun h => by
          rcases Hov.out.2 h with h | ⟨h, h2⟩
          · omega
          · exact hbg ⟨h, by rw [Hblx.out]; exact h2⟩
        obtain ⟨g1, g2⟩ := Hres.out hnb
        have G1 := Lib.hid g1
        have G2 := Lib.hid g2
        have Hnb := Lib.hid hnb
        clear g1 g2 hnb Hres Hbig Hov
        by_cases h21 : l.length = 20
        · have hbf : bl = false := by
            cases bl with
            | false => rfl
            | true => exact absurd (And.intro h21 (by first | rfl | trivial)) hbg
          subst hbf
          have hd6 : ((l.length : Int) == 20) = true := by rw [h21]; rfl
          have H21 := Lib.hid h21
          clear h20 hbg h21 e
          have hxx : x1 = true ∨ (x1 = false ∧ x2 = true) := by
            have h := Hgl.out
            revert h
            cases x1 <;> cases x2 <;> simp
          rcases hxx with rfl | ⟨rfl, rfl⟩
          · skip
            go_wp2_with fail
            go_loopw [7, 8] (fun x i wr => ∃ k : Nat, k ≤ l.length ∧ x = .int .u64 ((valD (l.take k) : Nat) : Int) ∧ i = .int .i64 (k : Int) ∧ wr = w) (fun _ i _ => l.length - (intOf i).toNat)
            case atStart => exact ⟨0, Nat.zero_le _, rfl, rfl, rfl⟩
            case round =>
              obtain ⟨k, hk, rfl, rfl, hww⟩ := hrel
              obtain rfl := hww.symm
              by_cases hlt : k < l.length
              · have hix := fun W => idx_str W l k hlt
                have hv1 := valD_mono l (k + 1)
                have hsn : valD (l.take (k + 1)) = 10 * valD (l.take k) + dig l[k] := by rw [List.take_succ_eq_append_getElem hlt, valD_snoc]
                have hdg : isDig l[k] = true := by
                  have := HAL.out
                  unfold allDig at this
                  exact List.all_eq_true.1 this _ (List.getElem_mem hlt)
                have hd9 := dig_le hdg
                have hsub : dig l[k] = (l[k]).toNat - 48 := rfl
                have h48 : 48 ≤ (l[k]).toNat ∧ (l[k]).toNat ≤ 57 := by unfold isDig at hdg; simpa using hdg
                have hnb := Hnb.out
                obtain ⟨ch, hch⟩ : ∃ ch, ch = l[k] := ⟨_, rfl⟩
                rw [← hch] at hix hsn hd9 hsub h48
                have Hsn := Lib.hid hsn
                have w1 : IntKind.u8.wrap ((ch.toNat : Int) - 48) = ((dig ch : Nat) : Int) := by rw [hsub]; simp [IntKind.wrap, IntKind.bits, IntKind.signed]; omega
                have w0 : IntKind.u64.wrap ((dig ch : Nat) : Int) = ((dig ch : Nat) : Int) := by rw [wrap_u64]; omega
                have w2 : IntKind.u64.wrap (10 * ((valD (l.take k) : Nat) : Int)) = 10 * ((valD (l.take k) : Nat) : Int) := by rw [wrap_u64]; omega
                have w3 : IntKind.u64.wrap (10 * ((valD (l.take k) : Nat) : Int) + ((dig ch : Nat) : Int)) = 10 * ((valD (l.take k) : Nat) : Int) + ((dig ch : Nat) : Int) := by rw [wrap_u64]; omega
                have hdk2 : decide ((k : Int) < (l.length : Int)) = true := decide_eq_true (by omega)
                clear hch hsn hv1 hdg hsub hnb h48 hd9
                generalize hdc : dig ch = dc at *
                have Hdc := Lib.hid hdc
                clear hdc
                generalize hva : valD (l.take k) = va at *
                have Hva := Lib.hid hva
                clear hva
                go_wp2_with fail
                go_roundw
                case rel => exact ⟨k + 1, by omega, by rw [Hsn.out]; first | rfl | (congr 1; omega), by go_num, by first | rfl | trivial⟩
                case measure => simp [intOf]; omega
              · have e2 : k = l.length := by omega
                have hte : l.take k = l := by rw [e2, List.take_length]
                rw [hte]
                have hdk2 : decide ((k : Int) < (l.length : Int)) = false := decide_eq_false (by omega)
                clear e2 hte
                generalize hva : valD l = va at *
                have Hva := Lib.hid hva
                clear hva
                by_cases hmv : most < va
                · have hd7 : decide (most < va) = true := decide_eq_true (by omega)
                  obtain rfl : r1 = 0 := by rw [G1.out, if_pos hmv]
                  obtain rfl : r2 = 9 := by rw [G2.out, if_pos hmv]
                  clear hmv
                  go_wp2_with fail
                  go_ret2
                  exact ⟨rfl, rfl⟩
                · have hd7 : decide (most < va) = false := decide_eq_false (by omega)
                  obtain rfl : r1 = va := by rw [G1.out, if_neg hmv]
                  obtain rfl : r2 = 0 := by rw [G2.out, if_neg hmv]
                  clear hmv
                  go_wp2_with fail
                  go_ret2
                  exact ⟨rfl, rfl⟩
          · skip
            go_wp2_with fail
            go_loopw [7, 8] (fun x i wr => ∃ k : Nat, k ≤ l.length ∧ x = .int .u64 ((valD (l.take k) : Nat) : Int) ∧ i = .int .i64 (k : Int) ∧ wr = w) (fun _ i _ => l.length - (intOf i).toNat)
            case atStart => exact ⟨0, Nat.zero_le _, rfl, rfl, rfl⟩
            case round =>
              obtain ⟨k, hk, rfl, rfl, hww⟩ := hrel
              obtain rfl := hww.symm
              by_cases hlt : k < l.length
              · have hix := fun W => idx_str W l k hlt
                have hv1 := valD_mono l (k + 1)
                have hsn : valD (l.take (k + 1)) = 10 * valD (l.take k) + dig l[k] := by rw [List.take_succ_eq_append_getElem hlt, valD_snoc]
                have hdg : isDig l[k] = true := by
                  have := HAL.out
                  unfold allDig at this
                  exact List.all_eq_true.1 this _ (List.getElem_mem hlt)
                have hd9 := dig_le hdg
                have hsub : dig l[k] = (l[k]).toNat - 48 := rfl
                have h48 : 48 ≤ (l[k]).toNat ∧ (l[k]).toNat ≤ 57 := by unfold isDig at hdg; simpa using hdg
                have hnb := Hnb.out
                obtain ⟨ch, hch⟩ : ∃ ch, ch = l[k] := ⟨_, rfl⟩
                rw [← hch] at hix hsn hd9 hsub h48
                have Hsn := Lib.hid hsn
                have w1 : IntKind.u8.wrap ((ch.toNat : Int) - 48) = ((dig ch : Nat) : Int) := by rw [hsub]; simp [IntKind.wrap, IntKind.bits, IntKind.signed]; omega
                have w0 : IntKind.u64.wrap ((dig ch : Nat) : Int) = ((dig ch : Nat) : Int) := by rw [wrap_u64]; omega
                have w2 : IntKind.u64.wrap (10 * ((valD (l.take k) : Nat) : Int)) = 10 * ((valD (l.take k) : Nat) : Int) := by rw [wrap_u64]; omega
                have w3 : IntKind.u64.wrap (10 * ((valD (l.take k) : Nat) : Int) + ((dig ch : Nat) : Int)) = 10 * ((valD (l.take k) : Nat) : Int) + ((dig ch : Nat) : Int) := by rw [wrap_u64]; omega
                have hdk2 : decide ((k : Int) < (l.length : Int)) = true := decide_eq_true (by omega)
                clear hch hsn hv1 hdg hsub hnb h48 hd9
                generalize hdc : dig ch = dc at *
                have Hdc := Lib.hid hdc
                clear hdc
                generalize hva : valD (l.take k) = va at *
                have Hva := Lib.hid hva
                clear hva
                go_wp2_with fail
                go_roundw
                case rel => exact ⟨k + 1, by omega, by rw [Hsn.out]; first | rfl | (congr 1; omega), by go_num, by first | rfl | trivial⟩
                case measure => simp [intOf]; omega
              · have e2 : k = l.length := by omega
                have hte : l.take k = l := by rw [e2, List.take_length]
                rw [hte]
                have hdk2 : decide ((k : Int) < (l.length : Int)) = false := decide_eq_false (by omega)
                clear e2 hte
                generalize hva : valD l = va at *
                have Hva := Lib.hid hva
                clear hva
                by_cases hmv : most < va
                · have hd7 : decide (most < va) = true := decide_eq_true (by omega)
                  obtain rfl : r1 = 0 := by rw [G1.out, if_pos hmv]
                  obtain rfl : r2 = 9 := by rw [G2.out, if_pos hmv]
                  clear hmv
                  go_wp2_with fail
                  go_ret2
                  exact ⟨rfl, rfl⟩
                · have hd7 : decide (most < va) = false := decide_eq_false (by omega)
                  obtain rfl : r1 = va := by rw [G1.out, if_neg hmv]
                  obtain rfl : r2 = 0 := by rw [G2.out, if_neg hmv]
                  clear hmv
                  go_wp2_with fail
                  go_ret2
                  exact ⟨rfl, rfl⟩
        · have hd6 : ((l.length : Int) == 20) = false := beq_eq_false_iff_ne.2 (by omega)
          clear h20 hbg h21 e
          go_wp2_with fail
          go_loopw [7, 8] (fun x i wr => ∃ k : Nat, k ≤ l.length ∧ x = .int .u64 ((valD (l.take k) : Nat) : Int) ∧ i = .int .i64 (k : Int) ∧ wr = w) (fun _ i _ => l.length - (intOf i).toNat)
          case atStart => exact ⟨0, Nat.zero_le _, rfl, rfl, rfl⟩
          case round =>
            obtain ⟨k, hk, rfl, rfl, hww⟩ := hrel
            obtain rfl := hww.symm
            by_cases hlt : k < l.length
            · have hix := fun W => idx_str W l k hlt
              have hv1 := valD_mono l (k + 1)
              have hsn : valD (l.take (k + 1)) = 10 * valD (l.take k) + dig l[k] := by rw [List.take_succ_eq_append_getElem hlt, valD_snoc]
              have hdg : isDig l[k] = true := by
                have := HAL.out
                unfold allDig at this
                exact List.all_eq_true.1 this _ (List.getElem_mem hlt)
              have hd9 := dig_le hdg
              have hsub : dig l[k] = (l[k]).toNat - 48 := rfl
              have h48 : 48 ≤ (l[k]).toNat ∧ (l[k]).toNat ≤ 57 := by unfold isDig at hdg; simpa using hdg
              have hnb := Hnb.out
              obtain ⟨ch, hch⟩ : ∃ ch, ch = l[k] := ⟨_, rfl⟩
              rw [← hch] at hix hsn hd9 hsub h48
              have Hsn := Lib.hid hsn
              have w1 : IntKind.u8.wrap ((ch.toNat : Int) - 48) = ((dig ch : Nat) : Int) := by rw [hsub]; simp [IntKind.wrap, IntKind.bits, IntKind.signed]; omega
              have w0 : IntKind.u64.wrap ((dig ch : Nat) : Int) = ((dig ch : Nat) : Int) := by rw [wrap_u64]; omega
              have w2 : IntKind.u64.wrap (10 * ((valD (l.take k) : Nat) : Int)) = 10 * ((valD (l.take k) : Nat) : Int) := by rw [wrap_u64]; omega
              have w3 : IntKind.u64.wrap (10 * ((valD (l.take k) : Nat) : Int) + ((dig ch : Nat) : Int)) = 10 * ((valD (l.take k) : Nat) : Int) + ((dig ch : Nat) : Int) := by rw [wrap_u64]; omega
              have hdk2 : decide ((k : Int) < (l.length : Int)) = true := decide_eq_true (by omega)
              clear hch hsn hv1 hdg hsub hnb h48 hd9
              generalize hdc : dig ch = dc at *
              have Hdc := Lib.hid hdc
              clear hdc
              generalize hva : valD (l.take k) = va at *
              have Hva := Lib.hid hva
              clear hva
              go_wp2_with fail
              go_roundw
              case rel => exact ⟨k + 1, by omega, by rw [Hsn.out]; first | rfl | (congr 1; omega), by go_num, by first | rfl | trivial⟩
              case measure => simp [intOf]; omega
            · have e2 : k = l.length := by omega
              have hte : l.take k = l := by rw [e2, List.take_length]
              rw [hte]
              have hdk2 : decide ((k : Int) < (l.length : Int)) = false := decide_eq_false (by omega)
              clear e2 hte
              generalize hva : valD l = va at *
              have Hva := Lib.hid hva
              clear hva
              by_cases hmv : most < va
              · have hd7 : decide (most < va) = true := decide_eq_true (by omega)
                obtain rfl : r1 = 0 := by rw [G1.out, if_pos hmv]
                obtain rfl : r2 = 9 := by rw [G2.out, if_pos hmv]
                clear hmv
                go_wp2_with fail
                go_ret2
                exact ⟨rfl, rfl⟩
              · have hd7 : decide (most < va) = false := decide_eq_false (by omega)
                obtain rfl : r1 = va := by rw [G1.out, if_neg hmv]
                obtain rfl : r2 = 0 := by rw [G2.out, if_neg hmv]
                clear hmv
                go_wp2_with fail
                go_ret2
                exact ⟨rfl, rfl⟩
end Go.Proofs.YtcffeepgfjpcaaaGreat

namespace Go.Proofs.YtcffeepgfjpcaaaGreat
set_option linter.unusedSimpArgs false
set_option linter.unusedVariables false
open Go.RowKit

set_option maxRecDepth 100000 in
set_option maxHeartbeats 3200000 in
theorem words_any (w : World) (b : List UInt8) (hl : b.length ≤ 1048576) :
    Calls Tryz.prog 66 #[.string (bst b)] w fun e w' => ∃ v', e = .returned v' ∧ OwnF 9 cS w' w.heap.size v' (wordsP b) ∧ Below w.heap.size w w' := by
  obtain ⟨w1, hw1⟩ : ∃ w1, w1 = (w.alloc (.cells #[] 9)).alloc (.cells #[] 5) := ⟨_, rfl⟩
  have hz1 : w1.heap.size = w.heap.size + 2 := by rw [hw1]; simp
  have hb1 : Below w.heap.size w w1 := by rw [hw1]; exact bstep (balloc _ _) (balloc _ _)
  have hS1 : OwnF 9 cS w1 w.heap.size (.slice (some ⟨w.heap.size, 0, none⟩) 0 0) [] := by rw [hw1]; exact (OwnS.empty w w.heap.size w.heap.size rfl (Nat.le_refl _)).alloc _
  have hB1 : OwnF 5 c8 w1 w.heap.size (.slice (some ⟨w.heap.size + 1, 0, none⟩) 0 0) [] := by rw [hw1]; exact OwnB.empty _ _ _ (by simp) (by omega)
  have Hw1 := Lib.hid hw1
  have HS1 := Lib.hid hS1
  have HB1 := Lib.hid hB1
  have Hb1 := Lib.hid hb1
  have hbz := bst_size b
  clear hw1 hS1 hB1 hb1 hz1
  go_enter Tryz.func66, Tryz.ntmps66
  go_wp2_with (rw [← Hw1.out])
  go_loopw [3, 4, 5] (fun vo vl i wr => ∃ k : Nat, k ≤ b.length ∧ i = .int .i64 (k : Int) ∧ OwnF 9 cS wr w.heap.size vo ((b.take k).foldl wordStep ([], [])).1 ∧ OwnF 5 c8 wr w.heap.size vl ((b.take k).foldl wordStep ([], [])).2 ∧ Below w.heap.size w wr) (fun _ _ i _ => b.length - (intOf i).toNat)
  case atStart => exact ⟨0, Nat.zero_le _, rfl, HS1.out, HB1.out, Hb1.out⟩
  case round =>
    obtain ⟨k, hk, rfl, i1, i2, i3⟩ := hrel
    have hsl := wordStep_len (b.take k)
    have htl : (b.take k).length = k := by rw [List.length_take]; omega
    have hfo := fun hlt => take_foldl wordStep (([], []) : List (List UInt8) × List UInt8) b k hlt
    obtain ⟨out, ln, hs⟩ : ∃ out ln, (b.take k).foldl wordStep (([], []) : List (List UInt8) × List UInt8) = (out, ln) := ⟨_, _, rfl⟩
    have hall : k = b.length → wordsP b = lastOn (out, ln) := fun e => by
      unfold wordsP
      have h2 : b.take k = b := by rw [e, List.take_length]
      rw [h2] at hs
      rw [hs]
    rw [hs] at i1 i2 hsl hfo
    rw [htl] at hsl
    simp only at i1 i2 hsl
    have hbs := i3.size
    obtain ⟨Ao, co, rfl, _⟩ := i1.form'
    obtain ⟨Al, cl, rfl, _⟩ := i2.form'
    have hcv := conv8 i2.byB
    have Hmx : Hid ((bst ln).size ≤ maxLen) := Lib.hid (by rw [bst_size]; unfold maxLen; omega)
    have Hall := Lib.hid hall
    have Hfo := Lib.hid hfo
    have I1 := Lib.hid i1
    have I2 := Lib.hid i2
    have I3 := Lib.hid i3
    clear i1 i2 i3 hs htl hall hfo HS1 HB1 Hb1 Hw1
    by_cases hlt : k < b.length
    · have hfk := Hfo.out hlt
      have hix := fun W => idx_str W b k hlt
      obtain ⟨ch, hch⟩ : ∃ ch, ch = b[k] := ⟨_, rfl⟩
      rw [← hch] at hix hfk
      have Hfk := Lib.hid hfk
      have hdk : decide ((k : Int) < (b.length : Int)) = true := decide_eq_true (by omega)
      clear hch hfk Hall Hfo
      by_cases hc : ch ≠ 32 ∧ ch ≠ 9
      · have hd1 : ((ch.toNat : Int) == 32) = false := beq_eq_false_iff_ne.2 fun e => hc.1 (UInt8.toNat_inj.1 (by have : ((ch.toNat : Nat) : Int) = 32 := e; have h10 : (32 : UInt8).toNat = 32 := rfl; omega))
        have hd2 : ((ch.toNat : Int) == 9) = false := beq_eq_false_iff_ne.2 fun e => hc.2 (UInt8.toNat_inj.1 (by have : ((ch.toNat : Nat) : Int) = 9 := e; have h10 : (9 : UInt8).toNat = 9 := rfl; omega))
        have hb1 : ((ch.toNat : Int) != 32) = true := by simp only [bne, hd1]; rfl
        have hb2 : ((ch.toNat : Int) != 9) = true := by simp only [bne, hd2]; rfl
        clear hd1 hd2
        have hst : wordStep (out, ln) ch = (out, ln ++ [ch]) := by unfold wordStep; rw [if_pos hc]
        have Hst := Lib.hid hst
        clear hst hc
        go_wp2_with (
          (with_reducible refine wpList_app1R (C := c8) ?_ (.tmp 24) (.tmp 28) 40 ?_ Tryz.underlying40 info8c ?_ ?_ ?_ [.int .u8 (ch.toNat : Int)] I2.out (y := ch) ?_ ?_ ?_ ?_ ?_ ?_); exact rfl; exact rfl; exact (by kernel_rfl); exact (by decide); exact (by decide); exact ⟨rfl, trivial⟩; exact rfl; exact rfl; exact (by omega); exact (by omega)
          intro v8 w8 ho8 hx8
          have Ho8 := Lib.hid ho8
          have Hx8 := Lib.hid hx8
          clear ho8 hx8)
        go_roundw
        case rel =>
          refine ⟨k + 1, by omega, by go_num, ?_, ?_, ?_⟩
          · rw [Hfk.out, Hst.out]
            exact ownKeptT (by decide) I2.out I1.out Hx8.out
          · rw [Hfk.out, Hst.out]
            exact Ho8.out
          · exact I3.out.trans (Hx8.out.below hbs fun q hq => (I2.out.blk q hq).1)
        case measure => simp [intOf]; omega
      · have hst : wordStep (out, ln) ch = (lastOn (out, ln), []) := by unfold wordStep; rw [if_neg hc]
        have Hst := Lib.hid hst
        clear hst
        by_cases hc1 : ch = 32
        · have hd1 : ((ch.toNat : Int) == 32) = true := by rw [hc1]; rfl
          have hb1 : ((ch.toNat : Int) != 32) = false := by simp only [bne, hd1]; rfl
          clear hc hc1 hd1
          rcases Nat.eq_zero_or_pos ln.length with h0 | h0
          · have hd3 : decide (0 < ln.length) = false := by simp [h0]
            have hln : ln = [] := List.eq_nil_of_length_eq_zero h0
            have Hlo : Hid (lastOn (out, ln) = out) := Lib.hid (by unfold lastOn; rw [if_neg (by simp only; omega)])
            have Hln := Lib.hid hln
            clear h0 hln
            go_wp2_with fail
            go_roundw
            case rel =>
              refine ⟨k + 1, by omega, by go_num, ?_, ?_, I3.out⟩
              · rw [Hfk.out, Hst.out, Hlo.out]
                exact I1.out
              · rw [Hfk.out, Hst.out]
                have := I2.out
                rw [Hln.out] at this ⊢
                exact this
            case measure => simp [intOf]; omega
          · have hd3 : decide (0 < ln.length) = true := by simp [h0]
            have Hlo : Hid (lastOn (out, ln) = out ++ [ln]) := Lib.hid (by unfold lastOn; rw [if_pos h0])
            have hlo : (out ++ [ln]).length = out.length + 1 := by rw [List.length_append, List.length_singleton]
            clear h0
            go_wp2_with (
              (with_reducible refine wpList_app1R (C := cS) ?_ (.tmp 33) (.tmp 36) 86 ?_ Tryz.underlying86 infoS ?_ ?_ ?_ [.string (bst ln)] I1.out (y := ln) ?_ ?_ ?_ ?_ ?_ ?_); exact rfl; exact rfl; exact (by kernel_rfl); exact (by decide); exact (by decide); exact ⟨rfl, Hmx.out⟩; exact rfl; exact rfl; exact (by omega); exact (by omega)
              intro v8 w8 ho8 hx8
              have Ho8 := Lib.hid ho8
              have Hx8 := Lib.hid hx8
              clear ho8 hx8)
            go_roundw
            case rel =>
              have h8 := Hx8.out.gr.size
              refine ⟨k + 1, by omega, by go_num, ?_, ?_, ?_⟩
              · rw [Hfk.out, Hst.out, Hlo.out]
                exact Ho8.out.alloc _
              · rw [Hfk.out, Hst.out]
                exact OwnB.empty _ _ _ rfl (by omega)
              · exact (I3.out.trans (Hx8.out.below hbs fun q hq => (I1.out.blk q hq).1)).alloc (by omega) _
            case measure => simp [intOf]; omega
        · have hc2 : ch = 9 := Classical.byContradiction fun h => hc ⟨hc1, h⟩
          have hd1 : ((ch.toNat : Int) == 32) = false := beq_eq_false_iff_ne.2 fun e => hc1 (UInt8.toNat_inj.1 (by have : ((ch.toNat : Nat) : Int) = 32 := e; have h10 : (32 : UInt8).toNat = 32 := rfl; omega))
          have hd2 : ((ch.toNat : Int) == 9) = true := by rw [hc2]; rfl
          have hb1 : ((ch.toNat : Int) != 32) = true := by simp only [bne, hd1]; rfl
          have hb2 : ((ch.toNat : Int) != 9) = false := by simp only [bne, hd2]; rfl
          clear hc hc1 hc2 hd1 hd2
          rcases Nat.eq_zero_or_pos ln.length with h0 | h0
          · have hd3 : decide (0 < ln.length) = false := by simp [h0]
            have hln : ln = [] := List.eq_nil_of_length_eq_zero h0
            have Hlo : Hid (lastOn (out, ln) = out) := Lib.hid (by unfold lastOn; rw [if_neg (by simp only; omega)])
            have Hln := Lib.hid hln
            clear h0 hln
            go_wp2_with fail
            go_roundw
            case rel =>
              refine ⟨k + 1, by omega, by go_num, ?_, ?_, I3.out⟩
              · rw [Hfk.out, Hst.out, Hlo.out]
                exact I1.out
              · rw [Hfk.out, Hst.out]
                have := I2.out
                rw [Hln.out] at this ⊢
                exact this
            case measure => simp [intOf]; omega
          · have hd3 : decide (0 < ln.length) = true := by simp [h0]
            have Hlo : Hid (lastOn (out, ln) = out ++ [ln]) := Lib.hid (by unfold lastOn; rw [if_pos h0])
            have hlo : (out ++ [ln]).length = out.length + 1 := by rw [List.length_append, List.length_singleton]
            clear h0
            go_wp2_with (
              (with_reducible refine wpList_app1R (C := cS) ?_ (.tmp 33) (.tmp 36) 86 ?_ Tryz.underlying86 infoS ?_ ?_ ?_ [.string (bst ln)] I1.out (y := ln) ?_ ?_ ?_ ?_ ?_ ?_); exact rfl; exact rfl; exact (by kernel_rfl); exact (by decide); exact (by decide); exact ⟨rfl, Hmx.out⟩; exact rfl; exact rfl; exact (by omega); exact (by omega)
              intro v8 w8 ho8 hx8
              have Ho8 := Lib.hid ho8
              have Hx8 := Lib.hid hx8
              clear ho8 hx8)
            go_roundw
            case rel =>
              have h8 := Hx8.out.gr.size
              refine ⟨k + 1, by omega, by go_num, ?_, ?_, ?_⟩
              · rw [Hfk.out, Hst.out, Hlo.out]
                exact Ho8.out.alloc _
              · rw [Hfk.out, Hst.out]
                exact OwnB.empty _ _ _ rfl (by omega)
              · exact (I3.out.trans (Hx8.out.below hbs fun q hq => (I1.out.blk q hq).1)).alloc (by omega) _
            case measure => simp [intOf]; omega
    · have e : k = b.length := by omega
      have ha := Hall.out e
      have Ha := Lib.hid ha
      have Hlt := Lib.hid hlt
      have hd0 : decide ((k : Int) < (b.length : Int)) = false := decide_eq_false (by omega)
      clear ha Hall Hfo e hlt
      rcases Nat.eq_zero_or_pos ln.length with h0 | h0
      · have hd : decide (0 < ln.length) = false := by simp [h0]
        have Hlo : Hid (lastOn (out, ln) = out) := Lib.hid (by unfold lastOn; rw [if_neg (by simp only; omega)])
        clear h0
        go_wp2_with fail
        go_ret
        rw [Ha.out, Hlo.out]
        exact ⟨_, rfl, I1.out, I3.out⟩
      · have hd : decide (0 < ln.length) = true := by simp [h0]
        have Hlo : Hid (lastOn (out, ln) = out ++ [ln]) := Lib.hid (by unfold lastOn; rw [if_pos h0])
        clear h0
        go_wp2_with (
          (with_reducible refine wpList_app1R (C := cS) ?_ (.tmp 42) (.tmp 45) 86 ?_ Tryz.underlying86 infoS ?_ ?_ ?_ [.string (bst ln)] I1.out (y := ln) ?_ ?_ ?_ ?_ ?_ ?_); exact rfl; exact rfl; exact (by kernel_rfl); exact (by decide); exact (by decide); exact ⟨rfl, Hmx.out⟩; exact rfl; exact rfl; exact (by omega); exact (by omega)
          intro v8 w8 ho8 hx8
          have Ho8 := Lib.hid ho8
          have Hx8 := Lib.hid hx8
          clear ho8 hx8)
        go_ret
        rw [Ha.out, Hlo.out]
        exact ⟨_, rfl, Ho8.out, I3.out.trans (Hx8.out.below hbs fun q hq => (I1.out.blk q hq).1)⟩
end Go.Proofs.YtcffeepgfjpcaaaGreat

namespace Go.Proofs.YtcffeepgfjpcaaaGreat
set_option linter.unusedSimpArgs false
set_option linter.unusedVariables false

structure GEdge where
  fr : UInt32
  to : UInt32
  wt : UInt32
deriving DecidableEq
/-- a key as a number -/
def GEdge.num (x : GEdge) : Nat := (x.fr.toNat * 4294967296 + x.to.toNat) * 4294967296 + x.wt.toNat
theorem GEdge.num_inj {x y : GEdge} (h : x.num = y.num) : x = y := by
  have h1 := u32_lt x.to
  have h2 := u32_lt y.to
  have h3 := u32_lt x.wt
  have h4 := u32_lt y.wt
  unfold GEdge.num at h
  cases x; cases y
  simp only at *
  have e3 : ∀ a b : UInt32, a.toNat = b.toNat → a = b := fun a b h => UInt32.toNat_inj.1 h
  congr 1 <;> (apply e3; omega)
/-- all weight of the edges from v to t, of the edges from v, of the arcs to t, of the rows' -/
def wsum (l : List GEdge) (v t : UInt32) : Nat := (l.map fun x => if x.fr = v ∧ x.to = t then x.wt.toNat else 0).sum
def vsum (l : List GEdge) (v : UInt32) : Nat := (l.map fun x => if x.fr = v then x.wt.toNat else 0).sum
def asum (l : List GArc) (t : UInt32) : Nat := (l.map fun a => if a.to = t then a.wt.toNat else 0).sum
def rsumT (R : List GRow) (v t : UInt32) : Nat := (R.map fun r => if r.fr = v then asum r.arcs t else 0).sum
def rsumV (R : List GRow) (v : UInt32) : Nat := (R.map fun r => if r.fr = v then gsum r.arcs else 0).sum
/-- one more weight to the last arc, or one more arc -/
def addArc (l : List GArc) (x : GEdge) : List GArc :=
  match l.getLast? with
  | some a => if a.to = x.to then l.dropLast ++ [⟨a.to, a.wt + x.wt⟩] else l ++ [⟨x.to, x.wt⟩]
  | none => [⟨x.to, x.wt⟩]
def fullP (cur : GRow) (x : GEdge) : Bool := decide (0 < cur.arcs.length) && decide (cur.fr ≠ x.fr)
def takeP (cur : GRow) (x : GEdge) : GRow := if fullP cur x = true ∨ cur.arcs.length = 0 then ⟨x.fr, [⟨x.to, x.wt⟩]⟩ else ⟨cur.fr, addArc cur.arcs x⟩
def hasP (cur : GRow) (x : GEdge) : Nat := if 0 < cur.arcs.length ∧ cur.fr = x.fr then gsum cur.arcs else 0
def overP (cur : GRow) (x : GEdge) : Bool := decide (2147483647 < hasP cur x + x.wt.toNat)
def curL (cur : GRow) : List GRow := if cur.arcs.length = 0 then [] else [cur]
/-- the rows of sorted edges, behind those that are there; none: a sum is too great -/
def mrow : List GEdge → GRow → List GRow → Option (List GRow)
  | [], cur, out => some (out ++ curL cur)
  | x :: t, cur, out => if overP cur x then none else mrow t (takeP cur x) (if fullP cur x then out ++ [cur] else out)
/-- what the iterator yields -/
def eachY : List GEdge → GRow → List (GRow × Int)
  | [], cur => (curL cur).map fun r => (r, 0)
  | x :: t, cur => if overP cur x then [(⟨0, []⟩, 10)] else (if fullP cur x then [(cur, 0)] else []) ++ eachY t (takeP cur x)

theorem asum_append (a b : List GArc) (t : UInt32) : asum (a ++ b) t = asum a t + asum b t := by simp [asum]
theorem asum_one (a : GArc) (t : UInt32) : asum [a] t = if a.to = t then a.wt.toNat else 0 := by simp [asum]
theorem rsumT_append (a b : List GRow) (v t : UInt32) : rsumT (a ++ b) v t = rsumT a v t + rsumT b v t := by simp [rsumT]
theorem rsumT_one (r : GRow) (v t : UInt32) : rsumT [r] v t = if r.fr = v then asum r.arcs t else 0 := by simp [rsumT]
theorem rsumV_append (a b : List GRow) (v : UInt32) : rsumV (a ++ b) v = rsumV a v + rsumV b v := by simp [rsumV]
theorem rsumV_one (r : GRow) (v : UInt32) : rsumV [r] v = if r.fr = v then gsum r.arcs else 0 := by simp [rsumV]
theorem wsum_append (a b : List GEdge) (v t : UInt32) : wsum (a ++ b) v t = wsum a v t + wsum b v t := by simp [wsum]
theorem wsum_one (x : GEdge) (v t : UInt32) : wsum [x] v t = if x.fr = v ∧ x.to = t then x.wt.toNat else 0 := by simp [wsum]
theorem vsum_append (a b : List GEdge) (v : UInt32) : vsum (a ++ b) v = vsum a v + vsum b v := by simp [vsum]
theorem vsum_one (x : GEdge) (v : UInt32) : vsum [x] v = if x.fr = v then x.wt.toNat else 0 := by simp [vsum]
theorem wsum_perm {a b : List GEdge} (h : a.Perm b) (v t : UInt32) : wsum a v t = wsum b v t := (h.map _).sum_nat
theorem vsum_perm {a b : List GEdge} (h : a.Perm b) (v : UInt32) : vsum a v = vsum b v := (h.map _).sum_nat

/-- what holds of the rows when the edges P are put in -/
structure RInv (P : List GEdge) (out : List GRow) (cur : GRow) : Prop where
  sT : ∀ v t, rsumT (out ++ curL cur) v t = wsum P v t
  sV : ∀ v, rsumV (out ++ curL cur) v = vsum P v
  ok : ∀ r ∈ out ++ curL cur, 0 < r.arcs.length ∧ gmay r.arcs = true
  up : (out ++ curL cur).Pairwise fun a b => a.fr.toNat < b.fr.toNat
  mem : ∀ v, (∃ r ∈ out ++ curL cur, r.fr = v) ↔ ∃ x ∈ P, x.fr = v
  low : ∀ r ∈ out, ∀ y ∈ curL cur, r.fr.toNat < y.fr.toNat
  last : (P = [] ∧ out = [] ∧ cur.arcs.length = 0) ∨ (∃ y i a, P.getLast? = some y ∧ cur.fr = y.fr ∧ cur.arcs = i ++ [a] ∧ a.to = y.to)
theorem RInv.start : RInv [] [] ⟨0, []⟩ := ⟨fun _ _ => rfl, fun _ => rfl, fun r h => (by simp [curL] at h), (by simp [curL]), fun v => by simp [curL], fun r h => (by simp at h), .inl ⟨rfl, rfl, rfl⟩⟩
theorem curL_some {r : GRow} (h : 0 < r.arcs.length) : curL r = [r] := by unfold curL; rw [if_neg (by omega)]
theorem gmay_parts {l : List GArc} : gmay l = true ↔ rise none l = true ∧ gsum l ≤ 2147483647 := by unfold gmay; simp
theorem gmay_single {x : GEdge} (h0 : x.wt ≠ 0) (h1 : x.wt.toNat ≤ 2147483647) : gmay [⟨x.to, x.wt⟩] = true := by
  rw [gmay_parts]
  exact ⟨by simp [rise, h0], by rw [gsum_one]; exact h1⟩
/-- a new row behind the others -/
theorem RInv.fresh {P : List GEdge} {out : List GRow} {cur : GRow} {x : GEdge} (h : RInv P out cur) (h0 : x.wt ≠ 0) (h1 : x.wt.toNat ≤ 2147483647)
    (hup : ∀ r ∈ out ++ curL cur, r.fr.toNat < x.fr.toNat) : RInv (P ++ [x]) (out ++ curL cur) ⟨x.fr, [⟨x.to, x.wt⟩]⟩ := by
  have hc : curL ⟨x.fr, [⟨x.to, x.wt⟩]⟩ = [⟨x.fr, [⟨x.to, x.wt⟩]⟩] := rfl
  refine ⟨fun v t => ?_, fun v => ?_, fun r hr => ?_, ?_, fun v => ?_, fun r hr y hy => ?_, .inr ⟨x, [], ⟨x.to, x.wt⟩, by simp, rfl, rfl, rfl⟩⟩
  · rw [hc, rsumT_append, h.sT, wsum_append, rsumT_one, wsum_one]
    simp only [asum_one]
    by_cases e : x.fr = v <;> by_cases e2 : x.to = t <;> simp [e, e2]
  · rw [hc, rsumV_append, h.sV, vsum_append, rsumV_one, vsum_one]
    simp only [gsum_one]
  · rw [hc] at hr
    rcases List.mem_append.1 hr with hr | hr
    · exact h.ok r hr
    · rw [List.mem_singleton] at hr
      subst hr
      exact ⟨by simp, gmay_single h0 h1⟩
  · rw [hc, List.pairwise_append]
    exact ⟨h.up, by simp, fun a ha b hb => by rw [List.mem_singleton] at hb; subst hb; exact hup a ha⟩
  · rw [hc]
    have hm := h.mem v
    constructor
    · rintro ⟨r, hr, e⟩
      rcases List.mem_append.1 hr with hr | hr
      · obtain ⟨z, hz, e2⟩ := hm.1 ⟨r, hr, e⟩
        exact ⟨z, by simp [hz], e2⟩
      · rw [List.mem_singleton] at hr
        subst hr
        exact ⟨x, by simp, e⟩
    · rintro ⟨z, hz, e⟩
      rcases List.mem_append.1 hz with hz | hz
      · obtain ⟨r, hr, e2⟩ := hm.2 ⟨z, hz, e⟩
        exact ⟨r, List.mem_append.2 (.inl hr), e2⟩
      · rw [List.mem_singleton] at hz
        subst hz
        exact ⟨_, List.mem_append.2 (.inr (List.mem_singleton.2 rfl)), e⟩
  · rw [hc, List.mem_singleton] at hy
    subst hy
    exact hup r hr
theorem addArc_last {i : List GArc} {a : GArc} {x : GEdge} : addArc (i ++ [a]) x = if a.to = x.to then i ++ [⟨a.to, a.wt + x.wt⟩] else i ++ [a] ++ [⟨x.to, x.wt⟩] := by
  unfold addArc
  rw [List.getLast?_concat, List.dropLast_concat]
theorem u32_add {a b : UInt32} (h : a.toNat + b.toNat ≤ 2147483647) : (a + b).toNat = a.toNat + b.toNat := by
  rw [UInt32.toNat_add, Nat.mod_eq_of_lt (by omega)]
/-- the arcs of a row with one more weight -/
theorem addArc_ok {i : List GArc} {a : GArc} {x : GEdge} (hg : gmay (i ++ [a]) = true) (h0 : x.wt ≠ 0) (hs : gsum (i ++ [a]) + x.wt.toNat ≤ 2147483647) (hle : a.to.toNat ≤ x.to.toNat) :
    gmay (addArc (i ++ [a]) x) = true ∧ gsum (addArc (i ++ [a]) x) = gsum (i ++ [a]) + x.wt.toNat ∧ (∀ t, asum (addArc (i ++ [a]) x) t = asum (i ++ [a]) t + if x.to = t then x.wt.toNat else 0) ∧ ∃ j b, addArc (i ++ [a]) x = j ++ [b] ∧ b.to = x.to := by
  rw [gmay_parts] at hg
  obtain ⟨hr, hg⟩ := hg
  have hw : x.wt.toNat ≠ 0 := fun e => h0 (UInt32.toNat_inj.1 e)
  rw [addArc_last]
  rw [gsum_append, gsum_one] at hs hg
  by_cases e : a.to = x.to
  · rw [if_pos e]
    have hadd : (a.wt + x.wt).toNat = a.wt.toNat + x.wt.toNat := u32_add (by omega)
    have hg2 : gsum (i ++ [⟨a.to, a.wt + x.wt⟩]) = gsum (i ++ [a]) + x.wt.toNat := by
      rw [gsum_append, gsum_one, gsum_append, gsum_one]
      simp only
      omega
    refine ⟨?_, hg2, fun t => ?_, i, _, rfl, e⟩
    · rw [gmay_parts, hg2, gsum_append, gsum_one]
      refine ⟨?_, by omega⟩
      rw [rise_append] at hr ⊢
      have hne : (a.wt + x.wt) ≠ 0 := fun e => by
        have := congrArg UInt32.toNat e
        rw [hadd] at this
        simp at this
        omega
      simp only [rise, Bool.and_eq_true] at hr ⊢
      exact ⟨hr.1, ⟨by simp [hne], hr.2.1.2⟩, trivial⟩
    · rw [asum_append, asum_append, asum_one, asum_one]
      simp only [e]
      by_cases e2 : x.to = t <;> simp [e2, hadd]
      omega
  · rw [if_neg e]
    have hlt : a.to.toNat < x.to.toNat := by
      have : a.to.toNat ≠ x.to.toNat := fun h => e (UInt32.toNat_inj.1 h)
      omega
    have hg2 : gsum (i ++ [a] ++ [⟨x.to, x.wt⟩]) = gsum (i ++ [a]) + x.wt.toNat := by rw [gsum_append, gsum_one]
    refine ⟨?_, hg2, fun t => ?_, i ++ [a], _, rfl, rfl⟩
    · rw [gmay_parts, hg2, gsum_append, gsum_one]
      refine ⟨?_, by omega⟩
      rw [rise_append, hr, lastTo_snoc]
      simp [rise, h0]
      exact UInt32.lt_iff_toNat_lt.2 hlt
    · rw [asum_append, asum_one]
/-- one more edge -/
theorem RInv.step {P : List GEdge} {out : List GRow} {cur : GRow} {x : GEdge} (h : RInv P out cur) (h0 : x.wt ≠ 0) (hle : ∀ y, P.getLast? = some y → y.num ≤ x.num) (ho : overP cur x = false) :
    RInv (P ++ [x]) (if fullP cur x then out ++ [cur] else out) (takeP cur x) := by
  have hov : hasP cur x + x.wt.toNat ≤ 2147483647 := by unfold overP at ho; simpa using ho
  rcases h.last with ⟨rfl, rfl, hc⟩ | ⟨y, i, a, hy, hf, ha, hto⟩
  · have hfl : fullP cur x = false := by unfold fullP; simp [hc]
    have htk : takeP cur x = ⟨x.fr, [⟨x.to, x.wt⟩]⟩ := by unfold takeP; rw [if_pos (.inr hc)]
    rw [hfl, htk]
    have := h.fresh h0 (by omega) (by unfold curL; rw [if_pos hc]; simp)
    have e : curL cur = [] := by unfold curL; rw [if_pos hc]
    rw [e] at this
    simpa using this
  · have hpos : 0 < cur.arcs.length := by rw [ha]; simp
    have hcl := curL_some hpos
    have hnum := hle y hy
    unfold GEdge.num at hnum
    have b1 := u32_lt x.to
    have b2 := u32_lt y.to
    have b3 := u32_lt x.wt
    have b4 := u32_lt y.wt
    by_cases e : cur.fr = x.fr
    · have hfl : fullP cur x = false := by unfold fullP; simp [e]
      have htk : takeP cur x = ⟨cur.fr, addArc cur.arcs x⟩ := by unfold takeP; rw [if_neg]; rintro (h | h); rw [hfl] at h; cases h; omega
      rw [hfl, htk]
      simp only [Bool.false_eq_true, if_false]
      have hok := h.ok cur (by rw [hcl]; simp)
      have hhas : hasP cur x = gsum cur.arcs := by unfold hasP; rw [if_pos ⟨hpos, e⟩]
      have hyx : y.fr = x.fr := hf.symm.trans e
      rw [hyx] at hnum
      have hle2 : a.to.toNat ≤ x.to.toNat := by rw [hto]; omega
      obtain ⟨g1, g2, g3, j, b, g4, g5⟩ := addArc_ok (i := i) (a := a) (x := x) (by rw [← ha]; exact hok.2) h0 (by rw [← ha]; omega) hle2
      rw [← ha] at g1 g2 g3 g4
      have hcl2 : curL ⟨cur.fr, addArc cur.arcs x⟩ = [⟨cur.fr, addArc cur.arcs x⟩] := curL_some (by simp only; rw [g4]; simp)
      have hT := h.sT
      have hV := h.sV
      have hU := h.up
      have hM := h.mem
      have hL := h.low
      have hO := h.ok
      rw [hcl] at hT hV hU hM hL hO
      refine ⟨fun v t => ?_, fun v => ?_, fun r hr => ?_, ?_, fun v => ?_, fun r hr z hz => ?_, .inr ⟨x, j, b, by simp, e, g4, g5⟩⟩
      · rw [hcl2, wsum_append, ← hT, rsumT_append, rsumT_append, rsumT_one, rsumT_one, wsum_one]
        simp only [g3, e]
        by_cases e1 : x.fr = v <;> by_cases e2 : x.to = t <;> simp [e1, e2]
        omega
      · rw [hcl2, vsum_append, ← hV, rsumV_append, rsumV_append, rsumV_one, rsumV_one, vsum_one]
        simp only [g2, e]
        by_cases e1 : x.fr = v <;> simp [e1]
        omega
      · rw [hcl2] at hr
        rcases List.mem_append.1 hr with hr | hr
        · exact hO r (List.mem_append.2 (.inl hr))
        · rw [List.mem_singleton] at hr
          subst hr
          exact ⟨by simp only; rw [g4]; simp, g1⟩
      · rw [hcl2]
        rw [List.pairwise_append] at hU ⊢
        exact ⟨hU.1, by simp, fun p hp q hq => by rw [List.mem_singleton] at hq; subst hq; exact hU.2.2 p hp cur (by simp)⟩
      · rw [hcl2]
        have hm := hM v
        constructor
        · rintro ⟨r, hr, e1⟩
          have : ∃ z ∈ P, z.fr = v := by
            refine hm.1 ?_
            rcases List.mem_append.1 hr with hr | hr
            · exact ⟨r, List.mem_append.2 (.inl hr), e1⟩
            · rw [List.mem_singleton] at hr
              subst hr
              exact ⟨cur, by simp, e1⟩
          obtain ⟨z, hz, e2⟩ := this
          exact ⟨z, by simp [hz], e2⟩
        · rintro ⟨z, hz, e1⟩
          rcases List.mem_append.1 hz with hz | hz
          · obtain ⟨r, hr, e2⟩ := hm.2 ⟨z, hz, e1⟩
            rcases List.mem_append.1 hr with hr | hr
            · exact ⟨r, List.mem_append.2 (.inl hr), e2⟩
            · rw [List.mem_singleton] at hr
              subst hr
              exact ⟨_, List.mem_append.2 (.inr (List.mem_singleton.2 rfl)), e2⟩
          · rw [List.mem_singleton] at hz
            subst hz
            exact ⟨_, List.mem_append.2 (.inr (List.mem_singleton.2 rfl)), e.trans e1⟩
      · rw [hcl2, List.mem_singleton] at hz
        subst hz
        exact hL r hr cur (by simp)
    · have hfl : fullP cur x = true := by unfold fullP; simp [e, hpos]
      have htk : takeP cur x = ⟨x.fr, [⟨x.to, x.wt⟩]⟩ := by unfold takeP; rw [if_pos (.inl hfl)]
      rw [hfl, htk]
      simp only [if_true]
      have hlt : cur.fr.toNat < x.fr.toNat := by
        have h1 : cur.fr.toNat ≠ x.fr.toNat := fun h => e (UInt32.toNat_inj.1 h)
        rw [hf] at h1 ⊢
        omega
      have := h.fresh h0 (by omega) (fun r hr => by
        rcases List.mem_append.1 hr with hr | hr
        · have := h.low r hr cur (by rw [hcl]; simp)
          omega
        · rw [hcl, List.mem_singleton] at hr
          subst hr
          exact hlt)
      rw [hcl] at this
      exact this
/-- all edges -/
theorem mrow_inv : ∀ (l P : List GEdge) (out : List GRow) (cur : GRow) (R : List GRow), RInv P out cur → (∀ x ∈ l, x.wt ≠ 0) → (P ++ l).Pairwise (fun a b => a.num ≤ b.num) → mrow l cur out = some R →
    ∃ out' cur', RInv (P ++ l) out' cur' ∧ R = out' ++ curL cur'
  | [], P, out, cur, R, h, _, _, he => by
    rw [mrow] at he
    injection he with he
    exact ⟨out, cur, by simpa using h, he.symm⟩
  | x :: t, P, out, cur, R, h, h0, hs, he => by
    rw [mrow] at he
    cases ho : overP cur x with
    | true => rw [ho] at he; simp at he
    | false =>
      rw [ho] at he
      simp only [Bool.false_eq_true, if_false] at he
      have hst := h.step (h0 x (by simp)) (fun y hy => by
        obtain ⟨ys, rfl⟩ : ∃ ys, P = ys ++ [y] := by
          exact List.getLast?_eq_some_iff.1 hy
        rw [List.pairwise_append] at hs
        exact hs.2.2 y (by simp) x (by simp)) ho
      have := mrow_inv t (P ++ [x]) _ _ R hst (fun z hz => h0 z (by simp [hz])) (by simpa using hs) he
      simpa using this
/-- the neighbours of a vertex -/
def arcsR (R : List GRow) (v : UInt32) : List GArc := match R.find? (fun r => r.fr == v) with | some r => r.arcs | none => []
structure RowsOk (l : List GEdge) (R : List GRow) : Prop where
  sT : ∀ v t, rsumT R v t = wsum l v t
  sV : ∀ v, rsumV R v = vsum l v
  ok : ∀ r ∈ R, 0 < r.arcs.length ∧ gmay r.arcs = true
  up : R.Pairwise fun a b => a.fr.toNat < b.fr.toNat
  mem : ∀ v, (∃ r ∈ R, r.fr = v) ↔ ∃ x ∈ l, x.fr = v
theorem mrow_ok (l L : List GEdge) (R : List GRow) (hp : L.Perm l) (h0 : ∀ x ∈ l, x.wt ≠ 0) (hs : L.Pairwise (fun a b => a.num ≤ b.num)) (he : mrow L ⟨0, []⟩ [] = some R) : RowsOk l R := by
  obtain ⟨out, cur, hi, rfl⟩ := mrow_inv L [] [] ⟨0, []⟩ R RInv.start (fun x hx => h0 x (hp.mem_iff.1 hx)) (by simpa using hs) he
  simp only [List.nil_append] at hi
  refine ⟨fun v t => (hi.sT v t).trans (wsum_perm hp v t), fun v => (hi.sV v).trans (vsum_perm hp v), hi.ok, hi.up, fun v => (hi.mem v).trans ?_⟩
  exact ⟨fun ⟨x, hx, e⟩ => ⟨x, hp.mem_iff.1 hx, e⟩, fun ⟨x, hx, e⟩ => ⟨x, hp.mem_iff.2 hx, e⟩⟩
theorem rsum_zero : ∀ (R : List GRow) (v t : UInt32), (∀ r ∈ R, r.fr ≠ v) → rsumT R v t = 0 ∧ rsumV R v = 0
  | [], _, _, _ => ⟨rfl, rfl⟩
  | r :: R, v, t, h => by
    have h1 := rsum_zero R v t fun q hq => h q (by simp [hq])
    have h2 := h r (by simp)
    have e1 : rsumT (r :: R) v t = rsumT [r] v t + rsumT R v t := rsumT_append [r] R v t
    have e2 : rsumV (r :: R) v = rsumV [r] v + rsumV R v := rsumV_append [r] R v
    rw [e1, e2, rsumT_one, rsumV_one, if_neg h2, if_neg h2, h1.1, h1.2]
    exact ⟨rfl, rfl⟩
theorem arcsR_sum : ∀ (R : List GRow) (v t : UInt32), (R.Pairwise fun a b => a.fr.toNat < b.fr.toNat) → rsumT R v t = asum (arcsR R v) t ∧ rsumV R v = gsum (arcsR R v)
  | [], _, _, _ => ⟨rfl, rfl⟩
  | r :: R, v, t, h => by
    rw [List.pairwise_cons] at h
    have e1 : rsumT (r :: R) v t = rsumT [r] v t + rsumT R v t := rsumT_append [r] R v t
    have e2 : rsumV (r :: R) v = rsumV [r] v + rsumV R v := rsumV_append [r] R v
    rw [e1, e2, rsumT_one, rsumV_one]
    by_cases e : r.fr = v
    · have hz := rsum_zero R v t fun q hq e2 => by
        have := h.1 q hq
        rw [e, e2] at this
        omega
      have ea : arcsR (r :: R) v = r.arcs := by unfold arcsR; rw [List.find?_cons_of_pos (by simp [e])]
      rw [if_pos e, if_pos e, hz.1, hz.2, ea]
      exact ⟨rfl, rfl⟩
    · have ea : arcsR (r :: R) v = arcsR R v := by unfold arcsR; rw [List.find?_cons_of_neg (by simp [e])]
      have ih := arcsR_sum R v t h.2
      rw [if_neg e, if_neg e, ih.1, ih.2, ea]
      exact ⟨Nat.zero_add _, Nat.zero_add _⟩
theorem RowsOk.arcs {l : List GEdge} {R : List GRow} (h : RowsOk l R) (v : UInt32) : (∀ t, asum (arcsR R v) t = wsum l v t) ∧ gsum (arcsR R v) = vsum l v ∧ gmay (arcsR R v) = true ∧ ((arcsR R v).length = 0 ↔ ¬ ∃ x ∈ l, x.fr = v) := by
  refine ⟨fun t => (arcsR_sum R v t h.up).1.symm.trans (h.sT v t), (arcsR_sum R v 0 h.up).2.symm.trans (h.sV v), ?_, ?_⟩
  · unfold arcsR
    cases hf : R.find? (fun r => r.fr == v) with
    | none => rfl
    | some r => exact (h.ok r (List.mem_of_find?_eq_some hf)).2
  · rw [← h.mem v]
    unfold arcsR
    cases hf : R.find? (fun r => r.fr == v) with
    | none =>
      simp only [List.length_nil, true_iff]
      rintro ⟨r, hr, e⟩
      have := List.find?_eq_none.1 hf r hr
      simp [e] at this
    | some r =>
      have hm := List.mem_of_find?_eq_some hf
      have hv : r.fr = v := by have := List.find?_some hf; simpa using this
      have := (h.ok r hm).1
      constructor
      · intro h0
        simp only at h0
        omega
      · intro hn; exact absurd ⟨r, hm, hv⟩ hn
theorem rise_to : ∀ (l : List GArc) (p : Option UInt32) (b : GArc), rise p l = true → b ∈ l → (match p with | none => True | some q => q.toNat < b.to.toNat) ∧ b.wt ≠ 0
  | [], _, _, _, h => by simp at h
  | a :: t, p, b, hr, h => by
    rw [rise_cons] at hr
    simp only [Bool.and_eq_true] at hr
    rcases List.mem_cons.1 h with rfl | h
    · refine ⟨?_, by simpa using hr.1.1⟩
      cases p with
      | none => trivial
      | some q => exact UInt32.lt_iff_toNat_lt.1 (by simpa using hr.1.2)
    · have := rise_to t (some a.to) b hr.2 h
      refine ⟨?_, this.2⟩
      cases p with
      | none => trivial
      | some q =>
        have h1 := UInt32.lt_iff_toNat_lt.1 (by simpa using hr.1.2 : q < a.to)
        have h2 := this.1
        simp only at h2 ⊢
        omega
theorem asum_none (l : List GArc) (t : UInt32) (h : ∀ a ∈ l, a.to ≠ t) : asum l t = 0 := by
  induction l with
  | nil => rfl
  | cons a l ih =>
    have e : asum (a :: l) t = asum [a] t + asum l t := asum_append [a] l t
    rw [e, asum_one, if_neg (h a (by simp)), ih fun b hb => h b (by simp [hb])]
/-- each arc's weight is all that comes to its end -/
theorem asum_at : ∀ (l : List GArc) (p : Option UInt32) (b : GArc), rise p l = true → b ∈ l → asum l b.to = b.wt.toNat
  | [], _, _, _, h => by simp at h
  | a :: l, p, b, hr, h => by
    have e : asum (a :: l) b.to = asum [a] b.to + asum l b.to := asum_append [a] l b.to
    have hr2 : rise (some a.to) l = true := by rw [rise_cons] at hr; simp only [Bool.and_eq_true] at hr; exact hr.2
    rw [e, asum_one]
    rcases List.mem_cons.1 h with rfl | h
    · rw [if_pos rfl, asum_none l b.to fun c hc e => by
        have := (rise_to l (some b.to) c hr2 hc).1
        simp only at this
        rw [e] at this
        omega]
      rfl
    · have hlt := (rise_to l (some a.to) b hr2 h).1
      simp only at hlt
      rw [if_neg (fun e => by rw [e] at hlt; omega), asum_at l (some a.to) b hr2 h, Nat.zero_add]
end Go.Proofs.YtcffeepgfjpcaaaGreat

namespace Go.Proofs.YtcffeepgfjpcaaaGreat
set_option linter.unusedSimpArgs false
set_option linter.unusedVariables false
open Go.RowKit

def be4 (n : Nat) : List UInt8 := [UInt8.ofNat (n / 16777216), UInt8.ofNat (n / 65536), UInt8.ofNat (n / 256), UInt8.ofNat n]
def keyL (x : GEdge) : List UInt8 := be4 x.fr.toNat ++ be4 x.to.toNat ++ be4 x.wt.toNat
theorem keyL_length (x : GEdge) : (keyL x).length = 12 := rfl
def edgeC (x : GEdge) : List Value := [.int .u32 (x.fr.toNat : Int), .int .u32 (x.to.toNat : Int), .int .u32 (x.wt.toNat : Int)]
def edgeV (x : GEdge) : Value := .agg (edgeC x).toArray
theorem BoxAt.bl_ {T : TypeId} {w w' : World} {g : Nat} {cs : List Value} (h : BoxAt T w g cs) (hb : Below w.heap.size w w') : BoxAt T w' g cs := h.below h.lt hb
theorem wpList_make8c {ops : Array Oper} {rest : List Oper} {o : Oper} {a : Act} {w : World} {Q : Exit → Act → World → Prop} (hgd : o.guard = none) (x y : Operand) (base : Nat) (hbase : base ≤ w.heap.size)
    (ho : o.op = .makeSlice 40 x y) (c : Nat) (hx : a.eval x = .int .i64 0) (hy : a.eval y = .int .i64 (c : Int)) (hc : c ≤ 1048576)
    (h : ∀ v' w', Ow w' base v' [] → Below w.heap.size w w' → wpList Tryz.prog ops Q rest (a.put o.dst v') w') : wpList Tryz.prog ops Q (o :: rest) a w := by
  obtain ⟨i, hi, hz0, hz1, hz2⟩ := info_parts info8
  refine wpList_plain hgd fun K hK => ?_
  obtain ⟨w', hr, hown, hg⟩ := run_make_own w base 40 5 i _ 1 Tryz.underlying40 hi hz0 hz1 .i64 .i64 c (by rw [hz2]; omega) (by simp [maxLen]; omega) hbase
  unfold Oper.wp execOp
  simp only [ho, hx, hy, Sem.run_bind, Sem.run_pure, Result.andThen_ok, hr]
  exact hK _ _ (h _ _ hown ⟨hg.os, hg.tape, hg.output, hg.size, fun k hk => hg.block k hk (by simp)⟩)
theorem idx3_0 (W : World) (a b c : Value) : (Instr.index 121 (.agg #[a, b, c]) (.int .i64 0)).run Tryz.prog W = .ok a W := by
  simp [Instr.index, run_underlying Tryz.underlying121, asIntOf, go_sem]
theorem idx3_1 (W : World) (a b c : Value) : (Instr.index 121 (.agg #[a, b, c]) (.int .i64 1)).run Tryz.prog W = .ok b W := by
  simp [Instr.index, run_underlying Tryz.underlying121, asIntOf, go_sem]
theorem idx3_2 (W : World) (a b c : Value) : (Instr.index 121 (.agg #[a, b, c]) (.int .i64 2)).run Tryz.prog W = .ok c W := by
  simp [Instr.index, run_underlying Tryz.underlying121, asIntOf, go_sem]
theorem b8_of (z : Int) (m : Nat) (h : z = ((m % 256 : Nat) : Int)) : Value.int .u8 z = b8 (UInt8.ofNat m) := by
  subst h
  unfold b8
  rw [UInt8.toNat_ofNat']
set_option maxRecDepth 100000 in
set_option maxHeartbeats 1600000 in
theorem key_any (w : World) (x : GEdge) :
    Calls Tryz.prog 31 #[edgeV x] w fun e w' => ∃ v, e = .returned v ∧ Ow w' w.heap.size v (keyL x) ∧ Below w.heap.size w w' := by
  obtain ⟨w0, hw0⟩ : ∃ w0, w0 = w.alloc (.cells (edgeC x).toArray 55) := ⟨_, rfl⟩
  have hb0 : Below w.heap.size w w0 := by rw [hw0]; exact balloc w _
  have hx0 : BoxAt 55 w0 w.heap.size (edgeC x) := by rw [hw0]; exact BoxAt.new_ _ _ _
  have Hw0 := Lib.hid hw0
  have Hb0 := Lib.hid hb0
  have hs0 := hb0.size
  have b0 := u32_lt x.fr
  have b1 := u32_lt x.to
  have b2 := u32_lt x.wt
  have hk : keyL x = be4 x.fr.toNat ++ be4 x.to.toNat ++ be4 x.wt.toNat := rfl
  have hcs : edgeC x = [.int .u32 (x.fr.toNat : Int), .int .u32 (x.to.toNat : Int), .int .u32 (x.wt.toNat : Int)] := rfl
  unfold edgeV
  rw [hcs] at Hw0 hx0 ⊢
  have Hk := Lib.hid hk
  have X0 := Lib.hid hx0
  clear hw0 hx0 hb0 hk hcs
  generalize x.fr.toNat = n0 at *
  generalize x.to.toNat = n1 at *
  generalize x.wt.toNat = n2 at *
  go_enter Tryz.func31, Tryz.ntmps31
  go_upto_region 1 with fail
  rw [← Hw0.out]
  go_wp2_with (refine wpList_make8c rfl (.const (.int .i64 0)) (.const (.int .i64 12)) w.heap.size hs0 rfl 12 rfl rfl (by omega) ?_; intro v1 w1 ho1 hb1; (have hc0 := (X0.out.bl_ hb1).cell 0 _ rfl); (have hc1 := (X0.out.bl_ hb1).cell 1 _ rfl); (have hc2 := (X0.out.bl_ hb1).cell 2 _ rfl))
  have Hb1 := Lib.hid (bstep Hb0.out hb1)
  have Ho1 := Lib.hid ho1
  clear ho1 hb1 hc0 hc1 hc2
  go_loopw [3, 15] (fun v iv wr => ∃ i : Nat, i ≤ 3 ∧ iv = .int .i64 i ∧ Ow wr w.heap.size v ((be4 n0 ++ be4 n1 ++ be4 n2).take (4 * i)) ∧ Below w.heap.size w wr) (fun _ iv _ => 3 - (intOf iv).toNat)
  case atStart => exact ⟨0, by omega, rfl, Ho1.out, Hb1.out⟩
  case round =>
    obtain ⟨i, hi, hiv, hown, hbl⟩ := hrel
    have Hown := Lib.hid hown
    have Hbl := Lib.hid hbl
    clear hown hbl Ho1 Hb1
    have h4 : i = 0 ∨ i = 1 ∨ i = 2 ∨ i = 3 := by omega
    obtain rfl | rfl | rfl | rfl := h4
    · replace hiv : _ = Value.int .i64 0 := hiv
      subst hiv
      have hi0 := idx3_0 wr (.int .u32 n0) (.int .u32 n1) (.int .u32 n2)
      go_wp2_with fail
      clear hi0
      go_loopw [3, 18] (fun v jv wr => ∃ j : Nat, j ≤ 4 ∧ jv = .int .i64 j ∧ Ow wr w.heap.size v ([] ++ (be4 n0).take j) ∧ Below w.heap.size w wr) (fun _ jv _ => 4 - (intOf jv).toNat)
      case atStart => exact ⟨0, by omega, rfl, by simpa [be4] using Hown.out, Hbl.out⟩
      case round =>
        obtain ⟨j, hj, rfl, hown, hbl⟩ := hrel
        have Hown := Lib.hid hown
        have Hbl := Lib.hid hbl
        have hwr := hbl.size
        clear hown hbl
        have h5 : j = 0 ∨ j = 1 ∨ j = 2 ∨ j = 3 ∨ j = 4 := by omega
        obtain rfl | rfl | rfl | rfl | rfl := h5
        · go_wp2_with (at_builtin; go_loud (refine wpList_app1 rfl (.tmp 21) (.tmp 28) rfl (b := UInt8.ofNat (n0 / 16777216)) Hown.out (b8_of _ _ (by omega)) rfl rfl (by simp [be4]) hwr ?_); intro v2 w2 hown2 hext2)
          have hbl2 := Hbl.out.trans (hext2.below hwr (fun q hq => (World.ownsRow.lt Hown.out q hq).1))
          have hown3 : Ow w2 w.heap.size v2 ([] ++ (be4 n0).take 1) := by simpa [be4] using hown2
          have Hbl2 := Lib.hid hbl2
          have Hown3 := Lib.hid hown3
          clear hown2 hext2 hbl2 hown3
          try go_wp2_with fail
          go_roundw
          case rel => exact ⟨1, by omega, rfl, Hown3.out, Hbl2.out⟩
          case measure => simp [intOf]
        · go_wp2_with (at_builtin; go_loud (refine wpList_app1 rfl (.tmp 21) (.tmp 28) rfl (b := UInt8.ofNat (n0 / 65536)) Hown.out (b8_of _ _ (by omega)) rfl rfl (by simp [be4]) hwr ?_); intro v2 w2 hown2 hext2)
          have hbl2 := Hbl.out.trans (hext2.below hwr (fun q hq => (World.ownsRow.lt Hown.out q hq).1))
          have hown3 : Ow w2 w.heap.size v2 ([] ++ (be4 n0).take 2) := by simpa [be4] using hown2
          have Hbl2 := Lib.hid hbl2
          have Hown3 := Lib.hid hown3
          clear hown2 hext2 hbl2 hown3
          try go_wp2_with fail
          go_roundw
          case rel => exact ⟨2, by omega, rfl, Hown3.out, Hbl2.out⟩
          case measure => simp [intOf]
        · go_wp2_with (at_builtin; go_loud (refine wpList_app1 rfl (.tmp 21) (.tmp 28) rfl (b := UInt8.ofNat (n0 / 256)) Hown.out (b8_of _ _ (by omega)) rfl rfl (by simp [be4]) hwr ?_); intro v2 w2 hown2 hext2)
          have hbl2 := Hbl.out.trans (hext2.below hwr (fun q hq => (World.ownsRow.lt Hown.out q hq).1))
          have hown3 : Ow w2 w.heap.size v2 ([] ++ (be4 n0).take 3) := by simpa [be4] using hown2
          have Hbl2 := Lib.hid hbl2
          have Hown3 := Lib.hid hown3
          clear hown2 hext2 hbl2 hown3
          try go_wp2_with fail
          go_roundw
          case rel => exact ⟨3, by omega, rfl, Hown3.out, Hbl2.out⟩
          case measure => simp [intOf]
        · go_wp2_with (at_builtin; go_loud (refine wpList_app1 rfl (.tmp 21) (.tmp 28) rfl (b := UInt8.ofNat (n0)) Hown.out (b8_of _ _ (by omega)) rfl rfl (by simp [be4]) hwr ?_); intro v2 w2 hown2 hext2)
          have hbl2 := Hbl.out.trans (hext2.below hwr (fun q hq => (World.ownsRow.lt Hown.out q hq).1))
          have hown3 : Ow w2 w.heap.size v2 ([] ++ (be4 n0).take 4) := by simpa [be4] using hown2
          have Hbl2 := Lib.hid hbl2
          have Hown3 := Lib.hid hown3
          clear hown2 hext2 hbl2 hown3
          try go_wp2_with fail
          go_roundw
          case rel => exact ⟨4, by omega, rfl, Hown3.out, Hbl2.out⟩
          case measure => simp [intOf]
        · go_wp2_with fail
          go_roundw
          case rel => exact ⟨1, by omega, rfl, by simpa [be4] using Hown.out, Hbl.out⟩
          case measure => simp [intOf]
    · replace hiv : _ = Value.int .i64 1 := hiv
      subst hiv
      have hi0 := idx3_1 wr (.int .u32 n0) (.int .u32 n1) (.int .u32 n2)
      go_wp2_with fail
      clear hi0
      go_loopw [3, 18] (fun v jv wr => ∃ j : Nat, j ≤ 4 ∧ jv = .int .i64 j ∧ Ow wr w.heap.size v (be4 n0 ++ (be4 n1).take j) ∧ Below w.heap.size w wr) (fun _ jv _ => 4 - (intOf jv).toNat)
      case atStart => exact ⟨0, by omega, rfl, by simpa [be4] using Hown.out, Hbl.out⟩
      case round =>
        obtain ⟨j, hj, rfl, hown, hbl⟩ := hrel
        have Hown := Lib.hid hown
        have Hbl := Lib.hid hbl
        have hwr := hbl.size
        clear hown hbl
        have h5 : j = 0 ∨ j = 1 ∨ j = 2 ∨ j = 3 ∨ j = 4 := by omega
        obtain rfl | rfl | rfl | rfl | rfl := h5
        · go_wp2_with (at_builtin; go_loud (refine wpList_app1 rfl (.tmp 21) (.tmp 28) rfl (b := UInt8.ofNat (n1 / 16777216)) Hown.out (b8_of _ _ (by omega)) rfl rfl (by simp [be4]) hwr ?_); intro v2 w2 hown2 hext2)
          have hbl2 := Hbl.out.trans (hext2.below hwr (fun q hq => (World.ownsRow.lt Hown.out q hq).1))
          have hown3 : Ow w2 w.heap.size v2 (be4 n0 ++ (be4 n1).take 1) := by simpa [be4] using hown2
          have Hbl2 := Lib.hid hbl2
          have Hown3 := Lib.hid hown3
          clear hown2 hext2 hbl2 hown3
          try go_wp2_with fail
          go_roundw
          case rel => exact ⟨1, by omega, rfl, Hown3.out, Hbl2.out⟩
          case measure => simp [intOf]
        · go_wp2_with (at_builtin; go_loud (refine wpList_app1 rfl (.tmp 21) (.tmp 28) rfl (b := UInt8.ofNat (n1 / 65536)) Hown.out (b8_of _ _ (by omega)) rfl rfl (by simp [be4]) hwr ?_); intro v2 w2 hown2 hext2)
          have hbl2 := Hbl.out.trans (hext2.below hwr (fun q hq => (World.ownsRow.lt Hown.out q hq).1))
          have hown3 : Ow w2 w.heap.size v2 (be4 n0 ++ (be4 n1).take 2) := by simpa [be4] using hown2
          have Hbl2 := Lib.hid hbl2
          have Hown3 := Lib.hid hown3
          clear hown2 hext2 hbl2 hown3
          try go_wp2_with fail
          go_roundw
          case rel => exact ⟨2, by omega, rfl, Hown3.out, Hbl2.out⟩
          case measure => simp [intOf]
        · go_wp2_with (at_builtin; go_loud (refine wpList_app1 rfl (.tmp 21) (.tmp 28) rfl (b := UInt8.ofNat (n1 / 256)) Hown.out (b8_of _ _ (by omega)) rfl rfl (by simp [be4]) hwr ?_); intro v2 w2 hown2 hext2)
          have hbl2 := Hbl.out.trans (hext2.below hwr (fun q hq => (World.ownsRow.lt Hown.out q hq).1))
          have hown3 : Ow w2 w.heap.size v2 (be4 n0 ++ (be4 n1).take 3) := by simpa [be4] using hown2
          have Hbl2 := Lib.hid hbl2
          have Hown3 := Lib.hid hown3
          clear hown2 hext2 hbl2 hown3
          try go_wp2_with fail
          go_roundw
          case rel => exact ⟨3, by omega, rfl, Hown3.out, Hbl2.out⟩
          case measure => simp [intOf]
        · go_wp2_with (at_builtin; go_loud (refine wpList_app1 rfl (.tmp 21) (.tmp 28) rfl (b := UInt8.ofNat (n1)) Hown.out (b8_of _ _ (by omega)) rfl rfl (by simp [be4]) hwr ?_); intro v2 w2 hown2 hext2)
          have hbl2 := Hbl.out.trans (hext2.below hwr (fun q hq => (World.ownsRow.lt Hown.out q hq).1))
          have hown3 : Ow w2 w.heap.size v2 (be4 n0 ++ (be4 n1).take 4) := by simpa [be4] using hown2
          have Hbl2 := Lib.hid hbl2
          have Hown3 := Lib.hid hown3
          clear hown2 hext2 hbl2 hown3
          try go_wp2_with fail
          go_roundw
          case rel => exact ⟨4, by omega, rfl, Hown3.out, Hbl2.out⟩
          case measure => simp [intOf]
        · go_wp2_with fail
          go_roundw
          case rel => exact ⟨2, by omega, rfl, by simpa [be4] using Hown.out, Hbl.out⟩
          case measure => simp [intOf]
    · replace hiv : _ = Value.int .i64 2 := hiv
      subst hiv
      have hi0 := idx3_2 wr (.int .u32 n0) (.int .u32 n1) (.int .u32 n2)
      go_wp2_with fail
      clear hi0
      go_loopw [3, 18] (fun v jv wr => ∃ j : Nat, j ≤ 4 ∧ jv = .int .i64 j ∧ Ow wr w.heap.size v ((be4 n0 ++ be4 n1) ++ (be4 n2).take j) ∧ Below w.heap.size w wr) (fun _ jv _ => 4 - (intOf jv).toNat)
      case atStart => exact ⟨0, by omega, rfl, by simpa [be4] using Hown.out, Hbl.out⟩
      case round =>
        obtain ⟨j, hj, rfl, hown, hbl⟩ := hrel
        have Hown := Lib.hid hown
        have Hbl := Lib.hid hbl
        have hwr := hbl.size
        clear hown hbl
        have h5 : j = 0 ∨ j = 1 ∨ j = 2 ∨ j = 3 ∨ j = 4 := by omega
        obtain rfl | rfl | rfl | rfl | rfl := h5
        · go_wp2_with (at_builtin; go_loud (refine wpList_app1 rfl (.tmp 21) (.tmp 28) rfl (b := UInt8.ofNat (n2 / 16777216)) Hown.out (b8_of _ _ (by omega)) rfl rfl (by simp [be4]) hwr ?_); intro v2 w2 hown2 hext2)
          have hbl2 := Hbl.out.trans (hext2.below hwr (fun q hq => (World.ownsRow.lt Hown.out q hq).1))
          have hown3 : Ow w2 w.heap.size v2 ((be4 n0 ++ be4 n1) ++ (be4 n2).take 1) := by simpa [be4] using hown2
          have Hbl2 := Lib.hid hbl2
          have Hown3 := Lib.hid hown3
          clear hown2 hext2 hbl2 hown3
          try go_wp2_with fail
          go_roundw
          case rel => exact ⟨1, by omega, rfl, Hown3.out, Hbl2.out⟩
          case measure => simp [intOf]
        · go_wp2_with (at_builtin; go_loud (refine wpList_app1 rfl (.tmp 21) (.tmp 28) rfl (b := UInt8.ofNat (n2 / 65536)) Hown.out (b8_of _ _ (by omega)) rfl rfl (by simp [be4]) hwr ?_); intro v2 w2 hown2 hext2)
          have hbl2 := Hbl.out.trans (hext2.below hwr (fun q hq => (World.ownsRow.lt Hown.out q hq).1))
          have hown3 : Ow w2 w.heap.size v2 ((be4 n0 ++ be4 n1) ++ (be4 n2).take 2) := by simpa [be4] using hown2
          have Hbl2 := Lib.hid hbl2
          have Hown3 := Lib.hid hown3
          clear hown2 hext2 hbl2 hown3
          try go_wp2_with fail
          go_roundw
          case rel => exact ⟨2, by omega, rfl, Hown3.out, Hbl2.out⟩
          case measure => simp [intOf]
        · go_wp2_with (at_builtin; go_loud (refine wpList_app1 rfl (.tmp 21) (.tmp 28) rfl (b := UInt8.ofNat (n2 / 256)) Hown.out (b8_of _ _ (by omega)) rfl rfl (by simp [be4]) hwr ?_); intro v2 w2 hown2 hext2)
          have hbl2 := Hbl.out.trans (hext2.below hwr (fun q hq => (World.ownsRow.lt Hown.out q hq).1))
          have hown3 : Ow w2 w.heap.size v2 ((be4 n0 ++ be4 n1) ++ (be4 n2).take 3) := by simpa [be4] using hown2
          have Hbl2 := Lib.hid hbl2
          have Hown3 := Lib.hid hown3
          clear hown2 hext2 hbl2 hown3
          try go_wp2_with fail
          go_roundw
          case rel => exact ⟨3, by omega, rfl, Hown3.out, Hbl2.out⟩
          case measure => simp [intOf]
        · go_wp2_with (at_builtin; go_loud (refine wpList_app1 rfl (.tmp 21) (.tmp 28) rfl (b := UInt8.ofNat (n2)) Hown.out (b8_of _ _ (by omega)) rfl rfl (by simp [be4]) hwr ?_); intro v2 w2 hown2 hext2)
          have hbl2 := Hbl.out.trans (hext2.below hwr (fun q hq => (World.ownsRow.lt Hown.out q hq).1))
          have hown3 : Ow w2 w.heap.size v2 ((be4 n0 ++ be4 n1) ++ (be4 n2).take 4) := by simpa [be4] using hown2
          have Hbl2 := Lib.hid hbl2
          have Hown3 := Lib.hid hown3
          clear hown2 hext2 hbl2 hown3
          try go_wp2_with fail
          go_roundw
          case rel => exact ⟨4, by omega, rfl, Hown3.out, Hbl2.out⟩
          case measure => simp [intOf]
        · go_wp2_with fail
          go_roundw
          case rel => exact ⟨3, by omega, rfl, by simpa [be4] using Hown.out, Hbl.out⟩
          case measure => simp [intOf]
    · replace hiv : _ = Value.int .i64 3 := hiv
      subst hiv
      go_wp2_with fail
      go_ret
      refine ⟨_, rfl, ?_, Hbl.out⟩
      rw [Hk.out]
      simpa [be4] using Hown.out
end Go.Proofs.YtcffeepgfjpcaaaGreat

namespace Go.Proofs.YtcffeepgfjpcaaaGreat
set_option linter.unusedSimpArgs false
set_option linter.unusedVariables false
open Go.RowKit

theorem libBytesOf (l : List UInt8) : Go.Lib.bytesOf (l.map fun b => (b.toNat : Int)) = l := by
  induction l with
  | nil => rfl
  | cons b t ih =>
    have e : Go.Lib.bytesOf ((b :: t).map fun b => (b.toNat : Int)) = (b.toNat : Int).toNat.toUInt8 :: Go.Lib.bytesOf (t.map fun b => (b.toNat : Int)) := rfl
    rw [e, ih]
    congr 1
    rw [Int.toNat_natCast]
    exact UInt8.ofNat_toNat
theorem run_bytesOf {w : World} {B : Nat} {v : Value} {l : List UInt8} (h : By w B v l) : (Extern.Bytes.bytesOf v).run Tryz.prog w = .ok (bst l) w := by
  obtain ⟨A, c, rfl, _, _, hr⟩ := h
  cases A with
  | none =>
    have h0 : l.length = 0 := by
      rcases Nat.eq_zero_or_pos l.length with h | h
      · exact h
      · obtain ⟨_, h, _⟩ := hr.ad h; cases h
    have hl : l = [] := List.eq_nil_of_length_eq_zero h0
    subst hl
    rfl
  | some ad =>
    have hc : ∀ (j : Nat) (x : Int), (l.map fun b => (b.toNat : Int))[j]? = some x → w.cell? (ad.add j) = some (.int .u8 x) := by
      intro j x hx
      rw [List.getElem?_map] at hx
      obtain ⟨b, hb, e⟩ := Option.map_eq_some_iff.1 hx
      subst e
      rcases Nat.eq_zero_or_pos l.length with h | h
      · have hl : l = [] := List.eq_nil_of_length_eq_zero h
        subst hl
        simp at hb
      · obtain ⟨ad', e, _, hc⟩ := hr.ad h
        injection e with e
        subst e
        exact hc j _ (by simp [b8s, b8, hb])
    have hl := Go.Lib.run_loadBytesX (P := Tryz.prog) w (l.map fun b => (b.toNat : Int)) ad .empty hc
    rw [List.length_map, libBytesOf] at hl
    refine hl.trans ?_
    simp [bst, ByteArray.empty, ByteArray.emptyWithCapacity]
    rfl
theorem run_bcmp {w : World} {B1 B2 : Nat} {v1 v2 : Value} {l1 l2 : List UInt8} (h1 : By w B1 v1 l1) (h2 : By w B2 v2 l2) :
    (callFunc 58 #[v1, v2]).run Tryz.prog w = .ok (.value (.int .i64 (Lib.compareBytes l1 l2))) w := by
  rw [run_callFunc_extern (P := Tryz.prog) (e := Extern.BytealgCompare.compare) Tryz.func58 (by kernel_rfl) (by kernel_rfl) (by kernel_rfl) (by kernel_rfl)]
  have e : (Extern.BytealgCompare.compare #[v1, v2]).run Tryz.prog w = .ok (.int .i64 (Lib.compareBytes l1 l2)) w := by
    change Sem.run Tryz.prog (do pure (goInt (Extern.BytealgCompare.cmp (← Extern.Bytes.bytesOf v1) (← Extern.Bytes.bytesOf v2)))) w = _
    simp only [Sem.run_bind, run_bytesOf h1, run_bytesOf h2, Result.andThen, Sem.run_pure]
    rw [Lib.cmp_eq]
    rfl
  rw [e]
  rfl
theorem bcmp_any (w : World) (B1 B2 : Nat) (v1 v2 : Value) (l1 l2 : List UInt8) (h1 : By w B1 v1 l1) (h2 : By w B2 v2 l2) :
    Calls Tryz.prog 33 #[v1, v2] w fun e w' => e = .returned (.int .i64 (Lib.compareBytes l1 l2)) ∧ w' = w := by
  have hr := run_bcmp h1 h2
  clear h1 h2
  generalize Lib.compareBytes l1 l2 = z at *
  go_enter Tryz.func33, Tryz.ntmps33
  go_wp2_with fail
  go_ret
  exact ⟨rfl, rfl⟩
/-- bytes as a number -/
def valB : List UInt8 → Nat
  | [] => 0
  | b :: t => b.toNat * 256 ^ t.length + valB t
theorem valB_lt : ∀ l : List UInt8, valB l < 256 ^ l.length
  | [] => by simp [valB]
  | b :: t => by
    have h := valB_lt t
    have hb := b.toNat_lt
    have hp : 256 ^ (b :: t).length = 256 * 256 ^ t.length := by rw [List.length_cons, Nat.pow_succ, Nat.mul_comm]
    rw [hp, valB]
    have : (b.toNat + 1) * 256 ^ t.length ≤ 256 * 256 ^ t.length := Nat.mul_le_mul_right _ (by omega)
    rw [Nat.add_mul] at this
    omega
theorem cmp_val : ∀ a b : List UInt8, a.length = b.length → Lib.compareBytes a b = if valB a < valB b then -1 else if valB b < valB a then 1 else 0
  | [], [], _ => by simp [Lib.compareBytes]
  | [], _ :: _, h => by simp at h
  | _ :: _, [], h => by simp at h
  | x :: a, y :: b, h => by
    simp only [List.length_cons, Nat.add_right_cancel_iff] at h
    have ih := cmp_val a b h
    have ha := valB_lt a
    have hb := valB_lt b
    rw [h] at ha
    have e1 : valB (x :: a) = x.toNat * 256 ^ b.length + valB a := by rw [valB, h]
    have e2 : valB (y :: b) = y.toNat * 256 ^ b.length + valB b := rfl
    rw [Lib.compareBytes, ih, e1, e2]
    generalize 256 ^ b.length = P at *
    by_cases h1 : x < y
    · have h1' := UInt8.lt_iff_toNat_lt.1 h1
      have : (x.toNat + 1) * P ≤ y.toNat * P := Nat.mul_le_mul_right _ (by omega)
      rw [Nat.add_mul] at this
      rw [if_pos h1, if_pos (by omega)]
    · rw [if_neg h1]
      by_cases h2 : y < x
      · have h2' := UInt8.lt_iff_toNat_lt.1 h2
        have : (y.toNat + 1) * P ≤ x.toNat * P := Nat.mul_le_mul_right _ (by omega)
        rw [Nat.add_mul] at this
        rw [if_pos h2, if_neg (by omega), if_pos (by omega)]
      · have h1' : ¬ x.toNat < y.toNat := fun h => h1 (UInt8.lt_iff_toNat_lt.2 h)
        have h2' : ¬ y.toNat < x.toNat := fun h => h2 (UInt8.lt_iff_toNat_lt.2 h)
        have e : x.toNat = y.toNat := by omega
        rw [if_neg h2, e]
        simp only [Nat.add_lt_add_iff_left]
theorem be4_val (n : Nat) (h : n < 4294967296) : valB (be4 n) = n := by
  simp only [be4, valB, List.length_cons, List.length_nil, UInt8.toNat_ofNat']
  omega
theorem valB_append : ∀ a b : List UInt8, valB (a ++ b) = valB a * 256 ^ b.length + valB b
  | [], b => by simp [valB]
  | x :: a, b => by
    rw [List.cons_append, valB, valB_append a b, valB, List.length_append, Nat.pow_add, Nat.add_mul, Nat.mul_assoc, Nat.add_assoc]
theorem keyL_val (x : GEdge) : valB (keyL x) = x.num := by
  have b0 := u32_lt x.fr
  have b1 := u32_lt x.to
  have b2 := u32_lt x.wt
  have l4 : ∀ n, (be4 n).length = 4 := fun _ => rfl
  unfold keyL GEdge.num
  rw [valB_append, valB_append, be4_val _ b0, be4_val _ b1, be4_val _ b2, l4, l4]
theorem cmp_key (x y : GEdge) : Lib.compareBytes (keyL x) (keyL y) = if x.num < y.num then -1 else if y.num < x.num then 1 else 0 := by
  rw [cmp_val (keyL x) (keyL y) rfl, keyL_val, keyL_val]
end Go.Proofs.YtcffeepgfjpcaaaGreat
