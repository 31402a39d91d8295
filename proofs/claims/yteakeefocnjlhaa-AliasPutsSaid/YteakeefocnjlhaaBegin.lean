/- alias.begin: what neighbours have left, and who lacks -/
import Derived.Test.YteakeefocnjlhaaStepApp
import Derived.Test.YteakeefocnjlhaaGapsGet
import Derived.BigQuiet
import Derived.Deep.RegionLaw
import Derived.Deep.AppendLies
namespace Go.Proofs.Yteakeefocnjlhaa
set_option linter.unusedSimpArgs false
set_option linter.unusedVariables false
open Go.RowKit

def left0 (l : List GArc) (i : Nat) : Nat := l.length * ((l[i]?).getD ⟨0, 0⟩).wt.toNat
def lefts (l : List GArc) (k : Nat) : List UInt64 := (List.range k).map fun i => UInt64.ofNat (left0 l i)
def poors (l : List GArc) (k : Nat) : List Int := ((List.range k).filter fun i => decide (left0 l i < gsum l)).map fun (i : Nat) => (i : Int)
theorem lefts_len (l : List GArc) (k : Nat) : (lefts l k).length = k := by simp [lefts]
theorem lefts_succ (l : List GArc) (k : Nat) : lefts l (k + 1) = lefts l k ++ [UInt64.ofNat (left0 l k)] := by simp [lefts, List.range_succ]
theorem poors_yes (l : List GArc) (k : Nat) (h : left0 l k < gsum l) : poors l (k + 1) = poors l k ++ [(k : Int)] := by simp [poors, List.range_succ, h]
theorem poors_no (l : List GArc) (k : Nat) (h : ¬ left0 l k < gsum l) : poors l (k + 1) = poors l k := by simp [poors, List.range_succ, h]
theorem poors_len (l : List GArc) (k : Nat) : (poors l k).length ≤ k := by
  have := List.length_filter_le (fun i => decide (left0 l i < gsum l)) (List.range k)
  simp [poors] at this ⊢
  exact this
theorem info64' : (Try.prog.info? 26).map (fun i => (i.zero, i.size, i.bytes)) = some (some (.int .u64 0), c64.n, 8) := by kernel_rfl
theorem infoInt : (Try.prog.info? 3).map (fun i => (i.zero, i.size, i.bytes)) = some (some (.int .i64 0), cInt.n, 8) := by kernel_rfl

theorem BoxAt.drew_ {T : TypeId} {w : World} {g : Nat} {cs : List Value} (h : BoxAt T w g cs) : BoxAt T w.drew g cs := h
theorem OwnR.drew_ {α : Type} {E : TypeId} {C : Cdc α} {w : World} {base : Nat} {S : Nat → Prop} {v : Value} {xs : List α} (h : OwnR E C w base S v xs) : OwnR E C w.drew base S v xs := h.below_ (Below.refl _ _).drew

set_option maxRecDepth 100000 in
set_option maxHeartbeats 3200000 in
theorem begin_any (w : World) (B : Nat) (v : Value) (l : List GArc) (hl : l.length ≤ 1048576) (h : ByA w B v l) (hB : B ≤ w.heap.size) :
    Calls Try.prog 80 #[v] w fun e w' => ∃ g vl vp, e = .returned (.pointer (some ⟨g, 0, none⟩)) ∧ w.heap.size ≤ g ∧ BoxAt 117 w' g [.int .u64 (gsum l : Nat), vl, vp, .int .i64 0] ∧
      OwnF 26 c64 w' (g + 1) vl (lefts l l.length) ∧ OwnF 3 cInt w' (g + 1) vp (poors l l.length) ∧ Apart vl vp ∧ Below w.heap.size w w' := by
  obtain ⟨A, c, rfl, hc1, hc2⟩ := h.form
  unfold maxLen at hc2
  have hS := gsum_lt l
  have hSS : gsum l < 18446744073709551616 := by omega
  have hsum := gsum_any w B (.slice A l.length c) l (by omega) h hB
  have Hsum := Lib.hid hsum
  clear hsum hS
  go_enter Try.func80, Try.ntmps80
  go_wp2_with fail
  refine Hsum.out.mono ?_
  rintro _ w1 ⟨rfl, hb1⟩
  go_wp2_with fail
  have hs1 := hb1.size
  have hbx0 := BoxAt.new_ 117 w1 [.int .u64 (gsum l : Nat), .slice none 0 0, .slice none 0 0, .int .i64 0]
  have hb02 := bstep hb1 (balloc w1 (.cells #[.int .u64 (gsum l : Nat), .slice none 0 0, .slice none 0 0, .int .i64 0] 117))
  generalize hgg : w1.heap.size = g at *
  have hw2 : (w1.alloc (.cells #[.int .u64 (gsum l : Nat), .slice none 0 0, .slice none 0 0, .int .i64 0] 117)).heap.size = g + 1 := by simp [hgg]
  generalize hW2 : w1.alloc (.cells #[.int .u64 (gsum l : Nat), .slice none 0 0, .slice none 0 0, .int .i64 0] 117) = w2 at *
  have hbx0' : BoxAt 117 w2 g [.int .u64 (gsum l : Nat), .slice none 0 0, .slice none 0 0, .int .i64 0] := hbx0
  have Hbx0 := Lib.hid hbx0'
  have Hb02 := Lib.hid hb02
  clear hbx0 hbx0' hb02 hb1 hgg hW2
  go_loopw [12] (fun i wr => ∃ (k : Nat) (vl vp : Value), k ≤ l.length ∧ i = .int .i64 k ∧ BoxAt 117 wr g [.int .u64 (gsum l : Nat), vl, vp, .int .i64 0] ∧ OwnF 26 c64 wr (g + 1) vl (lefts l k) ∧ OwnF 3 cInt wr (g + 1) vp (poors l k) ∧ Apart vl vp ∧ Below w.heap.size w wr) (fun i _ => l.length - (intOf i).toNat)
  case atStart => exact ⟨0, _, _, by omega, rfl, Hbx0.out, OwnF.nil_ _ _, OwnF.nil_ _ _, fun q hq => by simp [Value.ownBlock] at hq, Hb02.out⟩
  case round =>
    obtain ⟨k, vl, vp, hk, rfl, hbx, hol, hop, hap, hbl⟩ := hrel
    have hbz := hbl.size
    have hglt := hbx.lt
    by_cases hlt : k < l.length
    · obtain ⟨ad, rfl, hab, hx0, hx1⟩ := (h.below (hbl.mono hB)).cells k hlt
      have hwt := u32_lt (l[k]).wt
      have hl0 : left0 l k = l.length * (l[k]).wt.toNat := by unfold left0; rw [List.getElem?_eq_getElem hlt]; rfl
      have hmb : l.length * (l[k]).wt.toNat ≤ 1048576 * 4294967295 := Nat.mul_le_mul hl (by omega)
      have hmul : IntKind.u64.wrap ((l.length : Int) * ((l[k]).wt.toNat : Int)) = ((l.length * (l[k]).wt.toNat : Nat) : Int) := by
        rw [← Int.natCast_mul, wrap_u64]; omega
      have hls := lefts_succ l k
      have hpy := poors_yes l k
      have hpn := poors_no l k
      rw [hl0] at hls hpy hpn
      generalize (l[k]).to.toNat = to at *
      generalize (l[k]).wt.toNat = wt at *
      generalize l.length * wt = p at *
      obtain ⟨Al, cl, rfl, hcl1, hcl2, _⟩ := hol.form'
      obtain ⟨Ap, cp, rfl, hcp1, hcp2, _⟩ := hop.form'
      rw [lefts_len] at hcl1
      go_wp2_with fail
      have hbA := balloc wr (.cells #[.int .u32 (to : Int), .int .u32 (wt : Int)] 38)
      have hcA := BoxAt.new_ 38 wr [.int .u32 (to : Int), .int .u32 (wt : Int)]
      have Hbx := Lib.hid (hbx.alloc (.cells #[.int .u32 (to : Int), .int .u32 (wt : Int)] 38))
      have HcA := Lib.hid hcA
      have hol' := hol
      have Hol := Lib.hid (hol.below_ hbA)
      have Hop := Lib.hid (hop.below_ hbA)
      have Hbl := Lib.hid (hbl.trans (hbA.mono hbz))
      have Hap := Lib.hid hap
      have Hls := Lib.hid hls
      have Hpy := Lib.hid hpy
      have Hpn := Lib.hid hpn
      clear hbA hcA hbx hol hop hbl hap hls hpy hpn hx0 hx1 hl0
      have hnq : ∀ q, (Value.slice Al (lefts l k).length cl).ownBlock = some q → some q ≠ some wr.heap.size := fun q hq e => by injection e with e; have := (hol'.blk q hq).2; omega
      clear hol'
      have hgcz : wr.heap.size < (wr.alloc (.cells #[.int .u32 (to : Int), .int .u32 (wt : Int)] 38)).heap.size := by simp
      generalize wr.alloc (.cells #[.int .u32 (to : Int), .int .u32 (wt : Int)] 38) = wa at *
      generalize wr.heap.size = gc at *
      have hblk := Hol.out.blk
      have hng : some g ≠ (Value.slice Al (lefts l k).length cl).ownBlock := fun e => by have := hblk _ e.symm; omega
      have hnc : some gc ≠ (Value.slice Al (lefts l k).length cl).ownBlock := fun e => hnq gc e.symm rfl
      have hy1 := Hbx.out.cell 1 _ rfl
      have hf1 := Hbx.out.frozen 1
      have hz1 := HcA.out.cell 1 _ rfl
      have hlg := Hbx.out.lt
      have hp64 : (UInt64.ofNat p).toNat = p := by rw [UInt64.toNat_ofNat']; omega
      clear hblk
      have hq : IntKind.u64.wrap (IntKind.u64.wrap (l.length : Int) * IntKind.u64.wrap (wt : Int)) = (p : Int) := by
        rw [← hmul, wrap_u64 (l.length : Int), wrap_u64 (wt : Int), Int.emod_eq_of_lt (by omega) (by omega), Int.emod_eq_of_lt (by omega) (by omega)]
      have Hq := Lib.hid hq
      clear hq
      go_wp2_with fail
      have hk1 := (Hbx.out.alloc (.cells #[.int .u64 (IntKind.u64.wrap (IntKind.u64.wrap (l.length : Int) * IntKind.u64.wrap (wt : Int)))] 26)).drew_
      have hk2 := (HcA.out.alloc (.cells #[.int .u64 (IntKind.u64.wrap (IntKind.u64.wrap (l.length : Int) * IntKind.u64.wrap (wt : Int)))] 26)).drew_
      have hka := hk1.cell 1 _ rfl
      have hkb := hk2.cell 1 _ rfl
      have hkf := hk1.frozen 1
      have Hk1 := Lib.hid hk1
      have Hk2 := Lib.hid hk2
      have Hka := Lib.hid hka
      have Hkb := Lib.hid hkb
      have Hkf := Lib.hid hkf
      clear hk1 hk2 hka hkb hkf
      go_region_law
        ((go_loud (refine step_app1R (by rfl) _ _ 81 (by rfl) Try.underlying81 info64' (by rfl) (by decide) (by decide) (y := UInt64.ofNat p) [.int .u64 (IntKind.u64.wrap (IntKind.u64.wrap (l.length : Int) * IntKind.u64.wrap (wt : Int)))] (Hol.out.alloc _).drew_ ⟨by simp only [hp64, Hq.out], trivial⟩ (BoxAt.new_ 26 wa [.int .u64 (IntKind.u64.wrap (IntKind.u64.wrap (l.length : Int) * IntKind.u64.wrap (wt : Int)))]).drew_ (by rfl) (by rfl) (by rw [lefts_len]; omega) (by simp; omega) ?_); intro v3 w3 hown3 hext3; obtain ⟨A3, c3, rfl, hd1, hd2, _⟩ := hown3.form'; have hk3 := Hk1.out.grown hext3.gr hng.symm; have hs3 := hk3.cell 1 _ rfl; have hs4 := hk3.frozen 1))
      all_goals
        go_wp2_with fail
        rw [lefts_len]
        have hown3' : OwnF 26 c64 w3 (g + 1) (.slice A3 (k + 1) c3) (lefts l (k + 1)) := by
          rw [Hls.out, show k + 1 = (lefts l k ++ [UInt64.ofNat p]).length from by simp [lefts_len]]
          exact hown3
        have hbx4 := hk3.put 1 (.slice A3 (k + 1) c3)
        have hown4 := OwnR.grownRd hown3' (gset w3 ⟨g, 1, none⟩ (.slice A3 (k + 1) c3)) (by show g < g + 1; omega)
        have hopA := (Hop.out.alloc (.cells #[.int .u64 (IntKind.u64.wrap (IntKind.u64.wrap (l.length : Int) * IntKind.u64.wrap (wt : Int)))] 26)).drew_
        have hop4 := OwnR.grownRd (hopA.keep hext3.gr Hap.out.symm.ne (fun _ h => h.elim)) (gset w3 ⟨g, 1, none⟩ (.slice A3 (k + 1) c3)) (by show g < g + 1; omega)
        have hap4 := (Hap.out.symm.ext hext3 (fun q hq => (hopA.blk q hq).2)).symm
        have hb4 : Below w.heap.size w (w3.setCell ⟨g, 1, none⟩ (.slice A3 (k + 1) c3)) := by
          have hA := (Hbl.out.trans ((balloc wa (.cells #[.int .u64 (IntKind.u64.wrap (IntKind.u64.wrap (l.length : Int) * IntKind.u64.wrap (wt : Int)))] 26)).mono Hbl.out.size)).drew
          exact (hA.trans (hext3.below hA.size (fun q hq => by have := (Hol.out.blk q hq).1; omega))).setCell (p := ⟨g, 1, none⟩) hs1 _
        have Hown4 := Lib.hid hown4
        have Hop4 := Lib.hid hop4
        have Hap4 := Lib.hid hap4
        have Hb4 := Lib.hid hb4
        have Hbx4 := Lib.hid hbx4
        have hy0 := hbx4.cell 0 _ rfl
        have hy1' := hbx4.cell 1 _ rfl
        have hy2 := hbx4.cell 2 _ rfl
        obtain ⟨a3, cs3, rfl, hblk3, ⟨rfl, _⟩, hcs3⟩ := hown4.row.at_ k (UInt64.ofNat p) (by rw [Hls.out, List.getElem?_append_right (by rw [lefts_len]; omega), lefts_len, Nat.sub_self]; rfl)
        have hy3 := hcs3 0 _ rfl
        have hp64' : (((UInt64.ofNat p).toNat : Nat) : Int) = (p : Int) := by rw [hp64]
        replace hy3 : (w3.setCell ⟨g, 1, none⟩ (.slice (some a3) (k + 1) c3)).cell? (a3.add k) = some (.int .u64 (p : Int)) := by
          have h9 : k * c64.n + 0 = k := by show k * 1 + 0 = k; omega
          rw [h9, hp64'] at hy3
          exact hy3
        have hkk : decide ((k : Int) < ((k + 1 : Nat) : Int)) = true := decide_eq_true (by omega)
        clear hs3 hs4 hk3 hbx4 hown4 hop4 hap4 hb4 hown3 hown3' hext3 hopA hcs3 hblk3 hd1 hng hnc hy1 hf1 hz1 hp64' hmul hd2
        generalize w3.setCell ⟨g, 1, none⟩ (.slice (some a3) (k + 1) c3) = w4 at *
        by_cases hpw : p < gsum l
        · have hdp : decide (p < gsum l) = true := decide_eq_true hpw
          have Hpp := Lib.hid (Hpy.out hpw)
          clear hpw
          go_wp2_with fail
          go_quiet (fail)
          have hop5 := OwnR.below_ Hop4.out (bdrewN (Below.refl _ _) nq)
          have hpl := poors_len l k
          have hn2 : (poors l k).length ≤ 549755813887 := by omega
          have Hop5 := Lib.hid hop5
          clear hop5 hpl
          have hbx5 : BoxAt 117 (w4.drewN nq) g _ := Hbx4.out
          have hglt5 := hbx5.lt
          have Hbx5 := Lib.hid hbx5
          clear hbx5
          go_wp2_with (at_builtin
                       go_loud (refine wpList_app1R rfl (.tmp 49) (.tmp 51) 115 rfl Try.underlying115 infoInt rfl (by decide) (by decide) (y := (k : Int)) [.int .i64 (k : Int)] Hop5.out ⟨rfl, by omega, by omega⟩ rfl rfl hn2 (by omega) ?_)
                       intro v6 w6 hown6 hext6
                       obtain ⟨A6, c6, rfl, _, _, _⟩ := hown6.form'
                       have hng6 : (Value.slice Ap (poors l k).length cp).ownBlock ≠ some g := fun e => by have := (Hop5.out.blk _ e).1; omega
                       have hk6 := Hbx5.out.grown hext6.gr hng6
                       have hs6 := hk6.cell 2 _ rfl
                       have hs7 := hk6.frozen 2)
          have hown6' : OwnF 3 cInt w6 (g + 1) (.slice A6 ((poors l k).length + 1) c6) (poors l (k + 1)) := by
            rw [Hpp.out, show (poors l k).length + 1 = (poors l k ++ [(k : Int)]).length from by simp]
            exact hown6
          have hbx7 := hk6.put 2 (.slice A6 ((poors l k).length + 1) c6)
          have hop7 := OwnR.grownRd hown6' (gset w6 ⟨g, 2, none⟩ (.slice A6 ((poors l k).length + 1) c6)) (by show g < g + 1; omega)
          have holA := OwnR.below_ Hown4.out (bdrewN (Below.refl _ _) nq)
          have hol7 := OwnR.grownRd (holA.keep hext6.gr Hap4.out.ne (fun _ h => h.elim)) (gset w6 ⟨g, 2, none⟩ (.slice A6 ((poors l k).length + 1) c6)) (by show g < g + 1; omega)
          have hap7 := Hap4.out.ext hext6 (fun q hq => (holA.blk q hq).2)
          have hb7 : Below w.heap.size w (w6.setCell ⟨g, 2, none⟩ (.slice A6 ((poors l k).length + 1) c6)) := by
            have hA := bdrewN Hb4.out nq
            exact (hA.trans (hext6.below hA.size (fun q hq => by have := (Hop5.out.blk q hq).1; omega))).setCell (p := ⟨g, 2, none⟩) hs1 _
          clear hs6 hs7 hk6
          go_wp2_with fail
          go_roundw
          case rel => exact ⟨k + 1, _, _, by omega, by go_num, hbx7, hol7, hop7, (by have h := hap7; simp only [List.length_append, List.length_singleton, lefts_len] at h; exact h), hb7⟩
          case measure => simp [intOf]; omega
        · have hdp : decide (p < gsum l) = false := decide_eq_false hpw
          have Hpp := Lib.hid (Hpn.out hpw)
          clear hpw
          go_wp2_with fail
          go_quiet (fail)
          go_wp2_with fail
          go_roundw
          case rel => exact ⟨k + 1, _, _, by omega, by go_num, Hbx4.out, Hown4.out.below_ (bdrewN (Below.refl _ _) _), by rw [Hpp.out]; exact Hop4.out.below_ (bdrewN (Below.refl _ _) _), fun q hq e => Hap4.out q hq e, bdrewN Hb4.out _⟩
          case measure => simp [intOf]; omega
    · obtain rfl : k = l.length := by omega
      go_wp2_with fail
      go_ret
      exact ⟨_, _, _, rfl, hs1, hbx, hol, hop, hap, hbl⟩
end Go.Proofs.Yteakeefocnjlhaa
