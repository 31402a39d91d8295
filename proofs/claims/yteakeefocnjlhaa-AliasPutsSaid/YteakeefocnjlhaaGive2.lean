/- (*alias.rests).give -/
import Derived.Test.YteakeefocnjlhaaGive
namespace Go.Proofs.Yteakeefocnjlhaa
set_option linter.unusedSimpArgs false
set_option linter.unusedVariables false
open Go.RowKit

set_option maxRecDepth 100000 in
set_option maxHeartbeats 3200000 in
theorem give_any (w : World) (g W base n : Nat) (vl vp : Value) (rich i j : Nat) (left ps : List Nat) (P : Nat → Prop) (hbx : BoxAt 117 w g [.int .u64 (W : Int), vl, vp, .int .i64 (rich : Int)])
    (hl : RwAt 26 .u64 w base vl left) (hp : RwAt 3 .i64 w base vp ps) (hap : Apart vl vp) (hgl : vl.ownBlock ≠ some g) (hgp : vp.ownBlock ≠ some g) (hbase : base ≤ w.heap.size)
    (hn : left.length = n) (hn2 : n ≤ 1048576) (hps : ps.length ≤ n) (hW : W ≤ 2147483647) (hi : i < n) (hj : j < n) (hiW : left.getD i 0 < W) (hjW : W < left.getD j 0) (hmx : left.getD j 0 ≤ 4503599627370496) (hr : rich ≤ j)
    (hrk : ∀ k, k < j → left.getD k 0 ≤ W) (hpr : ps.Pairwise (· < ·)) (hPg : P g) (hPl : ∀ q, vl.ownBlock = some q → P q) (hPp : ∀ q, vp.ownBlock = some q → P q) :
    Calls Try.prog 82 #[.pointer (some ⟨g, 0, none⟩), .int .i64 (i : Int)] w fun e w' => e = .returned (.int .i64 (j : Int)) ∧ ∃ vp', BoxAt 117 w' g [.int .u64 (W : Int), vl, vp', .int .i64 (j : Int)] ∧
      RwAt 26 .u64 w' base vl (pay W left i j) ∧ RwAt 3 .i64 w' base vp' (if left.getD j 0 - (W - left.getD i 0) < W then ins ps (ps.countP fun x => decide (x < j)) j else ps) ∧
      (vp'.ownBlock = vp.ownBlock ∨ ∃ q, vp'.ownBlock = some q ∧ w.heap.size ≤ q) ∧ Chg P w w' := by
  have Hrk := Lib.hid hrk
  have Hpr := Lib.hid hpr
  have HPl := Lib.hid hPl
  have HPp := Lib.hid hPp
  clear hrk hpr hPl hPp
  have hij : i ≠ j := fun e => by subst e; omega
  obtain ⟨ps', hps'⟩ : ∃ ps', ps' = (if left.getD j 0 - (W - left.getD i 0) < W then ins ps (ps.countP fun x => decide (x < j)) j else ps) := ⟨_, rfl⟩
  rw [← hps']
  have Hps := Lib.hid hps'
  clear hps'
  go_enter Try.func82, Try.ntmps82
  go_wp2_with fail
  go_loopg [] (j - rich) (fun gh wr => ∃ r : Nat, r ≤ j ∧ j - r ≤ gh ∧ BoxAt 117 wr g [.int .u64 (W : Int), vl, vp, .int .i64 (r : Int)] ∧ RwAt 26 .u64 wr base vl left ∧ RwAt 3 .i64 wr base vp ps ∧ Chg P w wr)
  case atStart => exact ⟨rich, hr, Nat.le_refl _, hbx, hl, hp, Chg.refl _ _⟩
  case round =>
    obtain ⟨r, hrj, hgh, hbx1, hl1, hp1, hc1⟩ := hrel
    obtain ⟨Al, cl, rfl, hcl1, hcl2⟩ := hl1.form
    unfold maxLen at hcl2
    obtain ⟨_, b, off, rfl, hb1, hb2, hxj, hxf⟩ := hl1.at_ j (left.getD j 0) (by rw [getD_get _ _ (by omega)]; exact List.getElem?_eq_getElem _)
    obtain ⟨_, b', off', e, _, _, hxi, _⟩ := hl1.at_ i (left.getD i 0) (by rw [getD_get _ _ (by omega)]; exact List.getElem?_eq_getElem _)
    injection e with e; injection e with e1 e2 _
    subst e1; subst e2
    have hy0 := hbx1.cell 0 _ rfl
    have hy1 := hbx1.cell 1 _ rfl
    have hy3 := hbx1.cell 3 _ rfl
    have hf3 := hbx1.frozen 3
    rw [hn] at hy1
    by_cases hrlt : r < j
    · have hle := Hrk.out r hrlt
      obtain ⟨_, b', off', e, _, _, hxr, _⟩ := hl1.at_ r (left.getD r 0) (by rw [getD_get _ _ (by omega)]; exact List.getElem?_eq_getElem _)
      injection e with e; injection e with e1 e2 _
      subst e1; subst e2
      have Hbx1 := Lib.hid hbx1
      have Hl1 := Lib.hid hl1
      have Hp1 := Lib.hid hp1
      have Hc1 := Lib.hid hc1
      clear hbx1 hl1 hp1 hc1 hxj hxi
      generalize left.getD r 0 = lr at *
      have hd : decide (lr ≤ W) = true := decide_eq_true hle
      have hrn : r < left.length := by omega
      go_wp2_with fail
      go_quiet (fail)
      go_wp2_with fail
      go_roundg (j - (r + 1))
      case measure => omega
      case rel => exact ⟨r + 1, by omega, Nat.le_refl _, BoxAt.put (w := wr.drewN _) Hbx1.out 3 _, (Hl1.out.drewN_ _).set_ _ _ hgl, (Hp1.out.drewN_ _).set_ _ _ hgp, (Hc1.out.drewN_ _).trans (Chg.set _ _ _ hPg)⟩
    · obtain rfl : r = j := by omega
      have Hbx1 := Lib.hid hbx1
      have Hl1 := Lib.hid hl1
      have Hp1 := Lib.hid hp1
      have Hc1 := Lib.hid hc1
      clear hbx1 hl1 hp1 hc1
      generalize hLI : left.getD i 0 = li at *
      generalize hLJ : left.getD r 0 = lj at *
      have HLI := Lib.hid hLI
      have HLJ := Lib.hid hLJ
      clear hLI hLJ
      have hd : decide (lj ≤ W) = false := decide_eq_false (by omega)
      have hrn : r < left.length := by omega
      have hin : i < left.length := by omega
      go_wp2_with fail
      go_quiet (fail)
      go_wp2_with fail
      have HbxD := Lib.hid (show BoxAt 117 (wr.drewN nq) g _ from Hbx1.out)
      have HlD := Lib.hid (Hl1.out.drewN_ nq)
      have HpD := Lib.hid (Hp1.out.drewN_ nq)
      have HcD := Lib.hid (Hc1.out.drewN_ nq)
      have hb2D : b < (wr.drewN nq).heap.size := hb2
      replace hxj : (wr.drewN nq).cell? _ = _ := hxj
      replace hxi : (wr.drewN nq).cell? _ = _ := hxi
      replace hy0 : (wr.drewN nq).cell? _ = _ := hy0
      replace hy1 : (wr.drewN nq).cell? _ = _ := hy1
      replace hxf : (wr.drewN nq).frozen? _ = _ := hxf
      clear hbx hl hp hb2 hy3 hf3 Hbx1 Hl1 Hp1 Hc1
      generalize wr.drewN nq = wd at *
      have hs1 : IntKind.u64.wrap ((W : Int) - (li : Int)) = ((W - li : Nat) : Int) := by rw [wrap_u64]; omega
      have hs2 : IntKind.u64.wrap ((lj : Int) - ((W - li : Nat) : Int)) = ((lj - (W - li) : Nat) : Int) := by rw [wrap_u64]; omega
      have hs3 : IntKind.u64.wrap ((lj : Int) - IntKind.u64.wrap ((W : Int) - (li : Int))) = ((lj - (W - li) : Nat) : Int) := by rw [hs1, hs2]
      go_region
      have hgb : g ≠ b := fun e => hgl (by rw [e]; rfl)
      have hl2 := Lib.hid ((HlD.out.put r (lj - (W - li)) (by omega)).drew_)
      have hp2 := Lib.hid ((HpD.out.set_ ⟨b, off + r, none⟩ (.int .u64 ((lj - (W - li) : Nat) : Int)) (fun e => hap b rfl e)).drew_)
      have hbx2 := Lib.hid (show BoxAt 117 (wd.setCell ⟨b, off + r, none⟩ (.int .u64 ((lj - (W - li) : Nat) : Int))).drew g _ from HbxD.out.other ⟨b, off + r, none⟩ (.int .u64 ((lj - (W - li) : Nat) : Int)) (fun e => hgb e.symm))
      have hc2 := Lib.hid ((HcD.out.trans (Chg.set wd ⟨b, off + r, none⟩ (.int .u64 ((lj - (W - li) : Nat) : Int)) (HPl.out b rfl))).drew_)
      clear hxj hxi hy0 hy1 hxf HbxD HlD HpD HcD hb2D
      generalize (wd.setCell ⟨b, off + r, none⟩ (.int .u64 ((lj - (W - li) : Nat) : Int))).drew = w2 at *
      have hy0 := hbx2.out.cell 0 _ rfl
      have hy1 := hbx2.out.cell 1 _ rfl
      rw [hn] at hy1
      obtain ⟨_, b', off', e, _, _, hxi, hxf⟩ := hl2.out.at_ i li (by rw [List.getElem?_set, if_neg (fun e => hij e.symm), List.getElem?_eq_getElem hin, ← HLI.out, getD_get])
      injection e with e; injection e with e1 e2 _
      subst e1; subst e2
      go_wp2_with fail
      go_region
      have hl3 := Lib.hid ((hl2.out.put i W (by rw [List.length_set]; omega)).drew_)
      have hp3 := Lib.hid ((hp2.out.set_ ⟨b, off + i, none⟩ (.int .u64 (W : Int)) (fun e => hap b rfl e)).drew_)
      have hbx3 := Lib.hid (show BoxAt 117 (w2.setCell ⟨b, off + i, none⟩ (.int .u64 (W : Int))).drew g _ from hbx2.out.other ⟨b, off + i, none⟩ (.int .u64 (W : Int)) (fun e => hgb e.symm))
      have hc3 := Lib.hid ((hc2.out.trans (Chg.set w2 ⟨b, off + i, none⟩ (.int .u64 (W : Int)) (HPl.out b rfl))).drew_)
      clear hxi hxf hy0 hy1 hl2 hp2 hbx2 hc2
      generalize (w2.setCell ⟨b, off + i, none⟩ (.int .u64 (W : Int))).drew = w3 at *
      have hy0 := hbx3.out.cell 0 _ rfl
      have hy1 := hbx3.out.cell 1 _ rfl
      have hy2 := hbx3.out.cell 2 _ rfl
      have hf2 := hbx3.out.frozen 2
      rw [hn] at hy1
      obtain ⟨_, b', off', e, _, _, hxj, _⟩ := hl3.out.at_ r (lj - (W - li)) (by rw [List.getElem?_set, if_neg hij, List.getElem?_set, if_pos rfl, if_pos (by omega)])
      injection e with e; injection e with e1 e2 _
      subst e1; subst e2
      have hpay : (left.set r (lj - (W - li))).set i W = pay W left i r := by unfold pay; rw [HLI.out, HLJ.out]
      rw [hpay] at hl3
      have Hpay := Lib.hid hpay
      clear hpay
      clear hs1 hs2 hs3
      have hnjb : lj - (W - li) ≤ 4503599627370496 := by omega
      generalize hnj : lj - (W - li) = nj at *
      have Hnj := Lib.hid hnj
      clear hnj
      by_cases hlt : nj < W
      · have hd2 : decide (nj < W) = true := decide_eq_true hlt
        go_wp2_with fail
        go_quiet (fail)
        go_wp2_with fail
        obtain ⟨Ap, cp, rfl, hcp1, hcp2⟩ := hp3.out.form
        go_wp2_with fail
        refine (bsearch_any (w3.drewN nq) base _ ps r (hp3.out.drewN_ _) (by omega) Hpr.out).mono ?_
        rintro _ w4 ⟨fo, rfl, q4, rfl⟩
        have hl4 := Lib.hid ((hl3.out.drewN_ nq).drewN_ q4)
        have hp4 := Lib.hid ((hp3.out.drewN_ nq).drewN_ q4)
        have hbx4 := Lib.hid (show BoxAt 117 ((w3.drewN nq).drewN q4) g _ from hbx3.out)
        have hc4 := Lib.hid ((hc3.out.drewN_ nq).drewN_ q4)
        replace hy2 : ((w3.drewN nq).drewN q4).cell? _ = _ := hy2
        replace hf2 : ((w3.drewN nq).drewN q4).frozen? _ = _ := hf2
        have hle : ps.countP (fun x => decide (x < r)) ≤ ps.length := List.countP_le_length
        have e9 := Hps.out
        rw [if_pos hlt] at e9
        have E9 := Lib.hid e9
        clear hxj hy0 hy1 hl3 hp3 hbx3 hc3 e9 Hps
        generalize (w3.drewN nq).drewN q4 = w4 at *
        generalize (ps.countP fun x => decide (x < r)) = at4 at *
        go_wp2_with fail
        have hp5 := (hp4.out.alloc_ (.cells #[.int .i64 (r : Int)] 3))
        have harg := BoxAt.new_ 3 w4 [.int .i64 (r : Int)]
        have hbx5 := Lib.hid (hbx4.out.alloc (.cells #[.int .i64 (r : Int)] 3))
        have hl5 := Lib.hid (hl4.out.alloc_ (.cells #[.int .i64 (r : Int)] 3))
        have hblk := hp4.out.blk
        refine (insert_any _ base _ ps at4 r w4.heap.size hle (by omega) hp5 harg (fun e => by have := (hblk _ e).2; omega) (by have := hc4.out.size; simp; omega)).mono ?_
        rintro _ w6 ⟨v6, rfl, hp6, hg6, ho6⟩
        obtain ⟨A6, c6, rfl, h61, h62⟩ := hp6.form
        have hbx6 := hbx5.out.grown hg6 hgp
        have hl6 := Lib.hid (hl5.out.keep hg6 hap)
        have hc6 := Lib.hid ((hc4.out.alloc_ (.cells #[.int .i64 (r : Int)] 3)).trans (Chg.ofGrown hg6 HPp.out))
        have hglt := hbx5.out.lt
        have hws : w.heap.size ≤ (w4.alloc (.cells #[.int .i64 (r : Int)] 3)).heap.size := (hc4.out.alloc_ _).size
        have hg6' : (Value.slice A6 (ins ps at4 r).length c6).ownBlock ≠ some g := fun e => by
          rcases ho6 with h | ⟨q, h, h2⟩
          · exact hgp (by rw [← h]; exact e)
          · rw [h] at e; injection e with e; omega
        have hy2' := hbx6.cell 2 _ rfl
        have hf2' := hbx6.frozen 2
        have ho7 : (Value.slice A6 (ins ps at4 r).length c6).ownBlock = (Value.slice Ap ps.length cp).ownBlock ∨ ∃ q, (Value.slice A6 (ins ps at4 r).length c6).ownBlock = some q ∧ w.heap.size ≤ q := by
          rcases ho6 with h | ⟨q, h, h2⟩
          · exact Or.inl h
          · exact Or.inr ⟨q, h, by omega⟩
        have Hp6 := Lib.hid hp6
        have Hbx6 := Lib.hid hbx6
        have Ho7 := Lib.hid ho7
        have Hg6' := Lib.hid hg6'
        clear hp6 hbx6 ho6 ho7 hg6 hp5 harg hbx5 hl5 hp4 hl4 hbx4 hc4 hy2 hf2 hg6' hglt hblk hws
        go_wp2_with fail
        go_ret
        exact ⟨rfl, _, Hbx6.out.put 2 _, hl6.out.set_ _ _ hgl, by rw [E9.out]; exact Hp6.out.set_ _ _ Hg6'.out, Ho7.out, hc6.out.trans (Chg.set _ _ _ hPg)⟩
      · have hd2 : decide (nj < W) = false := decide_eq_false hlt
        go_wp2_with fail
        go_quiet (fail)
        go_wp2_with fail
        go_ret
        have e9 := Hps.out
        rw [if_neg hlt] at e9
        subst e9
        exact ⟨rfl, vp, hbx3.out, hl3.out, hp3.out, Or.inl rfl, hc3.out.drewN_ _⟩
end Go.Proofs.Yteakeefocnjlhaa
