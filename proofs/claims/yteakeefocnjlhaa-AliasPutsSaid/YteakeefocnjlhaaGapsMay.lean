/- gaps.May, gaps.Put -/
import Derived.Test.YteakeefocnjlhaaArc
import Derived.Test.YteakeefocnjlhaaVarPut
namespace Go.Proofs.Yteakeefocnjlhaa
set_option linter.unusedSimpArgs false
set_option linter.unusedVariables false
open Go.RowKit

theorem gmay_take (l : List GArc) (k : Nat) (h : k < l.length) (hk : stepOk l k l[k] = false) : gmay l = false := by
  rcases hg : gmay l with _ | _
  · rfl
  · unfold gmay at hg
    simp at hg
    have := rise_stepOk l k h hg.1
    rw [hk] at this
    cases this

set_option maxRecDepth 100000 in
set_option maxHeartbeats 1600000 in
theorem gmay_any (w : World) (B : Nat) (v : Value) (l : List GArc) (hl : l.length ≤ 4294967296) (h : ByA w B v l) (hB : B ≤ w.heap.size) :
    Calls Try.prog 49 #[v] w fun e w' => e = .returned (.bool (gmay l)) ∧ Below w.heap.size w w' := by
  obtain ⟨A, c, rfl, hc1, hc2⟩ := h.form
  unfold maxLen at hc2
  have hsum := fun W (h : ByA W B (.slice A l.length c) l) hW => gsum_any W B (.slice A l.length c) l hl h hW
  have hgm : gmay l = (rise none l && decide (gsum l ≤ 2147483647)) := rfl
  have hno := fun k h hk => gmay_take l k h hk
  have Hsum := Lib.hid hsum
  have Hno := Lib.hid hno
  have Hgm := Lib.hid hgm
  clear hsum hno hgm
  go_enter Try.func49, Try.ntmps49
  go_wp2_with fail
  go_loopw [7] (fun i wr => ∃ k : Nat, k ≤ l.length ∧ i = .int .i64 k ∧ rise none (l.take k) = true ∧ Below w.heap.size w wr) (fun i _ => l.length - (intOf i).toNat)
  case atStart => exact ⟨0, by omega, rfl, rfl, Below.refl _ _⟩
  case round =>
    obtain ⟨k, hk, rfl, hri, hbl⟩ := hrel
    by_cases hlt : k < l.length
    · obtain ⟨ad, rfl, hab, hx0, hx1⟩ := (h.below (hbl.mono hB)).cells k hlt
      have hstep := rise_snoc l k hlt
      rw [hri, Bool.true_and] at hstep
      have hno := Hno.out k hlt
      have hst : stepOk l k l[k] = ((l[k]).wt != 0 && (k == 0 || match l[k - 1]? with | some b => decide (b.to < (l[k]).to) | none => true)) := rfl
      have hbz := hbl.size
      by_cases hw0 : (l[k]).wt = 0
      · rw [hw0] at hst
        simp at hst
        have hf := hno hst
        have Hf := Lib.hid hf
        have hwt : (((l[k]).wt.toNat : Nat) : Int) = 0 := by rw [hw0]; rfl
        rw [hwt] at hx1
        clear hst hf hno hstep hwt hw0
        generalize l[k] = a at *
        go_wp2_with fail
        go_quiet (fail)
        go_wp2_with fail
        go_ret
        rw [Hf.out]
        exact ⟨rfl, bdrewN (hbl.trans ((balloc _ _).mono hbl.size)) _⟩
      · have hwn : ((((l[k]).wt.toNat : Nat) : Int) == 0) = false := beq_eq_false_iff_ne.2 (fun e => hw0 (UInt32.toNat_inj.1 (by simpa using e)))
        have hwn' : ((l[k]).wt != 0) = true := by simpa using hw0
        rw [hwn', Bool.true_and] at hst
        rcases Nat.eq_zero_or_pos k with hk0 | hk0
        · have h0' : (k == 0) = true := by simpa using hk0
          rw [h0', Bool.true_or] at hst
          rw [hst] at hstep
          have hk0i : decide (0 < k) = false := by simp; omega
          have Hstep := Lib.hid hstep
          have Hk0 := Lib.hid hk0
          clear hst hstep hno hwn' hw0 h0' hk0
          generalize l[k] = a at *
          go_wp2_with fail
          go_quiet (fail)
          go_wp2_with fail
          go_roundw
          case rel => exact ⟨k + 1, by omega, by go_num, Hstep.out, bdrewN (hbl.trans ((balloc _ _).mono hbl.size)) _⟩
          case measure => simp [intOf]; omega
        · obtain ⟨m, rfl⟩ : ∃ m, k = m + 1 := ⟨k - 1, by omega⟩
          have h0' : (m + 1 == 0) = false := by simp
          have hm : m < l.length := by omega
          rw [h0', Bool.false_or, Nat.add_sub_cancel, List.getElem?_eq_getElem hm] at hst
          obtain ⟨ad', e, _, hy0, hy1⟩ := (h.below (hbl.mono hB)).cells m hm
          injection e with e
          subst e
          simp only at hst
          rw [hst] at hstep hno
          have Hstep := Lib.hid hstep
          have Hno1 := Lib.hid hno
          clear hst hstep hno hwn' hw0 h0'
          generalize l[m + 1] = a at *
          generalize l[m] = b at *
          have hx0' := World.cell?_alloc_lt wr (.cells #[.int .u32 (a.to.toNat : Int), .int .u32 (a.wt.toNat : Int)] 38) (ad.add (m * 2)) (by rw [add_block]; omega)
          rw [hy0] at hx0'
          by_cases hlo : b.to < a.to
          · have hle : decide ((a.to.toNat : Int) ≤ (b.to.toNat : Int)) = false := by
              have := UInt32.lt_iff_toNat_lt.1 hlo
              simp; omega
            have hle' : decide (a.to.toNat ≤ b.to.toNat) = false := by
              have := UInt32.lt_iff_toNat_lt.1 hlo
              simp; omega
            have hlt' : (decide (b.to < a.to)) = true := by simpa using hlo
            rw [hlt'] at Hstep
            clear hlo hlt' Hno1
            go_wp2_with fail
            go_quiet (fail)
            go_wp2_with fail
            go_roundw
            case rel => exact ⟨m + 1 + 1, by omega, by go_num, Hstep.out, bdrewN (hbl.trans ((balloc _ _).mono hbl.size)) _⟩
            case measure => simp [intOf]; omega
          · have hle : decide ((a.to.toNat : Int) ≤ (b.to.toNat : Int)) = true := by
              have : ¬ b.to.toNat < a.to.toNat := fun h => hlo (UInt32.lt_iff_toNat_lt.2 h)
              simp; omega
            have hle' : decide (a.to.toNat ≤ b.to.toNat) = true := by
              have : ¬ b.to.toNat < a.to.toNat := fun h => hlo (UInt32.lt_iff_toNat_lt.2 h)
              simp; omega
            have hf := Hno1.out (by simpa using hlo)
            have Hf := Lib.hid hf
            clear hlo hf Hstep Hno1
            go_wp2_with fail
            go_quiet (fail)
            go_wp2_with fail
            go_ret
            rw [Hf.out]
            exact ⟨rfl, bdrewN (hbl.trans ((balloc _ _).mono hbl.size)) _⟩
    · obtain rfl : k = l.length := by omega
      rw [List.take_length] at hri
      have hs := Hsum.out wr (h.below (hbl.mono hB)) (Nat.le_trans hB hbl.size)
      have hgm := Hgm.out
      rw [hri, Bool.true_and] at hgm
      have HG := Lib.hid hgm
      clear hgm Hgm
      generalize gsum l = S at *
      have Hs := Lib.hid hs
      clear hs
      go_wp2_with fail
      refine Hs.out.mono ?_
      rintro _ w1 ⟨rfl, hb1⟩
      go_wp2_with fail
      go_ret
      rw [HG.out]
      refine ⟨?_, bstep hbl hb1⟩
      exact congrArg (fun b => Ending.returned (Value.bool b)) (decide_eq_decide.2 (by omega))

theorem Ext.ne {w w' : World} {v v' : Value} (h : Ext w w' v v') {g : Nat} (hg : g < w.heap.size) (hv : v.ownBlock ≠ some g) : v'.ownBlock ≠ some g := by
  rcases h.at_ with h1 | h1
  · rw [h1]; exact hv
  · intro e; have := h1 g e; omega
/-- the sums that a round reckons -/
theorem sub_u64 (a b : Nat) (h : b ≤ a) (ha : a < 18446744073709551616) : IntKind.u64.wrap ((a : Int) - (b : Int)) = ((a - b : Nat) : Int) := by rw [wrap_u64]; omega
set_option maxRecDepth 100000 in
set_option maxHeartbeats 1600000 in
theorem gapsput_any (w : World) (base B : Nat) (v0 : Value) (l0 : List UInt8) (hown : Ow w base v0 l0) (v : Value) (l : List GArc) (hl : l.length ≤ 1073741824) (hl0 : l0.length ≤ 1073741824) (h : ByA w B v l) (hB : B ≤ base) (hbase : base ≤ w.heap.size) (hm : gmay l = true) :
    Calls Try.prog 43 #[v0, v] w fun e w' => ∃ v', e = .returned (.tuple #[v', .int .i64 0]) ∧ Ow w' base v' (l0 ++ gput l) ∧ Ext w w' v0 v' := by
  obtain ⟨A, c, rfl, hc1, hc2⟩ := h.form
  unfold maxLen at hc2
  have hmay := gmay_any w B _ l (by omega) h (Nat.le_trans hB hbase)
  rw [hm] at hmay
  have hr : rise none l = true := by unfold gmay at hm; simp at hm; exact hm.1
  have Hmay := Lib.hid hmay
  have Hr := Lib.hid hr
  clear hmay hr hm
  have hne0 : ∀ k, v0.ownBlock = some k → base ≤ k ∧ k < w.heap.size := hown.blk
  go_enter Try.func43, Try.ntmps43
  go_wp2_with fail
  refine Hmay.out.mono ?_
  rintro _ w1 ⟨rfl, hb1⟩
  have hown1 := hown.below_ hb1
  go_wp2_with fail
  refine (vput_any w1 base v0 l0 hown1 l.length (by omega) (by omega) (Nat.le_trans hbase hb1.size)).mono ?_
  rintro _ w2 ⟨v2, rfl, hown2, hext2⟩
  have hx2 : Ext w w2 v0 v2 := hext2.after hb1 v0 rfl
  have h2 := h.below ((hb1.mono (Nat.le_trans hB hbase)).trans ((hext2.below (B := base) (Nat.le_trans hbase hb1.size) fun k hk => (hown1.blk k hk).1).mono hB))
  clear hown1 hb1 hext2 h Hmay
  have hlv := vput_len64 l.length (by omega)
  go_wp2_with fail
  go_loopw [0, 6, 20] (fun b x i wr => ∃ k : Nat, k ≤ l.length ∧ i = .int .i64 k ∧ x = .int .u64 (nextOf l k : Nat) ∧ Ow wr base b (l0 ++ vput l.length ++ gapsL 0 (l.take k)) ∧ Ext w wr v0 b ∧ ByA wr B (.slice A l.length c) l) (fun _ _ i _ => l.length - (intOf i).toNat)
  case atStart => exact ⟨0, by omega, rfl, rfl, by simpa [gapsL] using hown2, hx2, h2⟩
  case round =>
    obtain ⟨k, hk, rfl, rfl, hob, hext, hrow⟩ := hrel
    have hsz := hext.gr.size
    have hsz' : base ≤ wr.heap.size := Nat.le_trans hbase hsz
    by_cases hlt : k < l.length
    · obtain ⟨ad, rfl, hab, hx0, hx1⟩ := hrow.cells k hlt
      have hgl := gapsL_len (l.take k) 0
      have htk : (l.take k).length ≤ 1073741824 := by simp; omega
      have hbl : (l0 ++ vput l.length ++ gapsL 0 (l.take k)).length ≤ 30000000000 := by simp only [List.length_append]; omega
      have hsn := gapsL_snoc l k hlt
      have hnx := nextOf_succ l k hlt
      have hle := nextOf_le l k hlt Hr.out
      have hw0 := rise_wt l k hlt Hr.out
      have hto := u32_lt (l[k]).to
      have hwt := u32_lt (l[k]).wt
      have Hsn := Lib.hid hsn
      have Hnx := Lib.hid hnx
      have hsub := sub_u64 (l[k]).to.toNat (nextOf l k) hle (by omega)
      have hsub1 := sub_u64 (l[k]).wt.toNat 1 hw0 (by omega)
      rw [show ((1 : Nat) : Int) = 1 from rfl] at hsub1
      have hg1 : gaps1 (nextOf l k) l[k] = vput ((l[k]).to.toNat - nextOf l k) ++ vput ((l[k]).wt.toNat - 1) := rfl
      have Hg1 := Lib.hid hg1
      have hlv1 := (vput_len64 ((l[k]).to.toNat - nextOf l k) (by omega)).2
      clear hgl htk hsn hnx hg1
      generalize l[k] = a at *
      generalize nextOf l k = nx at *
      have hpre : l0 ++ vput l.length ++ gapsL 0 (l.take k) = l0 ++ vput l.length ++ gapsL 0 (l.take k) := rfl
      generalize hpp : l0 ++ vput l.length ++ gapsL 0 (l.take k) = pre at *
      have Hpp := Lib.hid hpp
      clear hpp hpre
      go_wp2_with fail
      have hbx := BoxAt.new_ 38 wr [.int .u32 (a.to.toNat : Int), .int .u32 (a.wt.toNat : Int)]
      have hxa : Ext wr (wr.alloc (.cells [.int .u32 (a.to.toNat : Int), .int .u32 (a.wt.toNat : Int)].toArray 38)) u0 u0 := (Ext.refl wr u0).then_ (balloc _ _)
      have hn0 : Value.ownBlock u0 ≠ some wr.heap.size := fun e => by have := (hob.blk _ e).2; omega
      have hsa : (wr.alloc (.cells [.int .u32 (a.to.toNat : Int), .int .u32 (a.wt.toNat : Int)].toArray 38)).heap.size = wr.heap.size + 1 := by simp
      have hba : base ≤ (wr.alloc (.cells [.int .u32 (a.to.toNat : Int), .int .u32 (a.wt.toNat : Int)].toArray 38)).heap.size := by omega
      refine (vput_any _ base u0 pre (hob.alloc (.cells [.int .u32 (a.to.toNat : Int), .int .u32 (a.wt.toNat : Int)].toArray 38)) (a.to.toNat - nx) (by omega) (by omega) hba).mono ?_
      rintro _ w3 ⟨v3, rfl, hob3, hext3⟩
      have hbx3 := hbx.grown hext3.gr hn0
      have hn3 := hext3.ne (g := wr.heap.size) (by omega) hn0
      have hs3 := hext3.gr.size
      have hc0 := hbx3.cell 0 _ rfl
      have hc1 := hbx3.cell 1 _ rfl
      have hx03 : Ext wr w3 u0 v3 := hxa.trans hext3
      have hp1 : (pre ++ vput (a.to.toNat - nx)).length ≤ 30000000100 := by rw [List.length_append]; omega
      clear hbx hx0 hx1
      generalize wr.alloc (.cells [.int .u32 (a.to.toNat : Int), .int .u32 (a.wt.toNat : Int)].toArray 38) = wa at *
      go_wp2_with fail
      refine (vput_any w3 base v3 _ hob3 (a.wt.toNat - 1) (by omega) (by omega) (by omega)).mono ?_
      rintro _ w4 ⟨v4, rfl, hob4, hext4⟩
      have hbx4 := hbx3.grown hext4.gr hn3
      have hd0 := hbx4.cell 0 _ rfl
      have hd1 := hbx4.cell 1 _ rfl
      have hx04 := hx03.trans hext4
      clear hc0 hc1
      go_wp2_with fail
      go_roundw
      case rel => exact ⟨k + 1, by omega, by go_num, by rw [Hnx.out]; go_num, by rw [Hsn.out, Hg1.out, ← List.append_assoc, ← List.append_assoc, Hpp.out]; exact hob4, hext.trans hx04, hrow.below ((hx04.below (B := base) hsz' fun q hq => (hob.blk q hq).1).mono hB)⟩
      case measure => simp [intOf]; omega
    · obtain rfl : k = l.length := by omega
      rw [List.take_length] at hob
      have hg : l0 ++ gput l = l0 ++ vput l.length ++ gapsL 0 l := by unfold gput; simp
      go_wp2_with fail
      go_ret2
      refine ⟨_, rfl, ?_, hext⟩
      rw [hg]
      exact hob
end Go.Proofs.Yteakeefocnjlhaa
