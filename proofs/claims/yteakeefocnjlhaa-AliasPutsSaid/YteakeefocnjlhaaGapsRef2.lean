/- the document's neighbours: Put, Same; gaps.Put of what may not be; palmerlaw04.awake -/
import Derived.Test.YteakeefocnjlhaaGapsRef
import Derived.Test.YteakeefocnjlhaaArcEq
namespace Go.Proofs.Yteakeefocnjlhaa
set_option linter.unusedSimpArgs false
set_option linter.unusedVariables false
open Go.RowKit

set_option maxRecDepth 100000 in
set_option maxHeartbeats 1600000 in
theorem gapsput_no (w : World) (B : Nat) (v0 : Value) (v : Value) (l : List GArc) (hl : l.length ≤ 1073741824) (h : ByA w B v l) (hB : B ≤ w.heap.size) (hm : gmay l = false) :
    Calls Try.prog 43 #[v0, v] w fun e w' => e = .returned (.tuple #[v0, .int .i64 3]) ∧ Below w.heap.size w w' := by
  obtain ⟨A, c, rfl, hc1, hc2⟩ := h.form
  have hmay := gmay_any w B _ l (by omega) h hB
  rw [hm] at hmay
  have Hmay := Lib.hid hmay
  clear hmay hm
  go_enter Try.func43, Try.ntmps43
  go_wp2_with fail
  refine Hmay.out.mono ?_
  rintro _ w1 ⟨rfl, hb1⟩
  go_wp2_with fail
  go_ret2
  exact ⟨rfl, hb1⟩

set_option maxRecDepth 100000 in
set_option maxHeartbeats 1600000 in
theorem rgput_any (w : World) (B : Nat) (v : Value) (l : List GArc) (hl : l.length ≤ 1073741824) (h : ByA w B v l) (hB : B ≤ w.heap.size) (hr : rise none l = true) :
    Calls Try.prog 52 #[v] w fun e w' => ∃ v', e = .returned v' ∧ Ow w' w.heap.size v' (gput l) ∧ Below w.heap.size w w' := by
  obtain ⟨A, c, rfl, hc1, hc2⟩ := h.form
  unfold maxLen at hc2
  have Hr := Lib.hid hr
  clear hr
  have hlv := vput_len64 l.length (by omega)
  go_enter Try.func52, Try.ntmps52
  go_wp2_with fail
  refine (refnum_any l.length w (by omega)).mono ?_
  rintro _ w1 ⟨v1, rfl, hown1, hb1⟩
  have Hb1 := Lib.hid hb1
  have h1 := h.below (hb1.mono hB)
  clear hb1 h
  go_wp2_with fail
  go_loopw [3, 12] (fun b i wr => ∃ k : Nat, k ≤ l.length ∧ i = .int .i64 k ∧ Ow wr w.heap.size b (vput l.length ++ gapsL 0 (l.take k)) ∧ Below w.heap.size w wr ∧ ByA wr B (.slice A l.length c) l) (fun _ i _ => l.length - (intOf i).toNat)
  case atStart => exact ⟨0, by omega, rfl, by simpa [gapsL] using hown1, Hb1.out, h1⟩
  case round =>
    obtain ⟨k, hk, rfl, hob, hbl, hrow⟩ := hrel
    have hsz := hbl.size
    by_cases hlt : k < l.length
    · obtain ⟨ad, rfl, hab, hx0, hx1⟩ := hrow.cells k hlt
      have hgl := gapsL_len (l.take k) 0
      have htk : (l.take k).length ≤ 1073741824 := by simp; omega
      have hbl0 : (vput l.length ++ gapsL 0 (l.take k)).length ≤ 30000000000 := by simp only [List.length_append]; omega
      have hsn := gapsL_snoc l k hlt
      have hle := nextOf_le l k hlt Hr.out
      have hw0 := rise_wt l k hlt Hr.out
      have hto := u32_lt (l[k]).to
      have hwt := u32_lt (l[k]).wt
      have Hsn := Lib.hid hsn
      have hsub1 := sub_u64 (l[k]).wt.toNat 1 hw0 (by omega)
      rw [show ((1 : Nat) : Int) = 1 from rfl] at hsub1
      have hg1 : gaps1 (nextOf l k) l[k] = vput ((l[k]).to.toNat - nextOf l k) ++ vput ((l[k]).wt.toNat - 1) := rfl
      have Hg1 := Lib.hid hg1
      have hlv1 := (vput_len64 ((l[k]).to.toNat - nextOf l k) (by omega)).2
      have hlv2 := (vput_len64 ((l[k]).wt.toNat - 1) (by omega)).2
      clear hgl htk hsn hg1
      have hBr : B ≤ wr.heap.size := Nat.le_trans hB hsz
      have hak : l[k] = l[k] := rfl
      generalize hal : l[k] = a at *
      have Hak := Lib.hid hal
      clear hal hak
      generalize hpp : vput l.length ++ gapsL 0 (l.take k) = pre at *
      have Hpp := Lib.hid hpp
      clear hpp
      rcases Nat.eq_zero_or_pos k with hk0 | hk0
      · have hn0 : nextOf l k = 0 := by subst hk0; rfl
        rw [hn0] at Hg1 Hsn hlv1
        rw [Nat.sub_zero] at Hg1 hlv1
        have hk0i : decide (0 < k) = false := by simp; omega
        clear hle hn0 hk0
        generalize hgp : a.to.toNat = gp at *
        go_wp2_with fail
        refine (refnum_any gp wr (by omega)).mono ?_
        rintro _ w3 ⟨v3, rfl, how3, hb3⟩
        have hs3 := hb3.size
        have hrow3 := hrow.below (hb3.mono hBr)
        go_wp2_with (at_builtin
                     refine wpList_app8 rfl (.tmp 33) (.tmp 35) rfl (hob.below_ hb3) how3.by_ rfl rfl (by omega) (Nat.le_trans hsz hs3) ?_
                     intro v4 w4 hown4 hext4
                     have hb34 := hext4.below (B := w.heap.size) (Nat.le_trans hsz hs3) fun q hq => (hob.blk q hq).1
                     have hrow4 := hrow3.below (hb34.mono hB)
                     have hx1' := (hrow4.cells k hlt)
                     obtain ⟨ad4, e4, _, _, hx1'⟩ := hx1'
                     injection e4 with e4
                     subst e4
                     rw [Hak.out] at hx1')
        have hs4 := hext4.gr.size
        have hbr4 : Below w.heap.size wr w4 := (hb3.mono hsz).trans hb34
        refine (refnum_any (a.wt.toNat - 1) w4 (by omega)).mono ?_
        rintro _ w5 ⟨v5, rfl, how5, hb5⟩
        have hs5 := hb5.size
        have hs04 : w.heap.size ≤ w4.heap.size := Nat.le_trans hsz hbr4.size
        go_wp2_with (at_builtin
                     refine wpList_app8 rfl (.tmp 37) (.tmp 45) rfl (hown4.below_ hb5) how5.by_ rfl rfl (by simp only [List.length_append] at *; omega) (Nat.le_trans hs04 hs5) ?_
                     intro v6 w6 hown6 hext6)
        have hb46 : Below w.heap.size w4 w6 := (hb5.mono hs04).trans (hext6.below (B := w.heap.size) (Nat.le_trans hs04 hs5) fun q hq => (hown4.blk q hq).1)
        go_roundw
        case rel => exact ⟨k + 1, by omega, by go_num, by rw [Hsn.out, Hg1.out, ← List.append_assoc, ← List.append_assoc, Hpp.out]; exact hown6, hbl.trans (hbr4.trans hb46), hrow4.below (hb46.mono hB)⟩
        case measure => simp [intOf]; omega
      · obtain ⟨m, rfl⟩ : ∃ m, k = m + 1 := ⟨k - 1, by omega⟩
        have hm : m < l.length := by omega
        have hn1 := nextOf_succ l m hm
        rw [hn1] at hle Hg1 Hsn hlv1
        obtain ⟨ad', e, _, hy0, hy1⟩ := hrow.cells m hm
        injection e with e
        subst e
        generalize l[m] = b at *
        have hs1 := sub_u64 a.to.toNat b.to.toNat (by omega) (by omega)
        have hs2 := sub_u64 (a.to.toNat - b.to.toNat) 1 (by omega) (by omega)
        rw [show ((1 : Nat) : Int) = 1 from rfl] at hs2
        rw [show a.to.toNat - (b.to.toNat + 1) = a.to.toNat - b.to.toNat - 1 from by omega] at Hg1 hlv1
        clear hn1 hle
        obtain ⟨gp, hgp⟩ : ∃ gp, a.to.toNat - b.to.toNat - 1 = gp := ⟨_, rfl⟩
        rw [hgp] at hs2 Hg1 hlv1
        have hgl : gp < 18446744073709551616 := by omega
        clear hgp
        have htb := u32_lt b.to
        go_wp2_with fail
        refine (refnum_any gp wr (by omega)).mono ?_
        rintro _ w3 ⟨v3, rfl, how3, hb3⟩
        have hs3 := hb3.size
        have hrow3 := hrow.below (hb3.mono hBr)
        go_wp2_with (at_builtin
                     refine wpList_app8 rfl (.tmp 33) (.tmp 35) rfl (hob.below_ hb3) how3.by_ rfl rfl (by omega) (Nat.le_trans hsz hs3) ?_
                     intro v4 w4 hown4 hext4
                     have hb34 := hext4.below (B := w.heap.size) (Nat.le_trans hsz hs3) fun q hq => (hob.blk q hq).1
                     have hrow4 := hrow3.below (hb34.mono hB)
                     have hx1' := (hrow4.cells (m + 1) hlt)
                     obtain ⟨ad4, e4, _, _, hx1'⟩ := hx1'
                     injection e4 with e4
                     subst e4
                     rw [Hak.out] at hx1')
        have hs4 := hext4.gr.size
        have hbr4 : Below w.heap.size wr w4 := (hb3.mono hsz).trans hb34
        refine (refnum_any (a.wt.toNat - 1) w4 (by omega)).mono ?_
        rintro _ w5 ⟨v5, rfl, how5, hb5⟩
        have hs5 := hb5.size
        have hs04 : w.heap.size ≤ w4.heap.size := Nat.le_trans hsz hbr4.size
        go_wp2_with (at_builtin
                     refine wpList_app8 rfl (.tmp 37) (.tmp 45) rfl (hown4.below_ hb5) how5.by_ rfl rfl (by simp only [List.length_append] at *; omega) (Nat.le_trans hs04 hs5) ?_
                     intro v6 w6 hown6 hext6)
        have hb46 : Below w.heap.size w4 w6 := (hb5.mono hs04).trans (hext6.below (B := w.heap.size) (Nat.le_trans hs04 hs5) fun q hq => (hown4.blk q hq).1)
        go_roundw
        case rel => exact ⟨m + 1 + 1, by omega, by go_num, by rw [Hsn.out, Hg1.out, ← List.append_assoc, ← List.append_assoc, Hpp.out]; exact hown6, hbl.trans (hbr4.trans hb46), hrow4.below (hb46.mono hB)⟩
        case measure => simp [intOf]; omega
    · obtain rfl : k = l.length := by omega
      rw [List.take_length] at hob
      go_wp2_with fail
      go_ret
      exact ⟨_, rfl, hob, hbl⟩
set_option maxRecDepth 100000 in
set_option maxHeartbeats 1600000 in
theorem gsame_any (w : World) (B1 B2 : Nat) (v1 v2 : Value) (l1 l2 : List GArc) (h1 : ByA w B1 v1 l1) (h2 : ByA w B2 v2 l2) :
    Calls Try.prog 42 #[v1, v2] w fun e w' => e = .returned (.bool (decide (l1 = l2))) ∧ ∃ q, w' = w.drewN q := by
  obtain ⟨A1, c1, rfl, ha1, ha2⟩ := h1.form
  obtain ⟨A2, c2, rfl, hb1, hb2⟩ := h2.form
  unfold maxLen at ha2 hb2
  by_cases hlen : l1.length = l2.length
  · have hd : ∀ k, (hk : k < l1.length) → (hk2 : k < l2.length) → l1[k] ≠ l2[k] → decide (l1 = l2) = false := fun k hk hk2 hne => decide_eq_false fun e => hne (by subst e; rfl)
    have hy : (∀ k, (hk : k < l1.length) → (hk2 : k < l2.length) → l1[k] = l2[k]) → decide (l1 = l2) = true := fun h => decide_eq_true (List.ext_getElem hlen fun k h1 h2 => h k h1 h2)
    have Hd := Lib.hid hd
    have Hy := Lib.hid hy
    have Hlen := Lib.hid hlen
    have hnb : (((l1.length : Nat) : Int) == ((l2.length : Nat) : Int)) = true := by simp; omega
    have hnb' : (((l1.length : Nat) : Int) != ((l2.length : Nat) : Int)) = false := by simp; omega
    clear hd hy hlen
    generalize decide (l1 = l2) = D at *
    go_enter Try.func42, Try.ntmps42
    go_wp2_with fail
    go_loopw [13] (fun i wr => ∃ k : Nat, k ≤ l1.length ∧ i = .int .i64 k ∧ (∀ j, (hj : j < k) → (hj1 : j < l1.length) → (hj2 : j < l2.length) → l1[j] = l2[j]) ∧ ∃ q, wr = w.drewN q) (fun i _ => l1.length - (intOf i).toNat)
    case atStart => exact ⟨0, by omega, rfl, fun j hj => by omega, 0, rfl⟩
    case round =>
      obtain ⟨k, hk, rfl, hall, q, rfl⟩ := hrel
      by_cases hlt : k < l1.length
      · have hlt2 : k < l2.length := by rw [← Hlen.out]; exact hlt
        obtain ⟨ad1, rfl, _, hx0, hx1⟩ := h1.cells k hlt
        obtain ⟨ad2, rfl, _, hy0, hy1⟩ := h2.cells k hlt2
        have Hall := Lib.hid hall
        have Hd1 := Lib.hid (Hd.out k hlt hlt2)
        clear hall
        have hcase : l1[k] = l2[k] ∨ l1[k] ≠ l2[k] := Decidable.em _
        have Hst : Hid (l1[k] = l2[k] → ∀ j, (hj : j < k + 1) → (hj1 : j < l1.length) → (hj2 : j < l2.length) → l1[j] = l2[j]) := fun he j hj hj1 hj2 => by
          rcases Nat.lt_or_ge j k with h | h
          · exact Hall.out j h hj1 hj2
          · obtain rfl : j = k := by omega
            exact he
        generalize l1[k] = a at *
        generalize l2[k] = b at *
        obtain ⟨a1, a2⟩ := a
        obtain ⟨b1, b2⟩ := b
        simp only at hx0 hx1 hy0 hy1
        have heq := eqArc
        have hgd := guardArc
        by_cases hab : a1 = b1 ∧ a2 = b2
        · obtain ⟨rfl, rfl⟩ := hab
          go_wp2_with fail
          go_quiet (fail)
          go_wp2_with fail
          go_roundw
          case rel => exact ⟨k + 1, by omega, by go_num, Hst.out (by first | rfl | trivial), q + nq, by simp⟩
          case measure => simp [intOf]; omega
        · have hb : (((a1.toNat : Nat) : Int) == ((b1.toNat : Nat) : Int) && ((a2.toNat : Nat) : Int) == ((b2.toNat : Nat) : Int)) = false := by
            rw [Bool.and_eq_false_iff]
            by_cases h : a1 = b1
            · right
              exact beq_eq_false_iff_ne.2 fun e => hab ⟨h, UInt32.toNat_inj.1 (by omega)⟩
            · left
              exact beq_eq_false_iff_ne.2 fun e => h (UInt32.toNat_inj.1 (by omega))
          have hD := Hd1.out fun e => hab (by injection e with e1 e2; exact ⟨e1, e2⟩)
          have HD := Lib.hid hD
          clear hab hD
          go_wp2_with fail
          go_quiet (fail)
          go_wp2_with fail
          go_ret
          rw [HD.out]
          exact ⟨rfl, q + nq, by simp⟩
      · obtain rfl : k = l1.length := by omega
        have hyy := Hy.out fun j hj hj2 => hall j hj hj hj2
        have HY := Lib.hid hyy
        clear hall hyy
        go_wp2_with fail
        go_ret
        rw [HY.out]
        exact ⟨rfl, q, rfl⟩
  · have hne : ((l1.length : Int) == (l2.length : Int)) = false := by simp; omega
    have hne' : ((l1.length : Int) != (l2.length : Int)) = true := by simp; omega
    go_enter Try.func42, Try.ntmps42
    go_wp2_with fail
    go_ret
    refine ⟨?_, 0, rfl⟩
    rw [decide_eq_false (fun e => hlen (by rw [e]))]; rfl
end Go.Proofs.Yteakeefocnjlhaa
