/- Lemmas for the law ShardPuts: the document's neighbours: Put, Same; gaps.Put of what may not be; palmerlaw04.awake; palmerlaw04.awake returns true; Rows of cells; the count of a neighbour's draws: the document's and alias.Count.; palmerref16.Put; slices.BinarySearch and slices.Insert at ints: the shelf's contracts laid at this program; Cells put one behind the other; what a call has changed.; alias.Count; alias.counts; palmerref16.Neighbours, palmerref16.May, alias.May; alias.May; append at a step of a region that draws its order; gaps.Get; alias.begin: what neighbours have left, and who lacks; (*alias.rests).next; The table of neighbours: how it is built (plain), and that it is right.; Rows of numbers in a block of one's own, with spare cells and an offset; slices.Insert at ints.; The table of neighbours: each neighbour is come to by d times its weight (plain).; (*alias.rests).next and give, over rows with spare cells; (*alias.rests).give; pick.Total, palmerref17.Total, pick.Alias; pick.Alias; palmerlaw17.awake returns true; rows of cells written in place; alias.Build; palmerref16.first; palmerref16.Build; alias.Get; alias.Put; What is put is read: cells.; slices.Equal at bytes.; The cyclic redundancy check in plain Lean: the table's way and the bit's way are one. No condition.; crc.table gives the table of the check's bytes. No condition.; crc.Sum gives the check of all rows' bytes, one behind the other. The rows are readable slices.; crc.Mark is the bytes with their check, in memory of one's own; crc.F. No condition. -/
import Derived.Test.YthfnikdapknohaaZShardPuts1
import Derived.Shelf.Slices.SearchI
import Derived.Shelf.Slices.Empties
import Derived.Shelf.Spec.SlicesInsertGrow
import Derived.Test.YthfnikdapknohaaProg
import Derived.Laws.IdiomCopy
import Derived.Laws.MakeOwn
import Derived.RegionTactic
import Derived.ChangeAlike
import Derived.BigQuiet
import Derived.Deep.AppendLies
import Derived.Deep.RegionLaw
import Derived.BigRegion
import Derived.Deep.LoopGhost
import Derived.WalkMore
import Derived.WalkKit
import Derived.Test.YthfnikdapknohaaRows
namespace Go.Proofs.Ythfnikdapknohaa
set_option linter.unusedSimpArgs false
set_option linter.unusedVariables false
open Go.RowKit

set_option maxRecDepth 100000 in
set_option maxHeartbeats 1600000 in
theorem gapsput_no (w : World) (B : Nat) (v0 : Value) (v : Value) (l : List GArc) (hl : l.length ≤ 1073741824) (h : ByA w B v l) (hB : B ≤ w.heap.size) (hm : gmay l = false) :
    Calls Try.prog 74 #[v0, v] w fun e w' => e = .returned (.tuple #[v0, .int .i64 3]) ∧ Below w.heap.size w w' := by
  obtain ⟨A, c, rfl, hc1, hc2⟩ := h.form
  have hmay := gmay_any w B _ l (by omega) h hB
  rw [hm] at hmay
  have Hmay := Lib.hid hmay
  clear hmay hm
  go_enter Try.func74, Try.ntmps74
  go_wp2_with fail
  refine Hmay.out.mono ?_
  rintro _ w1 ⟨rfl, hb1⟩
  go_wp2_with fail
  go_ret2
  exact ⟨rfl, hb1⟩

set_option maxRecDepth 100000 in
set_option maxHeartbeats 1600000 in
theorem rgput_any (w : World) (B : Nat) (v : Value) (l : List GArc) (hl : l.length ≤ 1073741824) (h : ByA w B v l) (hB : B ≤ w.heap.size) (hr : rise none l = true) :
    Calls Try.prog 50 #[v] w fun e w' => ∃ v', e = .returned v' ∧ Ow w' w.heap.size v' (gput l) ∧ Below w.heap.size w w' := by
  obtain ⟨A, c, rfl, hc1, hc2⟩ := h.form
  unfold maxLen at hc2
  have Hr := Lib.hid hr
  clear hr
  have hlv := vput_len64 l.length (by omega)
  go_enter Try.func50, Try.ntmps50
  go_wp2_with fail
  refine (refnum_any l.length w (by omega)).mono ?_
  rintro _ w1 ⟨v1, rfl, hown1, hb1⟩
  have Hb1 := Lib.hid hb1
  have h1 := h.below (hb1.mono hB)
  clear hb1 h
  go_wp2_with fail
  go_loopw [3, 12] (fun b i wr => ∃ k : Nat, k ≤ l.length ∧ i = .int .i64 k ∧ Ow wr w.heap.size b (vput l.length ++ gapsL 0 (l.take k)) ∧ Below w.heap.size w wr ∧ ByA wr B (.slice A l.length c) l) (fun _ i _ => l.length - (intOf i).toNat)
  case atStart => exact ⟨0, by omega, rfl, by simpa [gapsL] using hown1, Hb1.out, h1⟩
  case round =>
    obtain ⟨k, hk, rfl, hob, hbl, hrow⟩ := hrel
    have hsz := hbl.size
    by_cases hlt : k < l.length
    · obtain ⟨ad, rfl, hab, hx0, hx1⟩ := hrow.cells k hlt
      have hgl := gapsL_len (l.take k) 0
      have htk : (l.take k).length ≤ 1073741824 := by simp; omega
      have hbl0 : (vput l.length ++ gapsL 0 (l.take k)).length ≤ 30000000000 := by simp only [List.length_append]; omega
      have hsn := gapsL_snoc l k hlt
      have hle := nextOf_le l k hlt Hr.out
      have hw0 := rise_wt l k hlt Hr.out
      have hto := u32_lt (l[k]).to
      have hwt := u32_lt (l[k]).wt
      have Hsn := Lib.hid hsn
      have hsub1 := sub_u64 (l[k]).wt.toNat 1 hw0 (by omega)
      rw [show ((1 : Nat) : Int) = 1 from rfl] at hsub1
      have hg1 : gaps1 (nextOf l k) l[k] = vput ((l[k]).to.toNat - nextOf l k) ++ vput ((l[k]).wt.toNat - 1) := rfl
      have Hg1 := Lib.hid hg1
      have hlv1 := (vput_len64 ((l[k]).to.toNat - nextOf l k) (by omega)).2
      have hlv2 := (vput_len64 ((l[k]).wt.toNat - 1) (by omega)).2
      clear hgl htk hsn hg1
      have hBr : B ≤ wr.heap.size := Nat.le_trans hB hsz
      have hak : l[k] = l[k] := rfl
      generalize hal : l[k] = a at *
      have Hak := Lib.hid hal
      clear hal hak
      generalize hpp : vput l.length ++ gapsL 0 (l.take k) = pre at *
      have Hpp := Lib.hid hpp
      clear hpp
      rcases Nat.eq_zero_or_pos k with hk0 | hk0
      · have hn0 : nextOf l k = 0 := by subst hk0; rfl
        rw [hn0] at Hg1 Hsn hlv1
        rw [Nat.sub_zero] at Hg1 hlv1
        have hk0i : decide (0 < k) = false := by simp; omega
        clear hle hn0 hk0
        generalize hgp : a.to.toNat = gp at *
        go_wp2_with fail
        refine (refnum_any gp wr (by omega)).mono ?_
        rintro _ w3 ⟨v3, rfl, how3, hb3⟩
        have hs3 := hb3.size
        have hrow3 := hrow.below (hb3.mono hBr)
        go_wp2_with (at_builtin
                     refine wpList_app8 rfl (.tmp 33) (.tmp 35) rfl (hob.below_ hb3) how3.by_ rfl rfl (by omega) (Nat.le_trans hsz hs3) ?_
                     intro v4 w4 hown4 hext4
                     have hb34 := hext4.below (B := w.heap.size) (Nat.le_trans hsz hs3) fun q hq => (hob.blk q hq).1
                     have hrow4 := hrow3.below (hb34.mono hB)
                     have hx1' := (hrow4.cells k hlt)
                     obtain ⟨ad4, e4, _, _, hx1'⟩ := hx1'
                     injection e4 with e4
                     subst e4
                     rw [Hak.out] at hx1')
        have hs4 := hext4.gr.size
        have hbr4 : Below w.heap.size wr w4 := (hb3.mono hsz).trans hb34
        refine (refnum_any (a.wt.toNat - 1) w4 (by omega)).mono ?_
        rintro _ w5 ⟨v5, rfl, how5, hb5⟩
        have hs5 := hb5.size
        have hs04 : w.heap.size ≤ w4.heap.size := Nat.le_trans hsz hbr4.size
        go_wp2_with (at_builtin
                     refine wpList_app8 rfl (.tmp 37) (.tmp 45) rfl (hown4.below_ hb5) how5.by_ rfl rfl (by simp only [List.length_append] at *; omega) (Nat.le_trans hs04 hs5) ?_
                     intro v6 w6 hown6 hext6)
        have hb46 : Below w.heap.size w4 w6 := (hb5.mono hs04).trans (hext6.below (B := w.heap.size) (Nat.le_trans hs04 hs5) fun q hq => (hown4.blk q hq).1)
        go_roundw
        case rel => exact ⟨k + 1, by omega, by go_num, by rw [Hsn.out, Hg1.out, ← List.append_assoc, ← List.append_assoc, Hpp.out]; exact hown6, hbl.trans (hbr4.trans hb46), hrow4.below (hb46.mono hB)⟩
        case measure => simp [intOf]; omega
      · obtain ⟨m, rfl⟩ : ∃ m, k = m + 1 := ⟨k - 1, by omega⟩
        have hm : m < l.length := by omega
        have hn1 := nextOf_succ l m hm
        rw [hn1] at hle Hg1 Hsn hlv1
        obtain ⟨ad', e, _, hy0, hy1⟩ := hrow.cells m hm
        injection e with e
        subst e
        generalize l[m] = b at *
        have hs1 := sub_u64 a.to.toNat b.to.toNat (by omega) (by omega)
        have hs2 := sub_u64 (a.to.toNat - b.to.toNat) 1 (by omega) (by omega)
        rw [show ((1 : Nat) : Int) = 1 from rfl] at hs2
        rw [show a.to.toNat - (b.to.toNat + 1) = a.to.toNat - b.to.toNat - 1 from by omega] at Hg1 hlv1
        clear hn1 hle
        obtain ⟨gp, hgp⟩ : ∃ gp, a.to.toNat - b.to.toNat - 1 = gp := ⟨_, rfl⟩
        rw [hgp] at hs2 Hg1 hlv1
        have hgl : gp < 18446744073709551616 := by omega
        clear hgp
        have htb := u32_lt b.to
        go_wp2_with fail
        refine (refnum_any gp wr (by omega)).mono ?_
        rintro _ w3 ⟨v3, rfl, how3, hb3⟩
        have hs3 := hb3.size
        have hrow3 := hrow.below (hb3.mono hBr)
        go_wp2_with (at_builtin
                     refine wpList_app8 rfl (.tmp 33) (.tmp 35) rfl (hob.below_ hb3) how3.by_ rfl rfl (by omega) (Nat.le_trans hsz hs3) ?_
                     intro v4 w4 hown4 hext4
                     have hb34 := hext4.below (B := w.heap.size) (Nat.le_trans hsz hs3) fun q hq => (hob.blk q hq).1
                     have hrow4 := hrow3.below (hb34.mono hB)
                     have hx1' := (hrow4.cells (m + 1) hlt)
                     obtain ⟨ad4, e4, _, _, hx1'⟩ := hx1'
                     injection e4 with e4
                     subst e4
                     rw [Hak.out] at hx1')
        have hs4 := hext4.gr.size
        have hbr4 : Below w.heap.size wr w4 := (hb3.mono hsz).trans hb34
        refine (refnum_any (a.wt.toNat - 1) w4 (by omega)).mono ?_
        rintro _ w5 ⟨v5, rfl, how5, hb5⟩
        have hs5 := hb5.size
        have hs04 : w.heap.size ≤ w4.heap.size := Nat.le_trans hsz hbr4.size
        go_wp2_with (at_builtin
                     refine wpList_app8 rfl (.tmp 37) (.tmp 45) rfl (hown4.below_ hb5) how5.by_ rfl rfl (by simp only [List.length_append] at *; omega) (Nat.le_trans hs04 hs5) ?_
                     intro v6 w6 hown6 hext6)
        have hb46 : Below w.heap.size w4 w6 := (hb5.mono hs04).trans (hext6.below (B := w.heap.size) (Nat.le_trans hs04 hs5) fun q hq => (hown4.blk q hq).1)
        go_roundw
        case rel => exact ⟨m + 1 + 1, by omega, by go_num, by rw [Hsn.out, Hg1.out, ← List.append_assoc, ← List.append_assoc, Hpp.out]; exact hown6, hbl.trans (hbr4.trans hb46), hrow4.below (hb46.mono hB)⟩
        case measure => simp [intOf]; omega
    · obtain rfl : k = l.length := by omega
      rw [List.take_length] at hob
      go_wp2_with fail
      go_ret
      exact ⟨_, rfl, hob, hbl⟩
set_option maxRecDepth 100000 in
set_option maxHeartbeats 1600000 in
theorem gsame_any (w : World) (B1 B2 : Nat) (v1 v2 : Value) (l1 l2 : List GArc) (h1 : ByA w B1 v1 l1) (h2 : ByA w B2 v2 l2) :
    Calls Try.prog 33 #[v1, v2] w fun e w' => e = .returned (.bool (decide (l1 = l2))) ∧ ∃ q, w' = w.drewN q := by
  obtain ⟨A1, c1, rfl, ha1, ha2⟩ := h1.form
  obtain ⟨A2, c2, rfl, hb1, hb2⟩ := h2.form
  unfold maxLen at ha2 hb2
  by_cases hlen : l1.length = l2.length
  · have hd : ∀ k, (hk : k < l1.length) → (hk2 : k < l2.length) → l1[k] ≠ l2[k] → decide (l1 = l2) = false := fun k hk hk2 hne => decide_eq_false fun e => hne (by subst e; rfl)
    have hy : (∀ k, (hk : k < l1.length) → (hk2 : k < l2.length) → l1[k] = l2[k]) → decide (l1 = l2) = true := fun h => decide_eq_true (List.ext_getElem hlen fun k h1 h2 => h k h1 h2)
    have Hd := Lib.hid hd
    have Hy := Lib.hid hy
    have Hlen := Lib.hid hlen
    have hnb : (((l1.length : Nat) : Int) == ((l2.length : Nat) : Int)) = true := by simp; omega
    have hnb' : (((l1.length : Nat) : Int) != ((l2.length : Nat) : Int)) = false := by simp; omega
    clear hd hy hlen
    generalize decide (l1 = l2) = D at *
    go_enter Try.func33, Try.ntmps33
    go_wp2_with fail
    go_loopw [13] (fun i wr => ∃ k : Nat, k ≤ l1.length ∧ i = .int .i64 k ∧ (∀ j, (hj : j < k) → (hj1 : j < l1.length) → (hj2 : j < l2.length) → l1[j] = l2[j]) ∧ ∃ q, wr = w.drewN q) (fun i _ => l1.length - (intOf i).toNat)
    case atStart => exact ⟨0, by omega, rfl, fun j hj => by omega, 0, rfl⟩
    case round =>
      obtain ⟨k, hk, rfl, hall, q, rfl⟩ := hrel
      by_cases hlt : k < l1.length
      · have hlt2 : k < l2.length := by rw [← Hlen.out]; exact hlt
        obtain ⟨ad1, rfl, _, hx0, hx1⟩ := h1.cells k hlt
        obtain ⟨ad2, rfl, _, hy0, hy1⟩ := h2.cells k hlt2
        have Hall := Lib.hid hall
        have Hd1 := Lib.hid (Hd.out k hlt hlt2)
        clear hall
        have hcase : l1[k] = l2[k] ∨ l1[k] ≠ l2[k] := Decidable.em _
        have Hst : Hid (l1[k] = l2[k] → ∀ j, (hj : j < k + 1) → (hj1 : j < l1.length) → (hj2 : j < l2.length) → l1[j] = l2[j]) := fun he j hj hj1 hj2 => by
          rcases Nat.lt_or_ge j k with h | h
          · exact Hall.out j h hj1 hj2
          · obtain rfl : j = k := by omega
            exact he
        generalize l1[k] = a at *
        generalize l2[k] = b at *
        obtain ⟨a1, a2⟩ := a
        obtain ⟨b1, b2⟩ := b
        simp only at hx0 hx1 hy0 hy1
        have heq := eqArc
        have hgd := guardArc
        by_cases hab : a1 = b1 ∧ a2 = b2
        · obtain ⟨rfl, rfl⟩ := hab
          go_wp2_with fail
          go_quiet (fail)
          go_wp2_with fail
          go_roundw
          case rel => exact ⟨k + 1, by omega, by go_num, Hst.out (by first | rfl | trivial), q + nq, by simp⟩
          case measure => simp [intOf]; omega
        · have hb : (((a1.toNat : Nat) : Int) == ((b1.toNat : Nat) : Int) && ((a2.toNat : Nat) : Int) == ((b2.toNat : Nat) : Int)) = false := by
            rw [Bool.and_eq_false_iff]
            by_cases h : a1 = b1
            · right
              exact beq_eq_false_iff_ne.2 fun e => hab ⟨h, UInt32.toNat_inj.1 (by omega)⟩
            · left
              exact beq_eq_false_iff_ne.2 fun e => h (UInt32.toNat_inj.1 (by omega))
          have hD := Hd1.out fun e => hab (by injection e with e1 e2; exact ⟨e1, e2⟩)
          have HD := Lib.hid hD
          clear hab hD
          go_wp2_with fail
          go_quiet (fail)
          go_wp2_with fail
          go_ret
          rw [HD.out]
          exact ⟨rfl, q + nq, by simp⟩
      · obtain rfl : k = l1.length := by omega
        have hyy := Hy.out fun j hj hj2 => hall j hj hj hj2
        have HY := Lib.hid hyy
        clear hall hyy
        go_wp2_with fail
        go_ret
        rw [HY.out]
        exact ⟨rfl, q, rfl⟩
  · have hne : ((l1.length : Int) == (l2.length : Int)) = false := by simp; omega
    have hne' : ((l1.length : Int) != (l2.length : Int)) = true := by simp; omega
    go_enter Try.func33, Try.ntmps33
    go_wp2_with fail
    go_ret
    refine ⟨?_, 0, rfl⟩
    rw [decide_eq_false (fun e => hlen (by rw [e]))]; rfl
end Go.Proofs.Ythfnikdapknohaa

namespace Go.Proofs.Ythfnikdapknohaa
set_option linter.unusedSimpArgs false
set_option linter.unusedVariables false
open Go.RowKit

theorem OwnA.new_ (w : World) (l : List GArc) (hm : l.length ≤ maxLen) :
    OwnF 70 cArc (w.alloc (.cells ((l.map fun a => [Value.int .u32 (a.to.toNat : Int), .int .u32 (a.wt.toNat : Int)]).flatten.toArray) 70)) w.heap.size (.slice (some ⟨w.heap.size, 0, none⟩) l.length l.length) l :=
  OwnR.new_ w _ (by simp) hm (fun i cs x hc hx => by
    rw [List.getElem?_map, hx] at hc
    injection hc with hc
    exact ⟨hc.symm, trivial⟩) fun _ h => h.elim
theorem OwnF.byA {w : World} {base : Nat} {v : Value} {l : List GArc} (h : OwnF 70 cArc w base v l) : ByA w w.heap.size v l := h.row.mono (fun _ hk => hk.2) fun _ h => h.elim

end Go.Proofs.Ythfnikdapknohaa

namespace Go.Proofs.Ythfnikdapknohaa
set_option linter.unusedSimpArgs false
set_option linter.unusedVariables false
open Go.RowKit

structure GCell where
  cut : UInt64
  oth : UInt32
deriving DecidableEq
def cCell : Cdc GCell := Cdc.flat 2 (fun a => [.int .u64 (a.cut.toNat : Int), .int .u32 (a.oth.toNat : Int)]) (fun _ => True) (fun _ => rfl) (fun x u hu => by
  simp at hu
  rcases hu with rfl | rfl <;> rfl)
theorem InC.cells' {w : World} {cs : List Value} (h : InC w 66 cs) : ∃ v xs, cs = [v] ∧ RowOn cCell w (fun k => k < w.heap.size) (fun k => k < w.heap.size) v xs :=
  h.row (C := cCell) Try.underlying66 (by kernel_rfl) (by decide) fun cs hc => by
    obtain ⟨hl, hf⟩ := hc.fields Try.underlying73 (by kernel_rfl) (by kernel_rfl)
    obtain ⟨u0, h0, g0⟩ := hf 0 _ rfl
    obtain ⟨u1, h1, g1⟩ := hf 1 _ rfl
    obtain ⟨n0, e0, k0⟩ := InC.u64 (S := fun _ => True) Try.underlying71 g0
    obtain ⟨n1, e1, k1⟩ := InC.u32 (S := fun _ => True) Try.underlying51 g1
    simp at e0 e1
    subst e0; subst e1
    match cs, hl with
    | [c0, c1], _ =>
      injection h0 with h0
      injection h1 with h1
      subst h0; subst h1
      exact ⟨⟨n0, n1⟩, rfl, trivial⟩
/-- the value reads as these cells, in blocks below B -/
abbrev ByC (w : World) (B : Nat) (v : Value) (l : List GCell) : Prop := RowOn cCell w (fun k => k < B) (fun _ => True) v l
theorem ByC.below {w w' : World} {B : Nat} {v : Value} {l : List GCell} (h : ByC w B v l) (hb : Below B w w') : ByC w' B v l := by
  obtain ⟨A, c, h1, h2, h3, h4⟩ := h
  refine ⟨A, c, h1, h2, h3, fun hn => ?_⟩
  obtain ⟨ad, e, hb', hc⟩ := h4 hn
  refine ⟨ad, e, hb', fun i x hx => ?_⟩
  obtain ⟨cs, ha, hcs⟩ := hc i x hx
  exact ⟨cs, ha, fun j u hu => (hb.cell (by rw [add_block]; exact hb')).trans (hcs j u hu)⟩
theorem ByC.more {w : World} {B B' : Nat} {v : Value} {l : List GCell} (h : ByC w B v l) (hB : B ≤ B') : ByC w B' v l := h.mono (fun _ hk => by omega) fun _ hk => hk
theorem ByC.step {w w' : World} {v : Value} {l : List GCell} (h : ByC w w.heap.size v l) (hb : Below w.heap.size w w') : ByC w' w'.heap.size v l := (h.below hb).more hb.size
theorem InC.gcells {w : World} {v : Value} (h : InC w 66 [v]) : ∃ l, ByC w w.heap.size v l := by
  obtain ⟨v', xs, e, hr⟩ := h.cells'
  injection e with e
  subst e
  exact ⟨xs, hr.mono (fun _ hk => hk) (fun _ _ => trivial)⟩
theorem ByC.cells {w : World} {B : Nat} {A : Option Addr} {n c : Nat} {l : List GCell} (h : ByC w B (.slice A n c) l) (k : Nat) (hk : k < l.length) :
    ∃ ad, A = some ad ∧ ad.block < B ∧ w.cell? (ad.add (k * 2)) = some (.int .u64 ((l[k]).cut.toNat : Int)) ∧ w.cell? { block := (ad.add (k * 2)).block, off := (ad.add (k * 2)).off + 1 } = some (.int .u32 ((l[k]).oth.toNat : Int)) := by
  obtain ⟨ad, cs, e, hb, ⟨rfl, _⟩, hc⟩ := h.at_ k l[k] (List.getElem?_eq_getElem hk)
  refine ⟨ad, e, hb, hc 0 _ rfl, ?_⟩
  have := hc 1 _ rfl
  rw [← add_add] at this
  have e2 : (ad.add (k * cCell.n)).add 1 = { block := (ad.add (k * 2)).block, off := (ad.add (k * 2)).off + 1 } := by simp [Addr.add, cCell, Cdc.flat]
  rw [← e2]
  exact this

/-! ### how many draws come to a neighbour -/
def cstep (W : Nat) (to : Int) (i : Nat) (c : GCell) (n : Nat) : Nat :=
  let cut := if W < c.cut.toNat then W else c.cut.toNat
  let n1 := if (i : Int) = to then (n + cut) % 18446744073709551616 else n
  if (c.oth.toNat : Int) = to then (n1 + (W - cut)) % 18446744073709551616 else n1
def cntK (W : Nat) (to : Int) (l : List GCell) : Nat → Nat
  | 0 => 0
  | k + 1 => match l[k]? with
    | some c => cstep W to k c (cntK W to l k)
    | none => cntK W to l k
def cnt (W : Nat) (to : Int) (l : List GCell) : Nat := cntK W to l l.length
theorem cntK_succ (W : Nat) (to : Int) (l : List GCell) (k : Nat) (hk : k < l.length) : cntK W to l (k + 1) = cstep W to k l[k] (cntK W to l k) := by
  rw [cntK, List.getElem?_eq_getElem hk]
theorem cstep_lt {W : Nat} {to : Int} {i : Nat} {c : GCell} {n : Nat} (hn : n < 18446744073709551616) : cstep W to i c n < 18446744073709551616 := by
  unfold cstep
  simp only
  split
  · exact Nat.mod_lt _ (by decide)
  · split
    · exact Nat.mod_lt _ (by decide)
    · exact hn
theorem cntK_lt (W : Nat) (to : Int) (l : List GCell) : ∀ k, cntK W to l k < 18446744073709551616
  | 0 => by simp [cntK]
  | k + 1 => by
    rw [cntK]
    split
    · exact cstep_lt (cntK_lt W to l k)
    · exact cntK_lt W to l k

end Go.Proofs.Ythfnikdapknohaa

namespace Go.Proofs.Ythfnikdapknohaa
set_option linter.unusedSimpArgs false
set_option linter.unusedVariables false
open Go.RowKit

def cput1 (c : GCell) : List UInt8 := vput c.cut.toNat ++ vput c.oth.toNat
def cput (l : List GCell) : List UInt8 := (l.map cput1).flatten
theorem cput_snoc (l : List GCell) (k : Nat) (hk : k < l.length) : cput (l.take (k + 1)) = cput (l.take k) ++ vput (l[k]).cut.toNat ++ vput (l[k]).oth.toNat := by
  unfold cput
  rw [List.take_add_one, List.map_append, List.flatten_append, List.getElem?_eq_getElem hk]
  simp [cput1]
theorem cput_len : ∀ l : List GCell, (cput l).length ≤ 22 * l.length
  | [] => by simp [cput]
  | a :: t => by
    have h1 := vput_len64 a.cut.toNat (u64_lt a.cut)
    have h2 := vput_len64 a.oth.toNat (by have := u32_lt a.oth; omega)
    have h3 := cput_len t
    simp only [cput, List.map_cons, List.flatten_cons, List.length_append, List.length_cons, cput1] at *
    omega

set_option maxRecDepth 100000 in
set_option maxHeartbeats 3200000 in
theorem rcput_any (w : World) (B : Nat) (v : Value) (l : List GCell) (hl : l.length ≤ 1073741824) (h : ByC w B v l) (hB : B ≤ w.heap.size) :
    Calls Try.prog 51 #[v] w fun e w' => ∃ v', e = .returned v' ∧ Ow w' w.heap.size v' (cput l) ∧ Below w.heap.size w w' := by
  obtain ⟨A, c, rfl, hc1, hc2⟩ := h.form
  unfold maxLen at hc2
  go_enter Try.func51, Try.ntmps51
  go_wp2_with fail
  have hown1 := Ow.new_ w [] (Nat.zero_le _)
  have hb1 := balloc w (.cells #[] 5)
  go_loopw [3, 8] (fun b i wr => ∃ k : Nat, k ≤ l.length ∧ i = .int .i64 k ∧ Ow wr w.heap.size b (cput (l.take k)) ∧ Below w.heap.size w wr ∧ ByC wr B (.slice A l.length c) l) (fun _ i _ => l.length - (intOf i).toNat)
  case atStart => exact ⟨0, by omega, rfl, (by rw [List.take_zero]; exact hown1), hb1, ByC.below h (hb1.mono hB)⟩
  case round =>
    obtain ⟨k, hk, rfl, hob, hbl, hrow⟩ := hrel
    have hsz := hbl.size
    by_cases hlt : k < l.length
    · obtain ⟨ad, rfl, hab, hx0, hx1⟩ := ByC.cells hrow k hlt
      have hgl := cput_len (l.take k)
      have htk : (l.take k).length ≤ 1073741824 := by simp; omega
      have hbl0 : (cput (l.take k)).length ≤ 30000000000 := by omega
      have hsn := cput_snoc l k hlt
      have hcu := u64_lt (l[k]).cut
      have hot := u32_lt (l[k]).oth
      have Hsn := Lib.hid hsn
      have hlc := vput_len64 (l[k]).cut.toNat hcu
      have hBr : B ≤ wr.heap.size := Nat.le_trans hB hsz
      generalize hpp : cput (l.take k) = pre at *
      generalize hal : l[k] = a at *
      have Hak := Lib.hid hal
      clear hal hpp hsn
      have hlc2 := vput_len64 a.cut.toNat (u64_lt a.cut)
      have hlen2 : (pre ++ vput a.cut.toNat).length ≤ 40000000000 := by rw [List.length_append]; omega
      have Hlen2 := Lib.hid hlen2
      clear hlen2
      go_wp2_with fail
      refine (refnum_any a.cut.toNat wr hcu).mono ?_
      rintro _ w3 ⟨v3, rfl, how3, hb3⟩
      have hs3 := hb3.size
      have hrow3 := ByC.below hrow (hb3.mono hBr)
      go_wp2_with (at_builtin
                   refine wpList_app8 rfl (.tmp 11) (.tmp 17) rfl (hob.below_ hb3) how3.by_ rfl rfl (by omega) (Nat.le_trans hsz hs3) ?_
                   intro v4 w4 hown4 hext4
                   have hb34 := hext4.below (B := w.heap.size) (Nat.le_trans hsz hs3) fun q hq => (hob.blk q hq).1
                   have hrow4 := ByC.below hrow3 (hb34.mono hB)
                   have hx1' := (ByC.cells hrow4 k hlt)
                   obtain ⟨ad4, e4, _, _, hx1'⟩ := hx1'
                   injection e4 with e4
                   subst e4
                   rw [Hak.out] at hx1')
      have hs4 := hext4.gr.size
      have hbr4 : Below w.heap.size wr w4 := (hb3.mono hsz).trans hb34
      refine (refnum_any a.oth.toNat w4 (by omega)).mono ?_
      rintro _ w5 ⟨v5, rfl, how5, hb5⟩
      have hs5 := hb5.size
      have hs04 : w.heap.size ≤ w4.heap.size := Nat.le_trans hsz hbr4.size
      go_wp2_with (at_builtin
                   go_loud (refine wpList_app8 rfl (.tmp 19) (.tmp 26) rfl (hown4.below_ hb5) how5.by_ rfl rfl (by have := Hlen2.out; have := vput_len64 a.oth.toNat (by omega); omega) (Nat.le_trans hs04 hs5) ?_)
                   intro v6 w6 hown6 hext6)
      have hb46 : Below w.heap.size w4 w6 := (hb5.mono hs04).trans (hext6.below (B := w.heap.size) (Nat.le_trans hs04 hs5) fun q hq => (hown4.blk q hq).1)
      go_roundw
      case rel => exact ⟨k + 1, by omega, by go_num, by rw [Hsn.out]; exact hown6, hbl.trans (hbr4.trans hb46), ByC.below hrow4 (hb46.mono hB)⟩
      case measure => simp [intOf]; omega
    · obtain rfl : k = l.length := by omega
      rw [List.take_length] at hob
      go_wp2_with fail
      go_ret
      exact ⟨_, rfl, hob, hbl⟩
end Go.Proofs.Ythfnikdapknohaa

namespace Go.Proofs.Ythfnikdapknohaa
set_option linter.unusedSimpArgs false
set_option linter.unusedVariables false
open Go.Shelf
def lays225_ren : Go.Shelf.Ren := ⟨fun | 25 => 97 | 31 => 100 | 32 => 101 | 37 => 104 | n => n, fun | 22 => 158 | 3 => 3 | 4 => 4 | 40 => 143 | 0 => 0 | n => n, fun | n => n⟩
theorem lays225 : Go.Proofs.Lays2.n25 Try.prog lays225_ren := {
  mixed := by kernel_rfl
  f25 := Try.func97.trans (congrArg some (by kernel_rfl))
  f31 := Try.func100.trans (congrArg some (by kernel_rfl))
  f32 := Try.func101.trans (congrArg some (by kernel_rfl))
  f37 := Try.func104.trans (congrArg some (by kernel_rfl))
  t0 := Try.underlying0
  a0 := Try.isAgg0
  z0 := Try.sizeOf0
  v0 := Try.zeroValue0
  t3 := Try.underlying3
  a3 := Try.isAgg3
  z3 := Try.sizeOf3
  v3 := Try.zeroValue3
  t4 := Try.underlying4
  a4 := Try.isAgg4
  z4 := Try.sizeOf4
  v4 := Try.zeroValue4
  t22 := Try.underlying158
  a22 := Try.isAgg158
  z22 := Try.sizeOf158
  v22 := Try.zeroValue158
  t40 := Try.underlying143
  a40 := Try.isAgg143
  z40 := Try.sizeOf143
  v40 := Try.zeroValue143 }
def lays221_ren : Go.Shelf.Ren := ⟨fun | 21 => 98 | 27 => 102 | 28 => 103 | 35 => 105 | 39 => 106 | n => n, fun | 22 => 158 | 3 => 3 | 4 => 4 | 0 => 0 | n => n, fun | n => n⟩
theorem lays221 : Go.Proofs.Lays2.n21 Try.prog lays221_ren := {
  mixed := by kernel_rfl
  f21 := Try.func98.trans (congrArg some (by kernel_rfl))
  f27 := Try.func102.trans (congrArg some (by kernel_rfl))
  f28 := Try.func103.trans (congrArg some (by kernel_rfl))
  f35 := Try.func105.trans (congrArg some (by kernel_rfl))
  f39 := Try.func106.trans (congrArg some (by kernel_rfl))
  t0 := Try.underlying0
  a0 := Try.isAgg0
  z0 := Try.sizeOf0
  v0 := Try.zeroValue0
  t3 := Try.underlying3
  a3 := Try.isAgg3
  z3 := Try.sizeOf3
  v3 := Try.zeroValue3
  t4 := Try.underlying4
  a4 := Try.isAgg4
  z4 := Try.sizeOf4
  v4 := Try.zeroValue4
  t22 := Try.underlying158
  a22 := Try.isAgg158
  z22 := Try.sizeOf158
  v22 := Try.zeroValue158
  i3 := by kernel_rfl }
end Go.Proofs.Ythfnikdapknohaa

namespace Go.Proofs.Ythfnikdapknohaa
set_option linter.unusedSimpArgs false
set_option linter.unusedVariables false
open Go.RowKit

def puts : List Value → Nat → List Value → List Value
  | cs, _, [] => cs
  | cs, o, v :: r => puts (cs.set o v) (o + 1) r
theorem puts_len : ∀ (vs : List Value) (cs : List Value) (o : Nat), (puts cs o vs).length = cs.length
  | [], _, _ => rfl
  | v :: r, cs, o => by rw [puts, puts_len r, List.length_set]
theorem puts_get : ∀ (vs : List Value) (cs : List Value) (o k : Nat), o + vs.length ≤ cs.length → (puts cs o vs)[k]? = if o ≤ k ∧ k < o + vs.length then vs[k - o]? else cs[k]?
  | [], cs, o, k, h => by
    rw [puts, if_neg]
    intro hh
    simp only [List.length_nil] at hh
    omega
  | v :: r, cs, o, k, h => by
    simp only [List.length_cons] at h ⊢
    rw [puts, puts_get r _ _ k (by rw [List.length_set]; omega)]
    by_cases h1 : o = k
    · subst h1
      rw [if_neg (by omega), if_pos (by omega), List.getElem?_set, if_pos rfl, if_pos (by omega), Nat.sub_self]
      first | done | rfl
    · by_cases h2 : o + 1 ≤ k ∧ k < o + 1 + r.length
      · rw [if_pos h2, if_pos (by omega), show k - o = (k - (o + 1)) + 1 from by omega, List.getElem?_cons_succ]
      · rw [if_neg h2, if_neg (by omega), List.getElem?_set, if_neg h1]
theorem BoxAt.setCells_ {T : TypeId} {b : Nat} : ∀ (vs : List Value) {w : World} {cs : List Value} (o : Nat), BoxAt T w b cs → BoxAt T (w.setCells b o vs) b (puts cs o vs)
  | [], _, _, _, h => h
  | v :: r, w, cs, o, h => BoxAt.setCells_ r (o + 1) (h.put o v)
theorem gsetCells (b : Nat) : ∀ (vs : List Value) (w : World) (o : Nat), w.grownBy (w.setCells b o vs) (some b)
  | [], w, _ => grefl w _
  | v :: r, w, o => gtrans (gset w ⟨b, o, none⟩ v) (gsetCells b r _ (o + 1))
theorem gdrew_ {w w' : World} {row : Option Nat} (h : w.grownBy w' row) : w.grownBy w'.drew row := gtrans h (gbelow ((Below.refl w'.heap.size w').drew) row)
/-- what a call has changed: blocks of P, and new ones -/
structure Chg (P : Nat → Prop) (w w' : World) : Prop where
  os : w'.os = w.os
  tape : w'.tape = w.tape
  output : w'.output = w.output
  size : w.heap.size ≤ w'.heap.size
  block : ∀ k, k < w.heap.size → ¬ P k → w'.heap[k]? = w.heap[k]?
theorem Chg.refl (P : Nat → Prop) (w : World) : Chg P w w := ⟨rfl, rfl, rfl, Nat.le_refl _, fun _ _ _ => rfl⟩
theorem Chg.trans {P : Nat → Prop} {a b c : World} (h : Chg P a b) (k : Chg P b c) : Chg P a c :=
  ⟨k.os.trans h.os, k.tape.trans h.tape, k.output.trans h.output, Nat.le_trans h.size k.size, fun i hi hn => (k.block i (Nat.lt_of_lt_of_le hi h.size) hn).trans (h.block i hi hn)⟩
theorem Chg.more {P Q : Nat → Prop} {a b : World} (h : Chg P a b) (hq : ∀ k, k < a.heap.size → P k → Q k) : Chg Q a b := ⟨h.os, h.tape, h.output, h.size, fun k hk hn => h.block k hk fun hp => hn (hq k hk hp)⟩
theorem Chg.ofGrown {P : Nat → Prop} {a b : World} {row : Option Nat} (h : a.grownBy b row) (hr : ∀ k, row = some k → P k) : Chg P a b := ⟨h.os, h.tape, h.output, h.size, fun k hk hn => h.block k hk fun e => hn (hr k e.symm)⟩
theorem Chg.ofBelow {P : Nat → Prop} {a b : World} (h : Below a.heap.size a b) : Chg P a b := ⟨h.os, h.tape, h.output, h.size, fun k hk _ => h.block k hk⟩
theorem Chg.set {P : Nat → Prop} (w : World) (p : Addr) (u : Value) (h : P p.block) : Chg P w (w.setCell p u) := Chg.ofGrown (gset w p u) fun k e => by injection e with e; rw [← e]; exact h
theorem Chg.drew_ {P : Nat → Prop} {a b : World} (h : Chg P a b) : Chg P a b.drew := ⟨h.os, h.tape, h.output, h.size, h.block⟩
theorem Chg.alloc_ {P : Nat → Prop} {a b : World} (h : Chg P a b) (o : Obj) : Chg P a (b.alloc o) := h.trans (Chg.ofBelow (balloc b o))
/-- changes of what was new are none -/
theorem Chg.past {P Q : Nat → Prop} {a b c : World} (h : Chg P a b) (k : Chg Q b c) (hq : ∀ i, Q i → a.heap.size ≤ i ∨ P i) : Chg P a c :=
  ⟨k.os.trans h.os, k.tape.trans h.tape, k.output.trans h.output, Nat.le_trans h.size k.size, fun i hi hn => (k.block i (Nat.lt_of_lt_of_le hi h.size) (fun hx => by
    rcases hq i hx with h1 | h1
    · omega
    · exact hn h1)).trans (h.block i hi hn)⟩
theorem Chg.below {P : Nat → Prop} {a b : World} {B : Nat} (h : Chg P a b) (hB : B ≤ a.heap.size) (hp : ∀ k, P k → B ≤ k) : Below B a b := by
  have h1 := h.block
  refine (Below.refl B a).trans ⟨h.os, h.tape, h.output, h.size, fun k hk => h1 k (by omega) fun hx => by have := hp k hx; omega⟩
theorem BoxAt.chg {P : Nat → Prop} {T : TypeId} {w w' : World} {g : Nat} {cs : List Value} (h : BoxAt T w g cs) (hc : Chg P w w') (hn : ¬ P g) : BoxAt T w' g cs := (hc.block g h.lt hn).trans h
theorem Chg.drewN_ {P : Nat → Prop} {a b : World} (h : Chg P a b) (n : Nat) : Chg P a (b.drewN n) := ⟨h.os, h.tape, h.output, h.size, h.block⟩
end Go.Proofs.Ythfnikdapknohaa

namespace Go.Proofs.Ythfnikdapknohaa
set_option linter.unusedSimpArgs false
set_option linter.unusedVariables false
open Go.RowKit

end Go.Proofs.Ythfnikdapknohaa

namespace Go.Proofs.Ythfnikdapknohaa
set_option linter.unusedSimpArgs false
set_option linter.unusedVariables false
open Go.RowKit

/-- is each cell right? -/
def cgood (W n : Nat) (l : List GCell) : Bool := l.all fun c => decide (c.cut.toNat ≤ W) && decide (c.oth.toNat < n)
/-- how many draws come to each of n, by the first k cells -/
def cntRow (W : Nat) (l : List GCell) (n k : Nat) : List Value := (List.range n).map fun (j : Nat) => Value.int .u64 ((cntK W (j : Int) l k : Nat) : Int)
theorem cntRow_get (W : Nat) (l : List GCell) (n k j : Nat) (hj : j < n) : (cntRow W l n k)[j]? = some (.int .u64 ((cntK W (j : Int) l k : Nat) : Int)) := by
  simp [cntRow, List.getElem?_range hj]
theorem cntRow_len (W : Nat) (l : List GCell) (n k : Nat) : (cntRow W l n k).length = n := by simp [cntRow]
theorem made64 (n : Nat) (l : List GCell) (W : Nat) : madeCells (Value.cells (.int .u64 0)) n = (cntRow W l n 0).toArray := by
  apply Array.ext
  · simp [madeCells, Value.cells, cntRow]
  · intro i h1 h2
    simp [madeCells, Value.cells, cntRow, cntK, Nat.mod_one]
theorem info64 : (Try.prog.info? 71).map (fun i => (i.zero, i.size, i.bytes)) = some (some (.int .u64 0), 1, 8) := by kernel_rfl
theorem make64 (l : List GCell) (W n : Nat) (hn : n ≤ 4294967296) : ∀ w : World, (Instr.makeSlice 133 (.int .i64 (n : Int)) (.int .i64 (n : Int))).run Try.prog w = .ok (.slice (some ⟨w.heap.size, 0, none⟩) n n) (w.alloc (.cells (cntRow W l n 0).toArray 71)) := fun w => by
  obtain ⟨i, hi, hz0, hz1, hz2⟩ := info_parts info64
  have hr := run_make (P := Try.prog) w 133 71 i (.int .u64 0) Try.underlying133 hi hz0 .i64 .i64 (n : Int) (n : Int) (by omega) (by omega) (by rw [hz2]; omega) (by omega)
  rw [Int.toNat_natCast, hz1, Nat.mul_one, made64 n l W] at hr
  exact hr
/-- a cell that is right is added -/
theorem cntRow_step (W : Nat) (l : List GCell) (n k : Nat) (hk : k < l.length) (hkn : k < n) (cut oth : Nat) (hc : (l[k]).cut.toNat = cut) (ho : (l[k]).oth.toNat = oth) (hcW : cut ≤ W) (hon : oth < n) (x : Nat)
    (hx : x = if oth = k then (cntK W (k : Int) l k + cut) % 18446744073709551616 else cntK W (oth : Int) l k) :
    ((cntRow W l n k).set k (.int .u64 (((cntK W (k : Int) l k + cut) % 18446744073709551616 : Nat) : Int))).set oth (.int .u64 (((x + (W - cut)) % 18446744073709551616 : Nat) : Int)) = cntRow W l n (k + 1) := by
  apply List.ext_getElem?
  intro j
  rcases Nat.lt_or_ge j n with hj | hj
  · rw [cntRow_get W l n (k + 1) j hj, cntK_succ W j l k hk, List.getElem?_set, List.getElem?_set, cntRow_get W l n k j hj]
    unfold cstep
    simp only [hc, ho, Nat.not_lt.2 hcW, if_false, List.length_set, cntRow_len, hon, hkn, if_true]
    subst hx
    by_cases h1 : oth = j
    · subst h1
      by_cases h2 : oth = k
      · subst h2; simp
      · have : ¬ k = oth := fun e => h2 e.symm
        have h3 : ¬ (k : Int) = (oth : Int) := by omega
        simp [this, h2, h3]
    · have h4 : ¬ (oth : Int) = (j : Int) := by omega
      rw [if_neg h1, if_neg h4]
      by_cases h2 : k = j
      · subst h2; simp
      · have h3 : ¬ (k : Int) = (j : Int) := by omega
        rw [if_neg h2, if_neg h3]
  · rw [List.getElem?_eq_none (by simp [cntRow_len]; omega), List.getElem?_eq_none (by rw [cntRow_len]; omega)]
theorem cgood_snoc (W n : Nat) (l : List GCell) (k : Nat) (hk : k < l.length) : cgood W n (l.take (k + 1)) = (cgood W n (l.take k) && (decide ((l[k]).cut.toNat ≤ W) && decide ((l[k]).oth.toNat < n))) := by
  unfold cgood
  rw [List.take_add_one, List.all_append, List.getElem?_eq_getElem hk]
  simp
theorem cgood_no (W n : Nat) (l : List GCell) (k : Nat) (hk : k < l.length) (h : ¬ ((l[k]).cut.toNat ≤ W ∧ (l[k]).oth.toNat < n)) : cgood W n l = false := by
  unfold cgood
  rw [Bool.eq_false_iff]
  intro hc
  have := List.all_eq_true.1 hc _ (List.getElem_mem hk)
  simp at this
  exact h this

end Go.Proofs.Ythfnikdapknohaa

namespace Go.Proofs.Ythfnikdapknohaa
set_option linter.unusedSimpArgs false
set_option linter.unusedVariables false
open Go.RowKit

def nbrs (l : List GArc) : Bool := decide (0 < l.length) && gmay l
/-- is a table right? -/
def mayOk (l : List GArc) (t : List GCell) : Bool :=
  nbrs l && (decide (l.length = t.length) && (cgood (gsum l) t.length t && (List.range l.length).all fun i => decide (cnt (gsum l) (i : Int) t = l.length * ((l[i]?).getD ⟨0, 0⟩).wt.toNat)))

theorem mayOk_no1 {l : List GArc} {t : List GCell} (h : nbrs l = false) : mayOk l t = false := by simp [mayOk, h]
theorem mayOk_no2 {l : List GArc} {t : List GCell} (h : l.length ≠ t.length) : mayOk l t = false := by simp [mayOk, h]
theorem mayOk_no3 {l : List GArc} {t : List GCell} (h : cgood (gsum l) t.length t = false) : mayOk l t = false := by simp [mayOk, h]
theorem mayOk_no4 {l : List GArc} {t : List GCell} (k : Nat) (hk : k < l.length) (h : cnt (gsum l) (k : Int) t ≠ l.length * (l[k]).wt.toNat) : mayOk l t = false := by
  unfold mayOk
  have : ((List.range l.length).all fun i => decide (cnt (gsum l) (i : Int) t = l.length * ((l[i]?).getD ⟨0, 0⟩).wt.toNat)) = false := by
    rw [Bool.eq_false_iff]
    intro hc
    have := List.all_eq_true.1 hc k (List.mem_range.2 hk)
    rw [List.getElem?_eq_getElem hk] at this
    simp at this
    exact h this
  rw [this]
  simp
theorem mayOk_yes {l : List GArc} {t : List GCell} (h1 : nbrs l = true) (h2 : l.length = t.length) (h3 : cgood (gsum l) t.length t = true) (h4 : ∀ k (hk : k < l.length), cnt (gsum l) (k : Int) t = l.length * (l[k]).wt.toNat) : mayOk l t = true := by
  unfold mayOk
  rw [h1, h3, decide_eq_true h2]
  simp only [Bool.true_and, List.all_eq_true, List.mem_range, decide_eq_true_eq]
  intro i hi
  rw [List.getElem?_eq_getElem hi]
  exact h4 i hi

end Go.Proofs.Ythfnikdapknohaa

namespace Go.Proofs.Ythfnikdapknohaa
set_option linter.unusedSimpArgs false
set_option linter.unusedVariables false
open Go.RowKit

end Go.Proofs.Ythfnikdapknohaa

namespace Go.Proofs.Ythfnikdapknohaa
set_option linter.unusedSimpArgs false
set_option linter.unusedVariables false
open Go.RowKit
section
variable {α : Type} {E : TypeId} {C : Cdc α} {w w' : World} {base : Nat} {O S S' : Nat → Prop} {v : Value} {xs : List α}
theorem wp_appR {o : Oper} {a : Act} {K : Act → World → Prop} {Q : Exit → Act → World → Prop} (s x : Operand) (t : TypeId)
    (ho : o.op = .call { callee := .builtin .append, args := #[s, x], argTypes := #[t, t] })
    (ht : Try.prog.underlying t = some (.slice E)) {z : Value} {bytes : Nat} (hinfo : (Try.prog.info? E).map (fun i => (i.zero, i.size, i.bytes)) = some (some z, C.n, bytes)) (hz2 : z.cells.size = C.n) (hn0 : 0 < C.n) (hb0 : bytes ≤ 256)
    {v2 : Value} {ys : List α} (hown : OwnR E C w base S v xs) (hrd : RowOn C w O S v2 ys) (hs : a.eval s = v) (hx : a.eval x = v2)
    (hsz : xs.length + ys.length ≤ 549755813888) (hbase : base ≤ w.heap.size)
    (h : ∀ v' w', OwnR E C w' base S v' (xs ++ ys) → Ext w w' v v' → K (a.put o.dst v') w') : Oper.wp Try.prog o a w K Q := by
  obtain ⟨i, hi, hz0, hz1, hby⟩ := info_parts hinfo
  obtain ⟨css, hl, h2, h3, h4⟩ := hown
  have hcl := OwnR.clen hl h3
  obtain ⟨A, c, rfl, hc1, hc2, hcell⟩ := hrd
  -- the cells of the source
  obtain ⟨dss, hdl, hd3, hdr⟩ : ∃ dss : List (List Value), dss.length = ys.length ∧ (∀ (i : Nat) (cs : List Value) (y : α), dss[i]? = some cs → ys[i]? = some y → C.at_ w S cs y) ∧
      ∃ B, Rd w B C.n A ys.length dss.flatten := by
    rcases Nat.eq_zero_or_pos ys.length with h0 | h0
    · have : ys = [] := List.eq_nil_of_length_eq_zero h0
      subst this
      exact ⟨[], rfl, fun i cs y h => by simp at h, 0, by simp [Rd]⟩
    · obtain ⟨ad, rfl, _, hc⟩ := hcell h0
      have hex : ∀ i : Fin ys.length, ∃ cs, C.at_ w S cs (ys[i.1]'i.2) ∧ ∀ (j : Nat) (u : Value), cs[j]? = some u → w.cell? (ad.add (i.1 * C.n + j)) = some u := fun i => hc i.1 _ (List.getElem?_eq_getElem i.2)
      refine ⟨List.ofFn fun i => (hex i).choose, by simp, ?_, ad.block + 1, ?_⟩
      · intro i cs y hcs hy
        obtain ⟨hi', rfl⟩ := List.getElem?_eq_some_iff.1 hy
        rw [List.getElem?_ofFn, dif_pos hi'] at hcs
        injection hcs with hcs
        rw [← hcs]
        exact (hex ⟨i, hi'⟩).choose_spec.1
      · have hcl2 : ∀ cs ∈ (List.ofFn fun i => (hex i).choose), cs.length = C.n := by
          intro cs hcs
          obtain ⟨i, rfl⟩ := List.mem_ofFn.1 hcs
          exact C.len (hex i).choose_spec.1
        refine ⟨by rw [flat_len C.n _ hcl2]; simp, fun _ => ⟨ad, rfl, Nat.lt_succ_self _, fun j u hu => ?_⟩⟩
        have hj : j < ys.length * C.n := by
          have := (List.getElem?_eq_some_iff.1 hu).1
          rw [flat_len C.n _ hcl2] at this
          simpa using this
        have hi' : j / C.n < ys.length := Nat.div_lt_of_lt_mul (by rw [Nat.mul_comm]; exact hj)
        have hj2 : j % C.n < C.n := Nat.mod_lt _ hn0
        have hdm : j / C.n * C.n + j % C.n = j := by rw [Nat.mul_comm]; exact Nat.div_add_mod j C.n
        have := flat_get C.n _ hcl2 (j / C.n) (hex ⟨j / C.n, hi'⟩).choose (j % C.n) (by rw [List.getElem?_ofFn, dif_pos hi']) hj2
        rw [hdm, hu] at this
        have := (hex ⟨j / C.n, hi'⟩).choose_spec.2 (j % C.n) u this.symm
        rwa [hdm] at this
  obtain ⟨B, hrd⟩ := hdr
  have hcl2 := OwnR.clen hdl hd3
  obtain ⟨v', w', hr, g2, g3, g5⟩ := run_append_rd (P := Try.prog) w base t o.type E i z C.n bytes ht hi hz0 hz1 hby hz2 hn0 v xs.length css.flatten h2 B A ys.length c dss.flatten hrd (by
      intro u hu
      obtain ⟨cs, hcs, hu⟩ := List.mem_flatten.1 hu
      obtain ⟨i, hi', rfl⟩ := List.mem_iff_getElem.1 hcs
      exact C.one (hd3 i _ (ys[i]'(by omega)) (List.getElem?_eq_getElem hi') (List.getElem?_eq_getElem (by omega))) u hu)
    (by unfold maxLen; omega) (by
      calc (xs.length + ys.length) * bytes ≤ 549755813888 * 256 := Nat.mul_le_mul hsz hb0
        _ ≤ _ := by decide) hbase
  unfold Oper.wp execOp
  simp only [ho, resolve, invoke, builtin, Sem.run_bind, Sem.run_pure, Result.andThen_ok, List.map_toArray, List.map_cons, List.map_nil, hs, hx, hr]
  have hSame : ∀ p : Addr, S p.block → w'.cell? p = w.cell? p := fun p hp => World.cell?_of_block (g3.block p.block (h4 _ hp).1 (fun e => (h4 _ hp).2 e.symm))
  refine (h v' w' ⟨css ++ dss, by simp [hl, hdl], by rw [List.length_append, List.flatten_append]; exact g2, ?_, ?_⟩ ⟨g3, ?_⟩)
  · intro j cs x hc hx'
    refine C.keep ?_ hSame
    rcases Nat.lt_or_ge j xs.length with hj | hj
    · rw [List.getElem?_append_left (by omega)] at hc
      rw [List.getElem?_append_left hj] at hx'
      exact h3 j cs x hc hx'
    · rw [List.getElem?_append_right (by omega)] at hc
      rw [List.getElem?_append_right hj, ← hl] at hx'
      exact hd3 _ cs x hc hx'
  · intro k hk
    refine ⟨Nat.lt_of_lt_of_le (h4 k hk).1 g3.size, ?_⟩
    rcases g5 with g5 | g5
    · rw [g5]; exact (h4 k hk).2
    · rw [g5]; intro e; injection e with e; have := (h4 k hk).1; omega
  · rcases g5 with g5 | g5
    · exact .inl g5
    · exact .inr fun k hk => by rw [g5] at hk; injection hk with hk; omega


end
/-- append(s, y), y in a block of its own, at a step -/
theorem step_app1R {α : Type} {E : TypeId} {C : Cdc α} {S : Nat → Prop} {ops : Array Oper} {o : Oper} {a : Act} {w : World} {K : Act → World → Prop} {Q : Exit → Act → World → Prop} {E0 : Prop} (hgd : o.guard = none) (s x : Operand) (t : TypeId)
    (ho : o.op = .call { callee := .builtin .append, args := #[s, x], argTypes := #[t, t] })
    (ht : Try.prog.underlying t = some (.slice E)) {z : Value} {bytes : Nat} (hinfo : (Try.prog.info? E).map (fun i => (i.zero, i.size, i.bytes)) = some (some z, C.n, bytes)) (hz2 : z.cells.size = C.n) (hn0 : 0 < C.n) (hb0 : bytes ≤ 256)
    {base g : Nat} {v : Value} {xs : List α} {y : α} (cs : List Value) (hown : OwnR E C w base S v xs) (hy : C.at_ w S cs y) (hg : BoxAt E w g cs) (hs : a.eval s = v) (hx : a.eval x = .slice (some ⟨g, 0, none⟩) 1 1)
    (hsz : xs.length ≤ 549755813887) (hbase : base ≤ w.heap.size)
    (h : ∀ v' w', OwnR E C w' base S v' (xs ++ [y]) → Ext w w' v v' → K (a.put o.dst v') w') :
    if Region.wanted o (yielded ops a.tmps) = true then Oper.wp Try.prog o a w K Q else E0 := by
  have hw : Region.wanted o (yielded ops a.tmps) = true := by simp [Region.wanted, hgd]
  rw [if_pos hw]
  have hrow : RowOn C w (fun k => k < w.heap.size) S (.slice (some ⟨g, 0, none⟩) 1 1) [y] := by
    refine ⟨_, 1, rfl, Nat.le_refl _, by simp [maxLen], fun _ => ⟨_, rfl, hg.lt, fun i y' hi => ?_⟩⟩
    match i, hi with
    | 0, hi =>
      injection hi with hi
      subst hi
      refine ⟨cs, hy, fun j u hu => ?_⟩
      rw [Nat.zero_mul, Nat.zero_add]
      exact hg.cells j u hu
    | i + 1, hi => simp at hi
  exact wp_appR s x t ho ht hinfo hz2 hn0 hb0 hown hrow hs hx (by simp; omega) hbase h
end Go.Proofs.Ythfnikdapknohaa

namespace Go.Proofs.Ythfnikdapknohaa
set_option linter.unusedSimpArgs false
set_option linter.unusedVariables false
open Go.RowKit

theorem gget_succ (n : Nat) (acc : List GArc) (next left : Nat) (s : List UInt8) (e : Int) : gget (n + 1) acc next left s e =
    if 4294967295 < next ∨ left = 0 then ([], [], gbad s)
    else if (numS (left - 1) (numS (4294967295 - next) s e).2.1 (numS (4294967295 - next) s e).2.2).2.2 ≠ 0 then ([], [], (numS (left - 1) (numS (4294967295 - next) s e).2.1 (numS (4294967295 - next) s e).2.2).2.2)
    else gget n (acc ++ [⟨UInt32.ofNat (next + (numS (4294967295 - next) s e).1), UInt32.ofNat ((numS (left - 1) (numS (4294967295 - next) s e).2.1 (numS (4294967295 - next) s e).2.2).1 + 1)⟩]) (next + (numS (4294967295 - next) s e).1 + 1) (left - ((numS (left - 1) (numS (4294967295 - next) s e).2.1 (numS (4294967295 - next) s e).2.2).1 + 1)) (numS (left - 1) (numS (4294967295 - next) s e).2.1 (numS (4294967295 - next) s e).2.2).2.1 0 := rfl
theorem numS_dec (most : Nat) (s : List UInt8) (e : Int) (h : (numS most s e).2.2 = 0) : (numS most s e).2.1.length < s.length := by
  unfold numS at *
  split at h
  · rename_i he; exact absurd h he
  · rename_i he
    rw [if_neg he]
    obtain ⟨k, hk, h1, h2⟩ := numR_rest most s
    obtain ⟨h3, h4⟩ := h1 h
    have hne : s ≠ [] := by
      rintro rfl
      simp at hk; omega
    have := List.length_pos_iff.2 hne
    rw [h3]; simp; omega
theorem OwnR.grownRd {α : Type} {E : TypeId} {C : Cdc α} {w w' : World} {base : Nat} {v : Value} {xs : List α} {g : Nat} (h : OwnF E C w base v xs) (hg : w.grownBy w' (some g)) (hb : g < base) : OwnF E C w' base v xs :=
  h.keep hg (by
    cases hv : v.ownBlock with
    | none => exact .inl rfl
    | some q => exact .inr fun e => by injection e with e; have := (h.blk q hv).1; omega) (fun _ h => h.elim)

set_option maxRecDepth 100000 in
set_option maxHeartbeats 4000000 in
theorem gapsget_any (w : World) (g : Nat) (s0 : List UInt8) (e0 : Int) (hl : s0.length ≤ 1073741824) (h : RdrAt w g s0 e0) :
    Calls Try.prog 80 #[.pointer (some ⟨g, 0, none⟩)] w fun ev w' => ∃ v', ev = .returned v' ∧ OwnF 70 cArc w' w.heap.size v' (gread s0 e0).1 ∧ RdrAt w' g (gread s0 e0).2.1 (gread s0 e0).2.2 ∧ w.grownBy w' (some g) := by
  have hg0 := h.lt
  have hn := vnum_any w g s0 e0 18446744073709551615 (by decide) h
  rw [show (((18446744073709551615 : Nat) : Int)) = 18446744073709551615 from rfl] at hn
  have hlt := (numS_lt 18446744073709551615 s0 e0).1
  have herr := numS_err 18446744073709551615 s0 e0
  have hlen := numS_len 18446744073709551615 s0 e0
  have hR : gread s0 e0 = if (numS 18446744073709551615 s0 e0).2.2 ≠ 0 then ([], [], (numS 18446744073709551615 s0 e0).2.2) else gget (numS 18446744073709551615 s0 e0).1 [] 0 2147483647 (numS 18446744073709551615 s0 e0).2.1 0 := rfl
  generalize gread s0 e0 = R at *
  generalize numS 18446744073709551615 s0 e0 = N at *
  obtain ⟨n0, s1, e1⟩ := N
  simp only at hlt herr hlen hR
  have hR' : gget n0 [] 0 2147483647 s1 e1 = R ∧ (e1 ≠ 0 → n0 = 0) := by
    by_cases he : e1 = 0
    · subst he
      rw [if_neg (by simp)] at hR
      exact ⟨hR.symm, fun h => absurd rfl h⟩
    · rw [if_pos he] at hR
      obtain ⟨h1, h2⟩ := herr he
      subst h1; subst h2
      exact ⟨hR.symm, fun _ => rfl⟩
  obtain ⟨hR1, hR2⟩ := hR'
  have Hn := Lib.hid hn
  have HR1 := Lib.hid hR1
  have HR2 := Lib.hid hR2
  clear hR hn h herr hR1 hR2
  go_enter Try.func80, Try.ntmps80
  go_wp2_with fail
  refine Hn.out.mono ?_
  rintro _ w1 ⟨rfl, hr1, hg1⟩
  have Hr1 := Lib.hid hr1
  have Hg1 := Lib.hid hg1
  clear hr1 hg1 Hn
  go_wp2_with fail
  go_loopw [3, 4, 5, 6] (fun vo vl vx vn wr => ∃ (n : Nat) (acc : List GArc) (next left : Nat) (s : List UInt8) (e : Int), vn = .int .u64 (n : Int) ∧ vx = .int .u64 (next : Int) ∧ vl = .int .u64 (left : Int) ∧ n < 18446744073709551616 ∧ next ≤ 4294967296 ∧ left ≤ 2147483647 ∧ OwnF 70 cArc wr w.heap.size vo acc ∧ RdrAt wr g s e ∧ w.grownBy wr (some g) ∧ gget n acc next left s e = R ∧ (e ≠ 0 → n = 0) ∧ acc.length + s.length ≤ s0.length) (fun _ _ _ vn _ => (intOf vn).toNat)
  case atStart => exact ⟨n0, [], 0, 2147483647, s1, e1, rfl, rfl, rfl, hlt, by omega, by omega, OwnF.nil_ _ _, Hr1.out, Hg1.out, HR1.out, HR2.out, by simpa using hlen⟩
  case round =>
    obtain ⟨n, acc, next, left, s, e, rfl, rfl, rfl, hn, hnx, hlf, hown, hrd, hgr, hget, hen, hal⟩ := hrel
    have hsz := hgr.size
    rcases Nat.eq_zero_or_pos n with hn0 | hn0
    · subst hn0
      have hget' : (acc, s, e) = R := hget
      have Hget := Lib.hid hget'
      clear hget hget' hen
      go_wp2_with fail
      go_ret
      rw [← Hget.out]
      exact ⟨_, rfl, hown, hrd, hgr⟩
    · obtain ⟨m, rfl⟩ : ∃ m, n = m + 1 := ⟨n - 1, by omega⟩
      have he : e = 0 := by
        rcases Decidable.em (e = 0) with h | h
        · exact h
        · have := hen h; omega
      subst he
      rw [gget_succ] at hget
      have hleft := vleft_any wr g s 0 hrd
      have Hleft := Lib.hid hleft
      clear hen hleft
      by_cases hstop : 4294967295 < next ∨ left = 0
      · rw [if_pos hstop] at hget
        have Hget := Lib.hid hget
        have hgb : gbad s = if s = [] then 2 else 9 := rfl
        have hst : decide (4294967295 < (next : Int)) = true ∨ (decide (4294967295 < (next : Int)) = false ∧ ((left : Int) == 0) = true) := by
          rcases Decidable.em (4294967295 < next) with h | h
          · left; simp; omega
          · right; simp; omega
        clear hget hstop
        by_cases hs : s = []
        · subst hs
          rw [if_pos rfl] at hgb
          have hbad := vbad_any wr g [] 0 2 hrd (by decide)
          have hb2 : badL [] 0 2 = [] := rfl
          have he2 : badE 0 2 = 2 := rfl
          rw [hb2, he2] at hbad
          have Hbad := Lib.hid hbad
          have Hgb := Lib.hid hgb
          clear hbad hgb hb2 he2
          rcases hst with h1 | ⟨h1, h2⟩
          all_goals
            go_wp2_with (first
              | (go_at_call 94; refine Hleft.out.mono ?_; rintro _ _ ⟨rfl, rfl⟩))
            refine Hbad.out.mono ?_
            rintro _ w2 ⟨rfl, hr2, hg2⟩
            have hbad2 := vbad_any w2 g [] 2 9 hr2 (by decide)
            have hb3 : badL [] 2 9 = [] := rfl
            have he3 : badE 2 9 = 2 := rfl
            rw [hb3, he3] at hbad2
            go_wp2_with fail
            refine hbad2.mono ?_
            rintro _ w3 ⟨rfl, hr3, hg3⟩
            go_wp2_with fail
            go_ret
            rw [← Hget.out, Hgb.out]
            exact ⟨_, rfl, OwnF.nil_ _ _, hr3, gtrans hgr (gtrans hg2 hg3)⟩
        · rw [if_neg hs] at hgb
          have hlp := List.length_pos_iff.2 hs
          have hbad := vbad_any wr g s 0 9 hrd (by decide)
          have hb2 : badL s 0 9 = [] := by unfold badL; rw [if_pos ⟨rfl, by decide⟩]
          have he2 : badE 0 9 = 9 := rfl
          rw [hb2, he2] at hbad
          have hl0 : ((s.length : Int) == 0) = false := beq_eq_false_iff_ne.2 (by omega)
          have Hbad := Lib.hid hbad
          have Hgb := Lib.hid hgb
          clear hbad hgb hb2 he2 hs
          rcases hst with h1 | ⟨h1, h2⟩
          all_goals
            go_wp2_with (first
              | (go_at_call 94; refine Hleft.out.mono ?_; rintro _ _ ⟨rfl, rfl⟩))
            refine Hbad.out.mono ?_
            rintro _ w3 ⟨rfl, hr3, hg3⟩
            go_wp2_with fail
            go_ret
            rw [← Hget.out, Hgb.out]
            exact ⟨_, rfl, OwnF.nil_ _ _, hr3, gtrans hgr hg3⟩
      · rw [if_neg hstop] at hget
        have hns : next ≤ 4294967295 ∧ 0 < left := by omega
        have hd1 : decide (4294967295 < (next : Int)) = false := by simp; omega
        have hd2 : ((left : Int) == 0) = false := beq_eq_false_iff_ne.2 (by omega)
        have hsub : (4294967295 : Int) - (next : Int) = ((4294967295 - next : Nat) : Int) := by omega
        have hsub2 : (left : Int) - 1 = ((left - 1 : Nat) : Int) := by omega
        have hn1 := vnum_any wr g s 0 (4294967295 - next) (by omega) hrd
        have hb1 := numS_lt (4294967295 - next) s 0
        have hdec1 := numS_dec (4294967295 - next) s 0
        have hlen1 := numS_len (4294967295 - next) s 0
        have herr1 := numS_err (4294967295 - next) s 0
        generalize numS (4294967295 - next) s 0 = r at *
        obtain ⟨r1, s2, e2⟩ := r
        simp only at hget hb1 hdec1 hlen1 herr1
        have hb2 := numS_lt (left - 1) s2 e2
        have hlen2 := numS_len (left - 1) s2 e2
        have hn2 := fun W h => vnum_any W g s2 e2 (left - 1) (by omega) h
        have hdx : (numS (left - 1) s2 e2).2.2 = 0 → (numS (left - 1) s2 e2).2.1.length < s.length := fun h => by have := numS_dec (left - 1) s2 e2 h; omega
        generalize numS (left - 1) s2 e2 = q at *
        obtain ⟨q1, s3, e3⟩ := q
        simp only at hget hb2 hlen2 hn2 hdx
        have Hn1 := Lib.hid hn1
        have Hn2 := Lib.hid hn2
        have Hget := Lib.hid hget
        have hown' := Lib.hid hown
        have hdd : e3 = 0 → s3.length < s.length := hdx
        have Hd := Lib.hid hdd
        clear hn1 hn2 hget hstop hdec1 herr1 hown hdx hdd
        go_wp2_with fail
        refine Hn1.out.mono ?_
        rintro _ w2 ⟨rfl, hrd2, hg2⟩
        go_wp2_with fail
        refine (Hn2.out _ hrd2).mono ?_
        rintro _ w3 ⟨rfl, hrd3, hg3⟩
        have hg03 : wr.grownBy w3 (some g) := gtrans hg2 hg3
        have hown3 := hown'.out.grownRd hg03 hg0
        have hgr3 := gtrans hgr hg03
        have hsz3 := hgr3.size
        have herrc := verr_any w3 g s3 e3 hrd3
        have Herr := Lib.hid herrc
        clear herrc hrd2 hg2 hg3 hown'
        by_cases he3 : e3 = 0
        · subst he3
          have hget := Hget.out
          rw [if_neg (by simp)] at hget
          have hu1 := u32_ofNat_toNat (next + r1) (by omega)
          have hu2 := u32_ofNat_toNat (q1 + 1) (by omega)
          have hs23 : s3.length < s.length := by
            have := Hd.out
            omega
          have Hu1 := Lib.hid hu1
          have Hu2 := Lib.hid hu2
          have Hget2 := Lib.hid hget
          clear Hget hget hu1 hu2
          go_wp2_with (first
            | (go_at_call 44; refine Herr.out.mono ?_; rintro _ _ ⟨rfl, rfl⟩)
            | (at_builtin
               go_loud (refine wpList_app1R rfl (.tmp 42) (.tmp 48) 65 rfl Try.underlying65 infoArc rfl (by decide) (by decide) (y := ⟨UInt32.ofNat (next + r1), UInt32.ofNat (q1 + 1)⟩) [.int .u32 ((next : Int) + (r1 : Int)), .int .u32 ((q1 : Int) + 1)] hown3 ⟨by simp only [Hu1.out, Hu2.out]; first | done | rfl | simp, trivial⟩ rfl rfl (by omega) hsz3 ?_)
               intro v4 w4 hown4 hext4))
          go_roundw
          case rel =>
            have hlt3 : g < w3.heap.size := hrd3.lt
            exact ⟨m, _, next + r1 + 1, left - (q1 + 1), s3, 0, by go_num, by go_num, by go_num, by omega, by omega, by omega, hown4, hrd3.grown hext4.gr (fun k hk => by have := (hown3.blk k hk).1; omega), gnew hgr3 hext4.gr (fun i hi => .inl (hown3.blk i hi).1), Hget2.out, fun h => absurd rfl h, by simp; omega⟩
          case measure => first | (simp [intOf]; done) | (simp [intOf]; omega)
        · have hne : (e3 == 0) = false := by simpa using he3
          have hne' : (e3 != 0) = true := by simpa using he3
          have hget := Hget.out
          rw [if_pos he3] at hget
          have hs3 := hrd3.err he3
          subst hs3
          have Hget2 := Lib.hid hget
          clear hget Hget he3
          go_wp2_with (go_at_call 44; refine Herr.out.mono ?_; rintro _ _ ⟨rfl, rfl⟩)
          go_ret
          rw [← Hget2.out]
          exact ⟨_, rfl, OwnF.nil_ _ _, hrd3, hgr3⟩
end Go.Proofs.Ythfnikdapknohaa

namespace Go.Proofs.Ythfnikdapknohaa
set_option linter.unusedSimpArgs false
set_option linter.unusedVariables false
open Go.RowKit

def left0 (l : List GArc) (i : Nat) : Nat := l.length * ((l[i]?).getD ⟨0, 0⟩).wt.toNat
def lefts (l : List GArc) (k : Nat) : List UInt64 := (List.range k).map fun i => UInt64.ofNat (left0 l i)
def poors (l : List GArc) (k : Nat) : List Int := ((List.range k).filter fun i => decide (left0 l i < gsum l)).map fun (i : Nat) => (i : Int)
theorem lefts_len (l : List GArc) (k : Nat) : (lefts l k).length = k := by simp [lefts]
theorem lefts_succ (l : List GArc) (k : Nat) : lefts l (k + 1) = lefts l k ++ [UInt64.ofNat (left0 l k)] := by simp [lefts, List.range_succ]
theorem poors_yes (l : List GArc) (k : Nat) (h : left0 l k < gsum l) : poors l (k + 1) = poors l k ++ [(k : Int)] := by simp [poors, List.range_succ, h]
theorem poors_no (l : List GArc) (k : Nat) (h : ¬ left0 l k < gsum l) : poors l (k + 1) = poors l k := by simp [poors, List.range_succ, h]
theorem poors_len (l : List GArc) (k : Nat) : (poors l k).length ≤ k := by
  have := List.length_filter_le (fun i => decide (left0 l i < gsum l)) (List.range k)
  simp [poors] at this ⊢
  exact this
theorem info64' : (Try.prog.info? 71).map (fun i => (i.zero, i.size, i.bytes)) = some (some (.int .u64 0), c64.n, 8) := by kernel_rfl
theorem infoInt : (Try.prog.info? 3).map (fun i => (i.zero, i.size, i.bytes)) = some (some (.int .i64 0), cInt.n, 8) := by kernel_rfl

theorem BoxAt.drew_ {T : TypeId} {w : World} {g : Nat} {cs : List Value} (h : BoxAt T w g cs) : BoxAt T w.drew g cs := h
theorem OwnR.drew_ {α : Type} {E : TypeId} {C : Cdc α} {w : World} {base : Nat} {S : Nat → Prop} {v : Value} {xs : List α} (h : OwnR E C w base S v xs) : OwnR E C w.drew base S v xs := h.below_ (Below.refl _ _).drew

set_option maxRecDepth 100000 in
set_option maxHeartbeats 3200000 in
theorem begin_any (w : World) (B : Nat) (v : Value) (l : List GArc) (hl : l.length ≤ 1048576) (h : ByA w B v l) (hB : B ≤ w.heap.size) :
    Calls Try.prog 89 #[v] w fun e w' => ∃ g vl vp, e = .returned (.pointer (some ⟨g, 0, none⟩)) ∧ w.heap.size ≤ g ∧ BoxAt 160 w' g [.int .u64 (gsum l : Nat), vl, vp, .int .i64 0] ∧
      OwnF 71 c64 w' (g + 1) vl (lefts l l.length) ∧ OwnF 3 cInt w' (g + 1) vp (poors l l.length) ∧ Apart vl vp ∧ Below w.heap.size w w' := by
  obtain ⟨A, c, rfl, hc1, hc2⟩ := h.form
  unfold maxLen at hc2
  have hS := gsum_lt l
  have hSS : gsum l < 18446744073709551616 := by omega
  have hsum := gsum_any w B (.slice A l.length c) l (by omega) h hB
  have Hsum := Lib.hid hsum
  clear hsum hS
  go_enter Try.func89, Try.ntmps89
  go_wp2_with fail
  refine Hsum.out.mono ?_
  rintro _ w1 ⟨rfl, hb1⟩
  go_wp2_with fail
  have hs1 := hb1.size
  have hbx0 := BoxAt.new_ 160 w1 [.int .u64 (gsum l : Nat), .slice none 0 0, .slice none 0 0, .int .i64 0]
  have hb02 := bstep hb1 (balloc w1 (.cells #[.int .u64 (gsum l : Nat), .slice none 0 0, .slice none 0 0, .int .i64 0] 160))
  generalize hgg : w1.heap.size = g at *
  have hw2 : (w1.alloc (.cells #[.int .u64 (gsum l : Nat), .slice none 0 0, .slice none 0 0, .int .i64 0] 160)).heap.size = g + 1 := by simp [hgg]
  generalize hW2 : w1.alloc (.cells #[.int .u64 (gsum l : Nat), .slice none 0 0, .slice none 0 0, .int .i64 0] 160) = w2 at *
  have hbx0' : BoxAt 160 w2 g [.int .u64 (gsum l : Nat), .slice none 0 0, .slice none 0 0, .int .i64 0] := hbx0
  have Hbx0 := Lib.hid hbx0'
  have Hb02 := Lib.hid hb02
  clear hbx0 hbx0' hb02 hb1 hgg hW2
  go_loopw [12] (fun i wr => ∃ (k : Nat) (vl vp : Value), k ≤ l.length ∧ i = .int .i64 k ∧ BoxAt 160 wr g [.int .u64 (gsum l : Nat), vl, vp, .int .i64 0] ∧ OwnF 71 c64 wr (g + 1) vl (lefts l k) ∧ OwnF 3 cInt wr (g + 1) vp (poors l k) ∧ Apart vl vp ∧ Below w.heap.size w wr) (fun i _ => l.length - (intOf i).toNat)
  case atStart => exact ⟨0, _, _, by omega, rfl, Hbx0.out, OwnF.nil_ _ _, OwnF.nil_ _ _, fun q hq => by simp [Value.ownBlock] at hq, Hb02.out⟩
  case round =>
    obtain ⟨k, vl, vp, hk, rfl, hbx, hol, hop, hap, hbl⟩ := hrel
    have hbz := hbl.size
    have hglt := hbx.lt
    by_cases hlt : k < l.length
    · obtain ⟨ad, rfl, hab, hx0, hx1⟩ := (h.below (hbl.mono hB)).cells k hlt
      have hwt := u32_lt (l[k]).wt
      have hl0 : left0 l k = l.length * (l[k]).wt.toNat := by unfold left0; rw [List.getElem?_eq_getElem hlt]; rfl
      have hmb : l.length * (l[k]).wt.toNat ≤ 1048576 * 4294967295 := Nat.mul_le_mul hl (by omega)
      have hmul : IntKind.u64.wrap ((l.length : Int) * ((l[k]).wt.toNat : Int)) = ((l.length * (l[k]).wt.toNat : Nat) : Int) := by
        rw [← Int.natCast_mul, wrap_u64]; omega
      have hls := lefts_succ l k
      have hpy := poors_yes l k
      have hpn := poors_no l k
      rw [hl0] at hls hpy hpn
      generalize (l[k]).to.toNat = to at *
      generalize (l[k]).wt.toNat = wt at *
      generalize l.length * wt = p at *
      obtain ⟨Al, cl, rfl, hcl1, hcl2, _⟩ := hol.form'
      obtain ⟨Ap, cp, rfl, hcp1, hcp2, _⟩ := hop.form'
      rw [lefts_len] at hcl1
      go_wp2_with fail
      have hbA := balloc wr (.cells #[.int .u32 (to : Int), .int .u32 (wt : Int)] 70)
      have hcA := BoxAt.new_ 70 wr [.int .u32 (to : Int), .int .u32 (wt : Int)]
      have Hbx := Lib.hid (hbx.alloc (.cells #[.int .u32 (to : Int), .int .u32 (wt : Int)] 70))
      have HcA := Lib.hid hcA
      have hol' := hol
      have Hol := Lib.hid (hol.below_ hbA)
      have Hop := Lib.hid (hop.below_ hbA)
      have Hbl := Lib.hid (hbl.trans (hbA.mono hbz))
      have Hap := Lib.hid hap
      have Hls := Lib.hid hls
      have Hpy := Lib.hid hpy
      have Hpn := Lib.hid hpn
      clear hbA hcA hbx hol hop hbl hap hls hpy hpn hx0 hx1 hl0
      have hnq : ∀ q, (Value.slice Al (lefts l k).length cl).ownBlock = some q → some q ≠ some wr.heap.size := fun q hq e => by injection e with e; have := (hol'.blk q hq).2; omega
      clear hol'
      have hgcz : wr.heap.size < (wr.alloc (.cells #[.int .u32 (to : Int), .int .u32 (wt : Int)] 70)).heap.size := by simp
      generalize wr.alloc (.cells #[.int .u32 (to : Int), .int .u32 (wt : Int)] 70) = wa at *
      generalize wr.heap.size = gc at *
      have hblk := Hol.out.blk
      have hng : some g ≠ (Value.slice Al (lefts l k).length cl).ownBlock := fun e => by have := hblk _ e.symm; omega
      have hnc : some gc ≠ (Value.slice Al (lefts l k).length cl).ownBlock := fun e => hnq gc e.symm rfl
      have hy1 := Hbx.out.cell 1 _ rfl
      have hf1 := Hbx.out.frozen 1
      have hz1 := HcA.out.cell 1 _ rfl
      have hlg := Hbx.out.lt
      have hp64 : (UInt64.ofNat p).toNat = p := by rw [UInt64.toNat_ofNat']; omega
      clear hblk
      have hq : IntKind.u64.wrap (IntKind.u64.wrap (l.length : Int) * IntKind.u64.wrap (wt : Int)) = (p : Int) := by
        rw [← hmul, wrap_u64 (l.length : Int), wrap_u64 (wt : Int), Int.emod_eq_of_lt (by omega) (by omega), Int.emod_eq_of_lt (by omega) (by omega)]
      have Hq := Lib.hid hq
      clear hq
      go_wp2_with fail
      have hk1 := (Hbx.out.alloc (.cells #[.int .u64 (IntKind.u64.wrap (IntKind.u64.wrap (l.length : Int) * IntKind.u64.wrap (wt : Int)))] 71)).drew_
      have hk2 := (HcA.out.alloc (.cells #[.int .u64 (IntKind.u64.wrap (IntKind.u64.wrap (l.length : Int) * IntKind.u64.wrap (wt : Int)))] 71)).drew_
      have hka := hk1.cell 1 _ rfl
      have hkb := hk2.cell 1 _ rfl
      have hkf := hk1.frozen 1
      have Hk1 := Lib.hid hk1
      have Hk2 := Lib.hid hk2
      have Hka := Lib.hid hka
      have Hkb := Lib.hid hkb
      have Hkf := Lib.hid hkf
      clear hk1 hk2 hka hkb hkf
      go_region_law
        ((go_loud (refine step_app1R (by rfl) _ _ 133 (by rfl) Try.underlying133 info64' (by rfl) (by decide) (by decide) (y := UInt64.ofNat p) [.int .u64 (IntKind.u64.wrap (IntKind.u64.wrap (l.length : Int) * IntKind.u64.wrap (wt : Int)))] (Hol.out.alloc _).drew_ ⟨by simp only [hp64, Hq.out], trivial⟩ (BoxAt.new_ 71 wa [.int .u64 (IntKind.u64.wrap (IntKind.u64.wrap (l.length : Int) * IntKind.u64.wrap (wt : Int)))]).drew_ (by rfl) (by rfl) (by rw [lefts_len]; omega) (by simp; omega) ?_); intro v3 w3 hown3 hext3; obtain ⟨A3, c3, rfl, hd1, hd2, _⟩ := hown3.form'; have hk3 := Hk1.out.grown hext3.gr hng.symm; have hs3 := hk3.cell 1 _ rfl; have hs4 := hk3.frozen 1))
      all_goals
        go_wp2_with fail
        rw [lefts_len]
        have hown3' : OwnF 71 c64 w3 (g + 1) (.slice A3 (k + 1) c3) (lefts l (k + 1)) := by
          rw [Hls.out, show k + 1 = (lefts l k ++ [UInt64.ofNat p]).length from by simp [lefts_len]]
          exact hown3
        have hbx4 := hk3.put 1 (.slice A3 (k + 1) c3)
        have hown4 := OwnR.grownRd hown3' (gset w3 ⟨g, 1, none⟩ (.slice A3 (k + 1) c3)) (by show g < g + 1; omega)
        have hopA := (Hop.out.alloc (.cells #[.int .u64 (IntKind.u64.wrap (IntKind.u64.wrap (l.length : Int) * IntKind.u64.wrap (wt : Int)))] 71)).drew_
        have hop4 := OwnR.grownRd (hopA.keep hext3.gr Hap.out.symm.ne (fun _ h => h.elim)) (gset w3 ⟨g, 1, none⟩ (.slice A3 (k + 1) c3)) (by show g < g + 1; omega)
        have hap4 := (Hap.out.symm.ext hext3 (fun q hq => (hopA.blk q hq).2)).symm
        have hb4 : Below w.heap.size w (w3.setCell ⟨g, 1, none⟩ (.slice A3 (k + 1) c3)) := by
          have hA := (Hbl.out.trans ((balloc wa (.cells #[.int .u64 (IntKind.u64.wrap (IntKind.u64.wrap (l.length : Int) * IntKind.u64.wrap (wt : Int)))] 71)).mono Hbl.out.size)).drew
          exact (hA.trans (hext3.below hA.size (fun q hq => by have := (Hol.out.blk q hq).1; omega))).setCell (p := ⟨g, 1, none⟩) hs1 _
        have Hown4 := Lib.hid hown4
        have Hop4 := Lib.hid hop4
        have Hap4 := Lib.hid hap4
        have Hb4 := Lib.hid hb4
        have Hbx4 := Lib.hid hbx4
        have hy0 := hbx4.cell 0 _ rfl
        have hy1' := hbx4.cell 1 _ rfl
        have hy2 := hbx4.cell 2 _ rfl
        obtain ⟨a3, cs3, rfl, hblk3, ⟨rfl, _⟩, hcs3⟩ := hown4.row.at_ k (UInt64.ofNat p) (by rw [Hls.out, List.getElem?_append_right (by rw [lefts_len]; omega), lefts_len, Nat.sub_self]; rfl)
        have hy3 := hcs3 0 _ rfl
        have hp64' : (((UInt64.ofNat p).toNat : Nat) : Int) = (p : Int) := by rw [hp64]
        replace hy3 : (w3.setCell ⟨g, 1, none⟩ (.slice (some a3) (k + 1) c3)).cell? (a3.add k) = some (.int .u64 (p : Int)) := by
          have h9 : k * c64.n + 0 = k := by show k * 1 + 0 = k; omega
          rw [h9, hp64'] at hy3
          exact hy3
        have hkk : decide ((k : Int) < ((k + 1 : Nat) : Int)) = true := decide_eq_true (by omega)
        clear hs3 hs4 hk3 hbx4 hown4 hop4 hap4 hb4 hown3 hown3' hext3 hopA hcs3 hblk3 hd1 hng hnc hy1 hf1 hz1 hp64' hmul hd2
        generalize w3.setCell ⟨g, 1, none⟩ (.slice (some a3) (k + 1) c3) = w4 at *
        by_cases hpw : p < gsum l
        · have hdp : decide (p < gsum l) = true := decide_eq_true hpw
          have Hpp := Lib.hid (Hpy.out hpw)
          clear hpw
          go_wp2_with fail
          go_quiet (fail)
          have hop5 := OwnR.below_ Hop4.out (bdrewN (Below.refl _ _) nq)
          have hpl := poors_len l k
          have hn2 : (poors l k).length ≤ 549755813887 := by omega
          have Hop5 := Lib.hid hop5
          clear hop5 hpl
          have hbx5 : BoxAt 160 (w4.drewN nq) g _ := Hbx4.out
          have hglt5 := hbx5.lt
          have Hbx5 := Lib.hid hbx5
          clear hbx5
          go_wp2_with (at_builtin
                       go_loud (refine wpList_app1R rfl (.tmp 49) (.tmp 51) 158 rfl Try.underlying158 infoInt rfl (by decide) (by decide) (y := (k : Int)) [.int .i64 (k : Int)] Hop5.out ⟨rfl, by omega, by omega⟩ rfl rfl hn2 (by omega) ?_)
                       intro v6 w6 hown6 hext6
                       obtain ⟨A6, c6, rfl, _, _, _⟩ := hown6.form'
                       have hng6 : (Value.slice Ap (poors l k).length cp).ownBlock ≠ some g := fun e => by have := (Hop5.out.blk _ e).1; omega
                       have hk6 := Hbx5.out.grown hext6.gr hng6
                       have hs6 := hk6.cell 2 _ rfl
                       have hs7 := hk6.frozen 2)
          have hown6' : OwnF 3 cInt w6 (g + 1) (.slice A6 ((poors l k).length + 1) c6) (poors l (k + 1)) := by
            rw [Hpp.out, show (poors l k).length + 1 = (poors l k ++ [(k : Int)]).length from by simp]
            exact hown6
          have hbx7 := hk6.put 2 (.slice A6 ((poors l k).length + 1) c6)
          have hop7 := OwnR.grownRd hown6' (gset w6 ⟨g, 2, none⟩ (.slice A6 ((poors l k).length + 1) c6)) (by show g < g + 1; omega)
          have holA := OwnR.below_ Hown4.out (bdrewN (Below.refl _ _) nq)
          have hol7 := OwnR.grownRd (holA.keep hext6.gr Hap4.out.ne (fun _ h => h.elim)) (gset w6 ⟨g, 2, none⟩ (.slice A6 ((poors l k).length + 1) c6)) (by show g < g + 1; omega)
          have hap7 := Hap4.out.ext hext6 (fun q hq => (holA.blk q hq).2)
          have hb7 : Below w.heap.size w (w6.setCell ⟨g, 2, none⟩ (.slice A6 ((poors l k).length + 1) c6)) := by
            have hA := bdrewN Hb4.out nq
            exact (hA.trans (hext6.below hA.size (fun q hq => by have := (Hop5.out.blk q hq).1; omega))).setCell (p := ⟨g, 2, none⟩) hs1 _
          clear hs6 hs7 hk6
          go_wp2_with fail
          go_roundw
          case rel => exact ⟨k + 1, _, _, by omega, by go_num, hbx7, hol7, hop7, (by have h := hap7; simp only [List.length_append, List.length_singleton, lefts_len] at h; exact h), hb7⟩
          case measure => simp [intOf]; omega
        · have hdp : decide (p < gsum l) = false := decide_eq_false hpw
          have Hpp := Lib.hid (Hpn.out hpw)
          clear hpw
          go_wp2_with fail
          go_quiet (fail)
          go_wp2_with fail
          go_roundw
          case rel => exact ⟨k + 1, _, _, by omega, by go_num, Hbx4.out, Hown4.out.below_ (bdrewN (Below.refl _ _) _), by rw [Hpp.out]; exact Hop4.out.below_ (bdrewN (Below.refl _ _) _), fun q hq e => Hap4.out q hq e, bdrewN Hb4.out _⟩
          case measure => simp [intOf]; omega
    · obtain rfl : k = l.length := by omega
      go_wp2_with fail
      go_ret
      exact ⟨_, _, _, rfl, hs1, hbx, hol, hop, hap, hbl⟩
end Go.Proofs.Ythfnikdapknohaa

namespace Go.Proofs.Ythfnikdapknohaa
set_option linter.unusedSimpArgs false
set_option linter.unusedVariables false
open Go.RowKit

set_option maxRecDepth 100000 in
set_option maxHeartbeats 1600000 in
theorem next_any (w : World) (g : Nat) (W : Nat) (vl : Value) (rich : Int) (O S : Nat → Prop) (A : Option Addr) (n c : Nat) (p : Int) (ps : List Int) (hbx : BoxAt 160 w g [.int .u64 (W : Int), vl, .slice A n c, .int .i64 rich]) (hr : RowOn cInt w O S (.slice A n c) (p :: ps)) :
    Calls Try.prog 90 #[.pointer (some ⟨g, 0, none⟩)] w fun e w' => e = .returned (.int .i64 p) ∧ ∃ A' c', w' = w.setCell ⟨g, 2, none⟩ (.slice A' ps.length c') ∧ RowOn cInt w O S (.slice A' ps.length c') ps := by
  obtain ⟨rfl, hc1, hc2⟩ := hr.len_
  obtain ⟨ad, cs, rfl, hO, ⟨rfl, _⟩, hcs⟩ := hr.at_ 0 p rfl
  have hx := hcs 0 _ rfl
  have hy := hbx.cell 2 _ rfl
  have hf := hbx.frozen 2
  have hb := hr.back (k := 1) (by simp)
  rw [Nat.zero_mul, Nat.zero_add, show ad.add 0 = ad from by cases ad; simp [Addr.add]] at hx
  simp only [List.length_cons] at hc1 hb
  simp only [List.drop_succ_cons, List.drop_zero, Nat.add_sub_cancel] at hb
  have Hb := Lib.hid hb
  simp only [List.length_cons] at hy
  clear hb hcs hbx hr
  unfold maxLen at hc2
  have hcl : ps.length + 1 ≤ c := hc1
  by_cases h1 : c = 1
  · have hc1' : (c == 1) = true := by simpa using h1
    rw [if_pos h1, show c - 1 = 0 from by omega] at Hb
    go_enter Try.func90, Try.ntmps90
    go_wp2_with fail
    go_ret
    exact ⟨rfl, _, _, rfl, Hb.out⟩
  · have hc1' : (c == 1) = false := by simpa using h1
    rw [if_neg h1] at Hb
    go_enter Try.func90, Try.ntmps90
    go_wp2_with fail
    go_ret
    exact ⟨rfl, _, _, rfl, Hb.out⟩
end Go.Proofs.Ythfnikdapknohaa

namespace Go.Proofs.Ythfnikdapknohaa
set_option linter.unusedSimpArgs false
set_option linter.unusedVariables false
open Go.RowKit

/-! ### two lists that rise, with the same members, are one -/
theorem rise_uniq : ∀ (a b : List Nat), a.Pairwise (· < ·) → b.Pairwise (· < ·) → (∀ x, x ∈ a ↔ x ∈ b) → a = b
  | [], [], _, _, _ => rfl
  | [], y :: b, _, _, h => by have := (h y).2 (by simp); simp at this
  | x :: a, [], _, _, h => by have := (h x).1 (by simp); simp at this
  | x :: a, y :: b, ha, hb, h => by
    rw [List.pairwise_cons] at ha hb
    have hxy : x = y := by
      have h1 := (h x).1 (by simp)
      have h2 := (h y).2 (by simp)
      simp at h1 h2
      rcases h1 with h1 | h1
      · exact h1
      · rcases h2 with h2 | h2
        · exact h2.symm
        · have := ha.1 y h2
          have := hb.1 x h1
          omega
    subst hxy
    congr 1
    refine rise_uniq a b ha.2 hb.2 fun z => ⟨fun hz => ?_, fun hz => ?_⟩
    · have h1 := (h z).1 (by simp [hz])
      have h2 := ha.1 z hz
      simp at h1
      rcases h1 with h1 | h1
      · omega
      · exact h1
    · have h1 := (h z).2 (by simp [hz])
      have h2 := hb.1 z hz
      simp at h1
      rcases h1 with h1 | h1
      · omega
      · exact h1

/-! ### put in where it stands in order -/
def ins (xs : List Nat) (a j : Nat) : List Nat := xs.take a ++ j :: xs.drop a
theorem ins_len (xs : List Nat) (a j : Nat) (h : a ≤ xs.length) : (ins xs a j).length = xs.length + 1 := by simp [ins]; omega
theorem ins_mem (xs : List Nat) (a j x : Nat) : x ∈ ins xs a j ↔ x = j ∨ x ∈ xs := by
  unfold ins
  rw [List.mem_append, List.mem_cons]
  constructor
  · rintro (h | h | h)
    · exact Or.inr (List.mem_of_mem_take h)
    · exact Or.inl h
    · exact Or.inr (List.mem_of_mem_drop h)
  · rintro (h | h)
    · exact Or.inr (Or.inl h)
    · rw [← List.take_append_drop a xs] at h
      rw [List.mem_append] at h
      rcases h with h | h
      · exact Or.inl h
      · exact Or.inr (Or.inr h)
theorem ins_rise : ∀ (xs : List Nat) (j : Nat), xs.Pairwise (· < ·) → j ∉ xs → (ins xs (xs.countP fun x => decide (x < j)) j).Pairwise (· < ·)
  | [], j, _, _ => by simp [ins]
  | a :: r, j, h, hj => by
    rw [List.pairwise_cons] at h
    simp at hj
    by_cases hlt : a < j
    · have ih := ins_rise r j h.2 hj.2
      rw [List.countP_cons, if_pos (by simpa using hlt)]
      have : ins (a :: r) ((r.countP fun x => decide (x < j)) + 1) j = a :: ins r (r.countP fun x => decide (x < j)) j := by simp [ins]
      rw [this, List.pairwise_cons]
      refine ⟨fun x hx => ?_, ih⟩
      rw [ins_mem] at hx
      rcases hx with rfl | hx
      · exact hlt
      · exact h.1 x hx
    · have h0 : (a :: r).countP (fun x => decide (x < j)) = 0 := by
        rw [List.countP_eq_zero]
        intro x hx
        simp at hx
        rcases hx with rfl | hx
        · simpa using hlt
        · have := h.1 x hx
          simp; omega
      rw [h0]
      have : ins (a :: r) 0 j = j :: a :: r := by simp [ins]
      rw [this, List.pairwise_cons]
      refine ⟨fun x hx => ?_, List.pairwise_cons.2 h⟩
      simp at hx
      rcases hx with rfl | hx
      · omega
      · have := h.1 x hx
        omega

/-! ### who lacks -/
def poorL (W : Nat) (left : List Nat) : List Nat := (List.range left.length).filter fun k => decide (left.getD k 0 < W)
theorem poorL_mem (W : Nat) (left : List Nat) (k : Nat) : k ∈ poorL W left ↔ k < left.length ∧ left.getD k 0 < W := by simp [poorL]
theorem poorL_rise (W : Nat) (left : List Nat) : (poorL W left).Pairwise (· < ·) := List.Pairwise.filter _ List.pairwise_lt_range
theorem poorL_len (W : Nat) (left : List Nat) : (poorL W left).length ≤ left.length := by
  have := List.length_filter_le (fun k => decide (left.getD k 0 < W)) (List.range left.length)
  simpa [poorL] using this
theorem getD_get (l : List Nat) (k : Nat) (h : k < l.length) : l.getD k 0 = l[k] := by simp [List.getD, h]
theorem getD_set (l : List Nat) (k j x : Nat) (h : j < l.length) : (l.set j x).getD k 0 = if j = k then x else l.getD k 0 := by
  simp only [List.getD, List.getElem?_set]
  split
  · subst_vars; simp [h]
  · rfl

structure BSt where
  left : List Nat
  out : List GCell
def mkC (cut oth : Nat) : GCell := ⟨UInt64.ofNat cut, UInt32.ofNat oth⟩
/-- what stands behind i, who lacks, and j, who has: the rests -/
def pay (W : Nat) (left : List Nat) (i j : Nat) : List Nat := (left.set j (left.getD j 0 - (W - left.getD i 0))).set i W
theorem pay_len (W : Nat) (left : List Nat) (i j : Nat) : (pay W left i j).length = left.length := by simp [pay]
def bstep1 (W : Nat) (s : BSt) : Option BSt :=
  match s.left.findIdx? (fun x => decide (x < W)), s.left.findIdx? (fun x => decide (W < x)) with
  | some i, some j => some ⟨pay W s.left i j, s.out.set i (mkC (s.left.getD i 0) j)⟩
  | _, _ => none
def brun (W : Nat) : Nat → BSt → BSt
  | 0, s => s
  | k + 1, s => match bstep1 W (brun W k s) with
    | some s' => s'
    | none => brun W k s
theorem brun_succ (W k : Nat) (s s' : BSt) (h : bstep1 W (brun W k s) = some s') : brun W (k + 1) s = s' := by rw [brun, h]
theorem brun_stop (W k : Nat) (s : BSt) (h : bstep1 W (brun W k s) = none) : ∀ m, brun W (k + m) s = brun W k s
  | 0 => rfl
  | m + 1 => by
    have ih := brun_stop W k s h m
    rw [show k + (m + 1) = (k + m) + 1 from rfl, brun, ih, h]

theorem poor_head (W : Nat) (left : List Nat) (i : Nat) (r : List Nat) (h : poorL W left = i :: r) : left.findIdx? (fun x => decide (x < W)) = some i ∧ i < left.length ∧ left.getD i 0 < W := by
  have hm := (poorL_mem W left i).1 (by rw [h]; simp)
  refine ⟨?_, hm⟩
  rw [List.findIdx?_eq_some_iff_getElem]
  refine ⟨hm.1, by rw [← getD_get]; simpa using hm.2, fun j hji hj => ?_⟩
  rw [← getD_get] at hj
  have hj' : left.getD j 0 < W := by simpa using hj
  have h2 := (poorL_mem W left j).2 ⟨by omega, hj'⟩
  have hr := poorL_rise W left
  rw [h] at h2 hr
  rw [List.pairwise_cons] at hr
  simp at h2
  rcases h2 with h2 | h2
  · omega
  · have := hr.1 j h2
    omega
theorem poor_none (W : Nat) (left : List Nat) (h : poorL W left = []) : left.findIdx? (fun x => decide (x < W)) = none := by
  rw [List.findIdx?_eq_none_iff]
  intro x hx
  obtain ⟨k, hk, rfl⟩ := List.mem_iff_getElem.1 hx
  have : ¬ k ∈ poorL W left := by rw [h]; simp
  rw [poorL_mem, getD_get _ _ hk] at this
  simp
  omega
theorem rich_at (W : Nat) (left : List Nat) (j : Nat) (hj : j < left.length) (h1 : W < left.getD j 0) (h2 : ∀ k, k < j → left.getD k 0 ≤ W) : left.findIdx? (fun x => decide (W < x)) = some j := by
  rw [List.findIdx?_eq_some_iff_getElem]
  refine ⟨hj, by rw [← getD_get]; simpa using h1, fun k hkj hk => ?_⟩
  rw [← getD_get] at hk
  have := h2 k hkj
  have hk' : W < left.getD k 0 := by simpa using hk
  omega
theorem pay_get (W : Nat) (left : List Nat) (i j k : Nat) (hi : i < left.length) (hj : j < left.length) : (pay W left i j).getD k 0 = if i = k then W else if j = k then left.getD j 0 - (W - left.getD i 0) else left.getD k 0 := by
  unfold pay
  rw [getD_set _ _ _ _ (by simpa using hi), getD_set _ _ _ _ hj]
/-- who lacks behind a turn -/
theorem poor_pay (W : Nat) (left : List Nat) (i j : Nat) (r : List Nat) (h : poorL W left = i :: r) (hj : j < left.length) (hjW : W < left.getD j 0) :
    poorL W (pay W left i j) = if left.getD j 0 - (W - left.getD i 0) < W then ins r (r.countP fun x => decide (x < j)) j else r := by
  obtain ⟨_, hi, hiW⟩ := poor_head W left i r h
  have hr := poorL_rise W left
  rw [h, List.pairwise_cons] at hr
  have hmem : ∀ x, x ∈ r ↔ x ≠ i ∧ x < left.length ∧ left.getD x 0 < W := fun x => by
    have h1 := poorL_mem W left x
    rw [h] at h1
    simp only [List.mem_cons] at h1
    constructor
    · intro hx
      have := hr.1 x hx
      exact ⟨by omega, h1.1 (Or.inr hx)⟩
    · rintro ⟨h2, h3⟩
      exact (h1.2 h3).resolve_left h2
  have hjr : j ∉ r := fun hx => by have := (hmem j).1 hx; omega
  have hij : i ≠ j := fun e => by subst e; omega
  by_cases hc : left.getD j 0 - (W - left.getD i 0) < W
  · rw [if_pos hc]
    apply rise_uniq
    · exact poorL_rise _ _
    · exact ins_rise r j hr.2 hjr
    · intro x
      rw [poorL_mem, pay_len, pay_get W left i j x hi hj]
      rw [ins_mem, hmem]
      constructor
      · rintro ⟨h1, h2⟩
        split at h2
        · omega
        · split at h2
          · exact Or.inl (by omega)
          · exact Or.inr ⟨by omega, h1, h2⟩
      · rintro (rfl | ⟨h1, h2, h3⟩)
        · refine ⟨hj, ?_⟩
          rw [if_neg hij, if_pos rfl]
          assumption
        · refine ⟨h2, ?_⟩
          rw [if_neg (fun e => h1 e.symm)]
          split
          · assumption
          · exact h3
  · rw [if_neg hc]
    apply rise_uniq
    · exact poorL_rise _ _
    · exact hr.2
    · intro x
      rw [poorL_mem, pay_len, pay_get W left i j x hi hj]
      rw [hmem]
      constructor
      · rintro ⟨h1, h2⟩
        split at h2
        · omega
        · split at h2
          · omega
          · exact ⟨by omega, h1, h2⟩
      · rintro ⟨h1, h2, h3⟩
        refine ⟨h2, ?_⟩
        rw [if_neg (fun e => h1 e.symm)]
        split
        · subst_vars; omega
        · exact h3

/-! ### sums -/
theorem sum_set : ∀ (l : List Nat) (k x : Nat), k < l.length → (l.set k x).sum + l.getD k 0 = l.sum + x
  | [], k, x, h => by simp at h
  | a :: l, 0, x, h => by simp [List.getD]; omega
  | a :: l, k + 1, x, h => by
    have ih := sum_set l k x (by simpa using h)
    simp [List.getD] at ih ⊢
    omega
theorem pay_sum (W : Nat) (left : List Nat) (i j : Nat) (hi : i < left.length) (hj : j < left.length) (hiW : left.getD i 0 < W) (hjW : W < left.getD j 0) : (pay W left i j).sum = left.sum := by
  have hij : j ≠ i := fun e => by subst e; omega
  unfold pay
  have h1 := sum_set (left.set j (left.getD j 0 - (W - left.getD i 0))) i W (by simpa using hi)
  have h2 := sum_set left j (left.getD j 0 - (W - left.getD i 0)) hj
  rw [getD_set _ _ _ _ hj, if_neg hij] at h1
  omega
theorem sum_le_all (W : Nat) : ∀ (l : List Nat), (∀ x ∈ l, x ≤ W) → l.sum ≤ l.length * W
  | [], _ => by simp
  | a :: l, h => by
    have ih := sum_le_all W l fun x hx => h x (by simp [hx])
    have := h a (by simp)
    simp [Nat.add_mul]
    omega
theorem sum_lt_one (W : Nat) : ∀ (l : List Nat), (∀ x ∈ l, x ≤ W) → (∃ x ∈ l, x < W) → l.sum < l.length * W
  | [], _, h => by obtain ⟨x, hx, _⟩ := h; simp at hx
  | a :: l, h, hx => by
    have h1 := h a (by simp)
    have h2 := sum_le_all W l fun x hx => h x (by simp [hx])
    obtain ⟨x, hx, hlt⟩ := hx
    simp at hx
    rcases hx with rfl | hx
    · simp [Nat.add_mul]; omega
    · have := sum_lt_one W l (fun x hx => h x (by simp [hx])) ⟨x, hx, hlt⟩
      simp [Nat.add_mul]; omega
theorem sum_gt_one (W : Nat) (l : List Nat) (h : l.sum = l.length * W) (h1 : ∀ x ∈ l, W ≤ x) : ∀ x ∈ l, x = W := by
  induction l with
  | nil => simp
  | cons a l ih =>
    have h2 : l.length * W ≤ l.sum := by
      clear ih h
      have h1' : ∀ x ∈ l, W ≤ x := fun x hx => h1 x (by simp [hx])
      clear h1
      induction l with
      | nil => simp
      | cons b l ih =>
        have := ih fun x hx => h1' x (by simp [hx])
        have := h1' b (by simp)
        simp [Nat.add_mul]; omega
    have h3 := h1 a (by simp)
    simp [Nat.add_mul] at h
    intro x hx
    simp at hx
    rcases hx with rfl | hx
    · omega
    · exact ih (by omega) (fun x hx => h1 x (by simp [hx])) x hx
/-- who has is there while one lacks -/
theorem rich_ex (W : Nat) (left : List Nat) (i : Nat) (hs : left.sum = left.length * W) (hi : i < left.length) (hiW : left.getD i 0 < W) (m : Nat) (hm : ∀ k, k < m → left.getD k 0 ≤ W) (hmn : m ≤ left.length) : m < left.length := by
  refine Nat.lt_of_le_of_ne hmn fun e => ?_
  have := sum_lt_one W left (fun x hx => by obtain ⟨k, hk, rfl⟩ := List.mem_iff_getElem.1 hx; rw [← getD_get _ _ hk]; exact hm k (by omega)) ⟨left[i], List.getElem_mem hi, by rw [← getD_get]; exact hiW⟩
  omega
def bad (W : Nat) (left : List Nat) : Nat := left.countP fun x => decide (x ≠ W)
theorem countP_set1 (p : Nat → Bool) : ∀ (l : List Nat) (k x : Nat), k < l.length → (l.set k x).countP p + (if p (l.getD k 0) then 1 else 0) = l.countP p + (if p x then 1 else 0)
  | [], k, x, h => by simp at h
  | a :: l, 0, x, h => by simp only [List.set_cons_zero, List.countP_cons, List.getD_cons_zero]; omega
  | a :: l, k + 1, x, h => by
    have ih := countP_set1 p l k x (by simpa using h)
    simp only [List.set_cons_succ, List.countP_cons, List.getD_cons_succ]
    omega
theorem bad_pay (W : Nat) (left : List Nat) (i j : Nat) (hi : i < left.length) (hj : j < left.length) (hiW : left.getD i 0 < W) (hjW : W < left.getD j 0) : bad W (pay W left i j) + 1 ≤ bad W left := by
  have hij : j ≠ i := fun e => by subst e; omega
  unfold bad pay
  have h1 := countP_set1 (fun x => decide (x ≠ W)) (left.set j (left.getD j 0 - (W - left.getD i 0))) i W (by simpa using hi)
  have h2 := countP_set1 (fun x => decide (x ≠ W)) left j (left.getD j 0 - (W - left.getD i 0)) hj
  rw [getD_set _ _ _ _ hj, if_neg hij] at h1
  rw [if_pos (show decide (left.getD i 0 ≠ W) = true from decide_eq_true (by omega)), if_neg (show ¬ decide (W ≠ W) = true from by simp)] at h1
  rw [if_pos (show decide (left.getD j 0 ≠ W) = true from decide_eq_true (by omega))] at h2
  split at h2 <;> omega
theorem bad_le (W : Nat) (left : List Nat) : bad W left ≤ left.length := List.countP_le_length
end Go.Proofs.Ythfnikdapknohaa

namespace Go.Proofs.Ythfnikdapknohaa
set_option linter.unusedSimpArgs false
set_option linter.unusedVariables false
open Go.RowKit

def RwAt (T : TypeId) (K : IntKind) (w : World) (base : Nat) (v : Value) (xs : List Nat) : Prop :=
  ∃ A c, v = .slice A xs.length c ∧ xs.length ≤ c ∧ c ≤ maxLen ∧ (∀ q, v.ownBlock = some q → base ≤ q ∧ q < w.heap.size) ∧
    (0 < c → ∃ b off cs, A = some ⟨b, off, none⟩ ∧ BoxAt T w b cs ∧ off + c ≤ cs.length ∧ ∀ (j x : Nat), xs[j]? = some x → cs[off + j]? = some (.int K (x : Int)))
section
variable {T : TypeId} {K : IntKind} {w w' : World} {base : Nat} {v : Value} {xs : List Nat}
theorem RwAt.keep {row : Option Nat} (h : RwAt T K w base v xs) (hg : w.grownBy w' row) (hne : ∀ q, v.ownBlock = some q → row ≠ some q) : RwAt T K w' base v xs := by
  obtain ⟨A, c, rfl, h1, h2, h3, h4⟩ := h
  refine ⟨A, c, rfl, h1, h2, fun q hq => ⟨(h3 q hq).1, Nat.lt_of_lt_of_le (h3 q hq).2 hg.size⟩, fun hc => ?_⟩
  obtain ⟨b, off, cs, rfl, hb, hl, hx⟩ := h4 hc
  exact ⟨b, off, cs, rfl, hb.grown hg (hne b rfl), hl, hx⟩
theorem RwAt.below_ (h : RwAt T K w base v xs) (hb : Below w.heap.size w w') : RwAt T K w' base v xs := h.keep (gbelow hb none) fun _ _ e => by cases e
theorem RwAt.alloc_ (h : RwAt T K w base v xs) (o : Obj) : RwAt T K (w.alloc o) base v xs := h.below_ (balloc w o)
theorem RwAt.drew_ (h : RwAt T K w base v xs) : RwAt T K w.drew base v xs := h
theorem RwAt.drewN_ (h : RwAt T K w base v xs) (n : Nat) : RwAt T K (w.drewN n) base v xs := h
theorem RwAt.blk (h : RwAt T K w base v xs) : ∀ q, v.ownBlock = some q → base ≤ q ∧ q < w.heap.size := by
  obtain ⟨A, c, rfl, h1, h2, h3, h4⟩ := h; exact h3
theorem RwAt.form (h : RwAt T K w base v xs) : ∃ A c, v = .slice A xs.length c ∧ xs.length ≤ c ∧ c ≤ maxLen := by
  obtain ⟨A, c, rfl, h1, h2, h3, h4⟩ := h; exact ⟨A, c, rfl, h1, h2⟩
/-- the cell of an element -/
theorem RwAt.at_ {A : Option Addr} {n c : Nat} (h : RwAt T K w base (.slice A n c) xs) (i x : Nat) (hx : xs[i]? = some x) :
    n = xs.length ∧ ∃ b off, A = some ⟨b, off, none⟩ ∧ base ≤ b ∧ b < w.heap.size ∧ w.cell? ⟨b, off + i, none⟩ = some (.int K (x : Int)) ∧ w.frozen? ⟨b, off + i, none⟩ = false := by
  obtain ⟨A', c', e, h1, h2, h3, h4⟩ := h
  injection e with e1 e2 e3
  subst e1; subst e3
  have hi : i < xs.length := (List.getElem?_eq_some_iff.1 hx).1
  obtain ⟨b, off, cs, rfl, hb, hl, hg⟩ := h4 (by omega)
  exact ⟨e2, b, off, rfl, (h3 b rfl).1, (h3 b rfl).2, hb.cell _ _ (hg i x hx), hb.frozen _⟩
/-- an element is written -/
theorem RwAt.put {b off n c : Nat} (h : RwAt T K w base (.slice (some ⟨b, off, none⟩) n c) xs) (i y : Nat) (hi : i < xs.length) :
    RwAt T K (w.setCell ⟨b, off + i, none⟩ (.int K (y : Int))) base (.slice (some ⟨b, off, none⟩) n c) (xs.set i y) := by
  obtain ⟨A', c', e, h1, h2, h3, h4⟩ := h
  injection e with e1 e2 e3
  subst e1; subst e3; subst e2
  obtain ⟨b', off', cs, e, hb, hl, hg⟩ := h4 (by omega)
  injection e with e; injection e with e1 e2 _
  subst e1; subst e2
  refine ⟨_, _, by rw [List.length_set], by rw [List.length_set]; exact h1, h2, fun q hq => ⟨(h3 q hq).1, by have := (h3 q hq).2; simp [World.setCell]; exact this⟩, fun hc => ⟨b, off, _, rfl, hb.put _ _, by rw [List.length_set]; exact hl, fun j x hx => ?_⟩⟩
  rw [List.getElem?_set] at hx ⊢
  by_cases hij : i = j
  · subst hij
    rw [if_pos rfl, if_pos hi] at hx
    injection hx with hx
    rw [if_pos rfl, if_pos (by omega), hx]
  · rw [if_neg hij] at hx
    rw [if_neg (by omega)]
    exact hg j x hx
end

/-! ### cells, one behind the other -/
theorem ins_get (xs : List Nat) (a j k : Nat) (ha : a ≤ xs.length) : (ins xs a j)[k]? = if k < a then xs[k]? else if k = a then some j else xs[k - 1]? := by
  unfold ins
  rw [List.getElem?_append, List.length_take, Nat.min_eq_left ha]
  split
  · rw [List.getElem?_take, if_pos (by assumption)]
  · split
    · subst_vars; simp
    · rw [show k - a = (k - 1 - a) + 1 from by omega, List.getElem?_cons_succ, List.getElem?_drop, show a + (k - 1 - a) = k - 1 from by omega]

def valsI (xs : List Nat) : List Value := xs.map fun (x : Nat) => Value.int .i64 (x : Int)
theorem valsI_one (xs : List Nat) : ∀ v ∈ valsI xs, v.oneCell' = true := by
  intro v hv
  simp [valsI] at hv
  obtain ⟨x, _, rfl⟩ := hv
  rfl
theorem valsI_get (xs : List Nat) (j : Nat) (v : Value) (h : (valsI xs)[j]? = some v) : ∃ x, xs[j]? = some x ∧ v = .int .i64 (x : Int) := by
  simp [valsI] at h
  obtain ⟨x, h1, h2⟩ := h
  exact ⟨x, h1, h2.symm⟩
theorem valsI_at (xs : List Nat) (j x : Nat) (h : xs[j]? = some x) : (valsI xs)[j]? = some (.int .i64 (x : Int)) := by simp [valsI, h]

theorem zc (n : Nat) : Builtin.zeroCells (Value.int .i64 0).cells n = (List.replicate n (Value.int .i64 0)).toArray := by
  apply Array.ext
  · simp [Builtin.zeroCells, Value.cells]
  · intro i h1 h2
    simp [Builtin.zeroCells, Value.cells, Nat.mod_one]

set_option maxRecDepth 100000 in
set_option maxHeartbeats 1600000 in
theorem insert_any (w : World) (base : Nat) (v : Value) (xs : List Nat) (a j vb : Nat) (ha : a ≤ xs.length) (hlen : xs.length ≤ 4294967296) (h : RwAt 3 .i64 w base v xs) (harg : BoxAt 3 w vb [.int .i64 (j : Int)]) (hvb : v.ownBlock ≠ some vb) (hbase : base ≤ w.heap.size) :
    Calls Try.prog 98 #[v, .int .i64 (a : Nat), .slice (some ⟨vb, 0, none⟩) 1 1] w fun e w' => ∃ v', e = .returned v' ∧ RwAt 3 .i64 w' base v' (ins xs a j) ∧ w.grownBy w' v.ownBlock ∧ (v'.ownBlock = v.ownBlock ∨ ∃ q, v'.ownBlock = some q ∧ w.heap.size ≤ q) := by
  obtain ⟨A, c, rfl, h1, h2, h3, h4⟩ := h
  have hvl : ([Value.int .i64 (j : Int)] : List Value).length = 1 := rfl
  have hcl : (valsI xs).length = xs.length := by simp [valsI]
  have h1v : ∀ u ∈ ([Value.int .i64 (j : Int)] : List Value), u.oneCell' = true := by simp [Value.oneCell']
  have hvs : ∀ k u, ([Value.int .i64 (j : Int)] : List Value)[k]? = some u → w.cell? ⟨vb, 0 + k, none⟩ = some u := fun k u hu => by rw [Nat.zero_add]; exact harg.cell k u hu
  have hil := ins_len xs a j ha
  have hbig : (xs.length + 1) * 8 ≤ 140737488355328 := by omega
  unfold maxLen at h2
  by_cases hroom : xs.length + 1 ≤ c
  · obtain ⟨b, off, cs, rfl, hb, hl, hg⟩ := h4 (by omega)
    have hsp : ∀ k, k < xs.length + 1 → (w.cell? ⟨b, off + k, none⟩).isSome = true := fun k hk => by
      rw [hb.cell (off + k) _ (List.getElem?_eq_getElem (by omega))]; rfl
    have hb3 := h3 b rfl
    by_cases hn : a = xs.length
    · subst hn
      refine (Any2.slices_Insert_int_end_room lays221 b off xs.length c vb 0 1 1 [.int .i64 (j : Int)] w (by omega) hroom (by omega) rfl (fun k hk => by rw [Nat.add_assoc]; exact hsp _ (by omega)) (fun k hk => hb.frozen _) hvs h1v).mono ?_
      rintro e w' ⟨rfl, rfl⟩
      refine ⟨_, rfl, ⟨_, _, by rw [hil], by rw [hil]; exact hroom, by unfold maxLen; exact h2, fun q hq => ⟨(h3 q hq).1, Nat.lt_of_lt_of_le (h3 q hq).2 (gsetCells b _ w _).size⟩, fun _ => ⟨b, off, _, rfl, hb.setCells_ _ _, by rw [puts_len]; exact hl, fun k x hx => ?_⟩⟩, gsetCells b _ w _, Or.inl rfl⟩
      rw [ins_get _ _ _ _ (Nat.le_refl _)] at hx
      rw [puts_get _ _ _ _ (by simp; omega)]
      simp only [List.length_cons, List.length_nil]
      by_cases hk : k < xs.length
      · rw [if_pos hk] at hx
        rw [if_neg (by omega)]
        exact hg k x hx
      · rw [if_neg hk] at hx
        by_cases hk2 : k = xs.length
        · subst hk2
          rw [if_pos rfl] at hx
          injection hx with hx
          rw [if_pos (by omega), Nat.sub_self, ← hx]
          rfl
        · rw [if_neg hk2, List.getElem?_eq_none (by omega)] at hx
          cases hx
    · have hsb : w.shape? b = some (3, cs.length) := by have := hb; unfold BoxAt at this; simp [World.shape?, this]
      have hsa : w.shape? vb = some (3, 1) := by have := harg; unfold BoxAt at this; simp [World.shape?, this]
      refine (Any2.slices_Insert_int_shift lays221 b off xs.length c a vb 0 1 1 (valsI xs) [.int .i64 (j : Int)] w (by omega) (by omega) hroom (by omega) (fun e => hvb (by rw [e]; rfl)) hcl rfl
        (fun k u hu => by obtain ⟨x, hx, rfl⟩ := valsI_get xs k u hu; exact hb.cell _ _ (hg k x hx)) hsp (fun k _ => hb.frozen _) hvs (valsI_one xs) h1v _ _ 1 cs.length hsa hsb (by omega) (harg.frozen _) (harg.frozen _)).mono ?_
      rintro e w' ⟨rfl, rfl⟩
      have hgr : w.grownBy ((w.drew.setCells b (off + (a + 1)) ((valsI xs).drop a)).setCells b (off + a) [.int .i64 (j : Int)]) (some b) := gtrans (gtrans (gdrew_ (grefl w _)) (gsetCells b _ w.drew _)) (gsetCells b _ _ _)
      have hdl : ((valsI xs).drop a).length = xs.length - a := by rw [List.length_drop, hcl]
      refine ⟨_, rfl, ⟨_, _, by rw [hil], by rw [hil]; exact hroom, by unfold maxLen; exact h2, fun q hq => ⟨(h3 q hq).1, Nat.lt_of_lt_of_le (h3 q hq).2 hgr.size⟩, fun _ => ⟨b, off, _, rfl, BoxAt.setCells_ _ _ (BoxAt.setCells_ (w := w.drew) _ _ hb), by rw [puts_len, puts_len]; exact hl, fun k x hx => ?_⟩⟩, hgr, Or.inl rfl⟩
      rw [ins_get _ _ _ _ ha] at hx
      rw [puts_get _ _ _ _ (by rw [puts_len]; simp; omega), puts_get _ _ _ _ (by rw [hdl]; omega), hdl]
      simp only [List.length_cons, List.length_nil]
      by_cases hk : k < a
      · rw [if_pos hk] at hx
        rw [if_neg (by omega), if_neg (by omega)]
        exact hg k x hx
      · rw [if_neg hk] at hx
        by_cases hk2 : k = a
        · subst hk2
          rw [if_pos rfl] at hx
          injection hx with hx
          rw [if_pos (by omega), Nat.sub_self, ← hx]
          rfl
        · rw [if_neg hk2] at hx
          have hkl : k - 1 < xs.length := (List.getElem?_eq_some_iff.1 hx).1
          rw [if_neg (by omega), if_pos (by omega), List.getElem?_drop, show a + (off + k - (off + (a + 1))) = k - 1 from by omega]
          exact valsI_at xs _ x hx
  · by_cases hn : a = xs.length
    · subst hn
      refine (Any2.slices_Insert_int_end_grow lays221 A xs.length c vb 0 1 1 (valsI xs) [.int .i64 (j : Int)] w (by omega) h1 (by omega) hbig hcl rfl (fun e => by
          rcases Nat.eq_zero_or_pos xs.length with h0 | h0
          · exact h0
          · obtain ⟨b, off, cs, e2, _⟩ := h4 (by omega)
            rw [e] at e2; cases e2) (fun ad e k u hu => by
          obtain ⟨x, hx, rfl⟩ := valsI_get xs k u hu
          have hk : k < xs.length := (List.getElem?_eq_some_iff.1 hx).1
          obtain ⟨b, off, cs, e2, hb, hl, hg⟩ := h4 (by omega)
          rw [e] at e2
          injection e2 with e2
          subst e2
          have := hb.cell _ _ (hg k x hx)
          rw [Addr.add_lit]
          exact this) hvs h1v).mono ?_
      rintro e w' ⟨rfl, rfl⟩
      have hG := grownCap_ge w (xs.length + 1) c 3
      have hG63 := grownCap_le_maxLen w (xs.length + 1) c 3 (by unfold maxLen; omega)
      rw [zc]
      have hne := BoxAt.new_ 3 w.drew ((valsI xs ++ [Value.int .i64 (j : Int)]) ++ List.replicate (grownCap w (xs.length + 1) c 3 - (xs.length + 1)) (Value.int .i64 0))
      have hgr : w.grownBy (w.drew.alloc (.cells ((valsI xs ++ [Value.int .i64 (j : Int)]).toArray ++ (List.replicate (grownCap w (xs.length + 1) c 3 - (xs.length + 1)) (Value.int .i64 0)).toArray) 3)) (Value.slice A xs.length c).ownBlock := gbelow (((Below.refl w.heap.size w).drew).alloc (Nat.le_refl _) _) _
      rw [List.append_toArray] at hgr ⊢
      refine ⟨_, rfl, ⟨_, _, by rw [hil]; rfl, by rw [hil]; exact hG, hG63, fun q hq => ?_, fun _ => ⟨w.heap.size, 0, _, rfl, hne, ?_, fun k x hx => ?_⟩⟩, hgr, Or.inr ⟨w.heap.size, rfl, Nat.le_refl _⟩⟩
      · injection hq with hq
        subst hq
        exact ⟨hbase, by simp⟩
      · simp [valsI]; omega
      · rw [ins_get _ _ _ _ (Nat.le_refl _)] at hx
        rw [Nat.zero_add, List.getElem?_append_left (by
          have hkx : k < xs.length + 1 := by
            by_cases hk : k < xs.length
            · omega
            · rw [if_neg hk] at hx
              by_cases hk2 : k = xs.length
              · omega
              · rw [if_neg hk2, List.getElem?_eq_none (by omega)] at hx; cases hx
          simp [valsI]; omega)]
        by_cases hk : k < xs.length
        · rw [if_pos hk] at hx
          rw [List.getElem?_append_left (by rw [hcl]; exact hk)]
          exact valsI_at xs _ x hx
        · rw [if_neg hk] at hx
          by_cases hk2 : k = xs.length
          · subst hk2
            rw [if_pos rfl] at hx
            injection hx with hx
            rw [List.getElem?_append_right (by rw [hcl]; omega), hcl, Nat.sub_self, ← hx]
            rfl
          · rw [if_neg hk2, List.getElem?_eq_none (by omega)] at hx
            cases hx
    · obtain ⟨b, off, cs, rfl, hb, hl, hg⟩ := h4 (by omega)
      refine (Any2.slices_Insert_int_grow lays221 b off xs.length c a vb 0 1 1 (valsI xs) [.int .i64 (j : Int)] w (by omega) (by omega) h1 (by omega) hbig hcl rfl
        (fun k u hu => by obtain ⟨x, hx, rfl⟩ := valsI_get xs k u hu; exact hb.cell _ _ (hg k x hx)) hvs (valsI_one xs) h1v).mono ?_
      rintro e w' ⟨rfl, rfl⟩
      have hG := grownCap_ge w (xs.length + 1) c 3
      have hG63 := grownCap_le_maxLen w (xs.length + 1) c 3 (by unfold maxLen; omega)
      have hgc : grownCap w (xs.length + 1) c (lays221_ren.t 3) = grownCap w (xs.length + 1) c 3 := rfl
      rw [hgc]
      generalize grownCap w (xs.length + 1) c 3 = G at *
      rw [zc, zc, List.append_toArray, List.append_toArray]
      have hdl : ((valsI xs).drop a).length = xs.length - a := by rw [List.length_drop, hcl]
      have htl : ((valsI xs).take a).length = a := by rw [List.length_take, hcl, Nat.min_eq_left ha]
      generalize hROW : (valsI xs).take a ++ List.replicate (xs.length + 1 - a) (Value.int .i64 0) ++ List.replicate (G - (xs.length + 1)) (Value.int .i64 0) = ROW
      have hRl : ROW.length = G := by rw [← hROW]; simp [htl]; omega
      have hne : BoxAt 3 (w.alloc (.cells ROW.toArray 3)).drew w.heap.size ROW := (BoxAt.new_ 3 w ROW)
      have hn1 := BoxAt.setCells_ [Value.int .i64 (j : Int)] a hne
      have hn2 := BoxAt.setCells_ ((valsI xs).drop a) (a + 1) (w := ((w.alloc (.cells ROW.toArray 3)).drew.setCells w.heap.size a [Value.int .i64 (j : Int)]).drew) hn1
      have hgr : w.grownBy ((((w.alloc (.cells ROW.toArray 3)).drew.setCells w.heap.size a [Value.int .i64 (j : Int)]).drew).setCells w.heap.size (a + 1) ((valsI xs).drop a)) (some b) :=
        gnew (gnew (gbelow ((balloc w (.cells ROW.toArray 3)).drew) (some b)) (gdrew_ (gsetCells w.heap.size [Value.int .i64 (j : Int)] _ a)) (fun i e => Or.inl (by injection e with e; omega))) (gsetCells w.heap.size _ _ _) (fun i e => Or.inl (by injection e with e; omega))
      refine ⟨_, rfl, ⟨_, _, by rw [hil], by rw [hil]; exact hG, hG63, fun q hq => ?_, fun _ => ⟨w.heap.size, 0, _, rfl, hn2, ?_, fun k x hx => ?_⟩⟩, hgr, Or.inr ⟨w.heap.size, rfl, Nat.le_refl _⟩⟩
      · injection hq with hq
        subst hq
        exact ⟨hbase, hn2.lt⟩
      · rw [puts_len, puts_len, hRl]; omega
      · rw [ins_get _ _ _ _ ha] at hx
        rw [Nat.zero_add, puts_get _ _ _ _ (by rw [puts_len, hdl, hRl]; omega), puts_get _ _ _ _ (by simp; omega), hdl]
        simp only [List.length_cons, List.length_nil]
        by_cases hk : k < a
        · rw [if_pos hk] at hx
          rw [if_neg (by omega), if_neg (by omega), ← hROW, List.append_assoc, List.getElem?_append_left (by omega), List.getElem?_take, if_pos hk]
          exact valsI_at xs _ x hx
        · rw [if_neg hk] at hx
          by_cases hk2 : k = a
          · subst hk2
            rw [if_pos rfl] at hx
            injection hx with hx
            rw [if_neg (by omega), if_pos (by omega), Nat.sub_self, ← hx]
            rfl
          · rw [if_neg hk2] at hx
            have hkl : k - 1 < xs.length := (List.getElem?_eq_some_iff.1 hx).1
            rw [if_pos (by omega), List.getElem?_drop, show a + (k - (a + 1)) = k - 1 from by omega]
            exact valsI_at xs _ x hx
end Go.Proofs.Ythfnikdapknohaa

namespace Go.Proofs.Ythfnikdapknohaa
set_option linter.unusedSimpArgs false
set_option linter.unusedVariables false
open Go.RowKit

/-! ### how many draws come to a neighbour, without wrapping -/
def ncell (W k i : Nat) (c : GCell) : Nat := (if i = k then min c.cut.toNat W else 0) + (if c.oth.toNat = k then W - min c.cut.toNat W else 0)
def ncntF (W k : Nat) : Nat → List GCell → Nat
  | _, [] => 0
  | o, c :: r => ncell W k o c + ncntF W k (o + 1) r
theorem ncntF_set (W k : Nat) : ∀ (l : List GCell) (o i : Nat) (c0 c : GCell), l[i]? = some c0 → ncntF W k o (l.set i c) + ncell W k (o + i) c0 = ncntF W k o l + ncell W k (o + i) c
  | [], o, i, c0, c, h => by simp at h
  | a :: l, o, 0, c0, c, h => by
    simp at h
    subst h
    simp [ncntF]
    omega
  | a :: l, o, i + 1, c0, c, h => by
    have ih := ncntF_set W k l (o + 1) i c0 c (by simpa using h)
    simp only [List.set_cons_succ, ncntF]
    rw [show o + 1 + i = o + (i + 1) from by omega] at ih
    omega
theorem ncntF_snoc (W k : Nat) : ∀ (l : List GCell) (o : Nat) (c : GCell), ncntF W k o (l ++ [c]) = ncntF W k o l + ncell W k (o + l.length) c
  | [], o, c => by simp [ncntF]
  | a :: l, o, c => by
    have ih := ncntF_snoc W k l (o + 1) c
    simp only [List.cons_append, ncntF, ih, List.length_cons]
    rw [show o + 1 + l.length = o + (l.length + 1) from by omega]
    omega
theorem cstep_n (W : Nat) (k i : Nat) (c : GCell) (N : Nat) : cstep W (k : Int) i c (N % 18446744073709551616) = (N + ncell W k i c) % 18446744073709551616 := by
  unfold cstep ncell
  simp only
  have e : (if W < c.cut.toNat then W else c.cut.toNat) = min c.cut.toNat W := by simp only [Nat.min_def]; split <;> split <;> omega
  rw [e]
  generalize min c.cut.toNat W = m
  by_cases h1 : i = k
  · have h1' : (i : Int) = (k : Int) := by omega
    rw [if_pos h1, if_pos h1']
    by_cases h2 : c.oth.toNat = k
    · have h2' : (c.oth.toNat : Int) = (k : Int) := by omega
      rw [if_pos h2, if_pos h2']; omega
    · have h2' : ¬ (c.oth.toNat : Int) = (k : Int) := by omega
      rw [if_neg h2, if_neg h2']; omega
  · have h1' : ¬ (i : Int) = (k : Int) := by omega
    rw [if_neg h1, if_neg h1']
    by_cases h2 : c.oth.toNat = k
    · have h2' : (c.oth.toNat : Int) = (k : Int) := by omega
      rw [if_pos h2, if_pos h2']; omega
    · have h2' : ¬ (c.oth.toNat : Int) = (k : Int) := by omega
      rw [if_neg h2, if_neg h2']; omega
theorem cntK_n (W k : Nat) (l : List GCell) : ∀ m, m ≤ l.length → cntK W (k : Int) l m = ncntF W k 0 (l.take m) % 18446744073709551616
  | 0, _ => by simp [cntK, ncntF]
  | m + 1, h => by
    rw [cntK_succ W _ l m (by omega), cntK_n W k l m (by omega), cstep_n, List.take_add_one, List.getElem?_eq_getElem (by omega), Option.toList_some, ncntF_snoc, List.length_take, Nat.min_eq_left (by omega), Nat.zero_add]
theorem cnt_n (W k : Nat) (l : List GCell) : cnt W (k : Int) l = ncntF W k 0 l % 18446744073709551616 := by
  rw [cnt, cntK_n W k l l.length (Nat.le_refl _), List.take_length]

/-! ### what holds at each turn -/
structure BInv (W n M : Nat) (d0 : Nat → Nat) (s : BSt) : Prop where
  ll : s.left.length = n
  ol : s.out.length = n
  sum : s.left.sum = n * W
  un : ∀ k, k < n → s.left.getD k 0 ≠ W → s.out[k]? = some (mkC W k)
  cn : ∀ k, k < n → ncntF W k 0 s.out + s.left.getD k 0 = W + d0 k
  ok : ∀ c ∈ s.out, c.cut.toNat ≤ W ∧ c.oth.toNat < n
  mx : ∀ k, k < n → s.left.getD k 0 ≤ M
theorem mkC_cut (c o : Nat) (h : c < 18446744073709551616) : (mkC c o).cut.toNat = c := by simp only [mkC, UInt64.toNat_ofNat']; omega
theorem mkC_oth (c o : Nat) (h : o < 4294967296) : (mkC c o).oth.toNat = o := by simp only [mkC, UInt32.toNat_ofNat']; omega
theorem BInv.next {W n M : Nat} {d0 : Nat → Nat} {s : BSt} (h : BInv W n M d0 s) (hn : n ≤ 4294967296) (hW : W < 18446744073709551616) (hWM : W ≤ M) (i j : Nat) (hi : i < n) (hj : j < n) (hiW : s.left.getD i 0 < W) (hjW : W < s.left.getD j 0) :
    BInv W n M d0 ⟨pay W s.left i j, s.out.set i (mkC (s.left.getD i 0) j)⟩ := by
  have hij : i ≠ j := fun e => by subst e; omega
  have hi' : i < s.left.length := by rw [h.ll]; exact hi
  have hj' : j < s.left.length := by rw [h.ll]; exact hj
  have hg := fun k => pay_get W s.left i j k hi' hj'
  have hoi := h.un i hi (by omega)
  refine ⟨by rw [pay_len]; exact h.ll, by rw [List.length_set]; exact h.ol, by rw [pay_sum W s.left i j hi' hj' hiW hjW]; exact h.sum, ?_, ?_, ?_, ?_⟩
  · intro k hk hne
    simp only [hg] at hne
    rw [List.getElem?_set]
    by_cases h1 : i = k
    · rw [if_pos h1] at hne; exact absurd rfl hne
    · rw [if_neg h1] at hne ⊢
      by_cases h2 : j = k
      · subst h2; exact h.un j hk (by omega)
      · rw [if_neg h2] at hne; exact h.un k hk hne
  · intro k hk
    have hs := ncntF_set W k s.out 0 i (mkC W i) (mkC (s.left.getD i 0) j) hoi
    have hc := h.cn k hk
    simp only [hg]
    unfold ncell at hs
    rw [mkC_cut W i hW, mkC_oth W i (by omega), mkC_cut _ _ (by omega), mkC_oth _ _ (by omega), Nat.zero_add] at hs
    rw [Nat.min_eq_left (Nat.le_refl W), Nat.min_eq_left (by omega : s.left.getD i 0 ≤ W)] at hs
    by_cases h1 : i = k
    · have h2 : ¬ j = k := fun e => hij (h1.trans e.symm)
      rw [if_pos h1, if_pos h1, if_pos h1, if_neg h2] at hs
      rw [if_pos h1]
      subst h1
      omega
    · rw [if_neg h1, if_neg h1, if_neg h1] at hs
      rw [if_neg h1]
      by_cases h2 : j = k
      · rw [if_pos h2] at hs ⊢
        subst h2
        omega
      · rw [if_neg h2] at hs ⊢
        omega
  · intro c hc
    rcases List.mem_or_eq_of_mem_set hc with hc | rfl
    · exact h.ok c hc
    · rw [mkC_cut _ _ (by omega), mkC_oth _ _ (by omega)]
      omega
  · intro k hk
    have := h.mx k hk
    have hmj := h.mx j hj
    simp only [hg]
    split
    · exact hWM
    · split
      · omega
      · exact this

/-! ### the first rests and cells -/
def bst0 (l : List GArc) : BSt := ⟨(List.range l.length).map (left0 l), (List.range l.length).map (mkC (gsum l))⟩
def btab (l : List GArc) : List GCell := (brun (gsum l) (l.length + 1) (bst0 l)).out
theorem ncntF_first (W k : Nat) (hW : W < 18446744073709551616) : ∀ (n o : Nat), o + n ≤ 4294967296 → ncntF W k o ((List.range' o n).map (mkC W)) = if o ≤ k ∧ k < o + n then W else 0
  | 0, o, _ => by rw [if_neg (by omega)]; simp [ncntF]
  | n + 1, o, h => by
    have ih := ncntF_first W k hW n (o + 1) (by omega)
    simp only [List.range'_succ, List.map_cons, ncntF, ih]
    unfold ncell
    rw [mkC_cut W o hW, mkC_oth W o (by omega), Nat.min_eq_left (Nat.le_refl W), Nat.sub_self]
    by_cases h1 : o = k
    · rw [if_pos h1, if_pos h1, if_neg (by omega), if_pos (by omega)]; rfl
    · rw [if_neg h1, if_neg h1]
      by_cases h2 : o + 1 ≤ k ∧ k < o + 1 + n
      · rw [if_pos h2, if_pos (by omega)]; omega
      · rw [if_neg h2, if_neg (by omega)]
theorem sum_mul (n : Nat) : ∀ l : List Nat, (l.map fun x => n * x).sum = n * l.sum
  | [] => by simp
  | a :: l => by simp [sum_mul n l, Nat.mul_add]
theorem lefts_sum (l : List GArc) : ((List.range l.length).map (left0 l)).sum = l.length * gsum l := by
  have : (List.range l.length).map (left0 l) = (l.map fun a => a.wt.toNat).map fun x => l.length * x := by
    apply List.ext_getElem
    · simp
    · intro i h1 h2
      simp at h1
      simp [left0, List.getElem?_eq_getElem h1]
  rw [this, sum_mul]
  rfl
theorem getD_lefts (l : List GArc) (k : Nat) (hk : k < l.length) : ((List.range l.length).map (left0 l)).getD k 0 = left0 l k := by
  rw [getD_get _ _ (by simpa using hk)]
  simp
theorem bst0_inv (l : List GArc) (hl : l.length ≤ 1048576) (hg : gsum l ≤ 2147483647) : BInv (gsum l) l.length 4503599627370496 (left0 l) (bst0 l) := by
  refine ⟨by simp [bst0], by simp [bst0], lefts_sum l, ?_, ?_, ?_, ?_⟩
  · intro k hk _
    simp [bst0, List.getElem?_range hk]
  · intro k hk
    have := ncntF_first (gsum l) k (by omega) l.length 0 (by omega)
    rw [← List.range_eq_range', if_pos (by omega)] at this
    show ncntF (gsum l) k 0 ((List.range l.length).map (mkC (gsum l))) + ((List.range l.length).map (left0 l)).getD k 0 = _
    rw [this, getD_lefts l k hk]
  · intro c hc
    simp [bst0] at hc
    obtain ⟨k, hk, rfl⟩ := hc
    rw [mkC_cut _ _ (by omega), mkC_oth _ _ (by omega)]
    omega
  · intro k hk
    show ((List.range l.length).map (left0 l)).getD k 0 ≤ _
    rw [getD_lefts l k hk, left0, List.getElem?_eq_getElem hk]
    have h1 := u32_lt (l[k]).wt
    have : l.length * (l[k]).wt.toNat ≤ 1048576 * 4294967296 := Nat.mul_le_mul hl (by omega)
    simpa using this
/-- one turn, as the program goes: or nobody lacks -/
theorem BInv.turn {W n M : Nat} {d0 : Nat → Nat} {s : BSt} (h : BInv W n M d0 s) : (poorL W s.left = [] ∧ bstep1 W s = none) ∨
    ∃ i j r, poorL W s.left = i :: r ∧ i < n ∧ j < n ∧ s.left.getD i 0 < W ∧ W < s.left.getD j 0 ∧ bstep1 W s = some ⟨pay W s.left i j, s.out.set i (mkC (s.left.getD i 0) j)⟩ ∧ (∀ k, k < j → s.left.getD k 0 ≤ W) := by
  cases hp : poorL W s.left with
  | nil => exact Or.inl ⟨rfl, by rw [bstep1, poor_none W s.left hp]⟩
  | cons i r =>
    obtain ⟨h1, h2, h3⟩ := poor_head W s.left i r hp
    right
    cases hf : s.left.findIdx? (fun x => decide (W < x)) with
    | none =>
      rw [List.findIdx?_eq_none_iff] at hf
      have := rich_ex W s.left i (by rw [h.sum, h.ll]) h2 h3 s.left.length (fun k hk => by
        have := hf _ (List.getElem_mem hk)
        rw [getD_get _ _ hk]
        have h9 : ¬ W < s.left[k] := fun hx => by rw [decide_eq_true hx] at this; cases this
        omega) (Nat.le_refl _)
      omega
    | some j =>
      have hf' := hf
      rw [List.findIdx?_eq_some_iff_getElem] at hf
      obtain ⟨hj, hjW, hb⟩ := hf
      rw [← getD_get] at hjW
      refine ⟨i, j, r, rfl, by rw [← h.ll]; exact h2, by rw [← h.ll]; exact hj, h3, by simpa using hjW, by rw [bstep1, h1, hf'], fun k hk => ?_⟩
      have := hb k hk
      rw [← getD_get] at this
      have h9 : ¬ W < s.left.getD k 0 := fun hx => this (decide_eq_true hx)
      omega
theorem brun_inv (l : List GArc) (hl : l.length ≤ 1048576) (hg : gsum l ≤ 2147483647) : ∀ k, BInv (gsum l) l.length 4503599627370496 (left0 l) (brun (gsum l) k (bst0 l))
  | 0 => bst0_inv l hl hg
  | k + 1 => by
    have ih := brun_inv l hl hg k
    rw [brun]
    rcases ih.turn with ⟨h1, h2⟩ | ⟨i, j, r, h1, h2, h3, h4, h5, h6, h7⟩
    · rw [h2]; exact ih
    · rw [h6]; exact ih.next (by omega) (by omega) (by omega) i j h2 h3 h4 h5
theorem brun_bad (l : List GArc) (hl : l.length ≤ 1048576) (hg : gsum l ≤ 2147483647) : ∀ k, (∃ m, m ≤ k ∧ bstep1 (gsum l) (brun (gsum l) m (bst0 l)) = none) ∨ k + bad (gsum l) (brun (gsum l) k (bst0 l)).left ≤ l.length
  | 0 => Or.inr (by have := bad_le (gsum l) (bst0 l).left; simp [bst0] at this ⊢; exact this)
  | k + 1 => by
    rcases brun_bad l hl hg k with ⟨m, hm, h⟩ | h
    · exact Or.inl ⟨m, by omega, h⟩
    · have ih := brun_inv l hl hg k
      rcases ih.turn with ⟨h1, h2⟩ | ⟨i, j, r, h1, h2, h3, h4, h5, h6, h7⟩
      · exact Or.inl ⟨k, by omega, h2⟩
      · right
        rw [brun, h6]
        have := bad_pay (gsum l) (brun (gsum l) k (bst0 l)).left i j (by rw [ih.ll]; exact h2) (by rw [ih.ll]; exact h3) h4 h5
        show k + 1 + bad _ (pay _ _ _ _) ≤ _
        omega
/-- where it stops is the table -/
theorem btab_at (l : List GArc) (k : Nat) (hk : k ≤ l.length + 1) (h : bstep1 (gsum l) (brun (gsum l) k (bst0 l)) = none) : (brun (gsum l) k (bst0 l)).out = btab l := by
  have := brun_stop (gsum l) k (bst0 l) h (l.length + 1 - k)
  rw [show k + (l.length + 1 - k) = l.length + 1 from by omega] at this
  rw [btab, this]
theorem btab_stop (l : List GArc) (hl : l.length ≤ 1048576) (hg : gsum l ≤ 2147483647) : ∃ k, BInv (gsum l) l.length 4503599627370496 (left0 l) (brun (gsum l) k (bst0 l)) ∧ poorL (gsum l) (brun (gsum l) k (bst0 l)).left = [] ∧ (brun (gsum l) k (bst0 l)).out = btab l := by
  rcases brun_bad l hl hg (l.length + 1) with ⟨m, hm, h⟩ | h
  · have hi := brun_inv l hl hg m
    refine ⟨m, hi, ?_, btab_at l m hm h⟩
    rcases hi.turn with ⟨h1, h2⟩ | ⟨i, j, r, h1, h2, h3, h4, h5, h6, h7⟩
    · exact h1
    · rw [h] at h6; cases h6
  · omega
theorem btab_len (l : List GArc) (hl : l.length ≤ 1048576) (hg : gsum l ≤ 2147483647) : (btab l).length = l.length := by
  obtain ⟨k, hi, _, e⟩ := btab_stop l hl hg
  rw [← e]; exact hi.ol
theorem btab_ok (l : List GArc) (hl : l.length ≤ 1048576) (hg : gsum l ≤ 2147483647) : ∀ c ∈ btab l, c.cut.toNat ≤ gsum l ∧ c.oth.toNat < l.length := by
  obtain ⟨k, hi, _, e⟩ := btab_stop l hl hg
  rw [← e]; exact hi.ok
theorem btab_n (l : List GArc) (hl : l.length ≤ 1048576) (hg : gsum l ≤ 2147483647) (i : Nat) (hi : i < l.length) : ncntF (gsum l) i 0 (btab l) = l.length * (l[i]).wt.toNat := by
  obtain ⟨k, h, hp, e⟩ := btab_stop l hl hg
  have h1 := h.cn i hi
  have hall := sum_gt_one (gsum l) _ (by rw [h.sum, h.ll]) (fun x hx => by
    obtain ⟨q, hq, rfl⟩ := List.mem_iff_getElem.1 hx
    have : ¬ q ∈ poorL (gsum l) (brun (gsum l) k (bst0 l)).left := by rw [hp]; simp
    rw [poorL_mem, getD_get _ _ hq] at this
    omega)
  have h2 := hall _ (List.getElem_mem (by rw [h.ll]; exact hi))
  rw [← getD_get] at h2
  rw [← e]
  rw [h2] at h1
  have : left0 l i = l.length * (l[i]).wt.toNat := by rw [left0, List.getElem?_eq_getElem hi]; rfl
  omega
theorem btab_cnt (l : List GArc) (hl : l.length ≤ 1048576) (hg : gsum l ≤ 2147483647) (i : Nat) (hi : i < l.length) : cnt (gsum l) (i : Int) (btab l) = l.length * (l[i]).wt.toNat := by
  rw [cnt_n, btab_n l hl hg i hi, Nat.mod_eq_of_lt]
  have h1 := u32_lt (l[i]).wt
  have : l.length * (l[i]).wt.toNat ≤ 1048576 * 4294967296 := Nat.mul_le_mul hl (by omega)
  omega
theorem btab_may (l : List GArc) (hl : l.length ≤ 1048576) (h : nbrs l = true) (hg : gsum l ≤ 2147483647) : mayOk l (btab l) = true := by
  have hn := btab_len l hl hg
  refine mayOk_yes h hn.symm ?_ fun k hk => btab_cnt l hl hg k hk
  unfold cgood
  rw [List.all_eq_true]
  intro c hc
  have := btab_ok l hl hg c hc
  rw [hn]
  simp [this]
end Go.Proofs.Ythfnikdapknohaa

namespace Go.Proofs.Ythfnikdapknohaa
set_option linter.unusedSimpArgs false
set_option linter.unusedVariables false
open Go.RowKit

theorem RwAt.chg {P : Nat → Prop} {T : TypeId} {K : IntKind} {w w' : World} {base : Nat} {v : Value} {xs : List Nat} (h : RwAt T K w base v xs) (hc : Chg P w w') (hn : ∀ q, v.ownBlock = some q → ¬ P q) : RwAt T K w' base v xs := by
  obtain ⟨A, c, rfl, h1, h2, h3, h4⟩ := h
  refine ⟨A, c, rfl, h1, h2, fun q hq => ⟨(h3 q hq).1, Nat.lt_of_lt_of_le (h3 q hq).2 hc.size⟩, fun hcc => ?_⟩
  obtain ⟨b, off, cs, rfl, hb, hl, hx⟩ := h4 hcc
  exact ⟨b, off, cs, rfl, hb.chg hc (hn b rfl), hl, hx⟩

theorem RwAt.set_ {T : TypeId} {K : IntKind} {w : World} {base : Nat} {v : Value} {xs : List Nat} (h : RwAt T K w base v xs) (p : Addr) (u : Value) (hne : v.ownBlock ≠ some p.block) : RwAt T K (w.setCell p u) base v xs :=
  h.keep (gset w p u) fun q hq e => hne (by rw [hq]; exact e.symm)

set_option maxRecDepth 100000 in
set_option maxHeartbeats 1600000 in
theorem nextR_any (w : World) (g W base : Nat) (vl vp : Value) (rich p : Nat) (ps : List Nat) (hbx : BoxAt 160 w g [.int .u64 (W : Int), vl, vp, .int .i64 (rich : Int)]) (hr : RwAt 3 .i64 w base vp (p :: ps)) :
    Calls Try.prog 90 #[.pointer (some ⟨g, 0, none⟩)] w fun e w' => e = .returned (.int .i64 (p : Int)) ∧ ∃ vp', w' = w.setCell ⟨g, 2, none⟩ vp' ∧ RwAt 3 .i64 w base vp' ps ∧ vp'.ownBlock = vp.ownBlock := by
  obtain ⟨A, c, rfl, hc1, hc2⟩ := hr.form
  obtain ⟨_, b, off, rfl, hb1, hb2, hx, hxf⟩ := hr.at_ 0 p rfl
  have hy := hbx.cell 2 _ rfl
  have hf := hbx.frozen 2
  unfold maxLen at hc2
  simp only [List.length_cons] at hc1 hy
  rw [Nat.add_zero] at hx hxf
  have hcl : ps.length + 1 ≤ c := hc1
  have htail : ∀ v' : Value, v' = .slice (some ⟨b, (if c = 1 then off else off + 1), none⟩) ps.length (c - 1) → RwAt 3 .i64 w base v' ps := by
    rintro v' rfl
    obtain ⟨A', c', e, h1, h2, h3, h4⟩ := hr
    injection e with e1 e2 e3
    subst e1; subst e3
    refine ⟨_, _, rfl, by omega, by unfold maxLen at h2 ⊢; omega, h3, fun hc => ?_⟩
    obtain ⟨b', off', cs, e, hb, hl, hg⟩ := h4 (by omega)
    injection e with e; injection e with e1 e2 _
    subst e1; subst e2
    rw [if_neg (by omega)]
    refine ⟨b, off + 1, cs, rfl, hb, by omega, fun j x hj => ?_⟩
    have := hg (j + 1) x (by simpa using hj)
    rw [show off + 1 + j = off + (j + 1) from by omega]
    exact this
  have Ht := Lib.hid htail
  clear htail hbx hr
  by_cases h1 : c = 1
  · have hc1' : (c == 1) = true := by simpa using h1
    go_enter Try.func90, Try.ntmps90
    go_wp2_with fail
    go_ret
    exact ⟨rfl, _, rfl, Ht.out _ (by simp [h1]), rfl⟩
  · have hc1' : (c == 1) = false := by simpa using h1
    go_enter Try.func90, Try.ntmps90
    go_wp2_with fail
    go_ret
    exact ⟨rfl, _, rfl, Ht.out _ (by simp [h1]), rfl⟩

set_option maxRecDepth 100000 in
set_option maxHeartbeats 1600000 in
theorem bsearch_any (w : World) (base : Nat) (v : Value) (ps : List Nat) (r : Nat) (h : RwAt 3 .i64 w base v ps) (hps : ps.length ≤ 4294967296) (hs : ps.Pairwise (· < ·)) :
    Calls Try.prog 97 #[v, .int .i64 (r : Int)] w fun e w' => ∃ fo, e = .returned (.tuple #[.int .i64 ((ps.countP fun x => decide (x < r) : Nat) : Int), .bool fo]) ∧ ∃ q, w' = w.drewN q := by
  obtain ⟨A, c, rfl, h1, h2⟩ := h.form
  cases hp : ps with
  | nil =>
    subst hp
    refine (Any.slices_BinarySearch_int_empty lays225 A c (r : Int) w).mono ?_
    rintro e w' ⟨rfl, rfl⟩
    exact ⟨false, rfl, 0, rfl⟩
  | cons a t =>
    rw [← hp]
    obtain ⟨_, b, off, rfl, _, _, _, _⟩ := h.at_ 0 a (by rw [hp]; rfl)
    have hz : (ps.map fun (x : Nat) => (x : Int)).length = ps.length := by simp
    have htk : (ps.map fun (x : Nat) => (x : Int)).take ps.length = ps.map fun (x : Nat) => (x : Int) := List.take_of_length_le (by rw [hz]; omega)
    have hcnt : (ps.map fun (x : Nat) => (x : Int)).countP (fun x => decide (x < (r : Int))) = ps.countP fun x => decide (x < r) := by
      rw [List.countP_map]
      congr 1
      funext x
      simp
    refine (Any.slices_BinarySearch_int lays225 b off ps.length c (ps.map fun (x : Nat) => (x : Int)) (r : Int) w (by omega) (by omega) (fun j hj => ?_) ?_).mono ?_
    · rw [hz] at hj
      obtain ⟨_, b', off', e, _, _, hx, _⟩ := h.at_ j ps[j] (List.getElem?_eq_getElem hj)
      injection e with e; injection e with e1 e2 _
      subst e1; subst e2
      rw [hx]
      simp [List.getD, hj]
    · rw [htk, List.pairwise_map]
      exact hs.imp fun hab => by omega
    · rw [htk, hcnt]
      rintro e w' ⟨rfl, q, rfl⟩
      exact ⟨_, rfl, q, rfl⟩
end Go.Proofs.Ythfnikdapknohaa

namespace Go.Proofs.Ythfnikdapknohaa
set_option linter.unusedSimpArgs false
set_option linter.unusedVariables false
open Go.RowKit

set_option maxRecDepth 100000 in
set_option maxHeartbeats 3200000 in
theorem give_any (w : World) (g W base n : Nat) (vl vp : Value) (rich i j : Nat) (left ps : List Nat) (P : Nat → Prop) (hbx : BoxAt 160 w g [.int .u64 (W : Int), vl, vp, .int .i64 (rich : Int)])
    (hl : RwAt 71 .u64 w base vl left) (hp : RwAt 3 .i64 w base vp ps) (hap : Apart vl vp) (hgl : vl.ownBlock ≠ some g) (hgp : vp.ownBlock ≠ some g) (hbase : base ≤ w.heap.size)
    (hn : left.length = n) (hn2 : n ≤ 1048576) (hps : ps.length ≤ n) (hW : W ≤ 2147483647) (hi : i < n) (hj : j < n) (hiW : left.getD i 0 < W) (hjW : W < left.getD j 0) (hmx : left.getD j 0 ≤ 4503599627370496) (hr : rich ≤ j)
    (hrk : ∀ k, k < j → left.getD k 0 ≤ W) (hpr : ps.Pairwise (· < ·)) (hPg : P g) (hPl : ∀ q, vl.ownBlock = some q → P q) (hPp : ∀ q, vp.ownBlock = some q → P q) :
    Calls Try.prog 91 #[.pointer (some ⟨g, 0, none⟩), .int .i64 (i : Int)] w fun e w' => e = .returned (.int .i64 (j : Int)) ∧ ∃ vp', BoxAt 160 w' g [.int .u64 (W : Int), vl, vp', .int .i64 (j : Int)] ∧
      RwAt 71 .u64 w' base vl (pay W left i j) ∧ RwAt 3 .i64 w' base vp' (if left.getD j 0 - (W - left.getD i 0) < W then ins ps (ps.countP fun x => decide (x < j)) j else ps) ∧
      (vp'.ownBlock = vp.ownBlock ∨ ∃ q, vp'.ownBlock = some q ∧ w.heap.size ≤ q) ∧ Chg P w w' := by
  have Hrk := Lib.hid hrk
  have Hpr := Lib.hid hpr
  have HPl := Lib.hid hPl
  have HPp := Lib.hid hPp
  clear hrk hpr hPl hPp
  have hij : i ≠ j := fun e => by subst e; omega
  obtain ⟨ps', hps'⟩ : ∃ ps', ps' = (if left.getD j 0 - (W - left.getD i 0) < W then ins ps (ps.countP fun x => decide (x < j)) j else ps) := ⟨_, rfl⟩
  rw [← hps']
  have Hps := Lib.hid hps'
  clear hps'
  go_enter Try.func91, Try.ntmps91
  go_wp2_with fail
  go_loopg [] (j - rich) (fun gh wr => ∃ r : Nat, r ≤ j ∧ j - r ≤ gh ∧ BoxAt 160 wr g [.int .u64 (W : Int), vl, vp, .int .i64 (r : Int)] ∧ RwAt 71 .u64 wr base vl left ∧ RwAt 3 .i64 wr base vp ps ∧ Chg P w wr)
  case atStart => exact ⟨rich, hr, Nat.le_refl _, hbx, hl, hp, Chg.refl _ _⟩
  case round =>
    obtain ⟨r, hrj, hgh, hbx1, hl1, hp1, hc1⟩ := hrel
    obtain ⟨Al, cl, rfl, hcl1, hcl2⟩ := hl1.form
    unfold maxLen at hcl2
    obtain ⟨_, b, off, rfl, hb1, hb2, hxj, hxf⟩ := hl1.at_ j (left.getD j 0) (by rw [getD_get _ _ (by omega)]; exact List.getElem?_eq_getElem _)
    obtain ⟨_, b', off', e, _, _, hxi, _⟩ := hl1.at_ i (left.getD i 0) (by rw [getD_get _ _ (by omega)]; exact List.getElem?_eq_getElem _)
    injection e with e; injection e with e1 e2 _
    subst e1; subst e2
    have hy0 := hbx1.cell 0 _ rfl
    have hy1 := hbx1.cell 1 _ rfl
    have hy3 := hbx1.cell 3 _ rfl
    have hf3 := hbx1.frozen 3
    rw [hn] at hy1
    by_cases hrlt : r < j
    · have hle := Hrk.out r hrlt
      obtain ⟨_, b', off', e, _, _, hxr, _⟩ := hl1.at_ r (left.getD r 0) (by rw [getD_get _ _ (by omega)]; exact List.getElem?_eq_getElem _)
      injection e with e; injection e with e1 e2 _
      subst e1; subst e2
      have Hbx1 := Lib.hid hbx1
      have Hl1 := Lib.hid hl1
      have Hp1 := Lib.hid hp1
      have Hc1 := Lib.hid hc1
      clear hbx1 hl1 hp1 hc1 hxj hxi
      generalize left.getD r 0 = lr at *
      have hd : decide (lr ≤ W) = true := decide_eq_true hle
      have hrn : r < left.length := by omega
      go_wp2_with fail
      go_quiet (fail)
      go_wp2_with fail
      go_roundg (j - (r + 1))
      case measure => omega
      case rel => exact ⟨r + 1, by omega, Nat.le_refl _, BoxAt.put (w := wr.drewN _) Hbx1.out 3 _, (Hl1.out.drewN_ _).set_ _ _ hgl, (Hp1.out.drewN_ _).set_ _ _ hgp, (Hc1.out.drewN_ _).trans (Chg.set _ _ _ hPg)⟩
    · obtain rfl : r = j := by omega
      have Hbx1 := Lib.hid hbx1
      have Hl1 := Lib.hid hl1
      have Hp1 := Lib.hid hp1
      have Hc1 := Lib.hid hc1
      clear hbx1 hl1 hp1 hc1
      generalize hLI : left.getD i 0 = li at *
      generalize hLJ : left.getD r 0 = lj at *
      have HLI := Lib.hid hLI
      have HLJ := Lib.hid hLJ
      clear hLI hLJ
      have hd : decide (lj ≤ W) = false := decide_eq_false (by omega)
      have hrn : r < left.length := by omega
      have hin : i < left.length := by omega
      go_wp2_with fail
      go_quiet (fail)
      go_wp2_with fail
      have HbxD := Lib.hid (show BoxAt 160 (wr.drewN nq) g _ from Hbx1.out)
      have HlD := Lib.hid (Hl1.out.drewN_ nq)
      have HpD := Lib.hid (Hp1.out.drewN_ nq)
      have HcD := Lib.hid (Hc1.out.drewN_ nq)
      have hb2D : b < (wr.drewN nq).heap.size := hb2
      replace hxj : (wr.drewN nq).cell? _ = _ := hxj
      replace hxi : (wr.drewN nq).cell? _ = _ := hxi
      replace hy0 : (wr.drewN nq).cell? _ = _ := hy0
      replace hy1 : (wr.drewN nq).cell? _ = _ := hy1
      replace hxf : (wr.drewN nq).frozen? _ = _ := hxf
      clear hbx hl hp hb2 hy3 hf3 Hbx1 Hl1 Hp1 Hc1
      generalize wr.drewN nq = wd at *
      have hs1 : IntKind.u64.wrap ((W : Int) - (li : Int)) = ((W - li : Nat) : Int) := by rw [wrap_u64]; omega
      have hs2 : IntKind.u64.wrap ((lj : Int) - ((W - li : Nat) : Int)) = ((lj - (W - li) : Nat) : Int) := by rw [wrap_u64]; omega
      have hs3 : IntKind.u64.wrap ((lj : Int) - IntKind.u64.wrap ((W : Int) - (li : Int))) = ((lj - (W - li) : Nat) : Int) := by rw [hs1, hs2]
      go_region
      have hgb : g ≠ b := fun e => hgl (by rw [e]; rfl)
      have hl2 := Lib.hid ((HlD.out.put r (lj - (W - li)) (by omega)).drew_)
      have hp2 := Lib.hid ((HpD.out.set_ ⟨b, off + r, none⟩ (.int .u64 ((lj - (W - li) : Nat) : Int)) (fun e => hap b rfl e)).drew_)
      have hbx2 := Lib.hid (show BoxAt 160 (wd.setCell ⟨b, off + r, none⟩ (.int .u64 ((lj - (W - li) : Nat) : Int))).drew g _ from HbxD.out.other ⟨b, off + r, none⟩ (.int .u64 ((lj - (W - li) : Nat) : Int)) (fun e => hgb e.symm))
      have hc2 := Lib.hid ((HcD.out.trans (Chg.set wd ⟨b, off + r, none⟩ (.int .u64 ((lj - (W - li) : Nat) : Int)) (HPl.out b rfl))).drew_)
      clear hxj hxi hy0 hy1 hxf HbxD HlD HpD HcD hb2D
      generalize (wd.setCell ⟨b, off + r, none⟩ (.int .u64 ((lj - (W - li) : Nat) : Int))).drew = w2 at *
      have hy0 := hbx2.out.cell 0 _ rfl
      have hy1 := hbx2.out.cell 1 _ rfl
      rw [hn] at hy1
      obtain ⟨_, b', off', e, _, _, hxi, hxf⟩ := hl2.out.at_ i li (by rw [List.getElem?_set, if_neg (fun e => hij e.symm), List.getElem?_eq_getElem hin, ← HLI.out, getD_get])
      injection e with e; injection e with e1 e2 _
      subst e1; subst e2
      go_wp2_with fail
      go_region
      have hl3 := Lib.hid ((hl2.out.put i W (by rw [List.length_set]; omega)).drew_)
      have hp3 := Lib.hid ((hp2.out.set_ ⟨b, off + i, none⟩ (.int .u64 (W : Int)) (fun e => hap b rfl e)).drew_)
      have hbx3 := Lib.hid (show BoxAt 160 (w2.setCell ⟨b, off + i, none⟩ (.int .u64 (W : Int))).drew g _ from hbx2.out.other ⟨b, off + i, none⟩ (.int .u64 (W : Int)) (fun e => hgb e.symm))
      have hc3 := Lib.hid ((hc2.out.trans (Chg.set w2 ⟨b, off + i, none⟩ (.int .u64 (W : Int)) (HPl.out b rfl))).drew_)
      clear hxi hxf hy0 hy1 hl2 hp2 hbx2 hc2
      generalize (w2.setCell ⟨b, off + i, none⟩ (.int .u64 (W : Int))).drew = w3 at *
      have hy0 := hbx3.out.cell 0 _ rfl
      have hy1 := hbx3.out.cell 1 _ rfl
      have hy2 := hbx3.out.cell 2 _ rfl
      have hf2 := hbx3.out.frozen 2
      rw [hn] at hy1
      obtain ⟨_, b', off', e, _, _, hxj, _⟩ := hl3.out.at_ r (lj - (W - li)) (by rw [List.getElem?_set, if_neg hij, List.getElem?_set, if_pos rfl, if_pos (by omega)])
      injection e with e; injection e with e1 e2 _
      subst e1; subst e2
      have hpay : (left.set r (lj - (W - li))).set i W = pay W left i r := by unfold pay; rw [HLI.out, HLJ.out]
      rw [hpay] at hl3
      have Hpay := Lib.hid hpay
      clear hpay
      clear hs1 hs2 hs3
      have hnjb : lj - (W - li) ≤ 4503599627370496 := by omega
      generalize hnj : lj - (W - li) = nj at *
      have Hnj := Lib.hid hnj
      clear hnj
      by_cases hlt : nj < W
      · have hd2 : decide (nj < W) = true := decide_eq_true hlt
        go_wp2_with fail
        go_quiet (fail)
        go_wp2_with fail
        obtain ⟨Ap, cp, rfl, hcp1, hcp2⟩ := hp3.out.form
        go_wp2_with fail
        refine (bsearch_any (w3.drewN nq) base _ ps r (hp3.out.drewN_ _) (by omega) Hpr.out).mono ?_
        rintro _ w4 ⟨fo, rfl, q4, rfl⟩
        have hl4 := Lib.hid ((hl3.out.drewN_ nq).drewN_ q4)
        have hp4 := Lib.hid ((hp3.out.drewN_ nq).drewN_ q4)
        have hbx4 := Lib.hid (show BoxAt 160 ((w3.drewN nq).drewN q4) g _ from hbx3.out)
        have hc4 := Lib.hid ((hc3.out.drewN_ nq).drewN_ q4)
        replace hy2 : ((w3.drewN nq).drewN q4).cell? _ = _ := hy2
        replace hf2 : ((w3.drewN nq).drewN q4).frozen? _ = _ := hf2
        have hle : ps.countP (fun x => decide (x < r)) ≤ ps.length := List.countP_le_length
        have e9 := Hps.out
        rw [if_pos hlt] at e9
        have E9 := Lib.hid e9
        clear hxj hy0 hy1 hl3 hp3 hbx3 hc3 e9 Hps
        generalize (w3.drewN nq).drewN q4 = w4 at *
        generalize (ps.countP fun x => decide (x < r)) = at4 at *
        go_wp2_with fail
        have hp5 := (hp4.out.alloc_ (.cells #[.int .i64 (r : Int)] 3))
        have harg := BoxAt.new_ 3 w4 [.int .i64 (r : Int)]
        have hbx5 := Lib.hid (hbx4.out.alloc (.cells #[.int .i64 (r : Int)] 3))
        have hl5 := Lib.hid (hl4.out.alloc_ (.cells #[.int .i64 (r : Int)] 3))
        have hblk := hp4.out.blk
        refine (insert_any _ base _ ps at4 r w4.heap.size hle (by omega) hp5 harg (fun e => by have := (hblk _ e).2; omega) (by have := hc4.out.size; simp; omega)).mono ?_
        rintro _ w6 ⟨v6, rfl, hp6, hg6, ho6⟩
        obtain ⟨A6, c6, rfl, h61, h62⟩ := hp6.form
        have hbx6 := hbx5.out.grown hg6 hgp
        have hl6 := Lib.hid (hl5.out.keep hg6 hap)
        have hc6 := Lib.hid ((hc4.out.alloc_ (.cells #[.int .i64 (r : Int)] 3)).trans (Chg.ofGrown hg6 HPp.out))
        have hglt := hbx5.out.lt
        have hws : w.heap.size ≤ (w4.alloc (.cells #[.int .i64 (r : Int)] 3)).heap.size := (hc4.out.alloc_ _).size
        have hg6' : (Value.slice A6 (ins ps at4 r).length c6).ownBlock ≠ some g := fun e => by
          rcases ho6 with h | ⟨q, h, h2⟩
          · exact hgp (by rw [← h]; exact e)
          · rw [h] at e; injection e with e; omega
        have hy2' := hbx6.cell 2 _ rfl
        have hf2' := hbx6.frozen 2
        have ho7 : (Value.slice A6 (ins ps at4 r).length c6).ownBlock = (Value.slice Ap ps.length cp).ownBlock ∨ ∃ q, (Value.slice A6 (ins ps at4 r).length c6).ownBlock = some q ∧ w.heap.size ≤ q := by
          rcases ho6 with h | ⟨q, h, h2⟩
          · exact Or.inl h
          · exact Or.inr ⟨q, h, by omega⟩
        have Hp6 := Lib.hid hp6
        have Hbx6 := Lib.hid hbx6
        have Ho7 := Lib.hid ho7
        have Hg6' := Lib.hid hg6'
        clear hp6 hbx6 ho6 ho7 hg6 hp5 harg hbx5 hl5 hp4 hl4 hbx4 hc4 hy2 hf2 hg6' hglt hblk hws
        go_wp2_with fail
        go_ret
        exact ⟨rfl, _, Hbx6.out.put 2 _, hl6.out.set_ _ _ hgl, by rw [E9.out]; exact Hp6.out.set_ _ _ Hg6'.out, Ho7.out, hc6.out.trans (Chg.set _ _ _ hPg)⟩
      · have hd2 : decide (nj < W) = false := decide_eq_false hlt
        go_wp2_with fail
        go_quiet (fail)
        go_wp2_with fail
        go_ret
        have e9 := Hps.out
        rw [if_neg hlt] at e9
        subst e9
        exact ⟨rfl, vp, hbx3.out, hl3.out, hp3.out, Or.inl rfl, hc3.out.drewN_ _⟩
end Go.Proofs.Ythfnikdapknohaa

namespace Go.Proofs.Ythfnikdapknohaa
set_option linter.unusedSimpArgs false
set_option linter.unusedVariables false
open Go.RowKit

def ptotal (l : List GArc) : Nat := if gmay l = true then gsum l * l.length else 0
theorem gmay_sum {l : List GArc} (h : gmay l = true) : gsum l ≤ 2147483647 := by
  unfold gmay at h
  simp at h
  exact h.2
theorem ptotal_nbrs (l : List GArc) : ptotal l = if nbrs l = true then gsum l * l.length else 0 := by
  unfold ptotal nbrs
  rcases Nat.eq_zero_or_pos l.length with h | h
  · simp [h]
  · simp [h]

end Go.Proofs.Ythfnikdapknohaa

namespace Go.Proofs.Ythfnikdapknohaa
set_option linter.unusedSimpArgs false
set_option linter.unusedVariables false
open Go.RowKit

/-- the neighbour that a draw comes to -/
def palias (l : List GArc) (t : List GCell) (x : Nat) : Nat × Bool :=
  if l.length = t.length ∧ x < ptotal l then
    let c := (t[x / gsum l]?).getD ⟨0, 0⟩
    if x % gsum l < c.cut.toNat then (x / gsum l, true) else if c.oth.toNat < l.length then (c.oth.toNat, true) else (0, false)
  else (0, false)
theorem palias_no {l : List GArc} {t : List GCell} {x : Nat} (h : ¬ (l.length = t.length ∧ x < ptotal l)) : palias l t x = (0, false) := by
  unfold palias; rw [if_neg h]
theorem ptotal_pos {l : List GArc} {x : Nat} (h : x < ptotal l) : gmay l = true ∧ 0 < gsum l ∧ x / gsum l < l.length ∧ gsum l ≤ 2147483647 := by
  unfold ptotal at h
  split at h
  · rename_i hg
    have h0 : 0 < gsum l := Nat.pos_of_ne_zero fun e => by rw [e] at h; simp at h
    exact ⟨hg, h0, Nat.div_lt_of_lt_mul h, gmay_sum hg⟩
  · omega
theorem palias_yes {l : List GArc} {t : List GCell} {x : Nat} (hlt : l.length = t.length) (hx : x < ptotal l) (hk : x / gsum l < t.length) :
    palias l t x = if x % gsum l < (t[x / gsum l]).cut.toNat then (x / gsum l, true) else if (t[x / gsum l]).oth.toNat < l.length then ((t[x / gsum l]).oth.toNat, true) else (0, false) := by
  unfold palias
  rw [if_pos ⟨hlt, hx⟩, List.getElem?_eq_getElem hk]
  rfl

end Go.Proofs.Ythfnikdapknohaa

namespace Go.Proofs.Ythfnikdapknohaa
set_option linter.unusedSimpArgs false
set_option linter.unusedVariables false
open Go.RowKit

theorem OwnC.new_ (w : World) (l : List GCell) (hm : l.length ≤ maxLen) :
    OwnF 73 cCell (w.alloc (.cells ((l.map fun a => [Value.int .u64 (a.cut.toNat : Int), .int .u32 (a.oth.toNat : Int)]).flatten.toArray) 73)) w.heap.size (.slice (some ⟨w.heap.size, 0, none⟩) l.length l.length) l :=
  OwnR.new_ w _ (by simp) hm (fun i cs x hc hx => by
    rw [List.getElem?_map, hx] at hc
    injection hc with hc
    exact ⟨hc.symm, trivial⟩) fun _ h => h.elim
theorem OwnF.byC {w : World} {base : Nat} {v : Value} {l : List GCell} (h : OwnF 73 cCell w base v l) : ByC w w.heap.size v l := h.row.mono (fun _ hk => hk.2) fun _ h => h.elim

end Go.Proofs.Ythfnikdapknohaa

namespace Go.Proofs.Ythfnikdapknohaa
set_option linter.unusedSimpArgs false
set_option linter.unusedVariables false
open Go.RowKit

def cellsOf : List GCell → List Value
  | [] => []
  | c :: r => .int .u64 (c.cut.toNat : Int) :: .int .u32 (c.oth.toNat : Int) :: cellsOf r
theorem cellsOf_len : ∀ l : List GCell, (cellsOf l).length = l.length * 2
  | [] => rfl
  | c :: r => by simp [cellsOf, cellsOf_len r]; omega
theorem cellsOf_flat : ∀ l : List GCell, cellsOf l = (l.map fun a => [Value.int .u64 (a.cut.toNat : Int), .int .u32 (a.oth.toNat : Int)]).flatten
  | [] => rfl
  | c :: r => by simp [cellsOf, cellsOf_flat r]
theorem cellsOf_set : ∀ (l : List GCell) (k : Nat) (c : GCell), k < l.length → ((cellsOf l).set (k * 2) (.int .u64 (c.cut.toNat : Int))).set (k * 2 + 1) (.int .u32 (c.oth.toNat : Int)) = cellsOf (l.set k c)
  | [], k, c, h => by simp at h
  | a :: r, 0, c, h => by simp [cellsOf]
  | a :: r, k + 1, c, h => by
    have ih := cellsOf_set r k c (by simpa using h)
    rw [show (k + 1) * 2 = k * 2 + 2 from by omega]
    simp only [cellsOf, List.set_cons_succ, ih]
theorem cellsOf_get (l : List GCell) (k : Nat) (h : k < l.length * 2) : ((cellsOf l)[k]?).isSome = true := by
  rw [List.getElem?_eq_getElem (by rw [cellsOf_len]; exact h)]; rfl
/-- the box is a row of one's own -/
theorem BoxAt.ownC {w : World} {g base : Nat} {l : List GCell} (h : BoxAt 73 w g (cellsOf l)) (hb : base ≤ g) (hm : l.length ≤ maxLen) : OwnF 73 cCell w base (.slice (some ⟨g, 0, none⟩) l.length l.length) l := by
  refine ⟨l.map fun a => [Value.int .u64 (a.cut.toNat : Int), .int .u32 (a.oth.toNat : Int)], by simp, ⟨?_, .inr ⟨g, l.length, (cellsOf l).toArray, rfl, hb, h, Nat.le_refl _, hm, ?_, ?_⟩⟩, ?_, fun _ h => h.elim⟩
  · rw [← cellsOf_flat, cellsOf_len]; rfl
  · simp [cellsOf_len]; rfl
  · rw [← cellsOf_flat]
    exact List.take_of_length_le (by simp [cellsOf_len]; exact Nat.le_refl _)
  · intro i cs x hc hx
    rw [List.getElem?_map, hx] at hc
    injection hc with hc
    exact ⟨hc.symm, trivial⟩
theorem RwAt.ofOwn64 {w : World} {base : Nat} {v : Value} {xs : List UInt64} {ys : List Nat} (h : OwnF 71 c64 w base v xs) (hy : ys = xs.map fun x => x.toNat) : RwAt 71 .u64 w base v ys := by
  obtain ⟨css, hl, ⟨hlen, hv⟩, h3, _⟩ := h
  have hyl : ys.length = xs.length := by rw [hy]; simp
  rcases hv with ⟨rfl, hn⟩ | ⟨g, cap, cur, rfl, hb, hh, h1, h2, hs, ht⟩
  · refine ⟨none, 0, by rw [hyl, hn], by omega, Nat.zero_le _, fun q hq => (by cases hq), fun h => absurd h (by omega)⟩
  · refine ⟨_, cap, by rw [hyl], by omega, h2, fun q hq => ?_, fun _ => ⟨g, 0, cur.toList, rfl, hh, ?_, fun j x hx => ?_⟩⟩
    · injection hq with hq
      subst hq
      exact ⟨hb, (Array.getElem?_eq_some_iff.1 hh).1⟩
    · simp [hs]; show cap ≤ cap * 1; omega
    · rw [hy, List.getElem?_map] at hx
      obtain ⟨u, hu, rfl⟩ := Option.map_eq_some_iff.1 hx
      have hj : j < xs.length := (List.getElem?_eq_some_iff.1 hu).1
      obtain ⟨e, _⟩ := h3 j css[j] u (List.getElem?_eq_getElem (by omega)) hu
      have hcl := OwnR.clen hl h3
      have hf := flat_get c64.n css hcl j css[j] 0 (List.getElem?_eq_getElem (by omega)) (by decide)
      rw [e, show c64.n = 1 from rfl] at hf
      rw [← ht, show c64.n = 1 from rfl, List.getElem?_take] at hf
      split at hf
      · rw [Nat.zero_add]
        rw [show j * 1 + 0 = j from by omega] at hf
        exact hf
      · cases hf
theorem RwAt.ofOwnInt {w : World} {base : Nat} {v : Value} {xs : List Int} {ys : List Nat} (h : OwnF 3 cInt w base v xs) (hy : xs = ys.map fun (x : Nat) => (x : Int)) : RwAt 3 .i64 w base v ys := by
  obtain ⟨css, hl, ⟨hlen, hv⟩, h3, _⟩ := h
  have hyl : ys.length = xs.length := by rw [hy]; simp
  rcases hv with ⟨rfl, hn⟩ | ⟨g, cap, cur, rfl, hb, hh, h1, h2, hs, ht⟩
  · refine ⟨none, 0, by rw [hyl, hn], by omega, Nat.zero_le _, fun q hq => (by cases hq), fun h => absurd h (by omega)⟩
  · refine ⟨_, cap, by rw [hyl], by omega, h2, fun q hq => ?_, fun _ => ⟨g, 0, cur.toList, rfl, hh, ?_, fun j x hx => ?_⟩⟩
    · injection hq with hq
      subst hq
      exact ⟨hb, (Array.getElem?_eq_some_iff.1 hh).1⟩
    · simp [hs]; show cap ≤ cap * 1; omega
    · have hu : xs[j]? = some (x : Int) := by rw [hy, List.getElem?_map, hx]; rfl
      have hj : j < xs.length := (List.getElem?_eq_some_iff.1 hu).1
      obtain ⟨e, _⟩ := h3 j css[j] _ (List.getElem?_eq_getElem (by omega)) hu
      have hcl := OwnR.clen hl h3
      have hf := flat_get cInt.n css hcl j css[j] 0 (List.getElem?_eq_getElem (by omega)) (by decide)
      rw [e, show cInt.n = 1 from rfl] at hf
      rw [← ht, show cInt.n = 1 from rfl, List.getElem?_take] at hf
      split at hf
      · rw [Nat.zero_add]
        rw [show j * 1 + 0 = j from by omega] at hf
        exact hf
      · cases hf
theorem lefts_nat (l : List GArc) (hl : l.length ≤ 1048576) : (bst0 l).left = (lefts l l.length).map fun x => x.toNat := by
  show (List.range l.length).map (left0 l) = _
  unfold lefts
  rw [List.map_map]
  apply List.map_congr_left
  intro i hi
  have hi : i < l.length := by simpa using hi
  have h1 := u32_lt (l[i]).wt
  have : l.length * (l[i]).wt.toNat ≤ 1048576 * 4294967296 := Nat.mul_le_mul hl (by omega)
  have e : left0 l i = l.length * (l[i]).wt.toNat := by rw [left0, List.getElem?_eq_getElem hi]; rfl
  simp only [Function.comp]
  rw [UInt64.toNat_ofNat', e]
  omega
theorem poors_nat (l : List GArc) : poors l l.length = (poorL (gsum l) (bst0 l).left).map fun (x : Nat) => (x : Int) := by
  unfold poors poorL
  congr 1
  have hlen : (bst0 l).left.length = l.length := by simp [bst0]
  rw [hlen]
  apply List.filter_congr
  intro i hi
  have hi : i < l.length := by simpa using hi
  show decide (left0 l i < gsum l) = decide (((List.range l.length).map (left0 l)).getD i 0 < gsum l)
  rw [getD_lefts l i hi]
/-- the first cells, laid so far -/
def outK (W n k : Nat) : List GCell := (List.range n).map fun i => if i < k then mkC W i else ⟨0, 0⟩
theorem outK_len (W n k : Nat) : (outK W n k).length = n := by simp [outK]
theorem outK_set (W n k : Nat) (hk : k < n) : (outK W n k).set k (mkC W k) = outK W n (k + 1) := by
  apply List.ext_getElem?
  intro j
  rw [List.getElem?_set]
  unfold outK
  simp only [List.length_map, List.length_range, List.getElem?_map]
  by_cases hj : j < n
  · rw [List.getElem?_range hj]
    by_cases h1 : k = j
    · subst h1; simp [hk]
    · rw [if_neg h1]
      simp only [Option.map_some]
      by_cases h2 : j < k
      · rw [if_pos h2, if_pos (by omega)]
      · rw [if_neg h2, if_neg (by omega)]
  · rw [List.getElem?_eq_none (by simp; omega), if_neg (by omega)]
    rfl
theorem outK_all (W n : Nat) : outK W n n = (List.range n).map (mkC W) := by
  unfold outK
  apply List.map_congr_left
  intro i hi
  rw [if_pos (by simpa using hi)]
theorem infoCell : (Try.prog.info? 73).map (fun i => (i.zero, i.size, i.bytes)) = some (some (.agg #[.int .u64 0, .int .u32 0]), 2, 16) := by kernel_rfl
theorem cellsOf_get2 : ∀ (l : List GCell) (k : Nat) (c : GCell), l[k]? = some c → (cellsOf l)[k * 2]? = some (.int .u64 (c.cut.toNat : Int)) ∧ (cellsOf l)[k * 2 + 1]? = some (.int .u32 (c.oth.toNat : Int))
  | [], k, c, h => by simp at h
  | a :: r, 0, c, h => by simp at h; subst h; simp [cellsOf]
  | a :: r, k + 1, c, h => by
    have ih := cellsOf_get2 r k c (by simpa using h)
    rw [show (k + 1) * 2 = k * 2 + 2 from by omega]
    simp only [cellsOf, List.getElem?_cons_succ]
    exact ih
theorem madeC (n W : Nat) : madeCells (Value.cells (.agg #[.int .u64 0, .int .u32 0])) (n * 2) = (cellsOf (outK W n 0)).toArray := by
  apply Array.ext
  · simp [madeCells, Value.cells, cellsOf_len, outK_len]
  · intro i h1 h2
    have hi : i < n * 2 := by simpa [madeCells, Value.cells] using h1
    have hg := cellsOf_get2 (outK W n 0) (i / 2) ⟨0, 0⟩ (by
      unfold outK
      rw [List.getElem?_map, List.getElem?_range (by omega)]
      simp)
    have h3 : i < (cellsOf (outK W n 0)).length := by rw [cellsOf_len, outK_len]; exact hi
    rcases Nat.mod_two_eq_zero_or_one i with hm | hm
    · have e : i / 2 * 2 = i := by omega
      rw [e, List.getElem?_eq_getElem h3] at hg
      have := Option.some.inj hg.1
      simp [madeCells, Value.cells, this, hm]
    · have e : i / 2 * 2 + 1 = i := by omega
      rw [e, List.getElem?_eq_getElem h3] at hg
      have := Option.some.inj hg.2
      simp [madeCells, Value.cells, this, hm]
theorem makeC (n W : Nat) (hn : n ≤ 4294967296) : ∀ w : World, (Instr.makeSlice 66 (.int .i64 (n : Int)) (.int .i64 (n : Int))).run Try.prog w = .ok (.slice (some ⟨w.heap.size, 0, none⟩) n n) (w.alloc (.cells (cellsOf (outK W n 0)).toArray 73)) := fun w => by
  obtain ⟨i, hi, hz0, hz1, hz2⟩ := info_parts infoCell
  have hr := run_make (P := Try.prog) w 66 73 i (.agg #[.int .u64 0, .int .u32 0]) Try.underlying66 hi hz0 .i64 .i64 (n : Int) (n : Int) (by omega) (by omega) (by rw [hz2]; omega) (by omega)
  rw [Int.toNat_natCast, hz1, madeC n W] at hr
  exact hr
theorem BoxAt.putCell {w : World} {go : Nat} {out : List GCell} (h : BoxAt 73 w go (cellsOf out)) (k : Nat) (c : GCell) (hk : k < out.length) (a b : Int) (ha : a = (c.cut.toNat : Int)) (hb : b = (c.oth.toNat : Int)) :
    BoxAt 73 ((w.setCell ⟨go, k * 2, none⟩ (.int .u64 a)).setCell ⟨go, k * 2 + 1, none⟩ (.int .u32 b)) go (cellsOf (out.set k c)) := by
  subst ha; subst hb
  rw [← cellsOf_set out k c hk]
  exact (h.put _ _).put _ _
end Go.Proofs.Ythfnikdapknohaa

namespace Go.Proofs.Ythfnikdapknohaa
set_option linter.unusedSimpArgs false
set_option linter.unusedVariables false
open Go.RowKit

set_option maxRecDepth 100000 in
set_option maxHeartbeats 800000 in
theorem build_no (w : World) (B : Nat) (v : Value) (l : List GArc) (hl : l.length ≤ 4294967296) (h : ByA w B v l) (hB : B ≤ w.heap.size) (hn : nbrs l = false) :
    Calls Try.prog 75 #[v] w fun e w' => e = .returned (.tuple #[.slice none 0 0, .int .i64 3]) ∧ Below w.heap.size w w' := by
  obtain ⟨A, c, rfl, hc1, hc2⟩ := h.form
  unfold maxLen at hc2
  have hmay := gmay_any w B _ l hl h hB
  unfold nbrs at hn
  by_cases h0 : l.length = 0
  · have hd : (l.length == 0) = true := by simpa using h0
    have hd1 : ((l.length : Int) == 0) = true := by simp [h0]
    clear hmay h0
    go_enter Try.func75, Try.ntmps75
    go_wp2_with fail
    go_step3
    go_wp2_with fail
    rw [Exit.noGoto_ret]
    go_ret2
    exact ⟨rfl, Below.refl _ _⟩
  · have hgm : gmay l = false := by
      rw [decide_eq_true (by omega), Bool.true_and] at hn
      exact hn
    rw [hgm] at hmay
    have hd : (l.length == 0) = false := beq_eq_false_iff_ne.2 (by omega)
    have hd1 : ((l.length : Int) == 0) = false := beq_eq_false_iff_ne.2 (by omega)
    have Hmay := Lib.hid hmay
    clear hmay h0
    go_enter Try.func75, Try.ntmps75
    go_wp2_with fail
    go_step3
    go_wp2_with fail
    refine Hmay.out.mono ?_
    rintro _ w1 ⟨rfl, hb1⟩
    go_wp2_with fail
    rw [Exit.noGoto_ret]
    go_ret2
    exact ⟨rfl, hb1⟩

set_option maxRecDepth 100000 in
set_option maxHeartbeats 3200000 in
theorem build_any (w : World) (B : Nat) (v : Value) (l : List GArc) (hl : l.length ≤ 1048576) (h : ByA w B v l) (hB : B ≤ w.heap.size) (hn : nbrs l = true) :
    Calls Try.prog 75 #[v] w fun e w' => ∃ vo, e = .returned (.tuple #[vo, .int .i64 0]) ∧ OwnF 73 cCell w' w.heap.size vo (btab l) ∧ Below w.heap.size w w' := by
  obtain ⟨A, c, rfl, hc1, hc2⟩ := h.form
  unfold maxLen at hc2
  unfold nbrs at hn
  rw [Bool.and_eq_true, decide_eq_true_eq] at hn
  obtain ⟨h0, hgm⟩ := hn
  have hsum := gmay_sum hgm
  have hmay := gmay_any w B _ l (by omega) h hB
  rw [hgm] at hmay
  have hbeg := fun W h hB => begin_any W B (.slice A l.length c) l hl h hB
  have hd : (l.length == 0) = false := beq_eq_false_iff_ne.2 (by omega)
  have hd1 : ((l.length : Int) == 0) = false := beq_eq_false_iff_ne.2 (by omega)
  have hmk := makeC l.length (gsum l) (by omega)
  have Hmay := Lib.hid hmay
  have Hbeg := Lib.hid hbeg
  have hinv := brun_inv l hl hsum
  have Hinv := Lib.hid hinv
  have hl64 := lefts_nat l hl
  have hpin := poors_nat l
  have Hl64 := Lib.hid hl64
  have Hpin := Lib.hid hpin
  have hat := btab_at l
  have Hat := Lib.hid hat
  have hoa := outK_all (gsum l) l.length
  have Hoa := Lib.hid hoa
  have hos := outK_set (gsum l) l.length
  have Hos := Lib.hid hos
  have H0 := Lib.hid h0
  clear hmay hbeg hinv hl64 hpin hgm hat hoa hos h0
  go_enter Try.func75, Try.ntmps75
  go_wp2_with fail
  go_step3
  go_wp2_with fail
  refine Hmay.out.mono ?_
  rintro _ w1 ⟨rfl, hb1⟩
  go_wp2_with fail
  refine (Hbeg.out w1 (h.below (hb1.mono hB)) (by have := hb1.size; omega)).mono ?_
  rintro _ w2 ⟨g, vl, vp, rfl, hg1, hbx, hol, hop, hap, hb2⟩
  have hb02 := bstep hb1 hb2
  have hs2 := hb02.size
  have hlt2 := hbx.lt
  have hgw : w.heap.size ≤ g := by have := hb1.size; omega
  have hrl := RwAt.ofOwn64 hol Hl64.out
  have hrp := RwAt.ofOwnInt hop Hpin.out
  have hgl : vl.ownBlock ≠ some g := fun e => by have := (hrl.blk _ e).1; omega
  have hgp : vp.ownBlock ≠ some g := fun e => by have := (hrp.blk _ e).1; omega
  have Hbx := Lib.hid hbx
  have Hrl := Lib.hid hrl
  have Hrp := Lib.hid hrp
  have Hb02 := Lib.hid hb02
  have Hap := Lib.hid hap
  clear hbx hol hop hap hb2 hb1 hrl hrp hb02 Hmay Hbeg
  go_wp2_with fail
  have hbc0 := BoxAt.new_ 73 w2 (cellsOf (outK (gsum l) l.length 0))
  have hbx3 := Hbx.out.alloc (.cells (cellsOf (outK (gsum l) l.length 0)).toArray 73)
  have hrl3 := Hrl.out.alloc_ (.cells (cellsOf (outK (gsum l) l.length 0)).toArray 73)
  have hrp3 := Hrp.out.alloc_ (.cells (cellsOf (outK (gsum l) l.length 0)).toArray 73)
  have hb3 := Hb02.out.trans ((balloc w2 (.cells (cellsOf (outK (gsum l) l.length 0)).toArray 73)).mono hs2)
  have hlo : vl.ownBlock ≠ some w2.heap.size := fun e => by have := (Hrl.out.blk _ e).2; omega
  have hpo : vp.ownBlock ≠ some w2.heap.size := fun e => by have := (Hrp.out.blk _ e).2; omega
  have hgo : g ≠ w2.heap.size := by omega
  have hz3 : (w2.alloc (.cells (cellsOf (outK (gsum l) l.length 0)).toArray 73)).heap.size = w2.heap.size + 1 := by simp
  clear hmk Hbx Hrl Hrp Hb02
  generalize w2.alloc (.cells (cellsOf (outK (gsum l) l.length 0)).toArray 73) = w3 at *
  generalize w2.heap.size = go at *
  have Hbc0 := Lib.hid hbc0
  have Hbx3 := Lib.hid hbx3
  have Hrl3 := Lib.hid hrl3
  have Hrp3 := Lib.hid hrp3
  have Hb3 := Lib.hid hb3
  clear hbc0 hbx3 hrl3 hrp3 hb3
  go_loopw [24] (fun i wr => ∃ k : Nat, k ≤ l.length ∧ i = .int .i64 k ∧ BoxAt 73 wr go (cellsOf (outK (gsum l) l.length k)) ∧ BoxAt 160 wr g [.int .u64 (gsum l : Nat), vl, vp, .int .i64 0] ∧ RwAt 71 .u64 wr (g + 1) vl (bst0 l).left ∧ RwAt 3 .i64 wr (g + 1) vp (poorL (gsum l) (bst0 l).left) ∧ Below w.heap.size w wr ∧ go < wr.heap.size) (fun i _ => l.length - (intOf i).toNat)
  case atStart => exact ⟨0, by omega, rfl, Hbc0.out, Hbx3.out, Hrl3.out, Hrp3.out, Hb3.out, by omega⟩
  case round =>
    obtain ⟨k, hk, rfl, hbc, hbx, hrl, hrp, hbl, hgz⟩ := hrel
    have Hbc := Lib.hid hbc
    have Hbx := Lib.hid hbx
    have Hrl := Lib.hid hrl
    have Hrp := Lib.hid hrp
    have Hbl := Lib.hid hbl
    by_cases hlt : k < l.length
    · have hy0 := hbx.cell 0 _ rfl
      have hgk : (outK (gsum l) l.length k)[k]? = some ⟨0, 0⟩ := by unfold outK; rw [List.getElem?_map, List.getElem?_range hlt]; simp
      obtain ⟨hq0, hq1⟩ := cellsOf_get2 _ k _ hgk
      have hx0 := hbc.cell _ _ hq0
      have hx1 := hbc.cell _ _ hq1
      have hf0 := hbc.frozen (k * 2)
      have hf1 := hbc.frozen (k * 2 + 1)
      have hwk : IntKind.u32.wrap (k : Int) = (k : Int) := by rw [IntKind.wrap_u32']; omega
      clear hbc hbx hrl hrp hbl hq0 hq1 hgk
      go_wp2_with fail
      go_roundw
      case rel => exact ⟨k + 1, by omega, by go_num, by rw [← Hos.out k hlt]; exact Hbc.out.putCell k (mkC (gsum l) k) (by rw [outK_len]; exact hlt) _ _ (by rw [mkC_cut _ _ (by omega)]) (by rw [mkC_oth _ _ (by omega)]), (Hbx.out.other _ _ (fun e => hgo e.symm)).other _ _ (fun e => hgo e.symm), (Hrl.out.set_ _ _ hlo).set_ _ _ hlo, (Hrp.out.set_ _ _ hpo).set_ _ _ hpo, (Hbl.out.setCell (p := ⟨go, k * 2, none⟩) (by show w.heap.size ≤ go; omega) _).setCell (p := ⟨go, k * 2 + 1, none⟩) (by show w.heap.size ≤ go; omega) _, by simp [World.setCell]; exact hgz⟩
      case measure => simp [intOf]; omega
    · obtain rfl : k = l.length := by omega
      clear hbc hbx hrl hrp hbl
      rw [Hoa.out] at Hbc
      go_wp2_with fail
      go_step3
      go_wp2_with fail
      go_loopg [] l.length (fun gh wr => ∃ (k : Nat) (vp : Value) (rich : Nat), bad (gsum l) (brun (gsum l) k (bst0 l)).left ≤ gh ∧ k + bad (gsum l) (brun (gsum l) k (bst0 l)).left ≤ l.length ∧ BoxAt 160 wr g [.int .u64 (gsum l : Nat), vl, vp, .int .i64 (rich : Int)] ∧
        RwAt 71 .u64 wr (g + 1) vl (brun (gsum l) k (bst0 l)).left ∧ RwAt 3 .i64 wr (g + 1) vp (poorL (gsum l) (brun (gsum l) k (bst0 l)).left) ∧ Apart vl vp ∧ vp.ownBlock ≠ some g ∧ vp.ownBlock ≠ some go ∧
        BoxAt 73 wr go (cellsOf (brun (gsum l) k (bst0 l)).out) ∧ (∀ q, q < rich → (brun (gsum l) k (bst0 l)).left.getD q 0 ≤ gsum l) ∧ Below w.heap.size w wr ∧ go < wr.heap.size)
      case atStart =>
        have hb0 := bad_le (gsum l) (bst0 l).left
        have hb1 : (bst0 l).left.length = l.length := by simp [bst0]
        exact ⟨0, vp, 0, by show bad _ (bst0 l).left ≤ _; omega, by show 0 + bad _ (bst0 l).left ≤ _; omega, Hbx.out, Hrl.out, Hrp.out, Hap.out, hgp, hpo, Hbc.out, fun q hq => by omega, Hbl.out, hgz⟩
      case round =>
        clear Hbc Hbx Hrl Hrp Hbl hgz hgp hpo Hap
        obtain ⟨k, vp, rich, hgh, hkb, hbx, hrl, hrp, hap, hgp, hpo, hbc, hrk, hbl, hgz⟩ := hrel
        have hI := Hinv.out k
        rcases hI.turn with ⟨hp0, hst⟩ | ⟨i, j, r, hp, hi, hj, hiW, hjW, hst, hjk⟩
        · rw [hp0] at hrp
          obtain ⟨Ap, cp, rfl, hcp1, hcp2⟩ := hrp.form
          have hy2 := hbx.cell 2 _ rfl
          have hout := Hat.out k (by omega) hst
          rw [hout] at hbc
          have hol := hI.ol
          rw [hout] at hol
          have hown := hbc.ownC (base := w.heap.size) (by omega) (by rw [hol]; unfold maxLen; omega)
          rw [hol] at hown
          have Hown := Lib.hid hown
          have Hbl := Lib.hid hbl
          clear hbx hrl hrp hap hgp hpo hbc hrk hbl hI hst hp0 hout hol hown hkb hgh
          go_wp2_with fail
          rw [Exit.noGoto_ret]
          go_ret2
          exact ⟨_, rfl, Hown.out, Hbl.out⟩
        · rw [hp] at hrp
          have hnx := brun_succ _ k _ _ hst
          have hpp := poor_pay (gsum l) _ i j r hp (by rw [hI.ll]; exact hj) hjW
          have hbp := bad_pay (gsum l) _ i j (by rw [hI.ll]; exact hi) (by rw [hI.ll]; exact hj) hiW hjW
          have hpg := fun q => pay_get (gsum l) (brun (gsum l) k (bst0 l)).left i j q (by rw [hI.ll]; exact hi) (by rw [hI.ll]; exact hj)
          have hrr := poorL_rise (gsum l) (brun (gsum l) k (bst0 l)).left
          rw [hp, List.pairwise_cons] at hrr
          have hpl := poorL_len (gsum l) (brun (gsum l) k (bst0 l)).left
          rw [hp, hI.ll, List.length_cons] at hpl
          have hmx := hI.mx j hj
          have hmi := hI.mx i hi
          have hll := hI.ll
          have hol := hI.ol
          obtain ⟨Ap, cp, rfl, hcp1, hcp2⟩ := hrp.form
          have hrich : rich ≤ j := by
            apply Nat.le_of_not_lt
            intro hx
            have := hrk j hx
            omega
          have hz1 : (((r.length + 1 : Nat) : Int) == 0) = false := beq_eq_false_iff_ne.2 (by omega)
          have hz2 : ((r.length + 1) == 0) = false := beq_eq_false_iff_ne.2 (by omega)
          have hnxt := nextR_any wr g (gsum l) (g + 1) vl _ rich i r hbx hrp
          have hy2 := hbx.cell 2 _ rfl
          rw [List.length_cons] at hy2
          have Hbx := Lib.hid hbx
          have Hrl := Lib.hid hrl
          have Hbc := Lib.hid hbc
          have Hbl := Lib.hid hbl
          have Hnx := Lib.hid hnx
          have Hpp := Lib.hid hpp
          have Hpg := Lib.hid hpg
          have Hrr := Lib.hid hrr.2
          have Hjk := Lib.hid hjk
          have Hnxt := Lib.hid hnxt
          have Hap := Lib.hid hap
          have Hgp := Lib.hid hgp
          have Hpo := Lib.hid hpo
          clear hbx hrl hbc hbl hnx hpp hpg hrr hjk hnxt hap hgp hpo hI hp hst hrk hrp
          generalize brun (gsum l) k (bst0 l) = s at *
          go_wp2_with fail
          refine Hnxt.out.mono ?_
          rintro _ w4 ⟨rfl, vp4, rfl, hrp4, ho4⟩
          have hgp4 : vp4.ownBlock ≠ some g := fun e => Hgp.out (by rw [← ho4]; exact e)
          have hpo4 : vp4.ownBlock ≠ some go := fun e => Hpo.out (by rw [← ho4]; exact e)
          have hap4 : Apart vl vp4 := fun q hq e => Hap.out q hq (by rw [← ho4]; exact e)
          have hbx4 := Hbx.out.put 2 vp4
          have hrl4 := Hrl.out.set_ ⟨g, 2, none⟩ vp4 hgl
          have hrp4' := hrp4.set_ ⟨g, 2, none⟩ vp4 hgp4
          have hbc4 := Hbc.out.other ⟨g, 2, none⟩ vp4 hgo
          have hbl4 := Hbl.out.setCell (p := ⟨g, 2, none⟩) hgw vp4
          have hgz4 : go < (wr.setCell ⟨g, 2, none⟩ vp4).heap.size := by simp [World.setCell]; exact hgz
          clear Hbx Hrl Hbc Hbl hrp4 ho4 Hnxt hy2 hgz Hap Hgp Hpo
          obtain ⟨Al, cl, rfl, hcl1, hcl2⟩ := hrl4.form
          obtain ⟨_, b, off, rfl, hb1, hb2, hxi, hxf⟩ := hrl4.at_ i (s.left.getD i 0) (by rw [getD_get _ _ (by omega)]; exact List.getElem?_eq_getElem _)
          have hy1 := hbx4.cell 1 _ rfl
          have hP := give_any _ g (gsum l) (g + 1) l.length _ vp4 rich i j s.left r (fun q => q = g ∨ (Value.slice (some ⟨b, off, none⟩) s.left.length cl).ownBlock = some q ∨ vp4.ownBlock = some q) hbx4 hrl4 hrp4' hap4 hgl hgp4 (by omega) hll hl (by omega) hsum hi hj hiW hjW hmx hrich Hjk.out Hrr.out (Or.inl rfl) (fun q hq => Or.inr (Or.inl hq)) (fun q hq => Or.inr (Or.inr hq))
          have HP := Lib.hid hP
          have Hbc4 := Lib.hid hbc4
          have Hbl4 := Lib.hid hbl4
          have hblk4 := hrp4'.blk
          have hblkl := hrl4.blk
          have Hblk4 := Lib.hid hblk4
          have Hblkl := Lib.hid hblkl
          have Hgp4 := Lib.hid hgp4
          have Hpo4 := Lib.hid hpo4
          have Hap4 := Lib.hid hap4
          rw [hll] at hy1
          clear hP hbc4 hbl4 hbx4 hrl4 hrp4' hblk4 hblkl hgp4 hpo4 hap4
          have hiin : i < s.left.length := by omega
          unfold maxLen at hcl2
          generalize wr.setCell ⟨g, 2, none⟩ vp4 = w4 at *
          generalize hLI : s.left.getD i 0 = li at *
          have HLI := Lib.hid hLI
          clear hLI
          go_wp2_with fail
          refine HP.out.mono ?_
          rintro _ w5 ⟨rfl, vp5, hbx5, hrl5, hrp5, ho5, hc5⟩
          have hnP : ¬ (go = g ∨ (Value.slice (some ⟨b, off, none⟩) s.left.length cl).ownBlock = some go ∨ vp4.ownBlock = some go) := by
            rintro (e | e | e)
            · exact hgo e.symm
            · exact hlo e
            · exact Hpo4.out e
          have hbc5 := Hbc4.out.chg hc5 hnP
          have hbl5 := Hbl4.out.trans (hc5.below (B := w.heap.size) (by have := Hbl4.out.size; omega) (by
            rintro q (e | e | e)
            · omega
            · have := (Hblkl.out q e).1; omega
            · have := (Hblk4.out q e).1; omega))
          have hgz5 : go < w5.heap.size := Nat.lt_of_lt_of_le hgz4 hc5.size
          have hog5 : vp5.ownBlock ≠ some g := fun e => by
            rcases ho5 with h | ⟨q, h, h2⟩
            · exact Hgp4.out (by rw [← h]; exact e)
            · rw [h] at e; injection e with e; omega
          have hoo5 : vp5.ownBlock ≠ some go := fun e => by
            rcases ho5 with h | ⟨q, h, h2⟩
            · exact Hpo4.out (by rw [← h]; exact e)
            · rw [h] at e; injection e with e; omega
          have hap5 : Apart (Value.slice (some ⟨b, off, none⟩) s.left.length cl) vp5 := fun q hq e => by
            rcases ho5 with h | ⟨q', h, h2⟩
            · exact Hap4.out q hq (by rw [← h]; exact e)
            · rw [h] at e; injection e with e
              have := (Hblkl.out q hq).2
              omega
          have hgi : s.out[i]? = some s.out[i] := List.getElem?_eq_getElem (by omega)
          obtain ⟨hq0, hq1⟩ := cellsOf_get2 _ i _ hgi
          have hx0 := hbc5.cell _ _ hq0
          have hx1 := hbc5.cell _ _ hq1
          have hf0 := hbc5.frozen (i * 2)
          have hf1 := hbc5.frozen (i * 2 + 1)
          have hwk : IntKind.u32.wrap (j : Int) = (j : Int) := by rw [IntKind.wrap_u32']; omega
          generalize (s.out[i]).cut.toNat = oc at *
          generalize (s.out[i]).oth.toNat = oo at *
          have Hbx5 := Lib.hid hbx5
          have Hrl5 := Lib.hid hrl5
          have Hrp5 := Lib.hid hrp5
          have Hbc5 := Lib.hid hbc5
          have Hbl5 := Lib.hid hbl5
          have Hog5 := Lib.hid hog5
          have Hoo5 := Lib.hid hoo5
          have Hap5 := Lib.hid hap5
          clear hbx5 hrl5 hrp5 hbc5 hbl5 hog5 hoo5 hap5 ho5 hc5 hnP hq0 hq1 hgi Hbc4 Hbl4 Hblk4 Hblkl Hgp4 Hpo4 Hap4 HP hy1 hxi hxf
          go_wp2_with fail
          go_roundg (bad (gsum l) (pay (gsum l) s.left i j))
          case measure => omega
          case rel =>
            refine ⟨k + 1, vp5, j, ?_, ?_, ?_, ?_, ?_, Hap5.out, Hog5.out, Hoo5.out, ?_, ?_, ?_, ?_⟩
            · rw [Hnx.out]; exact Nat.le_refl _
            · rw [Hnx.out]; show k + 1 + bad _ (pay _ _ _ _) ≤ _; omega
            · exact (Hbx5.out.other ⟨go, i * 2, none⟩ _ (fun e => hgo e.symm)).other ⟨go, i * 2 + 1, none⟩ _ (fun e => hgo e.symm)
            · rw [Hnx.out]; exact (Hrl5.out.set_ ⟨go, i * 2, none⟩ _ hlo).set_ ⟨go, i * 2 + 1, none⟩ _ hlo
            · rw [Hnx.out]
              show RwAt _ _ _ _ _ (poorL (gsum l) (pay (gsum l) s.left i j))
              rw [Hpp.out]
              exact (Hrp5.out.set_ ⟨go, i * 2, none⟩ _ Hoo5.out).set_ ⟨go, i * 2 + 1, none⟩ _ Hoo5.out
            · rw [Hnx.out]
              have := Hbc5.out.putCell i (mkC li j) (by omega) _ _ (by rw [mkC_cut _ _ (by omega)]) (by rw [mkC_oth _ _ (by omega)])
              rw [← HLI.out] at this ⊢
              exact this
            · intro q hq
              rw [Hnx.out]
              show (pay (gsum l) s.left i j).getD q 0 ≤ _
              rw [Hpg.out]
              split
              · exact Nat.le_refl _
              · rw [if_neg (by omega)]
                exact Hjk.out q hq
            · exact (Hbl5.out.setCell (p := ⟨go, i * 2, none⟩) (by show w.heap.size ≤ go; omega) _).setCell (p := ⟨go, i * 2 + 1, none⟩) (by show w.heap.size ≤ go; omega) _
            · simp [World.setCell]; exact hgz5
end Go.Proofs.Ythfnikdapknohaa

namespace Go.Proofs.Ythfnikdapknohaa
set_option linter.unusedSimpArgs false
set_option linter.unusedVariables false
open Go.RowKit

def fst1 (W : Nat) (above : Bool) (xs : List Nat) : Option Nat := xs.findIdx? (if above = true then (fun x => decide (W < x)) else (fun x => decide (x < W)))
def fstV (o : Option Nat) : Value := match o with
  | some i => .tuple #[.int .i64 (i : Int), .bool true]
  | none => .tuple #[.int .i64 0, .bool false]

set_option maxRecDepth 100000 in
set_option maxHeartbeats 1600000 in
theorem rfirst_any (w : World) (base : Nat) (v : Value) (xs : List Nat) (W : Nat) (above : Bool) (hl : xs.length ≤ 4294967296) (h : RwAt 71 .u64 w base v xs) :
    Calls Try.prog 71 #[v, .int .u64 (W : Int), .bool above] w fun e w' => e = .returned (fstV (fst1 W above xs)) ∧ w = w' := by
  obtain ⟨A, c, rfl, hc1, hc2⟩ := h.form
  unfold maxLen at hc2
  have hyes : ∀ k (hk : k < xs.length), (∀ j (hj : j < k), (if above = true then decide (W < xs[j]) else decide (xs[j] < W)) = false) → (if above = true then decide (W < xs[k]) else decide (xs[k] < W)) = true → fst1 W above xs = some k := fun k hk h1 h2 => by
    unfold fst1
    rw [List.findIdx?_eq_some_iff_getElem]
    refine ⟨hk, ?_, fun j hj hp => ?_⟩
    · cases above <;> simpa using h2
    · have := h1 j hj
      cases above <;> simp at this hp <;> omega
  have hno : (∀ j (hj : j < xs.length), (if above = true then decide (W < xs[j]) else decide (xs[j] < W)) = false) → fst1 W above xs = none := fun h1 => by
    unfold fst1
    rw [List.findIdx?_eq_none_iff]
    intro x hx
    obtain ⟨k, hk, rfl⟩ := List.mem_iff_getElem.1 hx
    have := h1 k hk
    cases above <;> simpa using this
  have Hyes := Lib.hid hyes
  have Hno := Lib.hid hno
  clear hyes hno
  generalize fst1 W above xs = F at *
  cases above with
  | true =>
    go_enter Try.func71, Try.ntmps71
    go_wp2_with fail
    go_loop [11] (fun i => ∃ k : Nat, k ≤ xs.length ∧ i = .int .i64 k ∧ ∀ j (hj : j < k) (hjl : j < xs.length), decide (W < xs[j]) = false) (fun i => xs.length - (intOf i).toNat)
    case atStart => exact ⟨0, by omega, rfl, fun j hj => by omega⟩
    case round =>
      obtain ⟨k, hk, rfl, hall⟩ := hrel
      have Hall := Lib.hid hall
      clear hall
      by_cases hlt : k < xs.length
      · obtain ⟨_, b, off, rfl, hb1, hb2, hx, _⟩ := h.at_ k xs[k] (List.getElem?_eq_getElem hlt)
        have Hs : Hid (decide (W < xs[k]) = false → ∀ j (hj : j < k + 1) (hjl : j < xs.length), decide (W < xs[j]) = false) := fun he j hj hjl => by
          rcases Nat.lt_or_ge j k with h | h
          · exact Hall.out j h hjl
          · obtain rfl : j = k := by omega
            exact he
        have Hy : Hid (decide (W < xs[k]) = true → F = some k) := fun he => Hyes.out k hlt (fun j hj => by simpa using Hall.out j hj (by omega)) (by simpa using he)
        generalize xs[k] = y at *
        by_cases hd : W < y
        · have hd1 : decide (W < y) = true := decide_eq_true hd
          have e := Lib.hid (Hy.out hd1)
          go_wp2_with fail
          go_ret2
          rw [e.out]
          exact ⟨rfl, rfl⟩
        · have hd1 : decide (W < y) = false := decide_eq_false hd
          go_wp2_with fail
          go_round
          case rel => exact ⟨k + 1, by omega, by go_num, Hs.out hd1⟩
          case measure => simp [intOf]; omega
      · obtain rfl : k = xs.length := by omega
        have e := Lib.hid (Hno.out (fun j hj => by simpa using Hall.out j hj hj))
        go_wp2_with fail
        go_ret2
        rw [e.out]
        exact ⟨rfl, rfl⟩
  | false =>
    go_enter Try.func71, Try.ntmps71
    go_wp2_with fail
    go_loop [11] (fun i => ∃ k : Nat, k ≤ xs.length ∧ i = .int .i64 k ∧ ∀ j (hj : j < k) (hjl : j < xs.length), decide (xs[j] < W) = false) (fun i => xs.length - (intOf i).toNat)
    case atStart => exact ⟨0, by omega, rfl, fun j hj => by omega⟩
    case round =>
      obtain ⟨k, hk, rfl, hall⟩ := hrel
      have Hall := Lib.hid hall
      clear hall
      by_cases hlt : k < xs.length
      · obtain ⟨_, b, off, rfl, hb1, hb2, hx, _⟩ := h.at_ k xs[k] (List.getElem?_eq_getElem hlt)
        have Hs : Hid (decide (xs[k] < W) = false → ∀ j (hj : j < k + 1) (hjl : j < xs.length), decide (xs[j] < W) = false) := fun he j hj hjl => by
          rcases Nat.lt_or_ge j k with h | h
          · exact Hall.out j h hjl
          · obtain rfl : j = k := by omega
            exact he
        have Hy : Hid (decide (xs[k] < W) = true → F = some k) := fun he => Hyes.out k hlt (fun j hj => by simpa using Hall.out j hj (by omega)) (by simpa using he)
        generalize xs[k] = y at *
        by_cases hd : y < W
        · have hd1 : decide (y < W) = true := decide_eq_true hd
          have e := Lib.hid (Hy.out hd1)
          go_wp2_with fail
          go_ret2
          rw [e.out]
          exact ⟨rfl, rfl⟩
        · have hd1 : decide (y < W) = false := decide_eq_false hd
          go_wp2_with fail
          go_round
          case rel => exact ⟨k + 1, by omega, by go_num, Hs.out hd1⟩
          case measure => simp [intOf]; omega
      · obtain rfl : k = xs.length := by omega
        have e := Lib.hid (Hno.out (fun j hj => by simpa using Hall.out j hj hj))
        go_wp2_with fail
        go_ret2
        rw [e.out]
        exact ⟨rfl, rfl⟩
end Go.Proofs.Ythfnikdapknohaa

namespace Go.Proofs.Ythfnikdapknohaa
set_option linter.unusedSimpArgs false
set_option linter.unusedVariables false
open Go.RowKit

/-- a row of cells of one's own, with spare room -/
def CRow (w : World) (base : Nat) (v : Value) (out : List GCell) : Prop :=
  ∃ g c sp, v = .slice (some ⟨g, 0, none⟩) out.length c ∧ base ≤ g ∧ out.length ≤ c ∧ c ≤ maxLen ∧ BoxAt 73 w g (cellsOf out ++ sp) ∧ (cellsOf out ++ sp).length = c * 2
theorem CRow.ofOwn {w : World} {base : Nat} {v : Value} {out : List GCell} (h : OwnF 73 cCell w base v out) (h0 : 0 < out.length) : CRow w base v out := by
  obtain ⟨css, hl, ⟨hlen, hv⟩, h3, _⟩ := h
  have hcs : css = out.map fun a => [Value.int .u64 (a.cut.toNat : Int), .int .u32 (a.oth.toNat : Int)] := by
    apply List.ext_getElem (by simpa using hl)
    intro i h1 h2
    obtain ⟨e, _⟩ := h3 i css[i] out[i] (List.getElem?_eq_getElem h1) (List.getElem?_eq_getElem (by omega))
    rw [e]
    simp
  rcases hv with ⟨rfl, hn⟩ | ⟨g, cap, cur, rfl, hb, hh, h1, h2, hs, ht⟩
  · omega
  · rw [hcs, ← cellsOf_flat] at ht
    have e : cellsOf out ++ cur.toList.drop (out.length * cCell.n) = cur.toList := by rw [← ht]; exact List.take_append_drop _ _
    refine ⟨g, cap, cur.toList.drop (out.length * cCell.n), rfl, hb, h1, h2, ?_, ?_⟩
    · rw [e]; exact hh
    · rw [e]; rw [Array.length_toList]; exact hs
theorem CRow.own {w : World} {base : Nat} {v : Value} {out : List GCell} (h : CRow w base v out) : OwnF 73 cCell w base v out := by
  obtain ⟨g, c, sp, rfl, h1, h2, h3, h4, h5⟩ := h
  refine ⟨out.map fun a => [Value.int .u64 (a.cut.toNat : Int), .int .u32 (a.oth.toNat : Int)], by simp, ⟨?_, .inr ⟨g, c, (cellsOf out ++ sp).toArray, rfl, h1, h4, h2, h3, ?_, ?_⟩⟩, ?_, fun _ h => h.elim⟩
  · rw [← cellsOf_flat, cellsOf_len]; rfl
  · rw [List.size_toArray, h5]; rfl
  · rw [← cellsOf_flat]
    show List.take (out.length * 2) (cellsOf out ++ sp) = cellsOf out
    rw [← cellsOf_len, List.take_left]
  · intro i cs x hc hx
    rw [List.getElem?_map, hx] at hc
    injection hc with hc
    exact ⟨hc.symm, trivial⟩
theorem CRow.blk {w : World} {base : Nat} {v : Value} {out : List GCell} (h : CRow w base v out) : ∃ g, v.ownBlock = some g ∧ base ≤ g ∧ g < w.heap.size := by
  obtain ⟨g, c, sp, rfl, h1, h2, h3, h4, h5⟩ := h
  exact ⟨g, rfl, h1, h4.lt⟩
theorem CRow.form {w : World} {base : Nat} {A : Option Addr} {n c : Nat} {out : List GCell} (h : CRow w base (.slice A n c) out) : ∃ g, A = some ⟨g, 0, none⟩ ∧ n = out.length ∧ out.length ≤ c ∧ c ≤ maxLen := by
  obtain ⟨g, c', sp, e, h1, h2, h3, h4, h5⟩ := h
  injection e with e1 e2 e3
  subst e3
  exact ⟨g, e1, e2, h2, h3⟩
theorem CRow.drew_ {w : World} {base : Nat} {v : Value} {out : List GCell} (h : CRow w base v out) : CRow w.drew base v out := h
theorem CRow.set_ {w : World} {base : Nat} {v : Value} {out : List GCell} (h : CRow w base v out) (p : Addr) (u : Value) (hne : v.ownBlock ≠ some p.block) : CRow (w.setCell p u) base v out := by
  obtain ⟨g, c, sp, rfl, h1, h2, h3, h4, h5⟩ := h
  exact ⟨g, c, sp, rfl, h1, h2, h3, h4.other p u (fun e => hne (by rw [e]; rfl)), h5⟩
theorem CRow.put {w : World} {base g n c : Nat} {out : List GCell} (h : CRow w base (.slice (some ⟨g, 0, none⟩) n c) out) (k : Nat) (x : GCell) (hk : k < out.length) (a b : Int) (ha : a = (x.cut.toNat : Int)) (hb : b = (x.oth.toNat : Int)) :
    CRow ((w.setCell ⟨g, k * 2, none⟩ (.int .u64 a)).setCell ⟨g, k * 2 + 1, none⟩ (.int .u32 b)) base (.slice (some ⟨g, 0, none⟩) n c) (out.set k x) := by
  obtain ⟨g', c', sp, e, h1, h2, h3, h4, h5⟩ := h
  injection e with e1 e2 e3
  injection e1 with e1; injection e1 with e1 _ _
  subst e1; subst e2; subst e3; subst ha; subst hb
  have hb2 := (h4.put (k * 2) (.int .u64 (x.cut.toNat : Int))).put (k * 2 + 1) (.int .u32 (x.oth.toNat : Int))
  have hkl : k * 2 + 1 < (cellsOf out).length := by rw [cellsOf_len]; omega
  rw [List.set_append_left _ _ (by omega), List.set_append_left _ _ (by rw [List.length_set]; omega), cellsOf_set out k x hk] at hb2
  refine ⟨g, c, sp, by rw [List.length_set], h1, by rw [List.length_set]; exact h2, h3, hb2, ?_⟩
  rw [List.length_append, cellsOf_len, List.length_set, ← h5, List.length_append, cellsOf_len]
theorem CRow.get {w : World} {base g n c : Nat} {out : List GCell} (h : CRow w base (.slice (some ⟨g, 0, none⟩) n c) out) (k : Nat) (hk : k < out.length) :
    w.cell? ⟨g, k * 2, none⟩ = some (.int .u64 ((out[k]).cut.toNat : Int)) ∧ w.cell? ⟨g, k * 2 + 1, none⟩ = some (.int .u32 ((out[k]).oth.toNat : Int)) ∧ w.frozen? ⟨g, k * 2, none⟩ = false ∧ w.frozen? ⟨g, k * 2 + 1, none⟩ = false := by
  obtain ⟨g', c', sp, e, h1, h2, h3, h4, h5⟩ := h
  injection e with e1 e2 e3
  injection e1 with e1; injection e1 with e1 _ _
  subst e1
  obtain ⟨hq0, hq1⟩ := cellsOf_get2 out k _ (List.getElem?_eq_getElem hk)
  have hkl : k * 2 + 1 < (cellsOf out).length := by rw [cellsOf_len]; omega
  exact ⟨h4.cell _ _ (by rw [List.getElem?_append_left (by omega)]; exact hq0), h4.cell _ _ (by rw [List.getElem?_append_left (by omega)]; exact hq1), h4.frozen _, h4.frozen _⟩
theorem lefts_get (l : List GArc) (k : Nat) (hk : k < l.length) : ∃ p : UInt64, lefts l (k + 1) = lefts l k ++ [p] ∧ p = UInt64.ofNat (left0 l k) := ⟨_, lefts_succ l k, rfl⟩
theorem infoCell2 : (Try.prog.info? 73).map (fun i => (i.zero, i.size, i.bytes)) = some (some (.agg #[.int .u64 0, .int .u32 0]), cCell.n, 16) := by kernel_rfl

set_option maxRecDepth 100000 in
set_option maxHeartbeats 3200000 in
theorem rbuild_any (w : World) (B : Nat) (v : Value) (l : List GArc) (hl : l.length ≤ 1048576) (h : ByA w B v l) (hB : B ≤ w.heap.size) (hn : nbrs l = true) :
    Calls Try.prog 35 #[v] w fun e w' => ∃ vo, e = .returned vo ∧ OwnF 73 cCell w' w.heap.size vo (btab l) ∧ Below w.heap.size w w' := by
  obtain ⟨A, c, rfl, hc1, hc2⟩ := h.form
  unfold maxLen at hc2
  unfold nbrs at hn
  rw [Bool.and_eq_true, decide_eq_true_eq] at hn
  obtain ⟨h0, hgm⟩ := hn
  have hsum := gmay_sum hgm
  have hrs := rgsum_any w B (.slice A l.length c) l (by omega) h
  have hinv := brun_inv l hl hsum
  have hl64 := lefts_nat l hl
  have hat := btab_at l
  have hls := lefts_succ l
  have hll := lefts_len l
  have Hrs := Lib.hid hrs
  have Hinv := Lib.hid hinv
  have Hl64 := Lib.hid hl64
  have Hat := Lib.hid hat
  have Hls := Lib.hid hls
  have Hll := Lib.hid hll
  clear hrs hinv hl64 hat hgm hls hll
  go_enter Try.func35, Try.ntmps35
  go_wp2_with fail
  refine Hrs.out.mono ?_
  rintro _ _ ⟨rfl, rfl⟩
  go_wp2_with fail
  have hoa0 := OwnR.new_ (E := 71) (C := c64) (S := fun _ => False) w (xs := []) [] rfl (by simp [maxLen]) (fun i cs x hc hx => by simp at hc) (fun _ h => h.elim)
  have hob0 := OwnR.new_ (E := 73) (C := cCell) (S := fun _ => False) (w.alloc (.cells #[] 71)) (xs := []) [] rfl (by simp [maxLen]) (fun i cs x hc hx => by simp at hc) (fun _ h => h.elim)
  have hoa1 := hoa0.alloc (.cells #[] 73)
  have hob1 : OwnF 73 cCell ((w.alloc (.cells #[] 71)).alloc (.cells #[] 73)) w.heap.size (.slice (some ⟨w.heap.size + 1, 0, none⟩) 0 0) [] := by
    have := hob0.more (base' := w.heap.size) (by simp)
    rw [World.size_alloc] at this
    exact this
  have hb0 := bstep (balloc w (.cells #[] 71)) (balloc (w.alloc (.cells #[] 71)) (.cells #[] 73))
  have Hoa1 := Lib.hid hoa1
  have Hob1 := Lib.hid hob1
  have Hb0 := Lib.hid hb0
  clear hoa0 hob0 hoa1 hob1 hb0
  go_loopw [4, 5, 18] (fun a b i wr => ∃ k : Nat, k ≤ l.length ∧ i = .int .i64 k ∧ OwnF 71 c64 wr w.heap.size a (lefts l k) ∧ OwnF 73 cCell wr w.heap.size b ((List.range k).map (mkC (gsum l))) ∧ Apart a b ∧ Below w.heap.size w wr) (fun _ _ i _ => l.length - (intOf i).toNat)
  case atStart => exact ⟨0, by omega, rfl, Hoa1.out, Hob1.out, fun q hq e => by simp [Value.ownBlock] at hq e; omega, Hb0.out⟩
  case round =>
    clear Hoa1 Hob1 Hb0
    obtain ⟨k, hk, rfl, hoa, hob, hap, hbl⟩ := hrel
    obtain ⟨Aa, ca, rfl, ha1, ha2, hz1⟩ := hoa.form'
    obtain ⟨Ab, cb, rfl, hb1, hb2, hz2⟩ := hob.form'
    clear hz1 hz2
    have elen : ((List.range k).map (mkC (gsum l))).length = k := by simp
    rw [elen] at hb1 hob hap
    have Helen := Lib.hid elen
    clear elen
    rw [Hll.out] at ha1
    have hsz := hbl.size
    have Hoa := Lib.hid hoa
    have Hob := Lib.hid hob
    have Hap := Lib.hid hap
    have Hbl := Lib.hid hbl
    by_cases hlt : k < l.length
    · obtain ⟨ad, rfl, hab, hx0, hx1⟩ := (h.below (hbl.mono hB)).cells k hlt
      have hwt := u32_lt (l[k]).wt
      have hl0 : left0 l k = l.length * (l[k]).wt.toNat := by unfold left0; rw [List.getElem?_eq_getElem hlt]; rfl
      have hm2 : l.length * (l[k]).wt.toNat ≤ 1048576 * 4294967295 := Nat.mul_le_mul (by omega) (by omega)
      have hmul : IntKind.u64.wrap ((l.length : Int) * ((l[k]).wt.toNat : Int)) = ((l.length * (l[k]).wt.toNat : Nat) : Int) := by
        rw [← Int.natCast_mul, wrap_u64]; omega
      have hlsk := Hls.out k
      rw [hl0] at hlsk
      have hwk : IntKind.u32.wrap (k : Int) = (k : Int) := by rw [IntKind.wrap_u32']; omega
      have Hlsk := Lib.hid hlsk
      clear hl0 hlsk hoa hob hap hbl
      generalize (l[k]).to.toNat = to at *
      generalize (l[k]).wt.toNat = wt at *
      generalize hP : l.length * wt = p at *
      clear hP
      have hp64 : (UInt64.ofNat p).toNat = p := by rw [UInt64.toNat_ofNat']; omega
      have Hp64 := Lib.hid hp64
      clear hp64
      go_wp2_with (first
                   | (at_builtin
                      refine wpList_app1R rfl (.tmp 21) (.tmp 32) 133 rfl Try.underlying133 info64' rfl (by decide) (by decide) (y := UInt64.ofNat p) [.int .u64 (p : Int)] Hoa.out ⟨by simp only [Hp64.out], trivial⟩ rfl rfl (by rw [Hll.out]; omega) (by omega) ?_
                      intro v4 w4 hown4 hext4
                      have Hob4 := Lib.hid (Hob.out.keep hext4.gr Hap.out.symm.ne (fun _ h => h.elim))
                      have Hap4 := Lib.hid (Hap.out.symm.ext hext4 (fun q hq => (Hob.out.blk q hq).2))
                      have Hb4 := Lib.hid (hext4.below (B := w.heap.size) (by omega) fun q hq => (Hoa.out.blk q hq).1)
                      have hs4 := hext4.gr.size
                      obtain ⟨A4, c4, rfl, _, _, _⟩ := hown4.form'
                      have Hown4 := Lib.hid hown4
                      clear hown4 hext4 Hoa)
                   | (at_builtin
                      refine wpList_app1R rfl (.tmp 34) (.tmp 39) 66 rfl Try.underlying66 infoCell2 rfl (by decide) (by decide) (y := mkC (gsum l) k) [.int .u64 (gsum l : Nat), .int .u32 (k : Int)] Hob4.out ⟨by show _ = [Value.int .u64 ((mkC (gsum l) k).cut.toNat : Int), .int .u32 ((mkC (gsum l) k).oth.toNat : Int)]; rw [mkC_cut _ _ (by omega), mkC_oth _ _ (by omega)], trivial⟩ rfl rfl (by rw [Helen.out]; omega) (by omega) ?_
                      intro v5 w5 hown5 hext5))
      have hoa5 := Hown4.out.keep hext5.gr Hap4.out.symm.ne (fun _ h => h.elim)
      have hap5 := (Hap4.out.symm.ext hext5 (fun q hq => (Hown4.out.blk q hq).2))
      have hb5 := hext5.below (B := w.heap.size) (by omega) fun q hq => (Hob4.out.blk q hq).1
      obtain ⟨A5, c5, rfl, _, _, _⟩ := hown5.form'
      have e4 : (lefts l k ++ [UInt64.ofNat p]).length = (lefts l k).length + 1 := by simp
      rw [e4] at hoa5 hap5
      go_roundw
      case rel => exact ⟨k + 1, by omega, by go_num, by rw [Hlsk.out]; exact hoa5, by rw [List.range_succ, List.map_append]; exact hown5, hap5, (Hbl.out.trans Hb4.out).trans hb5⟩
      case measure => simp [intOf]; omega
    · obtain rfl : k = l.length := by omega
      have hra := RwAt.ofOwn64 hoa Hl64.out
      have hrb := CRow.ofOwn hob (by simp; omega)
      have hra' : RwAt 71 .u64 wr w.heap.size (.slice Aa (lefts l l.length).length ca) (bst0 l).left := hra
      have hrb' : CRow wr w.heap.size (.slice Ab l.length cb) (bst0 l).out := hrb
      have Hra := Lib.hid hra'
      have Hrb := Lib.hid hrb'
      clear hra hrb hra' hrb' hoa hob hap hbl Hoa Hob
      rw [Hll.out] at Hra Hap ⊢
      rw [show ((List.range l.length).map (mkC (gsum l))).length = l.length from by simp]
      obtain ⟨g, rfl, hq9, hcb1, hcb2⟩ := Hrb.out.form
      rw [← hq9] at hcb1
      clear hq9
      unfold maxLen at hcb2
      go_wp2_with fail
      go_loopw [7] (fun i wt => ∃ k : Nat, k ≤ l.length + 1 ∧ i = .int .i64 k ∧ RwAt 71 .u64 wt w.heap.size (.slice Aa l.length ca) (brun (gsum l) k (bst0 l)).left ∧ CRow wt w.heap.size (.slice (some ⟨g, 0, none⟩) l.length cb) (brun (gsum l) k (bst0 l)).out ∧ Below w.heap.size w wt) (fun i _ => l.length + 1 - (intOf i).toNat)
      case atStart => exact ⟨0, by omega, rfl, Hra.out, Hrb.out, Hbl.out⟩
      case round =>
        clear Hra Hrb
        obtain ⟨k, hk, rfl, hra, hrb, hbw⟩ := hrel
        have Hra := Lib.hid hra
        have Hrb := Lib.hid hrb
        have Hbw := Lib.hid hbw
        have hI := Hinv.out k
        by_cases hk1 : k ≤ l.length
        · have hdk : decide (k ≤ l.length) = true := decide_eq_true hk1
          have hf1 := rfirst_any wr w.heap.size _ _ (gsum l) false (by rw [hI.ll]; omega) hra
          have hf2 := rfirst_any wr w.heap.size _ _ (gsum l) true (by rw [hI.ll]; omega) hra
          rcases hI.turn with ⟨hp0, hst⟩ | ⟨i, j, r, hp, hi, hj, hiW, hjW, hst, hjk⟩
          · have e1 : fst1 (gsum l) false (brun (gsum l) k (bst0 l)).left = none := by unfold fst1; exact poor_none _ _ hp0
            rw [e1] at hf1
            simp only [fstV] at hf1
            have hout := Hat.out k (by omega) hst
            have hown := hrb.own
            rw [hout] at hown
            have Hown := Lib.hid hown
            generalize fst1 (gsum l) true (brun (gsum l) k (bst0 l)).left = F2 at *
            clear hra hrb hbw hI hp0 hst e1 hout hown Hra Hrb
            cases F2
            all_goals
              simp only [fstV] at hf2
              have Hf2 := Lib.hid hf2
              clear hf2
              go_wp2_with fail
              refine hf1.mono ?_
              rintro _ _ ⟨rfl, rfl⟩
              go_wp2_with fail
              refine Hf2.out.mono ?_
              rintro _ _ ⟨rfl, rfl⟩
              go_wp2_with fail
              go_ret
              exact ⟨_, rfl, Hown.out, Hbw.out⟩
          · have e1 : fst1 (gsum l) false (brun (gsum l) k (bst0 l)).left = some i := by unfold fst1; exact (poor_head _ _ i r hp).1
            have e2 : fst1 (gsum l) true (brun (gsum l) k (bst0 l)).left = some j := by unfold fst1; exact rich_at _ _ j (by rw [hI.ll]; exact hj) hjW hjk
            rw [e1] at hf1
            rw [e2] at hf2
            simp only [fstV] at hf1 hf2
            have hnx := brun_succ _ k _ _ hst
            have hll := hI.ll
            have hol := hI.ol
            have hmx := hI.mx j hj
            have hmi := hI.mx i hi
            have Hnx := Lib.hid hnx
            have Hf2 := Lib.hid hf2
            obtain ⟨hz8, b, off, rfl, hb1, hb2, hxj, hxf⟩ := hra.at_ j ((brun (gsum l) k (bst0 l)).left.getD j 0) (by rw [getD_get _ _ (by omega)]; exact List.getElem?_eq_getElem _)
            obtain ⟨hz9, b', off', e, _, _, hxi, hxfi⟩ := hra.at_ i ((brun (gsum l) k (bst0 l)).left.getD i 0) (by rw [getD_get _ _ (by omega)]; exact List.getElem?_eq_getElem _)
            injection e with e; injection e with e1' e2' _
            subst e1'; subst e2'
            have hbg : b ≠ g := fun e => Hap.out b rfl (by rw [e]; rfl)
            obtain ⟨hy0, hy1, hg0, hg1⟩ := hrb.get i (by omega)
            have hij : i ≠ j := fun e => by subst e; omega
            generalize ((brun (gsum l) k (bst0 l)).out[i]).cut.toNat = c0 at *
            generalize ((brun (gsum l) k (bst0 l)).out[i]).oth.toNat = c1 at *
            clear hra hrb hbw hI hp hst e1 e2 hjk hf2 hnx
            generalize hS : brun (gsum l) k (bst0 l) = s at *
            generalize hLI : s.left.getD i 0 = li at *
            generalize hLJ : s.left.getD j 0 = lj at *
            have HLI := Lib.hid hLI
            have HLJ := Lib.hid hLJ
            have hwj : IntKind.u32.wrap (j : Int) = (j : Int) := by rw [IntKind.wrap_u32']; omega
            have hs1 : IntKind.u64.wrap ((gsum l : Int) - (li : Int)) = ((gsum l - li : Nat) : Int) := by rw [wrap_u64]; omega
            have hs2 : IntKind.u64.wrap ((lj : Int) - ((gsum l - li : Nat) : Int)) = ((lj - (gsum l - li) : Nat) : Int) := by rw [wrap_u64]; omega
            have hs3 : IntKind.u64.wrap ((lj : Int) - IntKind.u64.wrap ((gsum l : Int) - (li : Int))) = ((lj - (gsum l - li) : Nat) : Int) := by rw [hs1, hs2]
            clear hS hLI hLJ hz8 hz9
            go_wp2_with fail
            refine hf1.mono ?_
            rintro _ _ ⟨rfl, rfl⟩
            go_wp2_with fail
            refine Hf2.out.mono ?_
            rintro _ _ ⟨rfl, rfl⟩
            go_wp2_with fail
            have hgw : w.heap.size ≤ g := by
              obtain ⟨q, e, h1, _⟩ := Hrb.out.blk
              have e : g = q := Option.some.inj e
              omega
            have hbw1 := (Hbw.out.setCell (p := ⟨g, i * 2, none⟩) hgw (.int .u64 (li : Int))).setCell (p := ⟨g, i * 2 + 1, none⟩) hgw (.int .u32 (j : Int))
            have hrb1 := Hrb.out.put i (mkC li j) (by omega) (li : Int) (j : Int) (by rw [mkC_cut _ _ (by omega)]) (by rw [mkC_oth _ _ (by omega)])
            have hra1 := (Hra.out.set_ ⟨g, i * 2, none⟩ (.int .u64 (li : Int)) (fun e => hbg (by injection e))).set_ ⟨g, i * 2 + 1, none⟩ (.int .u32 (j : Int)) (fun e => hbg (by injection e))
            have Hbw1 := Lib.hid hbw1
            have Hrb1 := Lib.hid hrb1
            have Hra1 := Lib.hid hra1
            clear hbw1 hrb1 hra1 hxi hxfi hxj hxf hy0 hy1 hg0 hg1 Hra Hrb Hbw hb2
            generalize ((wr.setCell ⟨g, i * 2, none⟩ (.int .u64 (li : Int))).setCell ⟨g, i * 2 + 1, none⟩ (.int .u32 (j : Int))) = w1 at *
            obtain ⟨hz8, b', off', e, _, hb2, hxj, hxf⟩ := Hra1.out.at_ j lj (by rw [List.getElem?_eq_getElem (by omega), ← HLJ.out, getD_get _ _ (by omega)])
            injection e with e; injection e with e1' e2' _
            subst e1'; subst e2'
            obtain ⟨hz9, b', off', e, _, _, hxi, hxfi⟩ := Hra1.out.at_ i li (by rw [List.getElem?_eq_getElem (by omega), ← HLI.out, getD_get _ _ (by omega)])
            injection e with e; injection e with e1' e2' _
            subst e1'; subst e2'
            clear hz8 hz9
            go_region
            have hra2 := (Hra1.out.put j (lj - (gsum l - li)) (by omega)).drew_
            have hrb2 := (Hrb1.out.set_ ⟨b, off + j, none⟩ (.int .u64 ((lj - (gsum l - li) : Nat) : Int)) (fun e => hbg (Option.some.inj e).symm)).drew_
            have hbw2 := (Hbw1.out.setCell (p := ⟨b, off + j, none⟩) hb1 (.int .u64 ((lj - (gsum l - li) : Nat) : Int))).drew
            have Hra2 := Lib.hid hra2
            have Hrb2 := Lib.hid hrb2
            have Hbw2 := Lib.hid hbw2
            clear hra2 hrb2 hbw2 hxi hxfi hxj hxf Hra1 Hrb1 Hbw1 hb2 hs1 hs2 hs3
            generalize (w1.setCell ⟨b, off + j, none⟩ (.int .u64 ((lj - (gsum l - li) : Nat) : Int))).drew = w2 at *
            obtain ⟨hz9, b', off', e, _, _, hxi, hxfi⟩ := Hra2.out.at_ i li (by rw [List.getElem?_set, if_neg (fun e => hij e.symm), List.getElem?_eq_getElem (by omega), ← HLI.out, getD_get _ _ (by omega)])
            injection e with e; injection e with e1' e2' _
            subst e1'; subst e2'
            clear hz9
            go_wp2_with fail
            go_roundw
            case rel =>
              refine ⟨k + 1, by omega, by go_num, ?_, ?_, Hbw2.out.setCell (p := ⟨b, off + i, none⟩) hb1 _⟩
              · rw [Hnx.out]
                have := Hra2.out.put i (gsum l) (by rw [List.length_set]; omega)
                have hpay : (s.left.set j (lj - (gsum l - li))).set i (gsum l) = pay (gsum l) s.left i j := by unfold pay; rw [HLI.out, HLJ.out]
                rw [hpay] at this
                exact this
              · rw [Hnx.out]
                exact Hrb2.out.set_ ⟨b, off + i, none⟩ _ (fun e => hbg (Option.some.inj e).symm)
            case measure => simp [intOf]; omega
        · have hdk : decide (k ≤ l.length) = false := decide_eq_false hk1
          obtain rfl : k = l.length + 1 := by omega
          have hown : OwnF 73 cCell wr w.heap.size _ (btab l) := hrb.own
          have Hown := Lib.hid hown
          clear hra hrb hbw hI hown Hra Hrb
          go_wp2_with fail
          go_ret
          exact ⟨_, rfl, Hown.out, Hbw.out⟩
end Go.Proofs.Ythfnikdapknohaa

namespace Go.Proofs.Ythfnikdapknohaa
set_option linter.unusedSimpArgs false
set_option linter.unusedVariables false
open Go.RowKit

/-- n cells are read; W: the most a cut may be; most: the most another may be -/
def cget (W most : Nat) : Nat → List GCell → List UInt8 → Int → List GCell × List UInt8 × Int
  | 0, acc, s, e => (acc, s, e)
  | n + 1, acc, s, e =>
    if (numS most (numS W s e).2.1 (numS W s e).2.2).2.2 ≠ 0 then ([], (numS most (numS W s e).2.1 (numS W s e).2.2).2.1, (numS most (numS W s e).2.1 (numS W s e).2.2).2.2)
    else cget W most n (acc ++ [mkC (numS W s e).1 (numS most (numS W s e).2.1 (numS W s e).2.2).1]) (numS most (numS W s e).2.1 (numS W s e).2.2).2.1 0
def lenOf : Value → Nat
  | .slice _ n _ => n
  | _ => 0

set_option maxRecDepth 100000 in
set_option maxHeartbeats 3200000 in
theorem aget_any (w : World) (g d W : Nat) (s : List UInt8) (e : Int) (hW : W < 18446744073709551616) (hd : d ≤ 1073741824) (h : RdrAt w g s e) :
    Calls Try.prog 81 #[.pointer (some ⟨g, 0, none⟩), .int .i64 (d : Int), .int .u64 (W : Int)] w fun ev w' => ∃ vo, ev = .returned vo ∧ OwnF 73 cCell w' w.heap.size vo (cget W (min (d - 1) 4294967295) d [] s e).1 ∧
      RdrAt w' g (cget W (min (d - 1) 4294967295) d [] s e).2.1 (cget W (min (d - 1) 4294967295) d [] s e).2.2 ∧ w.grownBy w' (some g) := by
  have hg := h.lt
  generalize hR : cget W (min (d - 1) 4294967295) d [] s e = R at *
  have HR := Lib.hid hR
  have H := Lib.hid h
  clear hR h
  go_enter Try.func81, Try.ntmps81
  go_wp2_with fail
  go_loopw [7] (fun o wr => ∃ (acc : List GCell) (s' : List UInt8) (e' : Int), OwnF 73 cCell wr w.heap.size o acc ∧ acc.length ≤ d ∧ RdrAt wr g s' e' ∧ w.grownBy wr (some g) ∧ cget W (min (d - 1) 4294967295) (d - acc.length) acc s' e' = R) (fun o _ => d - lenOf o)
  case atStart => exact ⟨[], s, e, OwnF.nil_ _ _, by simp, H.out, grefl w _, HR.out⟩
  case round =>
    obtain ⟨acc, s', e', hown, hlen, hrd, hgr, hcg⟩ := hrel
    obtain ⟨A, c, rfl, hc1, hc2, hc3⟩ := hown.form'
    clear hc3
    have hsz := hgr.size
    have Hown := Lib.hid hown
    have Hgr := Lib.hid hgr
    by_cases hlt : acc.length < d
    · obtain ⟨n, hn⟩ : ∃ n, d - acc.length = n + 1 := ⟨d - acc.length - 1, by omega⟩
      rw [hn, cget] at hcg
      have h1 := numS_lt W s' e'
      have hN1 := vnum_any wr g s' e' W hW hrd
      generalize numS W s' e' = P1 at *
      obtain ⟨a, s1, e1⟩ := P1
      simp only at hcg h1 hN1
      have h2 := numS_lt (min (d - 1) 4294967295) s1 e1
      have hN2 := fun w' h => vnum_any w' g s1 e1 (min (d - 1) 4294967295) (by omega) h
      generalize numS (min (d - 1) 4294967295) s1 e1 = P2 at *
      obtain ⟨b, s2, e2⟩ := P2
      simp only at hcg h2 hN2
      have HN1 := Lib.hid hN1
      have HN2 := Lib.hid hN2
      have Hcg := Lib.hid hcg
      have hbb : b ≤ 4294967295 := by have := h2.2; omega
      obtain ⟨ha, _⟩ := h1
      have hmin : min ((d : Int) - 1) 4294967295 = ((min (d - 1) 4294967295 : Nat) : Int) := by omega
      have hsub : IntKind.u64.wrap ((d : Int) - 1) = (d : Int) - 1 := by rw [wrap_u64]; omega
      have hw32 : IntKind.u32.wrap (b : Int) = (b : Int) := by rw [IntKind.wrap_u32']; omega
      clear hown hrd hgr hcg hN1 hN2 h2
      generalize min (d - 1) 4294967295 = most at *
      go_wp2_with fail
      refine HN1.out.mono ?_
      rintro _ w1 ⟨rfl, hrd1, hg1⟩
      go_wp2_with fail
      refine (HN2.out w1 hrd1).mono ?_
      rintro _ w2 ⟨rfl, hrd2, hg2⟩
      have hg02 := gtrans hg1 hg2
      have Hg02 := Lib.hid hg02
      have Hrd2 := Lib.hid hrd2
      have Hown2 := Lib.hid (OwnR.grownRd Hown.out hg02 hg)
      have hs2 := hg02.size
      clear hrd1 hg1 hrd2 hg2 hg02 HN1 HN2 Hown
      go_wp2_with fail
      have hal := balloc w2 (.cells #[.int .u64 (a : Int), .int .u32 (b : Int)] 73)
      have hbx := BoxAt.new_ 73 w2 [.int .u64 (a : Int), .int .u32 (b : Int)]
      have hrd3 := Hrd2.out.below (Nat.lt_of_lt_of_le hg (Nat.le_trans hsz hs2)) hal
      have Hown3 := Lib.hid (Hown2.out.below_ hal)
      have hsz3 := hal.size
      have Hal := Lib.hid hal
      generalize hw3 : w2.alloc (.cells #[.int .u64 (a : Int), .int .u32 (b : Int)] 73) = w3 at *
      clear hw3
      have hxa := hbx.cell 0 _ rfl
      have hxb := hbx.cell 1 _ rfl
      have Hrd3 := Lib.hid hrd3
      clear hal hbx hrd3 Hrd2 Hown2
      refine (verr_any w3 g s2 e2 Hrd3.out).mono ?_
      rintro _ _ ⟨rfl, rfl⟩
      by_cases he : e2 = 0
      · subst he
        go_wp2_with (at_builtin
                     go_loud (refine wpList_app1R rfl (.tmp 31) (.tmp 33) 66 rfl Try.underlying66 infoCell2 rfl (by decide) (by decide) (y := mkC a b) [.int .u64 (a : Int), .int .u32 (b : Int)] Hown3.out ⟨by show _ = [Value.int .u64 ((mkC a b).cut.toNat : Int), .int .u32 ((mkC a b).oth.toNat : Int)]; rw [mkC_cut _ _ ha, mkC_oth _ _ (by omega)], trivial⟩ rfl rfl (by omega) (by omega) ?_)
                     intro v4 w4 hown4 hext4)
        have hb4 : Below w.heap.size w3 w4 := hext4.below (by omega) fun q hq => (Hown3.out.blk q hq).1
        have hg4 : w.grownBy w4 (some g) := gnew (gtrans (gtrans Hgr.out Hg02.out) (gbelow Hal.out _)) hext4.gr (fun i hi => Or.inl (Hown3.out.blk i hi).1)
        have hrd4 := Hrd3.out.below hg hb4
        have hc2 := Hcg.out
        rw [if_neg (by simp)] at hc2
        have hl4 : (acc ++ [mkC a b]).length = acc.length + 1 := by simp
        have hdn : d - (acc ++ [mkC a b]).length = n := by rw [hl4]; omega
        obtain ⟨A4, c4, rfl, _, _, _⟩ := hown4.form'
        have Hown4 := Lib.hid hown4
        clear hown4 hext4
        rw [← hdn] at hc2
        go_roundw
        case rel => exact ⟨acc ++ [mkC a b], s2, 0, Hown4.out, by rw [hl4]; omega, hrd4, hg4, hc2⟩
        case measure => simp [lenOf]; omega
      · have hed : (e2 != 0) = true := by simp [he]
        go_wp2_with fail
        go_ret
        have hc2 := Hcg.out
        rw [if_pos he] at hc2
        rw [← hc2]
        exact ⟨_, rfl, OwnF.nil_ _ _, Hrd3.out, gtrans (gtrans Hgr.out Hg02.out) (gbelow Hal.out _)⟩
    · obtain hle : d = acc.length := by omega
      rw [hle, Nat.sub_self] at hcg
      have hcg' : (acc, s', e') = R := hcg
      subst hcg'
      have hdl : decide (acc.length < d) = false := decide_eq_false hlt
      go_wp2_with fail
      go_ret
      exact ⟨_, rfl, hown, hrd, hgr⟩
end Go.Proofs.Ythfnikdapknohaa

namespace Go.Proofs.Ythfnikdapknohaa
set_option linter.unusedSimpArgs false
set_option linter.unusedVariables false
open Go.RowKit

set_option maxRecDepth 100000 in
set_option maxHeartbeats 3200000 in
theorem aput_any (w : World) (base B : Nat) (v0 : Value) (l0 : List UInt8) (hown : Ow w base v0 l0) (v : Value) (l : List GCell) (hl : l.length ≤ 1073741824) (hl0 : l0.length ≤ 1073741824) (h : ByC w B v l) (hB : B ≤ base) (hbase : base ≤ w.heap.size) :
    Calls Try.prog 76 #[v0, v] w fun e w' => ∃ v', e = .returned v' ∧ Ow w' base v' (l0 ++ cput l) ∧ Ext w w' v0 v' := by
  obtain ⟨A, c, rfl, hc1, hc2⟩ := h.form
  unfold maxLen at hc2
  go_enter Try.func76, Try.ntmps76
  go_wp2_with fail
  go_loopw [0, 9] (fun b i wr => ∃ k : Nat, k ≤ l.length ∧ i = .int .i64 k ∧ Ow wr base b (l0 ++ cput (l.take k)) ∧ Ext w wr v0 b ∧ ByC wr B (.slice A l.length c) l) (fun _ i _ => l.length - (intOf i).toNat)
  case atStart => exact ⟨0, by omega, rfl, by simpa [cput] using hown, Ext.refl w v0, h⟩
  case round =>
    obtain ⟨k, hk, rfl, hob, hext, hrow⟩ := hrel
    have hsz := hext.gr.size
    have hsz' : base ≤ wr.heap.size := Nat.le_trans hbase hsz
    by_cases hlt : k < l.length
    · obtain ⟨ad, rfl, hab, hx0, hx1⟩ := hrow.cells k hlt
      have hgl := cput_len (l.take k)
      have htk : (l.take k).length ≤ 1073741824 := by simp; omega
      have hbl : (l0 ++ cput (l.take k)).length ≤ 30000000000 := by simp only [List.length_append]; omega
      have hsn : l0 ++ cput (l.take (k + 1)) = l0 ++ cput (l.take k) ++ vput (l[k]).cut.toNat ++ vput (l[k]).oth.toNat := by rw [cput_snoc l k hlt]; simp
      have hcu := u64_lt (l[k]).cut
      have hot := u32_lt (l[k]).oth
      have Hsn := Lib.hid hsn
      clear hgl htk hsn
      generalize l[k] = a at *
      generalize hpp : l0 ++ cput (l.take k) = pre at *
      have Hpp := Lib.hid hpp
      clear hpp
      go_wp2_with fail
      have hbx := BoxAt.new_ 73 wr [.int .u64 (a.cut.toNat : Int), .int .u32 (a.oth.toNat : Int)]
      have hxa : Ext wr (wr.alloc (.cells [.int .u64 (a.cut.toNat : Int), .int .u32 (a.oth.toNat : Int)].toArray 73)) u0 u0 := (Ext.refl wr u0).then_ (balloc _ _)
      have hn0 : Value.ownBlock u0 ≠ some wr.heap.size := fun e => by have := (hob.blk _ e).2; omega
      have hsa : (wr.alloc (.cells [.int .u64 (a.cut.toNat : Int), .int .u32 (a.oth.toNat : Int)].toArray 73)).heap.size = wr.heap.size + 1 := by simp
      have hoba := hob.alloc (.cells [.int .u64 (a.cut.toNat : Int), .int .u32 (a.oth.toNat : Int)].toArray 73)
      generalize wr.alloc (.cells [.int .u64 (a.cut.toNat : Int), .int .u32 (a.oth.toNat : Int)].toArray 73) = wa at *
      refine wp_region_oneL (ds := [13, 14, 15, 16, 17, 18, 19]) 7 3
        (fun b v W' => if b = true then Ow W' base v (pre ++ vput a.cut.toNat) ∧ Ext wa W' u0 v ∧ BoxAt 73 W' wr.heap.size [.int .u64 (a.cut.toNat : Int), .int .u32 (a.oth.toNat : Int)] ∧ v.ownBlock ≠ some wr.heap.size else W' = wa.drew)
        [some 13, some 14, some 15, some 16, some 17, some 18, some 19]
        [fun v => v = u0, fun v => v = .pointer (some ⟨wr.heap.size, 0, none⟩), fun v => v = .int .u64 (a.cut.toNat : Int), fun _ => True, fun v => v = .pointer (some ⟨wr.heap.size, 1, none⟩), fun v => v = .int .u32 (a.oth.toNat : Int), fun v => v = .int .u64 (a.oth.toNat : Int)]
        (by decide) rfl rfl rfl (by kernel_rfl) (by kernel_rfl) ?_ (fun _ => by simp) ?_
      · refine ⟨?_, ?_, ?_, ?_, ?_, ?_, ?_, trivial⟩
        · refine obO_yes fun f b w' hj hs hp => ?_
          simp [PreO, factO, valOf, Region.binds] at hp
          refine ⟨by simp [Gd, valOf, hp], ?_⟩
          refine mildO_val u0 (by decide) ?_ rfl
          simp [execOp, evalF, hp]
        · refine obO_yes fun f b w' hj hs hp => ?_
          simp [PreO, factO, valOf, Region.binds] at hp
          refine ⟨by simp [Gd, valOf, hp], ?_⟩
          refine mildO_val (.pointer (some ⟨wr.heap.size, 0, none⟩)) (by decide) ?_ rfl
          simp [execOp, evalF, hp, go_sem]
        · refine obO_yes fun f b w' hj hs hp => ?_
          simp [PreO, factO, valOf, Region.binds] at hp
          refine ⟨by simp [Gd, valOf, hp], ?_⟩
          refine mildO_val (.int .u64 (a.cut.toNat : Int)) (by decide) ?_ rfl
          have hc : BoxAt 73 w' wr.heap.size [.int .u64 (a.cut.toNat : Int), .int .u32 (a.oth.toNat : Int)] := by
            cases b with
            | true => simp at hj; exact hj.2.2.1
            | false => simp at hj; subst hj; exact hbx
          have hc0 := hc.cell 0 _ rfl
          simp [execOp, evalF, hp, hc0, go_sem]
        · refine obO_yes fun f b w' hj hs hp => ?_
          simp [PreO, factO, valOf, Region.binds] at hp
          refine ⟨by simp [Gd, valOf, hp], ?_⟩
          obtain rfl : b = false := hs rfl
          simp at hj
          subst hj
          refine mildO_call 59 _ _ Try.f59 rfl Try.func59 (by kernel_rfl) (by kernel_rfl) rfl ?_
          simp [evalF, hp]
          have hoba' : Ow wa.drew base u0 pre := hoba
          have hbx' : BoxAt 73 wa.drew wr.heap.size [.int .u64 (a.cut.toNat : Int), .int .u32 (a.oth.toNat : Int)] := hbx
          have hsd : wa.drew.heap.size = wa.heap.size := rfl
          refine (vput_any wa.drew base u0 pre hoba' a.cut.toNat (by omega) (by omega) (by omega)).mono ?_
          rintro _ w3 ⟨v3, rfl, hob3, hext3⟩
          exact ⟨v3, rfl, hob3, Ext.trans ((Ext.refl wa u0).then_ (bdrew (Below.refl _ wa))) hext3, hbx'.grown hext3.gr hn0, hext3.ne (g := wr.heap.size) (by omega) hn0⟩
        · refine obO_yes fun f b w' hj hs hp => ?_
          simp [PreO, factO, valOf, Region.binds] at hp
          refine ⟨by simp [Gd, valOf, hp], ?_⟩
          refine mildO_val (.pointer (some ⟨wr.heap.size, 1, none⟩)) (by decide) ?_ rfl
          simp [execOp, evalF, hp, go_sem]
        · refine obO_yes fun f b w' hj hs hp => ?_
          simp [PreO, factO, valOf, Region.binds] at hp
          refine ⟨by simp [Gd, valOf, hp], ?_⟩
          refine mildO_val (.int .u32 (a.oth.toNat : Int)) (by decide) ?_ rfl
          have hc : BoxAt 73 w' wr.heap.size [.int .u64 (a.cut.toNat : Int), .int .u32 (a.oth.toNat : Int)] := by
            cases b with
            | true => simp at hj; exact hj.2.2.1
            | false => simp at hj; subst hj; exact hbx
          have hc0 := hc.cell 1 _ rfl
          simp [execOp, evalF, hp, hc0, go_sem]
        · refine obO_yes fun f b w' hj hs hp => ?_
          simp [PreO, factO, valOf, Region.binds] at hp
          refine ⟨by simp [Gd, valOf, hp], ?_⟩
          refine mildO_val (.int .u64 (a.oth.toNat : Int)) (by decide) ?_ rfl
          simp [execOp, evalF, hp, go_sem]
          rw [wrap_u64]; omega
      · intro f w2 hj hp
        simp only [PostO] at hp
        obtain ⟨h0, h1, h2, _, h4, h5, h6, _⟩ := hp
        simp only [if_true, valOf] at hj
        obtain ⟨hob3, hext3, hbx3, hn3⟩ := hj
        simp only [List.getElem?_cons_succ, List.getElem?_cons_zero] at hob3 hext3 hn3
        simp only [fills, List.foldl_cons, List.foldl_nil, Act.put, List.setIfInBounds_toArray, List.set_cons_zero, List.set_cons_succ, h0, h1, h2, h4, h5, h6]
        clear h0 h1 h2 h4 h5 h6
        generalize f 16 = v16 at *
        simp only [List.drop_succ_cons, List.drop_zero]
        have hlv := vput_len64 a.cut.toNat hcu
        have hp1 : (pre ++ vput a.cut.toNat).length ≤ 30000000100 := by rw [List.length_append]; omega
        have hs3 := hext3.gr.size
        have hc0 := hbx3.cell 0 _ rfl
        have hc1 := hbx3.cell 1 _ rfl
        go_wp2_with fail
        refine (vput_any w2 base v16 _ hob3 a.oth.toNat (by omega) (by omega) (by omega)).mono ?_
        rintro _ w4 ⟨v4, rfl, hob4, hext4⟩
        have hx04 := hxa.trans (hext3.trans hext4)
        clear hc0 hc1
        go_wp2_with fail
        go_roundw
        case rel => exact ⟨k + 1, by omega, by go_num, by rw [Hsn.out]; exact hob4, hext.trans hx04, hrow.below ((hx04.below (B := base) hsz' fun q hq => (hob.blk q hq).1).mono hB)⟩
        case measure => simp [intOf]; omega
    · obtain rfl : k = l.length := by omega
      rw [List.take_length] at hob
      go_wp2_with fail
      go_ret
      exact ⟨_, rfl, hob, hext⟩
end Go.Proofs.Ythfnikdapknohaa

namespace Go.Proofs.Ythfnikdapknohaa
set_option linter.unusedSimpArgs false
set_option linter.unusedVariables false
open Go.RowKit

def cfit (W n : Nat) (l : List GCell) : Bool := l.all fun c => decide (c.cut.toNat ≤ W) && decide (c.oth.toNat < n)
theorem cfit_snoc (W n : Nat) (l : List GCell) (k : Nat) (hk : k < l.length) : cfit W n (l.take (k + 1)) = (cfit W n (l.take k) && (decide ((l[k]).cut.toNat ≤ W) && decide ((l[k]).oth.toNat < n))) := by
  unfold cfit
  rw [List.take_add_one, List.all_append, List.getElem?_eq_getElem hk]
  simp
theorem mkC_self (c : GCell) : mkC c.cut.toNat c.oth.toNat = c := by
  unfold mkC; simp
theorem cput_cons (c : GCell) (t : List GCell) : cput (c :: t) = vput c.cut.toNat ++ (vput c.oth.toNat ++ cput t) := by
  simp [cput, cput1]
theorem numS_err1 (most : Nat) : numS most [] 9 = (0, [], 9) := by unfold numS; rw [if_pos (by decide)]
theorem cget_good (W n : Nat) : ∀ (t : List GCell) (acc : List GCell), cfit W n t = true → cget W (n - 1) t.length acc (cput t) 0 = (acc ++ t, [], 0)
  | [], acc, _ => by simp [cget, cput]
  | c :: t, acc, h => by
    unfold cfit at h
    rw [List.all_cons, Bool.and_eq_true, Bool.and_eq_true] at h
    have h1 := of_decide_eq_true h.1.1
    have h2 := of_decide_eq_true h.1.2
    rw [cput_cons, List.length_cons, cget]
    have e1 : ∀ r, numS W (vput c.cut.toNat ++ r) 0 = (c.cut.toNat, r, 0) := fun r => by
      unfold numS; rw [if_neg (by simp), numR_vput _ _ _ (u64_lt c.cut) h1]
    have e2 : ∀ r, numS (n - 1) (vput c.oth.toNat ++ r) 0 = (c.oth.toNat, r, 0) := fun r => by
      have := u32_lt c.oth
      unfold numS; rw [if_neg (by simp), numR_vput _ _ _ (by omega) (by omega)]
    rw [e1]
    simp only
    rw [e2]
    simp only [ne_eq, not_true, if_false, mkC_self]
    rw [cget_good W n t (acc ++ [c]) h.2]
    simp
theorem cget_bad (W n : Nat) : ∀ (t : List GCell) (acc : List GCell), cfit W n t = false → t.length ≤ n → cget W (n - 1) t.length acc (cput t) 0 = ([], [], 9)
  | [], acc, h, _ => by simp [cfit] at h
  | c :: t, acc, h, hn => by
    rw [cput_cons, List.length_cons, cget]
    simp only [List.length_cons] at hn
    have ho := u32_lt c.oth
    by_cases h1 : c.cut.toNat ≤ W
    · have e1 : ∀ r, numS W (vput c.cut.toNat ++ r) 0 = (c.cut.toNat, r, 0) := fun r => by
        unfold numS; rw [if_neg (by simp), numR_vput _ _ _ (u64_lt c.cut) h1]
      rw [e1]
      simp only
      by_cases h2 : c.oth.toNat < n
      · have e2 : ∀ r, numS (n - 1) (vput c.oth.toNat ++ r) 0 = (c.oth.toNat, r, 0) := fun r => by
          unfold numS; rw [if_neg (by simp), numR_vput _ _ _ (by omega) (by omega)]
        rw [e2]
        simp only [ne_eq, not_true, if_false, mkC_self]
        refine cget_bad W n t _ ?_ (by omega)
        unfold cfit at h ⊢
        rw [List.all_cons] at h
        simpa [h1, h2] using h
      · have e2 : ∀ r, numS (n - 1) (vput c.oth.toNat ++ r) 0 = (0, [], 9) := fun r => by
          unfold numS; rw [if_neg (by simp), numR_vput_big _ _ _ (by omega) (by omega)]
        rw [e2]
        simp
    · have e1 : ∀ r, numS W (vput c.cut.toNat ++ r) 0 = (0, [], 9) := fun r => by
        unfold numS; rw [if_neg (by simp), numR_vput_big _ _ _ (u64_lt c.cut) (by omega)]
      rw [e1]
      simp only
      rw [numS_err1]
      simp
end Go.Proofs.Ythfnikdapknohaa

namespace Go.Proofs.Ythfnikdapknohaa
set_option linter.unusedSimpArgs false
set_option linter.unusedVariables false
open Go.RowKit

set_option maxHeartbeats 400000 in
/-- slices.Equal at bytes: whether they are the same -/
theorem equal8 (w : World) (B1 B2 : Nat) (v1 v2 : Value) (l1 l2 : List UInt8) (h1 : By w B1 v1 l1) (h2 : By w B2 v2 l2) :
    Calls Try.prog 93 #[v1, v2] w fun e w' => e = .returned (.bool (decide (l1 = l2))) ∧ Below w.heap.size w w' := by
  obtain ⟨A1, c1, rfl, hc1, hm1, hr1⟩ := h1
  obtain ⟨A2, c2, rfl, hc2, hm2, hr2⟩ := h2
  unfold maxLen at hm1 hm2
  by_cases hlen : l1.length = l2.length
  · have Hlen := Lib.hid hlen
    generalize hn2 : l2.length = n at *
    subst hlen
    have Hn2 := Lib.hid hn2
    clear hn2
    go_enter Try.func93, Try.ntmps93
    go_wp2
    go_loopw [13] (fun i wr => ∃ k : Nat, k ≤ l1.length ∧ i = .int .i64 k ∧ l1.take k = l2.take k ∧ ∃ q, wr = w.drewN q) (fun i _ => l1.length - (intOf i).toNat)
    case atStart => exact ⟨0, by omega, rfl, by simp, 0, rfl⟩
    case round =>
      obtain ⟨k, hk, rfl, ht, q, rfl⟩ := hrel
      by_cases hlt : k < l1.length
      · obtain ⟨ad1, rfl, _, hcs1⟩ := hr1.ad (by omega)
        obtain ⟨ad2, rfl, _, hcs2⟩ := hr2.ad (by omega)
        have hk2 : k < l2.length := by rw [Hn2.out]; exact hlt
        have hx1 := hcs1 k _ (b8s_get l1 k hlt)
        have hx2 := hcs2 k _ (b8s_get l2 k hk2)
        have ht1 := List.take_succ_eq_append_getElem hlt
        have ht2 := List.take_succ_eq_append_getElem hk2
        have Ht := Lib.hid ht
        have Ht1 := Lib.hid ht1
        have Ht2 := Lib.hid ht2
        clear hcs1 hcs2 ht ht1 ht2 hr1 hr2
        have hne : l1[k] ≠ l2[k] → l1 ≠ l2 := fun h e => h (by subst e; rfl)
        have Hne := Lib.hid hne
        clear hne
        generalize l1[k] = b1 at *
        generalize l2[k] = b2 at *
        go_wp2
        go_quiet (fail)
        go_wp2
        · rename_i he
          have hb : b1 ≠ b2 := fun e => by subst e; simp at he
          go_ret
          refine ⟨?_, bdrewN (bdrewN (Below.refl _ _) _) _⟩
          rw [decide_eq_false (Hne.out hb)]; rfl
        · rename_i he
          have hb : b1 = b2 := UInt8.toNat_inj.1 (by simp at he; omega)
          exact ⟨⟨k + 1, by omega, by go_num, by rw [Ht1.out, Ht2.out, Ht.out, hb], q + nq, rfl⟩, by simp [intOf]; omega⟩
      · obtain rfl : k = l1.length := by omega
        go_wp2
        go_ret
        refine ⟨?_, bdrewN (Below.refl _ _) _⟩
        have : l1 = l2 := by
          rw [List.take_length, ← Hn2.out, List.take_length] at ht; exact ht
        rw [decide_eq_true this]; rfl
  · have hne : ((l1.length : Int) == (l2.length : Int)) = false := by simp; omega
    go_enter Try.func93, Try.ntmps93
    go_wp2
    go_ret
    refine ⟨?_, Below.refl _ _⟩
    rw [decide_eq_false (fun e => hlen (by rw [e]))]; rfl
theorem getD_get8 (l : List UInt8) (i : Nat) (h : i < l.length) : l[i]? = some (l.getD i 0) := by simp [List.getD_eq_getElem?_getD, h]
end Go.Proofs.Ythfnikdapknohaa

namespace Go.Proofs.Ythfnikdapknohaa
set_option linter.unusedSimpArgs false
set_option linter.unusedVariables false

def poly : UInt32 := 3988292384
/-- one bit -/
def stp (x : UInt32) : UInt32 := (x >>> 1) ^^^ (poly * (x &&& 1))
def stps : Nat → UInt32 → UInt32
  | 0, x => x
  | n + 1, x => stps n (stp x)
theorem stps_succ (n : Nat) (x : UInt32) : stps (n + 1) x = stp (stps n x) := by
  induction n generalizing x with
  | zero => rfl
  | succ n ih => rw [stps, ih]; rfl
theorem stps_add (m n : Nat) (x : UInt32) : stps (m + n) x = stps n (stps m x) := by
  induction m generalizing x with
  | zero => simp [stps]
  | succ m ih => rw [Nat.succ_add, stps, ih]; rfl
/-- the table -/
def tabN (i : Nat) : UInt32 := stps 8 (UInt32.ofNat i)
/-- one byte, by the table -/
def upd (x : UInt32) (c : UInt8) : UInt32 := tabN (x.toUInt8 ^^^ c).toNat ^^^ (x >>> 8)
/-- one byte, bit by bit -/
def updB (x : UInt32) (c : UInt8) : UInt32 := stps 8 (x ^^^ c.toUInt32)
def run (x : UInt32) (l : List UInt8) : UInt32 := l.foldl upd x
def crcOf (l : List UInt8) : UInt32 := ~~~ (run 4294967295 l)
theorem run_append (x : UInt32) (a b : List UInt8) : run x (a ++ b) = run (run x a) b := by simp [run]
theorem run_snoc (x : UInt32) (a : List UInt8) (c : UInt8) : run x (a ++ [c]) = upd (run x a) c := by simp [run]

/-! it is linear -/
theorem bit0 (x : UInt32) : x &&& 1 = 0 ∨ x &&& 1 = 1 := by
  have h : (x &&& 1).toNat = x.toNat % 2 := by rw [UInt32.toNat_and]; exact Nat.and_one_is_mod _
  rcases Nat.mod_two_eq_zero_or_one x.toNat with e | e
  · left; apply UInt32.toNat_inj.1; rw [h, e]; rfl
  · right; apply UInt32.toNat_inj.1; rw [h, e]; rfl
theorem stp_xor (a b : UInt32) : stp (a ^^^ b) = stp a ^^^ stp b := by
  have hs : (a ^^^ b) >>> 1 = (a >>> 1) ^^^ (b >>> 1) := by
    apply UInt32.toNat_inj.1
    simp [UInt32.toNat_shiftRight, UInt32.toNat_xor, Nat.shiftRight_xor_distrib]
  have hb : (a ^^^ b) &&& 1 = (a &&& 1) ^^^ (b &&& 1) := by
    apply UInt32.toNat_inj.1
    rw [UInt32.toNat_and, UInt32.toNat_xor, UInt32.toNat_xor, UInt32.toNat_and, UInt32.toNat_and, Nat.and_xor_distrib_right]
  unfold stp
  rw [hs, hb]
  rcases bit0 a with ha | ha <;> rcases bit0 b with hb' | hb' <;> rw [ha, hb']
  · simp
  · simp [UInt32.xor_assoc]
  · simp only [UInt32.xor_zero, UInt32.mul_zero, UInt32.mul_one]
    rw [UInt32.xor_assoc, UInt32.xor_assoc, UInt32.xor_comm (b >>> 1)]
  · have : poly * (1 ^^^ 1 : UInt32) = 0 := by decide
    rw [this]
    simp only [UInt32.mul_one, UInt32.xor_zero]
    rw [UInt32.xor_assoc, UInt32.xor_comm poly, UInt32.xor_assoc (b >>> 1), UInt32.xor_self, UInt32.xor_zero]
theorem stps_xor (n : Nat) (a b : UInt32) : stps n (a ^^^ b) = stps n a ^^^ stps n b := by
  induction n generalizing a b with
  | zero => rfl
  | succ n ih => rw [stps, stp_xor, ih]; rfl
theorem stps_zero (n : Nat) : stps n 0 = 0 := by
  induction n with
  | zero => rfl
  | succ n ih => rw [stps, show stp 0 = 0 from by decide, ih]
/-- bits above the lowest eight are moved down -/
theorem stp_even (x : UInt32) (h : x.toNat % 2 = 0) : stp x = x >>> 1 := by
  have : x &&& 1 = 0 := by
    apply UInt32.toNat_inj.1
    rw [UInt32.toNat_and, show (1 : UInt32).toNat = 1 from rfl, Nat.and_one_is_mod, h]; rfl
  simp [stp, this]
theorem stps_high (n : Nat) (x : UInt32) (h : x.toNat % 2 ^ n = 0) (hn : n ≤ 8) : (stps n x).toNat = x.toNat / 2 ^ n := by
  induction n generalizing x with
  | zero => simp [stps]
  | succ n ih =>
    have h2 : x.toNat % 2 = 0 := by
      have := Nat.mod_mod_of_dvd x.toNat (show 2 ∣ 2 ^ (n + 1) from ⟨2 ^ n, by rw [Nat.pow_succ, Nat.mul_comm]⟩)
      rw [h] at this; simpa using this.symm
    have e : (x >>> 1).toNat = x.toNat / 2 := by simp [UInt32.toNat_shiftRight, Nat.shiftRight_eq_div_pow]
    rw [stps, stp_even x h2, ih (x >>> 1) (by
      rw [e]
      have : x.toNat = 2 * (x.toNat / 2) := by omega
      rw [this, Nat.pow_succ, Nat.mul_comm (2 ^ n), Nat.mul_mod_mul_left] at h
      omega) (by omega), e, Nat.div_div_eq_div_mul, Nat.pow_succ, Nat.mul_comm 2]
theorem upd_bits (x : UInt32) (c : UInt8) : upd x c = updB x c := by
  have hx : x ^^^ c.toUInt32 = ((x.toUInt8 ^^^ c).toUInt32) ^^^ (x &&& 4294967040) := by
    apply UInt32.toNat_inj.1
    apply Nat.eq_of_testBit_eq
    intro i
    simp only [UInt32.toNat_xor, UInt8.toNat_toUInt32, UInt8.toNat_xor, UInt32.toNat_toUInt8, UInt32.toNat_and, Nat.testBit_xor, Nat.testBit_and]
    rw [Nat.testBit_mod_two_pow]
    have hm : (4294967040 : UInt32).toNat = (2 ^ 24 - 1) * 2 ^ 8 := rfl
    rw [hm, Nat.testBit_mul_two_pow, Nat.testBit_two_pow_sub_one]
    by_cases h : i < 8
    · have h8 : ¬ 8 ≤ i := by omega
      simp [h, h8]
    · have h8 : 8 ≤ i := by omega
      have hc : c.toNat.testBit i = false := Nat.testBit_lt_two_pow (Nat.lt_of_lt_of_le c.toNat_lt (Nat.pow_le_pow_right (by omega) h8))
      by_cases h32 : i < 32
      · have : i - 8 < 24 := by omega
        simp [h, h8, hc, this]
      · have hxx : x.toNat.testBit i = false := Nat.testBit_lt_two_pow (Nat.lt_of_lt_of_le x.toNat_lt (Nat.pow_le_pow_right (by omega) (by omega)))
        simp [h, hc, hxx]
  have hl : (x &&& 4294967040).toNat = x.toNat / 256 * 256 := by
    apply Nat.eq_of_testBit_eq
    intro i
    rw [UInt32.toNat_and, Nat.testBit_and]
    have hm : (4294967040 : UInt32).toNat = (2 ^ 24 - 1) * 2 ^ 8 := rfl
    rw [hm, show (256 : Nat) = 2 ^ 8 from rfl, Nat.testBit_mul_two_pow, Nat.testBit_mul_two_pow, Nat.testBit_two_pow_sub_one, Nat.testBit_div_two_pow]
    by_cases h : 8 ≤ i
    · by_cases h32 : i < 32
      · have : i - 8 < 24 := by omega
        simp [h, this]
      · have hxx : x.toNat.testBit i = false := Nat.testBit_lt_two_pow (Nat.lt_of_lt_of_le x.toNat_lt (Nat.pow_le_pow_right (by omega) (by omega)))
        simp [h, hxx]
    · simp [h]
  have hi : stps 8 (x &&& 4294967040) = x >>> 8 := by
    apply UInt32.toNat_inj.1
    rw [stps_high 8 _ (by rw [hl]; simp) (by omega), hl]
    simp [UInt32.toNat_shiftRight, Nat.shiftRight_eq_div_pow]
  unfold updB
  rw [hx, stps_xor, hi]
  unfold upd tabN
  congr 2
  apply UInt32.toNat_inj.1
  rw [UInt32.toNat_ofNat', UInt8.toNat_toUInt32]
  have := (x.toUInt8 ^^^ c).toNat_lt
  omega

theorem crc_example : crcOf [49, 50, 51, 52, 53, 54, 55, 56, 57] = 3421780262 := by decide +kernel

end Go.Proofs.Ythfnikdapknohaa

namespace Go.Proofs.Ythfnikdapknohaa
set_option linter.unusedSimpArgs false
set_option linter.unusedVariables false
open Go.RowKit

def tabUpTo (k : Nat) : Array Value := Array.ofFn (n := 256) fun i => if i.val < k then .int .u32 ((tabN i).toNat : Int) else .int .u32 0
def tabA : Array Value := tabUpTo 256
def zeroA : Array Value := Array.replicate 256 (.int .u32 0)
theorem tabUpTo_zero : tabUpTo 0 = zeroA := by
  apply Array.ext
  · simp [tabUpTo, zeroA]
  · intro i h1 h2; simp [tabUpTo, zeroA]
theorem tabUpTo_get (k : Nat) (h : k < 256) : (tabUpTo k)[k]? = some (.int .u32 0) := by simp [tabUpTo, h]
theorem tabUpTo_size (k : Nat) : (tabUpTo k).size = 256 := by simp [tabUpTo]
theorem tabUpTo_at (k i : Nat) (h : i < (tabUpTo k).size) : (tabUpTo k)[i] = if i < k then .int .u32 ((tabN i).toNat : Int) else .int .u32 0 := by simp [tabUpTo]
theorem tabUpTo_set (k : Nat) (h : k < 256) : (tabUpTo k).setIfInBounds k (.int .u32 ((stps 8 (UInt32.ofNat k)).toNat : Int)) = tabUpTo (k + 1) := by
  apply Array.ext
  · simp [tabUpTo_size]
  · intro i h1 h2
    rw [Array.getElem_setIfInBounds (by simpa using h1), tabUpTo_at, tabUpTo_at]
    by_cases e : k = i
    · subst e; simp [tabN]
    · rw [if_neg e]
      by_cases hl : i < k
      · rw [if_pos hl, if_pos (by omega)]
      · rw [if_neg hl, if_neg (by omega)]
theorem tabA_get (c : UInt8) : tabA[c.toNat]? = some (.int .u32 ((tabN c.toNat).toNat : Int)) := by
  have := c.toNat_lt
  simp [tabA, tabUpTo, this]
theorem tabA_one : ∀ v ∈ tabA.toList, v.oneCell' = true := by
  intro v hv
  obtain ⟨i, hi, rfl⟩ := List.mem_iff_getElem.1 hv
  rw [Array.getElem_toList]
  simp only [tabA, tabUpTo_at]
  split <;> rfl
theorem tabA_size : tabA.size = 256 := by simp [tabA, tabUpTo]

theorem zeroTab (w : World) : (zeroValue 166).run Try.prog w = .ok (.agg zeroA) w := by kernel_rfl
theorem infoTab : (Try.prog.info? 166).map (·.size) = some 256 := by kernel_rfl
theorem stp_walk (x : UInt32) : bits BinOp.xor IntKind.u32 ((x.toNat : Int) / 2) (3988292384 * ((x.toNat : Int) % 2)) = ((stp x).toNat : Int) := by
  have h1 : ((x.toNat : Int) / (2 : Int)) = ((x >>> 1).toNat : Int) := by simp [UInt32.toNat_shiftRight, Nat.shiftRight_eq_div_pow]
  have h2 : 3988292384 * ((x.toNat : Int) % 2) = ((poly * (x &&& 1)).toNat : Int) := by
    rw [← mul_u32, UInt32.toNat_and, show (1 : UInt32).toNat = 1 from rfl, Nat.and_one_is_mod, IntKind.wrap_u32', show (poly.toNat : Int) = 3988292384 from rfl]
    omega
  rw [h1, h2, xor_u32]; rfl
theorem wrapk (k : Nat) (h : k < 256) : IntKind.u32.wrap (k : Int) = ((UInt32.ofNat k).toNat : Int) := by
  rw [IntKind.wrap_u32', UInt32.toNat_ofNat']; omega

set_option maxRecDepth 100000 in
set_option maxHeartbeats 400000 in
theorem table_any (w : World) :
    Calls Try.prog 99 #[] w fun e w' => e = .returned (.agg tabA) ∧ Below w.heap.size w w' := by
  have hz := zeroTab
  have ha1 := fun x : UInt32 => and_u32 x 1
  simp only [show (((1 : UInt32).toNat : Nat) : Int) = 1 from rfl] at ha1
  go_enter Try.func99, Try.ntmps99
  go_wp2
  go_loopw [5] (fun i wr => ∃ k : Nat, k ≤ 256 ∧ i = .int .i64 k ∧ wr = (w.alloc (Obj.cells zeroA 166)).alloc (Obj.cells (tabUpTo k) 166)) (fun i _ => 256 - (intOf i).toNat)
  case atStart => exact ⟨0, by omega, rfl, by rw [tabUpTo_zero]⟩
  case round =>
    obtain ⟨k, hk, rfl, rfl⟩ := hrel
    by_cases hlt : k < 256
    · have hw := wrapk k hlt
      go_wp2
      go_loop [3,10] (fun x i => ∃ j : Nat, j ≤ 8 ∧ i = .int .i64 j ∧ x = .int .u32 ((stps j (UInt32.ofNat k)).toNat : Int)) (fun _ i => 8 - (intOf i).toNat)
      case atStart => exact ⟨0, by omega, rfl, rfl⟩
      case round =>
        obtain ⟨j, hj, rfl, rfl⟩ := hrel
        by_cases hlt2 : j < 8
        · go_wp2
          go_round
          case rel => exact ⟨j + 1, by omega, by go_num, by rw [stps_succ, stp_walk]⟩
          case measure => simp [intOf]; omega
        · obtain rfl : j = 8 := by omega
          have hc := tabUpTo_get k hlt
          have hs := tabUpTo_set k hlt
          go_wp2
          go_roundw
          case rel => exact ⟨k + 1, by omega, by go_num, rfl⟩
          case measure => simp [intOf]; omega
    · obtain rfl : k = 256 := by omega
      have h0 : (((w.alloc (Obj.cells zeroA 166)).alloc (Obj.cells (tabUpTo 256) 166))).heap[w.heap.size]? = some (.cells zeroA 166 (0, 0)) := heap_alloc2_old w _ _
      go_wp2_with (first
        | (refine wpList_load_row rfl 166 _ rfl (w.heap.size + 1) rfl 166 tabA (0, 0) _ (by exact heap_alloc2_new w _ _) Try.underlying166 rfl (by rw [tabA_size]; exact infoTab) ?_)
        | (refine wpList_store_row rfl 166 (.tmp 0) _ rfl w.heap.size tabA rfl rfl 166 zeroA (by exact h0) (by rw [tabA_size]; exact infoTab) (by rw [tabA_size]; rfl) tabA_one ?_))
      refine bodyPost_ret (results_cell_row rfl _ _ w.heap.size 166 tabA (0, 0) _ rfl (setRow_heap _ _ zeroA _ _ _ h0) Try.underlying166 rfl (by rw [tabA_size]; exact infoTab)) rfl ⟨rfl, ?_⟩
      exact bsetRow (((Below.refl _ _).alloc (Nat.le_refl _) _).alloc (by simp) _) (Nat.le_refl _) _
end Go.Proofs.Ythfnikdapknohaa

namespace Go.Proofs.Ythfnikdapknohaa
set_option linter.unusedSimpArgs false
set_option linter.unusedVariables false
open Go.RowKit

theorem tabW (a : Addr) (g : Nat) (w : World) (h : w.heap[g]? = some (.cells tabA 166 (0, 0))) (c : UInt8) : w.cell? ⟨g, c.toNat, none⟩ = some (.int .u32 ((tabN c.toNat).toNat : Int)) := by
  rw [cell_of_row w g _ tabA _ _ h, tabA_get]
theorem shr8 (x : UInt32) : ((x.toNat : Int)).fdiv 256 = ((x >>> 8).toNat : Int) := shr_u32 x 8 (by omega)

set_option maxRecDepth 100000 in
set_option maxHeartbeats 400000 in
theorem sum_any (A : Option Addr) (n c : Nat) (vs : List Value) (ls : List (List UInt8)) (w : World) (hn : vs.length = n) (hr : Rd w w.heap.size 1 A n vs) (hlen : vs.length = ls.length) (hm : n ≤ maxLen)
    (hby : ∀ k (h : k < vs.length) (h' : k < ls.length), By w w.heap.size vs[k] ls[k]) :
    Calls Try.prog 96 #[.slice A n c] w fun e w' => e = .returned (.int .u32 ((crcOf ls.flatten).toNat : Int)) ∧ Below w.heap.size w w' := by
  subst hn
  have hz := zeroTab
  unfold maxLen at hm
  have Hlen := Lib.hid hlen
  clear hlen
  go_enter Try.func96, Try.ntmps96
  go_wp2_with (first
    | (go_at_call 99; refine (table_any _).mono ?_; rintro e w1 ⟨rfl, hb1⟩)
    | (refine wpList_store_row rfl 166 (.tmp 3) _ rfl w1.heap.size tabA rfl rfl 166 zeroA (by exact heap_alloc_new w1 _) (by rw [tabA_size]; exact infoTab) (by rw [tabA_size]; rfl) tabA_one ?_))
  have hg : ((w1.alloc (Obj.cells zeroA 166)).setRow w1.heap.size tabA).heap[w1.heap.size]? = some (.cells tabA 166 (0, 0)) := setRow_heap _ _ zeroA _ _ _ (heap_alloc_new w1 _)
  have hb2 : Below w.heap.size w ((w1.alloc (Obj.cells zeroA 166)).setRow w1.heap.size tabA) := bsetRow (hb1.alloc hb1.size _) hb1.size _
  generalize (w1.alloc (Obj.cells zeroA 166)).setRow w1.heap.size tabA = W at *
  generalize w1.heap.size = g at *
  have hr2 := hr.below hb2
  go_loop [4, 12] (fun x i => ∃ k : Nat, k ≤ vs.length ∧ i = .int .i64 k ∧ x = .int .u32 ((run 4294967295 (ls.take k).flatten).toNat : Int)) (fun _ i => vs.length - (intOf i).toNat)
  case atStart => exact ⟨0, by omega, rfl, rfl⟩
  case round =>
    obtain ⟨k, hk, rfl, rfl⟩ := hrel
    by_cases hlt : k < vs.length
    · obtain ⟨ad, rfl, hadb, hcs⟩ := hr2.ad (by omega)
      have hk2 : k < ls.length := by rw [← Hlen.out]; exact hlt
      obtain ⟨A', c', hv, hc1, hc2, hrd⟩ := hby k hlt hk2
      have hcell := hcs k _ (List.getElem?_eq_getElem hlt)
      rw [hv] at hcell
      have hstep : run 4294967295 (ls.take (k + 1)).flatten = run (run 4294967295 (ls.take k).flatten) ls[k] := by
        rw [List.take_succ_eq_append_getElem hk2, List.flatten_append, run_append]; simp
      have Hstep := Lib.hid hstep
      have hrd2 := hrd.below hb2
      clear hv hcs hstep hrd
      generalize ls[k] = l at *
      generalize run 4294967295 (ls.take k).flatten = x0 at *
      unfold maxLen at hc2
      go_wp2
      go_loop [4, 18] (fun x i => ∃ j : Nat, j ≤ l.length ∧ i = .int .i64 j ∧ x = .int .u32 ((run x0 (l.take j)).toNat : Int)) (fun _ i => l.length - (intOf i).toNat)
      case atStart => exact ⟨0, by omega, rfl, rfl⟩
      case round =>
        obtain ⟨j, hj, rfl, rfl⟩ := hrel
        by_cases hlt2 : j < l.length
        · obtain ⟨ad', rfl, hadb', hcs'⟩ := hrd2.ad (by omega)
          have hcell2 := hcs' j _ (b8s_get l j hlt2)
          clear hcs'
          have hst2 : run x0 (l.take (j + 1)) = upd (run x0 (l.take j)) l[j] := by rw [List.take_succ_eq_append_getElem hlt2, run_snoc]
          have Hst2 := Lib.hid hst2
          clear hst2
          generalize l[j] = b at *
          generalize run x0 (l.take j) = x at *
          have hc2 := xor_u8 x.toUInt8 b
          rw [← mod_u8_u32] at hc2
          have hc4 := tabW ad g W hg (x.toUInt8 ^^^ b)
          have hc6 : bits BinOp.xor IntKind.u32 ((tabN (x.toUInt8 ^^^ b).toNat).toNat : Int) ((x.toNat : Int) / 256) = ((upd x b).toNat : Int) := by
            rw [div_u32 x 8 (by omega) 256 rfl]; exact xor_u32 _ _
          generalize upd x b = r at *
          generalize x.toUInt8 ^^^ b = q at *
          generalize tabN q.toNat = t at *
          have hc5 := u8_lt q
          go_wp2
          go_round
          case rel => exact ⟨j + 1, by omega, by go_num, by rw [Hst2.out]⟩
          case measure => simp [intOf]; omega
        · obtain rfl : j = l.length := by omega
          go_wp2
          go_round
          case rel => exact ⟨k + 1, by omega, by go_num, by rw [Hstep.out, List.take_length]⟩
          case measure => simp [intOf]; omega
    · obtain rfl : k = vs.length := by omega
      go_wp2
      go_ret
      refine ⟨?_, hb2⟩
      rw [Hlen.out, List.take_length]
      show Ending.returned (.int .u32 _) = _
      rw [compl_u32]; rfl
end Go.Proofs.Ythfnikdapknohaa

namespace Go.Proofs.Ythfnikdapknohaa
set_option linter.unusedSimpArgs false
set_option linter.unusedVariables false
open Go.RowKit

def four (x : UInt32) : List UInt8 := [x.toUInt8, (x >>> 8).toUInt8, (x >>> 16).toUInt8, (x >>> 24).toUInt8]
def markOf (l : List UInt8) : List UInt8 := l ++ four (crcOf l)
theorem four_length (x : UInt32) : (four x).length = 4 := rfl
theorem markOf_length (l : List UInt8) : (markOf l).length = l.length + 4 := by simp [markOf, four_length]
def fourAt (x : UInt32) (k : Nat) : UInt8 := (four x).getD k 0
theorem four_succ (x : UInt32) (k : Nat) (h : k < 4) : (four x).take (k + 1) = (four x).take k ++ [fourAt x k] := by
  rcases (show k = 0 ∨ k = 1 ∨ k = 2 ∨ k = 3 by omega) with rfl | rfl | rfl | rfl <;> rfl
theorem four_full (x : UInt32) : (four x).take 4 = four x := rfl
/-- the walk's own form of 'byte(x >> (8*k))' -/
theorem fourAt0 (x : UInt32) : (x.toNat : Int) % 256 = ((fourAt x 0).toNat : Int) := mod_u8_u32 x
theorem fourAt1 (x : UInt32) : (x.toNat : Int) / 256 % 256 = ((fourAt x 1).toNat : Int) := by rw [div_u32 x 8 (by omega) 256 rfl]; exact mod_u8_u32 _
theorem fourAt2 (x : UInt32) : (x.toNat : Int) / 65536 % 256 = ((fourAt x 2).toNat : Int) := by rw [div_u32 x 16 (by omega) 65536 rfl]; exact mod_u8_u32 _
theorem fourAt3 (x : UInt32) : (x.toNat : Int) / 16777216 % 256 = ((fourAt x 3).toNat : Int) := by rw [div_u32 x 24 (by omega) 16777216 rfl]; exact mod_u8_u32 _

set_option maxRecDepth 100000 in
set_option maxHeartbeats 800000 in
theorem mark_any (w : World) (v : Value) (l : List UInt8) (hby : By w w.heap.size v l) (hsz : l.length ≤ 1099511627776) :
    Calls Try.prog 87 #[v] w fun e w' => ∃ v', e = .returned v' ∧ Ow w' w.heap.size v' (markOf l) ∧ Below w.heap.size w w' := by
  have hby0 := hby
  obtain ⟨A, c, rfl, hc1, hc2, hrd⟩ := hby
  go_enter Try.func87, Try.ntmps87
  go_wp2_with (first
    | (go_at_call 92; refine (clone8 _ _ l hby0 (by omega)).mono ?_; rintro e w1 ⟨v1, rfl, hown1, hb1⟩)
    | (go_at_call 96; go_loud (refine (sum_any _ 1 1 [.slice A l.length c] [l] _ rfl (rd1 w1 _ _ rfl) rfl (by decide) (one_by ((hby0.step hb1).alloc (Nat.le_refl _) _ |>.more (by simp)))).mono ?_); rintro e w2 ⟨rfl, hb2⟩))
  have hb12 : Below w1.heap.size w1 w2 := bstep (balloc _ _) hb2
  have hown2 := hown1.below_ hb12
  have hb02 : Below w.heap.size w w2 := bstep hb1 hb12
  have Hres : Hid (markOf l = l ++ four (crcOf l)) := rfl
  clear hown1 hb12 hb1 hb2
  generalize crcOf l = x at *
  go_loopw [3, 5] (fun v n wr => ∃ k : Nat, k ≤ 4 ∧ n = .int .i64 k ∧ Ow wr w.heap.size v (l ++ (four x).take k) ∧ Below w.heap.size w wr) (fun _ n _ => 4 - (intOf n).toNat)
  case atStart => exact ⟨0, by omega, rfl, by simpa using hown2, hb02⟩
  case round =>
    obtain ⟨k, hk, rfl, hown, hb⟩ := hrel
    by_cases hlt : k < 4
    · have hs := four_succ x k hlt
      have Hs := Lib.hid hs
      clear hs
      have h0 := fourAt0 x
      have h1 := fourAt1 x
      have h2 := fourAt2 x
      have h3 := fourAt3 x
      have hlen4 : (l ++ (four x).take k).length ≤ l.length + 4 := by simp [four_length]; omega
      rcases (show k = 0 ∨ k = 1 ∨ k = 2 ∨ k = 3 by omega) with rfl | rfl | rfl | rfl
      all_goals
        go_wp2_with (first
          | (at_builtin
             refine wpList_app8 rfl (.tmp 15) (.tmp 21) rfl (hown.alloc _) (By.new_ wr [fourAt x _] (by simp [maxLen])) rfl rfl (by simp only [List.length_singleton]; omega) (by have := hb.size; simp; omega) ?_
             intro v3 w3 hown3 hext3))
        have hb3 : Below w.heap.size w w3 := hb.trans (((Below.refl _ _).alloc hb.size _).trans (hext3.below (by have := hb.size; simp; omega) (fun k hk => (hown.blk k hk).1)))
        go_roundw
        case rel =>
          first
            | exact ⟨1, by omega, rfl, by rw [Hs.out, ← List.append_assoc]; exact hown3, hb3⟩
            | exact ⟨2, by omega, rfl, by rw [Hs.out, ← List.append_assoc]; exact hown3, hb3⟩
            | exact ⟨3, by omega, rfl, by rw [Hs.out, ← List.append_assoc]; exact hown3, hb3⟩
            | exact ⟨4, by omega, rfl, by rw [Hs.out, ← List.append_assoc]; exact hown3, hb3⟩
        case measure => simp [intOf]
    · obtain rfl : k = 4 := by omega
      go_wp2
      go_ret
      exact ⟨_, rfl, by rw [Hres.out]; exact hown, hb⟩
end Go.Proofs.Ythfnikdapknohaa

namespace Go.Proofs.Ythfnikdapknohaa
set_option linter.unusedSimpArgs false
set_option linter.unusedVariables false
open Go.RowKit

def fitsB (l : List UInt8) : Bool := decide (4 ≤ l.length ∧ markOf (l.take (l.length - 4)) = l)
def fitsL (l : List UInt8) : List UInt8 := if fitsB l then l.take (l.length - 4) else []
def fitsE (l : List UInt8) : Int := if l.length < 4 then 2 else if fitsB l then 0 else 5

theorem fitsB_mark (l : List UInt8) : fitsB (markOf l) = true := by
  have h : (markOf l).take ((markOf l).length - 4) = l := by rw [markOf_length]; simp [markOf]
  unfold fitsB
  rw [h, markOf_length]
  simp
theorem fitsE_mark (l : List UInt8) : fitsE (markOf l) = 0 := by
  unfold fitsE; rw [fitsB_mark, if_neg (by rw [markOf_length]; omega)]; rfl
theorem fitsL_mark (l : List UInt8) : fitsL (markOf l) = l := by
  unfold fitsL; rw [fitsB_mark, if_pos rfl, markOf_length]; simp [markOf]

set_option maxRecDepth 100000 in
set_option maxHeartbeats 800000 in
theorem fits_any (w : World) (v : Value) (l : List UInt8) (hby : By w w.heap.size v l) (hsz : l.length ≤ 1099511627776) :
    Calls Try.prog 77 #[v] w fun e w' => ∃ v', e = .returned (.tuple #[v', .int .i64 (fitsE l)]) ∧ Ow w' w.heap.size v' (fitsL l) ∧ Below w.heap.size w w' := by
  have hby0 := hby
  obtain ⟨A, c, rfl, hc1, hc2, hrd⟩ := hby
  unfold maxLen at hc2
  by_cases h4 : l.length < 4
  · have hE : fitsE l = 2 := by simp [fitsE, h4]
    have hL : fitsL l = [] := by
      have : fitsB l = false := by simp [fitsB]; omega
      simp [fitsL, this]
    rw [hE, hL]
    clear hE hL
    go_enter Try.func77, Try.ntmps77
    go_wp2_with fail
    go_ret2
    exact ⟨_, rfl, Ow.nil_ _ _, Below.refl _ _⟩
  · have hown : By w w.heap.size (.slice A (l.length - 4) c) (l.take (l.length - 4)) := by
      refine ⟨A, c, by simp, by simp; omega, hc2, ?_⟩
      have := hrd.front (k := l.length - 4) (by omega)
      simpa [b8s, List.map_take] using this
    have hlt : (l.take (l.length - 4)).length = l.length - 4 := by simp
    have HE : Hid (fitsE l = if markOf (l.take (l.length - 4)) = l then 0 else 5) := by
      unfold Hid fitsE fitsB
      rw [if_neg h4]
      by_cases hm : markOf (l.take (l.length - 4)) = l
      · rw [if_pos (by simp [hm]; omega), if_pos hm]
      · rw [if_neg (by simp [hm]), if_neg hm]
    have HL : Hid (fitsL l = if markOf (l.take (l.length - 4)) = l then l.take (l.length - 4) else []) := by
      unfold Hid fitsL fitsB
      by_cases hm : markOf (l.take (l.length - 4)) = l
      · rw [if_pos (by simp [hm]; omega), if_pos hm]
      · rw [if_neg (by simp [hm]), if_neg hm]
    have Hlt := Lib.hid hlt
    clear hlt
    generalize fitsE l = E at *
    generalize fitsL l = L at *
    generalize l.take (l.length - 4) = l0 at *
    by_cases hm : markOf l0 = l
    all_goals
      go_enter Try.func77, Try.ntmps77
      go_wp2_with fail
      refine (clone8 _ _ l0 hown (by rw [Hlt.out]; omega)).mono ?_
      rintro e w1 ⟨v1, rfl, hown1, hb1⟩
      go_wp2_with fail
      refine (mark_any _ _ l0 hown1.by_ (by rw [Hlt.out]; omega)).mono ?_
      rintro e w2 ⟨v2, rfl, hown2, hb2⟩
      have hb02 := bstep hb1 hb2
      go_wp2_with fail
      refine (equal8 _ _ _ _ _ _ _ hown2.by_ (hby0.below hb02)).mono ?_
      rintro e w3 ⟨rfl, hb3⟩
    · rw [decide_eq_true hm]
      have Hm := Lib.hid hm
      clear hm
      go_wp2_with fail
      go_ret2
      refine ⟨v1, by rw [HE.out, if_pos Hm.out]; rfl, ?_, bstep hb02 hb3⟩
      rw [HL.out, if_pos Hm.out]
      exact (hown1.below_ hb2).below_ hb3
    · rw [decide_eq_false hm]
      have Hm := Lib.hid hm
      clear hm
      go_wp2_with fail
      go_ret2
      refine ⟨_, by rw [HE.out, if_neg Hm.out]; rfl, ?_, bstep hb02 hb3⟩
      rw [HL.out, if_neg Hm.out]
      exact Ow.nil_ _ _
end Go.Proofs.Ythfnikdapknohaa
