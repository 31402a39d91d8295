/- The law 'ShardTurned' returns true for every input, and each argument reads behind the call as it read before. No condition. -/
import Derived.Test.YthfnikdapknohaaZShardPuts5
import Derived.Test.YthfnikdapknohaaRows
import Derived.WalkKit
import Derived.ProofKit
import Derived.OpenShut
import Derived.ShutString
import Derived.ChangeOld
import Derived.Below
namespace Go.Proofs.Ythfnikdapknohaa
set_option linter.unusedSimpArgs false
set_option linter.unusedVariables false
open Go.RowKit

theorem sLen_head (k : UInt8) (n : Nat) (t : List UInt8) (h : n < 4294967296) : sLen (k :: four (UInt32.ofNat n) ++ t) = n := by
  show (UInt32.ofNat n).toUInt8.toNat + 256 * ((UInt32.ofNat n) >>> 8).toUInt8.toNat + 65536 * ((UInt32.ofNat n) >>> 16).toUInt8.toNat + 16777216 * ((UInt32.ofNat n) >>> 24).toUInt8.toNat = n
  have e : (UInt32.ofNat n).toNat = n := by rw [UInt32.toNat_ofNat']; omega
  generalize UInt32.ofNat n = x at *
  have h0 := mod_u8_u32 x
  have h1 := fourAt1 x
  have h2 := fourAt2 x
  have h3 := fourAt3 x
  simp only [fourAt, four, List.getD_cons_zero, List.getD_cons_succ] at h1 h2 h3
  omega
theorem sE_big (k : UInt8) (n : Nat) (t : List UInt8) (h : n < 4294967296) (hn : 1048576 < n) : sE (markOf (k :: four (UInt32.ofNat n)) ++ t) = 4 := by
  have hl : (markOf (k :: four (UInt32.ofNat n))).length = 9 := by rw [markOf_length]; rfl
  have ht : (markOf (k :: four (UInt32.ofNat n)) ++ t).take 9 = markOf (k :: four (UInt32.ofNat n)) := by rw [List.take_left' hl]
  have hs : sLen (markOf (k :: four (UInt32.ofNat n)) ++ t) = n := by
    have : markOf (k :: four (UInt32.ofNat n)) ++ t = k :: four (UInt32.ofNat n) ++ (four (crcOf (k :: four (UInt32.ofNat n))) ++ t) := by simp [markOf]
    rw [this, sLen_head _ _ _ h]
  unfold sE
  rw [hs, ht, fitsB_mark, if_neg (by simp [hl]), if_neg (by simp), if_pos hn]
theorem sN_big (k : UInt8) (n : Nat) (t : List UInt8) (h : n < 4294967296) (hn : 1048576 < n) : sN (markOf (k :: four (UInt32.ofNat n)) ++ t) = 0 := by
  unfold sN; rw [sE_big k n t h hn]; rfl
end Go.Proofs.Ythfnikdapknohaa

namespace Go.Proofs.Ythfnikdapknohaa
set_option linter.unusedSimpArgs false
set_option linter.unusedVariables false
open Go.RowKit

theorem turned_set (l : List UInt8) (i : Nat) (d : UInt8) (hi : i < (markOf l).length) (hd : d ≠ 0) : fitsB ((markOf l).set i ((markOf l).getD i 0 ^^^ d)) = false := by
  have hm : markOf l = (markOf l).take i ++ (markOf l)[i] :: (markOf l).drop (i + 1) := by
    rw [List.getElem_cons_drop hi, List.take_append_drop]
  have hs : (markOf l).set i ((markOf l).getD i 0 ^^^ d) = (markOf l).take i ++ ((markOf l)[i] ^^^ d) :: (markOf l).drop (i + 1) := by
    rw [List.set_eq_take_append_cons_drop, if_pos hi]
    simp [hi]
  rw [hs]
  exact turned_byte l _ _ _ d hm hd

theorem getD_left (a b : List UInt8) (i : Nat) (h : i < a.length) : (a ++ b).getD i 0 = a.getD i 0 := by
  rw [List.getD_eq_getElem?_getD, List.getD_eq_getElem?_getD, List.getElem?_append_left h]
theorem getD_right (a b : List UInt8) (i : Nat) (h : a.length ≤ i) : (a ++ b).getD i 0 = b.getD (i - a.length) 0 := by
  rw [List.getD_eq_getElem?_getD, List.getD_eq_getElem?_getD, List.getElem?_append_right h]
theorem sE_turned (k : UInt8) (l more : List UInt8) (i : Nat) (d : UInt8) (h : l.length ≤ 1048576) (hi : i < l.length + 13) (hd : d ≠ 0) :
    sE ((frameOf k l).set i ((frameOf k l).getD i 0 ^^^ d) ++ more) = 5 := by
  have hA : (markOf (k :: four (UInt32.ofNat l.length))).length = 9 := by rw [markOf_length]; rfl
  have hB : (markOf l).length = l.length + 4 := markOf_length l
  unfold frameOf
  rcases Nat.lt_or_ge i 9 with h9 | h9
  · have e1 : (markOf (k :: four (UInt32.ofNat l.length)) ++ markOf l).set i ((markOf (k :: four (UInt32.ofNat l.length)) ++ markOf l).getD i 0 ^^^ d)
        = (markOf (k :: four (UInt32.ofNat l.length))).set i ((markOf (k :: four (UInt32.ofNat l.length))).getD i 0 ^^^ d) ++ markOf l := by
      rw [List.set_append_left _ _ (by omega), getD_left _ _ _ (by omega)]
    have ht := turned_set (k :: four (UInt32.ofNat l.length)) i d (by omega) hd
    rw [e1, List.append_assoc]
    unfold sE
    rw [if_neg (by simp [hA]), List.take_left' (by simp [hA]), ht, if_pos rfl]
  · have e1 : (markOf (k :: four (UInt32.ofNat l.length)) ++ markOf l).set i ((markOf (k :: four (UInt32.ofNat l.length)) ++ markOf l).getD i 0 ^^^ d)
        = markOf (k :: four (UInt32.ofNat l.length)) ++ (markOf l).set (i - 9) ((markOf l).getD (i - 9) 0 ^^^ d) := by
      rw [List.set_append_right _ _ (by omega), getD_right _ _ _ (by omega), hA]
    have ht := turned_set l (i - 9) d (by omega) hd
    rw [e1, List.append_assoc]
    have hs : sLen (markOf (k :: four (UInt32.ofNat l.length)) ++ ((markOf l).set (i - 9) ((markOf l).getD (i - 9) 0 ^^^ d) ++ more)) = l.length := by
      have : markOf (k :: four (UInt32.ofNat l.length)) ++ ((markOf l).set (i - 9) ((markOf l).getD (i - 9) 0 ^^^ d) ++ more) = k :: four (UInt32.ofNat l.length) ++ (four (crcOf (k :: four (UInt32.ofNat l.length))) ++ ((markOf l).set (i - 9) ((markOf l).getD (i - 9) 0 ^^^ d) ++ more)) := by simp [markOf]
      rw [this, sLen_head _ _ _ (by omega)]
    unfold sE
    rw [hs, if_neg (by simp [hA]), List.take_left' hA, fitsB_mark, if_neg (by simp), if_neg (by omega), if_neg (by simp [hA, hB]; omega), List.drop_left' hA, List.take_left' (by simp [hB]), ht]
    rfl
end Go.Proofs.Ythfnikdapknohaa

namespace Go.Proofs.Ythfnikdapknohaa
set_option linter.unusedSimpArgs false
set_option linter.unusedVariables false
open Go.RowKit

theorem numR_nil (most : Nat) : numR most [] = (0, [], 2) := rfl
theorem plines_bad (b : List UInt8) (h : sE b ≠ 0) : plines b = [] := by
  unfold plines sL
  rw [if_neg h, numS_zero, numR_nil]
  rfl
theorem notSh_bad (b : List UInt8) (h : sE b ≠ 0) : ¬ isSh b := fun hi => h hi.1
/-- cut bytes aren't a shard's -/
theorem sE_cut (l : List GRow) (k : Nat) (h : newE none l = 0) (hs : rsz l ≤ 20000) (hk : k < (senc l).length) : sE ((senc l).take k) ≠ 0 := by
  have hb := sbody_len l h hs
  have hl : (senc l).length = (sbody l).length + 13 := by rw [senc, frameOf_length]
  have hlen : ((senc l).take k).length = k := by rw [List.length_take]; omega
  unfold sE
  rw [hlen]
  by_cases h9 : k < 9
  · rw [if_pos h9]; simp
  · rw [if_neg h9]
    have hn : sLen ((senc l).take k) = (sbody l).length := by
      have h1 := sLen_frame 83 (sbody l) [] (by omega)
      rw [List.append_nil] at h1
      rw [← h1]
      unfold sLen senc
      simp only [List.getD_eq_getElem?_getD]
      rw [List.getElem?_take_of_lt (by omega), List.getElem?_take_of_lt (by omega), List.getElem?_take_of_lt (by omega), List.getElem?_take_of_lt (by omega)]
    rw [hn]
    split
    · simp
    · split
      · simp
      · rw [if_pos (by omega)]; simp
/-- nor are bytes with more behind -/
theorem sh_more (l : List GRow) (m : List UInt8) (h : newE none l = 0) (hs : rsz l ≤ 20000) (hm : m ≠ []) : ¬ isSh (senc l ++ m) := by
  intro hi
  have hb := sbody_len l h hs
  have h2 := hi.2.1
  rw [senc, sN_frame 83 (sbody l) m (by omega), List.length_append, frameOf_length] at h2
  have := List.length_pos_iff.2 hm
  omega
theorem plines_more (l : List GRow) (m : List UInt8) (h : newE none l = 0) (hs : rsz l ≤ 20000) : plines (senc l ++ m) = withT l := by
  have hb := sbody_len l h hs
  have h4 : sL (senc l ++ m) = sbody l := by rw [senc, sL_frame 83 (sbody l) m (by omega)]
  have hn : l.length ≤ (senc l ++ m).length ∧ l.length < 18446744073709551616 := by
    have h1 := rsz_len l
    have h2 : l.length ≤ (rowsB 0 l).length := by
      have : ∀ (l : List GRow) (n : Nat), l.length ≤ (rowsB n l).length := by
        intro l
        induction l with
        | nil => intro n; simp
        | cons a t ih =>
          intro n
          have := ih (a.fr.toNat + 1)
          have := (vput_len64 (a.fr.toNat - n) (by have := u32_lt a.fr; omega)).1
          simp only [rowsB, row1, List.length_append, List.length_cons]
          omega
      exact this l 0
    rw [List.length_append, senc_len]
    omega
  unfold plines
  rw [h4, numS_zero, sbody, numR_vput _ _ _ hn.2 hn.1]
  have := prows_ok l none [] [] h (by omega)
  simp only [lowP, List.append_nil, List.nil_append] at this
  simp only
  rw [this]
/-- nor are turned bytes -/
theorem sh_turned (l : List GRow) (i : Nat) (d : UInt8) (h : newE none l = 0) (hs : rsz l ≤ 20000) (hi : i < (senc l).length) (hd : d ≠ 0) :
    sE ((senc l).set i ((senc l).getD i 0 ^^^ d)) ≠ 0 := by
  have hb := sbody_len l h hs
  have hl : (senc l).length = (sbody l).length + 13 := by rw [senc, frameOf_length]
  have h1 := sE_turned 83 (sbody l) [] i d (by omega) (by omega) hd
  rw [List.append_nil] at h1
  unfold senc
  rw [h1]
  decide
end Go.Proofs.Ythfnikdapknohaa

namespace Go.Proofs.Ythfnikdapknohaa.shardTurned
open Go.Proofs.Ythfnikdapknohaa
open Go.ChangeShapes Go.WideShapes Go.ChangeAt Go.RowKit
set_option linter.unusedVariables false
set_option linter.unusedSimpArgs false

theorem own : ownKnob Try.prog.godebug = none := by kernel_rfl
theorem laidOut : laidOutB Try.prog = true := by kernel_rfl

set_option maxRecDepth 100000 in
set_option maxHeartbeats 40000000 in
theorem walk0 (v0 : Value) (l : List GRow) (at_ : Int) (by_ : UInt8) (cut : Int) (vm : Value) (m : List UInt8) (w : World) (hr : ByRw w w.heap.size v0 l) (hm : By w w.heap.size vm m) (wat : (Lit.int .i64 at_).wf = true) (wcut : (Lit.int .i64 cut).wf = true) :
    Calls Try.prog 5 #[v0, .int .i64 at_, .int .u8 (by_.toNat : Int), .int .i64 cut, vm] w fun e w' => e = .returned (.bool true) ∧ Below w.heap.size w w' := by
  obtain ⟨A, c, rfl, hc1, hc2⟩ := hr.form
  obtain ⟨Am, cm, rfl, hcm1, hcm2, _⟩ := id hm
  unfold maxLen at hc2 hcm2
  have hat := i64_of_wf wat
  have hct := i64_of_wf wcut
  clear wat wcut
  have hfew := few_any w w.heap.size _ l hr
  go_enter Try.func5, Try.ntmps5
  go_wp2_with fail
  refine hfew.mono ?_
  rintro _ _ ⟨rfl, rfl⟩
  clear hfew
  cases hf : fewR l with
  | false =>
    go_wp2_with (go_at_call 12; refine (awake23 _).mono ?_; rintro e wa ⟨rfl, hba⟩)
    go_ret
    exact ⟨rfl, hba⟩
  | true =>
    have hsz := fewR_rsz l hf
    clear hf
    by_cases hm100 : 100 < m.length
    · have hd2 : decide (100 < (m.length : Int)) = true := decide_eq_true (by omega)
      go_wp2_with (go_at_call 12; refine (awake23 _).mono ?_; rintro e wa ⟨rfl, hba⟩)
      go_ret
      exact ⟨rfl, hba⟩
    by_cases hl0 : l.length = 0
    · have hd0 : ((l.length : Int) == 0) = true := beq_iff_eq.2 (by omega)
      go_wp2_with (go_at_call 12; refine (awake23 _).mono ?_; rintro e wa ⟨rfl, hba⟩)
      go_ret
      exact ⟨rfl, hba⟩
    have hd0 : ((l.length : Int) == 0) = false := beq_eq_false_iff_ne.2 (by omega)
    have hd1 : (l.length == 0) = false := beq_eq_false_iff_ne.2 (by omega)
    have hd2 : decide (100 < (m.length : Int)) = false := decide_eq_false (by omega)
    have hlz : l ≠ [] := fun e => hl0 (by rw [e]; rfl)
    have hnew := rnew_any w w.heap.size (.slice A l.length c) l (by omega) hr
    have hput := fun q => shput_any (w.drewN q) w.heap.size (.slice A l.length c) l (by omega) (show ByRw (w.drewN q) w.heap.size (.slice A l.length c) l from hr) (Nat.le_refl _)
    have hE : shE l = newE none l := if_neg hlz
    have Hnew := Lib.hid hnew
    have Hput := Lib.hid hput
    have HM0 := Lib.hid hm
    have Hlz := Lib.hid hlz
    clear hnew hput hr hm hlz
    go_wp2_with fail
    refine Hnew.out.mono ?_
    rintro _ _ ⟨rfl, q, rfl⟩
    clear Hnew
    by_cases hn : newE none l = 0
    · rw [hn]
      go_wp2_with fail
      refine (Hput.out q).mono ?_
      rintro _ w3 ⟨v3, rfl, hn3, ho3, hb3⟩
      rw [hE, hn] at ho3 hn3 ⊢
      have ho := ho3 rfl
      have HB := Lib.hid (bstep (bdrewN (Below.refl _ _) q) hb3)
      have HM := Lib.hid (HM0.out.step HB.out)
      have hslen : (senc l).length ≤ 99900 := by
        have h1 := rowsB_len l none 0 hn (by omega)
        have h2 := vput_len64 l.length (by omega)
        rw [senc_len]; omega
      have hsp : 0 < (senc l).length := by rw [senc_len]; omega
      have Hcut := Lib.hid (fun k hk => sE_cut l k hn (by omega) hk)
      have Hmore := Lib.hid (fun hm0 => sh_more l m hn (by omega) hm0)
      have Hmorel : Hid (rsz (rowsOf (plines (senc l ++ m))) ≤ 20000) := Lib.hid (by rw [plines_more l m hn (by omega), rowsOf_withT]; omega)
      have Hturn := Lib.hid (fun i d hi hd => sh_turned l i d hn (by omega) hi hd)
      clear hn3 ho3 hE hb3 hn Hput HM0
      obtain ⟨A3, c3, rfl, hd1, hd2, hf2⟩ := ho.form_
      obtain ⟨g, rfl, hg1, hg2⟩ := hf2 hsp
      unfold maxLen at hd2
      have hg1 : w.heap.size ≤ g := hg1
      have HO : Hid (Ow w3 w.heap.size (.slice (some ⟨g, 0, none⟩) (senc l).length c3) (senc l)) := Lib.hid ho
      clear ho hf2
      generalize senc l = s at *
      by_cases hc0 : cut < 0
      · by_cases hm0 : m = []
        · subst hm0
          clear Hmore Hmorel
          go_upto_region 14 with fail
          by_cases hneg : at_ < 0
          · go_wp2_with (go_at_call 12; refine (awake23 _).mono ?_; rintro e wa ⟨rfl, hba⟩)
            go_ret
            exact ⟨rfl, bstep HB.out hba⟩
          obtain ⟨i, rfl⟩ : ∃ i : Nat, at_ = (i : Int) := ⟨at_.toNat, by omega⟩
          by_cases hge : s.length ≤ i
          · go_wp2_with (go_at_call 12; refine (awake23 _).mono ?_; rintro e wa ⟨rfl, hba⟩)
            go_ret
            exact ⟨rfl, bstep HB.out hba⟩
          by_cases hby : by_ = 0
          · subst hby
            rw [show ((((0 : UInt8)).toNat : Nat) : Int) = 0 from rfl]
            go_wp2_with (go_at_call 12; refine (awake23 _).mono ?_; rintro e wa ⟨rfl, hba⟩)
            go_ret
            exact ⟨rfl, bstep HB.out hba⟩
          have hbyn : ¬ ((by_.toNat : Int) = 0) := fun e => hby (UInt8.toNat_inj.1 (by simpa using e))
          have hbyd : ((by_.toNat : Int) == 0) = false := by simpa using hbyn
          have hi : i < s.length := by omega
          obtain ⟨b, hbb⟩ : ∃ b, s[i]? = some b := ⟨_, List.getElem?_eq_getElem hi⟩
          have hcell := HO.out.cell_ rfl i b hbb
          have hfr := HO.out.frozenAt rfl i
          have hput := HO.out.put_ rfl i (b ^^^ by_)
          have hxor := xor_u8 b by_
          have herr := Hturn.out i by_ hi hby
          rw [List.getD_eq_getElem?_getD, hbb, Option.getD_some] at herr
          have hsl' : (s.set i (b ^^^ by_)).length = s.length := by rw [List.length_set]
          have hbP : Below w.heap.size w (w3.setCell ⟨g, i, none⟩ (.int .u8 ((b ^^^ by_).toNat : Int))) :=
            ⟨HB.out.os, HB.out.tape, HB.out.output, by have := HB.out.size; simpa [World.setCell] using this, fun j hj => (Below.heap_setCell _ _ _ j (by show j ≠ g; omega)).trans (HB.out.block j hj)⟩
          have hget := shget_any (w3.setCell ⟨g, i, none⟩ (.int .u8 ((b ^^^ by_).toNat : Int))) (.slice (some ⟨g, 0, none⟩) s.length c3) (s.set i (b ^^^ by_)) hput.by_ (by rw [hsl']; omega) (by rw [plines_bad _ herr]; decide)
          have Hget := Lib.hid hget
          have Hnot := Lib.hid (notSh_bad _ herr)
          have HbP := Lib.hid hbP
          clear hget herr hput hbb hsl' hbP
          generalize b ^^^ by_ = b' at *
          generalize s.set i b' = s' at *
          go_wp2_with fail
          refine Hget.out.mono ?_
          rintro _ w9 ⟨hb9, ⟨his, _⟩ | ⟨_, rfl⟩⟩
          · exact absurd his Hnot.out
          have HB9 := Lib.hid (bstep HbP.out hb9)
          clear hb9 hcell hfr hxor
          go_wp2_with (go_at_call 12; refine (awake23 _).mono ?_; rintro e wa ⟨rfl, hba⟩)
          go_ret
          exact ⟨rfl, bstep HB9.out hba⟩
        have hmp : m ≠ [] := hm0
        have hmq : 0 < m.length := List.length_pos_iff.2 hm0
        have Hnm := Lib.hid (Hmore.out hmp)
        have Hze : Hid (w3.heap.size ≤ (w3.alloc (.cells #[] 5)).heap.size) := by show w3.heap.size ≤ _; simp
        have HoE : Hid (Ow (w3.alloc (.cells #[] 5)) w3.heap.size (.slice (some ⟨w3.heap.size, 0, none⟩) 0 0) []) := Lib.hid (Ow.new_ w3 [] (Nat.zero_le _))
        have ByE := Lib.hid (HO.out.by_.below (balloc w3 (.cells #[] 5)))
        have ByM := Lib.hid (HM.out.below (balloc w3 (.cells #[] 5)))
        go_wp2_with (first
          | (at_builtin
             refine wpList_app8 rfl (.tmp 70) (.tmp 71) rfl HoE.out ByE.out rfl rfl (by simp; omega) Hze.out ?_
             intro v5 w5 ho5 hx5
             rw [List.nil_append] at ho5
             have hbx5 := hx5.below Hze.out (fun q hq => (HoE.out.blk q hq).1)
             have Hb5 := Lib.hid ((balloc w3 (.cells #[] 5)).trans hbx5)
             have Hs5 := Lib.hid (Nat.le_trans Hze.out hbx5.size)
             have ByM5 := Lib.hid (ByM.out.below hbx5)
             have Ho5 := Lib.hid ho5
             obtain ⟨A5, c5, hv5, -, -, -⟩ := ho5.form_
             clear ho5 hx5 hbx5
             subst hv5)
          | (at_builtin
             refine wpList_app8 rfl (.tmp 72) (.tmp 73) rfl Ho5.out ByM5.out rfl rfl (by omega) Hs5.out ?_
             intro v6 w6 ho6 hx6
             have hbx6 := hx6.below Hs5.out (fun q hq => (Ho5.out.blk q hq).1)
             have Hb6 := Lib.hid (Hb5.out.trans hbx6)
             have Ho6 := Lib.hid ho6
             obtain ⟨A6, c6, hv6, -, -, -⟩ := ho6.form_
             clear ho6 hx6 hbx6
             rw [List.length_append] at hv6
             subst hv6))
        have hget6 := shget_any w6 (.slice A6 (s.length + m.length) c6) (s ++ m) Ho6.out.by_ (by rw [List.length_append]; omega) Hmorel.out
        refine hget6.mono ?_
        rintro _ w7 ⟨hb7, ⟨his, _⟩ | ⟨_, rfl⟩⟩
        · exact absurd his Hnm.out
        clear hget6
        have HB' := Lib.hid (bstep HB.out (bstep Hb6.out hb7))
        have HO' := Lib.hid (HO.out.below_ (bstep Hb6.out hb7))
        clear hb7 Hb6 Hb5 Ho6 Ho5 ByM5 HoE ByE ByM Hze Hs5 Hnm HB HO HM hmp hmq hm0
        have HB := HB'
        have HO := HO'
        clear HB' HO'
        go_upto_region 14 with fail
        by_cases hneg : at_ < 0
        · go_wp2_with (go_at_call 12; refine (awake23 _).mono ?_; rintro e wa ⟨rfl, hba⟩)
          go_ret
          exact ⟨rfl, bstep HB.out hba⟩
        obtain ⟨i, rfl⟩ : ∃ i : Nat, at_ = (i : Int) := ⟨at_.toNat, by omega⟩
        by_cases hge : s.length ≤ i
        · go_wp2_with (go_at_call 12; refine (awake23 _).mono ?_; rintro e wa ⟨rfl, hba⟩)
          go_ret
          exact ⟨rfl, bstep HB.out hba⟩
        by_cases hby : by_ = 0
        · subst hby
          rw [show ((((0 : UInt8)).toNat : Nat) : Int) = 0 from rfl]
          go_wp2_with (go_at_call 12; refine (awake23 _).mono ?_; rintro e wa ⟨rfl, hba⟩)
          go_ret
          exact ⟨rfl, bstep HB.out hba⟩
        have hbyn : ¬ ((by_.toNat : Int) = 0) := fun e => hby (UInt8.toNat_inj.1 (by simpa using e))
        have hbyd : ((by_.toNat : Int) == 0) = false := by simpa using hbyn
        have hi : i < s.length := by omega
        obtain ⟨b, hbb⟩ : ∃ b, s[i]? = some b := ⟨_, List.getElem?_eq_getElem hi⟩
        have hcell := HO.out.cell_ rfl i b hbb
        have hfr := HO.out.frozenAt rfl i
        have hput := HO.out.put_ rfl i (b ^^^ by_)
        have hxor := xor_u8 b by_
        have herr := Hturn.out i by_ hi hby
        rw [List.getD_eq_getElem?_getD, hbb, Option.getD_some] at herr
        have hsl' : (s.set i (b ^^^ by_)).length = s.length := by rw [List.length_set]
        have hbP : Below w.heap.size w (w7.setCell ⟨g, i, none⟩ (.int .u8 ((b ^^^ by_).toNat : Int))) :=
          ⟨HB.out.os, HB.out.tape, HB.out.output, by have := HB.out.size; simpa [World.setCell] using this, fun j hj => (Below.heap_setCell _ _ _ j (by show j ≠ g; omega)).trans (HB.out.block j hj)⟩
        have hget := shget_any (w7.setCell ⟨g, i, none⟩ (.int .u8 ((b ^^^ by_).toNat : Int))) (.slice (some ⟨g, 0, none⟩) s.length c3) (s.set i (b ^^^ by_)) hput.by_ (by rw [hsl']; omega) (by rw [plines_bad _ herr]; decide)
        have Hget := Lib.hid hget
        have Hnot := Lib.hid (notSh_bad _ herr)
        have HbP := Lib.hid hbP
        clear hget herr hput hbb hsl' hbP
        generalize b ^^^ by_ = b' at *
        generalize s.set i b' = s' at *
        go_wp2_with fail
        refine Hget.out.mono ?_
        rintro _ w9 ⟨hb9, ⟨his, _⟩ | ⟨_, rfl⟩⟩
        · exact absurd his Hnot.out
        have HB9 := Lib.hid (bstep HbP.out hb9)
        clear hb9 hcell hfr hxor
        go_wp2_with (go_at_call 12; refine (awake23 _).mono ?_; rintro e wa ⟨rfl, hba⟩)
        go_ret
        exact ⟨rfl, bstep HB9.out hba⟩
      obtain ⟨k, rfl⟩ : ∃ k : Nat, cut = (k : Int) := ⟨cut.toNat, by omega⟩
      by_cases hck : s.length ≤ k
      · by_cases hm0 : m = []
        · subst hm0
          clear Hmore Hmorel
          go_upto_region 14 with fail
          by_cases hneg : at_ < 0
          · go_wp2_with (go_at_call 12; refine (awake23 _).mono ?_; rintro e wa ⟨rfl, hba⟩)
            go_ret
            exact ⟨rfl, bstep HB.out hba⟩
          obtain ⟨i, rfl⟩ : ∃ i : Nat, at_ = (i : Int) := ⟨at_.toNat, by omega⟩
          by_cases hge : s.length ≤ i
          · go_wp2_with (go_at_call 12; refine (awake23 _).mono ?_; rintro e wa ⟨rfl, hba⟩)
            go_ret
            exact ⟨rfl, bstep HB.out hba⟩
          by_cases hby : by_ = 0
          · subst hby
            rw [show ((((0 : UInt8)).toNat : Nat) : Int) = 0 from rfl]
            go_wp2_with (go_at_call 12; refine (awake23 _).mono ?_; rintro e wa ⟨rfl, hba⟩)
            go_ret
            exact ⟨rfl, bstep HB.out hba⟩
          have hbyn : ¬ ((by_.toNat : Int) = 0) := fun e => hby (UInt8.toNat_inj.1 (by simpa using e))
          have hbyd : ((by_.toNat : Int) == 0) = false := by simpa using hbyn
          have hi : i < s.length := by omega
          obtain ⟨b, hbb⟩ : ∃ b, s[i]? = some b := ⟨_, List.getElem?_eq_getElem hi⟩
          have hcell := HO.out.cell_ rfl i b hbb
          have hfr := HO.out.frozenAt rfl i
          have hput := HO.out.put_ rfl i (b ^^^ by_)
          have hxor := xor_u8 b by_
          have herr := Hturn.out i by_ hi hby
          rw [List.getD_eq_getElem?_getD, hbb, Option.getD_some] at herr
          have hsl' : (s.set i (b ^^^ by_)).length = s.length := by rw [List.length_set]
          have hbP : Below w.heap.size w (w3.setCell ⟨g, i, none⟩ (.int .u8 ((b ^^^ by_).toNat : Int))) :=
            ⟨HB.out.os, HB.out.tape, HB.out.output, by have := HB.out.size; simpa [World.setCell] using this, fun j hj => (Below.heap_setCell _ _ _ j (by show j ≠ g; omega)).trans (HB.out.block j hj)⟩
          have hget := shget_any (w3.setCell ⟨g, i, none⟩ (.int .u8 ((b ^^^ by_).toNat : Int))) (.slice (some ⟨g, 0, none⟩) s.length c3) (s.set i (b ^^^ by_)) hput.by_ (by rw [hsl']; omega) (by rw [plines_bad _ herr]; decide)
          have Hget := Lib.hid hget
          have Hnot := Lib.hid (notSh_bad _ herr)
          have HbP := Lib.hid hbP
          clear hget herr hput hbb hsl' hbP
          generalize b ^^^ by_ = b' at *
          generalize s.set i b' = s' at *
          go_wp2_with fail
          refine Hget.out.mono ?_
          rintro _ w9 ⟨hb9, ⟨his, _⟩ | ⟨_, rfl⟩⟩
          · exact absurd his Hnot.out
          have HB9 := Lib.hid (bstep HbP.out hb9)
          clear hb9 hcell hfr hxor
          go_wp2_with (go_at_call 12; refine (awake23 _).mono ?_; rintro e wa ⟨rfl, hba⟩)
          go_ret
          exact ⟨rfl, bstep HB9.out hba⟩
        have hmp : m ≠ [] := hm0
        have hmq : 0 < m.length := List.length_pos_iff.2 hm0
        have Hnm := Lib.hid (Hmore.out hmp)
        have Hze : Hid (w3.heap.size ≤ (w3.alloc (.cells #[] 5)).heap.size) := by show w3.heap.size ≤ _; simp
        have HoE : Hid (Ow (w3.alloc (.cells #[] 5)) w3.heap.size (.slice (some ⟨w3.heap.size, 0, none⟩) 0 0) []) := Lib.hid (Ow.new_ w3 [] (Nat.zero_le _))
        have ByE := Lib.hid (HO.out.by_.below (balloc w3 (.cells #[] 5)))
        have ByM := Lib.hid (HM.out.below (balloc w3 (.cells #[] 5)))
        go_wp2_with (first
          | (at_builtin
             refine wpList_app8 rfl (.tmp 70) (.tmp 71) rfl HoE.out ByE.out rfl rfl (by simp; omega) Hze.out ?_
             intro v5 w5 ho5 hx5
             rw [List.nil_append] at ho5
             have hbx5 := hx5.below Hze.out (fun q hq => (HoE.out.blk q hq).1)
             have Hb5 := Lib.hid ((balloc w3 (.cells #[] 5)).trans hbx5)
             have Hs5 := Lib.hid (Nat.le_trans Hze.out hbx5.size)
             have ByM5 := Lib.hid (ByM.out.below hbx5)
             have Ho5 := Lib.hid ho5
             obtain ⟨A5, c5, hv5, -, -, -⟩ := ho5.form_
             clear ho5 hx5 hbx5
             subst hv5)
          | (at_builtin
             refine wpList_app8 rfl (.tmp 72) (.tmp 73) rfl Ho5.out ByM5.out rfl rfl (by omega) Hs5.out ?_
             intro v6 w6 ho6 hx6
             have hbx6 := hx6.below Hs5.out (fun q hq => (Ho5.out.blk q hq).1)
             have Hb6 := Lib.hid (Hb5.out.trans hbx6)
             have Ho6 := Lib.hid ho6
             obtain ⟨A6, c6, hv6, -, -, -⟩ := ho6.form_
             clear ho6 hx6 hbx6
             rw [List.length_append] at hv6
             subst hv6))
        have hget6 := shget_any w6 (.slice A6 (s.length + m.length) c6) (s ++ m) Ho6.out.by_ (by rw [List.length_append]; omega) Hmorel.out
        refine hget6.mono ?_
        rintro _ w7 ⟨hb7, ⟨his, _⟩ | ⟨_, rfl⟩⟩
        · exact absurd his Hnm.out
        clear hget6
        have HB' := Lib.hid (bstep HB.out (bstep Hb6.out hb7))
        have HO' := Lib.hid (HO.out.below_ (bstep Hb6.out hb7))
        clear hb7 Hb6 Hb5 Ho6 Ho5 ByM5 HoE ByE ByM Hze Hs5 Hnm HB HO HM hmp hmq hm0
        have HB := HB'
        have HO := HO'
        clear HB' HO'
        go_upto_region 14 with fail
        by_cases hneg : at_ < 0
        · go_wp2_with (go_at_call 12; refine (awake23 _).mono ?_; rintro e wa ⟨rfl, hba⟩)
          go_ret
          exact ⟨rfl, bstep HB.out hba⟩
        obtain ⟨i, rfl⟩ : ∃ i : Nat, at_ = (i : Int) := ⟨at_.toNat, by omega⟩
        by_cases hge : s.length ≤ i
        · go_wp2_with (go_at_call 12; refine (awake23 _).mono ?_; rintro e wa ⟨rfl, hba⟩)
          go_ret
          exact ⟨rfl, bstep HB.out hba⟩
        by_cases hby : by_ = 0
        · subst hby
          rw [show ((((0 : UInt8)).toNat : Nat) : Int) = 0 from rfl]
          go_wp2_with (go_at_call 12; refine (awake23 _).mono ?_; rintro e wa ⟨rfl, hba⟩)
          go_ret
          exact ⟨rfl, bstep HB.out hba⟩
        have hbyn : ¬ ((by_.toNat : Int) = 0) := fun e => hby (UInt8.toNat_inj.1 (by simpa using e))
        have hbyd : ((by_.toNat : Int) == 0) = false := by simpa using hbyn
        have hi : i < s.length := by omega
        obtain ⟨b, hbb⟩ : ∃ b, s[i]? = some b := ⟨_, List.getElem?_eq_getElem hi⟩
        have hcell := HO.out.cell_ rfl i b hbb
        have hfr := HO.out.frozenAt rfl i
        have hput := HO.out.put_ rfl i (b ^^^ by_)
        have hxor := xor_u8 b by_
        have herr := Hturn.out i by_ hi hby
        rw [List.getD_eq_getElem?_getD, hbb, Option.getD_some] at herr
        have hsl' : (s.set i (b ^^^ by_)).length = s.length := by rw [List.length_set]
        have hbP : Below w.heap.size w (w7.setCell ⟨g, i, none⟩ (.int .u8 ((b ^^^ by_).toNat : Int))) :=
          ⟨HB.out.os, HB.out.tape, HB.out.output, by have := HB.out.size; simpa [World.setCell] using this, fun j hj => (Below.heap_setCell _ _ _ j (by show j ≠ g; omega)).trans (HB.out.block j hj)⟩
        have hget := shget_any (w7.setCell ⟨g, i, none⟩ (.int .u8 ((b ^^^ by_).toNat : Int))) (.slice (some ⟨g, 0, none⟩) s.length c3) (s.set i (b ^^^ by_)) hput.by_ (by rw [hsl']; omega) (by rw [plines_bad _ herr]; decide)
        have Hget := Lib.hid hget
        have Hnot := Lib.hid (notSh_bad _ herr)
        have HbP := Lib.hid hbP
        clear hget herr hput hbb hsl' hbP
        generalize b ^^^ by_ = b' at *
        generalize s.set i b' = s' at *
        go_wp2_with fail
        refine Hget.out.mono ?_
        rintro _ w9 ⟨hb9, ⟨his, _⟩ | ⟨_, rfl⟩⟩
        · exact absurd his Hnot.out
        have HB9 := Lib.hid (bstep HbP.out hb9)
        clear hb9 hcell hfr hxor
        go_wp2_with (go_at_call 12; refine (awake23 _).mono ?_; rintro e wa ⟨rfl, hba⟩)
        go_ret
        exact ⟨rfl, bstep HB9.out hba⟩
      have hk : k < s.length := by omega
      have hse := Hcut.out k hk
      have hgetk := shget_any w3 (.slice (some ⟨g, 0, none⟩) k c3) (s.take k) (HO.out.by_.front_ (by omega)) (by rw [List.length_take]; omega) (by rw [plines_bad _ hse]; decide)
      have hlk : (s.take k).length = k := by rw [List.length_take]; omega
      have Hgetk := Lib.hid hgetk
      have Hnk := Lib.hid (notSh_bad _ hse)
      clear hgetk hse hlk
      go_wp2_with fail
      refine Hgetk.out.mono ?_
      rintro _ w4 ⟨hb4, ⟨his, _⟩ | ⟨_, rfl⟩⟩
      · exact absurd his Hnk.out
      have HB' := Lib.hid (bstep HB.out hb4)
      have HO' := Lib.hid (HO.out.below_ hb4)
      have HM' := Lib.hid (HM.out.step hb4)
      clear hb4 HB HO HM Hgetk Hnk
      have HB := HB'
      have HO := HO'
      have HM := HM'
      clear HB' HO' HM'
      by_cases hm0 : m = []
      · subst hm0
        clear Hmore Hmorel
        go_upto_region 14 with fail
        by_cases hneg : at_ < 0
        · go_wp2_with (go_at_call 12; refine (awake23 _).mono ?_; rintro e wa ⟨rfl, hba⟩)
          go_ret
          exact ⟨rfl, bstep HB.out hba⟩
        obtain ⟨i, rfl⟩ : ∃ i : Nat, at_ = (i : Int) := ⟨at_.toNat, by omega⟩
        by_cases hge : s.length ≤ i
        · go_wp2_with (go_at_call 12; refine (awake23 _).mono ?_; rintro e wa ⟨rfl, hba⟩)
          go_ret
          exact ⟨rfl, bstep HB.out hba⟩
        by_cases hby : by_ = 0
        · subst hby
          rw [show ((((0 : UInt8)).toNat : Nat) : Int) = 0 from rfl]
          go_wp2_with (go_at_call 12; refine (awake23 _).mono ?_; rintro e wa ⟨rfl, hba⟩)
          go_ret
          exact ⟨rfl, bstep HB.out hba⟩
        have hbyn : ¬ ((by_.toNat : Int) = 0) := fun e => hby (UInt8.toNat_inj.1 (by simpa using e))
        have hbyd : ((by_.toNat : Int) == 0) = false := by simpa using hbyn
        have hi : i < s.length := by omega
        obtain ⟨b, hbb⟩ : ∃ b, s[i]? = some b := ⟨_, List.getElem?_eq_getElem hi⟩
        have hcell := HO.out.cell_ rfl i b hbb
        have hfr := HO.out.frozenAt rfl i
        have hput := HO.out.put_ rfl i (b ^^^ by_)
        have hxor := xor_u8 b by_
        have herr := Hturn.out i by_ hi hby
        rw [List.getD_eq_getElem?_getD, hbb, Option.getD_some] at herr
        have hsl' : (s.set i (b ^^^ by_)).length = s.length := by rw [List.length_set]
        have hbP : Below w.heap.size w (w4.setCell ⟨g, i, none⟩ (.int .u8 ((b ^^^ by_).toNat : Int))) :=
          ⟨HB.out.os, HB.out.tape, HB.out.output, by have := HB.out.size; simpa [World.setCell] using this, fun j hj => (Below.heap_setCell _ _ _ j (by show j ≠ g; omega)).trans (HB.out.block j hj)⟩
        have hget := shget_any (w4.setCell ⟨g, i, none⟩ (.int .u8 ((b ^^^ by_).toNat : Int))) (.slice (some ⟨g, 0, none⟩) s.length c3) (s.set i (b ^^^ by_)) hput.by_ (by rw [hsl']; omega) (by rw [plines_bad _ herr]; decide)
        have Hget := Lib.hid hget
        have Hnot := Lib.hid (notSh_bad _ herr)
        have HbP := Lib.hid hbP
        clear hget herr hput hbb hsl' hbP
        generalize b ^^^ by_ = b' at *
        generalize s.set i b' = s' at *
        go_wp2_with fail
        refine Hget.out.mono ?_
        rintro _ w9 ⟨hb9, ⟨his, _⟩ | ⟨_, rfl⟩⟩
        · exact absurd his Hnot.out
        have HB9 := Lib.hid (bstep HbP.out hb9)
        clear hb9 hcell hfr hxor
        go_wp2_with (go_at_call 12; refine (awake23 _).mono ?_; rintro e wa ⟨rfl, hba⟩)
        go_ret
        exact ⟨rfl, bstep HB9.out hba⟩
      have hmp : m ≠ [] := hm0
      have hmq : 0 < m.length := List.length_pos_iff.2 hm0
      have Hnm := Lib.hid (Hmore.out hmp)
      have Hze : Hid (w4.heap.size ≤ (w4.alloc (.cells #[] 5)).heap.size) := by show w4.heap.size ≤ _; simp
      have HoE : Hid (Ow (w4.alloc (.cells #[] 5)) w4.heap.size (.slice (some ⟨w4.heap.size, 0, none⟩) 0 0) []) := Lib.hid (Ow.new_ w4 [] (Nat.zero_le _))
      have ByE := Lib.hid (HO.out.by_.below (balloc w4 (.cells #[] 5)))
      have ByM := Lib.hid (HM.out.below (balloc w4 (.cells #[] 5)))
      go_wp2_with (first
        | (at_builtin
           refine wpList_app8 rfl (.tmp 70) (.tmp 71) rfl HoE.out ByE.out rfl rfl (by simp; omega) Hze.out ?_
           intro v5 w5 ho5 hx5
           rw [List.nil_append] at ho5
           have hbx5 := hx5.below Hze.out (fun q hq => (HoE.out.blk q hq).1)
           have Hb5 := Lib.hid ((balloc w4 (.cells #[] 5)).trans hbx5)
           have Hs5 := Lib.hid (Nat.le_trans Hze.out hbx5.size)
           have ByM5 := Lib.hid (ByM.out.below hbx5)
           have Ho5 := Lib.hid ho5
           obtain ⟨A5, c5, hv5, -, -, -⟩ := ho5.form_
           clear ho5 hx5 hbx5
           subst hv5)
        | (at_builtin
           refine wpList_app8 rfl (.tmp 72) (.tmp 73) rfl Ho5.out ByM5.out rfl rfl (by omega) Hs5.out ?_
           intro v6 w6 ho6 hx6
           have hbx6 := hx6.below Hs5.out (fun q hq => (Ho5.out.blk q hq).1)
           have Hb6 := Lib.hid (Hb5.out.trans hbx6)
           have Ho6 := Lib.hid ho6
           obtain ⟨A6, c6, hv6, -, -, -⟩ := ho6.form_
           clear ho6 hx6 hbx6
           rw [List.length_append] at hv6
           subst hv6))
      have hget6 := shget_any w6 (.slice A6 (s.length + m.length) c6) (s ++ m) Ho6.out.by_ (by rw [List.length_append]; omega) Hmorel.out
      refine hget6.mono ?_
      rintro _ w7 ⟨hb7, ⟨his, _⟩ | ⟨_, rfl⟩⟩
      · exact absurd his Hnm.out
      clear hget6
      have HB' := Lib.hid (bstep HB.out (bstep Hb6.out hb7))
      have HO' := Lib.hid (HO.out.below_ (bstep Hb6.out hb7))
      clear hb7 Hb6 Hb5 Ho6 Ho5 ByM5 HoE ByE ByM Hze Hs5 Hnm HB HO HM hmp hmq hm0
      have HB := HB'
      have HO := HO'
      clear HB' HO'
      go_upto_region 14 with fail
      by_cases hneg : at_ < 0
      · go_wp2_with (go_at_call 12; refine (awake23 _).mono ?_; rintro e wa ⟨rfl, hba⟩)
        go_ret
        exact ⟨rfl, bstep HB.out hba⟩
      obtain ⟨i, rfl⟩ : ∃ i : Nat, at_ = (i : Int) := ⟨at_.toNat, by omega⟩
      by_cases hge : s.length ≤ i
      · go_wp2_with (go_at_call 12; refine (awake23 _).mono ?_; rintro e wa ⟨rfl, hba⟩)
        go_ret
        exact ⟨rfl, bstep HB.out hba⟩
      by_cases hby : by_ = 0
      · subst hby
        rw [show ((((0 : UInt8)).toNat : Nat) : Int) = 0 from rfl]
        go_wp2_with (go_at_call 12; refine (awake23 _).mono ?_; rintro e wa ⟨rfl, hba⟩)
        go_ret
        exact ⟨rfl, bstep HB.out hba⟩
      have hbyn : ¬ ((by_.toNat : Int) = 0) := fun e => hby (UInt8.toNat_inj.1 (by simpa using e))
      have hbyd : ((by_.toNat : Int) == 0) = false := by simpa using hbyn
      have hi : i < s.length := by omega
      obtain ⟨b, hbb⟩ : ∃ b, s[i]? = some b := ⟨_, List.getElem?_eq_getElem hi⟩
      have hcell := HO.out.cell_ rfl i b hbb
      have hfr := HO.out.frozenAt rfl i
      have hput := HO.out.put_ rfl i (b ^^^ by_)
      have hxor := xor_u8 b by_
      have herr := Hturn.out i by_ hi hby
      rw [List.getD_eq_getElem?_getD, hbb, Option.getD_some] at herr
      have hsl' : (s.set i (b ^^^ by_)).length = s.length := by rw [List.length_set]
      have hbP : Below w.heap.size w (w7.setCell ⟨g, i, none⟩ (.int .u8 ((b ^^^ by_).toNat : Int))) :=
        ⟨HB.out.os, HB.out.tape, HB.out.output, by have := HB.out.size; simpa [World.setCell] using this, fun j hj => (Below.heap_setCell _ _ _ j (by show j ≠ g; omega)).trans (HB.out.block j hj)⟩
      have hget := shget_any (w7.setCell ⟨g, i, none⟩ (.int .u8 ((b ^^^ by_).toNat : Int))) (.slice (some ⟨g, 0, none⟩) s.length c3) (s.set i (b ^^^ by_)) hput.by_ (by rw [hsl']; omega) (by rw [plines_bad _ herr]; decide)
      have Hget := Lib.hid hget
      have Hnot := Lib.hid (notSh_bad _ herr)
      have HbP := Lib.hid hbP
      clear hget herr hput hbb hsl' hbP
      generalize b ^^^ by_ = b' at *
      generalize s.set i b' = s' at *
      go_wp2_with fail
      refine Hget.out.mono ?_
      rintro _ w9 ⟨hb9, ⟨his, _⟩ | ⟨_, rfl⟩⟩
      · exact absurd his Hnot.out
      have HB9 := Lib.hid (bstep HbP.out hb9)
      clear hb9 hcell hfr hxor
      go_wp2_with (go_at_call 12; refine (awake23 _).mono ?_; rintro e wa ⟨rfl, hba⟩)
      go_ret
      exact ⟨rfl, bstep HB9.out hba⟩
    · have hn' : (newE none l == 0) = false := beq_eq_false_iff_ne.2 hn
      generalize newE none l = E at *
      go_wp2_with (go_at_call 12; refine (awake23 _).mono ?_; rintro e wa ⟨rfl, hba⟩)
      go_ret
      exact ⟨rfl, bstep (bdrewN (Below.refl _ _) q) hba⟩

theorem walk (v0 v1 v2 v3 v4 : Value) (w : World) (h0 : InC w 22 [v0]) (h1 : InC w 3 [v1]) (h2 : InC w 5 [v2]) (h3 : InC w 3 [v3]) (h4 : InC w 25 [v4]) :
    Calls Try.prog 5 #[v0, v1, v2, v3, v4] w fun e w' => e = .returned (.bool true) ∧ Below w.heap.size w w' := by
  obtain ⟨l, hr⟩ := h0.rows
  obtain ⟨m, hm⟩ := h4.bytes
  obtain ⟨n, e1, hn⟩ := h1.int Try.underlying3
  obtain ⟨k, e3, hk⟩ := h3.int Try.underlying3
  obtain ⟨b, e2, _⟩ := InC.u8 (S := fun _ => True) Try.underlying5 h2
  simp at e1 e2 e3
  subst e1; subst e2; subst e3
  exact walk0 v0 l n b k v4 m w hr hm hn hk

set_option maxRecDepth 100000 in
theorem lifted (os : Os) (started : os.Started) (H : Type) (enc : TypeId × Value → H) :
    ReturnsInHanded {} Try.checked os 5 .any (Rows.shardTurnedSpec.pre6 enc Try.prog Try.f5 Rows.shardTurnedRow.domain false) (Rows.shardTurnedSpec.post enc Try.prog Try.f5 false true false false) := by
  refine returnsInHanded_of_change (C := Try.checked) own started (by kernel_rfl) Try.func5
    (ChangeSpec.witness6 (enc := enc) (C := Try.checked) false ⟨#[], #[.slice none 0 0, .int .i64 0, .int .u8 0, .int .i64 0, .slice none 0 0], []⟩ 8 (by kernel_rfl) (by kernel_rfl) (by kernel_rfl) (by kernel_rfl)) ?_
  intro W base args ds gs before hval0 hW hcnd _
  have hval : ∀ (j : Nat) t v, Try.f5.params[j]? = some t → args[j]? = some v → Value.okWide Try.prog W .any base t v := hval0
  have hW' := hW
  obtain ⟨p, q, hA0, hV, rfl, hfz, hnd⟩ := hW
  have hA : DataW.TrodAll enc Try.prog W 0 (fun _ => true) true Try.f5.params.toList args.toList ds p := hA0
  rw [Try.params5] at hA hval
  obtain ⟨v0, vs0, d0, ds0, p0, q0, hargs, rfl, rfl, h0, r0⟩ := trodAll_cons hA
  obtain ⟨v1, vs1, d1, ds1, p1, q1, rfl, rfl, rfl, h1, r1⟩ := trodAll_cons r0
  obtain ⟨v2, vs2, d2, ds2, p2, q2, rfl, rfl, rfl, h2, r2⟩ := trodAll_cons r1
  obtain ⟨v3, vs3, d3, ds3, p3, q3, rfl, rfl, rfl, h3, r3⟩ := trodAll_cons r2
  obtain ⟨v4, vs4, d4, ds4, p4, q4, rfl, rfl, rfl, h4, r4⟩ := trodAll_cons r3
  obtain ⟨rfl, rfl, rfl⟩ := trodAll_nil r4
  obtain rfl : args = #[v0, v1, v2, v3, v4] := by cases args; simp_all
  obtain ⟨rfl, rfl⟩ := trodVars_none hV
  have k0 := h0
  have lt0 : ∀ x ∈ p0, x.block < W.heap.size := by obtain ⟨m, hm⟩ := k0; exact DataW.trod_lt m _ _ _ hm
  have i0 := InC.of h0
  obtain ⟨a0, len0, cap0, rfl⟩ := okWide_slice Try.underlying22 (hval 0 22 v0 rfl rfl)
  have j0 : InC W 22 [_] := i0
  have k1 := h1
  have lt1 : ∀ x ∈ p1, x.block < W.heap.size := by obtain ⟨m, hm⟩ := k1; exact DataW.trod_lt m _ _ _ hm
  have i1 := InC.of h1
  obtain ⟨a1, rfl⟩ := okWide_int Try.underlying3 (hval 1 3 v1 rfl rfl)
  have j1 : InC W 3 [_] := i1
  have k2 := h2
  have lt2 : ∀ x ∈ p2, x.block < W.heap.size := by obtain ⟨m, hm⟩ := k2; exact DataW.trod_lt m _ _ _ hm
  have i2 := InC.of h2
  obtain ⟨a2, rfl⟩ := okWide_int Try.underlying5 (hval 2 5 v2 rfl rfl)
  have j2 : InC W 5 [_] := i2
  have k3 := h3
  have lt3 : ∀ x ∈ p3, x.block < W.heap.size := by obtain ⟨m, hm⟩ := k3; exact DataW.trod_lt m _ _ _ hm
  have i3 := InC.of h3
  obtain ⟨a3, rfl⟩ := okWide_int Try.underlying3 (hval 3 3 v3 rfl rfl)
  have j3 : InC W 3 [_] := i3
  have k4 := h4
  have lt4 : ∀ x ∈ p4, x.block < W.heap.size := by obtain ⟨m, hm⟩ := k4; exact DataW.trod_lt m _ _ _ hm
  have i4 := InC.of h4
  obtain ⟨a4, len4, cap4, rfl⟩ := okWide_slice Try.underlying25 (hval 4 25 v4 rfl rfl)
  have j4 : InC W 25 [_] := i4
  clear hA0 hval0
  refine (walk _ _ _ _ _ W j0 j1 j2 j3 j4).mono fun e W' ⟨he, bel⟩ => ?_
  subst he
  exact ⟨_, rfl, _, _, _, [], _, [], hW', trodAll_mk1 (shut_bool Try.underlying4 _), (trodAll_cons_mk (Below.trod laidOut (by kernel_rfl) (of_decide_eq_true (by kernel_rfl)) k0 bel lt0) (trodAll_cons_mk (Below.trod laidOut (by kernel_rfl) (of_decide_eq_true (by kernel_rfl)) k1 bel lt1) (trodAll_cons_mk (Below.trod laidOut (by kernel_rfl) (of_decide_eq_true (by kernel_rfl)) k2 bel lt2) (trodAll_cons_mk (Below.trod laidOut (by kernel_rfl) (of_decide_eq_true (by kernel_rfl)) k3 bel lt3) (trodAll_cons_mk (Below.trod laidOut (by kernel_rfl) (of_decide_eq_true (by kernel_rfl)) k4 bel lt4) trodAll_mk0))))), rfl, bel.frame _, fun h => by cases h⟩

theorem over : Rows.shardTurnedRow.holds Try.pinned (OpenSpec.ofChange Rows.shardTurnedSpec) :=
  OpenClaim.holds_of_wide 5 Try.f5 rfl rfl rfl rfl rfl rfl rfl ⟨rfl, rfl, rfl, rfl, rfl⟩ rfl rfl rfl rfl rfl (by kernel_rfl) Try.func5 (by kernel_rfl)
    (of_decide_eq_true (by kernel_rfl)) (by unfold Func.isWrapper; first | (rw [if_pos (by decide +kernel)]; kernel_rfl) | (rw [if_neg (by decide +kernel)]; exact ⟨rfl, rfl⟩))
    (fun os started H enc _ => lifted os started H enc)

theorem proved : Rows.ShardTurnedSaid := over
#print axioms proved
end Go.Proofs.Ythfnikdapknohaa.shardTurned
