/- page.four, page.Put, page.Get, page.Many compute what the plain functions say. The rows are readable slices of at most 2^40 bytes. -/
import Derived.Test.YtneihfmacljjbaaPagePure
import Derived.Test.YtneihfmacljjbaaZeros
namespace Go.Proofs.Ytneihfmacljjbaa
set_option linter.unusedSimpArgs false
set_option linter.unusedVariables false
open Go.RowKit

set_option maxHeartbeats 400000 in
theorem pfour_any (w : World) (base : Nat) (v : Value) (l : List UInt8) (x : UInt32) (hown : Ow w base v l) (hsz : l.length ≤ 1099511627776) (hbase : base ≤ w.heap.size) :
    Calls Try.prog 41 #[v, .int .u32 (x.toNat : Int)] w fun e w' => ∃ v', e = .returned v' ∧ Ow w' base v' (l ++ four x) ∧ Ext w w' v v' := by
  obtain ⟨A, c, rfl, hc1, hc2, hf⟩ := hown.form_
  have h0 := fourAt0 x
  have h1 := fourAt1 x
  have h2 := fourAt2 x
  have h3 : (x.toNat : Int) / 16777216 = ((fourAt x 3).toNat : Int) := by
    rw [← fourAt3 x]; have := u32_lt x; omega
  have hx := u32_lt x
  have g0 := u8_lt (fourAt x 0)
  have g1 := u8_lt (fourAt x 1)
  have g2 := u8_lt (fourAt x 2)
  have g3 := u8_lt (fourAt x 3)
  have hby := By.new_ w (four x) (by simp [four_length, maxLen])
  have hv : (b8s (four x)).toArray = #[.int .u8 ((fourAt x 0).toNat : Int), .int .u8 ((fourAt x 1).toNat : Int), .int .u8 ((fourAt x 2).toNat : Int), .int .u8 ((fourAt x 3).toNat : Int)] := rfl
  rw [hv] at hby
  clear hv
  generalize fourAt x 0 = b0 at *
  generalize fourAt x 1 = b1 at *
  generalize fourAt x 2 = b2 at *
  generalize fourAt x 3 = b3 at *
  have hfl : (four x).length = 4 := rfl
  rw [hfl] at hby
  generalize four x = fx at *
  go_enter Try.func41, Try.ntmps41
  go_wp2_with (at_builtin
               refine wpList_app8 rfl (.tmp 5) (.tmp 17) rfl (hown.alloc _) hby rfl rfl (by rw [hfl]; omega) (by simp; omega) ?_
               intro v1 w1 hown1 hext1)
  go_ret
  exact ⟨_, rfl, hown1, hext1.after (balloc _ _) _ rfl⟩

theorem wrapLen (n : Nat) (h : n ≤ 1000) : IntKind.u32.wrap (n : Int) = ((UInt32.ofNat n).toNat : Int) := by
  rw [IntKind.wrap_u32', UInt32.toNat_ofNat']; omega

set_option maxRecDepth 100000 in
set_option maxHeartbeats 800000 in
theorem put_any (w : World) (v : Value) (l : List UInt8) (file place : UInt32) (hby : By w w.heap.size v l) (hsz : l.length ≤ 1099511627776) :
    Calls Try.prog 22 #[.int .u32 (file.toNat : Int), .int .u32 (place.toNat : Int), v] w fun e w' => ∃ v', e = .returned (.tuple #[v', .int .i64 (putE l)]) ∧ Ow w' w.heap.size v' (putL file place l) ∧ Below w.heap.size w w' := by
  have hby0 := hby
  obtain ⟨A, c, rfl, hc1, hc2, hrd⟩ := hby
  unfold maxLen at hc2
  by_cases hbig : 112 < l.length
  · have hE : putE l = 4 := by simp [putE, hbig]
    have hL : putL file place l = [] := by simp [putL, hbig]
    rw [hE, hL]
    clear hE hL
    go_enter Try.func22, Try.ntmps22
    go_wp2_with fail
    go_ret2
    exact ⟨_, rfl, Ow.nil_ _ _, Below.refl _ _⟩
  · have hE : putE l = 0 := by simp [putE, hbig]
    have hL : putL file place l = pageOf file place l := by simp [putL, hbig]
    rw [hE, hL]
    have hwl := wrapLen l.length (by omega)
    have hul := u32_lt (UInt32.ofNat l.length)
    have hfl : ∀ x, (four x).length = 4 := fun _ => rfl
    have HP : Hid (pageOf file place l = markOf (four file ++ four place ++ four (UInt32.ofNat l.length) ++ l ++ List.replicate (112 - l.length) 0)) := by
      unfold Hid pageOf bodyOf headOf zeros; rfl
    clear hE hL
    generalize UInt32.ofNat l.length = n32 at *
    generalize pageOf file place l = P at *
    go_enter Try.func22, Try.ntmps22
    go_wp2_with fail
    refine (pfour_any w w.heap.size _ [] file (Ow.nil_ _ _) (by simp) (Nat.le_refl _)).mono ?_
    rintro e w1 ⟨v1, rfl, hown1, hext1⟩
    go_wp2_with fail
    refine (pfour_any _ w.heap.size _ _ place hown1 (by simp [hfl]) hext1.gr.size).mono ?_
    rintro e w2 ⟨v2, rfl, hown2, hext2⟩
    have hx2 := hext1.trans hext2
    go_wp2_with fail
    refine (pfour_any _ w.heap.size _ _ n32 hown2 (by simp [hfl]) hx2.gr.size).mono ?_
    rintro e w3 ⟨v3, rfl, hown3, hext3⟩
    have hx3 := hx2.trans hext3
    have hb3 : Below w.heap.size w w3 := hx3.below (Nat.le_refl _) (by simp [Value.ownBlock])
    rw [List.nil_append] at hown3
    clear hx2 hext1 hext2 hext3 hown1 hown2
    have hpos : (112 : Int) - (l.length : Int) = ((112 - l.length : Nat) : Int) := by omega
    go_wp2_with (first
      | (at_builtin
         refine wpList_app8 rfl (.tmp 19) (.tmp 20) rfl hown3 (hby0.below hb3) rfl rfl (by simp [hfl]; omega) hb3.size ?_
         intro v4 w4 hown4 hext4
         have hb4 : Below w.heap.size w w4 := hb3.trans (hext4.below hb3.size fun k hk => (hown3.blk k hk).1))
      | (at_builtin
         refine wpList_zero8 rfl (.tmp 22) (.tmp 25) rfl hown4 (112 - l.length) rfl rfl (by simp [hfl]; omega) hb4.size ?_
         intro v5 w5 hown5 hext5))
    have hb5 : Below w.heap.size w w5 := hb4.trans (hext5.below hb4.size fun k hk => (hown4.blk k hk).1)
    refine (mark_any _ _ _ hown5.by_ (by simp [hfl]; omega)).mono ?_
    rw [← HP.out]
    rintro e w6 ⟨v6, rfl, hown6, hb6⟩
    go_wp2_with fail
    go_ret2
    exact ⟨_, rfl, hown6.mono hb5.size, bstep hb5 hb6⟩

theorem getD_get (l : List UInt8) (i : Nat) (h : i < l.length) : l[i]? = some (l.getD i 0) := by simp [List.getD_eq_getElem?_getD, h]

set_option maxRecDepth 100000 in
set_option maxHeartbeats 800000 in
theorem get_any (w : World) (v : Value) (l : List UInt8) (file place : UInt32) (hby : By w w.heap.size v l) (hsz : l.length ≤ 1099511627776) :
    Calls Try.prog 23 #[v, .int .u32 (file.toNat : Int), .int .u32 (place.toNat : Int)] w fun e w' => ∃ v', e = .returned (.tuple #[v', .int .i64 (getE l file place)]) ∧ Ow w' w.heap.size v' (getL l file place) ∧ Below w.heap.size w w' := by
  have hby0 := hby
  obtain ⟨A, c, rfl, hc1, hc2, hrd⟩ := hby
  unfold maxLen at hc2
  by_cases h128 : l.length = 128
  · have hE : getE l file place = if getB l file place then 0 else 5 := by simp [getE, h128]
    have hL : getL l file place = if getB l file place then inOf l else [] := rfl
    have hB : getB l file place = decide (pageOf file place (inOf l) = l) := by unfold getB; simp [h128]
    rw [hB] at hE hL
    have HE := Lib.hid hE
    have HL := Lib.hid hL
    clear hE hL hB
    generalize getE l file place = E at *
    generalize getL l file place = L at *
    have hin : inOf l = (l.drop 12).take (lenAt l) := rfl
    have hlen : lenAt l = min (l.getD 8 0).toNat 112 := rfl
    have hcut : By w w.heap.size (.slice (if c = 12 then A else A.map (·.add 12)) (lenAt l) (c - 12)) (inOf l) := by
      rw [hin]
      exact (hby0.back_ (k := 12) (by omega)).front_ (by simp; unfold lenAt; omega)
    obtain ⟨ad, rfl, _, hcs⟩ := hrd.ad (by omega)
    have hcell := hcs 8 _ (b8s_get l 8 (by omega))
    have hg8 : l[8]'(by omega) = l.getD 8 0 := by
      have := getD_get l 8 (by omega)
      rw [List.getElem?_eq_getElem (by omega)] at this
      injection this
    rw [hg8, show ad.add 8 = { block := ad.block, off := ad.off + 8 } from rfl] at hcell
    have hc12 : ¬ c = 12 := by omega
    rw [if_neg hc12, show Option.map (fun x => x.add 12) (some ad) = some { block := ad.block, off := ad.off + 12 } from rfl] at hcut
    have hpl := pageOf_length file place (inOf l) (inOf_le l)
    have hputE : putE (inOf l) = 0 := by unfold putE; rw [if_neg (by have := inOf_le l; omega)]
    have hputL : putL file place (inOf l) = pageOf file place (inOf l) := by unfold putL; rw [if_neg (by have := inOf_le l; omega)]
    have hil := inOf_le l
    have H128 := Lib.hid h128
    rw [h128]
    rw [h128] at hc1 hby0
    clear hcs hg8 hrd hin h128
    have hb8 := u8_lt (l.getD 8 0)
    generalize l.getD 8 0 = b8v at *
    generalize lenAt l = n at *
    have Hputs := Lib.hid (And.intro hputE hputL)
    clear hputE hputL hpl
    have Hlen := Lib.hid hlen
    clear hlen
    generalize inOf l = io at *
    have hnb : n = b8v.toNat ∨ (112 ≤ b8v.toNat ∧ n = 112) := by have := Hlen.out; omega
    rcases (show (b8v.toNat ≤ 112 ∧ n = b8v.toNat) ∨ (¬ b8v.toNat ≤ 112 ∧ n = 112) by have := Hlen.out; omega) with ⟨hm, rfl⟩ | ⟨hm, rfl⟩
    all_goals
      clear hnb Hlen
      go_enter Try.func23, Try.ntmps23
      go_wp2_with fail
      try rw [show (12 + (b8v.toNat : Int)).toNat - 12 = b8v.toNat from by omega]
      refine (clone8 _ _ io hcut (by omega)).mono ?_
      rintro e w1 ⟨v1, rfl, hown1, hb1⟩
      go_wp2_with fail
      refine (put_any _ _ io file place hown1.by_ (by omega)).mono ?_
      rw [Hputs.out.1, Hputs.out.2]
      rintro e w2 ⟨v2, rfl, hown2, hb2⟩
      have hb02 := bstep hb1 hb2
      go_wp2_with fail
      refine (equal8 _ _ _ _ _ _ _ hown2.by_ (hby0.below hb02)).mono ?_
      rintro e w3 ⟨rfl, hb3⟩
      by_cases heq : pageOf file place io = l
      · have HE2 : Hid (E = 0) := by unfold Hid; rw [HE.out, decide_eq_true heq]; rfl
        have HL2 : Hid (L = io) := by unfold Hid; rw [HL.out, decide_eq_true heq]; rfl
        rw [decide_eq_true heq]
        clear heq HE HL
        go_wp2_with fail
        go_ret2
        refine ⟨v1, by rw [HE2.out]; rfl, ?_, bstep hb02 hb3⟩
        rw [HL2.out]
        exact (hown1.below_ hb2).below_ hb3
      · have HE2 : Hid (E = 5) := by unfold Hid; rw [HE.out, decide_eq_false heq]; rfl
        have HL2 : Hid (L = []) := by unfold Hid; rw [HL.out, decide_eq_false heq]; rfl
        rw [decide_eq_false heq]
        clear heq HE HL
        go_wp2_with fail
        go_ret2
        refine ⟨_, by rw [HE2.out]; rfl, ?_, bstep hb02 hb3⟩
        rw [HL2.out]
        exact Ow.nil_ _ _
  · have hE : getE l file place = 3 := by simp [getE, h128]
    have hL : getL l file place = [] := by
      have : getB l file place = false := by unfold getB; simp [h128]
      simp [getL, this]
    have hne : ((l.length : Int) == 128) = false := by simp; omega
    rw [hE, hL]
    clear hE hL
    go_enter Try.func23, Try.ntmps23
    go_wp2_with fail
    go_ret2
    exact ⟨_, rfl, Ow.nil_ _ _, Below.refl _ _⟩
end Go.Proofs.Ytneihfmacljjbaa
