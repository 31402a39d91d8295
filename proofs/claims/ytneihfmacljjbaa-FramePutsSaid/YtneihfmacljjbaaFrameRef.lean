/- The document's sections (package palmerref05): Put and Get compute what the plain functions say. -/
import Derived.Test.YtneihfmacljjbaaFrameWalk
import Derived.Test.YtneihfmacljjbaaRefFits
import Derived.Test.YtneihfmacljjbaaTail
namespace Go.Proofs.Ytneihfmacljjbaa
set_option linter.unusedSimpArgs false
set_option linter.unusedVariables false
open Go.RowKit

/-- a row of the function's own -/
def Ph.ow (base : Nat) (l : List UInt8) : Ph := ⟨fun v w => Ow w base v l, fun _ _ _ h hb => h.below_ hb⟩

set_option maxRecDepth 100000 in
set_option maxHeartbeats 1600000 in
theorem rfput_any (w : World) (k : UInt8) (v : Value) (l : List UInt8) (hby : By w w.heap.size v l) (hsz : l.length ≤ 1048577) :
    Calls Try.prog 33 #[.agg #[.int .u8 (k.toNat : Int), v]] w fun e w' => ∃ v', e = .returned v' ∧ Ow w' w.heap.size v' (frameOf k l) ∧ Below w.heap.size w w' := by
  have hby0 := hby
  obtain ⟨A, c, rfl, hc1, hc2, hrd⟩ := hby
  unfold maxLen at hc2
  have hwl : IntKind.u32.wrap (l.length : Int) = ((UInt32.ofNat l.length).toNat : Int) := by rw [IntKind.wrap_u32', UInt32.toNat_ofNat']; omega
  have HF : Hid (frameOf k l = markOf ([k] ++ four (UInt32.ofNat l.length)) ++ markOf l) := by unfold Hid; rfl
  have hf4 : ∀ x, (four x).length = 4 := fun _ => rfl
  generalize UInt32.ofNat l.length = n32 at *
  go_enter Try.func33, Try.ntmps33
  go_wp2_with fail
  have hbx : SecAt (w.alloc (.cells #[.int .u8 (k.toNat : Int), .slice A l.length c] 46)) w.heap.size (.int .u8 (k.toNat : Int)) (.slice A l.length c) := SecAt.new_ _ _ _
  have hb0 := balloc w (.cells #[.int .u8 (k.toNat : Int), .slice A l.length c] 46)
  have hWs : (w.alloc (.cells #[.int .u8 (k.toNat : Int), .slice A l.length c] 46)).heap.size = w.heap.size + 1 := by simp
  generalize w.alloc (.cells #[.int .u8 (k.toNat : Int), .slice A l.length c] 46) = W at *
  refine wp_region_tail (ds := [4, 5, 6, 7, 8, 9, 10, 11]) 8 [some 4, some 5, some 6, some 7, some 8, some 9, some 10, some 11]
    [Ph.is (.pointer (some { block := w.heap.size, off := 0 })),
      Ph.is (.int .u8 (k.toNat : Int)),
      Ph.ow (w.heap.size + 1) [k],
      Ph.is (.pointer (some { block := w.heap.size, off := 1 })),
      Ph.is (.slice A l.length c),
      Ph.is (.int .i64 (l.length : Int)),
      Ph.is (.int .u32 (n32.toNat : Int)),
      Ph.by_ (four n32)] rfl rfl (by kernel_rfl) (by kernel_rfl) (by kernel_rfl) ?_ ?_
  · refine ⟨?_, ?_, ?_, ?_, ?_, ?_, ?_, ?_, trivial⟩
    · -- 0: slot 4 := Op.fieldAddr 46 t1 0
      refine ob_yes fun f w' hb hp => ?_
      simp [PreOf, factOf, valOf, Ph.is, Ph.by_, Ph.any, Region.binds, Ph.ow] at hp
      refine ⟨by simp [Gd, valOf, hp], ?_⟩
      refine mild_val (.pointer (some { block := w.heap.size, off := 0 })) ?_ rfl
      simp [execOp, evalF, hp, go_sem]
    · -- 1: slot 5 := Op.load 5 t4
      refine ob_yes fun f w' hb hp => ?_
      simp [PreOf, factOf, valOf, Ph.is, Ph.by_, Ph.any, Region.binds, Ph.ow] at hp
      refine ⟨by simp [Gd, valOf, hp], ?_⟩
      refine mild_val (.int .u8 (k.toNat : Int)) ?_ rfl
      have hc := (hbx.below hbx.lt hb).cell0
      simp [execOp, evalF, hp, hc, go_sem]
    · -- 2: slot 6 := Op.buildSlice 22 1 #[(0, t5)]
      refine ob_yes fun f w' hb hp => ?_
      simp [PreOf, factOf, valOf, Ph.is, Ph.by_, Ph.any, Region.binds, Ph.ow] at hp
      refine ⟨by simp [Gd, valOf, hp], ?_⟩
      refine mild_alloc (.slice (some ⟨w'.heap.size, 0, none⟩) 1 1) (.cells (b8s [k]).toArray 5) ?_ ((Ow.new_ w' [k] (by simp [maxLen])).mono (hWs ▸ hb.size))
      simp [execOp, evalF, hp, go_sem, b8s, b8]
    · -- 3: slot 7 := Op.fieldAddr 46 t1 1
      refine ob_yes fun f w' hb hp => ?_
      simp [PreOf, factOf, valOf, Ph.is, Ph.by_, Ph.any, Region.binds, Ph.ow] at hp
      refine ⟨by simp [Gd, valOf, hp], ?_⟩
      refine mild_val (.pointer (some { block := w.heap.size, off := 1 })) ?_ rfl
      simp [execOp, evalF, hp, go_sem]
    · -- 4: slot 8 := Op.load 22 t7
      refine ob_yes fun f w' hb hp => ?_
      simp [PreOf, factOf, valOf, Ph.is, Ph.by_, Ph.any, Region.binds, Ph.ow] at hp
      refine ⟨by simp [Gd, valOf, hp], ?_⟩
      refine mild_val (.slice A l.length c) ?_ rfl
      have hc := (hbx.below hbx.lt hb).cell1
      simp [execOp, evalF, hp, hc, go_sem]
    · -- 5: slot 9 := Op.call   builtin len, args := #[t8], argTypes := #[22]  
      refine ob_yes fun f w' hb hp => ?_
      simp [PreOf, factOf, valOf, Ph.is, Ph.by_, Ph.any, Region.binds, Ph.ow] at hp
      refine ⟨by simp [Gd, valOf, hp], ?_⟩
      refine mild_val (.int .i64 (l.length : Int)) ?_ rfl
      simp [execOp, evalF, hp, go_sem]
    · -- 6: slot 10 := Op.convert 3 24 t9
      refine ob_yes fun f w' hb hp => ?_
      simp [PreOf, factOf, valOf, Ph.is, Ph.by_, Ph.any, Region.binds, Ph.ow] at hp
      refine ⟨by simp [Gd, valOf, hp], ?_⟩
      refine mild_val (.int .u32 (n32.toNat : Int)) ?_ rfl
      simp [execOp, evalF, hp, go_sem, hwl]
    · -- 7: slot 11 := Op.call   value (Operand.func 32), args := #[t10], argTypes := #[24]  
      refine ob_yes fun f w' hb hp => ?_
      simp [PreOf, factOf, valOf, Ph.is, Ph.by_, Ph.any, Region.binds, Ph.ow] at hp
      refine ⟨by simp [Gd, valOf, hp], ?_⟩
      refine mild_call 32 _ _ Try.f32 Try.func32 (by kernel_rfl) (by kernel_rfl) rfl ?_
      simp [evalF, hp, Ph.is, Ph.by_, Ph.any, Ph.ow]
      exact (rfour_any w' n32).mono fun e w2 ⟨v, h1, h2, h3⟩ => ⟨v, h1, h3, h2.by_⟩
  · intro f w2 hb2 hp
    simp only [PostOf, Ph.is, Ph.by_, Ph.any, Ph.ow] at hp
    obtain ⟨h0, h1, h2, h3, h4, h5, h6, h7, _⟩ := hp
    simp only [fills, List.foldl_cons, List.foldl_nil, Act.put, List.setIfInBounds_toArray, List.set_cons_zero, List.set_cons_succ, h0, h1, h3, h4, h5, h6]
    clear h0 h1 h3 h4 h5 h6
    generalize f 6 = v6 at *
    generalize f 11 = v11 at *
    simp only [List.drop_succ_cons, List.drop_zero]
    have hb02 := bstep hb0 hb2
    refine wpList_app8 rfl (.tmp 6) (.tmp 11) rfl h2 h7 rfl rfl (by simp [hf4]) (hWs ▸ hb2.size) ?_
    intro v3 w3 hown3 hext3
    have hb03 : Below w.heap.size w w3 := hb02.trans (hext3.below hb02.size fun k hk => Nat.le_of_succ_le (h2.blk k hk).1)
    have hbx2 : SecAt w3 w.heap.size (.int .u8 (k.toNat : Int)) (.slice A l.length c) := by
      have h9 := hbx.below hbx.lt hb2
      refine (hext3.gr.block w.heap.size h9.lt (fun e => absurd (h2.blk _ e.symm).1 (by omega))).trans h9
    have hby2 := hby0.step hb03
    have hhd : ([k] ++ four n32).length = 5 := rfl
    generalize [k] ++ four n32 = hd at *
    have hv3 : By w3 w3.heap.size v3 hd := hown3.by_
    have hs2 := hb03.size
    clear h2 h7 hext3 hown3 hbx hb0 hb2 hb02 hWs
    have hml1 := markOf_length hd
    have hml2 := markOf_length l
    go_wp2_with fail
    refine wp_region_tail (ds := [13, 14, 15, 16, 17]) 5 [some 13, some 14, some 15, some 16, some 17]
      [Ph.by_ hd,
        Ph.ow w.heap.size (markOf hd),
        Ph.is (.pointer (some { block := w.heap.size, off := 1 })),
        Ph.is (.slice A l.length c),
        Ph.by_ (markOf l)] rfl rfl (by kernel_rfl) (by kernel_rfl) (by kernel_rfl) ?_ ?_
    · refine ⟨?_, ?_, ?_, ?_, ?_, trivial⟩
      · -- 0: slot 13 := Op.move t3
        refine ob_yes fun f w' hb hp => ?_
        simp [PreOf, factOf, valOf, Ph.is, Ph.by_, Ph.any, Region.binds, Ph.ow] at hp
        refine ⟨by simp [Gd, valOf, hp], ?_⟩
        exact mild_val _ rfl (hv3.step hb)
      · -- 1: slot 14 := Op.call   value (Operand.func 20), args := #[t13], argTypes := #[22]  
        refine ob_yes fun f w' hb hp => ?_
        simp [PreOf, factOf, valOf, Ph.is, Ph.by_, Ph.any, Region.binds, Ph.ow] at hp
        refine ⟨by simp [Gd, valOf, hp], ?_⟩
        refine mild_call 20 _ _ Try.f20 Try.func20 (by kernel_rfl) (by kernel_rfl) rfl ?_
        simp [evalF, hp, Ph.is, Ph.by_, Ph.any, Ph.ow]
        exact (rmark_any w' _ hd hp (by omega)).mono fun e w4 ⟨v, h1, h2, h3⟩ => ⟨v, h1, h3, h2.mono (Nat.le_trans hs2 hb.size)⟩
      · -- 2: slot 15 := Op.fieldAddr 46 t1 1
        refine ob_yes fun f w' hb hp => ?_
        simp [PreOf, factOf, valOf, Ph.is, Ph.by_, Ph.any, Region.binds, Ph.ow] at hp
        refine ⟨by simp [Gd, valOf, hp], ?_⟩
        refine mild_val (.pointer (some { block := w.heap.size, off := 1 })) ?_ rfl
        simp [execOp, evalF, hp, go_sem]
      · -- 3: slot 16 := Op.load 22 t15
        refine ob_yes fun f w' hb hp => ?_
        simp [PreOf, factOf, valOf, Ph.is, Ph.by_, Ph.any, Region.binds, Ph.ow] at hp
        refine ⟨by simp [Gd, valOf, hp], ?_⟩
        refine mild_val (.slice A l.length c) ?_ rfl
        have hc := (hbx2.below hbx2.lt hb).cell1
        simp [execOp, evalF, hp, hc, go_sem]
      · -- 4: slot 17 := Op.call   value (Operand.func 20), args := #[t16], argTypes := #[22]  
        refine ob_yes fun f w' hb hp => ?_
        simp [PreOf, factOf, valOf, Ph.is, Ph.by_, Ph.any, Region.binds, Ph.ow] at hp
        refine ⟨by simp [Gd, valOf, hp], ?_⟩
        refine mild_call 20 _ _ Try.f20 Try.func20 (by kernel_rfl) (by kernel_rfl) rfl ?_
        simp [evalF, hp, Ph.is, Ph.by_, Ph.any, Ph.ow]
        exact (rmark_any w' _ l ((hby2.step hb)) (by omega)).mono fun e w4 ⟨v, h1, h2, h3⟩ => ⟨v, h1, h3, h2.by_⟩
    · intro f w4 hb4 hp
      simp only [PostOf, Ph.is, Ph.by_, Ph.any, Ph.ow] at hp
      obtain ⟨h0, h1, h2, h3, h4, _⟩ := hp
      simp only [fills, List.foldl_cons, List.foldl_nil, Act.put, List.setIfInBounds_toArray, List.set_cons_zero, List.set_cons_succ, h2, h3]
      clear h2 h3
      generalize f 13 = v13 at *
      generalize f 14 = v14 at *
      generalize f 17 = v17 at *
      simp only [List.drop_succ_cons, List.drop_zero]
      have hb04 := bstep hb03 hb4
      refine wpList_app8 rfl (.tmp 14) (.tmp 17) rfl h1 h4 rfl rfl (by omega) hb04.size ?_
      intro v5 w5 hown5 hext5
      have hb05 : Below w.heap.size w w5 := hb04.trans (hext5.below hb04.size fun k hk => (h1.blk k hk).1)
      go_wp2_with fail
      go_ret
      exact ⟨_, rfl, HF.out ▸ hown5, hb05⟩

set_option maxRecDepth 100000 in
set_option maxHeartbeats 1600000 in
theorem rfget_any (w : World) (v : Value) (l : List UInt8) (hby : By w w.heap.size v l) (hsz : l.length ≤ 1099511627776) :
    Calls Try.prog 36 #[v] w fun e w' => ∃ v', e = .returned (.tuple #[.agg #[.int .u8 ((sK l).toNat : Int), v'], .int .i64 ((sN l : Nat) : Int), .int .i64 (sE l)]) ∧ Ow w' w.heap.size v' (sL l) ∧ Below w.heap.size w w' := by
  have hby0 := hby
  obtain ⟨A, c, rfl, hc1, hc2, hrd⟩ := hby
  unfold maxLen at hc2
  have hN1 : SecAt ((w.alloc (.cells #[.int .u8 0, .slice none 0 0] 46)).alloc (.cells #[.int .u8 0, .slice none 0 0] 46)) (w.heap.size + 1) (.int .u8 0) (.slice none 0 0) := by simpa using SecAt.new_ (w.alloc (.cells #[.int .u8 0, .slice none 0 0] 46)) (.int .u8 0) (.slice none 0 0)
  obtain ⟨W0, hW0, hR, hN0, hb0⟩ : ∃ W0, ((w.alloc (.cells #[.int .u8 0, .slice none 0 0] 46)).alloc (.cells #[.int .u8 0, .slice none 0 0] 46)).setRow (w.heap.size + 1) #[.int .u8 0, .slice none 0 0] = W0 ∧ SecAt W0 w.heap.size (.int .u8 0) (.slice none 0 0) ∧ SecAt W0 (w.heap.size + 1) (.int .u8 0) (.slice none 0 0) ∧ Below w.heap.size w W0 :=
    ⟨_, rfl, ((SecAt.new_ w _ _).alloc (by simp) _).other _ (by omega) _, hN1.put _ _, bsetRow (bstep (balloc _ _) (balloc _ _)) (by omega) _⟩
  have hE : sE l = if l.length < 9 then 2 else if fitsB (l.take 9) = false then 5 else if 1048576 < sLen l then 4 else if l.length < sLen l + 13 then 2 else if fitsB ((l.drop 9).take (sLen l + 4)) then 0 else 5 := rfl
  have hN : sN l = if sE l = 0 then sLen l + 13 else 0 := rfl
  have hL : sL l = if sE l = 0 then (l.drop 9).take (sLen l) else [] := rfl
  have hK : sK l = if sE l = 0 then l.getD 0 0 else 0 := rfl
  have HE := Lib.hid hE
  have HN := Lib.hid hN
  have HL := Lib.hid hL
  have HK := Lib.hid hK
  clear hE hN hL hK
  generalize sE l = E at *
  generalize sN l = N at *
  generalize sL l = L at *
  generalize sK l = K0 at *
  by_cases h9 : l.length < 9
  · skip
    have e1 : E = 2 := by rw [HE.out, if_pos h9]
    have e2 : N = 0 := by rw [HN.out, e1]; rfl
    have e3 : L = [] := by rw [HL.out, e1]; rfl
    have e4 : K0 = 0 := by rw [HK.out, e1]; rfl
    subst e1
    subst e2
    subst e3
    subst e4
    clear HE HN HL HK
    go_enter Try.func36, Try.ntmps36
    go_wp2_with (first
      | (refine wpList_store_sec rfl (.tmp 5) _ rfl (w.heap.size + 1) _ _ (.int .u8 0) (.slice none 0 0) rfl rfl hN1 rfl rfl ?_
         rw [hW0]
         intro _)
      | (refine wpList_load_sec rfl (.tmp 5) rfl (w.heap.size + 1) _ _ rfl hN0 ?_)
      | (refine wpList_store_sec rfl (.tmp 2) _ rfl w.heap.size _ _ (.int .u8 0) (.slice none 0 0) rfl rfl hR rfl rfl ?_
         intro hs9))
    refine bodyPost_ret (results_sec rfl _ _ _ _ _ rfl hs9) rfl ?_
    exact ⟨_, rfl, Ow.nil_ _ _, bsetRow hb0 (Nat.le_refl _) _⟩
  · have hcut : By w w.heap.size (.slice A 9 c) (l.take 9) := hby0.front_ (by omega)
    have ht9 : (l.take 9).length = 9 := by simp; omega
    rw [if_neg h9] at HE
    cases hf : fitsB (l.take 9) with
    | false =>
      have hE9 : fitsE (l.take 9) = 5 := by unfold fitsE; rw [hf, ht9]; rfl
      have hL9 : fitsL (l.take 9) = [] := by unfold fitsL; rw [hf]; rfl
      have e1 : E = 5 := by rw [HE.out, if_pos hf]
      have e2 : N = 0 := by rw [HN.out, e1]; rfl
      have e3 : L = [] := by rw [HL.out, e1]; rfl
      have e4 : K0 = 0 := by rw [HK.out, e1]; rfl
      subst e1
      subst e2
      subst e3
      subst e4
      clear HE HN HL HK
      clear hrd
      generalize l.take 9 = t9 at *
      go_enter Try.func36, Try.ntmps36
      go_wp2_with (first
        | (refine wpList_store_sec rfl (.tmp 5) _ rfl (w.heap.size + 1) _ _ (.int .u8 0) (.slice none 0 0) rfl rfl hN1 rfl rfl ?_
           rw [hW0]
           intro _))
      refine (rfits_any _ _ t9 (hcut.step hb0) (by omega)).mono ?_
      rw [hE9, hL9]
      rintro e w1 ⟨v1, rfl, hown1, hb1⟩
      have hb01 := bstep hb0 hb1
      have hR1 := hR.below hR.lt hb1
      have hN2 := hN0.below hN0.lt hb1
      go_wp2_with (first
        | (refine wpList_load_sec rfl (.tmp 5) rfl (w.heap.size + 1) _ _ rfl hN2 ?_)
        | (refine wpList_store_sec rfl (.tmp 2) _ rfl w.heap.size _ _ (.int .u8 0) (.slice none 0 0) rfl rfl hR1 rfl rfl ?_
           intro hs9))
      refine bodyPost_ret (results_sec rfl _ _ _ _ _ rfl hs9) rfl ?_
      exact ⟨_, rfl, Ow.nil_ _ _, bsetRow hb01 (Nat.le_refl _) _⟩
    | true =>
      obtain ⟨ad, rfl, _, _⟩ := hrd.ad (by omega)
      have hL9 : fitsL (l.take 9) = l.take 5 := by unfold fitsL; rw [hf, ht9]; simp [List.take_take]
      have hE9 : fitsE (l.take 9) = 0 := by unfold fitsE; rw [hf, ht9]; rfl
      have hle : sLen l = (l.getD 1 0).toNat + 256 * (l.getD 2 0).toNat + 65536 * (l.getD 3 0).toNat + 16777216 * (l.getD 4 0).toNat := rfl
      have hlt := sLen_lt l
      rw [if_neg (show ¬ fitsB (l.take 9) = false by rw [hf]; simp)] at HE
      have hlen5 : (l.take 5).length = 5 := by simp; omega
      have hg : ∀ i, i < 5 → (l.take 5)[i]? = some (l.getD i 0) := by
        intro i hi
        rw [List.getElem?_take, if_pos hi]
        exact getD_get l i (by omega)
      have hcut2 : ∀ k, k ≤ l.length - 9 → By w w.heap.size (.slice (if c = 9 then some ad else some { block := ad.block, off := ad.off + 9 }) k (c - 9)) ((l.drop 9).take k) := fun k hk =>
        (hby0.back_ (k := 9) (by omega)).front_ (by simp; omega)
      have Hg := Lib.hid hg
      have Hle := Lib.hid hle
      have Hcut2 := Lib.hid hcut2
      clear hg hle hcut2 hrd
      generalize l.take 9 = t9 at *
      generalize l.take 5 = t5 at *
      go_enter Try.func36, Try.ntmps36
      go_wp2_with (first
        | (refine wpList_store_sec rfl (.tmp 5) _ rfl (w.heap.size + 1) _ _ (.int .u8 0) (.slice none 0 0) rfl rfl hN1 rfl rfl ?_
           rw [hW0]
           intro _))
      refine (rfits_any _ _ t9 (hcut.step hb0) (by omega)).mono ?_
      rw [hE9, hL9]
      rintro e w1 ⟨v1, rfl, hown1, hb1⟩
      have hb01 := bstep hb0 hb1
      have hR1 := hR.below hR.lt hb1
      have hN2 := hN0.below hN0.lt hb1
      have hW0s := hN0.lt
      obtain ⟨A1, c1, rfl, hd1, hd2, hf1⟩ := hown1.form_
      obtain ⟨g1, rfl, hg1, hg2⟩ := hf1 (by omega)
      have hx0 := hown1.cell_ rfl 0 _ (Hg.out 0 (by omega))
      have hx1 := hown1.cell_ rfl 1 _ (Hg.out 1 (by omega))
      have hx2 := hown1.cell_ rfl 2 _ (Hg.out 2 (by omega))
      have hx3 := hown1.cell_ rfl 3 _ (Hg.out 3 (by omega))
      have hx4 := hown1.cell_ rfl 4 _ (Hg.out 4 (by omega))
      rw [hlen5] at hd1 hown1
      unfold maxLen at hd2
      have Hle2 : Hid (sLen l = (l.getD 1 0).toNat + 256 * (l.getD 2 0).toNat + 65536 * (l.getD 3 0).toNat + 16777216 * (l.getD 4 0).toNat) := Hle
      clear Hle
      generalize l.getD 0 0 = x0 at *
      generalize l.getD 1 0 = x1 at *
      generalize l.getD 2 0 = x2 at *
      generalize l.getD 3 0 = x3 at *
      generalize l.getD 4 0 = x4 at *
      have b1 := u8_lt x1
      have b2 := u8_lt x2
      have b3 := u8_lt x3
      have b4 := u8_lt x4
      rw [hlen5]
      have hR2 := hR1
      have hN3 := hN2
      clear hW0 hN1
      go_wp2_with fail
      go_quiet (fail)
      have hn : (x1.toNat : Int) + 256 * (x2.toNat : Int) + 65536 * (x3.toNat : Int) + 16777216 * (x4.toNat : Int) = (sLen l : Int) := by rw [Hle2.out]; omega
      rw [hn]
      clear hx1 hx2 hx3 hx4 hn
      generalize sLen l = n at *
      have hR3 : SecAt (w1.drewN nq) w.heap.size (.int .u8 0) (.slice none 0 0) := hR2
      have hN4 : SecAt (w1.drewN nq) (w.heap.size + 1) (.int .u8 0) (.slice none 0 0) := hN3
      have hb2 : Below w.heap.size w (w1.drewN nq) := bdrewN hb01 nq
      have hx2 : (w1.drewN nq).cell? { block := g1, off := 0 } = some (.int .u8 (x0.toNat : Int)) := hx0
      have hown2 : Ow (w1.drewN nq) W0.heap.size (.slice (some ⟨g1, 0, none⟩) 5 c1) t5 := hown1
      clear hR1 hR2 hN2 hN3 hb01 hx0 hb1 hown1
      generalize w1.drewN nq = W at *
      by_cases hbig : 1048576 < n
      · skip
        have e1 : E = 4 := by rw [HE.out, if_pos hbig]
        have e2 : N = 0 := by rw [HN.out, e1]; rfl
        have e3 : L = [] := by rw [HL.out, e1]; rfl
        have e4 : K0 = 0 := by rw [HK.out, e1]; rfl
        subst e1
        subst e2
        subst e3
        subst e4
        clear HE HN HL HK
        clear Hcut2 Hle2
        go_wp2_with (first
          | (refine wpList_load_sec rfl (.tmp 5) rfl (w.heap.size + 1) _ _ rfl hN4 ?_)
          | (refine wpList_store_sec rfl (.tmp 2) _ rfl w.heap.size _ _ (.int .u8 0) (.slice none 0 0) rfl rfl hR3 rfl rfl ?_
             intro hs9))
        refine bodyPost_ret (results_sec rfl _ _ _ _ _ rfl hs9) rfl ?_
        exact ⟨_, rfl, Ow.nil_ _ _, bsetRow hb2 (Nat.le_refl _) _⟩
      · by_cases hsh : l.length < n + 13
        · skip
          have e1 : E = 2 := by rw [HE.out, if_neg hbig, if_pos hsh]
          have e2 : N = 0 := by rw [HN.out, e1]; rfl
          have e3 : L = [] := by rw [HL.out, e1]; rfl
          have e4 : K0 = 0 := by rw [HK.out, e1]; rfl
          subst e1
          subst e2
          subst e3
          subst e4
          clear HE HN HL HK
          clear Hcut2 Hle2
          go_wp2_with (first
            | (refine wpList_load_sec rfl (.tmp 5) rfl (w.heap.size + 1) _ _ rfl hN4 ?_)
            | (refine wpList_store_sec rfl (.tmp 2) _ rfl w.heap.size _ _ (.int .u8 0) (.slice none 0 0) rfl rfl hR3 rfl rfl ?_
               intro hs9))
          refine bodyPost_ret (results_sec rfl _ _ _ _ _ rfl hs9) rfl ?_
          exact ⟨_, rfl, Ow.nil_ _ _, bsetRow hb2 (Nat.le_refl _) _⟩
        · have hc3 := Hcut2.out (n + 4) (by omega)
          have hlen3 : ((l.drop 9).take (n + 4)).length = n + 4 := by simp; omega
          have htk : ((l.drop 9).take (n + 4)).take (((l.drop 9).take (n + 4)).length - 4) = (l.drop 9).take n := by
            rw [hlen3, List.take_take]; congr 1; omega
          have hc9 : ¬ c = 9 := by omega
          rw [if_neg hc9] at hc3
          have HtL : Hid (fitsL ((l.drop 9).take (n + 4)) = if fitsB ((l.drop 9).take (n + 4)) then (l.drop 9).take n else []) := by
            unfold Hid fitsL; rw [htk]
          have HtE : Hid (fitsE ((l.drop 9).take (n + 4)) = if fitsB ((l.drop 9).take (n + 4)) then 0 else 5) := by
            unfold Hid fitsE; rw [if_neg (by omega)]
          clear htk Hcut2 Hle2
          rw [if_neg hbig, if_neg hsh] at HE
          generalize (l.drop 9).take (n + 4) = tn at *
          generalize (l.drop 9).take n = own at *
          go_wp2_with fail
          rw [show n + 13 - 9 = n + 4 from by omega]
          refine (rfits_any _ _ tn (hc3.step hb2) (by omega)).mono ?_
          rw [HtE.out, HtL.out]
          cases hfb : fitsB tn with
          | false =>
            rw [hfb] at HE
            have e1 : E = 5 := by rw [HE.out, if_neg (by simp)]
            have e2 : N = 0 := by rw [HN.out, e1]; rfl
            have e3 : L = [] := by rw [HL.out, e1]; rfl
            have e4 : K0 = 0 := by rw [HK.out, e1]; rfl
            subst e1
            subst e2
            subst e3
            subst e4
            clear HE HN HL HK
            clear HtE HtL
            rintro e w3 ⟨v3, rfl, hown3, hb3⟩
            have hb23 := bstep hb2 hb3
            have hR4 := hR3.below hR3.lt hb3
            have hN5 := hN4.below hN4.lt hb3
            go_wp2_with (first
              | (refine wpList_load_sec rfl (.tmp 5) rfl (w.heap.size + 1) _ _ rfl hN5 ?_)
              | (refine wpList_store_sec rfl (.tmp 2) _ rfl w.heap.size _ _ (.int .u8 0) (.slice none 0 0) rfl rfl hR4 rfl rfl ?_
                 intro hs9))
            refine bodyPost_ret (results_sec rfl _ _ _ _ _ rfl hs9) rfl ?_
            exact ⟨_, rfl, Ow.nil_ _ _, bsetRow hb23 (Nat.le_refl _) _⟩
          | true =>
            have e1 : E = 0 := by rw [HE.out, hfb]; rfl
            have e2 : N = n + 13 := by rw [HN.out, e1]; rfl
            have e3 : L = own := by rw [HL.out, e1]; rfl
            have e4 : K0 = x0 := by rw [HK.out, e1]; rfl
            subst e1
            subst e2
            subst e3
            subst e4
            clear HE HN HL HK HtE HtL
            rintro e w3 ⟨v3, rfl, hown3, hb3⟩
            have hb23 := bstep hb2 hb3
            have hR4 := hR3.below hR3.lt hb3
            have hx3 : w3.cell? { block := g1, off := 0 } = some (.int .u8 (K0.toNat : Int)) := (hb3.cell (hown2.blk g1 rfl).2).trans hx2
            rw [if_pos rfl] at hown3
            obtain ⟨A3, c3, rfl, hd31, hd32, hf3⟩ := hown3.form_
            have hgs := hR3.lt
            go_wp2_with (refine wpList_store_sec rfl (.tmp 2) _ rfl w.heap.size _ _ (.int .u8 (K0.toNat : Int)) (.slice A3 L.length c3) rfl rfl hR4 rfl rfl ?_
                         intro hs4)
            have hown4 := (hown3.setRow_ hgs #[.int .u8 (K0.toNat : Int), .slice A3 L.length c3]).mono (Nat.le_of_lt hgs)
            refine bodyPost_ret (results_sec rfl _ _ _ _ _ rfl hs4) rfl ?_
            exact ⟨_, rfl, hown4, bsetRow hb23 (Nat.le_refl _) _⟩

end Go.Proofs.Ytneihfmacljjbaa
