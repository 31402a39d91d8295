/- The document's pages (package palmerref08): Put, Get and Many compute what the plain functions say. The rows are readable slices of at most 2^40 bytes. -/
import Derived.Test.YtneihfmacljjbaaPageWalk
import Derived.Test.YtneihfmacljjbaaRefFits
namespace Go.Proofs.Ytneihfmacljjbaa
set_option linter.unusedSimpArgs false
set_option linter.unusedVariables false
open Go.RowKit

set_option maxRecDepth 100000 in
set_option maxHeartbeats 800000 in
theorem rput_any (w : World) (v : Value) (l : List UInt8) (file place : UInt32) (hby : By w w.heap.size v l) (hsz : l.length ≤ 112) :
    Calls Try.prog 24 #[.int .u32 (file.toNat : Int), .int .u32 (place.toNat : Int), v] w fun e w' => ∃ v', e = .returned v' ∧ Ow w' w.heap.size v' (pageOf file place l) ∧ Below w.heap.size w w' := by
  have hby0 := hby
  obtain ⟨A, c, rfl, hc1, hc2, hrd⟩ := hby
  unfold maxLen at hc2
  have hwl := wrapLen l.length (by omega)
  have hul := u32_lt (UInt32.ofNat l.length)
  have hfl : ∀ x, (four x).length = 4 := fun _ => rfl
  have HP : Hid (pageOf file place l = markOf (headOf file place l ++ List.replicate (112 - l.length) 0)) := rfl
  have HH : Hid (headOf file place l = four file ++ four place ++ four (UInt32.ofNat l.length) ++ l) := rfl
  have hhl := headOf_length file place l
  have Hhl := Lib.hid hhl
  clear hhl
  generalize UInt32.ofNat l.length = n32 at *
  generalize pageOf file place l = P at *
  generalize headOf file place l = H at *
  go_enter Try.func24, Try.ntmps24
  go_wp2_with fail
  refine (rfour_any _ file).mono ?_
  rintro e w1 ⟨v1, rfl, hown1, hb1⟩
  have hb01 : Below w.heap.size w w1 := bstep (balloc w _) hb1
  have he1 : Ow w1 w.heap.size (.slice (some ⟨w.heap.size, 0, none⟩) 0 0) [] := (Ow.new_ w [] (Nat.zero_le _)).below_ hb1
  go_wp2_with (first
    | (at_builtin
       refine wpList_app8 rfl (.tmp 8) (.tmp 10) rfl he1 hown1.by_ rfl rfl (by simp [hfl]) hb01.size ?_
       intro v2 w2 hown2 hext2
       have hb02 : Below w.heap.size w w2 := hb01.trans (hext2.below hb01.size (by simp [Value.ownBlock]))))
  refine (rfour_any _ place).mono ?_
  rintro e w3 ⟨v3, rfl, hown3, hb3⟩
  rw [List.nil_append] at hown2
  have hown2' := hown2.below_ hb3
  have hb03 := bstep hb02 hb3
  go_wp2_with (first
    | (at_builtin
       refine wpList_app8 rfl (.tmp 12) (.tmp 14) rfl hown2' hown3.by_ rfl rfl (by simp [hfl]) hb03.size ?_
       intro v4 w4 hown4 hext4
       have hb04 : Below w.heap.size w w4 := hb03.trans (hext4.below hb03.size fun k hk => (hown2'.blk k hk).1)))
  refine (rfour_any _ n32).mono ?_
  rintro e w5 ⟨v5, rfl, hown5, hb5⟩
  have hown4' := hown4.below_ hb5
  have hb05 := bstep hb04 hb5
  go_wp2_with (first
    | (at_builtin
       refine wpList_app8 rfl (.tmp 16) (.tmp 20) rfl hown4' hown5.by_ rfl rfl (by simp [hfl]) hb05.size ?_
       intro v6 w6 hown6 hext6
       have hb06 : Below w.heap.size w w6 := hb05.trans (hext6.below hb05.size fun k hk => (hown4'.blk k hk).1))
    | (at_builtin
       refine wpList_app8 rfl (.tmp 22) (.tmp 23) rfl hown6 (hby0.below hb06) rfl rfl (by simp [hfl]; omega) hb06.size ?_
       intro v7 w7 hown7 hext7
       have hb07 : Below w.heap.size w w7 := hb06.trans (hext7.below hb06.size fun k hk => (hown6.blk k hk).1)))
  rw [← HH.out] at hown7
  clear hown2 hown2' hown4 hown4' hown6 hown1 hown3 hown5 hext2 hext4 hext6 hext7 he1 hb01 hb02 hb03 hb04 hb05 hb06 hb1 hb3 hb5
  go_loopw [7] (fun v wr => ∃ k : Nat, k ≤ 112 - l.length ∧ Ow wr w.heap.size v (H ++ List.replicate k 0) ∧ Below w.heap.size w wr) (fun v _ => match v with | .slice _ n _ => 124 - n | _ => 0)
  case atStart => exact ⟨0, by omega, by simpa using hown7, hb07⟩
  case round =>
    obtain ⟨k, hk, hown, hb⟩ := hrel
    obtain ⟨A7, c7, rfl, h71, h72, _⟩ := hown.form_
    have hl7 : (H ++ List.replicate k 0).length = 12 + l.length + k := by simp [Hhl.out]
    rw [hl7] at h71 hown ⊢
    have Hl7 := Lib.hid hl7
    clear hl7
    unfold maxLen at h72
    by_cases hlt : k < 112 - l.length
    · have hz := (By.new_ wr [0] (by decide))
      have hbs := hb.size
      go_wp2_with (at_builtin
                   refine wpList_app8 rfl (.tmp 28) (.tmp 29) rfl (hown.alloc _) hz rfl rfl (by rw [Hl7.out]; simp; omega) (by simp; omega) ?_
                   intro v8 w8 hown8 hext8
                   have hb8 : Below w.heap.size w w8 := (hb.trans ((balloc wr _).mono hbs)).trans (hext8.below (by simp; omega) fun k hk => (hown.blk k hk).1))
      obtain ⟨A8, c8, rfl, h81, h82, _⟩ := hown8.form_
      have hl8 : (H ++ List.replicate k 0 ++ [0]).length = 12 + l.length + k + 1 := by simp [Hhl.out]; omega
      rw [hl8]
      go_roundw
      case rel => exact ⟨k + 1, by omega, by rw [← hl8, List.replicate_succ', ← List.append_assoc]; exact hown8, hb8⟩
      case measure => simp; omega
    · obtain rfl : k = 112 - l.length := by omega
      go_wp2_with fail
      refine (rmark_any _ _ _ hown.by_ (by rw [Hl7.out]; omega)).mono ?_
      rw [← HP.out]
      rintro e w9 ⟨v9, rfl, hown9, hb9⟩
      go_wp2_with fail
      go_ret
      exact ⟨_, rfl, hown9.mono hb.size, bstep hb hb9⟩

theorem load4 {w : World} {B : Nat} {A : Option Addr} {n c : Nat} {l : List UInt8} (h : By w B (.slice A n c) l) (i : Nat) (hi : i < l.length) (h0 : 0 < i) :
    ∃ ad, A = some ad ∧ w.cell? { block := ad.block, off := ad.off + i } = some (.int .u8 ((l.getD i 0).toNat : Int)) := by
  obtain ⟨A', c', e, h1, h2, hr⟩ := h
  injection e with e1 e2 e3
  subst e1
  obtain ⟨ad, rfl, _, hc⟩ := hr.ad (by omega)
  refine ⟨ad, rfl, ?_⟩
  have h3 := hc i _ (b8s_get l i hi)
  have h4 : ad.add i = { block := ad.block, off := ad.off + i } := by unfold Addr.add; rw [if_neg (by omega)]
  rw [h4] at h3
  rw [h3]
  have : l[i] = l.getD i 0 := by simp [List.getD_eq_getElem?_getD, hi]
  rw [this]

set_option maxRecDepth 100000 in
set_option maxHeartbeats 1600000 in
theorem rget_any (w : World) (v : Value) (l : List UInt8) (file place : UInt32) (hby : By w w.heap.size v l) (hsz : l.length ≤ 1099511627776) :
    Calls Try.prog 25 #[v, .int .u32 (file.toNat : Int), .int .u32 (place.toNat : Int)] w fun e w' => ∃ v', e = .returned (.tuple #[v', .int .i64 (getE l file place)]) ∧ By w' w'.heap.size v' (getL l file place) ∧ Below w.heap.size w w' := by
  have hby0 := hby
  obtain ⟨A, c, rfl, hc1, hc2, hrd⟩ := hby
  unfold maxLen at hc2
  by_cases h128 : l.length = 128
  · have hE : getE l file place = if getB l file place then 0 else 5 := by simp [getE, h128]
    have hL : getL l file place = if getB l file place then inOf l else [] := rfl
    have hiff := get_ref l file place
    have HE := Lib.hid hE
    have HL := Lib.hid hL
    have Hiff := Lib.hid hiff
    have hin := ref_in l file place
    have Hin := Lib.hid hin
    clear hE hL hiff hin
    generalize getE l file place = E at *
    generalize getL l file place = L at *
    generalize getB l file place = B at *
    have H128 := Lib.hid h128
    have hbad : ¬ refB l file place → E = 5 ∧ L = [] := by
      intro hn
      have hB : B = false := by
        cases hB : B with
        | false => rfl
        | true => exact absurd (Hiff.out.1 hB) hn
      exact ⟨by rw [HE.out, hB]; rfl, by rw [HL.out, hB]; rfl⟩
    have Hbad := Lib.hid hbad
    have hgood : refB l file place → E = 0 ∧ L = (l.drop 12).take (leAt l) := by
      intro hn
      exact ⟨by rw [HE.out, Hiff.out.2 hn]; rfl, by rw [HL.out, Hiff.out.2 hn, ← Hin.out hn]; rfl⟩
    have Hgood := Lib.hid hgood
    clear hbad hgood HE HL Hiff Hin
    go_enter Try.func25, Try.ntmps25
    rw [h128]
    rw [h128] at hby0
    clear h128
    go_wp2_with fail
    refine (rfits_any _ _ l hby0 (by omega)).mono ?_
    rintro e w1 ⟨v1, rfl, hown1, hb1⟩
    by_cases hf : fitsB l = true
    · have hfE : fitsE l = 0 := by unfold fitsE; rw [hf, H128.out]; rfl
      have hfL : fitsL l = l.take 124 := by unfold fitsL; rw [hf, H128.out]; rfl
      rw [hfE]
      rw [hfL] at hown1
      have Hf := Lib.hid hf
      clear hf hfE hfL
      have hol : (l.take 124).length = 124 := by rw [List.length_take, H128.out]; rfl
      have Hol := Lib.hid hol
      have hown1' := hown1.by_
      obtain ⟨Ao, co, rfl, hco1, hco2, _⟩ := hown1.form_
      rw [hol] at hown1' hco1 ⊢
      unfold maxLen at hco2
      have hgd : ∀ i, i < 124 → (l.take 124).getD i 0 = l.getD i 0 := by
        intro i hi
        simp [List.getD_eq_getElem?_getD, List.getElem?_take, hi]
      obtain ⟨ad, rfl, hx8⟩ := load4 hown1' 8 (by omega) (by omega)
      obtain ⟨_, e9, hx9⟩ := load4 hown1' 9 (by omega) (by omega)
      obtain ⟨_, e10, hx10⟩ := load4 hown1' 10 (by omega) (by omega)
      obtain ⟨_, e11, hx11⟩ := load4 hown1' 11 (by omega) (by omega)
      injection e9 with e9
      injection e10 with e10
      injection e11 with e11
      subst e9
      subst e10
      subst e11
      rw [hgd 8 (by omega)] at hx8
      rw [hgd 9 (by omega)] at hx9
      rw [hgd 10 (by omega)] at hx10
      rw [hgd 11 (by omega)] at hx11
      have hle : leAt l = (l.getD 8 0).toNat + 256 * (l.getD 9 0).toNat + 65536 * (l.getD 10 0).toNat + 16777216 * (l.getD 11 0).toNat := rfl
      have Hle := Lib.hid hle
      clear hle hgd hol hown1
      have b0 := u8_lt (l.getD 8 0)
      have b1 := u8_lt (l.getD 9 0)
      have b2 := u8_lt (l.getD 10 0)
      have b3 := u8_lt (l.getD 11 0)
      generalize l.getD 8 0 = x8 at *
      generalize l.getD 9 0 = x9 at *
      generalize l.getD 10 0 = x10 at *
      generalize l.getD 11 0 = x11 at *
      go_wp2_with fail
      go_quiet (fail)
      go_wp2_with fail
      have hW : Below w1.heap.size w1 (w1.drewN nq) := bdrewN (Below.refl _ _) _
      have hown1'' := hown1'.step hW
      have hbW := bstep hb1 hW
      generalize w1.drewN nq = W at *
      have hsum : ((x8.toNat : Int) + 256 * (x9.toNat : Int) + 65536 * (x10.toNat : Int) + 16777216 * (x11.toNat : Int)) = ((leAt l : Nat) : Int) := by rw [Hle.out]; omega
      rw [hsum]
      have hnb : leAt l < 4294967296 := by rw [Hle.out]; omega
      clear hsum hx8 hx9 hx10 hx11 b0 b1 b2 b3 hown1' hW Hle
      have k1 := hown1''.front_ (k := 4) (by rw [Hol.out]; omega)
      have k2 := (hown1''.back_ (k := 4) (by rw [Hol.out]; omega)).front_ (k := 4) (by rw [List.length_drop, Hol.out]; omega)
      rw [if_neg (show ¬ co = 4 by omega), show Option.map (fun x => x.add 4) (some ad) = some { block := ad.block, off := ad.off + 4 } from rfl] at k2
      have ht4 : (l.take 124).take 4 = l.take 4 := by rw [List.take_take]; rfl
      have ht8 : ((l.take 124).drop 4).take 4 = (l.drop 4).take 4 := by rw [List.drop_take, List.take_take]; rfl
      have Ht4 := Lib.hid ht4
      have Ht8 := Lib.hid ht8
      clear ht4 ht8
      generalize hn : leAt l = n at *
      have Hn := Lib.hid hn
      clear hn
      generalize hown : l.take 124 = own at *
      have Hown := Lib.hid hown
      clear hown
      by_cases c1 : own.take 4 = four file
      · have hc1 : (own.take 4 == four file) = true := by simpa using c1
        by_cases c2 : (own.drop 4).take 4 = four place
        · have hc2 : ((own.drop 4).take 4 == four place) = true := by simpa using c2
          have C1 := Lib.hid c1
          have C2 := Lib.hid c2
          clear c1 c2
          refine wp_region_typed [some 46, some 47, some 48, some 49, some 50, some 51, some 52, some 53, some 54, some 55, some 56, some 57, some 58, some 59, some 60, some 61, some 62, some 63, some 64, some 65] [46, 47, 48, 49, 50, 51, 52, 53, 54, 55, 56, 57, 58, 59, 60, 61, 62, 63, 64, 65]
            [Ph.is (.slice (some ad) 124 co),
              Ph.is (.slice (some ad) 4 co),
              Ph.is (.string (bst (own.take 4))),
              Ph.is (.int .u32 (file.toNat : Int)),
              Ph.by_ (four file),
              Ph.is (.string (bst (four file))),
              Ph.is (.bool false),
              Ph.is (.bool false),
              Ph.is (.slice (some ad) 124 co),
              Ph.is (.slice (some { block := ad.block, off := ad.off + 4 }) 4 (co - 4)),
              Ph.is (.string (bst ((own.drop 4).take 4))),
              Ph.is (.int .u32 (place.toNat : Int)),
              Ph.by_ (four place),
              Ph.is (.string (bst (four place))),
              Ph.is (.bool false),
              Ph.is (.bool false),
              Ph.is (.bool false),
              Ph.is (.int .u64 (n : Int)),
              Ph.is (.bool (decide (112 < (n : Int)))),
              Ph.is (.bool (decide (112 < (n : Int))))] rfl rfl (by kernel_rfl) (by kernel_rfl) ?_ ?_
          · refine ⟨?_, ?_, ?_, ?_, ?_, ?_, ?_, ?_, ?_, ?_, ?_, ?_, ?_, ?_, ?_, ?_, ?_, ?_, ?_, ?_, trivial⟩
            · -- 0: slot 46 := Op.move t8
              refine ob_yes fun f w' hb hp => ?_
              simp [PreOf, factOf, valOf, Ph.is, Ph.by_, Ph.any, Region.binds] at hp
              refine ⟨by simp [Gd, valOf, hp], ?_⟩
              refine mild_val (.slice (some ad) 124 co) ?_ rfl
              simp [execOp, evalF, hp]
            · -- 1: slot 47 := Op.slice 22 t46 none (some (const (4:i64))) none
              refine ob_yes fun f w' hb hp => ?_
              simp [PreOf, factOf, valOf, Ph.is, Ph.by_, Ph.any, Region.binds] at hp
              refine ⟨by simp [Gd, valOf, hp], ?_⟩
              refine mild_val (.slice (some ad) 4 co) ?_ rfl
              simp [execOp, evalF, hp, go_sem]
              try omega
            · -- 2: slot 48 := Op.convert 22 9 t47
              refine ob_yes fun f w' hb hp => ?_
              simp [PreOf, factOf, valOf, Ph.is, Ph.by_, Ph.any, Region.binds] at hp
              refine ⟨by simp [Gd, valOf, hp], ?_⟩
              refine mild_val (.string (bst (own.take 4))) ?_ rfl
              have hc := conv8 (k1.below hb)
              simp [execOp, evalF, hp, hc]
            · -- 3: slot 49 := Op.move t1
              refine ob_yes fun f w' hb hp => ?_
              simp [PreOf, factOf, valOf, Ph.is, Ph.by_, Ph.any, Region.binds] at hp
              refine ⟨by simp [Gd, valOf, hp], ?_⟩
              refine mild_val (.int .u32 (file.toNat : Int)) ?_ rfl
              simp [execOp, evalF, hp]
            · -- 4: slot 50 := Op.call   value (Operand.func 32), args := #[t49], argTypes := #[24]  
              refine ob_yes fun f w' hb hp => ?_
              simp [PreOf, factOf, valOf, Ph.is, Ph.by_, Ph.any, Region.binds] at hp
              refine ⟨by simp [Gd, valOf, hp], ?_⟩
              refine mild_call 32 _ _ Try.f32 Try.func32 (by kernel_rfl) (by kernel_rfl) rfl ?_
              simp [evalF, hp, Ph.is, Ph.by_, Ph.any]
              exact (rfour_any w' file).mono fun e w2 ⟨v, h1, h2, h3⟩ => ⟨v, h1, h3, h2.by_⟩
            · -- 5: slot 51 := Op.convert 22 9 t50
              refine ob_yes fun f w' hb hp => ?_
              simp [PreOf, factOf, valOf, Ph.is, Ph.by_, Ph.any, Region.binds] at hp
              refine ⟨by simp [Gd, valOf, hp], ?_⟩
              refine mild_val (.string (bst (four file))) ?_ rfl
              have hc := conv8 (by first | exact hp | exact hp.1 | exact hp.2 | exact hp.1.1 | exact hp.1.2 | exact hp.2.1 | exact hp.2.2)
              simp [execOp, evalF, hp, hc]
            · -- 6: slot 52 := Op.binOp BinOp.neq 9 t48 t51 9
              refine ob_yes fun f w' hb hp => ?_
              simp [PreOf, factOf, valOf, Ph.is, Ph.by_, Ph.any, Region.binds] at hp
              refine ⟨by simp [Gd, valOf, hp], ?_⟩
              refine mild_val (.bool false) ?_ rfl
              simp [execOp, evalF, hp, go_sem, bst_toList, hc1]
            · -- 7: slot 53 := Op.move t52
              refine ob_yes fun f w' hb hp => ?_
              simp [PreOf, factOf, valOf, Ph.is, Ph.by_, Ph.any, Region.binds] at hp
              refine ⟨by simp [Gd, valOf, hp], ?_⟩
              refine mild_val (.bool false) ?_ rfl
              simp [execOp, evalF, hp]
            · -- 8: slot 54 := Op.move t8
              refine ob_yes fun f w' hb hp => ?_
              simp [PreOf, factOf, valOf, Ph.is, Ph.by_, Ph.any, Region.binds] at hp
              refine ⟨by simp [Gd, valOf, hp], ?_⟩
              refine mild_val (.slice (some ad) 124 co) ?_ rfl
              simp [execOp, evalF, hp]
            · -- 9: slot 55 := Op.slice 22 t54 (some (const (4:i64))) (some (const (8:i64))) none
              refine ob_yes fun f w' hb hp => ?_
              simp [PreOf, factOf, valOf, Ph.is, Ph.by_, Ph.any, Region.binds] at hp
              refine ⟨by simp [Gd, valOf, hp], ?_⟩
              refine mild_val (.slice (some { block := ad.block, off := ad.off + 4 }) 4 (co - 4)) ?_ rfl
              refine (run_cut_both _ _ _ .i64 .i64 4 8 Try.underlying22 size8 (A := some ad) (n := 124) (c := co) (by simp [evalF, hp]) rfl rfl (by omega) (by omega)).trans ?_
              rw [if_neg (show ¬ co = 4 by omega)]; rfl
            · -- 10: slot 56 := Op.convert 22 9 t55
              refine ob_yes fun f w' hb hp => ?_
              simp [PreOf, factOf, valOf, Ph.is, Ph.by_, Ph.any, Region.binds] at hp
              refine ⟨by simp [Gd, valOf, hp], ?_⟩
              refine mild_val (.string (bst ((own.drop 4).take 4))) ?_ rfl
              have hc := conv8 (k2.below hb)
              simp [execOp, evalF, hp, hc]
            · -- 11: slot 57 := Op.move t2
              refine ob_yes fun f w' hb hp => ?_
              simp [PreOf, factOf, valOf, Ph.is, Ph.by_, Ph.any, Region.binds] at hp
              refine ⟨by simp [Gd, valOf, hp], ?_⟩
              refine mild_val (.int .u32 (place.toNat : Int)) ?_ rfl
              simp [execOp, evalF, hp]
            · -- 12: slot 58 := Op.call   value (Operand.func 32), args := #[t57], argTypes := #[24]  
              refine ob_yes fun f w' hb hp => ?_
              simp [PreOf, factOf, valOf, Ph.is, Ph.by_, Ph.any, Region.binds] at hp
              refine ⟨by simp [Gd, valOf, hp], ?_⟩
              refine mild_call 32 _ _ Try.f32 Try.func32 (by kernel_rfl) (by kernel_rfl) rfl ?_
              simp [evalF, hp, Ph.is, Ph.by_, Ph.any]
              exact (rfour_any w' place).mono fun e w2 ⟨v, h1, h2, h3⟩ => ⟨v, h1, h3, h2.by_⟩
            · -- 13: slot 59 := Op.convert 22 9 t58
              refine ob_yes fun f w' hb hp => ?_
              simp [PreOf, factOf, valOf, Ph.is, Ph.by_, Ph.any, Region.binds] at hp
              refine ⟨by simp [Gd, valOf, hp], ?_⟩
              refine mild_val (.string (bst (four place))) ?_ rfl
              have hc := conv8 (by first | exact hp | exact hp.1 | exact hp.2 | exact hp.1.1 | exact hp.1.2 | exact hp.2.1 | exact hp.2.2)
              simp [execOp, evalF, hp, hc]
            · -- 14: slot 60 := Op.binOp BinOp.neq 9 t56 t59 9
              refine ob_yes fun f w' hb hp => ?_
              simp [PreOf, factOf, valOf, Ph.is, Ph.by_, Ph.any, Region.binds] at hp
              refine ⟨by simp [Gd, valOf, hp], ?_⟩
              refine mild_val (.bool false) ?_ rfl
              simp [execOp, evalF, hp, go_sem, bst_toList, hc2]
            · -- 15: slot 61 := Op.pick t53 (const (Value.bool true)) t60
              refine ob_yes fun f w' hb hp => ?_
              simp [PreOf, factOf, valOf, Ph.is, Ph.by_, Ph.any, Region.binds] at hp
              refine ⟨by simp [Gd, valOf, hp], ?_⟩
              refine mild_val (.bool false) ?_ rfl
              simp [execOp, evalF, hp, go_sem]
            · -- 16: slot 62 := Op.move t61
              refine ob_yes fun f w' hb hp => ?_
              simp [PreOf, factOf, valOf, Ph.is, Ph.by_, Ph.any, Region.binds] at hp
              refine ⟨by simp [Gd, valOf, hp], ?_⟩
              refine mild_val (.bool false) ?_ rfl
              simp [execOp, evalF, hp]
            · -- 17: slot 63 := Op.move t10
              refine ob_yes fun f w' hb hp => ?_
              simp [PreOf, factOf, valOf, Ph.is, Ph.by_, Ph.any, Region.binds] at hp
              refine ⟨by simp [Gd, valOf, hp], ?_⟩
              refine mild_val (.int .u64 (n : Int)) ?_ rfl
              simp [execOp, evalF, hp]
            · -- 18: slot 64 := Op.binOp BinOp.gtr 69 t63 (const (112:u64)) 69
              refine ob_yes fun f w' hb hp => ?_
              simp [PreOf, factOf, valOf, Ph.is, Ph.by_, Ph.any, Region.binds] at hp
              refine ⟨by simp [Gd, valOf, hp], ?_⟩
              refine mild_val (.bool (decide (112 < (n : Int)))) ?_ rfl
              simp [execOp, evalF, hp, go_sem]
            · -- 19: slot 65 := Op.pick t62 (const (Value.bool true)) t64
              refine ob_yes fun f w' hb hp => ?_
              simp [PreOf, factOf, valOf, Ph.is, Ph.by_, Ph.any, Region.binds] at hp
              refine ⟨by simp [Gd, valOf, hp], ?_⟩
              refine mild_val (.bool (decide (112 < (n : Int)))) ?_ rfl
              simp [execOp, evalF, hp, go_sem]
          · intro f w2 hb2 hp
            simp only [PostOf, Ph.is, Ph.by_, Ph.any] at hp
            obtain ⟨h0, h1, h2, h3, h4, h5, h6, h7, h8, h9, h10, h11, h12, h13, h14, h15, h16, h17, h18, h19, _⟩ := hp
            simp only [fills, List.foldl_cons, List.foldl_nil, Act.put, List.setIfInBounds_toArray, List.set_cons_zero, List.set_cons_succ, h0, h1, h2, h3, h5, h6, h7, h8, h9, h10, h11, h13, h14, h15, h16, h17, h18, h19]
            clear h0 h1 h2 h3 h5 h6 h7 h8 h9 h10 h11 h13 h14 h15 h16 h17 h18 h19
            generalize f 50 = v50 at *
            generalize f 58 = v58 at *
            by_cases c3 : 112 < n
            · obtain ⟨e1, e2⟩ := Hbad.out (fun h => by have := h.2.2.2.2.1; rw [Hn.out] at this; omega)
              go_wp2_with fail
              go_ret2
              exact ⟨_, by rw [e1]; rfl, by rw [e2]; exact (Ow.new_ w2 [] (Nat.zero_le _)).by_, (bstep hbW hb2).trans ((balloc w2 _).mono (bstep hbW hb2).size)⟩
            · have hb2' := bstep hbW hb2
              have hown2 := hown1''.step hb2
              have hcut := (hown2.back_ (k := 12) (by rw [Hol.out]; omega)).front_ (k := n) (by rw [List.length_drop, Hol.out]; omega)
              rw [if_neg (show ¬ co = 12 by omega), show Option.map (fun x => x.add 12) (some ad) = some { block := ad.block, off := ad.off + 12 } from rfl] at hcut
              have Hcut := Lib.hid hcut
              have hzero : (∀ i, 12 + n ≤ i → i < 124 → own.getD i 0 = 0) ↔ refB l file place := by
                have hge : ∀ i, i < 124 → own.getD i 0 = l.getD i 0 := by
                  intro i hi
                  rw [← Hown.out]
                  simp [List.getD_eq_getElem?_getD, List.getElem?_take, hi]
                constructor
                · intro h
                  refine ⟨H128.out, Hf.out, by rw [← Ht4.out]; exact C1.out, by rw [← Ht8.out]; exact C2.out, by rw [Hn.out]; omega, ?_⟩
                  intro i hi1 hi2
                  rw [Hn.out] at hi1
                  rw [← hge i hi2]
                  exact h i hi1 hi2
                · intro h i hi1 hi2
                  rw [hge i hi2]
                  exact h.2.2.2.2.2 i (by rw [Hn.out]; exact hi1) hi2
              have Hzero := Lib.hid hzero
              clear hcut hzero k1 k2 hown1'' h4 h12 hc1 hc2
              go_wp2_with fail
              go_loop [11] (fun i => ∃ k : Nat, 12 + n ≤ k ∧ k ≤ 124 ∧ i = .int .i64 k ∧ ∀ j, 12 + n ≤ j → j < k → own.getD j 0 = 0) (fun i => 124 - (intOf i).toNat)
              case atStart => exact ⟨12 + n, by omega, by omega, by go_num, fun j h1 h2 => by omega⟩
              case round =>
                obtain ⟨k, hk1, hk2, rfl, hz⟩ := hrel
                have Hz := Lib.hid hz
                clear hz
                by_cases hlt : k < 124
                · obtain ⟨A', c', e0, _, _, hr⟩ := hown2
                  injection e0 with e01 e02 e03
                  subst e01
                  obtain ⟨ad', e04, _, hcs⟩ := hr.ad (by rw [Hol.out]; omega)
                  injection e04 with e04
                  subst e04
                  have hcell := hcs k _ (b8s_get own k (by rw [Hol.out]; exact hlt))
                  have hgk : own[k]'(by rw [Hol.out]; exact hlt) = own.getD k 0 := by simp [List.getD_eq_getElem?_getD, Hol.out, hlt]
                  rw [hgk] at hcell
                  clear hcs hgk hr e02 e03
                  by_cases hx : own.getD k 0 = 0
                  · have hx0 : (((own.getD k 0).toNat : Int) == 0) = true := by rw [hx]; rfl
                    have hz2 : ∀ j, 12 + n ≤ j → j < k + 1 → own.getD j 0 = 0 := by
                      intro j h1 h2
                      by_cases hj : j = k
                      · rw [hj]; exact hx
                      · exact Hz.out j h1 (by omega)
                    have Hz2 := Lib.hid hz2
                    clear hx hz2
                    generalize own.getD k 0 = x at *
                    go_wp2_with fail
                    exact ⟨⟨k + 1, by omega, by omega, by go_num, Hz2.out⟩, by simp [intOf]; omega⟩
                  · have hx0 : (((own.getD k 0).toNat : Int) == 0) = false := by
                      simp only [beq_eq_false_iff_ne, ne_eq]
                      intro h
                      exact hx (UInt8.toNat_inj.1 (by have h5 : (own.getD k 0).toNat = 0 := by omega
                                                      rw [h5]; rfl))
                    obtain ⟨e1, e2⟩ := Hbad.out (fun h => hx (Hzero.out.2 h k hk1 hlt))
                    have E1 := Lib.hid e1
                    have E2 := Lib.hid e2
                    clear hx e1 e2
                    generalize own.getD k 0 = x at *
                    go_wp2_with fail
                    go_ret2
                    exact ⟨_, by rw [E1.out]; rfl, by rw [E2.out]; exact (Ow.new_ w2 [] (Nat.zero_le _)).by_, hb2'.trans ((balloc w2 _).mono hb2'.size)⟩
                · obtain rfl : k = 124 := by omega
                  obtain ⟨e1, e2⟩ := Hgood.out (Hzero.out.1 Hz.out)
                  have hLe : L = (own.drop 12).take n := by
                    rw [e2, ← Hown.out, List.drop_take, List.take_take]
                    congr 1
                    omega
                  have HLe := Lib.hid hLe
                  have He1 := Lib.hid e1
                  clear e1 e2 hLe
                  have hnn : (12 + (n : Int)).toNat - 12 = n := by omega
                  go_wp2_with fail
                  go_ret2
                  refine ⟨.slice (some { block := ad.block, off := ad.off + 12 }) n (co - 12), ?_, by rw [HLe.out]; exact Hcut.out, hb2'⟩
                  rw [He1.out, ← hnn]
                  rfl
        · have hc2 : ((own.drop 4).take 4 == four place) = false := by simpa using c2
          obtain ⟨e1, e2⟩ := Hbad.out (fun h => c2 (by rw [Ht8.out]; exact h.2.2.2.1))
          clear c1 c2
          refine wp_region_typed [some 46, some 47, some 48, some 49, some 50, some 51, some 52, some 53, some 54, some 55, some 56, some 57, some 58, some 59, some 60, some 61, some 62, some 63, some 64, some 65] [46, 47, 48, 49, 50, 51, 52, 53, 54, 55, 56, 57, 58, 59, 60, 61, 62, 63, 64, 65]
            [Ph.is (.slice (some ad) 124 co),
              Ph.is (.slice (some ad) 4 co),
              Ph.is (.string (bst (own.take 4))),
              Ph.is (.int .u32 (file.toNat : Int)),
              Ph.by_ (four file),
              Ph.is (.string (bst (four file))),
              Ph.is (.bool false),
              Ph.is (.bool false),
              Ph.is (.slice (some ad) 124 co),
              Ph.is (.slice (some { block := ad.block, off := ad.off + 4 }) 4 (co - 4)),
              Ph.is (.string (bst ((own.drop 4).take 4))),
              Ph.is (.int .u32 (place.toNat : Int)),
              Ph.by_ (four place),
              Ph.is (.string (bst (four place))),
              Ph.is (.bool true),
              Ph.is (.bool true),
              Ph.is (.bool true),
              Ph.is undef,
              Ph.is undef,
              Ph.is (.bool true)] rfl rfl (by kernel_rfl) (by kernel_rfl) ?_ ?_
          · refine ⟨?_, ?_, ?_, ?_, ?_, ?_, ?_, ?_, ?_, ?_, ?_, ?_, ?_, ?_, ?_, ?_, ?_, ?_, ?_, ?_, trivial⟩
            · -- 0: slot 46 := Op.move t8
              refine ob_yes fun f w' hb hp => ?_
              simp [PreOf, factOf, valOf, Ph.is, Ph.by_, Ph.any, Region.binds] at hp
              refine ⟨by simp [Gd, valOf, hp], ?_⟩
              refine mild_val (.slice (some ad) 124 co) ?_ rfl
              simp [execOp, evalF, hp]
            · -- 1: slot 47 := Op.slice 22 t46 none (some (const (4:i64))) none
              refine ob_yes fun f w' hb hp => ?_
              simp [PreOf, factOf, valOf, Ph.is, Ph.by_, Ph.any, Region.binds] at hp
              refine ⟨by simp [Gd, valOf, hp], ?_⟩
              refine mild_val (.slice (some ad) 4 co) ?_ rfl
              simp [execOp, evalF, hp, go_sem]
              try omega
            · -- 2: slot 48 := Op.convert 22 9 t47
              refine ob_yes fun f w' hb hp => ?_
              simp [PreOf, factOf, valOf, Ph.is, Ph.by_, Ph.any, Region.binds] at hp
              refine ⟨by simp [Gd, valOf, hp], ?_⟩
              refine mild_val (.string (bst (own.take 4))) ?_ rfl
              have hc := conv8 (k1.below hb)
              simp [execOp, evalF, hp, hc]
            · -- 3: slot 49 := Op.move t1
              refine ob_yes fun f w' hb hp => ?_
              simp [PreOf, factOf, valOf, Ph.is, Ph.by_, Ph.any, Region.binds] at hp
              refine ⟨by simp [Gd, valOf, hp], ?_⟩
              refine mild_val (.int .u32 (file.toNat : Int)) ?_ rfl
              simp [execOp, evalF, hp]
            · -- 4: slot 50 := Op.call   value (Operand.func 32), args := #[t49], argTypes := #[24]  
              refine ob_yes fun f w' hb hp => ?_
              simp [PreOf, factOf, valOf, Ph.is, Ph.by_, Ph.any, Region.binds] at hp
              refine ⟨by simp [Gd, valOf, hp], ?_⟩
              refine mild_call 32 _ _ Try.f32 Try.func32 (by kernel_rfl) (by kernel_rfl) rfl ?_
              simp [evalF, hp, Ph.is, Ph.by_, Ph.any]
              exact (rfour_any w' file).mono fun e w2 ⟨v, h1, h2, h3⟩ => ⟨v, h1, h3, h2.by_⟩
            · -- 5: slot 51 := Op.convert 22 9 t50
              refine ob_yes fun f w' hb hp => ?_
              simp [PreOf, factOf, valOf, Ph.is, Ph.by_, Ph.any, Region.binds] at hp
              refine ⟨by simp [Gd, valOf, hp], ?_⟩
              refine mild_val (.string (bst (four file))) ?_ rfl
              have hc := conv8 (by first | exact hp | exact hp.1 | exact hp.2 | exact hp.1.1 | exact hp.1.2 | exact hp.2.1 | exact hp.2.2)
              simp [execOp, evalF, hp, hc]
            · -- 6: slot 52 := Op.binOp BinOp.neq 9 t48 t51 9
              refine ob_yes fun f w' hb hp => ?_
              simp [PreOf, factOf, valOf, Ph.is, Ph.by_, Ph.any, Region.binds] at hp
              refine ⟨by simp [Gd, valOf, hp], ?_⟩
              refine mild_val (.bool false) ?_ rfl
              simp [execOp, evalF, hp, go_sem, bst_toList, hc1]
            · -- 7: slot 53 := Op.move t52
              refine ob_yes fun f w' hb hp => ?_
              simp [PreOf, factOf, valOf, Ph.is, Ph.by_, Ph.any, Region.binds] at hp
              refine ⟨by simp [Gd, valOf, hp], ?_⟩
              refine mild_val (.bool false) ?_ rfl
              simp [execOp, evalF, hp]
            · -- 8: slot 54 := Op.move t8
              refine ob_yes fun f w' hb hp => ?_
              simp [PreOf, factOf, valOf, Ph.is, Ph.by_, Ph.any, Region.binds] at hp
              refine ⟨by simp [Gd, valOf, hp], ?_⟩
              refine mild_val (.slice (some ad) 124 co) ?_ rfl
              simp [execOp, evalF, hp]
            · -- 9: slot 55 := Op.slice 22 t54 (some (const (4:i64))) (some (const (8:i64))) none
              refine ob_yes fun f w' hb hp => ?_
              simp [PreOf, factOf, valOf, Ph.is, Ph.by_, Ph.any, Region.binds] at hp
              refine ⟨by simp [Gd, valOf, hp], ?_⟩
              refine mild_val (.slice (some { block := ad.block, off := ad.off + 4 }) 4 (co - 4)) ?_ rfl
              refine (run_cut_both _ _ _ .i64 .i64 4 8 Try.underlying22 size8 (A := some ad) (n := 124) (c := co) (by simp [evalF, hp]) rfl rfl (by omega) (by omega)).trans ?_
              rw [if_neg (show ¬ co = 4 by omega)]; rfl
            · -- 10: slot 56 := Op.convert 22 9 t55
              refine ob_yes fun f w' hb hp => ?_
              simp [PreOf, factOf, valOf, Ph.is, Ph.by_, Ph.any, Region.binds] at hp
              refine ⟨by simp [Gd, valOf, hp], ?_⟩
              refine mild_val (.string (bst ((own.drop 4).take 4))) ?_ rfl
              have hc := conv8 (k2.below hb)
              simp [execOp, evalF, hp, hc]
            · -- 11: slot 57 := Op.move t2
              refine ob_yes fun f w' hb hp => ?_
              simp [PreOf, factOf, valOf, Ph.is, Ph.by_, Ph.any, Region.binds] at hp
              refine ⟨by simp [Gd, valOf, hp], ?_⟩
              refine mild_val (.int .u32 (place.toNat : Int)) ?_ rfl
              simp [execOp, evalF, hp]
            · -- 12: slot 58 := Op.call   value (Operand.func 32), args := #[t57], argTypes := #[24]  
              refine ob_yes fun f w' hb hp => ?_
              simp [PreOf, factOf, valOf, Ph.is, Ph.by_, Ph.any, Region.binds] at hp
              refine ⟨by simp [Gd, valOf, hp], ?_⟩
              refine mild_call 32 _ _ Try.f32 Try.func32 (by kernel_rfl) (by kernel_rfl) rfl ?_
              simp [evalF, hp, Ph.is, Ph.by_, Ph.any]
              exact (rfour_any w' place).mono fun e w2 ⟨v, h1, h2, h3⟩ => ⟨v, h1, h3, h2.by_⟩
            · -- 13: slot 59 := Op.convert 22 9 t58
              refine ob_yes fun f w' hb hp => ?_
              simp [PreOf, factOf, valOf, Ph.is, Ph.by_, Ph.any, Region.binds] at hp
              refine ⟨by simp [Gd, valOf, hp], ?_⟩
              refine mild_val (.string (bst (four place))) ?_ rfl
              have hc := conv8 (by first | exact hp | exact hp.1 | exact hp.2 | exact hp.1.1 | exact hp.1.2 | exact hp.2.1 | exact hp.2.2)
              simp [execOp, evalF, hp, hc]
            · -- 14: slot 60 := Op.binOp BinOp.neq 9 t56 t59 9
              refine ob_yes fun f w' hb hp => ?_
              simp [PreOf, factOf, valOf, Ph.is, Ph.by_, Ph.any, Region.binds] at hp
              refine ⟨by simp [Gd, valOf, hp], ?_⟩
              refine mild_val (.bool true) ?_ rfl
              simp [execOp, evalF, hp, go_sem, bst_toList, hc2]
            · -- 15: slot 61 := Op.pick t53 (const (Value.bool true)) t60
              refine ob_yes fun f w' hb hp => ?_
              simp [PreOf, factOf, valOf, Ph.is, Ph.by_, Ph.any, Region.binds] at hp
              refine ⟨by simp [Gd, valOf, hp], ?_⟩
              refine mild_val (.bool true) ?_ rfl
              simp [execOp, evalF, hp, go_sem]
            · -- 16: slot 62 := Op.move t61
              refine ob_yes fun f w' hb hp => ?_
              simp [PreOf, factOf, valOf, Ph.is, Ph.by_, Ph.any, Region.binds] at hp
              refine ⟨by simp [Gd, valOf, hp], ?_⟩
              refine mild_val (.bool true) ?_ rfl
              simp [execOp, evalF, hp]
            · -- 17: slot 63 := Op.move t10
              refine ob_no fun f w' hb hp => ?_
              simp [PreOf, factOf, valOf, Ph.is, Ph.by_, Ph.any, Region.binds] at hp
              exact ⟨by simp [Gd, valOf, hp], rfl⟩
            · -- 18: slot 64 := Op.binOp BinOp.gtr 69 t63 (const (112:u64)) 69
              refine ob_no fun f w' hb hp => ?_
              simp [PreOf, factOf, valOf, Ph.is, Ph.by_, Ph.any, Region.binds] at hp
              exact ⟨by simp [Gd, valOf, hp], rfl⟩
            · -- 19: slot 65 := Op.pick t62 (const (Value.bool true)) t64
              refine ob_yes fun f w' hb hp => ?_
              simp [PreOf, factOf, valOf, Ph.is, Ph.by_, Ph.any, Region.binds] at hp
              refine ⟨by simp [Gd, valOf, hp], ?_⟩
              refine mild_val (.bool true) ?_ rfl
              simp [execOp, evalF, hp, go_sem]
          · intro f w2 hb2 hp
            simp only [PostOf, Ph.is, Ph.by_, Ph.any] at hp
            obtain ⟨h0, h1, h2, h3, h4, h5, h6, h7, h8, h9, h10, h11, h12, h13, h14, h15, h16, h17, h18, h19, _⟩ := hp
            simp only [fills, List.foldl_cons, List.foldl_nil, Act.put, List.setIfInBounds_toArray, List.set_cons_zero, List.set_cons_succ, h0, h1, h2, h3, h5, h6, h7, h8, h9, h10, h11, h13, h14, h15, h16, h17, h18, h19]
            clear h0 h1 h2 h3 h5 h6 h7 h8 h9 h10 h11 h13 h14 h15 h16 h17 h18 h19
            generalize f 50 = v50 at *
            generalize f 58 = v58 at *
            go_wp2_with fail
            go_ret2
            exact ⟨_, by rw [e1]; rfl, by rw [e2]; exact (Ow.new_ w2 [] (Nat.zero_le _)).by_, (bstep hbW hb2).trans ((balloc w2 _).mono (bstep hbW hb2).size)⟩
      · have hc1 : (own.take 4 == four file) = false := by simpa using c1
        obtain ⟨e1, e2⟩ := Hbad.out (fun h => c1 (by rw [Ht4.out]; exact h.2.2.1))
        clear c1
        refine wp_region_typed [some 46, some 47, some 48, some 49, some 50, some 51, some 52, some 53, some 54, some 55, some 56, some 57, some 58, some 59, some 60, some 61, some 62, some 63, some 64, some 65] [46, 47, 48, 49, 50, 51, 52, 53, 54, 55, 56, 57, 58, 59, 60, 61, 62, 63, 64, 65]
          [Ph.is (.slice (some ad) 124 co),
            Ph.is (.slice (some ad) 4 co),
            Ph.is (.string (bst (own.take 4))),
            Ph.is (.int .u32 (file.toNat : Int)),
            Ph.by_ (four file),
            Ph.is (.string (bst (four file))),
            Ph.is (.bool true),
            Ph.is (.bool true),
            Ph.is undef,
            Ph.is undef,
            Ph.is undef,
            Ph.is undef,
            Ph.is undef,
            Ph.is undef,
            Ph.is undef,
            Ph.is (.bool true),
            Ph.is (.bool true),
            Ph.is undef,
            Ph.is undef,
            Ph.is (.bool true)] rfl rfl (by kernel_rfl) (by kernel_rfl) ?_ ?_
        · refine ⟨?_, ?_, ?_, ?_, ?_, ?_, ?_, ?_, ?_, ?_, ?_, ?_, ?_, ?_, ?_, ?_, ?_, ?_, ?_, ?_, trivial⟩
          · -- 0: slot 46 := Op.move t8
            refine ob_yes fun f w' hb hp => ?_
            simp [PreOf, factOf, valOf, Ph.is, Ph.by_, Ph.any, Region.binds] at hp
            refine ⟨by simp [Gd, valOf, hp], ?_⟩
            refine mild_val (.slice (some ad) 124 co) ?_ rfl
            simp [execOp, evalF, hp]
          · -- 1: slot 47 := Op.slice 22 t46 none (some (const (4:i64))) none
            refine ob_yes fun f w' hb hp => ?_
            simp [PreOf, factOf, valOf, Ph.is, Ph.by_, Ph.any, Region.binds] at hp
            refine ⟨by simp [Gd, valOf, hp], ?_⟩
            refine mild_val (.slice (some ad) 4 co) ?_ rfl
            simp [execOp, evalF, hp, go_sem]
            try omega
          · -- 2: slot 48 := Op.convert 22 9 t47
            refine ob_yes fun f w' hb hp => ?_
            simp [PreOf, factOf, valOf, Ph.is, Ph.by_, Ph.any, Region.binds] at hp
            refine ⟨by simp [Gd, valOf, hp], ?_⟩
            refine mild_val (.string (bst (own.take 4))) ?_ rfl
            have hc := conv8 (k1.below hb)
            simp [execOp, evalF, hp, hc]
          · -- 3: slot 49 := Op.move t1
            refine ob_yes fun f w' hb hp => ?_
            simp [PreOf, factOf, valOf, Ph.is, Ph.by_, Ph.any, Region.binds] at hp
            refine ⟨by simp [Gd, valOf, hp], ?_⟩
            refine mild_val (.int .u32 (file.toNat : Int)) ?_ rfl
            simp [execOp, evalF, hp]
          · -- 4: slot 50 := Op.call   value (Operand.func 32), args := #[t49], argTypes := #[24]  
            refine ob_yes fun f w' hb hp => ?_
            simp [PreOf, factOf, valOf, Ph.is, Ph.by_, Ph.any, Region.binds] at hp
            refine ⟨by simp [Gd, valOf, hp], ?_⟩
            refine mild_call 32 _ _ Try.f32 Try.func32 (by kernel_rfl) (by kernel_rfl) rfl ?_
            simp [evalF, hp, Ph.is, Ph.by_, Ph.any]
            exact (rfour_any w' file).mono fun e w2 ⟨v, h1, h2, h3⟩ => ⟨v, h1, h3, h2.by_⟩
          · -- 5: slot 51 := Op.convert 22 9 t50
            refine ob_yes fun f w' hb hp => ?_
            simp [PreOf, factOf, valOf, Ph.is, Ph.by_, Ph.any, Region.binds] at hp
            refine ⟨by simp [Gd, valOf, hp], ?_⟩
            refine mild_val (.string (bst (four file))) ?_ rfl
            have hc := conv8 (by first | exact hp | exact hp.1 | exact hp.2 | exact hp.1.1 | exact hp.1.2 | exact hp.2.1 | exact hp.2.2)
            simp [execOp, evalF, hp, hc]
          · -- 6: slot 52 := Op.binOp BinOp.neq 9 t48 t51 9
            refine ob_yes fun f w' hb hp => ?_
            simp [PreOf, factOf, valOf, Ph.is, Ph.by_, Ph.any, Region.binds] at hp
            refine ⟨by simp [Gd, valOf, hp], ?_⟩
            refine mild_val (.bool true) ?_ rfl
            simp [execOp, evalF, hp, go_sem, bst_toList, hc1]
          · -- 7: slot 53 := Op.move t52
            refine ob_yes fun f w' hb hp => ?_
            simp [PreOf, factOf, valOf, Ph.is, Ph.by_, Ph.any, Region.binds] at hp
            refine ⟨by simp [Gd, valOf, hp], ?_⟩
            refine mild_val (.bool true) ?_ rfl
            simp [execOp, evalF, hp]
          · -- 8: slot 54 := Op.move t8
            refine ob_no fun f w' hb hp => ?_
            simp [PreOf, factOf, valOf, Ph.is, Ph.by_, Ph.any, Region.binds] at hp
            exact ⟨by simp [Gd, valOf, hp], rfl⟩
          · -- 9: slot 55 := Op.slice 22 t54 (some (const (4:i64))) (some (const (8:i64))) none
            refine ob_no fun f w' hb hp => ?_
            simp [PreOf, factOf, valOf, Ph.is, Ph.by_, Ph.any, Region.binds] at hp
            exact ⟨by simp [Gd, valOf, hp], rfl⟩
          · -- 10: slot 56 := Op.convert 22 9 t55
            refine ob_no fun f w' hb hp => ?_
            simp [PreOf, factOf, valOf, Ph.is, Ph.by_, Ph.any, Region.binds] at hp
            exact ⟨by simp [Gd, valOf, hp], rfl⟩
          · -- 11: slot 57 := Op.move t2
            refine ob_no fun f w' hb hp => ?_
            simp [PreOf, factOf, valOf, Ph.is, Ph.by_, Ph.any, Region.binds] at hp
            exact ⟨by simp [Gd, valOf, hp], rfl⟩
          · -- 12: slot 58 := Op.call   value (Operand.func 32), args := #[t57], argTypes := #[24]  
            refine ob_no fun f w' hb hp => ?_
            simp [PreOf, factOf, valOf, Ph.is, Ph.by_, Ph.any, Region.binds] at hp
            exact ⟨by simp [Gd, valOf, hp], rfl⟩
          · -- 13: slot 59 := Op.convert 22 9 t58
            refine ob_no fun f w' hb hp => ?_
            simp [PreOf, factOf, valOf, Ph.is, Ph.by_, Ph.any, Region.binds] at hp
            exact ⟨by simp [Gd, valOf, hp], rfl⟩
          · -- 14: slot 60 := Op.binOp BinOp.neq 9 t56 t59 9
            refine ob_no fun f w' hb hp => ?_
            simp [PreOf, factOf, valOf, Ph.is, Ph.by_, Ph.any, Region.binds] at hp
            exact ⟨by simp [Gd, valOf, hp], rfl⟩
          · -- 15: slot 61 := Op.pick t53 (const (Value.bool true)) t60
            refine ob_yes fun f w' hb hp => ?_
            simp [PreOf, factOf, valOf, Ph.is, Ph.by_, Ph.any, Region.binds] at hp
            refine ⟨by simp [Gd, valOf, hp], ?_⟩
            refine mild_val (.bool true) ?_ rfl
            simp [execOp, evalF, hp, go_sem]
          · -- 16: slot 62 := Op.move t61
            refine ob_yes fun f w' hb hp => ?_
            simp [PreOf, factOf, valOf, Ph.is, Ph.by_, Ph.any, Region.binds] at hp
            refine ⟨by simp [Gd, valOf, hp], ?_⟩
            refine mild_val (.bool true) ?_ rfl
            simp [execOp, evalF, hp]
          · -- 17: slot 63 := Op.move t10
            refine ob_no fun f w' hb hp => ?_
            simp [PreOf, factOf, valOf, Ph.is, Ph.by_, Ph.any, Region.binds] at hp
            exact ⟨by simp [Gd, valOf, hp], rfl⟩
          · -- 18: slot 64 := Op.binOp BinOp.gtr 69 t63 (const (112:u64)) 69
            refine ob_no fun f w' hb hp => ?_
            simp [PreOf, factOf, valOf, Ph.is, Ph.by_, Ph.any, Region.binds] at hp
            exact ⟨by simp [Gd, valOf, hp], rfl⟩
          · -- 19: slot 65 := Op.pick t62 (const (Value.bool true)) t64
            refine ob_yes fun f w' hb hp => ?_
            simp [PreOf, factOf, valOf, Ph.is, Ph.by_, Ph.any, Region.binds] at hp
            refine ⟨by simp [Gd, valOf, hp], ?_⟩
            refine mild_val (.bool true) ?_ rfl
            simp [execOp, evalF, hp, go_sem]
        · intro f w2 hb2 hp
          simp only [PostOf, Ph.is, Ph.by_, Ph.any] at hp
          obtain ⟨h0, h1, h2, h3, h4, h5, h6, h7, h8, h9, h10, h11, h12, h13, h14, h15, h16, h17, h18, h19, _⟩ := hp
          simp only [fills, List.foldl_cons, List.foldl_nil, Act.put, List.setIfInBounds_toArray, List.set_cons_zero, List.set_cons_succ, h0, h1, h2, h3, h5, h6, h7, h8, h9, h10, h11, h12, h13, h14, h15, h16, h17, h18, h19]
          clear h0 h1 h2 h3 h5 h6 h7 h8 h9 h10 h11 h12 h13 h14 h15 h16 h17 h18 h19
          generalize f 50 = v50 at *
          go_wp2_with fail
          go_ret2
          exact ⟨_, by rw [e1]; rfl, by rw [e2]; exact (Ow.new_ w2 [] (Nat.zero_le _)).by_, (bstep hbW hb2).trans ((balloc w2 _).mono (bstep hbW hb2).size)⟩
    · have hfE : fitsE l = 5 := by unfold fitsE; rw [H128.out]; simp at hf; rw [hf]; rfl
      obtain ⟨e1, e2⟩ := Hbad.out (fun h => hf h.2.1)
      rw [hfE]
      clear hf hfE
      go_wp2_with fail
      go_ret2
      exact ⟨_, by rw [e1]; rfl, by rw [e2]; exact (Ow.new_ w1 [] (Nat.zero_le _)).by_, hb1.trans ((balloc w1 _).mono hb1.size)⟩
  · have hE : getE l file place = 3 := by simp [getE, h128]
    have hL : getL l file place = [] := by
      have : getB l file place = false := by unfold getB; simp [h128]
      simp [getL, this]
    have hne : ((l.length : Int) == 128) = false := by simp; omega
    rw [hE, hL]
    clear hE hL
    go_enter Try.func25, Try.ntmps25
    go_wp2_with fail
    go_ret2
    exact ⟨_, rfl, (Ow.new_ w [] (Nat.zero_le _)).by_, balloc _ _⟩
end Go.Proofs.Ytneihfmacljjbaa
