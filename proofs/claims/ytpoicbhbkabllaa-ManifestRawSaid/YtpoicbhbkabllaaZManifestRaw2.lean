/- The law 'ManifestRaw' returns true for every input, and each argument reads behind the call as it read before. No condition. -/
import Derived.Test.YtpoicbhbkabllaaZManifestRaw1
import Derived.Test.YtpoicbhbkabllaaRows
import Derived.WalkKit
import Derived.ProofKit
import Derived.OpenShut
import Derived.ShutString
import Derived.ChangeOld
import Derived.Below
namespace Go.Proofs.Ytpoicbhbkabllaa
set_option linter.unusedSimpArgs false
set_option linter.unusedVariables false
open Go.RowKit

theorem all_take_succ (l : List UInt8) (k : Nat) (hk : k < l.length) : ((l.take (k + 1)).all fun x => decide (x = 0)) = (((l.take k).all fun x => decide (x = 0)) && decide (l[k] = 0)) := by
  rw [List.take_add_one, List.getElem?_eq_getElem hk, Option.toList_some, List.all_append]
  simp
theorem u8_beq0 (x : UInt8) : (((x.toNat : Nat) : Int) == 0) = decide (x = 0) := by
  by_cases h : x = 0
  · subst h; rfl
  · have : x.toNat ≠ 0 := fun e => h (UInt8.toNat_inj.1 e)
    rw [decide_eq_false h]
    exact beq_eq_false_iff_ne.2 (by omega)
set_option maxRecDepth 100000 in
set_option maxHeartbeats 3200000 in
theorem rread09_on (w : World) (O : Nat → Prop) (v : Value) (m : RD) (hO : ∀ k, O k → k < w.heap.size) (hl : m.made.length ≤ 1000000) (hl2 : m.wait.length ≤ 1000000) (h : RDV w O v m) (h128 : ∀ i, (readRL m i).length ≤ 128) (ho : m.off = false) (hc : 32 < m.count) :
    Calls Try.prog 37 #[v] w fun e w' => ∃ v', e = .returned (.tuple #[v', .int .i64 (rdE (rst (rslotL m) 2))]) ∧ MIn w' w.heap.size v' (rdM (rst (rslotL m) 2)) ∧ Below w.heap.size w w' := by
  obtain ⟨v1, v2, rfl, h1, h2, h3, h4⟩ := h
  have Hv : Hid (RDV w O (.agg #[.int .i64 m.count, .bool false, .int .i64 m.fuse, v1, v2]) m) := ⟨v1, v2, by rw [ho], h1, h2, h3, h4⟩
  rw [ho]
  obtain ⟨w0, hw0⟩ : ∃ w0, w0 = w.alloc (.cells #[Value.int .i64 m.count, .bool false, .int .i64 m.fuse, v1, v2] 42) := ⟨_, rfl⟩
  have hb0 : Below w.heap.size w w0 := by rw [hw0]; exact balloc w _
  have hx0 : BoxAt 42 w0 w.heap.size [Value.int .i64 m.count, .bool false, .int .i64 m.fuse, v1, v2] := by rw [hw0]; exact BoxAt.new_ _ _ [Value.int .i64 m.count, .bool false, .int .i64 m.fuse, v1, v2]
  have hz0 : w0.heap.size = w.heap.size + 1 := by rw [hw0]; simp
  obtain ⟨wa, hwa⟩ : ∃ wa, wa = w0.alloc (.cells zeroMc.toArray 56) := ⟨_, rfl⟩
  have hba : Below w0.heap.size w0 wa := by rw [hwa]; exact balloc _ _
  have hres : BoxAt 56 wa w0.heap.size zeroMc := by rw [hwa]; exact BoxAt.new_ _ _ _
  have hza : wa.heap.size = w.heap.size + 1 + 1 := by rw [hwa]; simp [hz0]
  have Hw0 := Lib.hid hw0
  have Hwa := Lib.hid hwa
  have Ba := Lib.hid (bstep hb0 hba)
  have Dda := Lib.hid (hx0.blwM hba)
  have Rsa := Lib.hid hres
  have HO := Lib.hid hO
  have H128 := Lib.hid h128
  have Hz : Hid (∀ u ∈ zeroMc, u.oneCell' = true) := encM_one emptyM _ rfl
  obtain ⟨er, her⟩ : ∃ er : Int, er = rdE (rst (rslotL m) 2) := ⟨_, rfl⟩
  obtain ⟨rm, hrm⟩ : ∃ rm : MMan, rm = rdM (rst (rslotL m) 2) := ⟨_, rfl⟩
  rw [← her, ← hrm]
  have Her := Lib.hid her
  have Hrm := Lib.hid hrm
  have hcd : decide (m.count ≤ 32) = false := decide_eq_false (by omega)
  obtain ⟨g2, hg2⟩ : ∃ g2, g2 = w0.heap.size := ⟨_, rfl⟩
  rw [← hg2] at Rsa
  have hg2' : w.heap.size < g2 := by omega
  have hc0 := Dda.out.cell 0 _ rfl
  have hc1 := Dda.out.cell 1 _ rfl
  have Hg2 := Lib.hid hg2
  clear hw0 hwa hb0 hx0 hba hres h1 h2 h3 h4 hO h128 her hrm hg2
  go_enter Try.func37, Try.ntmps37
  go_upto_region 1 with (first
    | (refine wpList_alloc_z rfl 56 rfl info_manz zeroMc zeroM_cells ?_))
  try simp only [Act.put, List.setIfInBounds_toArray, List.set_cons_zero, List.set_cons_succ]
  rw [← Hw0.out, ← Hwa.out]
  try rw [← hz0]
  rw [← Hg2.out]
  go_upto_region 2 with (first
    | (refine wpList_alloc_z rfl 56 rfl info_manz zeroMc zeroM_cells ?_)
    | (refine wpList_store_newW rfl 56 (.tmp 4) (.tmp 13) rfl zeroMc zeroMc rfl rfl info_man3 rfl Hz.out ?_
       intro wb hbx hb1 hzb))
  try simp only [Act.put, List.setIfInBounds_toArray, List.set_cons_zero, List.set_cons_succ]
  obtain ⟨gb, hgb⟩ : ∃ gb, gb = wa.heap.size := ⟨_, rfl⟩
  rw [← hgb] at hbx hzb ⊢
  have hgb' : g2 < gb := by have := Hg2.out; omega
  have Bb := Lib.hid (bstep Ba.out hb1)
  have Rsb := Lib.hid (Rsa.out.blwM hb1)
  have Ddb := Lib.hid (Dda.out.blwM hb1)
  have Bxb := Lib.hid hbx
  have hd0 := Ddb.out.cell 0 _ rfl
  have hd1 := Ddb.out.cell 1 _ rfl
  clear hbx hb1 hgb hc0 hc1 Ba Rsa Dda
  go_wp2_with fail
  go_loopw [5, 6, 7] (fun fv bv iv wr => ∃ (k : Nat) (vf : Value), k ≤ 2 ∧ fv = .bool (rst (rslotL m) k).found ∧ bv = .bool (rst (rslotL m) k).blank ∧ iv = .int .i64 k ∧ BoxAt 56 wr gb (encM (rst (rslotL m) k).best vf) ∧
    MIn wr (gb + 1) (.agg (encM (rst (rslotL m) k).best vf).toArray) (rst (rslotL m) k).best ∧ BoxAt 56 wr g2 zeroMc ∧ BoxAt 42 wr w.heap.size [Value.int .i64 m.count, .bool false, .int .i64 m.fuse, v1, v2] ∧ Below w.heap.size w wr ∧ gb < wr.heap.size) (fun _ _ i _ => 2 - (intOf i).toNat)
  case atStart => exact ⟨0, .slice none 0 0, by omega, rfl, rfl, rfl, Bxb.out, MIn.empty _ _, Rsb.out, Ddb.out, Bb.out, by omega⟩
  case round =>
    obtain ⟨k, vf, hk, rfl, rfl, rfl, hbx, hin, hres, hdd, hblw, hgw⟩ := hrel
    have hst : rst (rslotL m) (k + 1) = rstep (rslotL m k) (rst (rslotL m) k) := rfl
    have Hst := Lib.hid hst
    have Bx := Lib.hid hbx
    have In := Lib.hid hin
    have Rs := Lib.hid hres
    have Dd := Lib.hid hdd
    have Bl := Lib.hid hblw
    obtain ⟨vf', hvf', hff⟩ := id hin
    have hvfe : vf = vf' := by
      have := hvf'
      simp [encM] at this
      exact this
    subst hvfe
    obtain ⟨Af, cf, hvf, _, _⟩ := hff.form
    subst hvf
    have hc0 := hbx.cell 0 _ rfl
    have hlen2 := rslotK_len m H128.out k 16
    clear hst hbx hin hres hdd hblw hvf' hff hd0 hd1
    by_cases hlt : k < 2
    · have hsl2 : (rslotL m k).length ≤ 2048 := hlen2
      have hslot := rslot_any wr O _ m k hlt (fun q hq => by have := HO.out q hq; have := Bl.out.size; omega) hl hl2 (Hv.out.below Bl.out HO.out) H128.out
      generalize hb : rslotL m k = b at *
      generalize hs : rst (rslotL m) k = s at *
      obtain ⟨best, found, blank⟩ := s
      simp only at Bx In hc0
      have Hslot := Lib.hid hslot
      clear hslot hb hs hlen2
      go_wp2_with (refine wpList_load_agg rfl 42 (.tmp 1) rfl ⟨w.heap.size, 0, none⟩ rfl [Value.int .i64 m.count, .bool false, .int .i64 m.fuse, v1, v2] Dd.out.cells Try.underlying42 rfl info_rD5 ?_)
      refine Hslot.out.mono ?_
      rintro _ w1 ⟨v1x, rfl, how1, hb1⟩
      have By1 := Lib.hid how1.by_
      have Bx1 := Lib.hid (Bx.out.blwM hb1)
      have In1 := Lib.hid (In.out.step hb1)
      have Rs1 := Lib.hid (Rs.out.blwM hb1)
      have Dd1 := Lib.hid (Dd.out.blwM hb1)
      have Bl1 := Lib.hid (Bl.out.trans (hb1.mono (by have := Bl.out.size; omega)))
      have hs1 := hb1.size
      obtain ⟨A1, c1, hv1, hA1, hA2, _⟩ := how1.form_
      subst hv1
      unfold maxLen at hA2
      clear how1 hb1 hc0 Bx In Rs Dd Bl Hslot
      go_wp2_with fail
      go_loop [9, 30] (fun zv iv => ∃ q : Nat, q ≤ b.length ∧ iv = .int .i64 q ∧ zv = .bool ((b.take q).all fun x => decide (x = 0))) (fun _ i => b.length - (intOf i).toNat)
      case atStart => exact ⟨0, by omega, rfl, rfl⟩
      case round =>
        obtain ⟨q, hq, rfl, rfl⟩ := hrel
        by_cases hql : q < b.length
        · obtain ⟨ad, rfl, hab, hcell⟩ := By1.out.at_ q hql
          have hts := all_take_succ b q hql
          have hu := u8_beq0 b[q]
          have Hts := Lib.hid hts
          generalize b[q] = x at *
          generalize (b.take q).all (fun x => decide (x = 0)) = zq at *
          generalize decide (x = 0) = zx at *
          clear hts
          cases zq <;>
            (go_wp2_with fail
             go_round
             case rel => exact ⟨q + 1, by omega, by go_num, by rw [Hts.out]; simp⟩
             case measure => simp [intOf]; omega)
        · obtain rfl : q = b.length := by omega
          rw [List.take_length]
          obtain ⟨z, hz0⟩ : ∃ z, z = b.all fun x => decide (x = 0) := ⟨_, rfl⟩
          rw [← hz0]
          have Hz0 := Lib.hid hz0
          clear hz0
          cases hbl : blank with
          | true =>
            go_wp2_with fail
            refine (rmget_any w1 _ b By1.out (by omega)).mono ?_
            rintro _ w2 ⟨v2, rfl, hm2, hb2⟩
            obtain ⟨mm, hmm⟩ : ∃ mm, mm = getM b := ⟨_, rfl⟩
            rw [← hmm] at hm2
            obtain ⟨vg, hvg, hgg⟩ := id hm2
            obtain ⟨Ag, cg, hvg2, _, _⟩ := hgg.form
            subst hvg2
            subst hvg
            have Hone : Hid (∀ u ∈ encM mm (.slice Ag mm.files.length cg), u.oneCell' = true) := encM_one _ _ rfl
            have Gm2 := Lib.hid hm2
            have Bx2 := Lib.hid (Bx1.out.blwM hb2)
            have In2 := Lib.hid (In1.out.step hb2)
            have Rs2 := Lib.hid (Rs1.out.blwM hb2)
            have Dd2 := Lib.hid (Dd1.out.blwM hb2)
            have Bl2 := Lib.hid (Bl1.out.trans (hb2.mono (by have := Bl1.out.size; omega)))
            have hs2 := hb2.size
            have Hmm := Lib.hid hmm
            obtain ⟨ok, hok⟩ : ∃ ok, ok = getOk b := ⟨_, rfl⟩
            rw [← hok]
            have Hok := Lib.hid hok
            clear hm2 hgg hb2 hmm hok
            go_upto_region 20 with (first
              | (refine wpList_alloc_z rfl 56 rfl info_manz zeroMc zeroM_cells ?_)
              | (refine wpList_store_newW rfl 56 (.tmp 11) (.tmp 49) rfl zeroMc (encM mm (.slice Ag mm.files.length cg)) rfl rfl info_man3 rfl Hone.out ?_
                 intro w3 hbx3 hb3 hz3))
            try simp only [Act.put, List.setIfInBounds_toArray, List.set_cons_zero, List.set_cons_succ]
            have hc10 := hbx3.cell 0 _ rfl
            have hcb := (Bx2.out.blwM hb3).cell 0 _ rfl
            have Y3 := Lib.hid hbx3
            have GmX := Lib.hid ((Gm2.out.step hb3).low (show gb + 1 ≤ w1.heap.size by omega))
            have BxX := Lib.hid (Bx2.out.blwM hb3)
            have InX := Lib.hid (In2.out.step hb3)
            have RsX := Lib.hid (Rs2.out.blwM hb3)
            have DdX := Lib.hid (Dd2.out.blwM hb3)
            have BlX := Lib.hid (Bl2.out.trans (hb3.mono (by have := Bl2.out.size; omega)))
            have hs3 := hb3.size
            clear hbx3 hb3 Gm2 Bx2 In2 Rs2 Dd2 Bl2 Bx1 In1 Rs1 Dd1 Bl1 By1
            cases hok : ok with
            | false =>
              have hok' : getOk b = false := by rw [← Hok.out, hok]
              have hS : rst (rslotL m) (k + 1) = ⟨best, found, true⟩ := by rw [Hst.out]; simp [rstep, newer, hok', hbl]
              have HS := Lib.hid hS
              clear hS hok'
              go_wp2_with fail
              go_roundw
              case rel => exact ⟨k + 1, .slice Af best.files.length cf, by omega, by rw [HS.out], by rw [HS.out], by go_num, by rw [HS.out]; exact BxX.out, by rw [HS.out]; exact InX.out, RsX.out, DdX.out, BlX.out, by omega⟩
              case measure => simp [intOf]; omega
            | true =>
              have hok' : getOk b = true := by rw [← Hok.out, hok]
              cases hfo : found with
              | false =>
                have hS : rst (rslotL m) (k + 1) = ⟨mm, true, true⟩ := by rw [Hst.out, Hmm.out]; simp [rstep, newer, hok', hfo, hbl]
                have HS := Lib.hid hS
                clear hS hok'
                go_wp2_with (first
                  | (refine wpList_load_agg rfl 56 (.tmp 11) rfl ⟨w2.heap.size, 0, none⟩ rfl (encM mm (.slice Ag mm.files.length cg)) Y3.out.cells Try.underlying56 rfl info_man3 ?_)
                  | (refine wpList_store_boxW rfl 56 56 (.tmp 4) (.tmp 63) rfl gb (encM best (.slice Af best.files.length cf)) (encM mm (.slice Ag mm.files.length cg)) rfl rfl BxX.out rfl Hone.out info_man3 ?_
                     intro w4 hbx4 hch4 hz4))
                go_roundw
                case rel => exact ⟨k + 1, .slice Ag mm.files.length cg, by omega, by rw [HS.out], by rw [HS.out], by go_num, by rw [HS.out]; exact hbx4, by rw [HS.out]; exact GmX.out.chg hch4 (fun q hq => by omega), RsX.out.chg hch4 (fun e => by omega), DdX.out.chg hch4 (fun e => by omega), BlX.out.trans (hch4.below (B := w.heap.size) BlX.out.size (fun q hq => by omega)), by omega⟩
                case measure => simp [intOf]; omega
              | true =>
                by_cases hv : best.ver.toNat < mm.ver.toNat
                · have hS : rst (rslotL m) (k + 1) = ⟨mm, true, true⟩ := by rw [Hmm.out] at hv; rw [Hst.out, Hmm.out]; simp [rstep, newer, hok', hfo, hv, hbl]
                  have HS := Lib.hid hS
                  have hvd : decide ((best.ver.toNat : Int) < (mm.ver.toNat : Int)) = true := decide_eq_true (by omega)
                  clear hS hok'
                  go_wp2_with (first
                    | (refine wpList_load_agg rfl 56 (.tmp 11) rfl ⟨w2.heap.size, 0, none⟩ rfl (encM mm (.slice Ag mm.files.length cg)) Y3.out.cells Try.underlying56 rfl info_man3 ?_)
                    | (refine wpList_store_boxW rfl 56 56 (.tmp 4) (.tmp 63) rfl gb (encM best (.slice Af best.files.length cf)) (encM mm (.slice Ag mm.files.length cg)) rfl rfl BxX.out rfl Hone.out info_man3 ?_
                       intro w4 hbx4 hch4 hz4))
                  go_roundw
                  case rel => exact ⟨k + 1, .slice Ag mm.files.length cg, by omega, by rw [HS.out], by rw [HS.out], by go_num, by rw [HS.out]; exact hbx4, by rw [HS.out]; exact GmX.out.chg hch4 (fun q hq => by omega), RsX.out.chg hch4 (fun e => by omega), DdX.out.chg hch4 (fun e => by omega), BlX.out.trans (hch4.below (B := w.heap.size) BlX.out.size (fun q hq => by omega)), by omega⟩
                  case measure => simp [intOf]; omega
                · have hS : rst (rslotL m) (k + 1) = ⟨best, true, true⟩ := by rw [Hmm.out] at hv; rw [Hst.out]; simp [rstep, newer, hok', hfo, hv, hbl]
                  have HS := Lib.hid hS
                  have hvd : decide ((best.ver.toNat : Int) < (mm.ver.toNat : Int)) = false := decide_eq_false (by omega)
                  clear hS hok'
                  go_wp2_with fail
                  go_roundw
                  case rel => exact ⟨k + 1, .slice Af best.files.length cf, by omega, by rw [HS.out], by rw [HS.out], by go_num, by rw [HS.out]; exact BxX.out, by rw [HS.out]; exact InX.out, RsX.out, DdX.out, BlX.out, by omega⟩
                  case measure => simp [intOf]; omega
          | false =>
            go_wp2_with fail
            refine (rmget_any w1 _ b By1.out (by omega)).mono ?_
            rintro _ w2 ⟨v2, rfl, hm2, hb2⟩
            obtain ⟨mm, hmm⟩ : ∃ mm, mm = getM b := ⟨_, rfl⟩
            rw [← hmm] at hm2
            obtain ⟨vg, hvg, hgg⟩ := id hm2
            obtain ⟨Ag, cg, hvg2, _, _⟩ := hgg.form
            subst hvg2
            subst hvg
            have Hone : Hid (∀ u ∈ encM mm (.slice Ag mm.files.length cg), u.oneCell' = true) := encM_one _ _ rfl
            have Gm2 := Lib.hid hm2
            have Bx2 := Lib.hid (Bx1.out.blwM hb2)
            have In2 := Lib.hid (In1.out.step hb2)
            have Rs2 := Lib.hid (Rs1.out.blwM hb2)
            have Dd2 := Lib.hid (Dd1.out.blwM hb2)
            have Bl2 := Lib.hid (Bl1.out.trans (hb2.mono (by have := Bl1.out.size; omega)))
            have hs2 := hb2.size
            have Hmm := Lib.hid hmm
            obtain ⟨ok, hok⟩ : ∃ ok, ok = getOk b := ⟨_, rfl⟩
            rw [← hok]
            have Hok := Lib.hid hok
            clear hm2 hgg hb2 hmm hok
            go_upto_region 20 with (first
              | (refine wpList_alloc_z rfl 56 rfl info_manz zeroMc zeroM_cells ?_)
              | (refine wpList_store_newW rfl 56 (.tmp 11) (.tmp 49) rfl zeroMc (encM mm (.slice Ag mm.files.length cg)) rfl rfl info_man3 rfl Hone.out ?_
                 intro w3 hbx3 hb3 hz3))
            try simp only [Act.put, List.setIfInBounds_toArray, List.set_cons_zero, List.set_cons_succ]
            have hc10 := hbx3.cell 0 _ rfl
            have hcb := (Bx2.out.blwM hb3).cell 0 _ rfl
            have Y3 := Lib.hid hbx3
            have GmX := Lib.hid ((Gm2.out.step hb3).low (show gb + 1 ≤ w1.heap.size by omega))
            have BxX := Lib.hid (Bx2.out.blwM hb3)
            have InX := Lib.hid (In2.out.step hb3)
            have RsX := Lib.hid (Rs2.out.blwM hb3)
            have DdX := Lib.hid (Dd2.out.blwM hb3)
            have BlX := Lib.hid (Bl2.out.trans (hb3.mono (by have := Bl2.out.size; omega)))
            have hs3 := hb3.size
            clear hbx3 hb3 Gm2 Bx2 In2 Rs2 Dd2 Bl2 Bx1 In1 Rs1 Dd1 Bl1 By1
            cases hok : ok with
            | false =>
              have hok' : getOk b = false := by rw [← Hok.out, hok]
              have hS : rst (rslotL m) (k + 1) = ⟨best, found, z⟩ := by rw [Hst.out]; simp [rstep, newer, hok', hbl, ← Hz0.out]
              have HS := Lib.hid hS
              clear hS hok'
              go_wp2_with fail
              go_roundw
              case rel => exact ⟨k + 1, .slice Af best.files.length cf, by omega, by rw [HS.out], by rw [HS.out], by go_num, by rw [HS.out]; exact BxX.out, by rw [HS.out]; exact InX.out, RsX.out, DdX.out, BlX.out, by omega⟩
              case measure => simp [intOf]; omega
            | true =>
              have hok' : getOk b = true := by rw [← Hok.out, hok]
              cases hfo : found with
              | false =>
                have hS : rst (rslotL m) (k + 1) = ⟨mm, true, z⟩ := by rw [Hst.out, Hmm.out]; simp [rstep, newer, hok', hfo, hbl, ← Hz0.out]
                have HS := Lib.hid hS
                clear hS hok'
                go_wp2_with (first
                  | (refine wpList_load_agg rfl 56 (.tmp 11) rfl ⟨w2.heap.size, 0, none⟩ rfl (encM mm (.slice Ag mm.files.length cg)) Y3.out.cells Try.underlying56 rfl info_man3 ?_)
                  | (refine wpList_store_boxW rfl 56 56 (.tmp 4) (.tmp 63) rfl gb (encM best (.slice Af best.files.length cf)) (encM mm (.slice Ag mm.files.length cg)) rfl rfl BxX.out rfl Hone.out info_man3 ?_
                     intro w4 hbx4 hch4 hz4))
                go_roundw
                case rel => exact ⟨k + 1, .slice Ag mm.files.length cg, by omega, by rw [HS.out], by rw [HS.out], by go_num, by rw [HS.out]; exact hbx4, by rw [HS.out]; exact GmX.out.chg hch4 (fun q hq => by omega), RsX.out.chg hch4 (fun e => by omega), DdX.out.chg hch4 (fun e => by omega), BlX.out.trans (hch4.below (B := w.heap.size) BlX.out.size (fun q hq => by omega)), by omega⟩
                case measure => simp [intOf]; omega
              | true =>
                by_cases hv : best.ver.toNat < mm.ver.toNat
                · have hS : rst (rslotL m) (k + 1) = ⟨mm, true, z⟩ := by rw [Hmm.out] at hv; rw [Hst.out, Hmm.out]; simp [rstep, newer, hok', hfo, hv, hbl, ← Hz0.out]
                  have HS := Lib.hid hS
                  have hvd : decide ((best.ver.toNat : Int) < (mm.ver.toNat : Int)) = true := decide_eq_true (by omega)
                  clear hS hok'
                  go_wp2_with (first
                    | (refine wpList_load_agg rfl 56 (.tmp 11) rfl ⟨w2.heap.size, 0, none⟩ rfl (encM mm (.slice Ag mm.files.length cg)) Y3.out.cells Try.underlying56 rfl info_man3 ?_)
                    | (refine wpList_store_boxW rfl 56 56 (.tmp 4) (.tmp 63) rfl gb (encM best (.slice Af best.files.length cf)) (encM mm (.slice Ag mm.files.length cg)) rfl rfl BxX.out rfl Hone.out info_man3 ?_
                       intro w4 hbx4 hch4 hz4))
                  go_roundw
                  case rel => exact ⟨k + 1, .slice Ag mm.files.length cg, by omega, by rw [HS.out], by rw [HS.out], by go_num, by rw [HS.out]; exact hbx4, by rw [HS.out]; exact GmX.out.chg hch4 (fun q hq => by omega), RsX.out.chg hch4 (fun e => by omega), DdX.out.chg hch4 (fun e => by omega), BlX.out.trans (hch4.below (B := w.heap.size) BlX.out.size (fun q hq => by omega)), by omega⟩
                  case measure => simp [intOf]; omega
                · have hS : rst (rslotL m) (k + 1) = ⟨best, true, z⟩ := by rw [Hmm.out] at hv; rw [Hst.out]; simp [rstep, newer, hok', hfo, hv, hbl, ← Hz0.out]
                  have HS := Lib.hid hS
                  have hvd : decide ((best.ver.toNat : Int) < (mm.ver.toNat : Int)) = false := decide_eq_false (by omega)
                  clear hS hok'
                  go_wp2_with fail
                  go_roundw
                  case rel => exact ⟨k + 1, .slice Af best.files.length cf, by omega, by rw [HS.out], by rw [HS.out], by go_num, by rw [HS.out]; exact BxX.out, by rw [HS.out]; exact InX.out, RsX.out, DdX.out, BlX.out, by omega⟩
                  case measure => simp [intOf]; omega
    · obtain rfl : k = 2 := by omega
      generalize hs : rst (rslotL m) 2 = s at *
      obtain ⟨best, found, blank⟩ := s
      simp only at Bx In hc0
      cases hfo : found with
      | true =>
        have hr : er = 0 := by rw [Her.out, hfo]; rfl
        have hm : rm = best := by rw [Hrm.out, hfo]; rfl
        have Hm := Lib.hid hm
        have Hone : Hid (∀ u ∈ encM best (.slice Af best.files.length cf), u.oneCell' = true) := encM_one _ _ rfl
        subst hr
        clear hm
        go_wp2_with (first
          | (refine wpList_load_agg rfl 56 (.tmp 4) rfl ⟨gb, 0, none⟩ rfl (encM best (.slice Af best.files.length cf)) Bx.out.cells Try.underlying56 rfl info_man3 ?_)
          | (refine wpList_store_boxW rfl 56 56 (.tmp 2) (.tmp 71) rfl g2 zeroMc (encM best (.slice Af best.files.length cf)) rfl rfl Rs.out rfl Hone.out info_man3 ?_
             intro we hend hche hze))
        refine bodyPost_ret (results_ct rfl _ _ g2 (encM best (.slice Af best.files.length cf)) rfl (fun j v hj => (hend.cells j v hj : _)) Try.underlying56 rfl info_man3) rfl ?_
        refine ⟨_, rfl, by rw [Hm.out]; exact (In.out.chg hche (fun q hq => by omega)).low (by omega), Bl.out.trans (hche.below (B := w.heap.size) Bl.out.size (fun k hk => by omega))⟩
      | false =>
        cases hbl : blank with
        | true =>
          have hr : er = 0 := by rw [Her.out, hfo, hbl]; rfl
          have hm : rm = best := by rw [Hrm.out, hfo, hbl]; rfl
          have Hm := Lib.hid hm
          have Hone : Hid (∀ u ∈ encM best (.slice Af best.files.length cf), u.oneCell' = true) := encM_one _ _ rfl
          subst hr
          clear hm
          go_wp2_with (first
            | (refine wpList_load_agg rfl 56 (.tmp 4) rfl ⟨gb, 0, none⟩ rfl (encM best (.slice Af best.files.length cf)) Bx.out.cells Try.underlying56 rfl info_man3 ?_)
            | (refine wpList_store_boxW rfl 56 56 (.tmp 2) (.tmp 71) rfl g2 zeroMc (encM best (.slice Af best.files.length cf)) rfl rfl Rs.out rfl Hone.out info_man3 ?_
               intro we hend hche hze))
          refine bodyPost_ret (results_ct rfl _ _ g2 (encM best (.slice Af best.files.length cf)) rfl (fun j v hj => (hend.cells j v hj : _)) Try.underlying56 rfl info_man3) rfl ?_
          refine ⟨_, rfl, by rw [Hm.out]; exact (In.out.chg hche (fun q hq => by omega)).low (by omega), Bl.out.trans (hche.below (B := w.heap.size) Bl.out.size (fun k hk => by omega))⟩
        | false =>
          have hr : er = 5 := by rw [Her.out, hfo, hbl]; rfl
          have hm : rm = emptyM := by rw [Hrm.out, hfo, hbl]; rfl
          have Hm := Lib.hid hm
          subst hr
          clear hm
          go_wp2_with (refine wpList_store_boxW rfl 56 56 (.tmp 2) (.tmp 70) rfl g2 zeroMc zeroMc rfl rfl Rs.out rfl Hz.out info_man3 ?_
                       intro we hend hche hze)
          refine bodyPost_ret (results_ct rfl _ _ g2 zeroMc rfl (fun j v hj => (hend.cells j v hj : _)) Try.underlying56 rfl info_man3) rfl ?_
          refine ⟨_, rfl, by rw [Hm.out]; exact MIn.empty _ _, Bl.out.trans (hche.below (B := w.heap.size) Bl.out.size (fun k hk => by omega))⟩
end Go.Proofs.Ytpoicbhbkabllaa

namespace Go.Proofs.Ytpoicbhbkabllaa
set_option linter.unusedSimpArgs false
set_option linter.unusedVariables false
open Go.RowKit

set_option maxRecDepth 100000 in
set_option maxHeartbeats 1600000 in
theorem rread09_few (w : World) (O : Nat → Prop) (v : Value) (m : RD) (h : RDV w O v m) (hc : m.count ≤ 32) :
    Calls Try.prog 37 #[v] w fun e w' => ∃ v', e = .returned (.tuple #[v', .int .i64 1]) ∧ MIn w' w.heap.size v' emptyM ∧ Below w.heap.size w w' := by
  obtain ⟨v1, v2, rfl, h1, h2, h3, h4⟩ := h
  have Hv : Hid (RDV w O (.agg #[.int .i64 m.count, .bool m.off, .int .i64 m.fuse, v1, v2]) m) := ⟨v1, v2, rfl, h1, h2, h3, h4⟩
  obtain ⟨w0, hw0⟩ : ∃ w0, w0 = w.alloc (.cells #[Value.int .i64 m.count, .bool m.off, .int .i64 m.fuse, v1, v2] 42) := ⟨_, rfl⟩
  have hb0 : Below w.heap.size w w0 := by rw [hw0]; exact balloc w _
  have hx0 : BoxAt 42 w0 w.heap.size [Value.int .i64 m.count, .bool m.off, .int .i64 m.fuse, v1, v2] := by rw [hw0]; exact BoxAt.new_ _ _ [Value.int .i64 m.count, .bool m.off, .int .i64 m.fuse, v1, v2]
  have hz0 : w0.heap.size = w.heap.size + 1 := by rw [hw0]; simp
  obtain ⟨wa, hwa⟩ : ∃ wa, wa = w0.alloc (.cells zeroMc.toArray 56) := ⟨_, rfl⟩
  have hba : Below w0.heap.size w0 wa := by rw [hwa]; exact balloc _ _
  have hres : BoxAt 56 wa w0.heap.size zeroMc := by rw [hwa]; exact BoxAt.new_ _ _ _
  have hza : wa.heap.size = w.heap.size + 1 + 1 := by rw [hwa]; simp [hz0]
  have Hw0 := Lib.hid hw0
  have Hwa := Lib.hid hwa
  have Ba := Lib.hid (bstep hb0 hba)
  have Dda := Lib.hid (hx0.blwM hba)
  have Rsa := Lib.hid hres
  have Hz : Hid (∀ u ∈ zeroMc, u.oneCell' = true) := encM_one emptyM _ rfl
  have hcd : decide (m.count ≤ 32) = true := decide_eq_true (by omega)
  obtain ⟨g2, hg2⟩ : ∃ g2, g2 = w0.heap.size := ⟨_, rfl⟩
  rw [← hg2] at Rsa
  have hg2' : w.heap.size < g2 := by omega
  have hc0 := Dda.out.cell 0 _ rfl
  have hc1 := Dda.out.cell 1 _ rfl
  have Hg2 := Lib.hid hg2
  clear hw0 hwa hb0 hx0 hba hres h1 h2 h3 h4 hg2
  go_enter Try.func37, Try.ntmps37
  go_upto_region 1 with (first
    | (refine wpList_alloc_z rfl 56 rfl info_manz zeroMc zeroM_cells ?_))
  try simp only [Act.put, List.setIfInBounds_toArray, List.set_cons_zero, List.set_cons_succ]
  rw [← Hw0.out, ← Hwa.out]
  try rw [← hz0]
  rw [← Hg2.out]
  go_upto_region 2 with (first
    | (refine wpList_alloc_z rfl 56 rfl info_manz zeroMc zeroM_cells ?_)
    | (refine wpList_store_newW rfl 56 (.tmp 4) (.tmp 13) rfl zeroMc zeroMc rfl rfl info_man3 rfl Hz.out ?_
       intro wb hbx hb1 hzb))
  try simp only [Act.put, List.setIfInBounds_toArray, List.set_cons_zero, List.set_cons_succ]
  obtain ⟨gb, hgb⟩ : ∃ gb, gb = wa.heap.size := ⟨_, rfl⟩
  rw [← hgb] at hbx hzb ⊢
  have hgb' : g2 < gb := by have := Hg2.out; omega
  have Bb := Lib.hid (bstep Ba.out hb1)
  have Rsb := Lib.hid (Rsa.out.blwM hb1)
  have Ddb := Lib.hid (Dda.out.blwM hb1)
  have Bxb := Lib.hid hbx
  have hd0 := Ddb.out.cell 0 _ rfl
  have hd1 := Ddb.out.cell 1 _ rfl
  clear hbx hb1 hgb hc0 hc1 Ba Rsa Dda
  go_wp2_with (first
    | (refine wpList_load_agg rfl 56 (.tmp 4) rfl ⟨gb, 0, none⟩ rfl zeroMc Bxb.out.cells Try.underlying56 rfl info_man3 ?_)
    | (refine wpList_store_boxW rfl 56 56 (.tmp 2) (.tmp 17) rfl g2 zeroMc zeroMc rfl rfl Rsb.out rfl Hz.out info_man3 ?_
       intro we hend hche hze))
  refine bodyPost_ret (results_ct rfl _ _ g2 zeroMc rfl (fun j v hj => (hend.cells j v hj : _)) Try.underlying56 rfl info_man3) rfl ?_
  exact ⟨_, rfl, MIn.empty _ _, Bb.out.trans (hche.below (B := w.heap.size) Bb.out.size (fun k hk => by omega))⟩
set_option maxRecDepth 100000 in
set_option maxHeartbeats 1600000 in
theorem rread09_off (w : World) (O : Nat → Prop) (v : Value) (m : RD) (h : RDV w O v m) (ho : m.off = true) (hc : 32 < m.count) :
    Calls Try.prog 37 #[v] w fun e w' => ∃ v', e = .returned (.tuple #[v', .int .i64 6]) ∧ MIn w' w.heap.size v' emptyM ∧ Below w.heap.size w w' := by
  obtain ⟨v1, v2, rfl, h1, h2, h3, h4⟩ := h
  have Hv : Hid (RDV w O (.agg #[.int .i64 m.count, .bool true, .int .i64 m.fuse, v1, v2]) m) := ⟨v1, v2, by rw [ho], h1, h2, h3, h4⟩
  rw [ho]
  obtain ⟨w0, hw0⟩ : ∃ w0, w0 = w.alloc (.cells #[Value.int .i64 m.count, .bool true, .int .i64 m.fuse, v1, v2] 42) := ⟨_, rfl⟩
  have hb0 : Below w.heap.size w w0 := by rw [hw0]; exact balloc w _
  have hx0 : BoxAt 42 w0 w.heap.size [Value.int .i64 m.count, .bool true, .int .i64 m.fuse, v1, v2] := by rw [hw0]; exact BoxAt.new_ _ _ [Value.int .i64 m.count, .bool true, .int .i64 m.fuse, v1, v2]
  have hz0 : w0.heap.size = w.heap.size + 1 := by rw [hw0]; simp
  obtain ⟨wa, hwa⟩ : ∃ wa, wa = w0.alloc (.cells zeroMc.toArray 56) := ⟨_, rfl⟩
  have hba : Below w0.heap.size w0 wa := by rw [hwa]; exact balloc _ _
  have hres : BoxAt 56 wa w0.heap.size zeroMc := by rw [hwa]; exact BoxAt.new_ _ _ _
  have hza : wa.heap.size = w.heap.size + 1 + 1 := by rw [hwa]; simp [hz0]
  have Hw0 := Lib.hid hw0
  have Hwa := Lib.hid hwa
  have Ba := Lib.hid (bstep hb0 hba)
  have Dda := Lib.hid (hx0.blwM hba)
  have Rsa := Lib.hid hres
  have Hz : Hid (∀ u ∈ zeroMc, u.oneCell' = true) := encM_one emptyM _ rfl
  have hcd : decide (m.count ≤ 32) = false := decide_eq_false (by omega)
  obtain ⟨g2, hg2⟩ : ∃ g2, g2 = w0.heap.size := ⟨_, rfl⟩
  rw [← hg2] at Rsa
  have hg2' : w.heap.size < g2 := by omega
  have hc0 := Dda.out.cell 0 _ rfl
  have hc1 := Dda.out.cell 1 _ rfl
  have Hg2 := Lib.hid hg2
  clear hw0 hwa hb0 hx0 hba hres h1 h2 h3 h4 hg2
  go_enter Try.func37, Try.ntmps37
  go_upto_region 1 with (first
    | (refine wpList_alloc_z rfl 56 rfl info_manz zeroMc zeroM_cells ?_))
  try simp only [Act.put, List.setIfInBounds_toArray, List.set_cons_zero, List.set_cons_succ]
  rw [← Hw0.out, ← Hwa.out]
  try rw [← hz0]
  rw [← Hg2.out]
  go_upto_region 2 with (first
    | (refine wpList_alloc_z rfl 56 rfl info_manz zeroMc zeroM_cells ?_)
    | (refine wpList_store_newW rfl 56 (.tmp 4) (.tmp 13) rfl zeroMc zeroMc rfl rfl info_man3 rfl Hz.out ?_
       intro wb hbx hb1 hzb))
  try simp only [Act.put, List.setIfInBounds_toArray, List.set_cons_zero, List.set_cons_succ]
  obtain ⟨gb, hgb⟩ : ∃ gb, gb = wa.heap.size := ⟨_, rfl⟩
  rw [← hgb] at hbx hzb ⊢
  have hgb' : g2 < gb := by have := Hg2.out; omega
  have Bb := Lib.hid (bstep Ba.out hb1)
  have Rsb := Lib.hid (Rsa.out.blwM hb1)
  have Ddb := Lib.hid (Dda.out.blwM hb1)
  have Bxb := Lib.hid hbx
  have hd0 := Ddb.out.cell 0 _ rfl
  have hd1 := Ddb.out.cell 1 _ rfl
  clear hbx hb1 hgb hc0 hc1 Ba Rsa Dda
  go_wp2_with (first
    | (refine wpList_load_agg rfl 56 (.tmp 4) rfl ⟨gb, 0, none⟩ rfl zeroMc Bxb.out.cells Try.underlying56 rfl info_man3 ?_)
    | (refine wpList_store_boxW rfl 56 56 (.tmp 2) (.tmp 20) rfl g2 zeroMc zeroMc rfl rfl Rsb.out rfl Hz.out info_man3 ?_
       intro we hend hche hze))
  refine bodyPost_ret (results_ct rfl _ _ g2 zeroMc rfl (fun j v hj => (hend.cells j v hj : _)) Try.underlying56 rfl info_man3) rfl ?_
  exact ⟨_, rfl, MIn.empty _ _, Bb.out.trans (hche.below (B := w.heap.size) Bb.out.size (fun k hk => by omega))⟩
end Go.Proofs.Ytpoicbhbkabllaa

namespace Go.Proofs.Ytpoicbhbkabllaa
set_option linter.unusedSimpArgs false
set_option linter.unusedVariables false
open Go.RowKit

def madeR (d : DState) (k : Nat) : List RW := (List.range k).map fun i : Nat => (((i : Nat) : Int), readL d ((i : Nat) : Int))
def modelR (d : DState) (k : Nat) : RD := { count := (d.bl.length : Int), off := false, fuse := -1, made := madeR d k, wait := [] }
theorem madeR_succ (d : DState) (k : Nat) : madeR d (k + 1) = madeR d k ++ [((k : Int), readL d (k : Int))] := by simp [madeR, List.range_succ]
theorem madeR_len (d : DState) (k : Nat) : (madeR d k).length = k := by simp [madeR]
theorem lastR_made (d : DState) (i : Nat) (z : List UInt8) : ∀ k, lastR (madeR d k) (i : Int) z = if i < k then readL d (i : Int) else z
  | 0 => by simp [madeR, lastR]
  | k + 1 => by
    rw [madeR_succ]
    unfold lastR
    rw [List.foldl_append]
    show (if ((k : Int)) = (i : Int) then readL d (k : Int) else lastR (madeR d k) (i : Int) z) = _
    by_cases h : k = i
    · subst h
      rw [if_pos rfl, if_pos (by omega)]
    · rw [if_neg (by omega), lastR_made d i z k]
      by_cases h2 : i < k
      · rw [if_pos h2, if_pos (by omega)]
      · rw [if_neg h2, if_neg (by omega)]
theorem modelR_read (d : DState) (K : Nat) (hK : K ≤ d.bl.length) (i : Nat) (hi : i < K) (ho : d.off = false) : readRL (modelR d K) (i : Int) = readL d (i : Int) := by
  have h1 : readRE (modelR d K) (i : Int) = 0 := by
    unfold readRE
    rw [if_neg (by simp [modelR]), if_pos ⟨by omega, by show (i : Int) < (d.bl.length : Int); omega⟩]
  unfold readRL
  rw [if_neg (by rw [h1]; simp)]
  show lastR (madeR d K) (i : Int) zerosL = _
  rw [lastR_made, if_pos hi]
theorem modelR_slot (d : DState) (h : 32 ≤ d.bl.length) (ho : d.off = false) (n : Nat) (hn : n < 2) : rslotL (modelR d 32) n = slotL d n := by
  unfold rslotL slotL rslotK slotK
  rw [List.flatMap_def, List.flatMap_def]
  congr 1
  apply List.map_congr_left
  intro i hi
  have hi' : i < 16 := by simpa using hi
  have := modelR_read d 32 h (n * 16 + i) (by omega) ho
  exact this
theorem modelR_128 (d : DState) (K : Nat) (hK : K ≤ d.bl.length) (i : Int) : (readRL (modelR d K) i).length ≤ 128 := by
  have hz : zerosL.length = 128 := by simp [zerosL]
  unfold readRL
  split
  · simp
  · show (lastR (madeR d K) i zerosL).length ≤ 128
    have : ∀ (l : List RW) (z : List UInt8), z.length ≤ 128 → (∀ x ∈ l, x.2.length ≤ 128) → (lastR l i z).length ≤ 128 := by
      intro l
      induction l with
      | nil => intro z hz _; exact hz
      | cons x t ih =>
        intro z hz hl
        unfold lastR
        rw [List.foldl_cons]
        refine ih _ ?_ (fun y hy => hl y (by simp [hy]))
        split
        · exact hl x (by simp)
        · exact hz
    refine this _ _ (by omega) ?_
    intro x hx
    simp [madeR] at hx
    obtain ⟨j, _, rfl⟩ := hx
    exact readL_le d _
theorem readL_full (d : DState) (i : Nat) (hi : i < d.bl.length) (ho : d.off = false) : (readL d (i : Int)).length = 128 ∧ mayE d (i : Int) = 0 := by
  have hm : mayE d (i : Int) = 0 := by
    unfold mayE
    rw [ho, if_neg (by simp), if_pos (by omega)]
  refine ⟨?_, hm⟩
  unfold readL
  rw [if_neg (by rw [hm]; simp)]
  exact (readB d _).2
theorem DK.less {B : Nat} {X X' : Nat → Prop} {w : World} {g : Nat} {d : DState} (h : DK B X' w g d) (hX : ∀ k, X k → X' k) : DK B X w g d := h.apart fun k hk => .inl (hX k hk)
theorem info_rD5z : (Try.prog.info? 42).map (fun i => (i.zero, i.size, i.bytes)) = some (some (.agg zeroDc.toArray), 5, 72) := by kernel_rfl
theorem rnewE (w : World) (n : Int) :
    Calls Try.prog 22 #[.int .i64 n] w fun e w' => e = .returned (.agg #[.int .i64 n, .bool false, .int .i64 (-1), .slice none 0 0, .slice none 0 0]) ∧ Below w.heap.size w w' := by
  go_enter Try.func22, Try.ntmps22
  go_wp2_with fail
  have hbx := BoxAt.new_ 42 w [.int .i64 n, .bool false, .int .i64 (-1), .slice none 0 0, .slice none 0 0]
  refine bodyPost_ret (results_c rfl _ _ w.heap.size [.int .i64 n, .bool false, .int .i64 (-1), .slice none 0 0, .slice none 0 0] rfl (fun j v hj => (hbx.cells j v hj : _)) Try.underlying42 rfl (by kernel_rfl)) rfl ?_
  exact ⟨rfl, balloc w _⟩
set_option maxRecDepth 100000 in
set_option maxHeartbeats 3200000 in
theorem model_any (w : World) (B : Nat) (X : Nat → Prop) (g : Nat) (d : DState) (h : DK B X w g d) (hw : d.wt.length ≤ 1000000) (ho : d.off = false) (hmax : d.bl.length ≤ 65536) :
    Calls Try.prog 36 #[.pointer (some ⟨g, 0, none⟩)] w fun e w' => ∃ v, e = .returned v ∧ RDV w' (fun k => w.heap.size ≤ k ∧ k < w'.heap.size) v (modelR d (min 32 d.bl.length)) ∧ DK B X w' g d ∧ Below w.heap.size w w' := by
  have hB := h.lt
  obtain ⟨w0, hw0⟩ : ∃ w0, w0 = w.alloc (.cells zeroDc.toArray 42) := ⟨_, rfl⟩
  have hb0 : Below w.heap.size w w0 := by rw [hw0]; exact balloc w _
  have hres0 : BoxAt 42 w0 w.heap.size zeroDc := by rw [hw0]; exact BoxAt.new_ _ _ _
  have hz0 : w0.heap.size = w.heap.size + 1 := by rw [hw0]; simp
  obtain ⟨X', hX'⟩ : ∃ X' : Nat → Prop, X' = fun k => X k ∨ w.heap.size ≤ k := ⟨_, rfl⟩
  have hdk0 : DK B X' w0 g d := by rw [hX']; exact (h.apart fun k hk => hk : DK B (fun k => X k ∨ w.heap.size ≤ k) w g d).below_ hb0
  have Hnew : Hid (∀ q, w.heap.size ≤ q → q < B ∨ X' q) := fun q hq => .inr (by rw [hX']; exact .inr hq)
  have Hback : Hid (∀ W, DK B X' W g d → DK B X W g d) := fun W hW => by rw [hX'] at hW; exact hW.apart fun k hk => .inl (.inl hk)
  have Hw0 := Lib.hid hw0
  have Hb0 := Lib.hid hb0
  have Hres0 := Lib.hid hres0
  have Hdk0 := Lib.hid hdk0
  have Hw := Lib.hid hw
  have Ho := Lib.hid ho
  have Hcount := Lib.hid (fun W (hW : DK B X' W g d) => dcount_dk hW)
  clear hw0 hb0 hres0 hX' hdk0 hw ho h
  go_enter Try.func36, Try.ntmps36
  go_upto_region 1 with (first
    | (refine wpList_alloc_z rfl 42 rfl info_rD5z zeroDc rfl ?_))
  try simp only [Act.put, List.setIfInBounds_toArray, List.set_cons_zero, List.set_cons_succ]
  rw [← Hw0.out]
  go_wp2_with fail
  refine (Hcount.out w0 Hdk0.out).mono ?_
  rintro _ _ ⟨rfl, rfl⟩
  go_wp2_with fail
  refine (rnewE w0 (d.bl.length : Int)).mono ?_
  rintro _ w1 ⟨rfl, hb1⟩
  have Hb1 := Lib.hid (bstep Hb0.out hb1)
  have Hres1 := Lib.hid (Hres0.out.blwM hb1)
  have Hdk1 := Lib.hid (Hdk0.out.below_ hb1)
  have hs1 := hb1.size
  obtain ⟨cn, hcn⟩ : ∃ cn : Int, cn = (d.bl.length : Int) := ⟨_, rfl⟩
  rw [← hcn]
  have hone : ∀ u ∈ [Value.int .i64 cn, .bool false, .int .i64 (-1), .slice none 0 0, .slice none 0 0], u.oneCell' = true := fun u hu => by
    simp at hu
    rcases hu with rfl | rfl | rfl | rfl <;> rfl
  have Hone := Lib.hid hone
  have Hcn := Lib.hid hcn
  clear hb1 hone hcn Hres0 Hdk0
  go_upto_region 2 with (first
    | (refine wpList_alloc_z rfl 42 rfl info_rD5z zeroDc rfl ?_)
    | (refine wpList_store_newW rfl 42 (.tmp 3) (.tmp 9) rfl zeroDc [Value.int .i64 cn, .bool false, .int .i64 (-1), .slice none 0 0, .slice none 0 0] rfl rfl info_rD5 rfl Hone.out ?_
       intro w2 hbx2 hb2 hz2))
  try simp only [Act.put, List.setIfInBounds_toArray, List.set_cons_zero, List.set_cons_succ]
  obtain ⟨gd, hgd⟩ : ∃ gd, gd = w1.heap.size := ⟨_, rfl⟩
  rw [← hgd] at hbx2 hz2 ⊢
  have hgd' : w.heap.size < gd := by omega
  have Hb2 := Lib.hid (bstep Hb1.out hb2)
  have Hres2 := Lib.hid (Hres1.out.blwM hb2)
  have Hdk2 := Lib.hid (Hdk1.out.below_ hb2)
  have Hbx2 := Lib.hid hbx2
  clear hbx2 hb2 hgd Hb1 Hres1 Hdk1 Hone
  go_wp2_with fail
  go_loopw [4] (fun iv wr => ∃ (k : Nat) (u : Value), k ≤ min 32 d.bl.length ∧ iv = .int .i64 k ∧ BoxAt 42 wr gd [Value.int .i64 cn, .bool false, .int .i64 (-1), u, .slice none 0 0] ∧ OwnF 124 cRW wr (gd + 1) u (madeR d k) ∧
    BoxAt 42 wr w.heap.size zeroDc ∧ DK B X' wr g d ∧ Below w.heap.size w wr ∧ gd < wr.heap.size) (fun i _ => 32 - (intOf i).toNat)
  case atStart => exact ⟨0, .slice none 0 0, by omega, rfl, Hbx2.out, OwnF.nil_ _ _, Hres2.out, Hdk2.out, Hb2.out, by omega⟩
  case round =>
    obtain ⟨k, u, hk, rfl, hbx, hown, hres, hdk, hblw, hgw⟩ := hrel
    obtain ⟨Au, cu, hu, -, -, -⟩ := hown.form'
    subst hu
    rw [madeR_len] at hbx hown
    have hc3 := hbx.cell 3 _ rfl
    have Hbx := Lib.hid hbx
    have Hown := Lib.hid hown
    have Hres := Lib.hid hres
    have Hdk := Lib.hid hdk
    have Hblw := Lib.hid hblw
    have hcnt := Hcount.out wr hdk
    have Hcnt := Lib.hid hcnt
    clear hbx hown hres hdk hblw hcnt
    by_cases h32 : k < 32
    · go_wp2_with fail
      refine Hcnt.out.mono ?_
      rintro _ _ ⟨rfl, rfl⟩
      by_cases hkc : k < d.bl.length
      · obtain ⟨hfull, hme⟩ := readL_full d k hkc Ho.out
        have hr := dread_dk (i := (k : Int)) Hdk.out Hw.out
        rw [hme] at hr
        have hms := madeR_succ d k
        have Hr := Lib.hid hr
        have Hms := Lib.hid hms
        generalize hrl : readL d (k : Int) = rl at *
        clear hr hms hme
        go_wp2_with fail
        refine Hr.out.mono ?_
        rintro _ w3 ⟨v3, rfl, hf3, hd3, hb3⟩
        obtain ⟨A3, c3, hv3, _, _⟩ := hf3.form
        subst hv3
        have hcv := conv8 hf3.by_
        rw [hfull] at hcv
        have Hbx3 := Lib.hid (Hbx.out.blwM hb3)
        have Hown3 := Lib.hid (Hown.out.below_ hb3)
        have Hres3 := Lib.hid (Hres.out.blwM hb3)
        have Hdk3 := Lib.hid hd3
        have Hblw3 := Lib.hid (Hblw.out.trans (hb3.mono (by have := Hblw.out.size; omega)))
        have hs3 := hb3.size
        have hc33 := (Hbx.out.blwM hb3).cell 3 _ rfl
        clear hf3 hd3 hb3 hc3 Hbx Hown Hres Hdk Hblw Hr Hcnt
        go_wp2_with (first
          | (at_builtin
             refine wpList_app1R (C := cRW) rfl (.tmp 29) (.tmp 34) 40 rfl Try.underlying40 info_rw rfl (by decide) (by decide) [.int .i64 (k : Int), .string (bst rl)] Hown3.out (y := ((k : Int), rl)) ⟨rfl, hfull⟩ rfl rfl (by rw [madeR_len]; omega) (by omega) ?_
             intro y8 w8 ho8 hx8
             have hbx8 := Hbx3.out.grown hx8.gr (fun e => by have := (Hown3.out.blk _ e).1; omega)
             have fr8 := hbx8.frozen 3
             have cc8 := hbx8.cell 3 _ rfl
             have Hbx8 := Lib.hid hbx8
             have Ho8 := Lib.hid ho8
             have Hx8 := Lib.hid hx8
             have hw8 := hx8.gr.size
             obtain ⟨A8, c8', hv8, -, -, -⟩ := ho8.form'
             rw [List.length_append, List.length_singleton, madeR_len] at hv8
             clear hbx8 ho8 hx8 hc33
             subst hv8))
        have hch8 : Chg (fun q => gd < q) w3 w8 := Chg.ofGrown Hx8.out.gr fun q e => by have := (Hown3.out.blk q e).1; omega
        have hchs := Chg.set (P := fun q => q = gd) w8 ⟨gd, 3, none⟩ (.slice A8 (k + 1) c8') rfl
        have hch9 : Chg (fun q => gd ≤ q) w3 (w8.setCell ⟨gd, 3, none⟩ (.slice A8 (k + 1) c8')) := (hch8.more (fun q _ h => by omega)).trans (hchs.more (fun q _ h => by omega))
        go_roundw
        case rel =>
          refine ⟨k + 1, .slice A8 (k + 1) c8', by omega, by go_num, Hbx8.out.put 3 _, by rw [Hms.out]; exact Ho8.out.chg hchs (fun q hq e => by have := (Ho8.out.blk q hq).1; omega) (fun _ h => h.elim), Hres3.out.chg hch9 (fun h => by omega), Hdk3.out.chg hch9 (fun q hq => Hnew.out q (by omega)), Hblw3.out.trans (hch9.below (B := w.heap.size) Hblw3.out.size (fun q hq => by omega)), ?_⟩
          simp [World.setCell]; omega
        case measure => simp [intOf]; omega
      · have hke : k = min 32 d.bl.length := by omega
        have Hke := Lib.hid hke
        clear hke
        obtain ⟨Ku, hKu⟩ : ∃ Ku, Ku = k := ⟨_, rfl⟩
        have Hone3 : Hid (∀ u ∈ [Value.int .i64 cn, .bool false, .int .i64 (-1), .slice Au k cu, .slice none 0 0], u.oneCell' = true) := Lib.hid fun u hu => by
          simp at hu
          rcases hu with rfl | rfl | rfl | rfl | rfl <;> rfl
        go_wp2_with (first
          | (refine wpList_load_agg rfl 42 (.tmp 3) rfl ⟨gd, 0, none⟩ rfl [Value.int .i64 cn, .bool false, .int .i64 (-1), .slice Au k cu, .slice none 0 0] Hbx.out.cells Try.underlying42 rfl info_rD5 ?_)
          | (refine wpList_store_boxW rfl 42 42 (.tmp 2) (.tmp 37) rfl w.heap.size zeroDc [Value.int .i64 cn, .bool false, .int .i64 (-1), .slice Au k cu, .slice none 0 0] rfl rfl Hres.out rfl Hone3.out info_rD5 ?_
             intro we hend hche hze))
        refine bodyPost_ret (results_c rfl _ _ w.heap.size [Value.int .i64 cn, .bool false, .int .i64 (-1), .slice Au k cu, .slice none 0 0] rfl (fun j v hj => (hend.cells j v hj : _)) Try.underlying42 rfl info_rD5) rfl ?_
        have hoe := Hown.out.chg hche (fun q hq e => by have := (Hown.out.blk q hq).1; omega) (fun _ h => h.elim)
        have hrow : ByR we (fun q => w.heap.size ≤ q ∧ q < we.heap.size) (.slice Au k cu) (madeR d k) := hoe.row.mono (fun q hq => ⟨by omega, hq.2⟩) (fun _ h => h.elim)
        rw [← Hke.out]
        refine ⟨_, rfl, ⟨.slice Au k cu, .slice none 0 0, by rw [Hcn.out]; rfl, hrow, RowOn.nil_, ⟨by show (-9223372036854775808 : Int) ≤ (d.bl.length : Int); omega, by show (d.bl.length : Int) ≤ 9223372036854775807; omega⟩, ⟨by show (-9223372036854775808 : Int) ≤ -1; decide, by show (-1 : Int) ≤ 9223372036854775807; decide⟩⟩, Hback.out _ (Hdk.out.chg hche (fun q hq => Hnew.out q (by omega))), Hblw.out.trans (hche.below (B := w.heap.size) Hblw.out.size (fun q hq => by omega))⟩
    · have hke : k = min 32 d.bl.length := by omega
      have Hke := Lib.hid hke
      clear hke
      obtain ⟨Ku, hKu⟩ : ∃ Ku, Ku = k := ⟨_, rfl⟩
      have Hone3 : Hid (∀ u ∈ [Value.int .i64 cn, .bool false, .int .i64 (-1), .slice Au k cu, .slice none 0 0], u.oneCell' = true) := Lib.hid fun u hu => by
        simp at hu
        rcases hu with rfl | rfl | rfl | rfl | rfl <;> rfl
      go_wp2_with (first
        | (refine wpList_load_agg rfl 42 (.tmp 3) rfl ⟨gd, 0, none⟩ rfl [Value.int .i64 cn, .bool false, .int .i64 (-1), .slice Au k cu, .slice none 0 0] Hbx.out.cells Try.underlying42 rfl info_rD5 ?_)
        | (refine wpList_store_boxW rfl 42 42 (.tmp 2) (.tmp 37) rfl w.heap.size zeroDc [Value.int .i64 cn, .bool false, .int .i64 (-1), .slice Au k cu, .slice none 0 0] rfl rfl Hres.out rfl Hone3.out info_rD5 ?_
           intro we hend hche hze))
      refine bodyPost_ret (results_c rfl _ _ w.heap.size [Value.int .i64 cn, .bool false, .int .i64 (-1), .slice Au k cu, .slice none 0 0] rfl (fun j v hj => (hend.cells j v hj : _)) Try.underlying42 rfl info_rD5) rfl ?_
      have hoe := Hown.out.chg hche (fun q hq e => by have := (Hown.out.blk q hq).1; omega) (fun _ h => h.elim)
      have hrow : ByR we (fun q => w.heap.size ≤ q ∧ q < we.heap.size) (.slice Au k cu) (madeR d k) := hoe.row.mono (fun q hq => ⟨by omega, hq.2⟩) (fun _ h => h.elim)
      rw [← Hke.out]
      refine ⟨_, rfl, ⟨.slice Au k cu, .slice none 0 0, by rw [Hcn.out]; rfl, hrow, RowOn.nil_, ⟨by show (-9223372036854775808 : Int) ≤ (d.bl.length : Int); omega, by show (d.bl.length : Int) ≤ 9223372036854775807; omega⟩, ⟨by show (-9223372036854775808 : Int) ≤ -1; decide, by show (-1 : Int) ≤ 9223372036854775807; decide⟩⟩, Hback.out _ (Hdk.out.chg hche (fun q hq => Hnew.out q (by omega))), Hblw.out.trans (hche.below (B := w.heap.size) Hblw.out.size (fun q hq => by omega))⟩
end Go.Proofs.Ytpoicbhbkabllaa

namespace Go.Proofs.Ytpoicbhbkabllaa
set_option linter.unusedSimpArgs false
set_option linter.unusedVariables false
open Go.RowKit

def fillL (c : UInt8) (n : Nat) : List UInt8 := (List.range n).map fun i => c + (if i < 64 then 0 else 1)
theorem fillL_len (c : UInt8) (n : Nat) : (fillL c n).length = n := by simp [fillL]
theorem fillL_succ (c : UInt8) (n : Nat) : fillL c (n + 1) = fillL c n ++ [c + (if n < 64 then 0 else 1)] := by simp [fillL, List.range_succ]
def filledL (c : UInt8) (short : Bool) : List UInt8 := if short = true then (fillL c 128).take 127 else fillL c 128
theorem add_u8 (a b : UInt8) : IntKind.u8.wrap ((a.toNat : Int) + (b.toNat : Int)) = ((a + b).toNat : Int) := by
  rw [IntKind.wrap_u8', UInt8.toNat_add]; omega

set_option maxRecDepth 100000 in
set_option maxHeartbeats 1600000 in
theorem filled_any (w : World) (c : UInt8) (short : Bool) :
    Calls Try.prog 17 #[.int .u8 (c.toNat : Int), .bool short] w fun e w' => ∃ v, e = .returned v ∧ Fresh w.heap.size w' v (filledL c short) ∧ Below w.heap.size w w' := by
  have hwz := Ow.new_ w [] (Nat.zero_le _)
  have Hwz := Lib.hid hwz
  clear hwz
  go_enter Try.func17, Try.ntmps17
  go_wp2_with fail
  go_loopw [5, 6] (fun v i wr => ∃ k : Nat, k ≤ 128 ∧ i = .int .i64 k ∧ Ow wr w.heap.size v (fillL c k) ∧ Below w.heap.size w wr) (fun _ i _ => 128 - (intOf i).toNat)
  case atStart => exact ⟨0, by omega, rfl, Hwz.out, balloc w _⟩
  case round =>
    obtain ⟨k, hk, rfl, hown, hbl⟩ := hrel
    have hsu := fillL_succ c k
    have hln := fillL_len c k
    have Hbl := Lib.hid hbl
    have Hown := Lib.hid hown
    have hwr := hbl.size
    by_cases hlt : k < 128
    · by_cases h64 : k < 64
      · have hq : (k : Int) / 64 = 0 := by omega
        have hz : IntKind.u8.wrap (0 : Int) = 0 := by decide
        have hcc : IntKind.u8.wrap (c.toNat : Int) = (c.toNat : Int) := wrap_u8_u8 c
        rw [if_pos h64, UInt8.add_zero] at hsu
        have Hsu := Lib.hid hsu
        have Hln := Lib.hid hln
        clear hsu hln hown hbl h64
        go_wp2_with (at_builtin; refine wpList_app1 rfl (.tmp 12) (.tmp 18) rfl (b := c) Hown.out rfl rfl rfl (by rw [Hln.out]; omega) hwr ?_; intro v1 w1 hown1 hext1)
        rw [← Hsu.out] at hown1
        have Hown1 := Lib.hid hown1
        have Hbl1 := Lib.hid (Hbl.out.trans (hext1.below hwr (fun q hq => (World.ownsRow.lt Hown.out q hq).1)))
        clear hown1 hext1
        go_wp2_with fail
        go_roundw
        case rel => exact ⟨k + 1, by omega, by go_num, Hown1.out, Hbl1.out⟩
        case measure => simp [intOf]; omega
      · have hq : (k : Int) / 64 = 1 := by omega
        have hz : IntKind.u8.wrap (1 : Int) = 1 := by decide
        have hcc : IntKind.u8.wrap ((c.toNat : Int) + 1) = ((c + 1).toNat : Int) := add_u8 c 1
        rw [if_neg h64] at hsu
        have Hsu := Lib.hid hsu
        have Hln := Lib.hid hln
        clear hsu hln hown hbl h64
        generalize c + 1 = c1 at *
        go_wp2_with (at_builtin; refine wpList_app1 rfl (.tmp 12) (.tmp 18) rfl (b := c1) Hown.out rfl rfl rfl (by rw [Hln.out]; omega) hwr ?_; intro v1 w1 hown1 hext1)
        rw [← Hsu.out] at hown1
        have Hown1 := Lib.hid hown1
        have Hbl1 := Lib.hid (Hbl.out.trans (hext1.below hwr (fun q hq => (World.ownsRow.lt Hown.out q hq).1)))
        clear hown1 hext1
        go_wp2_with fail
        go_roundw
        case rel => exact ⟨k + 1, by omega, by go_num, Hown1.out, Hbl1.out⟩
        case measure => simp [intOf]; omega
    · obtain rfl : k = 128 := by omega
      obtain ⟨A, cp, rfl, hc1, hc2, hA⟩ := hown.form_
      obtain ⟨g, rfl, hg1, hg2⟩ := hA (by rw [hln]; decide)
      rw [hln] at *
      unfold maxLen at hc2
      have hf1 := hown.fresh
      have hf2 := hf1.front (k := 127) (by rw [fillL_len]; decide) (by decide)
      have Hf1 := Lib.hid hf1
      have Hf2 := Lib.hid hf2
      clear hsu hln hown hbl Hown hA hf1 hf2
      cases short with
      | true =>
        have hle : (127 : Int) ≤ (cp : Int) := by omega
        have hle2 : 127 ≤ cp := by omega
        go_wp2_with fail
        go_ret
        refine ⟨_, rfl, ?_, Hbl.out⟩
        exact Hf2.out
      | false =>
        go_wp2_with fail
        go_ret
        refine ⟨_, rfl, ?_, Hbl.out⟩
        exact Hf1.out

end Go.Proofs.Ytpoicbhbkabllaa

namespace Go.Proofs.Ytpoicbhbkabllaa.manifestRaw
open Go.Proofs.Ytpoicbhbkabllaa
open Go.ChangeShapes Go.WideShapes Go.ChangeAt Go.RowKit
set_option linter.unusedVariables false
set_option linter.unusedSimpArgs false

theorem own : ownKnob Try.prog.godebug = none := by kernel_rfl
theorem laidOut : laidOutB Try.prog = true := by kernel_rfl

def rawL (a b : List UInt8) : List UInt8 := (a ++ List.replicate (2048 - a.length) 0) ++ (b ++ List.replicate (2048 - b.length) 0)
theorem rawL_len (a b : List UInt8) (ha : a.length ≤ 2048) (hb : b.length ≤ 2048) : (rawL a b).length = 4096 := by simp [rawL]; omega
def rawD (n : Nat) (l : List UInt8) (k : Nat) : DState := (List.range k).foldl (fun d (i : Nat) => writeD d ((i : Nat) : Int) ((l.drop (128 * i)).take 128)) (newD n)
theorem rawD_succ (n : Nat) (l : List UInt8) (k : Nat) : rawD n l (k + 1) = writeD (rawD n l k) (k : Int) ((l.drop (128 * k)).take 128) := by simp [rawD, List.range_succ]
theorem rawD_ok (n : Nat) (l : List UInt8) (hl : l.length = 4096) : ∀ k, k ≤ 32 → k ≤ n → (rawD n l k).off = false ∧ (rawD n l k).bl.length = n ∧ (rawD n l k).fuse = -1 ∧ (rawD n l k).wt.length = k ∧ (k < 32 → k < n → writeE (rawD n l k) (k : Int) ((l.drop (128 * k)).take 128) = 0)
  | 0, _, hn => by
    refine ⟨rfl, by simp [rawD, newD], rfl, rfl, fun _ h => ?_⟩
    unfold writeE mayE deedE
    simp [rawD, newD]
    omega
  | k + 1, hk, hn => by
    obtain ⟨h1, h2, h3, h4, h5⟩ := rawD_ok n l hl k (by omega) (by omega)
    have hb : ((l.drop (128 * k)).take 128).length = 128 := by simp; omega
    have hm : mayE (rawD n l k) (k : Int) = 0 := by
      unfold mayE
      rw [h1, if_neg (by simp), if_pos (by omega)]
    have hd : deedE (rawD n l k) = 0 := by unfold deedE; rw [h3]; rfl
    have hdd : deedD (rawD n l k) = rawD n l k := by unfold deedD; rw [if_neg (by rw [h3]; decide), if_neg (by rw [h3]; decide)]
    have hs : rawD n l (k + 1) = { rawD n l k with wt := (rawD n l k).wt ++ [((k : Int).toNat, ⟨(l.drop (128 * k)).take 128, hb⟩)] } := by
      rw [rawD_succ]
      unfold writeD
      rw [if_neg (by rw [hm]; simp), dif_pos hb, if_neg (by rw [hd]; simp), hdd]
    rw [hs]
    refine ⟨h1, h2, h3, by simp [h4], fun h6 h7 => ?_⟩
    unfold writeE
    have hm2 : mayE { rawD n l k with wt := (rawD n l k).wt ++ [((k : Int).toNat, ⟨(l.drop (128 * k)).take 128, hb⟩)] } ((k + 1 : Nat) : Int) = 0 := by
      unfold mayE
      show (if (rawD n l k).off = true then (6 : Int) else if 0 ≤ ((k + 1 : Nat) : Int) ∧ ((k + 1 : Nat) : Int) < ((rawD n l k).bl.length : Int) then 0 else 9) = 0
      rw [h1, if_neg (by simp), if_pos (by omega)]
    have hb2 : ((l.drop (128 * (k + 1))).take 128).length = 128 := by simp; omega
    rw [if_neg (by rw [hm2]; simp), if_neg (by rw [hb2]; simp)]
    show (if (rawD n l k).fuse = 0 then (6 : Int) else 0) = 0
    rw [h3]
    rfl
theorem cutBy {w : World} {B g n c : Nat} {l : List UInt8} (h : By w B (.slice (some ⟨g, 0, none⟩) n c) l) (k m : Nat) (hk : k + m ≤ l.length) (hm : 0 < m) : By w B (.slice (some ⟨g, k, none⟩) m (c - k)) ((l.drop k).take m) := by
  have hc := (By.len_ h).2.1
  have h1 := By.back_ h (k := k) (by omega)
  rw [if_neg (by omega)] at h1
  have ha : (some (⟨g, 0, none⟩ : Addr)).map (fun a => a.add k) = some ⟨g, k, none⟩ := by
    simp only [Option.map_some, Option.some.injEq]
    unfold Addr.add
    split <;> simp_all
  rw [ha] at h1
  exact By.front_ h1 (by simp; omega)
theorem chgBy {P : Nat → Prop} {w w' : World} {g n c : Nat} {l : List UInt8} (h : By w w.heap.size (.slice (some ⟨g, 0, none⟩) n c) l) (hc : Chg P w w') (hP : ¬ P g) : By w' w'.heap.size (.slice (some ⟨g, 0, none⟩) n c) l := by
  obtain ⟨A', c', e, h1, h2, hrd⟩ := h
  injection e with e1 e2 e3
  subst e1
  have hs := hc.size
  refine ⟨_, c', by rw [e2, e3], h1, h2, hrd.1, fun hn => ?_⟩
  obtain ⟨ad, e4, hb, hcl⟩ := hrd.2 hn
  injection e4 with e4
  subst e4
  exact ⟨_, rfl, Nat.lt_of_lt_of_le hb hs, fun j u hu => (World.cell?_of_block (hc.block _ (by rw [add_block]; exact hb) (by rw [add_block]; exact hP))).trans (hcl j u hu)⟩
theorem keepNe {w w' : World} {base : Nat} {v u u' : Value} {l : List UInt8} (h : Ow w base v l) (hx : Ext w w' u u') (hn : ∀ q, v.ownBlock = some q → u.ownBlock ≠ some q) : Ow w' base v l :=
  h.keep hx.gr (by
    cases hv : v.ownBlock with
    | none => exact .inl rfl
    | some q => exact .inr fun e => hn q hv e.symm)
set_option maxRecDepth 100000 in
set_option maxHeartbeats 6400000 in
theorem walk (v0 v1 v2 v3 : Value) (w : World) (h0 : InC w 3 [v0]) (h1 : InC w 30 [v1]) (h2 : InC w 30 [v2]) (h3 : InC w 4 [v3]) :
    Calls Try.prog 9 #[v0, v1, v2, v3] w fun e w' => e = .returned (.bool true) ∧ Below w.heap.size w w' := by
  obtain ⟨n, e0, hn⟩ := InC.i64 (S := fun _ => True) Try.underlying3 h0
  simp at e0
  subst e0
  obtain ⟨a, hba⟩ := InC.bytes h1
  obtain ⟨b, hbb⟩ := InC.bytes h2
  obtain ⟨off, e3⟩ := InC.bool Try.underlying4 h3
  simp at e3
  subst e3
  obtain ⟨A, ca, rfl, ha1, ha2, _⟩ := id hba
  obtain ⟨A', cb, rfl, hb1, hb2, _⟩ := id hbb
  unfold maxLen at ha2 hb2
  have HA := Lib.hid (fun W => awake09 W)
  have Hba := Lib.hid hba
  have Hbb := Lib.hid hbb
  have hn1 := hn.1
  have hn2 := hn.2
  clear hba hbb h0 h1 h2 h3 hn
  by_cases hbig : 34 < n ∨ 2048 < a.length ∨ 2048 < b.length
  · by_cases hn34 : 34 < n
    · have hd : decide (34 < n) = true := decide_eq_true hn34
      go_enter Try.func9, Try.ntmps9
      go_wp2_with (go_at_call 30; refine (HA.out _).mono ?_; rintro e wa ⟨rfl, hba⟩)
      go_ret
      exact ⟨rfl, hba⟩
    · by_cases ha34 : 2048 < a.length
      · have hd : decide (34 < n) = false := decide_eq_false hn34
        have hd2 : decide (2048 < (a.length : Int)) = true := decide_eq_true (by omega)
        go_enter Try.func9, Try.ntmps9
        go_wp2_with (go_at_call 30; refine (HA.out _).mono ?_; rintro e wa ⟨rfl, hba⟩)
        go_ret
        exact ⟨rfl, hba⟩
      · have hb34 : 2048 < b.length := by omega
        have hd : decide (34 < n) = false := decide_eq_false hn34
        have hd2 : decide (2048 < (a.length : Int)) = false := decide_eq_false (by omega)
        have hd3 : decide (2048 < (b.length : Int)) = true := decide_eq_true (by omega)
        go_enter Try.func9, Try.ntmps9
        go_wp2_with (go_at_call 30; refine (HA.out _).mono ?_; rintro e wa ⟨rfl, hba⟩)
        go_ret
        exact ⟨rfl, hba⟩
  · have hn34 : n ≤ 34 := by omega
    have hal : a.length ≤ 2048 := by omega
    have hbl : b.length ≤ 2048 := by omega
    clear hbig
    have hd : decide (34 < n) = false := decide_eq_false (by omega)
    have hd2 : decide (2048 < (a.length : Int)) = false := decide_eq_false (by omega)
    have hd3 : decide (2048 < (b.length : Int)) = false := decide_eq_false (by omega)
    by_cases hn0 : n < 1
    · have hdn : decide (n < 1) = true := decide_eq_true hn0
      have Hno := Lib.hid (dnew_no w n (.inl hn0))
      have Hz : Hid (∀ u ∈ zeroMc, u.oneCell' = true) := encM_one emptyM _ rfl
      go_enter Try.func9, Try.ntmps9
      go_wp2_with fail
      refine Hno.out.mono ?_
      rintro _ _ ⟨rfl, rfl⟩
      go_wp2_with fail
      refine (mfread_nil w).mono ?_
      rintro _ w1 ⟨v1, rfl, hm1, hb1⟩
      obtain ⟨vf, hvf, hff⟩ := id hm1
      obtain ⟨Af, cf, hvf2, _, _⟩ := hff.form
      subst hvf2
      subst hvf
      have Hone : Hid (∀ u ∈ encM emptyM (.slice Af emptyM.files.length cf), u.oneCell' = true) := encM_one _ _ rfl
      have Hb1 := Lib.hid hb1
      clear hm1 hff hb1
      go_wp2_with (first
        | (refine wpList_alloc_z rfl 56 rfl info_manz zeroMc zeroM_cells ?_)
        | (refine wpList_store_newW rfl 56 (.tmp 11) (.tmp 42) rfl zeroMc (encM emptyM (.slice Af emptyM.files.length cf)) rfl rfl info_man3 rfl Hone.out ?_
           intro w2 hbx2 hb2 hz2
           have Hb2 := Lib.hid (bstep Hb1.out hb2)
           clear hbx2 hb2)
        | (go_at_call 30; refine (HA.out _).mono ?_; rintro e wa ⟨rfl, hba⟩))
      go_ret
      exact ⟨rfl, bstep Hb2.out hba⟩
    · obtain ⟨k, rfl⟩ : ∃ k : Nat, n = (k : Int) := ⟨n.toNat, by omega⟩
      have hdn : decide ((k : Int) < 1) = false := decide_eq_false hn0
      have Hnew := Lib.hid (dnew_dk w k (by omega) (by omega))
      have hk1 : 1 ≤ k := by omega
      clear hn0
      go_enter Try.func9, Try.ntmps9
      go_wp2_with fail
      refine Hnew.out.mono ?_
      rintro _ w1 ⟨g, rfl, hdk1, hb1⟩
      have Hdk1 := Lib.hid hdk1
      have Hb1 := Lib.hid hb1
      have By1 := Lib.hid (Hba.out.step hb1)
      have By2 := Lib.hid (Hbb.out.step hb1)
      clear hdk1 hb1 Hnew
      have hdkx : DK w.heap.size (fun q => w1.heap.size ≤ q) w1 g (newD k) := Hdk1.out.apart fun q hq => .inr hq
      have hbe := balloc w1 (.cells #[] 5)
      have DkE := Lib.hid (hdkx.below_ hbe)
      have hoe : Ow (w1.alloc (.cells #[] 5)) w1.heap.size (.slice (some ⟨w1.heap.size, 0, none⟩) 0 0) [] := Ow.new_ w1 [] (Nat.zero_le _)
      have HoE := Lib.hid hoe
      have ByE := Lib.hid (By1.out.below hbe)
      have ByF := Lib.hid (By2.out.below hbe)
      have HN1 : Hid ((2048 - (a.length : Int)) = ((2048 - a.length : Nat) : Int)) := by show (2048 - (a.length : Int)) = ((2048 - a.length : Nat) : Int); omega
      have HN2 : Hid ((2048 - (b.length : Int)) = ((2048 - b.length : Nat) : Int)) := by show (2048 - (b.length : Int)) = ((2048 - b.length : Nat) : Int); omega
      have hze : w1.heap.size ≤ (w1.alloc (.cells #[] 5)).heap.size := by simp
      have Hze := Lib.hid hze
      clear hdkx hbe hoe hze Hdk1
      go_upto_region 8 with (first
        | (at_builtin
           refine wpList_app8 rfl (.tmp 53) (.tmp 54) rfl HoE.out ByE.out rfl rfl (by simp; omega) Hze.out ?_
           intro x2 w2 ho2 hx2
           rw [List.nil_append] at ho2
           have Dk2 := Lib.hid (DkE.out.grown hx2.gr (fun q hq => .inr (HoE.out.blk q hq).1))
           have hbx2 := hx2.below Hze.out (fun q hq => (HoE.out.blk q hq).1)
           have By22 := Lib.hid (ByF.out.below (hbx2))
           have Hs2 := Lib.hid (Nat.le_trans Hze.out hbx2.size)
           have Hb2 := Lib.hid ((balloc w1 (.cells #[] 5)).trans hbx2)
           have Ho2 := Lib.hid ho2
           obtain ⟨A2, c2, hv2, -, -, -⟩ := ho2.form_
           clear ho2 hx2 hbx2
           subst hv2)
        | (at_builtin
           refine wpList_zero8 rfl (.tmp 55) (.tmp 58) rfl Ho2.out (2048 - a.length) rfl (congrArg (Value.int .i64) HN1.out) (by omega) Hs2.out ?_
           intro x3 w3 ho3 hx3
           have Dk3 := Lib.hid (Dk2.out.grown hx3.gr (fun q hq => .inr (Ho2.out.blk q hq).1))
           have hbx3 := hx3.below Hs2.out (fun q hq => (Ho2.out.blk q hq).1)
           have By23 := Lib.hid (By22.out.below hbx3)
           have Hs3 := Lib.hid (Nat.le_trans Hs2.out hbx3.size)
           have Hb3 := Lib.hid (Hb2.out.trans hbx3)
           have hl3 : (a ++ List.replicate (2048 - a.length) 0).length = 2048 := by simp; omega
           obtain ⟨La, hLa⟩ : ∃ La, La = a ++ List.replicate (2048 - a.length) 0 := ⟨_, rfl⟩
           rw [← hLa] at ho3 hl3
           have HLa := Lib.hid hLa
           obtain ⟨A3, c3, hv3, -, -, -⟩ := ho3.form_
           rw [hl3] at hv3
           subst hv3
           have hbe3 := balloc w3 (.cells #[] 5)
           have Dk4 := Lib.hid (Dk3.out.below_ hbe3)
           have Ho3 := Lib.hid (ho3.below_ hbe3)
           have HA3 : Hid (∀ q, (Value.slice A3 2048 c3).ownBlock = some q → q < w3.heap.size) := Lib.hid fun q hq => (ho3.blk q hq).2
           have By24 := Lib.hid (By23.out.below (hbe3.mono Hs3.out))
           have hoe4 : Ow (w3.alloc (.cells #[] 5)) w3.heap.size (.slice (some ⟨w3.heap.size, 0, none⟩) 0 0) [] := Ow.new_ w3 [] (Nat.zero_le _)
           have HoE4 := Lib.hid hoe4
           have Hz4 : Hid (w3.heap.size ≤ (w3.alloc (.cells #[] 5)).heap.size) := by show w3.heap.size ≤ _; simp
           have Hb4 := Lib.hid (Hb3.out.trans (hbe3.mono Hs3.out))
           clear hLa ho3 hx3 hbx3 hbe3 hoe4)
        | (at_builtin
           refine wpList_app8 rfl (.tmp 60) (.tmp 61) rfl HoE4.out By24.out rfl rfl (by simp; omega) Hz4.out ?_
           intro x5 w5 ho5 hx5
           rw [List.nil_append] at ho5
           have Dk5 := Lib.hid (Dk4.out.grown hx5.gr (fun q hq => .inr (by have := (HoE4.out.blk q hq).1; have := Hs3.out; omega)))
           have hbx5 := hx5.below Hz4.out (fun q hq => (HoE4.out.blk q hq).1)
           have Ho35 := Lib.hid (keepNe Ho3.out hx5 (fun q hq e => by have h1 := HA3.out q hq; have h2 := (HoE4.out.blk q e).1; omega))
           have Hs5 := Lib.hid (Nat.le_trans Hz4.out hbx5.size)
           have Hb5 := Lib.hid (Hb4.out.trans (hbx5.mono Hs3.out))
           have Ho5 := Lib.hid ho5
           obtain ⟨A5, c5, hv5, -, -, -⟩ := ho5.form_
           clear ho5 hx5 hbx5
           subst hv5)
        | (at_builtin
           refine wpList_zero8 rfl (.tmp 62) (.tmp 65) rfl Ho5.out (2048 - b.length) rfl (congrArg (Value.int .i64) HN2.out) (by omega) Hs5.out ?_
           intro x6 w6 ho6 hx6
           have Dk6 := Lib.hid (Dk5.out.grown hx6.gr (fun q hq => .inr (by have := (Ho5.out.blk q hq).1; have := Hs3.out; omega)))
           have hbx6 := hx6.below Hs5.out (fun q hq => (Ho5.out.blk q hq).1)
           have Ho36 := Lib.hid (keepNe Ho35.out hx6 (fun q hq e => by have h1 := HA3.out q hq; have h2 := (Ho5.out.blk q e).1; omega))
           have Hs6 := Lib.hid (Nat.le_trans Hs5.out hbx6.size)
           have Hb6 := Lib.hid (Hb5.out.trans (hbx6.mono Hs3.out))
           have hl6 : (b ++ List.replicate (2048 - b.length) 0).length = 2048 := by simp; omega
           obtain ⟨Lb, hLb⟩ : ∃ Lb, Lb = b ++ List.replicate (2048 - b.length) 0 := ⟨_, rfl⟩
           rw [← hLb] at ho6 hl6
           have HLb := Lib.hid hLb
           obtain ⟨A6, c6, hv6, -, -, -⟩ := ho6.form_
           rw [hl6] at hv6
           subst hv6
           have By6 := Lib.hid ho6.by_
           clear hLb ho6 hx6 hbx6)
        | (at_builtin
           refine wpList_app8 rfl (.tmp 59) (.tmp 66) rfl Ho36.out By6.out rfl rfl (by omega) (Nat.le_trans Hs3.out Hs6.out) ?_
           intro x7 w7 ho7 hx7
           have Dk7 := Lib.hid (Dk6.out.grown hx7.gr (fun q hq => .inr (Ho36.out.blk q hq).1))
           have hbx7 := hx7.below (Nat.le_trans Hs3.out Hs6.out) (fun q hq => (Ho36.out.blk q hq).1)
           have Hb7 := Lib.hid (Hb6.out.trans hbx7)
           have hL : La ++ Lb = rawL a b := by rw [HLa.out, HLb.out]; rfl
           rw [hL] at ho7
           have Ho7 := Lib.hid ho7
           clear ho7 hx7 hbx7 hL))
      try simp only [Act.put, List.setIfInBounds_toArray, List.set_cons_zero, List.set_cons_succ]
      have hlr := rawL_len a b hal hbl
      obtain ⟨A7, c7, hv7, hA7, hA7', hA7x⟩ := Ho7.out.form_
      rw [hlr] at hv7 hA7 hA7x
      obtain ⟨g7, rfl, hg71, hg72⟩ := hA7x (by omega)
      subst hv7
      have Bw7 := Lib.hid (Hb1.out.trans (Hb7.out.mono Hb1.out.size))
      have hs17 := Hb7.out.size
      have hs01 := Hb1.out.size
      have Dk7x : Hid (DK w.heap.size (fun q => w1.heap.size ≤ q ∧ q < w7.heap.size) w7 g (newD k)) := Lib.hid (Dk7.out.less fun q hq => hq.1)
      have By7 := Lib.hid Ho7.out.by_
      clear Dk2 Dk3 Dk4 Dk5 Dk6 Dk7 DkE HoE HoE4 Ho2 Ho3 Ho35 Ho36 Ho5 Ho7 By1 By2 By22 By23 By24 ByE ByF HN1 HN2 HLa HLb HA3 Hb2 Hb3 Hb4 Hb5 Hb6 Hs2 Hs3 Hs5 Hs6 Hz4 Hze hl3 hl6
      generalize hLL : rawL a b = LL at *
      obtain ⟨X7, hX7⟩ : ∃ X7 : Nat → Prop, X7 = fun q => w1.heap.size ≤ q ∧ q < w7.heap.size := ⟨_, rfl⟩
      rw [← hX7] at Dk7x
      have HX7 := Lib.hid hX7
      have Hraw := Lib.hid (rawD_ok k LL hlr)
      have Hsucc := Lib.hid (rawD_succ k LL)
      have hc7 : 4096 ≤ c7 := hA7
      clear hX7
      go_wp2_with fail
      go_loopw [14] (fun iv wr => ∃ i : Nat, i ≤ min 32 k ∧ iv = .int .i64 i ∧ DK w.heap.size X7 wr g (rawD k LL i) ∧ By wr wr.heap.size (.slice (some ⟨g7, 0, none⟩) 4096 c7) LL ∧ Below w.heap.size w wr ∧ w7.heap.size ≤ wr.heap.size) (fun i _ => 32 - (intOf i).toNat)
      case atStart => exact ⟨0, by omega, rfl, Dk7x.out, By7.out, Bw7.out, Nat.le_refl _⟩
      case round =>
        obtain ⟨i, hi, rfl, hdk, hby, hbw, hsz⟩ := hrel
        have Hdk := Lib.hid hdk
        have Hby := Lib.hid hby
        have Hbw := Lib.hid hbw
        clear hdk hby hbw
        by_cases hik : i < 32 ∧ i < k
        · obtain ⟨hi1, hi2⟩ := hik
          obtain ⟨q1, q2, q3, q4, q5⟩ := Hraw.out i (by omega) (by omega)
          have hwe := q5 hi1 hi2
          have hsu := Hsucc.out i
          have Hsu := Lib.hid hsu
          have Hwe := Lib.hid hwe
          have Q4 := Lib.hid q4
          clear q1 q2 q3 q4 q5 hwe hsu
          have hwr := dwrite_dk (i := (i : Int)) (v := .slice (some ⟨g7, 128 * i, none⟩) 128 (c7 - 128 * i)) Hdk.out (fun q hq => by have := HX7.out ▸ hq; have h2 : w1.heap.size ≤ q ∧ q < w7.heap.size := this; omega) Hbw.out.size (by have := Q4.out; omega) (cutBy Hby.out (128 * i) 128 (by omega) (by omega)) (fun q hq => by
            have hq2 : g7 = q := by simpa [Value.ownBlock] using hq
            right
            rw [HX7.out]
            show w1.heap.size ≤ q ∧ q < w7.heap.size
            omega)
          rw [Hwe.out, ← Hsu.out] at hwr
          have Hwr := Lib.hid hwr
          clear hwr
          go_wp2_with fail
          refine Hwr.out.mono ?_
          rintro _ w8 ⟨rfl, hdk8, hch8⟩
          have Hdk8 := Lib.hid hdk8
          have Hby8 := Lib.hid (chgBy Hby.out hch8 (fun h => h.2 (by rw [HX7.out]; exact ⟨hg71, hg72⟩)))
          have Hbw8 := Lib.hid (Hbw.out.trans (hch8.below_ Hbw.out.size))
          have hs8 := hch8.size
          clear hdk8 hch8
          go_wp2_with fail
          go_roundw
          case rel => exact ⟨i + 1, by omega, by go_num, Hdk8.out, Hby8.out, Hbw8.out, by omega⟩
          case measure => simp [intOf]; omega
        · have hie : i = min 32 k := by omega
          obtain ⟨q1, q2, q3, q4, _⟩ := Hraw.out i (by omega) (by omega)
          obtain ⟨d, hdd⟩ : ∃ d, d = rawD k LL i := ⟨_, rfl⟩
          rw [← hdd] at q1 q2 q3 q4 Hdk
          have Q1 := Lib.hid q1
          have Q2 := Lib.hid q2
          have Q4 := Lib.hid q4
          have hi32 := hi
          have Hdk0 : Hid (DK w.heap.size (fun q => wr.heap.size ≤ q) wr g d) := Lib.hid (Hdk.out.apart fun q hq => .inr hq)
          clear Hraw Hsucc hdd q1 q2 q3 q4
          by_cases h32 : i < 32
          · have hik2 : ¬ i < k := fun h => hik ⟨h32, h⟩
            clear hik
            go_wp2_with fail
            refine (model_any wr w.heap.size _ g d Hdk0.out (by have := Q4.out; omega) Q1.out (by have := Q2.out; omega)).mono ?_
            rintro _ wA ⟨vm, rfl, hrd, hdkA, hbA⟩
            rw [Q2.out] at hrd
            obtain ⟨u1, u2, hvm, hr1, hr2, -, -⟩ := hrd
            have hvm2 : vm = .agg #[.int .i64 (k : Int), .bool false, .int .i64 (-1), u1, u2] := by rw [hvm, ← Q2.out]; rfl
            subst hvm2
            obtain ⟨U1, U1c, hu1, -, -⟩ := hr1.form
            obtain ⟨U2, U2c, hu2, -, -⟩ := hr2.form
            have honeD : ∀ u ∈ [Value.int .i64 (k : Int), .bool false, .int .i64 (-1), u1, u2], u.oneCell' = true := fun u hu => by
              simp at hu
              rcases hu with rfl | rfl | rfl | rfl | rfl
              · rfl
              · rfl
              · rfl
              · rw [hu1]; rfl
              · rw [hu2]; rfl
            have HoneD := Lib.hid honeD
            have Hr1 := Lib.hid hr1
            have Hr2 := Lib.hid hr2
            have HdkA := Lib.hid hdkA
            have BwA := Lib.hid (Hbw.out.trans (hbA.mono Hbw.out.size))
            have BwAs : Hid (wr.heap.size ≤ wA.heap.size) := Lib.hid hbA.size
            clear hvm hr1 hr2 hu1 hu2 honeD hdkA hbA Hby Hdk
            go_upto_region 14 with (first
              | (refine wpList_alloc_z rfl 42 rfl info_rD5z zeroDc rfl ?_)
              | (refine wpList_store_newW rfl 42 (.tmp 15) (.tmp 89) rfl zeroDc [Value.int .i64 (k : Int), .bool false, .int .i64 (-1), u1, u2] rfl rfl info_rD5 rfl HoneD.out ?_
                 intro wB hbxB hbB hzB))
            try simp only [Act.put, List.setIfInBounds_toArray, List.set_cons_zero, List.set_cons_succ]
            obtain ⟨gD, hgD⟩ : ∃ gD, gD = wA.heap.size := ⟨_, rfl⟩
            rw [← hgD] at hbxB hzB ⊢
            have BxB := Lib.hid hbxB
            have HdkB := Lib.hid (HdkA.out.below_ hbB)
            have BAB := Lib.hid hbB
            have BWB := Lib.hid (BwA.out.trans (hbB.mono BwA.out.size))
            have hgDl := hbxB.lt
            have HgD := Lib.hid hgD
            clear hbxB hbB hgD HoneD HdkA
            cases off with
            | false =>
              obtain ⟨wC, hwC⟩ : ∃ wC, wC = wB := ⟨_, rfl⟩
              rw [← hwC] at BxB HdkB BAB BWB ⊢
              have BxC := BxB
              have HdkC := HdkB
              have Hr1C : Hid (ByR wC (fun q => wr.heap.size ≤ q ∧ q < wC.heap.size) u1 (madeR d (min 32 k))) := Lib.hid ((ByR.below Hr1.out BAB.out (fun q hq => hq.2)).more (fun q hq => ⟨hq.1, Nat.lt_of_lt_of_le hq.2 BAB.out.size⟩))
              have Hr2C : Hid (ByR wC (fun q => wr.heap.size ≤ q ∧ q < wC.heap.size) u2 []) := Lib.hid ((ByR.below Hr2.out BAB.out (fun q hq => hq.2)).more (fun q hq => ⟨hq.1, Nat.lt_of_lt_of_le hq.2 BAB.out.size⟩))
              have BA := Lib.hid (Below.refl wC.heap.size wC)
              have BW := BWB
              clear hwC
              obtain ⟨E, R, hread, href⟩ : ∃ (E : Int) (R : MMan), (Calls Try.prog 35 #[.pointer (some ⟨g, 0, none⟩)] wC fun e w' => ∃ v, e = .returned (.tuple #[v, .int .i64 E]) ∧ MIn w' wC.heap.size v R ∧ Below wC.heap.size wC w') ∧
                  (∀ W, Below wC.heap.size wC W → Calls Try.prog 37 #[.agg #[.int .i64 (k : Int), .bool false, .int .i64 (-1), u1, u2]] W fun e w' => ∃ v, e = .returned (.tuple #[v, .int .i64 E]) ∧ MIn w' W.heap.size v R ∧ Below W.heap.size W w') := by
                have hO : ∀ W, Below wC.heap.size wC W → ∀ q, (wr.heap.size ≤ q ∧ q < wC.heap.size) → q < W.heap.size := fun W hW q hq => Nat.lt_of_lt_of_le hq.2 hW.size
                have hmk : ∀ W, Below wC.heap.size wC W → RDV W (fun q => wr.heap.size ≤ q ∧ q < wC.heap.size) (.agg #[.int .i64 (k : Int), .bool false, .int .i64 (-1), u1, u2]) { modelR d (min 32 k) with off := false } := fun W hW =>
                  ⟨u1, u2, by rw [← Q2.out]; rfl, Hr1C.out.below hW (fun q hq => hq.2), Hr2C.out.below hW (fun q hq => hq.2), ⟨by show (-9223372036854775808 : Int) ≤ (d.bl.length : Int); omega, by show (d.bl.length : Int) ≤ 9223372036854775807; have := Q2.out; omega⟩, ⟨by show (-9223372036854775808 : Int) ≤ -1; decide, by show (-1 : Int) ≤ 9223372036854775807; decide⟩⟩
                by_cases h32c : k ≤ 32
                · exact ⟨1, emptyM, (mfread_few wC _ _ g _ HdkC.out (by show d.bl.length ≤ 32; have := Q2.out; omega)).mono (fun e w' ⟨v, h1, h2, h3, h4⟩ => ⟨v, h1, h2, h4⟩), fun W hW => rread09_few W _ _ _ (hmk W hW) (by show (d.bl.length : Int) ≤ 32; have := Q2.out; omega)⟩
                · have hm32 : min 32 k = 32 := by omega
                  have hslots : ∀ j, j < 2 → rslotL { modelR d (min 32 k) with off := false } j = slotL d j := fun j hj => by
                    rw [hm32]
                    exact modelR_slot d (by have := Q2.out; omega) Q1.out j hj
                  have hrst : rst (rslotL { modelR d (min 32 k) with off := false }) 2 = rst (slotL d) 2 := by
                    show rstep (rslotL _ 1) (rstep (rslotL _ 0) (rst _ 0)) = rstep (slotL d 1) (rstep (slotL d 0) (rst _ 0))
                    rw [hslots 0 (by decide), hslots 1 (by decide)]
                    rfl
                  refine ⟨rdE (rst (slotL d) 2), rdM (rst (slotL d) 2), (mfread_on wC _ _ g d HdkC.out (by have := Q4.out; omega) Q1.out (by have := Q2.out; omega) (by have := Q2.out; omega)).mono (fun e w' ⟨v, h1, h2, h3, h4⟩ => ⟨v, h1, h2, h4⟩), fun W hW => ?_⟩
                  have hx := rread09_on W _ _ _ (hO W hW) (by show (madeR d (min 32 k)).length ≤ 1000000; rw [madeR_len]; omega) (by show ([] : List RW).length ≤ 1000000; simp) (hmk W hW) (fun j => modelR_128 d (min 32 k) (by have := Q2.out; omega) j) rfl (by show 32 < (d.bl.length : Int); have := Q2.out; omega)
                  rw [hrst] at hx
                  exact hx
              have Hread := Lib.hid hread
              have Href := Lib.hid href
              clear hread href
              go_wp2_with fail
              refine Hread.out.mono ?_
              rintro _ wD ⟨vR, rfl, hmR, hbD⟩
              obtain ⟨vf, hvf, hff⟩ := id hmR
              obtain ⟨Af, cf, hvf2, -, -⟩ := hff.form
              subst hvf2
              subst hvf
              have MR := Lib.hid hmR
              have BxD2 := Lib.hid (BxC.out.blwM hbD)
              have BA2 := Lib.hid (BA.out.trans (hbD.mono BA.out.size))
              have BW2 := Lib.hid (BW.out.trans (hbD.mono BW.out.size))
              have HoneR : Hid (∀ u ∈ encM R (.slice Af R.files.length cf), u.oneCell' = true) := encM_one _ _ rfl
              clear hmR hff hbD
              go_upto_region 18 with (first
                | (refine wpList_alloc_z rfl 56 rfl info_manz zeroMc zeroM_cells ?_)
                | (refine wpList_store_newW rfl 56 (.tmp 16) (.tmp 97) rfl zeroMc (encM R (.slice Af R.files.length cf)) rfl rfl info_man3 rfl HoneR.out ?_
                   intro wE hbxE hbE hzE))
              try simp only [Act.put, List.setIfInBounds_toArray, List.set_cons_zero, List.set_cons_succ]
              have MR3 := Lib.hid (MR.out.step hbE)
              have BxD3 := Lib.hid (BxD2.out.blwM hbE)
              have BA3 := Lib.hid (BA2.out.trans (hbE.mono BA2.out.size))
              have BW3 := Lib.hid (BW2.out.trans (hbE.mono BW2.out.size))
              have BxE := Lib.hid hbxE
              clear hbxE hbE hzE
              go_wp2_with (refine wpList_load_agg rfl 42 (.tmp 15) rfl ⟨gD, 0, none⟩ rfl [Value.int .i64 (k : Int), .bool false, .int .i64 (-1), u1, u2] BxD3.out.cells Try.underlying42 rfl info_rD5 ?_)
              refine (Href.out wE BA3.out).mono ?_
              rintro _ wF ⟨vS, rfl, hmS, hbF⟩
              obtain ⟨vg, hvg, hgg⟩ := id hmS
              obtain ⟨Ag, cg, hvg2, -, -⟩ := hgg.form
              subst hvg2
              subst hvg
              have MR4 := Lib.hid (MR3.out.step hbF)
              have MS4 := Lib.hid hmS
              have BxE4 := Lib.hid (BxE.out.blwM hbF)
              have BW4 := Lib.hid (BW3.out.trans (hbF.mono BW3.out.size))
              have HoneS : Hid (∀ u ∈ encM R (.slice Ag R.files.length cg), u.oneCell' = true) := encM_one _ _ rfl
              clear hmS hgg hbF
              go_upto_region 19 with (first
                | (refine wpList_alloc_z rfl 56 rfl info_manz zeroMc zeroM_cells ?_)
                | (refine wpList_store_newW rfl 56 (.tmp 18) (.tmp 102) rfl zeroMc (encM R (.slice Ag R.files.length cg)) rfl rfl info_man3 rfl HoneS.out ?_
                   intro wG hbxG hbG hzG))
              try simp only [Act.put, List.setIfInBounds_toArray, List.set_cons_zero, List.set_cons_succ]
              have MR5 := Lib.hid (MR4.out.step hbG)
              have MS5 := Lib.hid (MS4.out.step hbG)
              have BxE5 := Lib.hid (BxE4.out.blwM hbG)
              have BxG := Lib.hid hbxG
              have BW5 := Lib.hid (BW4.out.trans (hbG.mono BW4.out.size))
              clear hbxG hbG hzG
              go_wp2_with (first
                | (refine wpList_load_agg rfl 56 (.tmp 16) rfl ⟨wD.heap.size, 0, none⟩ rfl (encM R (.slice Af R.files.length cf)) BxE5.out.cells Try.underlying56 rfl info_man3 ?_)
                | (refine wpList_load_agg rfl 56 (.tmp 18) rfl ⟨wF.heap.size, 0, none⟩ rfl (encM R (.slice Ag R.files.length cg)) BxG.out.cells Try.underlying56 rfl info_man3 ?_))
              refine (msame_any wG _ _ R R MR5.out.mat MS5.out.mat true (by simp)).mono ?_
              rintro _ wH ⟨rfl, hbH⟩
              have BW6 := Lib.hid (BW5.out.trans (hbH.mono BW5.out.size))
              clear hbH
              go_wp2_with (go_at_call 30; refine (HA.out _).mono ?_; rintro e wa ⟨rfl, hba⟩)
              go_ret
              exact ⟨rfl, bstep BW6.out hba⟩
            | true =>
              have hoff := doff_dk HdkB.out
              have hc1 := BxB.out.cell 1 _ rfl
              have Hoff := Lib.hid hoff
              clear hoff
              go_wp2_with fail
              refine Hoff.out.mono ?_
              rintro _ wb ⟨rfl, hdkb, hchb⟩
              have hbxb := BxB.out.chg hchb (fun h => h.2 (by have := HgD.out; have := BwAs.out; omega))
              have fr1 := hbxb.frozen 1
              have hcb1 := hbxb.cell 1 _ rfl
              have hr1b := (ByR.below Hr1.out BAB.out (fun q hq => hq.2)).chg hchb (fun q hq => ⟨Nat.lt_of_lt_of_le hq.2 BAB.out.size, fun h => h.2 hq.1⟩)
              have hr2b := (ByR.below Hr2.out BAB.out (fun q hq => hq.2)).chg hchb (fun q hq => ⟨Nat.lt_of_lt_of_le hq.2 BAB.out.size, fun h => h.2 hq.1⟩)
              have hbwb := BWB.out.trans (hchb.below_ BWB.out.size)
              have Hbxb := Lib.hid hbxb
              have Hdkb := Lib.hid hdkb
              have Hr1b := Lib.hid hr1b
              have Hr2b := Lib.hid hr2b
              have Hbwb := Lib.hid hbwb
              have hsb := hchb.size
              clear hbxb hdkb hr1b hr2b hbwb hchb hc1 BxB HdkB
              go_upto_region 17 with fail
              obtain ⟨wC, hwC⟩ : ∃ wC, wC = wb.setCell { block := gD, off := 1 } (.bool true) := ⟨_, rfl⟩
              rw [← hwC]
              have hchC : Chg (fun q => q = gD) wb wC := by rw [hwC]; exact Chg.set (P := fun q => q = gD) _ _ _ rfl
              have hszC : wC.heap.size = wb.heap.size := by rw [hwC]; simp [World.setCell]
              have BxC : Hid (BoxAt 42 wC gD [Value.int .i64 (k : Int), .bool true, .int .i64 (-1), u1, u2]) := by rw [hwC]; exact Hbxb.out.put 1 _
              have HdkC := Lib.hid (Hdkb.out.chg hchC (fun q hq => .inr (by have := HgD.out; have := BwAs.out; omega)))
              have Hr1C : Hid (ByR wC (fun q => wr.heap.size ≤ q ∧ q < wC.heap.size) u1 (madeR d (min 32 k))) := Lib.hid ((Hr1b.out.chg hchC (fun q hq => ⟨by have := BAB.out.size; omega, fun e => by have := HgD.out; omega⟩)).more (fun q hq => ⟨hq.1, by have := BAB.out.size; omega⟩))
              have Hr2C : Hid (ByR wC (fun q => wr.heap.size ≤ q ∧ q < wC.heap.size) u2 []) := Lib.hid ((Hr2b.out.chg hchC (fun q hq => ⟨by have := BAB.out.size; omega, fun e => by have := HgD.out; omega⟩)).more (fun q hq => ⟨hq.1, by have := BAB.out.size; omega⟩))
              have BA := Lib.hid (Below.refl wC.heap.size wC)
              have BW := Lib.hid (Hbwb.out.trans (hchC.below (B := w.heap.size) Hbwb.out.size (fun q hq => by have := HgD.out; have := BwA.out.size; omega)))
              clear hwC fr1 hcb1
              obtain ⟨E, R, hread, href⟩ : ∃ (E : Int) (R : MMan), (Calls Try.prog 35 #[.pointer (some ⟨g, 0, none⟩)] wC fun e w' => ∃ v, e = .returned (.tuple #[v, .int .i64 E]) ∧ MIn w' wC.heap.size v R ∧ Below wC.heap.size wC w') ∧
                  (∀ W, Below wC.heap.size wC W → Calls Try.prog 37 #[.agg #[.int .i64 (k : Int), .bool true, .int .i64 (-1), u1, u2]] W fun e w' => ∃ v, e = .returned (.tuple #[v, .int .i64 E]) ∧ MIn w' W.heap.size v R ∧ Below W.heap.size W w') := by
                have hO : ∀ W, Below wC.heap.size wC W → ∀ q, (wr.heap.size ≤ q ∧ q < wC.heap.size) → q < W.heap.size := fun W hW q hq => Nat.lt_of_lt_of_le hq.2 hW.size
                have hmk : ∀ W, Below wC.heap.size wC W → RDV W (fun q => wr.heap.size ≤ q ∧ q < wC.heap.size) (.agg #[.int .i64 (k : Int), .bool true, .int .i64 (-1), u1, u2]) { modelR d (min 32 k) with off := true } := fun W hW =>
                  ⟨u1, u2, by rw [← Q2.out]; rfl, Hr1C.out.below hW (fun q hq => hq.2), Hr2C.out.below hW (fun q hq => hq.2), ⟨by show (-9223372036854775808 : Int) ≤ (d.bl.length : Int); omega, by show (d.bl.length : Int) ≤ 9223372036854775807; have := Q2.out; omega⟩, ⟨by show (-9223372036854775808 : Int) ≤ -1; decide, by show (-1 : Int) ≤ 9223372036854775807; decide⟩⟩
                by_cases h32c : k ≤ 32
                · exact ⟨1, emptyM, (mfread_few wC _ _ g _ HdkC.out (by show d.bl.length ≤ 32; have := Q2.out; omega)).mono (fun e w' ⟨v, h1, h2, h3, h4⟩ => ⟨v, h1, h2, h4⟩), fun W hW => rread09_few W _ _ _ (hmk W hW) (by show (d.bl.length : Int) ≤ 32; have := Q2.out; omega)⟩
                · exact ⟨6, emptyM, (mfread_off wC _ _ g _ HdkC.out (by show d.wt.length ≤ 1000000; have := Q4.out; omega) rfl (by show 32 < d.bl.length; have := Q2.out; omega) (by show d.bl.length ≤ 65536; have := Q2.out; omega)).mono (fun e w' ⟨v, h1, h2, h3, h4⟩ => ⟨v, h1, h2, h4⟩), fun W hW => rread09_off W _ _ _ (hmk W hW) rfl (by show 32 < (d.bl.length : Int); have := Q2.out; omega)⟩
              have Hread := Lib.hid hread
              have Href := Lib.hid href
              clear hread href
              go_wp2_with fail
              refine Hread.out.mono ?_
              rintro _ wD ⟨vR, rfl, hmR, hbD⟩
              obtain ⟨vf, hvf, hff⟩ := id hmR
              obtain ⟨Af, cf, hvf2, -, -⟩ := hff.form
              subst hvf2
              subst hvf
              have MR := Lib.hid hmR
              have BxD2 := Lib.hid (BxC.out.blwM hbD)
              have BA2 := Lib.hid (BA.out.trans (hbD.mono BA.out.size))
              have BW2 := Lib.hid (BW.out.trans (hbD.mono BW.out.size))
              have HoneR : Hid (∀ u ∈ encM R (.slice Af R.files.length cf), u.oneCell' = true) := encM_one _ _ rfl
              clear hmR hff hbD
              go_upto_region 18 with (first
                | (refine wpList_alloc_z rfl 56 rfl info_manz zeroMc zeroM_cells ?_)
                | (refine wpList_store_newW rfl 56 (.tmp 16) (.tmp 97) rfl zeroMc (encM R (.slice Af R.files.length cf)) rfl rfl info_man3 rfl HoneR.out ?_
                   intro wE hbxE hbE hzE))
              try simp only [Act.put, List.setIfInBounds_toArray, List.set_cons_zero, List.set_cons_succ]
              have MR3 := Lib.hid (MR.out.step hbE)
              have BxD3 := Lib.hid (BxD2.out.blwM hbE)
              have BA3 := Lib.hid (BA2.out.trans (hbE.mono BA2.out.size))
              have BW3 := Lib.hid (BW2.out.trans (hbE.mono BW2.out.size))
              have BxE := Lib.hid hbxE
              clear hbxE hbE hzE
              go_wp2_with (refine wpList_load_agg rfl 42 (.tmp 15) rfl ⟨gD, 0, none⟩ rfl [Value.int .i64 (k : Int), .bool true, .int .i64 (-1), u1, u2] BxD3.out.cells Try.underlying42 rfl info_rD5 ?_)
              refine (Href.out wE BA3.out).mono ?_
              rintro _ wF ⟨vS, rfl, hmS, hbF⟩
              obtain ⟨vg, hvg, hgg⟩ := id hmS
              obtain ⟨Ag, cg, hvg2, -, -⟩ := hgg.form
              subst hvg2
              subst hvg
              have MR4 := Lib.hid (MR3.out.step hbF)
              have MS4 := Lib.hid hmS
              have BxE4 := Lib.hid (BxE.out.blwM hbF)
              have BW4 := Lib.hid (BW3.out.trans (hbF.mono BW3.out.size))
              have HoneS : Hid (∀ u ∈ encM R (.slice Ag R.files.length cg), u.oneCell' = true) := encM_one _ _ rfl
              clear hmS hgg hbF
              go_upto_region 19 with (first
                | (refine wpList_alloc_z rfl 56 rfl info_manz zeroMc zeroM_cells ?_)
                | (refine wpList_store_newW rfl 56 (.tmp 18) (.tmp 102) rfl zeroMc (encM R (.slice Ag R.files.length cg)) rfl rfl info_man3 rfl HoneS.out ?_
                   intro wG hbxG hbG hzG))
              try simp only [Act.put, List.setIfInBounds_toArray, List.set_cons_zero, List.set_cons_succ]
              have MR5 := Lib.hid (MR4.out.step hbG)
              have MS5 := Lib.hid (MS4.out.step hbG)
              have BxE5 := Lib.hid (BxE4.out.blwM hbG)
              have BxG := Lib.hid hbxG
              have BW5 := Lib.hid (BW4.out.trans (hbG.mono BW4.out.size))
              clear hbxG hbG hzG
              go_wp2_with (first
                | (refine wpList_load_agg rfl 56 (.tmp 16) rfl ⟨wD.heap.size, 0, none⟩ rfl (encM R (.slice Af R.files.length cf)) BxE5.out.cells Try.underlying56 rfl info_man3 ?_)
                | (refine wpList_load_agg rfl 56 (.tmp 18) rfl ⟨wF.heap.size, 0, none⟩ rfl (encM R (.slice Ag R.files.length cg)) BxG.out.cells Try.underlying56 rfl info_man3 ?_))
              refine (msame_any wG _ _ R R MR5.out.mat MS5.out.mat true (by simp)).mono ?_
              rintro _ wH ⟨rfl, hbH⟩
              have BW6 := Lib.hid (BW5.out.trans (hbH.mono BW5.out.size))
              clear hbH
              go_wp2_with (go_at_call 30; refine (HA.out _).mono ?_; rintro e wa ⟨rfl, hba⟩)
              go_ret
              exact ⟨rfl, bstep BW6.out hba⟩
          · clear hik
            go_wp2_with fail
            refine (model_any wr w.heap.size _ g d Hdk0.out (by have := Q4.out; omega) Q1.out (by have := Q2.out; omega)).mono ?_
            rintro _ wA ⟨vm, rfl, hrd, hdkA, hbA⟩
            rw [Q2.out] at hrd
            obtain ⟨u1, u2, hvm, hr1, hr2, -, -⟩ := hrd
            have hvm2 : vm = .agg #[.int .i64 (k : Int), .bool false, .int .i64 (-1), u1, u2] := by rw [hvm, ← Q2.out]; rfl
            subst hvm2
            obtain ⟨U1, U1c, hu1, -, -⟩ := hr1.form
            obtain ⟨U2, U2c, hu2, -, -⟩ := hr2.form
            have honeD : ∀ u ∈ [Value.int .i64 (k : Int), .bool false, .int .i64 (-1), u1, u2], u.oneCell' = true := fun u hu => by
              simp at hu
              rcases hu with rfl | rfl | rfl | rfl | rfl
              · rfl
              · rfl
              · rfl
              · rw [hu1]; rfl
              · rw [hu2]; rfl
            have HoneD := Lib.hid honeD
            have Hr1 := Lib.hid hr1
            have Hr2 := Lib.hid hr2
            have HdkA := Lib.hid hdkA
            have BwA := Lib.hid (Hbw.out.trans (hbA.mono Hbw.out.size))
            have BwAs : Hid (wr.heap.size ≤ wA.heap.size) := Lib.hid hbA.size
            clear hvm hr1 hr2 hu1 hu2 honeD hdkA hbA Hby Hdk
            go_upto_region 14 with (first
              | (refine wpList_alloc_z rfl 42 rfl info_rD5z zeroDc rfl ?_)
              | (refine wpList_store_newW rfl 42 (.tmp 15) (.tmp 89) rfl zeroDc [Value.int .i64 (k : Int), .bool false, .int .i64 (-1), u1, u2] rfl rfl info_rD5 rfl HoneD.out ?_
                 intro wB hbxB hbB hzB))
            try simp only [Act.put, List.setIfInBounds_toArray, List.set_cons_zero, List.set_cons_succ]
            obtain ⟨gD, hgD⟩ : ∃ gD, gD = wA.heap.size := ⟨_, rfl⟩
            rw [← hgD] at hbxB hzB ⊢
            have BxB := Lib.hid hbxB
            have HdkB := Lib.hid (HdkA.out.below_ hbB)
            have BAB := Lib.hid hbB
            have BWB := Lib.hid (BwA.out.trans (hbB.mono BwA.out.size))
            have hgDl := hbxB.lt
            have HgD := Lib.hid hgD
            clear hbxB hbB hgD HoneD HdkA
            cases off with
            | false =>
              obtain ⟨wC, hwC⟩ : ∃ wC, wC = wB := ⟨_, rfl⟩
              rw [← hwC] at BxB HdkB BAB BWB ⊢
              have BxC := BxB
              have HdkC := HdkB
              have Hr1C : Hid (ByR wC (fun q => wr.heap.size ≤ q ∧ q < wC.heap.size) u1 (madeR d (min 32 k))) := Lib.hid ((ByR.below Hr1.out BAB.out (fun q hq => hq.2)).more (fun q hq => ⟨hq.1, Nat.lt_of_lt_of_le hq.2 BAB.out.size⟩))
              have Hr2C : Hid (ByR wC (fun q => wr.heap.size ≤ q ∧ q < wC.heap.size) u2 []) := Lib.hid ((ByR.below Hr2.out BAB.out (fun q hq => hq.2)).more (fun q hq => ⟨hq.1, Nat.lt_of_lt_of_le hq.2 BAB.out.size⟩))
              have BA := Lib.hid (Below.refl wC.heap.size wC)
              have BW := BWB
              clear hwC
              obtain ⟨E, R, hread, href⟩ : ∃ (E : Int) (R : MMan), (Calls Try.prog 35 #[.pointer (some ⟨g, 0, none⟩)] wC fun e w' => ∃ v, e = .returned (.tuple #[v, .int .i64 E]) ∧ MIn w' wC.heap.size v R ∧ Below wC.heap.size wC w') ∧
                  (∀ W, Below wC.heap.size wC W → Calls Try.prog 37 #[.agg #[.int .i64 (k : Int), .bool false, .int .i64 (-1), u1, u2]] W fun e w' => ∃ v, e = .returned (.tuple #[v, .int .i64 E]) ∧ MIn w' W.heap.size v R ∧ Below W.heap.size W w') := by
                have hO : ∀ W, Below wC.heap.size wC W → ∀ q, (wr.heap.size ≤ q ∧ q < wC.heap.size) → q < W.heap.size := fun W hW q hq => Nat.lt_of_lt_of_le hq.2 hW.size
                have hmk : ∀ W, Below wC.heap.size wC W → RDV W (fun q => wr.heap.size ≤ q ∧ q < wC.heap.size) (.agg #[.int .i64 (k : Int), .bool false, .int .i64 (-1), u1, u2]) { modelR d (min 32 k) with off := false } := fun W hW =>
                  ⟨u1, u2, by rw [← Q2.out]; rfl, Hr1C.out.below hW (fun q hq => hq.2), Hr2C.out.below hW (fun q hq => hq.2), ⟨by show (-9223372036854775808 : Int) ≤ (d.bl.length : Int); omega, by show (d.bl.length : Int) ≤ 9223372036854775807; have := Q2.out; omega⟩, ⟨by show (-9223372036854775808 : Int) ≤ -1; decide, by show (-1 : Int) ≤ 9223372036854775807; decide⟩⟩
                by_cases h32c : k ≤ 32
                · exact ⟨1, emptyM, (mfread_few wC _ _ g _ HdkC.out (by show d.bl.length ≤ 32; have := Q2.out; omega)).mono (fun e w' ⟨v, h1, h2, h3, h4⟩ => ⟨v, h1, h2, h4⟩), fun W hW => rread09_few W _ _ _ (hmk W hW) (by show (d.bl.length : Int) ≤ 32; have := Q2.out; omega)⟩
                · have hm32 : min 32 k = 32 := by omega
                  have hslots : ∀ j, j < 2 → rslotL { modelR d (min 32 k) with off := false } j = slotL d j := fun j hj => by
                    rw [hm32]
                    exact modelR_slot d (by have := Q2.out; omega) Q1.out j hj
                  have hrst : rst (rslotL { modelR d (min 32 k) with off := false }) 2 = rst (slotL d) 2 := by
                    show rstep (rslotL _ 1) (rstep (rslotL _ 0) (rst _ 0)) = rstep (slotL d 1) (rstep (slotL d 0) (rst _ 0))
                    rw [hslots 0 (by decide), hslots 1 (by decide)]
                    rfl
                  refine ⟨rdE (rst (slotL d) 2), rdM (rst (slotL d) 2), (mfread_on wC _ _ g d HdkC.out (by have := Q4.out; omega) Q1.out (by have := Q2.out; omega) (by have := Q2.out; omega)).mono (fun e w' ⟨v, h1, h2, h3, h4⟩ => ⟨v, h1, h2, h4⟩), fun W hW => ?_⟩
                  have hx := rread09_on W _ _ _ (hO W hW) (by show (madeR d (min 32 k)).length ≤ 1000000; rw [madeR_len]; omega) (by show ([] : List RW).length ≤ 1000000; simp) (hmk W hW) (fun j => modelR_128 d (min 32 k) (by have := Q2.out; omega) j) rfl (by show 32 < (d.bl.length : Int); have := Q2.out; omega)
                  rw [hrst] at hx
                  exact hx
              have Hread := Lib.hid hread
              have Href := Lib.hid href
              clear hread href
              go_wp2_with fail
              refine Hread.out.mono ?_
              rintro _ wD ⟨vR, rfl, hmR, hbD⟩
              obtain ⟨vf, hvf, hff⟩ := id hmR
              obtain ⟨Af, cf, hvf2, -, -⟩ := hff.form
              subst hvf2
              subst hvf
              have MR := Lib.hid hmR
              have BxD2 := Lib.hid (BxC.out.blwM hbD)
              have BA2 := Lib.hid (BA.out.trans (hbD.mono BA.out.size))
              have BW2 := Lib.hid (BW.out.trans (hbD.mono BW.out.size))
              have HoneR : Hid (∀ u ∈ encM R (.slice Af R.files.length cf), u.oneCell' = true) := encM_one _ _ rfl
              clear hmR hff hbD
              go_upto_region 18 with (first
                | (refine wpList_alloc_z rfl 56 rfl info_manz zeroMc zeroM_cells ?_)
                | (refine wpList_store_newW rfl 56 (.tmp 16) (.tmp 97) rfl zeroMc (encM R (.slice Af R.files.length cf)) rfl rfl info_man3 rfl HoneR.out ?_
                   intro wE hbxE hbE hzE))
              try simp only [Act.put, List.setIfInBounds_toArray, List.set_cons_zero, List.set_cons_succ]
              have MR3 := Lib.hid (MR.out.step hbE)
              have BxD3 := Lib.hid (BxD2.out.blwM hbE)
              have BA3 := Lib.hid (BA2.out.trans (hbE.mono BA2.out.size))
              have BW3 := Lib.hid (BW2.out.trans (hbE.mono BW2.out.size))
              have BxE := Lib.hid hbxE
              clear hbxE hbE hzE
              go_wp2_with (refine wpList_load_agg rfl 42 (.tmp 15) rfl ⟨gD, 0, none⟩ rfl [Value.int .i64 (k : Int), .bool false, .int .i64 (-1), u1, u2] BxD3.out.cells Try.underlying42 rfl info_rD5 ?_)
              refine (Href.out wE BA3.out).mono ?_
              rintro _ wF ⟨vS, rfl, hmS, hbF⟩
              obtain ⟨vg, hvg, hgg⟩ := id hmS
              obtain ⟨Ag, cg, hvg2, -, -⟩ := hgg.form
              subst hvg2
              subst hvg
              have MR4 := Lib.hid (MR3.out.step hbF)
              have MS4 := Lib.hid hmS
              have BxE4 := Lib.hid (BxE.out.blwM hbF)
              have BW4 := Lib.hid (BW3.out.trans (hbF.mono BW3.out.size))
              have HoneS : Hid (∀ u ∈ encM R (.slice Ag R.files.length cg), u.oneCell' = true) := encM_one _ _ rfl
              clear hmS hgg hbF
              go_upto_region 19 with (first
                | (refine wpList_alloc_z rfl 56 rfl info_manz zeroMc zeroM_cells ?_)
                | (refine wpList_store_newW rfl 56 (.tmp 18) (.tmp 102) rfl zeroMc (encM R (.slice Ag R.files.length cg)) rfl rfl info_man3 rfl HoneS.out ?_
                   intro wG hbxG hbG hzG))
              try simp only [Act.put, List.setIfInBounds_toArray, List.set_cons_zero, List.set_cons_succ]
              have MR5 := Lib.hid (MR4.out.step hbG)
              have MS5 := Lib.hid (MS4.out.step hbG)
              have BxE5 := Lib.hid (BxE4.out.blwM hbG)
              have BxG := Lib.hid hbxG
              have BW5 := Lib.hid (BW4.out.trans (hbG.mono BW4.out.size))
              clear hbxG hbG hzG
              go_wp2_with (first
                | (refine wpList_load_agg rfl 56 (.tmp 16) rfl ⟨wD.heap.size, 0, none⟩ rfl (encM R (.slice Af R.files.length cf)) BxE5.out.cells Try.underlying56 rfl info_man3 ?_)
                | (refine wpList_load_agg rfl 56 (.tmp 18) rfl ⟨wF.heap.size, 0, none⟩ rfl (encM R (.slice Ag R.files.length cg)) BxG.out.cells Try.underlying56 rfl info_man3 ?_))
              refine (msame_any wG _ _ R R MR5.out.mat MS5.out.mat true (by simp)).mono ?_
              rintro _ wH ⟨rfl, hbH⟩
              have BW6 := Lib.hid (BW5.out.trans (hbH.mono BW5.out.size))
              clear hbH
              go_wp2_with (go_at_call 30; refine (HA.out _).mono ?_; rintro e wa ⟨rfl, hba⟩)
              go_ret
              exact ⟨rfl, bstep BW6.out hba⟩
            | true =>
              have hoff := doff_dk HdkB.out
              have hc1 := BxB.out.cell 1 _ rfl
              have Hoff := Lib.hid hoff
              clear hoff
              go_wp2_with fail
              refine Hoff.out.mono ?_
              rintro _ wb ⟨rfl, hdkb, hchb⟩
              have hbxb := BxB.out.chg hchb (fun h => h.2 (by have := HgD.out; have := BwAs.out; omega))
              have fr1 := hbxb.frozen 1
              have hcb1 := hbxb.cell 1 _ rfl
              have hr1b := (ByR.below Hr1.out BAB.out (fun q hq => hq.2)).chg hchb (fun q hq => ⟨Nat.lt_of_lt_of_le hq.2 BAB.out.size, fun h => h.2 hq.1⟩)
              have hr2b := (ByR.below Hr2.out BAB.out (fun q hq => hq.2)).chg hchb (fun q hq => ⟨Nat.lt_of_lt_of_le hq.2 BAB.out.size, fun h => h.2 hq.1⟩)
              have hbwb := BWB.out.trans (hchb.below_ BWB.out.size)
              have Hbxb := Lib.hid hbxb
              have Hdkb := Lib.hid hdkb
              have Hr1b := Lib.hid hr1b
              have Hr2b := Lib.hid hr2b
              have Hbwb := Lib.hid hbwb
              have hsb := hchb.size
              clear hbxb hdkb hr1b hr2b hbwb hchb hc1 BxB HdkB
              go_upto_region 17 with fail
              obtain ⟨wC, hwC⟩ : ∃ wC, wC = wb.setCell { block := gD, off := 1 } (.bool true) := ⟨_, rfl⟩
              rw [← hwC]
              have hchC : Chg (fun q => q = gD) wb wC := by rw [hwC]; exact Chg.set (P := fun q => q = gD) _ _ _ rfl
              have hszC : wC.heap.size = wb.heap.size := by rw [hwC]; simp [World.setCell]
              have BxC : Hid (BoxAt 42 wC gD [Value.int .i64 (k : Int), .bool true, .int .i64 (-1), u1, u2]) := by rw [hwC]; exact Hbxb.out.put 1 _
              have HdkC := Lib.hid (Hdkb.out.chg hchC (fun q hq => .inr (by have := HgD.out; have := BwAs.out; omega)))
              have Hr1C : Hid (ByR wC (fun q => wr.heap.size ≤ q ∧ q < wC.heap.size) u1 (madeR d (min 32 k))) := Lib.hid ((Hr1b.out.chg hchC (fun q hq => ⟨by have := BAB.out.size; omega, fun e => by have := HgD.out; omega⟩)).more (fun q hq => ⟨hq.1, by have := BAB.out.size; omega⟩))
              have Hr2C : Hid (ByR wC (fun q => wr.heap.size ≤ q ∧ q < wC.heap.size) u2 []) := Lib.hid ((Hr2b.out.chg hchC (fun q hq => ⟨by have := BAB.out.size; omega, fun e => by have := HgD.out; omega⟩)).more (fun q hq => ⟨hq.1, by have := BAB.out.size; omega⟩))
              have BA := Lib.hid (Below.refl wC.heap.size wC)
              have BW := Lib.hid (Hbwb.out.trans (hchC.below (B := w.heap.size) Hbwb.out.size (fun q hq => by have := HgD.out; have := BwA.out.size; omega)))
              clear hwC fr1 hcb1
              obtain ⟨E, R, hread, href⟩ : ∃ (E : Int) (R : MMan), (Calls Try.prog 35 #[.pointer (some ⟨g, 0, none⟩)] wC fun e w' => ∃ v, e = .returned (.tuple #[v, .int .i64 E]) ∧ MIn w' wC.heap.size v R ∧ Below wC.heap.size wC w') ∧
                  (∀ W, Below wC.heap.size wC W → Calls Try.prog 37 #[.agg #[.int .i64 (k : Int), .bool true, .int .i64 (-1), u1, u2]] W fun e w' => ∃ v, e = .returned (.tuple #[v, .int .i64 E]) ∧ MIn w' W.heap.size v R ∧ Below W.heap.size W w') := by
                have hO : ∀ W, Below wC.heap.size wC W → ∀ q, (wr.heap.size ≤ q ∧ q < wC.heap.size) → q < W.heap.size := fun W hW q hq => Nat.lt_of_lt_of_le hq.2 hW.size
                have hmk : ∀ W, Below wC.heap.size wC W → RDV W (fun q => wr.heap.size ≤ q ∧ q < wC.heap.size) (.agg #[.int .i64 (k : Int), .bool true, .int .i64 (-1), u1, u2]) { modelR d (min 32 k) with off := true } := fun W hW =>
                  ⟨u1, u2, by rw [← Q2.out]; rfl, Hr1C.out.below hW (fun q hq => hq.2), Hr2C.out.below hW (fun q hq => hq.2), ⟨by show (-9223372036854775808 : Int) ≤ (d.bl.length : Int); omega, by show (d.bl.length : Int) ≤ 9223372036854775807; have := Q2.out; omega⟩, ⟨by show (-9223372036854775808 : Int) ≤ -1; decide, by show (-1 : Int) ≤ 9223372036854775807; decide⟩⟩
                by_cases h32c : k ≤ 32
                · exact ⟨1, emptyM, (mfread_few wC _ _ g _ HdkC.out (by show d.bl.length ≤ 32; have := Q2.out; omega)).mono (fun e w' ⟨v, h1, h2, h3, h4⟩ => ⟨v, h1, h2, h4⟩), fun W hW => rread09_few W _ _ _ (hmk W hW) (by show (d.bl.length : Int) ≤ 32; have := Q2.out; omega)⟩
                · exact ⟨6, emptyM, (mfread_off wC _ _ g _ HdkC.out (by show d.wt.length ≤ 1000000; have := Q4.out; omega) rfl (by show 32 < d.bl.length; have := Q2.out; omega) (by show d.bl.length ≤ 65536; have := Q2.out; omega)).mono (fun e w' ⟨v, h1, h2, h3, h4⟩ => ⟨v, h1, h2, h4⟩), fun W hW => rread09_off W _ _ _ (hmk W hW) rfl (by show 32 < (d.bl.length : Int); have := Q2.out; omega)⟩
              have Hread := Lib.hid hread
              have Href := Lib.hid href
              clear hread href
              go_wp2_with fail
              refine Hread.out.mono ?_
              rintro _ wD ⟨vR, rfl, hmR, hbD⟩
              obtain ⟨vf, hvf, hff⟩ := id hmR
              obtain ⟨Af, cf, hvf2, -, -⟩ := hff.form
              subst hvf2
              subst hvf
              have MR := Lib.hid hmR
              have BxD2 := Lib.hid (BxC.out.blwM hbD)
              have BA2 := Lib.hid (BA.out.trans (hbD.mono BA.out.size))
              have BW2 := Lib.hid (BW.out.trans (hbD.mono BW.out.size))
              have HoneR : Hid (∀ u ∈ encM R (.slice Af R.files.length cf), u.oneCell' = true) := encM_one _ _ rfl
              clear hmR hff hbD
              go_upto_region 18 with (first
                | (refine wpList_alloc_z rfl 56 rfl info_manz zeroMc zeroM_cells ?_)
                | (refine wpList_store_newW rfl 56 (.tmp 16) (.tmp 97) rfl zeroMc (encM R (.slice Af R.files.length cf)) rfl rfl info_man3 rfl HoneR.out ?_
                   intro wE hbxE hbE hzE))
              try simp only [Act.put, List.setIfInBounds_toArray, List.set_cons_zero, List.set_cons_succ]
              have MR3 := Lib.hid (MR.out.step hbE)
              have BxD3 := Lib.hid (BxD2.out.blwM hbE)
              have BA3 := Lib.hid (BA2.out.trans (hbE.mono BA2.out.size))
              have BW3 := Lib.hid (BW2.out.trans (hbE.mono BW2.out.size))
              have BxE := Lib.hid hbxE
              clear hbxE hbE hzE
              go_wp2_with (refine wpList_load_agg rfl 42 (.tmp 15) rfl ⟨gD, 0, none⟩ rfl [Value.int .i64 (k : Int), .bool true, .int .i64 (-1), u1, u2] BxD3.out.cells Try.underlying42 rfl info_rD5 ?_)
              refine (Href.out wE BA3.out).mono ?_
              rintro _ wF ⟨vS, rfl, hmS, hbF⟩
              obtain ⟨vg, hvg, hgg⟩ := id hmS
              obtain ⟨Ag, cg, hvg2, -, -⟩ := hgg.form
              subst hvg2
              subst hvg
              have MR4 := Lib.hid (MR3.out.step hbF)
              have MS4 := Lib.hid hmS
              have BxE4 := Lib.hid (BxE.out.blwM hbF)
              have BW4 := Lib.hid (BW3.out.trans (hbF.mono BW3.out.size))
              have HoneS : Hid (∀ u ∈ encM R (.slice Ag R.files.length cg), u.oneCell' = true) := encM_one _ _ rfl
              clear hmS hgg hbF
              go_upto_region 19 with (first
                | (refine wpList_alloc_z rfl 56 rfl info_manz zeroMc zeroM_cells ?_)
                | (refine wpList_store_newW rfl 56 (.tmp 18) (.tmp 102) rfl zeroMc (encM R (.slice Ag R.files.length cg)) rfl rfl info_man3 rfl HoneS.out ?_
                   intro wG hbxG hbG hzG))
              try simp only [Act.put, List.setIfInBounds_toArray, List.set_cons_zero, List.set_cons_succ]
              have MR5 := Lib.hid (MR4.out.step hbG)
              have MS5 := Lib.hid (MS4.out.step hbG)
              have BxE5 := Lib.hid (BxE4.out.blwM hbG)
              have BxG := Lib.hid hbxG
              have BW5 := Lib.hid (BW4.out.trans (hbG.mono BW4.out.size))
              clear hbxG hbG hzG
              go_wp2_with (first
                | (refine wpList_load_agg rfl 56 (.tmp 16) rfl ⟨wD.heap.size, 0, none⟩ rfl (encM R (.slice Af R.files.length cf)) BxE5.out.cells Try.underlying56 rfl info_man3 ?_)
                | (refine wpList_load_agg rfl 56 (.tmp 18) rfl ⟨wF.heap.size, 0, none⟩ rfl (encM R (.slice Ag R.files.length cg)) BxG.out.cells Try.underlying56 rfl info_man3 ?_))
              refine (msame_any wG _ _ R R MR5.out.mat MS5.out.mat true (by simp)).mono ?_
              rintro _ wH ⟨rfl, hbH⟩
              have BW6 := Lib.hid (BW5.out.trans (hbH.mono BW5.out.size))
              clear hbH
              go_wp2_with (go_at_call 30; refine (HA.out _).mono ?_; rintro e wa ⟨rfl, hba⟩)
              go_ret
              exact ⟨rfl, bstep BW6.out hba⟩

set_option maxRecDepth 100000 in
theorem lifted (os : Os) (started : os.Started) (H : Type) (enc : TypeId × Value → H) :
    ReturnsInHanded {} Try.checked os 9 .any (Rows.manifestRawSpec.pre6 enc Try.prog Try.f9 Rows.manifestRawRow.domain false) (Rows.manifestRawSpec.post enc Try.prog Try.f9 false true false false) := by
  refine returnsInHanded_of_change (C := Try.checked) own started (by kernel_rfl) Try.func9
    (ChangeSpec.witness6 (enc := enc) (C := Try.checked) false ⟨#[], #[.int .i64 0, .slice none 0 0, .slice none 0 0, .bool false], []⟩ 8 (by kernel_rfl) (by kernel_rfl) (by kernel_rfl) (by kernel_rfl)) ?_
  intro W base args ds gs before hval0 hW hcnd _
  have hval : ∀ (j : Nat) t v, Try.f9.params[j]? = some t → args[j]? = some v → Value.okWide Try.prog W .any base t v := hval0
  have hW' := hW
  obtain ⟨p, q, hA0, hV, rfl, hfz, hnd⟩ := hW
  have hA : DataW.TrodAll enc Try.prog W 0 (fun _ => true) true Try.f9.params.toList args.toList ds p := hA0
  rw [Try.params9] at hA hval
  obtain ⟨v0, vs0, d0, ds0, p0, q0, hargs, rfl, rfl, h0, r0⟩ := trodAll_cons hA
  obtain ⟨v1, vs1, d1, ds1, p1, q1, rfl, rfl, rfl, h1, r1⟩ := trodAll_cons r0
  obtain ⟨v2, vs2, d2, ds2, p2, q2, rfl, rfl, rfl, h2, r2⟩ := trodAll_cons r1
  obtain ⟨v3, vs3, d3, ds3, p3, q3, rfl, rfl, rfl, h3, r3⟩ := trodAll_cons r2
  obtain ⟨rfl, rfl, rfl⟩ := trodAll_nil r3
  obtain rfl : args = #[v0, v1, v2, v3] := by cases args; simp_all
  obtain ⟨rfl, rfl⟩ := trodVars_none hV
  have k0 := h0
  have lt0 : ∀ x ∈ p0, x.block < W.heap.size := by obtain ⟨m, hm⟩ := k0; exact DataW.trod_lt m _ _ _ hm
  have i0 := InC.of h0
  obtain ⟨a0, rfl⟩ := okWide_int Try.underlying3 (hval 0 3 v0 rfl rfl)
  have j0 : InC W 3 [_] := i0
  have k1 := h1
  have lt1 : ∀ x ∈ p1, x.block < W.heap.size := by obtain ⟨m, hm⟩ := k1; exact DataW.trod_lt m _ _ _ hm
  have i1 := InC.of h1
  obtain ⟨a1, len1, cap1, rfl⟩ := okWide_slice Try.underlying30 (hval 1 30 v1 rfl rfl)
  have j1 : InC W 30 [_] := i1
  have k2 := h2
  have lt2 : ∀ x ∈ p2, x.block < W.heap.size := by obtain ⟨m, hm⟩ := k2; exact DataW.trod_lt m _ _ _ hm
  have i2 := InC.of h2
  obtain ⟨a2, len2, cap2, rfl⟩ := okWide_slice Try.underlying30 (hval 2 30 v2 rfl rfl)
  have j2 : InC W 30 [_] := i2
  have k3 := h3
  have lt3 : ∀ x ∈ p3, x.block < W.heap.size := by obtain ⟨m, hm⟩ := k3; exact DataW.trod_lt m _ _ _ hm
  have i3 := InC.of h3
  obtain ⟨a3, rfl⟩ := okWide_bool Try.underlying4 (hval 3 4 v3 rfl rfl)
  have j3 : InC W 4 [_] := i3
  clear hA0 hval0
  refine (walk _ _ _ _ W j0 j1 j2 j3).mono fun e W' ⟨he, bel⟩ => ?_
  subst he
  exact ⟨_, rfl, _, _, _, [], _, [], hW', trodAll_mk1 (shut_bool Try.underlying4 _), (trodAll_cons_mk (Below.trod laidOut (by kernel_rfl) (of_decide_eq_true (by kernel_rfl)) k0 bel lt0) (trodAll_cons_mk (Below.trod laidOut (by kernel_rfl) (of_decide_eq_true (by kernel_rfl)) k1 bel lt1) (trodAll_cons_mk (Below.trod laidOut (by kernel_rfl) (of_decide_eq_true (by kernel_rfl)) k2 bel lt2) (trodAll_cons_mk (Below.trod laidOut (by kernel_rfl) (of_decide_eq_true (by kernel_rfl)) k3 bel lt3) trodAll_mk0)))), rfl, bel.frame _, fun h => by cases h⟩

theorem over : Rows.manifestRawRow.holds Try.pinned (OpenSpec.ofChange Rows.manifestRawSpec) :=
  OpenClaim.holds_of_wide 9 Try.f9 rfl rfl rfl rfl rfl rfl rfl ⟨rfl, rfl, rfl, rfl, rfl⟩ rfl rfl rfl rfl rfl (by kernel_rfl) Try.func9 (by kernel_rfl)
    (of_decide_eq_true (by kernel_rfl)) (by unfold Func.isWrapper; first | (rw [if_pos (by decide +kernel)]; kernel_rfl) | (rw [if_neg (by decide +kernel)]; exact ⟨rfl, rfl⟩))
    (fun os started H enc _ => lifted os started H enc)

theorem proved : Rows.ManifestRawSaid := over
#print axioms proved
end Go.Proofs.Ytpoicbhbkabllaa.manifestRaw
