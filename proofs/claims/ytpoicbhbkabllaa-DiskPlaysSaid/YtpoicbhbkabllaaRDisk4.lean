/- The document's disks: put (printed by wip/gen/rdisk4.py) -/
import Derived.Test.YtpoicbhbkabllaaRDisk3
import Derived.Test.YtpoicbhbkabllaaMix
namespace Go.Proofs.Ytpoicbhbkabllaa
set_option linter.unusedSimpArgs false
set_option linter.unusedVariables false
open Go.RowKit

def filtR (l : List RW) (i : Int) : List RW := l.filter (fun y => decide (y.1 ≠ i))
theorem filtR_snoc (l : List RW) (x : RW) (i : Int) : filtR (l ++ [x]) i = if x.1 = i then filtR l i else filtR l i ++ [x] := by
  unfold filtR
  rw [List.filter_append, List.filter_cons]
  by_cases h : x.1 = i
  · rw [if_pos h, if_neg (by simp [h])]; simp
  · rw [if_neg h, if_pos (by simp [h])]; simp
theorem filtR_le (l : List RW) (i : Int) : (filtR l i).length ≤ l.length := List.length_filter_le _ _
theorem info_rw : (Try.prog.info? 124).map (fun i => (i.zero, i.size, i.bytes)) = some (some (.agg #[.int .i64 0, .string ⟨#[]⟩]), 2, 24) := by kernel_rfl
theorem BoxAt.drewb {T : TypeId} {w : World} {g : Nat} {cs : List Value} (h : BoxAt T w g cs) : BoxAt T w.drew g cs := h
def zeroDc : List Value := [.int .i64 0, .bool false, .int .i64 0, .slice none 0 0, .slice none 0 0]

set_option maxRecDepth 100000 in
set_option maxHeartbeats 3200000 in
theorem rput (w : World) (O : Nat → Prop) (v : Value) (m : RD) (i : Int) (b : List UInt8) (hO : ∀ k, O k → k < w.heap.size) (hm : m.made.length ≤ 1000000) (hb : b.length = 128) (h : RDV w O v m) :
    Calls Try.prog 72 #[v, .agg #[.int .i64 i, .string (bst b)]] w fun e w' => ∃ v', e = .returned v' ∧ RDV w' (Onew O w w') v' (putRD m (i, b)) ∧ Below w.heap.size w w' := by
  obtain ⟨v1, v2, rfl, h1, h2, h3, h4⟩ := h
  obtain ⟨cn, of, fu, md, wt⟩ := m
  simp only at h1 h2 h3 h4 hm
  obtain ⟨A1, c1, rfl, hc1, hc2⟩ := h1.form
  obtain ⟨A2, c2, rfl, _⟩ := h2.form
  unfold maxLen at hc2
  have H1 := Lib.hid h1
  have H2 := Lib.hid h2
  have H3 := Lib.hid h3
  have H4 := Lib.hid h4
  have HB := Lib.hid hb
  have HO := Lib.hid hO
  clear h1 h2 h3 h4 hb hO
  -- the boxes
  obtain ⟨wa, hwa⟩ : ∃ wa, wa = w.alloc (.cells #[.int .i64 cn, .bool of, .int .i64 fu, .slice A1 md.length c1, .slice A2 wt.length c2] 42) := ⟨_, rfl⟩
  obtain ⟨wb, hwb⟩ : ∃ wb, wb = wa.alloc (.cells #[.int .i64 i, .string (bst b)] 124) := ⟨_, rfl⟩
  obtain ⟨wc, hwc⟩ : ∃ wc, wc = wb.alloc (.cells #[.int .i64 0, .bool false, .int .i64 0, .slice none 0 0, .slice none 0 0] 42) := ⟨_, rfl⟩
  obtain ⟨wd, hwd⟩ : ∃ wd, wd = wc.alloc (.cells #[] 124) := ⟨_, rfl⟩
  have za : wa.heap.size = w.heap.size + 1 := by rw [hwa]; simp
  have zb : wb.heap.size = w.heap.size + 1 + 1 := by rw [hwb]; simp [za]
  have zc : wc.heap.size = w.heap.size + 1 + 1 + 1 := by rw [hwc]; simp [zb]
  have zd : wd.heap.size = w.heap.size + 1 + 1 + 1 + 1 := by rw [hwd]; simp [zc]
  have ba := balloc w (.cells #[.int .i64 cn, .bool of, .int .i64 fu, .slice A1 md.length c1, .slice A2 wt.length c2] 42)
  have bb := balloc wa (.cells #[.int .i64 i, .string (bst b)] 124)
  have bc := balloc wb (.cells #[.int .i64 0, .bool false, .int .i64 0, .slice none 0 0, .slice none 0 0] 42)
  have bd := balloc wc (.cells #[] 124)
  have xa := BoxAt.new_ 42 w (encD ⟨cn, of, fu, md, wt⟩ (.slice A1 md.length c1) (.slice A2 wt.length c2))
  have xb := BoxAt.new_ 124 wa [.int .i64 i, .string (bst b)]
  have xc := BoxAt.new_ 42 wb zeroDc
  have xd := OwnR.new_ (E := 124) (C := cRW) (S := fun _ => False) (xs := []) wc [] rfl (Nat.zero_le _) (fun i cs x hc => by simp at hc) (fun k hk => hk.elim)
  rw [za] at xb
  rw [zb] at xc
  rw [zc] at xd
  have xa4 : BoxAt 42 wd w.heap.size (encD ⟨cn, of, fu, md, wt⟩ (.slice A1 md.length c1) (.slice A2 wt.length c2)) := by
    rw [hwd, hwc, hwb, hwa]; exact ((xa.alloc _).alloc _).alloc _
  have xb4 : BoxAt 124 wd (w.heap.size + 1) [.int .i64 i, .string (bst b)] := by
    rw [hwd, hwc, hwb]; exact (xb.alloc _).alloc _
  have xc4 : BoxAt 42 wd (w.heap.size + 1 + 1) zeroDc := by
    rw [hwd, hwc]; exact xc.alloc _
  have xd4 : OwnF 124 cRW wd (w.heap.size + 1 + 1 + 1) (.slice (some ⟨w.heap.size + 1 + 1 + 1, 0, none⟩) 0 0) [] := by
    rw [hwd]; exact xd
  rw [← hwa] at ba
  rw [← hwb] at bb
  rw [← hwc] at bc
  rw [← hwd] at bd
  have b4 : Below w.heap.size w wd := ((ba.trans (bb.mono (by omega))).trans (bc.mono (by omega))).trans (bd.mono (by omega))
  have Xa := Lib.hid xa4
  have Xb := Lib.hid xb4
  have Xc := Lib.hid xc4
  have Xd := Lib.hid xd4
  have B4 := Lib.hid b4
  have R1 := Lib.hid (H1.out.below b4 HO.out)
  have R2 := Lib.hid (H2.out.below b4 HO.out)
  have Hwa := Lib.hid hwa
  have Hwb := Lib.hid hwb
  have Hwc := Lib.hid hwc
  have Hwd := Lib.hid hwd
  have Za := Lib.hid za
  have Zb := Lib.hid zb
  have Zc := Lib.hid zc
  have Zd := Lib.hid zd
  clear xa xb xc xd xa4 xb4 xc4 xd4 b4 ba bb bc bd hwa hwb hwc hwd za zb zc zd H1 H2
  go_enter Try.func72, Try.ntmps72
  go_wp2_with fail
  rw [← Hwa.out, ← Hwb.out, ← Hwc.out, ← Hwd.out]
  generalize hg : w.heap.size = g at *
  have Hg := Lib.hid hg
  clear hg
  go_loopw [5, 6, 11] (fun ov xv iv wr => ∃ k : Nat, k ≤ md.length ∧ iv = .int .i64 k ∧ OwnF 124 cRW wr (g + 1 + 1 + 1) ov (filtR (md.take k) i) ∧ Below (g + 1 + 1 + 1) wd wr ∧ BoxAt 42 wr g (encD ⟨cn, of, fu, md, wt⟩ (.slice A1 md.length c1) (.slice A2 wt.length c2)) ∧ BoxAt 124 wr (g + 1) [.int .i64 i, .string (bst b)] ∧ BoxAt 42 wr (g + 1 + 1) zeroDc) (fun _ _ i _ => md.length - (intOf i).toNat)
  case atStart => exact ⟨0, by omega, rfl, Xd.out, Below.refl _ _, Xa.out, Xb.out, Xc.out⟩
  case round =>
    obtain ⟨k, hk, rfl, yo, yl, ya, yb, yc⟩ := hrel
    have hwz : g + 1 + 1 + 1 ≤ wr.heap.size := by have := yl.size; have := Zd.out; omega
    obtain ⟨A5, c5, rfl, q1, q2, _⟩ := yo.form'
    unfold maxLen at q2
    have Yo := Lib.hid yo
    have Yl := Lib.hid yl
    have Ya := Lib.hid ya
    have Yb := Lib.hid yb
    have Yc := Lib.hid yc
    have hr1 := R1.out.below (yl.mono (show g ≤ g + 1 + 1 + 1 by omega)) HO.out
    have hc3' := ya.cell 3 _ rfl
    clear yo yl ya yb yc
    by_cases hlt : k < md.length
    · obtain ⟨_, ad, rfl, hab, k1, k2⟩ := hr1.cells k hlt
      have hok := hr1.ok
      have htk : md.take (k + 1) = md.take k ++ [md[k]] := by rw [List.take_add_one, List.getElem?_eq_getElem hlt]; rfl
      have hfl := filtR_le (md.take k) i
      clear hr1
      have hsn := filtR_snoc (md.take k) (md[k]) i
      rw [← htk] at hsn
      generalize hx : md[k] = x at *
      obtain ⟨x1, x2⟩ := x
      simp only at k1 k2 hsn
      have hxl : x2.length = 128 := by have := hok (x1, x2) (by rw [← hx]; exact List.getElem_mem hlt); exact this
      have Hx := Lib.hid hx
      clear hx htk hok
      by_cases he : x1 = i
      · rw [if_pos he] at hsn
        have hne : (x1 != i) = false := by simp [he]
        have Hsn := Lib.hid hsn
        clear he hsn
        go_wp2_with fail
        refine wp_region_mixL (ds := [14, 15, 16, 17, 18, 19, 20, 21, 22]) 9 (fun _ _ W' => W' = wr.drew) [some 14, some 15, some 16, some 17, some 18, some 19, some 20, some 21, some 22]
          [fun v => v = .pointer (some ⟨g, 3, none⟩), fun v => v = .slice (some ad) md.length c1, fun v => v = .int .i64 (k : Int), fun v => v = .pointer (some (ad.add (k * 2))), fun v => v = .pointer (some (ad.add (k * 2))), fun v => v = .int .i64 x1, fun v => v = .pointer (some ⟨g + 1, 0, none⟩), fun v => v = .int .i64 i, fun v => v = .bool false]
          rfl rfl rfl (by kernel_rfl) (by kernel_rfl) ?_ (fun _ => rfl) ?_
        · refine ⟨?_, ?_, ?_, ?_, ?_, ?_, ?_, ?_, ?_, trivial⟩
          · -- 0: slot 14 := Op.fieldAddr 42 t2 3
            refine obM_yes fun f bb w' hj hs hd hp => ?_
            simp [PreO, factO, valOf, Region.binds] at hp
            have hj' : w' = wr.drew := hj
            subst hj'
            refine ⟨by simp [Gd, valOf, hp], ?_⟩
            refine mildM_val (.pointer (some ⟨g, 3, none⟩)) ?_ rfl rfl
            simp [execOp, evalF, hp, go_sem]
          · -- 1: slot 15 := Op.load 40 t14
            refine obM_yes fun f bb w' hj hs hd hp => ?_
            simp [PreO, factO, valOf, Region.binds] at hp
            have hj' : w' = wr.drew := hj
            subst hj'
            refine ⟨by simp [Gd, valOf, hp], ?_⟩
            have hc := Ya.out.cell 3 _ rfl
            refine mildM_val (.slice (some ad) md.length c1) ?_ rfl rfl
            simp [execOp, evalF, hp, go_sem, hc]
          · -- 2: slot 16 := Op.move t6
            refine obM_yes fun f bb w' hj hs hd hp => ?_
            simp [PreO, factO, valOf, Region.binds] at hp
            have hj' : w' = wr.drew := hj
            subst hj'
            refine ⟨by simp [Gd, valOf, hp], ?_⟩
            refine mildM_val (.int .i64 (k : Int)) ?_ rfl rfl
            simp [execOp, evalF, hp, go_sem]
          · -- 3: slot 17 := Op.indexAddr 40 t15 t16
            refine obM_yes fun f bb w' hj hs hd hp => ?_
            simp [PreO, factO, valOf, Region.binds] at hp
            have hj' : w' = wr.drew := hj
            subst hj'
            refine ⟨by simp [Gd, valOf, hp], ?_⟩
            have hkk := hlt
            refine mildM_val (.pointer (some (ad.add (k * 2)))) ?_ rfl rfl
            simp [execOp, evalF, hp, go_sem, hkk]
          · -- 4: slot 18 := Op.fieldAddr 124 t17 0
            refine obM_yes fun f bb w' hj hs hd hp => ?_
            simp [PreO, factO, valOf, Region.binds] at hp
            have hj' : w' = wr.drew := hj
            subst hj'
            refine ⟨by simp [Gd, valOf, hp], ?_⟩
            refine mildM_val (.pointer (some (ad.add (k * 2)))) ?_ rfl rfl
            simp [execOp, evalF, hp, go_sem]
          · -- 5: slot 19 := Op.load 3 t18
            refine obM_yes fun f bb w' hj hs hd hp => ?_
            simp [PreO, factO, valOf, Region.binds] at hp
            have hj' : w' = wr.drew := hj
            subst hj'
            refine ⟨by simp [Gd, valOf, hp], ?_⟩
            have hc := k1
            refine mildM_val (.int .i64 x1) ?_ rfl rfl
            simp [execOp, evalF, hp, go_sem, hc]
          · -- 6: slot 20 := Op.fieldAddr 124 t3 0
            refine obM_yes fun f bb w' hj hs hd hp => ?_
            simp [PreO, factO, valOf, Region.binds] at hp
            have hj' : w' = wr.drew := hj
            subst hj'
            refine ⟨by simp [Gd, valOf, hp], ?_⟩
            refine mildM_val (.pointer (some ⟨g + 1, 0, none⟩)) ?_ rfl rfl
            simp [execOp, evalF, hp, go_sem]
          · -- 7: slot 21 := Op.load 3 t20
            refine obM_yes fun f bb w' hj hs hd hp => ?_
            simp [PreO, factO, valOf, Region.binds] at hp
            have hj' : w' = wr.drew := hj
            subst hj'
            refine ⟨by simp [Gd, valOf, hp], ?_⟩
            have hc := Yb.out.cell 0 _ rfl
            refine mildM_val (.int .i64 i) ?_ rfl rfl
            simp [execOp, evalF, hp, go_sem, hc]
          · -- 8: slot 22 := Op.binOp BinOp.neq 3 t19 t21 3
            refine obM_yes fun f bb w' hj hs hd hp => ?_
            simp [PreO, factO, valOf, Region.binds] at hp
            have hj' : w' = wr.drew := hj
            subst hj'
            refine ⟨by simp [Gd, valOf, hp], ?_⟩
            refine mildM_val (.bool false) ?_ rfl rfl
            simp [execOp, evalF, hp, go_sem, hne]
        · intro f bb wd hall hj hp
          have hj' : wd = wr.drew := hj
          subst hj'
          clear hall hj
          simp only [PostO] at hp
          obtain ⟨e0, e1, e2, e3, e4, e5, e6, e7, e8, _⟩ := hp
          simp only [fills, List.foldl_cons, List.foldl_nil, Act.put, List.setIfInBounds_toArray, List.set_cons_zero, List.set_cons_succ, e0, e1, e2, e3, e4, e5, e6, e7, e8]
          clear e0 e1 e2 e3 e4 e5 e6 e7 e8
          simp only [List.drop_succ_cons, List.drop_zero]
          go_wp2_with fail
          go_roundw
          case rel => exact ⟨k + 1, by omega, by go_num, by rw [Hsn.out]; exact Yo.out, Yl.out.drew, Ya.out, Yb.out, Yc.out⟩
          case measure => simp [intOf]; omega
      · rw [if_neg he] at hsn
        have hne : (x1 != i) = true := by simp [he]
        have Hsn := Lib.hid hsn
        have Hk2 := Lib.hid k2
        clear he hsn
        go_wp2_with fail
        refine wp_region_mixL (ds := [14, 15, 16, 17, 18, 19, 20, 21, 22]) 9 (fun _ _ W' => W' = wr.drew) [some 14, some 15, some 16, some 17, some 18, some 19, some 20, some 21, some 22]
          [fun v => v = .pointer (some ⟨g, 3, none⟩), fun v => v = .slice (some ad) md.length c1, fun v => v = .int .i64 (k : Int), fun v => v = .pointer (some (ad.add (k * 2))), fun v => v = .pointer (some (ad.add (k * 2))), fun v => v = .int .i64 x1, fun v => v = .pointer (some ⟨g + 1, 0, none⟩), fun v => v = .int .i64 i, fun v => v = .bool true]
          rfl rfl rfl (by kernel_rfl) (by kernel_rfl) ?_ (fun _ => rfl) ?_
        · refine ⟨?_, ?_, ?_, ?_, ?_, ?_, ?_, ?_, ?_, trivial⟩
          · -- 0: slot 14 := Op.fieldAddr 42 t2 3
            refine obM_yes fun f bb w' hj hs hd hp => ?_
            simp [PreO, factO, valOf, Region.binds] at hp
            have hj' : w' = wr.drew := hj
            subst hj'
            refine ⟨by simp [Gd, valOf, hp], ?_⟩
            refine mildM_val (.pointer (some ⟨g, 3, none⟩)) ?_ rfl rfl
            simp [execOp, evalF, hp, go_sem]
          · -- 1: slot 15 := Op.load 40 t14
            refine obM_yes fun f bb w' hj hs hd hp => ?_
            simp [PreO, factO, valOf, Region.binds] at hp
            have hj' : w' = wr.drew := hj
            subst hj'
            refine ⟨by simp [Gd, valOf, hp], ?_⟩
            have hc := Ya.out.cell 3 _ rfl
            refine mildM_val (.slice (some ad) md.length c1) ?_ rfl rfl
            simp [execOp, evalF, hp, go_sem, hc]
          · -- 2: slot 16 := Op.move t6
            refine obM_yes fun f bb w' hj hs hd hp => ?_
            simp [PreO, factO, valOf, Region.binds] at hp
            have hj' : w' = wr.drew := hj
            subst hj'
            refine ⟨by simp [Gd, valOf, hp], ?_⟩
            refine mildM_val (.int .i64 (k : Int)) ?_ rfl rfl
            simp [execOp, evalF, hp, go_sem]
          · -- 3: slot 17 := Op.indexAddr 40 t15 t16
            refine obM_yes fun f bb w' hj hs hd hp => ?_
            simp [PreO, factO, valOf, Region.binds] at hp
            have hj' : w' = wr.drew := hj
            subst hj'
            refine ⟨by simp [Gd, valOf, hp], ?_⟩
            have hkk := hlt
            refine mildM_val (.pointer (some (ad.add (k * 2)))) ?_ rfl rfl
            simp [execOp, evalF, hp, go_sem, hkk]
          · -- 4: slot 18 := Op.fieldAddr 124 t17 0
            refine obM_yes fun f bb w' hj hs hd hp => ?_
            simp [PreO, factO, valOf, Region.binds] at hp
            have hj' : w' = wr.drew := hj
            subst hj'
            refine ⟨by simp [Gd, valOf, hp], ?_⟩
            refine mildM_val (.pointer (some (ad.add (k * 2)))) ?_ rfl rfl
            simp [execOp, evalF, hp, go_sem]
          · -- 5: slot 19 := Op.load 3 t18
            refine obM_yes fun f bb w' hj hs hd hp => ?_
            simp [PreO, factO, valOf, Region.binds] at hp
            have hj' : w' = wr.drew := hj
            subst hj'
            refine ⟨by simp [Gd, valOf, hp], ?_⟩
            have hc := k1
            refine mildM_val (.int .i64 x1) ?_ rfl rfl
            simp [execOp, evalF, hp, go_sem, hc]
          · -- 6: slot 20 := Op.fieldAddr 124 t3 0
            refine obM_yes fun f bb w' hj hs hd hp => ?_
            simp [PreO, factO, valOf, Region.binds] at hp
            have hj' : w' = wr.drew := hj
            subst hj'
            refine ⟨by simp [Gd, valOf, hp], ?_⟩
            refine mildM_val (.pointer (some ⟨g + 1, 0, none⟩)) ?_ rfl rfl
            simp [execOp, evalF, hp, go_sem]
          · -- 7: slot 21 := Op.load 3 t20
            refine obM_yes fun f bb w' hj hs hd hp => ?_
            simp [PreO, factO, valOf, Region.binds] at hp
            have hj' : w' = wr.drew := hj
            subst hj'
            refine ⟨by simp [Gd, valOf, hp], ?_⟩
            have hc := Yb.out.cell 0 _ rfl
            refine mildM_val (.int .i64 i) ?_ rfl rfl
            simp [execOp, evalF, hp, go_sem, hc]
          · -- 8: slot 22 := Op.binOp BinOp.neq 3 t19 t21 3
            refine obM_yes fun f bb w' hj hs hd hp => ?_
            simp [PreO, factO, valOf, Region.binds] at hp
            have hj' : w' = wr.drew := hj
            subst hj'
            refine ⟨by simp [Gd, valOf, hp], ?_⟩
            refine mildM_val (.bool true) ?_ rfl rfl
            simp [execOp, evalF, hp, go_sem, hne]
        · intro f bb wd hall hj hp
          have hj' : wd = wr.drew := hj
          subst hj'
          clear hall hj
          simp only [PostO] at hp
          obtain ⟨e0, e1, e2, e3, e4, e5, e6, e7, e8, _⟩ := hp
          simp only [fills, List.foldl_cons, List.foldl_nil, Act.put, List.setIfInBounds_toArray, List.set_cons_zero, List.set_cons_succ, e0, e1, e2, e3, e4, e5, e6, e7, e8]
          clear e0 e1 e2 e3 e4 e5 e6 e7 e8
          simp only [List.drop_succ_cons, List.drop_zero]
          have hc3 := (Ya.out.drewb).cell 3 _ rfl
          go_wp2_with (at_builtin; refine wpList_app1R (C := cRW) rfl (.tmp 23) (.tmp 29) 40 rfl Try.underlying40 info_rw rfl (by decide) (by decide) [.int .i64 x1, .string (bst x2)] (y := (x1, x2)) (Yo.out.below_ (Below.refl _ wr).drew) ⟨rfl, hxl⟩ rfl rfl (by have := filtR_le (md.take k) i; simp at this; omega) hwz ?_; intro v7 w7 o7 e7)
          have o8 := o7
          rw [← Hsn.out] at o8
          have hne1 : ∀ q, q < g + 1 + 1 + 1 → (Value.slice A5 (filtR (List.take k md) i).length c5).ownBlock ≠ some q := fun q hq e => by have := (Yo.out.blk q e).1; omega
          have b8 := Yl.out.drew.trans (e7.below (by show g + 1 + 1 + 1 ≤ wr.heap.size; omega) (fun q hq => (Yo.out.blk q hq).1))
          have y1 := (Ya.out.drewb).grown e7.gr (hne1 _ (by omega))
          have y2 := (Yb.out.drewb).grown e7.gr (hne1 _ (by omega))
          have y3 := (Yc.out.drewb).grown e7.gr (hne1 _ (by omega))
          go_roundw
          case rel => exact ⟨k + 1, by omega, by go_num, o8, b8, y1, y2, y3⟩
          case measure => simp [intOf]; omega
    · obtain rfl : k = md.length := by omega
      rw [List.take_length] at *
      have hok : ∀ x ∈ filtR md i, True := fun _ _ => trivial
      have hfl : (filtR md i).length ≤ 1000000 := by have := filtR_le md i; omega
      have hc0 := Yb.out.cell 0 _ rfl
      have hc1' := Yb.out.cell 1 _ rfl
      clear hr1 hok
      go_wp2_with (first
        | (at_builtin
           refine wpList_app1R (C := cRW) rfl (.tmp 32) (.tmp 34) 40 rfl Try.underlying40 info_rw rfl (by decide) (by decide) [.int .i64 i, .string (bst b)] (y := (i, b)) Yo.out ⟨rfl, HB.out⟩ rfl rfl (by omega) hwz ?_
           intro v7 w7 o7 e7
           have hne1 : ∀ q, q < g + 1 + 1 + 1 → (Value.slice A5 (filtR md i).length c5).ownBlock ≠ some q := fun q hq e => by have := (Yo.out.blk q e).1; omega
           have y1 := Ya.out.grown e7.gr (hne1 _ (by omega))
           have y3 := Yc.out.grown e7.gr (hne1 _ (by omega))
           have Y3 := Lib.hid y3
           have b8 := Lib.hid (Yl.out.trans (e7.below hwz (fun q hq => (Yo.out.blk q hq).1)))
           have hz7 := e7.gr.size
           obtain ⟨A7, c7, rfl, p1, p2, _⟩ := o7.form'
           rw [List.length_append, List.length_singleton] at o7 p1
           have O7 := Lib.hid o7
           have hload := (y1.put 3 (.slice A7 ((filtR md i).length + 1) c7)).cells
           have Hload := Lib.hid hload
           have hst := y3.other ⟨g, 3, none⟩ (.slice A7 ((filtR md i).length + 1) c7) (by show g ≠ g + 1 + 1; omega)
           have Hst := Lib.hid hst
           have f3 := y1.frozen 3
           have c3 := y1.cell 3 _ rfl
           clear hne1 y1 y3 e7 o7 hc0 hc1' hc3' hload hst)
        | (refine wpList_load_agg rfl 42 (.tmp 2) rfl ⟨g, 0, none⟩ rfl (encD ⟨cn, of, fu, filtR md i ++ [(i, b)], wt⟩ (.slice A7 ((filtR md i).length + 1) c7) (.slice A2 wt.length c2)) Hload.out Try.underlying42 rfl (by kernel_rfl) ?_)
        | (refine wpList_store_box rfl 42 42 (.tmp 4) (.tmp 37) rfl (g + 1 + 1) zeroDc (encD ⟨cn, of, fu, filtR md i ++ [(i, b)], wt⟩ (.slice A7 ((filtR md i).length + 1) c7) (.slice A2 wt.length c2)) rfl rfl Hst.out rfl (by simp [Value.oneCell']) (by kernel_rfl) ?_; intro hend))
      have hg0 := Hg.out
      generalize hWx : (w7.setCell ⟨g, 3, none⟩ (.slice A7 ((filtR md i).length + 1) c7)) = Wx at *
      have gx : w7.grownBy Wx (some g) := by rw [← hWx]; exact gset w7 ⟨g, 3, none⟩ _
      generalize hWy : Wx.setRow (g + 1 + 1) (encD ⟨cn, of, fu, filtR md i ++ [(i, b)], wt⟩ (.slice A7 ((filtR md i).length + 1) c7) (.slice A2 wt.length c2)).toArray = Wy at *
      have gy : Wx.grownBy Wy (some (g + 1 + 1)) := by rw [← hWy]; exact gsetRow' Wx (g + 1 + 1) _
      have gz : Below g wd Wy := ((b8.out.mono (by omega)).grown gx (by omega) (fun k e => by injection e with e; omega)).grown gy (by have := gx.size; omega) (fun k e => by injection e with e; omega)
      have hob : ∀ q, (Value.slice A7 ((filtR md i).length + 1) c7).ownBlock = some q → g + 1 + 1 + 1 ≤ q := fun q hq => (O7.out.blk q hq).1
      have k1 := (O7.out.keep gx (by
        cases hv : (Value.slice A7 ((filtR md i).length + 1) c7).ownBlock with
        | none => exact .inl rfl
        | some q => exact .inr (fun e => by have := hob q hv; injection e with e; omega)) (fun k hk => hk.elim)).keep gy (by
        cases hv : (Value.slice A7 ((filtR md i).length + 1) c7).ownBlock with
        | none => exact .inl rfl
        | some q => exact .inr (fun e => by have := hob q hv; injection e with e; omega)) (fun k hk => hk.elim)
      have hOg : ∀ k, O k → k < g := HO.out
      have k2 : ByR Wy (Onew O w Wy) (.slice A7 ((filtR md i).length + 1) c7) (filtR md i ++ [(i, b)]) := k1.row.mono (fun q hq => .inr ⟨by rw [hg0]; omega, hq.2⟩) (fun _ h => h.elim)
      have k3 := (R2.out.below gz hOg).more (O' := Onew O w Wy) (fun k hk => .inl hk)
      refine bodyPost_ret (results_c rfl _ _ (g + 1 + 1) (encD ⟨cn, of, fu, filtR md i ++ [(i, b)], wt⟩ (.slice A7 ((filtR md i).length + 1) c7) (.slice A2 wt.length c2)) rfl (fun j v hj => (hend.cells j v hj : _)) Try.underlying42 rfl (by kernel_rfl)) rfl ?_
      refine ⟨_, rfl, RDV.mk' (m := ⟨cn, of, fu, filtR md i ++ [(i, b)], wt⟩) k2 k3 H3.out H4.out, ?_⟩
      rw [hg0]
      exact B4.out.trans gz
end Go.Proofs.Ytpoicbhbkabllaa
