/- alias.Put -/
import Derived.Test.YteakeefocnjlhaaOneList
import Derived.Test.YteakeefocnjlhaaCellPut
import Derived.Test.YteakeefocnjlhaaCellGet
namespace Go.Proofs.Yteakeefocnjlhaa
set_option linter.unusedSimpArgs false
set_option linter.unusedVariables false
open Go.RowKit

set_option maxRecDepth 100000 in
set_option maxHeartbeats 3200000 in
theorem aput_any (w : World) (base B : Nat) (v0 : Value) (l0 : List UInt8) (hown : Ow w base v0 l0) (v : Value) (l : List GCell) (hl : l.length ≤ 1073741824) (hl0 : l0.length ≤ 1073741824) (h : ByC w B v l) (hB : B ≤ base) (hbase : base ≤ w.heap.size) :
    Calls Try.prog 65 #[v0, v] w fun e w' => ∃ v', e = .returned v' ∧ Ow w' base v' (l0 ++ cput l) ∧ Ext w w' v0 v' := by
  obtain ⟨A, c, rfl, hc1, hc2⟩ := h.form
  unfold maxLen at hc2
  go_enter Try.func65, Try.ntmps65
  go_wp2_with fail
  go_loopw [0, 9] (fun b i wr => ∃ k : Nat, k ≤ l.length ∧ i = .int .i64 k ∧ Ow wr base b (l0 ++ cput (l.take k)) ∧ Ext w wr v0 b ∧ ByC wr B (.slice A l.length c) l) (fun _ i _ => l.length - (intOf i).toNat)
  case atStart => exact ⟨0, by omega, rfl, by simpa [cput] using hown, Ext.refl w v0, h⟩
  case round =>
    obtain ⟨k, hk, rfl, hob, hext, hrow⟩ := hrel
    have hsz := hext.gr.size
    have hsz' : base ≤ wr.heap.size := Nat.le_trans hbase hsz
    by_cases hlt : k < l.length
    · obtain ⟨ad, rfl, hab, hx0, hx1⟩ := hrow.cells k hlt
      have hgl := cput_len (l.take k)
      have htk : (l.take k).length ≤ 1073741824 := by simp; omega
      have hbl : (l0 ++ cput (l.take k)).length ≤ 30000000000 := by simp only [List.length_append]; omega
      have hsn : l0 ++ cput (l.take (k + 1)) = l0 ++ cput (l.take k) ++ vput (l[k]).cut.toNat ++ vput (l[k]).oth.toNat := by rw [cput_snoc l k hlt]; simp
      have hcu := u64_lt (l[k]).cut
      have hot := u32_lt (l[k]).oth
      have Hsn := Lib.hid hsn
      clear hgl htk hsn
      generalize l[k] = a at *
      generalize hpp : l0 ++ cput (l.take k) = pre at *
      have Hpp := Lib.hid hpp
      clear hpp
      go_wp2_with fail
      have hbx := BoxAt.new_ 83 wr [.int .u64 (a.cut.toNat : Int), .int .u32 (a.oth.toNat : Int)]
      have hxa : Ext wr (wr.alloc (.cells [.int .u64 (a.cut.toNat : Int), .int .u32 (a.oth.toNat : Int)].toArray 83)) u0 u0 := (Ext.refl wr u0).then_ (balloc _ _)
      have hn0 : Value.ownBlock u0 ≠ some wr.heap.size := fun e => by have := (hob.blk _ e).2; omega
      have hsa : (wr.alloc (.cells [.int .u64 (a.cut.toNat : Int), .int .u32 (a.oth.toNat : Int)].toArray 83)).heap.size = wr.heap.size + 1 := by simp
      have hoba := hob.alloc (.cells [.int .u64 (a.cut.toNat : Int), .int .u32 (a.oth.toNat : Int)].toArray 83)
      generalize wr.alloc (.cells [.int .u64 (a.cut.toNat : Int), .int .u32 (a.oth.toNat : Int)].toArray 83) = wa at *
      refine wp_region_oneL (ds := [13, 14, 15, 16, 17, 18, 19]) 7 3
        (fun b v W' => if b = true then Ow W' base v (pre ++ vput a.cut.toNat) ∧ Ext wa W' u0 v ∧ BoxAt 83 W' wr.heap.size [.int .u64 (a.cut.toNat : Int), .int .u32 (a.oth.toNat : Int)] ∧ v.ownBlock ≠ some wr.heap.size else W' = wa.drew)
        [some 13, some 14, some 15, some 16, some 17, some 18, some 19]
        [fun v => v = u0, fun v => v = .pointer (some ⟨wr.heap.size, 0, none⟩), fun v => v = .int .u64 (a.cut.toNat : Int), fun _ => True, fun v => v = .pointer (some ⟨wr.heap.size, 1, none⟩), fun v => v = .int .u32 (a.oth.toNat : Int), fun v => v = .int .u64 (a.oth.toNat : Int)]
        (by decide) rfl rfl rfl (by kernel_rfl) (by kernel_rfl) ?_ (fun _ => by simp) ?_
      · refine ⟨?_, ?_, ?_, ?_, ?_, ?_, ?_, trivial⟩
        · refine obO_yes fun f b w' hj hs hp => ?_
          simp [PreO, factO, valOf, Region.binds] at hp
          refine ⟨by simp [Gd, valOf, hp], ?_⟩
          refine mildO_val u0 (by decide) ?_ rfl
          simp [execOp, evalF, hp]
        · refine obO_yes fun f b w' hj hs hp => ?_
          simp [PreO, factO, valOf, Region.binds] at hp
          refine ⟨by simp [Gd, valOf, hp], ?_⟩
          refine mildO_val (.pointer (some ⟨wr.heap.size, 0, none⟩)) (by decide) ?_ rfl
          simp [execOp, evalF, hp, go_sem]
        · refine obO_yes fun f b w' hj hs hp => ?_
          simp [PreO, factO, valOf, Region.binds] at hp
          refine ⟨by simp [Gd, valOf, hp], ?_⟩
          refine mildO_val (.int .u64 (a.cut.toNat : Int)) (by decide) ?_ rfl
          have hc : BoxAt 83 w' wr.heap.size [.int .u64 (a.cut.toNat : Int), .int .u32 (a.oth.toNat : Int)] := by
            cases b with
            | true => simp at hj; exact hj.2.2.1
            | false => simp at hj; subst hj; exact hbx
          have hc0 := hc.cell 0 _ rfl
          simp [execOp, evalF, hp, hc0, go_sem]
        · refine obO_yes fun f b w' hj hs hp => ?_
          simp [PreO, factO, valOf, Region.binds] at hp
          refine ⟨by simp [Gd, valOf, hp], ?_⟩
          obtain rfl : b = false := hs rfl
          simp at hj
          subst hj
          refine mildO_call 24 _ _ Try.f24 rfl Try.func24 (by kernel_rfl) (by kernel_rfl) rfl ?_
          simp [evalF, hp]
          have hoba' : Ow wa.drew base u0 pre := hoba
          have hbx' : BoxAt 83 wa.drew wr.heap.size [.int .u64 (a.cut.toNat : Int), .int .u32 (a.oth.toNat : Int)] := hbx
          have hsd : wa.drew.heap.size = wa.heap.size := rfl
          refine (vput_any wa.drew base u0 pre hoba' a.cut.toNat (by omega) (by omega) (by omega)).mono ?_
          rintro _ w3 ⟨v3, rfl, hob3, hext3⟩
          exact ⟨v3, rfl, hob3, Ext.trans ((Ext.refl wa u0).then_ (bdrew (Below.refl _ wa))) hext3, hbx'.grown hext3.gr hn0, hext3.ne (g := wr.heap.size) (by omega) hn0⟩
        · refine obO_yes fun f b w' hj hs hp => ?_
          simp [PreO, factO, valOf, Region.binds] at hp
          refine ⟨by simp [Gd, valOf, hp], ?_⟩
          refine mildO_val (.pointer (some ⟨wr.heap.size, 1, none⟩)) (by decide) ?_ rfl
          simp [execOp, evalF, hp, go_sem]
        · refine obO_yes fun f b w' hj hs hp => ?_
          simp [PreO, factO, valOf, Region.binds] at hp
          refine ⟨by simp [Gd, valOf, hp], ?_⟩
          refine mildO_val (.int .u32 (a.oth.toNat : Int)) (by decide) ?_ rfl
          have hc : BoxAt 83 w' wr.heap.size [.int .u64 (a.cut.toNat : Int), .int .u32 (a.oth.toNat : Int)] := by
            cases b with
            | true => simp at hj; exact hj.2.2.1
            | false => simp at hj; subst hj; exact hbx
          have hc0 := hc.cell 1 _ rfl
          simp [execOp, evalF, hp, hc0, go_sem]
        · refine obO_yes fun f b w' hj hs hp => ?_
          simp [PreO, factO, valOf, Region.binds] at hp
          refine ⟨by simp [Gd, valOf, hp], ?_⟩
          refine mildO_val (.int .u64 (a.oth.toNat : Int)) (by decide) ?_ rfl
          simp [execOp, evalF, hp, go_sem]
          rw [wrap_u64]; omega
      · intro f w2 hj hp
        simp only [PostO] at hp
        obtain ⟨h0, h1, h2, _, h4, h5, h6, _⟩ := hp
        simp only [if_true, valOf] at hj
        obtain ⟨hob3, hext3, hbx3, hn3⟩ := hj
        simp only [List.getElem?_cons_succ, List.getElem?_cons_zero] at hob3 hext3 hn3
        simp only [fills, List.foldl_cons, List.foldl_nil, Act.put, List.setIfInBounds_toArray, List.set_cons_zero, List.set_cons_succ, h0, h1, h2, h4, h5, h6]
        clear h0 h1 h2 h4 h5 h6
        generalize f 16 = v16 at *
        simp only [List.drop_succ_cons, List.drop_zero]
        have hlv := vput_len64 a.cut.toNat hcu
        have hp1 : (pre ++ vput a.cut.toNat).length ≤ 30000000100 := by rw [List.length_append]; omega
        have hs3 := hext3.gr.size
        have hc0 := hbx3.cell 0 _ rfl
        have hc1 := hbx3.cell 1 _ rfl
        go_wp2_with fail
        refine (vput_any w2 base v16 _ hob3 a.oth.toNat (by omega) (by omega) (by omega)).mono ?_
        rintro _ w4 ⟨v4, rfl, hob4, hext4⟩
        have hx04 := hxa.trans (hext3.trans hext4)
        clear hc0 hc1
        go_wp2_with fail
        go_roundw
        case rel => exact ⟨k + 1, by omega, by go_num, by rw [Hsn.out]; exact hob4, hext.trans hx04, hrow.below ((hx04.below (B := base) hsz' fun q hq => (hob.blk q hq).1).mono hB)⟩
        case measure => simp [intOf]; omega
    · obtain rfl : k = l.length := by omega
      rw [List.take_length] at hob
      go_wp2_with fail
      go_ret
      exact ⟨_, rfl, hob, hext⟩
end Go.Proofs.Yteakeefocnjlhaa
