/- palmerref09.Body and manifest.body: a manifest's bytes (printed by wip/gen/manw.py) -/
import Derived.Test.YtpoicbhbkabllaaMan1
import Derived.Test.YtpoicbhbkabllaaConvSB
import Derived.Test.YtpoicbhbkabllaaDiskSync
namespace Go.Proofs.Ytpoicbhbkabllaa
set_option linter.unusedSimpArgs false
set_option linter.unusedVariables false
open Go.RowKit

structure Wr (w1 w : World) (v : Value) (l : List UInt8) : Prop where
  own : Ow w w1.heap.size v l
  blw : Below w1.heap.size w1 w
structure WrB (T : TypeId) (w1 w : World) (g : Nat) (cs : List Value) (v : Value) (l : List UInt8) : Prop where
  own : Ow w w1.heap.size v l
  blw : Below w1.heap.size w1 w
  box : BoxAt T w g cs
  ne : v.ownBlock ≠ some g
theorem Ext.neM {w w' : World} {v v' : Value} (h : Ext w w' v v') {g : Nat} (hg : g < w.heap.size) (hv : v.ownBlock ≠ some g) : v'.ownBlock ≠ some g := by
  rcases h.at_ with h1 | h1
  · rw [h1]; exact hv
  · intro e; have := h1 g e; omega
theorem Wr.num {w1 w wa wb : World} {v v' : Value} {l l' : List UInt8} (h : Wr w1 w v l) (hb : Below w.heap.size w wa) (hx : Ext wa wb v v') (ho : Ow wb w1.heap.size v' l') : Wr w1 wb v' l' :=
  ⟨ho, (h.blw.trans (hb.mono h.blw.size)).trans (hx.below (Nat.le_trans h.blw.size hb.size) fun q hq => (h.own.blk q hq).1)⟩
theorem WrB.num {T : TypeId} {g : Nat} {cs : List Value} {w1 w wa wb : World} {v v' : Value} {l l' : List UInt8} (h : WrB T w1 w g cs v l) (hb : Below w.heap.size w wa) (hx : Ext wa wb v v') (ho : Ow wb w1.heap.size v' l') : WrB T w1 wb g cs v' l' :=
  have hg := h.box.lt
  have hga := Nat.lt_of_lt_of_le hg hb.size
  ⟨ho, (h.blw.trans (hb.mono h.blw.size)).trans (hx.below (Nat.le_trans h.blw.size hb.size) fun q hq => (h.own.blk q hq).1), (h.box.below hg hb).grown hx.gr h.ne, hx.neM hga h.ne⟩
theorem Wr.put (T : TypeId) {w1 w : World} {v : Value} {l : List UInt8} (h : Wr w1 w v l) (cs : List Value) : WrB T w1 (w.alloc (.cells cs.toArray T)) w.heap.size cs v l :=
  ⟨h.own.alloc _, h.blw.trans ((balloc w _).mono h.blw.size), BoxAt.new_ _ _ _, fun e => Nat.lt_irrefl _ (h.own.blk _ e).2⟩
theorem WrB.wr {T : TypeId} {g : Nat} {cs : List Value} {w1 w : World} {v : Value} {l : List UInt8} (h : WrB T w1 w g cs v l) : Wr w1 w v l := ⟨h.own, h.blw⟩
theorem flat_take_le {α : Type} (f : α → List UInt8) (l : List α) (k : Nat) (hk : k < l.length) : ((l.take k).flatMap f).length + (f l[k]).length ≤ (l.flatMap f).length := by
  have e : l.flatMap f = (l.take k).flatMap f ++ (f l[k] ++ (l.drop (k + 1)).flatMap f) := by
    conv => lhs; rw [← List.take_append_drop k l, List.drop_eq_getElem_cons hk]
    rw [List.flatMap_append, List.flatMap_cons]
  rw [e]
  simp only [List.length_append]
  omega
theorem flat_take_succ {α : Type} (f : α → List UInt8) (l : List α) (k : Nat) (hk : k < l.length) : (l.take (k + 1)).flatMap f = (l.take k).flatMap f ++ f l[k] := by
  rw [List.take_add_one, List.getElem?_eq_getElem hk, Option.toList_some, List.flatMap_append, List.flatMap_cons, List.flatMap_nil, List.append_nil]
theorem nums_succ (l : List Int) (k : Nat) (hk : k < l.length) : nums (l.take (k + 1)) = nums (l.take k) ++ vput (u64Of l[k]) := flat_take_succ _ l k hk
theorem nums_le (l : List Int) (k : Nat) (hk : k < l.length) : (nums (l.take k)).length + (vput (u64Of l[k])).length ≤ (nums l).length := flat_take_le _ l k hk
theorem bodyF_len (f : MFile) : (bodyF f).length = (vput f.name.length).length + f.name.length + (vput f.id.toNat).length + (vput (u64Of f.size)).length + (nums f.blocks).length := by simp [bodyF]; omega
theorem bodyM_len (m : MMan) : (bodyM m).length = (vput m.ver.toNat).length + (vput m.next.toNat).length + (vput m.files.length).length + (m.files.flatMap bodyF).length := by simp [bodyM]; omega
theorem encF_one (f : MFile) (v : Value) (hv : v.oneCell' = true) : ∀ u ∈ encF f v, u.oneCell' = true := fun u hu => by
  simp [encF] at hu
  rcases hu with rfl | rfl | rfl | rfl
  · rfl
  · rfl
  · rfl
  · exact hv
def zeroFc : List Value := [.string (bst []), .int .u32 0, .int .i64 0, .slice none 0 0]
theorem info_file : (Try.prog.info? 62).map (fun i => (i.zero, i.size, i.bytes)) = some (some (.agg zeroFc.toArray), 4, 56) := by kernel_rfl
theorem info_file4 : (Try.prog.info? 62).map (·.size) = some 4 := by kernel_rfl
theorem zeroF_cells : (Value.agg zeroFc.toArray).cells = zeroFc.toArray := rfl
theorem balloc_lt (w : World) (o : Obj) {B : Nat} (hB : B ≤ w.heap.size) : Below B w (w.alloc o) := (balloc w o).mono hB

set_option maxRecDepth 100000 in
set_option maxHeartbeats 3200000 in
theorem rbody_any (w : World) (v : Value) (m : MMan) (h : MAt w w.heap.size v m) (hsz : (bodyM m).length ≤ 274877906944) :
    Calls Try.prog 52 #[v] w fun e w' => ∃ v', e = .returned v' ∧ Ow w' w.heap.size v' (bodyM m) ∧ Below w.heap.size w w' := by
  obtain ⟨vf, rfl, hf⟩ := h
  obtain ⟨A, c, rfl, hc1, hc2⟩ := hf.form
  unfold maxLen at hc2
  obtain ⟨w1, hw1⟩ : ∃ w1, w1 = w.alloc (.cells (encM m (.slice A m.files.length c)).toArray 56) := ⟨_, rfl⟩
  have hb1 : Below w.heap.size w w1 := by rw [hw1]; exact balloc w _
  have hx1 : BoxAt 56 w1 w.heap.size (encM m (.slice A m.files.length c)) := by rw [hw1]; exact BoxAt.new_ _ _ _
  have hz1 : w.heap.size < w1.heap.size := by rw [hw1]; simp
  have hf1 := hf.below hb1
  have hc0x := hx1.cell 0 _ rfl
  have Hw1 := Lib.hid hw1
  have Hx1 := Lib.hid hx1
  have Hf1 := Lib.hid hf1
  have Hb1 := Lib.hid hb1
  have hml := bodyM_len m
  have hver := u64_lt m.ver
  have hnx := u32_lt m.next
  clear hw1 hx1 hf1 hb1 hf
  go_enter Try.func52, Try.ntmps52
  go_upto_region 1 with (fail)
  rw [← Hw1.out]
  go_wp2_with fail
  refine (refnum_any m.ver.toNat w1 hver).mono ?_
  rintro _ w2 ⟨v2, rfl, how2, hb2⟩
  have H2 : Hid (Wr w1 w2 v2 (vput m.ver.toNat)) := Lib.hid ⟨how2, hb2⟩
  have m1_2 := (Hx1.out.blwM H2.out.blw).cell 1 _ rfl
  clear how2 hb2 hc0x
  go_wp2_with fail
  refine (refnum_any m.next.toNat w2 (by omega)).mono ?_
  rintro _ wn3 ⟨vn3, rfl, how3, hb3⟩
  go_wp2_with (at_builtin
               refine wpList_app8 rfl (.tmp 10) (.tmp 14) rfl (H2.out.own.below_ hb3) how3.by_ rfl rfl (by (try simp only [List.length_append] at *); omega) (Nat.le_trans H2.out.blw.size hb3.size) ?_
               intro v3 w3 ho3 hx3
               have H3 := Lib.hid (H2.out.num hb3 hx3 ho3)
               clear ho3 hx3 hb3 how3
               have m2_3 := (Hx1.out.blwM H3.out.blw).cell 2 _ rfl)
  refine (refnum_any m.files.length w3 (by omega)).mono ?_
  rintro _ wn4 ⟨vn4, rfl, how4, hb4⟩
  go_wp2_with (at_builtin
               refine wpList_app8 rfl (.tmp 16) (.tmp 21) rfl (H3.out.own.below_ hb4) how4.by_ rfl rfl (by (try simp only [List.length_append] at *); omega) (Nat.le_trans H3.out.blw.size hb4.size) ?_
               intro v4 w4 ho4 hx4
               have H4 := Lib.hid (H3.out.num hb4 hx4 ho4)
               clear ho4 hx4 hb4 how4
               have m2_4 := (Hx1.out.blwM H4.out.blw).cell 2 _ rfl)
  have H4' : Hid (Wr w1 w4 v4 (vput m.ver.toNat ++ vput m.next.toNat ++ vput m.files.length)) := H4
  have hpre : (vput m.ver.toNat ++ vput m.next.toNat ++ vput m.files.length).length + (m.files.flatMap bodyF).length ≤ 274877906944 := by simp only [List.length_append]; omega
  have hbm : bodyM m = vput m.ver.toNat ++ vput m.next.toNat ++ vput m.files.length ++ m.files.flatMap bodyF := rfl
  have Hbm := Lib.hid hbm
  clear hbm hml hsz H4 H3 H2
  generalize vput m.ver.toNat ++ vput m.next.toNat ++ vput m.files.length = pre at *
  clear m1_2 m2_3
  go_loopw [3, 26] (fun b i wr => ∃ k : Nat, k ≤ m.files.length ∧ i = .int .i64 k ∧ Wr w1 wr b (pre ++ (m.files.take k).flatMap bodyF)) (fun _ i _ => m.files.length - (intOf i).toNat)
  case atStart => exact ⟨0, by omega, rfl, by simpa using H4'.out⟩
  case round =>
    obtain ⟨k, hk, rfl, HW⟩ := hrel
    replace HW := Lib.hid HW
    by_cases hlt : k < m.files.length
    · have hle := flat_take_le bodyF m.files k hlt
      have hsc := flat_take_succ bodyF m.files k hlt
      have hbl := bodyF_len m.files[k]
      obtain ⟨_, ad, vb, rfl, hab, hbI, hfo, hcl⟩ := Hf1.out.cells k hlt
      obtain ⟨Ab, cb, rfl, hcb1, hcb2⟩ := hbI.form
      unfold maxLen at hcb2
      have hnl := hfo.1
      unfold maxLen at hnl
      have hbf : bodyF m.files[k] = vput m.files[k].name.length ++ m.files[k].name ++ vput m.files[k].id.toNat ++ vput (u64Of m.files[k].size) ++ nums m.files[k].blocks := rfl
      generalize hfk : m.files[k] = fl at *
      have hid := u32_lt fl.id
      have hsu := u64Of_lt fl.size
      have hsw := u64Of_wrap fl.size
      have Hsc := Lib.hid hsc
      have Hcl : Hid (∀ (j : Nat) (u : Value), (encF fl (.slice Ab fl.blocks.length cb))[j]? = some u → wr.cell? ((ad.add (k * 4)).add j) = some u) := Lib.hid fun j u hu => (HW.out.blw.cell (by rw [add_block, add_block]; omega)).trans (hcl j u hu)
      have HbI := Lib.hid hbI
      have Hbf := Lib.hid hbf
      have hsz : (bst fl.name).size = fl.name.length := rfl
      have hpl : (pre ++ (m.files.take k).flatMap bodyF).length + (bodyF fl).length ≤ 274877906944 := by simp only [List.length_append]; omega
      have m2_k := (Hx1.out.blwM HW.out.blw).cell 2 _ rfl
      clear hsc hcl hbI hfo hle hbf m2_4 hfk hpre
      generalize (m.files.take k).flatMap bodyF = mid at *
      go_upto_region 8 with (first
        | (refine wpList_load_agg rfl 62 (.tmp 32) rfl (ad.add (k * 4)) rfl (encF fl (.slice Ab fl.blocks.length cb)) Hcl.out Try.underlying62 rfl info_file4 ?_)
        | (refine wpList_alloc_z rfl 62 rfl info_file zeroFc zeroF_cells ?_)
        | (refine wpList_store_new rfl 62 (.tmp 5) (.tmp 33) rfl zeroFc (encF fl (.slice Ab fl.blocks.length cb)) rfl rfl info_file4 rfl (encF_one _ _ rfl) ?_))
      have H5 := Lib.hid (HW.out.put 62 (encF fl (.slice Ab fl.blocks.length cb)))
      clear Hcl m2_k
      generalize hg : wr.heap.size = g at *
      generalize wr.alloc (.cells (encF fl (.slice Ab fl.blocks.length cb)).toArray 62) = w5 at *
      have q0 := H5.out.box.cell 0 _ rfl
      go_wp2_with fail
      refine (refnum_any fl.name.length w5 (by omega)).mono ?_
      rintro _ wn6 ⟨vn6, rfl, how6, hb6⟩
      go_upto_region 9 with (at_builtin
                             refine wpList_app8 rfl (.tmp 34) (.tmp 39) rfl (H5.out.own.below_ hb6) how6.by_ rfl rfl (by (try simp only [List.length_append] at *); omega) (Nat.le_trans H5.out.blw.size hb6.size) ?_
                             intro v6 w6 ho6 hx6
                             have H6 := Lib.hid (H5.out.num hb6 hx6 ho6)
                             clear ho6 hx6 hb6 how6
                             have q0_6 := H6.out.box.cell 0 _ rfl)
      go_wp2_with (first
        | (refine wpList_conv_sb rfl (.tmp 43) rfl fl.name rfl (by omega) ?_
           intro cS wS hS)
        | (at_builtin
           refine wpList_app8 rfl (.tmp 41) (.tmp 44) rfl (H6.out.own.below_ hS.below) hS.by_ rfl rfl (by (try simp only [List.length_append] at *); omega) (Nat.le_trans H6.out.blw.size hS.below.size) ?_
           intro v7 w7 ho7 hx7
           have H7 := Lib.hid (H6.out.num hS.below hx7 ho7)
           clear ho7 hx7 hS
           have q1_7 := H7.out.box.cell 1 _ rfl))
      refine (refnum_any fl.id.toNat w7 (by omega)).mono ?_
      rintro _ wn8 ⟨vn8, rfl, how8, hb8⟩
      go_wp2_with (at_builtin
                   refine wpList_app8 rfl (.tmp 46) (.tmp 50) rfl (H7.out.own.below_ hb8) how8.by_ rfl rfl (by (try simp only [List.length_append] at *); omega) (Nat.le_trans H7.out.blw.size hb8.size) ?_
                   intro v8 w8 ho8 hx8
                   have H8 := Lib.hid (H7.out.num hb8 hx8 ho8)
                   clear ho8 hx8 hb8 how8
                   have q2_8 := H8.out.box.cell 2 _ rfl)
      refine (refnum_any (u64Of fl.size) w8 hsu).mono ?_
      rintro _ wn9 ⟨vn9, rfl, how9, hb9⟩
      go_wp2_with (at_builtin
                   refine wpList_app8 rfl (.tmp 52) (.tmp 56) rfl (H8.out.own.below_ hb9) how9.by_ rfl rfl (by (try simp only [List.length_append] at *); omega) (Nat.le_trans H8.out.blw.size hb9.size) ?_
                   intro v9 w9 ho9 hx9
                   have H9 := Lib.hid (H8.out.num hb9 hx9 ho9)
                   clear ho9 hx9 hb9 how9
                   have q3_9 := H9.out.box.cell 3 _ rfl)
      have H9' : Hid (WrB 62 w1 w9 g (encF fl (.slice Ab fl.blocks.length cb)) v9 (pre ++ mid ++ vput fl.name.length ++ fl.name ++ vput fl.id.toNat ++ vput (u64Of fl.size))) := H9
      have hpl2 : (pre ++ mid ++ vput fl.name.length ++ fl.name ++ vput fl.id.toNat ++ vput (u64Of fl.size)).length + (nums fl.blocks).length ≤ 274877906944 := by simp only [List.length_append] at *; omega
      have hbm2 : pre ++ mid ++ bodyF fl = pre ++ mid ++ vput fl.name.length ++ fl.name ++ vput fl.id.toNat ++ vput (u64Of fl.size) ++ nums fl.blocks := by rw [Hbf.out]; simp only [List.append_assoc]
      have Hbm2 := Lib.hid hbm2
      clear H9 H8 H7 H6 H5 hbl hpl Hbf hbm2
      generalize pre ++ mid ++ vput fl.name.length ++ fl.name ++ vput fl.id.toNat ++ vput (u64Of fl.size) = pf at *
      go_wp2_with fail
      go_loopw [3, 61] (fun b i wr => ∃ j : Nat, j ≤ fl.blocks.length ∧ i = .int .i64 j ∧ WrB 62 w1 wr g (encF fl (.slice Ab fl.blocks.length cb)) b (pf ++ nums (fl.blocks.take j))) (fun _ i _ => fl.blocks.length - (intOf i).toNat)
      case atStart => exact ⟨0, by omega, rfl, by simpa [nums] using H9'.out⟩
      case round =>
        obtain ⟨j, hj, rfl, HV⟩ := hrel
        replace HV := Lib.hid HV
        by_cases hjt : j < fl.blocks.length
        · have hns := nums_succ fl.blocks j hjt
          have hnle := nums_le fl.blocks j hjt
          obtain ⟨_, ad2, rfl, hab2, hcj, hj1, hj2⟩ := (HbI.out.below (HV.out.blw.mono (by omega))).cells j hjt
          have Hns := Lib.hid hns
          have hxu := u64Of_lt fl.blocks[j]
          have hxw := u64Of_wrap fl.blocks[j]
          have hql : (pf ++ nums (fl.blocks.take j)).length + (vput (u64Of fl.blocks[j])).length ≤ 274877906944 := by simp only [List.length_append]; omega
          have q3_j := HV.out.box.cell 3 _ rfl
          clear hns hnle hpl2
          generalize fl.blocks[j] = x at *
          generalize nums (fl.blocks.take j) = nj at *
          go_wp2_with fail
          refine (refnum_any (u64Of x) wr hxu).mono ?_
          rintro _ wn11 ⟨vn11, rfl, how11, hb11⟩
          go_wp2_with (at_builtin
                       refine wpList_app8 rfl (.tmp 64) (.tmp 71) rfl (HV.out.own.below_ hb11) how11.by_ rfl rfl (by (try simp only [List.length_append] at *); omega) (Nat.le_trans HV.out.blw.size hb11.size) ?_
                       intro v11 w11 ho11 hx11
                       have H11 := Lib.hid (HV.out.num hb11 hx11 ho11)
                       clear ho11 hx11 hb11 how11
          )
          go_roundw
          case rel => exact ⟨j + 1, by omega, by go_num, by rw [Hns.out, ← List.append_assoc]; exact H11.out⟩
          case measure => simp [intOf]; omega
        · obtain rfl : j = fl.blocks.length := by omega
          rw [List.take_length] at HV
          go_wp2_with fail
          go_roundw
          case rel => exact ⟨k + 1, by omega, by go_num, by rw [Hsc.out, ← List.append_assoc, Hbm2.out]; exact HV.out.wr⟩
          case measure => simp [intOf]; omega
    · obtain rfl : k = m.files.length := by omega
      rw [List.take_length] at HW
      go_wp2_with fail
      go_ret
      exact ⟨_, rfl, by rw [Hbm.out]; exact HW.out.own.mono (Nat.le_of_lt hz1), Hb1.out.trans (HW.out.blw.mono (Nat.le_of_lt hz1))⟩
end Go.Proofs.Ytpoicbhbkabllaa
