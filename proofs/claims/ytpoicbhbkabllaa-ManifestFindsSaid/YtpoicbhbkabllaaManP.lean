/- manifest.Put -/
import Derived.Test.YtpoicbhbkabllaaManN
namespace Go.Proofs.Ytpoicbhbkabllaa
set_option linter.unusedSimpArgs false
set_option linter.unusedVariables false
open Go.RowKit

/-- a manifest's whole slot -/
def slotM (m : MMan) : List UInt8 := frameOf 77 (bodyM m) ++ List.replicate (2048 - ((bodyM m).length + 13)) 0
theorem slotM_length (m : MMan) (h : mayM m = true) : (slotM m).length = 2048 := by
  unfold mayM at h
  simp only [Bool.and_eq_true, decide_eq_true_eq] at h
  simp only [slotM, List.length_append, frameOf_length, List.length_replicate]
  omega
theorem mayM_len (m : MMan) (h : mayM m = true) : (bodyM m).length + 13 ≤ 2048 := by
  unfold mayM at h
  simp only [Bool.and_eq_true, decide_eq_true_eq] at h
  exact h.2
theorem put_no (w : World) (v : Value) (m : MMan) (h : MAt w w.heap.size v m) (hsz : (bodyM m).length ≤ 500000000) (hm : mayM m = false) :
    Calls Try.prog 53 #[v] w fun e w' => e = .returned (.tuple #[.slice none 0 0, .int .i64 3]) ∧ Below w.heap.size w w' := by
  obtain ⟨vf, rfl, hf⟩ := h
  obtain ⟨A, c, rfl, hc1, hc2⟩ := hf.form
  unfold maxLen at hc2
  obtain ⟨w0, hw0⟩ : ∃ w0, w0 = w.alloc (.cells (encM m (.slice A m.files.length c)).toArray 56) := ⟨_, rfl⟩
  have hb0 : Below w.heap.size w w0 := by rw [hw0]; exact balloc w _
  have hx0 : BoxAt 56 w0 w.heap.size (encM m (.slice A m.files.length c)) := by rw [hw0]; exact BoxAt.new_ _ _ _
  have Hw0 := Lib.hid hw0
  have X0 := Lib.hid hx0
  have Hb0 := Lib.hid hb0
  have Hf := Lib.hid ((hf.below hb0).more hb0.size)
  have Hm := Lib.hid hm
  clear hw0 hx0 hb0 hf hm
  go_enter Try.func53, Try.ntmps53
  go_upto_region 1 with (fail)
  rw [← Hw0.out]
  go_wp2_with (refine wpList_load_agg rfl 56 (.tmp 1) rfl ⟨w.heap.size, 0, none⟩ rfl (encM m (.slice A m.files.length c)) X0.out.cells Try.underlying56 rfl info_man3 ?_)
  refine (may_any w0 _ m ⟨_, rfl, Hf.out⟩ hsz).mono ?_
  rintro _ w1 ⟨rfl, hb1⟩
  rw [Hm.out]
  have Hb1 := Lib.hid (bstep Hb0.out hb1)
  clear hb1
  go_wp2_with fail
  go_ret2
  exact ⟨rfl, Hb1.out⟩
set_option maxRecDepth 100000 in
set_option maxHeartbeats 1600000 in
theorem put_any (w : World) (v : Value) (m : MMan) (h : MAt w w.heap.size v m) (hm : mayM m = true) :
    Calls Try.prog 53 #[v] w fun e w' => ∃ v', e = .returned (.tuple #[v', .int .i64 0]) ∧ Ow w' w.heap.size v' (slotM m) ∧ Below w.heap.size w w' := by
  have hsz := mayM_len m hm
  obtain ⟨vf, rfl, hf⟩ := h
  obtain ⟨A, c, rfl, hc1, hc2⟩ := hf.form
  unfold maxLen at hc2
  obtain ⟨w0, hw0⟩ : ∃ w0, w0 = w.alloc (.cells (encM m (.slice A m.files.length c)).toArray 56) := ⟨_, rfl⟩
  have hb0 : Below w.heap.size w w0 := by rw [hw0]; exact balloc w _
  have hx0 : BoxAt 56 w0 w.heap.size (encM m (.slice A m.files.length c)) := by rw [hw0]; exact BoxAt.new_ _ _ _
  have Hw0 := Lib.hid hw0
  have X0 := Lib.hid hx0
  have Hb0 := Lib.hid hb0
  have Hf := Lib.hid ((hf.below hb0).more hb0.size)
  have Hm := Lib.hid hm
  clear hw0 hx0 hb0 hf hm
  go_enter Try.func53, Try.ntmps53
  go_upto_region 1 with (fail)
  rw [← Hw0.out]
  go_wp2_with (refine wpList_load_agg rfl 56 (.tmp 1) rfl ⟨w.heap.size, 0, none⟩ rfl (encM m (.slice A m.files.length c)) X0.out.cells Try.underlying56 rfl info_man3 ?_)
  refine (may_any w0 _ m ⟨_, rfl, Hf.out⟩ (by omega)).mono ?_
  rintro _ w1 ⟨rfl, hb1⟩
  rw [Hm.out]
  have X1 := Lib.hid (X0.out.blwM hb1)
  have Hf1 := Lib.hid ((Hf.out.below hb1).more hb1.size)
  have Hb1 := Lib.hid (bstep Hb0.out hb1)
  clear hb1
  go_wp2_with (refine wpList_load_agg rfl 56 (.tmp 1) rfl ⟨w.heap.size, 0, none⟩ rfl (encM m (.slice A m.files.length c)) X1.out.cells Try.underlying56 rfl info_man3 ?_)
  refine (body_any w1 _ m ⟨_, rfl, Hf1.out⟩ (by omega)).mono ?_
  rintro _ w2 ⟨v2, rfl, how2, hb2⟩
  have hb12 := how2.by_
  obtain ⟨A2, c2, rfl, hd1, hd2⟩ := how2.form_
  have Hb2 := Lib.hid (bstep Hb1.out hb2)
  have Hby := Lib.hid hb12
  have hs2 := Hb2.out.size
  have hsl : slotM m = frameOf 77 (bodyM m) ++ List.replicate (2048 - ((bodyM m).length + 13)) 0 := rfl
  have Hsl := Lib.hid hsl
  generalize bodyM m = L at *
  clear how2 hb2 hb12 hsl
  go_wp2_with fail
  refine (fput_any w2 w2.heap.size _ [] (Ow.nil_ _ _) 77 _ L Hby.out (by omega) (by simp) (Nat.le_refl _)).mono ?_
  rintro _ w3 ⟨v3, rfl, ho3, hx3⟩
  rw [List.nil_append] at ho3
  have Hb3 := Lib.hid (bstep Hb2.out (hx3.below (Nat.le_refl _) (by simp [Value.ownBlock])))
  have ho4 := ho3.mono hs2
  obtain ⟨A3, c3, rfl, he1, he2⟩ := ho3.form_
  have hfl := frameOf_length 77 L
  rw [hfl] at ho4
  have Ho4 := Lib.hid ho4
  have hs3 := Hb3.out.size
  generalize frameOf 77 L = FL at *
  have hN : (2048 - ((L.length : Int) + 13)) = ((2048 - (L.length + 13) : Nat) : Int) := by omega
  have HN := Lib.hid hN
  clear hN
  clear ho3 ho4 hx3
  go_wp2_with (at_builtin
               refine wpList_zero8 rfl (.tmp 16) (.tmp 19) rfl Ho4.out (2048 - (L.length + 13)) rfl (congrArg (Value.int .i64) HN.out) (by omega) hs3 ?_
               intro v5 w5 ho5 hx5
               have Hb5 := Lib.hid (Hb3.out.trans (hx5.below hs3 fun q hq => (Ho4.out.blk q hq).1))
               have Ho5 := Lib.hid ho5
               clear ho5 hx5)
  go_ret2
  exact ⟨_, rfl, by rw [Hsl.out]; exact Ho5.out, Hb5.out⟩
/-- the document's example -/
def emptyM : MMan := ⟨0, 0, []⟩
theorem mayM_empty : mayM emptyM = true := by decide +kernel
theorem slotM_empty : (slotM emptyM).length = 2048 ∧ (slotM emptyM)[0]? = some 77 ∧ (slotM emptyM)[1]? = some 3 := by decide +kernel
theorem MAt.empty (w : World) (B : Nat) : MAt w B (.agg (encM emptyM (.slice none 0 0)).toArray) emptyM := ⟨_, rfl, RowOn.nil_⟩
set_option maxRecDepth 100000 in
set_option maxHeartbeats 1600000 in
theorem awake09 (w : World) : Calls Try.prog 30 #[] w fun e w' => e = .returned (.bool true) ∧ Below w.heap.size w w' := by
  have hp := Lib.hid (fun W => put_any W _ emptyM (MAt.empty W _) mayM_empty)
  have hq := Lib.hid (fun W => may_any W _ emptyM (MAt.empty W _) (by decide +kernel))
  obtain ⟨h1, h2, h3⟩ := slotM_empty
  rw [mayM_empty] at hq
  generalize slotM emptyM = L at *
  go_enter Try.func30, Try.ntmps30
  go_wp2_with fail
  refine (hp.out w).mono ?_
  rintro _ w1 ⟨v1, rfl, ho1, hb1⟩
  obtain ⟨A1, c1, rfl, hd1, hd2, hd3⟩ := ho1.form_
  obtain ⟨g, rfl, hg1, hg2⟩ := hd3 (by omega)
  have hc0 := ho1.cell_ rfl 0 _ h2
  have hc1 := ho1.cell_ rfl 1 _ h3
  have Hb1 := Lib.hid hb1
  clear ho1 hb1 h2 h3 hp
  go_wp2_with fail
  refine (hq.out _).mono ?_
  rintro _ w2 ⟨rfl, hb2⟩
  have Hb2 := Lib.hid (bstep Hb1.out hb2)
  clear hb2
  go_wp2_with fail
  go_ret
  exact ⟨rfl, Hb2.out⟩
end Go.Proofs.Ytpoicbhbkabllaa
