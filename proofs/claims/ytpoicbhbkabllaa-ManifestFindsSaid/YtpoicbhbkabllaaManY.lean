/- palmerref09.May -/
import Derived.Test.YtpoicbhbkabllaaManF
namespace Go.Proofs.Ytpoicbhbkabllaa
set_option linter.unusedSimpArgs false
set_option linter.unusedVariables false
open Go.RowKit

theorem sum_mem_le : ∀ (l : List Nat) (x : Nat), x ∈ l → x ≤ l.sum
  | [], _, h => by cases h
  | y :: l, x, h => by
    rw [List.sum_cons]
    rcases List.mem_cons.1 h with rfl | h
    · omega
    · have := sum_mem_le l x h; omega
theorem nums_len (l : List Int) : (nums l).length ≤ l.length * 11 := by
  induction l with
  | nil => simp [nums]
  | cons x l ih =>
    have e : nums (x :: l) = vput (u64Of x) ++ nums l := rfl
    have := (vput_len64 (u64Of x) (u64Of_lt x)).2
    rw [e, List.length_append, List.length_cons]
    omega
theorem flat_len_le (l : List MFile) (B : Nat) (h : ∀ f ∈ l, (bodyF f).length ≤ B) : (l.flatMap bodyF).length ≤ l.length * B := by
  induction l with
  | nil => simp
  | cons f l ih =>
    rw [List.flatMap_cons, List.length_append, List.length_cons, Nat.add_mul]
    have := h f (by simp)
    have := ih fun g hg => h g (by simp [hg])
    omega
theorem small_file (m : MMan) (hg : greatM m = false) (f : MFile) (hf : f ∈ m.files) (hb : basicF m.next f = true) : f.name.length ≤ 32 ∧ 1 ≤ f.name.length ∧ f.blocks.length ≤ 2999 := by
  unfold greatM at hg
  simp only [Bool.or_eq_false_iff, decide_eq_false_iff_not] at hg
  unfold basicF at hb
  simp only [Bool.not_eq_true', Bool.or_eq_false_iff, decide_eq_false_iff_not] at hb
  have := sum_mem_le (m.files.map fun f => min f.blocks.length 3000 + min f.name.length 3000) _ (List.mem_map.2 ⟨f, hf, rfl⟩)
  have h2 : greatN m.files = (m.files.map fun f => min f.blocks.length 3000 + min f.name.length 3000).sum := rfl
  omega
theorem bodyF_small (m : MMan) (hg : greatM m = false) (f : MFile) (hf : f ∈ m.files) (hb : basicF m.next f = true) : (bodyF f).length ≤ 40000 := by
  obtain ⟨h1, h2, h3⟩ := small_file m hg f hf hb
  rw [bodyF_len]
  have := nums_len f.blocks
  have := (vput_len64 f.name.length (by omega)).2
  have := (vput_len64 f.id.toNat (by have := u32_lt f.id; omega)).2
  have := (vput_len64 (u64Of f.size) (u64Of_lt _)).2
  omega
theorem filesR_basic (m : MMan) (h : filesR m m.files.length = true) (f : MFile) (hf : f ∈ m.files) : basicF m.next f = true := by
  obtain ⟨i, hi, rfl⟩ := List.mem_iff_getElem.1 hf
  have := filesR_at m _ i h hi (Nat.le_refl _)
  unfold fileR at this
  simp only [Bool.and_eq_true] at this
  exact this.1.1
theorem bodyM_small (m : MMan) (hg : greatM m = false) (h : filesR m m.files.length = true) : (bodyM m).length ≤ 2400033 := by
  have hn : m.files.length ≤ 60 := by
    unfold greatM at hg
    simp only [Bool.or_eq_false_iff, decide_eq_false_iff_not] at hg
    omega
  have := flat_len_le m.files 40000 fun f hf => bodyF_small m hg f hf (filesR_basic m h f hf)
  rw [bodyM_len]
  have := (vput_len64 m.ver.toNat (u64_lt _)).2
  have := (vput_len64 m.next.toNat (by have := u32_lt m.next; omega)).2
  have := (vput_len64 m.files.length (by omega)).2
  omega
theorem info_man3 : (Try.prog.info? 56).map (·.size) = some 3 := by kernel_rfl
set_option maxRecDepth 100000 in
set_option maxHeartbeats 1600000 in
theorem rmay_any (w : World) (v : Value) (m : MMan) (h : MAt w w.heap.size v m) (hg : greatM m = false) :
    Calls Try.prog 29 #[v] w fun e w' => e = .returned (.bool (mayM m)) ∧ Below w.heap.size w w' := by
  obtain ⟨vf, rfl, hf⟩ := h
  obtain ⟨A, c, rfl, hc1, hc2⟩ := hf.form
  unfold maxLen at hc2
  obtain ⟨w1, hw1⟩ : ∃ w1, w1 = w.alloc (.cells (encM m (.slice A m.files.length c)).toArray 56) := ⟨_, rfl⟩
  have hb1 : Below w.heap.size w w1 := by rw [hw1]; exact balloc w _
  have hx1 : BoxAt 56 w1 w.heap.size (encM m (.slice A m.files.length c)) := by rw [hw1]; exact BoxAt.new_ _ _ _
  have hz1 : w1.heap.size = w.heap.size + 1 := by rw [hw1]; simp
  have hf1 := hf.below hb1
  have hc2x := hx1.cell 2 _ rfl
  have Hw1 := Lib.hid hw1
  have Hx1 := Lib.hid hx1
  have Hf1 := Lib.hid hf1
  have Hb1 := Lib.hid hb1
  have Hg := Lib.hid hg
  clear hw1 hx1 hf1 hb1 hf hg
  go_enter Try.func29, Try.ntmps29
  go_upto_region 1 with (fail)
  rw [← Hw1.out]
  go_wp2_with fail
  go_loopw [7] (fun iv wr => ∃ k : Nat, k ≤ m.files.length ∧ iv = .int .i64 k ∧ filesR m k = true ∧ Below w1.heap.size w1 wr) (fun i _ => m.files.length - (intOf i).toNat)
  case atStart => exact ⟨0, by omega, rfl, rfl, Below.refl _ _⟩
  case round =>
    obtain ⟨k, hk, rfl, hfr, hbr⟩ := hrel
    have Hbr := Lib.hid hbr
    have Hld := Lib.hid (Hx1.out.blwM hbr).cells
    have hsz := hbr.size
    clear hbr hc2x
    by_cases hlt : k < m.files.length
    · have hs := filesR_succ m k hlt
      rw [hfr, Bool.true_and] at hs
      have hfa := fun h => filesR_false m (k + 1) h m.files.length (by omega)
      have Hs := Lib.hid hs
      have Hfa := Lib.hid hfa
      clear hs hfa hfr
      go_wp2_with (refine wpList_load_agg rfl 56 (.tmp 1) rfl ⟨w.heap.size, 0, none⟩ rfl (encM m (.slice A m.files.length c)) Hld.out Try.underlying56 rfl info_man3 ?_)
      refine (rfile_any wr _ m ⟨_, rfl, (Hf1.out.below (Hbr.out.mono (by omega))).more (by omega)⟩ k hlt).mono ?_
      rintro _ w2 ⟨rfl, hb2⟩
      have Hb3 := Lib.hid (bstep Hbr.out hb2)
      clear hb2
      cases hR : fileR m.next (m.files.take k) m.files[k] with
      | true =>
        rw [hR] at Hs
        go_wp2_with fail
        go_roundw
        case rel => exact ⟨k + 1, by omega, by go_num, Hs.out, Hb3.out⟩
        case measure => simp [intOf]; omega
      | false =>
        rw [hR] at Hs
        have hm : mayM m = false := by unfold mayM; rw [Hfa.out Hs.out]; rfl
        have Hm := Lib.hid hm
        clear hm
        go_wp2_with fail
        go_ret
        exact ⟨by rw [Hm.out]; rfl, Hb1.out.trans (Hb3.out.mono (by omega))⟩
    · obtain rfl : k = m.files.length := by omega
      have hsm := bodyM_small m Hg.out hfr
      have hm : mayM m = decide ((bodyM m).length + 13 ≤ 2048) := by unfold mayM; rw [hfr]; rfl
      have Hm := Lib.hid hm
      clear hm hfr
      go_wp2_with (refine wpList_load_agg rfl 56 (.tmp 1) rfl ⟨w.heap.size, 0, none⟩ rfl (encM m (.slice A m.files.length c)) Hld.out Try.underlying56 rfl info_man3 ?_)
      refine (rbody_any wr _ m ⟨_, rfl, (Hf1.out.below (Hbr.out.mono (by omega))).more (by omega)⟩ (by omega)).mono ?_
      rintro _ w2 ⟨v2, rfl, how2, hb2⟩
      obtain ⟨A2, c2, rfl, hd1, hd2⟩ := how2.form_
      have Hb3 := Lib.hid (bstep Hbr.out hb2)
      generalize (bodyM m).length = L at *
      clear how2 hb2
      go_wp2_with fail
      go_ret
      rw [Hm.out]
      exact ⟨by first | rfl | (simp; omega), Hb1.out.trans (Hb3.out.mono (by omega))⟩
end Go.Proofs.Ytpoicbhbkabllaa
