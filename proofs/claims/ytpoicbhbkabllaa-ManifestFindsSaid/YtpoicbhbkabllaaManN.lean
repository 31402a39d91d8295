/- manifest.May (printed by wip/gen/mann.py) -/
import Derived.Test.YtpoicbhbkabllaaManM
import Derived.Test.YtpoicbhbkabllaaManB
import Derived.Test.YtpoicbhbkabllaaFrameWalk
import Derived.Test.YtpoicbhbkabllaaOneList
import Derived.Carry
namespace Go.Proofs.Ytpoicbhbkabllaa
set_option linter.unusedSimpArgs false
set_option linter.unusedVariables false
open Go.RowKit Go.Maps

theorem obO_no {P : Program} {dl : List (Option Nat)} {Φ : List (Value → Prop)} {ds : List Nat} {a : Act} {s i : Nat} {J : Bool → Value → World → Prop} {ph : Value → Prop} {o : Oper}
    (h : ∀ f, PreO dl Φ f o.after.toList → ¬ Gd dl f o.guard ∧ ph undef) (hi : i ≠ s) : ObO P dl Φ ds a s J i ph o :=
  fun f b w' _ _ h3 => ⟨fun hg => absurd hg (h f h3).1, fun _ => ⟨(h f h3).2, hi⟩⟩
theorem Bt.pre_drew {m1 m2 : Nat} {a b : World} (h : Bt m1 m2 a.drew b) : Bt m1 m2 a b := ⟨h.os, h.tape, h.output, h.size, h.block⟩
theorem cell_of_block {w w' : World} {p : Addr} (h : w'.heap[p.block]? = w.heap[p.block]?) : w'.cell? p = w.cell? p := by unfold World.cell?; rw [h]
def idsOf (l : List MFile) : List Int := l.map fun f => (f.id.toNat : Int)
def blksOf (l : List MFile) : List Int := l.flatMap (·.blocks)
def nblk (l : List MFile) : Nat := (l.map fun f => f.blocks.length).sum
theorem beside_all (f : MFile) : ∀ prev : List MFile, prev.all (fun p => besideF p f) = (!(decide ((f.id.toNat : Int) ∈ idsOf prev)) && prev.all fun p => bless p.name f.name)
  | [] => by simp [idsOf]
  | p :: t => by
    have hi : (p.id = f.id) ↔ ((f.id.toNat : Int) = (p.id.toNat : Int)) := by
      rw [← UInt32.toNat_inj]
      omega
    rw [List.all_cons, List.all_cons, beside_all f t]
    unfold besideF idsOf
    simp only [List.map_cons, List.mem_cons]
    by_cases h1 : p.id = f.id
    · have := hi.1 h1
      simp [h1]
    · have h2 : ¬ ((f.id.toNat : Int) = (p.id.toNat : Int)) := fun e => h1 (hi.2 e)
      simp only [h1, h2, decide_false, Bool.false_or, false_or, Bool.not_not]
      cases bless p.name f.name <;> simp
theorem notin_all (x : Int) : ∀ prev : List MFile, prev.all (fun p => !decide (x ∈ p.blocks)) = !decide (x ∈ blksOf prev)
  | [] => by simp [blksOf]
  | p :: t => by
    rw [List.all_cons, notin_all x t]
    have e : blksOf (p :: t) = p.blocks ++ blksOf t := rfl
    rw [e]
    simp only [List.mem_append]
    by_cases h1 : x ∈ p.blocks <;> simp [h1]
theorem blkC_same (prev : List MFile) (l : List Int) (a : Nat) : blockOk prev l a = blkC (blksOf prev) l a := by
  unfold blockOk blkC
  rw [notin_all]
  generalize l.getD a 0 = x
  simp only [List.mem_append]
  by_cases h1 : x ∈ l.take a <;> by_cases h2 : x ∈ blksOf prev <;> by_cases h3 : x < 32 <;> by_cases h4 : 65536 ≤ x <;> simp [h1, h2, h3, h4]
theorem blksC_same (prev : List MFile) (l : List Int) (n : Nat) : blocksOk prev l n = blksC (blksOf prev) l n := by
  unfold blocksOk blksC
  congr 1
  funext a
  exact blkC_same prev l a
theorem filesR_rise (m : MMan) (k : Nat) (hk : k ≤ m.files.length) (h : filesR m k = true) (a b : Nat) (hb : b < k) (hab : a < b) : bless (m.files[a]'(by omega)).name (m.files[b]'(by omega)).name = true := by
  have := filesR_at m k b h hb hk
  unfold fileR at this
  rw [beside_all] at this
  simp only [Bool.and_eq_true, List.all_eq_true] at this
  refine this.1.2.2 _ ?_
  rw [List.mem_take_iff_getElem]
  exact ⟨a, by omega, rfl⟩
/-- one file's turn, as the code tells it -/
theorem round_eq (m : MMan) (k : Nat) (hk : k < m.files.length) (h : filesR m k = true) : fileR m.next (m.files.take k) m.files[k] =
    ((decide (k = 0) || bless (m.files[k - 1]'(by omega)).name m.files[k].name) && rightC m.next (idsOf (m.files.take k)) (blksOf (m.files.take k)) m.files[k]) := by
  have hall : (m.files.take k).all (fun p => bless p.name m.files[k].name) = (decide (k = 0) || bless (m.files[k - 1]'(by omega)).name m.files[k].name) := by
    by_cases h0 : k = 0
    · subst h0
      simp
    · simp only [h0, decide_false, Bool.false_or]
      cases hb : bless (m.files[k - 1]'(by omega)).name m.files[k].name with
      | true =>
        rw [List.all_eq_true]
        intro p hp
        obtain ⟨a, ha, rfl⟩ := List.mem_take_iff_getElem.1 hp
        have ha' : a < k := by omega
        rcases Nat.lt_or_ge a (k - 1) with hl | hl
        · exact bless_trans _ _ _ (filesR_rise m k (by omega) h a (k - 1) (by omega) hl) hb
        · obtain rfl : a = k - 1 := by omega
          exact hb
      | false =>
        rw [List.all_eq_false]
        refine ⟨m.files[k - 1]'(by omega), ?_, by simp [hb]⟩
        rw [List.mem_take_iff_getElem]
        exact ⟨k - 1, by omega, rfl⟩
  unfold fileR rightC
  rw [beside_all, hall, blksC_same]
  generalize basicF m.next m.files[k] = q1
  generalize decide ((m.files[k].id.toNat : Int) ∈ idsOf (m.files.take k)) = q2
  generalize (decide (k = 0) || bless (m.files[k - 1]'(by omega)).name m.files[k].name) = q3
  generalize blksC (blksOf (m.files.take k)) m.files[k].blocks m.files[k].blocks.length = q4
  cases q1 <;> cases q2 <;> cases q3 <;> cases q4 <;> rfl
theorem vput_pos (n : Nat) (h : n < 18446744073709551616) : 1 ≤ (vput n).length := (vput_len64 n h).1
theorem nums_ge (l : List Int) : l.length ≤ (nums l).length := by
  induction l with
  | nil => simp [nums]
  | cons x l ih =>
    have e : nums (x :: l) = vput (u64Of x) ++ nums l := rfl
    have := vput_pos (u64Of x) (u64Of_lt x)
    rw [e, List.length_append, List.length_cons]
    omega
theorem nblk_le : ∀ l : List MFile, nblk l ≤ (l.flatMap bodyF).length
  | [] => by simp [nblk]
  | f :: t => by
    have e : nblk (f :: t) = f.blocks.length + nblk t := by simp [nblk]
    rw [e, List.flatMap_cons, List.length_append, bodyF_len]
    have := nblk_le t
    have := nums_ge f.blocks
    omega
theorem len_le : ∀ l : List MFile, l.length ≤ (l.flatMap bodyF).length
  | [] => by simp
  | f :: t => by
    rw [List.flatMap_cons, List.length_append, bodyF_len, List.length_cons]
    have := len_le t
    have := vput_pos f.id.toNat (by have := u32_lt f.id; omega)
    omega
theorem nblk_take (l : List MFile) (k : Nat) (hk : k < l.length) : nblk (l.take (k + 1)) = nblk (l.take k) + l[k].blocks.length := by
  unfold nblk
  rw [List.take_add_one, List.getElem?_eq_getElem hk, Option.toList_some, List.map_append, List.sum_append]
  simp
theorem nblk_take_le (l : List MFile) (k : Nat) (hk : k < l.length) : nblk (l.take k) + l[k].blocks.length ≤ (l.flatMap bodyF).length := by
  rw [← nblk_take l k hk]
  refine Nat.le_trans (nblk_le _) ?_
  have e : l.flatMap bodyF = (l.take (k + 1)).flatMap bodyF ++ (l.drop (k + 1)).flatMap bodyF := by rw [← List.flatMap_append, List.take_append_drop]
  rw [e, List.length_append]
  omega
theorem ids_take (l : List MFile) (k : Nat) (hk : k < l.length) (x : Int) : x ∈ (l[k].id.toNat : Int) :: idsOf (l.take k) ↔ x ∈ idsOf (l.take (k + 1)) := by
  unfold idsOf
  rw [List.take_add_one, List.getElem?_eq_getElem hk, Option.toList_some, List.map_append, List.mem_append, List.mem_cons]
  simp only [List.map_cons, List.map_nil, List.mem_singleton]
  exact Or.comm
theorem blks_take (l : List MFile) (k : Nat) (hk : k < l.length) (x : Int) : x ∈ l[k].blocks ++ blksOf (l.take k) ↔ x ∈ blksOf (l.take (k + 1)) := by
  unfold blksOf
  rw [List.take_add_one, List.getElem?_eq_getElem hk, Option.toList_some, List.flatMap_append, List.mem_append, List.mem_append, List.flatMap_cons, List.flatMap_nil, List.append_nil]
  exact Or.comm

set_option maxRecDepth 100000 in
set_option maxHeartbeats 6400000 in
theorem may_any (w : World) (v : Value) (m : MMan) (h : MAt w w.heap.size v m) (hsz : (bodyM m).length ≤ 500000000) :
    Calls Try.prog 54 #[v] w fun e w' => e = .returned (.bool (mayM m)) ∧ Below w.heap.size w w' := by
  obtain ⟨vf, rfl, hf⟩ := h
  obtain ⟨A, c, rfl, hc1, hc2⟩ := hf.form
  unfold maxLen at hc2
  have hfb : (m.files.flatMap bodyF).length ≤ 500000000 := by have := bodyM_len m; omega
  have hnf : m.files.length ≤ 500000000 := Nat.le_trans (len_le m.files) hfb
  have hnx := u32_lt m.next
  obtain ⟨w0, hw0⟩ : ∃ w0, w0 = w.alloc (.cells (encM m (.slice A m.files.length c)).toArray 56) := ⟨_, rfl⟩
  have hb0 : Below w.heap.size w w0 := by rw [hw0]; exact balloc w _
  have hx0 : BoxAt 56 w0 w.heap.size (encM m (.slice A m.files.length c)) := by rw [hw0]; exact BoxAt.new_ _ _ _
  have hz0 : w0.heap.size = w.heap.size + 1 := by rw [hw0]; simp
  obtain ⟨w1, hw1⟩ : ∃ w1, w1 = (w0.alloc (.map #[] 0)).alloc (.map #[] 0) := ⟨_, rfl⟩
  have hb01 : Below w0.heap.size w0 w1 := by rw [hw1]; exact bstep (balloc w0 _) (balloc _ _)
  have hz1 : w1.heap.size = w.heap.size + 1 + 1 + 1 := by rw [hw1]; simp [hz0]
  have hS1 : MSet 53 .u32 w1 (w.heap.size + 1) 0 [] := by rw [hw1, ← hz0]; exact (MSet.new_ _ _ w0).blw (balloc _ _)
  have hS2 : MSet 3 .i64 w1 (w.heap.size + 1 + 1) 0 [] := by
    have := MSet.new_ 3 .i64 (w0.alloc (.map #[] 0))
    rw [World.size_alloc, hz0] at this
    rw [hw1]
    exact this
  have hmm := @run_makeMap Try.prog
  have hx1 := hx0.blwM hb01
  have hb1 := bstep hb0 hb01
  have Hw0 := Lib.hid hw0
  have Hw1 := Lib.hid hw1
  have X1 := Lib.hid hx1
  have Hb1 := Lib.hid hb1
  have Hf := Lib.hid hf
  have hc2x := hx1.cell 2 _ rfl
  clear hw0 hw1 hx0 hx1 hb0 hb01 hb1 hf
  go_enter Try.func54, Try.ntmps54
  go_upto_region 1 with (fail)
  rw [← Hw0.out]
  go_upto_region 2 with (fail)
  rw [← Hw1.out]
  try simp only [hz0, World.size_alloc]
  go_wp2_with fail
  go_loopw [14] (fun iv wr => ∃ k : Nat, k ≤ m.files.length ∧ iv = .int .i64 k ∧ filesR m k = true ∧ Bt (w.heap.size + 1) (w.heap.size + 1 + 1) w1 wr ∧
    MSet 53 .u32 wr (w.heap.size + 1) k (idsOf (m.files.take k)) ∧ MSet 3 .i64 wr (w.heap.size + 1 + 1) (nblk (m.files.take k)) (blksOf (m.files.take k))) (fun i _ => m.files.length - (intOf i).toNat)
  case atStart => exact ⟨0, by omega, rfl, rfl, Bt.of (Below.refl _ _), hS1, hS2⟩
  case round =>
    obtain ⟨k, hk, rfl, hfr, hbr, hr1, hr2⟩ := hrel
    have Hbr := Lib.hid hbr
    have hsz := hbr.size
    have Hfr := Lib.hid hfr
    have Xm := Lib.hid (hbr.box X1.out (by omega) (by omega))
    have Hwr := Lib.hid (Hb1.out.trans (hbr.low (B := w.heap.size) (by omega) (by omega) (by omega)))
    clear hbr hc2x hfr hS1 hS2 Hw0 Hw1 hmm
    by_cases hlt : k < m.files.length
    · have hs := filesR_succ m k hlt
      rw [Hfr.out, Bool.true_and, round_eq m k hlt Hfr.out] at hs
      have hfa := fun h => filesR_false m (k + 1) h m.files.length (by omega)
      have hmf : filesR m (k + 1) = false → mayM m = false := fun h => by unfold mayM; rw [hfa h]; rfl
      obtain ⟨_, ad, vb, rfl, hab, hbI, hfo, hcl⟩ := (Hf.out.below Hwr.out).cells k hlt
      obtain ⟨Ab, cb, rfl, hcb1, hcb2⟩ := hbI.form
      have hids := ids_take m.files k hlt
      have hblk := blks_take m.files k hlt
      have hnb := nblk_take_le m.files k hlt
      have hnt := nblk_take m.files k hlt
      have hpv : ∀ p, k = p + 1 → ∃ pv : MFile, m.files[k - 1]'(by omega) = pv ∧ wr.cell? (ad.add (p * 4)) = some (.string (bst pv.name)) := fun p hp => by
        obtain ⟨_, ad', vb', e, _, _, _, hcl'⟩ := (Hf.out.below Hwr.out).cells p (by omega)
        injection e with e
        subst e
        have e3 : m.files[k - 1]'(by omega) = m.files[p]'(by omega) := by congr 1; omega
        refine ⟨_, e3, ?_⟩
        have := hcl' 0 _ rfl
        rw [Addr.add, if_pos rfl] at this
        exact this
      have hkl : ∀ p, k = p + 1 → p < m.files.length := fun p hp => by omega
      generalize hfk : m.files[k] = fl at *
      have hid := u32_lt fl.id
      have Hids := Lib.hid hids
      have Hblk := Lib.hid hblk
      have Hnt := Lib.hid hnt
      have Hcl := Lib.hid hcl
      have Hs := Lib.hid hs
      have Hmf := Lib.hid hmf
      have Hpv := Lib.hid hpv
      have R1 := Lib.hid hr1
      have R2 := Lib.hid hr2
      have HbI := Lib.hid hbI
      obtain ⟨w5, hw5⟩ : ∃ w5, w5 = wr.alloc (.cells (encF fl (.slice Ab fl.blocks.length cb)).toArray 62) := ⟨_, rfl⟩
      obtain ⟨g, hg⟩ : ∃ g, g = wr.heap.size := ⟨_, rfl⟩
      have hb5 : Below wr.heap.size wr w5 := by rw [hw5]; exact balloc wr _
      have hx5 : BoxAt 62 w5 g (encF fl (.slice Ab fl.blocks.length cb)) := by rw [hw5, hg]; exact BoxAt.new_ _ _ _
      have hz5 : w5.heap.size = g + 1 := by rw [hw5, hg]; simp
      have Hx5 := Lib.hid (And.intro hx5 (Xm.out.blwM hb5))
      have Hb5 := Lib.hid (Hbr.out.step hb5)
      have Hb5w := Lib.hid hb5
      have Hlow := Lib.hid (Hwr.out.trans (hb5.mono (show w.heap.size ≤ wr.heap.size by omega)))
      obtain ⟨r, hr⟩ : ∃ r, r = rightC m.next (idsOf (m.files.take k)) (blksOf (m.files.take k)) fl := ⟨_, rfl⟩
      obtain ⟨Post5, hP5⟩ : ∃ Q : World → Prop, Q = fun W' => (r = true → MSet 53 .u32 W' (w.heap.size + 1) (k + 1) ((fl.id.toNat : Int) :: idsOf (m.files.take k)) ∧ MSet 3 .i64 W' (w.heap.size + 1 + 1) (nblk (m.files.take k) + fl.blocks.length) (fl.blocks ++ blksOf (m.files.take k))) := ⟨_, rfl⟩
      have hcall := right_any w5.drew w.heap.size (show w.heap.size ≤ w5.heap.size by omega) fl (.slice Ab fl.blocks.length cb) m.next (w.heap.size + 1) (w.heap.size + 1 + 1) k (nblk (m.files.take k)) (idsOf (m.files.take k)) (blksOf (m.files.take k))
        ((hbI.below (hb5.mono (by omega))).below (Below.refl _ _).drew) hfo ((R1.out.blw hb5).blw (Below.refl _ _).drew) ((R2.out.blw hb5).blw (Below.refl _ _).drew) (by omega) (by omega) (by omega) (by omega) (by omega)
      rw [← hr] at hcall
      have hcall2 : Calls Try.prog 79 #[.agg (encF fl (.slice Ab fl.blocks.length cb)).toArray, .int .u32 (m.next.toNat : Int), .map (some (w.heap.size + 1)), .map (some (w.heap.size + 1 + 1))] w5.drew fun e w' =>
          e = .returned (.bool r) ∧ Bt (w.heap.size + 1) (w.heap.size + 1 + 1) w5.drew w' ∧ Post5 w' := hcall.mono (by rintro e w' ⟨h1, h2, h3⟩; rw [hP5]; exact ⟨h1, h3, h2⟩)
      have Hcall := Lib.hid hcall2
      have Hr := Lib.hid hr
      have HP5 := Lib.hid hP5
      rw [← hr] at Hs
      have Hw5 := Lib.hid hw5
      have Hg := Lib.hid hg
      clear hids hblk hnt hcl hs hmf hfa hpv hr1 hr2 hbI hx5 hb5 hw5 hcall hcall2 hr hP5 hfk
      go_upto_region 5 with (first
        | (refine wpList_load_agg rfl 62 (.tmp 17) rfl (ad.add (k * 4)) rfl (encF fl (.slice Ab fl.blocks.length cb)) Hcl.out Try.underlying62 rfl info_file4 ?_)
        | (refine wpList_alloc_z rfl 62 rfl info_file zeroFc zeroF_cells ?_)
        | (refine wpList_store_new rfl 62 (.tmp 6) (.tmp 18) rfl zeroFc (encF fl (.slice Ab fl.blocks.length cb)) rfl rfl info_file4 rfl (encF_one _ _ rfl) ?_))
      simp only [Act.put, List.setIfInBounds_toArray, List.set_cons_zero, List.set_cons_succ]
      rw [← Hw5.out]
      rw [← Hg.out]
      clear Hcl Hw5
      have hgl : g < w5.heap.size := by omega
      have hgg : w.heap.size + 1 + 1 < g := by have := Hg.out; omega
      by_cases h0 : k = 0
      · have H0 := Lib.hid h0
        have hs2 : filesR m (k + 1) = r := by rw [Hs.out]; simp [h0]
        have Hs2 := Lib.hid hs2
        clear hs2 h0
        refine wp_region_oneL (ds := [19, 20, 21, 22, 23, 24, 25, 26, 27, 28, 29, 30, 31, 32, 33, 34, 35, 36, 37, 38, 39, 40, 41]) 23 20 (fun b v W' => BoxAt 62 W' g (encF fl (.slice Ab fl.blocks.length cb)) ∧ BoxAt 56 W' w.heap.size (encM m (.slice (some ad) m.files.length c)) ∧ Bt (w.heap.size + 1) (w.heap.size + 1 + 1) w5 W' ∧ (b = false → W' = w5.drew) ∧ (b = true → Post5 W')) [some 19, some 20, some 21, some 22, some 23, some 24, some 25, some 26, some 27, some 28, some 29, some 30, some 31, some 32, some 33, some 34, some 35, some 36, some 37, some 38, some 39, some 40, some 41]
          [fun v => v = .int .i64 (k : Int), fun v => v = .bool false, fun v => v = .bool false, fun v => v = undef, fun v => v = undef, fun v => v = undef, fun v => v = undef, fun v => v = undef, fun v => v = undef, fun v => v = undef, fun v => v = undef, fun v => v = undef, fun v => v = undef, fun v => v = .bool false, fun v => v = .bool false, fun v => v = .agg (encF fl (.slice Ab fl.blocks.length cb)).toArray, fun v => v = .pointer (some ⟨w.heap.size, 1, none⟩), fun v => v = .int .u32 (m.next.toNat : Int), fun v => v = .map (some (w.heap.size + 1)), fun v => v = .map (some (w.heap.size + 1 + 1)), fun v => v = .bool r, fun v => v = .bool (!r), fun v => v = .bool (!r)]
          (by decide) rfl rfl rfl (by kernel_rfl) (by kernel_rfl) ?_ (fun _ => ⟨Hx5.out.1, Hx5.out.2, Bt.of (Below.refl _ _).drew, fun _ => rfl, fun h => by cases h⟩) ?_
        · refine ⟨?_, ?_, ?_, ?_, ?_, ?_, ?_, ?_, ?_, ?_, ?_, ?_, ?_, ?_, ?_, ?_, ?_, ?_, ?_, ?_, ?_, ?_, ?_, trivial⟩
          · -- 0: slot 19 := Op.move t5
            refine obO_yes fun f b w' hj hs hp => ?_
            simp [PreO, factO, valOf, Region.binds] at hp
            refine ⟨by simp [Gd, valOf, hp], ?_⟩
            refine mildO_val (.int .i64 (k : Int)) (by decide) ?_ rfl
            simp [execOp, evalF, hp, go_sem]
          · -- 1: slot 20 := Op.binOp BinOp.gtr 3 t19 (const (0:i64)) 3
            refine obO_yes fun f b w' hj hs hp => ?_
            simp [PreO, factO, valOf, Region.binds] at hp
            refine ⟨by simp [Gd, valOf, hp], ?_⟩
            refine mildO_val (.bool false) (by decide) ?_ rfl
            simp [execOp, evalF, hp, go_sem]
            first | done | exact H0.out
          · -- 2: slot 21 := Op.move t20
            refine obO_yes fun f b w' hj hs hp => ?_
            simp [PreO, factO, valOf, Region.binds] at hp
            refine ⟨by simp [Gd, valOf, hp], ?_⟩
            refine mildO_val (.bool false) (by decide) ?_ rfl
            simp [execOp, evalF, hp, go_sem]
          · -- 3: slot 22 := Op.fieldAddr 62 t6 0
            exact obO_no (fun f hp => ⟨by simp [PreO, factO, valOf, Region.binds] at hp; simp [Gd, valOf, hp], rfl⟩) (by decide)
          · -- 4: slot 23 := Op.load 9 t22
            exact obO_no (fun f hp => ⟨by simp [PreO, factO, valOf, Region.binds] at hp; simp [Gd, valOf, hp], rfl⟩) (by decide)
          · -- 5: slot 24 := Op.fieldAddr 56 t1 2
            exact obO_no (fun f hp => ⟨by simp [PreO, factO, valOf, Region.binds] at hp; simp [Gd, valOf, hp], rfl⟩) (by decide)
          · -- 6: slot 25 := Op.load 54 t24
            exact obO_no (fun f hp => ⟨by simp [PreO, factO, valOf, Region.binds] at hp; simp [Gd, valOf, hp], rfl⟩) (by decide)
          · -- 7: slot 26 := Op.move t5
            exact obO_no (fun f hp => ⟨by simp [PreO, factO, valOf, Region.binds] at hp; simp [Gd, valOf, hp], rfl⟩) (by decide)
          · -- 8: slot 27 := Op.binOp BinOp.sub 3 t26 (const (1:i64)) 3
            exact obO_no (fun f hp => ⟨by simp [PreO, factO, valOf, Region.binds] at hp; simp [Gd, valOf, hp], rfl⟩) (by decide)
          · -- 9: slot 28 := Op.indexAddr 54 t25 t27
            exact obO_no (fun f hp => ⟨by simp [PreO, factO, valOf, Region.binds] at hp; simp [Gd, valOf, hp], rfl⟩) (by decide)
          · -- 10: slot 29 := Op.fieldAddr 62 t28 0
            exact obO_no (fun f hp => ⟨by simp [PreO, factO, valOf, Region.binds] at hp; simp [Gd, valOf, hp], rfl⟩) (by decide)
          · -- 11: slot 30 := Op.load 9 t29
            exact obO_no (fun f hp => ⟨by simp [PreO, factO, valOf, Region.binds] at hp; simp [Gd, valOf, hp], rfl⟩) (by decide)
          · -- 12: slot 31 := Op.binOp BinOp.leq 9 t23 t30 9
            exact obO_no (fun f hp => ⟨by simp [PreO, factO, valOf, Region.binds] at hp; simp [Gd, valOf, hp], rfl⟩) (by decide)
          · -- 13: slot 32 := Op.pick t21 t31 (const (Value.bool false))
            refine obO_yes fun f b w' hj hs hp => ?_
            simp [PreO, factO, valOf, Region.binds] at hp
            refine ⟨by simp [Gd, valOf, hp], ?_⟩
            refine mildO_val (.bool false) (by decide) ?_ rfl
            simp [execOp, evalF, hp, go_sem]
          · -- 14: slot 33 := Op.move t32
            refine obO_yes fun f b w' hj hs hp => ?_
            simp [PreO, factO, valOf, Region.binds] at hp
            refine ⟨by simp [Gd, valOf, hp], ?_⟩
            refine mildO_val (.bool false) (by decide) ?_ rfl
            simp [execOp, evalF, hp, go_sem]
          · -- 15: slot 34 := Op.load 62 t6
            refine obO_yes fun f b w' hj hs hp => ?_
            simp [PreO, factO, valOf, Region.binds] at hp
            refine ⟨by simp [Gd, valOf, hp], ?_⟩
            have hr := run_loadVar_cells w' ⟨g, 0, none⟩ 62 (encF fl (.slice Ab fl.blocks.length cb)) hj.1.cells Try.underlying62 rfl info_file4
            refine mildO_val (.agg (encF fl (.slice Ab fl.blocks.length cb)).toArray) (by decide) ?_ rfl
            simp [execOp, evalF, hp, Instr.loadAt, Instr.sureAddr, hr]
          · -- 16: slot 35 := Op.fieldAddr 56 t1 1
            refine obO_yes fun f b w' hj hs hp => ?_
            simp [PreO, factO, valOf, Region.binds] at hp
            refine ⟨by simp [Gd, valOf, hp], ?_⟩
            refine mildO_val (.pointer (some ⟨w.heap.size, 1, none⟩)) (by decide) ?_ rfl
            simp [execOp, evalF, hp, go_sem]
          · -- 17: slot 36 := Op.load 53 t35
            refine obO_yes fun f b w' hj hs hp => ?_
            simp [PreO, factO, valOf, Region.binds] at hp
            refine ⟨by simp [Gd, valOf, hp], ?_⟩
            have hc := hj.2.1.cell 1 _ rfl
            refine mildO_val (.int .u32 (m.next.toNat : Int)) (by decide) ?_ rfl
            simp [execOp, evalF, hp, hc, go_sem]
          · -- 18: slot 37 := Op.move t3
            refine obO_yes fun f b w' hj hs hp => ?_
            simp [PreO, factO, valOf, Region.binds] at hp
            refine ⟨by simp [Gd, valOf, hp], ?_⟩
            refine mildO_val (.map (some (w.heap.size + 1))) (by decide) ?_ rfl
            simp [execOp, evalF, hp, go_sem]
          · -- 19: slot 38 := Op.move t4
            refine obO_yes fun f b w' hj hs hp => ?_
            simp [PreO, factO, valOf, Region.binds] at hp
            refine ⟨by simp [Gd, valOf, hp], ?_⟩
            refine mildO_val (.map (some (w.heap.size + 1 + 1))) (by decide) ?_ rfl
            simp [execOp, evalF, hp, go_sem]
          · -- 20: slot 39 := Op.call   value (Operand.func 79), args := #[t34, t36, t37, t38], argTypes := #[62, 53, 135, 136]  
            refine obO_yes fun f b w' hj hs hp => ?_
            simp [PreO, factO, valOf, Region.binds] at hp
            refine ⟨by simp [Gd, valOf, hp], ?_⟩
            have hb := hs rfl
            have hw' := hj.2.2.2.1 hb
            subst hw'
            refine mildO_call 79 _ _ Try.f79 rfl Try.func79 (by kernel_rfl) (by kernel_rfl) rfl ?_
            refine calls_args (args' := #[.agg (encF fl (.slice Ab fl.blocks.length cb)).toArray, .int .u32 (m.next.toNat : Int), .map (some (w.heap.size + 1)), .map (some (w.heap.size + 1 + 1))]) (by simp [evalF, hp]) ?_
            refine Hcall.out.mono ?_
            rintro _ w9 ⟨rfl, hb9, hp9⟩
            exact ⟨_, rfl, ⟨hb9.box hj.1 (by omega) (by omega), hb9.box hj.2.1 (by omega) (by omega), hb9.pre_drew, fun h => (by cases h), fun _ => hp9⟩, rfl⟩
          · -- 21: slot 40 := Op.unOp UnOp.not 4 t39
            refine obO_yes fun f b w' hj hs hp => ?_
            simp [PreO, factO, valOf, Region.binds] at hp
            refine ⟨by simp [Gd, valOf, hp], ?_⟩
            refine mildO_val (.bool (!r)) (by decide) ?_ rfl
            simp [execOp, evalF, hp, go_sem]
          · -- 22: slot 41 := Op.pick t33 (const (Value.bool true)) t40
            refine obO_yes fun f b w' hj hs hp => ?_
            simp [PreO, factO, valOf, Region.binds] at hp
            refine ⟨by simp [Gd, valOf, hp], ?_⟩
            refine mildO_val (.bool (!r)) (by decide) ?_ rfl
            simp [execOp, evalF, hp, go_sem]
        · intro f wd hj hp
          simp only [PostO] at hp
          obtain ⟨e0, e1, e2, e3, e4, e5, e6, e7, e8, e9, e10, e11, e12, e13, e14, e15, e16, e17, e18, e19, e20, e21, e22, _⟩ := hp
          simp only [fills, List.foldl_cons, List.foldl_nil, Act.put, List.setIfInBounds_toArray, List.set_cons_zero, List.set_cons_succ, e0, e1, e2, e3, e4, e5, e6, e7, e8, e9, e10, e11, e12, e13, e14, e15, e16, e17, e18, e19, e20, e21, e22]
          clear e0 e1 e2 e3 e4 e5 e6 e7 e8 e9 e10 e11 e12 e13 e14 e15 e16 e17 e18 e19 e20 e21 e22
          simp only [List.drop_succ_cons, List.drop_zero]
          obtain ⟨hjx, hjm, hjb, _, hjp⟩ := hj
          have hP := hjp rfl
          rw [HP5.out] at hP
          have Hj := Lib.hid (Hb5.out.trans hjb)
          have HP := Lib.hid hP
          clear hjx hjm hjb hjp hP
          cases hrr : r with
          | true =>
            have hP2 := HP.out hrr
            rw [hrr] at Hs2
            have P1 := Lib.hid (hP2.1.congr Hids.out)
            have P2 := Lib.hid (hP2.2.congr Hblk.out)
            rw [← Hnt.out] at P2
            clear hP2 HP
            go_wp2_with fail
            go_roundw
            case rel => exact ⟨k + 1, by omega, by go_num, Hs2.out, Hj.out, P1.out, P2.out⟩
            case measure => simp [intOf]; omega
          | false =>
            rw [hrr] at Hs2
            have hm := Hmf.out Hs2.out
            have Hm := Lib.hid hm
            clear hm HP
            go_wp2_with fail
            go_ret
            exact ⟨by rw [Hm.out]; rfl, Hb1.out.trans (Hj.out.low (by omega) (by omega) (by omega))⟩
      · obtain ⟨p, hp⟩ : ∃ p, k = p + 1 := ⟨k - 1, by omega⟩
        obtain ⟨pv, hpve, hpvc⟩ := Hpv.out p hp
        have hpl : p < m.files.length := by omega
        have hpv5 := (Hb5w.out.cell (p := ad.add (p * 4)) (by rw [add_block]; omega)).trans hpvc
        have Hpv5 := Lib.hid hpv5
        have hs2 : filesR m (k + 1) = (bless pv.name fl.name && r) := by rw [Hs.out, hpve]; simp [h0]
        have Hp := Lib.hid hp
        clear hpve hpvc hpv5 hp h0 Hpv
        cases hless : bless pv.name fl.name with
        | false =>
          have Hle : Hid (bless fl.name pv.name = true ∨ fl.name = pv.name) := by
            rcases bless_total fl.name pv.name with h | h | h
            · exact .inl h
            · exact .inr h
            · rw [h] at hless; cases hless
          rw [hless] at hs2
          have hm := Hmf.out hs2
          have Hm := Lib.hid hm
          clear hm hs2
          refine wp_region_typed [some 19, some 20, some 21, some 22, some 23, some 24, some 25, some 26, some 27, some 28, some 29, some 30, some 31, some 32, some 33, some 34, some 35, some 36, some 37, some 38, some 39, some 40, some 41] [19, 20, 21, 22, 23, 24, 25, 26, 27, 28, 29, 30, 31, 32, 33, 34, 35, 36, 37, 38, 39, 40, 41]
            [Ph.is (.int .i64 (k : Int)),
              Ph.is (.bool true),
              Ph.is (.bool true),
              Ph.is (.pointer (some ⟨g, 0, none⟩)),
              Ph.is (.string (bst fl.name)),
              Ph.is (.pointer (some ⟨w.heap.size, 2, none⟩)),
              Ph.is (.slice (some ad) m.files.length c),
              Ph.is (.int .i64 (k : Int)),
              Ph.is (.int .i64 (p : Int)),
              Ph.is (.pointer (some (ad.add (p * 4)))),
              Ph.is (.pointer (some (ad.add (p * 4)))),
              Ph.is (.string (bst pv.name)),
              Ph.is (.bool true),
              Ph.is (.bool true),
              Ph.is (.bool true),
              Ph.is undef,
              Ph.is undef,
              Ph.is undef,
              Ph.is undef,
              Ph.is undef,
              Ph.is undef,
              Ph.is undef,
              Ph.is (.bool true)] rfl rfl (by kernel_rfl) (by kernel_rfl) ?_ ?_
          · refine ⟨?_, ?_, ?_, ?_, ?_, ?_, ?_, ?_, ?_, ?_, ?_, ?_, ?_, ?_, ?_, ?_, ?_, ?_, ?_, ?_, ?_, ?_, ?_, trivial⟩
            · -- 0: slot 19 := Op.move t5
              refine ob_yes fun f w' hb hp => ?_
              simp [PreOf, factOf, valOf, Ph.is, Ph.by_, Ph.any, Region.binds] at hp
              refine ⟨by simp [Gd, valOf, hp], ?_⟩
              refine mild_val (.int .i64 (k : Int)) ?_ rfl
              simp [execOp, evalF, hp]
            · -- 1: slot 20 := Op.binOp BinOp.gtr 3 t19 (const (0:i64)) 3
              refine ob_yes fun f w' hb hp => ?_
              simp [PreOf, factOf, valOf, Ph.is, Ph.by_, Ph.any, Region.binds] at hp
              refine ⟨by simp [Gd, valOf, hp], ?_⟩
              refine mild_val (.bool true) ?_ rfl
              simp [execOp, evalF, hp, go_sem]
              first | done | (have := Hp.out; omega)
            · -- 2: slot 21 := Op.move t20
              refine ob_yes fun f w' hb hp => ?_
              simp [PreOf, factOf, valOf, Ph.is, Ph.by_, Ph.any, Region.binds] at hp
              refine ⟨by simp [Gd, valOf, hp], ?_⟩
              refine mild_val (.bool true) ?_ rfl
              simp [execOp, evalF, hp]
            · -- 3: slot 22 := Op.fieldAddr 62 t6 0
              refine ob_yes fun f w' hb hp => ?_
              simp [PreOf, factOf, valOf, Ph.is, Ph.by_, Ph.any, Region.binds] at hp
              refine ⟨by simp [Gd, valOf, hp], ?_⟩
              refine mild_val (.pointer (some ⟨g, 0, none⟩)) ?_ rfl
              simp [execOp, evalF, hp, go_sem]
            · -- 4: slot 23 := Op.load 9 t22
              refine ob_yes fun f w' hb hp => ?_
              simp [PreOf, factOf, valOf, Ph.is, Ph.by_, Ph.any, Region.binds] at hp
              refine ⟨by simp [Gd, valOf, hp], ?_⟩
              refine mild_val (.string (bst fl.name)) ?_ rfl
              have hc := (Hx5.out.1.blwM hb).cell 0 _ rfl
              simp [execOp, evalF, hp, hc, go_sem]
            · -- 5: slot 24 := Op.fieldAddr 56 t1 2
              refine ob_yes fun f w' hb hp => ?_
              simp [PreOf, factOf, valOf, Ph.is, Ph.by_, Ph.any, Region.binds] at hp
              refine ⟨by simp [Gd, valOf, hp], ?_⟩
              refine mild_val (.pointer (some ⟨w.heap.size, 2, none⟩)) ?_ rfl
              simp [execOp, evalF, hp, go_sem]
            · -- 6: slot 25 := Op.load 54 t24
              refine ob_yes fun f w' hb hp => ?_
              simp [PreOf, factOf, valOf, Ph.is, Ph.by_, Ph.any, Region.binds] at hp
              refine ⟨by simp [Gd, valOf, hp], ?_⟩
              refine mild_val (.slice (some ad) m.files.length c) ?_ rfl
              have hc := (Hx5.out.2.blwM hb).cell 2 _ rfl
              simp [execOp, evalF, hp, hc, go_sem]
            · -- 7: slot 26 := Op.move t5
              refine ob_yes fun f w' hb hp => ?_
              simp [PreOf, factOf, valOf, Ph.is, Ph.by_, Ph.any, Region.binds] at hp
              refine ⟨by simp [Gd, valOf, hp], ?_⟩
              refine mild_val (.int .i64 (k : Int)) ?_ rfl
              simp [execOp, evalF, hp]
            · -- 8: slot 27 := Op.binOp BinOp.sub 3 t26 (const (1:i64)) 3
              refine ob_yes fun f w' hb hp => ?_
              simp [PreOf, factOf, valOf, Ph.is, Ph.by_, Ph.any, Region.binds] at hp
              refine ⟨by simp [Gd, valOf, hp], ?_⟩
              refine mild_val (.int .i64 (p : Int)) ?_ rfl
              simp [execOp, evalF, hp, go_sem]
              first | done | (rw [wrap_i64]; have := Hp.out; omega) | (have := Hp.out; omega)
            · -- 9: slot 28 := Op.indexAddr 54 t25 t27
              refine ob_yes fun f w' hb hp => ?_
              simp [PreOf, factOf, valOf, Ph.is, Ph.by_, Ph.any, Region.binds] at hp
              refine ⟨by simp [Gd, valOf, hp], ?_⟩
              refine mild_val (.pointer (some (ad.add (p * 4)))) ?_ rfl
              simp [execOp, evalF, hp, go_sem, hpl]
            · -- 10: slot 29 := Op.fieldAddr 62 t28 0
              refine ob_yes fun f w' hb hp => ?_
              simp [PreOf, factOf, valOf, Ph.is, Ph.by_, Ph.any, Region.binds] at hp
              refine ⟨by simp [Gd, valOf, hp], ?_⟩
              refine mild_val (.pointer (some (ad.add (p * 4)))) ?_ rfl
              simp [execOp, evalF, hp, go_sem]
            · -- 11: slot 30 := Op.load 9 t29
              refine ob_yes fun f w' hb hp => ?_
              simp [PreOf, factOf, valOf, Ph.is, Ph.by_, Ph.any, Region.binds] at hp
              refine ⟨by simp [Gd, valOf, hp], ?_⟩
              refine mild_val (.string (bst pv.name)) ?_ rfl
              have hc := (hb.cell (p := ad.add (p * 4)) (by rw [add_block]; omega)).trans Hpv5.out
              simp [execOp, evalF, hp, hc, go_sem]
            · -- 12: slot 31 := Op.binOp BinOp.leq 9 t23 t30 9
              refine ob_yes fun f w' hb hp => ?_
              simp [PreOf, factOf, valOf, Ph.is, Ph.by_, Ph.any, Region.binds] at hp
              refine ⟨by simp [Gd, valOf, hp], ?_⟩
              refine mild_val (.bool true) ?_ rfl
              simp [execOp, evalF, hp, go_sem, Op.stringOp, bst_toList, hless]
              first | done | exact Hle.out
            · -- 13: slot 32 := Op.pick t21 t31 (const (Value.bool false))
              refine ob_yes fun f w' hb hp => ?_
              simp [PreOf, factOf, valOf, Ph.is, Ph.by_, Ph.any, Region.binds] at hp
              refine ⟨by simp [Gd, valOf, hp], ?_⟩
              refine mild_val (.bool true) ?_ rfl
              simp [execOp, evalF, hp, go_sem]
            · -- 14: slot 33 := Op.move t32
              refine ob_yes fun f w' hb hp => ?_
              simp [PreOf, factOf, valOf, Ph.is, Ph.by_, Ph.any, Region.binds] at hp
              refine ⟨by simp [Gd, valOf, hp], ?_⟩
              refine mild_val (.bool true) ?_ rfl
              simp [execOp, evalF, hp]
            · -- 15: slot 34 := Op.load 62 t6
              refine ob_no fun f w' hb hp => ?_
              simp [PreOf, factOf, valOf, Ph.is, Ph.by_, Ph.any, Region.binds] at hp
              exact ⟨by simp [Gd, valOf, hp], rfl⟩
            · -- 16: slot 35 := Op.fieldAddr 56 t1 1
              refine ob_no fun f w' hb hp => ?_
              simp [PreOf, factOf, valOf, Ph.is, Ph.by_, Ph.any, Region.binds] at hp
              exact ⟨by simp [Gd, valOf, hp], rfl⟩
            · -- 17: slot 36 := Op.load 53 t35
              refine ob_no fun f w' hb hp => ?_
              simp [PreOf, factOf, valOf, Ph.is, Ph.by_, Ph.any, Region.binds] at hp
              exact ⟨by simp [Gd, valOf, hp], rfl⟩
            · -- 18: slot 37 := Op.move t3
              refine ob_no fun f w' hb hp => ?_
              simp [PreOf, factOf, valOf, Ph.is, Ph.by_, Ph.any, Region.binds] at hp
              exact ⟨by simp [Gd, valOf, hp], rfl⟩
            · -- 19: slot 38 := Op.move t4
              refine ob_no fun f w' hb hp => ?_
              simp [PreOf, factOf, valOf, Ph.is, Ph.by_, Ph.any, Region.binds] at hp
              exact ⟨by simp [Gd, valOf, hp], rfl⟩
            · -- 20: slot 39 := Op.call   value (Operand.func 79), args := #[t34, t36, t37, t38], argTypes := #[62, 53, 135, 136]  
              refine ob_no fun f w' hb hp => ?_
              simp [PreOf, factOf, valOf, Ph.is, Ph.by_, Ph.any, Region.binds] at hp
              exact ⟨by simp [Gd, valOf, hp], rfl⟩
            · -- 21: slot 40 := Op.unOp UnOp.not 4 t39
              refine ob_no fun f w' hb hp => ?_
              simp [PreOf, factOf, valOf, Ph.is, Ph.by_, Ph.any, Region.binds] at hp
              exact ⟨by simp [Gd, valOf, hp], rfl⟩
            · -- 22: slot 41 := Op.pick t33 (const (Value.bool true)) t40
              refine ob_yes fun f w' hb hp => ?_
              simp [PreOf, factOf, valOf, Ph.is, Ph.by_, Ph.any, Region.binds] at hp
              refine ⟨by simp [Gd, valOf, hp], ?_⟩
              refine mild_val (.bool true) ?_ rfl
              simp [execOp, evalF, hp, go_sem]
          · intro f w2 hb2 hp
            simp only [PostOf, Ph.is, Ph.by_, Ph.any] at hp
            obtain ⟨h0, h1, h2, h3, h4, h5, h6, h7, h8, h9, h10, h11, h12, h13, h14, h15, h16, h17, h18, h19, h20, h21, h22, _⟩ := hp
            simp only [fills, List.foldl_cons, List.foldl_nil, Act.put, List.setIfInBounds_toArray, List.set_cons_zero, List.set_cons_succ, h0, h1, h2, h3, h4, h5, h6, h7, h8, h9, h10, h11, h12, h13, h14, h15, h16, h17, h18, h19, h20, h21, h22]
            clear h0 h1 h2 h3 h4 h5 h6 h7 h8 h9 h10 h11 h12 h13 h14 h15 h16 h17 h18 h19 h20 h21 h22
            have Hend := Lib.hid (Hlow.out.trans (hb2.mono (show w.heap.size ≤ w5.heap.size by omega)))
            clear hb2
            go_wp2_with fail
            go_ret
            exact ⟨by rw [Hm.out]; rfl, Hend.out⟩
        | true =>
          have Hle : Hid (bless fl.name pv.name = false ∧ ¬ fl.name = pv.name) := by
            refine ⟨?_, fun e => ?_⟩
            · cases hx : bless fl.name pv.name with
              | false => rfl
              | true => have := bless_trans _ _ _ hless hx; rw [bless_irrefl] at this; cases this
            · rw [e, bless_irrefl] at hless; cases hless
          rw [hless, Bool.true_and] at hs2
          have Hs2 := Lib.hid hs2
          clear hs2
          refine wp_region_oneL (ds := [19, 20, 21, 22, 23, 24, 25, 26, 27, 28, 29, 30, 31, 32, 33, 34, 35, 36, 37, 38, 39, 40, 41]) 23 20 (fun b v W' => BoxAt 62 W' g (encF fl (.slice Ab fl.blocks.length cb)) ∧ BoxAt 56 W' w.heap.size (encM m (.slice (some ad) m.files.length c)) ∧ Bt (w.heap.size + 1) (w.heap.size + 1 + 1) w5 W' ∧ (b = false → W' = w5.drew) ∧ (b = true → Post5 W')) [some 19, some 20, some 21, some 22, some 23, some 24, some 25, some 26, some 27, some 28, some 29, some 30, some 31, some 32, some 33, some 34, some 35, some 36, some 37, some 38, some 39, some 40, some 41]
            [fun v => v = .int .i64 (k : Int), fun v => v = .bool true, fun v => v = .bool true, fun v => v = .pointer (some ⟨g, 0, none⟩), fun v => v = .string (bst fl.name), fun v => v = .pointer (some ⟨w.heap.size, 2, none⟩), fun v => v = .slice (some ad) m.files.length c, fun v => v = .int .i64 (k : Int), fun v => v = .int .i64 (p : Int), fun v => v = .pointer (some (ad.add (p * 4))), fun v => v = .pointer (some (ad.add (p * 4))), fun v => v = .string (bst pv.name), fun v => v = .bool false, fun v => v = .bool false, fun v => v = .bool false, fun v => v = .agg (encF fl (.slice Ab fl.blocks.length cb)).toArray, fun v => v = .pointer (some ⟨w.heap.size, 1, none⟩), fun v => v = .int .u32 (m.next.toNat : Int), fun v => v = .map (some (w.heap.size + 1)), fun v => v = .map (some (w.heap.size + 1 + 1)), fun v => v = .bool r, fun v => v = .bool (!r), fun v => v = .bool (!r)]
            (by decide) rfl rfl rfl (by kernel_rfl) (by kernel_rfl) ?_ (fun _ => ⟨Hx5.out.1, Hx5.out.2, Bt.of (Below.refl _ _).drew, fun _ => rfl, fun h => by cases h⟩) ?_
          · refine ⟨?_, ?_, ?_, ?_, ?_, ?_, ?_, ?_, ?_, ?_, ?_, ?_, ?_, ?_, ?_, ?_, ?_, ?_, ?_, ?_, ?_, ?_, ?_, trivial⟩
            · -- 0: slot 19 := Op.move t5
              refine obO_yes fun f b w' hj hs hp => ?_
              simp [PreO, factO, valOf, Region.binds] at hp
              refine ⟨by simp [Gd, valOf, hp], ?_⟩
              refine mildO_val (.int .i64 (k : Int)) (by decide) ?_ rfl
              simp [execOp, evalF, hp, go_sem]
            · -- 1: slot 20 := Op.binOp BinOp.gtr 3 t19 (const (0:i64)) 3
              refine obO_yes fun f b w' hj hs hp => ?_
              simp [PreO, factO, valOf, Region.binds] at hp
              refine ⟨by simp [Gd, valOf, hp], ?_⟩
              refine mildO_val (.bool true) (by decide) ?_ rfl
              simp [execOp, evalF, hp, go_sem]
              first | done | (have := Hp.out; omega)
            · -- 2: slot 21 := Op.move t20
              refine obO_yes fun f b w' hj hs hp => ?_
              simp [PreO, factO, valOf, Region.binds] at hp
              refine ⟨by simp [Gd, valOf, hp], ?_⟩
              refine mildO_val (.bool true) (by decide) ?_ rfl
              simp [execOp, evalF, hp, go_sem]
            · -- 3: slot 22 := Op.fieldAddr 62 t6 0
              refine obO_yes fun f b w' hj hs hp => ?_
              simp [PreO, factO, valOf, Region.binds] at hp
              refine ⟨by simp [Gd, valOf, hp], ?_⟩
              refine mildO_val (.pointer (some ⟨g, 0, none⟩)) (by decide) ?_ rfl
              simp [execOp, evalF, hp, go_sem]
            · -- 4: slot 23 := Op.load 9 t22
              refine obO_yes fun f b w' hj hs hp => ?_
              simp [PreO, factO, valOf, Region.binds] at hp
              refine ⟨by simp [Gd, valOf, hp], ?_⟩
              have hc := hj.1.cell 0 _ rfl
              refine mildO_val (.string (bst fl.name)) (by decide) ?_ rfl
              simp [execOp, evalF, hp, hc, go_sem]
            · -- 5: slot 24 := Op.fieldAddr 56 t1 2
              refine obO_yes fun f b w' hj hs hp => ?_
              simp [PreO, factO, valOf, Region.binds] at hp
              refine ⟨by simp [Gd, valOf, hp], ?_⟩
              refine mildO_val (.pointer (some ⟨w.heap.size, 2, none⟩)) (by decide) ?_ rfl
              simp [execOp, evalF, hp, go_sem]
            · -- 6: slot 25 := Op.load 54 t24
              refine obO_yes fun f b w' hj hs hp => ?_
              simp [PreO, factO, valOf, Region.binds] at hp
              refine ⟨by simp [Gd, valOf, hp], ?_⟩
              have hc := hj.2.1.cell 2 _ rfl
              refine mildO_val (.slice (some ad) m.files.length c) (by decide) ?_ rfl
              simp [execOp, evalF, hp, hc, go_sem]
            · -- 7: slot 26 := Op.move t5
              refine obO_yes fun f b w' hj hs hp => ?_
              simp [PreO, factO, valOf, Region.binds] at hp
              refine ⟨by simp [Gd, valOf, hp], ?_⟩
              refine mildO_val (.int .i64 (k : Int)) (by decide) ?_ rfl
              simp [execOp, evalF, hp, go_sem]
            · -- 8: slot 27 := Op.binOp BinOp.sub 3 t26 (const (1:i64)) 3
              refine obO_yes fun f b w' hj hs hp => ?_
              simp [PreO, factO, valOf, Region.binds] at hp
              refine ⟨by simp [Gd, valOf, hp], ?_⟩
              refine mildO_val (.int .i64 (p : Int)) (by decide) ?_ rfl
              simp [execOp, evalF, hp, go_sem]
              first | done | (rw [wrap_i64]; have := Hp.out; omega) | (have := Hp.out; omega)
            · -- 9: slot 28 := Op.indexAddr 54 t25 t27
              refine obO_yes fun f b w' hj hs hp => ?_
              simp [PreO, factO, valOf, Region.binds] at hp
              refine ⟨by simp [Gd, valOf, hp], ?_⟩
              refine mildO_val (.pointer (some (ad.add (p * 4)))) (by decide) ?_ rfl
              simp [execOp, evalF, hp, go_sem, hpl]
            · -- 10: slot 29 := Op.fieldAddr 62 t28 0
              refine obO_yes fun f b w' hj hs hp => ?_
              simp [PreO, factO, valOf, Region.binds] at hp
              refine ⟨by simp [Gd, valOf, hp], ?_⟩
              refine mildO_val (.pointer (some (ad.add (p * 4)))) (by decide) ?_ rfl
              simp [execOp, evalF, hp, go_sem]
            · -- 11: slot 30 := Op.load 9 t29
              refine obO_yes fun f b w' hj hs hp => ?_
              simp [PreO, factO, valOf, Region.binds] at hp
              refine ⟨by simp [Gd, valOf, hp], ?_⟩
              have hc := hj.2.2.1.block (ad.add (p * 4)).block (by rw [add_block]; omega) (by rw [add_block]; omega) (by rw [add_block]; omega)
              have hc2 : w'.cell? (ad.add (p * 4)) = some (.string (bst pv.name)) := (cell_of_block hc).trans Hpv5.out
              refine mildO_val (.string (bst pv.name)) (by decide) ?_ rfl
              simp [execOp, evalF, hp, hc2, go_sem]
            · -- 12: slot 31 := Op.binOp BinOp.leq 9 t23 t30 9
              refine obO_yes fun f b w' hj hs hp => ?_
              simp [PreO, factO, valOf, Region.binds] at hp
              refine ⟨by simp [Gd, valOf, hp], ?_⟩
              refine mildO_val (.bool false) (by decide) ?_ rfl
              simp [execOp, evalF, hp, go_sem, Op.stringOp, bst_toList, hless]
              first | done | exact Hle.out
            · -- 13: slot 32 := Op.pick t21 t31 (const (Value.bool false))
              refine obO_yes fun f b w' hj hs hp => ?_
              simp [PreO, factO, valOf, Region.binds] at hp
              refine ⟨by simp [Gd, valOf, hp], ?_⟩
              refine mildO_val (.bool false) (by decide) ?_ rfl
              simp [execOp, evalF, hp, go_sem]
            · -- 14: slot 33 := Op.move t32
              refine obO_yes fun f b w' hj hs hp => ?_
              simp [PreO, factO, valOf, Region.binds] at hp
              refine ⟨by simp [Gd, valOf, hp], ?_⟩
              refine mildO_val (.bool false) (by decide) ?_ rfl
              simp [execOp, evalF, hp, go_sem]
            · -- 15: slot 34 := Op.load 62 t6
              refine obO_yes fun f b w' hj hs hp => ?_
              simp [PreO, factO, valOf, Region.binds] at hp
              refine ⟨by simp [Gd, valOf, hp], ?_⟩
              have hr := run_loadVar_cells w' ⟨g, 0, none⟩ 62 (encF fl (.slice Ab fl.blocks.length cb)) hj.1.cells Try.underlying62 rfl info_file4
              refine mildO_val (.agg (encF fl (.slice Ab fl.blocks.length cb)).toArray) (by decide) ?_ rfl
              simp [execOp, evalF, hp, Instr.loadAt, Instr.sureAddr, hr]
            · -- 16: slot 35 := Op.fieldAddr 56 t1 1
              refine obO_yes fun f b w' hj hs hp => ?_
              simp [PreO, factO, valOf, Region.binds] at hp
              refine ⟨by simp [Gd, valOf, hp], ?_⟩
              refine mildO_val (.pointer (some ⟨w.heap.size, 1, none⟩)) (by decide) ?_ rfl
              simp [execOp, evalF, hp, go_sem]
            · -- 17: slot 36 := Op.load 53 t35
              refine obO_yes fun f b w' hj hs hp => ?_
              simp [PreO, factO, valOf, Region.binds] at hp
              refine ⟨by simp [Gd, valOf, hp], ?_⟩
              have hc := hj.2.1.cell 1 _ rfl
              refine mildO_val (.int .u32 (m.next.toNat : Int)) (by decide) ?_ rfl
              simp [execOp, evalF, hp, hc, go_sem]
            · -- 18: slot 37 := Op.move t3
              refine obO_yes fun f b w' hj hs hp => ?_
              simp [PreO, factO, valOf, Region.binds] at hp
              refine ⟨by simp [Gd, valOf, hp], ?_⟩
              refine mildO_val (.map (some (w.heap.size + 1))) (by decide) ?_ rfl
              simp [execOp, evalF, hp, go_sem]
            · -- 19: slot 38 := Op.move t4
              refine obO_yes fun f b w' hj hs hp => ?_
              simp [PreO, factO, valOf, Region.binds] at hp
              refine ⟨by simp [Gd, valOf, hp], ?_⟩
              refine mildO_val (.map (some (w.heap.size + 1 + 1))) (by decide) ?_ rfl
              simp [execOp, evalF, hp, go_sem]
            · -- 20: slot 39 := Op.call   value (Operand.func 79), args := #[t34, t36, t37, t38], argTypes := #[62, 53, 135, 136]  
              refine obO_yes fun f b w' hj hs hp => ?_
              simp [PreO, factO, valOf, Region.binds] at hp
              refine ⟨by simp [Gd, valOf, hp], ?_⟩
              have hb := hs rfl
              have hw' := hj.2.2.2.1 hb
              subst hw'
              refine mildO_call 79 _ _ Try.f79 rfl Try.func79 (by kernel_rfl) (by kernel_rfl) rfl ?_
              refine calls_args (args' := #[.agg (encF fl (.slice Ab fl.blocks.length cb)).toArray, .int .u32 (m.next.toNat : Int), .map (some (w.heap.size + 1)), .map (some (w.heap.size + 1 + 1))]) (by simp [evalF, hp]) ?_
              refine Hcall.out.mono ?_
              rintro _ w9 ⟨rfl, hb9, hp9⟩
              exact ⟨_, rfl, ⟨hb9.box hj.1 (by omega) (by omega), hb9.box hj.2.1 (by omega) (by omega), hb9.pre_drew, fun h => (by cases h), fun _ => hp9⟩, rfl⟩
            · -- 21: slot 40 := Op.unOp UnOp.not 4 t39
              refine obO_yes fun f b w' hj hs hp => ?_
              simp [PreO, factO, valOf, Region.binds] at hp
              refine ⟨by simp [Gd, valOf, hp], ?_⟩
              refine mildO_val (.bool (!r)) (by decide) ?_ rfl
              simp [execOp, evalF, hp, go_sem]
            · -- 22: slot 41 := Op.pick t33 (const (Value.bool true)) t40
              refine obO_yes fun f b w' hj hs hp => ?_
              simp [PreO, factO, valOf, Region.binds] at hp
              refine ⟨by simp [Gd, valOf, hp], ?_⟩
              refine mildO_val (.bool (!r)) (by decide) ?_ rfl
              simp [execOp, evalF, hp, go_sem]
          · intro f wd hj hp
            simp only [PostO] at hp
            obtain ⟨e0, e1, e2, e3, e4, e5, e6, e7, e8, e9, e10, e11, e12, e13, e14, e15, e16, e17, e18, e19, e20, e21, e22, _⟩ := hp
            simp only [fills, List.foldl_cons, List.foldl_nil, Act.put, List.setIfInBounds_toArray, List.set_cons_zero, List.set_cons_succ, e0, e1, e2, e3, e4, e5, e6, e7, e8, e9, e10, e11, e12, e13, e14, e15, e16, e17, e18, e19, e20, e21, e22]
            clear e0 e1 e2 e3 e4 e5 e6 e7 e8 e9 e10 e11 e12 e13 e14 e15 e16 e17 e18 e19 e20 e21 e22
            simp only [List.drop_succ_cons, List.drop_zero]
            obtain ⟨hjx, hjm, hjb, _, hjp⟩ := hj
            have hP := hjp rfl
            rw [HP5.out] at hP
            have Hj := Lib.hid (Hb5.out.trans hjb)
            have HP := Lib.hid hP
            clear hjx hjm hjb hjp hP
            cases hrr : r with
            | true =>
              have hP2 := HP.out hrr
              rw [hrr] at Hs2
              have P1 := Lib.hid (hP2.1.congr Hids.out)
              have P2 := Lib.hid (hP2.2.congr Hblk.out)
              rw [← Hnt.out] at P2
              clear hP2 HP
              go_wp2_with fail
              go_roundw
              case rel => exact ⟨k + 1, by omega, by go_num, Hs2.out, Hj.out, P1.out, P2.out⟩
              case measure => simp [intOf]; omega
            | false =>
              rw [hrr] at Hs2
              have hm := Hmf.out Hs2.out
              have Hm := Lib.hid hm
              clear hm HP
              go_wp2_with fail
              go_ret
              exact ⟨by rw [Hm.out]; rfl, Hb1.out.trans (Hj.out.low (by omega) (by omega) (by omega))⟩
    · obtain rfl : k = m.files.length := by omega
      have hm : mayM m = decide ((bodyM m).length + 13 ≤ 2048) := by unfold mayM; rw [Hfr.out]; rfl
      have Hm := Lib.hid hm
      clear hm hr1 hr2
      go_wp2_with (refine wpList_load_agg rfl 56 (.tmp 1) rfl ⟨w.heap.size, 0, none⟩ rfl (encM m (.slice A m.files.length c)) Xm.out.cells Try.underlying56 rfl info_man3 ?_)
      refine (body_any wr _ m ⟨_, rfl, (Hf.out.below Hwr.out).more (by omega)⟩ (by omega)).mono ?_
      rintro _ w2 ⟨v2, rfl, how2, hb2⟩
      have hb12 := how2.by_
      obtain ⟨A2, c2, rfl, hd1, hd2⟩ := how2.form_
      have Hb3 := Lib.hid (Hwr.out.trans (hb2.mono (show w.heap.size ≤ wr.heap.size by omega)))
      have Hby := Lib.hid hb12
      have hs2 := hb2.size
      generalize bodyM m = L at *
      clear how2 hb2 hb12 Xm
      go_wp2_with fail
      by_cases hlong : L.length ≤ 1048576
      · refine (fput_any w2 w2.heap.size _ [] (Ow.nil_ _ _) 77 _ L Hby.out hlong (by simp) (Nat.le_refl _)).mono ?_
        rintro _ w3 ⟨v3, rfl, ho3, hx3⟩
        rw [List.nil_append] at ho3
        obtain ⟨A3, c3, rfl, he1, he2⟩ := ho3.form_
        have Hb4 := Lib.hid (bstepB Hb3.out (hx3.below (Nat.le_refl _) (by simp [Value.ownBlock])) (by omega))
        have hfl := frameOf_length 77 L
        generalize frameOf 77 L = FL at *
        clear ho3 hx3
        go_wp2_with fail
        go_ret
        exact ⟨by rw [Hm.out]; (try simp); (try omega), Hb4.out⟩
      · refine (fput_long w2 _ 77 A2 L.length c2 (by omega) hd1 hd2.1).mono ?_
        rintro _ w3 ⟨rfl, hb3⟩
        have Hb4 := Lib.hid (bstepB Hb3.out hb3 (by omega))
        have hm : mayM m = false := by rw [Hm.out]; simp; omega
        have Hm2 := Lib.hid hm
        clear hb3 hm
        go_wp2_with fail
        go_ret
        exact ⟨by rw [Hm2.out]; rfl, Hb4.out⟩
end Go.Proofs.Ytpoicbhbkabllaa
