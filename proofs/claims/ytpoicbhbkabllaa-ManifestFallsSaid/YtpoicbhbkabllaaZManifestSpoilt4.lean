/- Lemmas for the law ManifestSpoilt: manifest.May (printed by wip/gen/mann.py); manifest.Put; manifest.Write in plain: what a disk has behind it; leaving a call with loops' records; What is read of a manifest's bytes, plainly; how a manifest that is being read lies in memory; Disks: the document's, in plain, and that it agrees with the program's.; The document's disks: how one lies in memory; zeros, last, New, deed, bit.; The document's disks: Good, Read, New, deed (printed by wip/gen/rdisk2.py); The document's disks: New, deed; manifest.read (printed by wip/gen/mant.py); cmp.Compare of strings; the comparison that Find hands over.; slices.BinarySearchFunc over files; manifest.Find; manifest.Find; manifest.Get; a head that tells of too many bytes; a section of which one byte is turned isn't read; A manifest's bytes are read as it stood; one byte spoilt in a slot.; stores of whole structs, the world behind them told by facts alone; palmerref09.Same; manifest.slot; slices.ContainsFunc of a byte that is not 0. No condition. -/
import Derived.Test.YtpoicbhbkabllaaZManifestSpoilt3
import Derived.Carry
import Derived.BigQuiet
namespace Go.Proofs.Ytpoicbhbkabllaa
set_option linter.unusedSimpArgs false
set_option linter.unusedVariables false
open Go.RowKit Go.Maps

theorem obO_no {P : Program} {dl : List (Option Nat)} {Φ : List (Value → Prop)} {ds : List Nat} {a : Act} {s i : Nat} {J : Bool → Value → World → Prop} {ph : Value → Prop} {o : Oper}
    (h : ∀ f, PreO dl Φ f o.after.toList → ¬ Gd dl f o.guard ∧ ph undef) (hi : i ≠ s) : ObO P dl Φ ds a s J i ph o :=
  fun f b w' _ _ h3 => ⟨fun hg => absurd hg (h f h3).1, fun _ => ⟨(h f h3).2, hi⟩⟩
theorem Bt.pre_drew {m1 m2 : Nat} {a b : World} (h : Bt m1 m2 a.drew b) : Bt m1 m2 a b := ⟨h.os, h.tape, h.output, h.size, h.block⟩
theorem cell_of_block {w w' : World} {p : Addr} (h : w'.heap[p.block]? = w.heap[p.block]?) : w'.cell? p = w.cell? p := by unfold World.cell?; rw [h]
def idsOf (l : List MFile) : List Int := l.map fun f => (f.id.toNat : Int)
def blksOf (l : List MFile) : List Int := l.flatMap (·.blocks)
def nblk (l : List MFile) : Nat := (l.map fun f => f.blocks.length).sum
theorem beside_all (f : MFile) : ∀ prev : List MFile, prev.all (fun p => besideF p f) = (!(decide ((f.id.toNat : Int) ∈ idsOf prev)) && prev.all fun p => bless p.name f.name)
  | [] => by simp [idsOf]
  | p :: t => by
    have hi : (p.id = f.id) ↔ ((f.id.toNat : Int) = (p.id.toNat : Int)) := by
      rw [← UInt32.toNat_inj]
      omega
    rw [List.all_cons, List.all_cons, beside_all f t]
    unfold besideF idsOf
    simp only [List.map_cons, List.mem_cons]
    by_cases h1 : p.id = f.id
    · have := hi.1 h1
      simp [h1]
    · have h2 : ¬ ((f.id.toNat : Int) = (p.id.toNat : Int)) := fun e => h1 (hi.2 e)
      simp only [h1, h2, decide_false, Bool.false_or, false_or, Bool.not_not]
      cases bless p.name f.name <;> simp
theorem notin_all (x : Int) : ∀ prev : List MFile, prev.all (fun p => !decide (x ∈ p.blocks)) = !decide (x ∈ blksOf prev)
  | [] => by simp [blksOf]
  | p :: t => by
    rw [List.all_cons, notin_all x t]
    have e : blksOf (p :: t) = p.blocks ++ blksOf t := rfl
    rw [e]
    simp only [List.mem_append]
    by_cases h1 : x ∈ p.blocks <;> simp [h1]
theorem blkC_same (prev : List MFile) (l : List Int) (a : Nat) : blockOk prev l a = blkC (blksOf prev) l a := by
  unfold blockOk blkC
  rw [notin_all]
  generalize l.getD a 0 = x
  simp only [List.mem_append]
  by_cases h1 : x ∈ l.take a <;> by_cases h2 : x ∈ blksOf prev <;> by_cases h3 : x < 32 <;> by_cases h4 : 65536 ≤ x <;> simp [h1, h2, h3, h4]
theorem blksC_same (prev : List MFile) (l : List Int) (n : Nat) : blocksOk prev l n = blksC (blksOf prev) l n := by
  unfold blocksOk blksC
  congr 1
  funext a
  exact blkC_same prev l a
theorem filesR_rise (m : MMan) (k : Nat) (hk : k ≤ m.files.length) (h : filesR m k = true) (a b : Nat) (hb : b < k) (hab : a < b) : bless (m.files[a]'(by omega)).name (m.files[b]'(by omega)).name = true := by
  have := filesR_at m k b h hb hk
  unfold fileR at this
  rw [beside_all] at this
  simp only [Bool.and_eq_true, List.all_eq_true] at this
  refine this.1.2.2 _ ?_
  rw [List.mem_take_iff_getElem]
  exact ⟨a, by omega, rfl⟩
/-- one file's turn, as the code tells it -/
theorem round_eq (m : MMan) (k : Nat) (hk : k < m.files.length) (h : filesR m k = true) : fileR m.next (m.files.take k) m.files[k] =
    ((decide (k = 0) || bless (m.files[k - 1]'(by omega)).name m.files[k].name) && rightC m.next (idsOf (m.files.take k)) (blksOf (m.files.take k)) m.files[k]) := by
  have hall : (m.files.take k).all (fun p => bless p.name m.files[k].name) = (decide (k = 0) || bless (m.files[k - 1]'(by omega)).name m.files[k].name) := by
    by_cases h0 : k = 0
    · subst h0
      simp
    · simp only [h0, decide_false, Bool.false_or]
      cases hb : bless (m.files[k - 1]'(by omega)).name m.files[k].name with
      | true =>
        rw [List.all_eq_true]
        intro p hp
        obtain ⟨a, ha, rfl⟩ := List.mem_take_iff_getElem.1 hp
        have ha' : a < k := by omega
        rcases Nat.lt_or_ge a (k - 1) with hl | hl
        · exact bless_trans _ _ _ (filesR_rise m k (by omega) h a (k - 1) (by omega) hl) hb
        · obtain rfl : a = k - 1 := by omega
          exact hb
      | false =>
        rw [List.all_eq_false]
        refine ⟨m.files[k - 1]'(by omega), ?_, by simp [hb]⟩
        rw [List.mem_take_iff_getElem]
        exact ⟨k - 1, by omega, rfl⟩
  unfold fileR rightC
  rw [beside_all, hall, blksC_same]
  generalize basicF m.next m.files[k] = q1
  generalize decide ((m.files[k].id.toNat : Int) ∈ idsOf (m.files.take k)) = q2
  generalize (decide (k = 0) || bless (m.files[k - 1]'(by omega)).name m.files[k].name) = q3
  generalize blksC (blksOf (m.files.take k)) m.files[k].blocks m.files[k].blocks.length = q4
  cases q1 <;> cases q2 <;> cases q3 <;> cases q4 <;> rfl
theorem vput_pos (n : Nat) (h : n < 18446744073709551616) : 1 ≤ (vput n).length := (vput_len64 n h).1
theorem nums_ge (l : List Int) : l.length ≤ (nums l).length := by
  induction l with
  | nil => simp [nums]
  | cons x l ih =>
    have e : nums (x :: l) = vput (u64Of x) ++ nums l := rfl
    have := vput_pos (u64Of x) (u64Of_lt x)
    rw [e, List.length_append, List.length_cons]
    omega
theorem nblk_le : ∀ l : List MFile, nblk l ≤ (l.flatMap bodyF).length
  | [] => by simp [nblk]
  | f :: t => by
    have e : nblk (f :: t) = f.blocks.length + nblk t := by simp [nblk]
    rw [e, List.flatMap_cons, List.length_append, bodyF_len]
    have := nblk_le t
    have := nums_ge f.blocks
    omega
theorem len_le : ∀ l : List MFile, l.length ≤ (l.flatMap bodyF).length
  | [] => by simp
  | f :: t => by
    rw [List.flatMap_cons, List.length_append, bodyF_len, List.length_cons]
    have := len_le t
    have := vput_pos f.id.toNat (by have := u32_lt f.id; omega)
    omega
theorem nblk_take (l : List MFile) (k : Nat) (hk : k < l.length) : nblk (l.take (k + 1)) = nblk (l.take k) + l[k].blocks.length := by
  unfold nblk
  rw [List.take_add_one, List.getElem?_eq_getElem hk, Option.toList_some, List.map_append, List.sum_append]
  simp
theorem nblk_take_le (l : List MFile) (k : Nat) (hk : k < l.length) : nblk (l.take k) + l[k].blocks.length ≤ (l.flatMap bodyF).length := by
  rw [← nblk_take l k hk]
  refine Nat.le_trans (nblk_le _) ?_
  have e : l.flatMap bodyF = (l.take (k + 1)).flatMap bodyF ++ (l.drop (k + 1)).flatMap bodyF := by rw [← List.flatMap_append, List.take_append_drop]
  rw [e, List.length_append]
  omega
theorem ids_take (l : List MFile) (k : Nat) (hk : k < l.length) (x : Int) : x ∈ (l[k].id.toNat : Int) :: idsOf (l.take k) ↔ x ∈ idsOf (l.take (k + 1)) := by
  unfold idsOf
  rw [List.take_add_one, List.getElem?_eq_getElem hk, Option.toList_some, List.map_append, List.mem_append, List.mem_cons]
  simp only [List.map_cons, List.map_nil, List.mem_singleton]
  exact Or.comm
theorem blks_take (l : List MFile) (k : Nat) (hk : k < l.length) (x : Int) : x ∈ l[k].blocks ++ blksOf (l.take k) ↔ x ∈ blksOf (l.take (k + 1)) := by
  unfold blksOf
  rw [List.take_add_one, List.getElem?_eq_getElem hk, Option.toList_some, List.flatMap_append, List.mem_append, List.mem_append, List.flatMap_cons, List.flatMap_nil, List.append_nil]
  exact Or.comm

set_option maxRecDepth 100000 in
set_option maxHeartbeats 6400000 in
theorem may_any (w : World) (v : Value) (m : MMan) (h : MAt w w.heap.size v m) (hsz : (bodyM m).length ≤ 274877906944) :
    Calls Try.prog 54 #[v] w fun e w' => e = .returned (.bool (mayM m)) ∧ Below w.heap.size w w' := by
  obtain ⟨vf, rfl, hf⟩ := h
  obtain ⟨A, c, rfl, hc1, hc2⟩ := hf.form
  unfold maxLen at hc2
  have hfb : (m.files.flatMap bodyF).length ≤ 274877906944 := by have := bodyM_len m; omega
  have hnf : m.files.length ≤ 274877906944 := Nat.le_trans (len_le m.files) hfb
  have hnx := u32_lt m.next
  obtain ⟨w0, hw0⟩ : ∃ w0, w0 = w.alloc (.cells (encM m (.slice A m.files.length c)).toArray 56) := ⟨_, rfl⟩
  have hb0 : Below w.heap.size w w0 := by rw [hw0]; exact balloc w _
  have hx0 : BoxAt 56 w0 w.heap.size (encM m (.slice A m.files.length c)) := by rw [hw0]; exact BoxAt.new_ _ _ _
  have hz0 : w0.heap.size = w.heap.size + 1 := by rw [hw0]; simp
  obtain ⟨w1, hw1⟩ : ∃ w1, w1 = (w0.alloc (.map #[] 0)).alloc (.map #[] 0) := ⟨_, rfl⟩
  have hb01 : Below w0.heap.size w0 w1 := by rw [hw1]; exact bstep (balloc w0 _) (balloc _ _)
  have hz1 : w1.heap.size = w.heap.size + 1 + 1 + 1 := by rw [hw1]; simp [hz0]
  have hS1 : MSet 53 .u32 w1 (w.heap.size + 1) 0 [] := by rw [hw1, ← hz0]; exact (MSet.new_ _ _ w0).blw (balloc _ _)
  have hS2 : MSet 3 .i64 w1 (w.heap.size + 1 + 1) 0 [] := by
    have := MSet.new_ 3 .i64 (w0.alloc (.map #[] 0))
    rw [World.size_alloc, hz0] at this
    rw [hw1]
    exact this
  have hmm := @run_makeMap Try.prog
  have hx1 := hx0.blwM hb01
  have hb1 := bstep hb0 hb01
  have Hw0 := Lib.hid hw0
  have Hw1 := Lib.hid hw1
  have X1 := Lib.hid hx1
  have Hb1 := Lib.hid hb1
  have Hf := Lib.hid hf
  have hc2x := hx1.cell 2 _ rfl
  clear hw0 hw1 hx0 hx1 hb0 hb01 hb1 hf
  go_enter Try.func54, Try.ntmps54
  go_upto_region 1 with (fail)
  rw [← Hw0.out]
  go_upto_region 2 with (fail)
  rw [← Hw1.out]
  try simp only [hz0, World.size_alloc]
  go_wp2_with fail
  go_loopw [14] (fun iv wr => ∃ k : Nat, k ≤ m.files.length ∧ iv = .int .i64 k ∧ filesR m k = true ∧ Bt (w.heap.size + 1) (w.heap.size + 1 + 1) w1 wr ∧
    MSet 53 .u32 wr (w.heap.size + 1) k (idsOf (m.files.take k)) ∧ MSet 3 .i64 wr (w.heap.size + 1 + 1) (nblk (m.files.take k)) (blksOf (m.files.take k))) (fun i _ => m.files.length - (intOf i).toNat)
  case atStart => exact ⟨0, by omega, rfl, rfl, Bt.of (Below.refl _ _), hS1, hS2⟩
  case round =>
    obtain ⟨k, hk, rfl, hfr, hbr, hr1, hr2⟩ := hrel
    have Hbr := Lib.hid hbr
    have hsz := hbr.size
    have Hfr := Lib.hid hfr
    have Xm := Lib.hid (hbr.box X1.out (by omega) (by omega))
    have Hwr := Lib.hid (Hb1.out.trans (hbr.low (B := w.heap.size) (by omega) (by omega) (by omega)))
    clear hbr hc2x hfr hS1 hS2 Hw0 Hw1 hmm
    by_cases hlt : k < m.files.length
    · have hs := filesR_succ m k hlt
      rw [Hfr.out, Bool.true_and, round_eq m k hlt Hfr.out] at hs
      have hfa := fun h => filesR_false m (k + 1) h m.files.length (by omega)
      have hmf : filesR m (k + 1) = false → mayM m = false := fun h => by unfold mayM; rw [hfa h]; rfl
      obtain ⟨_, ad, vb, rfl, hab, hbI, hfo, hcl⟩ := (Hf.out.below Hwr.out).cells k hlt
      obtain ⟨Ab, cb, rfl, hcb1, hcb2⟩ := hbI.form
      have hids := ids_take m.files k hlt
      have hblk := blks_take m.files k hlt
      have hnb := nblk_take_le m.files k hlt
      have hnt := nblk_take m.files k hlt
      have hpv : ∀ p, k = p + 1 → ∃ pv : MFile, m.files[k - 1]'(by omega) = pv ∧ wr.cell? (ad.add (p * 4)) = some (.string (bst pv.name)) := fun p hp => by
        obtain ⟨_, ad', vb', e, _, _, _, hcl'⟩ := (Hf.out.below Hwr.out).cells p (by omega)
        injection e with e
        subst e
        have e3 : m.files[k - 1]'(by omega) = m.files[p]'(by omega) := by congr 1; omega
        refine ⟨_, e3, ?_⟩
        have := hcl' 0 _ rfl
        rw [Addr.add, if_pos rfl] at this
        exact this
      have hkl : ∀ p, k = p + 1 → p < m.files.length := fun p hp => by omega
      generalize hfk : m.files[k] = fl at *
      have hid := u32_lt fl.id
      have Hids := Lib.hid hids
      have Hblk := Lib.hid hblk
      have Hnt := Lib.hid hnt
      have Hcl := Lib.hid hcl
      have Hs := Lib.hid hs
      have Hmf := Lib.hid hmf
      have Hpv := Lib.hid hpv
      have R1 := Lib.hid hr1
      have R2 := Lib.hid hr2
      have HbI := Lib.hid hbI
      obtain ⟨w5, hw5⟩ : ∃ w5, w5 = wr.alloc (.cells (encF fl (.slice Ab fl.blocks.length cb)).toArray 62) := ⟨_, rfl⟩
      obtain ⟨g, hg⟩ : ∃ g, g = wr.heap.size := ⟨_, rfl⟩
      have hb5 : Below wr.heap.size wr w5 := by rw [hw5]; exact balloc wr _
      have hx5 : BoxAt 62 w5 g (encF fl (.slice Ab fl.blocks.length cb)) := by rw [hw5, hg]; exact BoxAt.new_ _ _ _
      have hz5 : w5.heap.size = g + 1 := by rw [hw5, hg]; simp
      have Hx5 := Lib.hid (And.intro hx5 (Xm.out.blwM hb5))
      have Hb5 := Lib.hid (Hbr.out.step hb5)
      have Hb5w := Lib.hid hb5
      have Hlow := Lib.hid (Hwr.out.trans (hb5.mono (show w.heap.size ≤ wr.heap.size by omega)))
      obtain ⟨r, hr⟩ : ∃ r, r = rightC m.next (idsOf (m.files.take k)) (blksOf (m.files.take k)) fl := ⟨_, rfl⟩
      obtain ⟨Post5, hP5⟩ : ∃ Q : World → Prop, Q = fun W' => (r = true → MSet 53 .u32 W' (w.heap.size + 1) (k + 1) ((fl.id.toNat : Int) :: idsOf (m.files.take k)) ∧ MSet 3 .i64 W' (w.heap.size + 1 + 1) (nblk (m.files.take k) + fl.blocks.length) (fl.blocks ++ blksOf (m.files.take k))) := ⟨_, rfl⟩
      have hcall := right_any w5.drew w.heap.size (show w.heap.size ≤ w5.heap.size by omega) fl (.slice Ab fl.blocks.length cb) m.next (w.heap.size + 1) (w.heap.size + 1 + 1) k (nblk (m.files.take k)) (idsOf (m.files.take k)) (blksOf (m.files.take k))
        ((hbI.below (hb5.mono (by omega))).below (Below.refl _ _).drew) hfo ((R1.out.blw hb5).blw (Below.refl _ _).drew) ((R2.out.blw hb5).blw (Below.refl _ _).drew) (by omega) (by omega) (by omega) (by omega) (by omega)
      rw [← hr] at hcall
      have hcall2 : Calls Try.prog 79 #[.agg (encF fl (.slice Ab fl.blocks.length cb)).toArray, .int .u32 (m.next.toNat : Int), .map (some (w.heap.size + 1)), .map (some (w.heap.size + 1 + 1))] w5.drew fun e w' =>
          e = .returned (.bool r) ∧ Bt (w.heap.size + 1) (w.heap.size + 1 + 1) w5.drew w' ∧ Post5 w' := hcall.mono (by rintro e w' ⟨h1, h2, h3⟩; rw [hP5]; exact ⟨h1, h3, h2⟩)
      have Hcall := Lib.hid hcall2
      have Hr := Lib.hid hr
      have HP5 := Lib.hid hP5
      rw [← hr] at Hs
      have Hw5 := Lib.hid hw5
      have Hg := Lib.hid hg
      clear hids hblk hnt hcl hs hmf hfa hpv hr1 hr2 hbI hx5 hb5 hw5 hcall hcall2 hr hP5 hfk
      go_upto_region 5 with (first
        | (refine wpList_load_agg rfl 62 (.tmp 17) rfl (ad.add (k * 4)) rfl (encF fl (.slice Ab fl.blocks.length cb)) Hcl.out Try.underlying62 rfl info_file4 ?_)
        | (refine wpList_alloc_z rfl 62 rfl info_file zeroFc zeroF_cells ?_)
        | (refine wpList_store_new rfl 62 (.tmp 6) (.tmp 18) rfl zeroFc (encF fl (.slice Ab fl.blocks.length cb)) rfl rfl info_file4 rfl (encF_one _ _ rfl) ?_))
      simp only [Act.put, List.setIfInBounds_toArray, List.set_cons_zero, List.set_cons_succ]
      rw [← Hw5.out]
      rw [← Hg.out]
      clear Hcl Hw5
      have hgl : g < w5.heap.size := by omega
      have hgg : w.heap.size + 1 + 1 < g := by have := Hg.out; omega
      by_cases h0 : k = 0
      · have H0 := Lib.hid h0
        have hs2 : filesR m (k + 1) = r := by rw [Hs.out]; simp [h0]
        have Hs2 := Lib.hid hs2
        clear hs2 h0
        refine wp_region_oneL (ds := [19, 20, 21, 22, 23, 24, 25, 26, 27, 28, 29, 30, 31, 32, 33, 34, 35, 36, 37, 38, 39, 40, 41]) 23 20 (fun b v W' => BoxAt 62 W' g (encF fl (.slice Ab fl.blocks.length cb)) ∧ BoxAt 56 W' w.heap.size (encM m (.slice (some ad) m.files.length c)) ∧ Bt (w.heap.size + 1) (w.heap.size + 1 + 1) w5 W' ∧ (b = false → W' = w5.drew) ∧ (b = true → Post5 W')) [some 19, some 20, some 21, some 22, some 23, some 24, some 25, some 26, some 27, some 28, some 29, some 30, some 31, some 32, some 33, some 34, some 35, some 36, some 37, some 38, some 39, some 40, some 41]
          [fun v => v = .int .i64 (k : Int), fun v => v = .bool false, fun v => v = .bool false, fun v => v = undef, fun v => v = undef, fun v => v = undef, fun v => v = undef, fun v => v = undef, fun v => v = undef, fun v => v = undef, fun v => v = undef, fun v => v = undef, fun v => v = undef, fun v => v = .bool false, fun v => v = .bool false, fun v => v = .agg (encF fl (.slice Ab fl.blocks.length cb)).toArray, fun v => v = .pointer (some ⟨w.heap.size, 1, none⟩), fun v => v = .int .u32 (m.next.toNat : Int), fun v => v = .map (some (w.heap.size + 1)), fun v => v = .map (some (w.heap.size + 1 + 1)), fun v => v = .bool r, fun v => v = .bool (!r), fun v => v = .bool (!r)]
          (by decide) rfl rfl rfl (by kernel_rfl) (by kernel_rfl) ?_ (fun _ => ⟨Hx5.out.1, Hx5.out.2, Bt.of (Below.refl _ _).drew, fun _ => rfl, fun h => by cases h⟩) ?_
        · refine ⟨?_, ?_, ?_, ?_, ?_, ?_, ?_, ?_, ?_, ?_, ?_, ?_, ?_, ?_, ?_, ?_, ?_, ?_, ?_, ?_, ?_, ?_, ?_, trivial⟩
          · -- 0: slot 19 := Op.move t5
            refine obO_yes fun f b w' hj hs hp => ?_
            simp [PreO, factO, valOf, Region.binds] at hp
            refine ⟨by simp [Gd, valOf, hp], ?_⟩
            refine mildO_val (.int .i64 (k : Int)) (by decide) ?_ rfl
            simp [execOp, evalF, hp, go_sem]
          · -- 1: slot 20 := Op.binOp BinOp.gtr 3 t19 (const (0:i64)) 3
            refine obO_yes fun f b w' hj hs hp => ?_
            simp [PreO, factO, valOf, Region.binds] at hp
            refine ⟨by simp [Gd, valOf, hp], ?_⟩
            refine mildO_val (.bool false) (by decide) ?_ rfl
            simp [execOp, evalF, hp, go_sem]
            first | done | exact H0.out
          · -- 2: slot 21 := Op.move t20
            refine obO_yes fun f b w' hj hs hp => ?_
            simp [PreO, factO, valOf, Region.binds] at hp
            refine ⟨by simp [Gd, valOf, hp], ?_⟩
            refine mildO_val (.bool false) (by decide) ?_ rfl
            simp [execOp, evalF, hp, go_sem]
          · -- 3: slot 22 := Op.fieldAddr 62 t6 0
            exact obO_no (fun f hp => ⟨by simp [PreO, factO, valOf, Region.binds] at hp; simp [Gd, valOf, hp], rfl⟩) (by decide)
          · -- 4: slot 23 := Op.load 9 t22
            exact obO_no (fun f hp => ⟨by simp [PreO, factO, valOf, Region.binds] at hp; simp [Gd, valOf, hp], rfl⟩) (by decide)
          · -- 5: slot 24 := Op.fieldAddr 56 t1 2
            exact obO_no (fun f hp => ⟨by simp [PreO, factO, valOf, Region.binds] at hp; simp [Gd, valOf, hp], rfl⟩) (by decide)
          · -- 6: slot 25 := Op.load 54 t24
            exact obO_no (fun f hp => ⟨by simp [PreO, factO, valOf, Region.binds] at hp; simp [Gd, valOf, hp], rfl⟩) (by decide)
          · -- 7: slot 26 := Op.move t5
            exact obO_no (fun f hp => ⟨by simp [PreO, factO, valOf, Region.binds] at hp; simp [Gd, valOf, hp], rfl⟩) (by decide)
          · -- 8: slot 27 := Op.binOp BinOp.sub 3 t26 (const (1:i64)) 3
            exact obO_no (fun f hp => ⟨by simp [PreO, factO, valOf, Region.binds] at hp; simp [Gd, valOf, hp], rfl⟩) (by decide)
          · -- 9: slot 28 := Op.indexAddr 54 t25 t27
            exact obO_no (fun f hp => ⟨by simp [PreO, factO, valOf, Region.binds] at hp; simp [Gd, valOf, hp], rfl⟩) (by decide)
          · -- 10: slot 29 := Op.fieldAddr 62 t28 0
            exact obO_no (fun f hp => ⟨by simp [PreO, factO, valOf, Region.binds] at hp; simp [Gd, valOf, hp], rfl⟩) (by decide)
          · -- 11: slot 30 := Op.load 9 t29
            exact obO_no (fun f hp => ⟨by simp [PreO, factO, valOf, Region.binds] at hp; simp [Gd, valOf, hp], rfl⟩) (by decide)
          · -- 12: slot 31 := Op.binOp BinOp.leq 9 t23 t30 9
            exact obO_no (fun f hp => ⟨by simp [PreO, factO, valOf, Region.binds] at hp; simp [Gd, valOf, hp], rfl⟩) (by decide)
          · -- 13: slot 32 := Op.pick t21 t31 (const (Value.bool false))
            refine obO_yes fun f b w' hj hs hp => ?_
            simp [PreO, factO, valOf, Region.binds] at hp
            refine ⟨by simp [Gd, valOf, hp], ?_⟩
            refine mildO_val (.bool false) (by decide) ?_ rfl
            simp [execOp, evalF, hp, go_sem]
          · -- 14: slot 33 := Op.move t32
            refine obO_yes fun f b w' hj hs hp => ?_
            simp [PreO, factO, valOf, Region.binds] at hp
            refine ⟨by simp [Gd, valOf, hp], ?_⟩
            refine mildO_val (.bool false) (by decide) ?_ rfl
            simp [execOp, evalF, hp, go_sem]
          · -- 15: slot 34 := Op.load 62 t6
            refine obO_yes fun f b w' hj hs hp => ?_
            simp [PreO, factO, valOf, Region.binds] at hp
            refine ⟨by simp [Gd, valOf, hp], ?_⟩
            have hr := run_loadVar_cells w' ⟨g, 0, none⟩ 62 (encF fl (.slice Ab fl.blocks.length cb)) hj.1.cells Try.underlying62 rfl info_file4
            refine mildO_val (.agg (encF fl (.slice Ab fl.blocks.length cb)).toArray) (by decide) ?_ rfl
            simp [execOp, evalF, hp, Instr.loadAt, Instr.sureAddr, hr]
          · -- 16: slot 35 := Op.fieldAddr 56 t1 1
            refine obO_yes fun f b w' hj hs hp => ?_
            simp [PreO, factO, valOf, Region.binds] at hp
            refine ⟨by simp [Gd, valOf, hp], ?_⟩
            refine mildO_val (.pointer (some ⟨w.heap.size, 1, none⟩)) (by decide) ?_ rfl
            simp [execOp, evalF, hp, go_sem]
          · -- 17: slot 36 := Op.load 53 t35
            refine obO_yes fun f b w' hj hs hp => ?_
            simp [PreO, factO, valOf, Region.binds] at hp
            refine ⟨by simp [Gd, valOf, hp], ?_⟩
            have hc := hj.2.1.cell 1 _ rfl
            refine mildO_val (.int .u32 (m.next.toNat : Int)) (by decide) ?_ rfl
            simp [execOp, evalF, hp, hc, go_sem]
          · -- 18: slot 37 := Op.move t3
            refine obO_yes fun f b w' hj hs hp => ?_
            simp [PreO, factO, valOf, Region.binds] at hp
            refine ⟨by simp [Gd, valOf, hp], ?_⟩
            refine mildO_val (.map (some (w.heap.size + 1))) (by decide) ?_ rfl
            simp [execOp, evalF, hp, go_sem]
          · -- 19: slot 38 := Op.move t4
            refine obO_yes fun f b w' hj hs hp => ?_
            simp [PreO, factO, valOf, Region.binds] at hp
            refine ⟨by simp [Gd, valOf, hp], ?_⟩
            refine mildO_val (.map (some (w.heap.size + 1 + 1))) (by decide) ?_ rfl
            simp [execOp, evalF, hp, go_sem]
          · -- 20: slot 39 := Op.call   value (Operand.func 79), args := #[t34, t36, t37, t38], argTypes := #[62, 53, 135, 136]  
            refine obO_yes fun f b w' hj hs hp => ?_
            simp [PreO, factO, valOf, Region.binds] at hp
            refine ⟨by simp [Gd, valOf, hp], ?_⟩
            have hb := hs rfl
            have hw' := hj.2.2.2.1 hb
            subst hw'
            refine mildO_call 79 _ _ Try.f79 rfl Try.func79 (by kernel_rfl) (by kernel_rfl) rfl ?_
            refine calls_args (args' := #[.agg (encF fl (.slice Ab fl.blocks.length cb)).toArray, .int .u32 (m.next.toNat : Int), .map (some (w.heap.size + 1)), .map (some (w.heap.size + 1 + 1))]) (by simp [evalF, hp]) ?_
            refine Hcall.out.mono ?_
            rintro _ w9 ⟨rfl, hb9, hp9⟩
            exact ⟨_, rfl, ⟨hb9.box hj.1 (by omega) (by omega), hb9.box hj.2.1 (by omega) (by omega), hb9.pre_drew, fun h => (by cases h), fun _ => hp9⟩, rfl⟩
          · -- 21: slot 40 := Op.unOp UnOp.not 4 t39
            refine obO_yes fun f b w' hj hs hp => ?_
            simp [PreO, factO, valOf, Region.binds] at hp
            refine ⟨by simp [Gd, valOf, hp], ?_⟩
            refine mildO_val (.bool (!r)) (by decide) ?_ rfl
            simp [execOp, evalF, hp, go_sem]
          · -- 22: slot 41 := Op.pick t33 (const (Value.bool true)) t40
            refine obO_yes fun f b w' hj hs hp => ?_
            simp [PreO, factO, valOf, Region.binds] at hp
            refine ⟨by simp [Gd, valOf, hp], ?_⟩
            refine mildO_val (.bool (!r)) (by decide) ?_ rfl
            simp [execOp, evalF, hp, go_sem]
        · intro f wd hj hp
          simp only [PostO] at hp
          obtain ⟨e0, e1, e2, e3, e4, e5, e6, e7, e8, e9, e10, e11, e12, e13, e14, e15, e16, e17, e18, e19, e20, e21, e22, _⟩ := hp
          simp only [fills, List.foldl_cons, List.foldl_nil, Act.put, List.setIfInBounds_toArray, List.set_cons_zero, List.set_cons_succ, e0, e1, e2, e3, e4, e5, e6, e7, e8, e9, e10, e11, e12, e13, e14, e15, e16, e17, e18, e19, e20, e21, e22]
          clear e0 e1 e2 e3 e4 e5 e6 e7 e8 e9 e10 e11 e12 e13 e14 e15 e16 e17 e18 e19 e20 e21 e22
          simp only [List.drop_succ_cons, List.drop_zero]
          obtain ⟨hjx, hjm, hjb, _, hjp⟩ := hj
          have hP := hjp rfl
          rw [HP5.out] at hP
          have Hj := Lib.hid (Hb5.out.trans hjb)
          have HP := Lib.hid hP
          clear hjx hjm hjb hjp hP
          cases hrr : r with
          | true =>
            have hP2 := HP.out hrr
            rw [hrr] at Hs2
            have P1 := Lib.hid (hP2.1.congr Hids.out)
            have P2 := Lib.hid (hP2.2.congr Hblk.out)
            rw [← Hnt.out] at P2
            clear hP2 HP
            go_wp2_with fail
            go_roundw
            case rel => exact ⟨k + 1, by omega, by go_num, Hs2.out, Hj.out, P1.out, P2.out⟩
            case measure => simp [intOf]; omega
          | false =>
            rw [hrr] at Hs2
            have hm := Hmf.out Hs2.out
            have Hm := Lib.hid hm
            clear hm HP
            go_wp2_with fail
            go_ret
            exact ⟨by rw [Hm.out]; rfl, Hb1.out.trans (Hj.out.low (by omega) (by omega) (by omega))⟩
      · obtain ⟨p, hp⟩ : ∃ p, k = p + 1 := ⟨k - 1, by omega⟩
        obtain ⟨pv, hpve, hpvc⟩ := Hpv.out p hp
        have hpl : p < m.files.length := by omega
        have hpv5 := (Hb5w.out.cell (p := ad.add (p * 4)) (by rw [add_block]; omega)).trans hpvc
        have Hpv5 := Lib.hid hpv5
        have hs2 : filesR m (k + 1) = (bless pv.name fl.name && r) := by rw [Hs.out, hpve]; simp [h0]
        have Hp := Lib.hid hp
        clear hpve hpvc hpv5 hp h0 Hpv
        cases hless : bless pv.name fl.name with
        | false =>
          have Hle : Hid (bless fl.name pv.name = true ∨ fl.name = pv.name) := by
            rcases bless_total fl.name pv.name with h | h | h
            · exact .inl h
            · exact .inr h
            · rw [h] at hless; cases hless
          rw [hless] at hs2
          have hm := Hmf.out hs2
          have Hm := Lib.hid hm
          clear hm hs2
          refine wp_region_typed [some 19, some 20, some 21, some 22, some 23, some 24, some 25, some 26, some 27, some 28, some 29, some 30, some 31, some 32, some 33, some 34, some 35, some 36, some 37, some 38, some 39, some 40, some 41] [19, 20, 21, 22, 23, 24, 25, 26, 27, 28, 29, 30, 31, 32, 33, 34, 35, 36, 37, 38, 39, 40, 41]
            [Ph.is (.int .i64 (k : Int)),
              Ph.is (.bool true),
              Ph.is (.bool true),
              Ph.is (.pointer (some ⟨g, 0, none⟩)),
              Ph.is (.string (bst fl.name)),
              Ph.is (.pointer (some ⟨w.heap.size, 2, none⟩)),
              Ph.is (.slice (some ad) m.files.length c),
              Ph.is (.int .i64 (k : Int)),
              Ph.is (.int .i64 (p : Int)),
              Ph.is (.pointer (some (ad.add (p * 4)))),
              Ph.is (.pointer (some (ad.add (p * 4)))),
              Ph.is (.string (bst pv.name)),
              Ph.is (.bool true),
              Ph.is (.bool true),
              Ph.is (.bool true),
              Ph.is undef,
              Ph.is undef,
              Ph.is undef,
              Ph.is undef,
              Ph.is undef,
              Ph.is undef,
              Ph.is undef,
              Ph.is (.bool true)] rfl rfl (by kernel_rfl) (by kernel_rfl) ?_ ?_
          · refine ⟨?_, ?_, ?_, ?_, ?_, ?_, ?_, ?_, ?_, ?_, ?_, ?_, ?_, ?_, ?_, ?_, ?_, ?_, ?_, ?_, ?_, ?_, ?_, trivial⟩
            · -- 0: slot 19 := Op.move t5
              refine ob_yes fun f w' hb hp => ?_
              simp [PreOf, factOf, valOf, Ph.is, Ph.by_, Ph.any, Region.binds] at hp
              refine ⟨by simp [Gd, valOf, hp], ?_⟩
              refine mild_val (.int .i64 (k : Int)) ?_ rfl
              simp [execOp, evalF, hp]
            · -- 1: slot 20 := Op.binOp BinOp.gtr 3 t19 (const (0:i64)) 3
              refine ob_yes fun f w' hb hp => ?_
              simp [PreOf, factOf, valOf, Ph.is, Ph.by_, Ph.any, Region.binds] at hp
              refine ⟨by simp [Gd, valOf, hp], ?_⟩
              refine mild_val (.bool true) ?_ rfl
              simp [execOp, evalF, hp, go_sem]
              first | done | (have := Hp.out; omega)
            · -- 2: slot 21 := Op.move t20
              refine ob_yes fun f w' hb hp => ?_
              simp [PreOf, factOf, valOf, Ph.is, Ph.by_, Ph.any, Region.binds] at hp
              refine ⟨by simp [Gd, valOf, hp], ?_⟩
              refine mild_val (.bool true) ?_ rfl
              simp [execOp, evalF, hp]
            · -- 3: slot 22 := Op.fieldAddr 62 t6 0
              refine ob_yes fun f w' hb hp => ?_
              simp [PreOf, factOf, valOf, Ph.is, Ph.by_, Ph.any, Region.binds] at hp
              refine ⟨by simp [Gd, valOf, hp], ?_⟩
              refine mild_val (.pointer (some ⟨g, 0, none⟩)) ?_ rfl
              simp [execOp, evalF, hp, go_sem]
            · -- 4: slot 23 := Op.load 9 t22
              refine ob_yes fun f w' hb hp => ?_
              simp [PreOf, factOf, valOf, Ph.is, Ph.by_, Ph.any, Region.binds] at hp
              refine ⟨by simp [Gd, valOf, hp], ?_⟩
              refine mild_val (.string (bst fl.name)) ?_ rfl
              have hc := (Hx5.out.1.blwM hb).cell 0 _ rfl
              simp [execOp, evalF, hp, hc, go_sem]
            · -- 5: slot 24 := Op.fieldAddr 56 t1 2
              refine ob_yes fun f w' hb hp => ?_
              simp [PreOf, factOf, valOf, Ph.is, Ph.by_, Ph.any, Region.binds] at hp
              refine ⟨by simp [Gd, valOf, hp], ?_⟩
              refine mild_val (.pointer (some ⟨w.heap.size, 2, none⟩)) ?_ rfl
              simp [execOp, evalF, hp, go_sem]
            · -- 6: slot 25 := Op.load 54 t24
              refine ob_yes fun f w' hb hp => ?_
              simp [PreOf, factOf, valOf, Ph.is, Ph.by_, Ph.any, Region.binds] at hp
              refine ⟨by simp [Gd, valOf, hp], ?_⟩
              refine mild_val (.slice (some ad) m.files.length c) ?_ rfl
              have hc := (Hx5.out.2.blwM hb).cell 2 _ rfl
              simp [execOp, evalF, hp, hc, go_sem]
            · -- 7: slot 26 := Op.move t5
              refine ob_yes fun f w' hb hp => ?_
              simp [PreOf, factOf, valOf, Ph.is, Ph.by_, Ph.any, Region.binds] at hp
              refine ⟨by simp [Gd, valOf, hp], ?_⟩
              refine mild_val (.int .i64 (k : Int)) ?_ rfl
              simp [execOp, evalF, hp]
            · -- 8: slot 27 := Op.binOp BinOp.sub 3 t26 (const (1:i64)) 3
              refine ob_yes fun f w' hb hp => ?_
              simp [PreOf, factOf, valOf, Ph.is, Ph.by_, Ph.any, Region.binds] at hp
              refine ⟨by simp [Gd, valOf, hp], ?_⟩
              refine mild_val (.int .i64 (p : Int)) ?_ rfl
              simp [execOp, evalF, hp, go_sem]
              first | done | (rw [wrap_i64]; have := Hp.out; omega) | (have := Hp.out; omega)
            · -- 9: slot 28 := Op.indexAddr 54 t25 t27
              refine ob_yes fun f w' hb hp => ?_
              simp [PreOf, factOf, valOf, Ph.is, Ph.by_, Ph.any, Region.binds] at hp
              refine ⟨by simp [Gd, valOf, hp], ?_⟩
              refine mild_val (.pointer (some (ad.add (p * 4)))) ?_ rfl
              simp [execOp, evalF, hp, go_sem, hpl]
            · -- 10: slot 29 := Op.fieldAddr 62 t28 0
              refine ob_yes fun f w' hb hp => ?_
              simp [PreOf, factOf, valOf, Ph.is, Ph.by_, Ph.any, Region.binds] at hp
              refine ⟨by simp [Gd, valOf, hp], ?_⟩
              refine mild_val (.pointer (some (ad.add (p * 4)))) ?_ rfl
              simp [execOp, evalF, hp, go_sem]
            · -- 11: slot 30 := Op.load 9 t29
              refine ob_yes fun f w' hb hp => ?_
              simp [PreOf, factOf, valOf, Ph.is, Ph.by_, Ph.any, Region.binds] at hp
              refine ⟨by simp [Gd, valOf, hp], ?_⟩
              refine mild_val (.string (bst pv.name)) ?_ rfl
              have hc := (hb.cell (p := ad.add (p * 4)) (by rw [add_block]; omega)).trans Hpv5.out
              simp [execOp, evalF, hp, hc, go_sem]
            · -- 12: slot 31 := Op.binOp BinOp.leq 9 t23 t30 9
              refine ob_yes fun f w' hb hp => ?_
              simp [PreOf, factOf, valOf, Ph.is, Ph.by_, Ph.any, Region.binds] at hp
              refine ⟨by simp [Gd, valOf, hp], ?_⟩
              refine mild_val (.bool true) ?_ rfl
              simp [execOp, evalF, hp, go_sem, Op.stringOp, bst_toList, hless]
              first | done | exact Hle.out
            · -- 13: slot 32 := Op.pick t21 t31 (const (Value.bool false))
              refine ob_yes fun f w' hb hp => ?_
              simp [PreOf, factOf, valOf, Ph.is, Ph.by_, Ph.any, Region.binds] at hp
              refine ⟨by simp [Gd, valOf, hp], ?_⟩
              refine mild_val (.bool true) ?_ rfl
              simp [execOp, evalF, hp, go_sem]
            · -- 14: slot 33 := Op.move t32
              refine ob_yes fun f w' hb hp => ?_
              simp [PreOf, factOf, valOf, Ph.is, Ph.by_, Ph.any, Region.binds] at hp
              refine ⟨by simp [Gd, valOf, hp], ?_⟩
              refine mild_val (.bool true) ?_ rfl
              simp [execOp, evalF, hp]
            · -- 15: slot 34 := Op.load 62 t6
              refine ob_no fun f w' hb hp => ?_
              simp [PreOf, factOf, valOf, Ph.is, Ph.by_, Ph.any, Region.binds] at hp
              exact ⟨by simp [Gd, valOf, hp], rfl⟩
            · -- 16: slot 35 := Op.fieldAddr 56 t1 1
              refine ob_no fun f w' hb hp => ?_
              simp [PreOf, factOf, valOf, Ph.is, Ph.by_, Ph.any, Region.binds] at hp
              exact ⟨by simp [Gd, valOf, hp], rfl⟩
            · -- 17: slot 36 := Op.load 53 t35
              refine ob_no fun f w' hb hp => ?_
              simp [PreOf, factOf, valOf, Ph.is, Ph.by_, Ph.any, Region.binds] at hp
              exact ⟨by simp [Gd, valOf, hp], rfl⟩
            · -- 18: slot 37 := Op.move t3
              refine ob_no fun f w' hb hp => ?_
              simp [PreOf, factOf, valOf, Ph.is, Ph.by_, Ph.any, Region.binds] at hp
              exact ⟨by simp [Gd, valOf, hp], rfl⟩
            · -- 19: slot 38 := Op.move t4
              refine ob_no fun f w' hb hp => ?_
              simp [PreOf, factOf, valOf, Ph.is, Ph.by_, Ph.any, Region.binds] at hp
              exact ⟨by simp [Gd, valOf, hp], rfl⟩
            · -- 20: slot 39 := Op.call   value (Operand.func 79), args := #[t34, t36, t37, t38], argTypes := #[62, 53, 135, 136]  
              refine ob_no fun f w' hb hp => ?_
              simp [PreOf, factOf, valOf, Ph.is, Ph.by_, Ph.any, Region.binds] at hp
              exact ⟨by simp [Gd, valOf, hp], rfl⟩
            · -- 21: slot 40 := Op.unOp UnOp.not 4 t39
              refine ob_no fun f w' hb hp => ?_
              simp [PreOf, factOf, valOf, Ph.is, Ph.by_, Ph.any, Region.binds] at hp
              exact ⟨by simp [Gd, valOf, hp], rfl⟩
            · -- 22: slot 41 := Op.pick t33 (const (Value.bool true)) t40
              refine ob_yes fun f w' hb hp => ?_
              simp [PreOf, factOf, valOf, Ph.is, Ph.by_, Ph.any, Region.binds] at hp
              refine ⟨by simp [Gd, valOf, hp], ?_⟩
              refine mild_val (.bool true) ?_ rfl
              simp [execOp, evalF, hp, go_sem]
          · intro f w2 hb2 hp
            simp only [PostOf, Ph.is, Ph.by_, Ph.any] at hp
            obtain ⟨h0, h1, h2, h3, h4, h5, h6, h7, h8, h9, h10, h11, h12, h13, h14, h15, h16, h17, h18, h19, h20, h21, h22, _⟩ := hp
            simp only [fills, List.foldl_cons, List.foldl_nil, Act.put, List.setIfInBounds_toArray, List.set_cons_zero, List.set_cons_succ, h0, h1, h2, h3, h4, h5, h6, h7, h8, h9, h10, h11, h12, h13, h14, h15, h16, h17, h18, h19, h20, h21, h22]
            clear h0 h1 h2 h3 h4 h5 h6 h7 h8 h9 h10 h11 h12 h13 h14 h15 h16 h17 h18 h19 h20 h21 h22
            have Hend := Lib.hid (Hlow.out.trans (hb2.mono (show w.heap.size ≤ w5.heap.size by omega)))
            clear hb2
            go_wp2_with fail
            go_ret
            exact ⟨by rw [Hm.out]; rfl, Hend.out⟩
        | true =>
          have Hle : Hid (bless fl.name pv.name = false ∧ ¬ fl.name = pv.name) := by
            refine ⟨?_, fun e => ?_⟩
            · cases hx : bless fl.name pv.name with
              | false => rfl
              | true => have := bless_trans _ _ _ hless hx; rw [bless_irrefl] at this; cases this
            · rw [e, bless_irrefl] at hless; cases hless
          rw [hless, Bool.true_and] at hs2
          have Hs2 := Lib.hid hs2
          clear hs2
          refine wp_region_oneL (ds := [19, 20, 21, 22, 23, 24, 25, 26, 27, 28, 29, 30, 31, 32, 33, 34, 35, 36, 37, 38, 39, 40, 41]) 23 20 (fun b v W' => BoxAt 62 W' g (encF fl (.slice Ab fl.blocks.length cb)) ∧ BoxAt 56 W' w.heap.size (encM m (.slice (some ad) m.files.length c)) ∧ Bt (w.heap.size + 1) (w.heap.size + 1 + 1) w5 W' ∧ (b = false → W' = w5.drew) ∧ (b = true → Post5 W')) [some 19, some 20, some 21, some 22, some 23, some 24, some 25, some 26, some 27, some 28, some 29, some 30, some 31, some 32, some 33, some 34, some 35, some 36, some 37, some 38, some 39, some 40, some 41]
            [fun v => v = .int .i64 (k : Int), fun v => v = .bool true, fun v => v = .bool true, fun v => v = .pointer (some ⟨g, 0, none⟩), fun v => v = .string (bst fl.name), fun v => v = .pointer (some ⟨w.heap.size, 2, none⟩), fun v => v = .slice (some ad) m.files.length c, fun v => v = .int .i64 (k : Int), fun v => v = .int .i64 (p : Int), fun v => v = .pointer (some (ad.add (p * 4))), fun v => v = .pointer (some (ad.add (p * 4))), fun v => v = .string (bst pv.name), fun v => v = .bool false, fun v => v = .bool false, fun v => v = .bool false, fun v => v = .agg (encF fl (.slice Ab fl.blocks.length cb)).toArray, fun v => v = .pointer (some ⟨w.heap.size, 1, none⟩), fun v => v = .int .u32 (m.next.toNat : Int), fun v => v = .map (some (w.heap.size + 1)), fun v => v = .map (some (w.heap.size + 1 + 1)), fun v => v = .bool r, fun v => v = .bool (!r), fun v => v = .bool (!r)]
            (by decide) rfl rfl rfl (by kernel_rfl) (by kernel_rfl) ?_ (fun _ => ⟨Hx5.out.1, Hx5.out.2, Bt.of (Below.refl _ _).drew, fun _ => rfl, fun h => by cases h⟩) ?_
          · refine ⟨?_, ?_, ?_, ?_, ?_, ?_, ?_, ?_, ?_, ?_, ?_, ?_, ?_, ?_, ?_, ?_, ?_, ?_, ?_, ?_, ?_, ?_, ?_, trivial⟩
            · -- 0: slot 19 := Op.move t5
              refine obO_yes fun f b w' hj hs hp => ?_
              simp [PreO, factO, valOf, Region.binds] at hp
              refine ⟨by simp [Gd, valOf, hp], ?_⟩
              refine mildO_val (.int .i64 (k : Int)) (by decide) ?_ rfl
              simp [execOp, evalF, hp, go_sem]
            · -- 1: slot 20 := Op.binOp BinOp.gtr 3 t19 (const (0:i64)) 3
              refine obO_yes fun f b w' hj hs hp => ?_
              simp [PreO, factO, valOf, Region.binds] at hp
              refine ⟨by simp [Gd, valOf, hp], ?_⟩
              refine mildO_val (.bool true) (by decide) ?_ rfl
              simp [execOp, evalF, hp, go_sem]
              first | done | (have := Hp.out; omega)
            · -- 2: slot 21 := Op.move t20
              refine obO_yes fun f b w' hj hs hp => ?_
              simp [PreO, factO, valOf, Region.binds] at hp
              refine ⟨by simp [Gd, valOf, hp], ?_⟩
              refine mildO_val (.bool true) (by decide) ?_ rfl
              simp [execOp, evalF, hp, go_sem]
            · -- 3: slot 22 := Op.fieldAddr 62 t6 0
              refine obO_yes fun f b w' hj hs hp => ?_
              simp [PreO, factO, valOf, Region.binds] at hp
              refine ⟨by simp [Gd, valOf, hp], ?_⟩
              refine mildO_val (.pointer (some ⟨g, 0, none⟩)) (by decide) ?_ rfl
              simp [execOp, evalF, hp, go_sem]
            · -- 4: slot 23 := Op.load 9 t22
              refine obO_yes fun f b w' hj hs hp => ?_
              simp [PreO, factO, valOf, Region.binds] at hp
              refine ⟨by simp [Gd, valOf, hp], ?_⟩
              have hc := hj.1.cell 0 _ rfl
              refine mildO_val (.string (bst fl.name)) (by decide) ?_ rfl
              simp [execOp, evalF, hp, hc, go_sem]
            · -- 5: slot 24 := Op.fieldAddr 56 t1 2
              refine obO_yes fun f b w' hj hs hp => ?_
              simp [PreO, factO, valOf, Region.binds] at hp
              refine ⟨by simp [Gd, valOf, hp], ?_⟩
              refine mildO_val (.pointer (some ⟨w.heap.size, 2, none⟩)) (by decide) ?_ rfl
              simp [execOp, evalF, hp, go_sem]
            · -- 6: slot 25 := Op.load 54 t24
              refine obO_yes fun f b w' hj hs hp => ?_
              simp [PreO, factO, valOf, Region.binds] at hp
              refine ⟨by simp [Gd, valOf, hp], ?_⟩
              have hc := hj.2.1.cell 2 _ rfl
              refine mildO_val (.slice (some ad) m.files.length c) (by decide) ?_ rfl
              simp [execOp, evalF, hp, hc, go_sem]
            · -- 7: slot 26 := Op.move t5
              refine obO_yes fun f b w' hj hs hp => ?_
              simp [PreO, factO, valOf, Region.binds] at hp
              refine ⟨by simp [Gd, valOf, hp], ?_⟩
              refine mildO_val (.int .i64 (k : Int)) (by decide) ?_ rfl
              simp [execOp, evalF, hp, go_sem]
            · -- 8: slot 27 := Op.binOp BinOp.sub 3 t26 (const (1:i64)) 3
              refine obO_yes fun f b w' hj hs hp => ?_
              simp [PreO, factO, valOf, Region.binds] at hp
              refine ⟨by simp [Gd, valOf, hp], ?_⟩
              refine mildO_val (.int .i64 (p : Int)) (by decide) ?_ rfl
              simp [execOp, evalF, hp, go_sem]
              first | done | (rw [wrap_i64]; have := Hp.out; omega) | (have := Hp.out; omega)
            · -- 9: slot 28 := Op.indexAddr 54 t25 t27
              refine obO_yes fun f b w' hj hs hp => ?_
              simp [PreO, factO, valOf, Region.binds] at hp
              refine ⟨by simp [Gd, valOf, hp], ?_⟩
              refine mildO_val (.pointer (some (ad.add (p * 4)))) (by decide) ?_ rfl
              simp [execOp, evalF, hp, go_sem, hpl]
            · -- 10: slot 29 := Op.fieldAddr 62 t28 0
              refine obO_yes fun f b w' hj hs hp => ?_
              simp [PreO, factO, valOf, Region.binds] at hp
              refine ⟨by simp [Gd, valOf, hp], ?_⟩
              refine mildO_val (.pointer (some (ad.add (p * 4)))) (by decide) ?_ rfl
              simp [execOp, evalF, hp, go_sem]
            · -- 11: slot 30 := Op.load 9 t29
              refine obO_yes fun f b w' hj hs hp => ?_
              simp [PreO, factO, valOf, Region.binds] at hp
              refine ⟨by simp [Gd, valOf, hp], ?_⟩
              have hc := hj.2.2.1.block (ad.add (p * 4)).block (by rw [add_block]; omega) (by rw [add_block]; omega) (by rw [add_block]; omega)
              have hc2 : w'.cell? (ad.add (p * 4)) = some (.string (bst pv.name)) := (cell_of_block hc).trans Hpv5.out
              refine mildO_val (.string (bst pv.name)) (by decide) ?_ rfl
              simp [execOp, evalF, hp, hc2, go_sem]
            · -- 12: slot 31 := Op.binOp BinOp.leq 9 t23 t30 9
              refine obO_yes fun f b w' hj hs hp => ?_
              simp [PreO, factO, valOf, Region.binds] at hp
              refine ⟨by simp [Gd, valOf, hp], ?_⟩
              refine mildO_val (.bool false) (by decide) ?_ rfl
              simp [execOp, evalF, hp, go_sem, Op.stringOp, bst_toList, hless]
              first | done | exact Hle.out
            · -- 13: slot 32 := Op.pick t21 t31 (const (Value.bool false))
              refine obO_yes fun f b w' hj hs hp => ?_
              simp [PreO, factO, valOf, Region.binds] at hp
              refine ⟨by simp [Gd, valOf, hp], ?_⟩
              refine mildO_val (.bool false) (by decide) ?_ rfl
              simp [execOp, evalF, hp, go_sem]
            · -- 14: slot 33 := Op.move t32
              refine obO_yes fun f b w' hj hs hp => ?_
              simp [PreO, factO, valOf, Region.binds] at hp
              refine ⟨by simp [Gd, valOf, hp], ?_⟩
              refine mildO_val (.bool false) (by decide) ?_ rfl
              simp [execOp, evalF, hp, go_sem]
            · -- 15: slot 34 := Op.load 62 t6
              refine obO_yes fun f b w' hj hs hp => ?_
              simp [PreO, factO, valOf, Region.binds] at hp
              refine ⟨by simp [Gd, valOf, hp], ?_⟩
              have hr := run_loadVar_cells w' ⟨g, 0, none⟩ 62 (encF fl (.slice Ab fl.blocks.length cb)) hj.1.cells Try.underlying62 rfl info_file4
              refine mildO_val (.agg (encF fl (.slice Ab fl.blocks.length cb)).toArray) (by decide) ?_ rfl
              simp [execOp, evalF, hp, Instr.loadAt, Instr.sureAddr, hr]
            · -- 16: slot 35 := Op.fieldAddr 56 t1 1
              refine obO_yes fun f b w' hj hs hp => ?_
              simp [PreO, factO, valOf, Region.binds] at hp
              refine ⟨by simp [Gd, valOf, hp], ?_⟩
              refine mildO_val (.pointer (some ⟨w.heap.size, 1, none⟩)) (by decide) ?_ rfl
              simp [execOp, evalF, hp, go_sem]
            · -- 17: slot 36 := Op.load 53 t35
              refine obO_yes fun f b w' hj hs hp => ?_
              simp [PreO, factO, valOf, Region.binds] at hp
              refine ⟨by simp [Gd, valOf, hp], ?_⟩
              have hc := hj.2.1.cell 1 _ rfl
              refine mildO_val (.int .u32 (m.next.toNat : Int)) (by decide) ?_ rfl
              simp [execOp, evalF, hp, hc, go_sem]
            · -- 18: slot 37 := Op.move t3
              refine obO_yes fun f b w' hj hs hp => ?_
              simp [PreO, factO, valOf, Region.binds] at hp
              refine ⟨by simp [Gd, valOf, hp], ?_⟩
              refine mildO_val (.map (some (w.heap.size + 1))) (by decide) ?_ rfl
              simp [execOp, evalF, hp, go_sem]
            · -- 19: slot 38 := Op.move t4
              refine obO_yes fun f b w' hj hs hp => ?_
              simp [PreO, factO, valOf, Region.binds] at hp
              refine ⟨by simp [Gd, valOf, hp], ?_⟩
              refine mildO_val (.map (some (w.heap.size + 1 + 1))) (by decide) ?_ rfl
              simp [execOp, evalF, hp, go_sem]
            · -- 20: slot 39 := Op.call   value (Operand.func 79), args := #[t34, t36, t37, t38], argTypes := #[62, 53, 135, 136]  
              refine obO_yes fun f b w' hj hs hp => ?_
              simp [PreO, factO, valOf, Region.binds] at hp
              refine ⟨by simp [Gd, valOf, hp], ?_⟩
              have hb := hs rfl
              have hw' := hj.2.2.2.1 hb
              subst hw'
              refine mildO_call 79 _ _ Try.f79 rfl Try.func79 (by kernel_rfl) (by kernel_rfl) rfl ?_
              refine calls_args (args' := #[.agg (encF fl (.slice Ab fl.blocks.length cb)).toArray, .int .u32 (m.next.toNat : Int), .map (some (w.heap.size + 1)), .map (some (w.heap.size + 1 + 1))]) (by simp [evalF, hp]) ?_
              refine Hcall.out.mono ?_
              rintro _ w9 ⟨rfl, hb9, hp9⟩
              exact ⟨_, rfl, ⟨hb9.box hj.1 (by omega) (by omega), hb9.box hj.2.1 (by omega) (by omega), hb9.pre_drew, fun h => (by cases h), fun _ => hp9⟩, rfl⟩
            · -- 21: slot 40 := Op.unOp UnOp.not 4 t39
              refine obO_yes fun f b w' hj hs hp => ?_
              simp [PreO, factO, valOf, Region.binds] at hp
              refine ⟨by simp [Gd, valOf, hp], ?_⟩
              refine mildO_val (.bool (!r)) (by decide) ?_ rfl
              simp [execOp, evalF, hp, go_sem]
            · -- 22: slot 41 := Op.pick t33 (const (Value.bool true)) t40
              refine obO_yes fun f b w' hj hs hp => ?_
              simp [PreO, factO, valOf, Region.binds] at hp
              refine ⟨by simp [Gd, valOf, hp], ?_⟩
              refine mildO_val (.bool (!r)) (by decide) ?_ rfl
              simp [execOp, evalF, hp, go_sem]
          · intro f wd hj hp
            simp only [PostO] at hp
            obtain ⟨e0, e1, e2, e3, e4, e5, e6, e7, e8, e9, e10, e11, e12, e13, e14, e15, e16, e17, e18, e19, e20, e21, e22, _⟩ := hp
            simp only [fills, List.foldl_cons, List.foldl_nil, Act.put, List.setIfInBounds_toArray, List.set_cons_zero, List.set_cons_succ, e0, e1, e2, e3, e4, e5, e6, e7, e8, e9, e10, e11, e12, e13, e14, e15, e16, e17, e18, e19, e20, e21, e22]
            clear e0 e1 e2 e3 e4 e5 e6 e7 e8 e9 e10 e11 e12 e13 e14 e15 e16 e17 e18 e19 e20 e21 e22
            simp only [List.drop_succ_cons, List.drop_zero]
            obtain ⟨hjx, hjm, hjb, _, hjp⟩ := hj
            have hP := hjp rfl
            rw [HP5.out] at hP
            have Hj := Lib.hid (Hb5.out.trans hjb)
            have HP := Lib.hid hP
            clear hjx hjm hjb hjp hP
            cases hrr : r with
            | true =>
              have hP2 := HP.out hrr
              rw [hrr] at Hs2
              have P1 := Lib.hid (hP2.1.congr Hids.out)
              have P2 := Lib.hid (hP2.2.congr Hblk.out)
              rw [← Hnt.out] at P2
              clear hP2 HP
              go_wp2_with fail
              go_roundw
              case rel => exact ⟨k + 1, by omega, by go_num, Hs2.out, Hj.out, P1.out, P2.out⟩
              case measure => simp [intOf]; omega
            | false =>
              rw [hrr] at Hs2
              have hm := Hmf.out Hs2.out
              have Hm := Lib.hid hm
              clear hm HP
              go_wp2_with fail
              go_ret
              exact ⟨by rw [Hm.out]; rfl, Hb1.out.trans (Hj.out.low (by omega) (by omega) (by omega))⟩
    · obtain rfl : k = m.files.length := by omega
      have hm : mayM m = decide ((bodyM m).length + 13 ≤ 2048) := by unfold mayM; rw [Hfr.out]; rfl
      have Hm := Lib.hid hm
      clear hm hr1 hr2
      go_wp2_with (refine wpList_load_agg rfl 56 (.tmp 1) rfl ⟨w.heap.size, 0, none⟩ rfl (encM m (.slice A m.files.length c)) Xm.out.cells Try.underlying56 rfl info_man3 ?_)
      refine (body_any wr _ m ⟨_, rfl, (Hf.out.below Hwr.out).more (by omega)⟩ (by omega)).mono ?_
      rintro _ w2 ⟨v2, rfl, how2, hb2⟩
      have hb12 := how2.by_
      obtain ⟨A2, c2, rfl, hd1, hd2⟩ := how2.form_
      have Hb3 := Lib.hid (Hwr.out.trans (hb2.mono (show w.heap.size ≤ wr.heap.size by omega)))
      have Hby := Lib.hid hb12
      have hs2 := hb2.size
      generalize bodyM m = L at *
      clear how2 hb2 hb12 Xm
      go_wp2_with fail
      by_cases hlong : L.length ≤ 1048576
      · refine (fput_any w2 w2.heap.size _ [] (Ow.nil_ _ _) 77 _ L Hby.out hlong (by simp) (Nat.le_refl _)).mono ?_
        rintro _ w3 ⟨v3, rfl, ho3, hx3⟩
        rw [List.nil_append] at ho3
        obtain ⟨A3, c3, rfl, he1, he2⟩ := ho3.form_
        have Hb4 := Lib.hid (bstepB Hb3.out (hx3.below (Nat.le_refl _) (by simp [Value.ownBlock])) (by omega))
        have hfl := frameOf_length 77 L
        generalize frameOf 77 L = FL at *
        clear ho3 hx3
        go_wp2_with fail
        go_ret
        exact ⟨by rw [Hm.out]; (try simp); (try omega), Hb4.out⟩
      · refine (fput_long w2 _ 77 A2 L.length c2 (by omega) hd1 hd2.1).mono ?_
        rintro _ w3 ⟨rfl, hb3⟩
        have Hb4 := Lib.hid (bstepB Hb3.out hb3 (by omega))
        have hm : mayM m = false := by rw [Hm.out]; simp; omega
        have Hm2 := Lib.hid hm
        clear hb3 hm
        go_wp2_with fail
        go_ret
        exact ⟨by rw [Hm2.out]; rfl, Hb4.out⟩
end Go.Proofs.Ytpoicbhbkabllaa

namespace Go.Proofs.Ytpoicbhbkabllaa
set_option linter.unusedSimpArgs false
set_option linter.unusedVariables false
open Go.RowKit

/-- a manifest's whole slot -/
def slotM (m : MMan) : List UInt8 := frameOf 77 (bodyM m) ++ List.replicate (2048 - ((bodyM m).length + 13)) 0
theorem slotM_length (m : MMan) (h : mayM m = true) : (slotM m).length = 2048 := by
  unfold mayM at h
  simp only [Bool.and_eq_true, decide_eq_true_eq] at h
  simp only [slotM, List.length_append, frameOf_length, List.length_replicate]
  omega
theorem mayM_len (m : MMan) (h : mayM m = true) : (bodyM m).length + 13 ≤ 2048 := by
  unfold mayM at h
  simp only [Bool.and_eq_true, decide_eq_true_eq] at h
  exact h.2
theorem put_no (w : World) (v : Value) (m : MMan) (h : MAt w w.heap.size v m) (hsz : (bodyM m).length ≤ 274877906944) (hm : mayM m = false) :
    Calls Try.prog 53 #[v] w fun e w' => e = .returned (.tuple #[.slice none 0 0, .int .i64 3]) ∧ Below w.heap.size w w' := by
  obtain ⟨vf, rfl, hf⟩ := h
  obtain ⟨A, c, rfl, hc1, hc2⟩ := hf.form
  unfold maxLen at hc2
  obtain ⟨w0, hw0⟩ : ∃ w0, w0 = w.alloc (.cells (encM m (.slice A m.files.length c)).toArray 56) := ⟨_, rfl⟩
  have hb0 : Below w.heap.size w w0 := by rw [hw0]; exact balloc w _
  have hx0 : BoxAt 56 w0 w.heap.size (encM m (.slice A m.files.length c)) := by rw [hw0]; exact BoxAt.new_ _ _ _
  have Hw0 := Lib.hid hw0
  have X0 := Lib.hid hx0
  have Hb0 := Lib.hid hb0
  have Hf := Lib.hid ((hf.below hb0).more hb0.size)
  have Hm := Lib.hid hm
  clear hw0 hx0 hb0 hf hm
  go_enter Try.func53, Try.ntmps53
  go_upto_region 1 with (fail)
  rw [← Hw0.out]
  go_wp2_with (refine wpList_load_agg rfl 56 (.tmp 1) rfl ⟨w.heap.size, 0, none⟩ rfl (encM m (.slice A m.files.length c)) X0.out.cells Try.underlying56 rfl info_man3 ?_)
  refine (may_any w0 _ m ⟨_, rfl, Hf.out⟩ hsz).mono ?_
  rintro _ w1 ⟨rfl, hb1⟩
  rw [Hm.out]
  have Hb1 := Lib.hid (bstep Hb0.out hb1)
  clear hb1
  go_wp2_with fail
  go_ret2
  exact ⟨rfl, Hb1.out⟩
set_option maxRecDepth 100000 in
set_option maxHeartbeats 1600000 in
theorem put_any (w : World) (v : Value) (m : MMan) (h : MAt w w.heap.size v m) (hm : mayM m = true) :
    Calls Try.prog 53 #[v] w fun e w' => ∃ v', e = .returned (.tuple #[v', .int .i64 0]) ∧ Ow w' w.heap.size v' (slotM m) ∧ Below w.heap.size w w' := by
  have hsz := mayM_len m hm
  obtain ⟨vf, rfl, hf⟩ := h
  obtain ⟨A, c, rfl, hc1, hc2⟩ := hf.form
  unfold maxLen at hc2
  obtain ⟨w0, hw0⟩ : ∃ w0, w0 = w.alloc (.cells (encM m (.slice A m.files.length c)).toArray 56) := ⟨_, rfl⟩
  have hb0 : Below w.heap.size w w0 := by rw [hw0]; exact balloc w _
  have hx0 : BoxAt 56 w0 w.heap.size (encM m (.slice A m.files.length c)) := by rw [hw0]; exact BoxAt.new_ _ _ _
  have Hw0 := Lib.hid hw0
  have X0 := Lib.hid hx0
  have Hb0 := Lib.hid hb0
  have Hf := Lib.hid ((hf.below hb0).more hb0.size)
  have Hm := Lib.hid hm
  clear hw0 hx0 hb0 hf hm
  go_enter Try.func53, Try.ntmps53
  go_upto_region 1 with (fail)
  rw [← Hw0.out]
  go_wp2_with (refine wpList_load_agg rfl 56 (.tmp 1) rfl ⟨w.heap.size, 0, none⟩ rfl (encM m (.slice A m.files.length c)) X0.out.cells Try.underlying56 rfl info_man3 ?_)
  refine (may_any w0 _ m ⟨_, rfl, Hf.out⟩ (by omega)).mono ?_
  rintro _ w1 ⟨rfl, hb1⟩
  rw [Hm.out]
  have X1 := Lib.hid (X0.out.blwM hb1)
  have Hf1 := Lib.hid ((Hf.out.below hb1).more hb1.size)
  have Hb1 := Lib.hid (bstep Hb0.out hb1)
  clear hb1
  go_wp2_with (refine wpList_load_agg rfl 56 (.tmp 1) rfl ⟨w.heap.size, 0, none⟩ rfl (encM m (.slice A m.files.length c)) X1.out.cells Try.underlying56 rfl info_man3 ?_)
  refine (body_any w1 _ m ⟨_, rfl, Hf1.out⟩ (by omega)).mono ?_
  rintro _ w2 ⟨v2, rfl, how2, hb2⟩
  have hb12 := how2.by_
  obtain ⟨A2, c2, rfl, hd1, hd2⟩ := how2.form_
  have Hb2 := Lib.hid (bstep Hb1.out hb2)
  have Hby := Lib.hid hb12
  have hs2 := Hb2.out.size
  have hsl : slotM m = frameOf 77 (bodyM m) ++ List.replicate (2048 - ((bodyM m).length + 13)) 0 := rfl
  have Hsl := Lib.hid hsl
  generalize bodyM m = L at *
  clear how2 hb2 hb12 hsl
  go_wp2_with fail
  refine (fput_any w2 w2.heap.size _ [] (Ow.nil_ _ _) 77 _ L Hby.out (by omega) (by simp) (Nat.le_refl _)).mono ?_
  rintro _ w3 ⟨v3, rfl, ho3, hx3⟩
  rw [List.nil_append] at ho3
  have Hb3 := Lib.hid (bstep Hb2.out (hx3.below (Nat.le_refl _) (by simp [Value.ownBlock])))
  have ho4 := ho3.mono hs2
  obtain ⟨A3, c3, rfl, he1, he2⟩ := ho3.form_
  have hfl := frameOf_length 77 L
  rw [hfl] at ho4
  have Ho4 := Lib.hid ho4
  have hs3 := Hb3.out.size
  generalize frameOf 77 L = FL at *
  have hN : (2048 - ((L.length : Int) + 13)) = ((2048 - (L.length + 13) : Nat) : Int) := by omega
  have HN := Lib.hid hN
  clear hN
  clear ho3 ho4 hx3
  go_wp2_with (at_builtin
               refine wpList_zero8 rfl (.tmp 16) (.tmp 19) rfl Ho4.out (2048 - (L.length + 13)) rfl (congrArg (Value.int .i64) HN.out) (by omega) hs3 ?_
               intro v5 w5 ho5 hx5
               have Hb5 := Lib.hid (Hb3.out.trans (hx5.below hs3 fun q hq => (Ho4.out.blk q hq).1))
               have Ho5 := Lib.hid ho5
               clear ho5 hx5)
  go_ret2
  exact ⟨_, rfl, by rw [Hsl.out]; exact Ho5.out, Hb5.out⟩
/-- the document's example -/
def emptyM : MMan := ⟨0, 0, []⟩
theorem mayM_empty : mayM emptyM = true := by decide +kernel
theorem slotM_empty : (slotM emptyM).length = 2048 ∧ (slotM emptyM)[0]? = some 77 ∧ (slotM emptyM)[1]? = some 3 := by decide +kernel
theorem MAt.empty (w : World) (B : Nat) : MAt w B (.agg (encM emptyM (.slice none 0 0)).toArray) emptyM := ⟨_, rfl, RowOn.nil_⟩
set_option maxRecDepth 100000 in
set_option maxHeartbeats 1600000 in
theorem awake09 (w : World) : Calls Try.prog 30 #[] w fun e w' => e = .returned (.bool true) ∧ Below w.heap.size w w' := by
  have hp := Lib.hid (fun W => put_any W _ emptyM (MAt.empty W _) mayM_empty)
  have hq := Lib.hid (fun W => may_any W _ emptyM (MAt.empty W _) (by decide +kernel))
  obtain ⟨h1, h2, h3⟩ := slotM_empty
  rw [mayM_empty] at hq
  generalize slotM emptyM = L at *
  go_enter Try.func30, Try.ntmps30
  go_wp2_with fail
  refine (hp.out w).mono ?_
  rintro _ w1 ⟨v1, rfl, ho1, hb1⟩
  obtain ⟨A1, c1, rfl, hd1, hd2, hd3⟩ := ho1.form_
  obtain ⟨g, rfl, hg1, hg2⟩ := hd3 (by omega)
  have hc0 := ho1.cell_ rfl 0 _ h2
  have hc1 := ho1.cell_ rfl 1 _ h3
  have Hb1 := Lib.hid hb1
  clear ho1 hb1 h2 h3 hp
  go_wp2_with fail
  refine (hq.out _).mono ?_
  rintro _ w2 ⟨rfl, hb2⟩
  have Hb2 := Lib.hid (bstep Hb1.out hb2)
  clear hb2
  go_wp2_with fail
  go_ret
  exact ⟨rfl, Hb2.out⟩
end Go.Proofs.Ytpoicbhbkabllaa

namespace Go.Proofs.Ytpoicbhbkabllaa
set_option linter.unusedSimpArgs false
set_option linter.unusedVariables false
open Go.RowKit Go.Shelf
attribute [local go_sem] Oper.semAt_some

/-- writes one behind the other, from block i on, till one fails -/
def wrs (d : DState) (i : Int) : List (List UInt8) → DState × Int
  | [] => (d, 0)
  | b :: t => if writeE d i b ≠ 0 then (writeD d i b, writeE d i b) else wrs (writeD d i b) (i + 1) t
theorem wrs_stop (xs ys : List (List UInt8)) : ∀ (d : DState) (i : Int), (wrs d i xs).2 ≠ 0 → wrs d i (xs ++ ys) = wrs d i xs := by
  induction xs with
  | nil => intro d i h; exact absurd rfl h
  | cons b t ih =>
    intro d i h
    rw [List.cons_append]
    unfold wrs at h ⊢
    split
    · rfl
    · rename_i hw
      rw [if_neg hw] at h
      exact ih _ _ h
theorem wrs_snoc (xs : List (List UInt8)) (b : List UInt8) : ∀ (d : DState) (i : Int), (wrs d i xs).2 = 0 → wrs d i (xs ++ [b]) = (writeD (wrs d i xs).1 (i + xs.length) b, writeE (wrs d i xs).1 (i + xs.length) b) := by
  induction xs with
  | nil =>
    intro d i h
    simp only [List.nil_append, wrs, List.length_nil, Int.natCast_zero, Int.add_zero]
    split
    · rfl
    · rename_i hw
      have : writeE d i b = 0 := by simpa using hw
      rw [this]
  | cons x t ih =>
    intro d i h
    rw [List.cons_append]
    unfold wrs at h ⊢
    split
    · rename_i hw
      rw [if_pos hw] at h
      exact absurd h hw
    · rename_i hw
      rw [if_neg hw] at h
      have e : i + ((x :: t).length : Int) = i + 1 + (t.length : Int) := by simp; omega
      rw [ih _ _ h, e]
theorem writeD_wt (d : DState) (i : Int) (b : List UInt8) : (writeD d i b).wt.length ≤ d.wt.length + 1 := by
  unfold writeD
  split
  · omega
  · split
    · split
      · rw [deedD_wt]; omega
      · simp [deedD_wt]
    · omega
theorem wrs_wt (xs : List (List UInt8)) : ∀ (d : DState) (i : Int), (wrs d i xs).1.wt.length ≤ d.wt.length + xs.length := by
  induction xs with
  | nil => intro d i; simp [wrs]
  | cons x t ih =>
    intro d i
    have h1 := writeD_wt d i x
    unfold wrs
    split
    · simp; omega
    · have := ih (writeD d i x) (i + 1)
      simp; omega
/-- the x-th 128 bytes -/
def partH (l : List UInt8) (x : Fin 16) : List UInt8 := (l.drop (128 * x.val)).take 128
theorem partH_length {l : List UInt8} (hl : l.length = 2048) (x : Fin 16) : (partH l x).length = 128 := by
  have := x.isLt
  simp [partH]; omega
/-- the parts of a slot -/
def partsH (l : List UInt8) : List (List UInt8) := (upto f16 16).map (partH l)
/-- one slot's writes, and a Sync -/
def wslot (d : DState) (i : Int) (l : List UInt8) : DState × Int := if (wrs d i (partsH l)).2 ≠ 0 then wrs d i (partsH l) else (syncD (wrs d i (partsH l)).1, syncE (wrs d i (partsH l)).1)
/-- where the n-th slot begins -/
def slotI (v n : Nat) : Int := (((v + n) % 2 * 16 : Nat) : Int)
def wman (d : DState) (v : Nat) (l : List UInt8) : Nat → DState × Int
  | 0 => (d, 0)
  | n + 1 => if (wman d v l n).2 ≠ 0 then wman d v l n else wslot (wman d v l n).1 (slotI v n) l
theorem wman_stop (d : DState) (v : Nat) (l : List UInt8) (n k : Nat) (h : (wman d v l n).2 ≠ 0) : wman d v l (n + k) = wman d v l n := by
  induction k with
  | zero => rfl
  | succ k ih => rw [← Nat.add_assoc, wman, ih, if_pos h]
theorem wman_next (d : DState) (v : Nat) (l : List UInt8) (n : Nat) (h : (wman d v l n).2 = 0) : wman d v l (n + 1) = wslot (wman d v l n).1 (slotI v n) l := by
  rw [wman, if_neg (by simpa using h)]
theorem syncD_wt (d : DState) : (syncD d).wt.length ≤ d.wt.length := by
  unfold syncD
  split
  · omega
  · split
    · rw [deedD_wt]; omega
    · simp
theorem wslot_wt (d : DState) (i : Int) (l : List UInt8) : (wslot d i l).1.wt.length ≤ d.wt.length + 16 := by
  have h := wrs_wt (partsH l) d i
  have e : (partsH l).length = 16 := by simp [partsH, upto]
  unfold wslot
  split
  · omega
  · have := syncD_wt (wrs d i (partsH l)).1
    simp only; omega
theorem wman_wt (d : DState) (v : Nat) (l : List UInt8) (n : Nat) : (wman d v l n).1.wt.length ≤ d.wt.length + 16 * n := by
  induction n with
  | zero => simp [wman]
  | succ n ih =>
    rw [wman]
    split
    · omega
    · have := wslot_wt (wman d v l n).1 (slotI v n) l
      omega

/-! ### leaving a call -/
theorem results_e {fn : Func} {p : Tmp} {T : TypeId} (h : fn.results = #[.cell p T]) (tmps : Array Value) (w : World) (g : Nat) (v : Value)
    (hp : tmps.getD p undef = .pointer (some ⟨g, 0, none⟩)) (hs : w.cell? ⟨g, 0, none⟩ = some v) {d : TypeDesc} (hu : Try.prog.underlying T = some d)
    (hd : (match d with | .struct _ | .array _ _ => true | _ => false) = false) :
    (results fn tmps).run Try.prog w = .ok v w := by
  have hp' : tmps[p]?.getD undef = .pointer (some ⟨g, 0, none⟩) := by simpa using hp
  have hu' : (underlying T).run Try.prog w = .ok d w := by simp [underlying, hu, go_sem]
  have ha : (isAgg T).run Try.prog w = .ok false w := by
    unfold isAgg
    rw [Sem.run_bind, hu']
    cases d <;> simp_all [Result.andThen]
  simp [results, h, hp', asAddr, loadVar, ha, hs, go_sem]
theorem leaves_all {F : Fence} {n : Nat} {fn : Func} {tmps : Array Value} {R : Ending → World → Prop} (K : World → Prop)
    (hend : ∀ W, K W → ∃ v, (results fn tmps).run Try.prog W = .ok v W ∧ R (.returned v) W) :
    ∀ (Ds : List Nat) (W : World), Ds.Nodup → (∀ D ∈ Ds, W.heap[D]? = some (.deferred (some []))) → (∀ W D, D ∈ Ds → K W → W.heap[D]? = some (.deferred (some [])) → K (W.putObj D (.deferred none))) → K W →
      LeavesInM F n Try.prog fn tmps R (Ds.map fun D => ({ target := .collected D, args := #[] } : Deferred)) .returning W
  | [], W, _, _, _, hK => hend W hK
  | D :: Ds, W, hn, hD, hs, hK => by
    refine ⟨by simp, .inl ⟨D, _, rfl, run_takeDeferred (hD D (by simp)), ?_⟩⟩
    refine leaves_all K hend Ds _ (List.nodup_cons.1 hn).2 (fun E hE => ?_) (fun W E hE => hs W E (by simp [hE])) (hs W D (by simp) hK (hD D (by simp)))
    have hne : E ≠ D := fun e => by subst e; exact (List.nodup_cons.1 hn).1 hE
    exact (World.putObj_heap_other hne).trans (hD E (by simp [hE]))
end Go.Proofs.Ytpoicbhbkabllaa

namespace Go.Proofs.Ytpoicbhbkabllaa
set_option linter.unusedSimpArgs false
set_option linter.unusedVariables false
open Go.RowKit

/-- blocks: so many are to come -/
def rblk : Nat → List Int → List UInt8 → Int → List Int × List UInt8 × Int
  | 0, acc, l, e => (acc, l, e)
  | n + 1, acc, l, e => if e ≠ 0 then (acc, l, e) else rblk n (acc ++ [((numS 65536 l e).1 : Int)]) (numS 65536 l e).2.1 (numS 65536 l e).2.2
def rf1 (l : List UInt8) (e : Int) : Nat × List UInt8 × Int := numS 32 l e
def rf2 (l : List UInt8) (e : Int) : List UInt8 × List UInt8 × Int := bytesS ((rf1 l e).1 : Int) (rf1 l e).2.1 (rf1 l e).2.2
def rf3 (l : List UInt8) (e : Int) : Nat × List UInt8 × Int := numS 4294967295 (rf2 l e).2.1 (rf2 l e).2.2
def rf4 (l : List UInt8) (e : Int) : Nat × List UInt8 × Int := numS 7340032 (rf3 l e).2.1 (rf3 l e).2.2
def rf5 (l : List UInt8) (e : Int) : List Int × List UInt8 × Int := rblk (manyOf ((rf4 l e).1 : Int)).toNat [] (rf4 l e).2.1 (rf4 l e).2.2
/-- one file -/
def rfileP (l : List UInt8) (e : Int) : MFile × List UInt8 × Int := (⟨(rf2 l e).1, UInt32.ofNat (rf3 l e).1, ((rf4 l e).1 : Int), (rf5 l e).1⟩, (rf5 l e).2.1, (rf5 l e).2.2)
def rfilesP : Nat → List MFile → List UInt8 → Int → List MFile × List UInt8 × Int
  | 0, acc, l, e => (acc, l, e)
  | n + 1, acc, l, e => if e ≠ 0 then (acc, l, e) else rfilesP n (acc ++ [(rfileP l e).1]) (rfileP l e).2.1 (rfileP l e).2.2
def rm1 (l : List UInt8) : Nat × List UInt8 × Int := numS 18446744073709551615 l 0
def rm2 (l : List UInt8) : Nat × List UInt8 × Int := numS 4294967295 (rm1 l).2.1 (rm1 l).2.2
def rm3 (l : List UInt8) : Nat × List UInt8 × Int := numS 2048 (rm2 l).2.1 (rm2 l).2.2
def rm4 (l : List UInt8) : List MFile × List UInt8 × Int := rfilesP (rm3 l).1 [] (rm3 l).2.1 (rm3 l).2.2
def rmanP (l : List UInt8) : MMan := ⟨UInt64.ofNat (rm1 l).1, UInt32.ofNat (rm2 l).1, (rm4 l).1⟩

section
variable {P : Nat → Prop} {w w' : World}
theorem OwnR.chg {α : Type} {E : TypeId} {C : Cdc α} {base : Nat} {S : Nat → Prop} {v : Value} {xs : List α} (h : OwnR E C w base S v xs) (hc : Chg P w w') (hv : ∀ k, v.ownBlock = some k → ¬ P k) (hS : ∀ k, S k → ¬ P k) : OwnR E C w' base S v xs := by
  have hb := h.blk
  obtain ⟨css, hl, ⟨h1, h2⟩, h3, h4⟩ := h
  refine ⟨css, hl, ⟨h1, ?_⟩, fun i cs x hcs hx => C.keep (h3 i cs x hcs hx) fun p hp => World.cell?_of_block (hc.block p.block (h4 _ hp).1 (hS _ hp)), fun k hk => ⟨Nat.lt_of_lt_of_le (h4 k hk).1 hc.size, (h4 k hk).2⟩⟩
  rcases h2 with h2 | ⟨g, cap, cur, e, hg, h5, r⟩
  · exact .inl h2
  · have hk := hb g (by rw [e]; rfl)
    exact .inr ⟨g, cap, cur, e, hg, (hc.block g hk.2 (hv g (by rw [e]; rfl))).trans h5, r⟩
theorem OwnR.rowOwn {α : Type} {E : TypeId} {C : Cdc α} {base : Nat} {S : Nat → Prop} {v : Value} {xs : List α} (h : OwnR E C w base S v xs) : RowOn C w (fun k => v.ownBlock = some k) S v xs := by
  have h0 := h.row
  rcases h.form with ⟨rfl, rfl⟩ | ⟨g, cap, rfl, h1, h2, _, _⟩
  · exact RowOn.nil_
  · obtain ⟨A, c, e, hc1, hc2, h3⟩ := h0
    injection e with e1 e2 e3
    subst e1
    exact ⟨_, cap, rfl, h1, h2, fun hn => by
      obtain ⟨ad, e4, _, h5⟩ := h3 hn
      injection e4 with e4
      subst e4
      exact ⟨_, rfl, rfl, h5⟩⟩
end
/-- the manifest that is made: its box gm, its files' rows below hi -/
def MP (gm hi : Nat) (m : MMan) (W : World) : Prop :=
  ∃ vf S, BoxAt 56 W gm (encM m vf) ∧ OwnR 62 cFile W (gm + 1) S vf m.files ∧ (∀ k, S k → gm < k ∧ k < hi) ∧ ∀ k, vf.ownBlock = some k → k < hi
theorem MP.keep {gm hi : Nat} {m : MMan} {W W' : World} {P : Nat → Prop} (h : MP gm hi m W) (hc : Chg P W W') (hp : ∀ k, P k → k < gm ∨ hi ≤ k) (hgm : gm < hi) : MP gm hi m W' := by
  obtain ⟨vf, S, h1, h2, h3, h4⟩ := h
  refine ⟨vf, S, h1.chg hc (fun hx => by have := hp _ hx; omega), h2.chg hc (fun k hk hx => ?_) (fun k hk hx => ?_), h3, h4⟩
  · have h5 := (h2.blk k hk).1
    have := h4 k hk
    have := hp k hx
    omega
  · have := h3 k hk
    have := hp k hx
    omega
theorem MP.more {gm hi hi' : Nat} {m : MMan} {W : World} (h : MP gm hi m W) (hh : hi ≤ hi') : MP gm hi' m W := by
  obtain ⟨vf, S, h1, h2, h3, h4⟩ := h
  exact ⟨vf, S, h1, h2, fun k hk => ⟨(h3 k hk).1, by have := (h3 k hk).2; omega⟩, fun k hk => by have := h4 k hk; omega⟩
/-- the file that is made: its box gf -/
def FP (gf : Nat) (f : MFile) (W : World) : Prop := ∃ vb, BoxAt 62 W gf (encF f vb) ∧ OwnF 3 cInt W (gf + 1) vb f.blocks
theorem FP.keep {gf : Nat} {f : MFile} {W W' : World} {P : Nat → Prop} (h : FP gf f W) (hc : Chg P W W') (hp : ∀ k, P k → k < gf) : FP gf f W' := by
  obtain ⟨vb, h1, h2⟩ := h
  exact ⟨vb, h1.chg hc (fun hx => by have := hp _ hx; omega), h2.chg hc (fun k hk hx => by have := (h2.blk k hk).1; have := hp k hx; omega) (fun _ h => h.elim)⟩
/-- a manifest among new blocks (from lo on) -/
def MIn (w : World) (lo : Nat) (v : Value) (m : MMan) : Prop := ∃ vf, v = .agg (encM m vf).toArray ∧ RowOn cFile w (fun k => lo ≤ k ∧ k < w.heap.size) (fun k => lo ≤ k ∧ k < w.heap.size) vf m.files
theorem MIn.mat {w : World} {lo : Nat} {v : Value} {m : MMan} (h : MIn w lo v m) : MAt w w.heap.size v m := by
  obtain ⟨vf, e, h⟩ := h
  exact ⟨vf, e, h.mono (fun k hk => hk.2) (fun k hk => hk.2)⟩
theorem MIn.chg {w w' : World} {lo : Nat} {v : Value} {m : MMan} {P : Nat → Prop} (h : MIn w lo v m) (hc : Chg P w w') (hp : ∀ k, P k → k < lo) : MIn w' lo v m := by
  obtain ⟨vf, e, h⟩ := h
  have hk : ∀ p : Addr, (lo ≤ p.block ∧ p.block < w.heap.size) → w'.cell? p = w.cell? p := fun p hq => World.cell?_of_block (hc.block p.block hq.2 fun hx => by have := hp _ hx; omega)
  have := hc.size
  exact ⟨vf, e, (h.keep hk hk).mono (fun k hk => ⟨hk.1, by omega⟩) (fun k hk => ⟨hk.1, by omega⟩)⟩
theorem MIn.step {w w' : World} {lo : Nat} {v : Value} {m : MMan} (h : MIn w lo v m) (hb : Below w.heap.size w w') : MIn w' lo v m := h.chg (P := fun _ => False) (Chg.ofBelow hb) (fun _ h => h.elim)
theorem MIn.low {w : World} {lo lo' : Nat} {v : Value} {m : MMan} (h : MIn w lo v m) (hl : lo' ≤ lo) : MIn w lo' v m := by
  obtain ⟨vf, e, h⟩ := h
  exact ⟨vf, e, h.mono (fun k hk => ⟨by omega, hk.2⟩) (fun k hk => ⟨by omega, hk.2⟩)⟩
def zeroMc : List Value := [.int .u64 0, .int .u32 0, .slice none 0 0]
theorem info_manz : (Try.prog.info? 56).map (fun i => (i.zero, i.size, i.bytes)) = some (some (.agg zeroMc.toArray), 3, 40) := by kernel_rfl
theorem zeroM_cells : (Value.agg zeroMc.toArray).cells = zeroMc.toArray := rfl
theorem info_i64 : (Try.prog.info? 3).map (fun i => (i.zero, i.size, i.bytes)) = some (some (.int .i64 0), cInt.n, 8) := by kernel_rfl
theorem info_fileC : (Try.prog.info? 62).map (fun i => (i.zero, i.size, i.bytes)) = some (some (.agg zeroFc.toArray), cFile.n, 56) := by kernel_rfl
theorem encM_one (m : MMan) (v : Value) (hv : v.oneCell' = true) : ∀ u ∈ encM m v, u.oneCell' = true := fun u hu => by
  simp [encM] at hu
  rcases hu with rfl | rfl | rfl
  · rfl
  · rfl
  · exact hv
theorem manyOf_nat (n : Nat) : manyOf (n : Int) = (((manyOf (n : Int)).toNat : Nat) : Int) := by unfold manyOf; split <;> omega
theorem manyOf_le (n : Nat) (h : n ≤ 7340032) : (manyOf (n : Int)).toNat ≤ 65536 := by unfold manyOf; split <;> omega
end Go.Proofs.Ytpoicbhbkabllaa

namespace Go.Proofs.Ytpoicbhbkabllaa
set_option linter.unusedSimpArgs false
set_option linter.unusedVariables false

abbrev RW := Int × List UInt8
structure RD where
  count : Int
  off : Bool
  fuse : Int
  made : List RW
  wait : List RW
def lastR (l : List RW) (i : Int) (b : List UInt8) : List UInt8 := l.foldl (fun b x => if x.1 = i then x.2 else b) b
def zerosL : List UInt8 := List.replicate 128 0
def goodR (m : RD) (i : Int) : List UInt8 := lastR m.made i zerosL
def readRE (m : RD) (i : Int) : Int := if m.off = true then 6 else if 0 ≤ i ∧ i < m.count then 0 else 9
def readRL (m : RD) (i : Int) : List UInt8 := if readRE m i ≠ 0 then [] else lastR m.wait i (goodR m i)
def putMade (l : List RW) (x : RW) : List RW := l.filter (fun y => decide (y.1 ≠ x.1)) ++ [x]
def putRD (m : RD) (x : RW) : RD := { m with made := putMade m.made x }
def deedRE (m : RD) : Int := if m.fuse = 0 then 6 else 0
def deedRD (m : RD) : RD := if m.fuse = 0 then { m with off := true } else if 0 < m.fuse then { m with fuse := m.fuse - 1 } else m
def writeRE (m : RD) (i : Int) (b : List UInt8) : Int := if readRE m i ≠ 0 then readRE m i else if b.length ≠ 128 then 3 else deedRE m
def writeRD (m : RD) (i : Int) (b : List UInt8) : RD :=
  if readRE m i ≠ 0 then m else if b.length ≠ 128 then m else if deedRE m ≠ 0 then deedRD m else { deedRD m with wait := m.wait ++ [(i, b)] }
def syncRE (m : RD) : Int := if m.off = true then 6 else deedRE m
def syncRD (m : RD) : RD := if m.off = true then m else if deedRE m ≠ 0 then deedRD m else { (m.wait.foldl putRD (deedRD m)) with wait := [] }
def backRS (keep torn k : Nat) (x : RW) (m : RD) : RD := if bitAt keep k = true then putRD m x else if bitAt torn k = true then putRD m (x.1, x.2.take 64 ++ (goodR m x.1).drop 64) else m
def backRL (keep torn : Nat) : Nat → List RW → RD → RD
  | _, [], m => m
  | k, x :: t, m => backRL keep torn (k + 1) t (backRS keep torn k x m)
def backRD (m : RD) (keep torn : Nat) : RD := { backRL keep torn 0 m.wait m with wait := [], off := false, fuse := -1 }
def spoilRE (m : RD) (i at_ : Int) : Int := if 0 ≤ i ∧ i < m.count ∧ 0 ≤ at_ ∧ at_ < 128 then 0 else 9
def spoilRD (m : RD) (i at_ : Int) (c : UInt8) : RD := if spoilRE m i at_ ≠ 0 then m else putRD m (i, (goodR m i).set at_.toNat ((goodR m i).getD at_.toNat 0 ^^^ c))
def newR (n : Int) : RD := { count := n, off := false, fuse := -1, made := [], wait := [] }

/-! ### the last one -/
theorem lastR_snoc (l : List RW) (x : RW) (i : Int) (b : List UInt8) : lastR (l ++ [x]) i b = if x.1 = i then x.2 else lastR l i b := by simp [lastR]
theorem lastR_filter (k i : Int) (h : k ≠ i) : ∀ (l : List RW) (b : List UInt8), lastR (l.filter (fun y => decide (y.1 ≠ k))) i b = lastR l i b
  | [], _ => rfl
  | x :: l, b => by
    rw [List.filter_cons]
    by_cases hx : x.1 = k
    · have hxi : ¬ x.1 = i := fun e => h (hx.symm.trans e)
      rw [if_neg (by simp [hx]), lastR_filter k i h l b]
      show _ = lastR l i (if x.1 = i then x.2 else b)
      rw [if_neg hxi]
    · rw [if_pos (by simp [hx])]
      exact lastR_filter k i h l (if x.1 = i then x.2 else b)
theorem lastR_put (l : List RW) (x : RW) (i : Int) (b : List UInt8) : lastR (putMade l x) i b = if x.1 = i then x.2 else lastR l i b := by
  unfold putMade
  rw [lastR_snoc]
  by_cases h : x.1 = i
  · rw [if_pos h, if_pos h]
  · rw [if_neg h, if_neg h, lastR_filter _ _ h]
theorem lastR_wt (wt : List Wt) (i : Nat) : ∀ b : Blk, lastR (wt.map fun x => ((x.1 : Int), x.2.1)) (i : Int) b.1 = (lastW wt i b).1 := by
  induction wt with
  | nil => intro b; rfl
  | cons x t ih =>
    intro b
    have := ih (if x.1 = i then x.2 else b)
    show lastR (t.map _) (i : Int) (if (x.1 : Int) = (i : Int) then x.2.1 else b.1) = (lastW t i (if x.1 = i then x.2 else b)).1
    rw [← this]
    congr 1
    by_cases h : x.1 = i
    · rw [if_pos h, if_pos (by omega)]
    · rw [if_neg h, if_neg (by omega)]

/-! ### that both agree -/
structure RelD (d : DState) (m : RD) : Prop where
  count : m.count = (d.bl.length : Int)
  off : m.off = d.off
  fuse : m.fuse = d.fuse
  good : ∀ i, i < d.bl.length → goodR m (i : Int) = (d.bl.getD i zeroB).1
  wait : m.wait = d.wt.map fun x => ((x.1 : Int), x.2.1)
theorem rel_mayE {d : DState} {m : RD} (h : RelD d m) (i : Int) : readRE m i = mayE d i := by unfold readRE mayE; rw [h.off, h.count]
theorem mayE_in {d : DState} {i : Int} (h : mayE d i = 0) : 0 ≤ i ∧ i < (d.bl.length : Int) := by
  unfold mayE at h
  split at h
  · cases h
  · split at h
    · assumption
    · cases h
theorem rel_read {d : DState} {m : RD} (h : RelD d m) (i : Int) : readRL m i = readL d i := by
  unfold readRL readL
  rw [rel_mayE h]
  by_cases hm : mayE d i ≠ 0
  · rw [if_pos hm, if_pos hm]
  · rw [if_neg hm, if_neg hm]
    have hi := mayE_in (by simpa using hm)
    obtain ⟨k, rfl⟩ : ∃ k : Nat, i = (k : Int) := ⟨i.toNat, by omega⟩
    rw [h.good k (by omega), h.wait, Int.toNat_natCast, lastR_wt]
    rfl
theorem rel_deedE {d : DState} {m : RD} (h : RelD d m) : deedRE m = deedE d := by unfold deedRE deedE; rw [h.fuse]
theorem rel_deed {d : DState} {m : RD} (h : RelD d m) : RelD (deedD d) (deedRD m) := by
  unfold deedD deedRD
  rw [h.fuse]
  split
  · exact ⟨h.count, rfl, rfl, h.good, h.wait⟩
  · split
    · exact ⟨h.count, h.off, rfl, h.good, h.wait⟩
    · exact h
theorem rel_writeE {d : DState} {m : RD} (h : RelD d m) (i : Int) (b : List UInt8) : writeRE m i b = writeE d i b := by unfold writeRE writeE; rw [rel_mayE h, rel_deedE h]
theorem deedRD_wait (m : RD) : (deedRD m).wait = m.wait := by unfold deedRD; split <;> (try split) <;> rfl
theorem deedRD_made (m : RD) : (deedRD m).made = m.made := by unfold deedRD; split <;> (try split) <;> rfl
theorem rel_write {d : DState} {m : RD} (h : RelD d m) (i : Int) (b : List UInt8) : RelD (writeD d i b) (writeRD m i b) := by
  unfold writeD writeRD
  rw [rel_mayE h, rel_deedE h]
  by_cases hm : mayE d i ≠ 0
  · rw [if_pos hm, if_pos hm]; exact h
  · rw [if_neg hm, if_neg hm]
    by_cases hb : b.length = 128
    · rw [dif_pos hb, if_neg (show ¬ b.length ≠ 128 by simp [hb])]
      have hd := rel_deed h
      by_cases he : deedE d ≠ 0
      · rw [if_pos he, if_pos he]; exact hd
      · rw [if_neg he, if_neg he]
        have hi := mayE_in (by simpa using hm)
        refine ⟨hd.count, hd.off, hd.fuse, hd.good, ?_⟩
        show m.wait ++ [(i, b)] = (d.wt ++ [(i.toNat, (⟨b, hb⟩ : Blk))]).map _
        rw [List.map_append, h.wait]
        simp only [List.map_cons, List.map_nil]
        rw [Int.toNat_of_nonneg hi.1]
    · rw [dif_neg hb, if_pos hb]; exact h
theorem rel_put {d : DState} {m : RD} (h : RelD d m) (k : Nat) (c : Blk) (hk : k < d.bl.length) : RelD { d with bl := d.bl.set k c } (putRD m ((k : Int), c.1)) := by
  refine ⟨by simp only [List.length_set]; exact h.count, h.off, h.fuse, fun i hi => ?_, h.wait⟩
  simp only [List.length_set] at hi
  show lastR (putMade m.made ((k : Int), c.1)) (i : Int) zerosL = ((d.bl.set k c).getD i zeroB).1
  rw [lastR_put]
  rw [List.getD_eq_getElem?_getD, List.getElem?_set]
  by_cases hik : k = i
  · subst hik
    rw [if_pos rfl, if_pos rfl, if_pos hk]
    rfl
  · rw [if_neg (by simp; omega), if_neg hik]
    have := h.good i hi
    unfold goodR at this
    rw [this, List.getD_eq_getElem?_getD]
theorem putRD_wait (m : RD) (x : RW) : (putRD m x).wait = m.wait := rfl
theorem rel_syncs (m0w : List RW) (wt : List Wt) : ∀ (d : DState) (m : RD), RelD d m → (∀ x ∈ wt, x.1 < d.bl.length) →
    RelD { d with bl := syncBl wt d.bl } ((wt.map fun x => ((x.1 : Int), x.2.1)).foldl putRD m) := by
  induction wt with
  | nil => intro d m h _; exact h
  | cons x t ih =>
    intro d m h hx
    have h1 := rel_put h x.1 x.2 (hx x (by simp))
    have := ih { d with bl := d.bl.set x.1 x.2 } _ h1 (fun y hy => by simp only [List.length_set]; exact hx y (by simp [hy]))
    exact this
theorem foldl_putRD_wait (l : List RW) : ∀ m : RD, (l.foldl putRD m).wait = m.wait := by
  induction l with
  | nil => intro m; rfl
  | cons x t ih => intro m; exact ih _
theorem rel_syncE {d : DState} {m : RD} (h : RelD d m) : syncRE m = syncE d := by unfold syncRE syncE; rw [h.off, rel_deedE h]
theorem rel_sync {d : DState} {m : RD} (h : RelD d m) (hw : ∀ x ∈ d.wt, x.1 < d.bl.length) : RelD (syncD d) (syncRD m) := by
  unfold syncD syncRD
  rw [h.off, rel_deedE h]
  by_cases ho : d.off = true
  · rw [if_pos ho, if_pos ho]; exact h
  · rw [if_neg ho, if_neg ho]
    by_cases he : deedE d ≠ 0
    · rw [if_pos he, if_pos he]; exact rel_deed h
    · rw [if_neg he, if_neg he]
      have h1 := rel_syncs [] d.wt (deedD d) (deedRD m) (rel_deed h) (by rw [deedD_bl]; exact hw)
      rw [← h.wait, deedD_bl] at h1
      exact ⟨h1.count, h1.off, h1.fuse, h1.good, rfl⟩
theorem rel_backS {d : DState} {m : RD} (h : RelD d m) (keep torn k : Nat) (x : Wt) (hx : x.1 < d.bl.length) :
    RelD { d with bl := backStep keep torn k x d.bl } (backRS keep torn k ((x.1 : Int), x.2.1) m) := by
  unfold backStep backRS
  by_cases hk : bitAt keep k = true
  · rw [if_pos hk, if_pos hk]; exact rel_put h _ _ hx
  · rw [if_neg hk, if_neg hk]
    by_cases ht : bitAt torn k = true
    · rw [if_pos ht, if_pos ht]
      have := rel_put h x.1 (over (d.bl.getD x.1 zeroB) 0 (x.2.1.take 64)) hx
      have e : (over (d.bl.getD x.1 zeroB) 0 (x.2.1.take 64)).1 = x.2.1.take 64 ++ (goodR m (x.1 : Int)).drop 64 := by
        rw [h.good _ hx]
        have hl : (x.2.1.take 64).length = 64 := by rw [List.length_take, x.2.2]; rfl
        unfold over
        rw [dif_pos (by omega)]
        simp only [hl, List.take_zero, List.nil_append, Nat.zero_add]
      rw [e] at this
      exact this
    · rw [if_neg ht, if_neg ht]; exact h
theorem rel_backs (keep torn : Nat) (wt : List Wt) : ∀ (k : Nat) (d : DState) (m : RD), RelD d m → (∀ x ∈ wt, x.1 < d.bl.length) →
    RelD { d with bl := backBl keep torn k wt d.bl } (backRL keep torn k (wt.map fun x => ((x.1 : Int), x.2.1)) m) := by
  induction wt with
  | nil => intro k d m h _; exact h
  | cons x t ih =>
    intro k d m h hx
    have h1 := rel_backS h keep torn k x (hx x (by simp))
    exact ih (k + 1) { d with bl := backStep keep torn k x d.bl } _ h1 (fun y hy => by simp only [backStep_len]; exact hx y (by simp [hy]))
theorem rel_back {d : DState} {m : RD} (h : RelD d m) (keep torn : Nat) (hw : ∀ x ∈ d.wt, x.1 < d.bl.length) : RelD (backD d keep torn) (backRD m keep torn) := by
  unfold backD backRD
  have h1 := rel_backs keep torn d.wt 0 d m h hw
  rw [← h.wait] at h1
  exact ⟨h1.count, rfl, rfl, h1.good, rfl⟩
theorem rel_spoilE {d : DState} {m : RD} (h : RelD d m) (i at_ : Int) : spoilRE m i at_ = spoilE d i at_ := by unfold spoilRE spoilE; rw [h.count]
theorem rel_spoil {d : DState} {m : RD} (h : RelD d m) (i at_ : Int) (c : UInt8) : RelD (spoilD d i at_ c) (spoilRD m i at_ c) := by
  unfold spoilD spoilRD
  rw [rel_spoilE h]
  by_cases he : spoilE d i at_ ≠ 0
  · rw [if_pos he, if_pos he]; exact h
  · rw [if_neg he, if_neg he]
    have hi : 0 ≤ i ∧ i < (d.bl.length : Int) ∧ 0 ≤ at_ ∧ at_ < 128 := by
      unfold spoilE at he
      split at he
      · assumption
      · simp at he
    obtain ⟨k, rfl⟩ : ∃ k : Nat, i = (k : Int) := ⟨i.toNat, by omega⟩
    obtain ⟨j, rfl⟩ : ∃ j : Nat, at_ = (j : Int) := ⟨at_.toNat, by omega⟩
    rw [Int.toNat_natCast, Int.toNat_natCast]
    have hk : k < d.bl.length := by omega
    have hg := h.good k hk
    have := rel_put h k (over (d.bl.getD k zeroB) j [(d.bl.getD k zeroB).1.getD j 0 ^^^ c]) hk
    have e : (over (d.bl.getD k zeroB) j [(d.bl.getD k zeroB).1.getD j 0 ^^^ c]).1 = (goodR m (k : Int)).set j ((goodR m (k : Int)).getD j 0 ^^^ c) := by
      rw [hg]
      apply List.ext_getElem?
      intro q
      have hl := (d.bl.getD k zeroB).2
      rw [over_get _ _ _ (by simp; omega), List.getElem?_set]
      by_cases hq : j = q
      · subst hq
        rw [if_pos (by simp), if_pos rfl, if_pos (by omega), Nat.sub_self]
        rfl
      · rw [if_neg (by simp; omega), if_neg hq]
    rw [e] at this
    exact this
theorem rel_new (n : Nat) : RelD { bl := List.replicate n zeroB, wt := [], off := false, fuse := -1 } (newR (n : Int)) := by
  refine ⟨by simp [newR], rfl, rfl, fun i hi => ?_, rfl⟩
  show zerosL = _
  rw [List.getD_eq_getElem?_getD, List.getElem?_replicate]
  split <;> rfl
end Go.Proofs.Ytpoicbhbkabllaa

namespace Go.Proofs.Ytpoicbhbkabllaa
set_option linter.unusedSimpArgs false
set_option linter.unusedVariables false
open Go.RowKit

def cRW : Cdc RW := Cdc.flat 2 (fun x => [.int .i64 x.1, .string (bst x.2)]) (fun x => x.2.length = 128) (fun _ => rfl) (fun x u hu => by simp at hu; rcases hu with rfl | rfl <;> rfl)
abbrev ByR (w : World) (O : Nat → Prop) (v : Value) (l : List RW) : Prop := RowOn cRW w O (fun _ => True) v l
theorem ByR.below {w w' : World} {O : Nat → Prop} {B : Nat} {v : Value} {l : List RW} (h : ByR w O v l) (hb : Below B w w') (hO : ∀ k, O k → k < B) : ByR w' O v l := by
  obtain ⟨A, c, h1, h2, h3, h4⟩ := h
  refine ⟨A, c, h1, h2, h3, fun hn => ?_⟩
  obtain ⟨ad, e, hb', hc⟩ := h4 hn
  refine ⟨ad, e, hb', fun i x hx => ?_⟩
  obtain ⟨cs, ha, hcs⟩ := hc i x hx
  exact ⟨cs, ha, fun j u hu => (hb.cell (by rw [add_block]; exact hO _ hb')).trans (hcs j u hu)⟩
theorem ByR.more {w : World} {O O' : Nat → Prop} {v : Value} {l : List RW} (h : ByR w O v l) (hB : ∀ k, O k → O' k) : ByR w O' v l := RowOn.mono h hB (fun _ hk => hk)
theorem ByR.chg {w w' : World} {O P : Nat → Prop} {v : Value} {l : List RW} (h : ByR w O v l) (hc : Chg P w w') (hO : ∀ k, O k → k < w.heap.size ∧ ¬ P k) : ByR w' O v l := by
  obtain ⟨A, c, h1, h2, h3, h4⟩ := h
  refine ⟨A, c, h1, h2, h3, fun hn => ?_⟩
  obtain ⟨ad, e, hb', hcc⟩ := h4 hn
  refine ⟨ad, e, hb', fun i x hx => ?_⟩
  obtain ⟨cs, ha, hcs⟩ := hcc i x hx
  exact ⟨cs, ha, fun j u hu => (World.cell?_of_block (hc.block _ (by rw [add_block]; exact (hO _ hb').1) (by rw [add_block]; exact (hO _ hb').2))).trans (hcs j u hu)⟩
theorem ByR.nil_ {w : World} {O : Nat → Prop} : ByR w O (.slice none 0 0) [] := RowOn.nil_
theorem ByR.ok {w : World} {O : Nat → Prop} {v : Value} {l : List RW} (h : ByR w O v l) : ∀ x ∈ l, x.2.length = 128 := by
  intro x hx
  obtain ⟨i, hi, rfl⟩ := List.mem_iff_getElem.1 hx
  obtain ⟨A, c, rfl, _, _⟩ := h.form
  obtain ⟨ad, cs, _, _, ⟨_, hk⟩, _⟩ := h.at_ i _ (List.getElem?_eq_getElem hi)
  exact hk
/-- the cells of the k-th -/
theorem ByR.cells {w : World} {O : Nat → Prop} {A : Option Addr} {n c : Nat} {l : List RW} (h : ByR w O (.slice A n c) l) (k : Nat) (hk : k < l.length) : n = l.length ∧ ∃ ad, A = some ad ∧ O ad.block ∧ w.cell? (ad.add (k * 2)) = some (.int .i64 (l[k]).1) ∧ w.cell? { block := (ad.add (k * 2)).block, off := (ad.add (k * 2)).off + 1 } = some (.string (bst (l[k]).2)) := by
  obtain ⟨ad, cs, e, hb, ⟨rfl, _⟩, hc⟩ := h.at_ k _ (List.getElem?_eq_getElem hk)
  refine ⟨(h.len_).1, ad, e, hb, hc 0 _ rfl, ?_⟩
  have := hc 1 _ rfl
  rw [← add_add] at this
  have e2 : (ad.add (k * cRW.n)).add 1 = { block := (ad.add (k * 2)).block, off := (ad.add (k * 2)).off + 1 } := by simp [Addr.add, cRW, Cdc.flat]; exact ⟨rfl, rfl⟩
  rw [e2] at this
  exact this
/-- the value v is a disk of the document's, its rows in blocks of O -/
def RDV (w : World) (O : Nat → Prop) (v : Value) (m : RD) : Prop := ∃ v1 v2, v = .agg #[.int .i64 m.count, .bool m.off, .int .i64 m.fuse, v1, v2] ∧ ByR w O v1 m.made ∧ ByR w O v2 m.wait ∧
  (-9223372036854775808 ≤ m.count ∧ m.count ≤ 9223372036854775807) ∧ (-9223372036854775808 ≤ m.fuse ∧ m.fuse ≤ 9223372036854775807)
section
variable {w w' : World} {O O' P : Nat → Prop} {v : Value} {m : RD}
theorem RDV.below {B : Nat} (h : RDV w O v m) (hb : Below B w w') (hO : ∀ k, O k → k < B) : RDV w' O v m := by
  obtain ⟨v1, v2, e, h1, h2, h3, h4⟩ := h
  exact ⟨v1, v2, e, h1.below hb hO, h2.below hb hO, h3, h4⟩
theorem RDV.chg (h : RDV w O v m) (hc : Chg P w w') (hO : ∀ k, O k → k < w.heap.size ∧ ¬ P k) : RDV w' O v m := by
  obtain ⟨v1, v2, e, h1, h2, h3, h4⟩ := h
  exact ⟨v1, v2, e, h1.chg hc hO, h2.chg hc hO, h3, h4⟩
theorem RDV.more (h : RDV w O v m) (hO : ∀ k, O k → O' k) : RDV w O' v m := by
  obtain ⟨v1, v2, e, h1, h2, h3, h4⟩ := h
  exact ⟨v1, v2, e, h1.more hO, h2.more hO, h3, h4⟩
end
/-- what a call has made, beside what there was -/
def Onew (O : Nat → Prop) (w w' : World) : Nat → Prop := fun k => O k ∨ (w.heap.size ≤ k ∧ k < w'.heap.size)
theorem lastR_len {l : List RW} (h : ∀ x ∈ l, x.2.length = 128) (i : Int) : ∀ b : List UInt8, b.length = 128 → (lastR l i b).length = 128 := by
  induction l with
  | nil => intro b hb; exact hb
  | cons x t ih =>
    intro b hb
    show (lastR t i (if x.1 = i then x.2 else b)).length = 128
    refine ih (fun y hy => h y (by simp [hy])) _ ?_
    split
    · exact h x (by simp)
    · exact hb
theorem zerosL_len : zerosL.length = 128 := by simp [zerosL]
theorem goodR_len {w : World} {O : Nat → Prop} {v : Value} {m : RD} (h : ByR w O v m.made) (i : Int) : (goodR m i).length = 128 := lastR_len h.ok i _ zerosL_len

set_option maxRecDepth 100000 in
set_option maxHeartbeats 1600000 in
theorem rzeros (w : World) : Calls Try.prog 74 #[] w fun e w' => e = .returned (.string (bst zerosL)) ∧ Below w.heap.size w w' := by
  have hmk : ∀ w : World, (Instr.makeSlice 30 (.int .i64 128) (.int .i64 128)).run Try.prog w = .ok (.slice (some ⟨w.heap.size, 0, none⟩) 128 128) (w.alloc (.cells (b8s zerosL).toArray 5)) := fun _ => by kernel_rfl
  have hby : By (w.alloc (.cells (b8s zerosL).toArray 5)) (w.heap.size + 1) (.slice (some ⟨w.heap.size, 0, none⟩) 128 128) zerosL := by
    have := By.new_ w zerosL (by simp [zerosL, maxLen])
    rwa [zerosL_len] at this
  have hc := conv8 hby
  clear hby
  generalize hz : b8s zerosL = Z at *
  generalize hz2 : bst zerosL = Z2 at *
  clear hz hz2
  go_enter Try.func74, Try.ntmps74
  go_wp2_with fail
  go_ret
  exact ⟨rfl, balloc w _⟩

set_option maxRecDepth 100000 in
set_option maxHeartbeats 1600000 in
theorem rlast (w : World) (O : Nat → Prop) (v : Value) (l : List RW) (i : Int) (b : List UInt8) (hl : l.length ≤ 1000000) (h : ByR w O v l) :
    Calls Try.prog 48 #[v, .int .i64 i, .string (bst b)] w fun e w' => e = .returned (.string (bst (lastR l i b))) ∧ w = w' := by
  obtain ⟨A, c, rfl, hc1, hc2⟩ := h.form
  unfold maxLen at hc2
  have H := Lib.hid h
  clear h
  go_enter Try.func48, Try.ntmps48
  go_wp2_with fail
  go_loop [2, 7, 10] (fun bv xv iv => ∃ k : Nat, k ≤ l.length ∧ iv = .int .i64 k ∧ bv = .string (bst (lastR (l.take k) i b))) (fun _ _ i => l.length - (intOf i).toNat)
  case atStart => exact ⟨0, by omega, rfl, rfl⟩
  case round =>
    obtain ⟨k, hk, rfl, rfl⟩ := hrel
    by_cases hlt : k < l.length
    · obtain ⟨_, ad, rfl, hab, k1, k2⟩ := H.out.cells k hlt
      have hsn := lastR_snoc (l.take k) (l[k]) i b
      have htk : l.take (k + 1) = l.take k ++ [l[k]] := by rw [List.take_add_one, List.getElem?_eq_getElem hlt]; rfl
      rw [← htk] at hsn
      clear htk
      generalize lastR (l.take k) i b = cur at *
      generalize l[k] = x at *
      obtain ⟨x1, x2⟩ := x
      simp only at k1 k2 hsn
      by_cases he : x1 = i
      · rw [if_pos he] at hsn
        have hd : (x1 == i) = true := by simp [he]
        have Hsn := Lib.hid hsn
        clear he hsn
        go_wp2_with fail
        go_round
        case rel => exact ⟨k + 1, by omega, by go_num, by rw [Hsn.out]⟩
        case measure => simp [intOf]; omega
      · rw [if_neg he] at hsn
        have hd : (x1 == i) = false := beq_eq_false_iff_ne.2 he
        have Hsn := Lib.hid hsn
        clear he hsn
        go_wp2_with fail
        go_round
        case rel => exact ⟨k + 1, by omega, by go_num, by rw [Hsn.out]⟩
        case measure => simp [intOf]; omega
    · obtain rfl : k = l.length := by omega
      rw [List.take_length]
      go_wp2_with fail
      go_ret
      exact ⟨rfl, rfl⟩

theorem testBit_div (n k : Nat) : n.testBit k = ((n / 2 ^ k) % 2 == 1) := by
  rw [Nat.testBit_eq_decide_div_mod_eq]
  rcases Nat.mod_two_eq_zero_or_one (n / 2 ^ k) with h | h <;> simp [h]
set_option maxRecDepth 100000 in
set_option maxHeartbeats 1600000 in
theorem rbit (w : World) (n i : Nat) (hn : n < 18446744073709551616) (hi : i ≤ 1000000) :
    Calls Try.prog 73 #[.int .u64 (n : Int), .int .i64 (i : Int)] w fun e w' => e = .returned (.bool (bitAt n i)) ∧ w = w' := by
  have hrem : (i : Int).tmod 64 = ((i % 64 : Nat) : Int) := by rw [Int.tmod_eq_emod_of_nonneg (by omega)]; rfl
  have hj : i % 64 < 64 := Nat.mod_lt _ (by decide)
  unfold bitAt
  rw [testBit_div]
  have hrem2 : (i : Int) % 64 = ((i % 64 : Nat) : Int) := rfl
  have hm : i % 64 ≤ i := Nat.mod_le _ _
  generalize i % 64 = j at *
  go_enter Try.func73, Try.ntmps73
  go_wp2_with fail
  go_loop [0, 5] (fun nv iv => ∃ k : Nat, k ≤ j ∧ iv = .int .i64 k ∧ nv = .int .u64 ((n / 2 ^ k : Nat) : Int)) (fun _ i => j - (intOf i).toNat)
  case atStart => exact ⟨0, by omega, rfl, by simp⟩
  case round =>
    obtain ⟨k, hk, rfl, rfl⟩ := hrel
    have hdk : n / 2 ^ (k + 1) = n / 2 ^ k / 2 := by rw [Nat.pow_succ, Nat.div_div_eq_div_mul]
    have hle : n / 2 ^ k ≤ n := Nat.div_le_self _ _
    have Hdk := Lib.hid hdk
    clear hdk
    by_cases hlt : k < j
    · generalize n / 2 ^ k = q at *
      have hq1 : IntKind.u64.wrap ((q : Int).tdiv 2) = ((q / 2 : Nat) : Int) := by rw [wrap_u64, Int.tdiv_eq_ediv_of_nonneg (by omega)]; omega
      have hq2 : IntKind.u64.wrap ((q : Int) / 2) = ((q / 2 : Nat) : Int) := by rw [wrap_u64]; omega
      have hlt' : decide ((k : Int) < (j : Int)) = true := decide_eq_true (by omega)
      go_wp2_with fail
      go_round
      case rel => exact ⟨k + 1, by omega, by go_num, by rw [Hdk.out]; first | rfl | simp⟩
      case measure => simp [intOf]; omega
    · obtain rfl : k = j := by omega
      generalize hq : n / 2 ^ k = q at *
      have Hq := Lib.hid hq
      clear hq
      have hlt' : decide ((k : Int) < (k : Int)) = false := decide_eq_false (by omega)
      go_wp2_with fail
      go_ret
      refine ⟨?_, rfl⟩
      rcases Nat.mod_two_eq_zero_or_one q with h | h
      · have h2 : (q : Int) % 2 = 0 := by omega
        rw [Hq.out]
        simp [h, h2]
      · have h2 : (q : Int) % 2 = 1 := by omega
        rw [Hq.out]
        simp [h, h2]
end Go.Proofs.Ytpoicbhbkabllaa

namespace Go.Proofs.Ytpoicbhbkabllaa
set_option linter.unusedSimpArgs false
set_option linter.unusedVariables false
open Go.RowKit

theorem readRE_off {m : RD} {i : Int} (h : m.off = true) : readRE m i = 6 := by unfold readRE; rw [if_pos h]
theorem readRE_in {m : RD} {i : Int} (h : m.off = false) (hi : 0 ≤ i ∧ i < m.count) : readRE m i = 0 := by unfold readRE; rw [if_neg (by simp [h]), if_pos hi]
theorem readRE_out {m : RD} {i : Int} (h : m.off = false) (hi : ¬ (0 ≤ i ∧ i < m.count)) : readRE m i = 9 := by unfold readRE; rw [if_neg (by simp [h]), if_neg hi]
theorem readRL_no {m : RD} {i : Int} (h : readRE m i ≠ 0) : readRL m i = [] := by unfold readRL; rw [if_pos h]
theorem readRL_yes {m : RD} {i : Int} (h : readRE m i = 0) : readRL m i = lastR m.wait i (goodR m i) := by unfold readRL; rw [if_neg (by simp [h])]
theorem BoxAt.blw {T : TypeId} {w w' : World} {g : Nat} {cs : List Value} (h : BoxAt T w g cs) (hb : Below w.heap.size w w') : BoxAt T w' g cs := h.below h.lt hb
set_option maxRecDepth 100000 in
set_option maxHeartbeats 1600000 in
theorem rgood (w : World) (O : Nat → Prop) (v : Value) (m : RD) (i : Int) (hO : ∀ k, O k → k < w.heap.size) (hl : m.made.length ≤ 1000000) (h : RDV w O v m) :
    Calls Try.prog 49 #[v, .int .i64 i] w fun e w' => e = .returned (.string (bst (goodR m i))) ∧ Below w.heap.size w w' := by
  obtain ⟨v1, v2, rfl, h1, h2, h3, h4⟩ := h
  have hb0 := balloc w (.cells #[.int .i64 m.count, .bool m.off, .int .i64 m.fuse, v1, v2] 42)
  have hbx := BoxAt.new_ 42 w [.int .i64 m.count, .bool m.off, .int .i64 m.fuse, v1, v2]
  have hz : w.heap.size < (w.alloc (.cells #[.int .i64 m.count, .bool m.off, .int .i64 m.fuse, v1, v2] 42)).heap.size := by simp
  have Hb0 := Lib.hid hb0
  have Hbx := Lib.hid hbx
  have H1 := Lib.hid (h1.below hb0 hO)
  have HO := Lib.hid hO
  clear hb0 hbx h1 h2 h3 h4 hO
  go_enter Try.func49, Try.ntmps49
  go_wp2_with fail
  generalize w.alloc (.cells #[.int .i64 m.count, .bool m.off, .int .i64 m.fuse, v1, v2] 42) = w1 at *
  refine wp_region_typed [some 5, some 6, some 7, some 8, some 9, some 4] [5, 6, 7, 8, 9, 4]
    [Ph.is (.pointer (some ⟨w.heap.size, 3, none⟩)),
      Ph.is (v1),
      Ph.is (.int .i64 i),
      Ph.is (.string (bst zerosL)),
      Ph.is (.string (bst (goodR m i))),
      Ph.is (.string (bst (goodR m i)))] rfl rfl (by kernel_rfl) (by kernel_rfl) ?_ ?_
  · refine ⟨?_, ?_, ?_, ?_, ?_, ?_, trivial⟩
    · -- 0: slot 5 := Op.fieldAddr 42 t2 3
      refine ob_yes fun f w' hb hp => ?_
      simp [PreOf, factOf, valOf, Ph.is, Ph.by_, Ph.any, Region.binds] at hp
      refine ⟨by simp [Gd, valOf, hp], ?_⟩
      refine mild_val (.pointer (some ⟨w.heap.size, 3, none⟩)) ?_ rfl
      simp [execOp, evalF, hp, go_sem]
    · -- 1: slot 6 := Op.load 40 t5
      refine ob_yes fun f w' hb hp => ?_
      simp [PreOf, factOf, valOf, Ph.is, Ph.by_, Ph.any, Region.binds] at hp
      refine ⟨by simp [Gd, valOf, hp], ?_⟩
      refine mild_val v1 ?_ rfl
      have hc := (Hbx.out.blw hb).cell 3 _ rfl
      simp [execOp, evalF, hp, hc, go_sem]
    · -- 2: slot 7 := Op.move t1
      refine ob_yes fun f w' hb hp => ?_
      simp [PreOf, factOf, valOf, Ph.is, Ph.by_, Ph.any, Region.binds] at hp
      refine ⟨by simp [Gd, valOf, hp], ?_⟩
      refine mild_val (.int .i64 i) ?_ rfl
      simp [execOp, evalF, hp]
    · -- 3: slot 8 := Op.call   value (Operand.func 74), args := #[], argTypes := #[]  
      refine ob_yes fun f w' hb hp => ?_
      simp [PreOf, factOf, valOf, Ph.is, Ph.by_, Ph.any, Region.binds] at hp
      refine ⟨by simp [Gd, valOf, hp], ?_⟩
      refine mild_call 74 _ _ Try.f74 Try.func74 (by kernel_rfl) (by kernel_rfl) rfl ?_
      simp [evalF, hp, Ph.is, Ph.by_, Ph.any]
      refine (rzeros w').mono fun ev w2 h => ?_
      obtain ⟨rfl, h2⟩ := h
      first | exact ⟨_, rfl, h2, rfl⟩ | exact ⟨rfl, h2⟩ | simpa using h2
    · -- 4: slot 9 := Op.call   value (Operand.func 48), args := #[t6, t7, t8], argTypes := #[40, 3, 9]  
      refine ob_yes fun f w' hb hp => ?_
      simp [PreOf, factOf, valOf, Ph.is, Ph.by_, Ph.any, Region.binds] at hp
      refine ⟨by simp [Gd, valOf, hp], ?_⟩
      refine mild_call 48 _ _ Try.f48 Try.func48 (by kernel_rfl) (by kernel_rfl) rfl ?_
      simp [evalF, hp, Ph.is, Ph.by_, Ph.any]
      refine (rlast w' _ v1 m.made i zerosL hl (H1.out.below hb (fun k hk => Nat.lt_trans (HO.out k hk) hz))).mono fun ev w2 h => ?_
      obtain ⟨rfl, rfl⟩ := h
      first | exact ⟨_, rfl, Below.refl _ _, rfl⟩ | exact ⟨rfl, Below.refl _ _⟩ | exact Below.refl _ _ | simpa using Below.refl _ _
    · -- 5: slot 4 := Op.assign t9
      refine ob_yes fun f w' hb hp => ?_
      simp [PreOf, factOf, valOf, Ph.is, Ph.by_, Ph.any, Region.binds] at hp
      refine ⟨by simp [Gd, valOf, hp], ?_⟩
      refine mild_val (.string (bst (goodR m i))) ?_ rfl
      simp [execOp, evalF, hp]
  · intro f w2 hb2 hp
    simp only [PostOf, Ph.is, Ph.by_, Ph.any] at hp
    obtain ⟨h0, h1, h2, h3, h4, h5, _⟩ := hp
    simp only [fills, List.foldl_cons, List.foldl_nil, Act.put, List.setIfInBounds_toArray, List.set_cons_zero, List.set_cons_succ, h0, h1, h2, h3, h4, h5]
    clear h0 h1 h2 h3 h4 h5
    have hb3 := Hb0.out.trans (hb2.mono (by omega))
    go_wp2_with fail
    go_ret
    exact ⟨rfl, hb3⟩
set_option maxRecDepth 100000 in
set_option maxHeartbeats 1600000 in
theorem rread (w : World) (O : Nat → Prop) (v : Value) (m : RD) (i : Int) (hO : ∀ k, O k → k < w.heap.size) (hl : m.made.length ≤ 1000000) (hl2 : m.wait.length ≤ 1000000) (h : RDV w O v m) :
    Calls Try.prog 25 #[v, .int .i64 i] w fun e w' => e = .returned (.tuple #[.string (bst (readRL m i)), .int .i64 (readRE m i)]) ∧ Below w.heap.size w w' := by
  obtain ⟨cn, of, fu, md, wt⟩ := m
  simp only at hl hl2
  have Hv := Lib.hid h
  obtain ⟨v1, v2, rfl, h1, h2, h3, h4⟩ := h
  simp only at h1 h2 h3 h4
  have hb0 := balloc w (.cells #[.int .i64 cn, .bool of, .int .i64 fu, v1, v2] 42)
  have hbx := BoxAt.new_ 42 w [.int .i64 cn, .bool of, .int .i64 fu, v1, v2]
  have hz : w.heap.size < (w.alloc (.cells #[.int .i64 cn, .bool of, .int .i64 fu, v1, v2] 42)).heap.size := by simp
  have hc1 := hbx.cell 1 _ rfl
  have hc0 := hbx.cell 0 _ rfl
  have Hb0 := Lib.hid hb0
  have Hbx := Lib.hid hbx
  have H2 := Lib.hid (h2.below hb0 hO)
  have HO := Lib.hid hO
  have Hv1 := Lib.hid (Hv.out.below hb0 hO)
  clear hb0 hbx h1 h2 h3 h4 Hv hO
  dsimp only
  cases of with
  | true =>
    rw [readRE_off rfl, readRL_no (by rw [readRE_off rfl]; decide)]
    go_enter Try.func25, Try.ntmps25
    go_wp2_with fail
    go_ret2
    exact ⟨rfl, Hb0.out⟩
  | false =>
    by_cases hi : 0 ≤ i ∧ i < cn
    · rw [readRE_in rfl hi, readRL_yes (readRE_in rfl hi)]
      have hd1 : decide (i < 0) = false := decide_eq_false (by omega)
      have hd2 : decide (cn ≤ i) = false := decide_eq_false (by omega)
      clear hi
      go_enter Try.func25, Try.ntmps25
      go_wp2_with fail
      clear hc0 hc1
      generalize w.alloc (.cells #[.int .i64 cn, .bool false, .int .i64 fu, v1, v2] 42) = w1 at *
      refine wp_region_typed [some 16, some 17, some 18, some 19, some 20, some 21, some 22, some 4, some 5] [16, 17, 18, 19, 20, 21, 22, 4, 5]
        [Ph.is (.pointer (some ⟨w.heap.size, 4, none⟩)),
          Ph.is (v2),
          Ph.is (.int .i64 i),
          Ph.is (.agg #[.int .i64 cn, .bool false, .int .i64 fu, v1, v2]),
          Ph.is (.int .i64 i),
          Ph.is (.string (bst (goodR ⟨cn, false, fu, md, wt⟩ i))),
          Ph.is (.string (bst (lastR wt i (goodR ⟨cn, false, fu, md, wt⟩ i)))),
          Ph.is (.string (bst (lastR wt i (goodR ⟨cn, false, fu, md, wt⟩ i)))),
          Ph.is (.int .i64 0)] rfl rfl (by kernel_rfl) (by kernel_rfl) ?_ ?_
      · refine ⟨?_, ?_, ?_, ?_, ?_, ?_, ?_, ?_, ?_, trivial⟩
        · -- 0: slot 16 := Op.fieldAddr 42 t2 4
          refine ob_yes fun f w' hb hp => ?_
          simp [PreOf, factOf, valOf, Ph.is, Ph.by_, Ph.any, Region.binds] at hp
          refine ⟨by simp [Gd, valOf, hp], ?_⟩
          refine mild_val (.pointer (some ⟨w.heap.size, 4, none⟩)) ?_ rfl
          simp [execOp, evalF, hp, go_sem]
        · -- 1: slot 17 := Op.load 40 t16
          refine ob_yes fun f w' hb hp => ?_
          simp [PreOf, factOf, valOf, Ph.is, Ph.by_, Ph.any, Region.binds] at hp
          refine ⟨by simp [Gd, valOf, hp], ?_⟩
          refine mild_val v2 ?_ rfl
          have hc := (Hbx.out.blw hb).cell 4 _ rfl
          simp [execOp, evalF, hp, hc, go_sem]
        · -- 2: slot 18 := Op.move t1
          refine ob_yes fun f w' hb hp => ?_
          simp [PreOf, factOf, valOf, Ph.is, Ph.by_, Ph.any, Region.binds] at hp
          refine ⟨by simp [Gd, valOf, hp], ?_⟩
          refine mild_val (.int .i64 i) ?_ rfl
          simp [execOp, evalF, hp]
        · -- 3: slot 19 := Op.load 42 t2
          refine ob_yes fun f w' hb hp => ?_
          simp [PreOf, factOf, valOf, Ph.is, Ph.by_, Ph.any, Region.binds] at hp
          refine ⟨by simp [Gd, valOf, hp], ?_⟩
          refine mild_val (.agg #[.int .i64 cn, .bool false, .int .i64 fu, v1, v2]) ?_ rfl
          have hl := run_loadVar_cells w' ⟨w.heap.size, 0, none⟩ 42 [.int .i64 cn, .bool false, .int .i64 fu, v1, v2] (Hbx.out.blw hb).cells Try.underlying42 rfl (by kernel_rfl)
          simp only [execOp, evalF, List.contains_eq_mem, Instr.loadAt, Instr.sureAddr, Sem.run_bind, Sem.run_pure, Result.andThen_ok]
          simp [hp, hl]
        · -- 4: slot 20 := Op.move t1
          refine ob_yes fun f w' hb hp => ?_
          simp [PreOf, factOf, valOf, Ph.is, Ph.by_, Ph.any, Region.binds] at hp
          refine ⟨by simp [Gd, valOf, hp], ?_⟩
          refine mild_val (.int .i64 i) ?_ rfl
          simp [execOp, evalF, hp]
        · -- 5: slot 21 := Op.call   value (Operand.func 49), args := #[t19, t20], argTypes := #[42, 3]  
          refine ob_yes fun f w' hb hp => ?_
          simp [PreOf, factOf, valOf, Ph.is, Ph.by_, Ph.any, Region.binds] at hp
          refine ⟨by simp [Gd, valOf, hp], ?_⟩
          refine mild_call 49 _ _ Try.f49 Try.func49 (by kernel_rfl) (by kernel_rfl) rfl ?_
          simp [evalF, hp, Ph.is, Ph.by_, Ph.any]
          refine (rgood w' _ _ ⟨cn, false, fu, md, wt⟩ i (fun k hk => Nat.lt_of_lt_of_le (Nat.lt_trans (HO.out k hk) hz) hb.size) hl (Hv1.out.below hb (fun k hk => Nat.lt_trans (HO.out k hk) hz))).mono fun ev w2 h => ?_
          obtain ⟨rfl, h2⟩ := h
          first | exact ⟨_, rfl, h2, rfl⟩ | exact ⟨rfl, h2⟩ | simpa using h2
        · -- 6: slot 22 := Op.call   value (Operand.func 48), args := #[t17, t18, t21], argTypes := #[40, 3, 9]  
          refine ob_yes fun f w' hb hp => ?_
          simp [PreOf, factOf, valOf, Ph.is, Ph.by_, Ph.any, Region.binds] at hp
          refine ⟨by simp [Gd, valOf, hp], ?_⟩
          refine mild_call 48 _ _ Try.f48 Try.func48 (by kernel_rfl) (by kernel_rfl) rfl ?_
          simp [evalF, hp, Ph.is, Ph.by_, Ph.any]
          refine (rlast w' _ v2 wt i (goodR ⟨cn, false, fu, md, wt⟩ i) hl2 (H2.out.below hb (fun k hk => Nat.lt_trans (HO.out k hk) hz))).mono fun ev w2 h => ?_
          obtain ⟨rfl, rfl⟩ := h
          first | exact ⟨_, rfl, Below.refl _ _, rfl⟩ | exact ⟨rfl, Below.refl _ _⟩ | exact Below.refl _ _ | simpa using Below.refl _ _
        · -- 7: slot 4 := Op.assign t22
          refine ob_yes fun f w' hb hp => ?_
          simp [PreOf, factOf, valOf, Ph.is, Ph.by_, Ph.any, Region.binds] at hp
          refine ⟨by simp [Gd, valOf, hp], ?_⟩
          refine mild_val (.string (bst (lastR wt i (goodR ⟨cn, false, fu, md, wt⟩ i)))) ?_ rfl
          simp [execOp, evalF, hp]
        · -- 8: slot 5 := Op.assign (const (0:i64))
          refine ob_yes fun f w' hb hp => ?_
          simp [PreOf, factOf, valOf, Ph.is, Ph.by_, Ph.any, Region.binds] at hp
          refine ⟨by simp [Gd, valOf, hp], ?_⟩
          refine mild_val (.int .i64 0) ?_ rfl
          simp [execOp, evalF, hp, go_sem]
      · intro f w2 hb2 hp
        simp only [PostOf, Ph.is, Ph.by_, Ph.any] at hp
        obtain ⟨h0, h1, h2, h3, h4, h5, h6, h7, h8, _⟩ := hp
        simp only [fills, List.foldl_cons, List.foldl_nil, Act.put, List.setIfInBounds_toArray, List.set_cons_zero, List.set_cons_succ, h0, h1, h2, h3, h4, h5, h6, h7, h8]
        clear h0 h1 h2 h3 h4 h5 h6 h7 h8
        have hb3 := Hb0.out.trans (hb2.mono (by omega))
        go_wp2_with fail
        go_ret2
        exact ⟨rfl, hb3⟩
    · rw [readRE_out rfl hi, readRL_no (by rw [readRE_out rfl hi]; decide)]
      by_cases hi0 : i < 0
      · have hd1 : decide (i < 0) = true := decide_eq_true hi0
        clear hi hi0
        go_enter Try.func25, Try.ntmps25
        go_wp2_with fail
        go_ret2
        exact ⟨rfl, Hb0.out⟩
      · have hd1 : decide (i < 0) = false := decide_eq_false hi0
        have hd2 : decide (cn ≤ i) = true := decide_eq_true (by omega)
        clear hi hi0
        go_enter Try.func25, Try.ntmps25
        go_wp2_with fail
        go_ret2
        exact ⟨rfl, Hb0.out⟩
end Go.Proofs.Ytpoicbhbkabllaa

namespace Go.Proofs.Ytpoicbhbkabllaa
set_option linter.unusedSimpArgs false
set_option linter.unusedVariables false
open Go.RowKit

/-- results: a struct that lies in memory, then a slot -/
theorem results_ct {fn : Func} {p q : Tmp} {T : TypeId} (h : fn.results = #[.cell p T, .tmp q]) (tmps : Array Value) (w : World) (g : Nat) (cs : List Value)
    (hp : tmps.getD p undef = .pointer (some ⟨g, 0, none⟩)) (hs : ∀ (j : Nat) (v : Value), cs[j]? = some v → w.cell? ((⟨g, 0, none⟩ : Addr).add j) = some v) {d : TypeDesc} (hu : Try.prog.underlying T = some d)
    (hd : (match d with | .struct _ | .array _ _ => true | _ => false) = true) (hi : (Try.prog.info? T).map (·.size) = some cs.length) :
    (results fn tmps).run Try.prog w = .ok (.tuple #[.agg cs.toArray, tmps.getD q undef]) w := by
  have hp' : tmps[p]?.getD undef = .pointer (some ⟨g, 0, none⟩) := by simpa using hp
  have hr := run_loadVar_cells w ⟨g, 0, none⟩ T cs hs hu hd hi
  simp [results, h, hp', asAddr, hr]
/-- how a disk of the document's lies in cells -/
abbrev encD (m : RD) (v1 v2 : Value) : List Value := [.int .i64 m.count, .bool m.off, .int .i64 m.fuse, v1, v2]
theorem RDV.mk' {w : World} {O : Nat → Prop} {m : RD} {v1 v2 : Value} (h1 : ByR w O v1 m.made) (h2 : ByR w O v2 m.wait) (h3 : -9223372036854775808 ≤ m.count ∧ m.count ≤ 9223372036854775807) (h4 : -9223372036854775808 ≤ m.fuse ∧ m.fuse ≤ 9223372036854775807) : RDV w O (.agg (encD m v1 v2).toArray) m := ⟨v1, v2, rfl, h1, h2, h3, h4⟩
set_option maxRecDepth 100000 in
set_option maxHeartbeats 1600000 in
theorem rnewD (w : World) (n : Int) (hn : -9223372036854775808 ≤ n ∧ n ≤ 9223372036854775807) :
    Calls Try.prog 22 #[.int .i64 n] w fun e w' => ∃ v, e = .returned v ∧ RDV w' (fun _ => False) v (newR n) ∧ Below w.heap.size w w' := by
  have Hn := Lib.hid hn
  clear hn
  go_enter Try.func22, Try.ntmps22
  go_wp2_with fail
  have hbx := BoxAt.new_ 42 w (encD (newR n) (.slice none 0 0) (.slice none 0 0))
  refine bodyPost_ret (results_c rfl _ _ w.heap.size (encD (newR n) (.slice none 0 0) (.slice none 0 0)) rfl (fun j v hj => (hbx.cells j v hj : _)) Try.underlying42 rfl (by kernel_rfl)) rfl ?_
  exact ⟨_, rfl, RDV.mk' ByR.nil_ ByR.nil_ Hn.out ⟨(by decide : (-9223372036854775808 : Int) ≤ -1), (by decide : (-1 : Int) ≤ 9223372036854775807)⟩, balloc w _⟩
set_option maxRecDepth 100000 in
set_option maxHeartbeats 1600000 in
theorem rdeed (w : World) (O : Nat → Prop) (v : Value) (m : RD) (hO : ∀ k, O k → k < w.heap.size) (h : RDV w O v m) :
    Calls Try.prog 71 #[v] w fun e w' => ∃ v', e = .returned (.tuple #[v', .int .i64 (deedRE m)]) ∧ RDV w' O v' (deedRD m) ∧ Below w.heap.size w w' := by
  obtain ⟨v1, v2, rfl, h1, h2, h3, h4⟩ := h
  obtain ⟨cn, of, fu, md, wt⟩ := m
  simp only at h1 h2 h3 h4
  obtain ⟨A1, c1, rfl, _⟩ := h1.form
  obtain ⟨A2, c2, rfl, _⟩ := h2.form
  have hbb : ∀ x y : Obj, Below w.heap.size w ((w.alloc x).alloc y) := fun x y => bstep (balloc w x) (balloc _ y)
  have H1 := Lib.hid (fun x y => h1.below (hbb x y) hO)
  have H2 := Lib.hid (fun x y => h2.below (hbb x y) hO)
  have Hb := Lib.hid hbb
  have H3 := Lib.hid h3
  have hfr := h4
  have H4 := Lib.hid h4
  clear h1 h2 h3 h4 hbb hO
  by_cases hf : fu = 0
  · have hd : (fu == 0) = true := by simp [hf]
    have e1 : deedRE ⟨cn, of, fu, md, wt⟩ = 6 := by unfold deedRE; rw [if_pos hf]
    have e2 : deedRD ⟨cn, of, fu, md, wt⟩ = ⟨cn, true, fu, md, wt⟩ := by unfold deedRD; rw [if_pos hf]
    rw [e1, e2]
    clear hf e1 e2 hfr
    go_enter Try.func71, Try.ntmps71
    go_wp2_with fail
    have hbx := BoxAt.new_ 42 (w.alloc (.cells (encD ⟨cn, true, fu, md, wt⟩ (.slice A1 md.length c1) (.slice A2 wt.length c2)).toArray 42)) (encD ⟨cn, true, fu, md, wt⟩ (.slice A1 md.length c1) (.slice A2 wt.length c2))
    rw [World.size_alloc] at hbx
    refine bodyPost_ret (results_ct rfl _ _ (w.heap.size + 1) (encD ⟨cn, true, fu, md, wt⟩ (.slice A1 md.length c1) (.slice A2 wt.length c2)) rfl (fun j v hj => (hbx.cells j v hj : _)) Try.underlying42 rfl (by kernel_rfl)) rfl ?_
    exact ⟨_, rfl, RDV.mk' (m := ⟨cn, true, fu, md, wt⟩) (H1.out _ _) (H2.out _ _) H3.out H4.out, Hb.out _ _⟩
  · have hd : (fu == 0) = false := beq_eq_false_iff_ne.2 hf
    by_cases hp : 0 < fu
    · have hd2 : decide (0 < fu) = true := decide_eq_true hp
      have hw : IntKind.i64.wrap (fu - 1) = fu - 1 := by rw [wrap_i64]; omega
      have e1 : deedRE ⟨cn, of, fu, md, wt⟩ = 0 := by unfold deedRE; rw [if_neg hf]
      have e2 : deedRD ⟨cn, of, fu, md, wt⟩ = ⟨cn, of, fu - 1, md, wt⟩ := by unfold deedRD; rw [if_neg hf, if_pos hp]
      have Hfr := Lib.hid (show -9223372036854775808 ≤ fu - 1 ∧ fu - 1 ≤ 9223372036854775807 by omega)
      rw [e1, e2]
      clear hf e1 e2 hfr hp
      go_enter Try.func71, Try.ntmps71
      go_wp2_with fail
      have hbx := BoxAt.new_ 42 (w.alloc (.cells (encD ⟨cn, of, fu - 1, md, wt⟩ (.slice A1 md.length c1) (.slice A2 wt.length c2)).toArray 42)) (encD ⟨cn, of, fu - 1, md, wt⟩ (.slice A1 md.length c1) (.slice A2 wt.length c2))
      rw [World.size_alloc] at hbx
      refine bodyPost_ret (results_ct rfl _ _ (w.heap.size + 1) (encD ⟨cn, of, fu - 1, md, wt⟩ (.slice A1 md.length c1) (.slice A2 wt.length c2)) rfl (fun j v hj => (hbx.cells j v hj : _)) Try.underlying42 rfl (by kernel_rfl)) rfl ?_
      exact ⟨_, rfl, RDV.mk' (m := ⟨cn, of, fu - 1, md, wt⟩) (H1.out _ _) (H2.out _ _) H3.out Hfr.out, Hb.out _ _⟩
    · have hd2 : decide (0 < fu) = false := decide_eq_false hp
      have e1 : deedRE ⟨cn, of, fu, md, wt⟩ = 0 := by unfold deedRE; rw [if_neg hf]
      have e2 : deedRD ⟨cn, of, fu, md, wt⟩ = ⟨cn, of, fu, md, wt⟩ := by unfold deedRD; rw [if_neg hf, if_neg hp]
      rw [e1, e2]
      clear hf e1 e2 hfr hp
      go_enter Try.func71, Try.ntmps71
      go_wp2_with fail
      have hbx := BoxAt.new_ 42 (w.alloc (.cells (encD ⟨cn, of, fu, md, wt⟩ (.slice A1 md.length c1) (.slice A2 wt.length c2)).toArray 42)) (encD ⟨cn, of, fu, md, wt⟩ (.slice A1 md.length c1) (.slice A2 wt.length c2))
      rw [World.size_alloc] at hbx
      refine bodyPost_ret (results_ct rfl _ _ (w.heap.size + 1) (encD ⟨cn, of, fu, md, wt⟩ (.slice A1 md.length c1) (.slice A2 wt.length c2)) rfl (fun j v hj => (hbx.cells j v hj : _)) Try.underlying42 rfl (by kernel_rfl)) rfl ?_
      exact ⟨_, rfl, RDV.mk' (m := ⟨cn, of, fu, md, wt⟩) (H1.out _ _) (H2.out _ _) H3.out H4.out, Hb.out _ _⟩
end Go.Proofs.Ytpoicbhbkabllaa

namespace Go.Proofs.Ytpoicbhbkabllaa
set_option linter.unusedSimpArgs false
set_option linter.unusedVariables false
open Go.RowKit

theorem u32_small (n : Nat) (h : n ≤ 4294967295) : IntKind.u32.wrap (n : Int) = ((UInt32.ofNat n).toNat : Int) := by
  rw [IntKind.wrap_u32', UInt32.toNat_ofNat']
  omega
theorem BoxAt.drewq {T : TypeId} {w : World} {g : Nat} {cs : List Value} (h : BoxAt T w g cs) : BoxAt T w.drew g cs := h
theorem BoxAt.ofAlloc {T : TypeId} {w : World} {g : Nat} {cs : List Value} {o : Obj} (h : BoxAt T (w.alloc o) g cs) (hg : g < w.heap.size) : BoxAt T w g cs := (heap_alloc_old w o hg).symm.trans h
theorem run_slice_file (w : World) (f : MFile) (v : Value) (hv : v.oneCell' = true) : (Instr.buildSlice 54 1 #[(0, .agg (encF f v).toArray)]).run Try.prog w =
    .ok (.slice (some ⟨w.heap.size, 0, none⟩) 1 1) (w.alloc (.cells (encF f v).toArray 62)) := by
  obtain ⟨it, hit, hz0, hz1, hby⟩ := info_parts info_file
  refine run_buildSlice w _ _ 1 _ _ it _ Try.underlying54 hit hz0 (by rw [hz1]; decide) (by rw [hz1]; decide) ?_
  rw [hz1]
  exact fill_whole 4 _ _ (by first | rfl | simp [zeroFc]) (by first | rfl | simp [encF])
theorem bytesS_len' (n : Int) (s : List UInt8) (e : Int) : (bytesS n s e).2.1.length ≤ s.length ∧ ((bytesS n s e).1.length : Int) ≤ max n 0 := by
  unfold bytesS
  repeat' split
  all_goals simp
  all_goals omega
set_option maxRecDepth 100000 in
set_option maxHeartbeats 6400000 in
theorem mread_any (w : World) (v : Value) (l0 : List UInt8) (hby : By w w.heap.size v l0) (hl : l0.length ≤ 1073741824) :
    Calls Try.prog 59 #[v] w fun ev w' => ∃ v', ev = .returned (.tuple #[v', .int .i64 (endE (rm4 l0).2.1 (rm4 l0).2.2)]) ∧ MIn w' w.heap.size v' (rmanP l0) ∧ Below w.heap.size w w' := by
  obtain ⟨A, c, rfl, hc1, hc2, hrd0⟩ := id hby
  unfold maxLen at hc2
  obtain ⟨w0, hw0⟩ : ∃ w0, w0 = w.alloc (.cells zeroMc.toArray 56) := ⟨_, rfl⟩
  have hb0 : Below w.heap.size w w0 := by rw [hw0]; exact balloc w _
  have hres0 : BoxAt 56 w0 w.heap.size zeroMc := by rw [hw0]; exact BoxAt.new_ _ _ _
  have hz0 : w0.heap.size = w.heap.size + 1 := by rw [hw0]; simp
  have Hw0 := Lib.hid hw0
  have Hby := Lib.hid ((hby.below hb0).more hb0.size)
  have Hb0 := Lib.hid hb0
  have Hres0 := Lib.hid hres0
  have h1 := numS_lt 18446744073709551615 l0 0
  have h1' := numS_len 18446744073709551615 l0 0
  have e1 : numS 18446744073709551615 l0 0 = rm1 l0 := rfl
  rw [e1] at h1 h1'
  have h2 := numS_lt 4294967295 (rm1 l0).2.1 (rm1 l0).2.2
  have h2' := numS_len 4294967295 (rm1 l0).2.1 (rm1 l0).2.2
  have e2 : numS 4294967295 (rm1 l0).2.1 (rm1 l0).2.2 = rm2 l0 := rfl
  rw [e2] at h2 h2'
  have h3 := numS_lt 2048 (rm2 l0).2.1 (rm2 l0).2.2
  have h3' := numS_len 2048 (rm2 l0).2.1 (rm2 l0).2.2
  have e3 : numS 2048 (rm2 l0).2.1 (rm2 l0).2.2 = rm3 l0 := rfl
  rw [e3] at h3 h3'
  have E1 := Lib.hid e1
  have E2 := Lib.hid e2
  have E3 := Lib.hid e3
  have e4 : rfilesP (rm3 l0).1 [] (rm3 l0).2.1 (rm3 l0).2.2 = rm4 l0 := rfl
  have e5 : rmanP l0 = ⟨UInt64.ofNat (rm1 l0).1, UInt32.ofNat (rm2 l0).1, (rm4 l0).1⟩ := rfl
  have hu1 : ((UInt64.ofNat (rm1 l0).1).toNat : Int) = ((rm1 l0).1 : Int) := by rw [UInt64.toNat_ofNat']; omega
  have hu2 := u32_small (rm2 l0).1 h2.2
  obtain ⟨ver, hver⟩ : ∃ ver, ver = UInt64.ofNat (rm1 l0).1 := ⟨_, rfl⟩
  obtain ⟨next, hnext⟩ : ∃ next, next = UInt32.ofNat (rm2 l0).1 := ⟨_, rfl⟩
  rw [← hver] at hu1 e5
  rw [← hnext] at hu2 e5
  have E4 := Lib.hid e4
  have E5 := Lib.hid e5
  clear hw0 hb0 hres0 hby hrd0 e1 e2 e3 e4 e5 hver hnext
  go_enter Try.func59, Try.ntmps59
  go_upto_region 1 with (first
    | (refine wpList_alloc_z rfl 56 rfl info_manz zeroMc zeroM_cells ?_))
  try simp only [Act.put, List.setIfInBounds_toArray, List.set_cons_zero, List.set_cons_succ]
  rw [← Hw0.out]
  go_wp2_with fail
  refine (vnew_any w0 A l0.length c).mono ?_
  rintro _ w1 ⟨rfl, hw1⟩
  have hrd1 := RdrAt.new_ Hby.out
  rw [← hw1, hz0] at hrd1
  have hb1 : Below w0.heap.size w0 w1 := by rw [hw1]; exact balloc _ _
  have Hrd1 := Lib.hid hrd1
  have Hb1 := Lib.hid (bstep Hb0.out hb1)
  have Hres1 := Lib.hid (Hres0.out.blwM hb1)
  have hz1 : w1.heap.size = w.heap.size + 1 + 1 := by rw [hw1]; simp [hz0]
  clear hw1 hb1 hrd1 Hres0 Hby
  rw [hz0]
  obtain ⟨gr, hgr⟩ : ∃ gr, gr = w.heap.size + 1 := ⟨_, rfl⟩
  rw [← hgr]
  rw [← hgr] at Hrd1
  have Hgr := Lib.hid hgr
  clear hgr
  have h18 : (((18446744073709551615 : Nat) : Int)) = 18446744073709551615 := rfl
  have hn1 := vnum_any w1 gr l0 0 18446744073709551615 (by decide) Hrd1.out
  rw [E1.out, h18] at hn1
  have Hn1 := Lib.hid hn1
  clear hn1 h18
  go_wp2_with fail
  refine Hn1.out.mono ?_
  rintro _ w2 ⟨rfl, hr2, hg2⟩
  have hs2 := hg2.size
  have Hg2 := Lib.hid hg2
  have hn2 := vnum_any w2 gr _ _ 4294967295 (by decide) hr2
  rw [E2.out, show (((4294967295 : Nat) : Int)) = 4294967295 from rfl] at hn2
  have Hn2 := Lib.hid hn2
  clear hn2 hr2 hg2
  generalize (rm1 l0).1 = n1 at *
  go_wp2_with fail
  refine Hn2.out.mono ?_
  rintro _ w3 ⟨rfl, hr3, hg3⟩
  have hs3 := hg3.size
  have hs32 := hs3
  have Hg3 := Lib.hid hg3
  have Hr3 := Lib.hid hr3
  clear hr3 hg3
  generalize (rm2 l0).1 = n2 at *
  obtain ⟨n1x, hn1x⟩ : ∃ n1x, n1x = (.int .u64 (ver.toNat : Int) : Value) := ⟨_, rfl⟩
  rw [hu1] at hn1x
  have Hn1x := Lib.hid hn1x
  have Hu1 := Lib.hid hu1
  have hone : ∀ u ∈ [Value.int .u64 (n1 : Int), .int .u32 (next.toNat : Int), .slice none 0 0], u.oneCell' = true := fun u hu => by
    simp at hu
    rcases hu with rfl | rfl | rfl <;> rfl
  have Hone := Lib.hid hone
  clear hn1x hu1 hone
  go_upto_region 3 with (first
    | (refine wpList_alloc_z rfl 56 rfl info_manz zeroMc zeroM_cells ?_)
    | (refine wpList_store_new rfl 56 (.tmp 5) (.tmp 15) rfl zeroMc [.int .u64 (n1 : Int), .int .u32 (next.toNat : Int), .slice none 0 0] rfl rfl info_man3 rfl Hone.out ?_))
  try simp only [Act.put, List.setIfInBounds_toArray, List.set_cons_zero, List.set_cons_succ]
  obtain ⟨gm, hgm⟩ : ∃ gm, gm = w3.heap.size := ⟨_, rfl⟩
  obtain ⟨w4, hw4⟩ : ∃ w4, w4 = w3.alloc (.cells (encM ⟨ver, next, []⟩ (.slice none 0 0)).toArray 56) := ⟨_, rfl⟩
  have hw4' : w4 = w3.alloc (.cells [Value.int .u64 (n1 : Int), .int .u32 (next.toNat : Int), .slice none 0 0].toArray 56) := by rw [hw4]; unfold encM; rw [Hu1.out]
  rw [← hw4', ← hgm]
  have hb4 : Below w3.heap.size w3 w4 := by rw [hw4]; exact balloc _ _
  have hbx4 : BoxAt 56 w4 gm (encM ⟨ver, next, []⟩ (.slice none 0 0)) := by rw [hw4, hgm]; exact BoxAt.new_ _ _ _
  have hgrl : gr < gm := by rw [hgm]; have := Hgr.out; omega
  have hz4 : w4.heap.size = gm + 1 := by rw [hw4, hgm]; simp
  have hgr3 : w1.grownBy w3 (some gr) := gtrans Hg2.out Hg3.out
  have hb13 : Below w.heap.size w w3 := Hb1.out.grown hgr3 (by omega) (fun k hk => by injection hk with hk; have := Hgr.out; omega)
  have hrd4 := Hr3.out.below (hgm ▸ hgrl) hb4
  have hres4 : BoxAt 56 w4 w.heap.size zeroMc := (Hres1.out.grown hgr3 (fun e => by injection e with e; have := Hgr.out; omega)).blwM hb4
  have hblw4 : Below w.heap.size w w4 := hb13.trans (hb4.mono (by omega))
  have hmp4 : MP gm w4.heap.size ⟨ver, next, []⟩ w4 := ⟨_, fun _ => False, hbx4, OwnF.nil_ _ _, fun k hk => hk.elim, fun k hk => by simp [Value.ownBlock] at hk⟩
  have hn3 := vnum_any w4 gr _ _ 2048 (by decide) hrd4
  rw [E3.out, show (((2048 : Nat) : Int)) = 2048 from rfl] at hn3
  have Hn3 := Lib.hid hn3
  have Hres4 := Lib.hid hres4
  have Hblw4 := Lib.hid hblw4
  have Hmp4 := Lib.hid hmp4
  have Hgm := Lib.hid hgm
  clear hw4 hw4' hb4 hbx4 hgr3 hb13 hrd4 hres4 hblw4 hmp4 hn3 hgm Hone Hn1x Hu1 hu2
  go_wp2_with fail
  refine Hn3.out.mono ?_
  rintro _ w5 ⟨rfl, hr5, hg5⟩
  have hs5 := hg5.size
  have Hg5 := Lib.hid hg5
  have Hr5 := Lib.hid hr5
  clear hr5 hg5
  generalize hq3 : (rm3 l0).1 = n3 at *
  have Hgrw := Hgr
  have hgw : w.heap.size < gr := by have := Hgr.out; omega
  go_wp2_with fail
  go_loopw [6] (fun nv W => ∃ (n : Nat) (acc : List MFile) (l : List UInt8) (e : Int), nv = .int .u64 (n : Int) ∧ acc.length + n ≤ 2048 ∧ l.length ≤ l0.length ∧ RdrAt W gr l e ∧ MP gm W.heap.size ⟨ver, next, acc⟩ W ∧
    BoxAt 56 W w.heap.size zeroMc ∧ Below w.heap.size w W ∧ gm < W.heap.size ∧ rfilesP n acc l e = rm4 l0) (fun n _ => (intOf n).toNat)
  case atStart => exact ⟨n3, [], _, _, rfl, by simp; omega, by omega, Hr5.out, ((Hmp4.out.keep (P := fun k => k = gr) (Chg.ofGrown Hg5.out fun k e => by injection e with e; exact e.symm) (fun k hk => by omega) (by omega)).more (by omega)),
    Hres4.out.grown Hg5.out (fun e => by injection e with e; omega), Hblw4.out.grown Hg5.out (by omega) (fun k hk => by injection hk with hk; omega), by omega, E4.out⟩
  case round =>
    obtain ⟨n, acc, l, e, rfl, hnl, hll, hrd, hmp, hres, hblw, hgw2, hR⟩ := hrel
    have Hrd := Lib.hid hrd
    have Hmp := Lib.hid hmp
    have Hres := Lib.hid hres
    have Hblw := Lib.hid hblw
    clear hrd hmp hres hblw
    clear Hg2 Hg3 Hr3 Hn3 Hres4 Hblw4 Hmp4 Hr5 Hg5 hs2 hs3 hs5
    rcases Nat.eq_zero_or_pos n with hn0 | hn0
    · subst hn0
      have hR' : (acc, l, e) = rm4 l0 := hR
      have HR := Lib.hid hR'
      clear hR hR'
      obtain ⟨vf, S, hbx, hown, hS1, hS2⟩ := Hmp.out
      obtain ⟨mm, hmm⟩ : ∃ mm : MMan, mm = ⟨ver, next, acc⟩ := ⟨_, rfl⟩
      rw [← hmm] at hbx hown
      have Hmm := Lib.hid hmm
      have Hbx := Lib.hid hbx
      have Hown := Lib.hid hown
      have HS := Lib.hid hS1
      obtain ⟨Af, cf, hvf, hcf1, hcf2⟩ := hown.rowAll.form
      subst hvf
      clear hmm hbx hown hS1 hS2
      go_wp2_with fail
      refine wp_region_tail (ds := [65, 66, 67]) 3 [some 65, some 66, some 67]
        [Ph.is (.agg (encM mm (.slice Af mm.files.length cf)).toArray),
          Ph.is (.pointer (some ⟨gr, 0, none⟩)),
          Ph.is (.int .i64 (endE l e))] rfl rfl (by kernel_rfl) (by kernel_rfl) (by kernel_rfl) ?_ ?_
      · refine ⟨?_, ?_, ?_, trivial⟩
        · -- 0: slot 65 := Op.load 56 t5
          refine ob_yes fun f w' hb hp => ?_
          simp [PreOf, factOf, valOf, Ph.is, Ph.by_, Ph.any, Region.binds] at hp
          refine ⟨by simp [Gd, valOf, hp], ?_⟩
          refine mild_val (.agg (encM mm (.slice Af mm.files.length cf)).toArray) ?_ rfl
          have hr := run_loadVar_cells w' ⟨gm, 0, none⟩ 56 (encM mm (.slice Af mm.files.length cf)) (Hbx.out.blwM hb).cells Try.underlying56 rfl info_man3
          simp [execOp, evalF, hp, Instr.loadAt, Instr.sureAddr, hr]
        · -- 1: slot 66 := Op.move t4
          refine ob_yes fun f w' hb hp => ?_
          simp [PreOf, factOf, valOf, Ph.is, Ph.by_, Ph.any, Region.binds] at hp
          refine ⟨by simp [Gd, valOf, hp], ?_⟩
          refine mild_val (.pointer (some ⟨gr, 0, none⟩)) ?_ rfl
          simp [execOp, evalF, hp]
        · -- 2: slot 67 := Op.call   value (Operand.func 87), args := #[t66], argTypes := #[141]  
          refine ob_yes fun f w' hb hp => ?_
          simp [PreOf, factOf, valOf, Ph.is, Ph.by_, Ph.any, Region.binds] at hp
          refine ⟨by simp [Gd, valOf, hp], ?_⟩
          refine mild_call 87 _ _ Try.f87 Try.func87 (by kernel_rfl) (by kernel_rfl) rfl ?_
          simp [evalF, hp, Ph.is, Ph.by_, Ph.any]
          refine (vend_any w' gr l e (Hrd.out.below Hrd.out.lt hb)).mono fun ev w2 h => ?_
          obtain ⟨rfl, rfl⟩ := h
          first | exact ⟨_, rfl, Below.refl _ _, rfl⟩ | exact ⟨rfl, Below.refl _ _⟩ | exact Below.refl _ _ | simpa using Below.refl _ _
      · intro f w2 hb2 hp
        simp only [PostOf, Ph.is, Ph.by_, Ph.any] at hp
        obtain ⟨h0, h1, h2, _⟩ := hp
        simp only [fills, List.foldl_cons, List.foldl_nil, Act.put, List.setIfInBounds_toArray, List.set_cons_zero, List.set_cons_succ, h0, h1, h2]
        clear h0 h1 h2
        simp only [List.drop_succ_cons, List.drop_zero]
        have hres := Hres.out.blwM hb2
        have Hres2 := Lib.hid hres
        have Hown2 := Lib.hid (Hown.out.below_ hb2)
        have Hblw2 := Lib.hid (Hblw.out.trans (hb2.mono (by have := Hblw.out.size; omega)))
        clear hres hb2
        go_wp2_with (refine wpList_store_box rfl 56 56 (.tmp 2) (.tmp 65) rfl w.heap.size zeroMc (encM mm (.slice Af mm.files.length cf)) rfl rfl Hres2.out rfl (encM_one _ _ rfl) info_man3 ?_; intro hend)
        have hg2 : w.heap.size < w2.heap.size := Hres2.out.lt
        have hchg : Chg (fun k => k = w.heap.size) w2 (w2.setRow w.heap.size (encM mm (.slice Af mm.files.length cf)).toArray) := Chg.ofGrown (gsetRow' _ _ _) fun k e => by injection e with e; exact e.symm
        have hof := (Hown2.out.chg hchg (fun k hk e => by have := (Hown2.out.blk k hk).1; omega) (fun k hk e => by have := (HS.out k hk).1; omega))
        have hbl := Hblw2.out.trans (hchg.below (B := w.heap.size) (by omega) (fun k hk => by omega))
        refine bodyPost_ret (results_ct rfl _ _ w.heap.size (encM mm (.slice Af mm.files.length cf)) rfl (fun j v hj => (hend.cells j v hj : _)) Try.underlying56 rfl info_man3) rfl ?_
        have hrow := hof.row
        have hS4 : ∀ k, S k → k < (w2.setRow w.heap.size (encM mm (.slice Af mm.files.length cf)).toArray).heap.size := by obtain ⟨_, _, _, _, h4⟩ := hof; exact fun k hk => (h4 k hk).1
        have hin := hrow.mono (O' := fun k => w.heap.size ≤ k ∧ k < (w2.setRow w.heap.size (encM mm (.slice Af mm.files.length cf)).toArray).heap.size) (S' := fun k => w.heap.size ≤ k ∧ k < (w2.setRow w.heap.size (encM mm (.slice Af mm.files.length cf)).toArray).heap.size) (fun k hk => ⟨by omega, hk.2⟩) (fun k hk => ⟨by have := (HS.out k hk).1; omega, hS4 k hk⟩)
        rw [E5.out, ← HR.out]
        obtain rfl := Hmm.out
        exact ⟨_, rfl, ⟨_, rfl, hin⟩, hbl⟩
    · obtain ⟨m, rfl⟩ : ∃ m, n = m + 1 := ⟨n - 1, by omega⟩
      go_wp2_with fail
      refine (verr_any wr gr l e Hrd.out).mono ?_
      rintro _ _ ⟨rfl, rfl⟩
      by_cases he : e = 0
      · subst he
        have hR2 : rfilesP m (acc ++ [(rfileP l 0).1]) (rfileP l 0).2.1 (rfileP l 0).2.2 = rm4 l0 := hR
        have HR := Lib.hid hR2
        clear hR hR2
        have f1 := numS_lt 32 l 0
        have f1' := numS_len 32 l 0
        have g1 : numS 32 l 0 = rf1 l 0 := rfl
        rw [g1] at f1 f1'
        have f2' := bytesS_len' ((rf1 l 0).1 : Int) (rf1 l 0).2.1 (rf1 l 0).2.2
        have g2 : bytesS ((rf1 l 0).1 : Int) (rf1 l 0).2.1 (rf1 l 0).2.2 = rf2 l 0 := rfl
        rw [g2] at f2'
        have f3 := numS_lt 4294967295 (rf2 l 0).2.1 (rf2 l 0).2.2
        have f3' := numS_len 4294967295 (rf2 l 0).2.1 (rf2 l 0).2.2
        have g3 : numS 4294967295 (rf2 l 0).2.1 (rf2 l 0).2.2 = rf3 l 0 := rfl
        rw [g3] at f3 f3'
        have f4 := numS_lt 7340032 (rf3 l 0).2.1 (rf3 l 0).2.2
        have f4' := numS_len 7340032 (rf3 l 0).2.1 (rf3 l 0).2.2
        have g4 : numS 7340032 (rf3 l 0).2.1 (rf3 l 0).2.2 = rf4 l 0 := rfl
        rw [g4] at f4 f4'
        have g5 : rblk (manyOf ((rf4 l 0).1 : Int)).toNat [] (rf4 l 0).2.1 (rf4 l 0).2.2 = rf5 l 0 := rfl
        have g6 : rfileP l 0 = (⟨(rf2 l 0).1, UInt32.ofNat (rf3 l 0).1, ((rf4 l 0).1 : Int), (rf5 l 0).1⟩, (rf5 l 0).2.1, (rf5 l 0).2.2) := rfl
        have G1 := Lib.hid g1
        have G2 := Lib.hid g2
        have G3 := Lib.hid g3
        have G4 := Lib.hid g4
        have G5 := Lib.hid g5
        have G6 := Lib.hid g6
        have hu3 := u32_small (rf3 l 0).1 f3.2
        have hw1 : IntKind.i64.wrap ((rf1 l 0).1 : Int) = ((rf1 l 0).1 : Int) := by rw [wrap_i64]; omega
        have hw4 : IntKind.i64.wrap ((rf4 l 0).1 : Int) = ((rf4 l 0).1 : Int) := by rw [wrap_i64]; omega
        have hm4 := manyOf_le (rf4 l 0).1 f4.2
        have hm5 := manyOf_nat (rf4 l 0).1
        obtain ⟨idf, hidf⟩ : ∃ idf, idf = UInt32.ofNat (rf3 l 0).1 := ⟨_, rfl⟩
        rw [← hidf] at hu3
        have Hidf := Lib.hid hidf
        clear g1 g2 g3 g4 g5 g6 hidf
        have hv1 := vnum_any wr gr l 0 32 (by decide) Hrd.out
        rw [G1.out, show (((32 : Nat) : Int)) = 32 from rfl] at hv1
        have Hv1 := Lib.hid hv1
        have Hm5 := Lib.hid hm5
        clear hv1 hm5
        go_wp2_with fail
        refine Hv1.out.mono ?_
        rintro _ w1' ⟨rfl, hr1, hg1⟩
        have hk1 := hg1.size
        have hv2 := vbytes_any w1' gr _ _ ((rf1 l 0).1 : Int) (by omega) (by omega) hr1
        rw [G2.out] at hv2
        have Hv2 := Lib.hid hv2
        have Hk1 := Lib.hid hg1
        clear hv2 hr1 hg1 Hv1
        go_wp2_with fail
        refine Hv2.out.mono ?_
        rintro _ w2' ⟨vnm, rfl, hon, hr2, hg2⟩
        have hk2 := hg2.size
        have hcv := conv8 hon.by_
        have Hk2 := Lib.hid (gtrans Hk1.out hg2)
        have Hr2 := Lib.hid hr2
        clear hr2 hg2 Hv2 Hk1 hon
        have hone : ∀ u ∈ encF ⟨(rf2 l 0).1, 0, 0, []⟩ (.slice none 0 0), u.oneCell' = true := encF_one _ _ rfl
        have Hone := Lib.hid hone
        clear hone
        go_upto_region 7 with (first
          | (refine wpList_alloc_z rfl 62 rfl info_file zeroFc zeroF_cells ?_)
          | (refine wpList_store_new rfl 62 (.tmp 7) (.tmp 33) rfl zeroFc (encF ⟨(rf2 l 0).1, 0, 0, []⟩ (.slice none 0 0)) rfl rfl info_file4 rfl Hone.out ?_))
        try simp only [Act.put, List.setIfInBounds_toArray, List.set_cons_zero, List.set_cons_succ]
        obtain ⟨gf, hgf⟩ : ∃ gf, gf = w2'.heap.size := ⟨_, rfl⟩
        obtain ⟨w3', hw3⟩ : ∃ w3', w3' = w2'.alloc (.cells (encF ⟨(rf2 l 0).1, 0, 0, []⟩ (.slice none 0 0)).toArray 62) := ⟨_, rfl⟩
        rw [← hw3, ← hgf]
        have hb3 : Below w2'.heap.size w2' w3' := by rw [hw3]; exact balloc _ _
        have hbx3 : BoxAt 62 w3' gf (encF ⟨(rf2 l 0).1, 0, 0, []⟩ (.slice none 0 0)) := by rw [hw3, hgf]; exact BoxAt.new_ _ _ _
        have hz3 : w3'.heap.size = gf + 1 := by rw [hw3, hgf]; simp
        have hgfm : gm < gf := by omega
        have hfp3 : FP gf ⟨(rf2 l 0).1, 0, 0, []⟩ w3' := ⟨_, hbx3, OwnF.nil_ _ _⟩
        have hch3 : Chg (fun k => k = gr) wr w3' := (Chg.ofGrown Hk2.out fun k e => by injection e with e; exact e.symm).trans (Chg.ofBelow hb3)
        have hrd3 := Hr2.out.below (B := w2'.heap.size) (by omega) hb3
        have hv3 := vnum_any w3' gr _ _ 4294967295 (by decide) hrd3
        rw [G3.out, show (((4294967295 : Nat) : Int)) = 4294967295 from rfl] at hv3
        have Hv3 := Lib.hid hv3
        have Hfp3 := Lib.hid hfp3
        have Hch3 := Lib.hid hch3
        have Hgf := Lib.hid hgf
        clear hw3 hb3 hbx3 hfp3 hch3 hrd3 hv3 hgf Hk2 Hr2 Hone
        go_wp2_with fail
        refine Hv3.out.mono ?_
        rintro _ w4' ⟨rfl, hr4, hg4⟩
        have hk4 := hg4.size
        have hv4 := vnum_any w4' gr _ _ 7340032 (by decide) hr4
        rw [G4.out, show (((7340032 : Nat) : Int)) = 7340032 from rfl] at hv4
        have Hv4 := Lib.hid hv4
        have Hk4 := Lib.hid hg4
        clear hv4 hr4 hg4 Hv3
        go_wp2_with fail
        refine Hv4.out.mono ?_
        rintro _ w5' ⟨rfl, hr5, hg5⟩
        have hk5 := hg5.size
        have hch5 : Chg (fun k => k = gr) w3' w5' := Chg.ofGrown (gtrans Hk4.out hg5) fun k e => by injection e with e; exact e.symm
        have hfp5 := Hfp3.out.keep hch5 (fun k hk => by omega)
        have Hch5 := Lib.hid (Hch3.out.trans hch5)
        have Hr5' := Lib.hid hr5
        obtain ⟨vb, hbx5, hob5⟩ := hfp5
        have q1 := hbx5.cell 1 _ rfl
        have q2 := hbx5.cell 2 _ rfl
        have fr1 := hbx5.frozen 1
        have hbx6 := hbx5.put 1 (.int .u32 (idf.toNat : Int))
        have fr2 := hbx6.frozen 2
        have q3 := hbx6.cell 2 _ rfl
        have hbx7 := hbx6.put 2 (.int .i64 ((rf4 l 0).1 : Int))
        have Hbx7 := Lib.hid hbx7
        have Hob5 := Lib.hid hob5
        clear hr5 hg5 Hv4 Hk4 Hfp3 Hch3 hch5 hbx5 hbx6 hbx7 hob5
        go_upto_region 8 with fail
        obtain ⟨w6', hw6⟩ : ∃ w6', w6' = (w5'.setCell { block := gf, off := 1 } (.int .u32 (idf.toNat : Int))).setCell { block := gf, off := 2 } (.int .i64 ((rf4 l 0).1 : Int)) := ⟨_, rfl⟩
        rw [← hw6]
        rw [← hw6] at Hbx7
        have hgfr : wr.heap.size ≤ gf := by have := Hgf.out; omega
        have hch56 : Chg (fun k => k = gf) w5' w6' := by rw [hw6]; exact (Chg.set (P := fun k => k = gf) _ _ _ rfl).trans (Chg.set (P := fun k => k = gf) _ _ _ rfl)
        have hch6 : Chg (fun k => k = gr) wr w6' := Hch5.out.past hch56 (fun i hi => .inl (by omega))
        have hz6 : gf < w6'.heap.size := by rw [hw6]; simp [World.setCell]; omega
        have hfp6 : FP gf ⟨(rf2 l 0).1, idf, ((rf4 l 0).1 : Int), []⟩ w6' := ⟨vb, Hbx7.out, Hob5.out.chg hch56 (fun k hk e => by have := (Hob5.out.blk k hk).1; omega) (fun _ h => h.elim)⟩
        have hgr5 : RdrAt w6' gr (rf4 l 0).2.1 (rf4 l 0).2.2 := Hr5'.out.below (B := gf) (by omega) (hch56.below (by omega) (fun k hk => by omega))
        have hmp6 := (Hmp.out.keep hch6 (fun k hk => by omega) (by omega)).more hgfr
        have hres6 := Hres.out.chg hch6 (fun e => by omega)
        have hblw6 := Hblw.out.trans (hch6.below (B := w.heap.size) (by have := Hblw.out.size; omega) (fun k hk => by omega))
        have q4 := hfp6
        have hc6 : w6'.cell? { block := gf, off := 2 } = some (.int .i64 ((rf4 l 0).1 : Int)) := Hbx7.out.cell 2 _ rfl
        have Hfp6 := Lib.hid hfp6
        have Hrd6 := Lib.hid hgr5
        have Hmp6 := Lib.hid hmp6
        have Hres6 := Lib.hid hres6
        have Hblw6 := Lib.hid hblw6
        clear hw6 hch56 hch6 hfp6 hgr5 hmp6 hres6 hblw6 q4 Hbx7 Hob5 Hr5' Hch5 Hmp Hres Hblw Hrd q1 q2 fr1 fr2 q3 hcv
        generalize hnm : (rf2 l 0).1 = nm at *
        generalize hsz4 : (rf4 l 0).1 = sz at *
        go_wp2_with fail
        refine (many_any w6' (sz : Int) (by omega) (by omega)).mono ?_
        rintro _ _ ⟨rfl, rfl⟩
        rw [Hm5.out]
        generalize hNB : (manyOf (sz : Int)).toNat = NB at *
        have HG5 := Lib.hid G5.out
        go_wp2_with fail
        go_loopw [45] (fun iv X => ∃ (j : Nat) (bl : List Int) (l' : List UInt8) (e' : Int), iv = .int .i64 (j : Int) ∧ j ≤ NB ∧ bl.length ≤ j ∧ l'.length ≤ l0.length ∧ RdrAt X gr l' e' ∧ FP gf ⟨nm, idf, (sz : Int), bl⟩ X ∧ MP gm gf ⟨ver, next, acc⟩ X ∧
          BoxAt 56 X w.heap.size zeroMc ∧ Below w.heap.size w X ∧ gf < X.heap.size ∧ rblk (NB - j) bl l' e' = rf5 l 0) (fun i _ => NB - (intOf i).toNat)
        case atStart => exact ⟨0, [], _, _, rfl, by omega, by simp, by omega, Hrd6.out, Hfp6.out, Hmp6.out, Hres6.out, Hblw6.out, hz6, HG5.out⟩
        case round =>
          obtain ⟨j, bl, l', e', rfl, hj, hbl, hll', hrd, hfp, hmp, hres, hblw, hzX, hrb⟩ := hrel
          have Hrd := Lib.hid hrd
          have Hfp := Lib.hid hfp
          have Hmp := Lib.hid hmp
          have Hres := Lib.hid hres
          have Hblw := Lib.hid hblw
          clear hrd hfp hmp hres hblw Hfp6 Hrd6 Hmp6 Hres6 Hblw6 hz6 hc6
          by_cases hjn : j < NB
          · obtain ⟨r, hr⟩ : ∃ r, NB - j = r + 1 := ⟨NB - j - 1, by omega⟩
            rw [hr] at hrb
            have hr' : NB - (j + 1) = r := by omega
            have Hr' := Lib.hid hr'
            clear hr hr'
            go_wp2_with fail
            refine (verr_any wr gr l' e' Hrd.out).mono ?_
            rintro _ _ ⟨rfl, rfl⟩
            by_cases he' : e' = 0
            · subst he'
              have hrb2 : rblk r (bl ++ [((numS 65536 l' 0).1 : Int)]) (numS 65536 l' 0).2.1 (numS 65536 l' 0).2.2 = rf5 l 0 := hrb
              rw [← Hr'.out] at hrb2
              have hx := numS_lt 65536 l' 0
              have hx' := numS_len 65536 l' 0
              obtain ⟨vb, hbf, hob⟩ := Hfp.out
              obtain ⟨f0, hf0⟩ : ∃ f0 : MFile, f0 = ⟨nm, idf, (sz : Int), bl⟩ := ⟨_, rfl⟩
              rw [← hf0] at hbf
              have hvn := vnum_any wr.drew gr l' 0 65536 (by decide) (Hrd.out.below Hrd.out.lt (Below.refl _ _).drew)
              rw [show (((65536 : Nat) : Int)) = 65536 from rfl] at hvn
              generalize hqN : numS 65536 l' 0 = NS at *
              obtain ⟨x, lx, ex⟩ := NS
              simp only at hx hx' hrb2 hvn
              have hwx : IntKind.i64.wrap (x : Int) = (x : Int) := by rw [wrap_i64]; omega
              obtain ⟨X, hX⟩ : ∃ X, X = wr := ⟨_, rfl⟩
              obtain ⟨Post, hPost⟩ : ∃ Q : World → Prop, Q = fun W9 => RdrAt W9 gr lx ex ∧ wr.drew.grownBy W9 (some gr) := ⟨_, rfl⟩
              have hvn2 : Calls Try.prog 83 #[.pointer (some ⟨gr, 0, none⟩), .int .u64 65536] X.drew fun ev w' => ev = .returned (.int .u64 (x : Int)) ∧ Post w' ∧ X.drew.grownBy w' (some gr) := by
                rw [hX, hPost]
                exact hvn.mono fun ev w' h => ⟨h.1, ⟨h.2.1, h.2.2⟩, h.2.2⟩
              have hps : ∀ W9, Post W9 → OwnF 3 cInt W9 (gf + 1) vb bl ∧ gf < W9.heap.size := fun W9 h => by
                rw [hPost] at h
                exact ⟨(hob.below_ (Below.refl _ _).drew).keep h.2 (by
                  cases hv : vb.ownBlock with
                  | none => exact .inl rfl
                  | some q => exact .inr fun e => by injection e with e; have := (hob.blk q hv).1; omega) (fun _ h => h.elim), Nat.lt_of_lt_of_le hzX h.2.size⟩
              have Hbf := Lib.hid (hX ▸ hbf : BoxAt 62 X gf (encF f0 vb))
              have Hob := Lib.hid hob
              have Hvn := Lib.hid hvn2
              have HPost := Lib.hid hps
              have HP := Lib.hid hPost
              have Hrb2 := Lib.hid hrb2
              have Hf0 := Lib.hid hf0
              have HX := Lib.hid hX
              clear hrb hbf hob hvn hvn2 hps hPost hrb2 hf0 hqN hX
              go_wp2_with fail
              rw [← HX.out]
              refine wp_region_mixL (ds := [50, 51, 52, 53, 54, 55, 56, 57]) 8 (fun bb vs W' => BoxAt 62 W' gf (encF f0 vb) ∧ (bb 4 = true → bb 3 = true) ∧ (bb 5 = true → bb 4 = true) ∧ (bb 6 = true → bb 5 = true) ∧ (bb 3 = false → W' = X.drew) ∧ (bb 3 = true → bb 5 = false → Post W') ∧ (bb 5 = true → bb 6 = false → ∃ W9, Post W9 ∧ W' = W9.alloc (.cells #[.int .i64 (x : Int)] 3) ∧ vs 5 = .slice (some ⟨W9.heap.size, 0, none⟩) 1 1) ∧ (bb 6 = true → ∃ W9, Post W9 ∧ OwnF 3 cInt W' (gf + 1) (vs 6) (bl ++ [(x : Int)]) ∧ Ext W9 W' vb (vs 6))) [some 50, some 51, some 52, some 53, some 54, some 55, some 56, some 57]
                [fun v => v = .pointer (some ⟨gf, 3, none⟩), fun v => v = vb, fun v => v = .pointer (some ⟨gr, 0, none⟩), fun v => v = .int .u64 (x : Int), fun v => v = .int .i64 (x : Int), fun _ => True, fun _ => True, fun v => v = .pointer (some ⟨gf, 3, none⟩)]
                rfl rfl rfl (by kernel_rfl) (by kernel_rfl) ?_ (fun _ => ⟨Hbf.out.drewq, by simp, by simp, by simp, fun _ => rfl, by simp, by simp, by simp⟩) ?_
              · refine ⟨?_, ?_, ?_, ?_, ?_, ?_, ?_, ?_, trivial⟩
                · -- 0: slot 50 := Op.fieldAddr 62 t7 3
                  refine obM_yes fun f bb w' hj hs hd hp => ?_
                  simp [PreO, factO, valOf, Region.binds] at hp hd
                  refine ⟨by simp [Gd, valOf, hp], ?_⟩
                  refine mildM_val (.pointer (some ⟨gf, 3, none⟩)) (w' := w') ?_ rfl (by simpa using hj)
                  simp [execOp, evalF, hp, go_sem]
                · -- 1: slot 51 := Op.load 60 t50
                  refine obM_yes fun f bb w' hj hs hd hp => ?_
                  simp [PreO, factO, valOf, Region.binds] at hp hd
                  refine ⟨by simp [Gd, valOf, hp], ?_⟩
                  have hc := hj.1.cell 3 _ rfl
                  refine mildM_val (vb) (w' := w') ?_ rfl (by simpa using hj)
                  simp [execOp, evalF, hp, go_sem, hc]
                · -- 2: slot 52 := Op.move t4
                  refine obM_yes fun f bb w' hj hs hd hp => ?_
                  simp [PreO, factO, valOf, Region.binds] at hp hd
                  refine ⟨by simp [Gd, valOf, hp], ?_⟩
                  refine mildM_val (.pointer (some ⟨gr, 0, none⟩)) (w' := w') ?_ rfl (by simpa using hj)
                  simp [execOp, evalF, hp, go_sem]
                · -- 3: slot 53 := Op.call   value (Operand.func 83), args := #[t52, const (65536:u64)], argTypes := #[141, 33]  
                  refine obM_yes fun f bb w' hj hs hd hp => ?_
                  simp [PreO, factO, valOf, Region.binds] at hp hd
                  refine ⟨by simp [Gd, valOf, hp], ?_⟩
                  obtain ⟨j1, j2, j3, j4, j5, j6, j7, j8⟩ := hj
                  have h4 : bb 4 = false := by cases hx : bb 4 with | false => rfl | true => rw [j2 hx] at hs; cases hs
                  have h5 : bb 5 = false := by cases hx : bb 5 with | false => rfl | true => rw [j3 hx] at h4; cases h4
                  have h6 : bb 6 = false := by cases hx : bb 6 with | false => rfl | true => rw [j4 hx] at h5; cases h5
                  have hw' := j5 hs
                  subst hw'
                  refine mildM_call 83 _ _ Try.f83 Try.func83 (by kernel_rfl) (by kernel_rfl) rfl ?_
                  refine calls_args (args' := #[.pointer (some ⟨gr, 0, none⟩), .int .u64 65536]) (by simp [evalF, hp, Act.eval]) ?_
                  refine Hvn.out.mono ?_
                  rintro _ w9 ⟨rfl, hp9, hg9⟩
                  exact ⟨_, rfl, rfl, j1.grown hg9 (fun e => by injection e with e; omega), by simp, by simp [h5], by simp [h6], by simp, fun _ _ => hp9, by simp [h5], by simp [h6]⟩
                · -- 4: slot 54 := Op.convert 33 3 t53
                  refine obM_yes fun f bb w' hj hs hd hp => ?_
                  simp [PreO, factO, valOf, Region.binds] at hp hd
                  refine ⟨by simp [Gd, valOf, hp], ?_⟩
                  obtain ⟨j1, j2, j3, j4, j5, j6, j7, j8⟩ := hj
                  have h3 : bb 3 = true := by simpa using hd
                  refine mildM_val (.int .i64 (x : Int)) (w' := w') ?_ rfl ⟨j1, by simp [h3], by simp, by simpa using j4, by simp [h3], by simpa using j6, by simpa using j7, by simpa using j8⟩
                  simp [execOp, evalF, hp, go_sem, hwx]
                · -- 5: slot 55 := Op.buildSlice 60 1 #[(0, t54)]
                  refine obM_yes fun f bb w' hj hs hd hp => ?_
                  simp [PreO, factO, valOf, Region.binds] at hp hd
                  refine ⟨by simp [Gd, valOf, hp], ?_⟩
                  obtain ⟨j1, j2, j3, j4, j5, j6, j7, j8⟩ := hj
                  have h4 : bb 4 = true := by simpa using hd
                  have h3 := j2 h4
                  have h6 : bb 6 = false := by cases hx : bb 6 with | false => rfl | true => rw [j4 hx] at hs; cases hs
                  have hP := j6 h3 hs
                  refine mildM_val (.slice (some ⟨w'.heap.size, 0, none⟩) 1 1) (w' := w'.alloc (.cells #[.int .i64 (x : Int)] 3)) ?_ trivial ⟨j1.alloc _, by simp [h3], by simp [h4], by simp, by simp [h3], by simp, fun _ _ => ⟨w', hP, rfl, rfl⟩, by simp [h6]⟩
                  simp [execOp, evalF, hp, go_sem]
                · -- 6: slot 56 := Op.call   builtin append, args := #[t51, t55], argTypes := #[60, 60]  
                  refine obM_yes fun f bb w' hj hs hd hp => ?_
                  simp [PreO, factO, valOf, Region.binds] at hp hd
                  refine ⟨by simp [Gd, valOf, hp], ?_⟩
                  obtain ⟨j1, j2, j3, j4, j5, j6, j7, j8⟩ := hj
                  have h5 : bb 5 = true := by first | exact hd.2.1 | exact hd.2 | exact hd
                  obtain ⟨W9, hP, hw9, hv5⟩ := j7 h5 hs
                  subst hw9
                  obtain ⟨q1, q2⟩ := HPost.out W9 hP
                  refine mildM_ex (exec_app1R (C := cInt) (.tmp 51) (.tmp 55) 60 rfl Try.underlying60 info_i64 (by kernel_rfl) (by decide) (by decide) [.int .i64 (x : Int)] q1 (y := (x : Int)) ⟨rfl, by omega, by omega⟩ (by simp [evalF, hp]) (by simpa [evalF, valOf] using hv5) (by omega) (by omega)) ?_
                  intro v' w3 g1 g2
                  refine ⟨trivial, (j1.ofAlloc q2).grown g2.gr (fun e => by have := (q1.blk _ e).1; omega), by simpa using j2, by simpa using j3, by simp [h5], by simpa using (fun h => absurd h (by simp [j2 (j3 h5)])), by simp [h5], by simp, fun _ => ⟨W9, hP, g1, g2⟩⟩
                · -- 7: slot 57 := Op.fieldAddr 62 t7 3
                  refine obM_yes fun f bb w' hj hs hd hp => ?_
                  simp [PreO, factO, valOf, Region.binds] at hp hd
                  refine ⟨by simp [Gd, valOf, hp], ?_⟩
                  refine mildM_val (.pointer (some ⟨gf, 3, none⟩)) (w' := w') ?_ rfl (by simpa using hj)
                  simp [execOp, evalF, hp, go_sem]
              · intro f bb wd hall hj hp
                simp only [PostO] at hp
                obtain ⟨e0, e1, e2, e3, e4, _, _, e7, _⟩ := hp
                simp only [fills, List.foldl_cons, List.foldl_nil, Act.put, List.setIfInBounds_toArray, List.set_cons_zero, List.set_cons_succ, e0, e1, e2, e3, e4, e7]
                clear e0 e1 e2 e3 e4 e7
                simp only [List.drop_succ_cons, List.drop_zero]
                obtain ⟨j1, _, _, _, _, _, _, j8⟩ := hj
                have hb6 := hall 6 (by decide)
                obtain ⟨W9, hP, h9, hx9⟩ := j8 hb6
                simp only [valOf, List.getElem?_cons_succ, List.getElem?_cons_zero] at h9 hx9
                generalize f 56 = v56 at *
                generalize f 55 = v55 at *
                rw [HP.out] at hP
                obtain ⟨hr9, hg9⟩ := hP
                have hg9s : wr.heap.size ≤ W9.heap.size := hg9.size
                have h9s := hx9.gr.size
                have hch9 : Chg (fun k => k = gr ∨ gf < k) wr wd := ((Chg.ofBelow (Below.refl _ wr).drew).trans (Chg.ofGrown hg9 fun k e => by injection e with e; exact .inl e.symm)).trans (Chg.ofGrown hx9.gr fun k e => by have := (Hob.out.blk k e).1; exact .inr (by omega))
                have hrd9 : RdrAt wd gr lx ex := hr9.grown hx9.gr (fun k e => by have := (Hob.out.blk k e).1; omega)
                have jf := j1.frozen 3
                have jc := j1.cell 3 _ rfl
                obtain ⟨A56, c56, hv56, _, _, _⟩ := h9.form'
                rw [List.length_append, List.length_singleton] at hv56
                subst hv56
                have Hj1 := Lib.hid j1
                have H9 := Lib.hid h9
                have Hch9 := Lib.hid hch9
                have Hrd9 := Lib.hid hrd9
                clear hall hb6 j8 hr9 hg9 hx9 hch9 hrd9 j1 h9
                go_wp2_with fail
                have hchs := Chg.set (P := fun k => k = gf) wd ⟨gf, 3, none⟩ (.slice A56 (bl.length + 1) c56) rfl
                have hcha := (Hch9.out.more (Q := fun k => k = gr ∨ gf ≤ k) (fun k _ h => by omega)).trans (hchs.more (fun k _ h => by omega))
                have hfp9 : FP gf ⟨nm, idf, (sz : Int), bl ++ [(x : Int)]⟩ (wd.setCell ⟨gf, 3, none⟩ (.slice A56 (bl.length + 1) c56)) := ⟨_, by have := Hj1.out.put 3 (.slice A56 (bl.length + 1) c56); rw [Hf0.out] at this; exact this, H9.out.chg hchs (fun k hk e => by have := (H9.out.blk k hk).1; omega) (fun _ h => h.elim)⟩
                have hwsz := Hblw.out.size
                go_roundw
                case rel =>
                  refine ⟨j + 1, bl ++ [(x : Int)], lx, ex, by go_num, by omega, by simp; omega, by omega, Hrd9.out.below (B := gf) (by omega) (hchs.below (by omega) (fun k hk => by omega)), hfp9, Hmp.out.keep hcha (fun k hk => by omega) (by omega), Hres.out.chg hcha (fun h => by omega), Hblw.out.trans (hcha.below (B := w.heap.size) (by omega) (fun k hk => by omega)), ?_, Hrb2.out⟩
                  simp [World.setCell]; omega
                case measure => simp [intOf]; omega
            · have hrb' : (bl, l', e') = rf5 l 0 := by rw [rblk, if_pos he'] at hrb; exact hrb
              have Hrb := Lib.hid hrb'
              have hd : (e' == 0) = false := beq_eq_false_iff_ne.2 he'
              clear hrb hrb' he' hjn
              obtain ⟨vf, S, hbm, hown, hS1, hS2⟩ := Hmp.out
              obtain ⟨vb, hbf, hob⟩ := Hfp.out
              obtain ⟨f1, hf1⟩ : ∃ f1 : MFile, f1 = ⟨nm, idf, (sz : Int), bl⟩ := ⟨_, rfl⟩
              have hfp : rfileP l 0 = (f1, l', e') := by rw [G6.out, hf1, Hidf.out, ← Hrb.out]
              have hok : fileOk f1 := by rw [hf1]; exact ⟨by show nm.length ≤ maxLen; unfold maxLen; omega, by show (-9223372036854775808 : Int) ≤ (sz : Int); omega, by show (sz : Int) ≤ 9223372036854775807; omega⟩
              have hfb : f1.blocks = bl := by rw [hf1]
              rw [← hf1] at hbf
              have hown' : OwnR 62 cFile wr (gm + 1) (fun k => S k ∨ vb.ownBlock = some k) vf acc := hown.widen (fun k h => .inl h) (fun k hk => by
                rcases hk with hk | hk
                · obtain ⟨_, _, _, _, h4⟩ := hown; exact h4 k hk
                · exact ⟨(hob.blk k hk).2, fun e => by have := hS2 k e; have := (hob.blk k hk).1; omega⟩)
              have hy : cFile.at_ wr (fun k => S k ∨ vb.ownBlock = some k) (encF f1 vb) f1 := ⟨vb, rfl, by rw [hfb]; exact hob.rowOwn.mono (fun k hk => .inr hk) (fun _ h => h.elim), hok⟩
              obtain ⟨Ab, cb, hvb, _, _, _⟩ := hob.form'
              have hel : (encF f1 vb).length = 4 := rfl
              have hcl := hbf.cells
              have hc2 := hbm.cell 2 _ rfl
              have Hcl := Lib.hid hcl
              have Hown := Lib.hid hown'
              have Hy := Lib.hid hy
              have Hbm := Lib.hid hbm
              have Hfpp := Lib.hid hfp
              have HS1 := Lib.hid hS1
              have Hob := Lib.hid hob
              have Hvb := Lib.hid hvb
              have hgrl2 : gr < gm := hgrl
              have hwsz := Hblw.out.size
              clear hf1 hfp hok hfb hown' hy hcl hbm hS1 hS2 hown hbf hob hvb
              go_wp2_with (first
                | (refine wpList_load_agg rfl 62 (.tmp 7) rfl ⟨gf, 0, none⟩ rfl (encF f1 vb) Hcl.out Try.underlying62 rfl info_file4 ?_)
                | (at_builtin
                   refine wpList_app1R (C := cFile) rfl (.tmp 60) (.tmp 62) 54 rfl Try.underlying54 info_fileC rfl (by decide) (by decide) (encF f1 vb) Hown.out (y := f1) Hy.out rfl rfl (by omega) (by omega) ?_
                   intro v8 w8 ho8 hx8
                   have hbm8 := Hbm.out.grown hx8.gr (fun e => by have := (Hown.out.blk _ e).1; omega)
                   have fr8 := hbm8.frozen 2
                   have cc8 := hbm8.cell 2 _ rfl
                   have Hbm8 := Lib.hid hbm8
                   have Ho8 := Lib.hid ho8
                   have Hx8 := Lib.hid hx8
                   have hw8 := hx8.gr.size
                   obtain ⟨A8, c8', hv8, _, _, _⟩ := ho8.form'
                   rw [List.length_append, List.length_singleton] at hv8
                   clear hbm8 ho8 hx8
                   subst hv8))
              have hch8 : Chg (fun k => gm < k) wr w8 := Chg.ofGrown Hx8.out.gr fun k e => by have := (Hown.out.blk k e).1; omega
              have hchs := Chg.set (P := fun k => k = gm) w8 ⟨gm, 2, none⟩ (.slice A8 (acc.length + 1) c8') rfl
              have hch9 : Chg (fun k => gm ≤ k) wr (w8.setCell ⟨gm, 2, none⟩ (.slice A8 (acc.length + 1) c8')) := (hch8.more (fun k _ h => by omega)).trans (hchs.more (fun k _ h => by omega))
              have hmp9 : MP gm (w8.setCell ⟨gm, 2, none⟩ (.slice A8 (acc.length + 1) c8')).heap.size ⟨ver, next, acc ++ [f1]⟩ (w8.setCell ⟨gm, 2, none⟩ (.slice A8 (acc.length + 1) c8')) := by
                have hz : (w8.setCell ⟨gm, 2, none⟩ (.slice A8 (acc.length + 1) c8')).heap.size = w8.heap.size := by simp [World.setCell]
                refine ⟨_, _, Hbm8.out.put 2 _, Ho8.out.chg hchs (fun k hk e => by have := (Ho8.out.blk k hk).1; omega) (fun k hk e => ?_), fun k hk => ?_, fun k hk => by rw [hz]; exact (Ho8.out.blk k hk).2⟩
                · rcases hk with hk | hk
                  · have := (HS1.out k hk).1; omega
                  · have := (Hob.out.blk k hk).1; omega
                · rw [hz]
                  rcases hk with hk | hk
                  · have := (HS1.out k hk); omega
                  · have := (Hob.out.blk k hk); omega
              go_roundw
              case rel =>
                refine ⟨m, acc ++ [f1], l', e', by go_num, by simp; omega, by omega, Hrd.out.below (B := gm) (by omega) (hch9.below (B := gm) (by omega) (fun k hk => hk)), hmp9, Hres.out.chg hch9 (fun h => by omega), Hblw.out.trans (hch9.below (B := w.heap.size) (by omega) (fun k hk => by omega)), ?_, ?_⟩
                · simp [World.setCell]; omega
                · have hr := HR.out
                  rw [Hfpp.out] at hr
                  exact hr
              case measure => simp [intOf]; try omega
          · have hrb' : (bl, l', e') = rf5 l 0 := by rw [show NB - j = 0 from by omega] at hrb; exact hrb
            have Hrb := Lib.hid hrb'
            clear hrb hrb'
            obtain ⟨vf, S, hbm, hown, hS1, hS2⟩ := Hmp.out
            obtain ⟨vb, hbf, hob⟩ := Hfp.out
            obtain ⟨f1, hf1⟩ : ∃ f1 : MFile, f1 = ⟨nm, idf, (sz : Int), bl⟩ := ⟨_, rfl⟩
            have hfp : rfileP l 0 = (f1, l', e') := by rw [G6.out, hf1, Hidf.out, ← Hrb.out]
            have hok : fileOk f1 := by rw [hf1]; exact ⟨by show nm.length ≤ maxLen; unfold maxLen; omega, by show (-9223372036854775808 : Int) ≤ (sz : Int); omega, by show (sz : Int) ≤ 9223372036854775807; omega⟩
            have hfb : f1.blocks = bl := by rw [hf1]
            rw [← hf1] at hbf
            have hown' : OwnR 62 cFile wr (gm + 1) (fun k => S k ∨ vb.ownBlock = some k) vf acc := hown.widen (fun k h => .inl h) (fun k hk => by
              rcases hk with hk | hk
              · obtain ⟨_, _, _, _, h4⟩ := hown; exact h4 k hk
              · exact ⟨(hob.blk k hk).2, fun e => by have := hS2 k e; have := (hob.blk k hk).1; omega⟩)
            have hy : cFile.at_ wr (fun k => S k ∨ vb.ownBlock = some k) (encF f1 vb) f1 := ⟨vb, rfl, by rw [hfb]; exact hob.rowOwn.mono (fun k hk => .inr hk) (fun _ h => h.elim), hok⟩
            obtain ⟨Ab, cb, hvb, _, _, _⟩ := hob.form'
            have hel : (encF f1 vb).length = 4 := rfl
            have hcl := hbf.cells
            have hc2 := hbm.cell 2 _ rfl
            have Hcl := Lib.hid hcl
            have Hown := Lib.hid hown'
            have Hy := Lib.hid hy
            have Hbm := Lib.hid hbm
            have Hfpp := Lib.hid hfp
            have HS1 := Lib.hid hS1
            have Hob := Lib.hid hob
            have Hvb := Lib.hid hvb
            have hgrl2 : gr < gm := hgrl
            have hwsz := Hblw.out.size
            clear hf1 hfp hok hfb hown' hy hcl hbm hS1 hS2 hown hbf hob hvb
            go_wp2_with (first
              | (refine wpList_load_agg rfl 62 (.tmp 7) rfl ⟨gf, 0, none⟩ rfl (encF f1 vb) Hcl.out Try.underlying62 rfl info_file4 ?_)
              | (at_builtin
                 refine wpList_app1R (C := cFile) rfl (.tmp 60) (.tmp 62) 54 rfl Try.underlying54 info_fileC rfl (by decide) (by decide) (encF f1 vb) Hown.out (y := f1) Hy.out rfl rfl (by omega) (by omega) ?_
                 intro v8 w8 ho8 hx8
                 have hbm8 := Hbm.out.grown hx8.gr (fun e => by have := (Hown.out.blk _ e).1; omega)
                 have fr8 := hbm8.frozen 2
                 have cc8 := hbm8.cell 2 _ rfl
                 have Hbm8 := Lib.hid hbm8
                 have Ho8 := Lib.hid ho8
                 have Hx8 := Lib.hid hx8
                 have hw8 := hx8.gr.size
                 obtain ⟨A8, c8', hv8, _, _, _⟩ := ho8.form'
                 rw [List.length_append, List.length_singleton] at hv8
                 clear hbm8 ho8 hx8
                 subst hv8))
            have hch8 : Chg (fun k => gm < k) wr w8 := Chg.ofGrown Hx8.out.gr fun k e => by have := (Hown.out.blk k e).1; omega
            have hchs := Chg.set (P := fun k => k = gm) w8 ⟨gm, 2, none⟩ (.slice A8 (acc.length + 1) c8') rfl
            have hch9 : Chg (fun k => gm ≤ k) wr (w8.setCell ⟨gm, 2, none⟩ (.slice A8 (acc.length + 1) c8')) := (hch8.more (fun k _ h => by omega)).trans (hchs.more (fun k _ h => by omega))
            have hmp9 : MP gm (w8.setCell ⟨gm, 2, none⟩ (.slice A8 (acc.length + 1) c8')).heap.size ⟨ver, next, acc ++ [f1]⟩ (w8.setCell ⟨gm, 2, none⟩ (.slice A8 (acc.length + 1) c8')) := by
              have hz : (w8.setCell ⟨gm, 2, none⟩ (.slice A8 (acc.length + 1) c8')).heap.size = w8.heap.size := by simp [World.setCell]
              refine ⟨_, _, Hbm8.out.put 2 _, Ho8.out.chg hchs (fun k hk e => by have := (Ho8.out.blk k hk).1; omega) (fun k hk e => ?_), fun k hk => ?_, fun k hk => by rw [hz]; exact (Ho8.out.blk k hk).2⟩
              · rcases hk with hk | hk
                · have := (HS1.out k hk).1; omega
                · have := (Hob.out.blk k hk).1; omega
              · rw [hz]
                rcases hk with hk | hk
                · have := (HS1.out k hk); omega
                · have := (Hob.out.blk k hk); omega
            go_roundw
            case rel =>
              refine ⟨m, acc ++ [f1], l', e', by go_num, by simp; omega, by omega, Hrd.out.below (B := gm) (by omega) (hch9.below (B := gm) (by omega) (fun k hk => hk)), hmp9, Hres.out.chg hch9 (fun h => by omega), Hblw.out.trans (hch9.below (B := w.heap.size) (by omega) (fun k hk => by omega)), ?_, ?_⟩
              · simp [World.setCell]; omega
              · have hr := HR.out
                rw [Hfpp.out] at hr
                exact hr
            case measure => simp [intOf]; try omega
      · have hR' : (acc, l, e) = rm4 l0 := by rw [rfilesP, if_pos he] at hR; exact hR
        have HR := Lib.hid hR'
        have hd : (e == 0) = false := beq_eq_false_iff_ne.2 he
        clear hR hR' he
        obtain ⟨vf, S, hbx, hown, hS1, hS2⟩ := Hmp.out
        obtain ⟨mm, hmm⟩ : ∃ mm : MMan, mm = ⟨ver, next, acc⟩ := ⟨_, rfl⟩
        rw [← hmm] at hbx hown
        have Hmm := Lib.hid hmm
        have Hbx := Lib.hid hbx
        have Hown := Lib.hid hown
        have HS := Lib.hid hS1
        obtain ⟨Af, cf, hvf, hcf1, hcf2⟩ := hown.rowAll.form
        subst hvf
        clear hmm hbx hown hS1 hS2
        go_wp2_with fail
        refine wp_region_tail (ds := [65, 66, 67]) 3 [some 65, some 66, some 67]
          [Ph.is (.agg (encM mm (.slice Af mm.files.length cf)).toArray),
            Ph.is (.pointer (some ⟨gr, 0, none⟩)),
            Ph.is (.int .i64 (endE l e))] rfl rfl (by kernel_rfl) (by kernel_rfl) (by kernel_rfl) ?_ ?_
        · refine ⟨?_, ?_, ?_, trivial⟩
          · -- 0: slot 65 := Op.load 56 t5
            refine ob_yes fun f w' hb hp => ?_
            simp [PreOf, factOf, valOf, Ph.is, Ph.by_, Ph.any, Region.binds] at hp
            refine ⟨by simp [Gd, valOf, hp], ?_⟩
            refine mild_val (.agg (encM mm (.slice Af mm.files.length cf)).toArray) ?_ rfl
            have hr := run_loadVar_cells w' ⟨gm, 0, none⟩ 56 (encM mm (.slice Af mm.files.length cf)) (Hbx.out.blwM hb).cells Try.underlying56 rfl info_man3
            simp [execOp, evalF, hp, Instr.loadAt, Instr.sureAddr, hr]
          · -- 1: slot 66 := Op.move t4
            refine ob_yes fun f w' hb hp => ?_
            simp [PreOf, factOf, valOf, Ph.is, Ph.by_, Ph.any, Region.binds] at hp
            refine ⟨by simp [Gd, valOf, hp], ?_⟩
            refine mild_val (.pointer (some ⟨gr, 0, none⟩)) ?_ rfl
            simp [execOp, evalF, hp]
          · -- 2: slot 67 := Op.call   value (Operand.func 87), args := #[t66], argTypes := #[141]  
            refine ob_yes fun f w' hb hp => ?_
            simp [PreOf, factOf, valOf, Ph.is, Ph.by_, Ph.any, Region.binds] at hp
            refine ⟨by simp [Gd, valOf, hp], ?_⟩
            refine mild_call 87 _ _ Try.f87 Try.func87 (by kernel_rfl) (by kernel_rfl) rfl ?_
            simp [evalF, hp, Ph.is, Ph.by_, Ph.any]
            refine (vend_any w' gr l e (Hrd.out.below Hrd.out.lt hb)).mono fun ev w2 h => ?_
            obtain ⟨rfl, rfl⟩ := h
            first | exact ⟨_, rfl, Below.refl _ _, rfl⟩ | exact ⟨rfl, Below.refl _ _⟩ | exact Below.refl _ _ | simpa using Below.refl _ _
        · intro f w2 hb2 hp
          simp only [PostOf, Ph.is, Ph.by_, Ph.any] at hp
          obtain ⟨h0, h1, h2, _⟩ := hp
          simp only [fills, List.foldl_cons, List.foldl_nil, Act.put, List.setIfInBounds_toArray, List.set_cons_zero, List.set_cons_succ, h0, h1, h2]
          clear h0 h1 h2
          simp only [List.drop_succ_cons, List.drop_zero]
          have hres := Hres.out.blwM hb2
          have Hres2 := Lib.hid hres
          have Hown2 := Lib.hid (Hown.out.below_ hb2)
          have Hblw2 := Lib.hid (Hblw.out.trans (hb2.mono (by have := Hblw.out.size; omega)))
          clear hres hb2
          go_wp2_with (refine wpList_store_box rfl 56 56 (.tmp 2) (.tmp 65) rfl w.heap.size zeroMc (encM mm (.slice Af mm.files.length cf)) rfl rfl Hres2.out rfl (encM_one _ _ rfl) info_man3 ?_; intro hend)
          have hg2 : w.heap.size < w2.heap.size := Hres2.out.lt
          have hchg : Chg (fun k => k = w.heap.size) w2 (w2.setRow w.heap.size (encM mm (.slice Af mm.files.length cf)).toArray) := Chg.ofGrown (gsetRow' _ _ _) fun k e => by injection e with e; exact e.symm
          have hof := (Hown2.out.chg hchg (fun k hk e => by have := (Hown2.out.blk k hk).1; omega) (fun k hk e => by have := (HS.out k hk).1; omega))
          have hbl := Hblw2.out.trans (hchg.below (B := w.heap.size) (by omega) (fun k hk => by omega))
          refine bodyPost_ret (results_ct rfl _ _ w.heap.size (encM mm (.slice Af mm.files.length cf)) rfl (fun j v hj => (hend.cells j v hj : _)) Try.underlying56 rfl info_man3) rfl ?_
          have hrow := hof.row
          have hS4 : ∀ k, S k → k < (w2.setRow w.heap.size (encM mm (.slice Af mm.files.length cf)).toArray).heap.size := by obtain ⟨_, _, _, _, h4⟩ := hof; exact fun k hk => (h4 k hk).1
          have hin := hrow.mono (O' := fun k => w.heap.size ≤ k ∧ k < (w2.setRow w.heap.size (encM mm (.slice Af mm.files.length cf)).toArray).heap.size) (S' := fun k => w.heap.size ≤ k ∧ k < (w2.setRow w.heap.size (encM mm (.slice Af mm.files.length cf)).toArray).heap.size) (fun k hk => ⟨by omega, hk.2⟩) (fun k hk => ⟨by have := (HS.out k hk).1; omega, hS4 k hk⟩)
          rw [E5.out, ← HR.out]
          obtain rfl := Hmm.out
          exact ⟨_, rfl, ⟨_, rfl, hin⟩, hbl⟩
end Go.Proofs.Ytpoicbhbkabllaa

namespace Go.Proofs.Ytpoicbhbkabllaa
set_option linter.unusedSimpArgs false
set_option linter.unusedVariables false
open Go.RowKit

def cmpS (a b : List UInt8) : Int := if bless a b then -1 else if a = b then 0 else 1
theorem isnan_any (w : World) (a : List UInt8) : Calls Try.prog 80 #[.string (bst a)] w fun e w' => e = .returned (.bool false) ∧ w = w' := by
  have hq : (a != a) = false := by simp
  go_enter Try.func80, Try.ntmps80
  go_wp2_with fail
  go_ret
  exact ⟨rfl, rfl⟩
set_option maxHeartbeats 800000 in
theorem compare_any (w : World) (a b : List UInt8) : Calls Try.prog 57 #[.string (bst a), .string (bst b)] w fun e w' => e = .returned (.int .i64 (cmpS a b)) ∧ w = w' := by
  have hna := fun W => isnan_any W a
  have hnb := fun W => isnan_any W b
  have Ha := Lib.hid hna
  obtain ⟨r, hr⟩ : ∃ r, r = cmpS a b := ⟨_, rfl⟩
  rw [← hr]
  have Hb := Lib.hid hnb
  clear hna hnb
  go_enter Try.func57, Try.ntmps57
  go_wp2_with fail
  refine (Ha.out w).mono ?_
  rintro _ _ ⟨rfl, rfl⟩
  go_wp2_with fail
  refine (Hb.out w).mono ?_
  rintro _ _ ⟨rfl, rfl⟩
  have hlt : Op.bytesLess (bst a).toList (bst b).toList = bless a b := by rw [bst_toList, bst_toList]
  have heq : ((bst a).toList == (bst b).toList) = decide (a = b) := by rw [bst_toList, bst_toList]; by_cases h : a = b <;> simp [h]
  by_cases h1 : bless a b = true
  · have hc : r = -1 := by rw [hr]; unfold cmpS; rw [if_pos h1]
    subst hc
    clear hr
    go_wp2_with fail
    go_ret
    exact ⟨rfl, rfl⟩
  · by_cases h2 : a = b
    · have hc : r = 0 := by rw [hr]; unfold cmpS; rw [if_neg h1, if_pos h2]
      subst hc
      clear hr
      subst h2
      have hl : Op.bytesLess (bst a).toList (bst a).toList = false := by rw [bst_toList]; exact bless_irrefl a
      clear h1 hlt heq
      go_wp2_with fail
      go_ret
      exact ⟨rfl, rfl⟩
    · have hc : r = 1 := by rw [hr]; unfold cmpS; rw [if_neg h1, if_neg h2]
      subst hc
      clear hr
      simp at h1
      go_wp2_with fail
      go_ret
      exact ⟨rfl, rfl⟩
theorem find1_any (w : World) (f : MFile) (v : Value) (s : List UInt8) : Calls Try.prog 56 #[.agg (encF f v).toArray, .string (bst s)] w fun e w' => e = .returned (.int .i64 (cmpS f.name s)) ∧ Below w.heap.size w w' := by
  have hb := balloc w (.cells (encF f v).toArray 62)
  have hx : BoxAt 62 (w.alloc (.cells (encF f v).toArray 62)) w.heap.size (encF f v) := BoxAt.new_ _ _ _
  have hc0 := hx.cell 0 _ rfl
  have Hb := Lib.hid hb
  have Hc := Lib.hid (fun W => compare_any W f.name s)
  clear hb hx
  go_enter Try.func56, Try.ntmps56
  go_wp2_with fail
  refine (Hc.out _).mono ?_
  rintro _ _ ⟨rfl, rfl⟩
  go_wp2_with fail
  go_ret
  exact ⟨rfl, Hb.out⟩
end Go.Proofs.Ytpoicbhbkabllaa

namespace Go.Proofs.Ytpoicbhbkabllaa
set_option linter.unusedSimpArgs false
set_option linter.unusedVariables false
open Go.RowKit

/-- names rise -/
def RiseN (l : List MFile) : Prop := ∀ (a b : Nat) (hb : b < l.length) (h : a < b), bless (l[a]'(by omega)).name l[b].name = true
theorem cmpS_lt (a b : List UInt8) : (cmpS a b < 0 ↔ bless a b = true) := by
  unfold cmpS
  split
  · simp_all
  · split <;> simp_all
theorem cmpS_eq (a b : List UInt8) : (cmpS a b = 0 ↔ a = b) := by
  unfold cmpS
  split
  · rename_i h
    constructor
    · intro h'; omega
    · rintro rfl; rw [bless_irrefl] at h; cases h
  · split <;> simp_all
structure FindAt (l : List MFile) (s : List UInt8) (k : Nat) : Prop where
  le : k ≤ l.length
  lo : ∀ (a : Nat) (ha : a < l.length), a < k → bless l[a].name s = true
  hi : ∀ (a : Nat) (ha : a < l.length), k ≤ a → bless l[a].name s = false
def foundAt (l : List MFile) (s : List UInt8) (k : Nat) : Bool := match l[k]? with | some f => decide (f.name = s) | none => false
theorem wrap64_at (n : Int) (h1 : 0 ≤ n) (h2 : n < 9223372036854775808) : wrap64 n = n := by
  unfold wrap64
  rw [Int.emod_eq_of_lt (by omega) (by omega)]
  omega
theorem wrap_u64_wrap64 (n : Int) (h1 : 0 ≤ n) (h2 : n < 18446744073709551616) : IntKind.u64.wrap (wrap64 n) = n := by
  rw [wrap_u64]
  unfold wrap64
  by_cases h : n < 9223372036854775808
  · rw [Int.emod_eq_of_lt (a := n + 9223372036854775808) (by omega) (by omega)]
    omega
  · have e : (n + 9223372036854775808) % 18446744073709551616 = n + 9223372036854775808 - 18446744073709551616 := by
      rw [← Int.sub_emod_right]
      exact Int.emod_eq_of_lt (by omega) (by omega)
    rw [e]
    omega
theorem half_wrap (i j p : Nat) (hp : p = (i + j) / 2) (h : i + j < 18446744073709551616) : wrap64 (IntKind.u64.wrap (wrap64 ((i : Int) + (j : Int))) / 2) = (p : Int) := by
  rw [wrap_u64_wrap64 ((i : Int) + j) (by omega) (by omega), wrap64_at _ (by omega) (by omega), hp]
  omega
/-- a load of a struct under a guard that says yes -/
theorem wpList_load_aggG {ops : Array Oper} {rest : List Oper} {o : Oper} {a : Act} {w : World} {Q : Exit → Act → World → Prop} (hw : Region.wanted o (yielded ops a.tmps) = true) (T : TypeId) (x : Operand) (ho : o.op = .load T x)
    (ad : Addr) (hx : a.eval x = .pointer (some ad)) (cs : List Value) (hc : ∀ (j : Nat) (v : Value), cs[j]? = some v → w.cell? (ad.add j) = some v) {d : TypeDesc} (hu : Try.prog.underlying T = some d)
    (hd : (match d with | .struct _ | .array _ _ => true | _ => false) = true) (hi : (Try.prog.info? T).map (·.size) = some cs.length)
    (h : wpList Try.prog ops Q rest (a.put o.dst (.agg cs.toArray)) w) : wpList Try.prog ops Q (o :: rest) a w :=
  BigFrame.wpList_want hw fun K hK => by
    unfold Oper.wp execOp
    simp only [ho, hx, Instr.loadAt, Instr.sureAddr, Sem.run_bind, Sem.run_pure, Result.andThen_ok, run_loadVar_cells w ad T cs hc hu hd hi]
    exact hK _ _ h
set_option maxRecDepth 100000 in
set_option maxHeartbeats 1600000 in
theorem bsearch_any (w : World) (B : Nat) (v : Value) (l : List MFile) (s : List UInt8) (h : ByF w B v l) (hB : B ≤ w.heap.size) (hr : RiseN l) :
    Calls Try.prog 55 #[v, .string (bst s), .func (.func 56) #[] #[]] w fun e w' => ∃ k, e = .returned (.tuple #[.int .i64 (k : Nat), .bool (foundAt l s k)]) ∧ FindAt l s k ∧ Below w.heap.size w w' := by
  obtain ⟨A, c, rfl, hc1, hc2⟩ := h.form
  unfold maxLen at hc2
  have H := Lib.hid h
  have Hr := Lib.hid hr
  have Hf := Lib.hid (fun W f v => find1_any W f v s)
  clear h hr
  go_enter Try.func55, Try.ntmps55
  go_wp2_with fail
  go_loopw [9, 10] (fun iv jv wr => ∃ i j : Nat, i ≤ j ∧ j ≤ l.length ∧ iv = .int .i64 i ∧ jv = .int .i64 j ∧ (∀ (a : Nat) (ha : a < l.length), a < i → bless l[a].name s = true) ∧ (∀ (a : Nat) (ha : a < l.length), j ≤ a → bless l[a].name s = false) ∧ Below w.heap.size w wr) (fun i j _ => (intOf j).toNat - (intOf i).toNat)
  case atStart => exact ⟨0, l.length, by omega, by omega, rfl, rfl, fun a _ h => by omega, fun a ha h => by omega, Below.refl _ _⟩
  case round =>
    obtain ⟨i, j, hij, hjl, rfl, rfl, hlo, hhi, hbr⟩ := hrel
    have Hbr := Lib.hid hbr
    have Hlo := Lib.hid hlo
    have Hhi := Lib.hid hhi
    clear hbr hlo hhi
    by_cases hlt : i < j
    · obtain ⟨p, hp⟩ : ∃ p, p = (i + j) / 2 := ⟨_, rfl⟩
      have hpl : p < l.length := by omega
      obtain ⟨_, ad, vb, rfl, hab, hbI, hfo, hcl⟩ := (H.out.below (Hbr.out.mono hB)).cells p hpl
      have hwp : wrap64 (IntKind.u64.wrap (wrap64 ((i : Int) + (j : Int))) / 2) = (p : Int) := half_wrap i j p hp (by omega)
      have Hcl := Lib.hid hcl
      have Hp := Lib.hid hp
      clear hcl hbI hfo hp
      go_wp2_with (refine wpList_load_agg rfl 62 (.tmp 27) rfl (ad.add (p * 4)) rfl (encF l[p] vb) Hcl.out Try.underlying62 rfl info_file4 ?_)
      refine (Hf.out wr l[p] vb).mono ?_
      rintro _ w2 ⟨rfl, hb2⟩
      have Hb3 := Lib.hid (bstep Hbr.out hb2)
      clear hb2
      by_cases hlt2 : cmpS l[p].name s < 0
      · have hlo : ∀ (a : Nat) (ha : a < l.length), a < p + 1 → bless l[a].name s = true := fun a ha hap => by
          have h1 := (cmpS_lt _ _).1 hlt2
          rcases Nat.lt_or_ge a p with h | h
          · exact bless_trans _ _ _ (Hr.out a p hpl h) h1
          · obtain rfl : a = p := by omega
            exact h1
        have Hlo2 := Lib.hid hlo
        clear hlo
        generalize cmpS l[p].name s = r at *
        go_wp2_with fail
        go_roundw
        case rel => exact ⟨p + 1, j, by have := Hp.out; omega, hjl, by go_num, rfl, Hlo2.out, Hhi.out, Hb3.out⟩
        case measure => have := Hp.out; simp [intOf]; omega
      · have hhi : ∀ (a : Nat) (ha : a < l.length), p ≤ a → bless l[a].name s = false := fun a ha hap => by
          have h1 : bless l[p].name s = false := by
            cases hx : bless l[p].name s with
            | false => rfl
            | true => exact absurd ((cmpS_lt _ _).2 hx) hlt2
          rcases Nat.lt_or_ge p a with h | h
          · cases hx : bless l[a].name s with
            | false => rfl
            | true => rw [bless_trans _ _ _ (Hr.out p a ha h) hx] at h1; cases h1
          · obtain rfl : a = p := by omega
            exact h1
        have Hhi2 := Lib.hid hhi
        clear hhi
        generalize cmpS l[p].name s = r at *
        go_wp2_with fail
        go_roundw
        case rel => exact ⟨i, p, by have := Hp.out; omega, by omega, rfl, rfl, Hlo.out, Hhi2.out, Hb3.out⟩
        case measure => have := Hp.out; simp [intOf]; omega
    · obtain rfl : i = j := by omega
      have hat : FindAt l s i := ⟨hjl, Hlo.out, Hhi.out⟩
      have Hat := Lib.hid hat
      clear hat
      by_cases hil : i < l.length
      · obtain ⟨_, ad, vb, rfl, hab, hbI, hfo, hcl⟩ := (H.out.below (Hbr.out.mono hB)).cells i hil
        have hfo : foundAt l s i = decide (cmpS l[i].name s = 0) := by
          unfold foundAt
          rw [List.getElem?_eq_getElem hil]
          exact decide_eq_decide.2 (cmpS_eq _ _).symm
        have Hcl := Lib.hid hcl
        have Hfo := Lib.hid hfo
        clear hcl hbI hfo
        go_wp2_with (refine wpList_load_aggG (by first | rfl | simp [Region.wanted, yielded]) 62 (.tmp 43) rfl (ad.add (i * 4)) rfl (encF l[i] vb) Hcl.out Try.underlying62 rfl info_file4 ?_)
        refine (Hf.out wr l[i] vb).mono ?_
        rintro _ w2 ⟨rfl, hb2⟩
        have Hb3 := Lib.hid (bstep Hbr.out hb2)
        clear hb2
        generalize cmpS l[i].name s = r at *
        go_wp2_with fail
        go_ret2
        exact ⟨i, by rw [Hfo.out]; simp; rfl, Hat.out, Hb3.out⟩
      · have hfo : foundAt l s i = false := by
          unfold foundAt
          rw [List.getElem?_eq_none (by omega)]
        go_wp2_with fail
        go_ret2
        exact ⟨i, by rw [hfo]; rfl, Hat.out, Hbr.out⟩
end Go.Proofs.Ytpoicbhbkabllaa

namespace Go.Proofs.Ytpoicbhbkabllaa
set_option linter.unusedSimpArgs false
set_option linter.unusedVariables false
open Go.RowKit

theorem find_any (w : World) (v : Value) (m : MMan) (s : List UInt8) (h : MAt w w.heap.size v m) (hm : filesR m m.files.length = true) :
    Calls Try.prog 31 #[v, .string (bst s)] w fun e w' => ∃ k, e = .returned (.tuple #[.int .i64 (k : Nat), .bool (foundAt m.files s k)]) ∧ FindAt m.files s k ∧ Below w.heap.size w w' := by
  obtain ⟨vf, rfl, hf⟩ := h
  obtain ⟨A, c, rfl, hc1, hc2⟩ := hf.form
  unfold maxLen at hc2
  obtain ⟨w0, hw0⟩ : ∃ w0, w0 = w.alloc (.cells (encM m (.slice A m.files.length c)).toArray 56) := ⟨_, rfl⟩
  have hb0 : Below w.heap.size w w0 := by rw [hw0]; exact balloc w _
  have hx0 : BoxAt 56 w0 w.heap.size (encM m (.slice A m.files.length c)) := by rw [hw0]; exact BoxAt.new_ _ _ _
  have hc2x := hx0.cell 2 _ rfl
  have hr : RiseN m.files := fun a b hb hab => filesR_rise m _ (Nat.le_refl _) hm a b hb hab
  have Hw0 := Lib.hid hw0
  have Hb0 := Lib.hid hb0
  have Hf := Lib.hid ((hf.below hb0).more hb0.size)
  have Hr := Lib.hid hr
  clear hw0 hx0 hb0 hf hm hr
  go_enter Try.func31, Try.ntmps31
  go_upto_region 1 with (fail)
  rw [← Hw0.out]
  go_wp2_with fail
  refine (bsearch_any w0 w0.heap.size _ m.files s Hf.out (Nat.le_refl _) Hr.out).mono ?_
  rintro _ w1 ⟨k, rfl, hat, hb1⟩
  have Hb1 := Lib.hid (bstep Hb0.out hb1)
  have Hat := Lib.hid hat
  clear hb1 hat
  obtain ⟨r, hq⟩ : ∃ r, r = foundAt m.files s k := ⟨_, rfl⟩
  rw [← hq]
  have Hq := Lib.hid hq
  clear hq
  go_wp2_with fail
  go_ret2
  exact ⟨k, by rw [← Hq.out]; rfl, Hat.out, Hb1.out⟩
def cntLt (l : List MFile) (s : List UInt8) : Nat := (l.filter fun f => bless f.name s).length
def anyEq (l : List MFile) (s : List UInt8) : Bool := l.any fun f => decide (f.name = s)
theorem cntLt_succ (l : List MFile) (s : List UInt8) (k : Nat) (hk : k < l.length) : cntLt (l.take (k + 1)) s = cntLt (l.take k) s + (if bless l[k].name s then 1 else 0) := by
  unfold cntLt
  rw [List.take_add_one, List.getElem?_eq_getElem hk, Option.toList_some, List.filter_append, List.length_append]
  congr 1
  by_cases h : bless l[k].name s = true <;> simp [h]
theorem cntLt_le (l : List MFile) (s : List UInt8) : cntLt l s ≤ l.length := List.length_filter_le _ _
theorem anyEq_succ (l : List MFile) (s : List UInt8) (k : Nat) (hk : k < l.length) : anyEq (l.take (k + 1)) s = (anyEq (l.take k) s || decide (l[k].name = s)) := by
  unfold anyEq
  rw [List.take_add_one, List.getElem?_eq_getElem hk, Option.toList_some, List.any_append]
  simp
theorem FindAt.cnt {l : List MFile} {s : List UInt8} {k : Nat} (h : FindAt l s k) : cntLt l s = k := by
  unfold cntLt
  have e : l = l.take k ++ l.drop k := (List.take_append_drop k l).symm
  rw [e, List.filter_append, List.length_append]
  have h1 : (l.take k).filter (fun f => bless f.name s) = l.take k := by
    rw [List.filter_eq_self]
    intro f hf
    obtain ⟨a, ha, rfl⟩ := List.mem_take_iff_getElem.1 hf
    exact h.lo a (by omega) (by omega)
  have h2 : (l.drop k).filter (fun f => bless f.name s) = [] := by
    rw [List.filter_eq_nil_iff]
    intro f hf
    obtain ⟨a, ha, rfl⟩ := List.mem_iff_getElem.1 hf
    rw [List.getElem_drop]
    rw [List.length_drop] at ha
    rw [h.hi (k + a) (by omega) (by omega)]
    simp
  rw [h1, h2]
  have := h.le
  simp
  omega
theorem FindAt.any {l : List MFile} {s : List UInt8} {k : Nat} (h : FindAt l s k) (hr : RiseN l) : anyEq l s = foundAt l s k := by
  unfold anyEq foundAt
  by_cases hk : k < l.length
  · rw [List.getElem?_eq_getElem hk]
    show _ = decide (l[k].name = s)
    by_cases he : l[k].name = s
    · rw [decide_eq_true he, List.any_eq_true]
      exact ⟨_, List.getElem_mem hk, by simp [he]⟩
    · rw [decide_eq_false he, List.any_eq_false]
      intro f hf
      obtain ⟨a, ha, rfl⟩ := List.mem_iff_getElem.1 hf
      simp only [decide_eq_true_eq]
      intro ea
      rcases Nat.lt_trichotomy a k with hl | rfl | hl
      · have := h.lo a ha hl
        rw [ea, bless_irrefl] at this
        cases this
      · exact he ea
      · have h1 := hr k a ha hl
        rw [ea] at h1
        rw [h.hi k hk (Nat.le_refl _)] at h1
        cases h1
  · rw [List.getElem?_eq_none (by omega)]
    show _ = false
    rw [List.any_eq_false]
    intro f hf
    obtain ⟨a, ha, rfl⟩ := List.mem_iff_getElem.1 hf
    simp only [decide_eq_true_eq]
    intro ea
    have := h.lo a ha (by omega)
    rw [ea, bless_irrefl] at this
    cases this
end Go.Proofs.Ytpoicbhbkabllaa

namespace Go.Proofs.Ytpoicbhbkabllaa
set_option linter.unusedSimpArgs false
set_option linter.unusedVariables false
open Go.RowKit

theorem MIn.empty (w : World) (lo : Nat) : MIn w lo (.agg (encM emptyM (.slice none 0 0)).toArray) emptyM := ⟨_, rfl, RowOn.nil_⟩
def smallF (f : MFile) : Prop := f.name.length ≤ 32 ∧ f.blocks.length ≤ 65536
theorem rblk_len : ∀ (n : Nat) (acc : List Int) (l : List UInt8) (e : Int), (rblk n acc l e).1.length ≤ acc.length + n
  | 0, acc, l, e => by simp [rblk]
  | n + 1, acc, l, e => by
    rw [rblk]
    split
    · simp
    · have := rblk_len n (acc ++ [((numS 65536 l e).1 : Int)]) (numS 65536 l e).2.1 (numS 65536 l e).2.2
      simp at this
      omega
theorem rfileP_small (l : List UInt8) (e : Int) : smallF (rfileP l e).1 := by
  have h1 := (numS_lt 32 l e).2
  have h2 := (bytesS_len' ((rf1 l e).1 : Int) (rf1 l e).2.1 (rf1 l e).2.2).2
  have h4 := (numS_lt 7340032 (rf3 l e).2.1 (rf3 l e).2.2).2
  have h5 := rblk_len (manyOf ((rf4 l e).1 : Int)).toNat [] (rf4 l e).2.1 (rf4 l e).2.2
  have h6 := manyOf_le (rf4 l e).1 h4
  have e1 : (rf1 l e).1 = (numS 32 l e).1 := rfl
  have e2 : (rf2 l e).1 = (bytesS ((rf1 l e).1 : Int) (rf1 l e).2.1 (rf1 l e).2.2).1 := rfl
  have e5 : (rf5 l e).1 = (rblk (manyOf ((rf4 l e).1 : Int)).toNat [] (rf4 l e).2.1 (rf4 l e).2.2).1 := rfl
  refine ⟨?_, ?_⟩
  · show (rf2 l e).1.length ≤ 32
    rw [e2]
    omega
  · show (rf5 l e).1.length ≤ 65536
    rw [e5]
    simp at h5
    omega
theorem rfilesP_small : ∀ (n : Nat) (acc : List MFile) (l : List UInt8) (e : Int), (∀ f ∈ acc, smallF f) → (rfilesP n acc l e).1.length ≤ acc.length + n ∧ ∀ f ∈ (rfilesP n acc l e).1, smallF f
  | 0, acc, l, e, h => ⟨by simp [rfilesP], h⟩
  | n + 1, acc, l, e, h => by
    rw [rfilesP]
    split
    · exact ⟨by simp, h⟩
    · have := rfilesP_small n (acc ++ [(rfileP l e).1]) (rfileP l e).2.1 (rfileP l e).2.2 (fun f hf => by
        rcases List.mem_append.1 hf with hf | hf
        · exact h f hf
        · rw [List.mem_singleton.1 hf]; exact rfileP_small l e)
      refine ⟨?_, this.2⟩
      have := this.1
      simp at this
      omega
theorem bodyF_len_small (f : MFile) (h : smallF f) : (bodyF f).length ≤ 721100 := by
  obtain ⟨h1, h2⟩ := h
  rw [bodyF_len]
  have := nums_len f.blocks
  have := (vput_len64 f.name.length (by omega)).2
  have := (vput_len64 f.id.toNat (by have := u32_lt f.id; omega)).2
  have := (vput_len64 (u64Of f.size) (u64Of_lt _)).2
  omega
theorem rman_small (l : List UInt8) : (bodyM (rmanP l)).length ≤ 274877906944 := by
  have h3 := (numS_lt 2048 (rm2 l).2.1 (rm2 l).2.2).2
  have h := rfilesP_small (rm3 l).1 [] (rm3 l).2.1 (rm3 l).2.2 (by simp)
  have e3 : (rm3 l).1 = (numS 2048 (rm2 l).2.1 (rm2 l).2.2).1 := rfl
  have e4 : (rmanP l).files = (rfilesP (rm3 l).1 [] (rm3 l).2.1 (rm3 l).2.2).1 := rfl
  rw [bodyM_len]
  have h1 := h.1
  have h2 := h.2
  rw [← e4] at h1 h2
  have := flat_len_le (rmanP l).files 721100 fun f hf => bodyF_len_small f (h2 f hf)
  simp at h1
  have := (vput_len64 (rmanP l).ver.toNat (u64_lt _)).2
  have := (vput_len64 (rmanP l).next.toNat (by have := u32_lt (rmanP l).next; omega)).2
  have := (vput_len64 (rmanP l).files.length (by omega)).2
  omega
def readE (l : List UInt8) : Int := endE (rm4 l).2.1 (rm4 l).2.2
/-- is a manifest in front? -/
def getOk (b : List UInt8) : Bool := (decide (sE b = 0) && decide (sK b = 77)) && (decide (readE (sL b) = 0) && mayM (rmanP (sL b)))
def getM (b : List UInt8) : MMan := if getOk b = true then rmanP (sL b) else emptyM
theorem info_sec2 : (Try.prog.info? 108).map (·.size) = some 2 := by kernel_rfl
theorem info_secz : (Try.prog.info? 108).map (fun i => (i.zero, i.size, i.bytes)) = some (some (.agg #[.int .u8 0, .slice none 0 0]), 2, 32) := by kernel_rfl
def zeroSc : List Value := [.int .u8 0, .slice none 0 0]
theorem zeroM_enc : zeroMc = encM emptyM (.slice none 0 0) := rfl
set_option maxRecDepth 100000 in
set_option maxHeartbeats 3200000 in
theorem mget_any (w : World) (v : Value) (b : List UInt8) (hby : By w w.heap.size v b) (hl : b.length ≤ 1073741824) :
    Calls Try.prog 32 #[v] w fun ev w' => ∃ v', ev = .returned (.tuple #[v', .int .i64 (if getOk b = true then 0 else 5)]) ∧ MIn w' w.heap.size v' (getM b) ∧ Below w.heap.size w w' := by
  obtain ⟨A, c, rfl, hc1, hc2, hrd0⟩ := id hby
  unfold maxLen at hc2
  obtain ⟨w0, hw0⟩ : ∃ w0, w0 = w.alloc (.cells zeroMc.toArray 56) := ⟨_, rfl⟩
  have hb0 : Below w.heap.size w w0 := by rw [hw0]; exact balloc w _
  have hres0 : BoxAt 56 w0 w.heap.size zeroMc := by rw [hw0]; exact BoxAt.new_ _ _ _
  have Hw0 := Lib.hid hw0
  have Hby := Lib.hid ((hby.below hb0).more hb0.size)
  have Hb0 := Lib.hid hb0
  have Hres0 := Lib.hid hres0
  have hok : getOk b = ((decide (sE b = 0) && decide (sK b = 77)) && (decide (readE (sL b) = 0) && mayM (rmanP (sL b)))) := rfl
  have Hok := Lib.hid hok
  have hsl : (sL b).length ≤ 1073741824 := by
    unfold sL
    split
    · simp; omega
    · simp
  have hgm : getM b = if getOk b = true then rmanP (sL b) else emptyM := rfl
  have Hgm := Lib.hid hgm
  obtain ⟨er, her⟩ : ∃ er : Int, er = if getOk b = true then 0 else 5 := ⟨_, rfl⟩
  rw [← her]
  have Her := Lib.hid her
  clear her
  clear hw0 hb0 hres0 hby hrd0 hok hgm
  go_enter Try.func32, Try.ntmps32
  go_upto_region 1 with (first
    | (refine wpList_alloc_z rfl 56 rfl info_manz zeroMc zeroM_cells ?_))
  try simp only [Act.put, List.setIfInBounds_toArray, List.set_cons_zero, List.set_cons_succ]
  rw [← Hw0.out]
  go_wp2_with fail
  refine (fget_any w0 _ b Hby.out (by omega)).mono ?_
  rintro _ w1 ⟨v1, rfl, ho1, hb1⟩
  obtain ⟨A1, c1, hv1, hd1, hd2, _⟩ := ho1.form_
  have hk8 := u8_lt (sK b)
  have Hb1 := Lib.hid (bstep Hb0.out hb1)
  have Hres1 := Lib.hid (Hres0.out.blwM hb1)
  have Ho1 := Lib.hid ho1.by_
  clear hb1 ho1
  generalize hqE : sE b = E at *
  generalize hqK : sK b = K at *
  generalize hqL : sL b = L at *
  generalize hqN : sN b = Nn at *
  have hone : ∀ u ∈ [Value.int .u8 (K.toNat : Int), v1], u.oneCell' = true := fun u hu => by
    simp at hu
    rcases hu with rfl | rfl
    · rfl
    · rw [hv1]; rfl
  have Hone := Lib.hid hone
  have Hv1 := Lib.hid hv1
  clear hone hv1 hqE hqK hqL hqN
  have hbx := BoxAt.new_ 108 w1 [.int .u8 (K.toNat : Int), v1]
  have hc0 := hbx.cell 0 _ rfl
  have hc1x := hbx.cell 1 _ rfl
  have hb12 := balloc w1 (.cells [Value.int .u8 (K.toNat : Int), v1].toArray 108)
  go_upto_region 2 with (first
    | (refine wpList_alloc_z rfl 108 rfl info_secz zeroSc rfl ?_)
    | (refine wpList_store_new rfl 108 (.tmp 4) (.tmp 11) rfl zeroSc [.int .u8 (K.toNat : Int), v1] rfl rfl info_sec2 rfl Hone.out ?_))
  obtain ⟨w2, hw2⟩ : ∃ w2, w2 = w1.alloc (.cells [Value.int .u8 (K.toNat : Int), v1].toArray 108) := ⟨_, rfl⟩
  rw [← hw2] at hbx hc0 hc1x hb12 ⊢
  have Hw2 := Lib.hid hw2
  have Hb2 := Lib.hid (bstep Hb1.out hb12)
  have Hres2 := Lib.hid (Hres1.out.blwM hb12)
  have Ho2 := Lib.hid ((Ho1.out.below hb12).more hb12.size)
  clear hbx hw2 hb12
  by_cases hE : E = 0
  · have hE1 : (E == 0) = true := beq_iff_eq.2 hE
    by_cases hK : K = 77
    · have hd : decide (E = 0) = true := decide_eq_true hE
      have hd2 : decide (K = 77) = true := decide_eq_true hK
      have Hok2 := Hok
      rw [hd, hd2] at Hok2
      subst hK
      subst hE
      have h77 : (77 : UInt8).toNat = 77 := rfl
      clear hd hd2 hE1
      go_wp2_with fail
      refine (mread_any w2 v1 L Ho2.out hsl).mono ?_
      rintro _ w3 ⟨v3, rfl, hm3, hb3⟩
      have hf3a := hm3.mat
      obtain ⟨vf, rfl, hfi⟩ := hm3
      have hf3 : ByF w3 w3.heap.size vf (rmanP L).files := by obtain ⟨vf', e, h⟩ := hf3a; simp [encM] at e; rw [e]; exact h
      have hin3 : MIn w3 w2.heap.size (.agg (encM (rmanP L) vf).toArray) (rmanP L) := ⟨vf, rfl, hfi⟩
      clear hf3a hfi
      have hrE : endE (rm4 L).2.1 (rm4 L).2.2 = readE L := rfl
      rw [hrE]
      obtain ⟨mm, hmm⟩ : ∃ mm, mm = rmanP L := ⟨_, rfl⟩
      have hsm := rman_small L
      rw [← hmm] at hf3 hsm hin3 ⊢
      rw [← hmm] at Hok2 Hgm
      obtain ⟨Af, cf, hvf, hcf1, hcf2⟩ := hf3.form
      subst hvf
      have Hb3 := Lib.hid (bstep Hb2.out hb3)
      have Hres3 := Lib.hid (Hres2.out.blwM hb3)
      have Hf3 := Lib.hid hf3
      have Hin3 := Lib.hid hin3
      have hs02 : w.heap.size < w2.heap.size := Hres2.out.lt
      have Hsm := Lib.hid hsm
      have hone3 := encM_one mm (.slice Af mm.files.length cf) rfl
      have Hone3 := Lib.hid hone3
      clear hb3 hf3 hin3 hsm hrE hmm hone3 hc0 hc1x Hone h77
      generalize readE L = e at *
      have hbx := BoxAt.new_ 56 w3 (encM mm (.slice Af mm.files.length cf))
      have hb34 := balloc w3 (.cells (encM mm (.slice Af mm.files.length cf)).toArray 56)
      go_upto_region 5 with (first
        | (refine wpList_alloc_z rfl 56 rfl info_manz zeroMc zeroM_cells ?_)
        | (refine wpList_store_new rfl 56 (.tmp 7) (.tmp 26) rfl zeroMc (encM mm (.slice Af mm.files.length cf)) rfl rfl info_man3 rfl Hone3.out ?_))
      obtain ⟨w4, hw4⟩ : ∃ w4, w4 = w3.alloc (.cells (encM mm (.slice Af mm.files.length cf)).toArray 56) := ⟨_, rfl⟩
      rw [← hw4] at hbx hb34 ⊢
      have Hb4 := Lib.hid (bstep Hb3.out hb34)
      have Hres4 := Lib.hid (Hres3.out.blwM hb34)
      have Hf4 := Lib.hid ((Hf3.out.below hb34).more hb34.size)
      have Hbx4 := Lib.hid hbx
      have Hin4 := Lib.hid (Hin3.out.step hb34)
      clear hbx hb34 hw4
      by_cases he : e = 0
      · have hd : decide (e = 0) = true := decide_eq_true he
        rw [hd] at Hok2
        subst he
        go_wp2_with (refine wpList_load_aggG (by first | rfl | simp [Region.wanted, yielded]) 56 (.tmp 7) rfl ⟨w3.heap.size, 0, none⟩ rfl (encM mm (.slice Af mm.files.length cf)) Hbx4.out.cells Try.underlying56 rfl info_man3 ?_)
        refine (may_any w4 _ mm ⟨_, rfl, Hf4.out⟩ Hsm.out).mono ?_
        rintro _ w5 ⟨rfl, hb5⟩
        have Hb5 := Lib.hid (bstep Hb4.out hb5)
        have Hb45 := Lib.hid hb5
        have Hres5 := Lib.hid (Hres4.out.blwM hb5)
        have Hbx5 := Lib.hid (Hbx4.out.blwM hb5)
        have Hf5 := Lib.hid ((Hf4.out.below hb5).more hb5.size)
        clear hb5
        cases hm : mayM mm with
        | false =>
          rw [hm] at Hok2
          have Hf : Hid (getOk b = false) := Hok2
          clear hd hm
          go_wp2_with (refine wpList_store_box rfl 56 56 (.tmp 2) (.tmp 35) rfl w.heap.size zeroMc zeroMc rfl rfl Hres5.out rfl (encM_one emptyM _ rfl) info_man3 ?_; intro hend)
          refine bodyPost_ret (results_ct rfl _ _ w.heap.size zeroMc rfl (fun j v hj => (hend.cells j v hj : _)) Try.underlying56 rfl info_man3) rfl ?_
          have e5 : er = 5 := Her.out.trans (if_neg (by rw [Hf.out]; simp))
          have eM : getM b = emptyM := by rw [Hgm.out]; exact if_neg (by rw [Hf.out]; simp)
          rw [e5, eM]
          exact ⟨_, rfl, MIn.empty _ _, Hb5.out.trans ((Chg.ofGrown (P := fun k => k = w.heap.size) (gsetRow' _ _ _) fun k e => by injection e with e; exact e.symm).below (B := w.heap.size) Hb5.out.size (fun k hk => by omega))⟩
        | true =>
          rw [hm] at Hok2
          have Ht : Hid (getOk b = true) := Hok2
          clear hd hm
          go_wp2_with (first
            | (refine wpList_load_agg rfl 56 (.tmp 7) rfl ⟨w3.heap.size, 0, none⟩ rfl (encM mm (.slice Af mm.files.length cf)) Hbx5.out.cells Try.underlying56 rfl info_man3 ?_)
            | (refine wpList_store_box rfl 56 56 (.tmp 2) (.tmp 36) rfl w.heap.size zeroMc (encM mm (.slice Af mm.files.length cf)) rfl rfl Hres5.out rfl Hone3.out info_man3 ?_; intro hend))
          refine bodyPost_ret (results_ct rfl _ _ w.heap.size (encM mm (.slice Af mm.files.length cf)) rfl (fun j v hj => (hend.cells j v hj : _)) Try.underlying56 rfl info_man3) rfl ?_
          have hch : Chg (fun k => k = w.heap.size) w5 (w5.setRow w.heap.size (encM mm (.slice Af mm.files.length cf)).toArray) := Chg.ofGrown (gsetRow' _ _ _) fun k e => by injection e with e; exact e.symm
          rw [Hgm.out, if_pos Ht.out, Her.out, if_pos Ht.out]
          have hin := (Hin4.out.step Hb45.out).chg hch (fun k hk => by omega)
          exact ⟨_, rfl, hin.low (by omega), Hb5.out.trans (hch.below (B := w.heap.size) Hb5.out.size (fun k hk => by omega))⟩
      · have hd : decide (e = 0) = false := decide_eq_false he
        have hd2 : (e == 0) = false := beq_eq_false_iff_ne.2 he
        rw [hd] at Hok2
        have Hf : Hid (getOk b = false) := Hok2
        have hd3 : (e != 0) = true := by simp [bne, hd2]
        clear hd hd2 he
        go_wp2_with (refine wpList_store_box rfl 56 56 (.tmp 2) (.tmp 35) rfl w.heap.size zeroMc zeroMc rfl rfl Hres4.out rfl (encM_one emptyM _ rfl) info_man3 ?_; intro hend)
        refine bodyPost_ret (results_ct rfl _ _ w.heap.size zeroMc rfl (fun j v hj => (hend.cells j v hj : _)) Try.underlying56 rfl info_man3) rfl ?_
        have e5 : er = 5 := Her.out.trans (if_neg (by rw [Hf.out]; simp))
        have eM : getM b = emptyM := by rw [Hgm.out]; exact if_neg (by rw [Hf.out]; simp)
        rw [e5, eM]
        exact ⟨_, rfl, MIn.empty _ _, Hb4.out.trans ((Chg.ofGrown (P := fun k => k = w.heap.size) (gsetRow' _ _ _) fun k e => by injection e with e; exact e.symm).below (B := w.heap.size) Hb4.out.size (fun k hk => by omega))⟩
    · have hd : decide (K = 77) = false := decide_eq_false hK
      have hK2 : ((K.toNat : Int) == 77) = false := beq_eq_false_iff_ne.2 (fun e => hK (by rw [← UInt8.toNat_inj]; show K.toNat = 77; omega))
      have hf : getOk b = false := by rw [Hok.out, hd]; simp
      have Hf := Lib.hid hf
      subst hE
      clear hd hf hK hE1
      go_wp2_with (refine wpList_store_box rfl 56 56 (.tmp 2) (.tmp 21) rfl w.heap.size zeroMc zeroMc rfl rfl Hres2.out rfl (encM_one emptyM _ rfl) info_man3 ?_; intro hend)
      refine bodyPost_ret (results_ct rfl _ _ w.heap.size zeroMc rfl (fun j v hj => (hend.cells j v hj : _)) Try.underlying56 rfl info_man3) rfl ?_
      have e5 : er = 5 := Her.out.trans (if_neg (by rw [Hf.out]; simp))
      have eM : getM b = emptyM := by rw [Hgm.out]; exact if_neg (by rw [Hf.out]; simp)
      rw [e5, eM]
      exact ⟨_, rfl, MIn.empty _ _, Hb2.out.trans ((Chg.ofGrown (P := fun k => k = w.heap.size) (gsetRow' _ _ _) fun k e => by injection e with e; exact e.symm).below (B := w.heap.size) Hb2.out.size (fun k hk => by omega))⟩
  · have hd : decide (E = 0) = false := decide_eq_false hE
    have hE2 : (E == 0) = false := beq_eq_false_iff_ne.2 hE
    have hf : getOk b = false := by rw [Hok.out, hd]; simp
    have Hf := Lib.hid hf
    clear hd hf hE
    go_wp2_with (refine wpList_store_box rfl 56 56 (.tmp 2) (.tmp 21) rfl w.heap.size zeroMc zeroMc rfl rfl Hres2.out rfl (encM_one emptyM _ rfl) info_man3 ?_; intro hend)
    refine bodyPost_ret (results_ct rfl _ _ w.heap.size zeroMc rfl (fun j v hj => (hend.cells j v hj : _)) Try.underlying56 rfl info_man3) rfl ?_
    have e5 : er = 5 := Her.out.trans (if_neg (by rw [Hf.out]; simp))
    have eM : getM b = emptyM := by rw [Hgm.out]; exact if_neg (by rw [Hf.out]; simp)
    rw [e5, eM]
    exact ⟨_, rfl, MIn.empty _ _, Hb2.out.trans ((Chg.ofGrown (P := fun k => k = w.heap.size) (gsetRow' _ _ _) fun k e => by injection e with e; exact e.symm).below (B := w.heap.size) Hb2.out.size (fun k hk => by omega))⟩
end Go.Proofs.Ytpoicbhbkabllaa

namespace Go.Proofs.Ytpoicbhbkabllaa
set_option linter.unusedSimpArgs false
set_option linter.unusedVariables false
open Go.RowKit

theorem sLen_head (k : UInt8) (n : Nat) (t : List UInt8) (h : n < 4294967296) : sLen (k :: four (UInt32.ofNat n) ++ t) = n := by
  show (UInt32.ofNat n).toUInt8.toNat + 256 * ((UInt32.ofNat n) >>> 8).toUInt8.toNat + 65536 * ((UInt32.ofNat n) >>> 16).toUInt8.toNat + 16777216 * ((UInt32.ofNat n) >>> 24).toUInt8.toNat = n
  have e : (UInt32.ofNat n).toNat = n := by rw [UInt32.toNat_ofNat']; omega
  generalize UInt32.ofNat n = x at *
  have h0 := mod_u8_u32 x
  have h1 := fourAt1 x
  have h2 := fourAt2 x
  have h3 := fourAt3 x
  simp only [fourAt, four, List.getD_cons_zero, List.getD_cons_succ] at h1 h2 h3
  omega
theorem sE_big (k : UInt8) (n : Nat) (t : List UInt8) (h : n < 4294967296) (hn : 1048576 < n) : sE (markOf (k :: four (UInt32.ofNat n)) ++ t) = 4 := by
  have hl : (markOf (k :: four (UInt32.ofNat n))).length = 9 := by rw [markOf_length]; rfl
  have ht : (markOf (k :: four (UInt32.ofNat n)) ++ t).take 9 = markOf (k :: four (UInt32.ofNat n)) := by rw [List.take_left' hl]
  have hs : sLen (markOf (k :: four (UInt32.ofNat n)) ++ t) = n := by
    have : markOf (k :: four (UInt32.ofNat n)) ++ t = k :: four (UInt32.ofNat n) ++ (four (crcOf (k :: four (UInt32.ofNat n))) ++ t) := by simp [markOf]
    rw [this, sLen_head _ _ _ h]
  unfold sE
  rw [hs, ht, fitsB_mark, if_neg (by simp [hl]), if_neg (by simp), if_pos hn]
theorem sN_big (k : UInt8) (n : Nat) (t : List UInt8) (h : n < 4294967296) (hn : 1048576 < n) : sN (markOf (k :: four (UInt32.ofNat n)) ++ t) = 0 := by
  unfold sN; rw [sE_big k n t h hn]; rfl
end Go.Proofs.Ytpoicbhbkabllaa

namespace Go.Proofs.Ytpoicbhbkabllaa
set_option linter.unusedSimpArgs false
set_option linter.unusedVariables false
open Go.RowKit

theorem turned_set (l : List UInt8) (i : Nat) (d : UInt8) (hi : i < (markOf l).length) (hd : d ≠ 0) : fitsB ((markOf l).set i ((markOf l).getD i 0 ^^^ d)) = false := by
  have hm : markOf l = (markOf l).take i ++ (markOf l)[i] :: (markOf l).drop (i + 1) := by
    rw [List.getElem_cons_drop hi, List.take_append_drop]
  have hs : (markOf l).set i ((markOf l).getD i 0 ^^^ d) = (markOf l).take i ++ ((markOf l)[i] ^^^ d) :: (markOf l).drop (i + 1) := by
    rw [List.set_eq_take_append_cons_drop, if_pos hi]
    simp [hi]
  rw [hs]
  exact turned_byte l _ _ _ d hm hd

theorem getD_left (a b : List UInt8) (i : Nat) (h : i < a.length) : (a ++ b).getD i 0 = a.getD i 0 := by
  rw [List.getD_eq_getElem?_getD, List.getD_eq_getElem?_getD, List.getElem?_append_left h]
theorem getD_right (a b : List UInt8) (i : Nat) (h : a.length ≤ i) : (a ++ b).getD i 0 = b.getD (i - a.length) 0 := by
  rw [List.getD_eq_getElem?_getD, List.getD_eq_getElem?_getD, List.getElem?_append_right h]
theorem sE_turned (k : UInt8) (l more : List UInt8) (i : Nat) (d : UInt8) (h : l.length ≤ 1048576) (hi : i < l.length + 13) (hd : d ≠ 0) :
    sE ((frameOf k l).set i ((frameOf k l).getD i 0 ^^^ d) ++ more) = 5 := by
  have hA : (markOf (k :: four (UInt32.ofNat l.length))).length = 9 := by rw [markOf_length]; rfl
  have hB : (markOf l).length = l.length + 4 := markOf_length l
  unfold frameOf
  rcases Nat.lt_or_ge i 9 with h9 | h9
  · have e1 : (markOf (k :: four (UInt32.ofNat l.length)) ++ markOf l).set i ((markOf (k :: four (UInt32.ofNat l.length)) ++ markOf l).getD i 0 ^^^ d)
        = (markOf (k :: four (UInt32.ofNat l.length))).set i ((markOf (k :: four (UInt32.ofNat l.length))).getD i 0 ^^^ d) ++ markOf l := by
      rw [List.set_append_left _ _ (by omega), getD_left _ _ _ (by omega)]
    have ht := turned_set (k :: four (UInt32.ofNat l.length)) i d (by omega) hd
    rw [e1, List.append_assoc]
    unfold sE
    rw [if_neg (by simp [hA]), List.take_left' (by simp [hA]), ht, if_pos rfl]
  · have e1 : (markOf (k :: four (UInt32.ofNat l.length)) ++ markOf l).set i ((markOf (k :: four (UInt32.ofNat l.length)) ++ markOf l).getD i 0 ^^^ d)
        = markOf (k :: four (UInt32.ofNat l.length)) ++ (markOf l).set (i - 9) ((markOf l).getD (i - 9) 0 ^^^ d) := by
      rw [List.set_append_right _ _ (by omega), getD_right _ _ _ (by omega), hA]
    have ht := turned_set l (i - 9) d (by omega) hd
    rw [e1, List.append_assoc]
    have hs : sLen (markOf (k :: four (UInt32.ofNat l.length)) ++ ((markOf l).set (i - 9) ((markOf l).getD (i - 9) 0 ^^^ d) ++ more)) = l.length := by
      have : markOf (k :: four (UInt32.ofNat l.length)) ++ ((markOf l).set (i - 9) ((markOf l).getD (i - 9) 0 ^^^ d) ++ more) = k :: four (UInt32.ofNat l.length) ++ (four (crcOf (k :: four (UInt32.ofNat l.length))) ++ ((markOf l).set (i - 9) ((markOf l).getD (i - 9) 0 ^^^ d) ++ more)) := by simp [markOf]
      rw [this, sLen_head _ _ _ (by omega)]
    unfold sE
    rw [hs, if_neg (by simp [hA]), List.take_left' hA, fitsB_mark, if_neg (by simp), if_neg (by omega), if_neg (by simp [hA, hB]; omega), List.drop_left' hA, List.take_left' (by simp [hB]), ht]
    rfl
end Go.Proofs.Ytpoicbhbkabllaa

namespace Go.Proofs.Ytpoicbhbkabllaa
set_option linter.unusedSimpArgs false
set_option linter.unusedVariables false
open Go.RowKit

theorem numS_put (n most : Nat) (t : List UInt8) (hn : n < 18446744073709551616) (hm : n ≤ most) : numS most (vput n ++ t) 0 = (n, t, 0) := by
  rw [show numS most (vput n ++ t) 0 = numR most (vput n ++ t) from by unfold numS; rw [if_neg (by simp)]]
  exact numR_vput n most t hn hm
theorem rblk_ok : ∀ (bl acc : List Int) (t : List UInt8), (∀ b ∈ bl, 0 ≤ b ∧ b < 65536) → rblk bl.length acc (nums bl ++ t) 0 = (acc ++ bl, t, 0)
  | [], acc, t, _ => by simp [rblk, nums]
  | b :: bl, acc, t, h => by
    have hb := h b (List.mem_cons_self ..)
    have hu : u64Of b = b.toNat := by unfold u64Of; omega
    have e : nums (b :: bl) ++ t = vput (u64Of b) ++ (nums bl ++ t) := by simp [nums]
    rw [List.length_cons, rblk, if_neg (by simp), e, numS_put _ _ _ (u64Of_lt b) (by omega)]
    simp only
    rw [rblk_ok bl _ t (fun x hx => h x (List.mem_cons_of_mem _ hx)), hu, show ((b.toNat : Nat) : Int) = b from by omega]
    simp
/-- a file that may be, of so few bytes -/
structure FileOk (f : MFile) : Prop where
  nm : f.name.length ≤ 32
  sz : 0 ≤ f.size ∧ f.size ≤ 7340032
  mn : manyOf f.size = (f.blocks.length : Int)
  bl : ∀ b ∈ f.blocks, 0 ≤ b ∧ b < 65536
theorem rfileP_ok (f : MFile) (t : List UInt8) (h : FileOk f) : rfileP (bodyF f ++ t) 0 = (f, t, 0) := by
  have hid := u32_lt f.id
  have hu : u64Of f.size = f.size.toNat := by unfold u64Of; have := h.sz; omega
  have e : bodyF f ++ t = vput f.name.length ++ (f.name ++ (vput f.id.toNat ++ (vput (u64Of f.size) ++ (nums f.blocks ++ t)))) := by simp [bodyF]
  have h1 : rf1 (bodyF f ++ t) 0 = (f.name.length, f.name ++ (vput f.id.toNat ++ (vput (u64Of f.size) ++ (nums f.blocks ++ t))), 0) := by
    unfold rf1
    rw [e, numS_put _ _ _ (by have := h.nm; omega) h.nm]
  have h2 : rf2 (bodyF f ++ t) 0 = (f.name, vput f.id.toNat ++ (vput (u64Of f.size) ++ (nums f.blocks ++ t)), 0) := by
    unfold rf2
    rw [h1]
    unfold bytesS
    rw [if_neg (by simp), if_neg (by omega), if_neg (by simp; omega)]
    simp
  have h3 : rf3 (bodyF f ++ t) 0 = (f.id.toNat, vput (u64Of f.size) ++ (nums f.blocks ++ t), 0) := by
    unfold rf3
    rw [h2]
    exact numS_put _ _ _ (by omega) (by omega)
  have h4 : rf4 (bodyF f ++ t) 0 = (u64Of f.size, nums f.blocks ++ t, 0) := by
    unfold rf4
    rw [h3]
    exact numS_put _ _ _ (u64Of_lt _) (by rw [hu]; have := h.sz; omega)
  have hs : ((u64Of f.size : Nat) : Int) = f.size := by rw [hu]; have := h.sz; omega
  have h5 : rf5 (bodyF f ++ t) 0 = (f.blocks, t, 0) := by
    unfold rf5
    rw [h4]
    simp only
    rw [hs, h.mn, Int.toNat_natCast]
    have := rblk_ok f.blocks [] t h.bl
    simpa using this
  unfold rfileP
  rw [h2, h3, h4, h5]
  simp only
  rw [hs]
  have : UInt32.ofNat f.id.toNat = f.id := UInt32.ofNat_toNat
  rw [this]
theorem rfilesP_ok : ∀ (fs acc : List MFile) (t : List UInt8), (∀ f ∈ fs, FileOk f) → rfilesP fs.length acc (fs.flatMap bodyF ++ t) 0 = (acc ++ fs, t, 0)
  | [], acc, t, _ => by simp [rfilesP]
  | f :: fs, acc, t, h => by
    have e : (f :: fs).flatMap bodyF ++ t = bodyF f ++ (fs.flatMap bodyF ++ t) := by simp
    rw [List.length_cons, rfilesP, if_neg (by simp), e, rfileP_ok f _ (h f (List.mem_cons_self ..))]
    simp only
    rw [rfilesP_ok fs _ t (fun x hx => h x (List.mem_cons_of_mem _ hx))]
    simp
theorem nums_lo : ∀ (l : List Int), l.length ≤ (nums l).length
  | [] => by simp
  | b :: l => by
    have h1 := nums_lo l
    have h2 := (vput_len64 (u64Of b) (u64Of_lt b)).1
    have e : nums (b :: l) = vput (u64Of b) ++ nums l := by simp [nums]
    rw [e, List.length_append, List.length_cons]
    omega
theorem bodyF_ge (f : MFile) : f.blocks.length + 1 ≤ (bodyF f).length := by
  have h1 := nums_lo f.blocks
  have h2 := (vput_len64 f.id.toNat (by have := u32_lt f.id; omega)).1
  simp only [bodyF, List.length_append]
  omega
theorem flat_ge : ∀ (fs : List MFile), fs.length ≤ (fs.flatMap bodyF).length ∧ ∀ f ∈ fs, (bodyF f).length ≤ (fs.flatMap bodyF).length
  | [] => by simp
  | a :: fs => by
    obtain ⟨h1, h2⟩ := flat_ge fs
    have h3 := bodyF_ge a
    refine ⟨by rw [List.flatMap_cons, List.length_append, List.length_cons]; omega, fun f hf => ?_⟩
    rw [List.flatMap_cons, List.length_append]
    rcases List.mem_cons.1 hf with rfl | hf
    · omega
    · have := h2 f hf; omega
theorem fileOk_of (m : MMan) (hm : mayM m = true) : ∀ f ∈ m.files, FileOk f := by
  unfold mayM at hm
  rw [Bool.and_eq_true, decide_eq_true_eq] at hm
  obtain ⟨h1, h2⟩ := hm
  intro f hf
  obtain ⟨i, hi, rfl⟩ := List.mem_iff_getElem.1 hf
  unfold filesR at h1
  rw [List.all_eq_true] at h1
  have h3 := h1 i (List.mem_range.2 hi)
  rw [show m.files.getD i ⟨[], 0, 0, []⟩ = m.files[i] from by simp [List.getD_eq_getElem?_getD, List.getElem?_eq_getElem hi]] at h3
  unfold fileR at h3
  rw [Bool.and_eq_true, Bool.and_eq_true] at h3
  obtain ⟨⟨hb, _⟩, hk⟩ := h3
  unfold basicF at hb
  simp only [Bool.not_eq_true', Bool.or_eq_false_iff, decide_eq_false_iff_not] at hb
  obtain ⟨⟨⟨⟨b1, b2⟩, b3⟩, b4⟩, b5⟩ := hb
  have hlen : (m.files[i]).blocks.length ≤ 2048 := by
    have h4 := bodyF_ge m.files[i]
    have h5 := (flat_ge m.files).2 m.files[i] (List.getElem_mem hi)
    have h6 : (bodyM m).length = (vput m.ver.toNat).length + (vput m.next.toNat).length + (vput m.files.length).length + (m.files.flatMap bodyF).length := by simp [bodyM]; omega
    omega
  have hmn : manyOf (m.files[i]).size = ((m.files[i]).blocks.length : Int) := Decidable.not_not.1 b5
  refine ⟨by omega, ⟨by omega, ?_⟩, hmn, fun b hbm => ?_⟩
  · unfold manyOf at hmn
    split at hmn <;> omega
  · unfold blocksOk at hk
    rw [List.all_eq_true] at hk
    obtain ⟨a, ha, rfl⟩ := List.mem_iff_getElem.1 hbm
    have h7 := hk a (List.mem_range.2 ha)
    unfold blockOk at h7
    rw [Bool.and_eq_true] at h7
    have h8 := h7.1
    rw [show (m.files[i]).blocks.getD a 0 = (m.files[i]).blocks[a] from by simp [List.getD_eq_getElem?_getD, List.getElem?_eq_getElem ha]] at h8
    simp only [Bool.not_eq_true', Bool.or_eq_false_iff, decide_eq_false_iff_not] at h8
    omega
/-- a manifest's bytes are read as it stood -/
theorem rman_ok (m : MMan) (hm : mayM m = true) : rmanP (bodyM m) = m ∧ readE (bodyM m) = 0 := by
  have hf := fileOk_of m hm
  have hl : (bodyM m).length + 13 ≤ 2048 := by
    unfold mayM at hm
    rw [Bool.and_eq_true, decide_eq_true_eq] at hm
    exact hm.2
  have hfl : m.files.length ≤ 2048 := by
    have h5 := (flat_ge m.files).1
    have h6 : (bodyM m).length = (vput m.ver.toNat).length + (vput m.next.toNat).length + (vput m.files.length).length + (m.files.flatMap bodyF).length := by simp [bodyM]; omega
    omega
  have hv := u64_lt m.ver
  have hn := u32_lt m.next
  have e : bodyM m = vput m.ver.toNat ++ (vput m.next.toNat ++ (vput m.files.length ++ (m.files.flatMap bodyF ++ []))) := by simp [bodyM]
  have h1 : rm1 (bodyM m) = (m.ver.toNat, vput m.next.toNat ++ (vput m.files.length ++ (m.files.flatMap bodyF ++ [])), 0) := by
    unfold rm1
    rw [e]
    exact numS_put _ _ _ (by omega) (by omega)
  have h2 : rm2 (bodyM m) = (m.next.toNat, vput m.files.length ++ (m.files.flatMap bodyF ++ []), 0) := by
    unfold rm2
    rw [h1]
    exact numS_put _ _ _ (by omega) (by omega)
  have h3 : rm3 (bodyM m) = (m.files.length, m.files.flatMap bodyF ++ [], 0) := by
    unfold rm3
    rw [h2]
    exact numS_put _ _ _ (by omega) hfl
  have h4 : rm4 (bodyM m) = (m.files, [], 0) := by
    unfold rm4
    rw [h3]
    have := rfilesP_ok m.files [] [] hf
    simpa using this
  refine ⟨?_, ?_⟩
  · unfold rmanP
    rw [h1, h2, h4]
    simp only
    have e1 : UInt64.ofNat m.ver.toNat = m.ver := UInt64.ofNat_toNat
    have e2 : UInt32.ofNat m.next.toNat = m.next := UInt32.ofNat_toNat
    rw [e1, e2]
  · unfold readE
    rw [h4]
    rfl
/-- a slot's bytes, and with one spoilt -/
theorem slot_get (m : MMan) (hm : mayM m = true) (rest : List UInt8) : getOk (frameOf 77 (bodyM m) ++ rest) = true ∧ getM (frameOf 77 (bodyM m) ++ rest) = m := by
  have hl : (bodyM m).length + 13 ≤ 2048 := by
    unfold mayM at hm
    rw [Bool.and_eq_true, decide_eq_true_eq] at hm
    exact hm.2
  have h1 := sE_frame 77 (bodyM m) rest (by omega)
  have h2 := sK_frame 77 (bodyM m) rest (by omega)
  have h3 := sL_frame 77 (bodyM m) rest (by omega)
  obtain ⟨h4, h5⟩ := rman_ok m hm
  have hok : getOk (frameOf 77 (bodyM m) ++ rest) = true := by
    unfold getOk
    rw [h1, h2, h3, h4, h5, hm]
    rfl
  refine ⟨hok, ?_⟩
  unfold getM
  rw [hok, if_pos rfl, h3, h4]
theorem slot_spoilt (m : MMan) (hm : mayM m = true) (p : Nat) (c : UInt8) (h : getOk ((slotM m).set p ((slotM m).getD p 0 ^^^ c)) = true) : getM ((slotM m).set p ((slotM m).getD p 0 ^^^ c)) = m := by
  have hl : (bodyM m).length + 13 ≤ 2048 := by
    unfold mayM at hm
    rw [Bool.and_eq_true, decide_eq_true_eq] at hm
    exact hm.2
  unfold slotM at h ⊢
  by_cases hc : c = 0
  · subst hc
    have e : ∀ (l : List UInt8), l.set p (l.getD p 0 ^^^ 0) = l := by
      intro l
      rcases Nat.lt_or_ge p l.length with hp | hp
      · rw [show l.getD p 0 ^^^ 0 = l[p] from by simp [List.getD_eq_getElem?_getD, List.getElem?_eq_getElem hp]]
        exact List.set_getElem_self hp
      · exact List.set_eq_of_length_le hp
    rw [e]
    exact (slot_get m hm _).2
  · by_cases hp : p < (bodyM m).length + 13
    · exfalso
      have h1 := sE_turned 77 (bodyM m) (List.replicate (2048 - ((bodyM m).length + 13)) 0) p c (by omega) hp hc
      have e : (frameOf 77 (bodyM m) ++ List.replicate (2048 - ((bodyM m).length + 13)) 0).set p ((frameOf 77 (bodyM m) ++ List.replicate (2048 - ((bodyM m).length + 13)) 0).getD p 0 ^^^ c) = (frameOf 77 (bodyM m)).set p ((frameOf 77 (bodyM m)).getD p 0 ^^^ c) ++ List.replicate (2048 - ((bodyM m).length + 13)) 0 := by
        rw [List.set_append, if_pos (by rw [frameOf_length]; exact hp), getD_left _ _ _ (by rw [frameOf_length]; exact hp)]
      rw [e] at h
      unfold getOk at h
      rw [h1] at h
      simp at h
    · have hfl : (frameOf 77 (bodyM m)).length ≤ p := by rw [frameOf_length]; omega
      rw [List.set_append, if_neg (by omega)]
      exact (slot_get m hm _).2
end Go.Proofs.Ytpoicbhbkabllaa

namespace Go.Proofs.Ytpoicbhbkabllaa
set_option linter.unusedSimpArgs false
set_option linter.unusedVariables false
open Go.RowKit

theorem chg_setRow (w : World) (g : Nat) (cs : Array Value) : Chg (fun k => k = g) w (w.setRow g cs) := Chg.ofGrown (gsetRow' w g cs) fun k e => (Option.some.inj e).symm
theorem wpList_store_boxW {ops : Array Oper} {rest : List Oper} {o : Oper} {a : Act} {w : World} {Q : Exit → Act → World → Prop} (hgd : o.guard = none) (T T' : TypeId) (x y : Operand) (ho : o.op = .store T x y)
    (g : Nat) (cs ds : List Value) (hx : a.eval x = .pointer (some ⟨g, 0, none⟩)) (hy : a.eval y = .agg ds.toArray) (hs : BoxAt T' w g cs) (hl : ds.length = cs.length) (h1 : ∀ u ∈ ds, u.oneCell' = true)
    (hi : (Try.prog.info? T).map (·.size) = some ds.length)
    (h : ∀ w', BoxAt T' w' g ds → Chg (fun k => k = g) w w' → w'.heap.size = w.heap.size → wpList Try.prog ops Q rest (a.put o.dst undef) w') : wpList Try.prog ops Q (o :: rest) a w :=
  wpList_store_box hgd T T' x y ho g cs ds hx hy hs hl h1 hi fun hb => h (w.setRow g ds.toArray) hb (chg_setRow w g ds.toArray) (by simp)
theorem wpList_store_newW {ops : Array Oper} {rest : List Oper} {o : Oper} {a : Act} {w : World} {Q : Exit → Act → World → Prop} (hgd : o.guard = none) (T : TypeId) (x y : Operand) (ho : o.op = .store T x y)
    (cs ds : List Value) (hx : a.eval x = .pointer (some ⟨w.heap.size, 0, none⟩)) (hy : a.eval y = .agg ds.toArray) (hi : (Try.prog.info? T).map (·.size) = some ds.length) (hl : cs.length = ds.length) (h1 : ∀ u ∈ ds, u.oneCell' = true)
    (h : ∀ w', BoxAt T w' w.heap.size ds → Below w.heap.size w w' → w'.heap.size = w.heap.size + 1 → wpList Try.prog ops Q rest (a.put o.dst undef) w') : wpList Try.prog ops Q (o :: rest) a (w.alloc (.cells cs.toArray T)) :=
  wpList_store_new hgd T x y ho cs ds hx hy hi hl h1 (h _ (BoxAt.new_ _ _ _) (balloc _ _) (by simp))
end Go.Proofs.Ytpoicbhbkabllaa

namespace Go.Proofs.Ytpoicbhbkabllaa
set_option linter.unusedSimpArgs false
set_option linter.unusedVariables false
open Go.RowKit

theorem MFile.ext' {a b : MFile} (h1 : a.name = b.name) (h2 : a.id = b.id) (h3 : a.size = b.size) (h4 : a.blocks = b.blocks) : a = b := by
  cases a; cases b; simp_all
theorem MMan.ext' {a b : MMan} (h1 : a.ver = b.ver) (h2 : a.next = b.next) (h3 : a.files = b.files) : a = b := by
  cases a; cases b; simp_all
theorem u64_beq (a b : UInt64) : (((a.toNat : Nat) : Int) == ((b.toNat : Nat) : Int)) = decide (a = b) := by
  by_cases h : a = b
  · subst h; simp
  · have : a.toNat ≠ b.toNat := fun e => h (UInt64.toNat_inj.1 e)
    rw [decide_eq_false h]
    exact beq_eq_false_iff_ne.2 (by omega)
theorem u32_beq (a b : UInt32) : (((a.toNat : Nat) : Int) == ((b.toNat : Nat) : Int)) = decide (a = b) := by
  by_cases h : a = b
  · subst h; simp
  · have : a.toNat ≠ b.toNat := fun e => h (UInt32.toNat_inj.1 e)
    rw [decide_eq_false h]
    exact beq_eq_false_iff_ne.2 (by omega)
set_option maxRecDepth 100000 in
set_option maxHeartbeats 6400000 in
theorem msame_any (w : World) (va vb : Value) (a b : MMan) (ha : MAt w w.heap.size va a) (hb : MAt w w.heap.size vb b) (r : Bool) (hr : r = true ↔ a = b) :
    Calls Try.prog 34 #[va, vb] w fun e w' => e = .returned (.bool r) ∧ Below w.heap.size w w' := by
  have hrf : a ≠ b → r = false := fun hne => by
    cases hh : r with
    | false => rfl
    | true => exact absurd (hr.1 hh) hne
  have Hrf := Lib.hid hrf
  have Hrt := Lib.hid hr.2
  clear hrf hr
  obtain ⟨vf, rfl, hf⟩ := ha
  obtain ⟨vg, rfl, hg⟩ := hb
  obtain ⟨A, c, rfl, hc1, hc2⟩ := hf.form
  obtain ⟨A', c', rfl, hd1, hd2⟩ := hg.form
  unfold maxLen at hc2 hd2
  obtain ⟨w0, hw0⟩ : ∃ w0, w0 = w.alloc (.cells (encM a (.slice A a.files.length c)).toArray 56) := ⟨_, rfl⟩
  have hb0 : Below w.heap.size w w0 := by rw [hw0]; exact balloc w _
  have hx0 : BoxAt 56 w0 w.heap.size (encM a (.slice A a.files.length c)) := by rw [hw0]; exact BoxAt.new_ _ _ _
  have hz0 : w0.heap.size = w.heap.size + 1 := by rw [hw0]; simp
  obtain ⟨w1, hw1⟩ : ∃ w1, w1 = w0.alloc (.cells (encM b (.slice A' b.files.length c')).toArray 56) := ⟨_, rfl⟩
  have hb1 : Below w0.heap.size w0 w1 := by rw [hw1]; exact balloc _ _
  have hx1 : BoxAt 56 w1 w0.heap.size (encM b (.slice A' b.files.length c')) := by rw [hw1]; exact BoxAt.new_ _ _ _
  have hz1 : w1.heap.size = w.heap.size + 1 + 1 := by rw [hw1]; simp [hz0]
  rw [hz0] at hx1
  have hbb := bstep hb0 hb1
  have Xa := Lib.hid (hx0.blwM hb1)
  have Xb := Lib.hid hx1
  have Hf := Lib.hid (hf.below hbb)
  have Hg := Lib.hid (hg.below hbb)
  have Hb := Lib.hid hbb
  have a0 := (hx0.blwM hb1).cell 0 _ rfl
  have a1 := (hx0.blwM hb1).cell 1 _ rfl
  have a2 := (hx0.blwM hb1).cell 2 _ rfl
  have b0 := hx1.cell 0 _ rfl
  have b1 := hx1.cell 1 _ rfl
  have b2 := hx1.cell 2 _ rfl
  have Hw0 := Lib.hid hw0
  have Hw1 := Lib.hid hw1
  have e64 := u64_beq a.ver b.ver
  have e32 := u32_beq a.next b.next
  clear hw0 hw1 hx0 hx1 hb0 hb1 hbb hf hg
  go_enter Try.func34, Try.ntmps34
  go_upto_region 1 with (fail)
  rw [← Hw0.out, ← Hw1.out]
  try simp only [hz0]
  by_cases h1 : a.ver = b.ver
  · have h1d : decide (a.ver = b.ver) = true := decide_eq_true h1
    rw [h1d] at e64
    have e64' : (((a.ver.toNat : Nat) : Int) != ((b.ver.toNat : Nat) : Int)) = false := by simp [bne, e64]
    have H1 := Lib.hid h1
    clear h1 h1d
    by_cases h2 : a.next = b.next
    · have h2d : decide (a.next = b.next) = true := decide_eq_true h2
      rw [h2d] at e32
      have e32' : (((a.next.toNat : Nat) : Int) != ((b.next.toNat : Nat) : Int)) = false := by simp [bne, e32]
      have H2 := Lib.hid h2
      clear h2 h2d
      by_cases h3 : a.files.length = b.files.length
      · have H3 := Lib.hid h3
        have h3d : (((a.files.length : Nat) : Int) == ((b.files.length : Nat) : Int)) = true := by simp [h3]
        have h3d' : (((a.files.length : Nat) : Int) != ((b.files.length : Nat) : Int)) = false := by simp [bne, h3d]
        clear h3
        go_wp2_with fail
        go_loopw [33] (fun iv wr => ∃ k : Nat, k ≤ a.files.length ∧ iv = .int .i64 k ∧ (∀ j, (hj : j < k) → (hj1 : j < a.files.length) → (hj2 : j < b.files.length) → a.files[j] = b.files[j]) ∧ Below w1.heap.size w1 wr) (fun i _ => a.files.length - (intOf i).toNat)
        case atStart => exact ⟨0, by omega, rfl, fun j hj => by omega, Below.refl _ _⟩
        case round =>
          obtain ⟨k, hk, rfl, hall, hbr⟩ := hrel
          have Hall := Lib.hid hall
          have Hbr := Lib.hid hbr
          have a2r := (Xa.out.blwM hbr).cell 2 _ rfl
          have b2r := (Xb.out.blwM hbr).cell 2 _ rfl
          have hsr := hbr.size
          have Xar := Lib.hid (Xa.out.blwM hbr)
          have Xbr := Lib.hid (Xb.out.blwM hbr)
          clear hall hbr a0 a1 a2 b0 b1 b2
          by_cases hlt : k < a.files.length
          · have hlt2 : k < b.files.length := by have := H3.out; omega
            obtain ⟨_, ad, xb, rfl, hab, hbI, hfo, hcl⟩ := (Hf.out.below (Hbr.out.mono (by omega))).cells k hlt
            obtain ⟨_, bd, yb, rfl, hab2, hbI2, hfo2, hcl2⟩ := (Hg.out.below (Hbr.out.mono (by omega))).cells k hlt2
            obtain ⟨Ax, cx, rfl, hx1, hx2⟩ := hbI.form
            obtain ⟨Ay, cy, rfl, hy1, hy2⟩ := hbI2.form
            have hstep : a.files[k] = b.files[k] → ∀ j, (hj : j < k + 1) → (hj1 : j < a.files.length) → (hj2 : j < b.files.length) → a.files[j] = b.files[j] := fun he j hj hj1 hj2 => by
              rcases Nat.lt_or_ge j k with h | h
              · exact Hall.out j h hj1 hj2
              · obtain rfl : j = k := by omega
                exact he
            have hno : a.files[k] ≠ b.files[k] → a ≠ b := fun hne e => hne (by subst e; rfl)
            have Hstep := Lib.hid hstep
            have Hno := Lib.hid hno
            have Hcl := Lib.hid hcl
            have Hcl2 := Lib.hid hcl2
            have HbI := Lib.hid hbI
            have HbI2 := Lib.hid hbI2
            clear hstep hno hcl hcl2 hbI hbI2
            unfold maxLen at hx2 hy2
            generalize a.files[k] = f at *
            generalize b.files[k] = g at *
            go_upto_region 8 with (first
              | (refine wpList_load_agg rfl 62 (.tmp 39) rfl (ad.add (k * 4)) rfl (encF f (.slice Ax f.blocks.length cx)) Hcl.out Try.underlying62 rfl info_file4 ?_)
              | (refine wpList_alloc_z rfl 62 rfl info_file zeroFc zeroF_cells ?_)
              | (refine wpList_store_newW rfl 62 (.tmp 6) (.tmp 40) rfl zeroFc (encF f (.slice Ax f.blocks.length cx)) rfl rfl info_file4 rfl (encF_one _ _ rfl) ?_
                 intro w5 hbx5 hb5 hz5
                 have b2r5 := (Xbr.out.blwM hb5).cell 2 _ rfl
                 have Hcl5 : Hid (∀ (j : Nat) (u : Value), (encF g (.slice Ay g.blocks.length cy))[j]? = some u → w5.cell? ((bd.add (k * 4)).add j) = some u) := Lib.hid fun j u hu => (hb5.cell (by rw [add_block, add_block]; omega)).trans (Hcl2.out j u hu)
                 have Hb5 := Lib.hid hb5
                 have Hz5 := Lib.hid hz5
                 have Hbx5 := Lib.hid hbx5
                 clear hb5 hz5 hbx5)
              | (refine wpList_load_agg rfl 62 (.tmp 44) rfl (bd.add (k * 4)) rfl (encF g (.slice Ay g.blocks.length cy)) Hcl5.out Try.underlying62 rfl info_file4 ?_)
              | (refine wpList_store_newW rfl 62 (.tmp 7) (.tmp 45) rfl zeroFc (encF g (.slice Ay g.blocks.length cy)) rfl rfl info_file4 rfl (encF_one _ _ rfl) ?_
                 intro w6 hbx6 hb6 hz6))
            try simp only [Act.put, List.setIfInBounds_toArray, List.set_cons_zero, List.set_cons_succ]
            have fbx := Hbx5.out.blwM hb6
            have f0 := fbx.cell 0 _ rfl
            have f1 := fbx.cell 1 _ rfl
            have f2 := fbx.cell 2 _ rfl
            have f3 := fbx.cell 3 _ rfl
            have g0 := hbx6.cell 0 _ rfl
            have g1 := hbx6.cell 1 _ rfl
            have g2 := hbx6.cell 2 _ rfl
            have g3 := hbx6.cell 3 _ rfl
            have Hb6 := Lib.hid ((Hbr.out.trans (Hb5.out.mono hsr)).trans (hb6.mono (by have := Hz5.out; omega)))
            have Hend := Lib.hid (Hb.out.trans (Hb6.out.mono (by omega)))
            have Hb16 := Lib.hid (show Below w1.heap.size w1 w6 from Hb6.out)
            have HbI6 := Lib.hid (HbI.out.below ((Hb5.out.mono (by omega)).trans (hb6.mono (by have := Hz5.out; omega))))
            have HbI26 := Lib.hid (HbI2.out.below ((Hb5.out.mono (by omega)).trans (hb6.mono (by have := Hz5.out; omega))))
            have Fbx := Lib.hid fbx
            have Gbx := Lib.hid hbx6
            clear hb6 hz6 hbx6 fbx Hb5 Hbx5 Hcl5 b2r5 a2r b2r
            have hsq : ((bst f.name).toList == (bst g.name).toList) = decide (f.name = g.name) := by rw [bst_toList, bst_toList]; by_cases h : f.name = g.name <;> simp [h]
            have e32f := u32_beq f.id g.id
            by_cases q1 : f.name = g.name
            · rw [decide_eq_true q1] at hsq
              have hsq' : ((bst f.name).toList != (bst g.name).toList) = false := by simp [bne, hsq]
              by_cases q2 : f.id = g.id
              · rw [decide_eq_true q2] at e32f
                have e32f' : (((f.id.toNat : Nat) : Int) != ((g.id.toNat : Nat) : Int)) = false := by simp [bne, e32f]
                by_cases q3 : f.size = g.size
                · have e3 : (f.size == g.size) = true := by simp [q3]
                  have e3' : (f.size != g.size) = false := by simp [q3]
                  by_cases q4 : f.blocks.length = g.blocks.length
                  · have e4 : (((f.blocks.length : Nat) : Int) == ((g.blocks.length : Nat) : Int)) = true := by simp [q4]
                    have e4' : (((f.blocks.length : Nat) : Int) != ((g.blocks.length : Nat) : Int)) = false := by simp [q4]
                    have Q1 := Lib.hid q1
                    have Q2 := Lib.hid q2
                    have Q3 := Lib.hid q3
                    have Q4 := Lib.hid q4
                    clear q1 q2 q3 q4
                    go_wp2_with fail
                    go_loopw [77] (fun iv X => ∃ q : Nat, q ≤ f.blocks.length ∧ iv = .int .i64 q ∧ (∀ j, (hj : j < q) → (hj1 : j < f.blocks.length) → (hj2 : j < g.blocks.length) → f.blocks[j] = g.blocks[j]) ∧ Below w6.heap.size w6 X) (fun i _ => f.blocks.length - (intOf i).toNat)
                    case atStart => exact ⟨0, by omega, rfl, fun j hj => by omega, Below.refl _ _⟩
                    case round =>
                      obtain ⟨q, hq, rfl, hallq, hbx⟩ := hrel
                      have Hallq := Lib.hid hallq
                      have Hbx := Lib.hid hbx
                      have f3x := (Fbx.out.blwM hbx).cell 3 _ rfl
                      have g3x := (Gbx.out.blwM hbx).cell 3 _ rfl
                      have hsx := hbx.size
                      have hs61 := Hb6.out.size
                      clear hallq hbx f0 f1 f2 f3 g0 g1 g2 g3
                      by_cases hql : q < f.blocks.length
                      · have hql2 : q < g.blocks.length := by have := Q4.out; omega
                        obtain ⟨_, p1, rfl, hp1, hk1, _, _⟩ := (HbI6.out.below (Hbx.out.mono (by omega))).cells q hql
                        obtain ⟨_, p2, rfl, hp2, hk2, _, _⟩ := (HbI26.out.below (Hbx.out.mono (by omega))).cells q hql2
                        have Hst : Hid (f.blocks[q] = g.blocks[q] → ∀ j, (hj : j < q + 1) → (hj1 : j < f.blocks.length) → (hj2 : j < g.blocks.length) → f.blocks[j] = g.blocks[j]) := fun he j hj hj1 hj2 => by
                          rcases Nat.lt_or_ge j q with h | h
                          · exact Hallq.out j h hj1 hj2
                          · obtain rfl : j = q := by omega
                            exact he
                        have Hnq : Hid (f.blocks[q] ≠ g.blocks[q] → f ≠ g) := fun hne e => hne (by subst e; rfl)
                        generalize f.blocks[q] = x at *
                        generalize g.blocks[q] = y at *
                        by_cases he : x = y
                        · have ee : (x == y) = true := by simp [he]
                          have ee' : (x != y) = false := by simp [he]
                          have Hs2 := Lib.hid (Hst.out he)
                          clear he
                          go_wp2_with fail
                          go_quiet (fail)
                          go_wp2_with fail
                          go_roundw
                          case rel => exact ⟨q + 1, by omega, by go_num, Hs2.out, Hbx.out.trans (bdrewN (Below.refl _ _) _)⟩
                          case measure => simp [intOf]; omega
                        · have ee : (x == y) = false := beq_eq_false_iff_ne.2 he
                          have ee' : (x != y) = true := by simp [bne, ee]
                          have Hne := Lib.hid (Hrf.out (Hno.out (Hnq.out he)))
                          clear he
                          go_wp2_with fail
                          go_quiet (fail)
                          go_wp2_with fail
                          go_ret
                          exact ⟨by rw [Hne.out]; rfl, (Hend.out.trans (Hbx.out.mono (by omega))).trans (bdrewN (Below.refl _ _) _)⟩
                      · obtain rfl : q = f.blocks.length := by omega
                        have hfg : f = g := MFile.ext' Q1.out Q2.out Q3.out (List.ext_getElem Q4.out fun j h1 h2 => Hallq.out j h1 h1 h2)
                        have Hnext := Lib.hid (Hstep.out hfg)
                        clear hfg
                        go_wp2_with fail
                        go_roundw
                        case rel => exact ⟨k + 1, by omega, by go_num, Hnext.out, Hb16.out.trans (Hbx.out.mono (by omega))⟩
                        case measure => simp [intOf]; omega
                  · have e4 : (((f.blocks.length : Nat) : Int) == ((g.blocks.length : Nat) : Int)) = false := by simp; omega
                    have e4' : (((f.blocks.length : Nat) : Int) != ((g.blocks.length : Nat) : Int)) = true := by simp; omega
                    have Hne := Lib.hid (Hrf.out (Hno.out (fun e => q4 (by rw [e]))))
                    clear q1 q2 q3 q4
                    go_wp2_with fail
                    go_ret
                    exact ⟨by rw [Hne.out]; rfl, Hend.out⟩
                · have e3 : (f.size == g.size) = false := beq_eq_false_iff_ne.2 q3
                  have e3' : (f.size != g.size) = true := by simp [bne, e3]
                  have Hne := Lib.hid (Hrf.out (Hno.out (fun e => q3 (by rw [e]))))
                  clear q1 q2 q3
                  go_wp2_with fail
                  go_ret
                  exact ⟨by rw [Hne.out]; rfl, Hend.out⟩
              · rw [decide_eq_false q2] at e32f
                have e32f' : (((f.id.toNat : Nat) : Int) != ((g.id.toNat : Nat) : Int)) = true := by simp [bne, e32f]
                have Hne := Lib.hid (Hrf.out (Hno.out (fun e => q2 (by rw [e]))))
                clear q1 q2
                go_wp2_with fail
                go_ret
                exact ⟨by rw [Hne.out]; rfl, Hend.out⟩
            · rw [decide_eq_false q1] at hsq
              have hsq' : ((bst f.name).toList != (bst g.name).toList) = true := by simp [bne, hsq]
              have Hne := Lib.hid (Hrf.out (Hno.out (fun e => q1 (by rw [e]))))
              clear q1
              go_wp2_with fail
              go_ret
              exact ⟨by rw [Hne.out]; rfl, Hend.out⟩
          · obtain rfl : k = a.files.length := by omega
            have heq : a = b := MMan.ext' H1.out H2.out (List.ext_getElem H3.out fun j h1 h2 => Hall.out j h1 h1 h2)
            have Heq := Lib.hid heq
            clear heq
            go_wp2_with fail
            go_ret
            have hrt := Hrt.out Heq.out
            exact ⟨by rw [hrt]; rfl, Hb.out.trans (Hbr.out.mono (by omega))⟩
      · have h3d : (((a.files.length : Nat) : Int) == ((b.files.length : Nat) : Int)) = false := by simp; omega
        have h3d' : (((a.files.length : Nat) : Int) != ((b.files.length : Nat) : Int)) = true := by simp [bne, h3d]
        have hne : a ≠ b := fun e => h3 (by rw [e])
        have Hne := Lib.hid (Hrf.out hne)
        clear h3 hne
        go_wp2_with fail
        go_ret
        exact ⟨by rw [Hne.out]; rfl, Hb.out⟩
    · have h2d : decide (a.next = b.next) = false := decide_eq_false h2
      rw [h2d] at e32
      have e32' : (((a.next.toNat : Nat) : Int) != ((b.next.toNat : Nat) : Int)) = true := by simp [bne, e32]
      have hne : a ≠ b := fun e => h2 (by rw [e])
      have Hne := Lib.hid (Hrf.out hne)
      clear h2 hne h2d
      go_wp2_with fail
      go_ret
      exact ⟨by rw [Hne.out]; rfl, Hb.out⟩
  · have h1d : decide (a.ver = b.ver) = false := decide_eq_false h1
    rw [h1d] at e64
    have e64' : (((a.ver.toNat : Nat) : Int) != ((b.ver.toNat : Nat) : Int)) = true := by simp [bne, e64]
    have hne : a ≠ b := fun e => h1 (by rw [e])
    have Hne := Lib.hid (Hrf.out hne)
    clear h1 hne h1d
    go_wp2_with fail
    go_ret
    exact ⟨by rw [Hne.out]; rfl, Hb.out⟩
end Go.Proofs.Ytpoicbhbkabllaa

namespace Go.Proofs.Ytpoicbhbkabllaa
set_option linter.unusedSimpArgs false
set_option linter.unusedVariables false
open Go.RowKit

/-- a slot's bytes so far -/
def slotK (d : DState) (n k : Nat) : List UInt8 := (List.range k).flatMap fun i => readL d ((n * 16 + i : Nat) : Int)
def slotL (d : DState) (n : Nat) : List UInt8 := slotK d n 16
theorem slotK_succ (d : DState) (n k : Nat) : slotK d n (k + 1) = slotK d n k ++ readL d ((n * 16 + k : Nat) : Int) := by
  unfold slotK
  rw [List.range_succ, List.flatMap_append]
  simp
theorem readL_le (d : DState) (i : Int) : (readL d i).length ≤ 128 := by
  unfold readL
  split
  · simp
  · exact Nat.le_of_eq (readB d i.toNat).2
theorem slotK_len (d : DState) (n k : Nat) : (slotK d n k).length ≤ k * 128 := by
  induction k with
  | zero => simp [slotK]
  | succ k ih =>
    rw [slotK_succ, List.length_append]
    have := readL_le d ((n * 16 + k : Nat) : Int)
    omega
set_option maxRecDepth 100000 in
set_option maxHeartbeats 1600000 in
theorem mslot_off (w : World) (B : Nat) (X : Nat → Prop) (g : Nat) (d : DState) (h : DK B X w g d) (hw : d.wt.length ≤ 1000000) (n : Nat) (hn : n < 2) (ho : d.off = true) :
    Calls Try.prog 65 #[.pointer (some ⟨g, 0, none⟩), .int .i64 n] w fun e w' => e = .returned (.tuple #[.slice none 0 0, .int .i64 6]) ∧ DK B X w' g d ∧ Below w.heap.size w w' := by
  have hm : ∀ i : Int, mayE d i = 6 := fun i => by unfold mayE; rw [if_pos ho]
  have hr := dread_dk (i := (n : Int) * 16) h hw
  rw [hm] at hr
  have Hr := Lib.hid hr
  clear hr h hm
  go_enter Try.func65, Try.ntmps65
  go_wp2_with fail
  refine wp_loop_rounds 1 ?_
  rw [rounds_succ]
  go_wp2_with fail
  refine Hr.out.mono ?_
  rintro _ w1 ⟨v1, rfl, hf1, hd1, hb1⟩
  have Hd := Lib.hid hd1
  have Hb := Lib.hid hb1
  clear hf1 hd1 hb1
  go_wp2_with fail
  go_ret2
  exact ⟨rfl, Hd.out, Hb.out⟩
set_option maxRecDepth 100000 in
set_option maxHeartbeats 1600000 in
theorem mslot_on (w : World) (B : Nat) (X : Nat → Prop) (g : Nat) (d : DState) (h : DK B X w g d) (hw : d.wt.length ≤ 1000000) (n : Nat) (hn : n < 2) (ho : d.off = false) (hc : 32 ≤ d.bl.length) :
    Calls Try.prog 65 #[.pointer (some ⟨g, 0, none⟩), .int .i64 n] w fun e w' => ∃ v, e = .returned (.tuple #[v, .int .i64 0]) ∧ Ow w' w.heap.size v (slotL d n) ∧ DK B X w' g d ∧ Below w.heap.size w w' := by
  have hB := h.lt
  have hm : ∀ k : Nat, k < 16 → mayE d ((n * 16 + k : Nat) : Int) = 0 := fun k hk => by
    unfold mayE
    rw [ho, if_neg (by simp), if_pos (by omega)]
  have Hm := Lib.hid hm
  have hx : DK B (fun k => X k ∨ w.heap.size ≤ k) w g d := h.apart fun k hk => hk
  have Hx := Lib.hid hx
  have Hback : Hid (∀ W, DK B (fun k => X k ∨ w.heap.size ≤ k) W g d → DK B X W g d) := fun W hW => hW.apart fun k hk => .inl (.inl hk)
  have Hw := Lib.hid hw
  clear h hm hx hw
  go_enter Try.func65, Try.ntmps65
  go_wp2_with fail
  go_loopw [6, 10] (fun ov iv wr => ∃ k : Nat, k ≤ 16 ∧ iv = .int .i64 k ∧ Ow wr w.heap.size ov (slotK d n k) ∧ DK B (fun k => X k ∨ w.heap.size ≤ k) wr g d ∧ Below w.heap.size w wr) (fun _ i _ => 16 - (intOf i).toNat)
  case atStart => exact ⟨0, by omega, rfl, Ow.nil_ _ _, Hx.out, Below.refl _ _⟩
  case round =>
    obtain ⟨k, hk, rfl, how, hdk, hbr⟩ := hrel
    obtain ⟨A1, c1, hv1, _, _, _⟩ := how.form_
    subst hv1
    have hsr := hbr.size
    have hln := slotK_len d n k
    have hsu := slotK_succ d n k
    have Hsu := Lib.hid hsu
    by_cases hlt : k < 16
    · have hr := dread_dk (i := ((n * 16 + k : Nat) : Int)) hdk Hw.out
      rw [Hm.out k hlt] at hr
      have hle := readL_le d ((n * 16 + k : Nat) : Int)
      have hcast : ((n * 16 + k : Nat) : Int) = (n : Int) * 16 + (k : Int) := by omega
      rw [hcast] at hr
      have Hr := Lib.hid hr
      have How := Lib.hid how
      have Hbr := Lib.hid hbr
      rw [hcast] at Hsu hle
      generalize readL d ((n : Int) * 16 + (k : Int)) = rl at *
      clear hr how hdk hbr hsu hcast
      go_wp2_with fail
      refine Hr.out.mono ?_
      rintro _ w1 ⟨v1, rfl, hf1, hd1, hb1⟩
      obtain ⟨Af1, cf1, hvf1, _, _⟩ := hf1.form
      subst hvf1
      have how1 := How.out.below_ hb1
      have How1 := Lib.hid how1
      have Hf1 := Lib.hid hf1
      have Hd1 := Lib.hid hd1
      have hs1 := hb1.size
      have Hb1 := Lib.hid (Hbr.out.trans (hb1.mono hsr))
      clear how1 hf1 hd1 hb1 How Hbr
      go_wp2_with (first
        | (at_builtin
           refine wpList_app8 rfl (.tmp 25) (.tmp 26) rfl How1.out Hf1.out.by_ rfl rfl (by omega) (by omega) ?_
           intro v2 w2 ho2 hx2
           have Ho2 := Lib.hid ho2
           have Hx2 := Lib.hid hx2
           clear ho2 hx2))
      go_roundw
      case rel =>
        refine ⟨k + 1, by omega, by go_num, by rw [Hsu.out]; exact Ho2.out, Hd1.out.grown Hx2.out.gr (fun q hq => .inr (.inr (How1.out.blk q hq).1)), Hb1.out.trans (Hx2.out.below (by omega) (fun q hq => (How1.out.blk q hq).1))⟩
      case measure => simp [intOf]; omega
    · obtain rfl : k = 16 := by omega
      have How := Lib.hid how
      have Hd := Lib.hid hdk
      have Hbr := Lib.hid hbr
      clear how hdk hbr
      go_wp2_with fail
      go_ret2
      exact ⟨_, rfl, How.out, Hback.out _ Hd.out, Hbr.out⟩
theorem By.at_ {w : World} {B n c : Nat} {A : Option Addr} {l : List UInt8} (h : By w B (.slice A n c) l) (k : Nat) (hk : k < l.length) : ∃ ad, A = some ad ∧ ad.block < B ∧ w.cell? (ad.add k) = some (.int .u8 (l[k].toNat : Int)) := by
  obtain ⟨A', c', e, _, _, hrd⟩ := h
  injection e with e1 e2 e3
  subst e1
  obtain ⟨ad, hA, hb, hc⟩ := hrd.ad (by omega)
  exact ⟨ad, hA, hb, hc k _ (by simp [b8s, b8, List.getElem?_eq_getElem hk])⟩
/-- the byte that is not 0 -/
theorem nz_any (w : World) (x : UInt8) : Calls Try.prog 67 #[.int .u8 (x.toNat : Int)] w fun e w' => e = .returned (.bool (decide (x ≠ 0))) ∧ w = w' := by
  have hx : ((x.toNat : Int) == 0) = decide (x = 0) := by
    by_cases h : x = 0
    · subst h; rfl
    · have : x.toNat ≠ 0 := fun e => h (UInt8.toNat_inj.1 e)
      rw [decide_eq_false h]
      exact beq_eq_false_iff_ne.2 (by omega)
  have hx2 : ((x.toNat : Int) != 0) = decide (x ≠ 0) := by rw [bne, hx]; by_cases h : x = 0 <;> simp [h]
  obtain ⟨r, hr⟩ : ∃ r, r = decide (x ≠ 0) := ⟨_, rfl⟩
  rw [← hr] at hx2 ⊢
  clear hr hx
  go_enter Try.func67, Try.ntmps67
  go_wp2_with fail
  go_ret
  exact ⟨rfl, rfl⟩
def HasNZ (l : List UInt8) : Prop := ¬ ∀ x ∈ l, x = 0
set_option maxRecDepth 100000 in
theorem index_any (w : World) (B : Nat) (v : Value) (l : List UInt8) (h : By w B v l) (hl : l.length ≤ 1000000) :
    Calls Try.prog 89 #[v, .func (.func 67) #[] #[]] w fun e w' => ∃ i : Int, e = .returned (.int .i64 i) ∧ (0 ≤ i ↔ HasNZ l) ∧ w = w' := by
  obtain ⟨A, c, rfl, hc1, hc2, hrd⟩ := id h
  have Hn := Lib.hid (fun W x => nz_any W x)
  have Hby := Lib.hid h
  clear h
  unfold maxLen at hc2
  go_enter Try.func89, Try.ntmps89
  go_wp2_with fail
  go_loop [8] (fun iv => ∃ k : Nat, k ≤ l.length ∧ iv = .int .i64 k ∧ ∀ (j : Nat) (hj : j < l.length), j < k → l[j] = 0) (fun i => l.length - (intOf i).toNat)
  case atStart => exact ⟨0, by omega, rfl, fun j hj h => by omega⟩
  case round =>
    obtain ⟨k, hk, rfl, hall⟩ := hrel
    have Hall := Lib.hid hall
    clear hall
    by_cases hlt : k < l.length
    · obtain ⟨ad, rfl, hab, hcell⟩ := Hby.out.at_ k hlt
      have hmem : l[k] ∈ l := List.getElem_mem hlt
      have hst : l[k] = 0 → ∀ (j : Nat) (hj : j < l.length), j < k + 1 → l[j] = 0 := fun he j hj hjk => by
        rcases Nat.lt_or_ge j k with h | h
        · exact Hall.out j hj h
        · obtain rfl : j = k := by omega
          exact he
      have Hst := Lib.hid hst
      have Hmem := Lib.hid hmem
      clear hst hmem
      generalize l[k] = x at *
      by_cases hx : x = 0
      · have hd : decide (x ≠ 0) = false := by simp [hx]
        have Hs := Lib.hid (Hst.out hx)
        clear hx
        go_wp2_with fail
        refine (Hn.out w x).mono ?_
        rintro _ _ ⟨rfl, rfl⟩
        rw [hd]
        go_wp2_with fail
        go_round
        case rel => exact ⟨k + 1, by omega, by go_num, Hs.out⟩
        case measure => simp [intOf]; omega
      · have hd : decide (x ≠ 0) = true := by simp [hx]
        have hno : HasNZ l := fun h => hx (h x Hmem.out)
        have Hno := Lib.hid hno
        clear hx hno
        go_wp2_with fail
        refine (Hn.out w x).mono ?_
        rintro _ _ ⟨rfl, rfl⟩
        rw [hd]
        go_wp2_with fail
        go_ret
        exact ⟨k, rfl, ⟨fun _ => Hno.out, fun _ => (by omega)⟩, rfl⟩
    · obtain rfl : k = l.length := by omega
      have hz : ∀ x ∈ l, x = 0 := fun x hx => by
        obtain ⟨j, hj, rfl⟩ := List.mem_iff_getElem.1 hx
        exact Hall.out j hj hj
      have Hz := Lib.hid hz
      clear hz
      go_wp2_with fail
      go_ret
      exact ⟨-1, rfl, ⟨fun h => (by omega), fun h => absurd Hz.out h⟩, rfl⟩
theorem contains_any (w : World) (B : Nat) (v : Value) (l : List UInt8) (h : By w B v l) (hl : l.length ≤ 1000000) :
    Calls Try.prog 66 #[v, .func (.func 67) #[] #[]] w fun e w' => e = .returned (.bool (!(l.all fun x => decide (x = 0)))) ∧ w = w' := by
  obtain ⟨A, c, rfl, hc1, hc2, hrd⟩ := id h
  have Hi := Lib.hid (index_any w B _ l h hl)
  obtain ⟨r, hr⟩ : ∃ r, r = !(l.all fun x => decide (x = 0)) := ⟨_, rfl⟩
  have hr2 : r = true ↔ HasNZ l := by unfold HasNZ; rw [hr]; simp
  rw [← hr]
  have Hr := Lib.hid hr2
  clear hr hr2 h hrd
  go_enter Try.func66, Try.ntmps66
  go_wp2_with fail
  refine Hi.out.mono ?_
  rintro _ _ ⟨i, rfl, hi, rfl⟩
  have hri : decide (0 ≤ i) = r := by
    cases hq : r with
    | true => exact decide_eq_true (hi.2 (Hr.out.1 hq))
    | false => exact decide_eq_false fun h => by rw [Hr.out.2 (hi.1 h)] at hq; cases hq
  have Hri := Lib.hid hri
  clear hri
  go_wp2_with fail
  go_ret
  exact ⟨by rw [← Hri.out]; rfl, rfl⟩
end Go.Proofs.Ytpoicbhbkabllaa
