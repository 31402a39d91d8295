/- pick.Interval -/
import Derived.Test.YteakeefocnjlhaaIter
import Derived.Test.YteakeefocnjlhaaTyped
import Derived.Deep.RegionLaw
import Derived.BigQuiet
namespace Go.Proofs.Yteakeefocnjlhaa
set_option linter.unusedSimpArgs false
set_option linter.unusedVariables false
open Go.RowKit Go.Shelf
attribute [local go_sem] Oper.semAt_some

/-- the neighbour whose interval holds a number -/
def ivalN (l : List GArc) (y : Nat) : Nat := ((List.range l.length).findIdx? (fun i => decide (y < frontAt l (i + 1)))).getD 0
theorem frontAt_mono (l : List GArc) {j k : Nat} (h : j ≤ k) : frontAt l j ≤ frontAt l k := by
  unfold frontAt
  refine Nat.mul_le_mul (Nat.le_refl _) ?_
  have := gsum_take_le (l.take k) j
  rwa [List.take_take, Nat.min_eq_left h] at this
theorem ivalN_at (l : List GArc) (y k : Nat) (hk : k < l.length) (h1 : frontAt l k ≤ y) (h2 : y < frontAt l (k + 1)) : ivalN l y = k := by
  unfold ivalN
  have : (List.range l.length).findIdx? (fun i => decide (y < frontAt l (i + 1))) = some k := by
    rw [List.findIdx?_eq_some_iff_getElem]
    refine ⟨by simpa using hk, by simpa using h2, fun j hj => ?_⟩
    have := frontAt_mono l (show j + 1 ≤ k by omega)
    simp
    omega
  rw [this]
  rfl
theorem frontAt_zero (l : List GArc) : frontAt l 0 = 0 := by simp [frontAt, gsum]
theorem frontAt_all (l : List GArc) : frontAt l l.length = gsum l * l.length := by unfold frontAt; rw [List.take_length, Nat.mul_comm]
def ival (l : List GArc) (y : Nat) : Nat × Bool := if y < ptotal l then (ivalN l y, true) else (0, false)
def lastI (pre : List (Nat × Nat)) : Nat := (pre.getLast?.map (·.1)).getD 0
theorem lastI_snoc (pre : List (Nat × Nat)) (x : Nat × Nat) : lastI (pre ++ [x]) = x.1 := by simp [lastI]

set_option maxRecDepth 100000 in
set_option maxHeartbeats 3200000 in
theorem interval_any (w : World) (B0 : Nat) (v : Value) (l : List GArc) (y : Nat) (hy : y < 18446744073709551616) (hl : l.length ≤ 1048576) (h : ByA w B0 v l) (hB : B0 ≤ w.heap.size) :
    Calls Try.prog 55 #[v, .int .u64 (y : Int)] w fun e w' => e = .returned (.tuple #[.int .i64 ((ival l y).1 : Nat), .bool (ival l y).2]) ∧ Below w.heap.size w w' := by
  obtain ⟨A, c, rfl, hc1, hc2⟩ := h.form
  unfold maxLen at hc2
  have htot := fun W h hB => ptotal_any W B0 (.slice A l.length c) l (by omega) h hB
  have Htot := Lib.hid htot
  clear htot
  refine (callsIn_wide (n := 4)).1 ?_
  refine callsIn_of_wp_marks Try.func55 rfl trivial ?_ rfl
  simp only [Try.ntmps55, List.size_toArray, List.length_cons, List.length_nil, Nat.reduceAdd, Nat.reduceSub, Array.replicate_succ, Array.replicate_zero, List.push_toArray, List.append_toArray, List.nil_append, List.cons_append]
  gi_wp2
  refine wpIn_wide.2 ?_
  have hbx := BoxAt.new_ 26 w [.int .u64 (y : Int)]
  have hb0 := balloc w (.cells #[.int .u64 (y : Int)] 26)
  have hy0 := hbx.cell 0 _ rfl
  have hzB : (w.alloc (.cells #[.int .u64 (y : Int)] 26)).heap.size = w.heap.size + 1 := by simp
  generalize w.alloc (.cells #[.int .u64 (y : Int)] 26) = wB at *
  have hrB := h.below (hb0.mono hB)
  have HrB := Lib.hid hrB
  have Hb0 := Lib.hid hb0
  have Hbx := Lib.hid hbx
  clear hb0 hrB hbx
  -- REGION
  refine wp_region_typed [some 9, some 10, some 11, some 12] [9, 10, 11, 12]
    [Ph.is (.int .u64 (y : Int)),
      Ph.is (.slice A l.length c),
      Ph.is (.int .u64 (ptotal l : Nat)),
      Ph.is (.bool (decide (ptotal l ≤ y)))] rfl rfl (by kernel_rfl) (by kernel_rfl) ?_ ?_
  · refine ⟨?_, ?_, ?_, ?_, trivial⟩
    · -- 0: slot 9 := Op.load 26 t3
      refine ob_yes fun f w' hb hp => ?_
      simp [PreOf, factOf, valOf, Ph.is, Ph.by_, Ph.any, Region.binds] at hp
      refine ⟨by simp [Gd, valOf, hp], ?_⟩
      refine mild_val (.int .u64 (y : Int)) ?_ rfl
      have hc := (hb.cell (p := ⟨w.heap.size, 0, none⟩) (by show w.heap.size < wB.heap.size; omega)).trans hy0
      simp [execOp, evalF, hp, hc, go_sem]
    · -- 1: slot 10 := Op.move t0
      refine ob_yes fun f w' hb hp => ?_
      simp [PreOf, factOf, valOf, Ph.is, Ph.by_, Ph.any, Region.binds] at hp
      refine ⟨by simp [Gd, valOf, hp], ?_⟩
      refine mild_val (.slice A l.length c) ?_ rfl
      simp [execOp, evalF, hp]
    · -- 2: slot 11 := Op.call   value (Operand.func 68), args := #[t10], argTypes := #[32]  
      refine ob_yes fun f w' hb hp => ?_
      simp [PreOf, factOf, valOf, Ph.is, Ph.by_, Ph.any, Region.binds] at hp
      refine ⟨by simp [Gd, valOf, hp], ?_⟩
      refine mild_call 68 _ _ Try.f68 Try.func68 (by kernel_rfl) (by kernel_rfl) rfl ?_
      simp [evalF, hp, Ph.is, Ph.by_, Ph.any]
      refine (Htot.out w' (HrB.out.below (hb.mono (by omega))) (by have := hb.size; omega)).mono fun e w2 h => ?_
      obtain ⟨rfl, h2⟩ := h
      first | exact ⟨_, rfl, h2, rfl⟩ | simpa using h2
    · -- 3: slot 12 := Op.binOp BinOp.geq 26 t9 t11 26
      refine ob_yes fun f w' hb hp => ?_
      simp [PreOf, factOf, valOf, Ph.is, Ph.by_, Ph.any, Region.binds] at hp
      refine ⟨by simp [Gd, valOf, hp], ?_⟩
      refine mild_val (.bool (decide (ptotal l ≤ y))) ?_ rfl
      simp [execOp, evalF, hp, go_sem]
  · intro f w2 hb2 hp
    simp only [PostOf, Ph.is, Ph.by_, Ph.any] at hp
    obtain ⟨h0, h1, h2, h3, _⟩ := hp
    simp only [fills, List.foldl_cons, List.foldl_nil, Act.put, List.setIfInBounds_toArray, List.set_cons_zero, List.set_cons_succ, h0, h1, h2, h3]
    clear h0 h1 h2 h3
  -- END REGION
    have hb02 : Below w.heap.size w w2 := Hb0.out.trans (hb2.mono (by omega))
    have hbx2 := Hbx.out.below (by omega) hb2
    have hr2 := HrB.out.below (hb2.mono (by omega))
    have hs2 := hb2.size
    have Hb02 := Lib.hid hb02
    have Hbx2 := Lib.hid hbx2
    have Hr2 := Lib.hid hr2
    clear hb02 hbx2 hr2 hb2 Hb0 Hbx HrB hy0 Htot h
    by_cases hyt : y < ptotal l
    · have hd : decide (ptotal l ≤ y) = false := decide_eq_false (by omega)
      have hiv : ival l y = (ivalN l y, true) := by unfold ival; rw [if_pos hyt]
      obtain ⟨hgm, hW0, hk0, hW1⟩ := ptotal_pos hyt
      have hl0 : 0 < l.length := Nat.lt_of_le_of_lt (Nat.zero_le _) hk0
      have Hiv := Lib.hid hiv
      clear hiv
      gi_wp2_with (refine ⟨trivial, ?_⟩; gi_at_call 79; refine (fronts_in Fence.wide 3 trivial rfl _ _ _ _).mono ?_; rintro e w' ⟨rfl, rfl⟩)
      have h20 := Hb02.out.size
      have bT := BoxAt.new_ 3 w2 [.int .i64 0]
      have bN := BoxAt.new_ 32 (w2.alloc (.cells #[.int .i64 0] 3)) [.slice A l.length c]
      rw [World.size_alloc] at bN
      have bT2 := bT.alloc (.cells #[.slice A l.length c] 32)
      have bY2 := (Hbx2.out.alloc (.cells #[.int .i64 0] 3)).alloc (.cells #[.slice A l.length c] 32)
      have hb23 := bstep (balloc w2 (.cells #[.int .i64 0] 3)) (balloc (w2.alloc (.cells #[.int .i64 0] 3)) (.cells #[.slice A l.length c] 32))
      have hr3 := Hr2.out.below (hb23.mono (by omega))
      have hb03 := Hb02.out.trans (hb23.mono h20)
      have hz3 : ((w2.alloc (.cells #[.int .i64 0] 3)).alloc (.cells #[.slice A l.length c] 32)).heap.size = w2.heap.size + 2 := by simp
      have hbo : ∀ {T : TypeId} {g : Nat} {cs : List Value} {X Y : World} {row : Option Nat}, BoxAt T X g cs → X.grownBy Y row → (∀ r, row = some r → ∃ o : Obj, X.heap[r]? = some o ∧ o.isCells = false) → BoxAt T Y g cs := fun hb hg hr =>
        hb.grown hg fun e => by
          obtain ⟨o, ho, hc⟩ := hr _ e
          rw [show _ = _ from hb] at ho
          injection ho with ho
          subst ho
          cases hc
      have Hiv2 := ivalN_at l y
      have hfa := frontAt_all l
      have hpt : ptotal l = gsum l * l.length := by unfold ptotal; rw [if_pos hgm]
      have HR3 := Lib.hid hr3
      have Hb03 := Lib.hid hb03
      have HbT2 := Lib.hid bT2
      have HbY2 := Lib.hid bY2
      have HIV2 := Lib.hid Hiv2
      have Hfa := Lib.hid hfa
      have Hpt := Lib.hid hpt
      have hcN := bN.cell 0 _ rfl
      clear hfa hpt bT bN bT2 bY2 hb23 hr3 hb03 Hiv2 Hr2 Hbx2 Hb02
      generalize hgt : w2.heap.size = gt at *
      generalize ((w2.alloc (.cells #[.int .i64 0] 3)).alloc (.cells #[.slice A l.length c] 32)) = w3 at *
      refine wpIn_rangeFunc_ownG rfl (by omega) (gf := 87) (lb := #[.pointer (some ⟨gt + 1, 0, none⟩)]) rfl trivial (enters_of Try.func87 (by kernel_rfl) rfl)
        (fronts_stops Fence.wide 3 trivial rfl (by omega) (gt + 1) B0 (fun k => k = gt) A c l hl hW1 w3 (by omega) (by omega) (by rintro k rfl; omega) (by rintro k rfl; omega) (by omega) hcN HR3.out) Kp.trans (fun W l o o' h1 h2 h3 h4 => Kp.putObj _ w3.heap.size W l o o' h1 h2 h3 h4) (Below.refl _ _) (fun _ => rfl)
        (fun pre W => ((∀ p ∈ pre, p.2 ≤ y) ∧ BoxAt 3 W gt [.int .i64 (lastI pre : Nat)] ∧ BoxAt 26 W w.heap.size [.int .u64 (y : Int)]) ∧ Below w.heap.size w W)
        (fun cd pre W => (cd = .exit 0 ∧ ∃ ini last, pre = ini ++ [last] ∧ (∀ p ∈ ini, p.2 ≤ y) ∧ y < last.2 ∧ BoxAt 3 W gt [.int .i64 (lastI ini : Nat)]) ∧ Below w.heap.size w W)
        (OwnFrom.and (Own.from (fun s X Y row hs hg hr => ⟨hs.1, hbo hs.2.1 hg hr, hbo hs.2.2 hg hr⟩) _) (ownFrom_below (Nat.le_refl _) (by omega)))
        (fun cd => OwnFrom.and (Own.from (fun s X Y row hs hg hr => by obtain ⟨e0, ini, last, e1, e2, e3, e4⟩ := hs; exact ⟨e0, ini, last, e1, e2, e3, hbo e4 hg hr⟩) _) (ownFrom_below (Nat.le_refl _) (by omega)))
        ⟨⟨by simp, HbT2.out, HbY2.out⟩, Hb03.out⟩
        (fun x => { tmps := #[.slice A l.length c, .int .u64 (y : Int), undef, .pointer (some ⟨w.heap.size, 0, none⟩), .int .i64 0, .bool false, .pointer (some ⟨gt, 0, none⟩), .int .i64 (x.1 : Int), .int .u64 (x.2 : Int), .int .u64 (y : Int), .slice A l.length c, .int .u64 (ptotal l : Nat), .bool false, .slice A l.length c, .func (.func 87) #[] #[.pointer (some ⟨gt + 1, 0, none⟩)], .int .i64 (x.1 : Int), .int .u64 (x.2 : Int), undef, undef, undef, undef, undef], defers := [] }) ?assign ?body ?done ?stop
      case assign =>
        intro l x W K hK
        gi_wp2
        exact hK
      case body =>
        rintro lq pre x W ⟨⟨hp, hcT, hcY⟩, hB⟩ _
        have hy0 := hcY.cell 0 _ rfl
        have ht0 := hcT.cell 0 _ rfl
        have htf := hcT.frozen 0
        gi_wp2
        · have hx : y < x.2 := by first | assumption | omega
          exact ⟨KeepsFrom.refl _ _, ⟨rfl, pre, x, rfl, hp, hx, hcT⟩, hB⟩
        · have hx : ¬ y < x.2 := by first | assumption | omega
          refine ⟨(KeepsOthers.setCell _ _ _).from _, Kp.set _ _ _ rfl, ⟨fun p hp' => ?_, ?_, hcY.other _ _ (by show gt ≠ w.heap.size; omega)⟩, hB.setCell (p := ⟨gt, 0, none⟩) (by show w.heap.size ≤ gt; omega) _⟩
          · rw [List.mem_append, List.mem_singleton] at hp'
            rcases hp' with hp' | rfl
            · exact hp p hp'
            · omega
          · rw [lastI_snoc]; exact hcT.put 0 _
      case done =>
        rintro D ys W hD rfl ⟨⟨hp, hcT, hcY⟩, hB⟩ hK
        obtain ⟨k', hk'⟩ : ∃ k', l.length = k' + 1 := ⟨l.length - 1, by omega⟩
        have hfk : frontAt l k' ≤ y := hp (frontP l k') ((upto_mem _ _ _).2 ⟨k', by omega, rfl⟩)
        have hia := HIV2.out k' (by omega) hfk (by rw [← hk', Hfa.out, ← Hpt.out]; exact hyt)
        have hlast : lastI (upto (frontP l) l.length) = k' := by rw [hk', upto_succ, lastI_snoc]; rfl
        rw [hlast] at hcT
        have ht0 := hcT.cell 0 _ rfl
        have Hhia := Lib.hid hia
        have HB := Lib.hid hB
        clear hp hcT hcY hB hfk hia hlast hk'
        gi_wp2
        refine ⟨by simp, .inl ⟨_, _, rfl, run_takeDeferred hK, ?_⟩⟩
        refine ⟨_, results_tmp2 rfl _ _ _, ?_, HB.out.trans (belowK_b (w := w) (Nat.le_refl _) W D _ _ (by omega) hK rfl rfl)⟩
        rw [Hiv.out, Hhia.out]
        rfl
      case stop =>
        rintro D cd pre W hD ⟨k, hk, rfl⟩ ⟨⟨rfl, ini, last, e1, e2, e3, hcT⟩, hB⟩ hK
        obtain ⟨k', rfl⟩ : ∃ k', k = k' + 1 := by
          cases k with
          | zero => simp [upto] at e1
          | succ k' => exact ⟨k', rfl⟩
        rw [upto_succ] at e1
        obtain ⟨rfl, e5⟩ := List.append_inj' e1 rfl
        obtain rfl : frontP l k' = last := by simpa using e5
        obtain ⟨j, rfl⟩ : ∃ j, k' = j + 1 := by
          cases k' with
          | zero =>
            have : y < frontAt l 0 := e3
            rw [frontAt_zero] at this
            omega
          | succ j => exact ⟨j, rfl⟩
        have hfk : frontAt l j ≤ y := e2 (frontP l j) ((upto_mem _ _ _).2 ⟨j, by omega, rfl⟩)
        have hia := HIV2.out j (by omega) hfk e3
        have hlast : lastI (upto (frontP l) (j + 1)) = j := by rw [upto_succ, lastI_snoc]; rfl
        rw [hlast] at hcT
        have ht0 := hcT.cell 0 _ rfl
        have Hhia := Lib.hid hia
        have HB := Lib.hid hB
        clear e1 e2 e3 e5 hcT hB hfk hia hlast
        gi_wp2
        refine ⟨by simp, .inl ⟨_, _, rfl, run_takeDeferred hK, ?_⟩⟩
        refine ⟨_, results_tmp2 rfl _ _ _, ?_, HB.out.trans (belowK_b (w := w) (Nat.le_refl _) W D _ _ (by omega) hK rfl rfl)⟩
        rw [Hiv.out, Hhia.out]
        rfl
    · have hd : decide (ptotal l ≤ y) = true := decide_eq_true (by omega)
      have hiv : ival l y = (0, false) := by unfold ival; rw [if_neg hyt]
      gi_wp2
      refine ⟨_, results_tmp2 rfl _ _ _, ?_, Hb02.out⟩
      rw [hiv]
      rfl
end Go.Proofs.Yteakeefocnjlhaa
