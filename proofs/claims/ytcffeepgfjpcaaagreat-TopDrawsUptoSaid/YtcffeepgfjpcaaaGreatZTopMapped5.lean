/- Lemmas for the law TopMapped: job.numbers (printed by wip/gen/topnums.py); rows of uint32: copies; slices.Compact where no two neighbours are alike (printed by wip/gen/topu32.py); jobs; job.kinds; job.May (printed by wip/gen/topjob.py); job.Walkers, walker.Source, walker.New; mix.Below; a walk that is made: walks.at, walks.draw; walks.back (printed by wip/gen/topback.py); pick.fronts: an iterator over neighbours; what a round keeps; pick.Interval; pick.front. No condition. -/
import Derived.Test.YtcffeepgfjpcaaaGreatZTopMapped4
import Derived.BigQuiet
import Derived.RangeFuncNested
import Derived.RangeFuncBound
import Derived.RangeFuncCalls
import Derived.RangeFuncLeaves
import Derived.RangeFuncBox
import Derived.Shelf.Abstract
import Derived.Shelf.RegionOpen
import Derived.WalkKit
import Derived.OwnWalkIn
import Derived.TacticsInMore
import Derived.LoopNIn
import Derived.LoopIn
import Derived.Deep.RegionLaw
namespace Go.Proofs.YtcffeepgfjpcaaaGreat
set_option linter.unusedSimpArgs false
set_option linter.unusedVariables false
open Go.RowKit Go.Maps

def insI (i : Nat) : Nat := ([6, 12, 22, 32, 38, 44, 51, 58, 65, 72] : List Nat).getD i 999
def bsI (i : Nat) : Nat := ([5, 11, 21, 31, 37, 43, 50, 57, 64, 71] : List Nat).getD i 998
def spI (i : Nat) : NumSpec := numT.getD i ⟨[], []⟩
theorem insI_inj : ∀ i, i < 10 → ∀ j, j < 10 → insI i = insI j → i = j := by decide
theorem spI_key : ∀ i, i < 10 → ∀ j, j < 10 → (spI i).key = (spI j).key → i = j := by decide
theorem spI_len : ∀ i, i < 10 → (spI i).key.length ≤ 100 := by decide
theorem insI_bsI : ∀ i, i < 10 → ∀ j, j < 10 → insI i ≠ bsI j := by decide
theorem insI_0 : ∀ i, i < 10 → insI i ≠ 0 ∧ bsI i ≠ 0 := by decide
theorem insI_m : ∀ i, i < 10 → (73 ≠ insI i ∧ 73 ≠ bsI i) ∧ 74 ≠ insI i ∧ 74 ≠ bsI i := by decide
theorem bsI_inj : ∀ i, i < 10 → ∀ j, j < 10 → bsI i = bsI j → i = j := by decide
theorem insI_lt : ∀ i, i < 10 → insI i < 75 := by decide
def c1 (b : Bool) : Nat := if b then 1 else 0
def cntB (bb : Nat → Bool) : Nat := ((List.range 10).map fun i => c1 (bb (insI i))).sum
/-- what holds while the map is filled, in whatever order -/
structure NJ (w : World) (gj : Nat) (bb : Nat → Bool) (vs : Nat → Value) (W : World) : Prop where
  map : bb 0 = true → ∃ b, vs 0 = .map (some b) ∧ w.heap.size ≤ b ∧ NumMap W b gj (fun x => ∃ i, i < 10 ∧ bb (insI i) = true ∧ x = spI i) (cntB bb)
  no : ∀ i, i < 10 → bb (insI i) = true → bb 0 = true
  sl : ∀ i, i < 10 → bb (bsI i) = true → ∃ g, vs (bsI i) = mkS (g, (spI i).l.length) ∧ BoxAt 211 W g (specC gj (spI i).l)
  bl : Below w.heap.size w W
  m1 : bb 73 = true → bb 0 = true ∧ vs 73 = vs 0
  m2 : bb 74 = true → bb 73 = true ∧ vs 74 = vs 73
theorem NJ.start (w : World) (gj : Nat) (v : Nat → Value) : NJ w gj (fun _ => false) v w.drew := ⟨fun h => (by cases h), fun _ _ h => (by cases h), fun _ _ h => (by cases h), (Below.refl _ _).drew, fun h => (by cases h), fun h => (by cases h)⟩
def special (k : Nat) : Bool := decide (k = 0) || decide (k = 73) || decide (k = 74) || (List.range 10).any fun i => decide (insI i = k) || decide (bsI i = k)
theorem special_no {k : Nat} (h : special k = false) : (k ≠ 0 ∧ k ≠ 73 ∧ k ≠ 74) ∧ ∀ i, i < 10 → insI i ≠ k ∧ bsI i ≠ k := by
  unfold special at h
  rw [Bool.or_eq_false_iff, List.any_eq_false, Bool.or_eq_false_iff, Bool.or_eq_false_iff] at h
  refine ⟨⟨by simpa using h.1.1.1, by simpa using h.1.1.2, by simpa using h.1.2⟩, fun i hi => ?_⟩
  have := h.2 i (by simpa using hi)
  simpa using this
section
variable {w W : World} {gj : Nat} {bb : Nat → Bool} {vs : Nat → Value}
theorem cntB_congr {bb bb' : Nat → Bool} (h : ∀ i, i < 10 → bb' (insI i) = bb (insI i)) : cntB bb' = cntB bb := by
  unfold cntB
  congr 1
  refine List.map_congr_left fun i hi => ?_
  rw [h i (by simpa using hi)]
theorem NJ.other {k : Nat} {v : Value} (h : NJ w gj bb vs W) (hk : special k = false) : NJ w gj (fun s => if s = k then true else bb s) (fun s => if s = k then v else vs s) W := by
  obtain ⟨⟨k0, k73, k74⟩, hk⟩ := special_no hk
  refine ⟨fun h0 => ?_, fun i hi hb => ?_, fun i hi hb => ?_, h.bl, by simp only [if_neg (Ne.symm k73), if_neg (Ne.symm k0)]; exact h.m1, by simp only [if_neg (Ne.symm k73), if_neg (Ne.symm k74)]; exact h.m2⟩
  · simp only [if_neg (Ne.symm k0)] at h0 ⊢
    obtain ⟨b, e, hb, hm⟩ := h.map h0
    refine ⟨b, e, hb, hm.cast (fun x => ?_) (cntB_congr fun i hi => by simp only [if_neg (hk i hi).1])⟩
    constructor
    · rintro ⟨i, hi, hx, e⟩
      simp only [if_neg (hk i hi).1] at hx
      exact ⟨i, hi, hx, e⟩
    · rintro ⟨i, hi, hx, e⟩
      exact ⟨i, hi, by simp only [if_neg (hk i hi).1]; exact hx, e⟩
  · simp only [if_neg (hk i hi).1] at hb
    simp only [if_neg (Ne.symm k0)]
    exact h.no i hi hb
  · simp only [if_neg (hk i hi).2] at hb ⊢
    exact h.sl i hi hb
theorem NJ.map0 (h : NJ w gj bb vs W) (hs : bb 0 = false) : NJ w gj (fun s => if s = 0 then true else bb s) (fun s => if s = 0 then Value.map (some W.heap.size) else vs s) (W.alloc (.map #[] 0)) := by
  have hno : ∀ i, i < 10 → bb (insI i) = false := fun i hi => by
    cases hx : bb (insI i) with
    | false => rfl
    | true => rw [h.no i hi hx] at hs; cases hs
  refine ⟨fun _ => ⟨W.heap.size, by simp, h.bl.size, (NumMap.new_ W gj).cast (fun x => ?_) ?_⟩, fun i hi hb => by simp, fun i hi hb => ?_, bstep h.bl (balloc _ _), fun h73 => ?_, fun h74 => ?_⟩
  · constructor
    · rintro ⟨i, hi, hx, e⟩
      simp only [if_neg (insI_0 i hi).1] at hx
      rw [hno i hi] at hx
      cases hx
    · exact fun h => h.elim
  · have e : cntB (fun s => if s = 0 then true else bb s) = cntB (fun _ => false) := cntB_congr fun i hi => by simp only [if_neg (insI_0 i hi).1]; exact hno i hi
    rw [e]
    rfl
  · simp only [if_neg (insI_0 i hi).2] at hb ⊢
    obtain ⟨g, e, hx⟩ := h.sl i hi hb
    exact ⟨g, e, hx.alloc _⟩
  · simp at h73
    rw [(h.m1 h73).1] at hs
    cases hs
  · simp at h74
    rw [(h.m1 (h.m2 h74).1).1] at hs
    cases hs
theorem NJ.bs (h : NJ w gj bb vs W) (i0 : Nat) (hi0 : i0 < 10) {k : Nat} {cs : List Value} {v : Value} (hk : bsI i0 = k) (hb : BoxAt 211 (W.alloc (.cells cs.toArray 211)) W.heap.size cs)
    (hcs : cs = specC gj (spI i0).l := by rfl) (hv : v = mkS (W.heap.size, (spI i0).l.length) := by rfl) :
    NJ w gj (fun s => if s = k then true else bb s) (fun s => if s = k then v else vs s) (W.alloc (.cells cs.toArray 211)) := by
  subst hk
  have k0 : ¬ 0 = bsI i0 := fun e => (insI_0 i0 hi0).2 e.symm
  have km := insI_m i0 hi0
  refine ⟨fun h0 => ?_, fun i hi hb => ?_, fun i hi hb' => ?_, bstep h.bl (balloc _ _), by simp only [if_neg km.1.2, if_neg k0]; exact h.m1, by simp only [if_neg km.1.2, if_neg km.2.2]; exact h.m2⟩
  · simp only [if_neg k0] at h0 ⊢
    obtain ⟨b, e, hb, hm⟩ := h.map h0
    refine ⟨b, e, hb, (hm.grown (balloc _ _)).cast (fun x => ?_) (cntB_congr fun i hi => by simp only [if_neg (insI_bsI i hi i0 hi0)])⟩
    constructor
    · rintro ⟨i, hi, hx, e⟩
      simp only [if_neg (insI_bsI i hi i0 hi0)] at hx
      exact ⟨i, hi, hx, e⟩
    · rintro ⟨i, hi, hx, e⟩
      exact ⟨i, hi, by simp only [if_neg (insI_bsI i hi i0 hi0)]; exact hx, e⟩
  · simp only [if_neg (insI_bsI i hi i0 hi0)] at hb
    simp only [if_neg k0]
    exact h.no i hi hb
  · by_cases e : bsI i = bsI i0
    · obtain rfl := bsI_inj i hi i0 hi0 e
      simp only [if_true]
      exact ⟨W.heap.size, hv, by rw [← hcs]; exact hb⟩
    · simp only [if_neg e] at hb' ⊢
      obtain ⟨g, e, hx⟩ := h.sl i hi hb'
      exact ⟨g, e, hx.alloc _⟩
theorem cntB_put (i0 : Nat) (hi0 : i0 < 10) (hs : bb (insI i0) = false) : cntB (fun s => if s = insI i0 then true else bb s) = cntB bb + 1 ∧ cntB bb < 100 := by
  have key : ∀ m, m ≤ 10 → ((List.range m).map fun i => c1 (if insI i = insI i0 then true else bb (insI i))).sum = ((List.range m).map fun i => c1 (bb (insI i))).sum + (if i0 < m then 1 else 0) ∧ ((List.range m).map fun i => c1 (bb (insI i))).sum ≤ m := by
    intro m
    induction m with
    | zero => intro _; simp
    | succ m ih =>
      intro hm
      obtain ⟨h1, h2⟩ := ih (by omega)
      rw [List.range_succ, List.map_append, List.map_append, List.sum_append, List.sum_append, h1]
      simp only [List.map_cons, List.map_nil, List.sum_cons, List.sum_nil]
      have hc : ∀ b, c1 b ≤ 1 := fun b => by cases b <;> simp [c1]
      have := hc (bb (insI m))
      by_cases e : m = i0
      · subst e
        rw [if_pos rfl, hs]
        simp [c1]
        simp [c1] at h2
        omega
      · rw [if_neg (fun h => e (insI_inj m (by omega) i0 hi0 h))]
        constructor
        · by_cases h : i0 < m
          · rw [if_pos h, if_pos (by omega)]; omega
          · rw [if_neg h, if_neg (by omega)]; omega
        · omega
  obtain ⟨h1, h2⟩ := key 10 (Nat.le_refl _)
  rw [if_pos hi0] at h1
  exact ⟨h1, by unfold cntB; omega⟩
theorem NJ.ins (h : NJ w gj bb vs W) (i0 : Nat) (hi0 : i0 < 10) {k : Nat} (hs : bb k = false) (hd0 : bb 0 = true) {kb : Nat} (hdb : bb kb = true) {v : Value} (hk : insI i0 = k := by rfl) (hkb : bsI i0 = kb := by rfl) :
    ∃ b g w', vs 0 = .map (some b) ∧ vs kb = mkS (g, (spI i0).l.length) ∧ (Instr.mapUpdate 205 (.map (some b)) (.string (bst (spI i0).key)) (mkS (g, (spI i0).l.length))).run Tryz.prog W = .ok () w' ∧
      NJ w gj (fun s => if s = k then true else bb s) (fun s => if s = k then v else vs s) w' := by
  subst hk hkb
  obtain ⟨b, e, hb, hm⟩ := h.map hd0
  obtain ⟨g, e2, hx⟩ := h.sl i0 hi0 hdb
  obtain ⟨hc1, hc2⟩ := cntB_put (bb := bb) i0 hi0 hs
  obtain ⟨w', hr, hm', hg⟩ := hm.put hc2 (spI i0) (fun y hy => by
    obtain ⟨i, hi, hbi, rfl⟩ := hy
    intro e
    obtain rfl := spI_key i hi i0 hi0 e
    rw [hs] at hbi
    cases hbi) (spI_len i0 hi0) g hx
  refine ⟨b, g, w', e, e2, hr, fun _ => ?_, fun i hi _ => ?_, fun i hi hb' => ?_, h.bl.grown hg h.bl.size (fun k e => by injection e with e; omega), ?_, ?_⟩
  · have k0 : ¬ 0 = insI i0 := fun e => (insI_0 i0 hi0).1 e.symm
    simp only [if_neg k0]
    refine ⟨b, e, hb, hm'.cast (fun x => ?_) hc1⟩
    constructor
    · rintro ⟨i, hi, hx, rfl⟩
      by_cases e : insI i = insI i0
      · obtain rfl := insI_inj i hi i0 hi0 e
        exact .inr rfl
      · simp only [if_neg e] at hx
        exact .inl ⟨i, hi, hx, rfl⟩
    · rintro (⟨i, hi, hx, rfl⟩ | rfl)
      · refine ⟨i, hi, ?_, rfl⟩
        by_cases e : insI i = insI i0
        · simp [e]
        · simp only [if_neg e]; exact hx
      · exact ⟨i0, hi0, by simp, rfl⟩
  · have k0 : ¬ 0 = insI i0 := fun e => (insI_0 i0 hi0).1 e.symm
    simp only [if_neg k0]
    exact hd0
  · simp only [if_neg (Ne.symm (insI_bsI i0 hi0 i hi))] at hb' ⊢
    obtain ⟨g', e', hx'⟩ := h.sl i hi hb'
    have hne := hm.ne hx'
    exact ⟨g', e', hx'.grown hg (fun e => hne (by injection e))⟩
  · have k0 : ¬ 0 = insI i0 := fun e => (insI_0 i0 hi0).1 e.symm
    simp only [if_neg (insI_m i0 hi0).1.1, if_neg k0]
    exact h.m1
  · simp only [if_neg (insI_m i0 hi0).1.1, if_neg (insI_m i0 hi0).2.1]
    exact h.m2
theorem NJ.mvs {k : Nat} {v : Value} (h : NJ w gj bb vs W) (hk : k = 73 ∨ k = 74) (hm1 : (if 73 = k then true else bb 73) = true → bb 0 = true ∧ (if 73 = k then v else vs 73) = vs 0) (hm2 : (if 74 = k then true else bb 74) = true → (if 73 = k then true else bb 73) = true ∧ (if 74 = k then v else vs 74) = (if 73 = k then v else vs 73)) :
    NJ w gj (fun s => if s = k then true else bb s) (fun s => if s = k then v else vs s) W := by
  have k0 : ¬ 0 = k := by omega
  have hk2 : ∀ i, i < 10 → insI i ≠ k ∧ bsI i ≠ k := fun i hi => by
    have := insI_m i hi
    rcases hk with rfl | rfl
    · exact ⟨Ne.symm this.1.1, Ne.symm this.1.2⟩
    · exact ⟨Ne.symm this.2.1, Ne.symm this.2.2⟩
  refine ⟨fun h0 => ?_, fun i hi hb => ?_, fun i hi hb => ?_, h.bl, by simp only [if_neg k0]; exact hm1, hm2⟩
  · simp only [if_neg k0] at h0 ⊢
    obtain ⟨b, e, hb, hm⟩ := h.map h0
    refine ⟨b, e, hb, hm.cast (fun x => ?_) (cntB_congr fun i hi => by simp only [if_neg (hk2 i hi).1])⟩
    constructor
    · rintro ⟨i, hi, hx, e⟩
      simp only [if_neg (hk2 i hi).1] at hx
      exact ⟨i, hi, hx, e⟩
    · rintro ⟨i, hi, hx, e⟩
      exact ⟨i, hi, by simp only [if_neg (hk2 i hi).1]; exact hx, e⟩
  · simp only [if_neg (hk2 i hi).1] at hb
    simp only [if_neg k0]
    exact h.no i hi hb
  · simp only [if_neg (hk2 i hi).2] at hb ⊢
    exact h.sl i hi hb
theorem NJ.mv73 {v : Value} (h : NJ w gj bb vs W) (h0 : bb 0 = true) (hv : v = vs 0) : NJ w gj (fun s => if s = 73 then true else bb s) (fun s => if s = 73 then v else vs s) W :=
  NJ.mvs h (.inl rfl) (fun _ => ⟨h0, by simp [hv]⟩) (fun h74 => by simp at h74 ⊢; have := h.m2 h74; rw [hv, this.2, (h.m1 this.1).2])
theorem NJ.mv74 {v : Value} (h : NJ w gj bb vs W) (h0 : bb 73 = true) (hv : v = vs 73) : NJ w gj (fun s => if s = 74 then true else bb s) (fun s => if s = 74 then v else vs s) W :=
  NJ.mvs h (.inr rfl) (fun h73 => by simp at h73 ⊢; exact h.m1 h73) (fun _ => by simp [hv, h0])
end
theorem okUnit {w w' : World} {m k v : Value} {t : TypeId} (h : (Instr.mapUpdate t m k v).run Tryz.prog w = .ok () w') : ((Instr.mapUpdate t m k v).run Tryz.prog w).andThen (fun _ w' => Result.ok Next.skip w') = .ok .skip w' := by
  rw [h]; rfl
set_option maxRecDepth 100000 in
set_option maxHeartbeats 6400000 in
theorem numbers_any (w : World) (gj : Nat) :
    Calls Tryz.prog 125 #[.pointer (some ⟨gj, 0, none⟩)] w fun e w' => ∃ b, e = .returned (.map (some b)) ∧ w.heap.size ≤ b ∧ NumMap w' b gj (fun x => ∃ i, i < 10 ∧ x = spI i) 10 ∧ Below w.heap.size w w' := by
  go_enter Tryz.func125, Tryz.ntmps125
  go_upto_region 1 with fail
  refine wp_region_mixSL (ds := [3, 4, 5, 6, 7, 8, 9, 10, 11, 12, 13, 14, 15, 16, 17, 18, 19, 20, 21, 22, 23, 24, 25, 26, 27, 28, 29, 30, 31, 32, 33, 34, 35, 36, 37, 38, 39, 40, 41, 42, 43, 44, 45, 46, 47, 48, 49, 50, 51, 52, 53, 54, 55, 56, 57, 58, 59, 60, 61, 62, 63, 64, 65, 66, 2]) 75 (fun bb vs W' => NJ w gj bb vs W') [some 3, some 4, some 5, some 6, some 7, some 8, none, some 9, some 10, some 11, some 12, some 13, none, some 14, some 15, some 16, some 17, some 18, some 19, some 20, some 21, some 22, none, some 23, some 24, some 25, some 26, some 27, some 28, some 29, some 30, some 31, none, some 32, some 33, some 34, some 35, some 36, none, some 37, some 38, some 39, some 40, some 41, none, some 42, some 43, some 44, some 45, some 46, some 47, none, some 48, some 49, some 50, some 51, some 52, some 53, none, some 54, some 55, some 56, some 57, some 58, some 59, none, some 60, some 61, some 62, some 63, some 64, some 65, none, some 66, some 2]
    [fun _ => True, fun v => v = .pointer (some ⟨gj, 0, none⟩), fun v => v = .pointer (some ⟨gj, 0, none⟩), fun v => v = .pointer (some ⟨gj, 2, none⟩), fun v => v = .agg #[.pointer (some ⟨gj, 2, none⟩), .int .u64 0, .int .u64 65536], fun _ => True, fun _ => True, fun v => v = .pointer (some ⟨gj, 0, none⟩), fun v => v = .pointer (some ⟨gj, 0, none⟩), fun v => v = .pointer (some ⟨gj, 3, none⟩), fun v => v = .agg #[.pointer (some ⟨gj, 3, none⟩), .int .u64 1, .int .u64 65536], fun _ => True, fun _ => True, fun v => v = .pointer (some ⟨gj, 0, none⟩), fun v => v = .pointer (some ⟨gj, 0, none⟩), fun v => v = .pointer (some ⟨gj, 5, none⟩), fun v => v = .agg #[.pointer (some ⟨gj, 5, none⟩), .int .u64 0, .int .u64 4294967295], fun v => v = .pointer (some ⟨gj, 0, none⟩), fun v => v = .pointer (some ⟨gj, 0, none⟩), fun v => v = .pointer (some ⟨gj, 6, none⟩), fun v => v = .agg #[.pointer (some ⟨gj, 6, none⟩), .int .u64 1, .int .u64 4294967295], fun _ => True, fun _ => True, fun v => v = .pointer (some ⟨gj, 0, none⟩), fun v => v = .pointer (some ⟨gj, 0, none⟩), fun v => v = .pointer (some ⟨gj, 7, none⟩), fun v => v = .agg #[.pointer (some ⟨gj, 7, none⟩), .int .u64 1, .int .u64 65536], fun v => v = .pointer (some ⟨gj, 0, none⟩), fun v => v = .pointer (some ⟨gj, 0, none⟩), fun v => v = .pointer (some ⟨gj, 8, none⟩), fun v => v = .agg #[.pointer (some ⟨gj, 8, none⟩), .int .u64 1, .int .u64 65536], fun _ => True, fun _ => True, fun v => v = .pointer (some ⟨gj, 0, none⟩), fun v => v = .pointer (some ⟨gj, 0, none⟩), fun v => v = .pointer (some ⟨gj, 9, none⟩), fun v => v = .agg #[.pointer (some ⟨gj, 9, none⟩), .int .u64 1, .int .u64 1024], fun _ => True, fun _ => True, fun v => v = .pointer (some ⟨gj, 0, none⟩), fun v => v = .pointer (some ⟨gj, 0, none⟩), fun v => v = .pointer (some ⟨gj, 10, none⟩), fun v => v = .agg #[.pointer (some ⟨gj, 10, none⟩), .int .u64 0, .int .u64 1024], fun _ => True, fun _ => True, fun v => v = .pointer (some ⟨gj, 0, none⟩), fun v => v = .pointer (some ⟨gj, 0, none⟩), fun v => v = .pointer (some ⟨gj, 11, none⟩), fun v => v = .pointer (some ⟨gj, 11, none⟩), fun v => v = .agg #[.pointer (some ⟨gj, 11, none⟩), .int .u64 1, .int .u64 65536], fun _ => True, fun _ => True, fun v => v = .pointer (some ⟨gj, 0, none⟩), fun v => v = .pointer (some ⟨gj, 0, none⟩), fun v => v = .pointer (some ⟨gj, 11, none⟩), fun v => v = .pointer (some ⟨gj, 12, none⟩), fun v => v = .agg #[.pointer (some ⟨gj, 12, none⟩), .int .u64 1, .int .u64 16777216], fun _ => True, fun _ => True, fun v => v = .pointer (some ⟨gj, 0, none⟩), fun v => v = .pointer (some ⟨gj, 0, none⟩), fun v => v = .pointer (some ⟨gj, 11, none⟩), fun v => v = .pointer (some ⟨gj, 13, none⟩), fun v => v = .agg #[.pointer (some ⟨gj, 13, none⟩), .int .u64 2, .int .u64 65536], fun _ => True, fun _ => True, fun v => v = .pointer (some ⟨gj, 0, none⟩), fun v => v = .pointer (some ⟨gj, 0, none⟩), fun v => v = .pointer (some ⟨gj, 11, none⟩), fun v => v = .pointer (some ⟨gj, 14, none⟩), fun v => v = .agg #[.pointer (some ⟨gj, 14, none⟩), .int .u64 1, .int .u64 4096], fun _ => True, fun _ => True, fun _ => True, fun _ => True]
    rfl rfl rfl (by kernel_rfl) (by kernel_rfl) ?_ (fun _ => NJ.start _ _ _) ?_
  · refine ⟨?_, ?_, ?_, ?_, ?_, ?_, ?_, ?_, ?_, ?_, ?_, ?_, ?_, ?_, ?_, ?_, ?_, ?_, ?_, ?_, ?_, ?_, ?_, ?_, ?_, ?_, ?_, ?_, ?_, ?_, ?_, ?_, ?_, ?_, ?_, ?_, ?_, ?_, ?_, ?_, ?_, ?_, ?_, ?_, ?_, ?_, ?_, ?_, ?_, ?_, ?_, ?_, ?_, ?_, ?_, ?_, ?_, ?_, ?_, ?_, ?_, ?_, ?_, ?_, ?_, ?_, ?_, ?_, ?_, ?_, ?_, ?_, ?_, ?_, ?_, trivial⟩
    · -- 0: slot 3 := Op.makeMap 205 none
      refine obS_yes fun f bb w' hj hs hd hp => ?_
      simp [PreO, factO, valOf, Region.binds] at hp hd
      refine ⟨by simp [Gd, valOf, hp], ?_⟩
      refine mildS_val (.map (some w'.heap.size)) (w' := w'.alloc (.map #[] 0)) ?_ trivial (NJ.map0 hj hs)
      have hr := run_makeMap (P := Tryz.prog) 205 w'
      simp [execOp, evalF, hp, hr]
    · -- 1: slot 4 := Op.move t0
      refine obS_yes fun f bb w' hj hs hd hp => ?_
      simp [PreO, factO, valOf, Region.binds] at hp hd
      refine ⟨by simp [Gd, valOf, hp], ?_⟩
      refine mildS_val (.pointer (some ⟨gj, 0, none⟩)) (w' := w') ?_ rfl (NJ.other hj (by decide))
      simp [execOp, evalF, hp, go_sem]
    · -- 2: slot 5 := Op.nilCheck t4
      refine obS_yes fun f bb w' hj hs hd hp => ?_
      simp [PreO, factO, valOf, Region.binds] at hp hd
      refine ⟨by simp [Gd, valOf, hp], ?_⟩
      refine mildS_val (.pointer (some ⟨gj, 0, none⟩)) (w' := w') ?_ rfl (NJ.other hj (by decide))
      simp [execOp, evalF, hp, go_sem]
    · -- 3: slot 6 := Op.fieldAddr 29 t5 2
      refine obS_yes fun f bb w' hj hs hd hp => ?_
      simp [PreO, factO, valOf, Region.binds] at hp hd
      refine ⟨by simp [Gd, valOf, hp], ?_⟩
      refine mildS_val (.pointer (some ⟨gj, 2, none⟩)) (w' := w') ?_ rfl (NJ.other hj (by decide))
      simp [execOp, evalF, hp, go_sem]
    · -- 4: slot 7 := Op.build 211 #[(0, t6), (1, const (0:u64)), (2, const (65536:u64))]
      refine obS_yes fun f bb w' hj hs hd hp => ?_
      simp [PreO, factO, valOf, Region.binds] at hp hd
      refine ⟨by simp [Gd, valOf, hp], ?_⟩
      refine mildS_val (.agg #[.pointer (some ⟨gj, 2, none⟩), .int .u64 0, .int .u64 65536]) (w' := w') ?_ rfl (NJ.other hj (by decide))
      simp [execOp, evalF, hp, go_sem]
    · -- 5: slot 8 := Op.buildSlice 208 1 #[(0, t7)]
      refine obS_yes fun f bb w' hj hs hd hp => ?_
      simp [PreO, factO, valOf, Region.binds] at hp hd
      refine ⟨by simp [Gd, valOf, hp], ?_⟩
      refine mildS_val (.slice (some ⟨w'.heap.size, 0, none⟩) 1 1) (w' := w'.alloc (.cells #[.pointer (some ⟨gj, 2, none⟩), .int .u64 0, .int .u64 65536] 211)) ?_ trivial (NJ.bs hj 0 (by decide) rfl (BoxAt.new_ _ _ _))
      have hr := run_bsNum1 w' (.pointer (some ⟨gj, 2, none⟩)) (.int .u64 0) (.int .u64 65536)
      simp [execOp, evalF, hp, hr]
    · -- 6: slot None := Op.insert 205 t3 (const (Value.string   data := #[108, 101, 110, 103, 116, 104]  )) t8
      refine obS_yes fun f bb w' hj hs hd hp => ?_
      simp [PreO, factO, valOf, Region.binds] at hp hd
      refine ⟨by simp [Gd, valOf, hp], ?_⟩
      have hd0 : bb 0 = true := by first | exact hd.1 | exact hd.2.1 | exact hd.2 | exact hd | simp_all
      have hdb : bb 5 = true := by first | exact hd.1 | exact hd.2.1 | exact hd.2 | exact hd | simp_all
      obtain ⟨b0, g0, w3, hv0, hv1, hr, hj3⟩ := NJ.ins hj 0 (by decide) hs hd0 hdb
      refine mildS_skip (w' := w3) ?_ trivial hj3
      have e0 : f 3 = .map (some b0) := hv0
      have e1 : f 8 = mkS (g0, 1) := hv1
      simp [execOp, evalF, e0, e1]
      exact okUnit hr
    · -- 7: slot 9 := Op.move t0
      refine obS_yes fun f bb w' hj hs hd hp => ?_
      simp [PreO, factO, valOf, Region.binds] at hp hd
      refine ⟨by simp [Gd, valOf, hp], ?_⟩
      refine mildS_val (.pointer (some ⟨gj, 0, none⟩)) (w' := w') ?_ rfl (NJ.other hj (by decide))
      simp [execOp, evalF, hp, go_sem]
    · -- 8: slot 10 := Op.nilCheck t9
      refine obS_yes fun f bb w' hj hs hd hp => ?_
      simp [PreO, factO, valOf, Region.binds] at hp hd
      refine ⟨by simp [Gd, valOf, hp], ?_⟩
      refine mildS_val (.pointer (some ⟨gj, 0, none⟩)) (w' := w') ?_ rfl (NJ.other hj (by decide))
      simp [execOp, evalF, hp, go_sem]
    · -- 9: slot 11 := Op.fieldAddr 29 t10 3
      refine obS_yes fun f bb w' hj hs hd hp => ?_
      simp [PreO, factO, valOf, Region.binds] at hp hd
      refine ⟨by simp [Gd, valOf, hp], ?_⟩
      refine mildS_val (.pointer (some ⟨gj, 3, none⟩)) (w' := w') ?_ rfl (NJ.other hj (by decide))
      simp [execOp, evalF, hp, go_sem]
    · -- 10: slot 12 := Op.build 211 #[(0, t11), (1, const (1:u64)), (2, const (65536:u64))]
      refine obS_yes fun f bb w' hj hs hd hp => ?_
      simp [PreO, factO, valOf, Region.binds] at hp hd
      refine ⟨by simp [Gd, valOf, hp], ?_⟩
      refine mildS_val (.agg #[.pointer (some ⟨gj, 3, none⟩), .int .u64 1, .int .u64 65536]) (w' := w') ?_ rfl (NJ.other hj (by decide))
      simp [execOp, evalF, hp, go_sem]
    · -- 11: slot 13 := Op.buildSlice 208 1 #[(0, t12)]
      refine obS_yes fun f bb w' hj hs hd hp => ?_
      simp [PreO, factO, valOf, Region.binds] at hp hd
      refine ⟨by simp [Gd, valOf, hp], ?_⟩
      refine mildS_val (.slice (some ⟨w'.heap.size, 0, none⟩) 1 1) (w' := w'.alloc (.cells #[.pointer (some ⟨gj, 3, none⟩), .int .u64 1, .int .u64 65536] 211)) ?_ trivial (NJ.bs hj 1 (by decide) rfl (BoxAt.new_ _ _ _))
      have hr := run_bsNum1 w' (.pointer (some ⟨gj, 3, none⟩)) (.int .u64 1) (.int .u64 65536)
      simp [execOp, evalF, hp, hr]
    · -- 12: slot None := Op.insert 205 t3 (const (Value.string   data := #[119, 97, 108, 107, 115]  )) t13
      refine obS_yes fun f bb w' hj hs hd hp => ?_
      simp [PreO, factO, valOf, Region.binds] at hp hd
      refine ⟨by simp [Gd, valOf, hp], ?_⟩
      have hd0 : bb 0 = true := by first | exact hd.1 | exact hd.2.1 | exact hd.2 | exact hd | simp_all
      have hdb : bb 11 = true := by first | exact hd.1 | exact hd.2.1 | exact hd.2 | exact hd | simp_all
      obtain ⟨b0, g0, w3, hv0, hv1, hr, hj3⟩ := NJ.ins hj 1 (by decide) hs hd0 hdb
      refine mildS_skip (w' := w3) ?_ trivial hj3
      have e0 : f 3 = .map (some b0) := hv0
      have e1 : f 13 = mkS (g0, 1) := hv1
      simp [execOp, evalF, e0, e1]
      exact okUnit hr
    · -- 13: slot 14 := Op.move t0
      refine obS_yes fun f bb w' hj hs hd hp => ?_
      simp [PreO, factO, valOf, Region.binds] at hp hd
      refine ⟨by simp [Gd, valOf, hp], ?_⟩
      refine mildS_val (.pointer (some ⟨gj, 0, none⟩)) (w' := w') ?_ rfl (NJ.other hj (by decide))
      simp [execOp, evalF, hp, go_sem]
    · -- 14: slot 15 := Op.nilCheck t14
      refine obS_yes fun f bb w' hj hs hd hp => ?_
      simp [PreO, factO, valOf, Region.binds] at hp hd
      refine ⟨by simp [Gd, valOf, hp], ?_⟩
      refine mildS_val (.pointer (some ⟨gj, 0, none⟩)) (w' := w') ?_ rfl (NJ.other hj (by decide))
      simp [execOp, evalF, hp, go_sem]
    · -- 15: slot 16 := Op.fieldAddr 29 t15 5
      refine obS_yes fun f bb w' hj hs hd hp => ?_
      simp [PreO, factO, valOf, Region.binds] at hp hd
      refine ⟨by simp [Gd, valOf, hp], ?_⟩
      refine mildS_val (.pointer (some ⟨gj, 5, none⟩)) (w' := w') ?_ rfl (NJ.other hj (by decide))
      simp [execOp, evalF, hp, go_sem]
    · -- 16: slot 17 := Op.build 211 #[(0, t16), (1, const (0:u64)), (2, const (4294967295:u64))]
      refine obS_yes fun f bb w' hj hs hd hp => ?_
      simp [PreO, factO, valOf, Region.binds] at hp hd
      refine ⟨by simp [Gd, valOf, hp], ?_⟩
      refine mildS_val (.agg #[.pointer (some ⟨gj, 5, none⟩), .int .u64 0, .int .u64 4294967295]) (w' := w') ?_ rfl (NJ.other hj (by decide))
      simp [execOp, evalF, hp, go_sem]
    · -- 17: slot 18 := Op.move t0
      refine obS_yes fun f bb w' hj hs hd hp => ?_
      simp [PreO, factO, valOf, Region.binds] at hp hd
      refine ⟨by simp [Gd, valOf, hp], ?_⟩
      refine mildS_val (.pointer (some ⟨gj, 0, none⟩)) (w' := w') ?_ rfl (NJ.other hj (by decide))
      simp [execOp, evalF, hp, go_sem]
    · -- 18: slot 19 := Op.nilCheck t18
      refine obS_yes fun f bb w' hj hs hd hp => ?_
      simp [PreO, factO, valOf, Region.binds] at hp hd
      refine ⟨by simp [Gd, valOf, hp], ?_⟩
      refine mildS_val (.pointer (some ⟨gj, 0, none⟩)) (w' := w') ?_ rfl (NJ.other hj (by decide))
      simp [execOp, evalF, hp, go_sem]
    · -- 19: slot 20 := Op.fieldAddr 29 t19 6
      refine obS_yes fun f bb w' hj hs hd hp => ?_
      simp [PreO, factO, valOf, Region.binds] at hp hd
      refine ⟨by simp [Gd, valOf, hp], ?_⟩
      refine mildS_val (.pointer (some ⟨gj, 6, none⟩)) (w' := w') ?_ rfl (NJ.other hj (by decide))
      simp [execOp, evalF, hp, go_sem]
    · -- 20: slot 21 := Op.build 211 #[(0, t20), (1, const (1:u64)), (2, const (4294967295:u64))]
      refine obS_yes fun f bb w' hj hs hd hp => ?_
      simp [PreO, factO, valOf, Region.binds] at hp hd
      refine ⟨by simp [Gd, valOf, hp], ?_⟩
      refine mildS_val (.agg #[.pointer (some ⟨gj, 6, none⟩), .int .u64 1, .int .u64 4294967295]) (w' := w') ?_ rfl (NJ.other hj (by decide))
      simp [execOp, evalF, hp, go_sem]
    · -- 21: slot 22 := Op.buildSlice 208 2 #[(0, t17), (1, t21)]
      refine obS_yes fun f bb w' hj hs hd hp => ?_
      simp [PreO, factO, valOf, Region.binds] at hp hd
      refine ⟨by simp [Gd, valOf, hp], ?_⟩
      refine mildS_val (.slice (some ⟨w'.heap.size, 0, none⟩) 2 2) (w' := w'.alloc (.cells #[.pointer (some ⟨gj, 5, none⟩), .int .u64 0, .int .u64 4294967295, .pointer (some ⟨gj, 6, none⟩), .int .u64 1, .int .u64 4294967295] 211)) ?_ trivial (NJ.bs hj 2 (by decide) rfl (BoxAt.new_ _ _ _))
      have hr := run_bsNum2 w' (.pointer (some ⟨gj, 5, none⟩)) (.int .u64 0) (.int .u64 4294967295) (.pointer (some ⟨gj, 6, none⟩)) (.int .u64 1) (.int .u64 4294967295)
      simp [execOp, evalF, hp, hr]
    · -- 22: slot None := Op.insert 205 t3 (const (Value.string   data := #[114, 101, 115, 116, 97, 114, 116]  )) t22
      refine obS_yes fun f bb w' hj hs hd hp => ?_
      simp [PreO, factO, valOf, Region.binds] at hp hd
      refine ⟨by simp [Gd, valOf, hp], ?_⟩
      have hd0 : bb 0 = true := by first | exact hd.1 | exact hd.2.1 | exact hd.2 | exact hd | simp_all
      have hdb : bb 21 = true := by first | exact hd.1 | exact hd.2.1 | exact hd.2 | exact hd | simp_all
      obtain ⟨b0, g0, w3, hv0, hv1, hr, hj3⟩ := NJ.ins hj 2 (by decide) hs hd0 hdb
      refine mildS_skip (w' := w3) ?_ trivial hj3
      have e0 : f 3 = .map (some b0) := hv0
      have e1 : f 22 = mkS (g0, 2) := hv1
      simp [execOp, evalF, e0, e1]
      exact okUnit hr
    · -- 23: slot 23 := Op.move t0
      refine obS_yes fun f bb w' hj hs hd hp => ?_
      simp [PreO, factO, valOf, Region.binds] at hp hd
      refine ⟨by simp [Gd, valOf, hp], ?_⟩
      refine mildS_val (.pointer (some ⟨gj, 0, none⟩)) (w' := w') ?_ rfl (NJ.other hj (by decide))
      simp [execOp, evalF, hp, go_sem]
    · -- 24: slot 24 := Op.nilCheck t23
      refine obS_yes fun f bb w' hj hs hd hp => ?_
      simp [PreO, factO, valOf, Region.binds] at hp hd
      refine ⟨by simp [Gd, valOf, hp], ?_⟩
      refine mildS_val (.pointer (some ⟨gj, 0, none⟩)) (w' := w') ?_ rfl (NJ.other hj (by decide))
      simp [execOp, evalF, hp, go_sem]
    · -- 25: slot 25 := Op.fieldAddr 29 t24 7
      refine obS_yes fun f bb w' hj hs hd hp => ?_
      simp [PreO, factO, valOf, Region.binds] at hp hd
      refine ⟨by simp [Gd, valOf, hp], ?_⟩
      refine mildS_val (.pointer (some ⟨gj, 7, none⟩)) (w' := w') ?_ rfl (NJ.other hj (by decide))
      simp [execOp, evalF, hp, go_sem]
    · -- 26: slot 26 := Op.build 211 #[(0, t25), (1, const (1:u64)), (2, const (65536:u64))]
      refine obS_yes fun f bb w' hj hs hd hp => ?_
      simp [PreO, factO, valOf, Region.binds] at hp hd
      refine ⟨by simp [Gd, valOf, hp], ?_⟩
      refine mildS_val (.agg #[.pointer (some ⟨gj, 7, none⟩), .int .u64 1, .int .u64 65536]) (w' := w') ?_ rfl (NJ.other hj (by decide))
      simp [execOp, evalF, hp, go_sem]
    · -- 27: slot 27 := Op.move t0
      refine obS_yes fun f bb w' hj hs hd hp => ?_
      simp [PreO, factO, valOf, Region.binds] at hp hd
      refine ⟨by simp [Gd, valOf, hp], ?_⟩
      refine mildS_val (.pointer (some ⟨gj, 0, none⟩)) (w' := w') ?_ rfl (NJ.other hj (by decide))
      simp [execOp, evalF, hp, go_sem]
    · -- 28: slot 28 := Op.nilCheck t27
      refine obS_yes fun f bb w' hj hs hd hp => ?_
      simp [PreO, factO, valOf, Region.binds] at hp hd
      refine ⟨by simp [Gd, valOf, hp], ?_⟩
      refine mildS_val (.pointer (some ⟨gj, 0, none⟩)) (w' := w') ?_ rfl (NJ.other hj (by decide))
      simp [execOp, evalF, hp, go_sem]
    · -- 29: slot 29 := Op.fieldAddr 29 t28 8
      refine obS_yes fun f bb w' hj hs hd hp => ?_
      simp [PreO, factO, valOf, Region.binds] at hp hd
      refine ⟨by simp [Gd, valOf, hp], ?_⟩
      refine mildS_val (.pointer (some ⟨gj, 8, none⟩)) (w' := w') ?_ rfl (NJ.other hj (by decide))
      simp [execOp, evalF, hp, go_sem]
    · -- 30: slot 30 := Op.build 211 #[(0, t29), (1, const (1:u64)), (2, const (65536:u64))]
      refine obS_yes fun f bb w' hj hs hd hp => ?_
      simp [PreO, factO, valOf, Region.binds] at hp hd
      refine ⟨by simp [Gd, valOf, hp], ?_⟩
      refine mildS_val (.agg #[.pointer (some ⟨gj, 8, none⟩), .int .u64 1, .int .u64 65536]) (w' := w') ?_ rfl (NJ.other hj (by decide))
      simp [execOp, evalF, hp, go_sem]
    · -- 31: slot 31 := Op.buildSlice 208 2 #[(0, t26), (1, t30)]
      refine obS_yes fun f bb w' hj hs hd hp => ?_
      simp [PreO, factO, valOf, Region.binds] at hp hd
      refine ⟨by simp [Gd, valOf, hp], ?_⟩
      refine mildS_val (.slice (some ⟨w'.heap.size, 0, none⟩) 2 2) (w' := w'.alloc (.cells #[.pointer (some ⟨gj, 7, none⟩), .int .u64 1, .int .u64 65536, .pointer (some ⟨gj, 8, none⟩), .int .u64 1, .int .u64 65536] 211)) ?_ trivial (NJ.bs hj 3 (by decide) rfl (BoxAt.new_ _ _ _))
      have hr := run_bsNum2 w' (.pointer (some ⟨gj, 7, none⟩)) (.int .u64 1) (.int .u64 65536) (.pointer (some ⟨gj, 8, none⟩)) (.int .u64 1) (.int .u64 65536)
      simp [execOp, evalF, hp, hr]
    · -- 32: slot None := Op.insert 205 t3 (const (Value.string   data := #[98, 105, 97, 115]  )) t31
      refine obS_yes fun f bb w' hj hs hd hp => ?_
      simp [PreO, factO, valOf, Region.binds] at hp hd
      refine ⟨by simp [Gd, valOf, hp], ?_⟩
      have hd0 : bb 0 = true := by first | exact hd.1 | exact hd.2.1 | exact hd.2 | exact hd | simp_all
      have hdb : bb 31 = true := by first | exact hd.1 | exact hd.2.1 | exact hd.2 | exact hd | simp_all
      obtain ⟨b0, g0, w3, hv0, hv1, hr, hj3⟩ := NJ.ins hj 3 (by decide) hs hd0 hdb
      refine mildS_skip (w' := w3) ?_ trivial hj3
      have e0 : f 3 = .map (some b0) := hv0
      have e1 : f 31 = mkS (g0, 2) := hv1
      simp [execOp, evalF, e0, e1]
      exact okUnit hr
    · -- 33: slot 32 := Op.move t0
      refine obS_yes fun f bb w' hj hs hd hp => ?_
      simp [PreO, factO, valOf, Region.binds] at hp hd
      refine ⟨by simp [Gd, valOf, hp], ?_⟩
      refine mildS_val (.pointer (some ⟨gj, 0, none⟩)) (w' := w') ?_ rfl (NJ.other hj (by decide))
      simp [execOp, evalF, hp, go_sem]
    · -- 34: slot 33 := Op.nilCheck t32
      refine obS_yes fun f bb w' hj hs hd hp => ?_
      simp [PreO, factO, valOf, Region.binds] at hp hd
      refine ⟨by simp [Gd, valOf, hp], ?_⟩
      refine mildS_val (.pointer (some ⟨gj, 0, none⟩)) (w' := w') ?_ rfl (NJ.other hj (by decide))
      simp [execOp, evalF, hp, go_sem]
    · -- 35: slot 34 := Op.fieldAddr 29 t33 9
      refine obS_yes fun f bb w' hj hs hd hp => ?_
      simp [PreO, factO, valOf, Region.binds] at hp hd
      refine ⟨by simp [Gd, valOf, hp], ?_⟩
      refine mildS_val (.pointer (some ⟨gj, 9, none⟩)) (w' := w') ?_ rfl (NJ.other hj (by decide))
      simp [execOp, evalF, hp, go_sem]
    · -- 36: slot 35 := Op.build 211 #[(0, t34), (1, const (1:u64)), (2, const (1024:u64))]
      refine obS_yes fun f bb w' hj hs hd hp => ?_
      simp [PreO, factO, valOf, Region.binds] at hp hd
      refine ⟨by simp [Gd, valOf, hp], ?_⟩
      refine mildS_val (.agg #[.pointer (some ⟨gj, 9, none⟩), .int .u64 1, .int .u64 1024]) (w' := w') ?_ rfl (NJ.other hj (by decide))
      simp [execOp, evalF, hp, go_sem]
    · -- 37: slot 36 := Op.buildSlice 208 1 #[(0, t35)]
      refine obS_yes fun f bb w' hj hs hd hp => ?_
      simp [PreO, factO, valOf, Region.binds] at hp hd
      refine ⟨by simp [Gd, valOf, hp], ?_⟩
      refine mildS_val (.slice (some ⟨w'.heap.size, 0, none⟩) 1 1) (w' := w'.alloc (.cells #[.pointer (some ⟨gj, 9, none⟩), .int .u64 1, .int .u64 1024] 211)) ?_ trivial (NJ.bs hj 4 (by decide) rfl (BoxAt.new_ _ _ _))
      have hr := run_bsNum1 w' (.pointer (some ⟨gj, 9, none⟩)) (.int .u64 1) (.int .u64 1024)
      simp [execOp, evalF, hp, hr]
    · -- 38: slot None := Op.insert 205 t3 (const (Value.string   data := #[116, 114, 105, 101, 115]  )) t36
      refine obS_yes fun f bb w' hj hs hd hp => ?_
      simp [PreO, factO, valOf, Region.binds] at hp hd
      refine ⟨by simp [Gd, valOf, hp], ?_⟩
      have hd0 : bb 0 = true := by first | exact hd.1 | exact hd.2.1 | exact hd.2 | exact hd | simp_all
      have hdb : bb 37 = true := by first | exact hd.1 | exact hd.2.1 | exact hd.2 | exact hd | simp_all
      obtain ⟨b0, g0, w3, hv0, hv1, hr, hj3⟩ := NJ.ins hj 4 (by decide) hs hd0 hdb
      refine mildS_skip (w' := w3) ?_ trivial hj3
      have e0 : f 3 = .map (some b0) := hv0
      have e1 : f 36 = mkS (g0, 1) := hv1
      simp [execOp, evalF, e0, e1]
      exact okUnit hr
    · -- 39: slot 37 := Op.move t0
      refine obS_yes fun f bb w' hj hs hd hp => ?_
      simp [PreO, factO, valOf, Region.binds] at hp hd
      refine ⟨by simp [Gd, valOf, hp], ?_⟩
      refine mildS_val (.pointer (some ⟨gj, 0, none⟩)) (w' := w') ?_ rfl (NJ.other hj (by decide))
      simp [execOp, evalF, hp, go_sem]
    · -- 40: slot 38 := Op.nilCheck t37
      refine obS_yes fun f bb w' hj hs hd hp => ?_
      simp [PreO, factO, valOf, Region.binds] at hp hd
      refine ⟨by simp [Gd, valOf, hp], ?_⟩
      refine mildS_val (.pointer (some ⟨gj, 0, none⟩)) (w' := w') ?_ rfl (NJ.other hj (by decide))
      simp [execOp, evalF, hp, go_sem]
    · -- 41: slot 39 := Op.fieldAddr 29 t38 10
      refine obS_yes fun f bb w' hj hs hd hp => ?_
      simp [PreO, factO, valOf, Region.binds] at hp hd
      refine ⟨by simp [Gd, valOf, hp], ?_⟩
      refine mildS_val (.pointer (some ⟨gj, 10, none⟩)) (w' := w') ?_ rfl (NJ.other hj (by decide))
      simp [execOp, evalF, hp, go_sem]
    · -- 42: slot 40 := Op.build 211 #[(0, t39), (1, const (0:u64)), (2, const (1024:u64))]
      refine obS_yes fun f bb w' hj hs hd hp => ?_
      simp [PreO, factO, valOf, Region.binds] at hp hd
      refine ⟨by simp [Gd, valOf, hp], ?_⟩
      refine mildS_val (.agg #[.pointer (some ⟨gj, 10, none⟩), .int .u64 0, .int .u64 1024]) (w' := w') ?_ rfl (NJ.other hj (by decide))
      simp [execOp, evalF, hp, go_sem]
    · -- 43: slot 41 := Op.buildSlice 208 1 #[(0, t40)]
      refine obS_yes fun f bb w' hj hs hd hp => ?_
      simp [PreO, factO, valOf, Region.binds] at hp hd
      refine ⟨by simp [Gd, valOf, hp], ?_⟩
      refine mildS_val (.slice (some ⟨w'.heap.size, 0, none⟩) 1 1) (w' := w'.alloc (.cells #[.pointer (some ⟨gj, 10, none⟩), .int .u64 0, .int .u64 1024] 211)) ?_ trivial (NJ.bs hj 5 (by decide) rfl (BoxAt.new_ _ _ _))
      have hr := run_bsNum1 w' (.pointer (some ⟨gj, 10, none⟩)) (.int .u64 0) (.int .u64 1024)
      simp [execOp, evalF, hp, hr]
    · -- 44: slot None := Op.insert 205 t3 (const (Value.string   data := #[98, 101, 115, 116]  )) t41
      refine obS_yes fun f bb w' hj hs hd hp => ?_
      simp [PreO, factO, valOf, Region.binds] at hp hd
      refine ⟨by simp [Gd, valOf, hp], ?_⟩
      have hd0 : bb 0 = true := by first | exact hd.1 | exact hd.2.1 | exact hd.2 | exact hd | simp_all
      have hdb : bb 43 = true := by first | exact hd.1 | exact hd.2.1 | exact hd.2 | exact hd | simp_all
      obtain ⟨b0, g0, w3, hv0, hv1, hr, hj3⟩ := NJ.ins hj 5 (by decide) hs hd0 hdb
      refine mildS_skip (w' := w3) ?_ trivial hj3
      have e0 : f 3 = .map (some b0) := hv0
      have e1 : f 41 = mkS (g0, 1) := hv1
      simp [execOp, evalF, e0, e1]
      exact okUnit hr
    · -- 45: slot 42 := Op.move t0
      refine obS_yes fun f bb w' hj hs hd hp => ?_
      simp [PreO, factO, valOf, Region.binds] at hp hd
      refine ⟨by simp [Gd, valOf, hp], ?_⟩
      refine mildS_val (.pointer (some ⟨gj, 0, none⟩)) (w' := w') ?_ rfl (NJ.other hj (by decide))
      simp [execOp, evalF, hp, go_sem]
    · -- 46: slot 43 := Op.nilCheck t42
      refine obS_yes fun f bb w' hj hs hd hp => ?_
      simp [PreO, factO, valOf, Region.binds] at hp hd
      refine ⟨by simp [Gd, valOf, hp], ?_⟩
      refine mildS_val (.pointer (some ⟨gj, 0, none⟩)) (w' := w') ?_ rfl (NJ.other hj (by decide))
      simp [execOp, evalF, hp, go_sem]
    · -- 47: slot 44 := Op.fieldAddr 29 t43 11
      refine obS_yes fun f bb w' hj hs hd hp => ?_
      simp [PreO, factO, valOf, Region.binds] at hp hd
      refine ⟨by simp [Gd, valOf, hp], ?_⟩
      refine mildS_val (.pointer (some ⟨gj, 11, none⟩)) (w' := w') ?_ rfl (NJ.other hj (by decide))
      simp [execOp, evalF, hp, go_sem]
    · -- 48: slot 45 := Op.fieldAddr 27 t44 0
      refine obS_yes fun f bb w' hj hs hd hp => ?_
      simp [PreO, factO, valOf, Region.binds] at hp hd
      refine ⟨by simp [Gd, valOf, hp], ?_⟩
      refine mildS_val (.pointer (some ⟨gj, 11, none⟩)) (w' := w') ?_ rfl (NJ.other hj (by decide))
      simp [execOp, evalF, hp, go_sem]
    · -- 49: slot 46 := Op.build 211 #[(0, t45), (1, const (1:u64)), (2, const (65536:u64))]
      refine obS_yes fun f bb w' hj hs hd hp => ?_
      simp [PreO, factO, valOf, Region.binds] at hp hd
      refine ⟨by simp [Gd, valOf, hp], ?_⟩
      refine mildS_val (.agg #[.pointer (some ⟨gj, 11, none⟩), .int .u64 1, .int .u64 65536]) (w' := w') ?_ rfl (NJ.other hj (by decide))
      simp [execOp, evalF, hp, go_sem]
    · -- 50: slot 47 := Op.buildSlice 208 1 #[(0, t46)]
      refine obS_yes fun f bb w' hj hs hd hp => ?_
      simp [PreO, factO, valOf, Region.binds] at hp hd
      refine ⟨by simp [Gd, valOf, hp], ?_⟩
      refine mildS_val (.slice (some ⟨w'.heap.size, 0, none⟩) 1 1) (w' := w'.alloc (.cells #[.pointer (some ⟨gj, 11, none⟩), .int .u64 1, .int .u64 65536] 211)) ?_ trivial (NJ.bs hj 6 (by decide) rfl (BoxAt.new_ _ _ _))
      have hr := run_bsNum1 w' (.pointer (some ⟨gj, 11, none⟩)) (.int .u64 1) (.int .u64 65536)
      simp [execOp, evalF, hp, hr]
    · -- 51: slot None := Op.insert 205 t3 (const (Value.string   data := #[115, 104, 97, 114, 100]  )) t47
      refine obS_yes fun f bb w' hj hs hd hp => ?_
      simp [PreO, factO, valOf, Region.binds] at hp hd
      refine ⟨by simp [Gd, valOf, hp], ?_⟩
      have hd0 : bb 0 = true := by first | exact hd.1 | exact hd.2.1 | exact hd.2 | exact hd | simp_all
      have hdb : bb 50 = true := by first | exact hd.1 | exact hd.2.1 | exact hd.2 | exact hd | simp_all
      obtain ⟨b0, g0, w3, hv0, hv1, hr, hj3⟩ := NJ.ins hj 6 (by decide) hs hd0 hdb
      refine mildS_skip (w' := w3) ?_ trivial hj3
      have e0 : f 3 = .map (some b0) := hv0
      have e1 : f 47 = mkS (g0, 1) := hv1
      simp [execOp, evalF, e0, e1]
      exact okUnit hr
    · -- 52: slot 48 := Op.move t0
      refine obS_yes fun f bb w' hj hs hd hp => ?_
      simp [PreO, factO, valOf, Region.binds] at hp hd
      refine ⟨by simp [Gd, valOf, hp], ?_⟩
      refine mildS_val (.pointer (some ⟨gj, 0, none⟩)) (w' := w') ?_ rfl (NJ.other hj (by decide))
      simp [execOp, evalF, hp, go_sem]
    · -- 53: slot 49 := Op.nilCheck t48
      refine obS_yes fun f bb w' hj hs hd hp => ?_
      simp [PreO, factO, valOf, Region.binds] at hp hd
      refine ⟨by simp [Gd, valOf, hp], ?_⟩
      refine mildS_val (.pointer (some ⟨gj, 0, none⟩)) (w' := w') ?_ rfl (NJ.other hj (by decide))
      simp [execOp, evalF, hp, go_sem]
    · -- 54: slot 50 := Op.fieldAddr 29 t49 11
      refine obS_yes fun f bb w' hj hs hd hp => ?_
      simp [PreO, factO, valOf, Region.binds] at hp hd
      refine ⟨by simp [Gd, valOf, hp], ?_⟩
      refine mildS_val (.pointer (some ⟨gj, 11, none⟩)) (w' := w') ?_ rfl (NJ.other hj (by decide))
      simp [execOp, evalF, hp, go_sem]
    · -- 55: slot 51 := Op.fieldAddr 27 t50 1
      refine obS_yes fun f bb w' hj hs hd hp => ?_
      simp [PreO, factO, valOf, Region.binds] at hp hd
      refine ⟨by simp [Gd, valOf, hp], ?_⟩
      refine mildS_val (.pointer (some ⟨gj, 12, none⟩)) (w' := w') ?_ rfl (NJ.other hj (by decide))
      simp [execOp, evalF, hp, go_sem]
    · -- 56: slot 52 := Op.build 211 #[(0, t51), (1, const (1:u64)), (2, const (16777216:u64))]
      refine obS_yes fun f bb w' hj hs hd hp => ?_
      simp [PreO, factO, valOf, Region.binds] at hp hd
      refine ⟨by simp [Gd, valOf, hp], ?_⟩
      refine mildS_val (.agg #[.pointer (some ⟨gj, 12, none⟩), .int .u64 1, .int .u64 16777216]) (w' := w') ?_ rfl (NJ.other hj (by decide))
      simp [execOp, evalF, hp, go_sem]
    · -- 57: slot 53 := Op.buildSlice 208 1 #[(0, t52)]
      refine obS_yes fun f bb w' hj hs hd hp => ?_
      simp [PreO, factO, valOf, Region.binds] at hp hd
      refine ⟨by simp [Gd, valOf, hp], ?_⟩
      refine mildS_val (.slice (some ⟨w'.heap.size, 0, none⟩) 1 1) (w' := w'.alloc (.cells #[.pointer (some ⟨gj, 12, none⟩), .int .u64 1, .int .u64 16777216] 211)) ?_ trivial (NJ.bs hj 7 (by decide) rfl (BoxAt.new_ _ _ _))
      have hr := run_bsNum1 w' (.pointer (some ⟨gj, 12, none⟩)) (.int .u64 1) (.int .u64 16777216)
      simp [execOp, evalF, hp, hr]
    · -- 58: slot None := Op.insert 205 t3 (const (Value.string   data := #[114, 111, 111, 109]  )) t53
      refine obS_yes fun f bb w' hj hs hd hp => ?_
      simp [PreO, factO, valOf, Region.binds] at hp hd
      refine ⟨by simp [Gd, valOf, hp], ?_⟩
      have hd0 : bb 0 = true := by first | exact hd.1 | exact hd.2.1 | exact hd.2 | exact hd | simp_all
      have hdb : bb 57 = true := by first | exact hd.1 | exact hd.2.1 | exact hd.2 | exact hd | simp_all
      obtain ⟨b0, g0, w3, hv0, hv1, hr, hj3⟩ := NJ.ins hj 7 (by decide) hs hd0 hdb
      refine mildS_skip (w' := w3) ?_ trivial hj3
      have e0 : f 3 = .map (some b0) := hv0
      have e1 : f 53 = mkS (g0, 1) := hv1
      simp [execOp, evalF, e0, e1]
      exact okUnit hr
    · -- 59: slot 54 := Op.move t0
      refine obS_yes fun f bb w' hj hs hd hp => ?_
      simp [PreO, factO, valOf, Region.binds] at hp hd
      refine ⟨by simp [Gd, valOf, hp], ?_⟩
      refine mildS_val (.pointer (some ⟨gj, 0, none⟩)) (w' := w') ?_ rfl (NJ.other hj (by decide))
      simp [execOp, evalF, hp, go_sem]
    · -- 60: slot 55 := Op.nilCheck t54
      refine obS_yes fun f bb w' hj hs hd hp => ?_
      simp [PreO, factO, valOf, Region.binds] at hp hd
      refine ⟨by simp [Gd, valOf, hp], ?_⟩
      refine mildS_val (.pointer (some ⟨gj, 0, none⟩)) (w' := w') ?_ rfl (NJ.other hj (by decide))
      simp [execOp, evalF, hp, go_sem]
    · -- 61: slot 56 := Op.fieldAddr 29 t55 11
      refine obS_yes fun f bb w' hj hs hd hp => ?_
      simp [PreO, factO, valOf, Region.binds] at hp hd
      refine ⟨by simp [Gd, valOf, hp], ?_⟩
      refine mildS_val (.pointer (some ⟨gj, 11, none⟩)) (w' := w') ?_ rfl (NJ.other hj (by decide))
      simp [execOp, evalF, hp, go_sem]
    · -- 62: slot 57 := Op.fieldAddr 27 t56 2
      refine obS_yes fun f bb w' hj hs hd hp => ?_
      simp [PreO, factO, valOf, Region.binds] at hp hd
      refine ⟨by simp [Gd, valOf, hp], ?_⟩
      refine mildS_val (.pointer (some ⟨gj, 13, none⟩)) (w' := w') ?_ rfl (NJ.other hj (by decide))
      simp [execOp, evalF, hp, go_sem]
    · -- 63: slot 58 := Op.build 211 #[(0, t57), (1, const (2:u64)), (2, const (65536:u64))]
      refine obS_yes fun f bb w' hj hs hd hp => ?_
      simp [PreO, factO, valOf, Region.binds] at hp hd
      refine ⟨by simp [Gd, valOf, hp], ?_⟩
      refine mildS_val (.agg #[.pointer (some ⟨gj, 13, none⟩), .int .u64 2, .int .u64 65536]) (w' := w') ?_ rfl (NJ.other hj (by decide))
      simp [execOp, evalF, hp, go_sem]
    · -- 64: slot 59 := Op.buildSlice 208 1 #[(0, t58)]
      refine obS_yes fun f bb w' hj hs hd hp => ?_
      simp [PreO, factO, valOf, Region.binds] at hp hd
      refine ⟨by simp [Gd, valOf, hp], ?_⟩
      refine mildS_val (.slice (some ⟨w'.heap.size, 0, none⟩) 1 1) (w' := w'.alloc (.cells #[.pointer (some ⟨gj, 13, none⟩), .int .u64 2, .int .u64 65536] 211)) ?_ trivial (NJ.bs hj 8 (by decide) rfl (BoxAt.new_ _ _ _))
      have hr := run_bsNum1 w' (.pointer (some ⟨gj, 13, none⟩)) (.int .u64 2) (.int .u64 65536)
      simp [execOp, evalF, hp, hr]
    · -- 65: slot None := Op.insert 205 t3 (const (Value.string   data := #[112, 111, 111, 108]  )) t59
      refine obS_yes fun f bb w' hj hs hd hp => ?_
      simp [PreO, factO, valOf, Region.binds] at hp hd
      refine ⟨by simp [Gd, valOf, hp], ?_⟩
      have hd0 : bb 0 = true := by first | exact hd.1 | exact hd.2.1 | exact hd.2 | exact hd | simp_all
      have hdb : bb 64 = true := by first | exact hd.1 | exact hd.2.1 | exact hd.2 | exact hd | simp_all
      obtain ⟨b0, g0, w3, hv0, hv1, hr, hj3⟩ := NJ.ins hj 8 (by decide) hs hd0 hdb
      refine mildS_skip (w' := w3) ?_ trivial hj3
      have e0 : f 3 = .map (some b0) := hv0
      have e1 : f 59 = mkS (g0, 1) := hv1
      simp [execOp, evalF, e0, e1]
      exact okUnit hr
    · -- 66: slot 60 := Op.move t0
      refine obS_yes fun f bb w' hj hs hd hp => ?_
      simp [PreO, factO, valOf, Region.binds] at hp hd
      refine ⟨by simp [Gd, valOf, hp], ?_⟩
      refine mildS_val (.pointer (some ⟨gj, 0, none⟩)) (w' := w') ?_ rfl (NJ.other hj (by decide))
      simp [execOp, evalF, hp, go_sem]
    · -- 67: slot 61 := Op.nilCheck t60
      refine obS_yes fun f bb w' hj hs hd hp => ?_
      simp [PreO, factO, valOf, Region.binds] at hp hd
      refine ⟨by simp [Gd, valOf, hp], ?_⟩
      refine mildS_val (.pointer (some ⟨gj, 0, none⟩)) (w' := w') ?_ rfl (NJ.other hj (by decide))
      simp [execOp, evalF, hp, go_sem]
    · -- 68: slot 62 := Op.fieldAddr 29 t61 11
      refine obS_yes fun f bb w' hj hs hd hp => ?_
      simp [PreO, factO, valOf, Region.binds] at hp hd
      refine ⟨by simp [Gd, valOf, hp], ?_⟩
      refine mildS_val (.pointer (some ⟨gj, 11, none⟩)) (w' := w') ?_ rfl (NJ.other hj (by decide))
      simp [execOp, evalF, hp, go_sem]
    · -- 69: slot 63 := Op.fieldAddr 27 t62 3
      refine obS_yes fun f bb w' hj hs hd hp => ?_
      simp [PreO, factO, valOf, Region.binds] at hp hd
      refine ⟨by simp [Gd, valOf, hp], ?_⟩
      refine mildS_val (.pointer (some ⟨gj, 14, none⟩)) (w' := w') ?_ rfl (NJ.other hj (by decide))
      simp [execOp, evalF, hp, go_sem]
    · -- 70: slot 64 := Op.build 211 #[(0, t63), (1, const (1:u64)), (2, const (4096:u64))]
      refine obS_yes fun f bb w' hj hs hd hp => ?_
      simp [PreO, factO, valOf, Region.binds] at hp hd
      refine ⟨by simp [Gd, valOf, hp], ?_⟩
      refine mildS_val (.agg #[.pointer (some ⟨gj, 14, none⟩), .int .u64 1, .int .u64 4096]) (w' := w') ?_ rfl (NJ.other hj (by decide))
      simp [execOp, evalF, hp, go_sem]
    · -- 71: slot 65 := Op.buildSlice 208 1 #[(0, t64)]
      refine obS_yes fun f bb w' hj hs hd hp => ?_
      simp [PreO, factO, valOf, Region.binds] at hp hd
      refine ⟨by simp [Gd, valOf, hp], ?_⟩
      refine mildS_val (.slice (some ⟨w'.heap.size, 0, none⟩) 1 1) (w' := w'.alloc (.cells #[.pointer (some ⟨gj, 14, none⟩), .int .u64 1, .int .u64 4096] 211)) ?_ trivial (NJ.bs hj 9 (by decide) rfl (BoxAt.new_ _ _ _))
      have hr := run_bsNum1 w' (.pointer (some ⟨gj, 14, none⟩)) (.int .u64 1) (.int .u64 4096)
      simp [execOp, evalF, hp, hr]
    · -- 72: slot None := Op.insert 205 t3 (const (Value.string   data := #[115, 111, 114, 116]  )) t65
      refine obS_yes fun f bb w' hj hs hd hp => ?_
      simp [PreO, factO, valOf, Region.binds] at hp hd
      refine ⟨by simp [Gd, valOf, hp], ?_⟩
      have hd0 : bb 0 = true := by first | exact hd.1 | exact hd.2.1 | exact hd.2 | exact hd | simp_all
      have hdb : bb 71 = true := by first | exact hd.1 | exact hd.2.1 | exact hd.2 | exact hd | simp_all
      obtain ⟨b0, g0, w3, hv0, hv1, hr, hj3⟩ := NJ.ins hj 9 (by decide) hs hd0 hdb
      refine mildS_skip (w' := w3) ?_ trivial hj3
      have e0 : f 3 = .map (some b0) := hv0
      have e1 : f 65 = mkS (g0, 1) := hv1
      simp [execOp, evalF, e0, e1]
      exact okUnit hr
    · -- 73: slot 66 := Op.move t3
      refine obS_yes fun f bb w' hj hs hd hp => ?_
      simp [PreO, factO, valOf, Region.binds] at hp hd
      refine ⟨by simp [Gd, valOf, hp], ?_⟩
      have hd0 : bb 0 = true := by first | exact hd.1 | exact hd.2.1 | exact hd.2 | exact hd | simp_all
      exact mildS_val (f 3) (by simp [execOp, evalF]) trivial (NJ.mv73 hj hd0 rfl)
    · -- 74: slot 2 := Op.assign t66
      refine obS_yes fun f bb w' hj hs hd hp => ?_
      simp [PreO, factO, valOf, Region.binds] at hp hd
      refine ⟨by simp [Gd, valOf, hp], ?_⟩
      have hd0 : bb 73 = true := by first | exact hd.1 | exact hd.2.1 | exact hd.2 | exact hd | simp_all
      exact mildS_val (f 66) (by simp [execOp, evalF]) trivial (NJ.mv74 hj hd0 rfl)
  · intro f bb wd hall hj hp
    simp only [PostO] at hp
    obtain ⟨_, e1, e2, e3, e4, _, _, e7, e8, e9, e10, _, _, e13, e14, e15, e16, e17, e18, e19, e20, _, _, e23, e24, e25, e26, e27, e28, e29, e30, _, _, e33, e34, e35, e36, _, _, e39, e40, e41, e42, _, _, e45, e46, e47, e48, e49, _, _, e52, e53, e54, e55, e56, _, _, e59, e60, e61, e62, e63, _, _, e66, e67, e68, e69, e70, _, _, _, _, _⟩ := hp
    simp only [fills, List.foldl_cons, List.foldl_nil, Act.put, List.setIfInBounds_toArray, List.set_cons_zero, List.set_cons_succ, e1, e2, e3, e4, e7, e8, e9, e10, e13, e14, e15, e16, e17, e18, e19, e20, e23, e24, e25, e26, e27, e28, e29, e30, e33, e34, e35, e36, e39, e40, e41, e42, e45, e46, e47, e48, e49, e52, e53, e54, e55, e56, e59, e60, e61, e62, e63, e66, e67, e68, e69, e70]
    clear e1 e2 e3 e4 e7 e8 e9 e10 e13 e14 e15 e16 e17 e18 e19 e20 e23 e24 e25 e26 e27 e28 e29 e30 e33 e34 e35 e36 e39 e40 e41 e42 e45 e46 e47 e48 e49 e52 e53 e54 e55 e56 e59 e60 e61 e62 e63 e66 e67 e68 e69 e70
    try simp only [List.drop_succ_cons, List.drop_zero]
    obtain ⟨b, eb, hbb, hm⟩ := hj.map (hall 0 (by decide))
    have e2 := (hj.m2 (hall 74 (by decide))).2.trans ((hj.m1 (hall 73 (by decide))).2.trans eb)
    have hm' : NumMap wd b gj (fun x => ∃ i, i < 10 ∧ x = spI i) 10 := hm.cast (fun x => by
      constructor
      · rintro ⟨i, hi, e⟩
        exact ⟨i, hi, hall _ (Nat.lt_of_lt_of_le (insI_lt i hi) (by decide)), e⟩
      · rintro ⟨i, hi, _, e⟩
        exact ⟨i, hi, e⟩) (by
      have : cntB bb = cntB (fun _ => true) := cntB_congr fun i hi => hall _ (Nat.lt_of_lt_of_le (insI_lt i hi) (by decide))
      rw [this]
      rfl)
    have hbl := hj.bl
    have e2' : f 2 = .map (some b) := e2
    have HM := Lib.hid hm'
    have HB := Lib.hid hbl
    clear hj hall hm hm' hbl eb e2
    rw [e2']
    change wpList _ _ _ [] _ _
    go_wp2_with fail
    go_ret
    exact ⟨b, rfl, hbb, HM.out, HB.out⟩
end Go.Proofs.YtcffeepgfjpcaaaGreat

namespace Go.Proofs.YtcffeepgfjpcaaaGreat
set_option linter.unusedSimpArgs false
set_option linter.unusedVariables false
open Go.RowKit

def cU32 : Cdc UInt32 := Cdc.flat 1 (fun b => [.int .u32 (b.toNat : Int)]) (fun _ => True) (fun _ => rfl) (fun x u hu => by simp at hu; subst hu; rfl)
theorem infoU32 : (Tryz.prog.info? 24).map (fun i => (i.zero, i.size, i.bytes)) = some (some (.int .u32 0), cU32.n, 4) := by kernel_rfl
abbrev ByU (w : World) (B : Nat) (v : Value) (l : List UInt32) : Prop := RowOn cU32 w (fun k => k < B) (fun k => k < B) v l
theorem ByU.below {w w' : World} {B : Nat} {v : Value} {l : List UInt32} (h : ByU w B v l) (hb : Below B w w') : ByU w' B v l := h.keep (fun p hp => hb.cell hp) (fun p hp => hb.cell hp)
theorem ByU.more {w : World} {B B' : Nat} {v : Value} {l : List UInt32} (h : ByU w B v l) (hB : B ≤ B') : ByU w B' v l := h.mono (fun _ hk => by omega) fun _ hk => by omega
theorem ByU.cells {w : World} {B : Nat} {A : Option Addr} {n c : Nat} {l : List UInt32} (h : ByU w B (.slice A n c) l) (k : Nat) (hk : k < l.length) : ∃ ad, A = some ad ∧ ad.block < B ∧ w.cell? (ad.add k) = some (.int .u32 ((l[k]).toNat : Int)) := by
  obtain ⟨ad, cs, e, hb, ⟨rfl, _⟩, hc⟩ := h.at_ k l[k] (List.getElem?_eq_getElem hk)
  have := hc 0 _ rfl
  simp only [cU32, Cdc.flat, Nat.mul_one, Nat.add_zero] at this
  exact ⟨ad, e, hb, this⟩
theorem OwnU.empty (W : World) (g base : Nat) (hg : W.heap.size = g) (hb : base ≤ g) : OwnF 24 cU32 (W.alloc (.cells #[] 24)) base (.slice (some ⟨g, 0, none⟩) 0 0) [] := by
  subst hg
  exact (OwnR.new_ (xs := ([] : List UInt32)) (S := fun _ => False) W [] rfl (by simp) (fun i cs x h => by simp at h) (fun _ h => h.elim)).more hb
set_option maxHeartbeats 800000 in
theorem cloneU (w : World) (v : Value) (l : List UInt32) (h : ByU w w.heap.size v l) (hsz : l.length ≤ 4294967296) :
    Calls Tryz.prog 126 #[v] w fun e w' => ∃ v', e = .returned v' ∧ OwnF 24 cU32 w' w.heap.size v' l ∧ Below w.heap.size w w' := by
  have hn := eqnil 25 24 Tryz.underlying25
  have hby2 : RowOn cU32 (w.alloc (.cells #[] 24)) (fun k => k < w.heap.size) (fun _ => False) v l := (h.below (balloc w _)).mono (fun _ h => h) (fun _ h => h) |> fun h => by
    obtain ⟨A, c, h1, h2, h3, h4⟩ := h
    exact ⟨A, c, h1, h2, h3, h4⟩
  obtain ⟨A, c, rfl, hc1, hc2⟩ := h.form
  unfold maxLen at hc2
  cases A with
  | none =>
    have h0 : l = [] := by
      cases l with
      | nil => rfl
      | cons a t =>
        obtain ⟨ad, _, e, _⟩ := h.at_ 0 a rfl
        cases e
    subst h0
    go_enter Tryz.func126, Tryz.ntmps126
    go_wp2
    go_ret
    exact ⟨_, rfl, OwnF.nil_ _ _, Below.refl _ _⟩
  | some ad =>
    go_enter Tryz.func126, Tryz.ntmps126
    go_wp2_with (first
      | (at_builtin
         refine wpList_appR rfl (.tmp 5) (.tmp 6) 25 rfl Tryz.underlying25 infoU32 rfl (by decide) (by decide) (OwnU.empty w w.heap.size w.heap.size rfl (Nat.le_refl _)) hby2 rfl rfl (by simp; omega) (by simp) ?_
         intro v1 w1 hown1 hext1))
    go_ret
    exact ⟨_, rfl, by simpa using hown1, ((Below.refl _ _).alloc (Nat.le_refl _) _).trans (hext1.below (by simp) (by simp [Value.ownBlock]))⟩

set_option maxRecDepth 100000 in
set_option maxHeartbeats 1600000 in
theorem compactU (w : World) (B : Nat) (v : Value) (l : List UInt32) (h : ByU w B v l) (hl : l.length ≤ 1048576) (hne : ∀ i, (hi : i + 1 < l.length) → l[i + 1] ≠ l[i]) :
    Calls Tryz.prog 128 #[v] w fun e w' => e = .returned v ∧ ∃ q, w' = w.drewN q := by
  obtain ⟨A, c, rfl, hc1, hc2⟩ := h.form
  unfold maxLen at hc2
  have Hne := Lib.hid hne
  clear hne
  by_cases h2 : l.length < 2
  · have hd : decide ((l.length : Int) < 2) = true := decide_eq_true (by omega)
    go_enter Tryz.func128, Tryz.ntmps128
    go_wp2_with fail
    go_ret
    exact ⟨rfl, 0, rfl⟩
  · have hd : decide ((l.length : Int) < 2) = false := decide_eq_false (by omega)
    go_enter Tryz.func128, Tryz.ntmps128
    go_wp2_with fail
    go_loopw [3] (fun iv wr => ∃ k q : Nat, 1 ≤ k ∧ k ≤ l.length ∧ iv = .int .i64 k ∧ wr = w.drewN q) (fun iv _ => l.length - (intOf iv).toNat)
    case atStart => exact ⟨1, 0, by omega, by omega, rfl, rfl⟩
    case round =>
      obtain ⟨k, q, hk1, hk, rfl, rfl⟩ := hrel
      by_cases hlt : k < l.length
      · obtain ⟨m, hkm⟩ : ∃ m, k = m + 1 := ⟨k - 1, by omega⟩
        have hdk : decide ((k : Int) < (l.length : Int)) = true := decide_eq_true (by omega)
        have he : ((k : Int) - 1) = (m : Int) := by omega
        obtain ⟨ad, rfl, hab, hx0⟩ := h.cells k hlt
        obtain ⟨ad2, e, _, hx1⟩ := h.cells m (by omega)
        injection e with e
        subst e
        have hn := Hne.out m (by omega)
        have hn2 : (l[k]).toNat ≠ (l[m]).toNat := fun e => hn (by have := UInt32.toNat_inj.1 e; subst hkm; exact this)
        have hb1 := u32_lt l[k]
        have hb2 := u32_lt l[m]
        have hml : m < l.length := by omega
        clear hn
        generalize (l[k]).toNat = a at *
        generalize (l[m]).toNat = b at *
        have hq : ((a : Int) == (b : Int)) = false := beq_eq_false_iff_ne.2 (by omega)
        have Hkm := Lib.hid hkm
        clear hkm
        go_wp2_with fail
        go_quiet (fail)
        go_wp2_with fail
        go_roundw
        case rel => exact ⟨k + 1, q + nq, by omega, by omega, by go_num, by simp⟩
        case measure => simp [intOf]; omega
      · have hdk : decide ((k : Int) < (l.length : Int)) = false := decide_eq_false (by omega)
        go_wp2_with fail
        go_ret
        exact ⟨rfl, q, rfl⟩
end Go.Proofs.YtcffeepgfjpcaaaGreat

namespace Go.Proofs.YtcffeepgfjpcaaaGreat
set_option linter.unusedSimpArgs false
set_option linter.unusedVariables false
open Go.RowKit Go.Maps

structure GJob where
  kind : UInt8
  seed : UInt64
  len : UInt32
  walks : UInt32
  srcs : List UInt32
  stop : UInt32
  of_ : UInt32
  p : UInt32
  q : UInt32
  tries : UInt32
  best : UInt32
  shard : UInt32
  room : UInt32
  pool : UInt32
  sort : UInt32
def jobC (j : GJob) (v : Value) : List Value := [.int .u8 (j.kind.toNat : Int), .int .u64 (j.seed.toNat : Int), .int .u32 (j.len.toNat : Int), .int .u32 (j.walks.toNat : Int), v, .int .u32 (j.stop.toNat : Int), .int .u32 (j.of_.toNat : Int),
  .int .u32 (j.p.toNat : Int), .int .u32 (j.q.toNat : Int), .int .u32 (j.tries.toNat : Int), .int .u32 (j.best.toNat : Int), .int .u32 (j.shard.toNat : Int), .int .u32 (j.room.toNat : Int), .int .u32 (j.pool.toNat : Int), .int .u32 (j.sort.toNat : Int)]
def jobN (j : GJob) (o : Nat) : Nat := [0, 0, j.len.toNat, j.walks.toNat, 0, j.stop.toNat, j.of_.toNat, j.p.toNat, j.q.toNat, j.tries.toNat, j.best.toNat, j.shard.toNat, j.room.toNat, j.pool.toNat, j.sort.toNat].getD o 0
def JobAt (w : World) (B : Nat) (v : Value) (j : GJob) : Prop := ∃ vs, v = .agg (jobC j vs).toArray ∧ ByU w B vs j.srcs
theorem JobAt.below {w w' : World} {B : Nat} {v : Value} {j : GJob} (h : JobAt w B v j) (hb : Below B w w') : JobAt w' B v j := by obtain ⟨vs, e, h⟩ := h; exact ⟨vs, e, h.below hb⟩
theorem JobAt.more {w : World} {B B' : Nat} {v : Value} {j : GJob} (h : JobAt w B v j) (hB : B ≤ B') : JobAt w B' v j := by obtain ⟨vs, e, h⟩ := h; exact ⟨vs, e, h.more hB⟩
theorem JobAt.step {w w' : World} {v : Value} {j : GJob} (h : JobAt w w.heap.size v j) (hb : Below w.heap.size w w') : JobAt w' w'.heap.size v j := (h.below hb).more hb.size
def specOk (j : GJob) (x : Nat × Nat × Nat) : Bool := decide (x.2.1 ≤ jobN j x.1) && decide (jobN j x.1 ≤ x.2.2)
def numsOk (j : GJob) : Bool := (List.range 10).all fun i => (spI i).l.all (specOk j)
/-- may a job whose sources are all different be? -/
def mayJ (j : GJob) : Bool := decide (j.kind.toNat < 3) && (decide (j.stop.toNat ≤ j.of_.toNat) && (decide (0 < j.srcs.length) && (decide (j.srcs.length ≤ 256) && numsOk j)))
/-- slices.Sort hands back a permutation of these -/
def SortOk (l : List UInt32) : Prop := ∀ (W : World) (base : Nat) (v : Value), OwnF 24 cU32 W base v l → base ≤ W.heap.size →
  Calls Tryz.prog 127 #[v] W fun e w' => e = .returned (.tuple #[]) ∧ ∃ l' : List UInt32, l'.Perm l ∧ OwnF 24 cU32 w' base v l' ∧ Chg (fun k => v.ownBlock = some k) W w'
theorem infoS3 : (Tryz.prog.info? 203).map (fun i => (i.zero, i.size, i.bytes)) = some (some (.agg #[.string ⟨#[]⟩, .string ⟨#[]⟩, .string ⟨#[]⟩]), 3, 48) := by kernel_rfl
theorem infoS33 : (Tryz.prog.info? 203).map (·.size) = some 3 := by kernel_rfl
set_option maxRecDepth 100000 in
set_option maxHeartbeats 800000 in
theorem kinds_any (w : World) : Calls Tryz.prog 124 #[] w fun e w' => ∃ v, e = .returned v ∧ Below w.heap.size w w' := by
  have Hone : Hid (∀ u ∈ ([.string { data := #[102, 105, 120, 101, 100] }, .string { data := #[114, 101, 115, 116, 97, 114, 116] }, .string { data := #[115, 101, 99, 111, 110, 100] }] : List Value), u.oneCell' = true) := Lib.hid fun u hu => by
    simp at hu
    rcases hu with rfl | rfl | rfl <;> rfl
  go_enter Tryz.func124, Tryz.ntmps124
  go_wp2_with (first
    | (refine wpList_alloc_z rfl 203 rfl infoS3 [.string ⟨#[]⟩, .string ⟨#[]⟩, .string ⟨#[]⟩] rfl ?_)
    | (refine wpList_store_newX rfl 203 (.tmp 0) (.tmp 1) rfl [.string ⟨#[]⟩, .string ⟨#[]⟩, .string ⟨#[]⟩] [.string { data := #[102, 105, 120, 101, 100] }, .string { data := #[114, 101, 115, 116, 97, 114, 116] }, .string { data := #[115, 101, 99, 111, 110, 100] }] rfl rfl infoS33 rfl Hone.out ?_
       intro w4 hbx4 hb4 hz4))
  refine bodyPost_ret (results_c rfl _ _ w.heap.size [.string { data := #[102, 105, 120, 101, 100] }, .string { data := #[114, 101, 115, 116, 97, 114, 116] }, .string { data := #[115, 101, 99, 111, 110, 100] }] rfl (fun j v hj => (hbx4.cells j v hj : _)) Tryz.underlying203 rfl infoS33) rfl ?_
  exact ⟨_, rfl, hb4⟩
end Go.Proofs.YtcffeepgfjpcaaaGreat

namespace Go.Proofs.YtcffeepgfjpcaaaGreat
set_option linter.unusedSimpArgs false
set_option linter.unusedVariables false
open Go.RowKit Go.Maps

theorem specC_at (gj : Nat) : ∀ (l : List (Nat × Nat × Nat)) (k : Nat) (hk : k < l.length), (specC gj l)[3 * k]? = some (.pointer (some ⟨gj, (l[k]).1, none⟩)) ∧ (specC gj l)[3 * k + 1]? = some (.int .u64 ((l[k]).2.1 : Int)) ∧ (specC gj l)[3 * k + 2]? = some (.int .u64 ((l[k]).2.2 : Int))
  | [], k, hk => absurd hk (by simp)
  | x :: l, 0, hk => by simp [specC]
  | x :: l, k + 1, hk => by
    have := specC_at gj l k (by simpa using hk)
    have e : ∀ n, (specC gj (x :: l))[n + 3]? = (specC gj l)[n]? := fun n => by simp [specC]
    rw [show 3 * (k + 1) = 3 * k + 3 from by omega, show 3 * k + 3 + 1 = (3 * k + 1) + 3 from by omega, show 3 * k + 3 + 2 = (3 * k + 2) + 3 from by omega, e, e, e]
    simpa using this
theorem spI_ok : ∀ i, i < 10 → ∀ e ∈ (spI i).l, e.1 < 15 ∧ 2 ≤ e.1 ∧ e.1 ≠ 4 ∧ e.2.1 < 4294967296 ∧ e.2.2 < 4294967296 := by decide
theorem spI_two : ∀ i, i < 10 → (spI i).l.length ≤ 2 := by decide
theorem jobC_at (j : GJob) (v : Value) : ∀ o, o < 15 → 2 ≤ o → o ≠ 4 → (jobC j v)[o]? = some (.int .u32 (jobN j o : Int)) := by
  intro o h1 h2 h3
  match o, h1, h2, h3 with
  | 2, _, _, _ | 3, _, _, _ | 5, _, _, _ | 6, _, _, _ | 7, _, _, _ | 8, _, _, _ | 9, _, _, _ | 10, _, _, _ | 11, _, _, _ | 12, _, _, _ | 13, _, _, _ | 14, _, _, _ => rfl
  | 0, _, h, _ | 1, _, h, _ => exact absurd h (by decide)
  | 4, _, _, h => exact absurd rfl h
theorem jobN_lt (j : GJob) (o : Nat) : jobN j o < 4294967296 := by
  unfold jobN
  rcases Nat.lt_or_ge o 15 with h | h
  · match o, h with
    | 0, _ | 1, _ | 4, _ => show (0 : Nat) < _; decide
    | 2, _ | 3, _ | 5, _ | 6, _ | 7, _ | 8, _ | 9, _ | 10, _ | 11, _ | 12, _ | 13, _ | 14, _ => exact u32_lt _
  · simp [List.getD, List.getElem?_eq_none, h]
theorem sameKey_str {a b : List UInt8} (h : Lit.sameKey (.string a) (.string b) = true) : a = b := by simpa [Lit.sameKey] using h
set_option maxRecDepth 100000 in
set_option maxHeartbeats 3200000 in
theorem may_jobAny (w : World) (v : Value) (j : GJob) (h : JobAt w w.heap.size v j) (hnd : j.srcs.Nodup) (hs : SortOk j.srcs) :
    Calls Tryz.prog 115 #[v] w fun e w' => e = .returned (.bool (mayJ j)) ∧ Below w.heap.size w w' := by
  obtain ⟨vs, rfl, hby⟩ := h
  obtain ⟨A, c, rfl, hc1, hc2⟩ := hby.form
  unfold maxLen at hc2
  obtain ⟨n, hn⟩ : ∃ n, n = j.srcs.length := ⟨_, rfl⟩
  obtain ⟨w1, hw1⟩ : ∃ w1, w1 = w.alloc (.cells (jobC j (.slice A j.srcs.length c)).toArray 29) := ⟨_, rfl⟩
  have hb1 : Below w.heap.size w w1 := by rw [hw1]; exact balloc _ _
  have hx1 : BoxAt 29 w1 w.heap.size (jobC j (.slice A j.srcs.length c)) := by rw [hw1]; exact BoxAt.new_ _ _ _
  have hz1 : w1.heap.size = w.heap.size + 1 := by rw [hw1]; simp
  have Hby1 := Lib.hid (hby.below hb1)
  have Hb1 := Lib.hid hb1
  have Hs := Lib.hid hs
  have Hnd := Lib.hid hnd
  obtain ⟨m, hm⟩ : ∃ m, m = mayJ j := ⟨_, rfl⟩
  rw [← hm]
  unfold mayJ at hm
  have hk8 := u8_lt j.kind
  have hst := u32_lt j.stop
  have hso := u32_lt j.of_
  go_enter Tryz.func115, Tryz.ntmps115
  go_upto_region 1 with fail
  rw [← hw1]
  clear hb1 hby hs hnd hw1
  rw [← hn] at hm Hby1 hx1 hc1
  obtain ⟨kd, hkd⟩ : ∃ kd, kd = j.kind.toNat := ⟨_, rfl⟩
  obtain ⟨st, hst'⟩ : ∃ st, st = j.stop.toNat := ⟨_, rfl⟩
  obtain ⟨so, hso'⟩ : ∃ so, so = j.of_.toNat := ⟨_, rfl⟩
  have hx2 : BoxAt 29 w1 w.heap.size [.int .u8 (kd : Int), .int .u64 (j.seed.toNat : Int), .int .u32 (j.len.toNat : Int), .int .u32 (j.walks.toNat : Int), .slice A n c, .int .u32 (st : Int), .int .u32 (so : Int),
      .int .u32 (j.p.toNat : Int), .int .u32 (j.q.toNat : Int), .int .u32 (j.tries.toNat : Int), .int .u32 (j.best.toNat : Int), .int .u32 (j.shard.toNat : Int), .int .u32 (j.room.toNat : Int), .int .u32 (j.pool.toNat : Int), .int .u32 (j.sort.toNat : Int)] := by
    rw [hkd, hst', hso']
    exact hx1
  have X1 := Lib.hid hx2
  have HJC : Hid (jobC j (.slice A n c) = [.int .u8 (kd : Int), .int .u64 (j.seed.toNat : Int), .int .u32 (j.len.toNat : Int), .int .u32 (j.walks.toNat : Int), .slice A n c, .int .u32 (st : Int), .int .u32 (so : Int),
      .int .u32 (j.p.toNat : Int), .int .u32 (j.q.toNat : Int), .int .u32 (j.tries.toNat : Int), .int .u32 (j.best.toNat : Int), .int .u32 (j.shard.toNat : Int), .int .u32 (j.room.toNat : Int), .int .u32 (j.pool.toNat : Int), .int .u32 (j.sort.toNat : Int)]) := Lib.hid (by
    rw [hkd, hst', hso']
    rfl)
  clear hx1 hx2
  rw [← hkd] at hm hk8
  rw [← hst'] at hm hst
  rw [← hso'] at hm hso
  have Hwr : Hid (IntKind.i64.wrap (kd : Int) = kd) := Lib.hid (by rw [wrap_i64]; omega)
  have HM := Lib.hid hm
  have Hn := Lib.hid hn
  clear hm hn hkd hst' hso'
  by_cases hc0 : 3 ≤ kd
  ·
    refine wp_region_typed [some 8, some 9, some 10, some 11, some 12, some 13, some 14, some 15, some 16, some 17, some 18, some 19, some 20, some 21, some 22, some 23, some 24, some 25, some 26, some 27, some 28, some 29, some 30, some 31, some 32] [8, 9, 10, 11, 12, 13, 14, 15, 16, 17, 18, 19, 20, 21, 22, 23, 24, 25, 26, 27, 28, 29, 30, 31, 32]
      [Ph.is (.pointer (some ⟨w.heap.size, 0, none⟩)),
        Ph.is (.int .u8 (kd : Int)),
        Ph.is (.int .i64 (kd : Int)),
        Ph.any,
        Ph.is (.int .i64 3),
        Ph.is (.bool true),
        Ph.is (.bool true),
        Ph.is undef,
        Ph.is undef,
        Ph.is undef,
        Ph.is undef,
        Ph.is undef,
        Ph.is (.bool true),
        Ph.is (.bool true),
        Ph.is undef,
        Ph.is undef,
        Ph.is undef,
        Ph.is undef,
        Ph.is (.bool true),
        Ph.is (.bool true),
        Ph.is undef,
        Ph.is undef,
        Ph.is undef,
        Ph.is undef,
        Ph.is (.bool true)] rfl rfl (by kernel_rfl) (by kernel_rfl) ?_ ?_
    · refine ⟨?_, ?_, ?_, ?_, ?_, ?_, ?_, ?_, ?_, ?_, ?_, ?_, ?_, ?_, ?_, ?_, ?_, ?_, ?_, ?_, ?_, ?_, ?_, ?_, ?_, trivial⟩
      · -- 0: slot 8 := Op.fieldAddr 29 t1 0
        refine ob_yes fun f w' hb hp => ?_
        simp [PreOf, factOf, valOf, Ph.is, Ph.by_, Ph.any, Region.binds] at hp
        refine ⟨by simp [Gd, valOf, hp], ?_⟩
        refine mild_val (.pointer (some ⟨w.heap.size, 0, none⟩)) ?_ rfl
        simp [execOp, evalF, hp, go_sem]
      · -- 1: slot 9 := Op.load 5 t8
        refine ob_yes fun f w' hb hp => ?_
        simp [PreOf, factOf, valOf, Ph.is, Ph.by_, Ph.any, Region.binds] at hp
        refine ⟨by simp [Gd, valOf, hp], ?_⟩
        refine mild_val (.int .u8 (kd : Int)) ?_ rfl
        have hc := (X1.out.below X1.out.lt hb).cell 0 _ rfl
        simp [execOp, evalF, hp, hc, go_sem]
      · -- 2: slot 10 := Op.convert 5 3 t9
        refine ob_yes fun f w' hb hp => ?_
        simp [PreOf, factOf, valOf, Ph.is, Ph.by_, Ph.any, Region.binds] at hp
        refine ⟨by simp [Gd, valOf, hp], ?_⟩
        refine mild_val (.int .i64 (kd : Int)) ?_ rfl
        simp [execOp, evalF, hp, go_sem, Hwr.out]
      · -- 3: slot 11 := Op.call   value (Operand.func 124), args := #[], argTypes := #[]  
        refine ob_yes fun f w' hb hp => ?_
        simp [PreOf, factOf, valOf, Ph.is, Ph.by_, Ph.any, Region.binds] at hp
        refine ⟨by simp [Gd, valOf, hp], ?_⟩
        refine mild_call 124 _ _ Tryz.f124 Tryz.func124 (by kernel_rfl) (by kernel_rfl) rfl ?_
        simp [evalF, hp, Ph.is, Ph.by_, Ph.any]
        refine (kinds_any w').mono fun ev w2 h => ?_
        obtain ⟨v, rfl, h2⟩ := h
        exact ⟨⟨v, rfl⟩, h2⟩
      · -- 4: slot 12 := Op.move (const (3:i64))
        refine ob_yes fun f w' hb hp => ?_
        simp [PreOf, factOf, valOf, Ph.is, Ph.by_, Ph.any, Region.binds] at hp
        refine ⟨by simp [Gd, valOf, hp], ?_⟩
        refine mild_val (.int .i64 3) ?_ rfl
        simp [execOp, evalF, hp, go_sem]
      · -- 5: slot 13 := Op.binOp BinOp.geq 3 t10 t12 3
        refine ob_yes fun f w' hb hp => ?_
        simp [PreOf, factOf, valOf, Ph.is, Ph.by_, Ph.any, Region.binds] at hp
        refine ⟨by simp [Gd, valOf, hp], ?_⟩
        refine mild_val (.bool true) ?_ rfl
        simp [execOp, evalF, hp, go_sem]
        try omega
      · -- 6: slot 14 := Op.move t13
        refine ob_yes fun f w' hb hp => ?_
        simp [PreOf, factOf, valOf, Ph.is, Ph.by_, Ph.any, Region.binds] at hp
        refine ⟨by simp [Gd, valOf, hp], ?_⟩
        refine mild_val (.bool true) ?_ rfl
        simp [execOp, evalF, hp]
      · -- 7: slot 15 := Op.fieldAddr 29 t1 5
        refine ob_no fun f w' hb hp => ?_
        simp [PreOf, factOf, valOf, Ph.is, Ph.by_, Ph.any, Region.binds] at hp
        exact ⟨by simp [Gd, valOf, hp], rfl⟩
      · -- 8: slot 16 := Op.load 24 t15
        refine ob_no fun f w' hb hp => ?_
        simp [PreOf, factOf, valOf, Ph.is, Ph.by_, Ph.any, Region.binds] at hp
        exact ⟨by simp [Gd, valOf, hp], rfl⟩
      · -- 9: slot 17 := Op.fieldAddr 29 t1 6
        refine ob_no fun f w' hb hp => ?_
        simp [PreOf, factOf, valOf, Ph.is, Ph.by_, Ph.any, Region.binds] at hp
        exact ⟨by simp [Gd, valOf, hp], rfl⟩
      · -- 10: slot 18 := Op.load 24 t17
        refine ob_no fun f w' hb hp => ?_
        simp [PreOf, factOf, valOf, Ph.is, Ph.by_, Ph.any, Region.binds] at hp
        exact ⟨by simp [Gd, valOf, hp], rfl⟩
      · -- 11: slot 19 := Op.binOp BinOp.gtr 24 t16 t18 24
        refine ob_no fun f w' hb hp => ?_
        simp [PreOf, factOf, valOf, Ph.is, Ph.by_, Ph.any, Region.binds] at hp
        exact ⟨by simp [Gd, valOf, hp], rfl⟩
      · -- 12: slot 20 := Op.pick t14 (const (Value.bool true)) t19
        refine ob_yes fun f w' hb hp => ?_
        simp [PreOf, factOf, valOf, Ph.is, Ph.by_, Ph.any, Region.binds] at hp
        refine ⟨by simp [Gd, valOf, hp], ?_⟩
        refine mild_val (.bool true) ?_ rfl
        simp [execOp, evalF, hp, go_sem]
      · -- 13: slot 21 := Op.move t20
        refine ob_yes fun f w' hb hp => ?_
        simp [PreOf, factOf, valOf, Ph.is, Ph.by_, Ph.any, Region.binds] at hp
        refine ⟨by simp [Gd, valOf, hp], ?_⟩
        refine mild_val (.bool true) ?_ rfl
        simp [execOp, evalF, hp]
      · -- 14: slot 22 := Op.fieldAddr 29 t1 4
        refine ob_no fun f w' hb hp => ?_
        simp [PreOf, factOf, valOf, Ph.is, Ph.by_, Ph.any, Region.binds] at hp
        exact ⟨by simp [Gd, valOf, hp], rfl⟩
      · -- 15: slot 23 := Op.load 25 t22
        refine ob_no fun f w' hb hp => ?_
        simp [PreOf, factOf, valOf, Ph.is, Ph.by_, Ph.any, Region.binds] at hp
        exact ⟨by simp [Gd, valOf, hp], rfl⟩
      · -- 16: slot 24 := Op.call   builtin len, args := #[t23], argTypes := #[25]  
        refine ob_no fun f w' hb hp => ?_
        simp [PreOf, factOf, valOf, Ph.is, Ph.by_, Ph.any, Region.binds] at hp
        exact ⟨by simp [Gd, valOf, hp], rfl⟩
      · -- 17: slot 25 := Op.binOp BinOp.eql 3 t24 (const (0:i64)) 3
        refine ob_no fun f w' hb hp => ?_
        simp [PreOf, factOf, valOf, Ph.is, Ph.by_, Ph.any, Region.binds] at hp
        exact ⟨by simp [Gd, valOf, hp], rfl⟩
      · -- 18: slot 26 := Op.pick t21 (const (Value.bool true)) t25
        refine ob_yes fun f w' hb hp => ?_
        simp [PreOf, factOf, valOf, Ph.is, Ph.by_, Ph.any, Region.binds] at hp
        refine ⟨by simp [Gd, valOf, hp], ?_⟩
        refine mild_val (.bool true) ?_ rfl
        simp [execOp, evalF, hp, go_sem]
      · -- 19: slot 27 := Op.move t26
        refine ob_yes fun f w' hb hp => ?_
        simp [PreOf, factOf, valOf, Ph.is, Ph.by_, Ph.any, Region.binds] at hp
        refine ⟨by simp [Gd, valOf, hp], ?_⟩
        refine mild_val (.bool true) ?_ rfl
        simp [execOp, evalF, hp]
      · -- 20: slot 28 := Op.fieldAddr 29 t1 4
        refine ob_no fun f w' hb hp => ?_
        simp [PreOf, factOf, valOf, Ph.is, Ph.by_, Ph.any, Region.binds] at hp
        exact ⟨by simp [Gd, valOf, hp], rfl⟩
      · -- 21: slot 29 := Op.load 25 t28
        refine ob_no fun f w' hb hp => ?_
        simp [PreOf, factOf, valOf, Ph.is, Ph.by_, Ph.any, Region.binds] at hp
        exact ⟨by simp [Gd, valOf, hp], rfl⟩
      · -- 22: slot 30 := Op.call   builtin len, args := #[t29], argTypes := #[25]  
        refine ob_no fun f w' hb hp => ?_
        simp [PreOf, factOf, valOf, Ph.is, Ph.by_, Ph.any, Region.binds] at hp
        exact ⟨by simp [Gd, valOf, hp], rfl⟩
      · -- 23: slot 31 := Op.binOp BinOp.gtr 3 t30 (const (256:i64)) 3
        refine ob_no fun f w' hb hp => ?_
        simp [PreOf, factOf, valOf, Ph.is, Ph.by_, Ph.any, Region.binds] at hp
        exact ⟨by simp [Gd, valOf, hp], rfl⟩
      · -- 24: slot 32 := Op.pick t27 (const (Value.bool true)) t31
        refine ob_yes fun f w' hb hp => ?_
        simp [PreOf, factOf, valOf, Ph.is, Ph.by_, Ph.any, Region.binds] at hp
        refine ⟨by simp [Gd, valOf, hp], ?_⟩
        refine mild_val (.bool true) ?_ rfl
        simp [execOp, evalF, hp, go_sem]
    · intro f w2 hb2 hp
      simp only [PostOf, Ph.is, Ph.by_, Ph.any] at hp
      obtain ⟨h0, h1, h2, h3, h4, h5, h6, h7, h8, h9, h10, h11, h12, h13, h14, h15, h16, h17, h18, h19, h20, h21, h22, h23, h24, _⟩ := hp
      simp only [fills, List.foldl_cons, List.foldl_nil, Act.put, List.setIfInBounds_toArray, List.set_cons_zero, List.set_cons_succ, h0, h1, h2, h4, h5, h6, h7, h8, h9, h10, h11, h12, h13, h14, h15, h16, h17, h18, h19, h20, h21, h22, h23, h24]
      clear h0 h1 h2 h4 h5 h6 h7 h8 h9 h10 h11 h12 h13 h14 h15 h16 h17 h18 h19 h20 h21 h22 h23 h24
      generalize f 11 = v11 at *
      go_wp2_with fail
      go_ret
      refine ⟨?_, bstep Hb1.out hb2⟩
      rw [HM.out]
      simp
      try omega
  by_cases hc1 : so < st
  ·
    refine wp_region_typed [some 8, some 9, some 10, some 11, some 12, some 13, some 14, some 15, some 16, some 17, some 18, some 19, some 20, some 21, some 22, some 23, some 24, some 25, some 26, some 27, some 28, some 29, some 30, some 31, some 32] [8, 9, 10, 11, 12, 13, 14, 15, 16, 17, 18, 19, 20, 21, 22, 23, 24, 25, 26, 27, 28, 29, 30, 31, 32]
      [Ph.is (.pointer (some ⟨w.heap.size, 0, none⟩)),
        Ph.is (.int .u8 (kd : Int)),
        Ph.is (.int .i64 (kd : Int)),
        Ph.any,
        Ph.is (.int .i64 3),
        Ph.is (.bool false),
        Ph.is (.bool false),
        Ph.is (.pointer (some ⟨w.heap.size, 5, none⟩)),
        Ph.is (.int .u32 (st : Int)),
        Ph.is (.pointer (some ⟨w.heap.size, 6, none⟩)),
        Ph.is (.int .u32 (so : Int)),
        Ph.is (.bool true),
        Ph.is (.bool true),
        Ph.is (.bool true),
        Ph.is undef,
        Ph.is undef,
        Ph.is undef,
        Ph.is undef,
        Ph.is (.bool true),
        Ph.is (.bool true),
        Ph.is undef,
        Ph.is undef,
        Ph.is undef,
        Ph.is undef,
        Ph.is (.bool true)] rfl rfl (by kernel_rfl) (by kernel_rfl) ?_ ?_
    · refine ⟨?_, ?_, ?_, ?_, ?_, ?_, ?_, ?_, ?_, ?_, ?_, ?_, ?_, ?_, ?_, ?_, ?_, ?_, ?_, ?_, ?_, ?_, ?_, ?_, ?_, trivial⟩
      · -- 0: slot 8 := Op.fieldAddr 29 t1 0
        refine ob_yes fun f w' hb hp => ?_
        simp [PreOf, factOf, valOf, Ph.is, Ph.by_, Ph.any, Region.binds] at hp
        refine ⟨by simp [Gd, valOf, hp], ?_⟩
        refine mild_val (.pointer (some ⟨w.heap.size, 0, none⟩)) ?_ rfl
        simp [execOp, evalF, hp, go_sem]
      · -- 1: slot 9 := Op.load 5 t8
        refine ob_yes fun f w' hb hp => ?_
        simp [PreOf, factOf, valOf, Ph.is, Ph.by_, Ph.any, Region.binds] at hp
        refine ⟨by simp [Gd, valOf, hp], ?_⟩
        refine mild_val (.int .u8 (kd : Int)) ?_ rfl
        have hc := (X1.out.below X1.out.lt hb).cell 0 _ rfl
        simp [execOp, evalF, hp, hc, go_sem]
      · -- 2: slot 10 := Op.convert 5 3 t9
        refine ob_yes fun f w' hb hp => ?_
        simp [PreOf, factOf, valOf, Ph.is, Ph.by_, Ph.any, Region.binds] at hp
        refine ⟨by simp [Gd, valOf, hp], ?_⟩
        refine mild_val (.int .i64 (kd : Int)) ?_ rfl
        simp [execOp, evalF, hp, go_sem, Hwr.out]
      · -- 3: slot 11 := Op.call   value (Operand.func 124), args := #[], argTypes := #[]  
        refine ob_yes fun f w' hb hp => ?_
        simp [PreOf, factOf, valOf, Ph.is, Ph.by_, Ph.any, Region.binds] at hp
        refine ⟨by simp [Gd, valOf, hp], ?_⟩
        refine mild_call 124 _ _ Tryz.f124 Tryz.func124 (by kernel_rfl) (by kernel_rfl) rfl ?_
        simp [evalF, hp, Ph.is, Ph.by_, Ph.any]
        refine (kinds_any w').mono fun ev w2 h => ?_
        obtain ⟨v, rfl, h2⟩ := h
        exact ⟨⟨v, rfl⟩, h2⟩
      · -- 4: slot 12 := Op.move (const (3:i64))
        refine ob_yes fun f w' hb hp => ?_
        simp [PreOf, factOf, valOf, Ph.is, Ph.by_, Ph.any, Region.binds] at hp
        refine ⟨by simp [Gd, valOf, hp], ?_⟩
        refine mild_val (.int .i64 3) ?_ rfl
        simp [execOp, evalF, hp, go_sem]
      · -- 5: slot 13 := Op.binOp BinOp.geq 3 t10 t12 3
        refine ob_yes fun f w' hb hp => ?_
        simp [PreOf, factOf, valOf, Ph.is, Ph.by_, Ph.any, Region.binds] at hp
        refine ⟨by simp [Gd, valOf, hp], ?_⟩
        refine mild_val (.bool false) ?_ rfl
        simp [execOp, evalF, hp, go_sem]
        try omega
      · -- 6: slot 14 := Op.move t13
        refine ob_yes fun f w' hb hp => ?_
        simp [PreOf, factOf, valOf, Ph.is, Ph.by_, Ph.any, Region.binds] at hp
        refine ⟨by simp [Gd, valOf, hp], ?_⟩
        refine mild_val (.bool false) ?_ rfl
        simp [execOp, evalF, hp]
      · -- 7: slot 15 := Op.fieldAddr 29 t1 5
        refine ob_yes fun f w' hb hp => ?_
        simp [PreOf, factOf, valOf, Ph.is, Ph.by_, Ph.any, Region.binds] at hp
        refine ⟨by simp [Gd, valOf, hp], ?_⟩
        refine mild_val (.pointer (some ⟨w.heap.size, 5, none⟩)) ?_ rfl
        simp [execOp, evalF, hp, go_sem]
      · -- 8: slot 16 := Op.load 24 t15
        refine ob_yes fun f w' hb hp => ?_
        simp [PreOf, factOf, valOf, Ph.is, Ph.by_, Ph.any, Region.binds] at hp
        refine ⟨by simp [Gd, valOf, hp], ?_⟩
        refine mild_val (.int .u32 (st : Int)) ?_ rfl
        have hc := (X1.out.below X1.out.lt hb).cell 5 _ rfl
        simp [execOp, evalF, hp, hc, go_sem]
      · -- 9: slot 17 := Op.fieldAddr 29 t1 6
        refine ob_yes fun f w' hb hp => ?_
        simp [PreOf, factOf, valOf, Ph.is, Ph.by_, Ph.any, Region.binds] at hp
        refine ⟨by simp [Gd, valOf, hp], ?_⟩
        refine mild_val (.pointer (some ⟨w.heap.size, 6, none⟩)) ?_ rfl
        simp [execOp, evalF, hp, go_sem]
      · -- 10: slot 18 := Op.load 24 t17
        refine ob_yes fun f w' hb hp => ?_
        simp [PreOf, factOf, valOf, Ph.is, Ph.by_, Ph.any, Region.binds] at hp
        refine ⟨by simp [Gd, valOf, hp], ?_⟩
        refine mild_val (.int .u32 (so : Int)) ?_ rfl
        have hc := (X1.out.below X1.out.lt hb).cell 6 _ rfl
        simp [execOp, evalF, hp, hc, go_sem]
      · -- 11: slot 19 := Op.binOp BinOp.gtr 24 t16 t18 24
        refine ob_yes fun f w' hb hp => ?_
        simp [PreOf, factOf, valOf, Ph.is, Ph.by_, Ph.any, Region.binds] at hp
        refine ⟨by simp [Gd, valOf, hp], ?_⟩
        refine mild_val (.bool true) ?_ rfl
        simp [execOp, evalF, hp, go_sem]
        try omega
      · -- 12: slot 20 := Op.pick t14 (const (Value.bool true)) t19
        refine ob_yes fun f w' hb hp => ?_
        simp [PreOf, factOf, valOf, Ph.is, Ph.by_, Ph.any, Region.binds] at hp
        refine ⟨by simp [Gd, valOf, hp], ?_⟩
        refine mild_val (.bool true) ?_ rfl
        simp [execOp, evalF, hp, go_sem]
      · -- 13: slot 21 := Op.move t20
        refine ob_yes fun f w' hb hp => ?_
        simp [PreOf, factOf, valOf, Ph.is, Ph.by_, Ph.any, Region.binds] at hp
        refine ⟨by simp [Gd, valOf, hp], ?_⟩
        refine mild_val (.bool true) ?_ rfl
        simp [execOp, evalF, hp]
      · -- 14: slot 22 := Op.fieldAddr 29 t1 4
        refine ob_no fun f w' hb hp => ?_
        simp [PreOf, factOf, valOf, Ph.is, Ph.by_, Ph.any, Region.binds] at hp
        exact ⟨by simp [Gd, valOf, hp], rfl⟩
      · -- 15: slot 23 := Op.load 25 t22
        refine ob_no fun f w' hb hp => ?_
        simp [PreOf, factOf, valOf, Ph.is, Ph.by_, Ph.any, Region.binds] at hp
        exact ⟨by simp [Gd, valOf, hp], rfl⟩
      · -- 16: slot 24 := Op.call   builtin len, args := #[t23], argTypes := #[25]  
        refine ob_no fun f w' hb hp => ?_
        simp [PreOf, factOf, valOf, Ph.is, Ph.by_, Ph.any, Region.binds] at hp
        exact ⟨by simp [Gd, valOf, hp], rfl⟩
      · -- 17: slot 25 := Op.binOp BinOp.eql 3 t24 (const (0:i64)) 3
        refine ob_no fun f w' hb hp => ?_
        simp [PreOf, factOf, valOf, Ph.is, Ph.by_, Ph.any, Region.binds] at hp
        exact ⟨by simp [Gd, valOf, hp], rfl⟩
      · -- 18: slot 26 := Op.pick t21 (const (Value.bool true)) t25
        refine ob_yes fun f w' hb hp => ?_
        simp [PreOf, factOf, valOf, Ph.is, Ph.by_, Ph.any, Region.binds] at hp
        refine ⟨by simp [Gd, valOf, hp], ?_⟩
        refine mild_val (.bool true) ?_ rfl
        simp [execOp, evalF, hp, go_sem]
      · -- 19: slot 27 := Op.move t26
        refine ob_yes fun f w' hb hp => ?_
        simp [PreOf, factOf, valOf, Ph.is, Ph.by_, Ph.any, Region.binds] at hp
        refine ⟨by simp [Gd, valOf, hp], ?_⟩
        refine mild_val (.bool true) ?_ rfl
        simp [execOp, evalF, hp]
      · -- 20: slot 28 := Op.fieldAddr 29 t1 4
        refine ob_no fun f w' hb hp => ?_
        simp [PreOf, factOf, valOf, Ph.is, Ph.by_, Ph.any, Region.binds] at hp
        exact ⟨by simp [Gd, valOf, hp], rfl⟩
      · -- 21: slot 29 := Op.load 25 t28
        refine ob_no fun f w' hb hp => ?_
        simp [PreOf, factOf, valOf, Ph.is, Ph.by_, Ph.any, Region.binds] at hp
        exact ⟨by simp [Gd, valOf, hp], rfl⟩
      · -- 22: slot 30 := Op.call   builtin len, args := #[t29], argTypes := #[25]  
        refine ob_no fun f w' hb hp => ?_
        simp [PreOf, factOf, valOf, Ph.is, Ph.by_, Ph.any, Region.binds] at hp
        exact ⟨by simp [Gd, valOf, hp], rfl⟩
      · -- 23: slot 31 := Op.binOp BinOp.gtr 3 t30 (const (256:i64)) 3
        refine ob_no fun f w' hb hp => ?_
        simp [PreOf, factOf, valOf, Ph.is, Ph.by_, Ph.any, Region.binds] at hp
        exact ⟨by simp [Gd, valOf, hp], rfl⟩
      · -- 24: slot 32 := Op.pick t27 (const (Value.bool true)) t31
        refine ob_yes fun f w' hb hp => ?_
        simp [PreOf, factOf, valOf, Ph.is, Ph.by_, Ph.any, Region.binds] at hp
        refine ⟨by simp [Gd, valOf, hp], ?_⟩
        refine mild_val (.bool true) ?_ rfl
        simp [execOp, evalF, hp, go_sem]
    · intro f w2 hb2 hp
      simp only [PostOf, Ph.is, Ph.by_, Ph.any] at hp
      obtain ⟨h0, h1, h2, h3, h4, h5, h6, h7, h8, h9, h10, h11, h12, h13, h14, h15, h16, h17, h18, h19, h20, h21, h22, h23, h24, _⟩ := hp
      simp only [fills, List.foldl_cons, List.foldl_nil, Act.put, List.setIfInBounds_toArray, List.set_cons_zero, List.set_cons_succ, h0, h1, h2, h4, h5, h6, h7, h8, h9, h10, h11, h12, h13, h14, h15, h16, h17, h18, h19, h20, h21, h22, h23, h24]
      clear h0 h1 h2 h4 h5 h6 h7 h8 h9 h10 h11 h12 h13 h14 h15 h16 h17 h18 h19 h20 h21 h22 h23 h24
      generalize f 11 = v11 at *
      go_wp2_with fail
      go_ret
      refine ⟨?_, bstep Hb1.out hb2⟩
      rw [HM.out]
      simp
      try omega
  by_cases hc2 : n = 0
  ·
    refine wp_region_typed [some 8, some 9, some 10, some 11, some 12, some 13, some 14, some 15, some 16, some 17, some 18, some 19, some 20, some 21, some 22, some 23, some 24, some 25, some 26, some 27, some 28, some 29, some 30, some 31, some 32] [8, 9, 10, 11, 12, 13, 14, 15, 16, 17, 18, 19, 20, 21, 22, 23, 24, 25, 26, 27, 28, 29, 30, 31, 32]
      [Ph.is (.pointer (some ⟨w.heap.size, 0, none⟩)),
        Ph.is (.int .u8 (kd : Int)),
        Ph.is (.int .i64 (kd : Int)),
        Ph.any,
        Ph.is (.int .i64 3),
        Ph.is (.bool false),
        Ph.is (.bool false),
        Ph.is (.pointer (some ⟨w.heap.size, 5, none⟩)),
        Ph.is (.int .u32 (st : Int)),
        Ph.is (.pointer (some ⟨w.heap.size, 6, none⟩)),
        Ph.is (.int .u32 (so : Int)),
        Ph.is (.bool false),
        Ph.is (.bool false),
        Ph.is (.bool false),
        Ph.is (.pointer (some ⟨w.heap.size, 4, none⟩)),
        Ph.is (.slice A n c),
        Ph.is (.int .i64 (n : Int)),
        Ph.is (.bool true),
        Ph.is (.bool true),
        Ph.is (.bool true),
        Ph.is undef,
        Ph.is undef,
        Ph.is undef,
        Ph.is undef,
        Ph.is (.bool true)] rfl rfl (by kernel_rfl) (by kernel_rfl) ?_ ?_
    · refine ⟨?_, ?_, ?_, ?_, ?_, ?_, ?_, ?_, ?_, ?_, ?_, ?_, ?_, ?_, ?_, ?_, ?_, ?_, ?_, ?_, ?_, ?_, ?_, ?_, ?_, trivial⟩
      · -- 0: slot 8 := Op.fieldAddr 29 t1 0
        refine ob_yes fun f w' hb hp => ?_
        simp [PreOf, factOf, valOf, Ph.is, Ph.by_, Ph.any, Region.binds] at hp
        refine ⟨by simp [Gd, valOf, hp], ?_⟩
        refine mild_val (.pointer (some ⟨w.heap.size, 0, none⟩)) ?_ rfl
        simp [execOp, evalF, hp, go_sem]
      · -- 1: slot 9 := Op.load 5 t8
        refine ob_yes fun f w' hb hp => ?_
        simp [PreOf, factOf, valOf, Ph.is, Ph.by_, Ph.any, Region.binds] at hp
        refine ⟨by simp [Gd, valOf, hp], ?_⟩
        refine mild_val (.int .u8 (kd : Int)) ?_ rfl
        have hc := (X1.out.below X1.out.lt hb).cell 0 _ rfl
        simp [execOp, evalF, hp, hc, go_sem]
      · -- 2: slot 10 := Op.convert 5 3 t9
        refine ob_yes fun f w' hb hp => ?_
        simp [PreOf, factOf, valOf, Ph.is, Ph.by_, Ph.any, Region.binds] at hp
        refine ⟨by simp [Gd, valOf, hp], ?_⟩
        refine mild_val (.int .i64 (kd : Int)) ?_ rfl
        simp [execOp, evalF, hp, go_sem, Hwr.out]
      · -- 3: slot 11 := Op.call   value (Operand.func 124), args := #[], argTypes := #[]  
        refine ob_yes fun f w' hb hp => ?_
        simp [PreOf, factOf, valOf, Ph.is, Ph.by_, Ph.any, Region.binds] at hp
        refine ⟨by simp [Gd, valOf, hp], ?_⟩
        refine mild_call 124 _ _ Tryz.f124 Tryz.func124 (by kernel_rfl) (by kernel_rfl) rfl ?_
        simp [evalF, hp, Ph.is, Ph.by_, Ph.any]
        refine (kinds_any w').mono fun ev w2 h => ?_
        obtain ⟨v, rfl, h2⟩ := h
        exact ⟨⟨v, rfl⟩, h2⟩
      · -- 4: slot 12 := Op.move (const (3:i64))
        refine ob_yes fun f w' hb hp => ?_
        simp [PreOf, factOf, valOf, Ph.is, Ph.by_, Ph.any, Region.binds] at hp
        refine ⟨by simp [Gd, valOf, hp], ?_⟩
        refine mild_val (.int .i64 3) ?_ rfl
        simp [execOp, evalF, hp, go_sem]
      · -- 5: slot 13 := Op.binOp BinOp.geq 3 t10 t12 3
        refine ob_yes fun f w' hb hp => ?_
        simp [PreOf, factOf, valOf, Ph.is, Ph.by_, Ph.any, Region.binds] at hp
        refine ⟨by simp [Gd, valOf, hp], ?_⟩
        refine mild_val (.bool false) ?_ rfl
        simp [execOp, evalF, hp, go_sem]
        try omega
      · -- 6: slot 14 := Op.move t13
        refine ob_yes fun f w' hb hp => ?_
        simp [PreOf, factOf, valOf, Ph.is, Ph.by_, Ph.any, Region.binds] at hp
        refine ⟨by simp [Gd, valOf, hp], ?_⟩
        refine mild_val (.bool false) ?_ rfl
        simp [execOp, evalF, hp]
      · -- 7: slot 15 := Op.fieldAddr 29 t1 5
        refine ob_yes fun f w' hb hp => ?_
        simp [PreOf, factOf, valOf, Ph.is, Ph.by_, Ph.any, Region.binds] at hp
        refine ⟨by simp [Gd, valOf, hp], ?_⟩
        refine mild_val (.pointer (some ⟨w.heap.size, 5, none⟩)) ?_ rfl
        simp [execOp, evalF, hp, go_sem]
      · -- 8: slot 16 := Op.load 24 t15
        refine ob_yes fun f w' hb hp => ?_
        simp [PreOf, factOf, valOf, Ph.is, Ph.by_, Ph.any, Region.binds] at hp
        refine ⟨by simp [Gd, valOf, hp], ?_⟩
        refine mild_val (.int .u32 (st : Int)) ?_ rfl
        have hc := (X1.out.below X1.out.lt hb).cell 5 _ rfl
        simp [execOp, evalF, hp, hc, go_sem]
      · -- 9: slot 17 := Op.fieldAddr 29 t1 6
        refine ob_yes fun f w' hb hp => ?_
        simp [PreOf, factOf, valOf, Ph.is, Ph.by_, Ph.any, Region.binds] at hp
        refine ⟨by simp [Gd, valOf, hp], ?_⟩
        refine mild_val (.pointer (some ⟨w.heap.size, 6, none⟩)) ?_ rfl
        simp [execOp, evalF, hp, go_sem]
      · -- 10: slot 18 := Op.load 24 t17
        refine ob_yes fun f w' hb hp => ?_
        simp [PreOf, factOf, valOf, Ph.is, Ph.by_, Ph.any, Region.binds] at hp
        refine ⟨by simp [Gd, valOf, hp], ?_⟩
        refine mild_val (.int .u32 (so : Int)) ?_ rfl
        have hc := (X1.out.below X1.out.lt hb).cell 6 _ rfl
        simp [execOp, evalF, hp, hc, go_sem]
      · -- 11: slot 19 := Op.binOp BinOp.gtr 24 t16 t18 24
        refine ob_yes fun f w' hb hp => ?_
        simp [PreOf, factOf, valOf, Ph.is, Ph.by_, Ph.any, Region.binds] at hp
        refine ⟨by simp [Gd, valOf, hp], ?_⟩
        refine mild_val (.bool false) ?_ rfl
        simp [execOp, evalF, hp, go_sem]
        try omega
      · -- 12: slot 20 := Op.pick t14 (const (Value.bool true)) t19
        refine ob_yes fun f w' hb hp => ?_
        simp [PreOf, factOf, valOf, Ph.is, Ph.by_, Ph.any, Region.binds] at hp
        refine ⟨by simp [Gd, valOf, hp], ?_⟩
        refine mild_val (.bool false) ?_ rfl
        simp [execOp, evalF, hp, go_sem]
      · -- 13: slot 21 := Op.move t20
        refine ob_yes fun f w' hb hp => ?_
        simp [PreOf, factOf, valOf, Ph.is, Ph.by_, Ph.any, Region.binds] at hp
        refine ⟨by simp [Gd, valOf, hp], ?_⟩
        refine mild_val (.bool false) ?_ rfl
        simp [execOp, evalF, hp]
      · -- 14: slot 22 := Op.fieldAddr 29 t1 4
        refine ob_yes fun f w' hb hp => ?_
        simp [PreOf, factOf, valOf, Ph.is, Ph.by_, Ph.any, Region.binds] at hp
        refine ⟨by simp [Gd, valOf, hp], ?_⟩
        refine mild_val (.pointer (some ⟨w.heap.size, 4, none⟩)) ?_ rfl
        simp [execOp, evalF, hp, go_sem]
      · -- 15: slot 23 := Op.load 25 t22
        refine ob_yes fun f w' hb hp => ?_
        simp [PreOf, factOf, valOf, Ph.is, Ph.by_, Ph.any, Region.binds] at hp
        refine ⟨by simp [Gd, valOf, hp], ?_⟩
        refine mild_val (.slice A n c) ?_ rfl
        have hc := (X1.out.below X1.out.lt hb).cell 4 _ rfl
        simp [execOp, evalF, hp, hc, go_sem]
      · -- 16: slot 24 := Op.call   builtin len, args := #[t23], argTypes := #[25]  
        refine ob_yes fun f w' hb hp => ?_
        simp [PreOf, factOf, valOf, Ph.is, Ph.by_, Ph.any, Region.binds] at hp
        refine ⟨by simp [Gd, valOf, hp], ?_⟩
        refine mild_val (.int .i64 (n : Int)) ?_ rfl
        simp [execOp, evalF, hp, go_sem]
      · -- 17: slot 25 := Op.binOp BinOp.eql 3 t24 (const (0:i64)) 3
        refine ob_yes fun f w' hb hp => ?_
        simp [PreOf, factOf, valOf, Ph.is, Ph.by_, Ph.any, Region.binds] at hp
        refine ⟨by simp [Gd, valOf, hp], ?_⟩
        refine mild_val (.bool true) ?_ rfl
        simp [execOp, evalF, hp, go_sem]
        try omega
      · -- 18: slot 26 := Op.pick t21 (const (Value.bool true)) t25
        refine ob_yes fun f w' hb hp => ?_
        simp [PreOf, factOf, valOf, Ph.is, Ph.by_, Ph.any, Region.binds] at hp
        refine ⟨by simp [Gd, valOf, hp], ?_⟩
        refine mild_val (.bool true) ?_ rfl
        simp [execOp, evalF, hp, go_sem]
      · -- 19: slot 27 := Op.move t26
        refine ob_yes fun f w' hb hp => ?_
        simp [PreOf, factOf, valOf, Ph.is, Ph.by_, Ph.any, Region.binds] at hp
        refine ⟨by simp [Gd, valOf, hp], ?_⟩
        refine mild_val (.bool true) ?_ rfl
        simp [execOp, evalF, hp]
      · -- 20: slot 28 := Op.fieldAddr 29 t1 4
        refine ob_no fun f w' hb hp => ?_
        simp [PreOf, factOf, valOf, Ph.is, Ph.by_, Ph.any, Region.binds] at hp
        exact ⟨by simp [Gd, valOf, hp], rfl⟩
      · -- 21: slot 29 := Op.load 25 t28
        refine ob_no fun f w' hb hp => ?_
        simp [PreOf, factOf, valOf, Ph.is, Ph.by_, Ph.any, Region.binds] at hp
        exact ⟨by simp [Gd, valOf, hp], rfl⟩
      · -- 22: slot 30 := Op.call   builtin len, args := #[t29], argTypes := #[25]  
        refine ob_no fun f w' hb hp => ?_
        simp [PreOf, factOf, valOf, Ph.is, Ph.by_, Ph.any, Region.binds] at hp
        exact ⟨by simp [Gd, valOf, hp], rfl⟩
      · -- 23: slot 31 := Op.binOp BinOp.gtr 3 t30 (const (256:i64)) 3
        refine ob_no fun f w' hb hp => ?_
        simp [PreOf, factOf, valOf, Ph.is, Ph.by_, Ph.any, Region.binds] at hp
        exact ⟨by simp [Gd, valOf, hp], rfl⟩
      · -- 24: slot 32 := Op.pick t27 (const (Value.bool true)) t31
        refine ob_yes fun f w' hb hp => ?_
        simp [PreOf, factOf, valOf, Ph.is, Ph.by_, Ph.any, Region.binds] at hp
        refine ⟨by simp [Gd, valOf, hp], ?_⟩
        refine mild_val (.bool true) ?_ rfl
        simp [execOp, evalF, hp, go_sem]
    · intro f w2 hb2 hp
      simp only [PostOf, Ph.is, Ph.by_, Ph.any] at hp
      obtain ⟨h0, h1, h2, h3, h4, h5, h6, h7, h8, h9, h10, h11, h12, h13, h14, h15, h16, h17, h18, h19, h20, h21, h22, h23, h24, _⟩ := hp
      simp only [fills, List.foldl_cons, List.foldl_nil, Act.put, List.setIfInBounds_toArray, List.set_cons_zero, List.set_cons_succ, h0, h1, h2, h4, h5, h6, h7, h8, h9, h10, h11, h12, h13, h14, h15, h16, h17, h18, h19, h20, h21, h22, h23, h24]
      clear h0 h1 h2 h4 h5 h6 h7 h8 h9 h10 h11 h12 h13 h14 h15 h16 h17 h18 h19 h20 h21 h22 h23 h24
      generalize f 11 = v11 at *
      go_wp2_with fail
      go_ret
      refine ⟨?_, bstep Hb1.out hb2⟩
      rw [HM.out]
      simp
      try omega
  by_cases hc3 : 256 < n
  ·
    refine wp_region_typed [some 8, some 9, some 10, some 11, some 12, some 13, some 14, some 15, some 16, some 17, some 18, some 19, some 20, some 21, some 22, some 23, some 24, some 25, some 26, some 27, some 28, some 29, some 30, some 31, some 32] [8, 9, 10, 11, 12, 13, 14, 15, 16, 17, 18, 19, 20, 21, 22, 23, 24, 25, 26, 27, 28, 29, 30, 31, 32]
      [Ph.is (.pointer (some ⟨w.heap.size, 0, none⟩)),
        Ph.is (.int .u8 (kd : Int)),
        Ph.is (.int .i64 (kd : Int)),
        Ph.any,
        Ph.is (.int .i64 3),
        Ph.is (.bool false),
        Ph.is (.bool false),
        Ph.is (.pointer (some ⟨w.heap.size, 5, none⟩)),
        Ph.is (.int .u32 (st : Int)),
        Ph.is (.pointer (some ⟨w.heap.size, 6, none⟩)),
        Ph.is (.int .u32 (so : Int)),
        Ph.is (.bool false),
        Ph.is (.bool false),
        Ph.is (.bool false),
        Ph.is (.pointer (some ⟨w.heap.size, 4, none⟩)),
        Ph.is (.slice A n c),
        Ph.is (.int .i64 (n : Int)),
        Ph.is (.bool false),
        Ph.is (.bool false),
        Ph.is (.bool false),
        Ph.is (.pointer (some ⟨w.heap.size, 4, none⟩)),
        Ph.is (.slice A n c),
        Ph.is (.int .i64 (n : Int)),
        Ph.is (.bool true),
        Ph.is (.bool true)] rfl rfl (by kernel_rfl) (by kernel_rfl) ?_ ?_
    · refine ⟨?_, ?_, ?_, ?_, ?_, ?_, ?_, ?_, ?_, ?_, ?_, ?_, ?_, ?_, ?_, ?_, ?_, ?_, ?_, ?_, ?_, ?_, ?_, ?_, ?_, trivial⟩
      · -- 0: slot 8 := Op.fieldAddr 29 t1 0
        refine ob_yes fun f w' hb hp => ?_
        simp [PreOf, factOf, valOf, Ph.is, Ph.by_, Ph.any, Region.binds] at hp
        refine ⟨by simp [Gd, valOf, hp], ?_⟩
        refine mild_val (.pointer (some ⟨w.heap.size, 0, none⟩)) ?_ rfl
        simp [execOp, evalF, hp, go_sem]
      · -- 1: slot 9 := Op.load 5 t8
        refine ob_yes fun f w' hb hp => ?_
        simp [PreOf, factOf, valOf, Ph.is, Ph.by_, Ph.any, Region.binds] at hp
        refine ⟨by simp [Gd, valOf, hp], ?_⟩
        refine mild_val (.int .u8 (kd : Int)) ?_ rfl
        have hc := (X1.out.below X1.out.lt hb).cell 0 _ rfl
        simp [execOp, evalF, hp, hc, go_sem]
      · -- 2: slot 10 := Op.convert 5 3 t9
        refine ob_yes fun f w' hb hp => ?_
        simp [PreOf, factOf, valOf, Ph.is, Ph.by_, Ph.any, Region.binds] at hp
        refine ⟨by simp [Gd, valOf, hp], ?_⟩
        refine mild_val (.int .i64 (kd : Int)) ?_ rfl
        simp [execOp, evalF, hp, go_sem, Hwr.out]
      · -- 3: slot 11 := Op.call   value (Operand.func 124), args := #[], argTypes := #[]  
        refine ob_yes fun f w' hb hp => ?_
        simp [PreOf, factOf, valOf, Ph.is, Ph.by_, Ph.any, Region.binds] at hp
        refine ⟨by simp [Gd, valOf, hp], ?_⟩
        refine mild_call 124 _ _ Tryz.f124 Tryz.func124 (by kernel_rfl) (by kernel_rfl) rfl ?_
        simp [evalF, hp, Ph.is, Ph.by_, Ph.any]
        refine (kinds_any w').mono fun ev w2 h => ?_
        obtain ⟨v, rfl, h2⟩ := h
        exact ⟨⟨v, rfl⟩, h2⟩
      · -- 4: slot 12 := Op.move (const (3:i64))
        refine ob_yes fun f w' hb hp => ?_
        simp [PreOf, factOf, valOf, Ph.is, Ph.by_, Ph.any, Region.binds] at hp
        refine ⟨by simp [Gd, valOf, hp], ?_⟩
        refine mild_val (.int .i64 3) ?_ rfl
        simp [execOp, evalF, hp, go_sem]
      · -- 5: slot 13 := Op.binOp BinOp.geq 3 t10 t12 3
        refine ob_yes fun f w' hb hp => ?_
        simp [PreOf, factOf, valOf, Ph.is, Ph.by_, Ph.any, Region.binds] at hp
        refine ⟨by simp [Gd, valOf, hp], ?_⟩
        refine mild_val (.bool false) ?_ rfl
        simp [execOp, evalF, hp, go_sem]
        try omega
      · -- 6: slot 14 := Op.move t13
        refine ob_yes fun f w' hb hp => ?_
        simp [PreOf, factOf, valOf, Ph.is, Ph.by_, Ph.any, Region.binds] at hp
        refine ⟨by simp [Gd, valOf, hp], ?_⟩
        refine mild_val (.bool false) ?_ rfl
        simp [execOp, evalF, hp]
      · -- 7: slot 15 := Op.fieldAddr 29 t1 5
        refine ob_yes fun f w' hb hp => ?_
        simp [PreOf, factOf, valOf, Ph.is, Ph.by_, Ph.any, Region.binds] at hp
        refine ⟨by simp [Gd, valOf, hp], ?_⟩
        refine mild_val (.pointer (some ⟨w.heap.size, 5, none⟩)) ?_ rfl
        simp [execOp, evalF, hp, go_sem]
      · -- 8: slot 16 := Op.load 24 t15
        refine ob_yes fun f w' hb hp => ?_
        simp [PreOf, factOf, valOf, Ph.is, Ph.by_, Ph.any, Region.binds] at hp
        refine ⟨by simp [Gd, valOf, hp], ?_⟩
        refine mild_val (.int .u32 (st : Int)) ?_ rfl
        have hc := (X1.out.below X1.out.lt hb).cell 5 _ rfl
        simp [execOp, evalF, hp, hc, go_sem]
      · -- 9: slot 17 := Op.fieldAddr 29 t1 6
        refine ob_yes fun f w' hb hp => ?_
        simp [PreOf, factOf, valOf, Ph.is, Ph.by_, Ph.any, Region.binds] at hp
        refine ⟨by simp [Gd, valOf, hp], ?_⟩
        refine mild_val (.pointer (some ⟨w.heap.size, 6, none⟩)) ?_ rfl
        simp [execOp, evalF, hp, go_sem]
      · -- 10: slot 18 := Op.load 24 t17
        refine ob_yes fun f w' hb hp => ?_
        simp [PreOf, factOf, valOf, Ph.is, Ph.by_, Ph.any, Region.binds] at hp
        refine ⟨by simp [Gd, valOf, hp], ?_⟩
        refine mild_val (.int .u32 (so : Int)) ?_ rfl
        have hc := (X1.out.below X1.out.lt hb).cell 6 _ rfl
        simp [execOp, evalF, hp, hc, go_sem]
      · -- 11: slot 19 := Op.binOp BinOp.gtr 24 t16 t18 24
        refine ob_yes fun f w' hb hp => ?_
        simp [PreOf, factOf, valOf, Ph.is, Ph.by_, Ph.any, Region.binds] at hp
        refine ⟨by simp [Gd, valOf, hp], ?_⟩
        refine mild_val (.bool false) ?_ rfl
        simp [execOp, evalF, hp, go_sem]
        try omega
      · -- 12: slot 20 := Op.pick t14 (const (Value.bool true)) t19
        refine ob_yes fun f w' hb hp => ?_
        simp [PreOf, factOf, valOf, Ph.is, Ph.by_, Ph.any, Region.binds] at hp
        refine ⟨by simp [Gd, valOf, hp], ?_⟩
        refine mild_val (.bool false) ?_ rfl
        simp [execOp, evalF, hp, go_sem]
      · -- 13: slot 21 := Op.move t20
        refine ob_yes fun f w' hb hp => ?_
        simp [PreOf, factOf, valOf, Ph.is, Ph.by_, Ph.any, Region.binds] at hp
        refine ⟨by simp [Gd, valOf, hp], ?_⟩
        refine mild_val (.bool false) ?_ rfl
        simp [execOp, evalF, hp]
      · -- 14: slot 22 := Op.fieldAddr 29 t1 4
        refine ob_yes fun f w' hb hp => ?_
        simp [PreOf, factOf, valOf, Ph.is, Ph.by_, Ph.any, Region.binds] at hp
        refine ⟨by simp [Gd, valOf, hp], ?_⟩
        refine mild_val (.pointer (some ⟨w.heap.size, 4, none⟩)) ?_ rfl
        simp [execOp, evalF, hp, go_sem]
      · -- 15: slot 23 := Op.load 25 t22
        refine ob_yes fun f w' hb hp => ?_
        simp [PreOf, factOf, valOf, Ph.is, Ph.by_, Ph.any, Region.binds] at hp
        refine ⟨by simp [Gd, valOf, hp], ?_⟩
        refine mild_val (.slice A n c) ?_ rfl
        have hc := (X1.out.below X1.out.lt hb).cell 4 _ rfl
        simp [execOp, evalF, hp, hc, go_sem]
      · -- 16: slot 24 := Op.call   builtin len, args := #[t23], argTypes := #[25]  
        refine ob_yes fun f w' hb hp => ?_
        simp [PreOf, factOf, valOf, Ph.is, Ph.by_, Ph.any, Region.binds] at hp
        refine ⟨by simp [Gd, valOf, hp], ?_⟩
        refine mild_val (.int .i64 (n : Int)) ?_ rfl
        simp [execOp, evalF, hp, go_sem]
      · -- 17: slot 25 := Op.binOp BinOp.eql 3 t24 (const (0:i64)) 3
        refine ob_yes fun f w' hb hp => ?_
        simp [PreOf, factOf, valOf, Ph.is, Ph.by_, Ph.any, Region.binds] at hp
        refine ⟨by simp [Gd, valOf, hp], ?_⟩
        refine mild_val (.bool false) ?_ rfl
        simp [execOp, evalF, hp, go_sem]
        try omega
      · -- 18: slot 26 := Op.pick t21 (const (Value.bool true)) t25
        refine ob_yes fun f w' hb hp => ?_
        simp [PreOf, factOf, valOf, Ph.is, Ph.by_, Ph.any, Region.binds] at hp
        refine ⟨by simp [Gd, valOf, hp], ?_⟩
        refine mild_val (.bool false) ?_ rfl
        simp [execOp, evalF, hp, go_sem]
      · -- 19: slot 27 := Op.move t26
        refine ob_yes fun f w' hb hp => ?_
        simp [PreOf, factOf, valOf, Ph.is, Ph.by_, Ph.any, Region.binds] at hp
        refine ⟨by simp [Gd, valOf, hp], ?_⟩
        refine mild_val (.bool false) ?_ rfl
        simp [execOp, evalF, hp]
      · -- 20: slot 28 := Op.fieldAddr 29 t1 4
        refine ob_yes fun f w' hb hp => ?_
        simp [PreOf, factOf, valOf, Ph.is, Ph.by_, Ph.any, Region.binds] at hp
        refine ⟨by simp [Gd, valOf, hp], ?_⟩
        refine mild_val (.pointer (some ⟨w.heap.size, 4, none⟩)) ?_ rfl
        simp [execOp, evalF, hp, go_sem]
      · -- 21: slot 29 := Op.load 25 t28
        refine ob_yes fun f w' hb hp => ?_
        simp [PreOf, factOf, valOf, Ph.is, Ph.by_, Ph.any, Region.binds] at hp
        refine ⟨by simp [Gd, valOf, hp], ?_⟩
        refine mild_val (.slice A n c) ?_ rfl
        have hc := (X1.out.below X1.out.lt hb).cell 4 _ rfl
        simp [execOp, evalF, hp, hc, go_sem]
      · -- 22: slot 30 := Op.call   builtin len, args := #[t29], argTypes := #[25]  
        refine ob_yes fun f w' hb hp => ?_
        simp [PreOf, factOf, valOf, Ph.is, Ph.by_, Ph.any, Region.binds] at hp
        refine ⟨by simp [Gd, valOf, hp], ?_⟩
        refine mild_val (.int .i64 (n : Int)) ?_ rfl
        simp [execOp, evalF, hp, go_sem]
      · -- 23: slot 31 := Op.binOp BinOp.gtr 3 t30 (const (256:i64)) 3
        refine ob_yes fun f w' hb hp => ?_
        simp [PreOf, factOf, valOf, Ph.is, Ph.by_, Ph.any, Region.binds] at hp
        refine ⟨by simp [Gd, valOf, hp], ?_⟩
        refine mild_val (.bool true) ?_ rfl
        simp [execOp, evalF, hp, go_sem]
        try omega
      · -- 24: slot 32 := Op.pick t27 (const (Value.bool true)) t31
        refine ob_yes fun f w' hb hp => ?_
        simp [PreOf, factOf, valOf, Ph.is, Ph.by_, Ph.any, Region.binds] at hp
        refine ⟨by simp [Gd, valOf, hp], ?_⟩
        refine mild_val (.bool true) ?_ rfl
        simp [execOp, evalF, hp, go_sem]
    · intro f w2 hb2 hp
      simp only [PostOf, Ph.is, Ph.by_, Ph.any] at hp
      obtain ⟨h0, h1, h2, h3, h4, h5, h6, h7, h8, h9, h10, h11, h12, h13, h14, h15, h16, h17, h18, h19, h20, h21, h22, h23, h24, _⟩ := hp
      simp only [fills, List.foldl_cons, List.foldl_nil, Act.put, List.setIfInBounds_toArray, List.set_cons_zero, List.set_cons_succ, h0, h1, h2, h4, h5, h6, h7, h8, h9, h10, h11, h12, h13, h14, h15, h16, h17, h18, h19, h20, h21, h22, h23, h24]
      clear h0 h1 h2 h4 h5 h6 h7 h8 h9 h10 h11 h12 h13 h14 h15 h16 h17 h18 h19 h20 h21 h22 h23 h24
      generalize f 11 = v11 at *
      go_wp2_with fail
      go_ret
      refine ⟨?_, bstep Hb1.out hb2⟩
      rw [HM.out]
      simp
      try omega
  ·
    refine wp_region_typed [some 8, some 9, some 10, some 11, some 12, some 13, some 14, some 15, some 16, some 17, some 18, some 19, some 20, some 21, some 22, some 23, some 24, some 25, some 26, some 27, some 28, some 29, some 30, some 31, some 32] [8, 9, 10, 11, 12, 13, 14, 15, 16, 17, 18, 19, 20, 21, 22, 23, 24, 25, 26, 27, 28, 29, 30, 31, 32]
      [Ph.is (.pointer (some ⟨w.heap.size, 0, none⟩)),
        Ph.is (.int .u8 (kd : Int)),
        Ph.is (.int .i64 (kd : Int)),
        Ph.any,
        Ph.is (.int .i64 3),
        Ph.is (.bool false),
        Ph.is (.bool false),
        Ph.is (.pointer (some ⟨w.heap.size, 5, none⟩)),
        Ph.is (.int .u32 (st : Int)),
        Ph.is (.pointer (some ⟨w.heap.size, 6, none⟩)),
        Ph.is (.int .u32 (so : Int)),
        Ph.is (.bool false),
        Ph.is (.bool false),
        Ph.is (.bool false),
        Ph.is (.pointer (some ⟨w.heap.size, 4, none⟩)),
        Ph.is (.slice A n c),
        Ph.is (.int .i64 (n : Int)),
        Ph.is (.bool false),
        Ph.is (.bool false),
        Ph.is (.bool false),
        Ph.is (.pointer (some ⟨w.heap.size, 4, none⟩)),
        Ph.is (.slice A n c),
        Ph.is (.int .i64 (n : Int)),
        Ph.is (.bool false),
        Ph.is (.bool false)] rfl rfl (by kernel_rfl) (by kernel_rfl) ?_ ?_
    · refine ⟨?_, ?_, ?_, ?_, ?_, ?_, ?_, ?_, ?_, ?_, ?_, ?_, ?_, ?_, ?_, ?_, ?_, ?_, ?_, ?_, ?_, ?_, ?_, ?_, ?_, trivial⟩
      · -- 0: slot 8 := Op.fieldAddr 29 t1 0
        refine ob_yes fun f w' hb hp => ?_
        simp [PreOf, factOf, valOf, Ph.is, Ph.by_, Ph.any, Region.binds] at hp
        refine ⟨by simp [Gd, valOf, hp], ?_⟩
        refine mild_val (.pointer (some ⟨w.heap.size, 0, none⟩)) ?_ rfl
        simp [execOp, evalF, hp, go_sem]
      · -- 1: slot 9 := Op.load 5 t8
        refine ob_yes fun f w' hb hp => ?_
        simp [PreOf, factOf, valOf, Ph.is, Ph.by_, Ph.any, Region.binds] at hp
        refine ⟨by simp [Gd, valOf, hp], ?_⟩
        refine mild_val (.int .u8 (kd : Int)) ?_ rfl
        have hc := (X1.out.below X1.out.lt hb).cell 0 _ rfl
        simp [execOp, evalF, hp, hc, go_sem]
      · -- 2: slot 10 := Op.convert 5 3 t9
        refine ob_yes fun f w' hb hp => ?_
        simp [PreOf, factOf, valOf, Ph.is, Ph.by_, Ph.any, Region.binds] at hp
        refine ⟨by simp [Gd, valOf, hp], ?_⟩
        refine mild_val (.int .i64 (kd : Int)) ?_ rfl
        simp [execOp, evalF, hp, go_sem, Hwr.out]
      · -- 3: slot 11 := Op.call   value (Operand.func 124), args := #[], argTypes := #[]  
        refine ob_yes fun f w' hb hp => ?_
        simp [PreOf, factOf, valOf, Ph.is, Ph.by_, Ph.any, Region.binds] at hp
        refine ⟨by simp [Gd, valOf, hp], ?_⟩
        refine mild_call 124 _ _ Tryz.f124 Tryz.func124 (by kernel_rfl) (by kernel_rfl) rfl ?_
        simp [evalF, hp, Ph.is, Ph.by_, Ph.any]
        refine (kinds_any w').mono fun ev w2 h => ?_
        obtain ⟨v, rfl, h2⟩ := h
        exact ⟨⟨v, rfl⟩, h2⟩
      · -- 4: slot 12 := Op.move (const (3:i64))
        refine ob_yes fun f w' hb hp => ?_
        simp [PreOf, factOf, valOf, Ph.is, Ph.by_, Ph.any, Region.binds] at hp
        refine ⟨by simp [Gd, valOf, hp], ?_⟩
        refine mild_val (.int .i64 3) ?_ rfl
        simp [execOp, evalF, hp, go_sem]
      · -- 5: slot 13 := Op.binOp BinOp.geq 3 t10 t12 3
        refine ob_yes fun f w' hb hp => ?_
        simp [PreOf, factOf, valOf, Ph.is, Ph.by_, Ph.any, Region.binds] at hp
        refine ⟨by simp [Gd, valOf, hp], ?_⟩
        refine mild_val (.bool false) ?_ rfl
        simp [execOp, evalF, hp, go_sem]
        try omega
      · -- 6: slot 14 := Op.move t13
        refine ob_yes fun f w' hb hp => ?_
        simp [PreOf, factOf, valOf, Ph.is, Ph.by_, Ph.any, Region.binds] at hp
        refine ⟨by simp [Gd, valOf, hp], ?_⟩
        refine mild_val (.bool false) ?_ rfl
        simp [execOp, evalF, hp]
      · -- 7: slot 15 := Op.fieldAddr 29 t1 5
        refine ob_yes fun f w' hb hp => ?_
        simp [PreOf, factOf, valOf, Ph.is, Ph.by_, Ph.any, Region.binds] at hp
        refine ⟨by simp [Gd, valOf, hp], ?_⟩
        refine mild_val (.pointer (some ⟨w.heap.size, 5, none⟩)) ?_ rfl
        simp [execOp, evalF, hp, go_sem]
      · -- 8: slot 16 := Op.load 24 t15
        refine ob_yes fun f w' hb hp => ?_
        simp [PreOf, factOf, valOf, Ph.is, Ph.by_, Ph.any, Region.binds] at hp
        refine ⟨by simp [Gd, valOf, hp], ?_⟩
        refine mild_val (.int .u32 (st : Int)) ?_ rfl
        have hc := (X1.out.below X1.out.lt hb).cell 5 _ rfl
        simp [execOp, evalF, hp, hc, go_sem]
      · -- 9: slot 17 := Op.fieldAddr 29 t1 6
        refine ob_yes fun f w' hb hp => ?_
        simp [PreOf, factOf, valOf, Ph.is, Ph.by_, Ph.any, Region.binds] at hp
        refine ⟨by simp [Gd, valOf, hp], ?_⟩
        refine mild_val (.pointer (some ⟨w.heap.size, 6, none⟩)) ?_ rfl
        simp [execOp, evalF, hp, go_sem]
      · -- 10: slot 18 := Op.load 24 t17
        refine ob_yes fun f w' hb hp => ?_
        simp [PreOf, factOf, valOf, Ph.is, Ph.by_, Ph.any, Region.binds] at hp
        refine ⟨by simp [Gd, valOf, hp], ?_⟩
        refine mild_val (.int .u32 (so : Int)) ?_ rfl
        have hc := (X1.out.below X1.out.lt hb).cell 6 _ rfl
        simp [execOp, evalF, hp, hc, go_sem]
      · -- 11: slot 19 := Op.binOp BinOp.gtr 24 t16 t18 24
        refine ob_yes fun f w' hb hp => ?_
        simp [PreOf, factOf, valOf, Ph.is, Ph.by_, Ph.any, Region.binds] at hp
        refine ⟨by simp [Gd, valOf, hp], ?_⟩
        refine mild_val (.bool false) ?_ rfl
        simp [execOp, evalF, hp, go_sem]
        try omega
      · -- 12: slot 20 := Op.pick t14 (const (Value.bool true)) t19
        refine ob_yes fun f w' hb hp => ?_
        simp [PreOf, factOf, valOf, Ph.is, Ph.by_, Ph.any, Region.binds] at hp
        refine ⟨by simp [Gd, valOf, hp], ?_⟩
        refine mild_val (.bool false) ?_ rfl
        simp [execOp, evalF, hp, go_sem]
      · -- 13: slot 21 := Op.move t20
        refine ob_yes fun f w' hb hp => ?_
        simp [PreOf, factOf, valOf, Ph.is, Ph.by_, Ph.any, Region.binds] at hp
        refine ⟨by simp [Gd, valOf, hp], ?_⟩
        refine mild_val (.bool false) ?_ rfl
        simp [execOp, evalF, hp]
      · -- 14: slot 22 := Op.fieldAddr 29 t1 4
        refine ob_yes fun f w' hb hp => ?_
        simp [PreOf, factOf, valOf, Ph.is, Ph.by_, Ph.any, Region.binds] at hp
        refine ⟨by simp [Gd, valOf, hp], ?_⟩
        refine mild_val (.pointer (some ⟨w.heap.size, 4, none⟩)) ?_ rfl
        simp [execOp, evalF, hp, go_sem]
      · -- 15: slot 23 := Op.load 25 t22
        refine ob_yes fun f w' hb hp => ?_
        simp [PreOf, factOf, valOf, Ph.is, Ph.by_, Ph.any, Region.binds] at hp
        refine ⟨by simp [Gd, valOf, hp], ?_⟩
        refine mild_val (.slice A n c) ?_ rfl
        have hc := (X1.out.below X1.out.lt hb).cell 4 _ rfl
        simp [execOp, evalF, hp, hc, go_sem]
      · -- 16: slot 24 := Op.call   builtin len, args := #[t23], argTypes := #[25]  
        refine ob_yes fun f w' hb hp => ?_
        simp [PreOf, factOf, valOf, Ph.is, Ph.by_, Ph.any, Region.binds] at hp
        refine ⟨by simp [Gd, valOf, hp], ?_⟩
        refine mild_val (.int .i64 (n : Int)) ?_ rfl
        simp [execOp, evalF, hp, go_sem]
      · -- 17: slot 25 := Op.binOp BinOp.eql 3 t24 (const (0:i64)) 3
        refine ob_yes fun f w' hb hp => ?_
        simp [PreOf, factOf, valOf, Ph.is, Ph.by_, Ph.any, Region.binds] at hp
        refine ⟨by simp [Gd, valOf, hp], ?_⟩
        refine mild_val (.bool false) ?_ rfl
        simp [execOp, evalF, hp, go_sem]
        try omega
      · -- 18: slot 26 := Op.pick t21 (const (Value.bool true)) t25
        refine ob_yes fun f w' hb hp => ?_
        simp [PreOf, factOf, valOf, Ph.is, Ph.by_, Ph.any, Region.binds] at hp
        refine ⟨by simp [Gd, valOf, hp], ?_⟩
        refine mild_val (.bool false) ?_ rfl
        simp [execOp, evalF, hp, go_sem]
      · -- 19: slot 27 := Op.move t26
        refine ob_yes fun f w' hb hp => ?_
        simp [PreOf, factOf, valOf, Ph.is, Ph.by_, Ph.any, Region.binds] at hp
        refine ⟨by simp [Gd, valOf, hp], ?_⟩
        refine mild_val (.bool false) ?_ rfl
        simp [execOp, evalF, hp]
      · -- 20: slot 28 := Op.fieldAddr 29 t1 4
        refine ob_yes fun f w' hb hp => ?_
        simp [PreOf, factOf, valOf, Ph.is, Ph.by_, Ph.any, Region.binds] at hp
        refine ⟨by simp [Gd, valOf, hp], ?_⟩
        refine mild_val (.pointer (some ⟨w.heap.size, 4, none⟩)) ?_ rfl
        simp [execOp, evalF, hp, go_sem]
      · -- 21: slot 29 := Op.load 25 t28
        refine ob_yes fun f w' hb hp => ?_
        simp [PreOf, factOf, valOf, Ph.is, Ph.by_, Ph.any, Region.binds] at hp
        refine ⟨by simp [Gd, valOf, hp], ?_⟩
        refine mild_val (.slice A n c) ?_ rfl
        have hc := (X1.out.below X1.out.lt hb).cell 4 _ rfl
        simp [execOp, evalF, hp, hc, go_sem]
      · -- 22: slot 30 := Op.call   builtin len, args := #[t29], argTypes := #[25]  
        refine ob_yes fun f w' hb hp => ?_
        simp [PreOf, factOf, valOf, Ph.is, Ph.by_, Ph.any, Region.binds] at hp
        refine ⟨by simp [Gd, valOf, hp], ?_⟩
        refine mild_val (.int .i64 (n : Int)) ?_ rfl
        simp [execOp, evalF, hp, go_sem]
      · -- 23: slot 31 := Op.binOp BinOp.gtr 3 t30 (const (256:i64)) 3
        refine ob_yes fun f w' hb hp => ?_
        simp [PreOf, factOf, valOf, Ph.is, Ph.by_, Ph.any, Region.binds] at hp
        refine ⟨by simp [Gd, valOf, hp], ?_⟩
        refine mild_val (.bool false) ?_ rfl
        simp [execOp, evalF, hp, go_sem]
        try omega
      · -- 24: slot 32 := Op.pick t27 (const (Value.bool true)) t31
        refine ob_yes fun f w' hb hp => ?_
        simp [PreOf, factOf, valOf, Ph.is, Ph.by_, Ph.any, Region.binds] at hp
        refine ⟨by simp [Gd, valOf, hp], ?_⟩
        refine mild_val (.bool false) ?_ rfl
        simp [execOp, evalF, hp, go_sem]
    · intro f w2 hb2 hp
      simp only [PostOf, Ph.is, Ph.by_, Ph.any] at hp
      obtain ⟨h0, h1, h2, h3, h4, h5, h6, h7, h8, h9, h10, h11, h12, h13, h14, h15, h16, h17, h18, h19, h20, h21, h22, h23, h24, _⟩ := hp
      simp only [fills, List.foldl_cons, List.foldl_nil, Act.put, List.setIfInBounds_toArray, List.set_cons_zero, List.set_cons_succ, h0, h1, h2, h4, h5, h6, h7, h8, h9, h10, h11, h12, h13, h14, h15, h16, h17, h18, h19, h20, h21, h22, h23, h24]
      clear h0 h1 h2 h4 h5 h6 h7 h8 h9 h10 h11 h12 h13 h14 h15 h16 h17 h18 h19 h20 h21 h22 h23 h24
      generalize f 11 = v11 at *
      have By2 := Lib.hid (Hby1.out.below (hb2.mono (by omega)))
      have X2 := Lib.hid (X1.out.below X1.out.lt hb2)
      have Hb2 := Lib.hid (bstep Hb1.out hb2)
      have hz2 : w.heap.size < w2.heap.size := by have := hb2.size; omega
      clear hb2 X1 Hby1 Hb1
      go_wp2_with fail
      refine (numbers_any w2 w.heap.size).mono ?_
      rintro _ w3 ⟨b, rfl, hbge, hnm, hb3⟩
      obtain ⟨D, hown, hP1, hP2⟩ := hnm
      have hz3 := hb3.size
      have X3 := Lib.hid (X2.out.below X2.out.lt hb3)
      have Hb3 := Lib.hid (bstep Hb2.out hb3)
      have By3 := Lib.hid (By2.out.below (hb3.mono (by omega)))
      have HP1 := Lib.hid hP1
      have HP2 := Lib.hid hP2
      clear hb3 X2 By2 Hb2 hP1 hP2
      go_wp2_with (at_range; refine wpList_range_own w3 rfl _ 205 rfl 9 208 (string_keyed Tryz.underlying9) Tryz.underlying205 nsR b 10 D rfl hown ?_; intro w4 hrg4 hg4 hs4)
      have hb34 := gofBelow hg4 (Nat.le_refl _) (by simp)
      have X4 := Lib.hid (X3.out.below X3.out.lt hb34)
      have Hb4 := Lib.hid (bstep Hb3.out hb34)
      have By4 := Lib.hid (By3.out.below (hb34.mono (by omega)))
      have hb34_ := hb34
      clear hb34 hg4 hown X3 By3 Hb3
      try simp only [Act.put, List.setIfInBounds_toArray, List.set_cons_zero, List.set_cons_succ]
      have hle4 : w.heap.size < w3.heap.size := by omega
      have hle5 : w.heap.size < w4.heap.size := by omega
      have hHb34 := Lib.hid hb34_
      clear hb34_ hz3
      go_loopw [4] (fun _ wr => ∃ left cnt, wr.ranges Tryz.prog 9 nsR b w3.heap.size 10 D left cnt ∧ Below w3.heap.size w4 wr ∧ (∀ kl, left kl = true → has D kl = true) ∧ (∀ i, i < 10 → left (.string (spI i).key) = false → (spI i).l.all (specOk j) = true)) (fun _ wr => wr.rangeLeft b w3.heap.size)
      case atStart => exact ⟨_, _, hrg4, Below.refl _ _, fun kl h => h, fun i hi h => by rw [HP2.out _ ⟨i, hi, rfl⟩] at h; cases h⟩
      case round =>
        obtain ⟨left, cnt, hrg, hbr, hlD, hdn⟩ := hrel
        have HlD := Lib.hid hlD
        have Hdn := Lib.hid hdn
        have Hbr := Lib.hid hbr
        have X5 := Lib.hid (X4.out.below (by omega) hbr)
        have By5 := Lib.hid (By4.out.below (hbr.mono (by omega)))
        clear hlD hdn hbr hrg4
        go_wp2_with (at_next; refine wpList_next_ranges _ rfl _ rfl 9 (string_keyed Tryz.underlying9) nsR (id : Value → Value) mkS (fun key kl _ => ⟨key, rfl⟩) nsR_inv b w3.heap.size 10 D left cnt rfl hrg ?_ ?_)
        · intro _ hl0
          have hOK : numsOk j = true := by
            unfold numsOk
            rw [List.all_eq_true]
            intro i hi
            exact Hdn.out i (by simpa using hi) (hl0 _)
          have HOK := Lib.hid hOK
          have hc4 := X5.out.cell 4 _ rfl
          have hzr := Hbr.out.size
          clear hl0 hOK
          go_wp2_with fail
          refine (cloneU wr _ j.srcs (By5.out.more (by omega)) (by have := Hn.out; omega)).mono ?_
          rintro _ w6 ⟨v6, rfl, hown6, hb6⟩
          have hz6 := hb6.size
          have X6 := Lib.hid (X5.out.below X5.out.lt hb6)
          have Hb6 := Lib.hid (bstep (Hb4.out.trans (Hbr.out.mono (by omega))) hb6)
          clear hc4 hb6 X5 By5 By4 X4
          go_wp2_with fail
          refine (Hs.out w6 wr.heap.size v6 hown6 hz6).mono ?_
          rintro _ w7 ⟨rfl, l7, hp7, hown7, hch7⟩
          have hbk := hown6.blk
          have X7 := Lib.hid (X6.out.chg hch7 (fun e => by have := (hbk _ e).1; omega))
          have hb7 := hch7.below (B := w.heap.size) (by omega) (fun k hk => by have := (hbk k hk).1; omega)
          have Hb7 := Lib.hid (Hb6.out.trans hb7)
          have By7 : Hid (ByU w7 w7.heap.size v6 l7) := Lib.hid hown7.rowAll
          have hl7 : l7.length = n := by rw [Hn.out]; exact hp7.length_eq
          have hnd7 : l7.Nodup := hp7.nodup_iff.2 Hnd.out
          have hne7 : ∀ i, (hi : i + 1 < l7.length) → l7[i + 1] ≠ l7[i] := fun i hi e => List.pairwise_iff_getElem.1 hnd7 i (i + 1) (by omega) hi (by omega) e.symm
          have HN7 := Lib.hid hne7
          obtain ⟨A7, c7, rfl, -, -⟩ := hown7.rowAll.form
          rw [hl7] at By7 ⊢
          have Hl7 := Lib.hid hl7
          clear hl7
          clear hbk hb7 hch7 hown6 hown7 hne7 hnd7 hp7 X6 Hb6 Hs Hnd
          go_upto_region 14 with fail
          refine wp_region_typed [some 69, some 70, some 71, some 72, some 73, some 74, some 75, some 2] [69, 70, 71, 72, 73, 74, 75, 2]
            [Ph.is (.slice A7 n c7),
              Ph.is (.slice A7 n c7),
              Ph.is (.int .i64 (n : Int)),
              Ph.is (.pointer (some ⟨w.heap.size, 4, none⟩)),
              Ph.is (.slice A n c),
              Ph.is (.int .i64 (n : Int)),
              Ph.is (.bool true),
              Ph.is (.bool true)] rfl rfl (by kernel_rfl) (by kernel_rfl) ?_ ?_
          · refine ⟨?_, ?_, ?_, ?_, ?_, ?_, ?_, ?_, trivial⟩
            · -- 0: slot 69 := Op.move t7
              refine ob_yes fun f w' hb hp => ?_
              simp [PreOf, factOf, valOf, Ph.is, Ph.by_, Ph.any, Region.binds] at hp
              refine ⟨by simp [Gd, valOf, hp], ?_⟩
              refine mild_val (.slice A7 n c7) ?_ rfl
              simp [execOp, evalF, hp]
            · -- 1: slot 70 := Op.call   value (Operand.func 128), args := #[t69], argTypes := #[25]  
              refine ob_yes fun f w' hb hp => ?_
              simp [PreOf, factOf, valOf, Ph.is, Ph.by_, Ph.any, Region.binds] at hp
              refine ⟨by simp [Gd, valOf, hp], ?_⟩
              refine mild_call 128 _ _ Tryz.f128 Tryz.func128 (by kernel_rfl) (by kernel_rfl) rfl ?_
              simp [evalF, hp, Ph.is, Ph.by_, Ph.any]
              refine (compactU w' w7.heap.size _ l7 (ByU.below By7.out hb) (by rw [Hl7.out]; omega) HN7.out).mono fun ev w8 h => ?_
              obtain ⟨rfl, q, rfl⟩ := h
              exact ⟨rfl, bdrewN (Below.refl _ _) q⟩
            · -- 2: slot 71 := Op.call   builtin len, args := #[t70], argTypes := #[25]  
              refine ob_yes fun f w' hb hp => ?_
              simp [PreOf, factOf, valOf, Ph.is, Ph.by_, Ph.any, Region.binds] at hp
              refine ⟨by simp [Gd, valOf, hp], ?_⟩
              refine mild_val (.int .i64 (n : Int)) ?_ rfl
              simp [execOp, evalF, hp, go_sem]
            · -- 3: slot 72 := Op.fieldAddr 29 t1 4
              refine ob_yes fun f w' hb hp => ?_
              simp [PreOf, factOf, valOf, Ph.is, Ph.by_, Ph.any, Region.binds] at hp
              refine ⟨by simp [Gd, valOf, hp], ?_⟩
              refine mild_val (.pointer (some ⟨w.heap.size, 4, none⟩)) ?_ rfl
              simp [execOp, evalF, hp, go_sem]
            · -- 4: slot 73 := Op.load 25 t72
              refine ob_yes fun f w' hb hp => ?_
              simp [PreOf, factOf, valOf, Ph.is, Ph.by_, Ph.any, Region.binds] at hp
              refine ⟨by simp [Gd, valOf, hp], ?_⟩
              refine mild_val (.slice A n c) ?_ rfl
              have hc := (X7.out.below X7.out.lt hb).cell 4 _ rfl
              simp [execOp, evalF, hp, hc, go_sem]
            · -- 5: slot 74 := Op.call   builtin len, args := #[t73], argTypes := #[25]  
              refine ob_yes fun f w' hb hp => ?_
              simp [PreOf, factOf, valOf, Ph.is, Ph.by_, Ph.any, Region.binds] at hp
              refine ⟨by simp [Gd, valOf, hp], ?_⟩
              refine mild_val (.int .i64 (n : Int)) ?_ rfl
              simp [execOp, evalF, hp, go_sem]
            · -- 6: slot 75 := Op.binOp BinOp.eql 3 t71 t74 3
              refine ob_yes fun f w' hb hp => ?_
              simp [PreOf, factOf, valOf, Ph.is, Ph.by_, Ph.any, Region.binds] at hp
              refine ⟨by simp [Gd, valOf, hp], ?_⟩
              refine mild_val (.bool true) ?_ rfl
              simp [execOp, evalF, hp, go_sem]
            · -- 7: slot 2 := Op.assign t75
              refine ob_yes fun f w' hb hp => ?_
              simp [PreOf, factOf, valOf, Ph.is, Ph.by_, Ph.any, Region.binds] at hp
              refine ⟨by simp [Gd, valOf, hp], ?_⟩
              refine mild_val (.bool true) ?_ rfl
              simp [execOp, evalF, hp]
          · intro f w8 hb8 hp
            simp only [PostOf, Ph.is, Ph.by_, Ph.any] at hp
            obtain ⟨h0, h1, h2, h3, h4, h5, h6, h7, _⟩ := hp
            simp only [fills, List.foldl_cons, List.foldl_nil, Act.put, List.setIfInBounds_toArray, List.set_cons_zero, List.set_cons_succ, h0, h1, h2, h3, h4, h5, h6, h7]
            clear h0 h1 h2 h3 h4 h5 h6 h7
            go_wp2_with fail
            go_ret
            exact ⟨by rw [HM.out, HOK.out]; simp; omega, bstep Hb7.out hb8⟩
        · intro x ga na kl y1 y2 w5 cnt5 hkey hlk hR hat hrg5 hlt5 hg5 hs5 hen
          obtain ⟨x1, ⟨i0, hi0, rfl⟩, g, rfl, hz, hbx⟩ := HP1.out kl (HlD.out kl hlk)
          have e1 := (hat (.map [])).symm.trans (hz (.map []))
          rw [nsR_mk (ga, na)] at hR
          injection hR with hR
          injection hR with hR1 hR2
          rw [← hR1] at e1
          injection e1 with e1
          obtain ⟨L, hL⟩ : ∃ L, L = (spI i0).l := ⟨_, rfl⟩
          have hL2 := spI_two i0 hi0
          have hLo := spI_ok i0 hi0
          rw [← hL] at e1 hbx hL2 hLo
          unfold mkS at e1 hen
          simp only [Value.slice.injEq, Option.some.injEq, Addr.mk.injEq, and_true, true_and] at e1
          obtain ⟨rfl, rfl, -⟩ := e1
          have hgl := hbx.lt
          have hbr5 := gofBelow hg5 (B := w3.heap.size) (by have := Hbr.out.size; omega) (fun k hk => by injection hk; omega)
          have G5 := Lib.hid (((hbx.below hbx.lt hHb34.out).below hgl Hbr.out).below hgl hbr5)
          have X6 := Lib.hid (X5.out.below (by omega) hbr5)
          have By6 := Lib.hid (By5.out.below (hbr5.mono (by omega)))
          have Hb5 := Lib.hid (Hbr.out.trans hbr5)
          have HL := Lib.hid hL
          have HLo := Lib.hid hLo
          have Hlk := Lib.hid hlk
          clear hkey hlk hR1 hR2 hat hz hbx hL hLo hbr5 hg5 X5 By5
          go_wp2_with fail
          go_loopw [41] (fun kv wq => ∃ k : Nat, kv = .int .i64 k ∧ k ≤ L.length ∧ (∀ i, (hi : i < L.length) → i < k → specOk j L[i] = true) ∧ wq.ranges Tryz.prog 9 nsR b w3.heap.size 10 D (fun z => left z && !z.sameKey (.string (spI i0).key)) cnt5 ∧ Below w5.heap.size w5 wq) (fun kv _ => L.length - (intOf kv).toNat)
          case atStart => exact ⟨0, rfl, by omega, fun i _ h => by omega, hrg5, Below.refl _ _⟩
          case round =>
            obtain ⟨k, rfl, hk, hok, hrq, hbq⟩ := hrel
            have Hok := Lib.hid hok
            have Hbq := Lib.hid hbq
            clear hok hbq
            by_cases hlt : k < L.length
            · have hdk : decide ((k : Int) < (L.length : Int)) = true := decide_eq_true (by omega)
              obtain ⟨hq0, hq1, hq2⟩ := specC_at w.heap.size L k hlt
              rw [Nat.mul_comm 3 k] at hq0 hq1 hq2
              obtain ⟨ho1, ho2, ho3, ho4, ho5⟩ := HLo.out L[k] (List.getElem_mem hlt)
              have hcj := (X6.out.below X6.out.lt Hbq.out).cell _ _ (by rw [← HJC.out]; exact jobC_at j (.slice A n c) (L[k]).1 ho1 ho2 ho3)
              have ha4 := jobN_lt j (L[k]).1
              obtain ⟨z, hz⟩ : ∃ z, z = L[k] := ⟨_, rfl⟩
              rw [← hz] at hq0 hq1 hq2 ho1 ho2 ho3 ho4 ho5 hcj ha4
              have Hz := Lib.hid hz
              clear hz
              obtain ⟨o, lo, hi⟩ := z
              obtain ⟨na, hna⟩ : ∃ na, na = jobN j o := ⟨_, rfl⟩
              simp only at hq0 hq1 hq2 ho1 ho2 ho3 ho4 ho5 hcj ha4
              rw [← hna] at hcj ha4
              have Hna := Lib.hid hna
              have GQ := G5.out.below G5.out.lt Hbq.out
              have hcs : ∀ (jj : Nat) (vv : Value), ([.pointer (some ⟨w.heap.size, o, none⟩), .int .u64 (lo : Int), .int .u64 (hi : Int)] : List Value)[jj]? = some vv → wr.cell? ((⟨ga, k * 3, none⟩ : Addr).add jj) = some vv := by
                intro jj vv hjv
                have hadd : (⟨ga, k * 3, none⟩ : Addr).add jj = ⟨ga, k * 3 + jj, none⟩ := by unfold Addr.add; split <;> simp_all
                rw [hadd]
                match jj, hjv with
                | 0, e => injection e with e; subst e; exact GQ.cell _ _ hq0
                | 1, e => injection e with e; subst e; exact GQ.cell _ _ hq1
                | 2, e => injection e with e; subst e; exact GQ.cell _ _ hq2
                | jj + 3, e => simp at e
              have HCS := Lib.hid hcs
              have Hone : Hid (∀ u ∈ ([.pointer (some ⟨w.heap.size, o, none⟩), .int .u64 (lo : Int), .int .u64 (hi : Int)] : List Value), u.oneCell' = true) := Lib.hid fun u hu => by
                simp at hu
                rcases hu with rfl | rfl | rfl <;> rfl
              clear hna hq0 hq1 hq2 GQ hcs
              go_upto_region 9 with (first
                | (refine wpList_alloc_z rfl 211 rfl infoNum [.pointer none, .int .u64 0, .int .u64 0] rfl ?_)
                | (refine wpList_load_agg rfl 211 (.tmp 43) rfl ⟨ga, k * 3, none⟩ (by first | rfl | simp [Act.eval]) [.pointer (some ⟨w.heap.size, o, none⟩), .int .u64 (lo : Int), .int .u64 (hi : Int)] HCS.out Tryz.underlying211 rfl infoNum3 ?_)
                | (refine wpList_store_newX rfl 211 (.tmp 6) (.tmp 44) rfl [.pointer none, .int .u64 0, .int .u64 0] [.pointer (some ⟨w.heap.size, o, none⟩), .int .u64 (lo : Int), .int .u64 (hi : Int)] rfl rfl infoNum3 rfl Hone.out ?_
                   intro wn hbxn hbn hzn))
              try simp only [Act.put, List.setIfInBounds_toArray, List.set_cons_zero, List.set_cons_succ]
              have hcb0 := hbxn.cell 0 _ rfl
              have hcb1 := hbxn.cell 1 _ rfl
              have hcb2 := hbxn.cell 2 _ rfl
              have hblt := (X6.out.below X6.out.lt Hbq.out).lt
              have hcn := (hbn.cell (p := ⟨w.heap.size, o, none⟩) hblt).trans hcj
              have hw64 : IntKind.u64.wrap (na : Int) = (na : Int) := by rw [wrap_u64]; omega
              have HbN : Hid (Below w.heap.size w wn) := Lib.hid (bstep (Hb4.out.trans ((Hb5.out.trans (Hbq.out.mono (by have := Hb5.out.size; omega))).mono (by omega))) hbn)
              have Hbn := Lib.hid hbn
              clear hbn hbxn hcj hblt
              by_cases hlo : na < lo
              · have hd1 : decide ((na : Int) < (lo : Int)) = true := decide_eq_true (by omega)
                go_quiet (fail)
                go_wp2_with fail
                go_ret
                have hno : numsOk j = false := by
                  cases hnn : numsOk j with
                  | false => rfl
                  | true =>
                    unfold numsOk at hnn
                    rw [List.all_eq_true] at hnn
                    have h1 := hnn i0 (by simpa using hi0)
                    rw [List.all_eq_true] at h1
                    have h2 := h1 (o, lo, hi) (by rw [Hz.out, ← HL.out]; exact List.getElem_mem hlt)
                    simp [specOk, ← Hna.out] at h2
                    omega
                exact ⟨by rw [HM.out, hno]; simp, bdrewN (HbN.out) nq⟩
              · have hd1 : decide ((na : Int) < (lo : Int)) = false := decide_eq_false (by omega)
                by_cases hhi : hi < na
                · have hd2 : decide ((hi : Int) < (na : Int)) = true := decide_eq_true (by omega)
                  go_quiet (fail)
                  go_wp2_with fail
                  go_ret
                  have hno : numsOk j = false := by
                    cases hnn : numsOk j with
                    | false => rfl
                    | true =>
                      unfold numsOk at hnn
                      rw [List.all_eq_true] at hnn
                      have h1 := hnn i0 (by simpa using hi0)
                      rw [List.all_eq_true] at h1
                      have h2 := h1 (o, lo, hi) (by rw [Hz.out, ← HL.out]; exact List.getElem_mem hlt)
                      simp [specOk, ← Hna.out] at h2
                      omega
                  exact ⟨by rw [HM.out, hno]; simp, bdrewN (HbN.out) nq⟩
                · have hd2 : decide ((hi : Int) < (na : Int)) = false := decide_eq_false (by omega)
                  go_quiet (fail)
                  go_wp2_with fail
                  go_roundw
                  case rel =>
                    have hbe := bdrewN Hbn.out nq
                    refine ⟨k + 1, by go_num, by omega, fun i hi' h => ?_, hrq.kept (row := none) (gbelow hbe none) (by simp) (by simp), bstep Hbq.out hbe⟩
                    rcases Nat.lt_or_ge i k with hik | hik
                    · exact Hok.out i hi' hik
                    · have : i = k := by omega
                      subst this
                      rw [← Hz.out]
                      simp [specOk, ← Hna.out]
                      omega
                  case measure => simp [intOf]; omega
            · have hdk : decide ((k : Int) < (L.length : Int)) = false := decide_eq_false (by omega)
              go_wp2_with fail
              refine ⟨⟨_, _, hrq, Hb5.out.trans (Hbq.out.mono (by have := Hbr.out.size; omega)), fun kl h => HlD.out kl (by simp at h; exact h.1), fun i hi h => ?_⟩, ?_⟩
              · simp only [Bool.and_eq_false_imp] at h
                cases hl : left (.string (spI i).key) with
                | false => exact Hdn.out i hi hl
                | true =>
                  have h2 := h hl
                  simp only [Bool.not_eq_false'] at h2
                  have e := spI_key i hi i0 hi0 (sameKey_str h2)
                  subst e
                  rw [← HL.out, List.all_eq_true]
                  intro e he
                  obtain ⟨q, hq, rfl⟩ := List.mem_iff_getElem.1 he
                  exact Hok.out q hq (by omega)
              · rw [hrq.left_eq, hrg.left_eq]
                omega
end Go.Proofs.YtcffeepgfjpcaaaGreat

namespace Go.Proofs.YtcffeepgfjpcaaaGreat
set_option linter.unusedSimpArgs false
set_option linter.unusedVariables false
open Go.RowKit Go.Maps

def walkersJ (j : GJob) : Nat := if mayJ j = true then j.srcs.length * j.walks.toNat else 0
theorem mayJ_parts {j : GJob} (h : mayJ j = true) : 0 < j.srcs.length ∧ j.srcs.length ≤ 256 ∧ 1 ≤ j.walks.toNat ∧ j.walks.toNat ≤ 65536 ∧ 1 ≤ j.of_.toNat ∧ 1 ≤ j.p.toNat ∧ j.p.toNat ≤ 65536 ∧ 1 ≤ j.q.toNat ∧ j.q.toNat ≤ 65536 ∧ 1 ≤ j.tries.toNat := by
  unfold mayJ at h
  simp only [Bool.and_eq_true, decide_eq_true_eq] at h
  obtain ⟨_, _, h1, h2, h3⟩ := h
  unfold numsOk at h3
  rw [List.all_eq_true] at h3
  have q1 := h3 1 (by simp)
  have q2 := h3 2 (by simp)
  have q3 := h3 3 (by simp)
  have q4 := h3 4 (by simp)
  simp [spI, numT, specOk, jobN] at q1 q2 q3 q4
  omega
theorem infoJob15 : (Tryz.prog.info? 29).map (·.size) = some 15 := by kernel_rfl
set_option maxRecDepth 100000 in
set_option maxHeartbeats 1600000 in
theorem walkers_any (w : World) (v : Value) (j : GJob) (h : JobAt w w.heap.size v j) (hnd : j.srcs.Nodup) (hs : SortOk j.srcs) :
    Calls Tryz.prog 98 #[v] w fun e w' => e = .returned (.int .u32 (walkersJ j : Int)) ∧ Below w.heap.size w w' := by
  have hm := fun W (hW : Below w.heap.size w W) => may_jobAny W v j (h.step hW) hnd hs
  obtain ⟨vs, rfl, hby⟩ := h
  obtain ⟨A, c, rfl, hc1, hc2⟩ := hby.form
  obtain ⟨n, hn⟩ : ∃ n, n = walkersJ j := ⟨_, rfl⟩
  obtain ⟨ok, hok⟩ : ∃ ok, ok = mayJ j := ⟨_, rfl⟩
  have hp := @mayJ_parts j
  rw [← hn]
  unfold walkersJ at hn
  rw [← hok] at hn hp hm
  have hb1 : Below w.heap.size w (w.alloc (.cells (jobC j (.slice A j.srcs.length c)).toArray 29)) := balloc _ _
  have hx1 : BoxAt 29 (w.alloc (.cells (jobC j (.slice A j.srcs.length c)).toArray 29)) w.heap.size (jobC j (.slice A j.srcs.length c)) := BoxAt.new_ _ _ _
  have Hm := Lib.hid hm
  have Hn := Lib.hid hn
  have Hp := Lib.hid hp
  have Hb1 := Lib.hid hb1
  have X1 := Lib.hid hx1
  clear hm hn hp hok hby hb1 hx1
  have hwk := u32_lt j.walks
  go_enter Tryz.func98, Tryz.ntmps98
  go_wp2_with (refine wpList_load_agg rfl 29 (.tmp 1) rfl ⟨w.heap.size, 0, none⟩ rfl (jobC j (.slice A j.srcs.length c)) X1.out.cells Tryz.underlying29 rfl infoJob15 ?_)
  refine (Hm.out _ Hb1.out).mono ?_
  rintro _ w2 ⟨rfl, hb2⟩
  have X2 := X1.out.below X1.out.lt hb2
  have hc3 := X2.cell 3 _ rfl
  have hc4 := X2.cell 4 _ rfl
  have Hb2 := Lib.hid (bstep Hb1.out hb2)
  clear hb2 X2 Hm Hb1
  cases ok with
  | false =>
    go_wp2_with fail
    go_ret
    exact ⟨by rw [Hn.out]; simp, Hb2.out⟩
  | true =>
    obtain ⟨p1, p2, p3, p4, -⟩ := Hp.out rfl
    have hmm : j.srcs.length * j.walks.toNat ≤ 256 * 65536 := Nat.mul_le_mul p2 p4
    have hw1 : IntKind.u32.wrap (j.srcs.length : Int) = (j.srcs.length : Int) := by rw [IntKind.wrap_u32']; omega
    have hw2 : IntKind.u32.wrap ((j.srcs.length : Int) * (j.walks.toNat : Int)) = ((j.srcs.length * j.walks.toNat : Nat) : Int) := by
      rw [← Int.natCast_mul, IntKind.wrap_u32']; omega
    have hn2 : n = j.srcs.length * j.walks.toNat := by rw [Hn.out]; simp
    have HN2 := Lib.hid hn2
    clear hn2 p1 p2 p3 p4
    go_wp2_with fail
    go_ret
    exact ⟨by rw [HN2.out]; try simp [hw2], Hb2.out⟩
/-- the place of a walker's source -/
def srcJ (j : GJob) (id : Nat) : Nat := if id < walkersJ j then id / j.walks.toNat else 0
theorem srcJ_lt {j : GJob} {id : Nat} (h : id < walkersJ j) : mayJ j = true ∧ id / j.walks.toNat < j.srcs.length ∧ id / j.walks.toNat < 256 := by
  unfold walkersJ at h
  split at h
  · rename_i hm
    have hp := mayJ_parts hm
    have h2 : id / j.walks.toNat < j.srcs.length := by
      rw [Nat.div_lt_iff_lt_mul (by omega)]
      exact h
    exact ⟨hm, h2, by omega⟩
  · omega
set_option maxRecDepth 100000 in
set_option maxHeartbeats 1600000 in
theorem source_any (w : World) (v : Value) (j : GJob) (id : Nat) (hid : id < 4294967296) (h : JobAt w w.heap.size v j) (hnd : j.srcs.Nodup) (hs : SortOk j.srcs) (is : Bool) (his : is = decide (id < walkersJ j)) :
    Calls Tryz.prog 61 #[v, .int .u32 (id : Int)] w fun e w' => e = .returned (.tuple #[.int .i64 (srcJ j id : Int), .bool is]) ∧ Below w.heap.size w w' := by
  have hm := fun W (hW : Below w.heap.size w W) => walkers_any W v j (h.step hW) hnd hs
  obtain ⟨vs, rfl, hby⟩ := h
  obtain ⟨A, c, rfl, hc1, hc2⟩ := hby.form
  obtain ⟨s, hs2⟩ : ∃ s, s = srcJ j id := ⟨_, rfl⟩
  rw [← hs2]
  unfold srcJ at hs2
  have hp := @srcJ_lt j id
  obtain ⟨n, hn⟩ : ∃ n, n = walkersJ j := ⟨_, rfl⟩
  have hwk := u32_lt j.walks
  rw [← hn] at hs2 hp hm his
  have hb1 : Below w.heap.size w (w.alloc (.cells (jobC j (.slice A j.srcs.length c)).toArray 29)) := balloc _ _
  have hx1 : BoxAt 29 (w.alloc (.cells (jobC j (.slice A j.srcs.length c)).toArray 29)) w.heap.size (jobC j (.slice A j.srcs.length c)) := BoxAt.new_ _ _ _
  have Hm := Lib.hid hm
  have Hs2 := Lib.hid hs2
  have Hp := Lib.hid hp
  have Hb1 := Lib.hid hb1
  have X1 := Lib.hid hx1
  have His := Lib.hid his
  clear hm hn hp hs2 hby hb1 hx1 his
  go_enter Tryz.func61, Tryz.ntmps61
  go_wp2_with (refine wpList_load_agg rfl 29 (.tmp 2) rfl ⟨w.heap.size, 0, none⟩ rfl (jobC j (.slice A j.srcs.length c)) X1.out.cells Tryz.underlying29 rfl infoJob15 ?_)
  refine (Hm.out _ Hb1.out).mono ?_
  rintro _ w2 ⟨rfl, hb2⟩
  have X2 := X1.out.below X1.out.lt hb2
  have hc3 := X2.cell 3 _ rfl
  have Hb2 := Lib.hid (bstep Hb1.out hb2)
  clear hb2 X2 Hm Hb1
  by_cases hlt : id < n
  · have hd : decide ((n : Int) ≤ (id : Int)) = false := decide_eq_false (by omega)
    obtain ⟨hmay, h1, h2⟩ := Hp.out hlt
    obtain ⟨-, -, p3, p4, -⟩ := mayJ_parts hmay
    have hq : (id : Int).tdiv (j.walks.toNat : Int) = ((id / j.walks.toNat : Nat) : Int) := by rw [Int.tdiv_eq_ediv_of_nonneg (by omega)]; omega
    have hz : ((j.walks.toNat : Int) == 0) = false := beq_eq_false_iff_ne.2 (by omega)
    have hz2 : ¬ (j.walks.toNat : Int) = 0 := by omega
    have hst : s = id / j.walks.toNat := by rw [Hs2.out, if_pos hlt]
    have HST := Lib.hid hst
    have h256 : s < 256 := by omega
    have His2 : Hid (is = true) := Lib.hid (by rw [His.out]; exact decide_eq_true hlt)
    clear hst h1 h2 hmay
    obtain ⟨wk, hwkq⟩ : ∃ wk, wk = j.walks.toNat := ⟨_, rfl⟩
    have hw1 : IntKind.u32.wrap ((id / j.walks.toNat : Nat) : Int) = ((id / j.walks.toNat : Nat) : Int) := by rw [IntKind.wrap_u32']; have := HST.out; omega
    have hw2 : IntKind.i64.wrap ((id / j.walks.toNat : Nat) : Int) = ((id / j.walks.toNat : Nat) : Int) := by rw [wrap_i64]; have := HST.out; omega
    clear hwkq
    go_wp2_with fail
    refine bodyPost_ret (results_tmp2 rfl _ _ _) rfl ?_
    have hqi : (id : Int) / (j.walks.toNat : Int) = (s : Int) := by rw [HST.out]; rfl
    exact ⟨by rw [His2.out]; simp [hqi, hw1, hw2, hq]; try omega, Hb2.out⟩
  · have hd : decide ((n : Int) ≤ (id : Int)) = true := decide_eq_true (by omega)
    go_wp2_with fail
    refine bodyPost_ret (results_tmp2 rfl _ _ _) rfl ?_
    exact ⟨by rw [Hs2.out, His.out, if_neg hlt, decide_eq_false hlt]; rfl, Hb2.out⟩
def newA (j : GJob) (id : Nat) : Nat := if id < walkersJ j then id else 0
def newAt (j : GJob) (id : Nat) : Nat := if id < walkersJ j then (j.srcs.getD (srcJ j id) 0).toNat else 0
def walkerC (a b : Nat) : List Value := [.int .u32 (a : Int), .int .u32 0, .int .u32 (b : Int), .int .u32 0, .int .u32 0, .int .u32 0, .int .u32 0]
theorem infoWalker : (Tryz.prog.info? 80).map (fun i => (i.zero, i.size, i.bytes)) = some (some (.agg #[.int .u32 0, .int .u32 0, .int .u32 0, .int .u32 0, .int .u32 0, .int .u32 0, .int .u32 0]), 7, 28) := by kernel_rfl
theorem infoWalker7 : (Tryz.prog.info? 80).map (·.size) = some 7 := by kernel_rfl
set_option maxRecDepth 100000 in
set_option maxHeartbeats 1600000 in
theorem new_any (w : World) (v : Value) (j : GJob) (id : Nat) (hid : id < 4294967296) (h : JobAt w w.heap.size v j) (hnd : j.srcs.Nodup) (hs : SortOk j.srcs) (is : Bool) (his : is = decide (id < walkersJ j)) :
    Calls Tryz.prog 35 #[v, .int .u32 (id : Int)] w fun e w' => e = .returned (.tuple #[.agg (walkerC (newA j id) (newAt j id)).toArray, .bool is]) ∧ Below w.heap.size w w' := by
  have hm := fun W (hW : Below w.heap.size w W) => source_any W v j id hid (h.step hW) hnd hs is his
  obtain ⟨vs, rfl, hby⟩ := h
  obtain ⟨A, c, rfl, hc1, hc2⟩ := hby.form
  have hp := @srcJ_lt j id
  obtain ⟨na, hna⟩ : ∃ na, na = newA j id := ⟨_, rfl⟩
  obtain ⟨nt, hnt⟩ : ∃ nt, nt = newAt j id := ⟨_, rfl⟩
  rw [← hna, ← hnt]
  obtain ⟨s, hs2⟩ : ∃ s, s = srcJ j id := ⟨_, rfl⟩
  unfold newA at hna
  unfold newAt at hnt
  rw [← hs2] at hm hnt
  have hs3 := hs2
  unfold srcJ at hs3
  obtain ⟨n, hn⟩ : ∃ n, n = walkersJ j := ⟨_, rfl⟩
  rw [← hn] at hs3 hp his hna hnt
  obtain ⟨w1, hw1⟩ : ∃ w1, w1 = (w.alloc (.cells (jobC j (.slice A j.srcs.length c)).toArray 29)).alloc (.cells (walkerC 0 0).toArray 80) := ⟨_, rfl⟩
  have hb1 : Below w.heap.size w w1 := by rw [hw1]; exact bstep (balloc _ _) (balloc _ _)
  have hx1 : BoxAt 29 w1 w.heap.size (jobC j (.slice A j.srcs.length c)) := by rw [hw1]; exact (BoxAt.new_ _ _ _).alloc _
  have hy1 : BoxAt 80 w1 (w.heap.size + 1) (walkerC 0 0) := by
    rw [hw1]
    have := BoxAt.new_ 80 (w.alloc (.cells (jobC j (.slice A j.srcs.length c)).toArray 29)) (walkerC 0 0)
    rwa [World.size_alloc] at this
  have Hm := Lib.hid hm
  have Hs3 := Lib.hid hs3
  have Hp := Lib.hid hp
  have Hb1 := Lib.hid hb1
  have X1 := Lib.hid hx1
  have Y1 := Lib.hid hy1
  have His := Lib.hid his
  have Hna := Lib.hid hna
  have Hnt := Lib.hid hnt
  have Hby := Lib.hid hby
  have Hw1 := Lib.hid hw1
  have hz1 : w1.heap.size = w.heap.size + 2 := by rw [hw1]; simp
  clear hm hn hp hs2 hs3 hby hb1 hx1 hy1 his hna hnt hw1
  go_enter Tryz.func35, Tryz.ntmps35
  go_wp2_with (first
    | (refine wpList_alloc_z rfl 80 rfl infoWalker (walkerC 0 0) rfl ?_)
    | (rw [← Hw1.out])
    | (refine wpList_load_agg rfl 29 (.tmp 2) rfl ⟨w.heap.size, 0, none⟩ rfl (jobC j (.slice A j.srcs.length c)) X1.out.cells Tryz.underlying29 rfl infoJob15 ?_))
  refine (Hm.out _ Hb1.out).mono ?_
  rintro _ w2 ⟨rfl, hb2⟩
  have X2 := X1.out.below X1.out.lt hb2
  have Y2 := Lib.hid (Y1.out.below Y1.out.lt hb2)
  have hc4 := X2.cell 4 _ rfl
  have Hb2 := Lib.hid (bstep Hb1.out hb2)
  have By2 := Lib.hid (Hby.out.below (Hb1.out.trans (hb2.mono (by omega))))
  clear hb2 X2 Hm Hb1
  by_cases hlt : id < n
  · obtain ⟨hmay, h1, h2⟩ := Hp.out hlt
    have hst : s = id / j.walks.toNat := by rw [Hs3.out, if_pos hlt]
    rw [← hst] at h1
    have hi : is = true := by rw [His.out]; exact decide_eq_true hlt
    subst hi
    have hst2 := Lib.hid hst
    obtain ⟨ad, hA, hab, hx⟩ := By2.out.cells s h1
    subst hA
    have HNA : Hid (na = id) := Lib.hid (by rw [Hna.out, if_pos hlt])
    have HNT : Hid (nt = (j.srcs[s]).toNat) := Lib.hid (by rw [Hnt.out, if_pos hlt]; simp [List.getD, h1])
    clear hst
    have h256 : s < 256 := by have := hst2.out; omega
    have Hone : Hid (∀ u ∈ (walkerC id (j.srcs[s]).toNat), u.oneCell' = true) := Lib.hid fun u hu => by
      simp [walkerC] at hu
      rcases hu with rfl | rfl | rfl | rfl <;> rfl
    go_wp2_with (first
      | (refine wpList_store_boxX rfl 80 80 (.tmp 4) (.tmp 23) rfl (w.heap.size + 1) (walkerC 0 0) (walkerC id (j.srcs[s]).toNat) rfl rfl Y2.out rfl Hone.out infoWalker7 ?_
         intro we hend hche hze))
    refine bodyPost_ret (results_ctX rfl _ _ (w.heap.size + 1) (walkerC id (j.srcs[s]).toNat) rfl (fun j v hj => (hend.cells j v hj : _)) Tryz.underlying80 rfl infoWalker7) rfl ?_
    exact ⟨by rw [HNA.out, HNT.out]; rfl, Hb2.out.trans (hche.below (B := w.heap.size) Hb2.out.size (fun k hk => by omega))⟩
  · have hi : is = false := by rw [His.out]; exact decide_eq_false hlt
    subst hi
    have HNA : Hid (na = 0) := Lib.hid (by rw [Hna.out, if_neg hlt])
    have HNT : Hid (nt = 0) := Lib.hid (by rw [Hnt.out, if_neg hlt])
    have Hone : Hid (∀ u ∈ (walkerC 0 0), u.oneCell' = true) := Lib.hid fun u hu => by
      simp [walkerC] at hu
      subst hu; rfl
    go_wp2_with (first
      | (refine wpList_store_boxX rfl 80 80 (.tmp 4) (.tmp 16) rfl (w.heap.size + 1) (walkerC 0 0) (walkerC 0 0) rfl rfl Y2.out rfl Hone.out infoWalker7 ?_
         intro we hend hche hze))
    refine bodyPost_ret (results_ctX rfl _ _ (w.heap.size + 1) (walkerC 0 0) rfl (fun j v hj => (hend.cells j v hj : _)) Tryz.underlying80 rfl infoWalker7) rfl ?_
    exact ⟨by rw [HNA.out, HNT.out]; rfl, Hb2.out.trans (hche.below (B := w.heap.size) Hb2.out.size (fun k hk => by omega))⟩
end Go.Proofs.YtcffeepgfjpcaaaGreat

namespace Go.Proofs.YtcffeepgfjpcaaaGreat
set_option linter.unusedSimpArgs false
set_option linter.unusedVariables false
open Go.RowKit Go.Shelf
attribute [local go_sem] Oper.semAt_some

def limU (n : Nat) : Nat := 18446744073709551615 - (18446744073709551616 - n) % n
def idxB (row : Nat → UInt64) (lim : Nat) : Nat → Nat → Nat
  | 0, i => i
  | f + 1, i => if (row i).toNat ≤ lim then i else idxB row lim f (i + 1)
def belowU (d : UInt64) (n : Nat) : Nat := if n = 0 then 0 else (rowU d (idxB (rowU d) (limU n) 127 0)).toNat % n
theorem belowU_lt (d : UInt64) (n : Nat) (h : 0 < n) : belowU d n < n := by
  unfold belowU
  rw [if_neg (by omega)]
  exact Nat.mod_lt _ h
theorem idxB_skip (row : Nat → UInt64) (lim : Nat) : ∀ (i f : Nat), (∀ j, j < i → ¬ (row j).toNat ≤ lim) → idxB row lim (i + f) 0 = idxB row lim f i := by
  have key : ∀ (i f b : Nat), (∀ j, b ≤ j → j < b + i → ¬ (row j).toNat ≤ lim) → idxB row lim (i + f) b = idxB row lim f (b + i) := by
    intro i
    induction i with
    | zero => intro f b _; simp
    | succ i ih =>
      intro f b h
      have e : i + 1 + f = (i + f) + 1 := by omega
      rw [e, idxB, if_neg (h b (Nat.le_refl _) (by omega)), ih f (b + 1) fun j h1 h2 => h j (by omega) (by omega)]
      congr 1
      omega
  intro i f h
  have := key i f 0 fun j _ hj => h j (by omega)
  rwa [Nat.zero_add] at this
theorem idxB_hit (row : Nat → UInt64) (lim pl : Nat) (h : ∀ j, j < pl → ¬ (row j).toNat ≤ lim) (hp : pl ≤ 127) (ht : (row pl).toNat ≤ lim ∨ pl = 127) : idxB row lim 127 0 = pl := by
  have e := idxB_skip row lim pl (127 - pl) h
  rw [show pl + (127 - pl) = 127 from by omega] at e
  rw [e]
  rcases Nat.eq_zero_or_pos (127 - pl) with h0 | h0
  · rw [h0]; rfl
  · obtain ⟨f, hf⟩ : ∃ f, 127 - pl = f + 1 := ⟨126 - pl, by omega⟩
    rw [hf, idxB, if_pos (by rcases ht with h | h; exact h; omega)]
def BelI (w : World) (row : Nat → UInt64) (ov n : Nat) (pre : List UInt64) (W : World) : Prop :=
  BoxAt 23 W (w.heap.size + 3) [.int .u64 (ov : Int)] ∧ BoxAt 3 W (w.heap.size + 3 + 1) [.int .i64 (pre.length : Int)] ∧ BoxAt 23 W (w.heap.size + 1) [.int .u64 (n : Int)] ∧ BoxAt 23 W (w.heap.size + 1 + 1) [.int .u64 0] ∧ Below w.heap.size w W ∧ (∀ j, j < pre.length → ¬ (row j).toNat ≤ 18446744073709551615 - ov)
set_option maxRecDepth 100000 in
set_option maxHeartbeats 3200000 in
theorem below_any (w : World) (s k t a : UInt64) (n : Nat) (hn : n < 18446744073709551616) :
    Calls Tryz.prog 116 #[.agg (tapeC s k t a).toArray, .int .u64 (n : Int)] w fun e w' => e = .returned (.int .u64 (belowU (drawU s k t a) n : Nat)) ∧ Below w.heap.size w w' := by
  obtain ⟨w0, hw0⟩ : ∃ w0, w0 = ((w.alloc (.cells (tapeC s k t a).toArray 194)).alloc (.cells #[.int .u64 (n : Int)] 23)).alloc (.cells #[.int .u64 0] 23) := ⟨_, rfl⟩
  have hb0 : Below w.heap.size w w0 := by rw [hw0]; exact bstep (bstep (balloc w _) (balloc _ _)) (balloc _ _)
  have hx0 : BoxAt 194 w0 w.heap.size (tapeC s k t a) := by rw [hw0]; exact ((BoxAt.new_ 194 w (tapeC s k t a)).alloc _).alloc _
  have hx1 : BoxAt 23 w0 (w.heap.size + 1) [.int .u64 (n : Int)] := by
    rw [hw0]
    have := (BoxAt.new_ 23 (w.alloc (.cells (tapeC s k t a).toArray 194)) [.int .u64 (n : Int)]).alloc (.cells #[.int .u64 0] 23)
    rwa [World.size_alloc] at this
  have hx2 : BoxAt 23 w0 (w.heap.size + 1 + 1) [.int .u64 0] := by
    rw [hw0]
    have := BoxAt.new_ 23 ((w.alloc (.cells (tapeC s k t a).toArray 194)).alloc (.cells #[.int .u64 (n : Int)] 23)) [.int .u64 0]
    rwa [World.size_alloc, World.size_alloc] at this
  have hs0 : w0.heap.size = w.heap.size + 3 := by rw [hw0]; simp
  have hcs : tapeC s k t a = [.int .u64 (s.toNat : Int), .int .u64 (k.toNat : Int), .int .u64 (t.toNat : Int), .int .u64 (a.toNat : Int)] := rfl
  have Hw0 := Lib.hid hw0
  have X0 := Lib.hid hx0
  have X1 := Lib.hid hx1
  have X2 := Lib.hid hx2
  have Hb0 := Lib.hid hb0
  have hc1 := hx1.cell 0 _ rfl
  have hc2 := hx2.cell 0 _ rfl
  have hf2 := hx2.frozen 0
  rw [hcs] at Hw0 ⊢
  clear hw0 hx0 hx1 hx2 hb0 hcs
  refine (callsIn_wide (n := 5)).1 ?_
  refine callsIn_of_wp_marks Tryz.func116 rfl trivial ?_ rfl
  simp only [Tryz.ntmps116, List.size_toArray, List.length_cons, List.length_nil, Nat.reduceAdd, Nat.reduceSub, Array.replicate_succ, Array.replicate_zero, List.push_toArray, List.append_toArray, List.nil_append, List.cons_append]
  rcases Nat.eq_zero_or_pos n with hz | hz
  · subst hz
    gi_wp2_with (rw [← Hw0.out])
    have hw0' := Hw0.out
    simp only [Int.natCast_zero] at hw0'
    rw [← hw0']
    have hc9 := X2.out.cell 0 _ rfl
    refine ⟨.int .u64 0, ?_, rfl, Hb0.out⟩
    simp [results, Tryz.f116, go_sem, hc9]
  · have hd : ((n : Int) == 0) = false := beq_eq_false_iff_ne.2 (by omega)
    have hn2 : ¬ n = 0 := by omega
    have hov : (IntKind.u64.wrap (-(n : Int))).tmod (n : Int) = (((18446744073709551616 - n) % n : Nat) : Int) := by
      rw [wrap_u64, Int.tmod_eq_emod_of_nonneg (by omega), show (-(n : Int)) % 18446744073709551616 = ((18446744073709551616 - n : Nat) : Int) from by omega]
      omega
    have hovl : (18446744073709551616 - n) % n < n := Nat.mod_lt _ hz
    have hbd : belowU (drawU s k t a) n = (rowU (drawU s k t a) (idxB (rowU (drawU s k t a)) (18446744073709551615 - (18446744073709551616 - n) % n) 127 0)).toNat % n := by
      unfold belowU limU
      rw [if_neg hn2]
    have Hov := Lib.hid hov
    have Hbd := Lib.hid hbd
    generalize (18446744073709551616 - n) % n = ov at *
    clear hov hbd
    gi_wp2_with (first
      | (rw [← Hw0.out])
      | (refine wpListIn_load_agg rfl 194 (.tmp 2) rfl ⟨w.heap.size, 0, none⟩ rfl (tapeC s k t a) ((X0.out.alloc _).alloc _).cells Tryz.underlying194 rfl infoTape4 ?_))
    refine ⟨trivial, ?_⟩
    refine (row_in _ s k t a _).mono ?_
    rintro _ _ ⟨rfl, rfl⟩
    rw [Hov.out]
    have hy0 : BoxAt 23 (w0.alloc (.cells #[.int .u64 (ov : Int)] 23)) w0.heap.size [.int .u64 (ov : Int)] := BoxAt.new_ _ _ [.int .u64 (ov : Int)]
    have hy1 : BoxAt 3 ((w0.alloc (.cells #[.int .u64 (ov : Int)] 23)).alloc (.cells #[.int .i64 0] 3)) (w0.heap.size + 1) [.int .i64 0] := by
      have := BoxAt.new_ 3 (w0.alloc (.cells #[.int .u64 (ov : Int)] 23)) [.int .i64 0]
      rwa [World.size_alloc] at this
    have hy2 : BoxAt 194 (((w0.alloc (.cells #[.int .u64 (ov : Int)] 23)).alloc (.cells #[.int .i64 0] 3)).alloc (.cells (tapeC s k t a).toArray 194)) (w0.heap.size + 1 + 1) (tapeC s k t a) := by
      have := BoxAt.new_ 194 ((w0.alloc (.cells #[.int .u64 (ov : Int)] 23)).alloc (.cells #[.int .i64 0] 3)) (tapeC s k t a)
      rwa [World.size_alloc, World.size_alloc] at this
    have hY0 := (hy0.alloc (.cells #[.int .i64 0] 3)).alloc (.cells (tapeC s k t a).toArray 194)
    have hY1 := hy1.alloc (.cells (tapeC s k t a).toArray 194)
    have hZ1 := ((X1.out.alloc (.cells #[.int .u64 (ov : Int)] 23)).alloc (.cells #[.int .i64 0] 3)).alloc (.cells (tapeC s k t a).toArray 194)
    have hZ2 := ((X2.out.alloc (.cells #[.int .u64 (ov : Int)] 23)).alloc (.cells #[.int .i64 0] 3)).alloc (.cells (tapeC s k t a).toArray 194)
    have hbw := bstep (bstep (bstep Hb0.out (balloc w0 (.cells #[.int .u64 (ov : Int)] 23))) (balloc _ (.cells #[.int .i64 0] 3))) (balloc _ (.cells (tapeC s k t a).toArray 194))
    have hsw : (((w0.alloc (.cells #[.int .u64 (ov : Int)] 23)).alloc (.cells #[.int .i64 0] 3)).alloc (.cells (tapeC s k t a).toArray 194)).heap.size = w0.heap.size + 3 := by simp
    have HY0 := Lib.hid hY0
    have HY1 := Lib.hid hY1
    have HY2 := Lib.hid hy2
    have HZ1 := Lib.hid hZ1
    have HZ2 := Lib.hid hZ2
    have Hbw := Lib.hid hbw
    clear hy0 hy1 hy2 hY0 hY1 hZ1 hZ2 hbw X0 X1 X2 Hb0 Hw0 hc1 hc2 hf2 Hov
    simp only [World.size_alloc]
    generalize (((w0.alloc (.cells #[.int .u64 (ov : Int)] 23)).alloc (.cells #[.int .i64 0] 3)).alloc (.cells (tapeC s k t a).toArray 194)) = wB at *
    rw [hs0] at HY0 HY1 HY2 hsw
    rw [hs0]
    obtain ⟨row, hrow⟩ : ∃ row, row = rowU (drawU s k t a) := ⟨_, rfl⟩
    rw [← hrow] at Hbd
    have Hrow := Lib.hid hrow
    have hskip := idxB_skip row (18446744073709551615 - ov)
    have Hskip := Lib.hid hskip
    obtain ⟨rv, hrv⟩ : ∃ rv, rv = belowU (drawU s k t a) n := ⟨_, rfl⟩
    rw [← hrv] at Hbd
    have Hrv := Lib.hid hrv
    clear hskip hrow hrv
    gi_wp2
    refine range_x (α := UInt64) (encs := fun x => #[.int .u64 (x.toNat : Int)]) (gf := 133) (lb := #[.pointer (some ⟨w.heap.size + 3 + 1 + 1, 0, none⟩)]) rfl (enters_of Tryz.func133 (by kernel_rfl) rfl)
      (Kr := fun _ _ => True) (fun _ _ => trivial) (fun _ _ _ _ _ _ _ => trivial) (fun _ => rfl) (row_iter 4 (by omega) wB (w.heap.size + 3 + 1 + 1) s k t a HY2.out)
      (fun pre W => BelI w row ov n pre W)
      (fun c pre W => c = .ret ∧ BoxAt 23 W (w.heap.size + 1 + 1) [.int .u64 (rv : Int)] ∧ Below w.heap.size w W)
      ?hI ?hIx (fun _ _ _ _ h _ _ => h.elim) ⟨HY0.out, HY1.out, HZ1.out, HZ2.out, Hbw.out, fun j hj => by cases hj⟩
      (fun _ pre x a' W => (a' = { tmps := #[.agg #[.int .u64 (s.toNat : Int), .int .u64 (k.toNat : Int), .int .u64 (t.toNat : Int), .int .u64 (a.toNat : Int)], .int .u64 (n : Int), .pointer (some ⟨w.heap.size, 0, none⟩), .pointer (some ⟨w.heap.size + 1, 0, none⟩), .pointer (some ⟨w.heap.size + 1 + 1, 0, none⟩), .pointer (some ⟨w.heap.size + 3, 0, none⟩), .pointer (some ⟨w.heap.size + 3 + 1, 0, none⟩), .int .u64 (x.toNat : Int), .int .u64 (n : Int), .bool false, .int .u64 (n : Int), .int .u64 (IntKind.u64.wrap (-(n : Int))), .int .u64 (n : Int), .int .u64 (ov : Int), .agg (tapeC s k t a).toArray, .func (.func 133) #[] #[.pointer (some ⟨w.heap.size + 3 + 1 + 1, 0, none⟩)], .int .u64 (x.toNat : Int), undef, undef, undef, undef, undef, undef, undef, undef, undef, undef, undef, undef, undef], defers := [] } ∧ x = row pre.length) ∧ BelI w row ov n pre W)
      ?hAx ?assign ?body ?done ?stop
    case hI =>
      rintro pre Y Z rw_ ⟨q1, q2, q3, q4, q5, q6⟩ hg hr
      have hr2 := fun r e => (hr r e).2
      exact ⟨q1.ownk hg hr2, q2.ownk hg hr2, q3.ownk hg hr2, q4.ownk hg hr2, q5.grown hg q5.size (fun r e => by have := (hr r e).1; omega), q6⟩
    case hIx =>
      rintro c pre Y Z rw_ ⟨q1, q2, q3⟩ hg hr
      have hr2 := fun r e => (hr r e).2
      exact ⟨q1, q2.ownk hg hr2, q3.grown hg q3.size (fun r e => by have := (hr r e).1; omega)⟩
    case hAx =>
      rintro pre x a' _ Y Z rw_ ⟨q0, q1, q2, q3, q4, q5, q6⟩ hg hr
      have hr2 := fun r e => (hr r e).2
      exact ⟨q0, q1.ownk hg hr2, q2.ownk hg hr2, q3.ownk hg hr2, q4.ownk hg hr2, q5.grown hg q5.size (fun r e => by have := (hr r e).1; omega), q6⟩
    case assign =>
      intro l pre x W hl hi hR
      have hx : x = row pre.length := by rw [hR, Hrow.out]
      clear hR
      gi_wp2
      first
        | exact KeepsFrom.refl _ _
        | exact ⟨KeepsFrom.refl _ _, hx, hi⟩
    case body =>
      rintro l pre x _ W hl ⟨⟨rfl, hx⟩, q1, q2, q3, q4, q5, q6⟩ hbd
      have hx64 := u64_lt x
      have c5 := q1.cell 0 _ rfl
      have c6 := q2.cell 0 _ rfl
      have f6 := q2.frozen 0
      have c3 := q3.cell 0 _ rfl
      have c4 := q4.cell 0 _ rfl
      have f4 := q4.frozen 0
      have Q1 := Lib.hid q1
      have Q2 := Lib.hid q2
      have Q3 := Lib.hid q3
      have Q4 := Lib.hid q4
      have Q5 := Lib.hid q5
      have Q6 := Lib.hid q6
      have Hx := Lib.hid hx
      have hne1 : ¬ w.heap.size + 3 = w.heap.size + 3 + 1 := by omega
      generalize hm : w.heap.size = m at *
      clear q1 q2 q3 q4 q5 q6 hx
      generalize hpl : pre.length = pl at *
      by_cases hle : x.toNat ≤ 18446744073709551615 - ov
      · have hd2 : decide ((x.toNat : Int) ≤ 18446744073709551615 - (ov : Int)) = true := decide_eq_true (by omega)
        gi_wp2
        refine ⟨((KeepsOthers.setCell _ _ _).trans (KeepsOthers.setCell _ _ _)).from _, rfl, ?_, ?_⟩
        · have hb := (Q4.out.other ⟨m + 3 + 1, 0, none⟩ (.int .i64 ((pl : Int) + 1)) (by show m + 3 + 1 ≠ m + 1 + 1; omega)).put 0 (.int .u64 ((x.toNat : Int) % (n : Int)))
          have e : ((x.toNat : Int) % (n : Int)) = (rv : Int) := by
            rw [Hbd.out, idxB_hit row _ pl Q6.out (by omega) (by first | exact .inl (by rw [← Hx.out]; exact hle) | exact .inr (by omega)), ← Hx.out]
            omega
          rw [← e]
          exact hb
        · exact Below.setCell (Below.setCell Q5.out (p := ⟨m + 3 + 1, 0, none⟩) (by show m ≤ m + 3 + 1; omega) _) (p := ⟨m + 1 + 1, 0, none⟩) (by show m ≤ m + 1 + 1; omega) _
      · have hd2 : decide ((x.toNat : Int) ≤ 18446744073709551615 - (ov : Int)) = false := decide_eq_false (by omega)
        by_cases h128 : pl + 1 = 128
        · have hd3 : ((pl : Int) + 1 == 128) = true := by simp; omega
          gi_wp2
          refine ⟨((KeepsOthers.setCell _ _ _).trans (KeepsOthers.setCell _ _ _)).from _, rfl, ?_, ?_⟩
          · have hb := (Q4.out.other ⟨m + 3 + 1, 0, none⟩ (.int .i64 ((pl : Int) + 1)) (by show m + 3 + 1 ≠ m + 1 + 1; omega)).put 0 (.int .u64 ((x.toNat : Int) % (n : Int)))
            have e : ((x.toNat : Int) % (n : Int)) = (rv : Int) := by
              rw [Hbd.out, idxB_hit row _ pl Q6.out (by omega) (by first | exact .inl (by rw [← Hx.out]; exact hle) | exact .inr (by omega)), ← Hx.out]
              omega
            rw [← e]
            exact hb
          · exact Below.setCell (Below.setCell Q5.out (p := ⟨m + 3 + 1, 0, none⟩) (by show m ≤ m + 3 + 1; omega) _) (p := ⟨m + 1 + 1, 0, none⟩) (by show m ≤ m + 1 + 1; omega) _
        · have hd3 : ((pl : Int) + 1 == 128) = false := beq_eq_false_iff_ne.2 (by omega)
          gi_wp2
          refine ⟨(KeepsOthers.setCell _ _ _).from _, trivial, ?_, by show (pre ++ [x]).length < 128; rw [List.length_append, List.length_singleton, hpl]; omega⟩
          show BelI w row ov n (pre ++ [x]) _
          unfold BelI
          rw [hm]
          refine ⟨?_, ?_, ?_, ?_, ?_, ?_⟩
          · exact Q1.out.other ⟨m + 3 + 1, 0, none⟩ _ (by show m + 3 + 1 ≠ m + 3; omega)
          · have hb := Q2.out.put 0 (.int .i64 ((pl : Int) + 1))
            have e : (((pre ++ [x]).length : Nat) : Int) = (pl : Int) + 1 := by rw [List.length_append, List.length_singleton, hpl]; omega
            rw [e]
            exact hb
          · exact Q3.out.other ⟨m + 3 + 1, 0, none⟩ _ (by show m + 3 + 1 ≠ m + 1; omega)
          · exact Q4.out.other ⟨m + 3 + 1, 0, none⟩ _ (by show m + 3 + 1 ≠ m + 1 + 1; omega)
          · exact Below.setCell Q5.out (p := ⟨m + 3 + 1, 0, none⟩) (by show m ≤ m + 3 + 1; omega) _
          · intro j hj
            rw [List.length_append, List.length_singleton, hpl] at hj
            rcases Nat.lt_or_ge j pl with h | h
            · exact Q6.out j h
            · obtain rfl : j = pl := by omega
              rw [← Hx.out]
              exact hle
    case done => exact fun _ _ _ _ h => h.elim
    case stop =>
      rintro D c pre W hD _ ⟨rfl, q2, q3⟩ hK
      have ht0 := q2.cell 0 _ rfl
      have HB := Lib.hid q3
      clear q2 q3
      gi_wp2
      refine ⟨by simp, .inl ⟨_, _, rfl, run_takeDeferred hK, ?_⟩⟩
      have hc5 := cell_kept ht0 (grownBy_putObj' _ D (.deferred none)) (fun r e => by cases e; exact ⟨_, hK, rfl⟩)
      refine ⟨.int .u64 (rv : Int), ?_, by rw [Hrv.out], HB.out.trans (belowK_b (w := w) (Nat.le_refl _) W D _ _ (by omega) hK rfl rfl)⟩
      simp [results, Tryz.f116, go_sem, hc5]
end Go.Proofs.YtcffeepgfjpcaaaGreat

namespace Go.Proofs.YtcffeepgfjpcaaaGreat
set_option linter.unusedSimpArgs false
set_option linter.unusedVariables false
open Go.RowKit

def walkC (gv vs : Value) (j : GJob) (id : Nat) (vp : Value) : List Value := gv :: jobC j vs ++ [.int .u32 (id : Int), vp]
set_option maxRecDepth 100000 in
set_option maxHeartbeats 1600000 in
theorem at_any (w : World) (g B : Nat) (gv vs vp : Value) (j : GJob) (id : Nat) (l : List UInt32) (hb : BoxAt 85 w g (walkC gv vs j id vp)) (hp : ByU w B vp l) (hl : l.length ≤ 1048576) (i k : Nat) (hk : i + k + 1 = l.length) :
    Calls Tryz.prog 62 #[.pointer (some ⟨g, 0, none⟩), .int .i64 (i : Int)] w fun e w' => e = .returned (.int .u32 ((l.getD k 0).toNat : Int)) ∧ Below w.heap.size w w' := by
  obtain ⟨A, c, rfl, hc1, hc2⟩ := hp.form
  unfold maxLen at hc2
  have hkl : k < l.length := by omega
  obtain ⟨ad, rfl, hab, hx⟩ := hp.cells k hkl
  have hc17 := hb.cell 17 _ rfl
  have hg : l.getD k 0 = l[k] := by simp [List.getD, hkl]
  rw [hg]
  have hi : (l.length : Int) - 1 - (i : Int) = (k : Int) := by omega
  clear hb hp hg
  generalize (l[k]).toNat = x at *
  go_enter Tryz.func62, Tryz.ntmps62
  go_wp2_with fail
  go_quiet (fail)
  go_wp2_with fail
  go_ret
  exact ⟨rfl, bdrewN (Below.refl _ _) nq⟩
set_option maxRecDepth 100000 in
set_option maxHeartbeats 3200000 in
theorem drawW_any (w : World) (g B : Nat) (gv vs vp : Value) (j : GJob) (id : Nat) (l : List UInt32) (hb : BoxAt 85 w g (walkC gv vs j id vp)) (hpl : ByU w B vp l) (hl : l.length ≤ 1048576) (hl0 : 0 < l.length) (hid : id < 4294967296)
    (tr wh n : Nat) (htr : tr ≤ 1048576) (hwh : wh ≤ 1) (hn : n < 18446744073709551616) (uk ut ua : UInt64) (hk : uk.toNat = id) (ht : ut.toNat + 1 = l.length) (hua : ua.toNat = 2 * tr + wh) :
    Calls Tryz.prog 99 #[.pointer (some ⟨g, 0, none⟩), .int .u64 (tr : Int), .int .u64 (wh : Int), .int .u64 (n : Int)] w fun e w' => e = .returned (.int .u64 (belowU (drawU j.seed uk ut ua) n : Nat)) ∧ Below w.heap.size w w' := by
  have hbl := fun W => below_any W j.seed uk ut ua n hn
  obtain ⟨A, c, rfl, hc1, hc2⟩ := hpl.form
  unfold maxLen at hc2
  obtain ⟨r, hr⟩ : ∃ r, r = belowU (drawU j.seed uk ut ua) n := ⟨_, rfl⟩
  rw [← hr] at hbl ⊢
  obtain ⟨ln, hln⟩ : ∃ ln, ln = ut.toNat := ⟨_, rfl⟩
  obtain ⟨at_, hat⟩ : ∃ at_, at_ = ua.toNat := ⟨_, rfl⟩
  obtain ⟨sd, hsd⟩ : ∃ sd, sd = j.seed.toNat := ⟨_, rfl⟩
  obtain ⟨t2, ht2⟩ : ∃ t2, t2 = 2 * tr := ⟨_, rfl⟩
  have hbl2 : ∀ W, Calls Tryz.prog 116 #[.agg #[.int .u64 (sd : Int), .int .u64 (id : Int), .int .u64 (ln : Int), .int .u64 (at_ : Int)], .int .u64 (n : Int)] W fun e w' => e = .returned (.int .u64 (r : Int)) ∧ Below W.heap.size W w' := fun W => by
    have := hbl W
    unfold tapeC at this
    rw [hk, ← hln, ← hat, ← hsd] at this
    exact this
  have hx : BoxAt 85 w g (.int .u64 0 :: []) ∨ True := .inr trivial
  have HB := Lib.hid hbl2
  have X : Hid (BoxAt 85 w g (gv :: .int .u8 (j.kind.toNat : Int) :: .int .u64 (sd : Int) :: (jobC j vs).drop 2 ++ [.int .u32 (id : Int), .slice A l.length c])) := Lib.hid (by rw [hsd]; exact hb)
  have H9 : Hid (IntKind.u64.wrap (id : Int) = (id : Int)) := Lib.hid (by rw [wrap_u64]; omega)
  have H15 : Hid ((l.length : Int) - 1 = (ln : Int)) := Lib.hid (by omega)
  have H15b : Hid (IntKind.i64.wrap (ln : Int) = (ln : Int)) := Lib.hid (by rw [wrap_i64]; omega)
  have H16 : Hid (IntKind.u64.wrap (ln : Int) = (ln : Int)) := Lib.hid (by rw [wrap_u64]; omega)
  have H18 : Hid (IntKind.u64.wrap (2 * (tr : Int)) = (t2 : Int)) := Lib.hid (by rw [wrap_u64]; omega)
  have H20 : Hid (IntKind.u64.wrap ((t2 : Int) + (wh : Int)) = (at_ : Int)) := Lib.hid (by rw [wrap_u64]; omega)
  clear hbl hbl2 hb hx hpl hr hk hln hat hsd ht2 hua ht
  go_enter Tryz.func99, Tryz.ntmps99
  go_upto_region 1 with fail
  refine wp_region_typed [some 9, some 10, some 11, some 12, some 13, some 14, some 15, some 16, some 17, some 18, some 19, some 20, some 21, some 22, some 23, some 24, some 25, some 26, some 27, some 28, some 29, some 30, some 31, some 32, some 8] [9, 10, 11, 12, 13, 14, 15, 16, 17, 18, 19, 20, 21, 22, 23, 24, 25, 26, 27, 28, 29, 30, 31, 32, 8]
    [Ph.is (.pointer (some ⟨g, 0, none⟩)),
      Ph.is (.pointer (some ⟨g, 0, none⟩)),
      Ph.is (.pointer (some ⟨g, 1, none⟩)),
      Ph.is (.pointer (some ⟨g, 2, none⟩)),
      Ph.is (.int .u64 (sd : Int)),
      Ph.is (.pointer (some ⟨g, 0, none⟩)),
      Ph.is (.pointer (some ⟨g, 0, none⟩)),
      Ph.is (.pointer (some ⟨g, 16, none⟩)),
      Ph.is (.int .u32 (id : Int)),
      Ph.is (.int .u64 (id : Int)),
      Ph.is (.pointer (some ⟨g, 0, none⟩)),
      Ph.is (.pointer (some ⟨g, 0, none⟩)),
      Ph.is (.pointer (some ⟨g, 17, none⟩)),
      Ph.is (.slice A l.length c),
      Ph.is (.int .i64 (l.length : Int)),
      Ph.is (.int .i64 (ln : Int)),
      Ph.is (.int .u64 (ln : Int)),
      Ph.is (.int .u64 (tr : Int)),
      Ph.is (.int .u64 (t2 : Int)),
      Ph.is (.int .u64 (wh : Int)),
      Ph.is (.int .u64 (at_ : Int)),
      Ph.is (.agg #[.int .u64 ((sd : Nat) : Int), .int .u64 ((id : Nat) : Int), .int .u64 ((ln : Nat) : Int), .int .u64 ((at_ : Nat) : Int)]),
      Ph.is (.int .u64 (n : Int)),
      Ph.is (.int .u64 (r : Int)),
      Ph.is (.int .u64 (r : Int))] rfl rfl (by kernel_rfl) (by kernel_rfl) ?_ ?_
  · refine ⟨?_, ?_, ?_, ?_, ?_, ?_, ?_, ?_, ?_, ?_, ?_, ?_, ?_, ?_, ?_, ?_, ?_, ?_, ?_, ?_, ?_, ?_, ?_, ?_, ?_, trivial⟩
    · -- 0: slot 9 := Op.move t0
      refine ob_yes fun f w' hb hp => ?_
      simp [PreOf, factOf, valOf, Ph.is, Ph.by_, Ph.any, Region.binds] at hp
      refine ⟨by simp [Gd, valOf, hp], ?_⟩
      refine mild_val (.pointer (some ⟨g, 0, none⟩)) ?_ rfl
      simp [execOp, evalF, hp]
    · -- 1: slot 10 := Op.nilCheck t9
      refine ob_yes fun f w' hb hp => ?_
      simp [PreOf, factOf, valOf, Ph.is, Ph.by_, Ph.any, Region.binds] at hp
      refine ⟨by simp [Gd, valOf, hp], ?_⟩
      refine mild_val (.pointer (some ⟨g, 0, none⟩)) ?_ rfl
      simp [execOp, evalF, hp, go_sem]
    · -- 2: slot 11 := Op.fieldAddr 85 t10 1
      refine ob_yes fun f w' hb hp => ?_
      simp [PreOf, factOf, valOf, Ph.is, Ph.by_, Ph.any, Region.binds] at hp
      refine ⟨by simp [Gd, valOf, hp], ?_⟩
      refine mild_val (.pointer (some ⟨g, 1, none⟩)) ?_ rfl
      simp [execOp, evalF, hp, go_sem]
    · -- 3: slot 12 := Op.fieldAddr 29 t11 1
      refine ob_yes fun f w' hb hp => ?_
      simp [PreOf, factOf, valOf, Ph.is, Ph.by_, Ph.any, Region.binds] at hp
      refine ⟨by simp [Gd, valOf, hp], ?_⟩
      refine mild_val (.pointer (some ⟨g, 2, none⟩)) ?_ rfl
      simp [execOp, evalF, hp, go_sem]
    · -- 4: slot 13 := Op.load 23 t12
      refine ob_yes fun f w' hb hp => ?_
      simp [PreOf, factOf, valOf, Ph.is, Ph.by_, Ph.any, Region.binds] at hp
      refine ⟨by simp [Gd, valOf, hp], ?_⟩
      refine mild_val (.int .u64 (sd : Int)) ?_ rfl
      have hc := (X.out.below X.out.lt hb).cell 2 _ rfl
      simp [execOp, evalF, hp, hc, go_sem]
    · -- 5: slot 14 := Op.move t0
      refine ob_yes fun f w' hb hp => ?_
      simp [PreOf, factOf, valOf, Ph.is, Ph.by_, Ph.any, Region.binds] at hp
      refine ⟨by simp [Gd, valOf, hp], ?_⟩
      refine mild_val (.pointer (some ⟨g, 0, none⟩)) ?_ rfl
      simp [execOp, evalF, hp]
    · -- 6: slot 15 := Op.nilCheck t14
      refine ob_yes fun f w' hb hp => ?_
      simp [PreOf, factOf, valOf, Ph.is, Ph.by_, Ph.any, Region.binds] at hp
      refine ⟨by simp [Gd, valOf, hp], ?_⟩
      refine mild_val (.pointer (some ⟨g, 0, none⟩)) ?_ rfl
      simp [execOp, evalF, hp, go_sem]
    · -- 7: slot 16 := Op.fieldAddr 85 t15 2
      refine ob_yes fun f w' hb hp => ?_
      simp [PreOf, factOf, valOf, Ph.is, Ph.by_, Ph.any, Region.binds] at hp
      refine ⟨by simp [Gd, valOf, hp], ?_⟩
      refine mild_val (.pointer (some ⟨g, 16, none⟩)) ?_ rfl
      simp [execOp, evalF, hp, go_sem]
    · -- 8: slot 17 := Op.load 24 t16
      refine ob_yes fun f w' hb hp => ?_
      simp [PreOf, factOf, valOf, Ph.is, Ph.by_, Ph.any, Region.binds] at hp
      refine ⟨by simp [Gd, valOf, hp], ?_⟩
      refine mild_val (.int .u32 (id : Int)) ?_ rfl
      have hc := (X.out.below X.out.lt hb).cell 16 _ rfl
      simp [execOp, evalF, hp, hc, go_sem]
    · -- 9: slot 18 := Op.convert 24 23 t17
      refine ob_yes fun f w' hb hp => ?_
      simp [PreOf, factOf, valOf, Ph.is, Ph.by_, Ph.any, Region.binds] at hp
      refine ⟨by simp [Gd, valOf, hp], ?_⟩
      refine mild_val (.int .u64 (id : Int)) ?_ rfl
      simp [execOp, evalF, hp, go_sem, H9.out]
    · -- 10: slot 19 := Op.move t0
      refine ob_yes fun f w' hb hp => ?_
      simp [PreOf, factOf, valOf, Ph.is, Ph.by_, Ph.any, Region.binds] at hp
      refine ⟨by simp [Gd, valOf, hp], ?_⟩
      refine mild_val (.pointer (some ⟨g, 0, none⟩)) ?_ rfl
      simp [execOp, evalF, hp]
    · -- 11: slot 20 := Op.nilCheck t19
      refine ob_yes fun f w' hb hp => ?_
      simp [PreOf, factOf, valOf, Ph.is, Ph.by_, Ph.any, Region.binds] at hp
      refine ⟨by simp [Gd, valOf, hp], ?_⟩
      refine mild_val (.pointer (some ⟨g, 0, none⟩)) ?_ rfl
      simp [execOp, evalF, hp, go_sem]
    · -- 12: slot 21 := Op.fieldAddr 85 t20 3
      refine ob_yes fun f w' hb hp => ?_
      simp [PreOf, factOf, valOf, Ph.is, Ph.by_, Ph.any, Region.binds] at hp
      refine ⟨by simp [Gd, valOf, hp], ?_⟩
      refine mild_val (.pointer (some ⟨g, 17, none⟩)) ?_ rfl
      simp [execOp, evalF, hp, go_sem]
    · -- 13: slot 22 := Op.load 25 t21
      refine ob_yes fun f w' hb hp => ?_
      simp [PreOf, factOf, valOf, Ph.is, Ph.by_, Ph.any, Region.binds] at hp
      refine ⟨by simp [Gd, valOf, hp], ?_⟩
      refine mild_val (.slice A l.length c) ?_ rfl
      have hc := (X.out.below X.out.lt hb).cell 17 _ rfl
      simp [execOp, evalF, hp, hc, go_sem]
    · -- 14: slot 23 := Op.call   builtin len, args := #[t22], argTypes := #[25]  
      refine ob_yes fun f w' hb hp => ?_
      simp [PreOf, factOf, valOf, Ph.is, Ph.by_, Ph.any, Region.binds] at hp
      refine ⟨by simp [Gd, valOf, hp], ?_⟩
      refine mild_val (.int .i64 (l.length : Int)) ?_ rfl
      simp [execOp, evalF, hp, go_sem]
    · -- 15: slot 24 := Op.binOp BinOp.sub 3 t23 (const (1:i64)) 3
      refine ob_yes fun f w' hb hp => ?_
      simp [PreOf, factOf, valOf, Ph.is, Ph.by_, Ph.any, Region.binds] at hp
      refine ⟨by simp [Gd, valOf, hp], ?_⟩
      refine mild_val (.int .i64 (ln : Int)) ?_ rfl
      simp [execOp, evalF, hp, go_sem, H15.out, H15b.out]
    · -- 16: slot 25 := Op.convert 3 23 t24
      refine ob_yes fun f w' hb hp => ?_
      simp [PreOf, factOf, valOf, Ph.is, Ph.by_, Ph.any, Region.binds] at hp
      refine ⟨by simp [Gd, valOf, hp], ?_⟩
      refine mild_val (.int .u64 (ln : Int)) ?_ rfl
      simp [execOp, evalF, hp, go_sem, H16.out]
    · -- 17: slot 26 := Op.move t1
      refine ob_yes fun f w' hb hp => ?_
      simp [PreOf, factOf, valOf, Ph.is, Ph.by_, Ph.any, Region.binds] at hp
      refine ⟨by simp [Gd, valOf, hp], ?_⟩
      refine mild_val (.int .u64 (tr : Int)) ?_ rfl
      simp [execOp, evalF, hp]
    · -- 18: slot 27 := Op.binOp BinOp.mul 23 (const (2:u64)) t26 23
      refine ob_yes fun f w' hb hp => ?_
      simp [PreOf, factOf, valOf, Ph.is, Ph.by_, Ph.any, Region.binds] at hp
      refine ⟨by simp [Gd, valOf, hp], ?_⟩
      refine mild_val (.int .u64 (t2 : Int)) ?_ rfl
      simp [execOp, evalF, hp, go_sem, H18.out]
    · -- 19: slot 28 := Op.move t2
      refine ob_yes fun f w' hb hp => ?_
      simp [PreOf, factOf, valOf, Ph.is, Ph.by_, Ph.any, Region.binds] at hp
      refine ⟨by simp [Gd, valOf, hp], ?_⟩
      refine mild_val (.int .u64 (wh : Int)) ?_ rfl
      simp [execOp, evalF, hp]
    · -- 20: slot 29 := Op.binOp BinOp.add 23 t27 t28 23
      refine ob_yes fun f w' hb hp => ?_
      simp [PreOf, factOf, valOf, Ph.is, Ph.by_, Ph.any, Region.binds] at hp
      refine ⟨by simp [Gd, valOf, hp], ?_⟩
      refine mild_val (.int .u64 (at_ : Int)) ?_ rfl
      simp [execOp, evalF, hp, go_sem, H20.out]
    · -- 21: slot 30 := Op.build 194 #[(0, t13), (1, t18), (2, t25), (3, t29)]
      refine ob_yes fun f w' hb hp => ?_
      simp [PreOf, factOf, valOf, Ph.is, Ph.by_, Ph.any, Region.binds] at hp
      refine ⟨by simp [Gd, valOf, hp], ?_⟩
      refine mild_val (.agg #[.int .u64 ((sd : Nat) : Int), .int .u64 ((id : Nat) : Int), .int .u64 ((ln : Nat) : Int), .int .u64 ((at_ : Nat) : Int)]) ?_ rfl
      simp [execOp, evalF, hp, go_sem]
    · -- 22: slot 31 := Op.move t3
      refine ob_yes fun f w' hb hp => ?_
      simp [PreOf, factOf, valOf, Ph.is, Ph.by_, Ph.any, Region.binds] at hp
      refine ⟨by simp [Gd, valOf, hp], ?_⟩
      refine mild_val (.int .u64 (n : Int)) ?_ rfl
      simp [execOp, evalF, hp]
    · -- 23: slot 32 := Op.call   value (Operand.func 116), args := #[t30, t31], argTypes := #[194, 23]  
      refine ob_yes fun f w' hb hp => ?_
      simp [PreOf, factOf, valOf, Ph.is, Ph.by_, Ph.any, Region.binds] at hp
      refine ⟨by simp [Gd, valOf, hp], ?_⟩
      refine mild_call 116 _ _ Tryz.f116 Tryz.func116 (by kernel_rfl) (by kernel_rfl) rfl ?_
      simp [evalF, hp, Ph.is, Ph.by_, Ph.any]
      refine (HB.out w').mono fun ev w8 h => ?_
      obtain ⟨rfl, h2⟩ := h
      exact ⟨rfl, h2⟩
    · -- 24: slot 8 := Op.assign t32
      refine ob_yes fun f w' hb hp => ?_
      simp [PreOf, factOf, valOf, Ph.is, Ph.by_, Ph.any, Region.binds] at hp
      refine ⟨by simp [Gd, valOf, hp], ?_⟩
      refine mild_val (.int .u64 (r : Int)) ?_ rfl
      simp [execOp, evalF, hp]
  · intro f w8 hb8 hp
    simp only [PostOf, Ph.is, Ph.by_, Ph.any] at hp
    obtain ⟨h0, h1, h2, h3, h4, h5, h6, h7, h8, h9, h10, h11, h12, h13, h14, h15, h16, h17, h18, h19, h20, h21, h22, h23, h24, _⟩ := hp
    simp only [fills, List.foldl_cons, List.foldl_nil, Act.put, List.setIfInBounds_toArray, List.set_cons_zero, List.set_cons_succ, h0, h1, h2, h3, h4, h5, h6, h7, h8, h9, h10, h11, h12, h13, h14, h15, h16, h17, h18, h19, h20, h21, h22, h23, h24]
    clear h0 h1 h2 h3 h4 h5 h6 h7 h8 h9 h10 h11 h12 h13 h14 h15 h16 h17 h18 h19 h20 h21 h22 h23 h24
    go_wp2_with fail
    go_ret
    exact ⟨rfl, hb8⟩
end Go.Proofs.YtcffeepgfjpcaaaGreat

namespace Go.Proofs.YtcffeepgfjpcaaaGreat
set_option linter.unusedSimpArgs false
set_option linter.unusedVariables false
open Go.RowKit

def backJ (j : GJob) (uk ut : UInt64) : Bool := decide (j.kind.toNat = 1) && decide (belowU (drawU j.seed uk ut 0) j.of_.toNat < j.stop.toNat)
set_option maxRecDepth 100000 in
set_option maxHeartbeats 3200000 in
theorem back_any22 (w : World) (g B : Nat) (hB : B ≤ w.heap.size) (gv vs vp : Value) (j : GJob) (id : Nat) (l : List UInt32) (hb : BoxAt 85 w g (walkC gv vs j id vp)) (hpl : ByU w B vp l) (hl : l.length ≤ 1048576) (hl0 : 0 < l.length) (hid : id < 4294967296)
    (uk ut : UInt64) (hk : uk.toNat = id) (ht : ut.toNat + 1 = l.length) (b : Bool) (hbk : b = backJ j uk ut) :
    Calls Tryz.prog 63 #[.pointer (some ⟨g, 0, none⟩)] w fun e w' => e = .returned (.bool b) ∧ Below w.heap.size w w' := by
  have hst := u32_lt j.stop
  have hso := u32_lt j.of_
  have hk8 := u8_lt j.kind
  obtain ⟨x, hx⟩ : ∃ x, x = belowU (drawU j.seed uk ut 0) j.of_.toNat := ⟨_, rfl⟩
  have hd := fun W (hW : Below w.heap.size w W) => drawW_any W g B gv vs vp j id l (hb.below hb.lt hW) (hpl.below (hW.mono hB)) hl hl0 hid 0 0 j.of_.toNat (by omega) (by omega) (by omega) uk ut 0 hk ht rfl
  unfold backJ at hbk
  rw [← hx] at hd hbk
  obtain ⟨kd, hkd⟩ : ∃ kd, kd = j.kind.toNat := ⟨_, rfl⟩
  obtain ⟨st, hst'⟩ : ∃ st, st = j.stop.toNat := ⟨_, rfl⟩
  obtain ⟨so, hso'⟩ : ∃ so, so = j.of_.toNat := ⟨_, rfl⟩
  have X : Hid (BoxAt 85 w g (gv :: .int .u8 (kd : Int) :: .int .u64 (j.seed.toNat : Int) :: .int .u32 (j.len.toNat : Int) :: .int .u32 (j.walks.toNat : Int) :: vs :: .int .u32 (st : Int) :: .int .u32 (so : Int) :: (jobC j vs).drop 7 ++ [.int .u32 (id : Int), vp])) := Lib.hid (by rw [hkd, hst', hso']; exact hb)
  rw [← hkd] at hbk hk8
  rw [← hst'] at hbk hst
  rw [← hso'] at hd hso
  have HD := Lib.hid hd
  have HR := Lib.hid hbk
  have H1 : Hid (IntKind.u64.wrap (so : Int) = (so : Int)) := Lib.hid (by rw [wrap_u64]; omega)
  have H2 : Hid (IntKind.u64.wrap (st : Int) = (st : Int)) := Lib.hid (by rw [wrap_u64]; omega)
  clear hd hbk hb hpl hx hkd hst' hso' hk ht
  go_enter Tryz.func63, Tryz.ntmps63
  go_upto_region 1 with fail
  by_cases hk1 : kd = 1
  · by_cases hxs : x < st
    ·
      refine wp_region_typed [some 3, some 4, some 5, some 6, some 7, some 8, some 9, some 10, some 11, some 12, some 13, some 14, some 15, some 16, some 17, some 18, some 19, some 20, some 21, some 22, some 23, some 24, some 25, some 2] [3, 4, 5, 6, 7, 8, 9, 10, 11, 12, 13, 14, 15, 16, 17, 18, 19, 20, 21, 22, 23, 24, 25, 2]
        [Ph.is (.pointer (some ⟨g, 0, none⟩)),
          Ph.is (.pointer (some ⟨g, 0, none⟩)),
          Ph.is (.pointer (some ⟨g, 1, none⟩)),
          Ph.is (.pointer (some ⟨g, 1, none⟩)),
          Ph.is (.int .u8 (kd : Int)),
          Ph.is (.bool true),
          Ph.is (.bool true),
          Ph.is (.pointer (some ⟨g, 0, none⟩)),
          Ph.is (.pointer (some ⟨g, 0, none⟩)),
          Ph.is (.pointer (some ⟨g, 0, none⟩)),
          Ph.is (.pointer (some ⟨g, 1, none⟩)),
          Ph.is (.pointer (some ⟨g, 7, none⟩)),
          Ph.is (.int .u32 (so : Int)),
          Ph.is (.int .u64 (so : Int)),
          Ph.is (.int .u64 (x : Int)),
          Ph.is (.pointer (some ⟨g, 0, none⟩)),
          Ph.is (.pointer (some ⟨g, 0, none⟩)),
          Ph.is (.pointer (some ⟨g, 1, none⟩)),
          Ph.is (.pointer (some ⟨g, 6, none⟩)),
          Ph.is (.int .u32 (st : Int)),
          Ph.is (.int .u64 (st : Int)),
          Ph.is (.bool true),
          Ph.is (.bool true),
          Ph.is (.bool true)] rfl rfl (by kernel_rfl) (by kernel_rfl) ?_ ?_
      · refine ⟨?_, ?_, ?_, ?_, ?_, ?_, ?_, ?_, ?_, ?_, ?_, ?_, ?_, ?_, ?_, ?_, ?_, ?_, ?_, ?_, ?_, ?_, ?_, ?_, trivial⟩
        · -- 0: slot 3 := Op.move t0
          refine ob_yes fun f w' hb hp => ?_
          simp [PreOf, factOf, valOf, Ph.is, Ph.by_, Ph.any, Region.binds] at hp
          refine ⟨by simp [Gd, valOf, hp], ?_⟩
          refine mild_val (.pointer (some ⟨g, 0, none⟩)) ?_ rfl
          simp [execOp, evalF, hp]
        · -- 1: slot 4 := Op.nilCheck t3
          refine ob_yes fun f w' hb hp => ?_
          simp [PreOf, factOf, valOf, Ph.is, Ph.by_, Ph.any, Region.binds] at hp
          refine ⟨by simp [Gd, valOf, hp], ?_⟩
          refine mild_val (.pointer (some ⟨g, 0, none⟩)) ?_ rfl
          simp [execOp, evalF, hp, go_sem]
        · -- 2: slot 5 := Op.fieldAddr 85 t4 1
          refine ob_yes fun f w' hb hp => ?_
          simp [PreOf, factOf, valOf, Ph.is, Ph.by_, Ph.any, Region.binds] at hp
          refine ⟨by simp [Gd, valOf, hp], ?_⟩
          refine mild_val (.pointer (some ⟨g, 1, none⟩)) ?_ rfl
          simp [execOp, evalF, hp, go_sem]
        · -- 3: slot 6 := Op.fieldAddr 29 t5 0
          refine ob_yes fun f w' hb hp => ?_
          simp [PreOf, factOf, valOf, Ph.is, Ph.by_, Ph.any, Region.binds] at hp
          refine ⟨by simp [Gd, valOf, hp], ?_⟩
          refine mild_val (.pointer (some ⟨g, 1, none⟩)) ?_ rfl
          simp [execOp, evalF, hp, go_sem]
        · -- 4: slot 7 := Op.load 5 t6
          refine ob_yes fun f w' hb hp => ?_
          simp [PreOf, factOf, valOf, Ph.is, Ph.by_, Ph.any, Region.binds] at hp
          refine ⟨by simp [Gd, valOf, hp], ?_⟩
          refine mild_val (.int .u8 (kd : Int)) ?_ rfl
          have hc := (X.out.below X.out.lt hb).cell 1 _ rfl
          simp [execOp, evalF, hp, hc, go_sem]
        · -- 5: slot 8 := Op.binOp BinOp.eql 5 t7 (const (1:u8)) 5
          refine ob_yes fun f w' hb hp => ?_
          simp [PreOf, factOf, valOf, Ph.is, Ph.by_, Ph.any, Region.binds] at hp
          refine ⟨by simp [Gd, valOf, hp], ?_⟩
          refine mild_val (.bool true) ?_ rfl
          simp [execOp, evalF, hp, go_sem]
          try omega
        · -- 6: slot 9 := Op.move t8
          refine ob_yes fun f w' hb hp => ?_
          simp [PreOf, factOf, valOf, Ph.is, Ph.by_, Ph.any, Region.binds] at hp
          refine ⟨by simp [Gd, valOf, hp], ?_⟩
          refine mild_val (.bool true) ?_ rfl
          simp [execOp, evalF, hp]
        · -- 7: slot 10 := Op.move t0
          refine ob_yes fun f w' hb hp => ?_
          simp [PreOf, factOf, valOf, Ph.is, Ph.by_, Ph.any, Region.binds] at hp
          refine ⟨by simp [Gd, valOf, hp], ?_⟩
          refine mild_val (.pointer (some ⟨g, 0, none⟩)) ?_ rfl
          simp [execOp, evalF, hp]
        · -- 8: slot 11 := Op.move t0
          refine ob_yes fun f w' hb hp => ?_
          simp [PreOf, factOf, valOf, Ph.is, Ph.by_, Ph.any, Region.binds] at hp
          refine ⟨by simp [Gd, valOf, hp], ?_⟩
          refine mild_val (.pointer (some ⟨g, 0, none⟩)) ?_ rfl
          simp [execOp, evalF, hp]
        · -- 9: slot 12 := Op.nilCheck t11
          refine ob_yes fun f w' hb hp => ?_
          simp [PreOf, factOf, valOf, Ph.is, Ph.by_, Ph.any, Region.binds] at hp
          refine ⟨by simp [Gd, valOf, hp], ?_⟩
          refine mild_val (.pointer (some ⟨g, 0, none⟩)) ?_ rfl
          simp [execOp, evalF, hp, go_sem]
        · -- 10: slot 13 := Op.fieldAddr 85 t12 1
          refine ob_yes fun f w' hb hp => ?_
          simp [PreOf, factOf, valOf, Ph.is, Ph.by_, Ph.any, Region.binds] at hp
          refine ⟨by simp [Gd, valOf, hp], ?_⟩
          refine mild_val (.pointer (some ⟨g, 1, none⟩)) ?_ rfl
          simp [execOp, evalF, hp, go_sem]
        · -- 11: slot 14 := Op.fieldAddr 29 t13 6
          refine ob_yes fun f w' hb hp => ?_
          simp [PreOf, factOf, valOf, Ph.is, Ph.by_, Ph.any, Region.binds] at hp
          refine ⟨by simp [Gd, valOf, hp], ?_⟩
          refine mild_val (.pointer (some ⟨g, 7, none⟩)) ?_ rfl
          simp [execOp, evalF, hp, go_sem]
        · -- 12: slot 15 := Op.load 24 t14
          refine ob_yes fun f w' hb hp => ?_
          simp [PreOf, factOf, valOf, Ph.is, Ph.by_, Ph.any, Region.binds] at hp
          refine ⟨by simp [Gd, valOf, hp], ?_⟩
          refine mild_val (.int .u32 (so : Int)) ?_ rfl
          have hc := (X.out.below X.out.lt hb).cell 7 _ rfl
          simp [execOp, evalF, hp, hc, go_sem]
        · -- 13: slot 16 := Op.convert 24 23 t15
          refine ob_yes fun f w' hb hp => ?_
          simp [PreOf, factOf, valOf, Ph.is, Ph.by_, Ph.any, Region.binds] at hp
          refine ⟨by simp [Gd, valOf, hp], ?_⟩
          refine mild_val (.int .u64 (so : Int)) ?_ rfl
          simp [execOp, evalF, hp, go_sem, H1.out]
        · -- 14: slot 17 := Op.call   value (Operand.func 99), args := #[t10, const (0:u64), const (0:u64), t16], argTypes := #[83, 23, 23, 23]  
          refine ob_yes fun f w' hb hp => ?_
          simp [PreOf, factOf, valOf, Ph.is, Ph.by_, Ph.any, Region.binds] at hp
          refine ⟨by simp [Gd, valOf, hp], ?_⟩
          refine mild_call 99 _ _ Tryz.f99 Tryz.func99 (by kernel_rfl) (by kernel_rfl) rfl ?_
          simp [evalF, hp, Ph.is, Ph.by_, Ph.any]
          refine (HD.out w' hb).mono fun ev w8 h => ?_
          obtain ⟨rfl, h2⟩ := h
          exact ⟨rfl, h2⟩
        · -- 15: slot 18 := Op.move t0
          refine ob_yes fun f w' hb hp => ?_
          simp [PreOf, factOf, valOf, Ph.is, Ph.by_, Ph.any, Region.binds] at hp
          refine ⟨by simp [Gd, valOf, hp], ?_⟩
          refine mild_val (.pointer (some ⟨g, 0, none⟩)) ?_ rfl
          simp [execOp, evalF, hp]
        · -- 16: slot 19 := Op.nilCheck t18
          refine ob_yes fun f w' hb hp => ?_
          simp [PreOf, factOf, valOf, Ph.is, Ph.by_, Ph.any, Region.binds] at hp
          refine ⟨by simp [Gd, valOf, hp], ?_⟩
          refine mild_val (.pointer (some ⟨g, 0, none⟩)) ?_ rfl
          simp [execOp, evalF, hp, go_sem]
        · -- 17: slot 20 := Op.fieldAddr 85 t19 1
          refine ob_yes fun f w' hb hp => ?_
          simp [PreOf, factOf, valOf, Ph.is, Ph.by_, Ph.any, Region.binds] at hp
          refine ⟨by simp [Gd, valOf, hp], ?_⟩
          refine mild_val (.pointer (some ⟨g, 1, none⟩)) ?_ rfl
          simp [execOp, evalF, hp, go_sem]
        · -- 18: slot 21 := Op.fieldAddr 29 t20 5
          refine ob_yes fun f w' hb hp => ?_
          simp [PreOf, factOf, valOf, Ph.is, Ph.by_, Ph.any, Region.binds] at hp
          refine ⟨by simp [Gd, valOf, hp], ?_⟩
          refine mild_val (.pointer (some ⟨g, 6, none⟩)) ?_ rfl
          simp [execOp, evalF, hp, go_sem]
        · -- 19: slot 22 := Op.load 24 t21
          refine ob_yes fun f w' hb hp => ?_
          simp [PreOf, factOf, valOf, Ph.is, Ph.by_, Ph.any, Region.binds] at hp
          refine ⟨by simp [Gd, valOf, hp], ?_⟩
          refine mild_val (.int .u32 (st : Int)) ?_ rfl
          have hc := (X.out.below X.out.lt hb).cell 6 _ rfl
          simp [execOp, evalF, hp, hc, go_sem]
        · -- 20: slot 23 := Op.convert 24 23 t22
          refine ob_yes fun f w' hb hp => ?_
          simp [PreOf, factOf, valOf, Ph.is, Ph.by_, Ph.any, Region.binds] at hp
          refine ⟨by simp [Gd, valOf, hp], ?_⟩
          refine mild_val (.int .u64 (st : Int)) ?_ rfl
          simp [execOp, evalF, hp, go_sem, H2.out]
        · -- 21: slot 24 := Op.binOp BinOp.lss 23 t17 t23 23
          refine ob_yes fun f w' hb hp => ?_
          simp [PreOf, factOf, valOf, Ph.is, Ph.by_, Ph.any, Region.binds] at hp
          refine ⟨by simp [Gd, valOf, hp], ?_⟩
          refine mild_val (.bool true) ?_ rfl
          simp [execOp, evalF, hp, go_sem]
          try omega
        · -- 22: slot 25 := Op.pick t9 t24 (const (Value.bool false))
          refine ob_yes fun f w' hb hp => ?_
          simp [PreOf, factOf, valOf, Ph.is, Ph.by_, Ph.any, Region.binds] at hp
          refine ⟨by simp [Gd, valOf, hp], ?_⟩
          refine mild_val (.bool true) ?_ rfl
          simp [execOp, evalF, hp, go_sem]
        · -- 23: slot 2 := Op.assign t25
          refine ob_yes fun f w' hb hp => ?_
          simp [PreOf, factOf, valOf, Ph.is, Ph.by_, Ph.any, Region.binds] at hp
          refine ⟨by simp [Gd, valOf, hp], ?_⟩
          refine mild_val (.bool true) ?_ rfl
          simp [execOp, evalF, hp]
      · intro f w8 hb8 hp
        simp only [PostOf, Ph.is, Ph.by_, Ph.any] at hp
        obtain ⟨h0, h1, h2, h3, h4, h5, h6, h7, h8, h9, h10, h11, h12, h13, h14, h15, h16, h17, h18, h19, h20, h21, h22, h23, _⟩ := hp
        simp only [fills, List.foldl_cons, List.foldl_nil, Act.put, List.setIfInBounds_toArray, List.set_cons_zero, List.set_cons_succ, h0, h1, h2, h3, h4, h5, h6, h7, h8, h9, h10, h11, h12, h13, h14, h15, h16, h17, h18, h19, h20, h21, h22, h23]
        clear h0 h1 h2 h3 h4 h5 h6 h7 h8 h9 h10 h11 h12 h13 h14 h15 h16 h17 h18 h19 h20 h21 h22 h23
        go_wp2_with fail
        go_ret
        exact ⟨by rw [HR.out]; simp [hk1, hxs], hb8⟩
    ·
      refine wp_region_typed [some 3, some 4, some 5, some 6, some 7, some 8, some 9, some 10, some 11, some 12, some 13, some 14, some 15, some 16, some 17, some 18, some 19, some 20, some 21, some 22, some 23, some 24, some 25, some 2] [3, 4, 5, 6, 7, 8, 9, 10, 11, 12, 13, 14, 15, 16, 17, 18, 19, 20, 21, 22, 23, 24, 25, 2]
        [Ph.is (.pointer (some ⟨g, 0, none⟩)),
          Ph.is (.pointer (some ⟨g, 0, none⟩)),
          Ph.is (.pointer (some ⟨g, 1, none⟩)),
          Ph.is (.pointer (some ⟨g, 1, none⟩)),
          Ph.is (.int .u8 (kd : Int)),
          Ph.is (.bool true),
          Ph.is (.bool true),
          Ph.is (.pointer (some ⟨g, 0, none⟩)),
          Ph.is (.pointer (some ⟨g, 0, none⟩)),
          Ph.is (.pointer (some ⟨g, 0, none⟩)),
          Ph.is (.pointer (some ⟨g, 1, none⟩)),
          Ph.is (.pointer (some ⟨g, 7, none⟩)),
          Ph.is (.int .u32 (so : Int)),
          Ph.is (.int .u64 (so : Int)),
          Ph.is (.int .u64 (x : Int)),
          Ph.is (.pointer (some ⟨g, 0, none⟩)),
          Ph.is (.pointer (some ⟨g, 0, none⟩)),
          Ph.is (.pointer (some ⟨g, 1, none⟩)),
          Ph.is (.pointer (some ⟨g, 6, none⟩)),
          Ph.is (.int .u32 (st : Int)),
          Ph.is (.int .u64 (st : Int)),
          Ph.is (.bool false),
          Ph.is (.bool false),
          Ph.is (.bool false)] rfl rfl (by kernel_rfl) (by kernel_rfl) ?_ ?_
      · refine ⟨?_, ?_, ?_, ?_, ?_, ?_, ?_, ?_, ?_, ?_, ?_, ?_, ?_, ?_, ?_, ?_, ?_, ?_, ?_, ?_, ?_, ?_, ?_, ?_, trivial⟩
        · -- 0: slot 3 := Op.move t0
          refine ob_yes fun f w' hb hp => ?_
          simp [PreOf, factOf, valOf, Ph.is, Ph.by_, Ph.any, Region.binds] at hp
          refine ⟨by simp [Gd, valOf, hp], ?_⟩
          refine mild_val (.pointer (some ⟨g, 0, none⟩)) ?_ rfl
          simp [execOp, evalF, hp]
        · -- 1: slot 4 := Op.nilCheck t3
          refine ob_yes fun f w' hb hp => ?_
          simp [PreOf, factOf, valOf, Ph.is, Ph.by_, Ph.any, Region.binds] at hp
          refine ⟨by simp [Gd, valOf, hp], ?_⟩
          refine mild_val (.pointer (some ⟨g, 0, none⟩)) ?_ rfl
          simp [execOp, evalF, hp, go_sem]
        · -- 2: slot 5 := Op.fieldAddr 85 t4 1
          refine ob_yes fun f w' hb hp => ?_
          simp [PreOf, factOf, valOf, Ph.is, Ph.by_, Ph.any, Region.binds] at hp
          refine ⟨by simp [Gd, valOf, hp], ?_⟩
          refine mild_val (.pointer (some ⟨g, 1, none⟩)) ?_ rfl
          simp [execOp, evalF, hp, go_sem]
        · -- 3: slot 6 := Op.fieldAddr 29 t5 0
          refine ob_yes fun f w' hb hp => ?_
          simp [PreOf, factOf, valOf, Ph.is, Ph.by_, Ph.any, Region.binds] at hp
          refine ⟨by simp [Gd, valOf, hp], ?_⟩
          refine mild_val (.pointer (some ⟨g, 1, none⟩)) ?_ rfl
          simp [execOp, evalF, hp, go_sem]
        · -- 4: slot 7 := Op.load 5 t6
          refine ob_yes fun f w' hb hp => ?_
          simp [PreOf, factOf, valOf, Ph.is, Ph.by_, Ph.any, Region.binds] at hp
          refine ⟨by simp [Gd, valOf, hp], ?_⟩
          refine mild_val (.int .u8 (kd : Int)) ?_ rfl
          have hc := (X.out.below X.out.lt hb).cell 1 _ rfl
          simp [execOp, evalF, hp, hc, go_sem]
        · -- 5: slot 8 := Op.binOp BinOp.eql 5 t7 (const (1:u8)) 5
          refine ob_yes fun f w' hb hp => ?_
          simp [PreOf, factOf, valOf, Ph.is, Ph.by_, Ph.any, Region.binds] at hp
          refine ⟨by simp [Gd, valOf, hp], ?_⟩
          refine mild_val (.bool true) ?_ rfl
          simp [execOp, evalF, hp, go_sem]
          try omega
        · -- 6: slot 9 := Op.move t8
          refine ob_yes fun f w' hb hp => ?_
          simp [PreOf, factOf, valOf, Ph.is, Ph.by_, Ph.any, Region.binds] at hp
          refine ⟨by simp [Gd, valOf, hp], ?_⟩
          refine mild_val (.bool true) ?_ rfl
          simp [execOp, evalF, hp]
        · -- 7: slot 10 := Op.move t0
          refine ob_yes fun f w' hb hp => ?_
          simp [PreOf, factOf, valOf, Ph.is, Ph.by_, Ph.any, Region.binds] at hp
          refine ⟨by simp [Gd, valOf, hp], ?_⟩
          refine mild_val (.pointer (some ⟨g, 0, none⟩)) ?_ rfl
          simp [execOp, evalF, hp]
        · -- 8: slot 11 := Op.move t0
          refine ob_yes fun f w' hb hp => ?_
          simp [PreOf, factOf, valOf, Ph.is, Ph.by_, Ph.any, Region.binds] at hp
          refine ⟨by simp [Gd, valOf, hp], ?_⟩
          refine mild_val (.pointer (some ⟨g, 0, none⟩)) ?_ rfl
          simp [execOp, evalF, hp]
        · -- 9: slot 12 := Op.nilCheck t11
          refine ob_yes fun f w' hb hp => ?_
          simp [PreOf, factOf, valOf, Ph.is, Ph.by_, Ph.any, Region.binds] at hp
          refine ⟨by simp [Gd, valOf, hp], ?_⟩
          refine mild_val (.pointer (some ⟨g, 0, none⟩)) ?_ rfl
          simp [execOp, evalF, hp, go_sem]
        · -- 10: slot 13 := Op.fieldAddr 85 t12 1
          refine ob_yes fun f w' hb hp => ?_
          simp [PreOf, factOf, valOf, Ph.is, Ph.by_, Ph.any, Region.binds] at hp
          refine ⟨by simp [Gd, valOf, hp], ?_⟩
          refine mild_val (.pointer (some ⟨g, 1, none⟩)) ?_ rfl
          simp [execOp, evalF, hp, go_sem]
        · -- 11: slot 14 := Op.fieldAddr 29 t13 6
          refine ob_yes fun f w' hb hp => ?_
          simp [PreOf, factOf, valOf, Ph.is, Ph.by_, Ph.any, Region.binds] at hp
          refine ⟨by simp [Gd, valOf, hp], ?_⟩
          refine mild_val (.pointer (some ⟨g, 7, none⟩)) ?_ rfl
          simp [execOp, evalF, hp, go_sem]
        · -- 12: slot 15 := Op.load 24 t14
          refine ob_yes fun f w' hb hp => ?_
          simp [PreOf, factOf, valOf, Ph.is, Ph.by_, Ph.any, Region.binds] at hp
          refine ⟨by simp [Gd, valOf, hp], ?_⟩
          refine mild_val (.int .u32 (so : Int)) ?_ rfl
          have hc := (X.out.below X.out.lt hb).cell 7 _ rfl
          simp [execOp, evalF, hp, hc, go_sem]
        · -- 13: slot 16 := Op.convert 24 23 t15
          refine ob_yes fun f w' hb hp => ?_
          simp [PreOf, factOf, valOf, Ph.is, Ph.by_, Ph.any, Region.binds] at hp
          refine ⟨by simp [Gd, valOf, hp], ?_⟩
          refine mild_val (.int .u64 (so : Int)) ?_ rfl
          simp [execOp, evalF, hp, go_sem, H1.out]
        · -- 14: slot 17 := Op.call   value (Operand.func 99), args := #[t10, const (0:u64), const (0:u64), t16], argTypes := #[83, 23, 23, 23]  
          refine ob_yes fun f w' hb hp => ?_
          simp [PreOf, factOf, valOf, Ph.is, Ph.by_, Ph.any, Region.binds] at hp
          refine ⟨by simp [Gd, valOf, hp], ?_⟩
          refine mild_call 99 _ _ Tryz.f99 Tryz.func99 (by kernel_rfl) (by kernel_rfl) rfl ?_
          simp [evalF, hp, Ph.is, Ph.by_, Ph.any]
          refine (HD.out w' hb).mono fun ev w8 h => ?_
          obtain ⟨rfl, h2⟩ := h
          exact ⟨rfl, h2⟩
        · -- 15: slot 18 := Op.move t0
          refine ob_yes fun f w' hb hp => ?_
          simp [PreOf, factOf, valOf, Ph.is, Ph.by_, Ph.any, Region.binds] at hp
          refine ⟨by simp [Gd, valOf, hp], ?_⟩
          refine mild_val (.pointer (some ⟨g, 0, none⟩)) ?_ rfl
          simp [execOp, evalF, hp]
        · -- 16: slot 19 := Op.nilCheck t18
          refine ob_yes fun f w' hb hp => ?_
          simp [PreOf, factOf, valOf, Ph.is, Ph.by_, Ph.any, Region.binds] at hp
          refine ⟨by simp [Gd, valOf, hp], ?_⟩
          refine mild_val (.pointer (some ⟨g, 0, none⟩)) ?_ rfl
          simp [execOp, evalF, hp, go_sem]
        · -- 17: slot 20 := Op.fieldAddr 85 t19 1
          refine ob_yes fun f w' hb hp => ?_
          simp [PreOf, factOf, valOf, Ph.is, Ph.by_, Ph.any, Region.binds] at hp
          refine ⟨by simp [Gd, valOf, hp], ?_⟩
          refine mild_val (.pointer (some ⟨g, 1, none⟩)) ?_ rfl
          simp [execOp, evalF, hp, go_sem]
        · -- 18: slot 21 := Op.fieldAddr 29 t20 5
          refine ob_yes fun f w' hb hp => ?_
          simp [PreOf, factOf, valOf, Ph.is, Ph.by_, Ph.any, Region.binds] at hp
          refine ⟨by simp [Gd, valOf, hp], ?_⟩
          refine mild_val (.pointer (some ⟨g, 6, none⟩)) ?_ rfl
          simp [execOp, evalF, hp, go_sem]
        · -- 19: slot 22 := Op.load 24 t21
          refine ob_yes fun f w' hb hp => ?_
          simp [PreOf, factOf, valOf, Ph.is, Ph.by_, Ph.any, Region.binds] at hp
          refine ⟨by simp [Gd, valOf, hp], ?_⟩
          refine mild_val (.int .u32 (st : Int)) ?_ rfl
          have hc := (X.out.below X.out.lt hb).cell 6 _ rfl
          simp [execOp, evalF, hp, hc, go_sem]
        · -- 20: slot 23 := Op.convert 24 23 t22
          refine ob_yes fun f w' hb hp => ?_
          simp [PreOf, factOf, valOf, Ph.is, Ph.by_, Ph.any, Region.binds] at hp
          refine ⟨by simp [Gd, valOf, hp], ?_⟩
          refine mild_val (.int .u64 (st : Int)) ?_ rfl
          simp [execOp, evalF, hp, go_sem, H2.out]
        · -- 21: slot 24 := Op.binOp BinOp.lss 23 t17 t23 23
          refine ob_yes fun f w' hb hp => ?_
          simp [PreOf, factOf, valOf, Ph.is, Ph.by_, Ph.any, Region.binds] at hp
          refine ⟨by simp [Gd, valOf, hp], ?_⟩
          refine mild_val (.bool false) ?_ rfl
          simp [execOp, evalF, hp, go_sem]
          try omega
        · -- 22: slot 25 := Op.pick t9 t24 (const (Value.bool false))
          refine ob_yes fun f w' hb hp => ?_
          simp [PreOf, factOf, valOf, Ph.is, Ph.by_, Ph.any, Region.binds] at hp
          refine ⟨by simp [Gd, valOf, hp], ?_⟩
          refine mild_val (.bool false) ?_ rfl
          simp [execOp, evalF, hp, go_sem]
        · -- 23: slot 2 := Op.assign t25
          refine ob_yes fun f w' hb hp => ?_
          simp [PreOf, factOf, valOf, Ph.is, Ph.by_, Ph.any, Region.binds] at hp
          refine ⟨by simp [Gd, valOf, hp], ?_⟩
          refine mild_val (.bool false) ?_ rfl
          simp [execOp, evalF, hp]
      · intro f w8 hb8 hp
        simp only [PostOf, Ph.is, Ph.by_, Ph.any] at hp
        obtain ⟨h0, h1, h2, h3, h4, h5, h6, h7, h8, h9, h10, h11, h12, h13, h14, h15, h16, h17, h18, h19, h20, h21, h22, h23, _⟩ := hp
        simp only [fills, List.foldl_cons, List.foldl_nil, Act.put, List.setIfInBounds_toArray, List.set_cons_zero, List.set_cons_succ, h0, h1, h2, h3, h4, h5, h6, h7, h8, h9, h10, h11, h12, h13, h14, h15, h16, h17, h18, h19, h20, h21, h22, h23]
        clear h0 h1 h2 h3 h4 h5 h6 h7 h8 h9 h10 h11 h12 h13 h14 h15 h16 h17 h18 h19 h20 h21 h22 h23
        go_wp2_with fail
        go_ret
        exact ⟨by rw [HR.out]; simp [hk1, hxs], hb8⟩
  ·
    refine wp_region_typed [some 3, some 4, some 5, some 6, some 7, some 8, some 9, some 10, some 11, some 12, some 13, some 14, some 15, some 16, some 17, some 18, some 19, some 20, some 21, some 22, some 23, some 24, some 25, some 2] [3, 4, 5, 6, 7, 8, 9, 10, 11, 12, 13, 14, 15, 16, 17, 18, 19, 20, 21, 22, 23, 24, 25, 2]
      [Ph.is (.pointer (some ⟨g, 0, none⟩)),
        Ph.is (.pointer (some ⟨g, 0, none⟩)),
        Ph.is (.pointer (some ⟨g, 1, none⟩)),
        Ph.is (.pointer (some ⟨g, 1, none⟩)),
        Ph.is (.int .u8 (kd : Int)),
        Ph.is (.bool false),
        Ph.is (.bool false),
        Ph.is undef,
        Ph.is undef,
        Ph.is undef,
        Ph.is undef,
        Ph.is undef,
        Ph.is undef,
        Ph.is undef,
        Ph.is undef,
        Ph.is undef,
        Ph.is undef,
        Ph.is undef,
        Ph.is undef,
        Ph.is undef,
        Ph.is undef,
        Ph.is undef,
        Ph.is (.bool false),
        Ph.is (.bool false)] rfl rfl (by kernel_rfl) (by kernel_rfl) ?_ ?_
    · refine ⟨?_, ?_, ?_, ?_, ?_, ?_, ?_, ?_, ?_, ?_, ?_, ?_, ?_, ?_, ?_, ?_, ?_, ?_, ?_, ?_, ?_, ?_, ?_, ?_, trivial⟩
      · -- 0: slot 3 := Op.move t0
        refine ob_yes fun f w' hb hp => ?_
        simp [PreOf, factOf, valOf, Ph.is, Ph.by_, Ph.any, Region.binds] at hp
        refine ⟨by simp [Gd, valOf, hp], ?_⟩
        refine mild_val (.pointer (some ⟨g, 0, none⟩)) ?_ rfl
        simp [execOp, evalF, hp]
      · -- 1: slot 4 := Op.nilCheck t3
        refine ob_yes fun f w' hb hp => ?_
        simp [PreOf, factOf, valOf, Ph.is, Ph.by_, Ph.any, Region.binds] at hp
        refine ⟨by simp [Gd, valOf, hp], ?_⟩
        refine mild_val (.pointer (some ⟨g, 0, none⟩)) ?_ rfl
        simp [execOp, evalF, hp, go_sem]
      · -- 2: slot 5 := Op.fieldAddr 85 t4 1
        refine ob_yes fun f w' hb hp => ?_
        simp [PreOf, factOf, valOf, Ph.is, Ph.by_, Ph.any, Region.binds] at hp
        refine ⟨by simp [Gd, valOf, hp], ?_⟩
        refine mild_val (.pointer (some ⟨g, 1, none⟩)) ?_ rfl
        simp [execOp, evalF, hp, go_sem]
      · -- 3: slot 6 := Op.fieldAddr 29 t5 0
        refine ob_yes fun f w' hb hp => ?_
        simp [PreOf, factOf, valOf, Ph.is, Ph.by_, Ph.any, Region.binds] at hp
        refine ⟨by simp [Gd, valOf, hp], ?_⟩
        refine mild_val (.pointer (some ⟨g, 1, none⟩)) ?_ rfl
        simp [execOp, evalF, hp, go_sem]
      · -- 4: slot 7 := Op.load 5 t6
        refine ob_yes fun f w' hb hp => ?_
        simp [PreOf, factOf, valOf, Ph.is, Ph.by_, Ph.any, Region.binds] at hp
        refine ⟨by simp [Gd, valOf, hp], ?_⟩
        refine mild_val (.int .u8 (kd : Int)) ?_ rfl
        have hc := (X.out.below X.out.lt hb).cell 1 _ rfl
        simp [execOp, evalF, hp, hc, go_sem]
      · -- 5: slot 8 := Op.binOp BinOp.eql 5 t7 (const (1:u8)) 5
        refine ob_yes fun f w' hb hp => ?_
        simp [PreOf, factOf, valOf, Ph.is, Ph.by_, Ph.any, Region.binds] at hp
        refine ⟨by simp [Gd, valOf, hp], ?_⟩
        refine mild_val (.bool false) ?_ rfl
        simp [execOp, evalF, hp, go_sem]
        try omega
      · -- 6: slot 9 := Op.move t8
        refine ob_yes fun f w' hb hp => ?_
        simp [PreOf, factOf, valOf, Ph.is, Ph.by_, Ph.any, Region.binds] at hp
        refine ⟨by simp [Gd, valOf, hp], ?_⟩
        refine mild_val (.bool false) ?_ rfl
        simp [execOp, evalF, hp]
      · -- 7: slot 10 := Op.move t0
        refine ob_no fun f w' hb hp => ?_
        simp [PreOf, factOf, valOf, Ph.is, Ph.by_, Ph.any, Region.binds] at hp
        exact ⟨by simp [Gd, valOf, hp], rfl⟩
      · -- 8: slot 11 := Op.move t0
        refine ob_no fun f w' hb hp => ?_
        simp [PreOf, factOf, valOf, Ph.is, Ph.by_, Ph.any, Region.binds] at hp
        exact ⟨by simp [Gd, valOf, hp], rfl⟩
      · -- 9: slot 12 := Op.nilCheck t11
        refine ob_no fun f w' hb hp => ?_
        simp [PreOf, factOf, valOf, Ph.is, Ph.by_, Ph.any, Region.binds] at hp
        exact ⟨by simp [Gd, valOf, hp], rfl⟩
      · -- 10: slot 13 := Op.fieldAddr 85 t12 1
        refine ob_no fun f w' hb hp => ?_
        simp [PreOf, factOf, valOf, Ph.is, Ph.by_, Ph.any, Region.binds] at hp
        exact ⟨by simp [Gd, valOf, hp], rfl⟩
      · -- 11: slot 14 := Op.fieldAddr 29 t13 6
        refine ob_no fun f w' hb hp => ?_
        simp [PreOf, factOf, valOf, Ph.is, Ph.by_, Ph.any, Region.binds] at hp
        exact ⟨by simp [Gd, valOf, hp], rfl⟩
      · -- 12: slot 15 := Op.load 24 t14
        refine ob_no fun f w' hb hp => ?_
        simp [PreOf, factOf, valOf, Ph.is, Ph.by_, Ph.any, Region.binds] at hp
        exact ⟨by simp [Gd, valOf, hp], rfl⟩
      · -- 13: slot 16 := Op.convert 24 23 t15
        refine ob_no fun f w' hb hp => ?_
        simp [PreOf, factOf, valOf, Ph.is, Ph.by_, Ph.any, Region.binds] at hp
        exact ⟨by simp [Gd, valOf, hp], rfl⟩
      · -- 14: slot 17 := Op.call   value (Operand.func 99), args := #[t10, const (0:u64), const (0:u64), t16], argTypes := #[83, 23, 23, 23]  
        refine ob_no fun f w' hb hp => ?_
        simp [PreOf, factOf, valOf, Ph.is, Ph.by_, Ph.any, Region.binds] at hp
        exact ⟨by simp [Gd, valOf, hp], rfl⟩
      · -- 15: slot 18 := Op.move t0
        refine ob_no fun f w' hb hp => ?_
        simp [PreOf, factOf, valOf, Ph.is, Ph.by_, Ph.any, Region.binds] at hp
        exact ⟨by simp [Gd, valOf, hp], rfl⟩
      · -- 16: slot 19 := Op.nilCheck t18
        refine ob_no fun f w' hb hp => ?_
        simp [PreOf, factOf, valOf, Ph.is, Ph.by_, Ph.any, Region.binds] at hp
        exact ⟨by simp [Gd, valOf, hp], rfl⟩
      · -- 17: slot 20 := Op.fieldAddr 85 t19 1
        refine ob_no fun f w' hb hp => ?_
        simp [PreOf, factOf, valOf, Ph.is, Ph.by_, Ph.any, Region.binds] at hp
        exact ⟨by simp [Gd, valOf, hp], rfl⟩
      · -- 18: slot 21 := Op.fieldAddr 29 t20 5
        refine ob_no fun f w' hb hp => ?_
        simp [PreOf, factOf, valOf, Ph.is, Ph.by_, Ph.any, Region.binds] at hp
        exact ⟨by simp [Gd, valOf, hp], rfl⟩
      · -- 19: slot 22 := Op.load 24 t21
        refine ob_no fun f w' hb hp => ?_
        simp [PreOf, factOf, valOf, Ph.is, Ph.by_, Ph.any, Region.binds] at hp
        exact ⟨by simp [Gd, valOf, hp], rfl⟩
      · -- 20: slot 23 := Op.convert 24 23 t22
        refine ob_no fun f w' hb hp => ?_
        simp [PreOf, factOf, valOf, Ph.is, Ph.by_, Ph.any, Region.binds] at hp
        exact ⟨by simp [Gd, valOf, hp], rfl⟩
      · -- 21: slot 24 := Op.binOp BinOp.lss 23 t17 t23 23
        refine ob_no fun f w' hb hp => ?_
        simp [PreOf, factOf, valOf, Ph.is, Ph.by_, Ph.any, Region.binds] at hp
        exact ⟨by simp [Gd, valOf, hp], rfl⟩
      · -- 22: slot 25 := Op.pick t9 t24 (const (Value.bool false))
        refine ob_yes fun f w' hb hp => ?_
        simp [PreOf, factOf, valOf, Ph.is, Ph.by_, Ph.any, Region.binds] at hp
        refine ⟨by simp [Gd, valOf, hp], ?_⟩
        refine mild_val (.bool false) ?_ rfl
        simp [execOp, evalF, hp, go_sem]
      · -- 23: slot 2 := Op.assign t25
        refine ob_yes fun f w' hb hp => ?_
        simp [PreOf, factOf, valOf, Ph.is, Ph.by_, Ph.any, Region.binds] at hp
        refine ⟨by simp [Gd, valOf, hp], ?_⟩
        refine mild_val (.bool false) ?_ rfl
        simp [execOp, evalF, hp]
    · intro f w8 hb8 hp
      simp only [PostOf, Ph.is, Ph.by_, Ph.any] at hp
      obtain ⟨h0, h1, h2, h3, h4, h5, h6, h7, h8, h9, h10, h11, h12, h13, h14, h15, h16, h17, h18, h19, h20, h21, h22, h23, _⟩ := hp
      simp only [fills, List.foldl_cons, List.foldl_nil, Act.put, List.setIfInBounds_toArray, List.set_cons_zero, List.set_cons_succ, h0, h1, h2, h3, h4, h5, h6, h7, h8, h9, h10, h11, h12, h13, h14, h15, h16, h17, h18, h19, h20, h21, h22, h23]
      clear h0 h1 h2 h3 h4 h5 h6 h7 h8 h9 h10 h11 h12 h13 h14 h15 h16 h17 h18 h19 h20 h21 h22 h23
      go_wp2_with fail
      go_ret
      exact ⟨by rw [HR.out]; simp [hk1], hb8⟩
end Go.Proofs.YtcffeepgfjpcaaaGreat

namespace Go.Proofs.YtcffeepgfjpcaaaGreat
set_option linter.unusedSimpArgs false
set_option linter.unusedVariables false
open Go.RowKit Go.Shelf
attribute [local go_sem] Oper.semAt_some

section
variable {B : Nat → Prop} {W W' W'' : World}
theorem Kp.byA {B0 : Nat} {v : Value} {l : List GArc} (hk : Kp B W W') (hB : ∀ k, B k → B0 ≤ k) (h : ByA W B0 v l) : ByA W' B0 v l := Kp.row (fun _ _ _ h => h) hk hB h
theorem Kp.byC {B0 : Nat} {v : Value} {l : List GCell} (hk : Kp B W W') (hB : ∀ k, B k → B0 ≤ k) (h : ByC W B0 v l) : ByC W' B0 v l := Kp.row (fun _ _ _ h => h) hk hB h
end

/-- a neighbour, and where its interval begins -/
def frontAt (l : List GArc) (k : Nat) : Nat := l.length * gsum (l.take k)
def frontP (l : List GArc) (k : Nat) : Nat × Nat := (k, frontAt l k)
theorem frontAt_succ (l : List GArc) (k : Nat) (hk : k < l.length) : frontAt l (k + 1) = frontAt l k + l.length * (l[k]).wt.toNat := by
  unfold frontAt; rw [gsum_snoc l k hk, Nat.mul_add]

set_option maxRecDepth 100000 in
set_option maxHeartbeats 1000000 in
theorem fronts_in (F : Fence) (n : Nat) (h1 : F.fn 49) (hro : F.round = none) (A : Option Addr) (len cap : Nat) (w : World) :
    CallsIn F n Tryz.prog 49 #[.slice A len cap] w fun e w' => e = .returned (.func (.func 79) #[] #[.pointer (some ⟨w.heap.size, 0, none⟩)]) ∧ w' = w.alloc (.cells #[.slice A len cap] 45) := by
  refine callsIn_of_wp Tryz.func49 rfl h1 ?_ hro
  simp only [Tryz.ntmps49, List.size_toArray, List.length_cons, List.length_nil, Nat.reduceAdd, Nat.reduceSub, Array.replicate_succ, Array.replicate_zero, List.push_toArray, List.append_toArray, List.nil_append, List.cons_append]
  gi_wp2
  go_ret
  exact ⟨rfl, rfl⟩

set_option maxRecDepth 100000 in
set_option maxHeartbeats 3200000 in
theorem fronts1_in (F : Fence) (n : Nat) (h7 : F.fn 79) (hro : F.round = none) (hn : 1 ≤ n) (l Bs B0 : Nat) (B : Nat → Prop) (A : Option Addr) (cap : Nat) (xs : List GArc) (hl : xs.length ≤ 1048576) (hs : gsum xs ≤ 2147483647) (J Jx : List (Nat × Nat) → World → Prop)
    (hBs : ¬ B Bs) (hBB : ∀ k, B k → B0 ≤ k)
    (hY : ∀ pre x W, J pre W → pre.length < xs.length → YieldAt F (n - 1) Tryz.prog l #[.int .i64 (x.1 : Int), .int .u64 (x.2 : Int)] W fun e W' =>
      (e = .returned (.bool true) ∧ J (pre ++ [x]) W' ∧ Kp B W W') ∨ (e = .returned (.bool false) ∧ Jx (pre ++ [x]) W'))
    (W : World) (hBW : ∀ k, B k → k < W.heap.size) (hJ : AbidesFrom W.heap.size J) (hc : W.cell? ⟨Bs, 0, none⟩ = some (.slice A xs.length cap)) (hrow : ByA W B0 (.slice A xs.length cap) xs) (h0 : J [] W) :
    CallsIn F n Tryz.prog 79 #[.func (.yield l) #[] #[], .pointer (some ⟨Bs, 0, none⟩)] W fun e W' => (∃ v, e = .returned v) ∧
      ((∃ ys, ys = upto (frontP xs) xs.length ∧ J ys W') ∨ (∃ pre, (∃ k, k ≤ xs.length ∧ pre = upto (frontP xs) k) ∧ Jx pre W')) := by
  obtain ⟨_, hc1, hc2⟩ := hrow.len_
  unfold maxLen at hc2
  have hfs := frontAt_succ xs
  have hft : ∀ k, frontAt xs k ≤ 1048576 * 2147483647 := fun k => Nat.mul_le_mul hl (Nat.le_trans (gsum_take_le xs k) hs)
  have Hfs := Lib.hid hfs
  have Hft := Lib.hid hft
  clear hfs hft
  refine callsIn_of_wp Tryz.func79 rfl h7 ?_ hro
  simp only [Tryz.ntmps79, List.size_toArray, List.length_cons, List.length_nil, Nat.reduceAdd, Nat.reduceSub, Array.replicate_succ, Array.replicate_zero, List.push_toArray, List.append_toArray, List.nil_append, List.cons_append]
  gi_wp2
  gi_loopw [3, 8] (fun a i wr => ∃ k : Nat, k ≤ xs.length ∧ i = .int .i64 k ∧ a = .int .u64 (frontAt xs k : Nat) ∧ J (upto (frontP xs) k) wr ∧ Kp B W wr ∧ W.heap.size ≤ wr.heap.size)
    (fun _ i _ => xs.length - (intOf i).toNat)
  case atStart => exact ⟨0, Nat.zero_le _, rfl, by simp [frontAt, gsum], h0, Kp.refl _ _, Nat.le_refl _⟩
  case round =>
    obtain ⟨k, hk, rfl, rfl, hJs, hkp, hsz⟩ := hrel
    have Hkp := Lib.hid hkp
    by_cases hlt : k < xs.length
    · obtain ⟨ad, rfl, hab, hx0, hx1⟩ := (hkp.byA hBB hrow).cells k hlt
      have hto := u32_lt (xs[k]).to
      have hwt := u32_lt (xs[k]).wt
      have hf1 := Hfs.out k hlt
      have hf2 := Hft.out k
      have hf3 := Hft.out (k + 1)
      have hm2 : xs.length * (xs[k]).wt.toNat ≤ 1048576 * 4294967295 := Nat.mul_le_mul hl (by omega)
      have hmul : IntKind.u64.wrap ((xs.length : Int) * ((xs[k]).wt.toNat : Int)) = ((xs.length * (xs[k]).wt.toNat : Nat) : Int) := by
        rw [← Int.natCast_mul, wrap_u64]; omega
      generalize (xs[k]).to.toNat = to at *
      generalize (xs[k]).wt.toNat = wt at *
      generalize xs.length * wt = p at *
      have hJ1 : J (upto (frontP xs) k) (wr.alloc (.cells #[.int .u32 (to : Int), .int .u32 (wt : Int)] 48)) := hJ _ _ _ none hJs (World.grownBy_alloc wr _ none) (fun r e => by cases e)
      obtain ⟨fn, tmps, assign, body, hy, hR⟩ := hY _ (frontP xs k) _ hJ1 (by rw [upto_length]; exact hlt)
      dsimp only [frontP] at hy
      have Hf1 := Lib.hid hf1
      have hbx := BoxAt.new_ 48 wr [.int .u32 (to : Int), .int .u32 (wt : Int)]
      have Hbx := Lib.hid hbx
      have hcs := hkp.cell hc hBs
      clear hf1 hbx hkp
      gi_wp2
      refine hR.mono ?_
      rintro e W3 (⟨rfl, hJ3, hk3⟩ | ⟨rfl, hJx3⟩)
      · have hbx3 := hk3.box (fun hb => by have := hBW _ hb; omega) Hbx.out
        have hw1 := hbx3.cell 1 _ rfl
        have hcs3 := ((Kp.alloc B wr (.cells #[.int .u32 (to : Int), .int .u32 (wt : Int)] 48)).trans hk3).cell hcs hBs
        have Hk3 := Lib.hid (Hkp.out.trans ((Kp.alloc B wr (.cells #[.int .u32 (to : Int), .int .u32 (wt : Int)] 48)).trans hk3))
        have hJ3' : J (upto (frontP xs) (k + 1)) W3 := by rw [upto_succ]; exact hJ3
        have HJ3 := Lib.hid hJ3'
        have hsz3 : W.heap.size ≤ W3.heap.size := Hk3.out.size
        have hfa : frontAt xs k + p = frontAt xs (k + 1) := Hf1.out.symm
        clear hbx3 hk3 hJ3 hJ3' hR hx0 hx1 hy
        gi_wp2
        go_roundw
        case rel => exact ⟨k + 1, by omega, by go_num, by first | (rw [← hfa]; go_num; done) | (rw [← hfa]; simp), HJ3.out, Hk3.out, hsz3⟩
        case measure => simp [intOf]; omega
      · gi_wp2
        refine bodyPost_ret (results_none rfl _ _ _) rfl ?_
        exact ⟨⟨_, rfl⟩, .inr ⟨_, ⟨k + 1, by omega, (upto_succ _ _).symm⟩, hJx3⟩⟩
    · obtain rfl : k = xs.length := by omega
      clear hkp
      gi_wp2
      go_end0
      exact ⟨⟨_, rfl⟩, .inl ⟨_, rfl, hJs⟩⟩

theorem fronts_stops (F : Fence) (n : Nat) (h7 : F.fn 79) (hro : F.round = none) (hn : 1 ≤ n) (Bs B0 : Nat) (B : Nat → Prop) (A : Option Addr) (cap : Nat) (xs : List GArc) (hl : xs.length ≤ 1048576) (hs : gsum xs ≤ 2147483647) (w : World)
    (hBs : Bs < w.heap.size) (hnB : ¬ B Bs) (hBB : ∀ k, B k → B0 ≤ k) (hBW : ∀ k, B k → k < w.heap.size) (hB0 : B0 ≤ w.heap.size)
    (hc : w.cell? ⟨Bs, 0, none⟩ = some (.slice A xs.length cap)) (hrow : ByA w B0 (.slice A xs.length cap) xs) :
    SeqStopsK F n Tryz.prog 79 #[.pointer (some ⟨Bs, 0, none⟩)] (fun x : Nat × Nat => #[Value.int .i64 (x.1 : Int), Value.int .u64 (x.2 : Int)]) (Kp B) (fun ys => ys = upto (frontP xs) xs.length)
      (fun pre => ∃ k, k ≤ xs.length ∧ pre = upto (frontP xs) k) xs.length w := fun l J Jx W hW hJ _ hY h0 =>
  fronts1_in F n h7 hro hn l Bs B0 B A cap xs hl hs J Jx hnB hBB hY W (fun k hk => Nat.lt_of_lt_of_le (hBW k hk) hW.size) hJ ((hW.cell (p := ⟨Bs, 0, none⟩) hBs).trans hc) (hrow.below (hW.mono hB0)) h0
end Go.Proofs.YtcffeepgfjpcaaaGreat

namespace Go.Proofs.YtcffeepgfjpcaaaGreat
set_option linter.unusedSimpArgs false
set_option linter.unusedVariables false
open Go.RowKit Go.Shelf
attribute [local go_sem] Oper.semAt_some

/-- the neighbour whose interval holds a number -/
def ivalN (l : List GArc) (y : Nat) : Nat := ((List.range l.length).findIdx? (fun i => decide (y < frontAt l (i + 1)))).getD 0
theorem frontAt_mono (l : List GArc) {j k : Nat} (h : j ≤ k) : frontAt l j ≤ frontAt l k := by
  unfold frontAt
  refine Nat.mul_le_mul (Nat.le_refl _) ?_
  have := gsum_take_le (l.take k) j
  rwa [List.take_take, Nat.min_eq_left h] at this
theorem ivalN_at (l : List GArc) (y k : Nat) (hk : k < l.length) (h1 : frontAt l k ≤ y) (h2 : y < frontAt l (k + 1)) : ivalN l y = k := by
  unfold ivalN
  have : (List.range l.length).findIdx? (fun i => decide (y < frontAt l (i + 1))) = some k := by
    rw [List.findIdx?_eq_some_iff_getElem]
    refine ⟨by simpa using hk, by simpa using h2, fun j hj => ?_⟩
    have := frontAt_mono l (show j + 1 ≤ k by omega)
    simp
    omega
  rw [this]
  rfl
theorem frontAt_zero (l : List GArc) : frontAt l 0 = 0 := by simp [frontAt, gsum]
theorem frontAt_all (l : List GArc) : frontAt l l.length = gsum l * l.length := by unfold frontAt; rw [List.take_length, Nat.mul_comm]
def ival (l : List GArc) (y : Nat) : Nat × Bool := if y < ptotal l then (ivalN l y, true) else (0, false)
def lastI (pre : List (Nat × Nat)) : Nat := (pre.getLast?.map (·.1)).getD 0
theorem lastI_snoc (pre : List (Nat × Nat)) (x : Nat × Nat) : lastI (pre ++ [x]) = x.1 := by simp [lastI]

set_option maxRecDepth 100000 in
set_option maxHeartbeats 3200000 in
theorem interval_any (w : World) (B0 : Nat) (v : Value) (l : List GArc) (y : Nat) (hy : y < 18446744073709551616) (hl : l.length ≤ 1048576) (h : ByA w B0 v l) (hB : B0 ≤ w.heap.size) :
    Calls Tryz.prog 23 #[v, .int .u64 (y : Int)] w fun e w' => e = .returned (.tuple #[.int .i64 ((ival l y).1 : Nat), .bool (ival l y).2]) ∧ Below w.heap.size w w' := by
  obtain ⟨A, c, rfl, hc1, hc2⟩ := h.form
  unfold maxLen at hc2
  have htot := fun W h hB => ptotal_any W B0 (.slice A l.length c) l (by omega) h hB
  have Htot := Lib.hid htot
  clear htot
  refine (callsIn_wide (n := 4)).1 ?_
  refine callsIn_of_wp_marks Tryz.func23 rfl trivial ?_ rfl
  simp only [Tryz.ntmps23, List.size_toArray, List.length_cons, List.length_nil, Nat.reduceAdd, Nat.reduceSub, Array.replicate_succ, Array.replicate_zero, List.push_toArray, List.append_toArray, List.nil_append, List.cons_append]
  gi_wp2
  refine wpIn_wide.2 ?_
  have hbx := BoxAt.new_ 23 w [.int .u64 (y : Int)]
  have hb0 := balloc w (.cells #[.int .u64 (y : Int)] 23)
  have hy0 := hbx.cell 0 _ rfl
  have hzB : (w.alloc (.cells #[.int .u64 (y : Int)] 23)).heap.size = w.heap.size + 1 := by simp
  generalize w.alloc (.cells #[.int .u64 (y : Int)] 23) = wB at *
  have hrB := h.below (hb0.mono hB)
  have HrB := Lib.hid hrB
  have Hb0 := Lib.hid hb0
  have Hbx := Lib.hid hbx
  clear hb0 hrB hbx
  -- REGION
  refine wp_region_typed [some 9, some 10, some 11, some 12] [9, 10, 11, 12]
    [Ph.is (.int .u64 (y : Int)),
      Ph.is (.slice A l.length c),
      Ph.is (.int .u64 (ptotal l : Nat)),
      Ph.is (.bool (decide (ptotal l ≤ y)))] rfl rfl (by kernel_rfl) (by kernel_rfl) ?_ ?_
  · refine ⟨?_, ?_, ?_, ?_, trivial⟩
    · -- 0: slot 9 := Op.load 26 t3
      refine ob_yes fun f w' hb hp => ?_
      simp [PreOf, factOf, valOf, Ph.is, Ph.by_, Ph.any, Region.binds] at hp
      refine ⟨by simp [Gd, valOf, hp], ?_⟩
      refine mild_val (.int .u64 (y : Int)) ?_ rfl
      have hc := (hb.cell (p := ⟨w.heap.size, 0, none⟩) (by show w.heap.size < wB.heap.size; omega)).trans hy0
      simp [execOp, evalF, hp, hc, go_sem]
    · -- 1: slot 10 := Op.move t0
      refine ob_yes fun f w' hb hp => ?_
      simp [PreOf, factOf, valOf, Ph.is, Ph.by_, Ph.any, Region.binds] at hp
      refine ⟨by simp [Gd, valOf, hp], ?_⟩
      refine mild_val (.slice A l.length c) ?_ rfl
      simp [execOp, evalF, hp]
    · -- 2: slot 11 := Op.call   value (Operand.func 68), args := #[t10], argTypes := #[32]  
      refine ob_yes fun f w' hb hp => ?_
      simp [PreOf, factOf, valOf, Ph.is, Ph.by_, Ph.any, Region.binds] at hp
      refine ⟨by simp [Gd, valOf, hp], ?_⟩
      refine mild_call 24 _ _ Tryz.f24 Tryz.func24 (by kernel_rfl) (by kernel_rfl) rfl ?_
      simp [evalF, hp, Ph.is, Ph.by_, Ph.any]
      refine (Htot.out w' (HrB.out.below (hb.mono (by omega))) (by have := hb.size; omega)).mono fun e w2 h => ?_
      obtain ⟨rfl, h2⟩ := h
      first | exact ⟨_, rfl, h2, rfl⟩ | simpa using h2
    · -- 3: slot 12 := Op.binOp BinOp.geq 26 t9 t11 26
      refine ob_yes fun f w' hb hp => ?_
      simp [PreOf, factOf, valOf, Ph.is, Ph.by_, Ph.any, Region.binds] at hp
      refine ⟨by simp [Gd, valOf, hp], ?_⟩
      refine mild_val (.bool (decide (ptotal l ≤ y))) ?_ rfl
      simp [execOp, evalF, hp, go_sem]
  · intro f w2 hb2 hp
    simp only [PostOf, Ph.is, Ph.by_, Ph.any] at hp
    obtain ⟨h0, h1, h2, h3, _⟩ := hp
    simp only [fills, List.foldl_cons, List.foldl_nil, Act.put, List.setIfInBounds_toArray, List.set_cons_zero, List.set_cons_succ, h0, h1, h2, h3]
    clear h0 h1 h2 h3
  -- END REGION
    have hb02 : Below w.heap.size w w2 := Hb0.out.trans (hb2.mono (by omega))
    have hbx2 := Hbx.out.below (by omega) hb2
    have hr2 := HrB.out.below (hb2.mono (by omega))
    have hs2 := hb2.size
    have Hb02 := Lib.hid hb02
    have Hbx2 := Lib.hid hbx2
    have Hr2 := Lib.hid hr2
    clear hb02 hbx2 hr2 hb2 Hb0 Hbx HrB hy0 Htot h
    by_cases hyt : y < ptotal l
    · have hd : decide (ptotal l ≤ y) = false := decide_eq_false (by omega)
      have hiv : ival l y = (ivalN l y, true) := by unfold ival; rw [if_pos hyt]
      obtain ⟨hgm, hW0, hk0, hW1⟩ := ptotal_pos hyt
      have hl0 : 0 < l.length := Nat.lt_of_le_of_lt (Nat.zero_le _) hk0
      have Hiv := Lib.hid hiv
      clear hiv
      gi_wp2_with (refine ⟨trivial, ?_⟩; gi_at_call 49; refine (fronts_in Fence.wide 3 trivial rfl _ _ _ _).mono ?_; rintro e w' ⟨rfl, rfl⟩)
      have h20 := Hb02.out.size
      have bT := BoxAt.new_ 3 w2 [.int .i64 0]
      have bN := BoxAt.new_ 45 (w2.alloc (.cells #[.int .i64 0] 3)) [.slice A l.length c]
      rw [World.size_alloc] at bN
      have bT2 := bT.alloc (.cells #[.slice A l.length c] 45)
      have bY2 := (Hbx2.out.alloc (.cells #[.int .i64 0] 3)).alloc (.cells #[.slice A l.length c] 45)
      have hb23 := bstep (balloc w2 (.cells #[.int .i64 0] 3)) (balloc (w2.alloc (.cells #[.int .i64 0] 3)) (.cells #[.slice A l.length c] 45))
      have hr3 := Hr2.out.below (hb23.mono (by omega))
      have hb03 := Hb02.out.trans (hb23.mono h20)
      have hz3 : ((w2.alloc (.cells #[.int .i64 0] 3)).alloc (.cells #[.slice A l.length c] 45)).heap.size = w2.heap.size + 2 := by simp
      have hbo : ∀ {T : TypeId} {g : Nat} {cs : List Value} {X Y : World} {row : Option Nat}, BoxAt T X g cs → X.grownBy Y row → (∀ r, row = some r → ∃ o : Obj, X.heap[r]? = some o ∧ o.isCells = false) → BoxAt T Y g cs := fun hb hg hr =>
        hb.grown hg fun e => by
          obtain ⟨o, ho, hc⟩ := hr _ e
          rw [show _ = _ from hb] at ho
          injection ho with ho
          subst ho
          cases hc
      have Hiv2 := ivalN_at l y
      have hfa := frontAt_all l
      have hpt : ptotal l = gsum l * l.length := by unfold ptotal; rw [if_pos hgm]
      have HR3 := Lib.hid hr3
      have Hb03 := Lib.hid hb03
      have HbT2 := Lib.hid bT2
      have HbY2 := Lib.hid bY2
      have HIV2 := Lib.hid Hiv2
      have Hfa := Lib.hid hfa
      have Hpt := Lib.hid hpt
      have hcN := bN.cell 0 _ rfl
      clear hfa hpt bT bN bT2 bY2 hb23 hr3 hb03 Hiv2 Hr2 Hbx2 Hb02
      generalize hgt : w2.heap.size = gt at *
      generalize ((w2.alloc (.cells #[.int .i64 0] 3)).alloc (.cells #[.slice A l.length c] 45)) = w3 at *
      refine wpIn_rangeFunc_ownG rfl (by omega) (gf := 79) (lb := #[.pointer (some ⟨gt + 1, 0, none⟩)]) rfl trivial (enters_of Tryz.func79 (by kernel_rfl) rfl)
        (fronts_stops Fence.wide 3 trivial rfl (by omega) (gt + 1) B0 (fun k => k = gt) A c l hl hW1 w3 (by omega) (by omega) (by rintro k rfl; omega) (by rintro k rfl; omega) (by omega) hcN HR3.out) Kp.trans (fun W l o o' h1 h2 h3 h4 => Kp.putObj _ w3.heap.size W l o o' h1 h2 h3 h4) (Below.refl _ _) (fun _ => rfl)
        (fun pre W => ((∀ p ∈ pre, p.2 ≤ y) ∧ BoxAt 3 W gt [.int .i64 (lastI pre : Nat)] ∧ BoxAt 23 W w.heap.size [.int .u64 (y : Int)]) ∧ Below w.heap.size w W)
        (fun cd pre W => (cd = .exit 0 ∧ ∃ ini last, pre = ini ++ [last] ∧ (∀ p ∈ ini, p.2 ≤ y) ∧ y < last.2 ∧ BoxAt 3 W gt [.int .i64 (lastI ini : Nat)]) ∧ Below w.heap.size w W)
        (OwnFrom.and (Own.from (fun s X Y row hs hg hr => ⟨hs.1, hbo hs.2.1 hg hr, hbo hs.2.2 hg hr⟩) _) (ownFrom_below (Nat.le_refl _) (by omega)))
        (fun cd => OwnFrom.and (Own.from (fun s X Y row hs hg hr => by obtain ⟨e0, ini, last, e1, e2, e3, e4⟩ := hs; exact ⟨e0, ini, last, e1, e2, e3, hbo e4 hg hr⟩) _) (ownFrom_below (Nat.le_refl _) (by omega)))
        ⟨⟨by simp, HbT2.out, HbY2.out⟩, Hb03.out⟩
        (fun x => { tmps := #[.slice A l.length c, .int .u64 (y : Int), undef, .pointer (some ⟨w.heap.size, 0, none⟩), .int .i64 0, .bool false, .pointer (some ⟨gt, 0, none⟩), .int .i64 (x.1 : Int), .int .u64 (x.2 : Int), .int .u64 (y : Int), .slice A l.length c, .int .u64 (ptotal l : Nat), .bool false, .slice A l.length c, .func (.func 79) #[] #[.pointer (some ⟨gt + 1, 0, none⟩)], .int .i64 (x.1 : Int), .int .u64 (x.2 : Int), undef, undef, undef, undef, undef], defers := [] }) ?assign ?body ?done ?stop
      case assign =>
        intro l x W K hK
        gi_wp2
        exact hK
      case body =>
        rintro lq pre x W ⟨⟨hp, hcT, hcY⟩, hB⟩ _
        have hy0 := hcY.cell 0 _ rfl
        have ht0 := hcT.cell 0 _ rfl
        have htf := hcT.frozen 0
        gi_wp2
        · have hx : y < x.2 := by first | assumption | omega
          exact ⟨KeepsFrom.refl _ _, ⟨rfl, pre, x, rfl, hp, hx, hcT⟩, hB⟩
        · have hx : ¬ y < x.2 := by first | assumption | omega
          refine ⟨(KeepsOthers.setCell _ _ _).from _, Kp.set _ _ _ rfl, ⟨fun p hp' => ?_, ?_, hcY.other _ _ (by show gt ≠ w.heap.size; omega)⟩, hB.setCell (p := ⟨gt, 0, none⟩) (by show w.heap.size ≤ gt; omega) _⟩
          · rw [List.mem_append, List.mem_singleton] at hp'
            rcases hp' with hp' | rfl
            · exact hp p hp'
            · omega
          · rw [lastI_snoc]; exact hcT.put 0 _
      case done =>
        rintro D ys W hD rfl ⟨⟨hp, hcT, hcY⟩, hB⟩ hK
        obtain ⟨k', hk'⟩ : ∃ k', l.length = k' + 1 := ⟨l.length - 1, by omega⟩
        have hfk : frontAt l k' ≤ y := hp (frontP l k') ((upto_mem _ _ _).2 ⟨k', by omega, rfl⟩)
        have hia := HIV2.out k' (by omega) hfk (by rw [← hk', Hfa.out, ← Hpt.out]; exact hyt)
        have hlast : lastI (upto (frontP l) l.length) = k' := by rw [hk', upto_succ, lastI_snoc]; rfl
        rw [hlast] at hcT
        have ht0 := hcT.cell 0 _ rfl
        have Hhia := Lib.hid hia
        have HB := Lib.hid hB
        clear hp hcT hcY hB hfk hia hlast hk'
        gi_wp2
        refine ⟨by simp, .inl ⟨_, _, rfl, run_takeDeferred hK, ?_⟩⟩
        refine ⟨_, results_tmp2 rfl _ _ _, ?_, HB.out.trans (belowK_b (w := w) (Nat.le_refl _) W D _ _ (by omega) hK rfl rfl)⟩
        rw [Hiv.out, Hhia.out]
        rfl
      case stop =>
        rintro D cd pre W hD ⟨k, hk, rfl⟩ ⟨⟨rfl, ini, last, e1, e2, e3, hcT⟩, hB⟩ hK
        obtain ⟨k', rfl⟩ : ∃ k', k = k' + 1 := by
          cases k with
          | zero => simp [upto] at e1
          | succ k' => exact ⟨k', rfl⟩
        rw [upto_succ] at e1
        obtain ⟨rfl, e5⟩ := List.append_inj' e1 rfl
        obtain rfl : frontP l k' = last := by simpa using e5
        obtain ⟨j, rfl⟩ : ∃ j, k' = j + 1 := by
          cases k' with
          | zero =>
            have : y < frontAt l 0 := e3
            rw [frontAt_zero] at this
            omega
          | succ j => exact ⟨j, rfl⟩
        have hfk : frontAt l j ≤ y := e2 (frontP l j) ((upto_mem _ _ _).2 ⟨j, by omega, rfl⟩)
        have hia := HIV2.out j (by omega) hfk e3
        have hlast : lastI (upto (frontP l) (j + 1)) = j := by rw [upto_succ, lastI_snoc]; rfl
        rw [hlast] at hcT
        have ht0 := hcT.cell 0 _ rfl
        have Hhia := Lib.hid hia
        have HB := Lib.hid hB
        clear e1 e2 e3 e5 hcT hB hfk hia hlast
        gi_wp2
        refine ⟨by simp, .inl ⟨_, _, rfl, run_takeDeferred hK, ?_⟩⟩
        refine ⟨_, results_tmp2 rfl _ _ _, ?_, HB.out.trans (belowK_b (w := w) (Nat.le_refl _) W D _ _ (by omega) hK rfl rfl)⟩
        rw [Hiv.out, Hhia.out]
        rfl
    · have hd : decide (ptotal l ≤ y) = true := decide_eq_true (by omega)
      have hiv : ival l y = (0, false) := by unfold ival; rw [if_neg hyt]
      gi_wp2
      refine ⟨_, results_tmp2 rfl _ _ _, ?_, Hb02.out⟩
      rw [hiv]
      rfl
end Go.Proofs.YtcffeepgfjpcaaaGreat

namespace Go.Proofs.YtcffeepgfjpcaaaGreat
set_option linter.unusedSimpArgs false
set_option linter.unusedVariables false
open Go.RowKit Go.Shelf
attribute [local go_sem] Oper.semAt_some

set_option maxRecDepth 100000 in
set_option maxHeartbeats 3200000 in
theorem front_any (w : World) (B0 : Nat) (v : Value) (l : List GArc) (to : Nat) (hto : to < l.length) (hl : l.length ≤ 1048576) (hs : gsum l ≤ 2147483647) (h : ByA w B0 v l) (hB : B0 ≤ w.heap.size) :
    Calls Tryz.prog 52 #[v, .int .i64 (to : Int)] w fun e w' => e = .returned (.int .u64 (frontAt l to : Nat)) ∧ Below w.heap.size w w' := by
  obtain ⟨A, c, rfl, hc1, hc2⟩ := h.form
  unfold maxLen at hc2
  refine (callsIn_wide (n := 4)).1 ?_
  refine callsIn_of_wp_marks Tryz.func52 rfl trivial ?_ rfl
  simp only [Tryz.ntmps52, List.size_toArray, List.length_cons, List.length_nil, Nat.reduceAdd, Nat.reduceSub, Array.replicate_succ, Array.replicate_zero, List.push_toArray, List.append_toArray, List.nil_append, List.cons_append]
  gi_wp2_with (refine ⟨trivial, ?_⟩; gi_at_call 49; refine (fronts_in Fence.wide 3 trivial rfl _ _ _ _).mono ?_; rintro e w' ⟨rfl, rfl⟩)
  have bT := BoxAt.new_ 3 w [.int .i64 (to : Int)]
  have bY := BoxAt.new_ 23 (w.alloc (.cells #[.int .i64 (to : Int)] 3)) [.int .u64 0]
  rw [World.size_alloc] at bY
  have bT1 := bT.alloc (.cells #[.int .u64 0] 23)
  have hb1 := bstep (balloc w (.cells #[.int .i64 (to : Int)] 3)) (balloc (w.alloc (.cells #[.int .i64 (to : Int)] 3)) (.cells #[.int .u64 0] 23))
  have hz2 : ((w.alloc (.cells #[.int .i64 (to : Int)] 3)).alloc (.cells #[.int .u64 0] 23)).heap.size = w.heap.size + 2 := by simp
  generalize hw2 : (w.alloc (.cells #[.int .i64 (to : Int)] 3)).alloc (.cells #[.int .u64 0] 23) = w2 at *
  have bN := BoxAt.new_ 45 w2 [.slice A l.length c]
  have bT2 := bT1.alloc (.cells #[.slice A l.length c] 45)
  have bY2 := bY.alloc (.cells #[.slice A l.length c] 45)
  have hb03 := hb1.trans ((balloc w2 (.cells #[.slice A l.length c] 45)).mono (by omega))
  have hr3 := h.below (hb03.mono hB)
  have hz3 : (w2.alloc (.cells #[.slice A l.length c] 45)).heap.size = w.heap.size + 3 := by simp [hz2]
  rw [hz2] at bN
  have HR3 := Lib.hid hr3
  have Hb03 := Lib.hid hb03
  have HbT2 := Lib.hid bT2
  have HbY2 := Lib.hid bY2
  have hcN := bN.cell 0 _ rfl
  clear bT bY bT1 hb1 bN bT2 bY2 hb03 hr3 hw2
  generalize w2.alloc (.cells #[.slice A l.length c] 45) = w3 at *
  clear hz2 h
  refine wpIn_rangeFunc_ownG rfl (by omega) (gf := 79) (lb := #[.pointer (some ⟨w.heap.size + 1 + 1, 0, none⟩)]) rfl trivial (enters_of Tryz.func79 (by kernel_rfl) rfl)
    (fronts_stops Fence.wide 3 trivial rfl (by omega) (w.heap.size + 1 + 1) B0 (fun k => k = w.heap.size + 1) A c l hl hs w3 (by omega) (by omega) (by rintro k rfl; omega) (by rintro k rfl; omega) (by omega) hcN HR3.out) Kp.trans (fun W l o o' h1 h2 h3 h4 => Kp.putObj _ w3.heap.size W l o o' h1 h2 h3 h4) (Below.refl _ _) (fun _ => rfl)
    (fun pre W => ((∀ p ∈ pre, p.1 ≠ to) ∧ BoxAt 3 W w.heap.size [.int .i64 (to : Int)] ∧ BoxAt 23 W (w.heap.size + 1) [.int .u64 0]) ∧ Below w.heap.size w W)
    (fun cd pre W => (cd = .ret ∧ ∃ ini last, pre = ini ++ [last] ∧ last.1 = to ∧ BoxAt 23 W (w.heap.size + 1) [.int .u64 (last.2 : Nat)]) ∧ Below w.heap.size w W)
    (OwnFrom.and (Own.from (fun s X Y row hs hg hr => ⟨hs.1, hs.2.1.ownk hg hr, hs.2.2.ownk hg hr⟩) _) (ownFrom_below (Nat.le_refl _) (by omega)))
    (fun cd => OwnFrom.and (Own.from (fun s X Y row hs hg hr => by obtain ⟨e0, ini, last, e1, e2, e3⟩ := hs; exact ⟨e0, ini, last, e1, e2, e3.ownk hg hr⟩) _) (ownFrom_below (Nat.le_refl _) (by omega)))
    ⟨⟨by simp, HbT2.out, HbY2.out⟩, Hb03.out⟩
    (fun x => { tmps := #[.slice A l.length c, .int .i64 (to : Int), undef, .pointer (some ⟨w.heap.size, 0, none⟩), .pointer (some ⟨w.heap.size + 1, 0, none⟩), .int .i64 (x.1 : Int), .int .u64 (x.2 : Int), .slice A l.length c, .func (.func 79) #[] #[.pointer (some ⟨w.heap.size + 1 + 1, 0, none⟩)], .int .i64 (x.1 : Int), .int .u64 (x.2 : Int), undef, undef, undef, undef], defers := [] }) ?assign ?body ?done ?stop
  case assign =>
    intro l x W K hK
    gi_wp2
    exact hK
  case body =>
    rintro lq pre x W ⟨⟨hp, hcT, hcY⟩, hB⟩ _
    have ht0 := hcT.cell 0 _ rfl
    have hy0 := hcY.cell 0 _ rfl
    have hyf := hcY.frozen 0
    by_cases hx : x.1 = to
    · have hxd : (((x.1 : Nat) : Int) == (to : Int)) = true := by simp [hx]
      have hxd2 : (x.1 == to) = true := by simp [hx]
      have Hx := Lib.hid hx
      clear hx
      gi_wp2
      exact ⟨(KeepsOthers.setCell _ _ _).from _, ⟨rfl, pre, x, rfl, Hx.out, hcY.put 0 _⟩, hB.setCell (p := ⟨w.heap.size + 1, 0, none⟩) (by show w.heap.size ≤ w.heap.size + 1; omega) _⟩
    · have hxd : (((x.1 : Nat) : Int) == (to : Int)) = false := beq_eq_false_iff_ne.2 (by omega)
      have hxd2 : (x.1 == to) = false := by simp [hx]
      have Hx := Lib.hid hx
      clear hx
      gi_wp2
      refine ⟨KeepsFrom.refl _ _, Kp.refl _ _, ⟨fun p hp' => ?_, hcT, hcY⟩, hB⟩
      rw [List.mem_append, List.mem_singleton] at hp'
      rcases hp' with hp' | rfl
      · exact hp p hp'
      · exact Hx.out
  case done =>
    rintro D ys W hD rfl ⟨⟨hp, hcT, hcY⟩, hB⟩ hK
    exact absurd rfl (hp (frontP l to) ((upto_mem _ _ _).2 ⟨to, hto, rfl⟩))
  case stop =>
    rintro D cd pre W hD ⟨k, hk, rfl⟩ ⟨⟨rfl, ini, last, e1, e2, hcT⟩, hB⟩ hK
    obtain ⟨k', rfl⟩ : ∃ k', k = k' + 1 := by
      cases k with
      | zero => simp [upto] at e1
      | succ k' => exact ⟨k', rfl⟩
    rw [upto_succ] at e1
    obtain ⟨rfl, e5⟩ := List.append_inj' e1 rfl
    obtain rfl : frontP l k' = last := by simpa using e5
    have e7 : k' = to := e2
    subst e7
    have ht0 := hcT.cell 0 _ rfl
    have HB := Lib.hid hB
    clear hB
    gi_wp2
    refine ⟨by simp, .inl ⟨_, _, rfl, run_takeDeferred hK, ?_⟩⟩
    have hc5 := cell_kept ht0 (grownBy_putObj' _ D (.deferred none)) (fun r e => by cases e; exact ⟨_, hK, rfl⟩)
    refine ⟨.int .u64 (frontAt l k' : Nat), ?_, rfl, HB.out.trans (belowK_b (w := w) (Nat.le_refl _) W D _ _ (by omega) hK rfl rfl)⟩
    simp [results, Tryz.f52, go_sem, hc5]
    rfl
end Go.Proofs.YtcffeepgfjpcaaaGreat
