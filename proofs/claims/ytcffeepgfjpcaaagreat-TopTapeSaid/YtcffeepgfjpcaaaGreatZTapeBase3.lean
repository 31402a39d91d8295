/- Lemmas for the law TapeBase: job.May (printed by wip/gen/topjob.py); job.Walkers, walker.Source, walker.New; mix.Mix, mix.Draw; What a round keeps; whole things loaded, stored and made within a fence.; A range over a function whose iterator tells of each value what holds of the world at its yield (R), may be left early, and may go on for as long as the body lets it (Bd).; mix.Row: an iterator without an end; mix.Below; a walk that is made: walks.at, walks.draw; walks.back (printed by wip/gen/topback.py); pick.fronts: an iterator over neighbours; what a round keeps; pick.Interval; pick.front; pick.pieces: an iterator over the pieces of a neighbour; How many draws below a number come to a neighbour; the pieces of a neighbour (plain).. No condition. -/
import Derived.Test.YtcffeepgfjpcaaaGreatZTapeBase2
import Derived.BigQuiet
import Derived.RangeFuncNested
import Derived.RangeFuncBound
import Derived.RangeFuncCalls
import Derived.RangeFuncLeaves
import Derived.RangeFuncBox
import Derived.Shelf.Abstract
import Derived.Shelf.RegionOpen
import Derived.WalkKit
import Derived.OwnWalkIn
import Derived.TacticsInMore
import Derived.LoopNIn
import Derived.LoopIn
import Derived.Deep.WholeRow
import Derived.Deep.MidRow
import Derived.RangeFuncWrites
import Derived.BigRegionIn
import Derived.Deep.RegionLaw
namespace Go.Proofs.YtcffeepgfjpcaaaGreat
set_option linter.unusedSimpArgs false
set_option linter.unusedVariables false
open Go.RowKit Go.Maps

theorem specC_at (gj : Nat) : ∀ (l : List (Nat × Nat × Nat)) (k : Nat) (hk : k < l.length), (specC gj l)[3 * k]? = some (.pointer (some ⟨gj, (l[k]).1, none⟩)) ∧ (specC gj l)[3 * k + 1]? = some (.int .u64 ((l[k]).2.1 : Int)) ∧ (specC gj l)[3 * k + 2]? = some (.int .u64 ((l[k]).2.2 : Int))
  | [], k, hk => absurd hk (by simp)
  | x :: l, 0, hk => by simp [specC]
  | x :: l, k + 1, hk => by
    have := specC_at gj l k (by simpa using hk)
    have e : ∀ n, (specC gj (x :: l))[n + 3]? = (specC gj l)[n]? := fun n => by simp [specC]
    rw [show 3 * (k + 1) = 3 * k + 3 from by omega, show 3 * k + 3 + 1 = (3 * k + 1) + 3 from by omega, show 3 * k + 3 + 2 = (3 * k + 2) + 3 from by omega, e, e, e]
    simpa using this
theorem spI_ok : ∀ i, i < 10 → ∀ e ∈ (spI i).l, e.1 < 15 ∧ 2 ≤ e.1 ∧ e.1 ≠ 4 ∧ e.2.1 < 4294967296 ∧ e.2.2 < 4294967296 := by decide
theorem spI_two : ∀ i, i < 10 → (spI i).l.length ≤ 2 := by decide
theorem jobC_at (j : GJob) (v : Value) : ∀ o, o < 15 → 2 ≤ o → o ≠ 4 → (jobC j v)[o]? = some (.int .u32 (jobN j o : Int)) := by
  intro o h1 h2 h3
  match o, h1, h2, h3 with
  | 2, _, _, _ | 3, _, _, _ | 5, _, _, _ | 6, _, _, _ | 7, _, _, _ | 8, _, _, _ | 9, _, _, _ | 10, _, _, _ | 11, _, _, _ | 12, _, _, _ | 13, _, _, _ | 14, _, _, _ => rfl
  | 0, _, h, _ | 1, _, h, _ => exact absurd h (by decide)
  | 4, _, _, h => exact absurd rfl h
theorem jobN_lt (j : GJob) (o : Nat) : jobN j o < 4294967296 := by
  unfold jobN
  rcases Nat.lt_or_ge o 15 with h | h
  · match o, h with
    | 0, _ | 1, _ | 4, _ => show (0 : Nat) < _; decide
    | 2, _ | 3, _ | 5, _ | 6, _ | 7, _ | 8, _ | 9, _ | 10, _ | 11, _ | 12, _ | 13, _ | 14, _ => exact u32_lt _
  · simp [List.getD, List.getElem?_eq_none, h]
theorem sameKey_str {a b : List UInt8} (h : Lit.sameKey (.string a) (.string b) = true) : a = b := by simpa [Lit.sameKey] using h
set_option maxRecDepth 100000 in
set_option maxHeartbeats 3200000 in
theorem may_jobAny (w : World) (v : Value) (j : GJob) (h : JobAt w w.heap.size v j) (hnd : j.srcs.Nodup) (hs : SortOk j.srcs) :
    Calls Tryz.prog 115 #[v] w fun e w' => e = .returned (.bool (mayJ j)) ∧ Below w.heap.size w w' := by
  obtain ⟨vs, rfl, hby⟩ := h
  obtain ⟨A, c, rfl, hc1, hc2⟩ := hby.form
  unfold maxLen at hc2
  obtain ⟨n, hn⟩ : ∃ n, n = j.srcs.length := ⟨_, rfl⟩
  obtain ⟨w1, hw1⟩ : ∃ w1, w1 = w.alloc (.cells (jobC j (.slice A j.srcs.length c)).toArray 29) := ⟨_, rfl⟩
  have hb1 : Below w.heap.size w w1 := by rw [hw1]; exact balloc _ _
  have hx1 : BoxAt 29 w1 w.heap.size (jobC j (.slice A j.srcs.length c)) := by rw [hw1]; exact BoxAt.new_ _ _ _
  have hz1 : w1.heap.size = w.heap.size + 1 := by rw [hw1]; simp
  have Hby1 := Lib.hid (hby.below hb1)
  have Hb1 := Lib.hid hb1
  have Hs := Lib.hid hs
  have Hnd := Lib.hid hnd
  obtain ⟨m, hm⟩ : ∃ m, m = mayJ j := ⟨_, rfl⟩
  rw [← hm]
  unfold mayJ at hm
  have hk8 := u8_lt j.kind
  have hst := u32_lt j.stop
  have hso := u32_lt j.of_
  go_enter Tryz.func115, Tryz.ntmps115
  go_upto_region 1 with fail
  rw [← hw1]
  clear hb1 hby hs hnd hw1
  rw [← hn] at hm Hby1 hx1 hc1
  obtain ⟨kd, hkd⟩ : ∃ kd, kd = j.kind.toNat := ⟨_, rfl⟩
  obtain ⟨st, hst'⟩ : ∃ st, st = j.stop.toNat := ⟨_, rfl⟩
  obtain ⟨so, hso'⟩ : ∃ so, so = j.of_.toNat := ⟨_, rfl⟩
  have hx2 : BoxAt 29 w1 w.heap.size [.int .u8 (kd : Int), .int .u64 (j.seed.toNat : Int), .int .u32 (j.len.toNat : Int), .int .u32 (j.walks.toNat : Int), .slice A n c, .int .u32 (st : Int), .int .u32 (so : Int),
      .int .u32 (j.p.toNat : Int), .int .u32 (j.q.toNat : Int), .int .u32 (j.tries.toNat : Int), .int .u32 (j.best.toNat : Int), .int .u32 (j.shard.toNat : Int), .int .u32 (j.room.toNat : Int), .int .u32 (j.pool.toNat : Int), .int .u32 (j.sort.toNat : Int)] := by
    rw [hkd, hst', hso']
    exact hx1
  have X1 := Lib.hid hx2
  have HJC : Hid (jobC j (.slice A n c) = [.int .u8 (kd : Int), .int .u64 (j.seed.toNat : Int), .int .u32 (j.len.toNat : Int), .int .u32 (j.walks.toNat : Int), .slice A n c, .int .u32 (st : Int), .int .u32 (so : Int),
      .int .u32 (j.p.toNat : Int), .int .u32 (j.q.toNat : Int), .int .u32 (j.tries.toNat : Int), .int .u32 (j.best.toNat : Int), .int .u32 (j.shard.toNat : Int), .int .u32 (j.room.toNat : Int), .int .u32 (j.pool.toNat : Int), .int .u32 (j.sort.toNat : Int)]) := Lib.hid (by
    rw [hkd, hst', hso']
    rfl)
  clear hx1 hx2
  rw [← hkd] at hm hk8
  rw [← hst'] at hm hst
  rw [← hso'] at hm hso
  have Hwr : Hid (IntKind.i64.wrap (kd : Int) = kd) := Lib.hid (by rw [wrap_i64]; omega)
  have HM := Lib.hid hm
  have Hn := Lib.hid hn
  clear hm hn hkd hst' hso'
  by_cases hc0 : 3 ≤ kd
  ·
    refine wp_region_typed [some 8, some 9, some 10, some 11, some 12, some 13, some 14, some 15, some 16, some 17, some 18, some 19, some 20, some 21, some 22, some 23, some 24, some 25, some 26, some 27, some 28, some 29, some 30, some 31, some 32] [8, 9, 10, 11, 12, 13, 14, 15, 16, 17, 18, 19, 20, 21, 22, 23, 24, 25, 26, 27, 28, 29, 30, 31, 32]
      [Ph.is (.pointer (some ⟨w.heap.size, 0, none⟩)),
        Ph.is (.int .u8 (kd : Int)),
        Ph.is (.int .i64 (kd : Int)),
        Ph.any,
        Ph.is (.int .i64 3),
        Ph.is (.bool true),
        Ph.is (.bool true),
        Ph.is undef,
        Ph.is undef,
        Ph.is undef,
        Ph.is undef,
        Ph.is undef,
        Ph.is (.bool true),
        Ph.is (.bool true),
        Ph.is undef,
        Ph.is undef,
        Ph.is undef,
        Ph.is undef,
        Ph.is (.bool true),
        Ph.is (.bool true),
        Ph.is undef,
        Ph.is undef,
        Ph.is undef,
        Ph.is undef,
        Ph.is (.bool true)] rfl rfl (by kernel_rfl) (by kernel_rfl) ?_ ?_
    · refine ⟨?_, ?_, ?_, ?_, ?_, ?_, ?_, ?_, ?_, ?_, ?_, ?_, ?_, ?_, ?_, ?_, ?_, ?_, ?_, ?_, ?_, ?_, ?_, ?_, ?_, trivial⟩
      · -- 0: slot 8 := Op.fieldAddr 29 t1 0
        refine ob_yes fun f w' hb hp => ?_
        simp [PreOf, factOf, valOf, Ph.is, Ph.by_, Ph.any, Region.binds] at hp
        refine ⟨by simp [Gd, valOf, hp], ?_⟩
        refine mild_val (.pointer (some ⟨w.heap.size, 0, none⟩)) ?_ rfl
        simp [execOp, evalF, hp, go_sem]
      · -- 1: slot 9 := Op.load 5 t8
        refine ob_yes fun f w' hb hp => ?_
        simp [PreOf, factOf, valOf, Ph.is, Ph.by_, Ph.any, Region.binds] at hp
        refine ⟨by simp [Gd, valOf, hp], ?_⟩
        refine mild_val (.int .u8 (kd : Int)) ?_ rfl
        have hc := (X1.out.below X1.out.lt hb).cell 0 _ rfl
        simp [execOp, evalF, hp, hc, go_sem]
      · -- 2: slot 10 := Op.convert 5 3 t9
        refine ob_yes fun f w' hb hp => ?_
        simp [PreOf, factOf, valOf, Ph.is, Ph.by_, Ph.any, Region.binds] at hp
        refine ⟨by simp [Gd, valOf, hp], ?_⟩
        refine mild_val (.int .i64 (kd : Int)) ?_ rfl
        simp [execOp, evalF, hp, go_sem, Hwr.out]
      · -- 3: slot 11 := Op.call   value (Operand.func 124), args := #[], argTypes := #[]  
        refine ob_yes fun f w' hb hp => ?_
        simp [PreOf, factOf, valOf, Ph.is, Ph.by_, Ph.any, Region.binds] at hp
        refine ⟨by simp [Gd, valOf, hp], ?_⟩
        refine mild_call 124 _ _ Tryz.f124 Tryz.func124 (by kernel_rfl) (by kernel_rfl) rfl ?_
        simp [evalF, hp, Ph.is, Ph.by_, Ph.any]
        refine (kinds_any w').mono fun ev w2 h => ?_
        obtain ⟨v, rfl, h2⟩ := h
        exact ⟨⟨v, rfl⟩, h2⟩
      · -- 4: slot 12 := Op.move (const (3:i64))
        refine ob_yes fun f w' hb hp => ?_
        simp [PreOf, factOf, valOf, Ph.is, Ph.by_, Ph.any, Region.binds] at hp
        refine ⟨by simp [Gd, valOf, hp], ?_⟩
        refine mild_val (.int .i64 3) ?_ rfl
        simp [execOp, evalF, hp, go_sem]
      · -- 5: slot 13 := Op.binOp BinOp.geq 3 t10 t12 3
        refine ob_yes fun f w' hb hp => ?_
        simp [PreOf, factOf, valOf, Ph.is, Ph.by_, Ph.any, Region.binds] at hp
        refine ⟨by simp [Gd, valOf, hp], ?_⟩
        refine mild_val (.bool true) ?_ rfl
        simp [execOp, evalF, hp, go_sem]
        try omega
      · -- 6: slot 14 := Op.move t13
        refine ob_yes fun f w' hb hp => ?_
        simp [PreOf, factOf, valOf, Ph.is, Ph.by_, Ph.any, Region.binds] at hp
        refine ⟨by simp [Gd, valOf, hp], ?_⟩
        refine mild_val (.bool true) ?_ rfl
        simp [execOp, evalF, hp]
      · -- 7: slot 15 := Op.fieldAddr 29 t1 5
        refine ob_no fun f w' hb hp => ?_
        simp [PreOf, factOf, valOf, Ph.is, Ph.by_, Ph.any, Region.binds] at hp
        exact ⟨by simp [Gd, valOf, hp], rfl⟩
      · -- 8: slot 16 := Op.load 24 t15
        refine ob_no fun f w' hb hp => ?_
        simp [PreOf, factOf, valOf, Ph.is, Ph.by_, Ph.any, Region.binds] at hp
        exact ⟨by simp [Gd, valOf, hp], rfl⟩
      · -- 9: slot 17 := Op.fieldAddr 29 t1 6
        refine ob_no fun f w' hb hp => ?_
        simp [PreOf, factOf, valOf, Ph.is, Ph.by_, Ph.any, Region.binds] at hp
        exact ⟨by simp [Gd, valOf, hp], rfl⟩
      · -- 10: slot 18 := Op.load 24 t17
        refine ob_no fun f w' hb hp => ?_
        simp [PreOf, factOf, valOf, Ph.is, Ph.by_, Ph.any, Region.binds] at hp
        exact ⟨by simp [Gd, valOf, hp], rfl⟩
      · -- 11: slot 19 := Op.binOp BinOp.gtr 24 t16 t18 24
        refine ob_no fun f w' hb hp => ?_
        simp [PreOf, factOf, valOf, Ph.is, Ph.by_, Ph.any, Region.binds] at hp
        exact ⟨by simp [Gd, valOf, hp], rfl⟩
      · -- 12: slot 20 := Op.pick t14 (const (Value.bool true)) t19
        refine ob_yes fun f w' hb hp => ?_
        simp [PreOf, factOf, valOf, Ph.is, Ph.by_, Ph.any, Region.binds] at hp
        refine ⟨by simp [Gd, valOf, hp], ?_⟩
        refine mild_val (.bool true) ?_ rfl
        simp [execOp, evalF, hp, go_sem]
      · -- 13: slot 21 := Op.move t20
        refine ob_yes fun f w' hb hp => ?_
        simp [PreOf, factOf, valOf, Ph.is, Ph.by_, Ph.any, Region.binds] at hp
        refine ⟨by simp [Gd, valOf, hp], ?_⟩
        refine mild_val (.bool true) ?_ rfl
        simp [execOp, evalF, hp]
      · -- 14: slot 22 := Op.fieldAddr 29 t1 4
        refine ob_no fun f w' hb hp => ?_
        simp [PreOf, factOf, valOf, Ph.is, Ph.by_, Ph.any, Region.binds] at hp
        exact ⟨by simp [Gd, valOf, hp], rfl⟩
      · -- 15: slot 23 := Op.load 25 t22
        refine ob_no fun f w' hb hp => ?_
        simp [PreOf, factOf, valOf, Ph.is, Ph.by_, Ph.any, Region.binds] at hp
        exact ⟨by simp [Gd, valOf, hp], rfl⟩
      · -- 16: slot 24 := Op.call   builtin len, args := #[t23], argTypes := #[25]  
        refine ob_no fun f w' hb hp => ?_
        simp [PreOf, factOf, valOf, Ph.is, Ph.by_, Ph.any, Region.binds] at hp
        exact ⟨by simp [Gd, valOf, hp], rfl⟩
      · -- 17: slot 25 := Op.binOp BinOp.eql 3 t24 (const (0:i64)) 3
        refine ob_no fun f w' hb hp => ?_
        simp [PreOf, factOf, valOf, Ph.is, Ph.by_, Ph.any, Region.binds] at hp
        exact ⟨by simp [Gd, valOf, hp], rfl⟩
      · -- 18: slot 26 := Op.pick t21 (const (Value.bool true)) t25
        refine ob_yes fun f w' hb hp => ?_
        simp [PreOf, factOf, valOf, Ph.is, Ph.by_, Ph.any, Region.binds] at hp
        refine ⟨by simp [Gd, valOf, hp], ?_⟩
        refine mild_val (.bool true) ?_ rfl
        simp [execOp, evalF, hp, go_sem]
      · -- 19: slot 27 := Op.move t26
        refine ob_yes fun f w' hb hp => ?_
        simp [PreOf, factOf, valOf, Ph.is, Ph.by_, Ph.any, Region.binds] at hp
        refine ⟨by simp [Gd, valOf, hp], ?_⟩
        refine mild_val (.bool true) ?_ rfl
        simp [execOp, evalF, hp]
      · -- 20: slot 28 := Op.fieldAddr 29 t1 4
        refine ob_no fun f w' hb hp => ?_
        simp [PreOf, factOf, valOf, Ph.is, Ph.by_, Ph.any, Region.binds] at hp
        exact ⟨by simp [Gd, valOf, hp], rfl⟩
      · -- 21: slot 29 := Op.load 25 t28
        refine ob_no fun f w' hb hp => ?_
        simp [PreOf, factOf, valOf, Ph.is, Ph.by_, Ph.any, Region.binds] at hp
        exact ⟨by simp [Gd, valOf, hp], rfl⟩
      · -- 22: slot 30 := Op.call   builtin len, args := #[t29], argTypes := #[25]  
        refine ob_no fun f w' hb hp => ?_
        simp [PreOf, factOf, valOf, Ph.is, Ph.by_, Ph.any, Region.binds] at hp
        exact ⟨by simp [Gd, valOf, hp], rfl⟩
      · -- 23: slot 31 := Op.binOp BinOp.gtr 3 t30 (const (256:i64)) 3
        refine ob_no fun f w' hb hp => ?_
        simp [PreOf, factOf, valOf, Ph.is, Ph.by_, Ph.any, Region.binds] at hp
        exact ⟨by simp [Gd, valOf, hp], rfl⟩
      · -- 24: slot 32 := Op.pick t27 (const (Value.bool true)) t31
        refine ob_yes fun f w' hb hp => ?_
        simp [PreOf, factOf, valOf, Ph.is, Ph.by_, Ph.any, Region.binds] at hp
        refine ⟨by simp [Gd, valOf, hp], ?_⟩
        refine mild_val (.bool true) ?_ rfl
        simp [execOp, evalF, hp, go_sem]
    · intro f w2 hb2 hp
      simp only [PostOf, Ph.is, Ph.by_, Ph.any] at hp
      obtain ⟨h0, h1, h2, h3, h4, h5, h6, h7, h8, h9, h10, h11, h12, h13, h14, h15, h16, h17, h18, h19, h20, h21, h22, h23, h24, _⟩ := hp
      simp only [fills, List.foldl_cons, List.foldl_nil, Act.put, List.setIfInBounds_toArray, List.set_cons_zero, List.set_cons_succ, h0, h1, h2, h4, h5, h6, h7, h8, h9, h10, h11, h12, h13, h14, h15, h16, h17, h18, h19, h20, h21, h22, h23, h24]
      clear h0 h1 h2 h4 h5 h6 h7 h8 h9 h10 h11 h12 h13 h14 h15 h16 h17 h18 h19 h20 h21 h22 h23 h24
      generalize f 11 = v11 at *
      go_wp2_with fail
      go_ret
      refine ⟨?_, bstep Hb1.out hb2⟩
      rw [HM.out]
      simp
      try omega
  by_cases hc1 : so < st
  ·
    refine wp_region_typed [some 8, some 9, some 10, some 11, some 12, some 13, some 14, some 15, some 16, some 17, some 18, some 19, some 20, some 21, some 22, some 23, some 24, some 25, some 26, some 27, some 28, some 29, some 30, some 31, some 32] [8, 9, 10, 11, 12, 13, 14, 15, 16, 17, 18, 19, 20, 21, 22, 23, 24, 25, 26, 27, 28, 29, 30, 31, 32]
      [Ph.is (.pointer (some ⟨w.heap.size, 0, none⟩)),
        Ph.is (.int .u8 (kd : Int)),
        Ph.is (.int .i64 (kd : Int)),
        Ph.any,
        Ph.is (.int .i64 3),
        Ph.is (.bool false),
        Ph.is (.bool false),
        Ph.is (.pointer (some ⟨w.heap.size, 5, none⟩)),
        Ph.is (.int .u32 (st : Int)),
        Ph.is (.pointer (some ⟨w.heap.size, 6, none⟩)),
        Ph.is (.int .u32 (so : Int)),
        Ph.is (.bool true),
        Ph.is (.bool true),
        Ph.is (.bool true),
        Ph.is undef,
        Ph.is undef,
        Ph.is undef,
        Ph.is undef,
        Ph.is (.bool true),
        Ph.is (.bool true),
        Ph.is undef,
        Ph.is undef,
        Ph.is undef,
        Ph.is undef,
        Ph.is (.bool true)] rfl rfl (by kernel_rfl) (by kernel_rfl) ?_ ?_
    · refine ⟨?_, ?_, ?_, ?_, ?_, ?_, ?_, ?_, ?_, ?_, ?_, ?_, ?_, ?_, ?_, ?_, ?_, ?_, ?_, ?_, ?_, ?_, ?_, ?_, ?_, trivial⟩
      · -- 0: slot 8 := Op.fieldAddr 29 t1 0
        refine ob_yes fun f w' hb hp => ?_
        simp [PreOf, factOf, valOf, Ph.is, Ph.by_, Ph.any, Region.binds] at hp
        refine ⟨by simp [Gd, valOf, hp], ?_⟩
        refine mild_val (.pointer (some ⟨w.heap.size, 0, none⟩)) ?_ rfl
        simp [execOp, evalF, hp, go_sem]
      · -- 1: slot 9 := Op.load 5 t8
        refine ob_yes fun f w' hb hp => ?_
        simp [PreOf, factOf, valOf, Ph.is, Ph.by_, Ph.any, Region.binds] at hp
        refine ⟨by simp [Gd, valOf, hp], ?_⟩
        refine mild_val (.int .u8 (kd : Int)) ?_ rfl
        have hc := (X1.out.below X1.out.lt hb).cell 0 _ rfl
        simp [execOp, evalF, hp, hc, go_sem]
      · -- 2: slot 10 := Op.convert 5 3 t9
        refine ob_yes fun f w' hb hp => ?_
        simp [PreOf, factOf, valOf, Ph.is, Ph.by_, Ph.any, Region.binds] at hp
        refine ⟨by simp [Gd, valOf, hp], ?_⟩
        refine mild_val (.int .i64 (kd : Int)) ?_ rfl
        simp [execOp, evalF, hp, go_sem, Hwr.out]
      · -- 3: slot 11 := Op.call   value (Operand.func 124), args := #[], argTypes := #[]  
        refine ob_yes fun f w' hb hp => ?_
        simp [PreOf, factOf, valOf, Ph.is, Ph.by_, Ph.any, Region.binds] at hp
        refine ⟨by simp [Gd, valOf, hp], ?_⟩
        refine mild_call 124 _ _ Tryz.f124 Tryz.func124 (by kernel_rfl) (by kernel_rfl) rfl ?_
        simp [evalF, hp, Ph.is, Ph.by_, Ph.any]
        refine (kinds_any w').mono fun ev w2 h => ?_
        obtain ⟨v, rfl, h2⟩ := h
        exact ⟨⟨v, rfl⟩, h2⟩
      · -- 4: slot 12 := Op.move (const (3:i64))
        refine ob_yes fun f w' hb hp => ?_
        simp [PreOf, factOf, valOf, Ph.is, Ph.by_, Ph.any, Region.binds] at hp
        refine ⟨by simp [Gd, valOf, hp], ?_⟩
        refine mild_val (.int .i64 3) ?_ rfl
        simp [execOp, evalF, hp, go_sem]
      · -- 5: slot 13 := Op.binOp BinOp.geq 3 t10 t12 3
        refine ob_yes fun f w' hb hp => ?_
        simp [PreOf, factOf, valOf, Ph.is, Ph.by_, Ph.any, Region.binds] at hp
        refine ⟨by simp [Gd, valOf, hp], ?_⟩
        refine mild_val (.bool false) ?_ rfl
        simp [execOp, evalF, hp, go_sem]
        try omega
      · -- 6: slot 14 := Op.move t13
        refine ob_yes fun f w' hb hp => ?_
        simp [PreOf, factOf, valOf, Ph.is, Ph.by_, Ph.any, Region.binds] at hp
        refine ⟨by simp [Gd, valOf, hp], ?_⟩
        refine mild_val (.bool false) ?_ rfl
        simp [execOp, evalF, hp]
      · -- 7: slot 15 := Op.fieldAddr 29 t1 5
        refine ob_yes fun f w' hb hp => ?_
        simp [PreOf, factOf, valOf, Ph.is, Ph.by_, Ph.any, Region.binds] at hp
        refine ⟨by simp [Gd, valOf, hp], ?_⟩
        refine mild_val (.pointer (some ⟨w.heap.size, 5, none⟩)) ?_ rfl
        simp [execOp, evalF, hp, go_sem]
      · -- 8: slot 16 := Op.load 24 t15
        refine ob_yes fun f w' hb hp => ?_
        simp [PreOf, factOf, valOf, Ph.is, Ph.by_, Ph.any, Region.binds] at hp
        refine ⟨by simp [Gd, valOf, hp], ?_⟩
        refine mild_val (.int .u32 (st : Int)) ?_ rfl
        have hc := (X1.out.below X1.out.lt hb).cell 5 _ rfl
        simp [execOp, evalF, hp, hc, go_sem]
      · -- 9: slot 17 := Op.fieldAddr 29 t1 6
        refine ob_yes fun f w' hb hp => ?_
        simp [PreOf, factOf, valOf, Ph.is, Ph.by_, Ph.any, Region.binds] at hp
        refine ⟨by simp [Gd, valOf, hp], ?_⟩
        refine mild_val (.pointer (some ⟨w.heap.size, 6, none⟩)) ?_ rfl
        simp [execOp, evalF, hp, go_sem]
      · -- 10: slot 18 := Op.load 24 t17
        refine ob_yes fun f w' hb hp => ?_
        simp [PreOf, factOf, valOf, Ph.is, Ph.by_, Ph.any, Region.binds] at hp
        refine ⟨by simp [Gd, valOf, hp], ?_⟩
        refine mild_val (.int .u32 (so : Int)) ?_ rfl
        have hc := (X1.out.below X1.out.lt hb).cell 6 _ rfl
        simp [execOp, evalF, hp, hc, go_sem]
      · -- 11: slot 19 := Op.binOp BinOp.gtr 24 t16 t18 24
        refine ob_yes fun f w' hb hp => ?_
        simp [PreOf, factOf, valOf, Ph.is, Ph.by_, Ph.any, Region.binds] at hp
        refine ⟨by simp [Gd, valOf, hp], ?_⟩
        refine mild_val (.bool true) ?_ rfl
        simp [execOp, evalF, hp, go_sem]
        try omega
      · -- 12: slot 20 := Op.pick t14 (const (Value.bool true)) t19
        refine ob_yes fun f w' hb hp => ?_
        simp [PreOf, factOf, valOf, Ph.is, Ph.by_, Ph.any, Region.binds] at hp
        refine ⟨by simp [Gd, valOf, hp], ?_⟩
        refine mild_val (.bool true) ?_ rfl
        simp [execOp, evalF, hp, go_sem]
      · -- 13: slot 21 := Op.move t20
        refine ob_yes fun f w' hb hp => ?_
        simp [PreOf, factOf, valOf, Ph.is, Ph.by_, Ph.any, Region.binds] at hp
        refine ⟨by simp [Gd, valOf, hp], ?_⟩
        refine mild_val (.bool true) ?_ rfl
        simp [execOp, evalF, hp]
      · -- 14: slot 22 := Op.fieldAddr 29 t1 4
        refine ob_no fun f w' hb hp => ?_
        simp [PreOf, factOf, valOf, Ph.is, Ph.by_, Ph.any, Region.binds] at hp
        exact ⟨by simp [Gd, valOf, hp], rfl⟩
      · -- 15: slot 23 := Op.load 25 t22
        refine ob_no fun f w' hb hp => ?_
        simp [PreOf, factOf, valOf, Ph.is, Ph.by_, Ph.any, Region.binds] at hp
        exact ⟨by simp [Gd, valOf, hp], rfl⟩
      · -- 16: slot 24 := Op.call   builtin len, args := #[t23], argTypes := #[25]  
        refine ob_no fun f w' hb hp => ?_
        simp [PreOf, factOf, valOf, Ph.is, Ph.by_, Ph.any, Region.binds] at hp
        exact ⟨by simp [Gd, valOf, hp], rfl⟩
      · -- 17: slot 25 := Op.binOp BinOp.eql 3 t24 (const (0:i64)) 3
        refine ob_no fun f w' hb hp => ?_
        simp [PreOf, factOf, valOf, Ph.is, Ph.by_, Ph.any, Region.binds] at hp
        exact ⟨by simp [Gd, valOf, hp], rfl⟩
      · -- 18: slot 26 := Op.pick t21 (const (Value.bool true)) t25
        refine ob_yes fun f w' hb hp => ?_
        simp [PreOf, factOf, valOf, Ph.is, Ph.by_, Ph.any, Region.binds] at hp
        refine ⟨by simp [Gd, valOf, hp], ?_⟩
        refine mild_val (.bool true) ?_ rfl
        simp [execOp, evalF, hp, go_sem]
      · -- 19: slot 27 := Op.move t26
        refine ob_yes fun f w' hb hp => ?_
        simp [PreOf, factOf, valOf, Ph.is, Ph.by_, Ph.any, Region.binds] at hp
        refine ⟨by simp [Gd, valOf, hp], ?_⟩
        refine mild_val (.bool true) ?_ rfl
        simp [execOp, evalF, hp]
      · -- 20: slot 28 := Op.fieldAddr 29 t1 4
        refine ob_no fun f w' hb hp => ?_
        simp [PreOf, factOf, valOf, Ph.is, Ph.by_, Ph.any, Region.binds] at hp
        exact ⟨by simp [Gd, valOf, hp], rfl⟩
      · -- 21: slot 29 := Op.load 25 t28
        refine ob_no fun f w' hb hp => ?_
        simp [PreOf, factOf, valOf, Ph.is, Ph.by_, Ph.any, Region.binds] at hp
        exact ⟨by simp [Gd, valOf, hp], rfl⟩
      · -- 22: slot 30 := Op.call   builtin len, args := #[t29], argTypes := #[25]  
        refine ob_no fun f w' hb hp => ?_
        simp [PreOf, factOf, valOf, Ph.is, Ph.by_, Ph.any, Region.binds] at hp
        exact ⟨by simp [Gd, valOf, hp], rfl⟩
      · -- 23: slot 31 := Op.binOp BinOp.gtr 3 t30 (const (256:i64)) 3
        refine ob_no fun f w' hb hp => ?_
        simp [PreOf, factOf, valOf, Ph.is, Ph.by_, Ph.any, Region.binds] at hp
        exact ⟨by simp [Gd, valOf, hp], rfl⟩
      · -- 24: slot 32 := Op.pick t27 (const (Value.bool true)) t31
        refine ob_yes fun f w' hb hp => ?_
        simp [PreOf, factOf, valOf, Ph.is, Ph.by_, Ph.any, Region.binds] at hp
        refine ⟨by simp [Gd, valOf, hp], ?_⟩
        refine mild_val (.bool true) ?_ rfl
        simp [execOp, evalF, hp, go_sem]
    · intro f w2 hb2 hp
      simp only [PostOf, Ph.is, Ph.by_, Ph.any] at hp
      obtain ⟨h0, h1, h2, h3, h4, h5, h6, h7, h8, h9, h10, h11, h12, h13, h14, h15, h16, h17, h18, h19, h20, h21, h22, h23, h24, _⟩ := hp
      simp only [fills, List.foldl_cons, List.foldl_nil, Act.put, List.setIfInBounds_toArray, List.set_cons_zero, List.set_cons_succ, h0, h1, h2, h4, h5, h6, h7, h8, h9, h10, h11, h12, h13, h14, h15, h16, h17, h18, h19, h20, h21, h22, h23, h24]
      clear h0 h1 h2 h4 h5 h6 h7 h8 h9 h10 h11 h12 h13 h14 h15 h16 h17 h18 h19 h20 h21 h22 h23 h24
      generalize f 11 = v11 at *
      go_wp2_with fail
      go_ret
      refine ⟨?_, bstep Hb1.out hb2⟩
      rw [HM.out]
      simp
      try omega
  by_cases hc2 : n = 0
  ·
    refine wp_region_typed [some 8, some 9, some 10, some 11, some 12, some 13, some 14, some 15, some 16, some 17, some 18, some 19, some 20, some 21, some 22, some 23, some 24, some 25, some 26, some 27, some 28, some 29, some 30, some 31, some 32] [8, 9, 10, 11, 12, 13, 14, 15, 16, 17, 18, 19, 20, 21, 22, 23, 24, 25, 26, 27, 28, 29, 30, 31, 32]
      [Ph.is (.pointer (some ⟨w.heap.size, 0, none⟩)),
        Ph.is (.int .u8 (kd : Int)),
        Ph.is (.int .i64 (kd : Int)),
        Ph.any,
        Ph.is (.int .i64 3),
        Ph.is (.bool false),
        Ph.is (.bool false),
        Ph.is (.pointer (some ⟨w.heap.size, 5, none⟩)),
        Ph.is (.int .u32 (st : Int)),
        Ph.is (.pointer (some ⟨w.heap.size, 6, none⟩)),
        Ph.is (.int .u32 (so : Int)),
        Ph.is (.bool false),
        Ph.is (.bool false),
        Ph.is (.bool false),
        Ph.is (.pointer (some ⟨w.heap.size, 4, none⟩)),
        Ph.is (.slice A n c),
        Ph.is (.int .i64 (n : Int)),
        Ph.is (.bool true),
        Ph.is (.bool true),
        Ph.is (.bool true),
        Ph.is undef,
        Ph.is undef,
        Ph.is undef,
        Ph.is undef,
        Ph.is (.bool true)] rfl rfl (by kernel_rfl) (by kernel_rfl) ?_ ?_
    · refine ⟨?_, ?_, ?_, ?_, ?_, ?_, ?_, ?_, ?_, ?_, ?_, ?_, ?_, ?_, ?_, ?_, ?_, ?_, ?_, ?_, ?_, ?_, ?_, ?_, ?_, trivial⟩
      · -- 0: slot 8 := Op.fieldAddr 29 t1 0
        refine ob_yes fun f w' hb hp => ?_
        simp [PreOf, factOf, valOf, Ph.is, Ph.by_, Ph.any, Region.binds] at hp
        refine ⟨by simp [Gd, valOf, hp], ?_⟩
        refine mild_val (.pointer (some ⟨w.heap.size, 0, none⟩)) ?_ rfl
        simp [execOp, evalF, hp, go_sem]
      · -- 1: slot 9 := Op.load 5 t8
        refine ob_yes fun f w' hb hp => ?_
        simp [PreOf, factOf, valOf, Ph.is, Ph.by_, Ph.any, Region.binds] at hp
        refine ⟨by simp [Gd, valOf, hp], ?_⟩
        refine mild_val (.int .u8 (kd : Int)) ?_ rfl
        have hc := (X1.out.below X1.out.lt hb).cell 0 _ rfl
        simp [execOp, evalF, hp, hc, go_sem]
      · -- 2: slot 10 := Op.convert 5 3 t9
        refine ob_yes fun f w' hb hp => ?_
        simp [PreOf, factOf, valOf, Ph.is, Ph.by_, Ph.any, Region.binds] at hp
        refine ⟨by simp [Gd, valOf, hp], ?_⟩
        refine mild_val (.int .i64 (kd : Int)) ?_ rfl
        simp [execOp, evalF, hp, go_sem, Hwr.out]
      · -- 3: slot 11 := Op.call   value (Operand.func 124), args := #[], argTypes := #[]  
        refine ob_yes fun f w' hb hp => ?_
        simp [PreOf, factOf, valOf, Ph.is, Ph.by_, Ph.any, Region.binds] at hp
        refine ⟨by simp [Gd, valOf, hp], ?_⟩
        refine mild_call 124 _ _ Tryz.f124 Tryz.func124 (by kernel_rfl) (by kernel_rfl) rfl ?_
        simp [evalF, hp, Ph.is, Ph.by_, Ph.any]
        refine (kinds_any w').mono fun ev w2 h => ?_
        obtain ⟨v, rfl, h2⟩ := h
        exact ⟨⟨v, rfl⟩, h2⟩
      · -- 4: slot 12 := Op.move (const (3:i64))
        refine ob_yes fun f w' hb hp => ?_
        simp [PreOf, factOf, valOf, Ph.is, Ph.by_, Ph.any, Region.binds] at hp
        refine ⟨by simp [Gd, valOf, hp], ?_⟩
        refine mild_val (.int .i64 3) ?_ rfl
        simp [execOp, evalF, hp, go_sem]
      · -- 5: slot 13 := Op.binOp BinOp.geq 3 t10 t12 3
        refine ob_yes fun f w' hb hp => ?_
        simp [PreOf, factOf, valOf, Ph.is, Ph.by_, Ph.any, Region.binds] at hp
        refine ⟨by simp [Gd, valOf, hp], ?_⟩
        refine mild_val (.bool false) ?_ rfl
        simp [execOp, evalF, hp, go_sem]
        try omega
      · -- 6: slot 14 := Op.move t13
        refine ob_yes fun f w' hb hp => ?_
        simp [PreOf, factOf, valOf, Ph.is, Ph.by_, Ph.any, Region.binds] at hp
        refine ⟨by simp [Gd, valOf, hp], ?_⟩
        refine mild_val (.bool false) ?_ rfl
        simp [execOp, evalF, hp]
      · -- 7: slot 15 := Op.fieldAddr 29 t1 5
        refine ob_yes fun f w' hb hp => ?_
        simp [PreOf, factOf, valOf, Ph.is, Ph.by_, Ph.any, Region.binds] at hp
        refine ⟨by simp [Gd, valOf, hp], ?_⟩
        refine mild_val (.pointer (some ⟨w.heap.size, 5, none⟩)) ?_ rfl
        simp [execOp, evalF, hp, go_sem]
      · -- 8: slot 16 := Op.load 24 t15
        refine ob_yes fun f w' hb hp => ?_
        simp [PreOf, factOf, valOf, Ph.is, Ph.by_, Ph.any, Region.binds] at hp
        refine ⟨by simp [Gd, valOf, hp], ?_⟩
        refine mild_val (.int .u32 (st : Int)) ?_ rfl
        have hc := (X1.out.below X1.out.lt hb).cell 5 _ rfl
        simp [execOp, evalF, hp, hc, go_sem]
      · -- 9: slot 17 := Op.fieldAddr 29 t1 6
        refine ob_yes fun f w' hb hp => ?_
        simp [PreOf, factOf, valOf, Ph.is, Ph.by_, Ph.any, Region.binds] at hp
        refine ⟨by simp [Gd, valOf, hp], ?_⟩
        refine mild_val (.pointer (some ⟨w.heap.size, 6, none⟩)) ?_ rfl
        simp [execOp, evalF, hp, go_sem]
      · -- 10: slot 18 := Op.load 24 t17
        refine ob_yes fun f w' hb hp => ?_
        simp [PreOf, factOf, valOf, Ph.is, Ph.by_, Ph.any, Region.binds] at hp
        refine ⟨by simp [Gd, valOf, hp], ?_⟩
        refine mild_val (.int .u32 (so : Int)) ?_ rfl
        have hc := (X1.out.below X1.out.lt hb).cell 6 _ rfl
        simp [execOp, evalF, hp, hc, go_sem]
      · -- 11: slot 19 := Op.binOp BinOp.gtr 24 t16 t18 24
        refine ob_yes fun f w' hb hp => ?_
        simp [PreOf, factOf, valOf, Ph.is, Ph.by_, Ph.any, Region.binds] at hp
        refine ⟨by simp [Gd, valOf, hp], ?_⟩
        refine mild_val (.bool false) ?_ rfl
        simp [execOp, evalF, hp, go_sem]
        try omega
      · -- 12: slot 20 := Op.pick t14 (const (Value.bool true)) t19
        refine ob_yes fun f w' hb hp => ?_
        simp [PreOf, factOf, valOf, Ph.is, Ph.by_, Ph.any, Region.binds] at hp
        refine ⟨by simp [Gd, valOf, hp], ?_⟩
        refine mild_val (.bool false) ?_ rfl
        simp [execOp, evalF, hp, go_sem]
      · -- 13: slot 21 := Op.move t20
        refine ob_yes fun f w' hb hp => ?_
        simp [PreOf, factOf, valOf, Ph.is, Ph.by_, Ph.any, Region.binds] at hp
        refine ⟨by simp [Gd, valOf, hp], ?_⟩
        refine mild_val (.bool false) ?_ rfl
        simp [execOp, evalF, hp]
      · -- 14: slot 22 := Op.fieldAddr 29 t1 4
        refine ob_yes fun f w' hb hp => ?_
        simp [PreOf, factOf, valOf, Ph.is, Ph.by_, Ph.any, Region.binds] at hp
        refine ⟨by simp [Gd, valOf, hp], ?_⟩
        refine mild_val (.pointer (some ⟨w.heap.size, 4, none⟩)) ?_ rfl
        simp [execOp, evalF, hp, go_sem]
      · -- 15: slot 23 := Op.load 25 t22
        refine ob_yes fun f w' hb hp => ?_
        simp [PreOf, factOf, valOf, Ph.is, Ph.by_, Ph.any, Region.binds] at hp
        refine ⟨by simp [Gd, valOf, hp], ?_⟩
        refine mild_val (.slice A n c) ?_ rfl
        have hc := (X1.out.below X1.out.lt hb).cell 4 _ rfl
        simp [execOp, evalF, hp, hc, go_sem]
      · -- 16: slot 24 := Op.call   builtin len, args := #[t23], argTypes := #[25]  
        refine ob_yes fun f w' hb hp => ?_
        simp [PreOf, factOf, valOf, Ph.is, Ph.by_, Ph.any, Region.binds] at hp
        refine ⟨by simp [Gd, valOf, hp], ?_⟩
        refine mild_val (.int .i64 (n : Int)) ?_ rfl
        simp [execOp, evalF, hp, go_sem]
      · -- 17: slot 25 := Op.binOp BinOp.eql 3 t24 (const (0:i64)) 3
        refine ob_yes fun f w' hb hp => ?_
        simp [PreOf, factOf, valOf, Ph.is, Ph.by_, Ph.any, Region.binds] at hp
        refine ⟨by simp [Gd, valOf, hp], ?_⟩
        refine mild_val (.bool true) ?_ rfl
        simp [execOp, evalF, hp, go_sem]
        try omega
      · -- 18: slot 26 := Op.pick t21 (const (Value.bool true)) t25
        refine ob_yes fun f w' hb hp => ?_
        simp [PreOf, factOf, valOf, Ph.is, Ph.by_, Ph.any, Region.binds] at hp
        refine ⟨by simp [Gd, valOf, hp], ?_⟩
        refine mild_val (.bool true) ?_ rfl
        simp [execOp, evalF, hp, go_sem]
      · -- 19: slot 27 := Op.move t26
        refine ob_yes fun f w' hb hp => ?_
        simp [PreOf, factOf, valOf, Ph.is, Ph.by_, Ph.any, Region.binds] at hp
        refine ⟨by simp [Gd, valOf, hp], ?_⟩
        refine mild_val (.bool true) ?_ rfl
        simp [execOp, evalF, hp]
      · -- 20: slot 28 := Op.fieldAddr 29 t1 4
        refine ob_no fun f w' hb hp => ?_
        simp [PreOf, factOf, valOf, Ph.is, Ph.by_, Ph.any, Region.binds] at hp
        exact ⟨by simp [Gd, valOf, hp], rfl⟩
      · -- 21: slot 29 := Op.load 25 t28
        refine ob_no fun f w' hb hp => ?_
        simp [PreOf, factOf, valOf, Ph.is, Ph.by_, Ph.any, Region.binds] at hp
        exact ⟨by simp [Gd, valOf, hp], rfl⟩
      · -- 22: slot 30 := Op.call   builtin len, args := #[t29], argTypes := #[25]  
        refine ob_no fun f w' hb hp => ?_
        simp [PreOf, factOf, valOf, Ph.is, Ph.by_, Ph.any, Region.binds] at hp
        exact ⟨by simp [Gd, valOf, hp], rfl⟩
      · -- 23: slot 31 := Op.binOp BinOp.gtr 3 t30 (const (256:i64)) 3
        refine ob_no fun f w' hb hp => ?_
        simp [PreOf, factOf, valOf, Ph.is, Ph.by_, Ph.any, Region.binds] at hp
        exact ⟨by simp [Gd, valOf, hp], rfl⟩
      · -- 24: slot 32 := Op.pick t27 (const (Value.bool true)) t31
        refine ob_yes fun f w' hb hp => ?_
        simp [PreOf, factOf, valOf, Ph.is, Ph.by_, Ph.any, Region.binds] at hp
        refine ⟨by simp [Gd, valOf, hp], ?_⟩
        refine mild_val (.bool true) ?_ rfl
        simp [execOp, evalF, hp, go_sem]
    · intro f w2 hb2 hp
      simp only [PostOf, Ph.is, Ph.by_, Ph.any] at hp
      obtain ⟨h0, h1, h2, h3, h4, h5, h6, h7, h8, h9, h10, h11, h12, h13, h14, h15, h16, h17, h18, h19, h20, h21, h22, h23, h24, _⟩ := hp
      simp only [fills, List.foldl_cons, List.foldl_nil, Act.put, List.setIfInBounds_toArray, List.set_cons_zero, List.set_cons_succ, h0, h1, h2, h4, h5, h6, h7, h8, h9, h10, h11, h12, h13, h14, h15, h16, h17, h18, h19, h20, h21, h22, h23, h24]
      clear h0 h1 h2 h4 h5 h6 h7 h8 h9 h10 h11 h12 h13 h14 h15 h16 h17 h18 h19 h20 h21 h22 h23 h24
      generalize f 11 = v11 at *
      go_wp2_with fail
      go_ret
      refine ⟨?_, bstep Hb1.out hb2⟩
      rw [HM.out]
      simp
      try omega
  by_cases hc3 : 256 < n
  ·
    refine wp_region_typed [some 8, some 9, some 10, some 11, some 12, some 13, some 14, some 15, some 16, some 17, some 18, some 19, some 20, some 21, some 22, some 23, some 24, some 25, some 26, some 27, some 28, some 29, some 30, some 31, some 32] [8, 9, 10, 11, 12, 13, 14, 15, 16, 17, 18, 19, 20, 21, 22, 23, 24, 25, 26, 27, 28, 29, 30, 31, 32]
      [Ph.is (.pointer (some ⟨w.heap.size, 0, none⟩)),
        Ph.is (.int .u8 (kd : Int)),
        Ph.is (.int .i64 (kd : Int)),
        Ph.any,
        Ph.is (.int .i64 3),
        Ph.is (.bool false),
        Ph.is (.bool false),
        Ph.is (.pointer (some ⟨w.heap.size, 5, none⟩)),
        Ph.is (.int .u32 (st : Int)),
        Ph.is (.pointer (some ⟨w.heap.size, 6, none⟩)),
        Ph.is (.int .u32 (so : Int)),
        Ph.is (.bool false),
        Ph.is (.bool false),
        Ph.is (.bool false),
        Ph.is (.pointer (some ⟨w.heap.size, 4, none⟩)),
        Ph.is (.slice A n c),
        Ph.is (.int .i64 (n : Int)),
        Ph.is (.bool false),
        Ph.is (.bool false),
        Ph.is (.bool false),
        Ph.is (.pointer (some ⟨w.heap.size, 4, none⟩)),
        Ph.is (.slice A n c),
        Ph.is (.int .i64 (n : Int)),
        Ph.is (.bool true),
        Ph.is (.bool true)] rfl rfl (by kernel_rfl) (by kernel_rfl) ?_ ?_
    · refine ⟨?_, ?_, ?_, ?_, ?_, ?_, ?_, ?_, ?_, ?_, ?_, ?_, ?_, ?_, ?_, ?_, ?_, ?_, ?_, ?_, ?_, ?_, ?_, ?_, ?_, trivial⟩
      · -- 0: slot 8 := Op.fieldAddr 29 t1 0
        refine ob_yes fun f w' hb hp => ?_
        simp [PreOf, factOf, valOf, Ph.is, Ph.by_, Ph.any, Region.binds] at hp
        refine ⟨by simp [Gd, valOf, hp], ?_⟩
        refine mild_val (.pointer (some ⟨w.heap.size, 0, none⟩)) ?_ rfl
        simp [execOp, evalF, hp, go_sem]
      · -- 1: slot 9 := Op.load 5 t8
        refine ob_yes fun f w' hb hp => ?_
        simp [PreOf, factOf, valOf, Ph.is, Ph.by_, Ph.any, Region.binds] at hp
        refine ⟨by simp [Gd, valOf, hp], ?_⟩
        refine mild_val (.int .u8 (kd : Int)) ?_ rfl
        have hc := (X1.out.below X1.out.lt hb).cell 0 _ rfl
        simp [execOp, evalF, hp, hc, go_sem]
      · -- 2: slot 10 := Op.convert 5 3 t9
        refine ob_yes fun f w' hb hp => ?_
        simp [PreOf, factOf, valOf, Ph.is, Ph.by_, Ph.any, Region.binds] at hp
        refine ⟨by simp [Gd, valOf, hp], ?_⟩
        refine mild_val (.int .i64 (kd : Int)) ?_ rfl
        simp [execOp, evalF, hp, go_sem, Hwr.out]
      · -- 3: slot 11 := Op.call   value (Operand.func 124), args := #[], argTypes := #[]  
        refine ob_yes fun f w' hb hp => ?_
        simp [PreOf, factOf, valOf, Ph.is, Ph.by_, Ph.any, Region.binds] at hp
        refine ⟨by simp [Gd, valOf, hp], ?_⟩
        refine mild_call 124 _ _ Tryz.f124 Tryz.func124 (by kernel_rfl) (by kernel_rfl) rfl ?_
        simp [evalF, hp, Ph.is, Ph.by_, Ph.any]
        refine (kinds_any w').mono fun ev w2 h => ?_
        obtain ⟨v, rfl, h2⟩ := h
        exact ⟨⟨v, rfl⟩, h2⟩
      · -- 4: slot 12 := Op.move (const (3:i64))
        refine ob_yes fun f w' hb hp => ?_
        simp [PreOf, factOf, valOf, Ph.is, Ph.by_, Ph.any, Region.binds] at hp
        refine ⟨by simp [Gd, valOf, hp], ?_⟩
        refine mild_val (.int .i64 3) ?_ rfl
        simp [execOp, evalF, hp, go_sem]
      · -- 5: slot 13 := Op.binOp BinOp.geq 3 t10 t12 3
        refine ob_yes fun f w' hb hp => ?_
        simp [PreOf, factOf, valOf, Ph.is, Ph.by_, Ph.any, Region.binds] at hp
        refine ⟨by simp [Gd, valOf, hp], ?_⟩
        refine mild_val (.bool false) ?_ rfl
        simp [execOp, evalF, hp, go_sem]
        try omega
      · -- 6: slot 14 := Op.move t13
        refine ob_yes fun f w' hb hp => ?_
        simp [PreOf, factOf, valOf, Ph.is, Ph.by_, Ph.any, Region.binds] at hp
        refine ⟨by simp [Gd, valOf, hp], ?_⟩
        refine mild_val (.bool false) ?_ rfl
        simp [execOp, evalF, hp]
      · -- 7: slot 15 := Op.fieldAddr 29 t1 5
        refine ob_yes fun f w' hb hp => ?_
        simp [PreOf, factOf, valOf, Ph.is, Ph.by_, Ph.any, Region.binds] at hp
        refine ⟨by simp [Gd, valOf, hp], ?_⟩
        refine mild_val (.pointer (some ⟨w.heap.size, 5, none⟩)) ?_ rfl
        simp [execOp, evalF, hp, go_sem]
      · -- 8: slot 16 := Op.load 24 t15
        refine ob_yes fun f w' hb hp => ?_
        simp [PreOf, factOf, valOf, Ph.is, Ph.by_, Ph.any, Region.binds] at hp
        refine ⟨by simp [Gd, valOf, hp], ?_⟩
        refine mild_val (.int .u32 (st : Int)) ?_ rfl
        have hc := (X1.out.below X1.out.lt hb).cell 5 _ rfl
        simp [execOp, evalF, hp, hc, go_sem]
      · -- 9: slot 17 := Op.fieldAddr 29 t1 6
        refine ob_yes fun f w' hb hp => ?_
        simp [PreOf, factOf, valOf, Ph.is, Ph.by_, Ph.any, Region.binds] at hp
        refine ⟨by simp [Gd, valOf, hp], ?_⟩
        refine mild_val (.pointer (some ⟨w.heap.size, 6, none⟩)) ?_ rfl
        simp [execOp, evalF, hp, go_sem]
      · -- 10: slot 18 := Op.load 24 t17
        refine ob_yes fun f w' hb hp => ?_
        simp [PreOf, factOf, valOf, Ph.is, Ph.by_, Ph.any, Region.binds] at hp
        refine ⟨by simp [Gd, valOf, hp], ?_⟩
        refine mild_val (.int .u32 (so : Int)) ?_ rfl
        have hc := (X1.out.below X1.out.lt hb).cell 6 _ rfl
        simp [execOp, evalF, hp, hc, go_sem]
      · -- 11: slot 19 := Op.binOp BinOp.gtr 24 t16 t18 24
        refine ob_yes fun f w' hb hp => ?_
        simp [PreOf, factOf, valOf, Ph.is, Ph.by_, Ph.any, Region.binds] at hp
        refine ⟨by simp [Gd, valOf, hp], ?_⟩
        refine mild_val (.bool false) ?_ rfl
        simp [execOp, evalF, hp, go_sem]
        try omega
      · -- 12: slot 20 := Op.pick t14 (const (Value.bool true)) t19
        refine ob_yes fun f w' hb hp => ?_
        simp [PreOf, factOf, valOf, Ph.is, Ph.by_, Ph.any, Region.binds] at hp
        refine ⟨by simp [Gd, valOf, hp], ?_⟩
        refine mild_val (.bool false) ?_ rfl
        simp [execOp, evalF, hp, go_sem]
      · -- 13: slot 21 := Op.move t20
        refine ob_yes fun f w' hb hp => ?_
        simp [PreOf, factOf, valOf, Ph.is, Ph.by_, Ph.any, Region.binds] at hp
        refine ⟨by simp [Gd, valOf, hp], ?_⟩
        refine mild_val (.bool false) ?_ rfl
        simp [execOp, evalF, hp]
      · -- 14: slot 22 := Op.fieldAddr 29 t1 4
        refine ob_yes fun f w' hb hp => ?_
        simp [PreOf, factOf, valOf, Ph.is, Ph.by_, Ph.any, Region.binds] at hp
        refine ⟨by simp [Gd, valOf, hp], ?_⟩
        refine mild_val (.pointer (some ⟨w.heap.size, 4, none⟩)) ?_ rfl
        simp [execOp, evalF, hp, go_sem]
      · -- 15: slot 23 := Op.load 25 t22
        refine ob_yes fun f w' hb hp => ?_
        simp [PreOf, factOf, valOf, Ph.is, Ph.by_, Ph.any, Region.binds] at hp
        refine ⟨by simp [Gd, valOf, hp], ?_⟩
        refine mild_val (.slice A n c) ?_ rfl
        have hc := (X1.out.below X1.out.lt hb).cell 4 _ rfl
        simp [execOp, evalF, hp, hc, go_sem]
      · -- 16: slot 24 := Op.call   builtin len, args := #[t23], argTypes := #[25]  
        refine ob_yes fun f w' hb hp => ?_
        simp [PreOf, factOf, valOf, Ph.is, Ph.by_, Ph.any, Region.binds] at hp
        refine ⟨by simp [Gd, valOf, hp], ?_⟩
        refine mild_val (.int .i64 (n : Int)) ?_ rfl
        simp [execOp, evalF, hp, go_sem]
      · -- 17: slot 25 := Op.binOp BinOp.eql 3 t24 (const (0:i64)) 3
        refine ob_yes fun f w' hb hp => ?_
        simp [PreOf, factOf, valOf, Ph.is, Ph.by_, Ph.any, Region.binds] at hp
        refine ⟨by simp [Gd, valOf, hp], ?_⟩
        refine mild_val (.bool false) ?_ rfl
        simp [execOp, evalF, hp, go_sem]
        try omega
      · -- 18: slot 26 := Op.pick t21 (const (Value.bool true)) t25
        refine ob_yes fun f w' hb hp => ?_
        simp [PreOf, factOf, valOf, Ph.is, Ph.by_, Ph.any, Region.binds] at hp
        refine ⟨by simp [Gd, valOf, hp], ?_⟩
        refine mild_val (.bool false) ?_ rfl
        simp [execOp, evalF, hp, go_sem]
      · -- 19: slot 27 := Op.move t26
        refine ob_yes fun f w' hb hp => ?_
        simp [PreOf, factOf, valOf, Ph.is, Ph.by_, Ph.any, Region.binds] at hp
        refine ⟨by simp [Gd, valOf, hp], ?_⟩
        refine mild_val (.bool false) ?_ rfl
        simp [execOp, evalF, hp]
      · -- 20: slot 28 := Op.fieldAddr 29 t1 4
        refine ob_yes fun f w' hb hp => ?_
        simp [PreOf, factOf, valOf, Ph.is, Ph.by_, Ph.any, Region.binds] at hp
        refine ⟨by simp [Gd, valOf, hp], ?_⟩
        refine mild_val (.pointer (some ⟨w.heap.size, 4, none⟩)) ?_ rfl
        simp [execOp, evalF, hp, go_sem]
      · -- 21: slot 29 := Op.load 25 t28
        refine ob_yes fun f w' hb hp => ?_
        simp [PreOf, factOf, valOf, Ph.is, Ph.by_, Ph.any, Region.binds] at hp
        refine ⟨by simp [Gd, valOf, hp], ?_⟩
        refine mild_val (.slice A n c) ?_ rfl
        have hc := (X1.out.below X1.out.lt hb).cell 4 _ rfl
        simp [execOp, evalF, hp, hc, go_sem]
      · -- 22: slot 30 := Op.call   builtin len, args := #[t29], argTypes := #[25]  
        refine ob_yes fun f w' hb hp => ?_
        simp [PreOf, factOf, valOf, Ph.is, Ph.by_, Ph.any, Region.binds] at hp
        refine ⟨by simp [Gd, valOf, hp], ?_⟩
        refine mild_val (.int .i64 (n : Int)) ?_ rfl
        simp [execOp, evalF, hp, go_sem]
      · -- 23: slot 31 := Op.binOp BinOp.gtr 3 t30 (const (256:i64)) 3
        refine ob_yes fun f w' hb hp => ?_
        simp [PreOf, factOf, valOf, Ph.is, Ph.by_, Ph.any, Region.binds] at hp
        refine ⟨by simp [Gd, valOf, hp], ?_⟩
        refine mild_val (.bool true) ?_ rfl
        simp [execOp, evalF, hp, go_sem]
        try omega
      · -- 24: slot 32 := Op.pick t27 (const (Value.bool true)) t31
        refine ob_yes fun f w' hb hp => ?_
        simp [PreOf, factOf, valOf, Ph.is, Ph.by_, Ph.any, Region.binds] at hp
        refine ⟨by simp [Gd, valOf, hp], ?_⟩
        refine mild_val (.bool true) ?_ rfl
        simp [execOp, evalF, hp, go_sem]
    · intro f w2 hb2 hp
      simp only [PostOf, Ph.is, Ph.by_, Ph.any] at hp
      obtain ⟨h0, h1, h2, h3, h4, h5, h6, h7, h8, h9, h10, h11, h12, h13, h14, h15, h16, h17, h18, h19, h20, h21, h22, h23, h24, _⟩ := hp
      simp only [fills, List.foldl_cons, List.foldl_nil, Act.put, List.setIfInBounds_toArray, List.set_cons_zero, List.set_cons_succ, h0, h1, h2, h4, h5, h6, h7, h8, h9, h10, h11, h12, h13, h14, h15, h16, h17, h18, h19, h20, h21, h22, h23, h24]
      clear h0 h1 h2 h4 h5 h6 h7 h8 h9 h10 h11 h12 h13 h14 h15 h16 h17 h18 h19 h20 h21 h22 h23 h24
      generalize f 11 = v11 at *
      go_wp2_with fail
      go_ret
      refine ⟨?_, bstep Hb1.out hb2⟩
      rw [HM.out]
      simp
      try omega
  ·
    refine wp_region_typed [some 8, some 9, some 10, some 11, some 12, some 13, some 14, some 15, some 16, some 17, some 18, some 19, some 20, some 21, some 22, some 23, some 24, some 25, some 26, some 27, some 28, some 29, some 30, some 31, some 32] [8, 9, 10, 11, 12, 13, 14, 15, 16, 17, 18, 19, 20, 21, 22, 23, 24, 25, 26, 27, 28, 29, 30, 31, 32]
      [Ph.is (.pointer (some ⟨w.heap.size, 0, none⟩)),
        Ph.is (.int .u8 (kd : Int)),
        Ph.is (.int .i64 (kd : Int)),
        Ph.any,
        Ph.is (.int .i64 3),
        Ph.is (.bool false),
        Ph.is (.bool false),
        Ph.is (.pointer (some ⟨w.heap.size, 5, none⟩)),
        Ph.is (.int .u32 (st : Int)),
        Ph.is (.pointer (some ⟨w.heap.size, 6, none⟩)),
        Ph.is (.int .u32 (so : Int)),
        Ph.is (.bool false),
        Ph.is (.bool false),
        Ph.is (.bool false),
        Ph.is (.pointer (some ⟨w.heap.size, 4, none⟩)),
        Ph.is (.slice A n c),
        Ph.is (.int .i64 (n : Int)),
        Ph.is (.bool false),
        Ph.is (.bool false),
        Ph.is (.bool false),
        Ph.is (.pointer (some ⟨w.heap.size, 4, none⟩)),
        Ph.is (.slice A n c),
        Ph.is (.int .i64 (n : Int)),
        Ph.is (.bool false),
        Ph.is (.bool false)] rfl rfl (by kernel_rfl) (by kernel_rfl) ?_ ?_
    · refine ⟨?_, ?_, ?_, ?_, ?_, ?_, ?_, ?_, ?_, ?_, ?_, ?_, ?_, ?_, ?_, ?_, ?_, ?_, ?_, ?_, ?_, ?_, ?_, ?_, ?_, trivial⟩
      · -- 0: slot 8 := Op.fieldAddr 29 t1 0
        refine ob_yes fun f w' hb hp => ?_
        simp [PreOf, factOf, valOf, Ph.is, Ph.by_, Ph.any, Region.binds] at hp
        refine ⟨by simp [Gd, valOf, hp], ?_⟩
        refine mild_val (.pointer (some ⟨w.heap.size, 0, none⟩)) ?_ rfl
        simp [execOp, evalF, hp, go_sem]
      · -- 1: slot 9 := Op.load 5 t8
        refine ob_yes fun f w' hb hp => ?_
        simp [PreOf, factOf, valOf, Ph.is, Ph.by_, Ph.any, Region.binds] at hp
        refine ⟨by simp [Gd, valOf, hp], ?_⟩
        refine mild_val (.int .u8 (kd : Int)) ?_ rfl
        have hc := (X1.out.below X1.out.lt hb).cell 0 _ rfl
        simp [execOp, evalF, hp, hc, go_sem]
      · -- 2: slot 10 := Op.convert 5 3 t9
        refine ob_yes fun f w' hb hp => ?_
        simp [PreOf, factOf, valOf, Ph.is, Ph.by_, Ph.any, Region.binds] at hp
        refine ⟨by simp [Gd, valOf, hp], ?_⟩
        refine mild_val (.int .i64 (kd : Int)) ?_ rfl
        simp [execOp, evalF, hp, go_sem, Hwr.out]
      · -- 3: slot 11 := Op.call   value (Operand.func 124), args := #[], argTypes := #[]  
        refine ob_yes fun f w' hb hp => ?_
        simp [PreOf, factOf, valOf, Ph.is, Ph.by_, Ph.any, Region.binds] at hp
        refine ⟨by simp [Gd, valOf, hp], ?_⟩
        refine mild_call 124 _ _ Tryz.f124 Tryz.func124 (by kernel_rfl) (by kernel_rfl) rfl ?_
        simp [evalF, hp, Ph.is, Ph.by_, Ph.any]
        refine (kinds_any w').mono fun ev w2 h => ?_
        obtain ⟨v, rfl, h2⟩ := h
        exact ⟨⟨v, rfl⟩, h2⟩
      · -- 4: slot 12 := Op.move (const (3:i64))
        refine ob_yes fun f w' hb hp => ?_
        simp [PreOf, factOf, valOf, Ph.is, Ph.by_, Ph.any, Region.binds] at hp
        refine ⟨by simp [Gd, valOf, hp], ?_⟩
        refine mild_val (.int .i64 3) ?_ rfl
        simp [execOp, evalF, hp, go_sem]
      · -- 5: slot 13 := Op.binOp BinOp.geq 3 t10 t12 3
        refine ob_yes fun f w' hb hp => ?_
        simp [PreOf, factOf, valOf, Ph.is, Ph.by_, Ph.any, Region.binds] at hp
        refine ⟨by simp [Gd, valOf, hp], ?_⟩
        refine mild_val (.bool false) ?_ rfl
        simp [execOp, evalF, hp, go_sem]
        try omega
      · -- 6: slot 14 := Op.move t13
        refine ob_yes fun f w' hb hp => ?_
        simp [PreOf, factOf, valOf, Ph.is, Ph.by_, Ph.any, Region.binds] at hp
        refine ⟨by simp [Gd, valOf, hp], ?_⟩
        refine mild_val (.bool false) ?_ rfl
        simp [execOp, evalF, hp]
      · -- 7: slot 15 := Op.fieldAddr 29 t1 5
        refine ob_yes fun f w' hb hp => ?_
        simp [PreOf, factOf, valOf, Ph.is, Ph.by_, Ph.any, Region.binds] at hp
        refine ⟨by simp [Gd, valOf, hp], ?_⟩
        refine mild_val (.pointer (some ⟨w.heap.size, 5, none⟩)) ?_ rfl
        simp [execOp, evalF, hp, go_sem]
      · -- 8: slot 16 := Op.load 24 t15
        refine ob_yes fun f w' hb hp => ?_
        simp [PreOf, factOf, valOf, Ph.is, Ph.by_, Ph.any, Region.binds] at hp
        refine ⟨by simp [Gd, valOf, hp], ?_⟩
        refine mild_val (.int .u32 (st : Int)) ?_ rfl
        have hc := (X1.out.below X1.out.lt hb).cell 5 _ rfl
        simp [execOp, evalF, hp, hc, go_sem]
      · -- 9: slot 17 := Op.fieldAddr 29 t1 6
        refine ob_yes fun f w' hb hp => ?_
        simp [PreOf, factOf, valOf, Ph.is, Ph.by_, Ph.any, Region.binds] at hp
        refine ⟨by simp [Gd, valOf, hp], ?_⟩
        refine mild_val (.pointer (some ⟨w.heap.size, 6, none⟩)) ?_ rfl
        simp [execOp, evalF, hp, go_sem]
      · -- 10: slot 18 := Op.load 24 t17
        refine ob_yes fun f w' hb hp => ?_
        simp [PreOf, factOf, valOf, Ph.is, Ph.by_, Ph.any, Region.binds] at hp
        refine ⟨by simp [Gd, valOf, hp], ?_⟩
        refine mild_val (.int .u32 (so : Int)) ?_ rfl
        have hc := (X1.out.below X1.out.lt hb).cell 6 _ rfl
        simp [execOp, evalF, hp, hc, go_sem]
      · -- 11: slot 19 := Op.binOp BinOp.gtr 24 t16 t18 24
        refine ob_yes fun f w' hb hp => ?_
        simp [PreOf, factOf, valOf, Ph.is, Ph.by_, Ph.any, Region.binds] at hp
        refine ⟨by simp [Gd, valOf, hp], ?_⟩
        refine mild_val (.bool false) ?_ rfl
        simp [execOp, evalF, hp, go_sem]
        try omega
      · -- 12: slot 20 := Op.pick t14 (const (Value.bool true)) t19
        refine ob_yes fun f w' hb hp => ?_
        simp [PreOf, factOf, valOf, Ph.is, Ph.by_, Ph.any, Region.binds] at hp
        refine ⟨by simp [Gd, valOf, hp], ?_⟩
        refine mild_val (.bool false) ?_ rfl
        simp [execOp, evalF, hp, go_sem]
      · -- 13: slot 21 := Op.move t20
        refine ob_yes fun f w' hb hp => ?_
        simp [PreOf, factOf, valOf, Ph.is, Ph.by_, Ph.any, Region.binds] at hp
        refine ⟨by simp [Gd, valOf, hp], ?_⟩
        refine mild_val (.bool false) ?_ rfl
        simp [execOp, evalF, hp]
      · -- 14: slot 22 := Op.fieldAddr 29 t1 4
        refine ob_yes fun f w' hb hp => ?_
        simp [PreOf, factOf, valOf, Ph.is, Ph.by_, Ph.any, Region.binds] at hp
        refine ⟨by simp [Gd, valOf, hp], ?_⟩
        refine mild_val (.pointer (some ⟨w.heap.size, 4, none⟩)) ?_ rfl
        simp [execOp, evalF, hp, go_sem]
      · -- 15: slot 23 := Op.load 25 t22
        refine ob_yes fun f w' hb hp => ?_
        simp [PreOf, factOf, valOf, Ph.is, Ph.by_, Ph.any, Region.binds] at hp
        refine ⟨by simp [Gd, valOf, hp], ?_⟩
        refine mild_val (.slice A n c) ?_ rfl
        have hc := (X1.out.below X1.out.lt hb).cell 4 _ rfl
        simp [execOp, evalF, hp, hc, go_sem]
      · -- 16: slot 24 := Op.call   builtin len, args := #[t23], argTypes := #[25]  
        refine ob_yes fun f w' hb hp => ?_
        simp [PreOf, factOf, valOf, Ph.is, Ph.by_, Ph.any, Region.binds] at hp
        refine ⟨by simp [Gd, valOf, hp], ?_⟩
        refine mild_val (.int .i64 (n : Int)) ?_ rfl
        simp [execOp, evalF, hp, go_sem]
      · -- 17: slot 25 := Op.binOp BinOp.eql 3 t24 (const (0:i64)) 3
        refine ob_yes fun f w' hb hp => ?_
        simp [PreOf, factOf, valOf, Ph.is, Ph.by_, Ph.any, Region.binds] at hp
        refine ⟨by simp [Gd, valOf, hp], ?_⟩
        refine mild_val (.bool false) ?_ rfl
        simp [execOp, evalF, hp, go_sem]
        try omega
      · -- 18: slot 26 := Op.pick t21 (const (Value.bool true)) t25
        refine ob_yes fun f w' hb hp => ?_
        simp [PreOf, factOf, valOf, Ph.is, Ph.by_, Ph.any, Region.binds] at hp
        refine ⟨by simp [Gd, valOf, hp], ?_⟩
        refine mild_val (.bool false) ?_ rfl
        simp [execOp, evalF, hp, go_sem]
      · -- 19: slot 27 := Op.move t26
        refine ob_yes fun f w' hb hp => ?_
        simp [PreOf, factOf, valOf, Ph.is, Ph.by_, Ph.any, Region.binds] at hp
        refine ⟨by simp [Gd, valOf, hp], ?_⟩
        refine mild_val (.bool false) ?_ rfl
        simp [execOp, evalF, hp]
      · -- 20: slot 28 := Op.fieldAddr 29 t1 4
        refine ob_yes fun f w' hb hp => ?_
        simp [PreOf, factOf, valOf, Ph.is, Ph.by_, Ph.any, Region.binds] at hp
        refine ⟨by simp [Gd, valOf, hp], ?_⟩
        refine mild_val (.pointer (some ⟨w.heap.size, 4, none⟩)) ?_ rfl
        simp [execOp, evalF, hp, go_sem]
      · -- 21: slot 29 := Op.load 25 t28
        refine ob_yes fun f w' hb hp => ?_
        simp [PreOf, factOf, valOf, Ph.is, Ph.by_, Ph.any, Region.binds] at hp
        refine ⟨by simp [Gd, valOf, hp], ?_⟩
        refine mild_val (.slice A n c) ?_ rfl
        have hc := (X1.out.below X1.out.lt hb).cell 4 _ rfl
        simp [execOp, evalF, hp, hc, go_sem]
      · -- 22: slot 30 := Op.call   builtin len, args := #[t29], argTypes := #[25]  
        refine ob_yes fun f w' hb hp => ?_
        simp [PreOf, factOf, valOf, Ph.is, Ph.by_, Ph.any, Region.binds] at hp
        refine ⟨by simp [Gd, valOf, hp], ?_⟩
        refine mild_val (.int .i64 (n : Int)) ?_ rfl
        simp [execOp, evalF, hp, go_sem]
      · -- 23: slot 31 := Op.binOp BinOp.gtr 3 t30 (const (256:i64)) 3
        refine ob_yes fun f w' hb hp => ?_
        simp [PreOf, factOf, valOf, Ph.is, Ph.by_, Ph.any, Region.binds] at hp
        refine ⟨by simp [Gd, valOf, hp], ?_⟩
        refine mild_val (.bool false) ?_ rfl
        simp [execOp, evalF, hp, go_sem]
        try omega
      · -- 24: slot 32 := Op.pick t27 (const (Value.bool true)) t31
        refine ob_yes fun f w' hb hp => ?_
        simp [PreOf, factOf, valOf, Ph.is, Ph.by_, Ph.any, Region.binds] at hp
        refine ⟨by simp [Gd, valOf, hp], ?_⟩
        refine mild_val (.bool false) ?_ rfl
        simp [execOp, evalF, hp, go_sem]
    · intro f w2 hb2 hp
      simp only [PostOf, Ph.is, Ph.by_, Ph.any] at hp
      obtain ⟨h0, h1, h2, h3, h4, h5, h6, h7, h8, h9, h10, h11, h12, h13, h14, h15, h16, h17, h18, h19, h20, h21, h22, h23, h24, _⟩ := hp
      simp only [fills, List.foldl_cons, List.foldl_nil, Act.put, List.setIfInBounds_toArray, List.set_cons_zero, List.set_cons_succ, h0, h1, h2, h4, h5, h6, h7, h8, h9, h10, h11, h12, h13, h14, h15, h16, h17, h18, h19, h20, h21, h22, h23, h24]
      clear h0 h1 h2 h4 h5 h6 h7 h8 h9 h10 h11 h12 h13 h14 h15 h16 h17 h18 h19 h20 h21 h22 h23 h24
      generalize f 11 = v11 at *
      have By2 := Lib.hid (Hby1.out.below (hb2.mono (by omega)))
      have X2 := Lib.hid (X1.out.below X1.out.lt hb2)
      have Hb2 := Lib.hid (bstep Hb1.out hb2)
      have hz2 : w.heap.size < w2.heap.size := by have := hb2.size; omega
      clear hb2 X1 Hby1 Hb1
      go_wp2_with fail
      refine (numbers_any w2 w.heap.size).mono ?_
      rintro _ w3 ⟨b, rfl, hbge, hnm, hb3⟩
      obtain ⟨D, hown, hP1, hP2⟩ := hnm
      have hz3 := hb3.size
      have X3 := Lib.hid (X2.out.below X2.out.lt hb3)
      have Hb3 := Lib.hid (bstep Hb2.out hb3)
      have By3 := Lib.hid (By2.out.below (hb3.mono (by omega)))
      have HP1 := Lib.hid hP1
      have HP2 := Lib.hid hP2
      clear hb3 X2 By2 Hb2 hP1 hP2
      go_wp2_with (at_range; refine wpList_range_own w3 rfl _ 205 rfl 9 208 (string_keyed Tryz.underlying9) Tryz.underlying205 nsR b 10 D rfl hown ?_; intro w4 hrg4 hg4 hs4)
      have hb34 := gofBelow hg4 (Nat.le_refl _) (by simp)
      have X4 := Lib.hid (X3.out.below X3.out.lt hb34)
      have Hb4 := Lib.hid (bstep Hb3.out hb34)
      have By4 := Lib.hid (By3.out.below (hb34.mono (by omega)))
      have hb34_ := hb34
      clear hb34 hg4 hown X3 By3 Hb3
      try simp only [Act.put, List.setIfInBounds_toArray, List.set_cons_zero, List.set_cons_succ]
      have hle4 : w.heap.size < w3.heap.size := by omega
      have hle5 : w.heap.size < w4.heap.size := by omega
      have hHb34 := Lib.hid hb34_
      clear hb34_ hz3
      go_loopw [4] (fun _ wr => ∃ left cnt, wr.ranges Tryz.prog 9 nsR b w3.heap.size 10 D left cnt ∧ Below w3.heap.size w4 wr ∧ (∀ kl, left kl = true → has D kl = true) ∧ (∀ i, i < 10 → left (.string (spI i).key) = false → (spI i).l.all (specOk j) = true)) (fun _ wr => wr.rangeLeft b w3.heap.size)
      case atStart => exact ⟨_, _, hrg4, Below.refl _ _, fun kl h => h, fun i hi h => by rw [HP2.out _ ⟨i, hi, rfl⟩] at h; cases h⟩
      case round =>
        obtain ⟨left, cnt, hrg, hbr, hlD, hdn⟩ := hrel
        have HlD := Lib.hid hlD
        have Hdn := Lib.hid hdn
        have Hbr := Lib.hid hbr
        have X5 := Lib.hid (X4.out.below (by omega) hbr)
        have By5 := Lib.hid (By4.out.below (hbr.mono (by omega)))
        clear hlD hdn hbr hrg4
        go_wp2_with (at_next; refine wpList_next_ranges _ rfl _ rfl 9 (string_keyed Tryz.underlying9) nsR (id : Value → Value) mkS (fun key kl _ => ⟨key, rfl⟩) nsR_inv b w3.heap.size 10 D left cnt rfl hrg ?_ ?_)
        · intro _ hl0
          have hOK : numsOk j = true := by
            unfold numsOk
            rw [List.all_eq_true]
            intro i hi
            exact Hdn.out i (by simpa using hi) (hl0 _)
          have HOK := Lib.hid hOK
          have hc4 := X5.out.cell 4 _ rfl
          have hzr := Hbr.out.size
          clear hl0 hOK
          go_wp2_with fail
          refine (cloneU wr _ j.srcs (By5.out.more (by omega)) (by have := Hn.out; omega)).mono ?_
          rintro _ w6 ⟨v6, rfl, hown6, hb6⟩
          have hz6 := hb6.size
          have X6 := Lib.hid (X5.out.below X5.out.lt hb6)
          have Hb6 := Lib.hid (bstep (Hb4.out.trans (Hbr.out.mono (by omega))) hb6)
          clear hc4 hb6 X5 By5 By4 X4
          go_wp2_with fail
          refine (Hs.out w6 wr.heap.size v6 hown6 hz6).mono ?_
          rintro _ w7 ⟨rfl, l7, hp7, hown7, hch7⟩
          have hbk := hown6.blk
          have X7 := Lib.hid (X6.out.chg hch7 (fun e => by have := (hbk _ e).1; omega))
          have hb7 := hch7.below (B := w.heap.size) (by omega) (fun k hk => by have := (hbk k hk).1; omega)
          have Hb7 := Lib.hid (Hb6.out.trans hb7)
          have By7 : Hid (ByU w7 w7.heap.size v6 l7) := Lib.hid hown7.rowAll
          have hl7 : l7.length = n := by rw [Hn.out]; exact hp7.length_eq
          have hnd7 : l7.Nodup := hp7.nodup_iff.2 Hnd.out
          have hne7 : ∀ i, (hi : i + 1 < l7.length) → l7[i + 1] ≠ l7[i] := fun i hi e => List.pairwise_iff_getElem.1 hnd7 i (i + 1) (by omega) hi (by omega) e.symm
          have HN7 := Lib.hid hne7
          obtain ⟨A7, c7, rfl, -, -⟩ := hown7.rowAll.form
          rw [hl7] at By7 ⊢
          have Hl7 := Lib.hid hl7
          clear hl7
          clear hbk hb7 hch7 hown6 hown7 hne7 hnd7 hp7 X6 Hb6 Hs Hnd
          go_upto_region 14 with fail
          refine wp_region_typed [some 69, some 70, some 71, some 72, some 73, some 74, some 75, some 2] [69, 70, 71, 72, 73, 74, 75, 2]
            [Ph.is (.slice A7 n c7),
              Ph.is (.slice A7 n c7),
              Ph.is (.int .i64 (n : Int)),
              Ph.is (.pointer (some ⟨w.heap.size, 4, none⟩)),
              Ph.is (.slice A n c),
              Ph.is (.int .i64 (n : Int)),
              Ph.is (.bool true),
              Ph.is (.bool true)] rfl rfl (by kernel_rfl) (by kernel_rfl) ?_ ?_
          · refine ⟨?_, ?_, ?_, ?_, ?_, ?_, ?_, ?_, trivial⟩
            · -- 0: slot 69 := Op.move t7
              refine ob_yes fun f w' hb hp => ?_
              simp [PreOf, factOf, valOf, Ph.is, Ph.by_, Ph.any, Region.binds] at hp
              refine ⟨by simp [Gd, valOf, hp], ?_⟩
              refine mild_val (.slice A7 n c7) ?_ rfl
              simp [execOp, evalF, hp]
            · -- 1: slot 70 := Op.call   value (Operand.func 128), args := #[t69], argTypes := #[25]  
              refine ob_yes fun f w' hb hp => ?_
              simp [PreOf, factOf, valOf, Ph.is, Ph.by_, Ph.any, Region.binds] at hp
              refine ⟨by simp [Gd, valOf, hp], ?_⟩
              refine mild_call 128 _ _ Tryz.f128 Tryz.func128 (by kernel_rfl) (by kernel_rfl) rfl ?_
              simp [evalF, hp, Ph.is, Ph.by_, Ph.any]
              refine (compactU w' w7.heap.size _ l7 (ByU.below By7.out hb) (by rw [Hl7.out]; omega) HN7.out).mono fun ev w8 h => ?_
              obtain ⟨rfl, q, rfl⟩ := h
              exact ⟨rfl, bdrewN (Below.refl _ _) q⟩
            · -- 2: slot 71 := Op.call   builtin len, args := #[t70], argTypes := #[25]  
              refine ob_yes fun f w' hb hp => ?_
              simp [PreOf, factOf, valOf, Ph.is, Ph.by_, Ph.any, Region.binds] at hp
              refine ⟨by simp [Gd, valOf, hp], ?_⟩
              refine mild_val (.int .i64 (n : Int)) ?_ rfl
              simp [execOp, evalF, hp, go_sem]
            · -- 3: slot 72 := Op.fieldAddr 29 t1 4
              refine ob_yes fun f w' hb hp => ?_
              simp [PreOf, factOf, valOf, Ph.is, Ph.by_, Ph.any, Region.binds] at hp
              refine ⟨by simp [Gd, valOf, hp], ?_⟩
              refine mild_val (.pointer (some ⟨w.heap.size, 4, none⟩)) ?_ rfl
              simp [execOp, evalF, hp, go_sem]
            · -- 4: slot 73 := Op.load 25 t72
              refine ob_yes fun f w' hb hp => ?_
              simp [PreOf, factOf, valOf, Ph.is, Ph.by_, Ph.any, Region.binds] at hp
              refine ⟨by simp [Gd, valOf, hp], ?_⟩
              refine mild_val (.slice A n c) ?_ rfl
              have hc := (X7.out.below X7.out.lt hb).cell 4 _ rfl
              simp [execOp, evalF, hp, hc, go_sem]
            · -- 5: slot 74 := Op.call   builtin len, args := #[t73], argTypes := #[25]  
              refine ob_yes fun f w' hb hp => ?_
              simp [PreOf, factOf, valOf, Ph.is, Ph.by_, Ph.any, Region.binds] at hp
              refine ⟨by simp [Gd, valOf, hp], ?_⟩
              refine mild_val (.int .i64 (n : Int)) ?_ rfl
              simp [execOp, evalF, hp, go_sem]
            · -- 6: slot 75 := Op.binOp BinOp.eql 3 t71 t74 3
              refine ob_yes fun f w' hb hp => ?_
              simp [PreOf, factOf, valOf, Ph.is, Ph.by_, Ph.any, Region.binds] at hp
              refine ⟨by simp [Gd, valOf, hp], ?_⟩
              refine mild_val (.bool true) ?_ rfl
              simp [execOp, evalF, hp, go_sem]
            · -- 7: slot 2 := Op.assign t75
              refine ob_yes fun f w' hb hp => ?_
              simp [PreOf, factOf, valOf, Ph.is, Ph.by_, Ph.any, Region.binds] at hp
              refine ⟨by simp [Gd, valOf, hp], ?_⟩
              refine mild_val (.bool true) ?_ rfl
              simp [execOp, evalF, hp]
          · intro f w8 hb8 hp
            simp only [PostOf, Ph.is, Ph.by_, Ph.any] at hp
            obtain ⟨h0, h1, h2, h3, h4, h5, h6, h7, _⟩ := hp
            simp only [fills, List.foldl_cons, List.foldl_nil, Act.put, List.setIfInBounds_toArray, List.set_cons_zero, List.set_cons_succ, h0, h1, h2, h3, h4, h5, h6, h7]
            clear h0 h1 h2 h3 h4 h5 h6 h7
            go_wp2_with fail
            go_ret
            exact ⟨by rw [HM.out, HOK.out]; simp; omega, bstep Hb7.out hb8⟩
        · intro x ga na kl y1 y2 w5 cnt5 hkey hlk hR hat hrg5 hlt5 hg5 hs5 hen
          obtain ⟨x1, ⟨i0, hi0, rfl⟩, g, rfl, hz, hbx⟩ := HP1.out kl (HlD.out kl hlk)
          have e1 := (hat (.map [])).symm.trans (hz (.map []))
          rw [nsR_mk (ga, na)] at hR
          injection hR with hR
          injection hR with hR1 hR2
          rw [← hR1] at e1
          injection e1 with e1
          obtain ⟨L, hL⟩ : ∃ L, L = (spI i0).l := ⟨_, rfl⟩
          have hL2 := spI_two i0 hi0
          have hLo := spI_ok i0 hi0
          rw [← hL] at e1 hbx hL2 hLo
          unfold mkS at e1 hen
          simp only [Value.slice.injEq, Option.some.injEq, Addr.mk.injEq, and_true, true_and] at e1
          obtain ⟨rfl, rfl, -⟩ := e1
          have hgl := hbx.lt
          have hbr5 := gofBelow hg5 (B := w3.heap.size) (by have := Hbr.out.size; omega) (fun k hk => by injection hk; omega)
          have G5 := Lib.hid (((hbx.below hbx.lt hHb34.out).below hgl Hbr.out).below hgl hbr5)
          have X6 := Lib.hid (X5.out.below (by omega) hbr5)
          have By6 := Lib.hid (By5.out.below (hbr5.mono (by omega)))
          have Hb5 := Lib.hid (Hbr.out.trans hbr5)
          have HL := Lib.hid hL
          have HLo := Lib.hid hLo
          have Hlk := Lib.hid hlk
          clear hkey hlk hR1 hR2 hat hz hbx hL hLo hbr5 hg5 X5 By5
          go_wp2_with fail
          go_loopw [41] (fun kv wq => ∃ k : Nat, kv = .int .i64 k ∧ k ≤ L.length ∧ (∀ i, (hi : i < L.length) → i < k → specOk j L[i] = true) ∧ wq.ranges Tryz.prog 9 nsR b w3.heap.size 10 D (fun z => left z && !z.sameKey (.string (spI i0).key)) cnt5 ∧ Below w5.heap.size w5 wq) (fun kv _ => L.length - (intOf kv).toNat)
          case atStart => exact ⟨0, rfl, by omega, fun i _ h => by omega, hrg5, Below.refl _ _⟩
          case round =>
            obtain ⟨k, rfl, hk, hok, hrq, hbq⟩ := hrel
            have Hok := Lib.hid hok
            have Hbq := Lib.hid hbq
            clear hok hbq
            by_cases hlt : k < L.length
            · have hdk : decide ((k : Int) < (L.length : Int)) = true := decide_eq_true (by omega)
              obtain ⟨hq0, hq1, hq2⟩ := specC_at w.heap.size L k hlt
              rw [Nat.mul_comm 3 k] at hq0 hq1 hq2
              obtain ⟨ho1, ho2, ho3, ho4, ho5⟩ := HLo.out L[k] (List.getElem_mem hlt)
              have hcj := (X6.out.below X6.out.lt Hbq.out).cell _ _ (by rw [← HJC.out]; exact jobC_at j (.slice A n c) (L[k]).1 ho1 ho2 ho3)
              have ha4 := jobN_lt j (L[k]).1
              obtain ⟨z, hz⟩ : ∃ z, z = L[k] := ⟨_, rfl⟩
              rw [← hz] at hq0 hq1 hq2 ho1 ho2 ho3 ho4 ho5 hcj ha4
              have Hz := Lib.hid hz
              clear hz
              obtain ⟨o, lo, hi⟩ := z
              obtain ⟨na, hna⟩ : ∃ na, na = jobN j o := ⟨_, rfl⟩
              simp only at hq0 hq1 hq2 ho1 ho2 ho3 ho4 ho5 hcj ha4
              rw [← hna] at hcj ha4
              have Hna := Lib.hid hna
              have GQ := G5.out.below G5.out.lt Hbq.out
              have hcs : ∀ (jj : Nat) (vv : Value), ([.pointer (some ⟨w.heap.size, o, none⟩), .int .u64 (lo : Int), .int .u64 (hi : Int)] : List Value)[jj]? = some vv → wr.cell? ((⟨ga, k * 3, none⟩ : Addr).add jj) = some vv := by
                intro jj vv hjv
                have hadd : (⟨ga, k * 3, none⟩ : Addr).add jj = ⟨ga, k * 3 + jj, none⟩ := by unfold Addr.add; split <;> simp_all
                rw [hadd]
                match jj, hjv with
                | 0, e => injection e with e; subst e; exact GQ.cell _ _ hq0
                | 1, e => injection e with e; subst e; exact GQ.cell _ _ hq1
                | 2, e => injection e with e; subst e; exact GQ.cell _ _ hq2
                | jj + 3, e => simp at e
              have HCS := Lib.hid hcs
              have Hone : Hid (∀ u ∈ ([.pointer (some ⟨w.heap.size, o, none⟩), .int .u64 (lo : Int), .int .u64 (hi : Int)] : List Value), u.oneCell' = true) := Lib.hid fun u hu => by
                simp at hu
                rcases hu with rfl | rfl | rfl <;> rfl
              clear hna hq0 hq1 hq2 GQ hcs
              go_upto_region 9 with (first
                | (refine wpList_alloc_z rfl 211 rfl infoNum [.pointer none, .int .u64 0, .int .u64 0] rfl ?_)
                | (refine wpList_load_agg rfl 211 (.tmp 43) rfl ⟨ga, k * 3, none⟩ (by first | rfl | simp [Act.eval]) [.pointer (some ⟨w.heap.size, o, none⟩), .int .u64 (lo : Int), .int .u64 (hi : Int)] HCS.out Tryz.underlying211 rfl infoNum3 ?_)
                | (refine wpList_store_newX rfl 211 (.tmp 6) (.tmp 44) rfl [.pointer none, .int .u64 0, .int .u64 0] [.pointer (some ⟨w.heap.size, o, none⟩), .int .u64 (lo : Int), .int .u64 (hi : Int)] rfl rfl infoNum3 rfl Hone.out ?_
                   intro wn hbxn hbn hzn))
              try simp only [Act.put, List.setIfInBounds_toArray, List.set_cons_zero, List.set_cons_succ]
              have hcb0 := hbxn.cell 0 _ rfl
              have hcb1 := hbxn.cell 1 _ rfl
              have hcb2 := hbxn.cell 2 _ rfl
              have hblt := (X6.out.below X6.out.lt Hbq.out).lt
              have hcn := (hbn.cell (p := ⟨w.heap.size, o, none⟩) hblt).trans hcj
              have hw64 : IntKind.u64.wrap (na : Int) = (na : Int) := by rw [wrap_u64]; omega
              have HbN : Hid (Below w.heap.size w wn) := Lib.hid (bstep (Hb4.out.trans ((Hb5.out.trans (Hbq.out.mono (by have := Hb5.out.size; omega))).mono (by omega))) hbn)
              have Hbn := Lib.hid hbn
              clear hbn hbxn hcj hblt
              by_cases hlo : na < lo
              · have hd1 : decide ((na : Int) < (lo : Int)) = true := decide_eq_true (by omega)
                go_quiet (fail)
                go_wp2_with fail
                go_ret
                have hno : numsOk j = false := by
                  cases hnn : numsOk j with
                  | false => rfl
                  | true =>
                    unfold numsOk at hnn
                    rw [List.all_eq_true] at hnn
                    have h1 := hnn i0 (by simpa using hi0)
                    rw [List.all_eq_true] at h1
                    have h2 := h1 (o, lo, hi) (by rw [Hz.out, ← HL.out]; exact List.getElem_mem hlt)
                    simp [specOk, ← Hna.out] at h2
                    omega
                exact ⟨by rw [HM.out, hno]; simp, bdrewN (HbN.out) nq⟩
              · have hd1 : decide ((na : Int) < (lo : Int)) = false := decide_eq_false (by omega)
                by_cases hhi : hi < na
                · have hd2 : decide ((hi : Int) < (na : Int)) = true := decide_eq_true (by omega)
                  go_quiet (fail)
                  go_wp2_with fail
                  go_ret
                  have hno : numsOk j = false := by
                    cases hnn : numsOk j with
                    | false => rfl
                    | true =>
                      unfold numsOk at hnn
                      rw [List.all_eq_true] at hnn
                      have h1 := hnn i0 (by simpa using hi0)
                      rw [List.all_eq_true] at h1
                      have h2 := h1 (o, lo, hi) (by rw [Hz.out, ← HL.out]; exact List.getElem_mem hlt)
                      simp [specOk, ← Hna.out] at h2
                      omega
                  exact ⟨by rw [HM.out, hno]; simp, bdrewN (HbN.out) nq⟩
                · have hd2 : decide ((hi : Int) < (na : Int)) = false := decide_eq_false (by omega)
                  go_quiet (fail)
                  go_wp2_with fail
                  go_roundw
                  case rel =>
                    have hbe := bdrewN Hbn.out nq
                    refine ⟨k + 1, by go_num, by omega, fun i hi' h => ?_, hrq.kept (row := none) (gbelow hbe none) (by simp) (by simp), bstep Hbq.out hbe⟩
                    rcases Nat.lt_or_ge i k with hik | hik
                    · exact Hok.out i hi' hik
                    · have : i = k := by omega
                      subst this
                      rw [← Hz.out]
                      simp [specOk, ← Hna.out]
                      omega
                  case measure => simp [intOf]; omega
            · have hdk : decide ((k : Int) < (L.length : Int)) = false := decide_eq_false (by omega)
              go_wp2_with fail
              refine ⟨⟨_, _, hrq, Hb5.out.trans (Hbq.out.mono (by have := Hbr.out.size; omega)), fun kl h => HlD.out kl (by simp at h; exact h.1), fun i hi h => ?_⟩, ?_⟩
              · simp only [Bool.and_eq_false_imp] at h
                cases hl : left (.string (spI i).key) with
                | false => exact Hdn.out i hi hl
                | true =>
                  have h2 := h hl
                  simp only [Bool.not_eq_false'] at h2
                  have e := spI_key i hi i0 hi0 (sameKey_str h2)
                  subst e
                  rw [← HL.out, List.all_eq_true]
                  intro e he
                  obtain ⟨q, hq, rfl⟩ := List.mem_iff_getElem.1 he
                  exact Hok.out q hq (by omega)
              · rw [hrq.left_eq, hrg.left_eq]
                omega
end Go.Proofs.YtcffeepgfjpcaaaGreat

namespace Go.Proofs.YtcffeepgfjpcaaaGreat
set_option linter.unusedSimpArgs false
set_option linter.unusedVariables false
open Go.RowKit Go.Maps

def walkersJ (j : GJob) : Nat := if mayJ j = true then j.srcs.length * j.walks.toNat else 0
theorem mayJ_parts {j : GJob} (h : mayJ j = true) : 0 < j.srcs.length ∧ j.srcs.length ≤ 256 ∧ 1 ≤ j.walks.toNat ∧ j.walks.toNat ≤ 65536 ∧ 1 ≤ j.of_.toNat ∧ 1 ≤ j.p.toNat ∧ j.p.toNat ≤ 65536 ∧ 1 ≤ j.q.toNat ∧ j.q.toNat ≤ 65536 ∧ 1 ≤ j.tries.toNat := by
  unfold mayJ at h
  simp only [Bool.and_eq_true, decide_eq_true_eq] at h
  obtain ⟨_, _, h1, h2, h3⟩ := h
  unfold numsOk at h3
  rw [List.all_eq_true] at h3
  have q1 := h3 1 (by simp)
  have q2 := h3 2 (by simp)
  have q3 := h3 3 (by simp)
  have q4 := h3 4 (by simp)
  simp [spI, numT, specOk, jobN] at q1 q2 q3 q4
  omega
theorem infoJob15 : (Tryz.prog.info? 29).map (·.size) = some 15 := by kernel_rfl
set_option maxRecDepth 100000 in
set_option maxHeartbeats 1600000 in
theorem walkers_any (w : World) (v : Value) (j : GJob) (h : JobAt w w.heap.size v j) (hnd : j.srcs.Nodup) (hs : SortOk j.srcs) :
    Calls Tryz.prog 98 #[v] w fun e w' => e = .returned (.int .u32 (walkersJ j : Int)) ∧ Below w.heap.size w w' := by
  have hm := fun W (hW : Below w.heap.size w W) => may_jobAny W v j (h.step hW) hnd hs
  obtain ⟨vs, rfl, hby⟩ := h
  obtain ⟨A, c, rfl, hc1, hc2⟩ := hby.form
  obtain ⟨n, hn⟩ : ∃ n, n = walkersJ j := ⟨_, rfl⟩
  obtain ⟨ok, hok⟩ : ∃ ok, ok = mayJ j := ⟨_, rfl⟩
  have hp := @mayJ_parts j
  rw [← hn]
  unfold walkersJ at hn
  rw [← hok] at hn hp hm
  have hb1 : Below w.heap.size w (w.alloc (.cells (jobC j (.slice A j.srcs.length c)).toArray 29)) := balloc _ _
  have hx1 : BoxAt 29 (w.alloc (.cells (jobC j (.slice A j.srcs.length c)).toArray 29)) w.heap.size (jobC j (.slice A j.srcs.length c)) := BoxAt.new_ _ _ _
  have Hm := Lib.hid hm
  have Hn := Lib.hid hn
  have Hp := Lib.hid hp
  have Hb1 := Lib.hid hb1
  have X1 := Lib.hid hx1
  clear hm hn hp hok hby hb1 hx1
  have hwk := u32_lt j.walks
  go_enter Tryz.func98, Tryz.ntmps98
  go_wp2_with (refine wpList_load_agg rfl 29 (.tmp 1) rfl ⟨w.heap.size, 0, none⟩ rfl (jobC j (.slice A j.srcs.length c)) X1.out.cells Tryz.underlying29 rfl infoJob15 ?_)
  refine (Hm.out _ Hb1.out).mono ?_
  rintro _ w2 ⟨rfl, hb2⟩
  have X2 := X1.out.below X1.out.lt hb2
  have hc3 := X2.cell 3 _ rfl
  have hc4 := X2.cell 4 _ rfl
  have Hb2 := Lib.hid (bstep Hb1.out hb2)
  clear hb2 X2 Hm Hb1
  cases ok with
  | false =>
    go_wp2_with fail
    go_ret
    exact ⟨by rw [Hn.out]; simp, Hb2.out⟩
  | true =>
    obtain ⟨p1, p2, p3, p4, -⟩ := Hp.out rfl
    have hmm : j.srcs.length * j.walks.toNat ≤ 256 * 65536 := Nat.mul_le_mul p2 p4
    have hw1 : IntKind.u32.wrap (j.srcs.length : Int) = (j.srcs.length : Int) := by rw [IntKind.wrap_u32']; omega
    have hw2 : IntKind.u32.wrap ((j.srcs.length : Int) * (j.walks.toNat : Int)) = ((j.srcs.length * j.walks.toNat : Nat) : Int) := by
      rw [← Int.natCast_mul, IntKind.wrap_u32']; omega
    have hn2 : n = j.srcs.length * j.walks.toNat := by rw [Hn.out]; simp
    have HN2 := Lib.hid hn2
    clear hn2 p1 p2 p3 p4
    go_wp2_with fail
    go_ret
    exact ⟨by rw [HN2.out]; try simp [hw2], Hb2.out⟩
/-- the place of a walker's source -/
def srcJ (j : GJob) (id : Nat) : Nat := if id < walkersJ j then id / j.walks.toNat else 0
theorem srcJ_lt {j : GJob} {id : Nat} (h : id < walkersJ j) : mayJ j = true ∧ id / j.walks.toNat < j.srcs.length ∧ id / j.walks.toNat < 256 := by
  unfold walkersJ at h
  split at h
  · rename_i hm
    have hp := mayJ_parts hm
    have h2 : id / j.walks.toNat < j.srcs.length := by
      rw [Nat.div_lt_iff_lt_mul (by omega)]
      exact h
    exact ⟨hm, h2, by omega⟩
  · omega
set_option maxRecDepth 100000 in
set_option maxHeartbeats 1600000 in
theorem source_any (w : World) (v : Value) (j : GJob) (id : Nat) (hid : id < 4294967296) (h : JobAt w w.heap.size v j) (hnd : j.srcs.Nodup) (hs : SortOk j.srcs) (is : Bool) (his : is = decide (id < walkersJ j)) :
    Calls Tryz.prog 61 #[v, .int .u32 (id : Int)] w fun e w' => e = .returned (.tuple #[.int .i64 (srcJ j id : Int), .bool is]) ∧ Below w.heap.size w w' := by
  have hm := fun W (hW : Below w.heap.size w W) => walkers_any W v j (h.step hW) hnd hs
  obtain ⟨vs, rfl, hby⟩ := h
  obtain ⟨A, c, rfl, hc1, hc2⟩ := hby.form
  obtain ⟨s, hs2⟩ : ∃ s, s = srcJ j id := ⟨_, rfl⟩
  rw [← hs2]
  unfold srcJ at hs2
  have hp := @srcJ_lt j id
  obtain ⟨n, hn⟩ : ∃ n, n = walkersJ j := ⟨_, rfl⟩
  have hwk := u32_lt j.walks
  rw [← hn] at hs2 hp hm his
  have hb1 : Below w.heap.size w (w.alloc (.cells (jobC j (.slice A j.srcs.length c)).toArray 29)) := balloc _ _
  have hx1 : BoxAt 29 (w.alloc (.cells (jobC j (.slice A j.srcs.length c)).toArray 29)) w.heap.size (jobC j (.slice A j.srcs.length c)) := BoxAt.new_ _ _ _
  have Hm := Lib.hid hm
  have Hs2 := Lib.hid hs2
  have Hp := Lib.hid hp
  have Hb1 := Lib.hid hb1
  have X1 := Lib.hid hx1
  have His := Lib.hid his
  clear hm hn hp hs2 hby hb1 hx1 his
  go_enter Tryz.func61, Tryz.ntmps61
  go_wp2_with (refine wpList_load_agg rfl 29 (.tmp 2) rfl ⟨w.heap.size, 0, none⟩ rfl (jobC j (.slice A j.srcs.length c)) X1.out.cells Tryz.underlying29 rfl infoJob15 ?_)
  refine (Hm.out _ Hb1.out).mono ?_
  rintro _ w2 ⟨rfl, hb2⟩
  have X2 := X1.out.below X1.out.lt hb2
  have hc3 := X2.cell 3 _ rfl
  have Hb2 := Lib.hid (bstep Hb1.out hb2)
  clear hb2 X2 Hm Hb1
  by_cases hlt : id < n
  · have hd : decide ((n : Int) ≤ (id : Int)) = false := decide_eq_false (by omega)
    obtain ⟨hmay, h1, h2⟩ := Hp.out hlt
    obtain ⟨-, -, p3, p4, -⟩ := mayJ_parts hmay
    have hq : (id : Int).tdiv (j.walks.toNat : Int) = ((id / j.walks.toNat : Nat) : Int) := by rw [Int.tdiv_eq_ediv_of_nonneg (by omega)]; omega
    have hz : ((j.walks.toNat : Int) == 0) = false := beq_eq_false_iff_ne.2 (by omega)
    have hz2 : ¬ (j.walks.toNat : Int) = 0 := by omega
    have hst : s = id / j.walks.toNat := by rw [Hs2.out, if_pos hlt]
    have HST := Lib.hid hst
    have h256 : s < 256 := by omega
    have His2 : Hid (is = true) := Lib.hid (by rw [His.out]; exact decide_eq_true hlt)
    clear hst h1 h2 hmay
    obtain ⟨wk, hwkq⟩ : ∃ wk, wk = j.walks.toNat := ⟨_, rfl⟩
    have hw1 : IntKind.u32.wrap ((id / j.walks.toNat : Nat) : Int) = ((id / j.walks.toNat : Nat) : Int) := by rw [IntKind.wrap_u32']; have := HST.out; omega
    have hw2 : IntKind.i64.wrap ((id / j.walks.toNat : Nat) : Int) = ((id / j.walks.toNat : Nat) : Int) := by rw [wrap_i64]; have := HST.out; omega
    clear hwkq
    go_wp2_with fail
    refine bodyPost_ret (results_tmp2 rfl _ _ _) rfl ?_
    have hqi : (id : Int) / (j.walks.toNat : Int) = (s : Int) := by rw [HST.out]; rfl
    exact ⟨by rw [His2.out]; simp [hqi, hw1, hw2, hq]; try omega, Hb2.out⟩
  · have hd : decide ((n : Int) ≤ (id : Int)) = true := decide_eq_true (by omega)
    go_wp2_with fail
    refine bodyPost_ret (results_tmp2 rfl _ _ _) rfl ?_
    exact ⟨by rw [Hs2.out, His.out, if_neg hlt, decide_eq_false hlt]; rfl, Hb2.out⟩
def newA (j : GJob) (id : Nat) : Nat := if id < walkersJ j then id else 0
def newAt (j : GJob) (id : Nat) : Nat := if id < walkersJ j then (j.srcs.getD (srcJ j id) 0).toNat else 0
def walkerC (a b : Nat) : List Value := [.int .u32 (a : Int), .int .u32 0, .int .u32 (b : Int), .int .u32 0, .int .u32 0, .int .u32 0, .int .u32 0]
theorem infoWalker : (Tryz.prog.info? 80).map (fun i => (i.zero, i.size, i.bytes)) = some (some (.agg #[.int .u32 0, .int .u32 0, .int .u32 0, .int .u32 0, .int .u32 0, .int .u32 0, .int .u32 0]), 7, 28) := by kernel_rfl
theorem infoWalker7 : (Tryz.prog.info? 80).map (·.size) = some 7 := by kernel_rfl
set_option maxRecDepth 100000 in
set_option maxHeartbeats 1600000 in
theorem new_any (w : World) (v : Value) (j : GJob) (id : Nat) (hid : id < 4294967296) (h : JobAt w w.heap.size v j) (hnd : j.srcs.Nodup) (hs : SortOk j.srcs) (is : Bool) (his : is = decide (id < walkersJ j)) :
    Calls Tryz.prog 35 #[v, .int .u32 (id : Int)] w fun e w' => e = .returned (.tuple #[.agg (walkerC (newA j id) (newAt j id)).toArray, .bool is]) ∧ Below w.heap.size w w' := by
  have hm := fun W (hW : Below w.heap.size w W) => source_any W v j id hid (h.step hW) hnd hs is his
  obtain ⟨vs, rfl, hby⟩ := h
  obtain ⟨A, c, rfl, hc1, hc2⟩ := hby.form
  have hp := @srcJ_lt j id
  obtain ⟨na, hna⟩ : ∃ na, na = newA j id := ⟨_, rfl⟩
  obtain ⟨nt, hnt⟩ : ∃ nt, nt = newAt j id := ⟨_, rfl⟩
  rw [← hna, ← hnt]
  obtain ⟨s, hs2⟩ : ∃ s, s = srcJ j id := ⟨_, rfl⟩
  unfold newA at hna
  unfold newAt at hnt
  rw [← hs2] at hm hnt
  have hs3 := hs2
  unfold srcJ at hs3
  obtain ⟨n, hn⟩ : ∃ n, n = walkersJ j := ⟨_, rfl⟩
  rw [← hn] at hs3 hp his hna hnt
  obtain ⟨w1, hw1⟩ : ∃ w1, w1 = (w.alloc (.cells (jobC j (.slice A j.srcs.length c)).toArray 29)).alloc (.cells (walkerC 0 0).toArray 80) := ⟨_, rfl⟩
  have hb1 : Below w.heap.size w w1 := by rw [hw1]; exact bstep (balloc _ _) (balloc _ _)
  have hx1 : BoxAt 29 w1 w.heap.size (jobC j (.slice A j.srcs.length c)) := by rw [hw1]; exact (BoxAt.new_ _ _ _).alloc _
  have hy1 : BoxAt 80 w1 (w.heap.size + 1) (walkerC 0 0) := by
    rw [hw1]
    have := BoxAt.new_ 80 (w.alloc (.cells (jobC j (.slice A j.srcs.length c)).toArray 29)) (walkerC 0 0)
    rwa [World.size_alloc] at this
  have Hm := Lib.hid hm
  have Hs3 := Lib.hid hs3
  have Hp := Lib.hid hp
  have Hb1 := Lib.hid hb1
  have X1 := Lib.hid hx1
  have Y1 := Lib.hid hy1
  have His := Lib.hid his
  have Hna := Lib.hid hna
  have Hnt := Lib.hid hnt
  have Hby := Lib.hid hby
  have Hw1 := Lib.hid hw1
  have hz1 : w1.heap.size = w.heap.size + 2 := by rw [hw1]; simp
  clear hm hn hp hs2 hs3 hby hb1 hx1 hy1 his hna hnt hw1
  go_enter Tryz.func35, Tryz.ntmps35
  go_wp2_with (first
    | (refine wpList_alloc_z rfl 80 rfl infoWalker (walkerC 0 0) rfl ?_)
    | (rw [← Hw1.out])
    | (refine wpList_load_agg rfl 29 (.tmp 2) rfl ⟨w.heap.size, 0, none⟩ rfl (jobC j (.slice A j.srcs.length c)) X1.out.cells Tryz.underlying29 rfl infoJob15 ?_))
  refine (Hm.out _ Hb1.out).mono ?_
  rintro _ w2 ⟨rfl, hb2⟩
  have X2 := X1.out.below X1.out.lt hb2
  have Y2 := Lib.hid (Y1.out.below Y1.out.lt hb2)
  have hc4 := X2.cell 4 _ rfl
  have Hb2 := Lib.hid (bstep Hb1.out hb2)
  have By2 := Lib.hid (Hby.out.below (Hb1.out.trans (hb2.mono (by omega))))
  clear hb2 X2 Hm Hb1
  by_cases hlt : id < n
  · obtain ⟨hmay, h1, h2⟩ := Hp.out hlt
    have hst : s = id / j.walks.toNat := by rw [Hs3.out, if_pos hlt]
    rw [← hst] at h1
    have hi : is = true := by rw [His.out]; exact decide_eq_true hlt
    subst hi
    have hst2 := Lib.hid hst
    obtain ⟨ad, hA, hab, hx⟩ := By2.out.cells s h1
    subst hA
    have HNA : Hid (na = id) := Lib.hid (by rw [Hna.out, if_pos hlt])
    have HNT : Hid (nt = (j.srcs[s]).toNat) := Lib.hid (by rw [Hnt.out, if_pos hlt]; simp [List.getD, h1])
    clear hst
    have h256 : s < 256 := by have := hst2.out; omega
    have Hone : Hid (∀ u ∈ (walkerC id (j.srcs[s]).toNat), u.oneCell' = true) := Lib.hid fun u hu => by
      simp [walkerC] at hu
      rcases hu with rfl | rfl | rfl | rfl <;> rfl
    go_wp2_with (first
      | (refine wpList_store_boxX rfl 80 80 (.tmp 4) (.tmp 23) rfl (w.heap.size + 1) (walkerC 0 0) (walkerC id (j.srcs[s]).toNat) rfl rfl Y2.out rfl Hone.out infoWalker7 ?_
         intro we hend hche hze))
    refine bodyPost_ret (results_ctX rfl _ _ (w.heap.size + 1) (walkerC id (j.srcs[s]).toNat) rfl (fun j v hj => (hend.cells j v hj : _)) Tryz.underlying80 rfl infoWalker7) rfl ?_
    exact ⟨by rw [HNA.out, HNT.out]; rfl, Hb2.out.trans (hche.below (B := w.heap.size) Hb2.out.size (fun k hk => by omega))⟩
  · have hi : is = false := by rw [His.out]; exact decide_eq_false hlt
    subst hi
    have HNA : Hid (na = 0) := Lib.hid (by rw [Hna.out, if_neg hlt])
    have HNT : Hid (nt = 0) := Lib.hid (by rw [Hnt.out, if_neg hlt])
    have Hone : Hid (∀ u ∈ (walkerC 0 0), u.oneCell' = true) := Lib.hid fun u hu => by
      simp [walkerC] at hu
      subst hu; rfl
    go_wp2_with (first
      | (refine wpList_store_boxX rfl 80 80 (.tmp 4) (.tmp 16) rfl (w.heap.size + 1) (walkerC 0 0) (walkerC 0 0) rfl rfl Y2.out rfl Hone.out infoWalker7 ?_
         intro we hend hche hze))
    refine bodyPost_ret (results_ctX rfl _ _ (w.heap.size + 1) (walkerC 0 0) rfl (fun j v hj => (hend.cells j v hj : _)) Tryz.underlying80 rfl infoWalker7) rfl ?_
    exact ⟨by rw [HNA.out, HNT.out]; rfl, Hb2.out.trans (hche.below (B := w.heap.size) Hb2.out.size (fun k hk => by omega))⟩
end Go.Proofs.YtcffeepgfjpcaaaGreat

namespace Go.Proofs.YtcffeepgfjpcaaaGreat
set_option linter.unusedSimpArgs false
set_option linter.unusedVariables false
open Go.RowKit

def mixA (n : UInt64) : UInt64 := n + 11400714819323198485
def mixB (n : UInt64) : UInt64 := (n ^^^ (n >>> 30)) * 13787848793156543929
def mixD (n : UInt64) : UInt64 := (n ^^^ (n >>> 27)) * 10723151780598845931
def mixE (n : UInt64) : UInt64 := n ^^^ (n >>> 31)
def mixU (n : UInt64) : UInt64 := mixE (mixD (mixB (mixA n)))
theorem mixA_int (n : UInt64) : IntKind.u64.wrap ((n.toNat : Int) + 11400714819323198485) = ((mixA n).toNat : Int) := add_u64 n 11400714819323198485
theorem mixX_int (n : UInt64) (k : Nat) (hk : k < 64) (d : Int) (hd : d = 2 ^ k) : bits .xor .u64 (n.toNat : Int) ((n.toNat : Int) / d) = ((n ^^^ (n >>> UInt64.ofNat k)).toNat : Int) := by
  rw [div_u64 n k hk d hd, xor_u64]
theorem mixB_int (n : UInt64) : IntKind.u64.wrap (bits .xor .u64 (n.toNat : Int) ((n.toNat : Int) / 1073741824) * 13787848793156543929) = ((mixB n).toNat : Int) := by
  rw [mixX_int n 30 (by decide) _ (by decide)]
  exact mul_u64 (n ^^^ (n >>> 30)) 13787848793156543929
theorem mixD_int (n : UInt64) : IntKind.u64.wrap (bits .xor .u64 (n.toNat : Int) ((n.toNat : Int) / 134217728) * 10723151780598845931) = ((mixD n).toNat : Int) := by
  rw [mixX_int n 27 (by decide) _ (by decide)]
  exact mul_u64 (n ^^^ (n >>> 27)) 10723151780598845931
theorem mixE_int (n : UInt64) : bits .xor .u64 (n.toNat : Int) ((n.toNat : Int) / 2147483648) = ((mixE n).toNat : Int) := mixX_int n 31 (by decide) _ (by decide)
set_option maxRecDepth 100000 in
set_option maxHeartbeats 800000 in
theorem mix_any (w : World) (n : UInt64) : Calls Tryz.prog 135 #[.int .u64 (n.toNat : Int)] w fun e w' => e = .returned (.int .u64 ((mixU n).toNat : Int)) ∧ w = w' := by
  have hA := mixA_int n
  have hB := mixB_int (mixA n)
  have hD := mixD_int (mixB (mixA n))
  have hE := mixE_int (mixD (mixB (mixA n)))
  unfold mixU
  generalize mixE (mixD (mixB (mixA n))) = ne at *
  generalize mixD (mixB (mixA n)) = nd at *
  generalize mixB (mixA n) = nb at *
  generalize mixA n = na at *
  have b0 := u64_lt n
  have b1 := u64_lt na
  have b2 := u64_lt nb
  have b3 := u64_lt nd
  have HA := Lib.hid hA
  have HB := Lib.hid hB
  have HD := Lib.hid hD
  have HE := Lib.hid hE
  clear hA hB hD hE
  go_enter Tryz.func135, Tryz.ntmps135
  go_upto_region 2 with fail
  rw [HA.out]
  go_upto_region 3 with fail
  rw [HB.out]
  go_upto_region 4 with fail
  rw [HD.out]
  go_wp2_with fail
  go_ret
  rw [← HE.out]
  exact ⟨rfl, rfl⟩
theorem mix_q (w : World) (x : UInt64) (n : Nat) : Calls Tryz.prog 135 #[.int .u64 (x.toNat : Int)] (w.drewN n) fun e w' => e = .returned (.int .u64 ((mixU x).toNat : Int)) ∧ ∃ m, w' = w.drewN m :=
  (mix_any (w.drewN n) x).mono fun _ _ ⟨h1, h2⟩ => ⟨h1, n, h2.symm⟩
def drawU (s k t a : UInt64) : UInt64 := mixU (mixU (mixU (mixU s ^^^ k) ^^^ t) ^^^ a)
def tapeC (s k t a : UInt64) : List Value := [.int .u64 (s.toNat : Int), .int .u64 (k.toNat : Int), .int .u64 (t.toNat : Int), .int .u64 (a.toNat : Int)]
set_option maxRecDepth 100000 in
set_option maxHeartbeats 1600000 in
theorem draw_any (w : World) (s k t a : UInt64) : Calls Tryz.prog 134 #[.agg (tapeC s k t a).toArray] w fun e w' => e = .returned (.int .u64 ((drawU s k t a).toNat : Int)) ∧ Below w.heap.size w w' := by
  obtain ⟨w0, hw0⟩ : ∃ w0, w0 = w.alloc (.cells (tapeC s k t a).toArray 194) := ⟨_, rfl⟩
  have hb0 : Below w.heap.size w w0 := by rw [hw0]; exact balloc w _
  have hx0 : BoxAt 194 w0 w.heap.size (tapeC s k t a) := by rw [hw0]; exact BoxAt.new_ _ _ _
  have Hw0 := Lib.hid hw0
  have Hb0 := Lib.hid hb0
  have hc0 := hx0.cell 0 _ rfl
  have hc1 := hx0.cell 1 _ rfl
  have hc2 := hx0.cell 2 _ rfl
  have hc3 := hx0.cell 3 _ rfl
  have hcs : tapeC s k t a = [.int .u64 (s.toNat : Int), .int .u64 (k.toNat : Int), .int .u64 (t.toNat : Int), .int .u64 (a.toNat : Int)] := rfl
  have hm1 := mix_q w0 s
  have hx1 := xor_u64 (mixU s) k
  have hm2 := mix_q w0 (mixU s ^^^ k)
  have hx2 := xor_u64 (mixU (mixU s ^^^ k)) t
  have hm3 := mix_q w0 (mixU (mixU s ^^^ k) ^^^ t)
  have hx3 := xor_u64 (mixU (mixU (mixU s ^^^ k) ^^^ t)) a
  have hm4 := mix_q w0 (mixU (mixU (mixU s ^^^ k) ^^^ t) ^^^ a)
  rw [hcs] at Hw0 ⊢
  unfold drawU
  clear hw0 hb0 hx0 hcs
  generalize mixU (mixU (mixU (mixU s ^^^ k) ^^^ t) ^^^ a) = r4 at *
  generalize mixU (mixU (mixU s ^^^ k) ^^^ t) ^^^ a = q3 at *
  generalize mixU (mixU (mixU s ^^^ k) ^^^ t) = r3 at *
  generalize mixU (mixU s ^^^ k) ^^^ t = q2 at *
  generalize mixU (mixU s ^^^ k) = r2 at *
  generalize mixU s ^^^ k = q1 at *
  generalize mixU s = r1 at *
  have M1 := Lib.hid hm1
  have M2 := Lib.hid hm2
  have M3 := Lib.hid hm3
  have M4 := Lib.hid hm4
  clear hm1 hm2 hm3 hm4
  go_enter Tryz.func134, Tryz.ntmps134
  go_upto_region 1 with fail
  rw [← Hw0.out]
  go_quiet ((go_at_call 135; first | with_reducible exact M1.out _ | with_reducible exact M2.out _ | with_reducible exact M3.out _ | with_reducible exact M4.out _))
  go_wp2_with fail
  go_ret
  exact ⟨rfl, bdrewN Hb0.out _⟩
end Go.Proofs.YtcffeepgfjpcaaaGreat

namespace Go.Proofs.YtcffeepgfjpcaaaGreat
set_option linter.unusedSimpArgs false
set_option linter.unusedVariables false
open Go.RowKit Go.Shelf
attribute [local go_sem] Oper.semAt_some

/-- what a round keeps: each block of cells, but those of B -/
structure Kp (B : Nat → Prop) (W W' : World) : Prop where
  size : W.heap.size ≤ W'.heap.size
  same : ∀ (k : Nat) (o : Obj), ¬ B k → W.heap[k]? = some o → o.isCells = true → W'.heap[k]? = some o
section
variable {B : Nat → Prop} {W W' W'' : World}
theorem Kp.refl (B : Nat → Prop) (W : World) : Kp B W W := ⟨Nat.le_refl _, fun _ _ _ h _ => h⟩
theorem Kp.trans (h : Kp B W W') (k : Kp B W' W'') : Kp B W W'' := ⟨Nat.le_trans h.size k.size, fun i o hi h1 h2 => k.same i o hi (h.same i o hi h1 h2) h2⟩
theorem Kp.putObj (B : Nat → Prop) (m : Nat) (W : World) (l : Nat) (o o' : Obj) (_ : m ≤ l) (ho : W.heap[l]? = some o) (hc : o.isCells = false) (_ : o.isWalk = false) : Kp B W (W.putObj l o') :=
  ⟨(grownBy_putObj' W l o').size, fun k q _ hk hq => by
    have hne : k ≠ l := fun e => by subst e; rw [ho] at hk; injection hk with hk; subst hk; rw [hc] at hq; cases hq
    exact ((grownBy_putObj' W l o').block k (Array.getElem?_eq_some_iff.1 hk).1 (fun e => hne (by injection e))).trans hk⟩
theorem Kp.ofGrown {row : Option Nat} (h : W.grownBy W' row) (hr : ∀ k, row = some k → B k) : Kp B W W' :=
  ⟨h.size, fun k o hb hk _ => (h.block k (Array.getElem?_eq_some_iff.1 hk).1 (fun e => hb (hr k e.symm))).trans hk⟩
theorem Kp.set (W : World) (p : Addr) (u : Value) (h : B p.block) : Kp B W (W.setCell p u) := Kp.ofGrown (gset W p u) fun k e => by injection e with e; rw [← e]; exact h
theorem Kp.alloc (B : Nat → Prop) (W : World) (o : Obj) : Kp B W (W.alloc o) := Kp.ofGrown (gbelow (balloc W o) none) fun _ e => by cases e
theorem Kp.drew (B : Nat → Prop) (W : World) : Kp B W W.drew := ⟨Nat.le_refl _, fun _ _ _ h _ => h⟩
theorem Kp.drewN (B : Nat → Prop) (W : World) (n : Nat) : Kp B W (W.drewN n) := ⟨Nat.le_refl _, fun _ _ _ h _ => h⟩
theorem Kp.ofBelow (h : Below W.heap.size W W') : Kp B W W' := Kp.ofGrown (gbelow h none) fun _ e => by cases e
theorem Kp.cell (h : Kp B W W') {p : Addr} {v : Value} (hp : W.cell? p = some v) (hb : ¬ B p.block) : W'.cell? p = some v := by
  cases ho : W.heap[p.block]? with
  | none => simp [World.cell?, ho] at hp
  | some o =>
    cases o with
    | cells c e fr =>
      have := h.same _ _ hb ho rfl
      simp only [World.cell?, ho] at hp
      simp only [World.cell?, this]
      exact hp
    | _ => simp [World.cell?, ho] at hp
theorem Kp.row {α : Type} {C : Cdc α} {B0 : Nat} {v : Value} {l : List α} (hC : ∀ w cs x, C.at_ w (fun _ => True) cs x → C.at_ W' (fun _ => True) cs x) (hk : Kp B W W') (hB : ∀ k, B k → B0 ≤ k) (h : RowOn C W (fun k => k < B0) (fun _ => True) v l) : RowOn C W' (fun k => k < B0) (fun _ => True) v l := by
  obtain ⟨A, c, h1, h2, h3, h4⟩ := h
  refine ⟨A, c, h1, h2, h3, fun hn => ?_⟩
  obtain ⟨ad, e, hb', hc⟩ := h4 hn
  refine ⟨ad, e, hb', fun i x hx => ?_⟩
  obtain ⟨cs, ha, hcs⟩ := hc i x hx
  exact ⟨cs, hC _ _ _ ha, fun j u hu => hk.cell (hcs j u hu) fun hb => by have := hB _ hb; rw [add_block] at this; omega⟩
theorem Kp.box {T : TypeId} {g : Nat} {cs : List Value} (hk : Kp B W W') (hb : ¬ B g) (h : BoxAt T W g cs) : BoxAt T W' g cs := hk.same g _ hb h rfl
end

/-- what has come when k rounds are over -/
def upto {α : Type} (f : Nat → α) (k : Nat) : List α := (List.range k).map f
theorem upto_succ {α : Type} (f : Nat → α) (k : Nat) : upto f (k + 1) = upto f k ++ [f k] := by simp [upto, List.range_succ]
theorem upto_length {α : Type} (f : Nat → α) (k : Nat) : (upto f k).length = k := by simp [upto]
theorem upto_mem {α : Type} (f : Nat → α) (k : Nat) (x : α) : x ∈ upto f k ↔ ∃ j, j < k ∧ f j = x := by simp [upto]
theorem BoxAt.ownk {T : TypeId} {g : Nat} {cs : List Value} {X Y : World} {row : Option Nat} (hb : BoxAt T X g cs) (hg : X.grownBy Y row) (hr : ∀ r, row = some r → ∃ o : Obj, X.heap[r]? = some o ∧ o.isCells = false) : BoxAt T Y g cs :=
  hb.grown hg fun e => by
    obtain ⟨o, ho, hc⟩ := hr _ e
    rw [show _ = _ from hb] at ho
    injection ho with ho
    subst ho
    cases hc

/-! ### whole things, within a fence -/
section
variable {F : Fence} {n : Nat} {ops : Array Oper} {rest : List Oper} {o : Oper} {a : Act} {w : World} {Q : Exit → Act → World → Prop}
theorem wpListIn_load_agg (hgd : o.guard = none) (T : TypeId) (x : Operand) (ho : o.op = .load T x)
    (ad : Addr) (hx : a.eval x = .pointer (some ad)) (cs : List Value) (hc : ∀ (j : Nat) (v : Value), cs[j]? = some v → w.cell? (ad.add j) = some v) {d : TypeDesc} (hu : Tryz.prog.underlying T = some d)
    (hd : (match d with | .struct _ | .array _ _ => true | _ => false) = true) (hi : (Tryz.prog.info? T).map (·.size) = some cs.length)
    (h : wpListIn F n Tryz.prog ops Q rest (a.put o.dst (.agg cs.toArray)) w) : wpListIn F n Tryz.prog ops Q (o :: rest) a w :=
  wpListIn_plain hgd fun K hK => by
    unfold Oper.wpIn
    refine ⟨by simp [Oper.about, ho], ?_⟩
    rw [Oper.semAt_plain F _ _ (by rw [ho]; intro c hc'; cases hc')]
    unfold execOp
    simp only [ho, hx, Instr.loadAt, Instr.sureAddr, Sem.run_bind, Sem.run_pure, Result.andThen_ok, run_loadVar_cells w ad T cs hc hu hd hi]
    exact hK _ _ h
theorem wpListIn_store_box (hgd : o.guard = none) (T T' : TypeId) (x y : Operand) (ho : o.op = .store T x y)
    (g : Nat) (cs ds : List Value) (hx : a.eval x = .pointer (some ⟨g, 0, none⟩)) (hy : a.eval y = .agg ds.toArray) (hs : BoxAt T' w g cs) (hl : ds.length = cs.length) (h1 : ∀ u ∈ ds, u.oneCell' = true)
    (hi : (Tryz.prog.info? T).map (·.size) = some ds.length)
    (h : BoxAt T' (w.setRow g ds.toArray) g ds → wpListIn F n Tryz.prog ops Q rest (a.put o.dst undef) (w.setRow g ds.toArray)) : wpListIn F n Tryz.prog ops Q (o :: rest) a w :=
  wpListIn_plain hgd fun K hK => by
    unfold Oper.wpIn
    refine ⟨by simp [Oper.about, ho], ?_⟩
    rw [Oper.semAt_plain F _ _ (by rw [ho]; intro c hc'; cases hc')]
    have hst := run_storeVar_row (P := Tryz.prog) w g T' T cs.toArray ds.toArray hs (by simpa using hi) (by simpa using hl) (by simpa using h1)
    unfold execOp
    simp only [ho, hx, hy, Instr.storeAt, Instr.sureAddr, Sem.run_bind, Sem.run_pure, Result.andThen_ok, hst]
    exact hK _ _ (h (hs.setRow ds))
theorem wpListIn_alloc_z (hgd : o.guard = none) (T : TypeId) (ho : o.op = .alloc T) {z : Value} {m bytes : Nat}
    (hinfo : (Tryz.prog.info? T).map (fun i => (i.zero, i.size, i.bytes)) = some (some z, m, bytes)) (cs : List Value) (hz : z.cells = cs.toArray)
    (h : wpListIn F n Tryz.prog ops Q rest (a.put o.dst (.pointer (some ⟨w.heap.size, 0, none⟩))) (w.alloc (.cells cs.toArray T))) : wpListIn F n Tryz.prog ops Q (o :: rest) a w :=
  wpListIn_plain hgd fun K hK => by
    obtain ⟨i, hi, hz0, hz1, hby⟩ := info_parts hinfo
    have hr : (Instr.alloc T true (.tuple #[])).run Tryz.prog w = .ok (.pointer (some ⟨w.heap.size, 0, none⟩)) (w.alloc (.cells cs.toArray T)) := by
      simp [Instr.alloc, Sem.run_bind, zeroValue, typeInfo, hi, hz0, newVar, newRow, hz]
    unfold Oper.wpIn
    refine ⟨by simp [Oper.about, ho], ?_⟩
    rw [Oper.semAt_plain F _ _ (by rw [ho]; intro c hc'; cases hc')]
    unfold execOp
    simp only [ho, Sem.run_bind, hr, Result.andThen_ok]
    exact hK _ _ h
theorem wpListIn_store_new (hgd : o.guard = none) (T : TypeId) (x y : Operand) (ho : o.op = .store T x y)
    (cs ds : List Value) (hx : a.eval x = .pointer (some ⟨w.heap.size, 0, none⟩)) (hy : a.eval y = .agg ds.toArray) (hi : (Tryz.prog.info? T).map (·.size) = some ds.length) (hl : cs.length = ds.length) (h1 : ∀ u ∈ ds, u.oneCell' = true)
    (h : wpListIn F n Tryz.prog ops Q rest (a.put o.dst undef) (w.alloc (.cells ds.toArray T))) : wpListIn F n Tryz.prog ops Q (o :: rest) a (w.alloc (.cells cs.toArray T)) :=
  wpListIn_plain hgd fun K hK => by
    unfold Oper.wpIn
    refine ⟨by simp [Oper.about, ho], ?_⟩
    rw [Oper.semAt_plain F _ _ (by rw [ho]; intro c hc'; cases hc')]
    unfold execOp
    simp only [ho, hx, hy, Instr.storeAt, Instr.sureAddr, Sem.run_bind, Sem.run_pure, Result.andThen_ok, run_storeVar_new w T cs.toArray ds.toArray (by simpa using hi) (by simpa using hl) (all_oneCell_toArray h1)]
    exact hK _ _ h
end
/-! ### bytes in a block of the call's own, of whatever array type -/
theorem By.ofBox {T : TypeId} {w : World} {g : Nat} {l : List UInt8} (h : BoxAt T w g (b8s l)) (hm : l.length ≤ maxLen) : By w w.heap.size (.slice (some ⟨g, 0, none⟩) l.length l.length) l :=
  ⟨_, _, rfl, Nat.le_refl _, hm, by rw [b8s_length]; omega, fun _ => ⟨_, rfl, h.lt, h.cells⟩⟩
/-- v reads as l, in a block from B on (or is nil), and may be written -/
def Fresh (B : Nat) (w : World) (v : Value) (l : List UInt8) : Prop :=
  (v = .slice none 0 0 ∧ l = []) ∨ ∃ g c T cs, v = .slice (some ⟨g, 0, none⟩) l.length c ∧ l.length ≤ c ∧ c ≤ maxLen ∧ B ≤ g ∧ BoxAt T w g cs ∧ ∀ (j : Nat) (u : Value), (b8s l)[j]? = some u → cs[j]? = some u
section
variable {B : Nat} {w w' : World} {v : Value} {l : List UInt8}
theorem Fresh.nil_ : Fresh B w (.slice none 0 0) [] := .inl ⟨rfl, rfl⟩
theorem Fresh.by_ (h : Fresh B w v l) : By w w.heap.size v l := by
  rcases h with ⟨rfl, rfl⟩ | ⟨g, c, T, cs, rfl, h1, h2, h3, h4, h5⟩
  · exact By.nil_
  · exact ⟨_, _, rfl, h1, h2, by rw [b8s_length]; omega, fun _ => ⟨_, rfl, h4.lt, fun j u hu => h4.cells j u (h5 j u hu)⟩⟩
theorem Fresh.form (h : Fresh B w v l) : ∃ A c, v = .slice A l.length c ∧ l.length ≤ c ∧ c ≤ maxLen := by
  rcases h with ⟨rfl, rfl⟩ | ⟨g, c, T, cs, rfl, h1, h2, h3, h4⟩
  · exact ⟨none, 0, rfl, Nat.le_refl _, Nat.zero_le _⟩
  · exact ⟨_, c, rfl, h1, h2⟩
theorem Fresh.more {B' : Nat} (h : Fresh B w v l) (hB : B' ≤ B) : Fresh B' w v l := by
  rcases h with h | ⟨g, c, T, cs, h0, h1, h2, h3, h4⟩
  · exact .inl h
  · exact .inr ⟨g, c, T, cs, h0, h1, h2, Nat.le_trans hB h3, h4⟩
theorem Fresh.below_ (h : Fresh B w v l) (hb : Below w.heap.size w w') : Fresh B w' v l := by
  rcases h with h | ⟨g, c, T, cs, h0, h1, h2, h3, h4, h5⟩
  · exact .inl h
  · exact .inr ⟨g, c, T, cs, h0, h1, h2, h3, h4.below h4.lt hb, h5⟩
theorem Fresh.blk (h : Fresh B w v l) : ∀ q, v.ownBlock = some q → B ≤ q ∧ q < w.heap.size := by
  rcases h with ⟨rfl, rfl⟩ | ⟨g, c, T, cs, rfl, h1, h2, h3, h4, h5⟩
  · intro q hq; simp [Value.ownBlock] at hq
  · intro q hq
    have e : g = q := by injection hq
    subst e
    exact ⟨h3, h4.lt⟩
theorem Fresh.grown {row : Option Nat} (h : Fresh B w v l) (hg : w.grownBy w' row) (hne : ∀ q, v.ownBlock = some q → row ≠ some q) : Fresh B w' v l := by
  rcases h with h | ⟨g, c, T, cs, h0, h1, h2, h3, h4, h5⟩
  · exact .inl h
  · exact .inr ⟨g, c, T, cs, h0, h1, h2, h3, h4.grown hg (hne g (by rw [h0]; rfl)), h5⟩
theorem Fresh.chg {P : Nat → Prop} (h : Fresh B w v l) (hc : Chg P w w') (hn : ∀ q, v.ownBlock = some q → ¬ P q) : Fresh B w' v l := by
  rcases h with h | ⟨g, c, T, cs, h0, h1, h2, h3, h4, h5⟩
  · exact .inl h
  · exact .inr ⟨g, c, T, cs, h0, h1, h2, h3, h4.chg hc (hn g (by rw [h0]; rfl)), h5⟩
/-- a cell of it, and its being written -/
theorem Fresh.put {A : Option Addr} {n c : Nat} (h : Fresh B w (.slice A n c) l) (k : Nat) (hk : k < l.length) : ∃ g, A = some ⟨g, 0, none⟩ ∧ B ≤ g ∧ g < w.heap.size ∧ w.frozen? ⟨g, k, none⟩ = false ∧ w.cell? ⟨g, k, none⟩ = some (.int .u8 ((l[k]).toNat : Int)) ∧
    ∀ b : UInt8, Fresh B (w.setCell ⟨g, k, none⟩ (.int .u8 (b.toNat : Int))) (.slice A n c) (l.set k b) := by
  rcases h with ⟨h, rfl⟩ | ⟨g, c', T, cs, e, h1, h2, h3, h4, h5⟩
  · simp at hk
  · injection e with e1 e2 e3
    subst e1; subst e2; subst e3
    have hkc := h5 k _ (b8s_get l k hk)
    have hkl : k < cs.length := (List.getElem?_eq_some_iff.1 hkc).1
    refine ⟨g, rfl, h3, h4.lt, h4.frozen k, h4.cell k _ hkc, fun b => .inr ⟨g, c, T, cs.set k (b8 b), by rw [List.length_set], by rw [List.length_set]; exact h1, h2, h3, h4.put k (b8 b), fun j u hu => ?_⟩⟩
    have e : b8s (l.set k b) = (b8s l).set k (b8 b) := by unfold b8s; rw [List.map_set]
    rw [e, List.getElem?_set] at hu
    rw [List.getElem?_set]
    by_cases hkj : k = j
    · subst hkj
      rw [if_pos rfl, if_pos (by rw [b8s_length]; exact hk)] at hu
      rw [if_pos rfl, if_pos hkl]; exact hu
    · rw [if_neg hkj] at hu ⊢
      exact h5 j u hu
theorem Fresh.front {A : Option Addr} {n c k : Nat} (h : Fresh B w (.slice A n c) l) (hk : k ≤ l.length) (hk0 : 0 < k) : Fresh B w (.slice A k c) (l.take k) := by
  rcases h with ⟨h, rfl⟩ | ⟨g, c', T, cs, e, h1, h2, h3, h4, h5⟩
  · simp at hk; omega
  · injection e with e1 e2 e3
    subst e1; subst e3
    refine .inr ⟨g, c, T, cs, by simp [hk], by simp; omega, h2, h3, h4, fun j u hu => h5 j u ?_⟩
    unfold b8s at hu ⊢
    rw [List.map_take, List.getElem?_take] at hu
    split at hu
    · exact hu
    · cases hu
theorem Ow.fresh {base : Nat} (h : Ow w base v l) : Fresh base w v l := by
  obtain ⟨hz, h2⟩ := h
  rcases h2 with ⟨rfl, hn⟩ | ⟨g, cap, cur, rfl, hg, hh, h3, h4, h5, h6⟩
  · exact .inl ⟨rfl, List.eq_nil_of_length_eq_zero hn⟩
  · refine .inr ⟨g, cap, _, cur.toList, rfl, h3, h4, hg, hh, fun j u hu => ?_⟩
    rw [← h6, List.getElem?_take] at hu
    split at hu
    · exact hu
    · cases hu
end
end Go.Proofs.YtcffeepgfjpcaaaGreat

namespace Go.Proofs.YtcffeepgfjpcaaaGreat
set_option linter.unusedSimpArgs false
set_option linter.unusedVariables false
open Go.RowKit Go.Shelf

/-- what an iterator promises: S: all have come; Sp: a part -/
def IterX {α : Type} (P : Program) (n gf : Nat) (lb : Array Value) (encs : α → Array Value) (Kr : World → World → Prop) (R : List α → α → World → Prop) (S : List α → World → Prop) (Sp : List α → Prop) (Bd : List α → Prop) (w : World) : Prop :=
  ∀ (l : Nat) (J Jx : List α → World → Prop) (W : World), Below w.heap.size w W → AbidesFrom W.heap.size J → AbidesFrom W.heap.size Jx →
    (∀ pre x W1, J pre W1 → R pre x W1 → Bd pre → YieldAt Fence.wide (n - 1) P l (encs x) W1 fun e W' =>
      (e = .returned (.bool true) ∧ J (pre ++ [x]) W' ∧ Kr W1 W' ∧ Bd (pre ++ [x])) ∨ (e = .returned (.bool false) ∧ Jx (pre ++ [x]) W')) → J [] W →
    CallsIn Fence.wide n P gf (#[.func (.yield l) #[] #[]] ++ lb) W fun e W' => (∃ v, e = .returned v) ∧ ((∃ xs, S xs W' ∧ J xs W') ∨ ∃ pre, Sp pre ∧ Jx pre W')

/-- how the body of a round may be left -/
def postX {α : Type} (B : Nat) (Kr : World → World → Prop) (I : List α → World → Prop) (Ix : Code → List α → World → Prop) (Bd : List α → Prop) (xs : List α) (W : World) : Exit → Act → World → Prop
  | .normal, _, W' => KeepsFrom B W W' ∧ Kr W W' ∧ I xs W' ∧ Bd xs
  | .ret, _, W' => KeepsFrom B W W' ∧ Ix .ret xs W'
  | .exit id, _, W' => KeepsFrom B W W' ∧ Ix (.exit id) xs W'
  | .goto _, _, _ => False
  | .panic _, _, _ => False
  | .outgrown, _, _ => False

theorem range_x {α : Type} {P : Program} {g : Operand} {ps : Array Tmp} {assign body : Code} {Q : Exit → Act → World → Prop} {a : Act} {w : World} {n gf : Nat} {lb : Array Value}
    (hg : a.eval g = .func (.func gf) #[] lb) (eg : ∀ args w, (callFunc gf args).run P w = .ok (.enter gf args) w)
    {encs : α → Array Value} {Kr : World → World → Prop} (hKt : ∀ {X Y Z : World}, Kr X Y → Kr Y Z → Kr X Z) (hKp : ∀ (W : World) (q : Nat) (o o' : Obj), w.heap.size ≤ q → W.heap[q]? = some o → o.isCells = false → Kr W (W.putObj q o')) {R : List α → α → World → Prop} {S : List α → World → Prop} {Sp Bd : List α → Prop} (hps : ∀ x, (encs x).size = ps.size) (hit : IterX P (n - 1) gf lb encs Kr R S Sp Bd w)
    (I : List α → World → Prop) (Ix : Code → List α → World → Prop) (hI : OwnFrom w.heap.size I) (hIx : ∀ c, OwnFrom w.heap.size (Ix c)) (hS : OwnFrom w.heap.size S) (h0 : I [] w)
    (Ax : Act → List α → α → Act → World → Prop) (hAx : ∀ pre x a', OwnFrom w.heap.size (fun (_ : Unit) W => Ax a pre x a' W))
    (hassign : ∀ (l : Nat) (pre : List α) (x : α) (W : World), w.heap.size ≤ l → I pre W → R pre x W →
      assign.wpIn (Fence.wide.inRound l) (n - 1 - 1) P (fun e a' W' => e = .normal ∧ KeepsFrom w.heap.size W W' ∧ Kr W W' ∧ Ax a pre x a' W') { tmps := (ps.zip (encs x)).foldl (fun t (p, v) => t.setIfInBounds p v) a.tmps, defers := [] } W)
    (hbody : ∀ (l : Nat) (pre : List α) (x : α) (a' : Act) (W : World), w.heap.size ≤ l → Ax a pre x a' W → Bd pre →
      body.wpIn (Fence.wide.inRound l) (n - 1 - 1) P (postX w.heap.size Kr I Ix Bd (pre ++ [x]) W) a' W)
    (hdone : ∀ (D : Nat) (xs : List α) (W : World), w.heap.size ≤ D → S xs W → I xs W → W.heap[D]? = some (.deferred (some [])) → Q .normal { a with defers := { target := .collected D, args := #[] } :: a.defers } W)
    (hstop : ∀ (D : Nat) (c : Code) (pre : List α) (W : World), w.heap.size ≤ D → Sp pre → Ix c pre W → W.heap[D]? = some (.deferred (some [])) → c.wpIn Fence.wide n P Q { a with defers := { target := .collected D, args := #[] } :: a.defers } W) :
    (Code.rangeFunc g ps assign body).wpIn Fence.wide n P Q a w := by
  refine wpIn_rangeFunc fun fn hfn => ?_
  obtain ⟨L, hL⟩ : ∃ L, L = w.heap.size + 1 := ⟨_, rfl⟩
  obtain ⟨lp, hlp⟩ : ∃ lp : LoopState → Option Code → Loop, lp = fun st pe => { state := st, pending := pe, fn, tmps := a.tmps, params := ps, assign, body, defers := w.heap.size } := ⟨_, rfl⟩
  have e1 : ∀ st pe, ({ lp st pe with state := .busy } : Loop) = lp .busy pe := fun st pe => by rw [hlp]
  have e2 : ∀ st st' pe, ({ lp st pe with state := st' } : Loop) = lp st' pe := fun st st' pe => by rw [hlp]
  have e3 : ∀ st st' pe pe', ({ lp st pe with state := st', pending := pe' } : Loop) = lp st' pe' := fun st st' pe pe' => by rw [hlp]
  obtain ⟨W1, hW1⟩ : ∃ W1, W1 = (w.alloc (.deferred (some []))).alloc (.loop (lp .ready none)) := ⟨_, rfl⟩
  have hsz1 : W1.heap.size = w.heap.size + 2 := by rw [hW1]; simp
  have hl1 : W1.heap[L]? = some (.loop (lp .ready none)) := by
    rw [hW1, hL]
    have := World.alloc_heap_new (w.alloc (.deferred (some []))) (.loop (lp .ready none))
    rwa [World.size_alloc] at this
  have hd1 : W1.heap[w.heap.size]? = some (.deferred (some [])) := by rw [hW1]; exact (heap_alloc_old _ _ (by simp)).trans (World.alloc_heap_new w _)
  have hb1 : Below w.heap.size w W1 := by rw [hW1]; exact bstep (balloc _ _) (balloc _ _)
  have hi1 : I [] W1 := by rw [hW1]; exact hI.alloc _ (hI.alloc _ h0)
  have hkb : ∀ (W : World) (st : LoopState) (pe : Option Code) (o' : Obj), W.heap[L]? = some (.loop (lp st pe)) → Kr W (W.putObj L o') := fun W st pe o' h => hKp W L _ o' (by omega) h rfl
  have hrow : ∀ {A : World} {row : Option Nat}, (∀ r, row = some r → W1.heap.size ≤ r ∧ ∃ o : Obj, A.heap[r]? = some o ∧ o.isWalk = true) → (∀ r, row = some r → w.heap.size ≤ r ∧ ∃ o : Obj, A.heap[r]? = some o ∧ o.isCells = false) := fun hr r e => by
    obtain ⟨hB, o, ho, hw⟩ := hr r e
    exact ⟨by omega, o, ho, Obj.not_cells_of_walk hw⟩
  have keep : ∀ {A C : World} {row : Option Nat}, A.grownBy C row → (∀ r, row = some r → W1.heap.size ≤ r ∧ ∃ o : Obj, A.heap[r]? = some o ∧ o.isWalk = true) → ∀ (q : Nat) (o : Obj), A.heap[q]? = some o → o.isWalk = false → C.heap[q]? = some o := fun hgr hr q o ho hw => by
    refine (hgr.block q (Array.getElem?_eq_some_iff.1 ho).1 fun e => ?_).trans ho
    obtain ⟨_, o', ho', hw'⟩ := hr q e.symm
    rw [ho] at ho'
    injection ho' with ho'
    rw [ho', hw'] at hw
    cases hw
  refine ⟨L, [{ target := .collected w.heap.size, args := #[] }], W1, { target := .fn (.func gf) lb, args := #[.func (.yield L) #[] #[]] }, W1, gf, #[.func (.yield L) #[] #[]] ++ lb, W1, ?_, ?_, fun _ _ => trivial, ?_, fun h => by simp [Fence.wide] at h, ?_⟩
  · have := run_enterLoop_outer (P := P) (w := w) fn a.tmps ps assign body
    rw [hW1, hL, hlp]
    exact this
  · simp only [resolve, hg]
    simp [go_sem]
  · simp [invoke, go_sem, eg]
  refine (hit L (fun pre W => I pre W ∧ W.heap[L]? = some (.loop (lp .ready none)) ∧ W.heap[w.heap.size]? = some (.deferred (some [])))
    (fun pre W => ∃ c, Ix c pre W ∧ W.heap[L]? = some (.loop (lp .done (some c))) ∧ W.heap[w.heap.size]? = some (.deferred (some []))) W1 hb1 ?_ ?_ ?_ ⟨hi1, hl1, hd1⟩).mono ?_
  · rintro s A C row ⟨ha, hb, hc⟩ hgr hr
    exact ⟨hI s A C row ha hgr (hrow hr), keep hgr hr _ _ hb rfl, keep hgr hr _ _ hc rfl⟩
  · rintro s A C row ⟨c, ha, hb, hc⟩ hgr hr
    exact ⟨c, hIx c s A C row ha hgr (hrow hr), keep hgr hr _ _ hb rfl, keep hgr hr _ _ hc rfl⟩
  · -- a round
    rintro pre x W ⟨hi, hl, hd⟩ hRx hbd
    have hlt := (Array.getElem?_eq_some_iff.1 hl).1
    have hy := run_yield (P := P) (args := encs x) hl (by rw [hlp]; exact hps x)
    have f1 : (lp .ready none).fn = fn := by rw [hlp]
    have f2 : (lp .ready none).params = ps := by rw [hlp]
    have f3 : (lp .ready none).tmps = a.tmps := by rw [hlp]
    have f4 : (lp .ready none).assign = assign := by rw [hlp]
    have f5 : (lp .ready none).body = body := by rw [hlp]
    rw [f1, f2, f3, f4, f5] at hy
    refine ⟨fn, _, assign, body, hy, roundIn_of_wpIn trivial (wpIn_mono (hassign L pre x W (by omega) hi hRx) ?_)⟩
    rintro e a2 W2 ⟨rfl, hk2, hp2, hx2⟩
    have hl2 := hk2.same _ _ (by omega) hl rfl
    have hd2 := hk2.same _ _ (Nat.le_refl _) hd rfl
    refine ⟨_, run_beginRound hl2 (by rw [hlp]), ?_⟩
    rw [e1]
    have hlt2 := (Array.getElem?_eq_some_iff.1 hl2).1
    have hl3 : (W2.putObj L (.loop (lp .busy none))).heap[L]? = some (.loop (lp .busy none)) := World.putObj_heap_same hlt2
    have hd3 : (W2.putObj L (.loop (lp .busy none))).heap[w.heap.size]? = some (.deferred (some [])) := (World.putObj_heap_other (by omega)).trans hd2
    refine wpIn_mono (hbody L pre x a2 _ (by omega) ((hAx pre x a2).putObj (s := ()) _ hx2 (by omega) hl2 rfl) hbd) ?_
    have fin : ∀ (jump : Option Code) (W4 : World), KeepsFrom w.heap.size (W2.putObj L (.loop (lp .busy none))) W4 →
        (Instr.endRound L jump).run P W4 = .ok (.bool jump.isNone) (W4.putObj L (.loop (lp (if jump.isNone then .ready else .done) jump))) ∧ W4.heap[L]? = some (.loop (lp .busy none)) ∧
        (W4.putObj L (.loop (lp (if jump.isNone then .ready else .done) jump))).heap[L]? = some (.loop (lp (if jump.isNone then .ready else .done) jump)) ∧
        (W4.putObj L (.loop (lp (if jump.isNone then .ready else .done) jump))).heap[w.heap.size]? = some (.deferred (some [])) := fun jump W4 hk4 => by
      have hl4 := hk4.same _ _ (by omega) hl3 rfl
      have hd4 := hk4.same _ _ (Nat.le_refl _) hd3 rfl
      have hr := run_endRound (P := P) jump hl4
      rw [e3] at hr
      exact ⟨hr, hl4, World.putObj_heap_same (Array.getElem?_eq_some_iff.1 hl4).1, (World.putObj_heap_other (by omega)).trans hd4⟩
    rintro e a4 W4 hp
    cases e with
    | normal =>
      obtain ⟨hk4, hp4, hi4, hbd4⟩ := hp
      obtain ⟨hr, hl4, hl5, hd5⟩ := fin none W4 hk4
      exact ⟨_, _, hr, .inl ⟨rfl, ⟨hI.putObj _ hi4 (by omega) hl4 rfl, hl5, hd5⟩, hKt (hKt hp2 (hkb _ _ _ _ hl2)) (hKt hp4 (hkb _ _ _ _ hl4)), hbd4⟩⟩
    | ret =>
      obtain ⟨hk4, hi4⟩ := hp
      obtain ⟨hr, hl4, hl5, hd5⟩ := fin (some .ret) W4 hk4
      exact ⟨_, _, hr, .inr ⟨rfl, .ret, (hIx _).putObj _ hi4 (by omega) hl4 rfl, hl5, hd5⟩⟩
    | exit id =>
      obtain ⟨hk4, hi4⟩ := hp
      obtain ⟨hr, hl4, hl5, hd5⟩ := fin (some (.exit id)) W4 hk4
      exact ⟨_, _, hr, .inr ⟨rfl, .exit id, (hIx _).putObj _ hi4 (by omega) hl4 rfl, hl5, hd5⟩⟩
    | goto t => exact hp.elim
    | panic ch => exact hp.elim
    | outgrown => exact hp.elim
  · -- behind it
    rintro e W2 ⟨⟨v, rfl⟩, (⟨xs, hSx, hi, hl, hd⟩ | ⟨pre, hSp, c, hi, hl, hd⟩)⟩
    · have hr := run_endLoop (P := P) hl (by rw [hlp]; simp)
      rw [e2] at hr
      have hp : (lp .ready none).pending = none := by rw [hlp]
      rw [hp] at hr
      exact ⟨none, _, hr, hdone _ xs _ (Nat.le_refl _) (hS.putObj _ hSx (by omega) hl rfl) (hI.putObj _ hi (by omega) hl rfl) ((World.putObj_heap_other (by omega)).trans hd)⟩
    · have hr := run_endLoop (P := P) hl (by rw [hlp]; simp)
      rw [e2] at hr
      have hp : (lp .done (some c)).pending = some c := by rw [hlp]
      rw [hp] at hr
      exact ⟨some c, _, hr, hstop _ c pre _ (Nat.le_refl _) hSp ((hIx c).putObj _ hi (by omega) hl rfl) ((World.putObj_heap_other (by omega)).trans hd)⟩
end Go.Proofs.YtcffeepgfjpcaaaGreat

namespace Go.Proofs.YtcffeepgfjpcaaaGreat
set_option linter.unusedSimpArgs false
set_option linter.unusedVariables false
open Go.RowKit Go.Shelf
attribute [local go_sem] Oper.semAt_some

theorem least_of (p : Nat → Prop) (h : ∃ k, p k) : ∃ k, p k ∧ ∀ j, p j → k ≤ j := by
  obtain ⟨k, hk⟩ := h
  induction k using Nat.strongRecOn with
  | _ k ih =>
    by_cases hx : ∃ j, j < k ∧ p j
    · obtain ⟨j, hj, hp⟩ := hx
      exact ih j hj hp
    · exact ⟨k, hk, fun j hj => Nat.le_of_not_lt fun hlt => hx ⟨j, hlt, hj⟩⟩
theorem wpIn_loop_ghost {F : Fence} {n : Nat} {P : Program} {c : Code} {Q : Exit → Act → World → Prop} {a : Act} {w : World} (I : Nat → Act → World → Prop) (k0 : Nat) (h0 : I k0 a w)
    (round : ∀ k a w, I k a w → c.wpIn F n P (Exit.then (fun a' w' => ∃ k', k' < k ∧ I k' a' w') Q) a w) : (Code.loop c).wpIn F n P Q a w := by
  classical
  obtain ⟨μ, hμ⟩ : ∃ μ : Act → World → Nat, ∀ a w, (∃ k, I k a w) → I (μ a w) a w ∧ ∀ j, I j a w → μ a w ≤ j := by
    refine ⟨fun a w => if h : ∃ k, I k a w then Classical.choose (least_of _ h) else 0, fun a w h => ?_⟩
    simp only [dif_pos h]
    exact Classical.choose_spec (least_of _ h)
  refine wpIn_loop (fun a w => ∃ k, I k a w) μ ⟨k0, h0⟩ fun a w h => ?_
  obtain ⟨h1, h2⟩ := hμ a w h
  refine wpIn_mono (round _ a w h1) ?_
  rintro e a' w' he
  cases e with
  | normal =>
    obtain ⟨k', hk, hI⟩ := he
    exact ⟨⟨k', hI⟩, Nat.lt_of_le_of_lt ((hμ a' w' ⟨k', hI⟩).2 _ hI) hk⟩
  | _ => exact he

def rowU (d : UInt64) : Nat → UInt64
  | 0 => d
  | i + 1 => mixU (rowU d i)
def rowUpto (d : UInt64) (i : Nat) : List UInt64 := (List.range i).map (rowU d)
theorem rowUpto_succ (d : UInt64) (i : Nat) : rowUpto d (i + 1) = rowUpto d i ++ [rowU d i] := by simp [rowUpto, List.range_succ]
theorem rowUpto_len (d : UInt64) (i : Nat) : (rowUpto d i).length = i := by simp [rowUpto]
set_option maxRecDepth 100000 in
set_option maxHeartbeats 800000 in
theorem row_in (n : Nat) (s k t a : UInt64) (w : World) :
    CallsIn Fence.wide n Tryz.prog 129 #[.agg (tapeC s k t a).toArray] w fun e w' => e = .returned (.func (.func 133) #[] #[.pointer (some ⟨w.heap.size, 0, none⟩)]) ∧ w' = w.alloc (.cells (tapeC s k t a).toArray 194) := by
  have hcs : tapeC s k t a = [.int .u64 (s.toNat : Int), .int .u64 (k.toNat : Int), .int .u64 (t.toNat : Int), .int .u64 (a.toNat : Int)] := rfl
  rw [hcs]
  refine callsIn_of_wp Tryz.func129 rfl trivial ?_ rfl
  simp only [Tryz.ntmps129, List.size_toArray, List.length_cons, List.length_nil, Nat.reduceAdd, Nat.reduceSub, Array.replicate_succ, Array.replicate_zero, List.push_toArray, List.append_toArray, List.nil_append, List.cons_append]
  gi_wp2
  go_ret
  exact ⟨rfl, rfl⟩
theorem infoTape4 : (Tryz.prog.info? 194).map (·.size) = some 4 := by kernel_rfl
set_option maxRecDepth 100000 in
set_option maxHeartbeats 3200000 in
theorem row_iter (n : Nat) (hn : 1 ≤ n) (w : World) (Bs : Nat) (s k t a : UInt64) (hb : BoxAt 194 w Bs (tapeC s k t a)) :
    IterX (α := UInt64) Tryz.prog n 133 #[.pointer (some ⟨Bs, 0, none⟩)] (fun x => #[.int .u64 (x.toNat : Int)]) (fun _ _ => True)
      (fun pre x _ => x = rowU (drawU s k t a) pre.length) (fun _ _ => False) (fun pre => ∃ i, pre = rowUpto (drawU s k t a) i) (fun pre => pre.length < 128) w := by
  intro l J Jx W hW hJ hJx hY h0
  have hbW := hb.below hb.lt hW
  have HY := Lib.hid hY
  have HJ := Lib.hid hJ
  clear hY hb hJ hJx
  refine callsIn_of_wp Tryz.func133 rfl trivial ?_ rfl
  simp only [Tryz.ntmps133, List.size_toArray, List.length_cons, List.length_nil, Nat.reduceAdd, Nat.reduceSub, Array.replicate_succ, Array.replicate_zero, List.push_toArray, List.append_toArray, List.nil_append, List.cons_append]
  gi_wp2_with (refine wpListIn_load_agg rfl 194 (.tmp 1) rfl ⟨Bs, 0, none⟩ rfl (tapeC s k t a) hbW.cells Tryz.underlying194 rfl infoTape4 ?_)
  refine ⟨trivial, ?_⟩
  refine (callsIn_wide.2 (draw_any W s k t a)).mono ?_
  rintro _ W1 ⟨rfl, hb1⟩
  have hJ1 : J [] W1 := HJ.out [] W W1 none h0 (gbelow hb1 none) (fun r e => by cases e)
  have hdr : ∀ i, rowU (drawU s k t a) (i + 1) = mixU (rowU (drawU s k t a) i) := fun i => rfl
  have hd0 : rowU (drawU s k t a) 0 = drawU s k t a := rfl
  have hup : ∀ i, rowUpto (drawU s k t a) (i + 1) = rowUpto (drawU s k t a) i ++ [rowU (drawU s k t a) i] := rowUpto_succ _
  have hul : ∀ i, (rowUpto (drawU s k t a) i).length = i := rowUpto_len _
  have hu0 : rowUpto (drawU s k t a) 0 = [] := rfl
  rw [← hd0]
  have hszW := hb1.size
  have Hdr := Lib.hid hdr
  have Hup := Lib.hid hup
  have Hul := Lib.hid hul
  have Hu0 := Lib.hid hu0
  have HJ1 := Lib.hid hJ1
  clear hdr hup hul hu0 hJ1 hd0 hb1 h0 hbW
  generalize rowU (drawU s k t a) = row at *
  obtain ⟨up, hupq⟩ : ∃ up, up = rowUpto (drawU s k t a) := ⟨_, rfl⟩
  rw [← hupq] at Hup Hul Hu0 
  have HUP := Lib.hid hupq
  clear hupq
  generalize tapeC s k t a = tc at *
  gi_wp2
  refine wpIn_loop_ghost (fun kk a' wr => ∃ i : Nat, kk + i = 128 ∧ 0 < kk ∧ J (up i) wr ∧ ∃ u6 u7 u8 u9 u10 : Value, a' = { tmps := #[.func (.yield l) #[] #[], .pointer (some ⟨Bs, 0, none⟩), undef, .int .u64 ((row i).toNat : Int), .agg tc.toArray, .int .u64 ((row 0).toNat : Int), u6, u7, u8, u9, u10], defers := [] }) 128 ?_ ?_
  · refine ⟨0, rfl, by decide, by rw [Hu0.out]; exact HJ1.out, ?_⟩
    (repeat apply Exists.intro)
    rfl
  rintro kk _ wr ⟨i, hki, hk0, hJi, u6, u7, u8, u9, u10, rfl⟩
  have hi : i < 128 := by omega
  obtain ⟨fn, tmps, assign, body, hy, hR⟩ := HY.out (up i) (row i) wr hJi (by rw [Hul.out]) (by rw [Hul.out]; exact hi)
  have hdri := Hdr.out i
  have Hdri := Lib.hid hdri
  have hm := fun W => mix_any W (row i)
  rw [← hdri] at hm
  have Hm := Lib.hid hm
  have hupi := Hup.out i
  rw [← hupi] at hR
  have hlu := Hul.out (i + 1)
  clear hdri hm hupi HJ1 hJi
  obtain ⟨rs, hrs⟩ : ∃ rs, rs = row (i + 1) := ⟨_, rfl⟩
  rw [← hrs] at Hm
  have HRS := Lib.hid hrs
  clear hrs Hdri
  generalize row i = ri at *
  generalize row 0 = r0 at *
  gi_wp2
  refine hR.mono ?_
  clear hR hy
  rintro e W3 (⟨rfl, hJ3, -, hbd⟩ | ⟨rfl, hJx3⟩)
  · rw [hlu] at hbd
    have HJ3 := Lib.hid hJ3
    clear hJ3
    gi_wp2
    refine ⟨trivial, ?_⟩
    refine (callsIn_wide.2 (Hm.out W3)).mono ?_
    rintro _ _ ⟨rfl, rfl⟩
    gi_wp2
    refine ⟨kk - 1, by omega, i + 1, by omega, by omega, HJ3.out, ?_⟩
    rw [← HRS.out]
    (repeat apply Exists.intro)
    rfl
  · gi_wp2
    go_end0
    exact ⟨⟨_, rfl⟩, .inr ⟨_, ⟨i + 1, by rw [HUP.out]⟩, hJx3⟩⟩
end Go.Proofs.YtcffeepgfjpcaaaGreat

namespace Go.Proofs.YtcffeepgfjpcaaaGreat
set_option linter.unusedSimpArgs false
set_option linter.unusedVariables false
open Go.RowKit Go.Shelf
attribute [local go_sem] Oper.semAt_some

def limU (n : Nat) : Nat := 18446744073709551615 - (18446744073709551616 - n) % n
def idxB (row : Nat → UInt64) (lim : Nat) : Nat → Nat → Nat
  | 0, i => i
  | f + 1, i => if (row i).toNat ≤ lim then i else idxB row lim f (i + 1)
def belowU (d : UInt64) (n : Nat) : Nat := if n = 0 then 0 else (rowU d (idxB (rowU d) (limU n) 127 0)).toNat % n
theorem belowU_lt (d : UInt64) (n : Nat) (h : 0 < n) : belowU d n < n := by
  unfold belowU
  rw [if_neg (by omega)]
  exact Nat.mod_lt _ h
theorem idxB_skip (row : Nat → UInt64) (lim : Nat) : ∀ (i f : Nat), (∀ j, j < i → ¬ (row j).toNat ≤ lim) → idxB row lim (i + f) 0 = idxB row lim f i := by
  have key : ∀ (i f b : Nat), (∀ j, b ≤ j → j < b + i → ¬ (row j).toNat ≤ lim) → idxB row lim (i + f) b = idxB row lim f (b + i) := by
    intro i
    induction i with
    | zero => intro f b _; simp
    | succ i ih =>
      intro f b h
      have e : i + 1 + f = (i + f) + 1 := by omega
      rw [e, idxB, if_neg (h b (Nat.le_refl _) (by omega)), ih f (b + 1) fun j h1 h2 => h j (by omega) (by omega)]
      congr 1
      omega
  intro i f h
  have := key i f 0 fun j _ hj => h j (by omega)
  rwa [Nat.zero_add] at this
theorem idxB_hit (row : Nat → UInt64) (lim pl : Nat) (h : ∀ j, j < pl → ¬ (row j).toNat ≤ lim) (hp : pl ≤ 127) (ht : (row pl).toNat ≤ lim ∨ pl = 127) : idxB row lim 127 0 = pl := by
  have e := idxB_skip row lim pl (127 - pl) h
  rw [show pl + (127 - pl) = 127 from by omega] at e
  rw [e]
  rcases Nat.eq_zero_or_pos (127 - pl) with h0 | h0
  · rw [h0]; rfl
  · obtain ⟨f, hf⟩ : ∃ f, 127 - pl = f + 1 := ⟨126 - pl, by omega⟩
    rw [hf, idxB, if_pos (by rcases ht with h | h; exact h; omega)]
def BelI (w : World) (row : Nat → UInt64) (ov n : Nat) (pre : List UInt64) (W : World) : Prop :=
  BoxAt 23 W (w.heap.size + 3) [.int .u64 (ov : Int)] ∧ BoxAt 3 W (w.heap.size + 3 + 1) [.int .i64 (pre.length : Int)] ∧ BoxAt 23 W (w.heap.size + 1) [.int .u64 (n : Int)] ∧ BoxAt 23 W (w.heap.size + 1 + 1) [.int .u64 0] ∧ Below w.heap.size w W ∧ (∀ j, j < pre.length → ¬ (row j).toNat ≤ 18446744073709551615 - ov)
set_option maxRecDepth 100000 in
set_option maxHeartbeats 3200000 in
theorem below_any (w : World) (s k t a : UInt64) (n : Nat) (hn : n < 18446744073709551616) :
    Calls Tryz.prog 116 #[.agg (tapeC s k t a).toArray, .int .u64 (n : Int)] w fun e w' => e = .returned (.int .u64 (belowU (drawU s k t a) n : Nat)) ∧ Below w.heap.size w w' := by
  obtain ⟨w0, hw0⟩ : ∃ w0, w0 = ((w.alloc (.cells (tapeC s k t a).toArray 194)).alloc (.cells #[.int .u64 (n : Int)] 23)).alloc (.cells #[.int .u64 0] 23) := ⟨_, rfl⟩
  have hb0 : Below w.heap.size w w0 := by rw [hw0]; exact bstep (bstep (balloc w _) (balloc _ _)) (balloc _ _)
  have hx0 : BoxAt 194 w0 w.heap.size (tapeC s k t a) := by rw [hw0]; exact ((BoxAt.new_ 194 w (tapeC s k t a)).alloc _).alloc _
  have hx1 : BoxAt 23 w0 (w.heap.size + 1) [.int .u64 (n : Int)] := by
    rw [hw0]
    have := (BoxAt.new_ 23 (w.alloc (.cells (tapeC s k t a).toArray 194)) [.int .u64 (n : Int)]).alloc (.cells #[.int .u64 0] 23)
    rwa [World.size_alloc] at this
  have hx2 : BoxAt 23 w0 (w.heap.size + 1 + 1) [.int .u64 0] := by
    rw [hw0]
    have := BoxAt.new_ 23 ((w.alloc (.cells (tapeC s k t a).toArray 194)).alloc (.cells #[.int .u64 (n : Int)] 23)) [.int .u64 0]
    rwa [World.size_alloc, World.size_alloc] at this
  have hs0 : w0.heap.size = w.heap.size + 3 := by rw [hw0]; simp
  have hcs : tapeC s k t a = [.int .u64 (s.toNat : Int), .int .u64 (k.toNat : Int), .int .u64 (t.toNat : Int), .int .u64 (a.toNat : Int)] := rfl
  have Hw0 := Lib.hid hw0
  have X0 := Lib.hid hx0
  have X1 := Lib.hid hx1
  have X2 := Lib.hid hx2
  have Hb0 := Lib.hid hb0
  have hc1 := hx1.cell 0 _ rfl
  have hc2 := hx2.cell 0 _ rfl
  have hf2 := hx2.frozen 0
  rw [hcs] at Hw0 ⊢
  clear hw0 hx0 hx1 hx2 hb0 hcs
  refine (callsIn_wide (n := 5)).1 ?_
  refine callsIn_of_wp_marks Tryz.func116 rfl trivial ?_ rfl
  simp only [Tryz.ntmps116, List.size_toArray, List.length_cons, List.length_nil, Nat.reduceAdd, Nat.reduceSub, Array.replicate_succ, Array.replicate_zero, List.push_toArray, List.append_toArray, List.nil_append, List.cons_append]
  rcases Nat.eq_zero_or_pos n with hz | hz
  · subst hz
    gi_wp2_with (rw [← Hw0.out])
    have hw0' := Hw0.out
    simp only [Int.natCast_zero] at hw0'
    rw [← hw0']
    have hc9 := X2.out.cell 0 _ rfl
    refine ⟨.int .u64 0, ?_, rfl, Hb0.out⟩
    simp [results, Tryz.f116, go_sem, hc9]
  · have hd : ((n : Int) == 0) = false := beq_eq_false_iff_ne.2 (by omega)
    have hn2 : ¬ n = 0 := by omega
    have hov : (IntKind.u64.wrap (-(n : Int))).tmod (n : Int) = (((18446744073709551616 - n) % n : Nat) : Int) := by
      rw [wrap_u64, Int.tmod_eq_emod_of_nonneg (by omega), show (-(n : Int)) % 18446744073709551616 = ((18446744073709551616 - n : Nat) : Int) from by omega]
      omega
    have hovl : (18446744073709551616 - n) % n < n := Nat.mod_lt _ hz
    have hbd : belowU (drawU s k t a) n = (rowU (drawU s k t a) (idxB (rowU (drawU s k t a)) (18446744073709551615 - (18446744073709551616 - n) % n) 127 0)).toNat % n := by
      unfold belowU limU
      rw [if_neg hn2]
    have Hov := Lib.hid hov
    have Hbd := Lib.hid hbd
    generalize (18446744073709551616 - n) % n = ov at *
    clear hov hbd
    gi_wp2_with (first
      | (rw [← Hw0.out])
      | (refine wpListIn_load_agg rfl 194 (.tmp 2) rfl ⟨w.heap.size, 0, none⟩ rfl (tapeC s k t a) ((X0.out.alloc _).alloc _).cells Tryz.underlying194 rfl infoTape4 ?_))
    refine ⟨trivial, ?_⟩
    refine (row_in _ s k t a _).mono ?_
    rintro _ _ ⟨rfl, rfl⟩
    rw [Hov.out]
    have hy0 : BoxAt 23 (w0.alloc (.cells #[.int .u64 (ov : Int)] 23)) w0.heap.size [.int .u64 (ov : Int)] := BoxAt.new_ _ _ [.int .u64 (ov : Int)]
    have hy1 : BoxAt 3 ((w0.alloc (.cells #[.int .u64 (ov : Int)] 23)).alloc (.cells #[.int .i64 0] 3)) (w0.heap.size + 1) [.int .i64 0] := by
      have := BoxAt.new_ 3 (w0.alloc (.cells #[.int .u64 (ov : Int)] 23)) [.int .i64 0]
      rwa [World.size_alloc] at this
    have hy2 : BoxAt 194 (((w0.alloc (.cells #[.int .u64 (ov : Int)] 23)).alloc (.cells #[.int .i64 0] 3)).alloc (.cells (tapeC s k t a).toArray 194)) (w0.heap.size + 1 + 1) (tapeC s k t a) := by
      have := BoxAt.new_ 194 ((w0.alloc (.cells #[.int .u64 (ov : Int)] 23)).alloc (.cells #[.int .i64 0] 3)) (tapeC s k t a)
      rwa [World.size_alloc, World.size_alloc] at this
    have hY0 := (hy0.alloc (.cells #[.int .i64 0] 3)).alloc (.cells (tapeC s k t a).toArray 194)
    have hY1 := hy1.alloc (.cells (tapeC s k t a).toArray 194)
    have hZ1 := ((X1.out.alloc (.cells #[.int .u64 (ov : Int)] 23)).alloc (.cells #[.int .i64 0] 3)).alloc (.cells (tapeC s k t a).toArray 194)
    have hZ2 := ((X2.out.alloc (.cells #[.int .u64 (ov : Int)] 23)).alloc (.cells #[.int .i64 0] 3)).alloc (.cells (tapeC s k t a).toArray 194)
    have hbw := bstep (bstep (bstep Hb0.out (balloc w0 (.cells #[.int .u64 (ov : Int)] 23))) (balloc _ (.cells #[.int .i64 0] 3))) (balloc _ (.cells (tapeC s k t a).toArray 194))
    have hsw : (((w0.alloc (.cells #[.int .u64 (ov : Int)] 23)).alloc (.cells #[.int .i64 0] 3)).alloc (.cells (tapeC s k t a).toArray 194)).heap.size = w0.heap.size + 3 := by simp
    have HY0 := Lib.hid hY0
    have HY1 := Lib.hid hY1
    have HY2 := Lib.hid hy2
    have HZ1 := Lib.hid hZ1
    have HZ2 := Lib.hid hZ2
    have Hbw := Lib.hid hbw
    clear hy0 hy1 hy2 hY0 hY1 hZ1 hZ2 hbw X0 X1 X2 Hb0 Hw0 hc1 hc2 hf2 Hov
    simp only [World.size_alloc]
    generalize (((w0.alloc (.cells #[.int .u64 (ov : Int)] 23)).alloc (.cells #[.int .i64 0] 3)).alloc (.cells (tapeC s k t a).toArray 194)) = wB at *
    rw [hs0] at HY0 HY1 HY2 hsw
    rw [hs0]
    obtain ⟨row, hrow⟩ : ∃ row, row = rowU (drawU s k t a) := ⟨_, rfl⟩
    rw [← hrow] at Hbd
    have Hrow := Lib.hid hrow
    have hskip := idxB_skip row (18446744073709551615 - ov)
    have Hskip := Lib.hid hskip
    obtain ⟨rv, hrv⟩ : ∃ rv, rv = belowU (drawU s k t a) n := ⟨_, rfl⟩
    rw [← hrv] at Hbd
    have Hrv := Lib.hid hrv
    clear hskip hrow hrv
    gi_wp2
    refine range_x (α := UInt64) (encs := fun x => #[.int .u64 (x.toNat : Int)]) (gf := 133) (lb := #[.pointer (some ⟨w.heap.size + 3 + 1 + 1, 0, none⟩)]) rfl (enters_of Tryz.func133 (by kernel_rfl) rfl)
      (Kr := fun _ _ => True) (fun _ _ => trivial) (fun _ _ _ _ _ _ _ => trivial) (fun _ => rfl) (row_iter 4 (by omega) wB (w.heap.size + 3 + 1 + 1) s k t a HY2.out)
      (fun pre W => BelI w row ov n pre W)
      (fun c pre W => c = .ret ∧ BoxAt 23 W (w.heap.size + 1 + 1) [.int .u64 (rv : Int)] ∧ Below w.heap.size w W)
      ?hI ?hIx (fun _ _ _ _ h _ _ => h.elim) ⟨HY0.out, HY1.out, HZ1.out, HZ2.out, Hbw.out, fun j hj => by cases hj⟩
      (fun _ pre x a' W => (a' = { tmps := #[.agg #[.int .u64 (s.toNat : Int), .int .u64 (k.toNat : Int), .int .u64 (t.toNat : Int), .int .u64 (a.toNat : Int)], .int .u64 (n : Int), .pointer (some ⟨w.heap.size, 0, none⟩), .pointer (some ⟨w.heap.size + 1, 0, none⟩), .pointer (some ⟨w.heap.size + 1 + 1, 0, none⟩), .pointer (some ⟨w.heap.size + 3, 0, none⟩), .pointer (some ⟨w.heap.size + 3 + 1, 0, none⟩), .int .u64 (x.toNat : Int), .int .u64 (n : Int), .bool false, .int .u64 (n : Int), .int .u64 (IntKind.u64.wrap (-(n : Int))), .int .u64 (n : Int), .int .u64 (ov : Int), .agg (tapeC s k t a).toArray, .func (.func 133) #[] #[.pointer (some ⟨w.heap.size + 3 + 1 + 1, 0, none⟩)], .int .u64 (x.toNat : Int), undef, undef, undef, undef, undef, undef, undef, undef, undef, undef, undef, undef, undef], defers := [] } ∧ x = row pre.length) ∧ BelI w row ov n pre W)
      ?hAx ?assign ?body ?done ?stop
    case hI =>
      rintro pre Y Z rw_ ⟨q1, q2, q3, q4, q5, q6⟩ hg hr
      have hr2 := fun r e => (hr r e).2
      exact ⟨q1.ownk hg hr2, q2.ownk hg hr2, q3.ownk hg hr2, q4.ownk hg hr2, q5.grown hg q5.size (fun r e => by have := (hr r e).1; omega), q6⟩
    case hIx =>
      rintro c pre Y Z rw_ ⟨q1, q2, q3⟩ hg hr
      have hr2 := fun r e => (hr r e).2
      exact ⟨q1, q2.ownk hg hr2, q3.grown hg q3.size (fun r e => by have := (hr r e).1; omega)⟩
    case hAx =>
      rintro pre x a' _ Y Z rw_ ⟨q0, q1, q2, q3, q4, q5, q6⟩ hg hr
      have hr2 := fun r e => (hr r e).2
      exact ⟨q0, q1.ownk hg hr2, q2.ownk hg hr2, q3.ownk hg hr2, q4.ownk hg hr2, q5.grown hg q5.size (fun r e => by have := (hr r e).1; omega), q6⟩
    case assign =>
      intro l pre x W hl hi hR
      have hx : x = row pre.length := by rw [hR, Hrow.out]
      clear hR
      gi_wp2
      first
        | exact KeepsFrom.refl _ _
        | exact ⟨KeepsFrom.refl _ _, hx, hi⟩
    case body =>
      rintro l pre x _ W hl ⟨⟨rfl, hx⟩, q1, q2, q3, q4, q5, q6⟩ hbd
      have hx64 := u64_lt x
      have c5 := q1.cell 0 _ rfl
      have c6 := q2.cell 0 _ rfl
      have f6 := q2.frozen 0
      have c3 := q3.cell 0 _ rfl
      have c4 := q4.cell 0 _ rfl
      have f4 := q4.frozen 0
      have Q1 := Lib.hid q1
      have Q2 := Lib.hid q2
      have Q3 := Lib.hid q3
      have Q4 := Lib.hid q4
      have Q5 := Lib.hid q5
      have Q6 := Lib.hid q6
      have Hx := Lib.hid hx
      have hne1 : ¬ w.heap.size + 3 = w.heap.size + 3 + 1 := by omega
      generalize hm : w.heap.size = m at *
      clear q1 q2 q3 q4 q5 q6 hx
      generalize hpl : pre.length = pl at *
      by_cases hle : x.toNat ≤ 18446744073709551615 - ov
      · have hd2 : decide ((x.toNat : Int) ≤ 18446744073709551615 - (ov : Int)) = true := decide_eq_true (by omega)
        gi_wp2
        refine ⟨((KeepsOthers.setCell _ _ _).trans (KeepsOthers.setCell _ _ _)).from _, rfl, ?_, ?_⟩
        · have hb := (Q4.out.other ⟨m + 3 + 1, 0, none⟩ (.int .i64 ((pl : Int) + 1)) (by show m + 3 + 1 ≠ m + 1 + 1; omega)).put 0 (.int .u64 ((x.toNat : Int) % (n : Int)))
          have e : ((x.toNat : Int) % (n : Int)) = (rv : Int) := by
            rw [Hbd.out, idxB_hit row _ pl Q6.out (by omega) (by first | exact .inl (by rw [← Hx.out]; exact hle) | exact .inr (by omega)), ← Hx.out]
            omega
          rw [← e]
          exact hb
        · exact Below.setCell (Below.setCell Q5.out (p := ⟨m + 3 + 1, 0, none⟩) (by show m ≤ m + 3 + 1; omega) _) (p := ⟨m + 1 + 1, 0, none⟩) (by show m ≤ m + 1 + 1; omega) _
      · have hd2 : decide ((x.toNat : Int) ≤ 18446744073709551615 - (ov : Int)) = false := decide_eq_false (by omega)
        by_cases h128 : pl + 1 = 128
        · have hd3 : ((pl : Int) + 1 == 128) = true := by simp; omega
          gi_wp2
          refine ⟨((KeepsOthers.setCell _ _ _).trans (KeepsOthers.setCell _ _ _)).from _, rfl, ?_, ?_⟩
          · have hb := (Q4.out.other ⟨m + 3 + 1, 0, none⟩ (.int .i64 ((pl : Int) + 1)) (by show m + 3 + 1 ≠ m + 1 + 1; omega)).put 0 (.int .u64 ((x.toNat : Int) % (n : Int)))
            have e : ((x.toNat : Int) % (n : Int)) = (rv : Int) := by
              rw [Hbd.out, idxB_hit row _ pl Q6.out (by omega) (by first | exact .inl (by rw [← Hx.out]; exact hle) | exact .inr (by omega)), ← Hx.out]
              omega
            rw [← e]
            exact hb
          · exact Below.setCell (Below.setCell Q5.out (p := ⟨m + 3 + 1, 0, none⟩) (by show m ≤ m + 3 + 1; omega) _) (p := ⟨m + 1 + 1, 0, none⟩) (by show m ≤ m + 1 + 1; omega) _
        · have hd3 : ((pl : Int) + 1 == 128) = false := beq_eq_false_iff_ne.2 (by omega)
          gi_wp2
          refine ⟨(KeepsOthers.setCell _ _ _).from _, trivial, ?_, by show (pre ++ [x]).length < 128; rw [List.length_append, List.length_singleton, hpl]; omega⟩
          show BelI w row ov n (pre ++ [x]) _
          unfold BelI
          rw [hm]
          refine ⟨?_, ?_, ?_, ?_, ?_, ?_⟩
          · exact Q1.out.other ⟨m + 3 + 1, 0, none⟩ _ (by show m + 3 + 1 ≠ m + 3; omega)
          · have hb := Q2.out.put 0 (.int .i64 ((pl : Int) + 1))
            have e : (((pre ++ [x]).length : Nat) : Int) = (pl : Int) + 1 := by rw [List.length_append, List.length_singleton, hpl]; omega
            rw [e]
            exact hb
          · exact Q3.out.other ⟨m + 3 + 1, 0, none⟩ _ (by show m + 3 + 1 ≠ m + 1; omega)
          · exact Q4.out.other ⟨m + 3 + 1, 0, none⟩ _ (by show m + 3 + 1 ≠ m + 1 + 1; omega)
          · exact Below.setCell Q5.out (p := ⟨m + 3 + 1, 0, none⟩) (by show m ≤ m + 3 + 1; omega) _
          · intro j hj
            rw [List.length_append, List.length_singleton, hpl] at hj
            rcases Nat.lt_or_ge j pl with h | h
            · exact Q6.out j h
            · obtain rfl : j = pl := by omega
              rw [← Hx.out]
              exact hle
    case done => exact fun _ _ _ _ h => h.elim
    case stop =>
      rintro D c pre W hD _ ⟨rfl, q2, q3⟩ hK
      have ht0 := q2.cell 0 _ rfl
      have HB := Lib.hid q3
      clear q2 q3
      gi_wp2
      refine ⟨by simp, .inl ⟨_, _, rfl, run_takeDeferred hK, ?_⟩⟩
      have hc5 := cell_kept ht0 (grownBy_putObj' _ D (.deferred none)) (fun r e => by cases e; exact ⟨_, hK, rfl⟩)
      refine ⟨.int .u64 (rv : Int), ?_, by rw [Hrv.out], HB.out.trans (belowK_b (w := w) (Nat.le_refl _) W D _ _ (by omega) hK rfl rfl)⟩
      simp [results, Tryz.f116, go_sem, hc5]
end Go.Proofs.YtcffeepgfjpcaaaGreat

namespace Go.Proofs.YtcffeepgfjpcaaaGreat
set_option linter.unusedSimpArgs false
set_option linter.unusedVariables false
open Go.RowKit

def walkC (gv vs : Value) (j : GJob) (id : Nat) (vp : Value) : List Value := gv :: jobC j vs ++ [.int .u32 (id : Int), vp]
set_option maxRecDepth 100000 in
set_option maxHeartbeats 1600000 in
theorem at_any (w : World) (g B : Nat) (gv vs vp : Value) (j : GJob) (id : Nat) (l : List UInt32) (hb : BoxAt 85 w g (walkC gv vs j id vp)) (hp : ByU w B vp l) (hl : l.length ≤ 1048576) (i k : Nat) (hk : i + k + 1 = l.length) :
    Calls Tryz.prog 62 #[.pointer (some ⟨g, 0, none⟩), .int .i64 (i : Int)] w fun e w' => e = .returned (.int .u32 ((l.getD k 0).toNat : Int)) ∧ Below w.heap.size w w' := by
  obtain ⟨A, c, rfl, hc1, hc2⟩ := hp.form
  unfold maxLen at hc2
  have hkl : k < l.length := by omega
  obtain ⟨ad, rfl, hab, hx⟩ := hp.cells k hkl
  have hc17 := hb.cell 17 _ rfl
  have hg : l.getD k 0 = l[k] := by simp [List.getD, hkl]
  rw [hg]
  have hi : (l.length : Int) - 1 - (i : Int) = (k : Int) := by omega
  clear hb hp hg
  generalize (l[k]).toNat = x at *
  go_enter Tryz.func62, Tryz.ntmps62
  go_wp2_with fail
  go_quiet (fail)
  go_wp2_with fail
  go_ret
  exact ⟨rfl, bdrewN (Below.refl _ _) nq⟩
set_option maxRecDepth 100000 in
set_option maxHeartbeats 3200000 in
theorem drawW_any (w : World) (g B : Nat) (gv vs vp : Value) (j : GJob) (id : Nat) (l : List UInt32) (hb : BoxAt 85 w g (walkC gv vs j id vp)) (hpl : ByU w B vp l) (hl : l.length ≤ 1048576) (hl0 : 0 < l.length) (hid : id < 4294967296)
    (tr wh n : Nat) (htr : tr ≤ 1048576) (hwh : wh ≤ 1) (hn : n < 18446744073709551616) (uk ut ua : UInt64) (hk : uk.toNat = id) (ht : ut.toNat + 1 = l.length) (hua : ua.toNat = 2 * tr + wh) :
    Calls Tryz.prog 99 #[.pointer (some ⟨g, 0, none⟩), .int .u64 (tr : Int), .int .u64 (wh : Int), .int .u64 (n : Int)] w fun e w' => e = .returned (.int .u64 (belowU (drawU j.seed uk ut ua) n : Nat)) ∧ Below w.heap.size w w' := by
  have hbl := fun W => below_any W j.seed uk ut ua n hn
  obtain ⟨A, c, rfl, hc1, hc2⟩ := hpl.form
  unfold maxLen at hc2
  obtain ⟨r, hr⟩ : ∃ r, r = belowU (drawU j.seed uk ut ua) n := ⟨_, rfl⟩
  rw [← hr] at hbl ⊢
  obtain ⟨ln, hln⟩ : ∃ ln, ln = ut.toNat := ⟨_, rfl⟩
  obtain ⟨at_, hat⟩ : ∃ at_, at_ = ua.toNat := ⟨_, rfl⟩
  obtain ⟨sd, hsd⟩ : ∃ sd, sd = j.seed.toNat := ⟨_, rfl⟩
  obtain ⟨t2, ht2⟩ : ∃ t2, t2 = 2 * tr := ⟨_, rfl⟩
  have hbl2 : ∀ W, Calls Tryz.prog 116 #[.agg #[.int .u64 (sd : Int), .int .u64 (id : Int), .int .u64 (ln : Int), .int .u64 (at_ : Int)], .int .u64 (n : Int)] W fun e w' => e = .returned (.int .u64 (r : Int)) ∧ Below W.heap.size W w' := fun W => by
    have := hbl W
    unfold tapeC at this
    rw [hk, ← hln, ← hat, ← hsd] at this
    exact this
  have hx : BoxAt 85 w g (.int .u64 0 :: []) ∨ True := .inr trivial
  have HB := Lib.hid hbl2
  have X : Hid (BoxAt 85 w g (gv :: .int .u8 (j.kind.toNat : Int) :: .int .u64 (sd : Int) :: (jobC j vs).drop 2 ++ [.int .u32 (id : Int), .slice A l.length c])) := Lib.hid (by rw [hsd]; exact hb)
  have H9 : Hid (IntKind.u64.wrap (id : Int) = (id : Int)) := Lib.hid (by rw [wrap_u64]; omega)
  have H15 : Hid ((l.length : Int) - 1 = (ln : Int)) := Lib.hid (by omega)
  have H15b : Hid (IntKind.i64.wrap (ln : Int) = (ln : Int)) := Lib.hid (by rw [wrap_i64]; omega)
  have H16 : Hid (IntKind.u64.wrap (ln : Int) = (ln : Int)) := Lib.hid (by rw [wrap_u64]; omega)
  have H18 : Hid (IntKind.u64.wrap (2 * (tr : Int)) = (t2 : Int)) := Lib.hid (by rw [wrap_u64]; omega)
  have H20 : Hid (IntKind.u64.wrap ((t2 : Int) + (wh : Int)) = (at_ : Int)) := Lib.hid (by rw [wrap_u64]; omega)
  clear hbl hbl2 hb hx hpl hr hk hln hat hsd ht2 hua ht
  go_enter Tryz.func99, Tryz.ntmps99
  go_upto_region 1 with fail
  refine wp_region_typed [some 9, some 10, some 11, some 12, some 13, some 14, some 15, some 16, some 17, some 18, some 19, some 20, some 21, some 22, some 23, some 24, some 25, some 26, some 27, some 28, some 29, some 30, some 31, some 32, some 8] [9, 10, 11, 12, 13, 14, 15, 16, 17, 18, 19, 20, 21, 22, 23, 24, 25, 26, 27, 28, 29, 30, 31, 32, 8]
    [Ph.is (.pointer (some ⟨g, 0, none⟩)),
      Ph.is (.pointer (some ⟨g, 0, none⟩)),
      Ph.is (.pointer (some ⟨g, 1, none⟩)),
      Ph.is (.pointer (some ⟨g, 2, none⟩)),
      Ph.is (.int .u64 (sd : Int)),
      Ph.is (.pointer (some ⟨g, 0, none⟩)),
      Ph.is (.pointer (some ⟨g, 0, none⟩)),
      Ph.is (.pointer (some ⟨g, 16, none⟩)),
      Ph.is (.int .u32 (id : Int)),
      Ph.is (.int .u64 (id : Int)),
      Ph.is (.pointer (some ⟨g, 0, none⟩)),
      Ph.is (.pointer (some ⟨g, 0, none⟩)),
      Ph.is (.pointer (some ⟨g, 17, none⟩)),
      Ph.is (.slice A l.length c),
      Ph.is (.int .i64 (l.length : Int)),
      Ph.is (.int .i64 (ln : Int)),
      Ph.is (.int .u64 (ln : Int)),
      Ph.is (.int .u64 (tr : Int)),
      Ph.is (.int .u64 (t2 : Int)),
      Ph.is (.int .u64 (wh : Int)),
      Ph.is (.int .u64 (at_ : Int)),
      Ph.is (.agg #[.int .u64 ((sd : Nat) : Int), .int .u64 ((id : Nat) : Int), .int .u64 ((ln : Nat) : Int), .int .u64 ((at_ : Nat) : Int)]),
      Ph.is (.int .u64 (n : Int)),
      Ph.is (.int .u64 (r : Int)),
      Ph.is (.int .u64 (r : Int))] rfl rfl (by kernel_rfl) (by kernel_rfl) ?_ ?_
  · refine ⟨?_, ?_, ?_, ?_, ?_, ?_, ?_, ?_, ?_, ?_, ?_, ?_, ?_, ?_, ?_, ?_, ?_, ?_, ?_, ?_, ?_, ?_, ?_, ?_, ?_, trivial⟩
    · -- 0: slot 9 := Op.move t0
      refine ob_yes fun f w' hb hp => ?_
      simp [PreOf, factOf, valOf, Ph.is, Ph.by_, Ph.any, Region.binds] at hp
      refine ⟨by simp [Gd, valOf, hp], ?_⟩
      refine mild_val (.pointer (some ⟨g, 0, none⟩)) ?_ rfl
      simp [execOp, evalF, hp]
    · -- 1: slot 10 := Op.nilCheck t9
      refine ob_yes fun f w' hb hp => ?_
      simp [PreOf, factOf, valOf, Ph.is, Ph.by_, Ph.any, Region.binds] at hp
      refine ⟨by simp [Gd, valOf, hp], ?_⟩
      refine mild_val (.pointer (some ⟨g, 0, none⟩)) ?_ rfl
      simp [execOp, evalF, hp, go_sem]
    · -- 2: slot 11 := Op.fieldAddr 85 t10 1
      refine ob_yes fun f w' hb hp => ?_
      simp [PreOf, factOf, valOf, Ph.is, Ph.by_, Ph.any, Region.binds] at hp
      refine ⟨by simp [Gd, valOf, hp], ?_⟩
      refine mild_val (.pointer (some ⟨g, 1, none⟩)) ?_ rfl
      simp [execOp, evalF, hp, go_sem]
    · -- 3: slot 12 := Op.fieldAddr 29 t11 1
      refine ob_yes fun f w' hb hp => ?_
      simp [PreOf, factOf, valOf, Ph.is, Ph.by_, Ph.any, Region.binds] at hp
      refine ⟨by simp [Gd, valOf, hp], ?_⟩
      refine mild_val (.pointer (some ⟨g, 2, none⟩)) ?_ rfl
      simp [execOp, evalF, hp, go_sem]
    · -- 4: slot 13 := Op.load 23 t12
      refine ob_yes fun f w' hb hp => ?_
      simp [PreOf, factOf, valOf, Ph.is, Ph.by_, Ph.any, Region.binds] at hp
      refine ⟨by simp [Gd, valOf, hp], ?_⟩
      refine mild_val (.int .u64 (sd : Int)) ?_ rfl
      have hc := (X.out.below X.out.lt hb).cell 2 _ rfl
      simp [execOp, evalF, hp, hc, go_sem]
    · -- 5: slot 14 := Op.move t0
      refine ob_yes fun f w' hb hp => ?_
      simp [PreOf, factOf, valOf, Ph.is, Ph.by_, Ph.any, Region.binds] at hp
      refine ⟨by simp [Gd, valOf, hp], ?_⟩
      refine mild_val (.pointer (some ⟨g, 0, none⟩)) ?_ rfl
      simp [execOp, evalF, hp]
    · -- 6: slot 15 := Op.nilCheck t14
      refine ob_yes fun f w' hb hp => ?_
      simp [PreOf, factOf, valOf, Ph.is, Ph.by_, Ph.any, Region.binds] at hp
      refine ⟨by simp [Gd, valOf, hp], ?_⟩
      refine mild_val (.pointer (some ⟨g, 0, none⟩)) ?_ rfl
      simp [execOp, evalF, hp, go_sem]
    · -- 7: slot 16 := Op.fieldAddr 85 t15 2
      refine ob_yes fun f w' hb hp => ?_
      simp [PreOf, factOf, valOf, Ph.is, Ph.by_, Ph.any, Region.binds] at hp
      refine ⟨by simp [Gd, valOf, hp], ?_⟩
      refine mild_val (.pointer (some ⟨g, 16, none⟩)) ?_ rfl
      simp [execOp, evalF, hp, go_sem]
    · -- 8: slot 17 := Op.load 24 t16
      refine ob_yes fun f w' hb hp => ?_
      simp [PreOf, factOf, valOf, Ph.is, Ph.by_, Ph.any, Region.binds] at hp
      refine ⟨by simp [Gd, valOf, hp], ?_⟩
      refine mild_val (.int .u32 (id : Int)) ?_ rfl
      have hc := (X.out.below X.out.lt hb).cell 16 _ rfl
      simp [execOp, evalF, hp, hc, go_sem]
    · -- 9: slot 18 := Op.convert 24 23 t17
      refine ob_yes fun f w' hb hp => ?_
      simp [PreOf, factOf, valOf, Ph.is, Ph.by_, Ph.any, Region.binds] at hp
      refine ⟨by simp [Gd, valOf, hp], ?_⟩
      refine mild_val (.int .u64 (id : Int)) ?_ rfl
      simp [execOp, evalF, hp, go_sem, H9.out]
    · -- 10: slot 19 := Op.move t0
      refine ob_yes fun f w' hb hp => ?_
      simp [PreOf, factOf, valOf, Ph.is, Ph.by_, Ph.any, Region.binds] at hp
      refine ⟨by simp [Gd, valOf, hp], ?_⟩
      refine mild_val (.pointer (some ⟨g, 0, none⟩)) ?_ rfl
      simp [execOp, evalF, hp]
    · -- 11: slot 20 := Op.nilCheck t19
      refine ob_yes fun f w' hb hp => ?_
      simp [PreOf, factOf, valOf, Ph.is, Ph.by_, Ph.any, Region.binds] at hp
      refine ⟨by simp [Gd, valOf, hp], ?_⟩
      refine mild_val (.pointer (some ⟨g, 0, none⟩)) ?_ rfl
      simp [execOp, evalF, hp, go_sem]
    · -- 12: slot 21 := Op.fieldAddr 85 t20 3
      refine ob_yes fun f w' hb hp => ?_
      simp [PreOf, factOf, valOf, Ph.is, Ph.by_, Ph.any, Region.binds] at hp
      refine ⟨by simp [Gd, valOf, hp], ?_⟩
      refine mild_val (.pointer (some ⟨g, 17, none⟩)) ?_ rfl
      simp [execOp, evalF, hp, go_sem]
    · -- 13: slot 22 := Op.load 25 t21
      refine ob_yes fun f w' hb hp => ?_
      simp [PreOf, factOf, valOf, Ph.is, Ph.by_, Ph.any, Region.binds] at hp
      refine ⟨by simp [Gd, valOf, hp], ?_⟩
      refine mild_val (.slice A l.length c) ?_ rfl
      have hc := (X.out.below X.out.lt hb).cell 17 _ rfl
      simp [execOp, evalF, hp, hc, go_sem]
    · -- 14: slot 23 := Op.call   builtin len, args := #[t22], argTypes := #[25]  
      refine ob_yes fun f w' hb hp => ?_
      simp [PreOf, factOf, valOf, Ph.is, Ph.by_, Ph.any, Region.binds] at hp
      refine ⟨by simp [Gd, valOf, hp], ?_⟩
      refine mild_val (.int .i64 (l.length : Int)) ?_ rfl
      simp [execOp, evalF, hp, go_sem]
    · -- 15: slot 24 := Op.binOp BinOp.sub 3 t23 (const (1:i64)) 3
      refine ob_yes fun f w' hb hp => ?_
      simp [PreOf, factOf, valOf, Ph.is, Ph.by_, Ph.any, Region.binds] at hp
      refine ⟨by simp [Gd, valOf, hp], ?_⟩
      refine mild_val (.int .i64 (ln : Int)) ?_ rfl
      simp [execOp, evalF, hp, go_sem, H15.out, H15b.out]
    · -- 16: slot 25 := Op.convert 3 23 t24
      refine ob_yes fun f w' hb hp => ?_
      simp [PreOf, factOf, valOf, Ph.is, Ph.by_, Ph.any, Region.binds] at hp
      refine ⟨by simp [Gd, valOf, hp], ?_⟩
      refine mild_val (.int .u64 (ln : Int)) ?_ rfl
      simp [execOp, evalF, hp, go_sem, H16.out]
    · -- 17: slot 26 := Op.move t1
      refine ob_yes fun f w' hb hp => ?_
      simp [PreOf, factOf, valOf, Ph.is, Ph.by_, Ph.any, Region.binds] at hp
      refine ⟨by simp [Gd, valOf, hp], ?_⟩
      refine mild_val (.int .u64 (tr : Int)) ?_ rfl
      simp [execOp, evalF, hp]
    · -- 18: slot 27 := Op.binOp BinOp.mul 23 (const (2:u64)) t26 23
      refine ob_yes fun f w' hb hp => ?_
      simp [PreOf, factOf, valOf, Ph.is, Ph.by_, Ph.any, Region.binds] at hp
      refine ⟨by simp [Gd, valOf, hp], ?_⟩
      refine mild_val (.int .u64 (t2 : Int)) ?_ rfl
      simp [execOp, evalF, hp, go_sem, H18.out]
    · -- 19: slot 28 := Op.move t2
      refine ob_yes fun f w' hb hp => ?_
      simp [PreOf, factOf, valOf, Ph.is, Ph.by_, Ph.any, Region.binds] at hp
      refine ⟨by simp [Gd, valOf, hp], ?_⟩
      refine mild_val (.int .u64 (wh : Int)) ?_ rfl
      simp [execOp, evalF, hp]
    · -- 20: slot 29 := Op.binOp BinOp.add 23 t27 t28 23
      refine ob_yes fun f w' hb hp => ?_
      simp [PreOf, factOf, valOf, Ph.is, Ph.by_, Ph.any, Region.binds] at hp
      refine ⟨by simp [Gd, valOf, hp], ?_⟩
      refine mild_val (.int .u64 (at_ : Int)) ?_ rfl
      simp [execOp, evalF, hp, go_sem, H20.out]
    · -- 21: slot 30 := Op.build 194 #[(0, t13), (1, t18), (2, t25), (3, t29)]
      refine ob_yes fun f w' hb hp => ?_
      simp [PreOf, factOf, valOf, Ph.is, Ph.by_, Ph.any, Region.binds] at hp
      refine ⟨by simp [Gd, valOf, hp], ?_⟩
      refine mild_val (.agg #[.int .u64 ((sd : Nat) : Int), .int .u64 ((id : Nat) : Int), .int .u64 ((ln : Nat) : Int), .int .u64 ((at_ : Nat) : Int)]) ?_ rfl
      simp [execOp, evalF, hp, go_sem]
    · -- 22: slot 31 := Op.move t3
      refine ob_yes fun f w' hb hp => ?_
      simp [PreOf, factOf, valOf, Ph.is, Ph.by_, Ph.any, Region.binds] at hp
      refine ⟨by simp [Gd, valOf, hp], ?_⟩
      refine mild_val (.int .u64 (n : Int)) ?_ rfl
      simp [execOp, evalF, hp]
    · -- 23: slot 32 := Op.call   value (Operand.func 116), args := #[t30, t31], argTypes := #[194, 23]  
      refine ob_yes fun f w' hb hp => ?_
      simp [PreOf, factOf, valOf, Ph.is, Ph.by_, Ph.any, Region.binds] at hp
      refine ⟨by simp [Gd, valOf, hp], ?_⟩
      refine mild_call 116 _ _ Tryz.f116 Tryz.func116 (by kernel_rfl) (by kernel_rfl) rfl ?_
      simp [evalF, hp, Ph.is, Ph.by_, Ph.any]
      refine (HB.out w').mono fun ev w8 h => ?_
      obtain ⟨rfl, h2⟩ := h
      exact ⟨rfl, h2⟩
    · -- 24: slot 8 := Op.assign t32
      refine ob_yes fun f w' hb hp => ?_
      simp [PreOf, factOf, valOf, Ph.is, Ph.by_, Ph.any, Region.binds] at hp
      refine ⟨by simp [Gd, valOf, hp], ?_⟩
      refine mild_val (.int .u64 (r : Int)) ?_ rfl
      simp [execOp, evalF, hp]
  · intro f w8 hb8 hp
    simp only [PostOf, Ph.is, Ph.by_, Ph.any] at hp
    obtain ⟨h0, h1, h2, h3, h4, h5, h6, h7, h8, h9, h10, h11, h12, h13, h14, h15, h16, h17, h18, h19, h20, h21, h22, h23, h24, _⟩ := hp
    simp only [fills, List.foldl_cons, List.foldl_nil, Act.put, List.setIfInBounds_toArray, List.set_cons_zero, List.set_cons_succ, h0, h1, h2, h3, h4, h5, h6, h7, h8, h9, h10, h11, h12, h13, h14, h15, h16, h17, h18, h19, h20, h21, h22, h23, h24]
    clear h0 h1 h2 h3 h4 h5 h6 h7 h8 h9 h10 h11 h12 h13 h14 h15 h16 h17 h18 h19 h20 h21 h22 h23 h24
    go_wp2_with fail
    go_ret
    exact ⟨rfl, hb8⟩
end Go.Proofs.YtcffeepgfjpcaaaGreat

namespace Go.Proofs.YtcffeepgfjpcaaaGreat
set_option linter.unusedSimpArgs false
set_option linter.unusedVariables false
open Go.RowKit

def backJ (j : GJob) (uk ut : UInt64) : Bool := decide (j.kind.toNat = 1) && decide (belowU (drawU j.seed uk ut 0) j.of_.toNat < j.stop.toNat)
set_option maxRecDepth 100000 in
set_option maxHeartbeats 3200000 in
theorem back_any22 (w : World) (g B : Nat) (hB : B ≤ w.heap.size) (gv vs vp : Value) (j : GJob) (id : Nat) (l : List UInt32) (hb : BoxAt 85 w g (walkC gv vs j id vp)) (hpl : ByU w B vp l) (hl : l.length ≤ 1048576) (hl0 : 0 < l.length) (hid : id < 4294967296)
    (uk ut : UInt64) (hk : uk.toNat = id) (ht : ut.toNat + 1 = l.length) (b : Bool) (hbk : b = backJ j uk ut) :
    Calls Tryz.prog 63 #[.pointer (some ⟨g, 0, none⟩)] w fun e w' => e = .returned (.bool b) ∧ Below w.heap.size w w' := by
  have hst := u32_lt j.stop
  have hso := u32_lt j.of_
  have hk8 := u8_lt j.kind
  obtain ⟨x, hx⟩ : ∃ x, x = belowU (drawU j.seed uk ut 0) j.of_.toNat := ⟨_, rfl⟩
  have hd := fun W (hW : Below w.heap.size w W) => drawW_any W g B gv vs vp j id l (hb.below hb.lt hW) (hpl.below (hW.mono hB)) hl hl0 hid 0 0 j.of_.toNat (by omega) (by omega) (by omega) uk ut 0 hk ht rfl
  unfold backJ at hbk
  rw [← hx] at hd hbk
  obtain ⟨kd, hkd⟩ : ∃ kd, kd = j.kind.toNat := ⟨_, rfl⟩
  obtain ⟨st, hst'⟩ : ∃ st, st = j.stop.toNat := ⟨_, rfl⟩
  obtain ⟨so, hso'⟩ : ∃ so, so = j.of_.toNat := ⟨_, rfl⟩
  have X : Hid (BoxAt 85 w g (gv :: .int .u8 (kd : Int) :: .int .u64 (j.seed.toNat : Int) :: .int .u32 (j.len.toNat : Int) :: .int .u32 (j.walks.toNat : Int) :: vs :: .int .u32 (st : Int) :: .int .u32 (so : Int) :: (jobC j vs).drop 7 ++ [.int .u32 (id : Int), vp])) := Lib.hid (by rw [hkd, hst', hso']; exact hb)
  rw [← hkd] at hbk hk8
  rw [← hst'] at hbk hst
  rw [← hso'] at hd hso
  have HD := Lib.hid hd
  have HR := Lib.hid hbk
  have H1 : Hid (IntKind.u64.wrap (so : Int) = (so : Int)) := Lib.hid (by rw [wrap_u64]; omega)
  have H2 : Hid (IntKind.u64.wrap (st : Int) = (st : Int)) := Lib.hid (by rw [wrap_u64]; omega)
  clear hd hbk hb hpl hx hkd hst' hso' hk ht
  go_enter Tryz.func63, Tryz.ntmps63
  go_upto_region 1 with fail
  by_cases hk1 : kd = 1
  · by_cases hxs : x < st
    ·
      refine wp_region_typed [some 3, some 4, some 5, some 6, some 7, some 8, some 9, some 10, some 11, some 12, some 13, some 14, some 15, some 16, some 17, some 18, some 19, some 20, some 21, some 22, some 23, some 24, some 25, some 2] [3, 4, 5, 6, 7, 8, 9, 10, 11, 12, 13, 14, 15, 16, 17, 18, 19, 20, 21, 22, 23, 24, 25, 2]
        [Ph.is (.pointer (some ⟨g, 0, none⟩)),
          Ph.is (.pointer (some ⟨g, 0, none⟩)),
          Ph.is (.pointer (some ⟨g, 1, none⟩)),
          Ph.is (.pointer (some ⟨g, 1, none⟩)),
          Ph.is (.int .u8 (kd : Int)),
          Ph.is (.bool true),
          Ph.is (.bool true),
          Ph.is (.pointer (some ⟨g, 0, none⟩)),
          Ph.is (.pointer (some ⟨g, 0, none⟩)),
          Ph.is (.pointer (some ⟨g, 0, none⟩)),
          Ph.is (.pointer (some ⟨g, 1, none⟩)),
          Ph.is (.pointer (some ⟨g, 7, none⟩)),
          Ph.is (.int .u32 (so : Int)),
          Ph.is (.int .u64 (so : Int)),
          Ph.is (.int .u64 (x : Int)),
          Ph.is (.pointer (some ⟨g, 0, none⟩)),
          Ph.is (.pointer (some ⟨g, 0, none⟩)),
          Ph.is (.pointer (some ⟨g, 1, none⟩)),
          Ph.is (.pointer (some ⟨g, 6, none⟩)),
          Ph.is (.int .u32 (st : Int)),
          Ph.is (.int .u64 (st : Int)),
          Ph.is (.bool true),
          Ph.is (.bool true),
          Ph.is (.bool true)] rfl rfl (by kernel_rfl) (by kernel_rfl) ?_ ?_
      · refine ⟨?_, ?_, ?_, ?_, ?_, ?_, ?_, ?_, ?_, ?_, ?_, ?_, ?_, ?_, ?_, ?_, ?_, ?_, ?_, ?_, ?_, ?_, ?_, ?_, trivial⟩
        · -- 0: slot 3 := Op.move t0
          refine ob_yes fun f w' hb hp => ?_
          simp [PreOf, factOf, valOf, Ph.is, Ph.by_, Ph.any, Region.binds] at hp
          refine ⟨by simp [Gd, valOf, hp], ?_⟩
          refine mild_val (.pointer (some ⟨g, 0, none⟩)) ?_ rfl
          simp [execOp, evalF, hp]
        · -- 1: slot 4 := Op.nilCheck t3
          refine ob_yes fun f w' hb hp => ?_
          simp [PreOf, factOf, valOf, Ph.is, Ph.by_, Ph.any, Region.binds] at hp
          refine ⟨by simp [Gd, valOf, hp], ?_⟩
          refine mild_val (.pointer (some ⟨g, 0, none⟩)) ?_ rfl
          simp [execOp, evalF, hp, go_sem]
        · -- 2: slot 5 := Op.fieldAddr 85 t4 1
          refine ob_yes fun f w' hb hp => ?_
          simp [PreOf, factOf, valOf, Ph.is, Ph.by_, Ph.any, Region.binds] at hp
          refine ⟨by simp [Gd, valOf, hp], ?_⟩
          refine mild_val (.pointer (some ⟨g, 1, none⟩)) ?_ rfl
          simp [execOp, evalF, hp, go_sem]
        · -- 3: slot 6 := Op.fieldAddr 29 t5 0
          refine ob_yes fun f w' hb hp => ?_
          simp [PreOf, factOf, valOf, Ph.is, Ph.by_, Ph.any, Region.binds] at hp
          refine ⟨by simp [Gd, valOf, hp], ?_⟩
          refine mild_val (.pointer (some ⟨g, 1, none⟩)) ?_ rfl
          simp [execOp, evalF, hp, go_sem]
        · -- 4: slot 7 := Op.load 5 t6
          refine ob_yes fun f w' hb hp => ?_
          simp [PreOf, factOf, valOf, Ph.is, Ph.by_, Ph.any, Region.binds] at hp
          refine ⟨by simp [Gd, valOf, hp], ?_⟩
          refine mild_val (.int .u8 (kd : Int)) ?_ rfl
          have hc := (X.out.below X.out.lt hb).cell 1 _ rfl
          simp [execOp, evalF, hp, hc, go_sem]
        · -- 5: slot 8 := Op.binOp BinOp.eql 5 t7 (const (1:u8)) 5
          refine ob_yes fun f w' hb hp => ?_
          simp [PreOf, factOf, valOf, Ph.is, Ph.by_, Ph.any, Region.binds] at hp
          refine ⟨by simp [Gd, valOf, hp], ?_⟩
          refine mild_val (.bool true) ?_ rfl
          simp [execOp, evalF, hp, go_sem]
          try omega
        · -- 6: slot 9 := Op.move t8
          refine ob_yes fun f w' hb hp => ?_
          simp [PreOf, factOf, valOf, Ph.is, Ph.by_, Ph.any, Region.binds] at hp
          refine ⟨by simp [Gd, valOf, hp], ?_⟩
          refine mild_val (.bool true) ?_ rfl
          simp [execOp, evalF, hp]
        · -- 7: slot 10 := Op.move t0
          refine ob_yes fun f w' hb hp => ?_
          simp [PreOf, factOf, valOf, Ph.is, Ph.by_, Ph.any, Region.binds] at hp
          refine ⟨by simp [Gd, valOf, hp], ?_⟩
          refine mild_val (.pointer (some ⟨g, 0, none⟩)) ?_ rfl
          simp [execOp, evalF, hp]
        · -- 8: slot 11 := Op.move t0
          refine ob_yes fun f w' hb hp => ?_
          simp [PreOf, factOf, valOf, Ph.is, Ph.by_, Ph.any, Region.binds] at hp
          refine ⟨by simp [Gd, valOf, hp], ?_⟩
          refine mild_val (.pointer (some ⟨g, 0, none⟩)) ?_ rfl
          simp [execOp, evalF, hp]
        · -- 9: slot 12 := Op.nilCheck t11
          refine ob_yes fun f w' hb hp => ?_
          simp [PreOf, factOf, valOf, Ph.is, Ph.by_, Ph.any, Region.binds] at hp
          refine ⟨by simp [Gd, valOf, hp], ?_⟩
          refine mild_val (.pointer (some ⟨g, 0, none⟩)) ?_ rfl
          simp [execOp, evalF, hp, go_sem]
        · -- 10: slot 13 := Op.fieldAddr 85 t12 1
          refine ob_yes fun f w' hb hp => ?_
          simp [PreOf, factOf, valOf, Ph.is, Ph.by_, Ph.any, Region.binds] at hp
          refine ⟨by simp [Gd, valOf, hp], ?_⟩
          refine mild_val (.pointer (some ⟨g, 1, none⟩)) ?_ rfl
          simp [execOp, evalF, hp, go_sem]
        · -- 11: slot 14 := Op.fieldAddr 29 t13 6
          refine ob_yes fun f w' hb hp => ?_
          simp [PreOf, factOf, valOf, Ph.is, Ph.by_, Ph.any, Region.binds] at hp
          refine ⟨by simp [Gd, valOf, hp], ?_⟩
          refine mild_val (.pointer (some ⟨g, 7, none⟩)) ?_ rfl
          simp [execOp, evalF, hp, go_sem]
        · -- 12: slot 15 := Op.load 24 t14
          refine ob_yes fun f w' hb hp => ?_
          simp [PreOf, factOf, valOf, Ph.is, Ph.by_, Ph.any, Region.binds] at hp
          refine ⟨by simp [Gd, valOf, hp], ?_⟩
          refine mild_val (.int .u32 (so : Int)) ?_ rfl
          have hc := (X.out.below X.out.lt hb).cell 7 _ rfl
          simp [execOp, evalF, hp, hc, go_sem]
        · -- 13: slot 16 := Op.convert 24 23 t15
          refine ob_yes fun f w' hb hp => ?_
          simp [PreOf, factOf, valOf, Ph.is, Ph.by_, Ph.any, Region.binds] at hp
          refine ⟨by simp [Gd, valOf, hp], ?_⟩
          refine mild_val (.int .u64 (so : Int)) ?_ rfl
          simp [execOp, evalF, hp, go_sem, H1.out]
        · -- 14: slot 17 := Op.call   value (Operand.func 99), args := #[t10, const (0:u64), const (0:u64), t16], argTypes := #[83, 23, 23, 23]  
          refine ob_yes fun f w' hb hp => ?_
          simp [PreOf, factOf, valOf, Ph.is, Ph.by_, Ph.any, Region.binds] at hp
          refine ⟨by simp [Gd, valOf, hp], ?_⟩
          refine mild_call 99 _ _ Tryz.f99 Tryz.func99 (by kernel_rfl) (by kernel_rfl) rfl ?_
          simp [evalF, hp, Ph.is, Ph.by_, Ph.any]
          refine (HD.out w' hb).mono fun ev w8 h => ?_
          obtain ⟨rfl, h2⟩ := h
          exact ⟨rfl, h2⟩
        · -- 15: slot 18 := Op.move t0
          refine ob_yes fun f w' hb hp => ?_
          simp [PreOf, factOf, valOf, Ph.is, Ph.by_, Ph.any, Region.binds] at hp
          refine ⟨by simp [Gd, valOf, hp], ?_⟩
          refine mild_val (.pointer (some ⟨g, 0, none⟩)) ?_ rfl
          simp [execOp, evalF, hp]
        · -- 16: slot 19 := Op.nilCheck t18
          refine ob_yes fun f w' hb hp => ?_
          simp [PreOf, factOf, valOf, Ph.is, Ph.by_, Ph.any, Region.binds] at hp
          refine ⟨by simp [Gd, valOf, hp], ?_⟩
          refine mild_val (.pointer (some ⟨g, 0, none⟩)) ?_ rfl
          simp [execOp, evalF, hp, go_sem]
        · -- 17: slot 20 := Op.fieldAddr 85 t19 1
          refine ob_yes fun f w' hb hp => ?_
          simp [PreOf, factOf, valOf, Ph.is, Ph.by_, Ph.any, Region.binds] at hp
          refine ⟨by simp [Gd, valOf, hp], ?_⟩
          refine mild_val (.pointer (some ⟨g, 1, none⟩)) ?_ rfl
          simp [execOp, evalF, hp, go_sem]
        · -- 18: slot 21 := Op.fieldAddr 29 t20 5
          refine ob_yes fun f w' hb hp => ?_
          simp [PreOf, factOf, valOf, Ph.is, Ph.by_, Ph.any, Region.binds] at hp
          refine ⟨by simp [Gd, valOf, hp], ?_⟩
          refine mild_val (.pointer (some ⟨g, 6, none⟩)) ?_ rfl
          simp [execOp, evalF, hp, go_sem]
        · -- 19: slot 22 := Op.load 24 t21
          refine ob_yes fun f w' hb hp => ?_
          simp [PreOf, factOf, valOf, Ph.is, Ph.by_, Ph.any, Region.binds] at hp
          refine ⟨by simp [Gd, valOf, hp], ?_⟩
          refine mild_val (.int .u32 (st : Int)) ?_ rfl
          have hc := (X.out.below X.out.lt hb).cell 6 _ rfl
          simp [execOp, evalF, hp, hc, go_sem]
        · -- 20: slot 23 := Op.convert 24 23 t22
          refine ob_yes fun f w' hb hp => ?_
          simp [PreOf, factOf, valOf, Ph.is, Ph.by_, Ph.any, Region.binds] at hp
          refine ⟨by simp [Gd, valOf, hp], ?_⟩
          refine mild_val (.int .u64 (st : Int)) ?_ rfl
          simp [execOp, evalF, hp, go_sem, H2.out]
        · -- 21: slot 24 := Op.binOp BinOp.lss 23 t17 t23 23
          refine ob_yes fun f w' hb hp => ?_
          simp [PreOf, factOf, valOf, Ph.is, Ph.by_, Ph.any, Region.binds] at hp
          refine ⟨by simp [Gd, valOf, hp], ?_⟩
          refine mild_val (.bool true) ?_ rfl
          simp [execOp, evalF, hp, go_sem]
          try omega
        · -- 22: slot 25 := Op.pick t9 t24 (const (Value.bool false))
          refine ob_yes fun f w' hb hp => ?_
          simp [PreOf, factOf, valOf, Ph.is, Ph.by_, Ph.any, Region.binds] at hp
          refine ⟨by simp [Gd, valOf, hp], ?_⟩
          refine mild_val (.bool true) ?_ rfl
          simp [execOp, evalF, hp, go_sem]
        · -- 23: slot 2 := Op.assign t25
          refine ob_yes fun f w' hb hp => ?_
          simp [PreOf, factOf, valOf, Ph.is, Ph.by_, Ph.any, Region.binds] at hp
          refine ⟨by simp [Gd, valOf, hp], ?_⟩
          refine mild_val (.bool true) ?_ rfl
          simp [execOp, evalF, hp]
      · intro f w8 hb8 hp
        simp only [PostOf, Ph.is, Ph.by_, Ph.any] at hp
        obtain ⟨h0, h1, h2, h3, h4, h5, h6, h7, h8, h9, h10, h11, h12, h13, h14, h15, h16, h17, h18, h19, h20, h21, h22, h23, _⟩ := hp
        simp only [fills, List.foldl_cons, List.foldl_nil, Act.put, List.setIfInBounds_toArray, List.set_cons_zero, List.set_cons_succ, h0, h1, h2, h3, h4, h5, h6, h7, h8, h9, h10, h11, h12, h13, h14, h15, h16, h17, h18, h19, h20, h21, h22, h23]
        clear h0 h1 h2 h3 h4 h5 h6 h7 h8 h9 h10 h11 h12 h13 h14 h15 h16 h17 h18 h19 h20 h21 h22 h23
        go_wp2_with fail
        go_ret
        exact ⟨by rw [HR.out]; simp [hk1, hxs], hb8⟩
    ·
      refine wp_region_typed [some 3, some 4, some 5, some 6, some 7, some 8, some 9, some 10, some 11, some 12, some 13, some 14, some 15, some 16, some 17, some 18, some 19, some 20, some 21, some 22, some 23, some 24, some 25, some 2] [3, 4, 5, 6, 7, 8, 9, 10, 11, 12, 13, 14, 15, 16, 17, 18, 19, 20, 21, 22, 23, 24, 25, 2]
        [Ph.is (.pointer (some ⟨g, 0, none⟩)),
          Ph.is (.pointer (some ⟨g, 0, none⟩)),
          Ph.is (.pointer (some ⟨g, 1, none⟩)),
          Ph.is (.pointer (some ⟨g, 1, none⟩)),
          Ph.is (.int .u8 (kd : Int)),
          Ph.is (.bool true),
          Ph.is (.bool true),
          Ph.is (.pointer (some ⟨g, 0, none⟩)),
          Ph.is (.pointer (some ⟨g, 0, none⟩)),
          Ph.is (.pointer (some ⟨g, 0, none⟩)),
          Ph.is (.pointer (some ⟨g, 1, none⟩)),
          Ph.is (.pointer (some ⟨g, 7, none⟩)),
          Ph.is (.int .u32 (so : Int)),
          Ph.is (.int .u64 (so : Int)),
          Ph.is (.int .u64 (x : Int)),
          Ph.is (.pointer (some ⟨g, 0, none⟩)),
          Ph.is (.pointer (some ⟨g, 0, none⟩)),
          Ph.is (.pointer (some ⟨g, 1, none⟩)),
          Ph.is (.pointer (some ⟨g, 6, none⟩)),
          Ph.is (.int .u32 (st : Int)),
          Ph.is (.int .u64 (st : Int)),
          Ph.is (.bool false),
          Ph.is (.bool false),
          Ph.is (.bool false)] rfl rfl (by kernel_rfl) (by kernel_rfl) ?_ ?_
      · refine ⟨?_, ?_, ?_, ?_, ?_, ?_, ?_, ?_, ?_, ?_, ?_, ?_, ?_, ?_, ?_, ?_, ?_, ?_, ?_, ?_, ?_, ?_, ?_, ?_, trivial⟩
        · -- 0: slot 3 := Op.move t0
          refine ob_yes fun f w' hb hp => ?_
          simp [PreOf, factOf, valOf, Ph.is, Ph.by_, Ph.any, Region.binds] at hp
          refine ⟨by simp [Gd, valOf, hp], ?_⟩
          refine mild_val (.pointer (some ⟨g, 0, none⟩)) ?_ rfl
          simp [execOp, evalF, hp]
        · -- 1: slot 4 := Op.nilCheck t3
          refine ob_yes fun f w' hb hp => ?_
          simp [PreOf, factOf, valOf, Ph.is, Ph.by_, Ph.any, Region.binds] at hp
          refine ⟨by simp [Gd, valOf, hp], ?_⟩
          refine mild_val (.pointer (some ⟨g, 0, none⟩)) ?_ rfl
          simp [execOp, evalF, hp, go_sem]
        · -- 2: slot 5 := Op.fieldAddr 85 t4 1
          refine ob_yes fun f w' hb hp => ?_
          simp [PreOf, factOf, valOf, Ph.is, Ph.by_, Ph.any, Region.binds] at hp
          refine ⟨by simp [Gd, valOf, hp], ?_⟩
          refine mild_val (.pointer (some ⟨g, 1, none⟩)) ?_ rfl
          simp [execOp, evalF, hp, go_sem]
        · -- 3: slot 6 := Op.fieldAddr 29 t5 0
          refine ob_yes fun f w' hb hp => ?_
          simp [PreOf, factOf, valOf, Ph.is, Ph.by_, Ph.any, Region.binds] at hp
          refine ⟨by simp [Gd, valOf, hp], ?_⟩
          refine mild_val (.pointer (some ⟨g, 1, none⟩)) ?_ rfl
          simp [execOp, evalF, hp, go_sem]
        · -- 4: slot 7 := Op.load 5 t6
          refine ob_yes fun f w' hb hp => ?_
          simp [PreOf, factOf, valOf, Ph.is, Ph.by_, Ph.any, Region.binds] at hp
          refine ⟨by simp [Gd, valOf, hp], ?_⟩
          refine mild_val (.int .u8 (kd : Int)) ?_ rfl
          have hc := (X.out.below X.out.lt hb).cell 1 _ rfl
          simp [execOp, evalF, hp, hc, go_sem]
        · -- 5: slot 8 := Op.binOp BinOp.eql 5 t7 (const (1:u8)) 5
          refine ob_yes fun f w' hb hp => ?_
          simp [PreOf, factOf, valOf, Ph.is, Ph.by_, Ph.any, Region.binds] at hp
          refine ⟨by simp [Gd, valOf, hp], ?_⟩
          refine mild_val (.bool true) ?_ rfl
          simp [execOp, evalF, hp, go_sem]
          try omega
        · -- 6: slot 9 := Op.move t8
          refine ob_yes fun f w' hb hp => ?_
          simp [PreOf, factOf, valOf, Ph.is, Ph.by_, Ph.any, Region.binds] at hp
          refine ⟨by simp [Gd, valOf, hp], ?_⟩
          refine mild_val (.bool true) ?_ rfl
          simp [execOp, evalF, hp]
        · -- 7: slot 10 := Op.move t0
          refine ob_yes fun f w' hb hp => ?_
          simp [PreOf, factOf, valOf, Ph.is, Ph.by_, Ph.any, Region.binds] at hp
          refine ⟨by simp [Gd, valOf, hp], ?_⟩
          refine mild_val (.pointer (some ⟨g, 0, none⟩)) ?_ rfl
          simp [execOp, evalF, hp]
        · -- 8: slot 11 := Op.move t0
          refine ob_yes fun f w' hb hp => ?_
          simp [PreOf, factOf, valOf, Ph.is, Ph.by_, Ph.any, Region.binds] at hp
          refine ⟨by simp [Gd, valOf, hp], ?_⟩
          refine mild_val (.pointer (some ⟨g, 0, none⟩)) ?_ rfl
          simp [execOp, evalF, hp]
        · -- 9: slot 12 := Op.nilCheck t11
          refine ob_yes fun f w' hb hp => ?_
          simp [PreOf, factOf, valOf, Ph.is, Ph.by_, Ph.any, Region.binds] at hp
          refine ⟨by simp [Gd, valOf, hp], ?_⟩
          refine mild_val (.pointer (some ⟨g, 0, none⟩)) ?_ rfl
          simp [execOp, evalF, hp, go_sem]
        · -- 10: slot 13 := Op.fieldAddr 85 t12 1
          refine ob_yes fun f w' hb hp => ?_
          simp [PreOf, factOf, valOf, Ph.is, Ph.by_, Ph.any, Region.binds] at hp
          refine ⟨by simp [Gd, valOf, hp], ?_⟩
          refine mild_val (.pointer (some ⟨g, 1, none⟩)) ?_ rfl
          simp [execOp, evalF, hp, go_sem]
        · -- 11: slot 14 := Op.fieldAddr 29 t13 6
          refine ob_yes fun f w' hb hp => ?_
          simp [PreOf, factOf, valOf, Ph.is, Ph.by_, Ph.any, Region.binds] at hp
          refine ⟨by simp [Gd, valOf, hp], ?_⟩
          refine mild_val (.pointer (some ⟨g, 7, none⟩)) ?_ rfl
          simp [execOp, evalF, hp, go_sem]
        · -- 12: slot 15 := Op.load 24 t14
          refine ob_yes fun f w' hb hp => ?_
          simp [PreOf, factOf, valOf, Ph.is, Ph.by_, Ph.any, Region.binds] at hp
          refine ⟨by simp [Gd, valOf, hp], ?_⟩
          refine mild_val (.int .u32 (so : Int)) ?_ rfl
          have hc := (X.out.below X.out.lt hb).cell 7 _ rfl
          simp [execOp, evalF, hp, hc, go_sem]
        · -- 13: slot 16 := Op.convert 24 23 t15
          refine ob_yes fun f w' hb hp => ?_
          simp [PreOf, factOf, valOf, Ph.is, Ph.by_, Ph.any, Region.binds] at hp
          refine ⟨by simp [Gd, valOf, hp], ?_⟩
          refine mild_val (.int .u64 (so : Int)) ?_ rfl
          simp [execOp, evalF, hp, go_sem, H1.out]
        · -- 14: slot 17 := Op.call   value (Operand.func 99), args := #[t10, const (0:u64), const (0:u64), t16], argTypes := #[83, 23, 23, 23]  
          refine ob_yes fun f w' hb hp => ?_
          simp [PreOf, factOf, valOf, Ph.is, Ph.by_, Ph.any, Region.binds] at hp
          refine ⟨by simp [Gd, valOf, hp], ?_⟩
          refine mild_call 99 _ _ Tryz.f99 Tryz.func99 (by kernel_rfl) (by kernel_rfl) rfl ?_
          simp [evalF, hp, Ph.is, Ph.by_, Ph.any]
          refine (HD.out w' hb).mono fun ev w8 h => ?_
          obtain ⟨rfl, h2⟩ := h
          exact ⟨rfl, h2⟩
        · -- 15: slot 18 := Op.move t0
          refine ob_yes fun f w' hb hp => ?_
          simp [PreOf, factOf, valOf, Ph.is, Ph.by_, Ph.any, Region.binds] at hp
          refine ⟨by simp [Gd, valOf, hp], ?_⟩
          refine mild_val (.pointer (some ⟨g, 0, none⟩)) ?_ rfl
          simp [execOp, evalF, hp]
        · -- 16: slot 19 := Op.nilCheck t18
          refine ob_yes fun f w' hb hp => ?_
          simp [PreOf, factOf, valOf, Ph.is, Ph.by_, Ph.any, Region.binds] at hp
          refine ⟨by simp [Gd, valOf, hp], ?_⟩
          refine mild_val (.pointer (some ⟨g, 0, none⟩)) ?_ rfl
          simp [execOp, evalF, hp, go_sem]
        · -- 17: slot 20 := Op.fieldAddr 85 t19 1
          refine ob_yes fun f w' hb hp => ?_
          simp [PreOf, factOf, valOf, Ph.is, Ph.by_, Ph.any, Region.binds] at hp
          refine ⟨by simp [Gd, valOf, hp], ?_⟩
          refine mild_val (.pointer (some ⟨g, 1, none⟩)) ?_ rfl
          simp [execOp, evalF, hp, go_sem]
        · -- 18: slot 21 := Op.fieldAddr 29 t20 5
          refine ob_yes fun f w' hb hp => ?_
          simp [PreOf, factOf, valOf, Ph.is, Ph.by_, Ph.any, Region.binds] at hp
          refine ⟨by simp [Gd, valOf, hp], ?_⟩
          refine mild_val (.pointer (some ⟨g, 6, none⟩)) ?_ rfl
          simp [execOp, evalF, hp, go_sem]
        · -- 19: slot 22 := Op.load 24 t21
          refine ob_yes fun f w' hb hp => ?_
          simp [PreOf, factOf, valOf, Ph.is, Ph.by_, Ph.any, Region.binds] at hp
          refine ⟨by simp [Gd, valOf, hp], ?_⟩
          refine mild_val (.int .u32 (st : Int)) ?_ rfl
          have hc := (X.out.below X.out.lt hb).cell 6 _ rfl
          simp [execOp, evalF, hp, hc, go_sem]
        · -- 20: slot 23 := Op.convert 24 23 t22
          refine ob_yes fun f w' hb hp => ?_
          simp [PreOf, factOf, valOf, Ph.is, Ph.by_, Ph.any, Region.binds] at hp
          refine ⟨by simp [Gd, valOf, hp], ?_⟩
          refine mild_val (.int .u64 (st : Int)) ?_ rfl
          simp [execOp, evalF, hp, go_sem, H2.out]
        · -- 21: slot 24 := Op.binOp BinOp.lss 23 t17 t23 23
          refine ob_yes fun f w' hb hp => ?_
          simp [PreOf, factOf, valOf, Ph.is, Ph.by_, Ph.any, Region.binds] at hp
          refine ⟨by simp [Gd, valOf, hp], ?_⟩
          refine mild_val (.bool false) ?_ rfl
          simp [execOp, evalF, hp, go_sem]
          try omega
        · -- 22: slot 25 := Op.pick t9 t24 (const (Value.bool false))
          refine ob_yes fun f w' hb hp => ?_
          simp [PreOf, factOf, valOf, Ph.is, Ph.by_, Ph.any, Region.binds] at hp
          refine ⟨by simp [Gd, valOf, hp], ?_⟩
          refine mild_val (.bool false) ?_ rfl
          simp [execOp, evalF, hp, go_sem]
        · -- 23: slot 2 := Op.assign t25
          refine ob_yes fun f w' hb hp => ?_
          simp [PreOf, factOf, valOf, Ph.is, Ph.by_, Ph.any, Region.binds] at hp
          refine ⟨by simp [Gd, valOf, hp], ?_⟩
          refine mild_val (.bool false) ?_ rfl
          simp [execOp, evalF, hp]
      · intro f w8 hb8 hp
        simp only [PostOf, Ph.is, Ph.by_, Ph.any] at hp
        obtain ⟨h0, h1, h2, h3, h4, h5, h6, h7, h8, h9, h10, h11, h12, h13, h14, h15, h16, h17, h18, h19, h20, h21, h22, h23, _⟩ := hp
        simp only [fills, List.foldl_cons, List.foldl_nil, Act.put, List.setIfInBounds_toArray, List.set_cons_zero, List.set_cons_succ, h0, h1, h2, h3, h4, h5, h6, h7, h8, h9, h10, h11, h12, h13, h14, h15, h16, h17, h18, h19, h20, h21, h22, h23]
        clear h0 h1 h2 h3 h4 h5 h6 h7 h8 h9 h10 h11 h12 h13 h14 h15 h16 h17 h18 h19 h20 h21 h22 h23
        go_wp2_with fail
        go_ret
        exact ⟨by rw [HR.out]; simp [hk1, hxs], hb8⟩
  ·
    refine wp_region_typed [some 3, some 4, some 5, some 6, some 7, some 8, some 9, some 10, some 11, some 12, some 13, some 14, some 15, some 16, some 17, some 18, some 19, some 20, some 21, some 22, some 23, some 24, some 25, some 2] [3, 4, 5, 6, 7, 8, 9, 10, 11, 12, 13, 14, 15, 16, 17, 18, 19, 20, 21, 22, 23, 24, 25, 2]
      [Ph.is (.pointer (some ⟨g, 0, none⟩)),
        Ph.is (.pointer (some ⟨g, 0, none⟩)),
        Ph.is (.pointer (some ⟨g, 1, none⟩)),
        Ph.is (.pointer (some ⟨g, 1, none⟩)),
        Ph.is (.int .u8 (kd : Int)),
        Ph.is (.bool false),
        Ph.is (.bool false),
        Ph.is undef,
        Ph.is undef,
        Ph.is undef,
        Ph.is undef,
        Ph.is undef,
        Ph.is undef,
        Ph.is undef,
        Ph.is undef,
        Ph.is undef,
        Ph.is undef,
        Ph.is undef,
        Ph.is undef,
        Ph.is undef,
        Ph.is undef,
        Ph.is undef,
        Ph.is (.bool false),
        Ph.is (.bool false)] rfl rfl (by kernel_rfl) (by kernel_rfl) ?_ ?_
    · refine ⟨?_, ?_, ?_, ?_, ?_, ?_, ?_, ?_, ?_, ?_, ?_, ?_, ?_, ?_, ?_, ?_, ?_, ?_, ?_, ?_, ?_, ?_, ?_, ?_, trivial⟩
      · -- 0: slot 3 := Op.move t0
        refine ob_yes fun f w' hb hp => ?_
        simp [PreOf, factOf, valOf, Ph.is, Ph.by_, Ph.any, Region.binds] at hp
        refine ⟨by simp [Gd, valOf, hp], ?_⟩
        refine mild_val (.pointer (some ⟨g, 0, none⟩)) ?_ rfl
        simp [execOp, evalF, hp]
      · -- 1: slot 4 := Op.nilCheck t3
        refine ob_yes fun f w' hb hp => ?_
        simp [PreOf, factOf, valOf, Ph.is, Ph.by_, Ph.any, Region.binds] at hp
        refine ⟨by simp [Gd, valOf, hp], ?_⟩
        refine mild_val (.pointer (some ⟨g, 0, none⟩)) ?_ rfl
        simp [execOp, evalF, hp, go_sem]
      · -- 2: slot 5 := Op.fieldAddr 85 t4 1
        refine ob_yes fun f w' hb hp => ?_
        simp [PreOf, factOf, valOf, Ph.is, Ph.by_, Ph.any, Region.binds] at hp
        refine ⟨by simp [Gd, valOf, hp], ?_⟩
        refine mild_val (.pointer (some ⟨g, 1, none⟩)) ?_ rfl
        simp [execOp, evalF, hp, go_sem]
      · -- 3: slot 6 := Op.fieldAddr 29 t5 0
        refine ob_yes fun f w' hb hp => ?_
        simp [PreOf, factOf, valOf, Ph.is, Ph.by_, Ph.any, Region.binds] at hp
        refine ⟨by simp [Gd, valOf, hp], ?_⟩
        refine mild_val (.pointer (some ⟨g, 1, none⟩)) ?_ rfl
        simp [execOp, evalF, hp, go_sem]
      · -- 4: slot 7 := Op.load 5 t6
        refine ob_yes fun f w' hb hp => ?_
        simp [PreOf, factOf, valOf, Ph.is, Ph.by_, Ph.any, Region.binds] at hp
        refine ⟨by simp [Gd, valOf, hp], ?_⟩
        refine mild_val (.int .u8 (kd : Int)) ?_ rfl
        have hc := (X.out.below X.out.lt hb).cell 1 _ rfl
        simp [execOp, evalF, hp, hc, go_sem]
      · -- 5: slot 8 := Op.binOp BinOp.eql 5 t7 (const (1:u8)) 5
        refine ob_yes fun f w' hb hp => ?_
        simp [PreOf, factOf, valOf, Ph.is, Ph.by_, Ph.any, Region.binds] at hp
        refine ⟨by simp [Gd, valOf, hp], ?_⟩
        refine mild_val (.bool false) ?_ rfl
        simp [execOp, evalF, hp, go_sem]
        try omega
      · -- 6: slot 9 := Op.move t8
        refine ob_yes fun f w' hb hp => ?_
        simp [PreOf, factOf, valOf, Ph.is, Ph.by_, Ph.any, Region.binds] at hp
        refine ⟨by simp [Gd, valOf, hp], ?_⟩
        refine mild_val (.bool false) ?_ rfl
        simp [execOp, evalF, hp]
      · -- 7: slot 10 := Op.move t0
        refine ob_no fun f w' hb hp => ?_
        simp [PreOf, factOf, valOf, Ph.is, Ph.by_, Ph.any, Region.binds] at hp
        exact ⟨by simp [Gd, valOf, hp], rfl⟩
      · -- 8: slot 11 := Op.move t0
        refine ob_no fun f w' hb hp => ?_
        simp [PreOf, factOf, valOf, Ph.is, Ph.by_, Ph.any, Region.binds] at hp
        exact ⟨by simp [Gd, valOf, hp], rfl⟩
      · -- 9: slot 12 := Op.nilCheck t11
        refine ob_no fun f w' hb hp => ?_
        simp [PreOf, factOf, valOf, Ph.is, Ph.by_, Ph.any, Region.binds] at hp
        exact ⟨by simp [Gd, valOf, hp], rfl⟩
      · -- 10: slot 13 := Op.fieldAddr 85 t12 1
        refine ob_no fun f w' hb hp => ?_
        simp [PreOf, factOf, valOf, Ph.is, Ph.by_, Ph.any, Region.binds] at hp
        exact ⟨by simp [Gd, valOf, hp], rfl⟩
      · -- 11: slot 14 := Op.fieldAddr 29 t13 6
        refine ob_no fun f w' hb hp => ?_
        simp [PreOf, factOf, valOf, Ph.is, Ph.by_, Ph.any, Region.binds] at hp
        exact ⟨by simp [Gd, valOf, hp], rfl⟩
      · -- 12: slot 15 := Op.load 24 t14
        refine ob_no fun f w' hb hp => ?_
        simp [PreOf, factOf, valOf, Ph.is, Ph.by_, Ph.any, Region.binds] at hp
        exact ⟨by simp [Gd, valOf, hp], rfl⟩
      · -- 13: slot 16 := Op.convert 24 23 t15
        refine ob_no fun f w' hb hp => ?_
        simp [PreOf, factOf, valOf, Ph.is, Ph.by_, Ph.any, Region.binds] at hp
        exact ⟨by simp [Gd, valOf, hp], rfl⟩
      · -- 14: slot 17 := Op.call   value (Operand.func 99), args := #[t10, const (0:u64), const (0:u64), t16], argTypes := #[83, 23, 23, 23]  
        refine ob_no fun f w' hb hp => ?_
        simp [PreOf, factOf, valOf, Ph.is, Ph.by_, Ph.any, Region.binds] at hp
        exact ⟨by simp [Gd, valOf, hp], rfl⟩
      · -- 15: slot 18 := Op.move t0
        refine ob_no fun f w' hb hp => ?_
        simp [PreOf, factOf, valOf, Ph.is, Ph.by_, Ph.any, Region.binds] at hp
        exact ⟨by simp [Gd, valOf, hp], rfl⟩
      · -- 16: slot 19 := Op.nilCheck t18
        refine ob_no fun f w' hb hp => ?_
        simp [PreOf, factOf, valOf, Ph.is, Ph.by_, Ph.any, Region.binds] at hp
        exact ⟨by simp [Gd, valOf, hp], rfl⟩
      · -- 17: slot 20 := Op.fieldAddr 85 t19 1
        refine ob_no fun f w' hb hp => ?_
        simp [PreOf, factOf, valOf, Ph.is, Ph.by_, Ph.any, Region.binds] at hp
        exact ⟨by simp [Gd, valOf, hp], rfl⟩
      · -- 18: slot 21 := Op.fieldAddr 29 t20 5
        refine ob_no fun f w' hb hp => ?_
        simp [PreOf, factOf, valOf, Ph.is, Ph.by_, Ph.any, Region.binds] at hp
        exact ⟨by simp [Gd, valOf, hp], rfl⟩
      · -- 19: slot 22 := Op.load 24 t21
        refine ob_no fun f w' hb hp => ?_
        simp [PreOf, factOf, valOf, Ph.is, Ph.by_, Ph.any, Region.binds] at hp
        exact ⟨by simp [Gd, valOf, hp], rfl⟩
      · -- 20: slot 23 := Op.convert 24 23 t22
        refine ob_no fun f w' hb hp => ?_
        simp [PreOf, factOf, valOf, Ph.is, Ph.by_, Ph.any, Region.binds] at hp
        exact ⟨by simp [Gd, valOf, hp], rfl⟩
      · -- 21: slot 24 := Op.binOp BinOp.lss 23 t17 t23 23
        refine ob_no fun f w' hb hp => ?_
        simp [PreOf, factOf, valOf, Ph.is, Ph.by_, Ph.any, Region.binds] at hp
        exact ⟨by simp [Gd, valOf, hp], rfl⟩
      · -- 22: slot 25 := Op.pick t9 t24 (const (Value.bool false))
        refine ob_yes fun f w' hb hp => ?_
        simp [PreOf, factOf, valOf, Ph.is, Ph.by_, Ph.any, Region.binds] at hp
        refine ⟨by simp [Gd, valOf, hp], ?_⟩
        refine mild_val (.bool false) ?_ rfl
        simp [execOp, evalF, hp, go_sem]
      · -- 23: slot 2 := Op.assign t25
        refine ob_yes fun f w' hb hp => ?_
        simp [PreOf, factOf, valOf, Ph.is, Ph.by_, Ph.any, Region.binds] at hp
        refine ⟨by simp [Gd, valOf, hp], ?_⟩
        refine mild_val (.bool false) ?_ rfl
        simp [execOp, evalF, hp]
    · intro f w8 hb8 hp
      simp only [PostOf, Ph.is, Ph.by_, Ph.any] at hp
      obtain ⟨h0, h1, h2, h3, h4, h5, h6, h7, h8, h9, h10, h11, h12, h13, h14, h15, h16, h17, h18, h19, h20, h21, h22, h23, _⟩ := hp
      simp only [fills, List.foldl_cons, List.foldl_nil, Act.put, List.setIfInBounds_toArray, List.set_cons_zero, List.set_cons_succ, h0, h1, h2, h3, h4, h5, h6, h7, h8, h9, h10, h11, h12, h13, h14, h15, h16, h17, h18, h19, h20, h21, h22, h23]
      clear h0 h1 h2 h3 h4 h5 h6 h7 h8 h9 h10 h11 h12 h13 h14 h15 h16 h17 h18 h19 h20 h21 h22 h23
      go_wp2_with fail
      go_ret
      exact ⟨by rw [HR.out]; simp [hk1], hb8⟩
end Go.Proofs.YtcffeepgfjpcaaaGreat

namespace Go.Proofs.YtcffeepgfjpcaaaGreat
set_option linter.unusedSimpArgs false
set_option linter.unusedVariables false
open Go.RowKit Go.Shelf
attribute [local go_sem] Oper.semAt_some

section
variable {B : Nat → Prop} {W W' W'' : World}
theorem Kp.byA {B0 : Nat} {v : Value} {l : List GArc} (hk : Kp B W W') (hB : ∀ k, B k → B0 ≤ k) (h : ByA W B0 v l) : ByA W' B0 v l := Kp.row (fun _ _ _ h => h) hk hB h
theorem Kp.byC {B0 : Nat} {v : Value} {l : List GCell} (hk : Kp B W W') (hB : ∀ k, B k → B0 ≤ k) (h : ByC W B0 v l) : ByC W' B0 v l := Kp.row (fun _ _ _ h => h) hk hB h
end

/-- a neighbour, and where its interval begins -/
def frontAt (l : List GArc) (k : Nat) : Nat := l.length * gsum (l.take k)
def frontP (l : List GArc) (k : Nat) : Nat × Nat := (k, frontAt l k)
theorem frontAt_succ (l : List GArc) (k : Nat) (hk : k < l.length) : frontAt l (k + 1) = frontAt l k + l.length * (l[k]).wt.toNat := by
  unfold frontAt; rw [gsum_snoc l k hk, Nat.mul_add]

set_option maxRecDepth 100000 in
set_option maxHeartbeats 1000000 in
theorem fronts_in (F : Fence) (n : Nat) (h1 : F.fn 49) (hro : F.round = none) (A : Option Addr) (len cap : Nat) (w : World) :
    CallsIn F n Tryz.prog 49 #[.slice A len cap] w fun e w' => e = .returned (.func (.func 79) #[] #[.pointer (some ⟨w.heap.size, 0, none⟩)]) ∧ w' = w.alloc (.cells #[.slice A len cap] 45) := by
  refine callsIn_of_wp Tryz.func49 rfl h1 ?_ hro
  simp only [Tryz.ntmps49, List.size_toArray, List.length_cons, List.length_nil, Nat.reduceAdd, Nat.reduceSub, Array.replicate_succ, Array.replicate_zero, List.push_toArray, List.append_toArray, List.nil_append, List.cons_append]
  gi_wp2
  go_ret
  exact ⟨rfl, rfl⟩

set_option maxRecDepth 100000 in
set_option maxHeartbeats 3200000 in
theorem fronts1_in (F : Fence) (n : Nat) (h7 : F.fn 79) (hro : F.round = none) (hn : 1 ≤ n) (l Bs B0 : Nat) (B : Nat → Prop) (A : Option Addr) (cap : Nat) (xs : List GArc) (hl : xs.length ≤ 1048576) (hs : gsum xs ≤ 2147483647) (J Jx : List (Nat × Nat) → World → Prop)
    (hBs : ¬ B Bs) (hBB : ∀ k, B k → B0 ≤ k)
    (hY : ∀ pre x W, J pre W → pre.length < xs.length → YieldAt F (n - 1) Tryz.prog l #[.int .i64 (x.1 : Int), .int .u64 (x.2 : Int)] W fun e W' =>
      (e = .returned (.bool true) ∧ J (pre ++ [x]) W' ∧ Kp B W W') ∨ (e = .returned (.bool false) ∧ Jx (pre ++ [x]) W'))
    (W : World) (hBW : ∀ k, B k → k < W.heap.size) (hJ : AbidesFrom W.heap.size J) (hc : W.cell? ⟨Bs, 0, none⟩ = some (.slice A xs.length cap)) (hrow : ByA W B0 (.slice A xs.length cap) xs) (h0 : J [] W) :
    CallsIn F n Tryz.prog 79 #[.func (.yield l) #[] #[], .pointer (some ⟨Bs, 0, none⟩)] W fun e W' => (∃ v, e = .returned v) ∧
      ((∃ ys, ys = upto (frontP xs) xs.length ∧ J ys W') ∨ (∃ pre, (∃ k, k ≤ xs.length ∧ pre = upto (frontP xs) k) ∧ Jx pre W')) := by
  obtain ⟨_, hc1, hc2⟩ := hrow.len_
  unfold maxLen at hc2
  have hfs := frontAt_succ xs
  have hft : ∀ k, frontAt xs k ≤ 1048576 * 2147483647 := fun k => Nat.mul_le_mul hl (Nat.le_trans (gsum_take_le xs k) hs)
  have Hfs := Lib.hid hfs
  have Hft := Lib.hid hft
  clear hfs hft
  refine callsIn_of_wp Tryz.func79 rfl h7 ?_ hro
  simp only [Tryz.ntmps79, List.size_toArray, List.length_cons, List.length_nil, Nat.reduceAdd, Nat.reduceSub, Array.replicate_succ, Array.replicate_zero, List.push_toArray, List.append_toArray, List.nil_append, List.cons_append]
  gi_wp2
  gi_loopw [3, 8] (fun a i wr => ∃ k : Nat, k ≤ xs.length ∧ i = .int .i64 k ∧ a = .int .u64 (frontAt xs k : Nat) ∧ J (upto (frontP xs) k) wr ∧ Kp B W wr ∧ W.heap.size ≤ wr.heap.size)
    (fun _ i _ => xs.length - (intOf i).toNat)
  case atStart => exact ⟨0, Nat.zero_le _, rfl, by simp [frontAt, gsum], h0, Kp.refl _ _, Nat.le_refl _⟩
  case round =>
    obtain ⟨k, hk, rfl, rfl, hJs, hkp, hsz⟩ := hrel
    have Hkp := Lib.hid hkp
    by_cases hlt : k < xs.length
    · obtain ⟨ad, rfl, hab, hx0, hx1⟩ := (hkp.byA hBB hrow).cells k hlt
      have hto := u32_lt (xs[k]).to
      have hwt := u32_lt (xs[k]).wt
      have hf1 := Hfs.out k hlt
      have hf2 := Hft.out k
      have hf3 := Hft.out (k + 1)
      have hm2 : xs.length * (xs[k]).wt.toNat ≤ 1048576 * 4294967295 := Nat.mul_le_mul hl (by omega)
      have hmul : IntKind.u64.wrap ((xs.length : Int) * ((xs[k]).wt.toNat : Int)) = ((xs.length * (xs[k]).wt.toNat : Nat) : Int) := by
        rw [← Int.natCast_mul, wrap_u64]; omega
      generalize (xs[k]).to.toNat = to at *
      generalize (xs[k]).wt.toNat = wt at *
      generalize xs.length * wt = p at *
      have hJ1 : J (upto (frontP xs) k) (wr.alloc (.cells #[.int .u32 (to : Int), .int .u32 (wt : Int)] 48)) := hJ _ _ _ none hJs (World.grownBy_alloc wr _ none) (fun r e => by cases e)
      obtain ⟨fn, tmps, assign, body, hy, hR⟩ := hY _ (frontP xs k) _ hJ1 (by rw [upto_length]; exact hlt)
      dsimp only [frontP] at hy
      have Hf1 := Lib.hid hf1
      have hbx := BoxAt.new_ 48 wr [.int .u32 (to : Int), .int .u32 (wt : Int)]
      have Hbx := Lib.hid hbx
      have hcs := hkp.cell hc hBs
      clear hf1 hbx hkp
      gi_wp2
      refine hR.mono ?_
      rintro e W3 (⟨rfl, hJ3, hk3⟩ | ⟨rfl, hJx3⟩)
      · have hbx3 := hk3.box (fun hb => by have := hBW _ hb; omega) Hbx.out
        have hw1 := hbx3.cell 1 _ rfl
        have hcs3 := ((Kp.alloc B wr (.cells #[.int .u32 (to : Int), .int .u32 (wt : Int)] 48)).trans hk3).cell hcs hBs
        have Hk3 := Lib.hid (Hkp.out.trans ((Kp.alloc B wr (.cells #[.int .u32 (to : Int), .int .u32 (wt : Int)] 48)).trans hk3))
        have hJ3' : J (upto (frontP xs) (k + 1)) W3 := by rw [upto_succ]; exact hJ3
        have HJ3 := Lib.hid hJ3'
        have hsz3 : W.heap.size ≤ W3.heap.size := Hk3.out.size
        have hfa : frontAt xs k + p = frontAt xs (k + 1) := Hf1.out.symm
        clear hbx3 hk3 hJ3 hJ3' hR hx0 hx1 hy
        gi_wp2
        go_roundw
        case rel => exact ⟨k + 1, by omega, by go_num, by first | (rw [← hfa]; go_num; done) | (rw [← hfa]; simp), HJ3.out, Hk3.out, hsz3⟩
        case measure => simp [intOf]; omega
      · gi_wp2
        refine bodyPost_ret (results_none rfl _ _ _) rfl ?_
        exact ⟨⟨_, rfl⟩, .inr ⟨_, ⟨k + 1, by omega, (upto_succ _ _).symm⟩, hJx3⟩⟩
    · obtain rfl : k = xs.length := by omega
      clear hkp
      gi_wp2
      go_end0
      exact ⟨⟨_, rfl⟩, .inl ⟨_, rfl, hJs⟩⟩

theorem fronts_stops (F : Fence) (n : Nat) (h7 : F.fn 79) (hro : F.round = none) (hn : 1 ≤ n) (Bs B0 : Nat) (B : Nat → Prop) (A : Option Addr) (cap : Nat) (xs : List GArc) (hl : xs.length ≤ 1048576) (hs : gsum xs ≤ 2147483647) (w : World)
    (hBs : Bs < w.heap.size) (hnB : ¬ B Bs) (hBB : ∀ k, B k → B0 ≤ k) (hBW : ∀ k, B k → k < w.heap.size) (hB0 : B0 ≤ w.heap.size)
    (hc : w.cell? ⟨Bs, 0, none⟩ = some (.slice A xs.length cap)) (hrow : ByA w B0 (.slice A xs.length cap) xs) :
    SeqStopsK F n Tryz.prog 79 #[.pointer (some ⟨Bs, 0, none⟩)] (fun x : Nat × Nat => #[Value.int .i64 (x.1 : Int), Value.int .u64 (x.2 : Int)]) (Kp B) (fun ys => ys = upto (frontP xs) xs.length)
      (fun pre => ∃ k, k ≤ xs.length ∧ pre = upto (frontP xs) k) xs.length w := fun l J Jx W hW hJ _ hY h0 =>
  fronts1_in F n h7 hro hn l Bs B0 B A cap xs hl hs J Jx hnB hBB hY W (fun k hk => Nat.lt_of_lt_of_le (hBW k hk) hW.size) hJ ((hW.cell (p := ⟨Bs, 0, none⟩) hBs).trans hc) (hrow.below (hW.mono hB0)) h0
end Go.Proofs.YtcffeepgfjpcaaaGreat

namespace Go.Proofs.YtcffeepgfjpcaaaGreat
set_option linter.unusedSimpArgs false
set_option linter.unusedVariables false
open Go.RowKit Go.Shelf
attribute [local go_sem] Oper.semAt_some

/-- the neighbour whose interval holds a number -/
def ivalN (l : List GArc) (y : Nat) : Nat := ((List.range l.length).findIdx? (fun i => decide (y < frontAt l (i + 1)))).getD 0
theorem frontAt_mono (l : List GArc) {j k : Nat} (h : j ≤ k) : frontAt l j ≤ frontAt l k := by
  unfold frontAt
  refine Nat.mul_le_mul (Nat.le_refl _) ?_
  have := gsum_take_le (l.take k) j
  rwa [List.take_take, Nat.min_eq_left h] at this
theorem ivalN_at (l : List GArc) (y k : Nat) (hk : k < l.length) (h1 : frontAt l k ≤ y) (h2 : y < frontAt l (k + 1)) : ivalN l y = k := by
  unfold ivalN
  have : (List.range l.length).findIdx? (fun i => decide (y < frontAt l (i + 1))) = some k := by
    rw [List.findIdx?_eq_some_iff_getElem]
    refine ⟨by simpa using hk, by simpa using h2, fun j hj => ?_⟩
    have := frontAt_mono l (show j + 1 ≤ k by omega)
    simp
    omega
  rw [this]
  rfl
theorem frontAt_zero (l : List GArc) : frontAt l 0 = 0 := by simp [frontAt, gsum]
theorem frontAt_all (l : List GArc) : frontAt l l.length = gsum l * l.length := by unfold frontAt; rw [List.take_length, Nat.mul_comm]
def ival (l : List GArc) (y : Nat) : Nat × Bool := if y < ptotal l then (ivalN l y, true) else (0, false)
def lastI (pre : List (Nat × Nat)) : Nat := (pre.getLast?.map (·.1)).getD 0
theorem lastI_snoc (pre : List (Nat × Nat)) (x : Nat × Nat) : lastI (pre ++ [x]) = x.1 := by simp [lastI]

set_option maxRecDepth 100000 in
set_option maxHeartbeats 3200000 in
theorem interval_any (w : World) (B0 : Nat) (v : Value) (l : List GArc) (y : Nat) (hy : y < 18446744073709551616) (hl : l.length ≤ 1048576) (h : ByA w B0 v l) (hB : B0 ≤ w.heap.size) :
    Calls Tryz.prog 23 #[v, .int .u64 (y : Int)] w fun e w' => e = .returned (.tuple #[.int .i64 ((ival l y).1 : Nat), .bool (ival l y).2]) ∧ Below w.heap.size w w' := by
  obtain ⟨A, c, rfl, hc1, hc2⟩ := h.form
  unfold maxLen at hc2
  have htot := fun W h hB => ptotal_any W B0 (.slice A l.length c) l (by omega) h hB
  have Htot := Lib.hid htot
  clear htot
  refine (callsIn_wide (n := 4)).1 ?_
  refine callsIn_of_wp_marks Tryz.func23 rfl trivial ?_ rfl
  simp only [Tryz.ntmps23, List.size_toArray, List.length_cons, List.length_nil, Nat.reduceAdd, Nat.reduceSub, Array.replicate_succ, Array.replicate_zero, List.push_toArray, List.append_toArray, List.nil_append, List.cons_append]
  gi_wp2
  refine wpIn_wide.2 ?_
  have hbx := BoxAt.new_ 23 w [.int .u64 (y : Int)]
  have hb0 := balloc w (.cells #[.int .u64 (y : Int)] 23)
  have hy0 := hbx.cell 0 _ rfl
  have hzB : (w.alloc (.cells #[.int .u64 (y : Int)] 23)).heap.size = w.heap.size + 1 := by simp
  generalize w.alloc (.cells #[.int .u64 (y : Int)] 23) = wB at *
  have hrB := h.below (hb0.mono hB)
  have HrB := Lib.hid hrB
  have Hb0 := Lib.hid hb0
  have Hbx := Lib.hid hbx
  clear hb0 hrB hbx
  -- REGION
  refine wp_region_typed [some 9, some 10, some 11, some 12] [9, 10, 11, 12]
    [Ph.is (.int .u64 (y : Int)),
      Ph.is (.slice A l.length c),
      Ph.is (.int .u64 (ptotal l : Nat)),
      Ph.is (.bool (decide (ptotal l ≤ y)))] rfl rfl (by kernel_rfl) (by kernel_rfl) ?_ ?_
  · refine ⟨?_, ?_, ?_, ?_, trivial⟩
    · -- 0: slot 9 := Op.load 26 t3
      refine ob_yes fun f w' hb hp => ?_
      simp [PreOf, factOf, valOf, Ph.is, Ph.by_, Ph.any, Region.binds] at hp
      refine ⟨by simp [Gd, valOf, hp], ?_⟩
      refine mild_val (.int .u64 (y : Int)) ?_ rfl
      have hc := (hb.cell (p := ⟨w.heap.size, 0, none⟩) (by show w.heap.size < wB.heap.size; omega)).trans hy0
      simp [execOp, evalF, hp, hc, go_sem]
    · -- 1: slot 10 := Op.move t0
      refine ob_yes fun f w' hb hp => ?_
      simp [PreOf, factOf, valOf, Ph.is, Ph.by_, Ph.any, Region.binds] at hp
      refine ⟨by simp [Gd, valOf, hp], ?_⟩
      refine mild_val (.slice A l.length c) ?_ rfl
      simp [execOp, evalF, hp]
    · -- 2: slot 11 := Op.call   value (Operand.func 68), args := #[t10], argTypes := #[32]  
      refine ob_yes fun f w' hb hp => ?_
      simp [PreOf, factOf, valOf, Ph.is, Ph.by_, Ph.any, Region.binds] at hp
      refine ⟨by simp [Gd, valOf, hp], ?_⟩
      refine mild_call 24 _ _ Tryz.f24 Tryz.func24 (by kernel_rfl) (by kernel_rfl) rfl ?_
      simp [evalF, hp, Ph.is, Ph.by_, Ph.any]
      refine (Htot.out w' (HrB.out.below (hb.mono (by omega))) (by have := hb.size; omega)).mono fun e w2 h => ?_
      obtain ⟨rfl, h2⟩ := h
      first | exact ⟨_, rfl, h2, rfl⟩ | simpa using h2
    · -- 3: slot 12 := Op.binOp BinOp.geq 26 t9 t11 26
      refine ob_yes fun f w' hb hp => ?_
      simp [PreOf, factOf, valOf, Ph.is, Ph.by_, Ph.any, Region.binds] at hp
      refine ⟨by simp [Gd, valOf, hp], ?_⟩
      refine mild_val (.bool (decide (ptotal l ≤ y))) ?_ rfl
      simp [execOp, evalF, hp, go_sem]
  · intro f w2 hb2 hp
    simp only [PostOf, Ph.is, Ph.by_, Ph.any] at hp
    obtain ⟨h0, h1, h2, h3, _⟩ := hp
    simp only [fills, List.foldl_cons, List.foldl_nil, Act.put, List.setIfInBounds_toArray, List.set_cons_zero, List.set_cons_succ, h0, h1, h2, h3]
    clear h0 h1 h2 h3
  -- END REGION
    have hb02 : Below w.heap.size w w2 := Hb0.out.trans (hb2.mono (by omega))
    have hbx2 := Hbx.out.below (by omega) hb2
    have hr2 := HrB.out.below (hb2.mono (by omega))
    have hs2 := hb2.size
    have Hb02 := Lib.hid hb02
    have Hbx2 := Lib.hid hbx2
    have Hr2 := Lib.hid hr2
    clear hb02 hbx2 hr2 hb2 Hb0 Hbx HrB hy0 Htot h
    by_cases hyt : y < ptotal l
    · have hd : decide (ptotal l ≤ y) = false := decide_eq_false (by omega)
      have hiv : ival l y = (ivalN l y, true) := by unfold ival; rw [if_pos hyt]
      obtain ⟨hgm, hW0, hk0, hW1⟩ := ptotal_pos hyt
      have hl0 : 0 < l.length := Nat.lt_of_le_of_lt (Nat.zero_le _) hk0
      have Hiv := Lib.hid hiv
      clear hiv
      gi_wp2_with (refine ⟨trivial, ?_⟩; gi_at_call 49; refine (fronts_in Fence.wide 3 trivial rfl _ _ _ _).mono ?_; rintro e w' ⟨rfl, rfl⟩)
      have h20 := Hb02.out.size
      have bT := BoxAt.new_ 3 w2 [.int .i64 0]
      have bN := BoxAt.new_ 45 (w2.alloc (.cells #[.int .i64 0] 3)) [.slice A l.length c]
      rw [World.size_alloc] at bN
      have bT2 := bT.alloc (.cells #[.slice A l.length c] 45)
      have bY2 := (Hbx2.out.alloc (.cells #[.int .i64 0] 3)).alloc (.cells #[.slice A l.length c] 45)
      have hb23 := bstep (balloc w2 (.cells #[.int .i64 0] 3)) (balloc (w2.alloc (.cells #[.int .i64 0] 3)) (.cells #[.slice A l.length c] 45))
      have hr3 := Hr2.out.below (hb23.mono (by omega))
      have hb03 := Hb02.out.trans (hb23.mono h20)
      have hz3 : ((w2.alloc (.cells #[.int .i64 0] 3)).alloc (.cells #[.slice A l.length c] 45)).heap.size = w2.heap.size + 2 := by simp
      have hbo : ∀ {T : TypeId} {g : Nat} {cs : List Value} {X Y : World} {row : Option Nat}, BoxAt T X g cs → X.grownBy Y row → (∀ r, row = some r → ∃ o : Obj, X.heap[r]? = some o ∧ o.isCells = false) → BoxAt T Y g cs := fun hb hg hr =>
        hb.grown hg fun e => by
          obtain ⟨o, ho, hc⟩ := hr _ e
          rw [show _ = _ from hb] at ho
          injection ho with ho
          subst ho
          cases hc
      have Hiv2 := ivalN_at l y
      have hfa := frontAt_all l
      have hpt : ptotal l = gsum l * l.length := by unfold ptotal; rw [if_pos hgm]
      have HR3 := Lib.hid hr3
      have Hb03 := Lib.hid hb03
      have HbT2 := Lib.hid bT2
      have HbY2 := Lib.hid bY2
      have HIV2 := Lib.hid Hiv2
      have Hfa := Lib.hid hfa
      have Hpt := Lib.hid hpt
      have hcN := bN.cell 0 _ rfl
      clear hfa hpt bT bN bT2 bY2 hb23 hr3 hb03 Hiv2 Hr2 Hbx2 Hb02
      generalize hgt : w2.heap.size = gt at *
      generalize ((w2.alloc (.cells #[.int .i64 0] 3)).alloc (.cells #[.slice A l.length c] 45)) = w3 at *
      refine wpIn_rangeFunc_ownG rfl (by omega) (gf := 79) (lb := #[.pointer (some ⟨gt + 1, 0, none⟩)]) rfl trivial (enters_of Tryz.func79 (by kernel_rfl) rfl)
        (fronts_stops Fence.wide 3 trivial rfl (by omega) (gt + 1) B0 (fun k => k = gt) A c l hl hW1 w3 (by omega) (by omega) (by rintro k rfl; omega) (by rintro k rfl; omega) (by omega) hcN HR3.out) Kp.trans (fun W l o o' h1 h2 h3 h4 => Kp.putObj _ w3.heap.size W l o o' h1 h2 h3 h4) (Below.refl _ _) (fun _ => rfl)
        (fun pre W => ((∀ p ∈ pre, p.2 ≤ y) ∧ BoxAt 3 W gt [.int .i64 (lastI pre : Nat)] ∧ BoxAt 23 W w.heap.size [.int .u64 (y : Int)]) ∧ Below w.heap.size w W)
        (fun cd pre W => (cd = .exit 0 ∧ ∃ ini last, pre = ini ++ [last] ∧ (∀ p ∈ ini, p.2 ≤ y) ∧ y < last.2 ∧ BoxAt 3 W gt [.int .i64 (lastI ini : Nat)]) ∧ Below w.heap.size w W)
        (OwnFrom.and (Own.from (fun s X Y row hs hg hr => ⟨hs.1, hbo hs.2.1 hg hr, hbo hs.2.2 hg hr⟩) _) (ownFrom_below (Nat.le_refl _) (by omega)))
        (fun cd => OwnFrom.and (Own.from (fun s X Y row hs hg hr => by obtain ⟨e0, ini, last, e1, e2, e3, e4⟩ := hs; exact ⟨e0, ini, last, e1, e2, e3, hbo e4 hg hr⟩) _) (ownFrom_below (Nat.le_refl _) (by omega)))
        ⟨⟨by simp, HbT2.out, HbY2.out⟩, Hb03.out⟩
        (fun x => { tmps := #[.slice A l.length c, .int .u64 (y : Int), undef, .pointer (some ⟨w.heap.size, 0, none⟩), .int .i64 0, .bool false, .pointer (some ⟨gt, 0, none⟩), .int .i64 (x.1 : Int), .int .u64 (x.2 : Int), .int .u64 (y : Int), .slice A l.length c, .int .u64 (ptotal l : Nat), .bool false, .slice A l.length c, .func (.func 79) #[] #[.pointer (some ⟨gt + 1, 0, none⟩)], .int .i64 (x.1 : Int), .int .u64 (x.2 : Int), undef, undef, undef, undef, undef], defers := [] }) ?assign ?body ?done ?stop
      case assign =>
        intro l x W K hK
        gi_wp2
        exact hK
      case body =>
        rintro lq pre x W ⟨⟨hp, hcT, hcY⟩, hB⟩ _
        have hy0 := hcY.cell 0 _ rfl
        have ht0 := hcT.cell 0 _ rfl
        have htf := hcT.frozen 0
        gi_wp2
        · have hx : y < x.2 := by first | assumption | omega
          exact ⟨KeepsFrom.refl _ _, ⟨rfl, pre, x, rfl, hp, hx, hcT⟩, hB⟩
        · have hx : ¬ y < x.2 := by first | assumption | omega
          refine ⟨(KeepsOthers.setCell _ _ _).from _, Kp.set _ _ _ rfl, ⟨fun p hp' => ?_, ?_, hcY.other _ _ (by show gt ≠ w.heap.size; omega)⟩, hB.setCell (p := ⟨gt, 0, none⟩) (by show w.heap.size ≤ gt; omega) _⟩
          · rw [List.mem_append, List.mem_singleton] at hp'
            rcases hp' with hp' | rfl
            · exact hp p hp'
            · omega
          · rw [lastI_snoc]; exact hcT.put 0 _
      case done =>
        rintro D ys W hD rfl ⟨⟨hp, hcT, hcY⟩, hB⟩ hK
        obtain ⟨k', hk'⟩ : ∃ k', l.length = k' + 1 := ⟨l.length - 1, by omega⟩
        have hfk : frontAt l k' ≤ y := hp (frontP l k') ((upto_mem _ _ _).2 ⟨k', by omega, rfl⟩)
        have hia := HIV2.out k' (by omega) hfk (by rw [← hk', Hfa.out, ← Hpt.out]; exact hyt)
        have hlast : lastI (upto (frontP l) l.length) = k' := by rw [hk', upto_succ, lastI_snoc]; rfl
        rw [hlast] at hcT
        have ht0 := hcT.cell 0 _ rfl
        have Hhia := Lib.hid hia
        have HB := Lib.hid hB
        clear hp hcT hcY hB hfk hia hlast hk'
        gi_wp2
        refine ⟨by simp, .inl ⟨_, _, rfl, run_takeDeferred hK, ?_⟩⟩
        refine ⟨_, results_tmp2 rfl _ _ _, ?_, HB.out.trans (belowK_b (w := w) (Nat.le_refl _) W D _ _ (by omega) hK rfl rfl)⟩
        rw [Hiv.out, Hhia.out]
        rfl
      case stop =>
        rintro D cd pre W hD ⟨k, hk, rfl⟩ ⟨⟨rfl, ini, last, e1, e2, e3, hcT⟩, hB⟩ hK
        obtain ⟨k', rfl⟩ : ∃ k', k = k' + 1 := by
          cases k with
          | zero => simp [upto] at e1
          | succ k' => exact ⟨k', rfl⟩
        rw [upto_succ] at e1
        obtain ⟨rfl, e5⟩ := List.append_inj' e1 rfl
        obtain rfl : frontP l k' = last := by simpa using e5
        obtain ⟨j, rfl⟩ : ∃ j, k' = j + 1 := by
          cases k' with
          | zero =>
            have : y < frontAt l 0 := e3
            rw [frontAt_zero] at this
            omega
          | succ j => exact ⟨j, rfl⟩
        have hfk : frontAt l j ≤ y := e2 (frontP l j) ((upto_mem _ _ _).2 ⟨j, by omega, rfl⟩)
        have hia := HIV2.out j (by omega) hfk e3
        have hlast : lastI (upto (frontP l) (j + 1)) = j := by rw [upto_succ, lastI_snoc]; rfl
        rw [hlast] at hcT
        have ht0 := hcT.cell 0 _ rfl
        have Hhia := Lib.hid hia
        have HB := Lib.hid hB
        clear e1 e2 e3 e5 hcT hB hfk hia hlast
        gi_wp2
        refine ⟨by simp, .inl ⟨_, _, rfl, run_takeDeferred hK, ?_⟩⟩
        refine ⟨_, results_tmp2 rfl _ _ _, ?_, HB.out.trans (belowK_b (w := w) (Nat.le_refl _) W D _ _ (by omega) hK rfl rfl)⟩
        rw [Hiv.out, Hhia.out]
        rfl
    · have hd : decide (ptotal l ≤ y) = true := decide_eq_true (by omega)
      have hiv : ival l y = (0, false) := by unfold ival; rw [if_neg hyt]
      gi_wp2
      refine ⟨_, results_tmp2 rfl _ _ _, ?_, Hb02.out⟩
      rw [hiv]
      rfl
end Go.Proofs.YtcffeepgfjpcaaaGreat

namespace Go.Proofs.YtcffeepgfjpcaaaGreat
set_option linter.unusedSimpArgs false
set_option linter.unusedVariables false
open Go.RowKit Go.Shelf
attribute [local go_sem] Oper.semAt_some

set_option maxRecDepth 100000 in
set_option maxHeartbeats 3200000 in
theorem front_any (w : World) (B0 : Nat) (v : Value) (l : List GArc) (to : Nat) (hto : to < l.length) (hl : l.length ≤ 1048576) (hs : gsum l ≤ 2147483647) (h : ByA w B0 v l) (hB : B0 ≤ w.heap.size) :
    Calls Tryz.prog 52 #[v, .int .i64 (to : Int)] w fun e w' => e = .returned (.int .u64 (frontAt l to : Nat)) ∧ Below w.heap.size w w' := by
  obtain ⟨A, c, rfl, hc1, hc2⟩ := h.form
  unfold maxLen at hc2
  refine (callsIn_wide (n := 4)).1 ?_
  refine callsIn_of_wp_marks Tryz.func52 rfl trivial ?_ rfl
  simp only [Tryz.ntmps52, List.size_toArray, List.length_cons, List.length_nil, Nat.reduceAdd, Nat.reduceSub, Array.replicate_succ, Array.replicate_zero, List.push_toArray, List.append_toArray, List.nil_append, List.cons_append]
  gi_wp2_with (refine ⟨trivial, ?_⟩; gi_at_call 49; refine (fronts_in Fence.wide 3 trivial rfl _ _ _ _).mono ?_; rintro e w' ⟨rfl, rfl⟩)
  have bT := BoxAt.new_ 3 w [.int .i64 (to : Int)]
  have bY := BoxAt.new_ 23 (w.alloc (.cells #[.int .i64 (to : Int)] 3)) [.int .u64 0]
  rw [World.size_alloc] at bY
  have bT1 := bT.alloc (.cells #[.int .u64 0] 23)
  have hb1 := bstep (balloc w (.cells #[.int .i64 (to : Int)] 3)) (balloc (w.alloc (.cells #[.int .i64 (to : Int)] 3)) (.cells #[.int .u64 0] 23))
  have hz2 : ((w.alloc (.cells #[.int .i64 (to : Int)] 3)).alloc (.cells #[.int .u64 0] 23)).heap.size = w.heap.size + 2 := by simp
  generalize hw2 : (w.alloc (.cells #[.int .i64 (to : Int)] 3)).alloc (.cells #[.int .u64 0] 23) = w2 at *
  have bN := BoxAt.new_ 45 w2 [.slice A l.length c]
  have bT2 := bT1.alloc (.cells #[.slice A l.length c] 45)
  have bY2 := bY.alloc (.cells #[.slice A l.length c] 45)
  have hb03 := hb1.trans ((balloc w2 (.cells #[.slice A l.length c] 45)).mono (by omega))
  have hr3 := h.below (hb03.mono hB)
  have hz3 : (w2.alloc (.cells #[.slice A l.length c] 45)).heap.size = w.heap.size + 3 := by simp [hz2]
  rw [hz2] at bN
  have HR3 := Lib.hid hr3
  have Hb03 := Lib.hid hb03
  have HbT2 := Lib.hid bT2
  have HbY2 := Lib.hid bY2
  have hcN := bN.cell 0 _ rfl
  clear bT bY bT1 hb1 bN bT2 bY2 hb03 hr3 hw2
  generalize w2.alloc (.cells #[.slice A l.length c] 45) = w3 at *
  clear hz2 h
  refine wpIn_rangeFunc_ownG rfl (by omega) (gf := 79) (lb := #[.pointer (some ⟨w.heap.size + 1 + 1, 0, none⟩)]) rfl trivial (enters_of Tryz.func79 (by kernel_rfl) rfl)
    (fronts_stops Fence.wide 3 trivial rfl (by omega) (w.heap.size + 1 + 1) B0 (fun k => k = w.heap.size + 1) A c l hl hs w3 (by omega) (by omega) (by rintro k rfl; omega) (by rintro k rfl; omega) (by omega) hcN HR3.out) Kp.trans (fun W l o o' h1 h2 h3 h4 => Kp.putObj _ w3.heap.size W l o o' h1 h2 h3 h4) (Below.refl _ _) (fun _ => rfl)
    (fun pre W => ((∀ p ∈ pre, p.1 ≠ to) ∧ BoxAt 3 W w.heap.size [.int .i64 (to : Int)] ∧ BoxAt 23 W (w.heap.size + 1) [.int .u64 0]) ∧ Below w.heap.size w W)
    (fun cd pre W => (cd = .ret ∧ ∃ ini last, pre = ini ++ [last] ∧ last.1 = to ∧ BoxAt 23 W (w.heap.size + 1) [.int .u64 (last.2 : Nat)]) ∧ Below w.heap.size w W)
    (OwnFrom.and (Own.from (fun s X Y row hs hg hr => ⟨hs.1, hs.2.1.ownk hg hr, hs.2.2.ownk hg hr⟩) _) (ownFrom_below (Nat.le_refl _) (by omega)))
    (fun cd => OwnFrom.and (Own.from (fun s X Y row hs hg hr => by obtain ⟨e0, ini, last, e1, e2, e3⟩ := hs; exact ⟨e0, ini, last, e1, e2, e3.ownk hg hr⟩) _) (ownFrom_below (Nat.le_refl _) (by omega)))
    ⟨⟨by simp, HbT2.out, HbY2.out⟩, Hb03.out⟩
    (fun x => { tmps := #[.slice A l.length c, .int .i64 (to : Int), undef, .pointer (some ⟨w.heap.size, 0, none⟩), .pointer (some ⟨w.heap.size + 1, 0, none⟩), .int .i64 (x.1 : Int), .int .u64 (x.2 : Int), .slice A l.length c, .func (.func 79) #[] #[.pointer (some ⟨w.heap.size + 1 + 1, 0, none⟩)], .int .i64 (x.1 : Int), .int .u64 (x.2 : Int), undef, undef, undef, undef], defers := [] }) ?assign ?body ?done ?stop
  case assign =>
    intro l x W K hK
    gi_wp2
    exact hK
  case body =>
    rintro lq pre x W ⟨⟨hp, hcT, hcY⟩, hB⟩ _
    have ht0 := hcT.cell 0 _ rfl
    have hy0 := hcY.cell 0 _ rfl
    have hyf := hcY.frozen 0
    by_cases hx : x.1 = to
    · have hxd : (((x.1 : Nat) : Int) == (to : Int)) = true := by simp [hx]
      have hxd2 : (x.1 == to) = true := by simp [hx]
      have Hx := Lib.hid hx
      clear hx
      gi_wp2
      exact ⟨(KeepsOthers.setCell _ _ _).from _, ⟨rfl, pre, x, rfl, Hx.out, hcY.put 0 _⟩, hB.setCell (p := ⟨w.heap.size + 1, 0, none⟩) (by show w.heap.size ≤ w.heap.size + 1; omega) _⟩
    · have hxd : (((x.1 : Nat) : Int) == (to : Int)) = false := beq_eq_false_iff_ne.2 (by omega)
      have hxd2 : (x.1 == to) = false := by simp [hx]
      have Hx := Lib.hid hx
      clear hx
      gi_wp2
      refine ⟨KeepsFrom.refl _ _, Kp.refl _ _, ⟨fun p hp' => ?_, hcT, hcY⟩, hB⟩
      rw [List.mem_append, List.mem_singleton] at hp'
      rcases hp' with hp' | rfl
      · exact hp p hp'
      · exact Hx.out
  case done =>
    rintro D ys W hD rfl ⟨⟨hp, hcT, hcY⟩, hB⟩ hK
    exact absurd rfl (hp (frontP l to) ((upto_mem _ _ _).2 ⟨to, hto, rfl⟩))
  case stop =>
    rintro D cd pre W hD ⟨k, hk, rfl⟩ ⟨⟨rfl, ini, last, e1, e2, hcT⟩, hB⟩ hK
    obtain ⟨k', rfl⟩ : ∃ k', k = k' + 1 := by
      cases k with
      | zero => simp [upto] at e1
      | succ k' => exact ⟨k', rfl⟩
    rw [upto_succ] at e1
    obtain ⟨rfl, e5⟩ := List.append_inj' e1 rfl
    obtain rfl : frontP l k' = last := by simpa using e5
    have e7 : k' = to := e2
    subst e7
    have ht0 := hcT.cell 0 _ rfl
    have HB := Lib.hid hB
    clear hB
    gi_wp2
    refine ⟨by simp, .inl ⟨_, _, rfl, run_takeDeferred hK, ?_⟩⟩
    have hc5 := cell_kept ht0 (grownBy_putObj' _ D (.deferred none)) (fun r e => by cases e; exact ⟨_, hK, rfl⟩)
    refine ⟨.int .u64 (frontAt l k' : Nat), ?_, rfl, HB.out.trans (belowK_b (w := w) (Nat.le_refl _) W D _ _ (by omega) hK rfl rfl)⟩
    simp [results, Tryz.f52, go_sem, hc5]
    rfl
end Go.Proofs.YtcffeepgfjpcaaaGreat

namespace Go.Proofs.YtcffeepgfjpcaaaGreat
set_option linter.unusedSimpArgs false
set_option linter.unusedVariables false
open Go.RowKit Go.Shelf
attribute [local go_sem] Oper.semAt_some

/-- the pieces of a cell -/
def pcA (S to i : Nat) (c : GCell) : List (Nat × Nat) := if i = to ∧ 0 < c.cut.toNat then [(i * S, c.cut.toNat)] else []
def pcB (S to i : Nat) (c : GCell) : List (Nat × Nat) := if c.oth.toNat = to ∧ c.cut.toNat < S then [(i * S + c.cut.toNat, S - c.cut.toNat)] else []
def pc1 (S to i : Nat) (c : GCell) : List (Nat × Nat) := pcA S to i c ++ pcB S to i c
/-- the pieces of the cells from number o on -/
def pcs (S to : Nat) : Nat → List GCell → List (Nat × Nat)
  | _, [] => []
  | o, c :: r => pc1 S to o c ++ pcs S to (o + 1) r
theorem pcs_append (S to : Nat) : ∀ (a b : List GCell) (o : Nat), pcs S to o (a ++ b) = pcs S to o a ++ pcs S to (o + a.length) b
  | [], b, o => by simp [pcs]
  | c :: r, b, o => by
    simp only [List.cons_append, pcs, pcs_append S to r b (o + 1), List.length_cons, List.append_assoc]
    rw [show o + 1 + r.length = o + (r.length + 1) from by omega]
theorem pcs_snoc (S to : Nat) (t : List GCell) (k : Nat) (hk : k < t.length) : pcs S to 0 (t.take (k + 1)) = pcs S to 0 (t.take k) ++ pc1 S to k t[k] := by
  rw [List.take_add_one, List.getElem?_eq_getElem hk, Option.toList_some, pcs_append, List.length_take, Nat.min_eq_left (by omega), Nat.zero_add]
  simp [pcs]
theorem pcs_rest (S to : Nat) (t : List GCell) (k : Nat) (hk : k < t.length) : pcs S to 0 t = pcs S to 0 (t.take k) ++ pc1 S to k t[k] ++ pcs S to (k + 1) (t.drop (k + 1)) := by
  rw [← pcs_snoc S to t k hk]
  have := pcs_append S to (t.take (k + 1)) (t.drop (k + 1)) 0
  rw [List.take_append_drop, List.length_take, Nat.min_eq_left (by omega), Nat.zero_add] at this
  exact this

set_option maxRecDepth 100000 in
set_option maxHeartbeats 1000000 in
theorem pieces_in (F : Fence) (n : Nat) (h1 : F.fn 53) (hro : F.round = none) (A : Option Addr) (len cap : Nat) (S to : Int) (w : World) :
    CallsIn F n Tryz.prog 53 #[.slice A len cap, .int .u64 S, .int .i64 to] w fun e w' => e = .returned (.func (.func 81) #[] #[.pointer (some ⟨w.heap.size, 0, none⟩), .pointer (some ⟨w.heap.size + 1, 0, none⟩), .pointer (some ⟨w.heap.size + 1 + 1, 0, none⟩)]) ∧
      w' = ((w.alloc (.cells #[.slice A len cap] 56)).alloc (.cells #[.int .u64 S] 23)).alloc (.cells #[.int .i64 to] 3) := by
  refine callsIn_of_wp Tryz.func53 rfl h1 ?_ hro
  simp only [Tryz.ntmps53, List.size_toArray, List.length_cons, List.length_nil, Nat.reduceAdd, Nat.reduceSub, Array.replicate_succ, Array.replicate_zero, List.push_toArray, List.append_toArray, List.nil_append, List.cons_append]
  gi_wp2
  go_ret
  exact ⟨rfl, rfl⟩

def encP (x : Nat × Nat) : Array Value := #[.agg #[.int .u64 (x.1 : Int), .int .u64 (x.2 : Int)]]

set_option maxRecDepth 100000 in
set_option maxHeartbeats 6400000 in
theorem pieces1_in (F : Fence) (n : Nat) (h7 : F.fn 81) (hro : F.round = none) (hn : 1 ≤ n) (l Bs B0 : Nat) (B : Nat → Prop) (A : Option Addr) (cap : Nat) (t : List GCell) (S to : Nat) (hl : t.length ≤ 1048576) (hS : S ≤ 2147483647) (hok : ∀ c ∈ t, c.cut.toNat ≤ S) (hto : to < 1048576) (J Jx : List (Nat × Nat) → World → Prop)
    (hBs : ∀ j, j < 3 → ¬ B (Bs + j)) (hBB : ∀ k, B k → B0 ≤ k)
    (hY : ∀ pre x W, J pre W → pre.length < (pcs S to 0 t).length → YieldAt F (n - 1) Tryz.prog l (encP x) W fun e W' =>
      (e = .returned (.bool true) ∧ J (pre ++ [x]) W' ∧ Kp B W W') ∨ (e = .returned (.bool false) ∧ Jx (pre ++ [x]) W'))
    (W : World) (hBW : ∀ k, B k → k < W.heap.size) (hJ : AbidesFrom W.heap.size J) (hc0 : W.cell? ⟨Bs, 0, none⟩ = some (.slice A t.length cap)) (hc1 : W.cell? ⟨Bs + 1, 0, none⟩ = some (.int .u64 (S : Int))) (hc2 : W.cell? ⟨Bs + 1 + 1, 0, none⟩ = some (.int .i64 (to : Int))) (hrow : ByC W B0 (.slice A t.length cap) t) (h0 : J [] W) :
    CallsIn F n Tryz.prog 81 #[.func (.yield l) #[] #[], .pointer (some ⟨Bs, 0, none⟩), .pointer (some ⟨Bs + 1, 0, none⟩), .pointer (some ⟨Bs + 1 + 1, 0, none⟩)] W fun e W' => (∃ v, e = .returned v) ∧
      ((∃ ys, ys = pcs S to 0 t ∧ J ys W') ∨ (∃ pre, pre <+: pcs S to 0 t ∧ Jx pre W')) := by
  obtain ⟨_, hl1, hl2⟩ := hrow.len_
  unfold maxLen at hl2
  have hB0' := hBs 0 (by omega)
  have hB1' := hBs 1 (by omega)
  have hB2' : ¬ B (Bs + 1 + 1) := hBs 2 (by omega)
  rw [Nat.add_zero] at hB0'
  have hsn := pcs_snoc S to t
  have hre := pcs_rest S to t
  have Hsn := Lib.hid hsn
  have Hre := Lib.hid hre
  have Hok := Lib.hid hok
  clear hsn hre hok hBs
  refine callsIn_of_wp Tryz.func81 rfl h7 ?_ hro
  simp only [Tryz.ntmps81, List.size_toArray, List.length_cons, List.length_nil, Nat.reduceAdd, Nat.reduceSub, Array.replicate_succ, Array.replicate_zero, List.push_toArray, List.append_toArray, List.nil_append, List.cons_append]
  gi_wp2
  gi_loopw [10] (fun i wr => ∃ k : Nat, k ≤ t.length ∧ i = .int .i64 k ∧ J (pcs S to 0 (t.take k)) wr ∧ Kp B W wr ∧ W.heap.size ≤ wr.heap.size)
    (fun i _ => t.length - (intOf i).toNat)
  case atStart => exact ⟨0, Nat.zero_le _, rfl, h0, Kp.refl _ _, Nat.le_refl _⟩
  case round =>
    obtain ⟨k, hk, rfl, hJs, hkp, hsz⟩ := hrel
    have Hkp := Lib.hid hkp
    by_cases hlt : k < t.length
    · obtain ⟨ad, rfl, hab, hx0, hx1⟩ := (hkp.byC hBB hrow).cells k hlt
      have hcu := Hok.out _ (List.getElem_mem hlt)
      have hot := u32_lt (t[k]).oth
      have hsnk := Hsn.out k hlt
      have hrek := Hre.out k hlt
      unfold pc1 pcA pcB at hsnk hrek
      generalize (t[k]).cut.toNat = cut at *
      generalize (t[k]).oth.toNat = oth at *
      have hm2 : k * S ≤ 1048576 * 2147483647 := Nat.mul_le_mul (by omega) hS
      have hmul : IntKind.u64.wrap ((k : Int) * (S : Int)) = ((k * S : Nat) : Int) := by
        rw [← Int.natCast_mul, wrap_u64]; omega
      have Hsnk := Lib.hid hsnk
      have Hrek := Lib.hid hrek
      clear hsnk hrek
      generalize hP : k * S = p at *
      clear hP
      have hbx := BoxAt.new_ 106 wr [.int .u64 (cut : Int), .int .u32 (oth : Int)]
      have Hbx := Lib.hid hbx
      have hd0 := hkp.cell hc0 hB0'
      have hd1 := hkp.cell hc1 hB1'
      have hd2 := hkp.cell hc2 hB2'
      have hJ1 : J (pcs S to 0 (t.take k)) (wr.alloc (.cells #[.int .u64 (cut : Int), .int .u32 (oth : Int)] 106)) := hJ _ _ _ none hJs (World.grownBy_alloc wr _ none) (fun r e => by cases e)
      have hk1 := Lib.hid (hkp.trans (Kp.alloc B wr (.cells #[.int .u64 (cut : Int), .int .u32 (oth : Int)] 106)))
      have hsz1 : W.heap.size ≤ (wr.alloc (.cells #[.int .u64 (cut : Int), .int .u32 (oth : Int)] 106)).heap.size := hk1.out.size
      have hgc : ¬ B wr.heap.size := fun hb => by have := hBW _ hb; omega
      have hJ1' := Lib.hid hJ1
      have hka := (Kp.alloc B wr (.cells #[.int .u64 (cut : Int), .int .u32 (oth : Int)] 106))
      have he1 := hka.cell hd1 hB1'
      have he2 := hka.cell hd2 hB2'
      have he0 := hka.cell hd0 hB0'
      clear hkp hbx hJs hJ1 hka
      have hlenK := Lib.hid hlt
      have hsub : IntKind.u64.wrap ((S : Int) - (cut : Int)) = ((S - cut : Nat) : Int) := by rw [wrap_u64]; omega
      have ecast : ((p + cut : Nat) : Int) = (p : Int) + (cut : Int) := by omega
      by_cases hA : k = to ∧ 0 < cut
      · obtain ⟨hA1, hA2⟩ := hA
        have hA3 : ((k : Int) == (to : Int)) = true := by simp [hA1]
        have hA4 : decide (0 < cut) = true := decide_eq_true hA2
        obtain ⟨fn, tmps, assign, body, hy, hR⟩ := hY _ (p, cut) _ hJ1'.out (by rw [Hrek.out, if_pos ⟨hA1, hA2⟩]; simp only [List.length_append, List.length_cons, List.length_nil]; omega)
        dsimp only [encP] at hy
        have HA : Hid (k = to ∧ 0 < cut) := ⟨hA1, hA2⟩
        clear hA1 hA2
        gi_wp2
        refine hR.mono ?_
        clear hR hy
        rintro e W3 (⟨rfl, hJ3, hk3⟩ | ⟨rfl, hJx3⟩)
        · have Hbx3 := Lib.hid (hk3.box hgc Hbx.out)
          have hw0 := Hbx3.out.cell 0 _ rfl
          have hw1 := Hbx3.out.cell 1 _ rfl
          have hf1 := hk3.cell he1 hB1'
          have hf2 := hk3.cell he2 hB2'
          have Hk3 := Lib.hid (hk1.out.trans hk3)
          have hsz3 : W.heap.size ≤ W3.heap.size := Hk3.out.size
          have HJ3 := Lib.hid hJ3
          clear hk3 hJ3 he0 he1 he2 hx0 hx1 hd0 hd1 hd2
          by_cases hBc : oth = to ∧ cut < S
          · obtain ⟨hB1, hB2⟩ := hBc
            have hB3 : ((oth : Int) == (to : Int)) = true := by simp [hB1]
            have hB4 : decide (cut < S) = true := decide_eq_true hB2
            obtain ⟨fn, tmps, assign, body, hy, hR⟩ := hY _ (p + cut, S - cut) _ HJ3.out (by rw [Hrek.out, if_pos HA.out, if_pos ⟨hB1, hB2⟩]; simp only [List.length_append, List.length_cons, List.length_nil]; omega)
            dsimp only [encP] at hy
            rw [ecast] at hy
            have HB : Hid (oth = to ∧ cut < S) := ⟨hB1, hB2⟩
            clear hB1 hB2
            gi_wp2
            refine hR.mono ?_
            clear hR hy
            rintro e W4 (⟨rfl, hJ4, hk4⟩ | ⟨rfl, hJx4⟩)
            · have HJ4 := Lib.hid hJ4
              have Hk4 := Lib.hid (Hk3.out.trans hk4)
              have hsz4 : W.heap.size ≤ W4.heap.size := Hk4.out.size
              clear hk4 hJ4 hw0 hw1 hf1 hf2
              gi_wp2
              go_roundw
              case rel => exact ⟨k + 1, by omega, by go_num, by rw [Hsnk.out, if_pos HA.out, if_pos HB.out]; simpa using HJ4.out, Hk4.out, hsz4⟩
              case measure => simp [intOf]; omega
            · gi_wp2
              refine bodyPost_ret (results_none rfl _ _ _) rfl ?_
              exact ⟨⟨_, rfl⟩, .inr ⟨_, ⟨pcs S to (k + 1) (t.drop (k + 1)), by rw [Hrek.out, if_pos HA.out, if_pos HB.out]; simp⟩, hJx4⟩⟩
          · have hB1 : ((oth : Int) == (to : Int)) = false ∨ (((oth : Int) == (to : Int)) = true ∧ decide (cut < S) = false) := by
              by_cases h : oth = to
              · right; exact ⟨by simp [h], decide_eq_false (fun h2 => hBc ⟨h, h2⟩)⟩
              · left; exact beq_eq_false_iff_ne.2 (by omega)
            have HB := Lib.hid hBc
            clear hBc
            rcases hB1 with hB1 | ⟨hB1, hB2⟩
            all_goals
              gi_wp2
              try (refine ⟨fun _ h => (by cases h), ?_⟩; gi_wp2)
              go_roundw
              case rel => exact ⟨k + 1, by omega, by go_num, by rw [Hsnk.out, if_pos HA.out, if_neg HB.out]; simpa using HJ3.out, Hk3.out, hsz3⟩
              case measure => simp [intOf]; omega
        · gi_wp2
          refine bodyPost_ret (results_none rfl _ _ _) rfl ?_
          exact ⟨⟨_, rfl⟩, .inr ⟨_, ⟨(if oth = to ∧ cut < S then [(p + cut, S - cut)] else []) ++ pcs S to (k + 1) (t.drop (k + 1)), by rw [Hrek.out, if_pos HA.out]; simp⟩, hJx3⟩⟩
      · have hA1 : ((k : Int) == (to : Int)) = false ∨ (((k : Int) == (to : Int)) = true ∧ decide (0 < cut) = false) := by
          by_cases h : k = to
          · right; exact ⟨by simp [h], decide_eq_false (fun h2 => hA ⟨h, h2⟩)⟩
          · left; exact beq_eq_false_iff_ne.2 (by omega)
        have HA := Lib.hid hA
        clear hA
        by_cases hBc : oth = to ∧ cut < S
        · obtain ⟨hB1, hB2⟩ := hBc
          have hB3 : ((oth : Int) == (to : Int)) = true := by simp [hB1]
          have hB4 : decide (cut < S) = true := decide_eq_true hB2
          obtain ⟨fn, tmps, assign, body, hy, hR⟩ := hY _ (p + cut, S - cut) _ hJ1'.out (by rw [Hrek.out, if_neg HA.out, if_pos ⟨hB1, hB2⟩]; simp only [List.length_append, List.length_cons, List.length_nil]; omega)
          dsimp only [encP] at hy
          rw [ecast] at hy
          have HB : Hid (oth = to ∧ cut < S) := ⟨hB1, hB2⟩
          clear hB1 hB2
          rcases hA1 with hA1 | ⟨hA1, hA2⟩
          all_goals
            gi_wp2
            try (refine ⟨fun _ h => (by cases h), ?_⟩; gi_wp2)
            refine hR.mono ?_
            clear hR hy
            rintro e W4 (⟨rfl, hJ4, hk4⟩ | ⟨rfl, hJx4⟩)
            · have HJ4 := Lib.hid hJ4
              have Hk4 := Lib.hid (hk1.out.trans hk4)
              have hsz4 : W.heap.size ≤ W4.heap.size := Hk4.out.size
              clear hk4 hJ4 he0 he1 he2 hx0 hx1 hd0 hd1 hd2
              gi_wp2
              go_roundw
              case rel => exact ⟨k + 1, by omega, by go_num, by rw [Hsnk.out, if_neg HA.out, if_pos HB.out]; simpa using HJ4.out, Hk4.out, hsz4⟩
              case measure => simp [intOf]; omega
            · gi_wp2
              refine bodyPost_ret (results_none rfl _ _ _) rfl ?_
              exact ⟨⟨_, rfl⟩, .inr ⟨_, ⟨pcs S to (k + 1) (t.drop (k + 1)), by rw [Hrek.out, if_neg HA.out, if_pos HB.out]; simp⟩, hJx4⟩⟩
        · have hB1 : ((oth : Int) == (to : Int)) = false ∨ (((oth : Int) == (to : Int)) = true ∧ decide (cut < S) = false) := by
            by_cases h : oth = to
            · right; exact ⟨by simp [h], decide_eq_false (fun h2 => hBc ⟨h, h2⟩)⟩
            · left; exact beq_eq_false_iff_ne.2 (by omega)
          have hnew : J (pcs S to 0 (t.take (k + 1))) (wr.alloc (.cells #[.int .u64 (cut : Int), .int .u32 (oth : Int)] 106)) := by
            rw [Hsnk.out, if_neg HA.out, if_neg hBc]; simpa using hJ1'.out
          have Hnew := Lib.hid hnew
          clear hnew hBc
          rcases hA1 with hA1 | ⟨hA1, hA2⟩ <;> rcases hB1 with hB1 | ⟨hB1, hB2⟩
          all_goals
            gi_wp2
            try (refine ⟨fun _ h => (by cases h), ?_⟩; gi_wp2)
            try (refine ⟨fun _ h => (by cases h), ?_⟩; gi_wp2)
            go_roundw
            case rel => exact ⟨k + 1, by omega, by go_num, Hnew.out, hk1.out, hsz1⟩
            case measure => simp [intOf]; omega
    · obtain rfl : k = t.length := by omega
      rw [List.take_length] at hJs
      clear hkp
      gi_wp2
      go_end0
      exact ⟨⟨_, rfl⟩, .inl ⟨_, rfl, hJs⟩⟩
end Go.Proofs.YtcffeepgfjpcaaaGreat

namespace Go.Proofs.YtcffeepgfjpcaaaGreat
set_option linter.unusedSimpArgs false
set_option linter.unusedVariables false
open Go.RowKit

def toP (W : Nat) (t : List GCell) (x : Nat) : Nat :=
  let c := (t[x / W]?).getD ⟨0, 0⟩
  if x % W < c.cut.toNat then x / W else c.oth.toNat
def metC (W : Nat) (t : List GCell) (k : Nat) : Nat → Nat
  | 0 => 0
  | x + 1 => metC W t k x + (if toP W t x = k then 1 else 0)
theorem metC_le (W : Nat) (t : List GCell) (k : Nat) : ∀ x, metC W t k x ≤ x
  | 0 => Nat.le_refl _
  | x + 1 => by
    have := metC_le W t k x
    rw [metC]
    split <;> omega
theorem metC_cell (W : Nat) (t : List GCell) (k i : Nat) (c : GCell) (hc : t[i]? = some c) (hcW : c.cut.toNat ≤ W) : ∀ m, m ≤ W → metC W t k (W * i + m) = metC W t k (W * i) + ((if i = k then min m c.cut.toNat else 0) + (if c.oth.toNat = k then m - min m c.cut.toNat else 0))
  | 0, _ => by simp
  | m + 1, h => by
    have ih := metC_cell W t k i c hc hcW m (by omega)
    rw [show W * i + (m + 1) = (W * i + m) + 1 from rfl, metC, ih]
    have hd : (W * i + m) / W = i := by rw [Nat.mul_add_div (by omega), Nat.div_eq_of_lt (by omega)]; rfl
    have hm : (W * i + m) % W = m := by rw [Nat.mul_add_mod, Nat.mod_eq_of_lt (by omega)]
    have ht : toP W t (W * i + m) = if m < c.cut.toNat then i else c.oth.toNat := by
      unfold toP
      simp only [hd, hm, hc, Option.getD_some]
    rw [ht]
    by_cases h1 : m < c.cut.toNat
    · rw [if_pos h1, Nat.min_eq_left (by omega), Nat.min_eq_left (by omega)]
      by_cases h2 : i = k
      · rw [if_pos h2, if_pos h2, if_pos h2]
        by_cases h3 : c.oth.toNat = k
        · rw [if_pos h3, if_pos h3]; omega
        · rw [if_neg h3, if_neg h3]; omega
      · rw [if_neg h2, if_neg h2, if_neg h2]
        by_cases h3 : c.oth.toNat = k
        · rw [if_pos h3, if_pos h3]; omega
        · rw [if_neg h3, if_neg h3]
    · rw [if_neg h1, Nat.min_eq_right (by omega), Nat.min_eq_right (by omega)]
      by_cases h3 : c.oth.toNat = k
      · rw [if_pos h3, if_pos h3, if_pos h3]; omega
      · rw [if_neg h3, if_neg h3, if_neg h3]; omega
theorem metC_take (W : Nat) (t : List GCell) (k : Nat) (hok : ∀ c ∈ t, c.cut.toNat ≤ W) : ∀ n, n ≤ t.length → metC W t k (W * n) = ncntF W k 0 (t.take n)
  | 0, _ => by simp [metC, ncntF]
  | n + 1, h => by
    have ih := metC_take W t k hok n (by omega)
    have hc := metC_cell W t k n t[n] (List.getElem?_eq_getElem (by omega)) (hok _ (List.getElem_mem _)) W (Nat.le_refl _)
    have hcW := hok _ (List.getElem_mem (show n < t.length by omega))
    rw [Nat.mul_succ, hc, ih, List.take_add_one, List.getElem?_eq_getElem (by omega), Option.toList_some, ncntF_snoc, List.length_take, Nat.min_eq_left (by omega : n ≤ t.length), Nat.zero_add]
    unfold ncell
    rw [Nat.min_comm]
theorem metC_all (W : Nat) (t : List GCell) (k : Nat) (hok : ∀ c ∈ t, c.cut.toNat ≤ W) : metC W t k (W * t.length) = ncntF W k 0 t := by
  rw [metC_take W t k hok _ (Nat.le_refl _), List.take_length]

theorem toP_at (S : Nat) (t : List GCell) (o m : Nat) (c : GCell) (hc : t[o]? = some c) (hm : m < S) : toP S t (S * o + m) = if m < c.cut.toNat then o else c.oth.toNat := by
  have hd : (S * o + m) / S = o := by rw [Nat.mul_add_div (by omega), Nat.div_eq_of_lt hm]; rfl
  have hmm : (S * o + m) % S = m := by rw [Nat.mul_add_mod, Nat.mod_eq_of_lt hm]
  unfold toP
  simp only [hd, hmm, hc, Option.getD_some]
theorem metC_mono (S : Nat) (t : List GCell) (k : Nat) : ∀ {a b : Nat}, a ≤ b → metC S t k a ≤ metC S t k b
  | a, 0, h => by rw [show a = 0 from by omega]; exact Nat.le_refl _
  | a, b + 1, h => by
    rcases Nat.lt_or_ge a (b + 1) with h1 | h1
    · have := metC_mono S t k (show a ≤ b by omega)
      rw [metC]; omega
    · rw [show a = b + 1 from by omega]; exact Nat.le_refl _
/-- of two draws that come to k the lower one has fewer below it -/
theorem metC_lt (S : Nat) (t : List GCell) (k a b : Nat) (ha : toP S t a = k) (hab : a < b) : metC S t k a < metC S t k b := by
  have h1 := metC_mono S t k (show a + 1 ≤ b by omega)
  rw [metC, if_pos ha] at h1
  omega
def remapL (y x : Nat) : List (Nat × Nat) → Option Nat
  | [] => none
  | p :: r => if x < p.1 + p.2 then (if p.1 ≤ x then some (y + (x - p.1)) else none) else remapL (y + p.2) x r
def backL (left : Nat) : List (Nat × Nat) → Option Nat
  | [] => none
  | p :: r => if left < p.2 then some (p.1 + left) else backL (left - p.2) r
theorem pcs_drop (S to : Nat) (t : List GCell) (o : Nat) (ho : o < t.length) : pcs S to o (t.drop o) = pcA S to o t[o] ++ (pcB S to o t[o] ++ pcs S to (o + 1) (t.drop (o + 1))) := by
  rw [List.drop_eq_getElem_cons ho, pcs, pc1, List.append_assoc]
theorem remapL_at (S to : Nat) (t : List GCell) (hok : ∀ c ∈ t, c.cut.toNat ≤ S) (y x : Nat) (hto : toP S t x = to) (hx : x < S * t.length) : ∀ (d o : Nat), o + d = t.length → S * o ≤ x → remapL (y + metC S t to (S * o)) x (pcs S to o (t.drop o)) = some (y + metC S t to x)
  | 0, o, hd, hox => by
    rw [show o = t.length from by omega] at hox
    omega
  | d + 1, o, hd, hox => by
    have ho : o < t.length := by omega
    have hcS := hok _ (List.getElem_mem ho)
    have hc : t[o]? = some t[o] := List.getElem?_eq_getElem ho
    rw [pcs_drop S to t o ho]
    generalize t[o] = c at *
    have hall := metC_cell S t to o c hc hcS S (Nat.le_refl _)
    rw [Nat.min_eq_right hcS] at hall
    have hS1 : S * (o + 1) = S * o + S := Nat.mul_succ S o
    rw [← hS1] at hall
    have hoS : o * S = S * o := Nat.mul_comm o S
    rcases Nat.lt_or_ge x (S * (o + 1)) with hlt | hge
    · obtain ⟨m, hm⟩ : ∃ m, x = S * o + m := ⟨x - S * o, by omega⟩
      have hmS : m < S := by omega
      have htp := toP_at S t o m c hc hmS
      have hmt := metC_cell S t to o c hc hcS m (by omega)
      rw [← hm] at htp hmt
      rw [hto] at htp
      by_cases h1 : m < c.cut.toNat
      · rw [if_pos h1] at htp
        rw [Nat.min_eq_left (by omega), if_pos htp.symm] at hmt
        unfold pcA
        rw [if_pos ⟨htp.symm, by omega⟩]
        simp only [List.cons_append, List.nil_append]
        rw [remapL, if_pos (by simp only; omega), if_pos (by simp only; omega), hmt]
        simp only [Nat.sub_self, ite_self]
        congr 1
        omega
      · rw [if_neg h1] at htp
        rw [Nat.min_eq_right (by omega), if_pos htp.symm] at hmt
        have hB : pcB S to o c = [(o * S + c.cut.toNat, S - c.cut.toNat)] := by unfold pcB; rw [if_pos ⟨htp.symm, by omega⟩]
        rw [hB]
        unfold pcA
        by_cases h2 : o = to ∧ 0 < c.cut.toNat
        · rw [if_pos h2]
          rw [if_pos h2.1] at hmt
          simp only [List.cons_append, List.nil_append]
          rw [remapL, if_neg (by simp only; omega), remapL, if_pos (by simp only; omega), if_pos (by simp only; omega), hmt]
          congr 1
          first | omega | (simp only; omega)
        · rw [if_neg h2]
          simp only [List.cons_append, List.nil_append]
          rw [remapL, if_pos (by simp only; omega), if_pos (by simp only; omega), hmt]
          congr 1
          try simp only
          by_cases h3 : o = to
          · rw [if_pos h3]; have : ¬ 0 < c.cut.toNat := fun h => h2 ⟨h3, h⟩; omega
          · rw [if_neg h3]; omega
    · have ih := remapL_at S to t hok y x hto hx d (o + 1) (by omega) hge
      rw [← ih, hall]
      unfold pcA pcB
      by_cases h2 : o = to ∧ 0 < c.cut.toNat
      · rw [if_pos h2, if_pos h2.1]
        simp only [List.cons_append, List.nil_append]
        rw [remapL, if_neg (by simp only; omega)]
        by_cases h3 : c.oth.toNat = to ∧ c.cut.toNat < S
        · rw [if_pos h3, if_pos h3.1]
          simp only [List.cons_append, List.nil_append]
          rw [remapL, if_neg (by simp only; omega)]
          congr 1
          first | omega | (simp only; omega)
        · rw [if_neg h3]
          simp only [List.nil_append]
          congr 1
          try simp only
          by_cases h4 : c.oth.toNat = to
          · rw [if_pos h4]; have : ¬ c.cut.toNat < S := fun h => h3 ⟨h4, h⟩; omega
          · rw [if_neg h4]; omega
      · rw [if_neg h2]
        simp only [List.nil_append]
        have hA : (if o = to then c.cut.toNat else 0) = 0 := by
          by_cases h5 : o = to
          · rw [if_pos h5]; have : ¬ 0 < c.cut.toNat := fun h => h2 ⟨h5, h⟩; omega
          · rw [if_neg h5]
        rw [hA]
        by_cases h3 : c.oth.toNat = to ∧ c.cut.toNat < S
        · rw [if_pos h3, if_pos h3.1]
          simp only [List.cons_append, List.nil_append]
          rw [remapL, if_neg (by simp only; omega)]
          congr 1
          first | omega | (simp only; omega)
        · rw [if_neg h3]
          simp only [List.nil_append]
          congr 1
          by_cases h4 : c.oth.toNat = to
          · rw [if_pos h4]; have : ¬ c.cut.toNat < S := fun h => h3 ⟨h4, h⟩; omega
          · rw [if_neg h4]; omega
theorem backL_at (S to : Nat) (t : List GCell) (hok : ∀ c ∈ t, c.cut.toNat ≤ S) (left : Nat) (hlt : left < metC S t to (S * t.length)) : ∀ (d o : Nat), o + d = t.length → metC S t to (S * o) ≤ left →
    ∃ x, backL (left - metC S t to (S * o)) (pcs S to o (t.drop o)) = some x ∧ toP S t x = to ∧ metC S t to x = left ∧ x < S * t.length
  | 0, o, hd, hol => by
    rw [show o = t.length from by omega] at hol
    omega
  | d + 1, o, hd, hol => by
    have ho : o < t.length := by omega
    have hcS := hok _ (List.getElem_mem ho)
    have hc : t[o]? = some t[o] := List.getElem?_eq_getElem ho
    rw [pcs_drop S to t o ho]
    generalize t[o] = c at *
    have hall := metC_cell S t to o c hc hcS S (Nat.le_refl _)
    rw [Nat.min_eq_right hcS] at hall
    have hS1 : S * (o + 1) = S * o + S := Nat.mul_succ S o
    have hSle : S * (o + 1) ≤ S * t.length := Nat.mul_le_mul (Nat.le_refl _) (by omega)
    rw [← hS1] at hall
    have hoS : o * S = S * o := Nat.mul_comm o S
    generalize hM : metC S t to (S * o) = M0 at *
    have hcell : ∀ m, m ≤ S → metC S t to (S * o + m) = M0 + ((if o = to then min m c.cut.toNat else 0) + (if c.oth.toNat = to then m - min m c.cut.toNat else 0)) := fun m hm => by rw [metC_cell S t to o c hc hcS m hm, hM]
    have hrest : ∀ q, q = (if o = to then c.cut.toNat else 0) + (if c.oth.toNat = to then S - c.cut.toNat else 0) → q ≤ left - M0 → ∃ x, backL (left - M0 - q) (pcs S to (o + 1) (t.drop (o + 1))) = some x ∧ toP S t x = to ∧ metC S t to x = left ∧ x < S * t.length := fun q hq h => by
      have ih := backL_at S to t hok left hlt d (o + 1) (by omega) (by omega)
      rw [hall, ← hq] at ih
      rwa [show left - M0 - q = left - (M0 + q) from by omega]
    have Hrest := Lib.hid hrest
    clear hrest
    unfold pcA pcB
    by_cases h2 : o = to ∧ 0 < c.cut.toNat
    · rw [if_pos h2]
      simp only [if_pos h2.1] at hcell
      simp only [List.cons_append, List.nil_append]
      rw [backL]
      by_cases h5 : left - M0 < c.cut.toNat
      · rw [if_pos h5]
        refine ⟨_, rfl, ?_, ?_, ?_⟩
        · simp only; rw [hoS, toP_at S t o (left - M0) c hc (by omega), if_pos h5]; exact h2.1
        · simp only; rw [hoS, hcell _ (by omega), Nat.min_eq_left (by omega), Nat.sub_self, ite_self]; omega
        · simp only; omega
      · rw [if_neg h5]
        by_cases h3 : c.oth.toNat = to ∧ c.cut.toNat < S
        · rw [if_pos h3]
          simp only [if_pos h3.1] at hcell
          simp only [List.cons_append, List.nil_append]
          rw [backL]
          by_cases h6 : left - M0 - c.cut.toNat < S - c.cut.toNat
          · rw [if_pos h6]
            refine ⟨_, rfl, ?_, ?_, ?_⟩
            · simp only; rw [show o * S + c.cut.toNat + (left - M0 - c.cut.toNat) = S * o + (left - M0) from by omega, toP_at S t o (left - M0) c hc (by omega), if_neg h5]; exact h3.1
            · simp only; rw [show o * S + c.cut.toNat + (left - M0 - c.cut.toNat) = S * o + (left - M0) from by omega, hcell _ (by omega), Nat.min_eq_right (by omega)]; omega
            · simp only; omega
          · rw [if_neg h6]
            rw [show left - M0 - c.cut.toNat - (S - c.cut.toNat) = left - M0 - (c.cut.toNat + (S - c.cut.toNat)) from by omega]
            exact Hrest.out _ (by rw [if_pos h2.1, if_pos h3.1]) (by omega)
        · rw [if_neg h3]
          have hB : (if c.oth.toNat = to then S - c.cut.toNat else 0) = 0 := by
            by_cases h4 : c.oth.toNat = to
            · rw [if_pos h4]; have : ¬ c.cut.toNat < S := fun h => h3 ⟨h4, h⟩; omega
            · rw [if_neg h4]
          simp only [List.nil_append]
          exact Hrest.out _ (by rw [hB, if_pos h2.1]; rfl) (by omega)
    · rw [if_neg h2]
      have hA : (if o = to then c.cut.toNat else 0) = 0 := by
        by_cases h5 : o = to
        · rw [if_pos h5]; have : ¬ 0 < c.cut.toNat := fun h => h2 ⟨h5, h⟩; omega
        · rw [if_neg h5]
      simp only [List.nil_append]
      by_cases h3 : c.oth.toNat = to ∧ c.cut.toNat < S
      · rw [if_pos h3]
        simp only [if_pos h3.1] at hcell
        simp only [List.cons_append, List.nil_append]
        rw [backL]
        by_cases h6 : left - M0 < S - c.cut.toNat
        · rw [if_pos h6]
          refine ⟨_, rfl, ?_, ?_, ?_⟩
          · simp only; rw [show o * S + c.cut.toNat + (left - M0) = S * o + (c.cut.toNat + (left - M0)) from by omega, toP_at S t o _ c hc (by omega), if_neg (by omega)]; exact h3.1
          · simp only; rw [show o * S + c.cut.toNat + (left - M0) = S * o + (c.cut.toNat + (left - M0)) from by omega, hcell _ (by omega), Nat.min_eq_right (by omega)]
            by_cases h5 : o = to
            · rw [if_pos h5] at hA ⊢; omega
            · rw [if_neg h5]; omega
          · simp only; omega
        · rw [if_neg h6]
          exact Hrest.out _ (by rw [hA, if_pos h3.1, Nat.zero_add]) (by omega)
      · rw [if_neg h3]
        have hB : (if c.oth.toNat = to then S - c.cut.toNat else 0) = 0 := by
          by_cases h4 : c.oth.toNat = to
          · rw [if_pos h4]; have : ¬ c.cut.toNat < S := fun h => h3 ⟨h4, h⟩; omega
          · rw [if_neg h4]
        simp only [List.nil_append]
        exact Hrest.out 0 (by rw [hA, hB]) (by omega)
end Go.Proofs.YtcffeepgfjpcaaaGreat
