/- pick.front -/
import Derived.Test.YteakeefocnjlhaaIval
namespace Go.Proofs.Yteakeefocnjlhaa
set_option linter.unusedSimpArgs false
set_option linter.unusedVariables false
open Go.RowKit Go.Shelf
attribute [local go_sem] Oper.semAt_some

theorem BoxAt.ownk {T : TypeId} {g : Nat} {cs : List Value} {X Y : World} {row : Option Nat} (hb : BoxAt T X g cs) (hg : X.grownBy Y row) (hr : ∀ r, row = some r → ∃ o : Obj, X.heap[r]? = some o ∧ o.isCells = false) : BoxAt T Y g cs :=
  hb.grown hg fun e => by
    obtain ⟨o, ho, hc⟩ := hr _ e
    rw [show _ = _ from hb] at ho
    injection ho with ho
    subst ho
    cases hc

set_option maxRecDepth 100000 in
set_option maxHeartbeats 3200000 in
theorem front_any (w : World) (B0 : Nat) (v : Value) (l : List GArc) (to : Nat) (hto : to < l.length) (hl : l.length ≤ 1048576) (hs : gsum l ≤ 2147483647) (h : ByA w B0 v l) (hB : B0 ≤ w.heap.size) :
    Calls Try.prog 74 #[v, .int .i64 (to : Int)] w fun e w' => e = .returned (.int .u64 (frontAt l to : Nat)) ∧ Below w.heap.size w w' := by
  obtain ⟨A, c, rfl, hc1, hc2⟩ := h.form
  unfold maxLen at hc2
  refine (callsIn_wide (n := 4)).1 ?_
  refine callsIn_of_wp_marks Try.func74 rfl trivial ?_ rfl
  simp only [Try.ntmps74, List.size_toArray, List.length_cons, List.length_nil, Nat.reduceAdd, Nat.reduceSub, Array.replicate_succ, Array.replicate_zero, List.push_toArray, List.append_toArray, List.nil_append, List.cons_append]
  gi_wp2_with (refine ⟨trivial, ?_⟩; gi_at_call 79; refine (fronts_in Fence.wide 3 trivial rfl _ _ _ _).mono ?_; rintro e w' ⟨rfl, rfl⟩)
  have bT := BoxAt.new_ 3 w [.int .i64 (to : Int)]
  have bY := BoxAt.new_ 26 (w.alloc (.cells #[.int .i64 (to : Int)] 3)) [.int .u64 0]
  rw [World.size_alloc] at bY
  have bT1 := bT.alloc (.cells #[.int .u64 0] 26)
  have hb1 := bstep (balloc w (.cells #[.int .i64 (to : Int)] 3)) (balloc (w.alloc (.cells #[.int .i64 (to : Int)] 3)) (.cells #[.int .u64 0] 26))
  have hz2 : ((w.alloc (.cells #[.int .i64 (to : Int)] 3)).alloc (.cells #[.int .u64 0] 26)).heap.size = w.heap.size + 2 := by simp
  generalize hw2 : (w.alloc (.cells #[.int .i64 (to : Int)] 3)).alloc (.cells #[.int .u64 0] 26) = w2 at *
  have bN := BoxAt.new_ 32 w2 [.slice A l.length c]
  have bT2 := bT1.alloc (.cells #[.slice A l.length c] 32)
  have bY2 := bY.alloc (.cells #[.slice A l.length c] 32)
  have hb03 := hb1.trans ((balloc w2 (.cells #[.slice A l.length c] 32)).mono (by omega))
  have hr3 := h.below (hb03.mono hB)
  have hz3 : (w2.alloc (.cells #[.slice A l.length c] 32)).heap.size = w.heap.size + 3 := by simp [hz2]
  rw [hz2] at bN
  have HR3 := Lib.hid hr3
  have Hb03 := Lib.hid hb03
  have HbT2 := Lib.hid bT2
  have HbY2 := Lib.hid bY2
  have hcN := bN.cell 0 _ rfl
  clear bT bY bT1 hb1 bN bT2 bY2 hb03 hr3 hw2
  generalize w2.alloc (.cells #[.slice A l.length c] 32) = w3 at *
  clear hz2 h
  refine wpIn_rangeFunc_ownG rfl (by omega) (gf := 87) (lb := #[.pointer (some ⟨w.heap.size + 1 + 1, 0, none⟩)]) rfl trivial (enters_of Try.func87 (by kernel_rfl) rfl)
    (fronts_stops Fence.wide 3 trivial rfl (by omega) (w.heap.size + 1 + 1) B0 (fun k => k = w.heap.size + 1) A c l hl hs w3 (by omega) (by omega) (by rintro k rfl; omega) (by rintro k rfl; omega) (by omega) hcN HR3.out) Kp.trans (fun W l o o' h1 h2 h3 h4 => Kp.putObj _ w3.heap.size W l o o' h1 h2 h3 h4) (Below.refl _ _) (fun _ => rfl)
    (fun pre W => ((∀ p ∈ pre, p.1 ≠ to) ∧ BoxAt 3 W w.heap.size [.int .i64 (to : Int)] ∧ BoxAt 26 W (w.heap.size + 1) [.int .u64 0]) ∧ Below w.heap.size w W)
    (fun cd pre W => (cd = .ret ∧ ∃ ini last, pre = ini ++ [last] ∧ last.1 = to ∧ BoxAt 26 W (w.heap.size + 1) [.int .u64 (last.2 : Nat)]) ∧ Below w.heap.size w W)
    (OwnFrom.and (Own.from (fun s X Y row hs hg hr => ⟨hs.1, hs.2.1.ownk hg hr, hs.2.2.ownk hg hr⟩) _) (ownFrom_below (Nat.le_refl _) (by omega)))
    (fun cd => OwnFrom.and (Own.from (fun s X Y row hs hg hr => by obtain ⟨e0, ini, last, e1, e2, e3⟩ := hs; exact ⟨e0, ini, last, e1, e2, e3.ownk hg hr⟩) _) (ownFrom_below (Nat.le_refl _) (by omega)))
    ⟨⟨by simp, HbT2.out, HbY2.out⟩, Hb03.out⟩
    (fun x => { tmps := #[.slice A l.length c, .int .i64 (to : Int), undef, .pointer (some ⟨w.heap.size, 0, none⟩), .pointer (some ⟨w.heap.size + 1, 0, none⟩), .int .i64 (x.1 : Int), .int .u64 (x.2 : Int), .slice A l.length c, .func (.func 87) #[] #[.pointer (some ⟨w.heap.size + 1 + 1, 0, none⟩)], .int .i64 (x.1 : Int), .int .u64 (x.2 : Int), undef, undef, undef, undef], defers := [] }) ?assign ?body ?done ?stop
  case assign =>
    intro l x W K hK
    gi_wp2
    exact hK
  case body =>
    rintro lq pre x W ⟨⟨hp, hcT, hcY⟩, hB⟩ _
    have ht0 := hcT.cell 0 _ rfl
    have hy0 := hcY.cell 0 _ rfl
    have hyf := hcY.frozen 0
    by_cases hx : x.1 = to
    · have hxd : (((x.1 : Nat) : Int) == (to : Int)) = true := by simp [hx]
      have hxd2 : (x.1 == to) = true := by simp [hx]
      have Hx := Lib.hid hx
      clear hx
      gi_wp2
      exact ⟨(KeepsOthers.setCell _ _ _).from _, ⟨rfl, pre, x, rfl, Hx.out, hcY.put 0 _⟩, hB.setCell (p := ⟨w.heap.size + 1, 0, none⟩) (by show w.heap.size ≤ w.heap.size + 1; omega) _⟩
    · have hxd : (((x.1 : Nat) : Int) == (to : Int)) = false := beq_eq_false_iff_ne.2 (by omega)
      have hxd2 : (x.1 == to) = false := by simp [hx]
      have Hx := Lib.hid hx
      clear hx
      gi_wp2
      refine ⟨KeepsFrom.refl _ _, Kp.refl _ _, ⟨fun p hp' => ?_, hcT, hcY⟩, hB⟩
      rw [List.mem_append, List.mem_singleton] at hp'
      rcases hp' with hp' | rfl
      · exact hp p hp'
      · exact Hx.out
  case done =>
    rintro D ys W hD rfl ⟨⟨hp, hcT, hcY⟩, hB⟩ hK
    exact absurd rfl (hp (frontP l to) ((upto_mem _ _ _).2 ⟨to, hto, rfl⟩))
  case stop =>
    rintro D cd pre W hD ⟨k, hk, rfl⟩ ⟨⟨rfl, ini, last, e1, e2, hcT⟩, hB⟩ hK
    obtain ⟨k', rfl⟩ : ∃ k', k = k' + 1 := by
      cases k with
      | zero => simp [upto] at e1
      | succ k' => exact ⟨k', rfl⟩
    rw [upto_succ] at e1
    obtain ⟨rfl, e5⟩ := List.append_inj' e1 rfl
    obtain rfl : frontP l k' = last := by simpa using e5
    have e7 : k' = to := e2
    subst e7
    have ht0 := hcT.cell 0 _ rfl
    have HB := Lib.hid hB
    clear hB
    gi_wp2
    refine ⟨by simp, .inl ⟨_, _, rfl, run_takeDeferred hK, ?_⟩⟩
    have hc5 := cell_kept ht0 (grownBy_putObj' _ D (.deferred none)) (fun r e => by cases e; exact ⟨_, hK, rfl⟩)
    refine ⟨.int .u64 (frontAt l k' : Nat), ?_, rfl, HB.out.trans (belowK_b (w := w) (Nat.le_refl _) W D _ _ (by omega) hK rfl rfl)⟩
    simp [results, Try.f74, go_sem, hc5]
    rfl
end Go.Proofs.Yteakeefocnjlhaa
