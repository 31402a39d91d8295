/- pick.Back -/
import Derived.Test.YteakeefocnjlhaaPickLaw
import Derived.WalkMore
import Derived.Laws.EntriesVeiled
namespace Go.Proofs.Yteakeefocnjlhaa
set_option linter.unusedSimpArgs false
set_option linter.unusedVariables false
open Go.RowKit Go.Shelf
attribute [local go_sem] Oper.semAt_some

/-- what the loop takes away, and where it ends -/
def lsub (y0 : Int) (pre : List (Nat × Nat)) : Int := pre.foldl (fun s p => IntKind.u64.wrap (s - (p.2 : Int))) y0
theorem lsub_snoc (y0 : Int) (pre : List (Nat × Nat)) (p : Nat × Nat) : lsub y0 (pre ++ [p]) = IntKind.u64.wrap (lsub y0 pre - (p.2 : Int)) := by simp [lsub]
/-- none of them holds what is left when it is its turn -/
def passed (y0 : Int) : List (Nat × Nat) → Prop
  | [] => True
  | p :: r => decide (y0 < (p.2 : Int)) = false ∧ passed (IntKind.u64.wrap (y0 - (p.2 : Int))) r
theorem passed_snoc : ∀ (pre : List (Nat × Nat)) (y0 : Int) (p : Nat × Nat), passed y0 pre → decide (lsub y0 pre < (p.2 : Int)) = false → passed y0 (pre ++ [p])
  | [], y0, p, _, h => ⟨h, trivial⟩
  | q :: r, y0, p, h, h2 => ⟨h.1, passed_snoc r _ p h.2 h2⟩
theorem back_none : ∀ (ps : List (Nat × Nat)) (left : Nat), left < 18446744073709551616 → passed (left : Int) ps → backL left ps = none
  | [], _, _, _ => rfl
  | p :: r, left, hl, h => by
    have h1 : ¬ left < p.2 := by
      have := h.1
      rw [decide_eq_false_iff_not] at this
      omega
    rw [backL, if_neg h1]
    refine back_none r _ (by omega) ?_
    have e : IntKind.u64.wrap ((left : Int) - (p.2 : Int)) = ((left - p.2 : Nat) : Int) := by rw [wrap_u64]; omega
    rw [← e]
    exact h.2
theorem back_some : ∀ (ini : List (Nat × Nat)) (last : Nat × Nat) (rest : List (Nat × Nat)) (left : Nat), left < 18446744073709551616 → passed (left : Int) ini → decide (lsub (left : Int) ini < (last.2 : Int)) = true →
    ∃ r : Nat, lsub (left : Int) ini = (r : Int) ∧ r ≤ left ∧ backL left (ini ++ [last] ++ rest) = some (last.1 + r)
  | [], last, rest, left, hl, h, h2 => by
    have h3 : left < last.2 := by
      rw [decide_eq_true_eq] at h2
      simp only [lsub, List.foldl_nil] at h2
      omega
    exact ⟨left, rfl, Nat.le_refl _, by simp [backL, h3]⟩
  | p :: r, last, rest, left, hl, h, h2 => by
    have h1 : ¬ left < p.2 := by
      have := h.1
      rw [decide_eq_false_iff_not] at this
      omega
    have e : IntKind.u64.wrap ((left : Int) - (p.2 : Int)) = ((left - p.2 : Nat) : Int) := by rw [wrap_u64]; omega
    have e2 : lsub (left : Int) (p :: r) = lsub ((left - p.2 : Nat) : Int) r := by rw [← e]; rfl
    have h3 := h.2
    rw [e] at h3
    rw [e2] at h2 ⊢
    obtain ⟨q, q1, q2, q3⟩ := back_some r last rest (left - p.2) (by omega) h3 h2
    refine ⟨q, q1, by omega, ?_⟩
    simp only [List.cons_append]
    rw [backL, if_neg h1]
    exact q3
/-- the draw that is mapped to a number -/
def bck (l : List GArc) (t : List GCell) (y : Nat) : Nat × Bool :=
  if y < ptotal l ∧ mayOk l t = true then
    match backL (y - frontAt l (ivalN l y)) (pcs (gsum l) (ivalN l y) 0 t) with
    | some x => (x, true)
    | none => (0, false)
  else (0, false)
theorem ivalN_in {l : List GArc} {y : Nat} (hy : y < ptotal l) : ivalN l y < l.length ∧ frontAt l (ivalN l y) ≤ y ∧ y < frontAt l (ivalN l y + 1) := by
  have hall : y < frontAt l l.length := by rw [frontAt_all, ← ptotal_eq hy]; exact hy
  have : ∀ n, n ≤ l.length → y < frontAt l n → ∃ k, k < n ∧ frontAt l k ≤ y ∧ y < frontAt l (k + 1) := by
    intro n
    induction n with
    | zero => intro _ h; rw [frontAt_zero] at h; omega
    | succ n ih =>
      intro hn h
      rcases Nat.lt_or_ge y (frontAt l n) with h1 | h1
      · obtain ⟨k, h2, h3, h4⟩ := ih (by omega) h1
        exact ⟨k, by omega, h3, h4⟩
      · exact ⟨n, by omega, h1, h⟩
  obtain ⟨k, h2, h3, h4⟩ := this l.length (Nat.le_refl _) hall
  rw [ivalN_at l y k h2 h3 h4]
  exact ⟨h2, h3, h4⟩
/-- the number of a draw is told back -/
theorem bck_ok {l : List GArc} {t : List GCell} (h : mayOk l t = true) (hl : l.length ≤ 1048576) {y : Nat} (hy : y < ptotal l) :
    ∃ x, bck l t y = (x, true) ∧ backL (y - frontAt l (ivalN l y)) (pcs (gsum l) (ivalN l y) 0 t) = some x ∧ x < ptotal l ∧ toP (gsum l) t x = ivalN l y ∧ frontAt l (ivalN l y) + metC (gsum l) t (ivalN l y) x = y := by
  obtain ⟨h1, h2, h3, h4⟩ := mayOk_parts h
  obtain ⟨hk, hf1, hf2⟩ := ivalN_in hy
  obtain ⟨hg, hW0, _, hW1⟩ := ptotal_pos hy
  have hma := met_all h (by omega) hW1 (ivalN l y) hk
  have hfs := frontAt_succ l (ivalN l y) hk
  obtain ⟨x, q1, q2, q3, q4⟩ := backL_at (gsum l) (ivalN l y) t (fun c hc => (h3 c hc).1) (y - frontAt l (ivalN l y)) (by rw [hma]; omega) t.length 0 (by omega) (by rw [Nat.mul_zero]; exact Nat.zero_le _)
  rw [Nat.mul_zero, List.drop_zero] at q1
  have hm0 : metC (gsum l) t (ivalN l y) 0 = 0 := rfl
  rw [hm0, Nat.sub_zero] at q1
  refine ⟨x, ?_, q1, by rw [ptotal_eq hy, h1]; exact q4, q2, by omega⟩
  unfold bck
  rw [if_pos ⟨hy, h⟩, q1]
theorem bck_no {l : List GArc} {t : List GCell} {y : Nat} (h : ¬ (y < ptotal l ∧ mayOk l t = true)) : bck l t y = (0, false) := by
  unfold bck
  rw [if_neg h]

set_option maxRecDepth 100000 in
set_option maxHeartbeats 1600000 in
theorem found_any (w : World) (g : Nat) (a b : Nat) (left : Int) (h : BoxAt 26 w g [.int .u64 left]) :
    Calls Try.prog 76 #[.agg #[.int .u64 (a : Int), .int .u64 (b : Int)], .pointer (some ⟨g, 0, none⟩)] w fun e w' => e = .returned (.bool (decide (left < (b : Int)))) ∧ w' = w.alloc (.cells #[.int .u64 (a : Int), .int .u64 (b : Int)] 107) := by
  have hx := (h.alloc (.cells #[.int .u64 (a : Int), .int .u64 (b : Int)] 107)).cell 0 _ rfl
  go_enter Try.func76, Try.ntmps76
  go_wp2_with fail
  go_ret
  exact ⟨rfl, rfl⟩

set_option maxRecDepth 100000 in
set_option maxHeartbeats 6400000 in
theorem back_any (w : World) (B0 : Nat) (v v2 : Value) (l : List GArc) (t : List GCell) (y : Nat) (hy : y < 18446744073709551616) (hl : l.length ≤ 1048576) (ht : t.length ≤ 1048576) (h : ByA w B0 v l) (h2 : ByC w B0 v2 t) (hB : B0 ≤ w.heap.size) :
    Calls Try.prog 53 #[v, v2, .int .u64 (y : Int)] w fun e w' => e = .returned (.tuple #[.int .u64 ((bck l t y).1 : Nat), .bool (bck l t y).2]) ∧ Below w.heap.size w w' := by
  obtain ⟨A, c, rfl, hc1, hc2⟩ := h.form
  obtain ⟨A2, c2, rfl, hd1, hd2⟩ := h2.form
  unfold maxLen at hc2 hd2
  have hby0 := BoxAt.new_ 26 w [.int .u64 0]
  have hby1 := hby0.alloc (.cells #[.bool false] 4)
  have hbz0 := BoxAt.new_ 4 (w.alloc (.cells #[.int .u64 0] 26)) [.bool false]
  rw [World.size_alloc] at hbz0
  have hb03 := bstep (balloc w (.cells #[.int .u64 0] 26)) (balloc _ (.cells #[.bool false] 4))
  have hz3 : ((w.alloc (.cells #[.int .u64 0] 26)).alloc (.cells #[.bool false] 4)).heap.size = w.heap.size + 2 := by simp
  refine (callsIn_wide (n := 5)).1 ?_
  refine callsIn_of_wp_marks Try.func53 rfl trivial ?_ rfl
  simp only [Try.ntmps53, List.size_toArray, List.length_cons, List.length_nil, Nat.reduceAdd, Nat.reduceSub, Array.replicate_succ, Array.replicate_zero, List.push_toArray, List.append_toArray, List.nil_append, List.cons_append]
  gi_wp2
  refine wpIn_wide.2 ?_
  go_step3
  refine (wpIn_wide (n := 5)).1 ?_
  gi_wp2
  generalize (w.alloc (.cells #[.int .u64 0] 26)).alloc (.cells #[.bool false] 4) = w3 at *
  have hpa := interval_any w3 B0 _ l y hy hl (h.below (hb03.mono hB)) (by omega)
  have Hpa := Lib.hid hpa
  have Hb03 := Lib.hid hb03
  have Hy1 := Lib.hid hby1
  have Hz0 := Lib.hid hbz0
  have H1 := Lib.hid h
  have H2 := Lib.hid h2
  clear hpa hb03 hby0 hby1 hbz0 h h2
  have hrm : bck l t y = if y < ptotal l ∧ mayOk l t = true then (match backL (y - frontAt l (ivalN l y)) (pcs (gsum l) (ivalN l y) 0 t) with | some x => (x, true) | none => (0, false)) else (0, false) := rfl
  have hiv : ival l y = if y < ptotal l then (ivalN l y, true) else (0, false) := rfl
  have hok := fun h => @bck_ok l t h hl y
  have hno := @bck_no l t y
  have Hok := Lib.hid hok
  have Hno := Lib.hid hno
  have Hiv := Lib.hid hiv
  clear hrm hiv hok hno
  by_cases hyt : y < ptotal l
  · obtain ⟨hgm, hW0, hk0, hW1⟩ := ptotal_pos hyt
    obtain ⟨hkl, hkf1, hkf2⟩ := ivalN_in hyt
    have hi := Hiv.out
    rw [if_pos hyt] at hi
    have hpa := Hpa.out
    rw [hi] at hpa
    have Hpa2 := Lib.hid hpa
    have Hyt := Lib.hid hyt
    clear hpa Hpa hgm hk0 hyt hkf2 hi Hiv
    refine ⟨trivial, ?_⟩
    refine (callsIn_wide.2 Hpa2.out).mono ?_
    rintro _ w4 ⟨rfl, hb4⟩
    have hb04 := Hb03.out.trans (hb4.mono (by omega))
    have hz4 := hb4.size
    have Hy4 := Lib.hid (Hy1.out.below (by omega) hb4)
    have Hz4 := Lib.hid (Hz0.out.below (by omega) hb4)
    have Hb04 := Lib.hid hb04
    clear hb4 hb04 Hy1 Hz0 Hb03 Hpa2
    have hmy := amay_any w4 B0 B0 (.slice A l.length c) (.slice A2 t.length c2) l t (by omega) (by omega) (H1.out.below (Hb04.out.mono hB)) (H2.out.below (Hb04.out.mono hB)) (by omega) (by omega)
    have hcut := @mayOk_cut l t
    have Hcut := Lib.hid hcut
    have Hmy := Lib.hid hmy
    clear hmy hcut
    generalize mayOk l t = my at *
    generalize hto : ivalN l y = to at *
    have Hto := Lib.hid hto
    clear hto
    gi_wp2
    refine ⟨trivial, ?_⟩
    refine (callsIn_wide.2 Hmy.out).mono ?_
    rintro _ w5 ⟨rfl, hb5⟩
    have hb05 := Hb04.out.trans (hb5.mono (by omega))
    have hz5 := hb5.size
    have Hy5 := Lib.hid (Hy4.out.below (by omega) hb5)
    have Hz5 := Lib.hid (Hz4.out.below (by omega) hb5)
    have Hb05 := Lib.hid hb05
    clear hb5 hb05 Hy4 Hz4 Hb04 Hmy
    cases my with
    | false =>
      have hR := Hno.out (by simp)
      have HR := Lib.hid hR
      have hy1 := Hy5.out.frozen 0
      have hz1 := Hz5.out.frozen 0
      have hy2 := Hy5.out.cell 0 _ rfl
      have hz2 := Hz5.out.cell 0 _ rfl
      clear hR
      gi_wp2
      have hy5 := (Hy5.out.put 0 (.int .u64 0)).other ⟨w.heap.size + 1, 0, none⟩ (.bool false) (by show w.heap.size + 1 ≠ w.heap.size; omega)
      have hz5 := (Hz5.out.other ⟨w.heap.size, 0, none⟩ (.int .u64 0) (by show w.heap.size ≠ w.heap.size + 1; omega)).put 0 (.bool false)
      have hy6 := hy5.cell 0 _ rfl
      have hz6 := hz5.cell 0 _ rfl
      have hb5 := (Hb05.out.setCell (p := ⟨w.heap.size, 0, none⟩) (by show w.heap.size ≤ w.heap.size; omega) (.int .u64 0)).setCell (p := ⟨w.heap.size + 1, 0, none⟩) (by show w.heap.size ≤ w.heap.size + 1; omega) (.bool false)
      rw [Exit.noGoto_ret]
      refine ⟨.tuple #[.int .u64 0, .bool false], ?_, by rw [HR.out]; rfl, hb5⟩
      simp [results, Try.f53, go_sem, hy6, hz6]
      try rfl
    | true =>
      have hcut := Hcut.out rfl
      have Hcut2 := Lib.hid hcut
      have hR := Hok.out rfl Hyt.out
      have HR := Lib.hid hR
      clear hcut Hcut hR Hok Hno
      have hfr := front_any w5 B0 (.slice A l.length c) l to hkl hl hW1 (H1.out.below (Hb05.out.mono hB)) (by omega)
      have Hfr := Lib.hid hfr
      clear hfr
      gi_wp2
      refine ⟨trivial, ?_⟩
      refine (callsIn_wide.2 Hfr.out).mono ?_
      rintro _ w6 ⟨rfl, hb6⟩
      have hb06 := Hb05.out.trans (hb6.mono (by omega))
      have hz6 := hb6.size
      have hy6 := Hy5.out.below (by omega) hb6
      have hz6b := Hz5.out.below (by omega) hb6
      obtain ⟨left, hleft⟩ : ∃ left, left = y - frontAt l to := ⟨_, rfl⟩
      have hsub : IntKind.u64.wrap ((y : Int) - (frontAt l to : Int)) = (left : Int) := by rw [wrap_u64]; omega
      have hleb : left < 18446744073709551616 := by omega
      rw [← hleft] at HR
      have Hleft := Lib.hid hleft
      clear hleft
      have hqb := (BoxAt.new_ 26 w6 [.int .u64 (left : Int)]).alloc (.cells #[.func (.func 76) #[] #[.pointer (some ⟨w6.heap.size, 0, none⟩)]] 108)
      have hfb := BoxAt.new_ 108 (w6.alloc (.cells #[.int .u64 (left : Int)] 26)) [.func (.func 76) #[] #[.pointer (some ⟨w6.heap.size, 0, none⟩)]]
      rw [World.size_alloc] at hfb
      have hba := bstep (balloc w6 (.cells #[.int .u64 (left : Int)] 26)) (balloc _ (.cells #[.func (.func 76) #[] #[.pointer (some ⟨w6.heap.size, 0, none⟩)]] 108))
      have hz7 : ((w6.alloc (.cells #[.int .u64 (left : Int)] 26)).alloc (.cells #[.func (.func 76) #[] #[.pointer (some ⟨w6.heap.size, 0, none⟩)]] 108)).heap.size = w6.heap.size + 2 := by simp
      have Hq7 := Lib.hid hqb
      have Hf7 := Lib.hid hfb
      have Hy7 := Lib.hid (hy6.below (by omega) hba)
      have Hz7 := Lib.hid (hz6b.below (by omega) hba)
      have Hb07 := Lib.hid (hb06.trans (hba.mono (by omega)))
      clear hb6 hb06 hy6 hz6b hqb hfb hba Hy5 Hz5 Hb05 Hfr
      gi_wp2
      generalize ((w6.alloc (.cells #[.int .u64 (left : Int)] 26)).alloc (.cells #[.func (.func 76) #[] #[.pointer (some ⟨w6.heap.size, 0, none⟩)]] 108)) = w7 at *
      generalize hg6 : w6.heap.size = g6 at *
      refine wpIn_wide.2 ?_
      go_step3
      gi_wp2
      refine ⟨trivial, ?_⟩
      refine (callsIn_wide.2 (gsum_any w7 B0 (.slice A l.length c) l (by omega) (H1.out.below (Hb07.out.mono hB)) (by omega))).mono ?_
      rintro _ w8 ⟨rfl, hb8⟩
      have hz8 := hb8.size
      have hy8 := Hy7.out.below (by omega) hb8
      have hz8b := Hz7.out.below (by omega) hb8
      have hq8 := Hq7.out.below (by omega) hb8
      have hf8 := Hf7.out.below (by omega) hb8
      have hb08 := Hb07.out.trans (hb8.mono (by omega))
      have Hy8 := Lib.hid hy8
      have Hz8 := Lib.hid hz8b
      have Hq8 := Lib.hid hq8
      have Hf8 := Lib.hid hf8
      have Hb08 := Lib.hid hb08
      clear hy8 hz8b hq8 hf8 hb08 hb8 Hy7 Hz7 Hq7 Hf7 Hb07
      gi_wp2
      refine ⟨trivial, ?_⟩
      refine (pieces_in Fence.wide 4 trivial rfl _ _ _ _ _ _).mono ?_
      rintro _ _ ⟨rfl, rfl⟩
      gi_wp2
      have hp0 := BoxAt.new_ 67 w8 [.slice A2 t.length c2]
      have hp1 := BoxAt.new_ 26 (w8.alloc (.cells #[.slice A2 t.length c2] 67)) [.int .u64 (gsum l : Nat)]
      have hp2 := BoxAt.new_ 3 ((w8.alloc (.cells #[.slice A2 t.length c2] 67)).alloc (.cells #[.int .u64 (gsum l : Nat)] 26)) [.int .i64 (to : Int)]
      rw [World.size_alloc] at hp1
      rw [World.size_alloc, World.size_alloc] at hp2
      have hp0' := (hp0.alloc (.cells #[.int .u64 (gsum l : Nat)] 26)).alloc (.cells #[.int .i64 (to : Int)] 3)
      have hp1' := hp1.alloc (.cells #[.int .i64 (to : Int)] 3)
      have hba9 := bstep (bstep (balloc w8 (.cells #[.slice A2 t.length c2] 67)) (balloc _ (.cells #[.int .u64 (gsum l : Nat)] 26))) (balloc _ (.cells #[.int .i64 (to : Int)] 3))
      have hz9 : (((w8.alloc (.cells #[.slice A2 t.length c2] 67)).alloc (.cells #[.int .u64 (gsum l : Nat)] 26)).alloc (.cells #[.int .i64 (to : Int)] 3)).heap.size = w8.heap.size + 3 := by simp
      have hy9 := ((Hy8.out.alloc (.cells #[.slice A2 t.length c2] 67)).alloc (.cells #[.int .u64 (gsum l : Nat)] 26)).alloc (.cells #[.int .i64 (to : Int)] 3)
      have hz9b := ((Hz8.out.alloc (.cells #[.slice A2 t.length c2] 67)).alloc (.cells #[.int .u64 (gsum l : Nat)] 26)).alloc (.cells #[.int .i64 (to : Int)] 3)
      have hq9 := ((Hq8.out.alloc (.cells #[.slice A2 t.length c2] 67)).alloc (.cells #[.int .u64 (gsum l : Nat)] 26)).alloc (.cells #[.int .i64 (to : Int)] 3)
      have hf9 := ((Hf8.out.alloc (.cells #[.slice A2 t.length c2] 67)).alloc (.cells #[.int .u64 (gsum l : Nat)] 26)).alloc (.cells #[.int .i64 (to : Int)] 3)
      have hb09 := Hb08.out.trans (hba9.mono (by omega))
      generalize ((w8.alloc (.cells #[.slice A2 t.length c2] 67)).alloc (.cells #[.int .u64 (gsum l : Nat)] 26)).alloc (.cells #[.int .i64 (to : Int)] 3) = w9 at *
      generalize hg8 : w8.heap.size = g8 at *
      have hc0 := hp0'.cell 0 _ rfl
      have hc1' := hp1'.cell 0 _ rfl
      have hc2' := hp2.cell 0 _ rfl
      have Hy9 := Lib.hid hy9
      have Hz9 := Lib.hid hz9b
      have Hq9 := Lib.hid hq9
      have Hf9 := Lib.hid hf9
      have Hb09 := Lib.hid hb09
      clear hp0 hp1 hp2 hp0' hp1' hba9 hy9 hz9b hq9 hf9 hb09 Hy8 Hz8 Hq8 Hf8 Hb08
      refine wpIn_rangeFunc_ownH rfl (by omega) (gf := 86) (lb := #[.pointer (some ⟨g8, 0, none⟩), .pointer (some ⟨g8 + 1, 0, none⟩), .pointer (some ⟨g8 + 1 + 1, 0, none⟩)]) rfl trivial (enters_of Try.func86 (by kernel_rfl) rfl)
        (pieces_stops Fence.wide 4 trivial rfl (by omega) g8 B0 (fun k => k = g6) A2 c2 t (gsum l) to (by omega) hW1 Hcut2.out (by omega) w9 (by omega) (fun j hj => by omega) (by rintro k rfl; omega) (by rintro k rfl; omega) (by omega) hc0 hc1' hc2' (H2.out.below (Hb09.out.mono hB))) Kp.trans (fun W l o o' h1 h2 h3 h4 => Kp.putObj _ w9.heap.size W l o o' h1 h2 h3 h4) (Below.refl _ _) (fun _ => rfl)
        (fun pre W => (passed (left : Int) pre ∧ BoxAt 26 W g6 [.int .u64 (lsub (left : Int) pre)] ∧ BoxAt 108 W (g6 + 1) [.func (.func 76) #[] #[.pointer (some ⟨g6, 0, none⟩)]] ∧ BoxAt 26 W w.heap.size [.int .u64 0] ∧ BoxAt 4 W (w.heap.size + 1) [.bool false] ∧ w9.heap.size ≤ W.heap.size) ∧ Below w.heap.size w W)
        (fun cd pre W => (cd = .ret ∧ ∃ ini last, pre = ini ++ [last] ∧ passed (left : Int) ini ∧ decide (lsub (left : Int) ini < (last.2 : Int)) = true ∧ BoxAt 26 W w.heap.size [.int .u64 (IntKind.u64.wrap ((last.1 : Int) + lsub (left : Int) ini))] ∧ BoxAt 4 W (w.heap.size + 1) [.bool true]) ∧ Below w.heap.size w W)
        (OwnFrom.and (Own.from (fun s X Y row hs hg hr => ⟨hs.1, hs.2.1.ownk hg hr, hs.2.2.1.ownk hg hr, hs.2.2.2.1.ownk hg hr, hs.2.2.2.2.1.ownk hg hr, Nat.le_trans hs.2.2.2.2.2 hg.size⟩) _) (ownFrom_below (Nat.le_refl _) (by omega)))
        (fun cd => OwnFrom.and (Own.from (fun s X Y row hs hg hr => by obtain ⟨e0, ini, last, e1, e2, e3, e4, e5⟩ := hs; exact ⟨e0, ini, last, e1, e2, e3, e4.ownk hg hr, e5.ownk hg hr⟩) _) (ownFrom_below (Nat.le_refl _) (by omega)))
        ⟨⟨trivial, Hq9.out, Hf9.out, Hy9.out, Hz9.out, Nat.le_refl _⟩, Hb09.out⟩
        (fun p a' W => ∃ Bx, w9.heap.size ≤ Bx ∧ BoxAt 107 W Bx [.int .u64 (p.1 : Int), .int .u64 (p.2 : Int)] ∧ a' = Act.mk #[.slice A l.length c, .slice A2 t.length c2, .int .u64 (y : Int), undef, undef, undef, .pointer (some ⟨w.heap.size, 0, none⟩), .pointer (some ⟨w.heap.size + 1, 0, none⟩), .int .i64 (to : Int), .bool true, .pointer (some ⟨g6, 0, none⟩), .pointer (some ⟨g6 + 1, 0, none⟩), .pointer (some ⟨Bx, 0, none⟩),
          .tuple #[.int .i64 (to : Int), .bool true], .slice A l.length c, .int .u64 (y : Int), .tuple #[.int .i64 (to : Int), .bool true], .int .i64 (to : Int), .bool true, .bool true, .bool false, .bool false, .slice A l.length c, .slice A2 t.length c2, .bool true, .bool false, .bool false, .int .u64 (y : Int), .slice A l.length c, .int .i64 (to : Int),
          .int .u64 (frontAt l to : Nat), .int .u64 (left : Int), .func (.func 76) #[] #[.pointer (some ⟨g6, 0, none⟩)], .slice A2 t.length c2, .slice A l.length c, .int .u64 (gsum l : Nat), .int .i64 (to : Int), .func (.func 86) #[] #[.pointer (some ⟨g8, 0, none⟩), .pointer (some ⟨g8 + 1, 0, none⟩), .pointer (some ⟨g8 + 1 + 1, 0, none⟩)], .agg #[.int .u64 (p.1 : Int), .int .u64 (p.2 : Int)],
          undef, undef, undef, undef, undef, undef, undef, undef, undef, undef, undef, undef] [])
        (fun p a' _ X Y row hs hg hr => by obtain ⟨Bx, h1, h2, h3⟩ := hs; exact ⟨Bx, h1, h2.ownk hg (fun r e => (hr r e).2), h3⟩)
        ?assign ?body ?done ?stop
      case assign =>
        rintro lq pre p W K ⟨⟨i1, i2, i3, i4, i5, i6⟩, hBW⟩ hK
        dsimp only [encP]
        gi_wp2
        exact hK _ _ ((KeepsOthers.alloc _ _).from _) (Kp.alloc _ _ _) ⟨⟨i1, i2.alloc _, i3.alloc _, i4.alloc _, i5.alloc _, by simp; omega⟩, hBW.alloc hBW.size _⟩ ⟨W.heap.size, i6, BoxAt.new_ 107 W _, rfl⟩
      case body =>
        rintro lq pre p a' W hlq hr0 ⟨⟨i1, i2, i3, i4, i5, i6⟩, hBW⟩ ⟨Bx, hBx, bX, rfl⟩ hlt
        have hp0 := bX.cell 0 _ rfl
        have hp1 := bX.cell 1 _ rfl
        have hf0 := i3.cell 0 _ rfl
        have hss := lsub_snoc (left : Int) pre p
        have hps := passed_snoc pre (left : Int) p i1
        have Hss := Lib.hid hss
        have Hps := Lib.hid hps
        have I1 := Lib.hid i1
        clear hss hps i1
        generalize hys : lsub (left : Int) pre = ys at *
        have Hys := Lib.hid hys
        clear hys
        have hfd := found_any W g6 p.1 p.2 ys i2
        have Hfd := Lib.hid hfd
        have I2 := Lib.hid i2
        have I3 := Lib.hid i3
        have I4 := Lib.hid i4
        have I5 := Lib.hid i5
        have HX := Lib.hid bX
        have HBW := Lib.hid hBW
        clear hfd i2 i3 i4 i5 bX hBW
        gi_wp2
        refine ⟨trivial, ?_⟩
        refine (CallsIn.inRound lq (callsIn_wide.2 Hfd.out)).mono ?_
        rintro _ _ ⟨rfl, rfl⟩
        have j2 := I2.out.alloc (.cells #[.int .u64 (p.1 : Int), .int .u64 (p.2 : Int)] 107)
        have j3 := I3.out.alloc (.cells #[.int .u64 (p.1 : Int), .int .u64 (p.2 : Int)] 107)
        have j4 := I4.out.alloc (.cells #[.int .u64 (p.1 : Int), .int .u64 (p.2 : Int)] 107)
        have j5 := I5.out.alloc (.cells #[.int .u64 (p.1 : Int), .int .u64 (p.2 : Int)] 107)
        have jX := HX.out.alloc (.cells #[.int .u64 (p.1 : Int), .int .u64 (p.2 : Int)] 107)
        have jBW := HBW.out.alloc HBW.out.size (.cells #[.int .u64 (p.1 : Int), .int .u64 (p.2 : Int)] 107)
        have jk := KeepsOthers.alloc W (.cells #[.int .u64 (p.1 : Int), .int .u64 (p.2 : Int)] 107)
        have jp := Kp.alloc (fun k => k = g6) W (.cells #[.int .u64 (p.1 : Int), .int .u64 (p.2 : Int)] 107)
        have jz : w9.heap.size ≤ (W.alloc (.cells #[.int .u64 (p.1 : Int), .int .u64 (p.2 : Int)] 107)).heap.size := by simp; omega
        clear hp0 hp1 hf0 I2 I3 I4 I5 HX HBW Hfd
        generalize W.alloc (.cells #[.int .u64 (p.1 : Int), .int .u64 (p.2 : Int)] 107) = W1 at *
        have hp0 := jX.cell 0 _ rfl
        have hp1 := jX.cell 1 _ rfl
        have hq0 := j2.cell 0 _ rfl
        have hqf := j2.frozen 0
        have hy0 := j4.cell 0 _ rfl
        have hyf := j4.frozen 0
        have hz0 := j5.cell 0 _ rfl
        have hzf := j5.frozen 0
        cases hd : decide (ys < (p.2 : Int)) with
        | true =>
          have Hd := Lib.hid hd
          clear hd
          gi_wp2
          refine ⟨(jk.trans ((KeepsOthers.setCell _ _ _).trans (KeepsOthers.setCell _ _ _))).from _, ⟨rfl, pre, p, rfl, I1.out, by rw [Hys.out]; exact Hd.out, ?_, ?_⟩, ?_⟩
          · rw [Hys.out]
            exact (j4.put 0 _).other _ _ (by show w.heap.size + 1 ≠ w.heap.size; omega)
          · exact (j5.other _ _ (by show w.heap.size ≠ w.heap.size + 1; omega)).put 0 _
          · exact (jBW.setCell (p := ⟨w.heap.size, 0, none⟩) (Nat.le_refl _) _).setCell (p := ⟨w.heap.size + 1, 0, none⟩) (by show w.heap.size ≤ w.heap.size + 1; omega) _
        | false =>
          have Hd := Lib.hid hd
          clear hd
          gi_wp2
          refine ⟨(jk.trans (KeepsOthers.setCell _ _ _)).from _, jp.trans (Kp.set _ _ _ rfl), ⟨Hps.out (by first | exact Hd.out | (rw [Hys.out]; exact Hd.out)), ?_, j3.other _ _ (by show g6 ≠ g6 + 1; omega), j4.other _ _ (by show g6 ≠ w.heap.size; omega), j5.other _ _ (by show g6 ≠ w.heap.size + 1; omega), by simp [World.setCell]; exact jz⟩, jBW.setCell (p := ⟨g6, 0, none⟩) (by show w.heap.size ≤ g6; omega) _⟩
          rw [Hss.out]; exact j2.put 0 _
      case done =>
        rintro D ys W hD rfl ⟨⟨i1, i2, i3, i4, i5, i6⟩, hBW⟩ hK
        exfalso
        obtain ⟨x, q1, q2, q3, q4, q5⟩ := HR.out
        rw [back_none _ _ hleb i1] at q2
        cases q2
      case stop =>
        rintro D cd pre W hD ⟨rest, hpre⟩ ⟨⟨rfl, ini, last, e1, e2, e3, e4, e5⟩, hBW⟩ hK
        subst e1
        obtain ⟨x, q1, q2, q3, q4, q5⟩ := HR.out
        obtain ⟨r, r1, r2, r3⟩ := back_some ini last rest left hleb e2 e3
        rw [← hpre, r3] at q2
        have h7 := Option.some.inj q2
        have hxl : x < 1048576 * 2147483647 := by
          have : gsum l * l.length ≤ 2147483647 * 1048576 := Nat.mul_le_mul hW1 hl
          rw [ptotal_eq q3] at q3
          omega
        have hval : IntKind.u64.wrap ((last.1 : Int) + lsub (left : Int) ini) = (x : Int) := by
          rw [r1, wrap_u64]; omega
        rw [hval] at e4
        have hy0 := e4.cell 0 _ rfl
        have hz0 := e5.cell 0 _ rfl
        have HB := Lib.hid hBW
        have Q1 := Lib.hid q1
        clear e2 e3 e4 e5 q1 q2 q3 q4 q5 r1 r2 r3 h7 hpre hBW hval
        gi_wp2
        rw [Exit.noGoto_ret]
        refine ⟨by simp, .inl ⟨_, _, rfl, run_takeDeferred hK, ?_⟩⟩
        have hy5 := cell_kept hy0 (grownBy_putObj' _ D (.deferred none)) (fun r e => by cases e; exact ⟨_, hK, rfl⟩)
        have hz5 := cell_kept hz0 (grownBy_putObj' _ D (.deferred none)) (fun r e => by cases e; exact ⟨_, hK, rfl⟩)
        refine ⟨.tuple #[.int .u64 (x : Int), .bool true], ?_, by rw [Q1.out], HB.out.trans (belowK_b (w := w) (Nat.le_refl _) W D _ _ (by omega) hK rfl rfl)⟩
        simp [results, Try.f53, go_sem, hy5, hz5]
        try rfl
  · have hi := Hiv.out
    rw [if_neg hyt] at hi
    have hpa := Hpa.out
    rw [hi] at hpa
    have Hpa2 := Lib.hid hpa
    have hR := Hno.out (fun e => hyt e.1)
    have HR := Lib.hid hR
    clear hpa Hpa hR hyt hi Hiv
    refine ⟨trivial, ?_⟩
    refine (callsIn_wide.2 Hpa2.out).mono ?_
    rintro _ w4 ⟨rfl, hb4⟩
    have hb04 := Hb03.out.trans (hb4.mono (by omega))
    have hz4 := hb4.size
    have Hy4 := Lib.hid (Hy1.out.below (by omega) hb4)
    have Hz4 := Lib.hid (Hz0.out.below (by omega) hb4)
    have Hb04 := Lib.hid hb04
    have hy1 := Hy4.out.frozen 0
    have hz1 := Hz4.out.frozen 0
    have hy2 := Hy4.out.cell 0 _ rfl
    have hz2 := Hz4.out.cell 0 _ rfl
    clear hb4 hb04
    gi_wp2
    refine ⟨trivial, ?_⟩
    gi_wp2
    have hy5 := (Hy4.out.put 0 (.int .u64 0)).other ⟨w.heap.size + 1, 0, none⟩ (.bool false) (by show w.heap.size + 1 ≠ w.heap.size; omega)
    have hz5 := (Hz4.out.other ⟨w.heap.size, 0, none⟩ (.int .u64 0) (by show w.heap.size ≠ w.heap.size + 1; omega)).put 0 (.bool false)
    have hy6 := hy5.cell 0 _ rfl
    have hz6 := hz5.cell 0 _ rfl
    have hb5 := (Hb04.out.setCell (p := ⟨w.heap.size, 0, none⟩) (by show w.heap.size ≤ w.heap.size; omega) (.int .u64 0)).setCell (p := ⟨w.heap.size + 1, 0, none⟩) (by show w.heap.size ≤ w.heap.size + 1; omega) (.bool false)
    rw [Exit.noGoto_ret]
    refine ⟨.tuple #[.int .u64 0, .bool false], ?_, by rw [HR.out]; rfl, hb5⟩
    simp [results, Try.f53, go_sem, hy6, hz6]
    try rfl
end Go.Proofs.Yteakeefocnjlhaa
