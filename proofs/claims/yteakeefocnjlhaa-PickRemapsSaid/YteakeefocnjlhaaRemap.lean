/- pick.Remap -/
import Derived.Test.YteakeefocnjlhaaMet
import Derived.Test.YteakeefocnjlhaaAMay2
namespace Go.Proofs.Yteakeefocnjlhaa
set_option linter.unusedSimpArgs false
set_option linter.unusedVariables false
open Go.RowKit Go.Shelf
attribute [local go_sem] Oper.semAt_some

theorem pieces_stops (F : Fence) (n : Nat) (h7 : F.fn 86) (hro : F.round = none) (hn : 1 ≤ n) (Bs B0 : Nat) (B : Nat → Prop) (A : Option Addr) (cap : Nat) (t : List GCell) (S to : Nat) (hl : t.length ≤ 1048576) (hS : S ≤ 2147483647) (hok : ∀ c ∈ t, c.cut.toNat ≤ S) (hto : to < 1048576) (w : World)
    (hBs : Bs + 2 < w.heap.size) (hnB : ∀ j, j < 3 → ¬ B (Bs + j)) (hBB : ∀ k, B k → B0 ≤ k) (hBW : ∀ k, B k → k < w.heap.size) (hB0 : B0 ≤ w.heap.size)
    (hc0 : w.cell? ⟨Bs, 0, none⟩ = some (.slice A t.length cap)) (hc1 : w.cell? ⟨Bs + 1, 0, none⟩ = some (.int .u64 (S : Int))) (hc2 : w.cell? ⟨Bs + 1 + 1, 0, none⟩ = some (.int .i64 (to : Int))) (hrow : ByC w B0 (.slice A t.length cap) t) :
    SeqStopsK F n Try.prog 86 #[.pointer (some ⟨Bs, 0, none⟩), .pointer (some ⟨Bs + 1, 0, none⟩), .pointer (some ⟨Bs + 1 + 1, 0, none⟩)] encP (Kp B) (fun ys => ys = pcs S to 0 t)
      (fun pre => pre <+: pcs S to 0 t) (pcs S to 0 t).length w := fun l J Jx W hW hJ _ hY h0 =>
  pieces1_in F n h7 hro hn l Bs B0 B A cap t S to hl hS hok hto J Jx hnB hBB hY W (fun k hk => Nat.lt_of_lt_of_le (hBW k hk) hW.size) hJ ((hW.cell (p := ⟨Bs, 0, none⟩) (by show Bs < _; omega)).trans hc0) ((hW.cell (p := ⟨Bs + 1, 0, none⟩) (by show Bs + 1 < _; omega)).trans hc1) ((hW.cell (p := ⟨Bs + 1 + 1, 0, none⟩) (by show Bs + 1 + 1 < _; omega)).trans hc2) (hrow.below (hW.mono hB0)) h0

/-- what the loop adds up, and where it ends -/
def ysum (y0 : Int) (pre : List (Nat × Nat)) : Int := pre.foldl (fun s p => IntKind.u64.wrap (s + (p.2 : Int))) y0
theorem ysum_snoc (y0 : Int) (pre : List (Nat × Nat)) (p : Nat × Nat) : ysum y0 (pre ++ [p]) = IntKind.u64.wrap (ysum y0 pre + (p.2 : Int)) := by simp [ysum]
def rmp (l : List GArc) (t : List GCell) (x : Nat) : Nat × Bool :=
  if (palias l t x).2 = true ∧ mayOk l t = true then (frontAt l (palias l t x).1 + metC (gsum l) t (palias l t x).1 x, true) else (0, false)
theorem palias_toP {l : List GArc} {t : List GCell} {x : Nat} (h : (palias l t x).2 = true) : toP (gsum l) t x = (palias l t x).1 := by
  by_cases hc : l.length = t.length ∧ x < ptotal l
  · obtain ⟨hg, hW0, hk, hW1⟩ := ptotal_pos hc.2
    have hk2 : x / gsum l < t.length := by omega
    rw [palias_yes hc.1 hc.2 hk2] at h ⊢
    unfold toP
    simp only [List.getElem?_eq_getElem hk2, Option.getD_some]
    split
    · rfl
    · rename_i h1
      rw [if_neg h1] at h
      split
      · rfl
      · rename_i h2
        rw [if_neg h2] at h
        cases h
  · rw [palias_no hc] at h; cases h
theorem pcs_b (S to : Nat) : ∀ (t : List GCell) (o : Nat), (∀ c ∈ t, c.cut.toNat ≤ S) → (∀ p ∈ pcs S to o t, p.1 + p.2 ≤ (o + t.length) * S) ∧ ((pcs S to o t).map (·.2)).sum ≤ t.length * S
  | [], o, _ => by simp [pcs]
  | c :: r, o, h => by
    have hc := h c (by simp)
    obtain ⟨ih1, ih2⟩ := pcs_b S to r (o + 1) fun c hc => h c (by simp [hc])
    have e1 : (o + (c :: r).length) * S = (o + 1 + r.length) * S := by rw [List.length_cons]; congr 1; omega
    have e2 : (o + 1) * S ≤ (o + 1 + r.length) * S := Nat.mul_le_mul (by omega) (Nat.le_refl _)
    have e3 : (o + 1) * S = o * S + S := Nat.succ_mul o S
    have e4 : (c :: r).length * S = r.length * S + S := by rw [List.length_cons, Nat.succ_mul]
    rw [e1, e4]
    refine ⟨fun p hp => ?_, ?_⟩
    · rw [pcs, pc1, List.mem_append, List.mem_append] at hp
      rcases hp with (hp | hp) | hp
      · unfold pcA at hp
        split at hp
        · simp at hp; subst hp; simp only; omega
        · simp at hp
      · unfold pcB at hp
        split at hp
        · simp at hp; subst hp; simp only; omega
        · simp at hp
      · exact ih1 p hp
    · rw [pcs, pc1, List.map_append, List.map_append, List.sum_append, List.sum_append]
      have hA : ((pcA S to o c).map (·.2)).sum ≤ c.cut.toNat := by
        unfold pcA; split <;> simp
      have hB : ((pcB S to o c).map (·.2)).sum ≤ S - c.cut.toNat := by
        unfold pcB; split <;> simp
      omega
theorem palias_lt {l : List GArc} {t : List GCell} {x : Nat} (h : (palias l t x).2 = true) : (palias l t x).1 < l.length ∧ x < ptotal l ∧ l.length = t.length := by
  by_cases hc : l.length = t.length ∧ x < ptotal l
  · refine ⟨?_, hc.2, hc.1⟩
    obtain ⟨hg, hW0, hk, hW1⟩ := ptotal_pos hc.2
    have hk2 : x / gsum l < t.length := by omega
    rw [palias_yes hc.1 hc.2 hk2] at h ⊢
    split
    · exact hk
    · rename_i h1
      rw [if_neg h1] at h
      split
      · assumption
      · rename_i h2
        rw [if_neg h2] at h
        cases h
  · rw [palias_no hc] at h; cases h
theorem mayOk_cut {l : List GArc} {t : List GCell} (h : mayOk l t = true) : ∀ c ∈ t, c.cut.toNat ≤ gsum l := by
  have hg : cgood (gsum l) t.length t = true := by
    cases hc : cgood (gsum l) t.length t with
    | true => rfl
    | false => rw [mayOk_no3 hc] at h; cases h
  intro c hc
  have := List.all_eq_true.1 hg c hc
  simp at this
  exact this.1
/-- what the program's test and sum say, is what is meant -/
theorem remap_none (x : Nat) : ∀ (ps : List (Nat × Nat)) (y : Nat), (∀ p ∈ ps, p.1 + p.2 < 18446744073709551616) → (∀ p ∈ ps, decide ((x : Int) < IntKind.u64.wrap ((p.1 : Int) + (p.2 : Int))) = false) → remapL y x ps = none
  | [], _, _, _ => rfl
  | p :: r, y, hb, h => by
    have h1 := h p (by simp)
    have h2 := hb p (by simp)
    have h3 : ¬ x < p.1 + p.2 := by
      rw [decide_eq_false_iff_not, wrap_u64] at h1
      omega
    rw [remapL, if_neg h3]
    exact remap_none x r _ (fun p hp => hb p (by simp [hp])) (fun p hp => h p (by simp [hp]))
theorem remap_some (x : Nat) : ∀ (ini : List (Nat × Nat)) (last : Nat × Nat) (rest : List (Nat × Nat)) (y : Nat), (∀ p ∈ ini ++ [last], p.1 + p.2 < 18446744073709551616) → y + ((ini.map (·.2)).sum) < 18446744073709551616 → (∀ p ∈ ini, decide ((x : Int) < IntKind.u64.wrap ((p.1 : Int) + (p.2 : Int))) = false) →
    decide ((x : Int) < IntKind.u64.wrap ((last.1 : Int) + (last.2 : Int))) = true → remapL y x (ini ++ [last] ++ rest) = (if last.1 ≤ x then some (y + (ini.map (·.2)).sum + (x - last.1)) else none) ∧ ysum (y : Int) ini = ((y + (ini.map (·.2)).sum : Nat) : Int)
  | [], last, rest, y, hb, hs, h, hl => by
    have h2 := hb last (by simp)
    have h3 : x < last.1 + last.2 := by
      rw [decide_eq_true_eq, wrap_u64] at hl
      omega
    simp [remapL, h3, ysum]
  | p :: r, last, rest, y, hb, hs, h, hl => by
    have h1 := h p (by simp)
    have h2 := hb p (by simp)
    have h3 : ¬ x < p.1 + p.2 := by
      rw [decide_eq_false_iff_not, wrap_u64] at h1
      omega
    simp only [List.map_cons, List.sum_cons] at hs ⊢
    have ih := remap_some x r last rest (y + p.2) (fun q hq => hb q (by simp at hq ⊢; rcases hq with hq | hq <;> simp [hq])) (by omega) (fun q hq => h q (by simp [hq])) hl
    simp only [List.cons_append]
    rw [remapL, if_neg h3, ih.1]
    refine ⟨by rw [show y + (p.2 + (List.map (fun x => x.2) r).sum) = y + p.2 + (List.map (fun x => x.2) r).sum from by omega], ?_⟩
    show ysum (IntKind.u64.wrap ((y : Int) + (p.2 : Int))) r = _
    rw [show IntKind.u64.wrap ((y : Int) + (p.2 : Int)) = ((y + p.2 : Nat) : Int) from by rw [wrap_u64]; omega, ih.2]
    omega

set_option maxRecDepth 100000 in
set_option maxHeartbeats 6400000 in
theorem remap_any (w : World) (B0 : Nat) (v v2 : Value) (l : List GArc) (t : List GCell) (x : Nat) (hx : x < 18446744073709551616) (hl : l.length ≤ 1048576) (ht : t.length ≤ 1048576) (h : ByA w B0 v l) (h2 : ByC w B0 v2 t) (hB : B0 ≤ w.heap.size) :
    Calls Try.prog 47 #[v, v2, .int .u64 (x : Int)] w fun e w' => e = .returned (.tuple #[.int .u64 ((rmp l t x).1 : Nat), .bool (rmp l t x).2]) ∧ Below w.heap.size w w' := by
  obtain ⟨A, c, rfl, hc1, hc2⟩ := h.form
  obtain ⟨A2, c2, rfl, hd1, hd2⟩ := h2.form
  unfold maxLen at hc2 hd2
  have hbx0 := BoxAt.new_ 26 w [.int .u64 (x : Int)]
  have hbx1 := hbx0.alloc (.cells #[.int .u64 0] 26)
  have hbx2 := hbx1.alloc (.cells #[.bool false] 4)
  have hby0 := BoxAt.new_ 26 (w.alloc (.cells #[.int .u64 (x : Int)] 26)) [.int .u64 0]
  have hby1 := hby0.alloc (.cells #[.bool false] 4)
  have hbz0 := BoxAt.new_ 4 ((w.alloc (.cells #[.int .u64 (x : Int)] 26)).alloc (.cells #[.int .u64 0] 26)) [.bool false]
  rw [World.size_alloc] at hby1
  rw [World.size_alloc, World.size_alloc] at hbz0
  have hb03 := bstep (bstep (balloc w (.cells #[.int .u64 (x : Int)] 26)) (balloc _ (.cells #[.int .u64 0] 26))) (balloc _ (.cells #[.bool false] 4))
  have hz3 : (((w.alloc (.cells #[.int .u64 (x : Int)] 26)).alloc (.cells #[.int .u64 0] 26)).alloc (.cells #[.bool false] 4)).heap.size = w.heap.size + 3 := by simp
  refine (callsIn_wide (n := 5)).1 ?_
  refine callsIn_of_wp_marks Try.func47 rfl trivial ?_ rfl
  simp only [Try.ntmps47, List.size_toArray, List.length_cons, List.length_nil, Nat.reduceAdd, Nat.reduceSub, Array.replicate_succ, Array.replicate_zero, List.push_toArray, List.append_toArray, List.nil_append, List.cons_append]
  gi_wp2
  generalize ((w.alloc (.cells #[.int .u64 (x : Int)] 26)).alloc (.cells #[.int .u64 0] 26)).alloc (.cells #[.bool false] 4) = w3 at *
  have hpa := palias_any w3 B0 B0 _ _ l t x hx (by omega) (by omega) (h.below (hb03.mono hB)) (h2.below (hb03.mono hB)) (by omega) (by omega)
  have Hpa := Lib.hid hpa
  have Hb03 := Lib.hid hb03
  have Hx2 := Lib.hid hbx2
  have Hy1 := Lib.hid hby1
  have Hz0 := Lib.hid hbz0
  have H1 := Lib.hid h
  have H2 := Lib.hid h2
  clear hpa hb03 hbx0 hbx1 hbx2 hby0 hby1 hbz0 h h2
  have hlt := @palias_lt l t x
  have htp := @palias_toP l t x
  have hrm : rmp l t x = if (palias l t x).2 = true ∧ mayOk l t = true then (frontAt l (palias l t x).1 + metC (gsum l) t (palias l t x).1 x, true) else (0, false) := rfl
  have Hlt := Lib.hid hlt
  have Htp := Lib.hid htp
  have Hrm := Lib.hid hrm
  clear hlt htp hrm
  generalize hRR : rmp l t x = R at *
  have HRR := Lib.hid hRR
  clear hRR
  generalize (palias l t x).1 = to at *
  generalize (palias l t x).2 = ok at *
  refine ⟨trivial, ?_⟩
  refine (callsIn_wide.2 Hpa.out).mono ?_
  rintro _ w4 ⟨rfl, hb4⟩
  have hb04 := Hb03.out.trans (hb4.mono (by omega))
  have hz4 := hb4.size
  have Hx4 := Lib.hid (Hx2.out.below (by omega) hb4)
  have Hy4 := Lib.hid (Hy1.out.below (by omega) hb4)
  have Hz4 := Lib.hid (Hz0.out.below (by omega) hb4)
  have Hb04 := Lib.hid hb04
  clear hb4 hb04 Hx2 Hy1 Hz0 Hb03 Hpa
  cases ok with
  | false =>
    have hR := Hrm.out
    rw [if_neg (by simp)] at hR
    have HR := Lib.hid hR
    have hy1 := Hy4.out.frozen 0
    have hz1 := Hz4.out.frozen 0
    have hy2 := Hy4.out.cell 0 _ rfl
    have hz2 := Hz4.out.cell 0 _ rfl
    clear hR
    gi_wp2
    refine ⟨trivial, ?_⟩
    gi_wp2
    have hy5 := (Hy4.out.put 0 (.int .u64 0)).other ⟨w.heap.size + 1 + 1, 0, none⟩ (.bool false) (by show w.heap.size + 1 + 1 ≠ w.heap.size + 1; omega)
    have hz5 := (Hz4.out.other ⟨w.heap.size + 1, 0, none⟩ (.int .u64 0) (by show w.heap.size + 1 ≠ w.heap.size + 1 + 1; omega)).put 0 (.bool false)
    have hy6 := hy5.cell 0 _ rfl
    have hz6 := hz5.cell 0 _ rfl
    have hb5 := (Hb04.out.setCell (p := ⟨w.heap.size + 1, 0, none⟩) (by show w.heap.size ≤ w.heap.size + 1; omega) (.int .u64 0)).setCell (p := ⟨w.heap.size + 1 + 1, 0, none⟩) (by show w.heap.size ≤ w.heap.size + 1 + 1; omega) (.bool false)
    refine ⟨.tuple #[.int .u64 0, .bool false], ?_, by rw [HRR.out, HR.out]; rfl, hb5⟩
    simp [results, Try.f47, go_sem, hy6, hz6]
    try rfl
  | true =>
    obtain ⟨hto, hxt, hlt⟩ := Hlt.out rfl
    have Htp1 := Lib.hid (Htp.out rfl)
    clear Hlt Htp
    obtain ⟨hgm, hW0, hk0, hW1⟩ := ptotal_pos hxt
    have Hpt : Hid (ptotal l = gsum l * l.length) := by show ptotal l = _; unfold ptotal; rw [if_pos hgm]
    have Hxt := Lib.hid hxt
    have Hlt := Lib.hid hlt
    clear hgm hk0 hxt hlt
    have hmy := amay_any w4 B0 B0 (.slice A l.length c) (.slice A2 t.length c2) l t (by omega) (by omega) (H1.out.below (Hb04.out.mono hB)) (H2.out.below (Hb04.out.mono hB)) (by omega) (by omega)
    have hcut := @mayOk_cut l t
    have Hcut := Lib.hid hcut
    have Hmy := Lib.hid hmy
    clear hmy hcut
    generalize mayOk l t = my at *
    gi_wp2
    refine ⟨trivial, ?_⟩
    refine (callsIn_wide.2 Hmy.out).mono ?_
    rintro _ w5 ⟨rfl, hb5⟩
    have hb05 := Hb04.out.trans (hb5.mono (by omega))
    have hz5 := hb5.size
    have Hx5 := Lib.hid (Hx4.out.below (by omega) hb5)
    have Hy5 := Lib.hid (Hy4.out.below (by omega) hb5)
    have Hz5 := Lib.hid (Hz4.out.below (by omega) hb5)
    have Hb05 := Lib.hid hb05
    clear hb5 hb05 Hx4 Hy4 Hz4 Hb04 Hmy
    cases my with
    | false =>
      have hR := Hrm.out
      rw [if_neg (by simp)] at hR
      have HR := Lib.hid hR
      have hy1 := Hy5.out.frozen 0
      have hz1 := Hz5.out.frozen 0
      have hy2 := Hy5.out.cell 0 _ rfl
      have hz2 := Hz5.out.cell 0 _ rfl
      clear hR
      gi_wp2
      have hy5 := (Hy5.out.put 0 (.int .u64 0)).other ⟨w.heap.size + 1 + 1, 0, none⟩ (.bool false) (by show w.heap.size + 1 + 1 ≠ w.heap.size + 1; omega)
      have hz5 := (Hz5.out.other ⟨w.heap.size + 1, 0, none⟩ (.int .u64 0) (by show w.heap.size + 1 ≠ w.heap.size + 1 + 1; omega)).put 0 (.bool false)
      have hy6 := hy5.cell 0 _ rfl
      have hz6 := hz5.cell 0 _ rfl
      have hb5 := (Hb05.out.setCell (p := ⟨w.heap.size + 1, 0, none⟩) (by show w.heap.size ≤ w.heap.size + 1; omega) (.int .u64 0)).setCell (p := ⟨w.heap.size + 1 + 1, 0, none⟩) (by show w.heap.size ≤ w.heap.size + 1 + 1; omega) (.bool false)
      refine ⟨.tuple #[.int .u64 0, .bool false], ?_, by rw [HRR.out, HR.out]; rfl, hb5⟩
      simp [results, Try.f47, go_sem, hy6, hz6]
      try rfl
    | true =>
      have hcut := Hcut.out rfl
      have Hcut2 := Lib.hid hcut
      clear hcut Hcut
      have hR := Hrm.out
      rw [if_pos (by simp)] at hR
      have HR := Lib.hid hR
      clear hR Hrm
      have hfr := front_any w5 B0 (.slice A l.length c) l to hto hl hW1 (H1.out.below (Hb05.out.mono hB)) (by omega)
      have Hfr := Lib.hid hfr
      clear hfr
      gi_wp2
      refine ⟨trivial, ?_⟩
      refine (callsIn_wide.2 Hfr.out).mono ?_
      rintro _ w6 ⟨rfl, hb6⟩
      have hb06 := Hb05.out.trans (hb6.mono (by omega))
      have hz6 := hb6.size
      have hx6 := Hx5.out.below (by omega) hb6
      have hy6 := Hy5.out.below (by omega) hb6
      have hz6b := Hz5.out.below (by omega) hb6
      have hf6 : frontAt l to ≤ 1048576 * 2147483647 := Nat.mul_le_mul hl (Nat.le_trans (gsum_take_le l to) hW1)
      have hqb := BoxAt.new_ 26 w6 [.int .u64 (frontAt l to : Nat)]
      have hba := balloc w6 (.cells #[.int .u64 (frontAt l to : Nat)] 26)
      have Hq7 := Lib.hid hqb
      have Hx7 := Lib.hid (hx6.alloc (.cells #[.int .u64 (frontAt l to : Nat)] 26))
      have Hy7 := Lib.hid (hy6.alloc (.cells #[.int .u64 (frontAt l to : Nat)] 26))
      have Hz7 := Lib.hid (hz6b.alloc (.cells #[.int .u64 (frontAt l to : Nat)] 26))
      have Hb07 := Lib.hid (hb06.trans (hba.mono (by omega)))
      clear hb6 hb06 hx6 hy6 hz6b hqb hba Hx5 Hy5 Hz5 Hb05 Hfr
      gi_wp2
      generalize hg6 : w6.heap.size = g6 at *
      have hz7 : (w6.alloc (.cells #[.int .u64 (frontAt l to : Nat)] 26)).heap.size = g6 + 1 := by simp [hg6]
      generalize w6.alloc (.cells #[.int .u64 (frontAt l to : Nat)] 26) = w7 at *
      refine ⟨trivial, ?_⟩
      refine (callsIn_wide.2 (gsum_any w7 B0 (.slice A l.length c) l (by omega) (H1.out.below (Hb07.out.mono hB)) (by omega))).mono ?_
      rintro _ w8 ⟨rfl, hb8⟩
      have hz8 := hb8.size
      have hx8 := Hx7.out.below (by omega) hb8
      have hy8 := Hy7.out.below (by omega) hb8
      have hz8b := Hz7.out.below (by omega) hb8
      have hq8 := Hq7.out.below (by omega) hb8
      have hb08 := Hb07.out.trans (hb8.mono (by omega))
      have Hx8 := Lib.hid hx8
      have Hy8 := Lib.hid hy8
      have Hz8 := Lib.hid hz8b
      have Hq8 := Lib.hid hq8
      have Hb08 := Lib.hid hb08
      clear hx8 hy8 hz8b hq8 hb08 hb8 Hx7 Hy7 Hz7 Hq7 Hb07
      gi_wp2
      refine ⟨trivial, ?_⟩
      refine (pieces_in Fence.wide 4 trivial rfl _ _ _ _ _ _).mono ?_
      rintro _ _ ⟨rfl, rfl⟩
      gi_wp2
      have hp0 := BoxAt.new_ 67 w8 [.slice A2 t.length c2]
      have hp1 := BoxAt.new_ 26 (w8.alloc (.cells #[.slice A2 t.length c2] 67)) [.int .u64 (gsum l : Nat)]
      have hp2 := BoxAt.new_ 3 ((w8.alloc (.cells #[.slice A2 t.length c2] 67)).alloc (.cells #[.int .u64 (gsum l : Nat)] 26)) [.int .i64 (to : Int)]
      rw [World.size_alloc] at hp1
      rw [World.size_alloc, World.size_alloc] at hp2
      have hp0' := (hp0.alloc (.cells #[.int .u64 (gsum l : Nat)] 26)).alloc (.cells #[.int .i64 (to : Int)] 3)
      have hp1' := hp1.alloc (.cells #[.int .i64 (to : Int)] 3)
      have hba9 := bstep (bstep (balloc w8 (.cells #[.slice A2 t.length c2] 67)) (balloc _ (.cells #[.int .u64 (gsum l : Nat)] 26))) (balloc _ (.cells #[.int .i64 (to : Int)] 3))
      have hz9 : (((w8.alloc (.cells #[.slice A2 t.length c2] 67)).alloc (.cells #[.int .u64 (gsum l : Nat)] 26)).alloc (.cells #[.int .i64 (to : Int)] 3)).heap.size = w8.heap.size + 3 := by simp
      have hx9 := ((Hx8.out.alloc (.cells #[.slice A2 t.length c2] 67)).alloc (.cells #[.int .u64 (gsum l : Nat)] 26)).alloc (.cells #[.int .i64 (to : Int)] 3)
      have hy9 := ((Hy8.out.alloc (.cells #[.slice A2 t.length c2] 67)).alloc (.cells #[.int .u64 (gsum l : Nat)] 26)).alloc (.cells #[.int .i64 (to : Int)] 3)
      have hz9b := ((Hz8.out.alloc (.cells #[.slice A2 t.length c2] 67)).alloc (.cells #[.int .u64 (gsum l : Nat)] 26)).alloc (.cells #[.int .i64 (to : Int)] 3)
      have hq9 := ((Hq8.out.alloc (.cells #[.slice A2 t.length c2] 67)).alloc (.cells #[.int .u64 (gsum l : Nat)] 26)).alloc (.cells #[.int .i64 (to : Int)] 3)
      have hb09 := Hb08.out.trans (hba9.mono (by omega))
      generalize ((w8.alloc (.cells #[.slice A2 t.length c2] 67)).alloc (.cells #[.int .u64 (gsum l : Nat)] 26)).alloc (.cells #[.int .i64 (to : Int)] 3) = w9 at *
      generalize hg8 : w8.heap.size = g8 at *
      have hc0 := hp0'.cell 0 _ rfl
      have hc1' := hp1'.cell 0 _ rfl
      have hc2' := hp2.cell 0 _ rfl
      have Hx9 := Lib.hid hx9
      have Hy9 := Lib.hid hy9
      have Hz9 := Lib.hid hz9b
      have Hq9 := Lib.hid hq9
      have Hb09 := Lib.hid hb09
      clear hp0 hp1 hp2 hp0' hp1' hba9 hx9 hy9 hz9b hq9 hb09 Hx8 Hy8 Hz8 Hq8 Hb08
      refine wpIn_rangeFunc_ownH rfl (by omega) (gf := 86) (lb := #[.pointer (some ⟨g8, 0, none⟩), .pointer (some ⟨g8 + 1, 0, none⟩), .pointer (some ⟨g8 + 1 + 1, 0, none⟩)]) rfl trivial (enters_of Try.func86 (by kernel_rfl) rfl)
        (pieces_stops Fence.wide 4 trivial rfl (by omega) g8 B0 (fun k => k = g6) A2 c2 t (gsum l) to (by omega) hW1 Hcut2.out (by omega) w9 (by omega) (fun j hj => by omega) (by rintro k rfl; omega) (by rintro k rfl; omega) (by omega) hc0 hc1' hc2' (H2.out.below (Hb09.out.mono hB))) Kp.trans (fun W l o o' h1 h2 h3 h4 => Kp.putObj _ w9.heap.size W l o o' h1 h2 h3 h4) (Below.refl _ _) (fun _ => rfl)
        (fun pre W => ((∀ p ∈ pre, decide ((x : Int) < IntKind.u64.wrap ((p.1 : Int) + (p.2 : Int))) = false) ∧ BoxAt 26 W g6 [.int .u64 (ysum (frontAt l to : Nat) pre)] ∧ BoxAt 26 W w.heap.size [.int .u64 (x : Int)] ∧ BoxAt 26 W (w.heap.size + 1) [.int .u64 0] ∧ BoxAt 4 W (w.heap.size + 1 + 1) [.bool false] ∧ w9.heap.size ≤ W.heap.size) ∧ Below w.heap.size w W)
        (fun cd pre W => (cd = .ret ∧ ∃ ini last, pre = ini ++ [last] ∧ (∀ p ∈ ini, decide ((x : Int) < IntKind.u64.wrap ((p.1 : Int) + (p.2 : Int))) = false) ∧ decide ((x : Int) < IntKind.u64.wrap ((last.1 : Int) + (last.2 : Int))) = true ∧ BoxAt 26 W (w.heap.size + 1) [.int .u64 (IntKind.u64.wrap (IntKind.u64.wrap (ysum (frontAt l to : Nat) ini + (x : Int)) - (last.1 : Int)))] ∧ BoxAt 4 W (w.heap.size + 1 + 1) [.bool true]) ∧ Below w.heap.size w W)
        (OwnFrom.and (Own.from (fun s X Y row hs hg hr => ⟨hs.1, hs.2.1.ownk hg hr, hs.2.2.1.ownk hg hr, hs.2.2.2.1.ownk hg hr, hs.2.2.2.2.1.ownk hg hr, Nat.le_trans hs.2.2.2.2.2 hg.size⟩) _) (ownFrom_below (Nat.le_refl _) (by omega)))
        (fun cd => OwnFrom.and (Own.from (fun s X Y row hs hg hr => by obtain ⟨e0, ini, last, e1, e2, e3, e4, e5⟩ := hs; exact ⟨e0, ini, last, e1, e2, e3, e4.ownk hg hr, e5.ownk hg hr⟩) _) (ownFrom_below (Nat.le_refl _) (by omega)))
        ⟨⟨by simp, Hq9.out, Hx9.out, Hy9.out, Hz9.out, Nat.le_refl _⟩, Hb09.out⟩
        (fun p a' W => ∃ Bx, w9.heap.size ≤ Bx ∧ BoxAt 107 W Bx [.int .u64 (p.1 : Int), .int .u64 (p.2 : Int)] ∧ a' = { tmps := #[.slice A l.length c, .slice A2 t.length c2, .int .u64 (x : Int), undef, undef, .pointer (some ⟨w.heap.size, 0, none⟩), .pointer (some ⟨w.heap.size + 1, 0, none⟩), .pointer (some ⟨w.heap.size + 1 + 1, 0, none⟩), .int .i64 (to : Int), .bool true, .pointer (some ⟨g6, 0, none⟩), .pointer (some ⟨Bx, 0, none⟩),
          .tuple #[.int .i64 (to : Int), .bool true], .slice A l.length c, .slice A2 t.length c2, .int .u64 (x : Int), .tuple #[.int .i64 (to : Int), .bool true], .int .i64 (to : Int), .bool true, .bool true, .bool false, .bool false, .slice A l.length c, .slice A2 t.length c2, .bool true, .bool false, .bool false, .slice A l.length c, .int .i64 (to : Int),
          .int .u64 (frontAt l to : Nat), .slice A2 t.length c2, .slice A l.length c, .int .u64 (gsum l : Nat), .int .i64 (to : Int), .func (.func 86) #[] #[.pointer (some ⟨g8, 0, none⟩), .pointer (some ⟨g8 + 1, 0, none⟩), .pointer (some ⟨g8 + 1 + 1, 0, none⟩)], .agg #[.int .u64 (p.1 : Int), .int .u64 (p.2 : Int)],
          undef, undef, undef, undef, undef, undef, undef, undef, undef, undef, undef, undef, undef, undef, undef, undef, undef], defers := [] })
        (fun p a' _ X Y row hs hg hr => by obtain ⟨Bx, h1, h2, h3⟩ := hs; exact ⟨Bx, h1, h2.ownk hg (fun r e => (hr r e).2), h3⟩)
        ?assign ?body ?done ?stop
      case assign =>
        rintro lq pre p W K ⟨⟨i1, i2, i3, i4, i5, i6⟩, hBW⟩ hK
        dsimp only [encP]
        gi_wp2
        exact hK _ _ ((KeepsOthers.alloc _ _).from _) (Kp.alloc _ _ _) ⟨⟨i1, i2.alloc _, i3.alloc _, i4.alloc _, i5.alloc _, by simp; omega⟩, hBW.alloc hBW.size _⟩ ⟨W.heap.size, i6, BoxAt.new_ 107 W _, rfl⟩
      case body =>
        rintro lq pre p a' W hlq hr0 ⟨⟨i1, i2, i3, i4, i5, i6⟩, hBW⟩ ⟨Bx, hBx, bX, rfl⟩ hlt
        have hx0 := i3.cell 0 _ rfl
        have hp0 := bX.cell 0 _ rfl
        have hp1 := bX.cell 1 _ rfl
        have hq0 := i2.cell 0 _ rfl
        have hqf := i2.frozen 0
        have hy0 := i4.cell 0 _ rfl
        have hyf := i4.frozen 0
        have hz0 := i5.cell 0 _ rfl
        have hzf := i5.frozen 0
        have hss := ysum_snoc (frontAt l to : Nat) pre p
        have Hss := Lib.hid hss
        have I1 := Lib.hid i1
        clear hss i1
        generalize hys : ysum (frontAt l to : Nat) pre = ys at *
        have Hys := Lib.hid hys
        clear hys
        cases hd : decide ((x : Int) < IntKind.u64.wrap ((p.1 : Int) + (p.2 : Int))) with
        | true =>
          have Hd := Lib.hid hd
          gi_wp2
          refine ⟨((KeepsOthers.setCell _ _ _).trans (KeepsOthers.setCell _ _ _)).from _, ⟨rfl, pre, p, rfl, I1.out, Hd.out, ?_, ?_⟩, ?_⟩
          · rw [Hys.out]
            exact (i4.put 0 _).other _ _ (by show w.heap.size + 1 + 1 ≠ w.heap.size + 1; omega)
          · exact (i5.other _ _ (by show w.heap.size + 1 ≠ w.heap.size + 1 + 1; omega)).put 0 _
          · exact (hBW.setCell (p := ⟨w.heap.size + 1, 0, none⟩) (by show w.heap.size ≤ w.heap.size + 1; omega) _).setCell (p := ⟨w.heap.size + 1 + 1, 0, none⟩) (by show w.heap.size ≤ w.heap.size + 1 + 1; omega) _
        | false =>
          have Hd := Lib.hid hd
          gi_wp2
          refine ⟨(KeepsOthers.setCell _ _ _).from _, Kp.set _ _ _ rfl, ⟨fun q hq => ?_, ?_, i3.other _ _ (by show g6 ≠ w.heap.size; omega), i4.other _ _ (by show g6 ≠ w.heap.size + 1; omega), i5.other _ _ (by show g6 ≠ w.heap.size + 1 + 1; omega), by simp [World.setCell]; exact i6⟩, hBW.setCell (p := ⟨g6, 0, none⟩) (by show w.heap.size ≤ g6; omega) _⟩
          · rw [List.mem_append, List.mem_singleton] at hq
            rcases hq with hq | rfl
            · exact I1.out q hq
            · exact Hd.out
          · rw [Hss.out]; exact i2.put 0 _
      case done =>
        rintro D ys W hD rfl ⟨⟨i1, i2, i3, i4, i5, i6⟩, hBW⟩ hK
        exfalso
        have hrl := remapL_at (gsum l) to t Hcut2.out (frontAt l to) x Htp1.out (by rw [← Hlt.out, ← Hpt.out]; exact Hxt.out) t.length 0 (by omega) (by omega)
        rw [List.drop_zero] at hrl
        obtain ⟨b1, b2⟩ := pcs_b (gsum l) to t 0 Hcut2.out
        have hb : (0 + t.length) * gsum l ≤ 1048576 * 2147483647 := Nat.mul_le_mul (by omega) hW1
        rw [remap_none x _ _ (fun p hp => by have := b1 p hp; omega) i1] at hrl
        cases hrl
      case stop =>
        rintro D cd pre W hD ⟨rest, hpre⟩ ⟨⟨rfl, ini, last, e1, e2, e3, e4, e5⟩, hBW⟩ hK
        subst e1
        have hrl := remapL_at (gsum l) to t Hcut2.out (frontAt l to) x Htp1.out (by rw [← Hlt.out, ← Hpt.out]; exact Hxt.out) t.length 0 (by omega) (by omega)
        rw [List.drop_zero, Nat.mul_zero] at hrl
        obtain ⟨b1, b2⟩ := pcs_b (gsum l) to t 0 Hcut2.out
        have hb : (0 + t.length) * gsum l ≤ 1048576 * 2147483647 := Nat.mul_le_mul (by omega) hW1
        have hb' : t.length * gsum l ≤ 1048576 * 2147483647 := Nat.mul_le_mul (by omega) hW1
        rw [← hpre] at hrl b1 b2
        rw [List.map_append, List.map_append, List.sum_append, List.sum_append] at b2
        obtain ⟨h5, h6⟩ := remap_some x ini last rest (frontAt l to) (fun p hp => by have := b1 p (List.mem_append_left _ hp); omega) (by omega) e2 e3
        have hm0 : metC (gsum l) t to 0 = 0 := rfl
        rw [hm0, Nat.add_zero, h5] at hrl
        rw [h6] at e4
        split at hrl
        · rename_i hle
          have h7 := Option.some.inj hrl
          have hml := metC_le (gsum l) t to x
          have hxl : x < 1048576 * 2147483647 := by
            have h8 := Hxt.out
            rw [Hpt.out] at h8
            have : gsum l * l.length ≤ 2147483647 * 1048576 := Nat.mul_le_mul hW1 hl
            omega
          have hval : IntKind.u64.wrap (IntKind.u64.wrap (((frontAt l to + (ini.map (·.2)).sum : Nat) : Int) + (x : Int)) - (last.1 : Int)) = ((frontAt l to + metC (gsum l) t to x : Nat) : Int) := by
            rw [wrap_u64, wrap_u64]; omega
          rw [hval] at e4
          have hy0 := e4.cell 0 _ rfl
          have hz0 := e5.cell 0 _ rfl
          have HB := Lib.hid hBW
          clear e2 e3 e4 e5 h5 h6 h7 hrl b1 b2 hpre hBW hval
          gi_wp2
          refine ⟨by simp, .inl ⟨_, _, rfl, run_takeDeferred hK, ?_⟩⟩
          have hy5 := cell_kept hy0 (grownBy_putObj' _ D (.deferred none)) (fun r e => by cases e; exact ⟨_, hK, rfl⟩)
          have hz5 := cell_kept hz0 (grownBy_putObj' _ D (.deferred none)) (fun r e => by cases e; exact ⟨_, hK, rfl⟩)
          refine ⟨.tuple #[.int .u64 ((frontAt l to + metC (gsum l) t to x : Nat) : Int), .bool true], ?_, by rw [HRR.out, HR.out], HB.out.trans (belowK_b (w := w) (Nat.le_refl _) W D _ _ (by omega) hK rfl rfl)⟩
          simp [results, Try.f47, go_sem, hy5, hz5]
          try rfl
        · cases hrl
end Go.Proofs.Yteakeefocnjlhaa
