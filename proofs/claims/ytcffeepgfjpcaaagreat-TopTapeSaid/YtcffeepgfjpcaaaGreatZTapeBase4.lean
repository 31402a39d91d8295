/- Lemmas for the law TapeBase: pick.Remap; walks.candidate; bias.Scale, Weight, Accepts; walks.takes (printed by wip/gen/toptakes.py); the plain form of a walk; what the statements of layer 17 ask (plain); pick.Back; a draw is told back from its number (plain); gaps.Find: the binary search; a vertex' row in a graph (printed by wip/gen/topfind.py); facts of a walk's tries; palmerref15.New: the error of rows; palmerref14.Same, palmerref15.Arcs, palmerref23.Few, gap; A call within a region of the mixed law.; Manifests: how one lies in memory; what came in.; page.Many and the document's Many are one function of the size. No condition.; Manifests, in plain: their bytes; which may be.; palmerref09: among, Great (printed by wip/gen/man1.py); []byte(s): a conversion of a string to bytes.; palmerref09.Body and manifest.body: a manifest's bytes (printed by wip/gen/manw.py); palmerref09.file, palmerref09.May (printed by wip/gen/manf.py); palmerref09.May; Sets (maps to struct{}); manifest.right (printed by wip/gen/manm.py); append(b, s...): a string's bytes behind an own row.; manifest.body (printed by wip/gen/manb.py); append(s, make([]byte, n)...) onto an own row of bytes. No condition beyond the size.; a Section in memory: a block of two cells; frame.Put, frame.Get compute what the plain functions say; manifest.May (printed by wip/gen/mann.py); What is read of a manifest's bytes, plainly; how a manifest that is being read lies in memory; Disks: the document's, in plain, and that it agrees with the program's.; The d. No condition. -/
import Derived.Test.YtcffeepgfjpcaaaGreatZTapeBase3
import Derived.WalkMore
import Derived.Laws.EntriesVeiled
import Derived.BigQuiet
import Derived.Deep.Cut
import Derived.Lib.ConvBytes
import Derived.Maps.OwnSet
import Derived.Lib.AppendStr
import Derived.Lib.AppendZerosOnto
import Derived.Deep.WholeRow
import Derived.Carry
import Derived.Deep.LoopGhost
import Derived.Shelf.SlGeneric
import Derived.Ground.SlsfProg
import Derived.Shelf.SlSortCmp.Whole1
import Derived.Test.YtcffeepgfjpcaaaGreatProg
import Derived.Lib.BytesEntry
import Derived.Laws.Externs
namespace Go.Proofs.YtcffeepgfjpcaaaGreat
set_option linter.unusedSimpArgs false
set_option linter.unusedVariables false
open Go.RowKit Go.Shelf
attribute [local go_sem] Oper.semAt_some

theorem pieces_stops (F : Fence) (n : Nat) (h7 : F.fn 81) (hro : F.round = none) (hn : 1 ≤ n) (Bs B0 : Nat) (B : Nat → Prop) (A : Option Addr) (cap : Nat) (t : List GCell) (S to : Nat) (hl : t.length ≤ 1048576) (hS : S ≤ 2147483647) (hok : ∀ c ∈ t, c.cut.toNat ≤ S) (hto : to < 1048576) (w : World)
    (hBs : Bs + 2 < w.heap.size) (hnB : ∀ j, j < 3 → ¬ B (Bs + j)) (hBB : ∀ k, B k → B0 ≤ k) (hBW : ∀ k, B k → k < w.heap.size) (hB0 : B0 ≤ w.heap.size)
    (hc0 : w.cell? ⟨Bs, 0, none⟩ = some (.slice A t.length cap)) (hc1 : w.cell? ⟨Bs + 1, 0, none⟩ = some (.int .u64 (S : Int))) (hc2 : w.cell? ⟨Bs + 1 + 1, 0, none⟩ = some (.int .i64 (to : Int))) (hrow : ByC w B0 (.slice A t.length cap) t) :
    SeqStopsK F n Tryz.prog 81 #[.pointer (some ⟨Bs, 0, none⟩), .pointer (some ⟨Bs + 1, 0, none⟩), .pointer (some ⟨Bs + 1 + 1, 0, none⟩)] encP (Kp B) (fun ys => ys = pcs S to 0 t)
      (fun pre => pre <+: pcs S to 0 t) (pcs S to 0 t).length w := fun l J Jx W hW hJ _ hY h0 =>
  pieces1_in F n h7 hro hn l Bs B0 B A cap t S to hl hS hok hto J Jx hnB hBB hY W (fun k hk => Nat.lt_of_lt_of_le (hBW k hk) hW.size) hJ ((hW.cell (p := ⟨Bs, 0, none⟩) (by show Bs < _; omega)).trans hc0) ((hW.cell (p := ⟨Bs + 1, 0, none⟩) (by show Bs + 1 < _; omega)).trans hc1) ((hW.cell (p := ⟨Bs + 1 + 1, 0, none⟩) (by show Bs + 1 + 1 < _; omega)).trans hc2) (hrow.below (hW.mono hB0)) h0

/-- what the loop adds up, and where it ends -/
def ysum (y0 : Int) (pre : List (Nat × Nat)) : Int := pre.foldl (fun s p => IntKind.u64.wrap (s + (p.2 : Int))) y0
theorem ysum_snoc (y0 : Int) (pre : List (Nat × Nat)) (p : Nat × Nat) : ysum y0 (pre ++ [p]) = IntKind.u64.wrap (ysum y0 pre + (p.2 : Int)) := by simp [ysum]
def rmp (l : List GArc) (t : List GCell) (x : Nat) : Nat × Bool :=
  if (palias l t x).2 = true ∧ mayOk l t = true then (frontAt l (palias l t x).1 + metC (gsum l) t (palias l t x).1 x, true) else (0, false)
theorem palias_toP {l : List GArc} {t : List GCell} {x : Nat} (h : (palias l t x).2 = true) : toP (gsum l) t x = (palias l t x).1 := by
  by_cases hc : l.length = t.length ∧ x < ptotal l
  · obtain ⟨hg, hW0, hk, hW1⟩ := ptotal_pos hc.2
    have hk2 : x / gsum l < t.length := by omega
    rw [palias_yes hc.1 hc.2 hk2] at h ⊢
    unfold toP
    simp only [List.getElem?_eq_getElem hk2, Option.getD_some]
    split
    · rfl
    · rename_i h1
      rw [if_neg h1] at h
      split
      · rfl
      · rename_i h2
        rw [if_neg h2] at h
        cases h
  · rw [palias_no hc] at h; cases h
theorem pcs_b (S to : Nat) : ∀ (t : List GCell) (o : Nat), (∀ c ∈ t, c.cut.toNat ≤ S) → (∀ p ∈ pcs S to o t, p.1 + p.2 ≤ (o + t.length) * S) ∧ ((pcs S to o t).map (·.2)).sum ≤ t.length * S
  | [], o, _ => by simp [pcs]
  | c :: r, o, h => by
    have hc := h c (by simp)
    obtain ⟨ih1, ih2⟩ := pcs_b S to r (o + 1) fun c hc => h c (by simp [hc])
    have e1 : (o + (c :: r).length) * S = (o + 1 + r.length) * S := by rw [List.length_cons]; congr 1; omega
    have e2 : (o + 1) * S ≤ (o + 1 + r.length) * S := Nat.mul_le_mul (by omega) (Nat.le_refl _)
    have e3 : (o + 1) * S = o * S + S := Nat.succ_mul o S
    have e4 : (c :: r).length * S = r.length * S + S := by rw [List.length_cons, Nat.succ_mul]
    rw [e1, e4]
    refine ⟨fun p hp => ?_, ?_⟩
    · rw [pcs, pc1, List.mem_append, List.mem_append] at hp
      rcases hp with (hp | hp) | hp
      · unfold pcA at hp
        split at hp
        · simp at hp; subst hp; simp only; omega
        · simp at hp
      · unfold pcB at hp
        split at hp
        · simp at hp; subst hp; simp only; omega
        · simp at hp
      · exact ih1 p hp
    · rw [pcs, pc1, List.map_append, List.map_append, List.sum_append, List.sum_append]
      have hA : ((pcA S to o c).map (·.2)).sum ≤ c.cut.toNat := by
        unfold pcA; split <;> simp
      have hB : ((pcB S to o c).map (·.2)).sum ≤ S - c.cut.toNat := by
        unfold pcB; split <;> simp
      omega
theorem palias_lt {l : List GArc} {t : List GCell} {x : Nat} (h : (palias l t x).2 = true) : (palias l t x).1 < l.length ∧ x < ptotal l ∧ l.length = t.length := by
  by_cases hc : l.length = t.length ∧ x < ptotal l
  · refine ⟨?_, hc.2, hc.1⟩
    obtain ⟨hg, hW0, hk, hW1⟩ := ptotal_pos hc.2
    have hk2 : x / gsum l < t.length := by omega
    rw [palias_yes hc.1 hc.2 hk2] at h ⊢
    split
    · exact hk
    · rename_i h1
      rw [if_neg h1] at h
      split
      · assumption
      · rename_i h2
        rw [if_neg h2] at h
        cases h
  · rw [palias_no hc] at h; cases h
theorem mayOk_cut {l : List GArc} {t : List GCell} (h : mayOk l t = true) : ∀ c ∈ t, c.cut.toNat ≤ gsum l := by
  have hg : cgood (gsum l) t.length t = true := by
    cases hc : cgood (gsum l) t.length t with
    | true => rfl
    | false => rw [mayOk_no3 hc] at h; cases h
  intro c hc
  have := List.all_eq_true.1 hg c hc
  simp at this
  exact this.1
/-- what the program's test and sum say, is what is meant -/
theorem remap_none (x : Nat) : ∀ (ps : List (Nat × Nat)) (y : Nat), (∀ p ∈ ps, p.1 + p.2 < 18446744073709551616) → (∀ p ∈ ps, decide ((x : Int) < IntKind.u64.wrap ((p.1 : Int) + (p.2 : Int))) = false) → remapL y x ps = none
  | [], _, _, _ => rfl
  | p :: r, y, hb, h => by
    have h1 := h p (by simp)
    have h2 := hb p (by simp)
    have h3 : ¬ x < p.1 + p.2 := by
      rw [decide_eq_false_iff_not, wrap_u64] at h1
      omega
    rw [remapL, if_neg h3]
    exact remap_none x r _ (fun p hp => hb p (by simp [hp])) (fun p hp => h p (by simp [hp]))
theorem remap_some (x : Nat) : ∀ (ini : List (Nat × Nat)) (last : Nat × Nat) (rest : List (Nat × Nat)) (y : Nat), (∀ p ∈ ini ++ [last], p.1 + p.2 < 18446744073709551616) → y + ((ini.map (·.2)).sum) < 18446744073709551616 → (∀ p ∈ ini, decide ((x : Int) < IntKind.u64.wrap ((p.1 : Int) + (p.2 : Int))) = false) →
    decide ((x : Int) < IntKind.u64.wrap ((last.1 : Int) + (last.2 : Int))) = true → remapL y x (ini ++ [last] ++ rest) = (if last.1 ≤ x then some (y + (ini.map (·.2)).sum + (x - last.1)) else none) ∧ ysum (y : Int) ini = ((y + (ini.map (·.2)).sum : Nat) : Int)
  | [], last, rest, y, hb, hs, h, hl => by
    have h2 := hb last (by simp)
    have h3 : x < last.1 + last.2 := by
      rw [decide_eq_true_eq, wrap_u64] at hl
      omega
    simp [remapL, h3, ysum]
  | p :: r, last, rest, y, hb, hs, h, hl => by
    have h1 := h p (by simp)
    have h2 := hb p (by simp)
    have h3 : ¬ x < p.1 + p.2 := by
      rw [decide_eq_false_iff_not, wrap_u64] at h1
      omega
    simp only [List.map_cons, List.sum_cons] at hs ⊢
    have ih := remap_some x r last rest (y + p.2) (fun q hq => hb q (by simp at hq ⊢; rcases hq with hq | hq <;> simp [hq])) (by omega) (fun q hq => h q (by simp [hq])) hl
    simp only [List.cons_append]
    rw [remapL, if_neg h3, ih.1]
    refine ⟨by rw [show y + (p.2 + (List.map (fun x => x.2) r).sum) = y + p.2 + (List.map (fun x => x.2) r).sum from by omega], ?_⟩
    show ysum (IntKind.u64.wrap ((y : Int) + (p.2 : Int))) r = _
    rw [show IntKind.u64.wrap ((y : Int) + (p.2 : Int)) = ((y + p.2 : Nat) : Int) from by rw [wrap_u64]; omega, ih.2]
    omega

set_option maxRecDepth 100000 in
set_option maxHeartbeats 6400000 in
theorem remap_any (w : World) (B0 : Nat) (v v2 : Value) (l : List GArc) (t : List GCell) (x : Nat) (hx : x < 18446744073709551616) (hl : l.length ≤ 1048576) (ht : t.length ≤ 1048576) (h : ByA w B0 v l) (h2 : ByC w B0 v2 t) (hB : B0 ≤ w.heap.size) :
    Calls Tryz.prog 25 #[v, v2, .int .u64 (x : Int)] w fun e w' => e = .returned (.tuple #[.int .u64 ((rmp l t x).1 : Nat), .bool (rmp l t x).2]) ∧ Below w.heap.size w w' := by
  obtain ⟨A, c, rfl, hc1, hc2⟩ := h.form
  obtain ⟨A2, c2, rfl, hd1, hd2⟩ := h2.form
  unfold maxLen at hc2 hd2
  have hbx0 := BoxAt.new_ 23 w [.int .u64 (x : Int)]
  have hbx1 := hbx0.alloc (.cells #[.int .u64 0] 23)
  have hbx2 := hbx1.alloc (.cells #[.bool false] 4)
  have hby0 := BoxAt.new_ 23 (w.alloc (.cells #[.int .u64 (x : Int)] 23)) [.int .u64 0]
  have hby1 := hby0.alloc (.cells #[.bool false] 4)
  have hbz0 := BoxAt.new_ 4 ((w.alloc (.cells #[.int .u64 (x : Int)] 23)).alloc (.cells #[.int .u64 0] 23)) [.bool false]
  rw [World.size_alloc] at hby1
  rw [World.size_alloc, World.size_alloc] at hbz0
  have hb03 := bstep (bstep (balloc w (.cells #[.int .u64 (x : Int)] 23)) (balloc _ (.cells #[.int .u64 0] 23))) (balloc _ (.cells #[.bool false] 4))
  have hz3 : (((w.alloc (.cells #[.int .u64 (x : Int)] 23)).alloc (.cells #[.int .u64 0] 23)).alloc (.cells #[.bool false] 4)).heap.size = w.heap.size + 3 := by simp
  refine (callsIn_wide (n := 5)).1 ?_
  refine callsIn_of_wp_marks Tryz.func25 rfl trivial ?_ rfl
  simp only [Tryz.ntmps25, List.size_toArray, List.length_cons, List.length_nil, Nat.reduceAdd, Nat.reduceSub, Array.replicate_succ, Array.replicate_zero, List.push_toArray, List.append_toArray, List.nil_append, List.cons_append]
  gi_wp2
  generalize ((w.alloc (.cells #[.int .u64 (x : Int)] 23)).alloc (.cells #[.int .u64 0] 23)).alloc (.cells #[.bool false] 4) = w3 at *
  have hpa := palias_any w3 B0 B0 _ _ l t x hx (by omega) (by omega) (h.below (hb03.mono hB)) (h2.below (hb03.mono hB)) (by omega) (by omega)
  have Hpa := Lib.hid hpa
  have Hb03 := Lib.hid hb03
  have Hx2 := Lib.hid hbx2
  have Hy1 := Lib.hid hby1
  have Hz0 := Lib.hid hbz0
  have H1 := Lib.hid h
  have H2 := Lib.hid h2
  clear hpa hb03 hbx0 hbx1 hbx2 hby0 hby1 hbz0 h h2
  have hlt := @palias_lt l t x
  have htp := @palias_toP l t x
  have hrm : rmp l t x = if (palias l t x).2 = true ∧ mayOk l t = true then (frontAt l (palias l t x).1 + metC (gsum l) t (palias l t x).1 x, true) else (0, false) := rfl
  have Hlt := Lib.hid hlt
  have Htp := Lib.hid htp
  have Hrm := Lib.hid hrm
  clear hlt htp hrm
  generalize hRR : rmp l t x = R at *
  have HRR := Lib.hid hRR
  clear hRR
  generalize (palias l t x).1 = to at *
  generalize (palias l t x).2 = ok at *
  refine ⟨trivial, ?_⟩
  refine (callsIn_wide.2 Hpa.out).mono ?_
  rintro _ w4 ⟨rfl, hb4⟩
  have hb04 := Hb03.out.trans (hb4.mono (by omega))
  have hz4 := hb4.size
  have Hx4 := Lib.hid (Hx2.out.below (by omega) hb4)
  have Hy4 := Lib.hid (Hy1.out.below (by omega) hb4)
  have Hz4 := Lib.hid (Hz0.out.below (by omega) hb4)
  have Hb04 := Lib.hid hb04
  clear hb4 hb04 Hx2 Hy1 Hz0 Hb03 Hpa
  cases ok with
  | false =>
    have hR := Hrm.out
    rw [if_neg (by simp)] at hR
    have HR := Lib.hid hR
    have hy1 := Hy4.out.frozen 0
    have hz1 := Hz4.out.frozen 0
    have hy2 := Hy4.out.cell 0 _ rfl
    have hz2 := Hz4.out.cell 0 _ rfl
    clear hR
    gi_wp2
    refine ⟨trivial, ?_⟩
    gi_wp2
    have hy5 := (Hy4.out.put 0 (.int .u64 0)).other ⟨w.heap.size + 1 + 1, 0, none⟩ (.bool false) (by show w.heap.size + 1 + 1 ≠ w.heap.size + 1; omega)
    have hz5 := (Hz4.out.other ⟨w.heap.size + 1, 0, none⟩ (.int .u64 0) (by show w.heap.size + 1 ≠ w.heap.size + 1 + 1; omega)).put 0 (.bool false)
    have hy6 := hy5.cell 0 _ rfl
    have hz6 := hz5.cell 0 _ rfl
    have hb5 := (Hb04.out.setCell (p := ⟨w.heap.size + 1, 0, none⟩) (by show w.heap.size ≤ w.heap.size + 1; omega) (.int .u64 0)).setCell (p := ⟨w.heap.size + 1 + 1, 0, none⟩) (by show w.heap.size ≤ w.heap.size + 1 + 1; omega) (.bool false)
    refine ⟨.tuple #[.int .u64 0, .bool false], ?_, by rw [HRR.out, HR.out]; rfl, hb5⟩
    simp [results, Tryz.f25, go_sem, hy6, hz6]
    try rfl
  | true =>
    obtain ⟨hto, hxt, hlt⟩ := Hlt.out rfl
    have Htp1 := Lib.hid (Htp.out rfl)
    clear Hlt Htp
    obtain ⟨hgm, hW0, hk0, hW1⟩ := ptotal_pos hxt
    have Hpt : Hid (ptotal l = gsum l * l.length) := by show ptotal l = _; unfold ptotal; rw [if_pos hgm]
    have Hxt := Lib.hid hxt
    have Hlt := Lib.hid hlt
    clear hgm hk0 hxt hlt
    have hmy := amay_any w4 B0 B0 (.slice A l.length c) (.slice A2 t.length c2) l t (by omega) (by omega) (H1.out.below (Hb04.out.mono hB)) (H2.out.below (Hb04.out.mono hB)) (by omega) (by omega)
    have hcut := @mayOk_cut l t
    have Hcut := Lib.hid hcut
    have Hmy := Lib.hid hmy
    clear hmy hcut
    generalize mayOk l t = my at *
    gi_wp2
    refine ⟨trivial, ?_⟩
    refine (callsIn_wide.2 Hmy.out).mono ?_
    rintro _ w5 ⟨rfl, hb5⟩
    have hb05 := Hb04.out.trans (hb5.mono (by omega))
    have hz5 := hb5.size
    have Hx5 := Lib.hid (Hx4.out.below (by omega) hb5)
    have Hy5 := Lib.hid (Hy4.out.below (by omega) hb5)
    have Hz5 := Lib.hid (Hz4.out.below (by omega) hb5)
    have Hb05 := Lib.hid hb05
    clear hb5 hb05 Hx4 Hy4 Hz4 Hb04 Hmy
    cases my with
    | false =>
      have hR := Hrm.out
      rw [if_neg (by simp)] at hR
      have HR := Lib.hid hR
      have hy1 := Hy5.out.frozen 0
      have hz1 := Hz5.out.frozen 0
      have hy2 := Hy5.out.cell 0 _ rfl
      have hz2 := Hz5.out.cell 0 _ rfl
      clear hR
      gi_wp2
      have hy5 := (Hy5.out.put 0 (.int .u64 0)).other ⟨w.heap.size + 1 + 1, 0, none⟩ (.bool false) (by show w.heap.size + 1 + 1 ≠ w.heap.size + 1; omega)
      have hz5 := (Hz5.out.other ⟨w.heap.size + 1, 0, none⟩ (.int .u64 0) (by show w.heap.size + 1 ≠ w.heap.size + 1 + 1; omega)).put 0 (.bool false)
      have hy6 := hy5.cell 0 _ rfl
      have hz6 := hz5.cell 0 _ rfl
      have hb5 := (Hb05.out.setCell (p := ⟨w.heap.size + 1, 0, none⟩) (by show w.heap.size ≤ w.heap.size + 1; omega) (.int .u64 0)).setCell (p := ⟨w.heap.size + 1 + 1, 0, none⟩) (by show w.heap.size ≤ w.heap.size + 1 + 1; omega) (.bool false)
      refine ⟨.tuple #[.int .u64 0, .bool false], ?_, by rw [HRR.out, HR.out]; rfl, hb5⟩
      simp [results, Tryz.f25, go_sem, hy6, hz6]
      try rfl
    | true =>
      have hcut := Hcut.out rfl
      have Hcut2 := Lib.hid hcut
      clear hcut Hcut
      have hR := Hrm.out
      rw [if_pos (by simp)] at hR
      have HR := Lib.hid hR
      clear hR Hrm
      have hfr := front_any w5 B0 (.slice A l.length c) l to hto hl hW1 (H1.out.below (Hb05.out.mono hB)) (by omega)
      have Hfr := Lib.hid hfr
      clear hfr
      gi_wp2
      refine ⟨trivial, ?_⟩
      refine (callsIn_wide.2 Hfr.out).mono ?_
      rintro _ w6 ⟨rfl, hb6⟩
      have hb06 := Hb05.out.trans (hb6.mono (by omega))
      have hz6 := hb6.size
      have hx6 := Hx5.out.below (by omega) hb6
      have hy6 := Hy5.out.below (by omega) hb6
      have hz6b := Hz5.out.below (by omega) hb6
      have hf6 : frontAt l to ≤ 1048576 * 2147483647 := Nat.mul_le_mul hl (Nat.le_trans (gsum_take_le l to) hW1)
      have hqb := BoxAt.new_ 23 w6 [.int .u64 (frontAt l to : Nat)]
      have hba := balloc w6 (.cells #[.int .u64 (frontAt l to : Nat)] 23)
      have Hq7 := Lib.hid hqb
      have Hx7 := Lib.hid (hx6.alloc (.cells #[.int .u64 (frontAt l to : Nat)] 23))
      have Hy7 := Lib.hid (hy6.alloc (.cells #[.int .u64 (frontAt l to : Nat)] 23))
      have Hz7 := Lib.hid (hz6b.alloc (.cells #[.int .u64 (frontAt l to : Nat)] 23))
      have Hb07 := Lib.hid (hb06.trans (hba.mono (by omega)))
      clear hb6 hb06 hx6 hy6 hz6b hqb hba Hx5 Hy5 Hz5 Hb05 Hfr
      gi_wp2
      generalize hg6 : w6.heap.size = g6 at *
      have hz7 : (w6.alloc (.cells #[.int .u64 (frontAt l to : Nat)] 23)).heap.size = g6 + 1 := by simp [hg6]
      generalize w6.alloc (.cells #[.int .u64 (frontAt l to : Nat)] 23) = w7 at *
      refine ⟨trivial, ?_⟩
      refine (callsIn_wide.2 (gsum_any w7 B0 (.slice A l.length c) l (by omega) (H1.out.below (Hb07.out.mono hB)) (by omega))).mono ?_
      rintro _ w8 ⟨rfl, hb8⟩
      have hz8 := hb8.size
      have hx8 := Hx7.out.below (by omega) hb8
      have hy8 := Hy7.out.below (by omega) hb8
      have hz8b := Hz7.out.below (by omega) hb8
      have hq8 := Hq7.out.below (by omega) hb8
      have hb08 := Hb07.out.trans (hb8.mono (by omega))
      have Hx8 := Lib.hid hx8
      have Hy8 := Lib.hid hy8
      have Hz8 := Lib.hid hz8b
      have Hq8 := Lib.hid hq8
      have Hb08 := Lib.hid hb08
      clear hx8 hy8 hz8b hq8 hb08 hb8 Hx7 Hy7 Hz7 Hq7 Hb07
      gi_wp2
      refine ⟨trivial, ?_⟩
      refine (pieces_in Fence.wide 4 trivial rfl _ _ _ _ _ _).mono ?_
      rintro _ _ ⟨rfl, rfl⟩
      gi_wp2
      have hp0 := BoxAt.new_ 56 w8 [.slice A2 t.length c2]
      have hp1 := BoxAt.new_ 23 (w8.alloc (.cells #[.slice A2 t.length c2] 56)) [.int .u64 (gsum l : Nat)]
      have hp2 := BoxAt.new_ 3 ((w8.alloc (.cells #[.slice A2 t.length c2] 56)).alloc (.cells #[.int .u64 (gsum l : Nat)] 23)) [.int .i64 (to : Int)]
      rw [World.size_alloc] at hp1
      rw [World.size_alloc, World.size_alloc] at hp2
      have hp0' := (hp0.alloc (.cells #[.int .u64 (gsum l : Nat)] 23)).alloc (.cells #[.int .i64 (to : Int)] 3)
      have hp1' := hp1.alloc (.cells #[.int .i64 (to : Int)] 3)
      have hba9 := bstep (bstep (balloc w8 (.cells #[.slice A2 t.length c2] 56)) (balloc _ (.cells #[.int .u64 (gsum l : Nat)] 23))) (balloc _ (.cells #[.int .i64 (to : Int)] 3))
      have hz9 : (((w8.alloc (.cells #[.slice A2 t.length c2] 56)).alloc (.cells #[.int .u64 (gsum l : Nat)] 23)).alloc (.cells #[.int .i64 (to : Int)] 3)).heap.size = w8.heap.size + 3 := by simp
      have hx9 := ((Hx8.out.alloc (.cells #[.slice A2 t.length c2] 56)).alloc (.cells #[.int .u64 (gsum l : Nat)] 23)).alloc (.cells #[.int .i64 (to : Int)] 3)
      have hy9 := ((Hy8.out.alloc (.cells #[.slice A2 t.length c2] 56)).alloc (.cells #[.int .u64 (gsum l : Nat)] 23)).alloc (.cells #[.int .i64 (to : Int)] 3)
      have hz9b := ((Hz8.out.alloc (.cells #[.slice A2 t.length c2] 56)).alloc (.cells #[.int .u64 (gsum l : Nat)] 23)).alloc (.cells #[.int .i64 (to : Int)] 3)
      have hq9 := ((Hq8.out.alloc (.cells #[.slice A2 t.length c2] 56)).alloc (.cells #[.int .u64 (gsum l : Nat)] 23)).alloc (.cells #[.int .i64 (to : Int)] 3)
      have hb09 := Hb08.out.trans (hba9.mono (by omega))
      generalize ((w8.alloc (.cells #[.slice A2 t.length c2] 56)).alloc (.cells #[.int .u64 (gsum l : Nat)] 23)).alloc (.cells #[.int .i64 (to : Int)] 3) = w9 at *
      generalize hg8 : w8.heap.size = g8 at *
      have hc0 := hp0'.cell 0 _ rfl
      have hc1' := hp1'.cell 0 _ rfl
      have hc2' := hp2.cell 0 _ rfl
      have Hx9 := Lib.hid hx9
      have Hy9 := Lib.hid hy9
      have Hz9 := Lib.hid hz9b
      have Hq9 := Lib.hid hq9
      have Hb09 := Lib.hid hb09
      clear hp0 hp1 hp2 hp0' hp1' hba9 hx9 hy9 hz9b hq9 hb09 Hx8 Hy8 Hz8 Hq8 Hb08
      refine wpIn_rangeFunc_ownH rfl (by omega) (gf := 81) (lb := #[.pointer (some ⟨g8, 0, none⟩), .pointer (some ⟨g8 + 1, 0, none⟩), .pointer (some ⟨g8 + 1 + 1, 0, none⟩)]) rfl trivial (enters_of Tryz.func81 (by kernel_rfl) rfl)
        (pieces_stops Fence.wide 4 trivial rfl (by omega) g8 B0 (fun k => k = g6) A2 c2 t (gsum l) to (by omega) hW1 Hcut2.out (by omega) w9 (by omega) (fun j hj => by omega) (by rintro k rfl; omega) (by rintro k rfl; omega) (by omega) hc0 hc1' hc2' (H2.out.below (Hb09.out.mono hB))) Kp.trans (fun W l o o' h1 h2 h3 h4 => Kp.putObj _ w9.heap.size W l o o' h1 h2 h3 h4) (Below.refl _ _) (fun _ => rfl)
        (fun pre W => ((∀ p ∈ pre, decide ((x : Int) < IntKind.u64.wrap ((p.1 : Int) + (p.2 : Int))) = false) ∧ BoxAt 23 W g6 [.int .u64 (ysum (frontAt l to : Nat) pre)] ∧ BoxAt 23 W w.heap.size [.int .u64 (x : Int)] ∧ BoxAt 23 W (w.heap.size + 1) [.int .u64 0] ∧ BoxAt 4 W (w.heap.size + 1 + 1) [.bool false] ∧ w9.heap.size ≤ W.heap.size) ∧ Below w.heap.size w W)
        (fun cd pre W => (cd = .ret ∧ ∃ ini last, pre = ini ++ [last] ∧ (∀ p ∈ ini, decide ((x : Int) < IntKind.u64.wrap ((p.1 : Int) + (p.2 : Int))) = false) ∧ decide ((x : Int) < IntKind.u64.wrap ((last.1 : Int) + (last.2 : Int))) = true ∧ BoxAt 23 W (w.heap.size + 1) [.int .u64 (IntKind.u64.wrap (IntKind.u64.wrap (ysum (frontAt l to : Nat) ini + (x : Int)) - (last.1 : Int)))] ∧ BoxAt 4 W (w.heap.size + 1 + 1) [.bool true]) ∧ Below w.heap.size w W)
        (OwnFrom.and (Own.from (fun s X Y row hs hg hr => ⟨hs.1, hs.2.1.ownk hg hr, hs.2.2.1.ownk hg hr, hs.2.2.2.1.ownk hg hr, hs.2.2.2.2.1.ownk hg hr, Nat.le_trans hs.2.2.2.2.2 hg.size⟩) _) (ownFrom_below (Nat.le_refl _) (by omega)))
        (fun cd => OwnFrom.and (Own.from (fun s X Y row hs hg hr => by obtain ⟨e0, ini, last, e1, e2, e3, e4, e5⟩ := hs; exact ⟨e0, ini, last, e1, e2, e3, e4.ownk hg hr, e5.ownk hg hr⟩) _) (ownFrom_below (Nat.le_refl _) (by omega)))
        ⟨⟨by simp, Hq9.out, Hx9.out, Hy9.out, Hz9.out, Nat.le_refl _⟩, Hb09.out⟩
        (fun p a' W => ∃ Bx, w9.heap.size ≤ Bx ∧ BoxAt 118 W Bx [.int .u64 (p.1 : Int), .int .u64 (p.2 : Int)] ∧ a' = { tmps := #[.slice A l.length c, .slice A2 t.length c2, .int .u64 (x : Int), undef, undef, .pointer (some ⟨w.heap.size, 0, none⟩), .pointer (some ⟨w.heap.size + 1, 0, none⟩), .pointer (some ⟨w.heap.size + 1 + 1, 0, none⟩), .int .i64 (to : Int), .bool true, .pointer (some ⟨g6, 0, none⟩), .pointer (some ⟨Bx, 0, none⟩),
          .tuple #[.int .i64 (to : Int), .bool true], .slice A l.length c, .slice A2 t.length c2, .int .u64 (x : Int), .tuple #[.int .i64 (to : Int), .bool true], .int .i64 (to : Int), .bool true, .bool true, .bool false, .bool false, .slice A l.length c, .slice A2 t.length c2, .bool true, .bool false, .bool false, .slice A l.length c, .int .i64 (to : Int),
          .int .u64 (frontAt l to : Nat), .slice A2 t.length c2, .slice A l.length c, .int .u64 (gsum l : Nat), .int .i64 (to : Int), .func (.func 81) #[] #[.pointer (some ⟨g8, 0, none⟩), .pointer (some ⟨g8 + 1, 0, none⟩), .pointer (some ⟨g8 + 1 + 1, 0, none⟩)], .agg #[.int .u64 (p.1 : Int), .int .u64 (p.2 : Int)],
          undef, undef, undef, undef, undef, undef, undef, undef, undef, undef, undef, undef, undef, undef, undef, undef, undef], defers := [] })
        (fun p a' _ X Y row hs hg hr => by obtain ⟨Bx, h1, h2, h3⟩ := hs; exact ⟨Bx, h1, h2.ownk hg (fun r e => (hr r e).2), h3⟩)
        ?assign ?body ?done ?stop
      case assign =>
        rintro lq pre p W K ⟨⟨i1, i2, i3, i4, i5, i6⟩, hBW⟩ hK
        dsimp only [encP]
        gi_wp2
        exact hK _ _ ((KeepsOthers.alloc _ _).from _) (Kp.alloc _ _ _) ⟨⟨i1, i2.alloc _, i3.alloc _, i4.alloc _, i5.alloc _, by simp; omega⟩, hBW.alloc hBW.size _⟩ ⟨W.heap.size, i6, BoxAt.new_ 118 W _, rfl⟩
      case body =>
        rintro lq pre p a' W hlq hr0 ⟨⟨i1, i2, i3, i4, i5, i6⟩, hBW⟩ ⟨Bx, hBx, bX, rfl⟩ hlt
        have hx0 := i3.cell 0 _ rfl
        have hp0 := bX.cell 0 _ rfl
        have hp1 := bX.cell 1 _ rfl
        have hq0 := i2.cell 0 _ rfl
        have hqf := i2.frozen 0
        have hy0 := i4.cell 0 _ rfl
        have hyf := i4.frozen 0
        have hz0 := i5.cell 0 _ rfl
        have hzf := i5.frozen 0
        have hss := ysum_snoc (frontAt l to : Nat) pre p
        have Hss := Lib.hid hss
        have I1 := Lib.hid i1
        clear hss i1
        generalize hys : ysum (frontAt l to : Nat) pre = ys at *
        have Hys := Lib.hid hys
        clear hys
        cases hd : decide ((x : Int) < IntKind.u64.wrap ((p.1 : Int) + (p.2 : Int))) with
        | true =>
          have Hd := Lib.hid hd
          gi_wp2
          refine ⟨((KeepsOthers.setCell _ _ _).trans (KeepsOthers.setCell _ _ _)).from _, ⟨rfl, pre, p, rfl, I1.out, Hd.out, ?_, ?_⟩, ?_⟩
          · rw [Hys.out]
            exact (i4.put 0 _).other _ _ (by show w.heap.size + 1 + 1 ≠ w.heap.size + 1; omega)
          · exact (i5.other _ _ (by show w.heap.size + 1 ≠ w.heap.size + 1 + 1; omega)).put 0 _
          · exact (hBW.setCell (p := ⟨w.heap.size + 1, 0, none⟩) (by show w.heap.size ≤ w.heap.size + 1; omega) _).setCell (p := ⟨w.heap.size + 1 + 1, 0, none⟩) (by show w.heap.size ≤ w.heap.size + 1 + 1; omega) _
        | false =>
          have Hd := Lib.hid hd
          gi_wp2
          refine ⟨(KeepsOthers.setCell _ _ _).from _, Kp.set _ _ _ rfl, ⟨fun q hq => ?_, ?_, i3.other _ _ (by show g6 ≠ w.heap.size; omega), i4.other _ _ (by show g6 ≠ w.heap.size + 1; omega), i5.other _ _ (by show g6 ≠ w.heap.size + 1 + 1; omega), by simp [World.setCell]; exact i6⟩, hBW.setCell (p := ⟨g6, 0, none⟩) (by show w.heap.size ≤ g6; omega) _⟩
          · rw [List.mem_append, List.mem_singleton] at hq
            rcases hq with hq | rfl
            · exact I1.out q hq
            · exact Hd.out
          · rw [Hss.out]; exact i2.put 0 _
      case done =>
        rintro D ys W hD rfl ⟨⟨i1, i2, i3, i4, i5, i6⟩, hBW⟩ hK
        exfalso
        have hrl := remapL_at (gsum l) to t Hcut2.out (frontAt l to) x Htp1.out (by rw [← Hlt.out, ← Hpt.out]; exact Hxt.out) t.length 0 (by omega) (by omega)
        rw [List.drop_zero] at hrl
        obtain ⟨b1, b2⟩ := pcs_b (gsum l) to t 0 Hcut2.out
        have hb : (0 + t.length) * gsum l ≤ 1048576 * 2147483647 := Nat.mul_le_mul (by omega) hW1
        rw [remap_none x _ _ (fun p hp => by have := b1 p hp; omega) i1] at hrl
        cases hrl
      case stop =>
        rintro D cd pre W hD ⟨rest, hpre⟩ ⟨⟨rfl, ini, last, e1, e2, e3, e4, e5⟩, hBW⟩ hK
        subst e1
        have hrl := remapL_at (gsum l) to t Hcut2.out (frontAt l to) x Htp1.out (by rw [← Hlt.out, ← Hpt.out]; exact Hxt.out) t.length 0 (by omega) (by omega)
        rw [List.drop_zero, Nat.mul_zero] at hrl
        obtain ⟨b1, b2⟩ := pcs_b (gsum l) to t 0 Hcut2.out
        have hb : (0 + t.length) * gsum l ≤ 1048576 * 2147483647 := Nat.mul_le_mul (by omega) hW1
        have hb' : t.length * gsum l ≤ 1048576 * 2147483647 := Nat.mul_le_mul (by omega) hW1
        rw [← hpre] at hrl b1 b2
        rw [List.map_append, List.map_append, List.sum_append, List.sum_append] at b2
        obtain ⟨h5, h6⟩ := remap_some x ini last rest (frontAt l to) (fun p hp => by have := b1 p (List.mem_append_left _ hp); omega) (by omega) e2 e3
        have hm0 : metC (gsum l) t to 0 = 0 := rfl
        rw [hm0, Nat.add_zero, h5] at hrl
        rw [h6] at e4
        split at hrl
        · rename_i hle
          have h7 := Option.some.inj hrl
          have hml := metC_le (gsum l) t to x
          have hxl : x < 1048576 * 2147483647 := by
            have h8 := Hxt.out
            rw [Hpt.out] at h8
            have : gsum l * l.length ≤ 2147483647 * 1048576 := Nat.mul_le_mul hW1 hl
            omega
          have hval : IntKind.u64.wrap (IntKind.u64.wrap (((frontAt l to + (ini.map (·.2)).sum : Nat) : Int) + (x : Int)) - (last.1 : Int)) = ((frontAt l to + metC (gsum l) t to x : Nat) : Int) := by
            rw [wrap_u64, wrap_u64]; omega
          rw [hval] at e4
          have hy0 := e4.cell 0 _ rfl
          have hz0 := e5.cell 0 _ rfl
          have HB := Lib.hid hBW
          clear e2 e3 e4 e5 h5 h6 h7 hrl b1 b2 hpre hBW hval
          gi_wp2
          refine ⟨by simp, .inl ⟨_, _, rfl, run_takeDeferred hK, ?_⟩⟩
          have hy5 := cell_kept hy0 (grownBy_putObj' _ D (.deferred none)) (fun r e => by cases e; exact ⟨_, hK, rfl⟩)
          have hz5 := cell_kept hz0 (grownBy_putObj' _ D (.deferred none)) (fun r e => by cases e; exact ⟨_, hK, rfl⟩)
          refine ⟨.tuple #[.int .u64 ((frontAt l to + metC (gsum l) t to x : Nat) : Int), .bool true], ?_, by rw [HRR.out, HR.out], HB.out.trans (belowK_b (w := w) (Nat.le_refl _) W D _ _ (by omega) hK rfl rfl)⟩
          simp [results, Tryz.f25, go_sem, hy5, hz5]
          try rfl
        · cases hrl
end Go.Proofs.YtcffeepgfjpcaaaGreat

namespace Go.Proofs.YtcffeepgfjpcaaaGreat
set_option linter.unusedSimpArgs false
set_option linter.unusedVariables false
open Go.RowKit

set_option maxRecDepth 100000 in
set_option maxHeartbeats 3200000 in
theorem cand_any (w : World) (g B : Nat) (hB : B ≤ w.heap.size) (gv vs vp : Value) (j : GJob) (id : Nat) (l : List UInt32) (hb : BoxAt 85 w g (walkC gv vs j id vp)) (hpl : ByU w B vp l) (hl : l.length ≤ 1048576) (hl0 : 0 < l.length) (hid : id < 4294967296)
    (uk ut ua : UInt64) (hk : uk.toNat = id) (ht : ut.toNat + 1 = l.length) (tr : Nat) (htr : tr ≤ 1048575) (hua : ua.toNat = 2 * tr + 1) (va vt : Value) (arcs : List GArc) (t : List GCell) (ha : ByA w B va arcs) (hc : ByC w B vt t) (hal : arcs.length ≤ 1048576) (htl : t.length ≤ 1048576)
    (d y i : Nat) (hd : d = belowU (drawU j.seed uk ut ua) (ptotal arcs)) (hy : y = (rmp arcs t d).1) (hi : i = (ival arcs y).1) (hil : i < arcs.length) (hd64 : d < 18446744073709551616) (hy64 : y < 18446744073709551616) (hpt : ptotal arcs < 18446744073709551616) :
    Calls Tryz.prog 64 #[.pointer (some ⟨g, 0, none⟩), va, vt, .int .u64 (tr : Int)] w fun e w' => e = .returned (.int .u32 ((arcs.getD i ⟨0, 0⟩).to.toNat : Int)) ∧ Below w.heap.size w w' := by
  have h1 := fun W (hW : Below w.heap.size w W) => ptotal_any W B va arcs (by omega) (ha.below (hW.mono hB)) (by have := hW.size; omega)
  have h2 := fun W (hW : Below w.heap.size w W) => drawW_any W g B gv vs vp j id l (hb.below hb.lt hW) (hpl.below (hW.mono hB)) hl hl0 hid tr 1 (ptotal arcs) (by omega) (by omega) hpt uk ut ua hk ht hua
  have h3 := fun W (hW : Below w.heap.size w W) => remap_any W B va vt arcs t d hd64 hal htl (ha.below (hW.mono hB)) (hc.below (hW.mono hB)) (by have := hW.size; omega)
  have h4 := fun W (hW : Below w.heap.size w W) => interval_any W B va arcs y hy64 hal (ha.below (hW.mono hB)) (by have := hW.size; omega)
  obtain ⟨A, c, rfl, hc1, hc2⟩ := ha.form
  rw [← hd] at h2
  rw [← hy] at h3
  rw [← hi] at h4
  have hg : arcs.getD i ⟨0, 0⟩ = arcs[i] := by simp [List.getD, hil]
  rw [hg]
  obtain ⟨x, hx⟩ : ∃ x, x = (arcs[i]).to.toNat := ⟨_, rfl⟩
  rw [← hx]
  have Hx := Lib.hid hx
  clear hx
  obtain ⟨b3, hb3⟩ : ∃ b, b = (rmp arcs t d).2 := ⟨_, rfl⟩
  obtain ⟨b4, hb4⟩ : ∃ b, b = (ival arcs y).2 := ⟨_, rfl⟩
  rw [← hb3] at h3
  rw [← hb4] at h4
  have H1 := Lib.hid h1
  have H2 := Lib.hid h2
  have H3 := Lib.hid h3
  have H4 := Lib.hid h4
  have Ha := Lib.hid ha
  clear h1 h2 h3 h4 hb3 hb4 hd hy hi hg hb hpl hc ha
  generalize ptotal arcs = T at *
  go_enter Tryz.func64, Tryz.ntmps64
  go_wp2_with fail
  refine (H1.out w (Below.refl _ _)).mono ?_
  rintro _ w1 ⟨rfl, hb1⟩
  have Hb1 := Lib.hid hb1
  clear hb1
  go_wp2_with fail
  refine (H2.out w1 Hb1.out).mono ?_
  rintro _ w2 ⟨rfl, hb2⟩
  have Hb2 := Lib.hid (bstep Hb1.out hb2)
  clear hb2 Hb1
  go_wp2_with fail
  refine (H3.out w2 Hb2.out).mono ?_
  rintro _ w3 ⟨rfl, hb3⟩
  have Hb3 := Lib.hid (bstep Hb2.out hb3)
  clear hb3 Hb2
  go_wp2_with fail
  refine (H4.out w3 Hb3.out).mono ?_
  rintro _ w4 ⟨rfl, hb4⟩
  have Hb4 := Lib.hid (bstep Hb3.out hb4)
  clear hb4 Hb3
  obtain ⟨ad, rfl, hab, hx0, hx1⟩ := (Ha.out.below (Hb4.out.mono hB)).cells i hil
  rw [← Hx.out] at hx0
  clear hx1
  go_wp2_with fail
  go_ret
  exact ⟨rfl, Hb4.out⟩
end Go.Proofs.YtcffeepgfjpcaaaGreat

namespace Go.Proofs.YtcffeepgfjpcaaaGreat
set_option linter.unusedSimpArgs false
set_option linter.unusedVariables false
open Go.RowKit

def biasW (p q : Nat) (back near : Bool) : Nat := if back then q else if near then p * q else p
set_option maxRecDepth 100000 in
set_option maxHeartbeats 800000 in
theorem scale_any (w : World) (p q : Nat) (hp : p < 4294967296) (hq : q < 4294967296) : Calls Tryz.prog 20 #[.int .u32 (p : Int), .int .u32 (q : Int)] w fun e w' => e = .returned (.int .u64 ((p * q : Nat) : Int)) ∧ w' = w := by
  have hm : p * q ≤ 4294967295 * 4294967295 := Nat.mul_le_mul (by omega) (by omega)
  have hw : IntKind.u64.wrap ((p : Int) * (q : Int)) = ((p * q : Nat) : Int) := by
    rw [wrap_u64, ← Int.natCast_mul]
    omega
  have Hw := Lib.hid hw
  clear hw
  generalize p * q = pq at *
  go_enter Tryz.func20, Tryz.ntmps20
  go_wp2_with fail
  go_ret
  rw [← Hw.out]
  exact ⟨rfl, rfl⟩
set_option maxRecDepth 100000 in
set_option maxHeartbeats 800000 in
theorem weight_any (w : World) (p q : Nat) (hp : p < 4294967296) (hq : q < 4294967296) (back near : Bool) : Calls Tryz.prog 43 #[.int .u32 (p : Int), .int .u32 (q : Int), .bool back, .bool near] w fun e w' => e = .returned (.int .u64 (biasW p q back near : Nat)) ∧ w' = w := by
  have hsc := fun W => scale_any W p q hp hq
  have Hsc := Lib.hid hsc
  clear hsc
  unfold biasW
  cases back with
  | true =>
    go_enter Tryz.func43, Tryz.ntmps43
    go_wp2_with fail
    go_ret
    exact ⟨rfl, rfl⟩
  | false =>
    cases near with
    | true =>
      go_enter Tryz.func43, Tryz.ntmps43
      go_wp2_with fail
      refine (Hsc.out _).mono ?_
      rintro _ _ ⟨rfl, rfl⟩
      go_wp2_with fail
      go_ret
      exact ⟨rfl, rfl⟩
    | false =>
      go_enter Tryz.func43, Tryz.ntmps43
      go_wp2_with fail
      go_ret
      exact ⟨rfl, rfl⟩
set_option maxRecDepth 100000 in
set_option maxHeartbeats 800000 in
theorem accepts_any (w : World) (p q u : Nat) (hp : p < 4294967296) (hq : q < 4294967296) (back near : Bool) : Calls Tryz.prog 17 #[.int .u32 (p : Int), .int .u32 (q : Int), .bool back, .bool near, .int .u64 (u : Int)] w fun e w' => e = .returned (.bool (decide (u < biasW p q back near))) ∧ w' = w := by
  have hsc := fun W => weight_any W p q hp hq back near
  have Hsc := Lib.hid hsc
  clear hsc
  generalize biasW p q back near = bw at *
  go_enter Tryz.func17, Tryz.ntmps17
  go_wp2_with fail
  refine (Hsc.out _).mono ?_
  rintro _ _ ⟨rfl, rfl⟩
  go_wp2_with fail
  go_ret
  exact ⟨by simp, rfl⟩
end Go.Proofs.YtcffeepgfjpcaaaGreat

namespace Go.Proofs.YtcffeepgfjpcaaaGreat
set_option linter.unusedSimpArgs false
set_option linter.unusedVariables false
open Go.RowKit

def takesJ (j : GJob) (n to ah u : Nat) (nr : Bool) : Bool := decide (j.kind.toNat ≠ 2) || (decide (n = 1) || decide (u < biasW j.p.toNat j.q.toNat (decide (to = ah)) nr))
set_option maxRecDepth 100000 in
set_option maxHeartbeats 3200000 in
theorem takes_any22 (w : World) (g B : Nat) (hB : B ≤ w.heap.size) (gv vs vp : Value) (j : GJob) (id : Nat) (l : List UInt32) (hb : BoxAt 85 w g (walkC gv vs j id vp)) (hpl : ByU w B vp l) (hl : l.length ≤ 1048576) (hl0 : 0 < l.length) (hid : id < 4294967296)
    (uk ut ua : UInt64) (hk : uk.toNat = id) (ht : ut.toNat + 1 = l.length) (tr : Nat) (htr : tr ≤ 1048575) (hua : ua.toNat = 2 * tr) (to : Nat) (hto : to < 4294967296) (nr : Bool) (ah : Nat) (hah : 2 ≤ l.length → ah = (l.getD (l.length - 2) 0).toNat)
    (hnear : ∀ W, Below w.heap.size w W → Calls Tryz.prog 18 #[gv, .int .u32 (ah : Int), .int .u32 (to : Int)] W fun e W' => e = .returned (.bool nr) ∧ Below W.heap.size W W')
    (u : Nat) (hu : u = belowU (drawU j.seed uk ut ua) (j.p.toNat * j.q.toNat)) (r : Bool) (hr : r = takesJ j l.length to ah u nr) :
    Calls Tryz.prog 65 #[.pointer (some ⟨g, 0, none⟩), .int .u32 (to : Int), .int .u64 (tr : Int)] w fun e w' => e = .returned (.bool r) ∧ Below w.heap.size w w' := by
  have hp := u32_lt j.p
  have hq := u32_lt j.q
  have hk8 := u8_lt j.kind
  have hpq : j.p.toNat * j.q.toNat ≤ 4294967295 * 4294967295 := Nat.mul_le_mul (by omega) (by omega)
  have hd := fun W (hW : Below w.heap.size w W) => drawW_any W g B gv vs vp j id l (hb.below hb.lt hW) (hpl.below (hW.mono hB)) hl hl0 hid tr 0 (j.p.toNat * j.q.toNat) (by omega) (by omega) (by omega) uk ut ua hk ht (by omega)
  have hat := fun (h2 : 2 ≤ l.length) => at_any w g B gv vs vp j id l hb hpl hl 1 (l.length - 2) (by omega)
  have hat2 : 2 ≤ l.length → Calls Tryz.prog 62 #[.pointer (some ⟨g, 0, none⟩), .int .i64 1] w fun e w' => e = .returned (.int .u32 (ah : Int)) ∧ Below w.heap.size w w' := fun h2 => by
    have := hat h2
    rw [← hah h2] at this
    exact this
  rw [← hu] at hd
  unfold takesJ at hr
  obtain ⟨A, c, rfl, hc1, hc2⟩ := hpl.form
  unfold maxLen at hc2
  obtain ⟨kd, hkd⟩ : ∃ kd, kd = j.kind.toNat := ⟨_, rfl⟩
  obtain ⟨p, hp'⟩ : ∃ p, p = j.p.toNat := ⟨_, rfl⟩
  obtain ⟨q, hq'⟩ : ∃ q, q = j.q.toNat := ⟨_, rfl⟩
  have X : Hid (BoxAt 85 w g (gv :: .int .u8 (kd : Int) :: .int .u64 (j.seed.toNat : Int) :: .int .u32 (j.len.toNat : Int) :: .int .u32 (j.walks.toNat : Int) :: vs :: .int .u32 (j.stop.toNat : Int) :: .int .u32 (j.of_.toNat : Int) :: .int .u32 (p : Int) :: .int .u32 (q : Int) :: (jobC j vs).drop 9 ++ [.int .u32 (id : Int), .slice A l.length c])) := Lib.hid (by rw [hkd, hp', hq']; exact hb)
  rw [← hkd] at hr hk8
  rw [← hp'] at hr hd hp hpq
  rw [← hq'] at hr hd hq hpq
  have hc1' := X.out.cell 1 _ rfl
  have hc17 := X.out.cell 17 _ rfl
  have HD := Lib.hid hd
  have HR := Lib.hid hr
  have HN := Lib.hid hnear
  have HA := Lib.hid hat2
  clear hd hr hnear hat hat2 hb hpl hu hah hkd hp' hq' hk ht hua
  go_enter Tryz.func65, Tryz.ntmps65
  by_cases hk2 : kd = 2
  · have hkb : ((kd : Int) == 2) = true := by simp [hk2]
    have hkn : ((kd : Int) != 2) = false := by simp [hk2]
    by_cases hn1 : l.length = 1
    · have hlb : ((l.length : Int) == 1) = true := by simp [hn1]
      have HT : Hid (r = true) := Lib.hid (by rw [HR.out]; simp [hn1])
      clear hn1
      go_wp2_with fail
      go_ret
      exact ⟨by rw [HT.out]; rfl, Below.refl _ _⟩
    · have hlb : ((l.length : Int) == 1) = false := beq_eq_false_iff_ne.2 (by omega)
      obtain ⟨bk, hbk⟩ : ∃ bk, bk = decide (to = ah) := ⟨_, rfl⟩
      have HR2 : Hid (r = decide (u < biasW p q bk nr)) := Lib.hid (by rw [HR.out, hbk]; simp [hk2, hn1])
      have HBK : Hid (decide ((to : Int) = (ah : Int)) = bk) := Lib.hid (by rw [hbk]; exact decide_eq_decide.2 (by omega))
      clear hbk
      go_wp2_with fail
      refine (HA.out (by omega)).mono ?_
      rintro _ w1 ⟨rfl, hb1⟩
      have Hb1 := Lib.hid hb1
      clear hb1
      go_upto_region 4 with fail
      refine wp_region_typed [some 25, some 26, some 27, some 28, some 29, some 30, some 31, some 32, some 33, some 34, some 35, some 36, some 37, some 38, some 8] [25, 26, 27, 28, 29, 30, 31, 32, 33, 34, 35, 36, 37, 38, 8]
        [Ph.is (.pointer (some ⟨g, 0, none⟩)),
          Ph.is (.int .u64 (tr : Int)),
          Ph.is (.pointer (some ⟨g, 0, none⟩)),
          Ph.is (.pointer (some ⟨g, 0, none⟩)),
          Ph.is (.pointer (some ⟨g, 1, none⟩)),
          Ph.is (.pointer (some ⟨g, 8, none⟩)),
          Ph.is (.int .u32 (p : Int)),
          Ph.is (.pointer (some ⟨g, 0, none⟩)),
          Ph.is (.pointer (some ⟨g, 0, none⟩)),
          Ph.is (.pointer (some ⟨g, 1, none⟩)),
          Ph.is (.pointer (some ⟨g, 9, none⟩)),
          Ph.is (.int .u32 (q : Int)),
          Ph.is (.int .u64 ((p * q : Nat) : Int)),
          Ph.is (.int .u64 (u : Int)),
          Ph.is (.int .u64 (u : Int))] rfl rfl (by kernel_rfl) (by kernel_rfl) ?_ ?_
      · refine ⟨?_, ?_, ?_, ?_, ?_, ?_, ?_, ?_, ?_, ?_, ?_, ?_, ?_, ?_, ?_, trivial⟩
        · -- 0: slot 25 := Op.move t0
          refine ob_yes fun f w' hb hp => ?_
          simp [PreOf, factOf, valOf, Ph.is, Ph.by_, Ph.any, Region.binds] at hp
          refine ⟨by simp [Gd, valOf, hp], ?_⟩
          refine mild_val (.pointer (some ⟨g, 0, none⟩)) ?_ rfl
          simp [execOp, evalF, hp]
        · -- 1: slot 26 := Op.move t2
          refine ob_yes fun f w' hb hp => ?_
          simp [PreOf, factOf, valOf, Ph.is, Ph.by_, Ph.any, Region.binds] at hp
          refine ⟨by simp [Gd, valOf, hp], ?_⟩
          refine mild_val (.int .u64 (tr : Int)) ?_ rfl
          simp [execOp, evalF, hp]
        · -- 2: slot 27 := Op.move t0
          refine ob_yes fun f w' hb hp => ?_
          simp [PreOf, factOf, valOf, Ph.is, Ph.by_, Ph.any, Region.binds] at hp
          refine ⟨by simp [Gd, valOf, hp], ?_⟩
          refine mild_val (.pointer (some ⟨g, 0, none⟩)) ?_ rfl
          simp [execOp, evalF, hp]
        · -- 3: slot 28 := Op.nilCheck t27
          refine ob_yes fun f w' hb hp => ?_
          simp [PreOf, factOf, valOf, Ph.is, Ph.by_, Ph.any, Region.binds] at hp
          refine ⟨by simp [Gd, valOf, hp], ?_⟩
          refine mild_val (.pointer (some ⟨g, 0, none⟩)) ?_ rfl
          simp [execOp, evalF, hp, go_sem]
        · -- 4: slot 29 := Op.fieldAddr 85 t28 1
          refine ob_yes fun f w' hb hp => ?_
          simp [PreOf, factOf, valOf, Ph.is, Ph.by_, Ph.any, Region.binds] at hp
          refine ⟨by simp [Gd, valOf, hp], ?_⟩
          refine mild_val (.pointer (some ⟨g, 1, none⟩)) ?_ rfl
          simp [execOp, evalF, hp, go_sem]
        · -- 5: slot 30 := Op.fieldAddr 29 t29 7
          refine ob_yes fun f w' hb hp => ?_
          simp [PreOf, factOf, valOf, Ph.is, Ph.by_, Ph.any, Region.binds] at hp
          refine ⟨by simp [Gd, valOf, hp], ?_⟩
          refine mild_val (.pointer (some ⟨g, 8, none⟩)) ?_ rfl
          simp [execOp, evalF, hp, go_sem]
        · -- 6: slot 31 := Op.load 24 t30
          refine ob_yes fun f w' hb hp => ?_
          simp [PreOf, factOf, valOf, Ph.is, Ph.by_, Ph.any, Region.binds] at hp
          refine ⟨by simp [Gd, valOf, hp], ?_⟩
          refine mild_val (.int .u32 (p : Int)) ?_ rfl
          have hc := (X.out.below X.out.lt (Hb1.out.trans (hb.mono (by have := Hb1.out.size; omega)))).cell 8 _ rfl
          simp [execOp, evalF, hp, hc, go_sem]
        · -- 7: slot 32 := Op.move t0
          refine ob_yes fun f w' hb hp => ?_
          simp [PreOf, factOf, valOf, Ph.is, Ph.by_, Ph.any, Region.binds] at hp
          refine ⟨by simp [Gd, valOf, hp], ?_⟩
          refine mild_val (.pointer (some ⟨g, 0, none⟩)) ?_ rfl
          simp [execOp, evalF, hp]
        · -- 8: slot 33 := Op.nilCheck t32
          refine ob_yes fun f w' hb hp => ?_
          simp [PreOf, factOf, valOf, Ph.is, Ph.by_, Ph.any, Region.binds] at hp
          refine ⟨by simp [Gd, valOf, hp], ?_⟩
          refine mild_val (.pointer (some ⟨g, 0, none⟩)) ?_ rfl
          simp [execOp, evalF, hp, go_sem]
        · -- 9: slot 34 := Op.fieldAddr 85 t33 1
          refine ob_yes fun f w' hb hp => ?_
          simp [PreOf, factOf, valOf, Ph.is, Ph.by_, Ph.any, Region.binds] at hp
          refine ⟨by simp [Gd, valOf, hp], ?_⟩
          refine mild_val (.pointer (some ⟨g, 1, none⟩)) ?_ rfl
          simp [execOp, evalF, hp, go_sem]
        · -- 10: slot 35 := Op.fieldAddr 29 t34 8
          refine ob_yes fun f w' hb hp => ?_
          simp [PreOf, factOf, valOf, Ph.is, Ph.by_, Ph.any, Region.binds] at hp
          refine ⟨by simp [Gd, valOf, hp], ?_⟩
          refine mild_val (.pointer (some ⟨g, 9, none⟩)) ?_ rfl
          simp [execOp, evalF, hp, go_sem]
        · -- 11: slot 36 := Op.load 24 t35
          refine ob_yes fun f w' hb hp => ?_
          simp [PreOf, factOf, valOf, Ph.is, Ph.by_, Ph.any, Region.binds] at hp
          refine ⟨by simp [Gd, valOf, hp], ?_⟩
          refine mild_val (.int .u32 (q : Int)) ?_ rfl
          have hc := (X.out.below X.out.lt (Hb1.out.trans (hb.mono (by have := Hb1.out.size; omega)))).cell 9 _ rfl
          simp [execOp, evalF, hp, hc, go_sem]
        · -- 12: slot 37 := Op.call   value (Operand.func 20), args := #[t31, t36], argTypes := #[24, 24]  
          refine ob_yes fun f w' hb hp => ?_
          simp [PreOf, factOf, valOf, Ph.is, Ph.by_, Ph.any, Region.binds] at hp
          refine ⟨by simp [Gd, valOf, hp], ?_⟩
          refine mild_call 20 _ _ Tryz.f20 Tryz.func20 (by kernel_rfl) (by kernel_rfl) rfl ?_
          simp [evalF, hp, Ph.is, Ph.by_, Ph.any]
          refine (scale_any w' p q (by omega) (by omega)).mono fun ev w8 h => ?_
          obtain ⟨rfl, rfl⟩ := h
          exact ⟨by simp, Below.refl _ _⟩
        · -- 13: slot 38 := Op.call   value (Operand.func 99), args := #[t25, t26, const (0:u64), t37], argTypes := #[83, 23, 23, 23]  
          refine ob_yes fun f w' hb hp => ?_
          simp [PreOf, factOf, valOf, Ph.is, Ph.by_, Ph.any, Region.binds] at hp
          refine ⟨by simp [Gd, valOf, hp], ?_⟩
          refine mild_call 99 _ _ Tryz.f99 Tryz.func99 (by kernel_rfl) (by kernel_rfl) rfl ?_
          simp [evalF, hp, Ph.is, Ph.by_, Ph.any]
          refine (HD.out w' (Hb1.out.trans (hb.mono (by have := Hb1.out.size; omega)))).mono fun ev w8 h => ?_
          obtain ⟨rfl, h2⟩ := h
          exact ⟨rfl, h2⟩
        · -- 14: slot 8 := Op.assign t38
          refine ob_yes fun f w' hb hp => ?_
          simp [PreOf, factOf, valOf, Ph.is, Ph.by_, Ph.any, Region.binds] at hp
          refine ⟨by simp [Gd, valOf, hp], ?_⟩
          refine mild_val (.int .u64 (u : Int)) ?_ rfl
          simp [execOp, evalF, hp]
      · intro f w8 hb8 hp
        simp only [PostOf, Ph.is, Ph.by_, Ph.any] at hp
        obtain ⟨h0, h1, h2, h3, h4, h5, h6, h7, h8, h9, h10, h11, h12, h13, h14, _⟩ := hp
        simp only [fills, List.foldl_cons, List.foldl_nil, Act.put, List.setIfInBounds_toArray, List.set_cons_zero, List.set_cons_succ, h0, h1, h2, h3, h4, h5, h6, h7, h8, h9, h10, h11, h12, h13, h14]
        clear h0 h1 h2 h3 h4 h5 h6 h7 h8 h9 h10 h11 h12 h13 h14
        have Hb2 := Lib.hid (bstep Hb1.out hb8)
        go_upto_region 5 with fail
        refine wp_region_typed [some 39, some 40, some 41, some 42, some 43, some 44, some 45, some 46, some 47, some 48, some 49, some 50, some 51, some 52, some 53, some 54, some 55, some 56, some 57, some 58, some 59, some 60, some 6] [39, 40, 41, 42, 43, 44, 45, 46, 47, 48, 49, 50, 51, 52, 53, 54, 55, 56, 57, 58, 59, 60, 6]
          [Ph.is (.pointer (some ⟨g, 0, none⟩)),
            Ph.is (.pointer (some ⟨g, 0, none⟩)),
            Ph.is (.pointer (some ⟨g, 1, none⟩)),
            Ph.is (.pointer (some ⟨g, 8, none⟩)),
            Ph.is (.int .u32 (p : Int)),
            Ph.is (.pointer (some ⟨g, 0, none⟩)),
            Ph.is (.pointer (some ⟨g, 0, none⟩)),
            Ph.is (.pointer (some ⟨g, 1, none⟩)),
            Ph.is (.pointer (some ⟨g, 9, none⟩)),
            Ph.is (.int .u32 (q : Int)),
            Ph.is (.int .u32 (to : Int)),
            Ph.is (.int .u32 (ah : Int)),
            Ph.is (.bool bk),
            Ph.is (.pointer (some ⟨g, 0, none⟩)),
            Ph.is (.pointer (some ⟨g, 0, none⟩)),
            Ph.is (.pointer (some ⟨g, 0, none⟩)),
            Ph.is (gv),
            Ph.is (.int .u32 (ah : Int)),
            Ph.is (.int .u32 (to : Int)),
            Ph.is (.bool nr),
            Ph.is (.int .u64 (u : Int)),
            Ph.is (.bool r),
            Ph.is (.bool r)] rfl rfl (by kernel_rfl) (by kernel_rfl) ?_ ?_
        · refine ⟨?_, ?_, ?_, ?_, ?_, ?_, ?_, ?_, ?_, ?_, ?_, ?_, ?_, ?_, ?_, ?_, ?_, ?_, ?_, ?_, ?_, ?_, ?_, trivial⟩
          · -- 0: slot 39 := Op.move t0
            refine ob_yes fun f w' hb hp => ?_
            simp [PreOf, factOf, valOf, Ph.is, Ph.by_, Ph.any, Region.binds] at hp
            refine ⟨by simp [Gd, valOf, hp], ?_⟩
            refine mild_val (.pointer (some ⟨g, 0, none⟩)) ?_ rfl
            simp [execOp, evalF, hp]
          · -- 1: slot 40 := Op.nilCheck t39
            refine ob_yes fun f w' hb hp => ?_
            simp [PreOf, factOf, valOf, Ph.is, Ph.by_, Ph.any, Region.binds] at hp
            refine ⟨by simp [Gd, valOf, hp], ?_⟩
            refine mild_val (.pointer (some ⟨g, 0, none⟩)) ?_ rfl
            simp [execOp, evalF, hp, go_sem]
          · -- 2: slot 41 := Op.fieldAddr 85 t40 1
            refine ob_yes fun f w' hb hp => ?_
            simp [PreOf, factOf, valOf, Ph.is, Ph.by_, Ph.any, Region.binds] at hp
            refine ⟨by simp [Gd, valOf, hp], ?_⟩
            refine mild_val (.pointer (some ⟨g, 1, none⟩)) ?_ rfl
            simp [execOp, evalF, hp, go_sem]
          · -- 3: slot 42 := Op.fieldAddr 29 t41 7
            refine ob_yes fun f w' hb hp => ?_
            simp [PreOf, factOf, valOf, Ph.is, Ph.by_, Ph.any, Region.binds] at hp
            refine ⟨by simp [Gd, valOf, hp], ?_⟩
            refine mild_val (.pointer (some ⟨g, 8, none⟩)) ?_ rfl
            simp [execOp, evalF, hp, go_sem]
          · -- 4: slot 43 := Op.load 24 t42
            refine ob_yes fun f w' hb hp => ?_
            simp [PreOf, factOf, valOf, Ph.is, Ph.by_, Ph.any, Region.binds] at hp
            refine ⟨by simp [Gd, valOf, hp], ?_⟩
            refine mild_val (.int .u32 (p : Int)) ?_ rfl
            have hc := (X.out.below X.out.lt (Hb2.out.trans (hb.mono (by have := Hb2.out.size; omega)))).cell 8 _ rfl
            simp [execOp, evalF, hp, hc, go_sem]
          · -- 5: slot 44 := Op.move t0
            refine ob_yes fun f w' hb hp => ?_
            simp [PreOf, factOf, valOf, Ph.is, Ph.by_, Ph.any, Region.binds] at hp
            refine ⟨by simp [Gd, valOf, hp], ?_⟩
            refine mild_val (.pointer (some ⟨g, 0, none⟩)) ?_ rfl
            simp [execOp, evalF, hp]
          · -- 6: slot 45 := Op.nilCheck t44
            refine ob_yes fun f w' hb hp => ?_
            simp [PreOf, factOf, valOf, Ph.is, Ph.by_, Ph.any, Region.binds] at hp
            refine ⟨by simp [Gd, valOf, hp], ?_⟩
            refine mild_val (.pointer (some ⟨g, 0, none⟩)) ?_ rfl
            simp [execOp, evalF, hp, go_sem]
          · -- 7: slot 46 := Op.fieldAddr 85 t45 1
            refine ob_yes fun f w' hb hp => ?_
            simp [PreOf, factOf, valOf, Ph.is, Ph.by_, Ph.any, Region.binds] at hp
            refine ⟨by simp [Gd, valOf, hp], ?_⟩
            refine mild_val (.pointer (some ⟨g, 1, none⟩)) ?_ rfl
            simp [execOp, evalF, hp, go_sem]
          · -- 8: slot 47 := Op.fieldAddr 29 t46 8
            refine ob_yes fun f w' hb hp => ?_
            simp [PreOf, factOf, valOf, Ph.is, Ph.by_, Ph.any, Region.binds] at hp
            refine ⟨by simp [Gd, valOf, hp], ?_⟩
            refine mild_val (.pointer (some ⟨g, 9, none⟩)) ?_ rfl
            simp [execOp, evalF, hp, go_sem]
          · -- 9: slot 48 := Op.load 24 t47
            refine ob_yes fun f w' hb hp => ?_
            simp [PreOf, factOf, valOf, Ph.is, Ph.by_, Ph.any, Region.binds] at hp
            refine ⟨by simp [Gd, valOf, hp], ?_⟩
            refine mild_val (.int .u32 (q : Int)) ?_ rfl
            have hc := (X.out.below X.out.lt (Hb2.out.trans (hb.mono (by have := Hb2.out.size; omega)))).cell 9 _ rfl
            simp [execOp, evalF, hp, hc, go_sem]
          · -- 10: slot 49 := Op.move t1
            refine ob_yes fun f w' hb hp => ?_
            simp [PreOf, factOf, valOf, Ph.is, Ph.by_, Ph.any, Region.binds] at hp
            refine ⟨by simp [Gd, valOf, hp], ?_⟩
            refine mild_val (.int .u32 (to : Int)) ?_ rfl
            simp [execOp, evalF, hp]
          · -- 11: slot 50 := Op.move t7
            refine ob_yes fun f w' hb hp => ?_
            simp [PreOf, factOf, valOf, Ph.is, Ph.by_, Ph.any, Region.binds] at hp
            refine ⟨by simp [Gd, valOf, hp], ?_⟩
            refine mild_val (.int .u32 (ah : Int)) ?_ rfl
            simp [execOp, evalF, hp]
          · -- 12: slot 51 := Op.binOp BinOp.eql 24 t49 t50 24
            refine ob_yes fun f w' hb hp => ?_
            simp [PreOf, factOf, valOf, Ph.is, Ph.by_, Ph.any, Region.binds] at hp
            refine ⟨by simp [Gd, valOf, hp], ?_⟩
            refine mild_val (.bool bk) ?_ rfl
            simp [execOp, evalF, hp, go_sem]
            exact HBK.out
          · -- 13: slot 52 := Op.move t0
            refine ob_yes fun f w' hb hp => ?_
            simp [PreOf, factOf, valOf, Ph.is, Ph.by_, Ph.any, Region.binds] at hp
            refine ⟨by simp [Gd, valOf, hp], ?_⟩
            refine mild_val (.pointer (some ⟨g, 0, none⟩)) ?_ rfl
            simp [execOp, evalF, hp]
          · -- 14: slot 53 := Op.nilCheck t52
            refine ob_yes fun f w' hb hp => ?_
            simp [PreOf, factOf, valOf, Ph.is, Ph.by_, Ph.any, Region.binds] at hp
            refine ⟨by simp [Gd, valOf, hp], ?_⟩
            refine mild_val (.pointer (some ⟨g, 0, none⟩)) ?_ rfl
            simp [execOp, evalF, hp, go_sem]
          · -- 15: slot 54 := Op.fieldAddr 85 t53 0
            refine ob_yes fun f w' hb hp => ?_
            simp [PreOf, factOf, valOf, Ph.is, Ph.by_, Ph.any, Region.binds] at hp
            refine ⟨by simp [Gd, valOf, hp], ?_⟩
            refine mild_val (.pointer (some ⟨g, 0, none⟩)) ?_ rfl
            simp [execOp, evalF, hp, go_sem]
          · -- 16: slot 55 := Op.load 32 t54
            refine ob_yes fun f w' hb hp => ?_
            simp [PreOf, factOf, valOf, Ph.is, Ph.by_, Ph.any, Region.binds] at hp
            refine ⟨by simp [Gd, valOf, hp], ?_⟩
            refine mild_val (gv) ?_ rfl
            have hc := (X.out.below X.out.lt (Hb2.out.trans (hb.mono (by have := Hb2.out.size; omega)))).cell 0 _ rfl
            simp [execOp, evalF, hp, hc, go_sem]
          · -- 17: slot 56 := Op.move t7
            refine ob_yes fun f w' hb hp => ?_
            simp [PreOf, factOf, valOf, Ph.is, Ph.by_, Ph.any, Region.binds] at hp
            refine ⟨by simp [Gd, valOf, hp], ?_⟩
            refine mild_val (.int .u32 (ah : Int)) ?_ rfl
            simp [execOp, evalF, hp]
          · -- 18: slot 57 := Op.move t1
            refine ob_yes fun f w' hb hp => ?_
            simp [PreOf, factOf, valOf, Ph.is, Ph.by_, Ph.any, Region.binds] at hp
            refine ⟨by simp [Gd, valOf, hp], ?_⟩
            refine mild_val (.int .u32 (to : Int)) ?_ rfl
            simp [execOp, evalF, hp]
          · -- 19: slot 58 := Op.call   value (Operand.func 18), args := #[t55, t56, t57], argTypes := #[32, 24, 24]  
            refine ob_yes fun f w' hb hp => ?_
            simp [PreOf, factOf, valOf, Ph.is, Ph.by_, Ph.any, Region.binds] at hp
            refine ⟨by simp [Gd, valOf, hp], ?_⟩
            refine mild_call 18 _ _ Tryz.f18 Tryz.func18 (by kernel_rfl) (by kernel_rfl) rfl ?_
            simp [evalF, hp, Ph.is, Ph.by_, Ph.any]
            refine (HN.out w' (Hb2.out.trans (hb.mono (by have := Hb2.out.size; omega)))).mono fun ev w8 h => ?_
            obtain ⟨rfl, h2⟩ := h
            exact ⟨rfl, h2⟩
          · -- 20: slot 59 := Op.move t8
            refine ob_yes fun f w' hb hp => ?_
            simp [PreOf, factOf, valOf, Ph.is, Ph.by_, Ph.any, Region.binds] at hp
            refine ⟨by simp [Gd, valOf, hp], ?_⟩
            refine mild_val (.int .u64 (u : Int)) ?_ rfl
            simp [execOp, evalF, hp]
          · -- 21: slot 60 := Op.call   value (Operand.func 17), args := #[t43, t48, t51, t58, t59], argTypes := #[24, 24, 4, 4, 23]  
            refine ob_yes fun f w' hb hp => ?_
            simp [PreOf, factOf, valOf, Ph.is, Ph.by_, Ph.any, Region.binds] at hp
            refine ⟨by simp [Gd, valOf, hp], ?_⟩
            refine mild_call 17 _ _ Tryz.f17 Tryz.func17 (by kernel_rfl) (by kernel_rfl) rfl ?_
            simp [evalF, hp, Ph.is, Ph.by_, Ph.any]
            refine (accepts_any w' p q u (by omega) (by omega) bk nr).mono fun ev w8 h => ?_
            obtain ⟨rfl, rfl⟩ := h
            exact ⟨by rw [HR2.out], Below.refl _ _⟩
          · -- 22: slot 6 := Op.assign t60
            refine ob_yes fun f w' hb hp => ?_
            simp [PreOf, factOf, valOf, Ph.is, Ph.by_, Ph.any, Region.binds] at hp
            refine ⟨by simp [Gd, valOf, hp], ?_⟩
            refine mild_val (.bool r) ?_ rfl
            simp [execOp, evalF, hp]
        · intro f w9 hb9 hp
          simp only [PostOf, Ph.is, Ph.by_, Ph.any] at hp
          obtain ⟨h0, h1, h2, h3, h4, h5, h6, h7, h8, h9, h10, h11, h12, h13, h14, h15, h16, h17, h18, h19, h20, h21, h22, _⟩ := hp
          simp only [fills, List.foldl_cons, List.foldl_nil, Act.put, List.setIfInBounds_toArray, List.set_cons_zero, List.set_cons_succ, h0, h1, h2, h3, h4, h5, h6, h7, h8, h9, h10, h11, h12, h13, h14, h15, h16, h17, h18, h19, h20, h21, h22]
          clear h0 h1 h2 h3 h4 h5 h6 h7 h8 h9 h10 h11 h12 h13 h14 h15 h16 h17 h18 h19 h20 h21 h22
          go_wp2_with fail
          go_ret
          exact ⟨rfl, bstep Hb2.out hb9⟩
  · have hkb : ((kd : Int) == 2) = false := beq_eq_false_iff_ne.2 (by omega)
    have hkn : ((kd : Int) != 2) = true := by simp; omega
    have HT : Hid (r = true) := Lib.hid (by rw [HR.out]; simp [hk2])
    go_wp2_with fail
    go_ret
    exact ⟨by rw [HT.out]; rfl, Below.refl _ _⟩
end Go.Proofs.YtcffeepgfjpcaaaGreat

namespace Go.Proofs.YtcffeepgfjpcaaaGreat
set_option linter.unusedSimpArgs false
set_option linter.unusedVariables false
open Go.RowKit

/-- the neighbour of a try: t: the table of the arcs l -/
def candP (j : GJob) (uk ut : UInt64) (l : List GArc) (t : List GCell) (tr : Nat) : UInt32 :=
  (l.getD (ival l (rmp l t (belowU (drawU j.seed uk ut (UInt64.ofNat (2 * tr + 1))) (ptotal l))).1).1 ⟨0, 0⟩).to
def testP (j : GJob) (uk ut : UInt64) (tr : Nat) : Nat := belowU (drawU j.seed uk ut (UInt64.ofNat (2 * tr))) (j.p.toNat * j.q.toNat)
/-- the first try, from tr on, whose neighbour is taken; near: is there an arc from ahead? -/
def tryP (j : GJob) (uk ut : UInt64) (n ah : Nat) (near : UInt32 → Bool) (l : List GArc) (t : List GCell) : Nat → Nat → Option UInt32
  | 0, _ => none
  | k + 1, tr => if takesJ j n (candP j uk ut l t tr).toNat ah (testP j uk ut tr) (near (candP j uk ut l t tr)) = true then some (candP j uk ut l t tr) else tryP j uk ut n ah near l t k (tr + 1)
def nearP (R : List GRow) (v t : UInt32) : Bool := (arcsR R v).any fun a => a.to == t
/-- the next vertex; tab: the table of arcs -/
def nextP (R : List GRow) (tab : List GArc → List GCell) (j : GJob) (uk : UInt64) (path : List UInt32) : Option UInt32 :=
  let l := arcsR R (path.getD (path.length - 1) 0)
  let ut := UInt64.ofNat (path.length - 1)
  if l.length = 0 then none
  else if backJ j uk ut = true then some (path.getD 0 0)
  else tryP j uk ut path.length (path.getD (path.length - 2) 0).toNat (nearP R (path.getD (path.length - 2) 0)) l (tab l) j.tries.toNat 0
def goesP (R : List GRow) (tab : List GArc → List GCell) (j : GJob) (uk : UInt64) : Nat → List UInt32 → List UInt32
  | 0, path => path
  | k + 1, path => match nextP R tab j uk path with
    | none => path
    | some v => goesP R tab j uk k (path ++ [v])
end Go.Proofs.YtcffeepgfjpcaaaGreat

namespace Go.Proofs.YtcffeepgfjpcaaaGreat
set_option linter.unusedSimpArgs false
set_option linter.unusedVariables false
open Go.RowKit

theorem mayOk_parts {l : List GArc} {t : List GCell} (h : mayOk l t = true) : l.length = t.length ∧ nbrs l = true ∧ (∀ c ∈ t, c.cut.toNat ≤ gsum l ∧ c.oth.toNat < t.length) ∧ ∀ k (hk : k < l.length), cnt (gsum l) (k : Int) t = l.length * (l[k]).wt.toNat := by
  refine ⟨?_, ?_, ?_, ?_⟩
  · exact Decidable.byContradiction fun e => by rw [mayOk_no2 e] at h; cases h
  · cases hn : nbrs l with
    | true => rfl
    | false => rw [mayOk_no1 hn] at h; cases h
  · have hg : cgood (gsum l) t.length t = true := by
      cases hc : cgood (gsum l) t.length t with
      | true => rfl
      | false => rw [mayOk_no3 hc] at h; cases h
    intro c hc
    have := List.all_eq_true.1 hg c hc
    simp at this
    exact this
  · intro k hk
    exact Decidable.byContradiction fun e => by rw [mayOk_no4 k hk e] at h; cases h
/-- by a table that is right each draw comes to a neighbour -/
theorem palias_ok {l : List GArc} {t : List GCell} (h : mayOk l t = true) {x : Nat} (hx : x < ptotal l) : palias l t x = (toP (gsum l) t x, true) ∧ toP (gsum l) t x < l.length := by
  obtain ⟨h1, h2, h3, h4⟩ := mayOk_parts h
  obtain ⟨hg, hW0, hk, hW1⟩ := ptotal_pos hx
  have hk2 : x / gsum l < t.length := by omega
  have hc := h3 _ (List.getElem_mem hk2)
  rw [palias_yes h1 hx hk2]
  have ht : toP (gsum l) t x = if x % gsum l < (t[x / gsum l]).cut.toNat then x / gsum l else (t[x / gsum l]).oth.toNat := by
    unfold toP
    simp only [List.getElem?_eq_getElem hk2, Option.getD_some]
  rw [ht]
  split
  · exact ⟨rfl, hk⟩
  · exact ⟨by rw [if_pos (by omega)], by omega⟩
theorem rmp_ok {l : List GArc} {t : List GCell} (h : mayOk l t = true) {x : Nat} (hx : x < ptotal l) : rmp l t x = (frontAt l (toP (gsum l) t x) + metC (gsum l) t (toP (gsum l) t x) x, true) := by
  obtain ⟨h1, _⟩ := palias_ok h hx
  unfold rmp
  rw [h1, if_pos ⟨rfl, h⟩]
theorem ptotal_eq {l : List GArc} {x : Nat} (hx : x < ptotal l) : ptotal l = gsum l * l.length := by
  obtain ⟨hg, _⟩ := ptotal_pos hx
  unfold ptotal
  rw [if_pos hg]
/-- all draws that come to a neighbour -/
theorem met_all {l : List GArc} {t : List GCell} (h : mayOk l t = true) (hl : t.length ≤ 1048576) (hg : gsum l ≤ 2147483647) (k : Nat) (hk : k < l.length) : metC (gsum l) t k (gsum l * t.length) = l.length * (l[k]).wt.toNat := by
  obtain ⟨h1, h2, h3, h4⟩ := mayOk_parts h
  have h5 := h4 k hk
  have h6 := metC_all (gsum l) t k fun c hc => (h3 c hc).1
  rw [cnt_n, ← h6, Nat.mod_eq_of_lt] at h5
  · exact h5
  · have := metC_le (gsum l) t k (gsum l * t.length)
    have : gsum l * t.length ≤ 2147483647 * 1048576 := Nat.mul_le_mul hg hl
    omega
end Go.Proofs.YtcffeepgfjpcaaaGreat

namespace Go.Proofs.YtcffeepgfjpcaaaGreat
set_option linter.unusedSimpArgs false
set_option linter.unusedVariables false
open Go.RowKit Go.Shelf
attribute [local go_sem] Oper.semAt_some

/-- the draw that is mapped to a number -/
def bck (l : List GArc) (t : List GCell) (y : Nat) : Nat × Bool :=
  if y < ptotal l ∧ mayOk l t = true then
    match backL (y - frontAt l (ivalN l y)) (pcs (gsum l) (ivalN l y) 0 t) with
    | some x => (x, true)
    | none => (0, false)
  else (0, false)
theorem ivalN_in {l : List GArc} {y : Nat} (hy : y < ptotal l) : ivalN l y < l.length ∧ frontAt l (ivalN l y) ≤ y ∧ y < frontAt l (ivalN l y + 1) := by
  have hall : y < frontAt l l.length := by rw [frontAt_all, ← ptotal_eq hy]; exact hy
  have : ∀ n, n ≤ l.length → y < frontAt l n → ∃ k, k < n ∧ frontAt l k ≤ y ∧ y < frontAt l (k + 1) := by
    intro n
    induction n with
    | zero => intro _ h; rw [frontAt_zero] at h; omega
    | succ n ih =>
      intro hn h
      rcases Nat.lt_or_ge y (frontAt l n) with h1 | h1
      · obtain ⟨k, h2, h3, h4⟩ := ih (by omega) h1
        exact ⟨k, by omega, h3, h4⟩
      · exact ⟨n, by omega, h1, h⟩
  obtain ⟨k, h2, h3, h4⟩ := this l.length (Nat.le_refl _) hall
  rw [ivalN_at l y k h2 h3 h4]
  exact ⟨h2, h3, h4⟩
/-- the number of a draw is told back -/
theorem bck_ok {l : List GArc} {t : List GCell} (h : mayOk l t = true) (hl : l.length ≤ 1048576) {y : Nat} (hy : y < ptotal l) :
    ∃ x, bck l t y = (x, true) ∧ backL (y - frontAt l (ivalN l y)) (pcs (gsum l) (ivalN l y) 0 t) = some x ∧ x < ptotal l ∧ toP (gsum l) t x = ivalN l y ∧ frontAt l (ivalN l y) + metC (gsum l) t (ivalN l y) x = y := by
  obtain ⟨h1, h2, h3, h4⟩ := mayOk_parts h
  obtain ⟨hk, hf1, hf2⟩ := ivalN_in hy
  obtain ⟨hg, hW0, _, hW1⟩ := ptotal_pos hy
  have hma := met_all h (by omega) hW1 (ivalN l y) hk
  have hfs := frontAt_succ l (ivalN l y) hk
  obtain ⟨x, q1, q2, q3, q4⟩ := backL_at (gsum l) (ivalN l y) t (fun c hc => (h3 c hc).1) (y - frontAt l (ivalN l y)) (by rw [hma]; omega) t.length 0 (by omega) (by rw [Nat.mul_zero]; exact Nat.zero_le _)
  rw [Nat.mul_zero, List.drop_zero] at q1
  have hm0 : metC (gsum l) t (ivalN l y) 0 = 0 := rfl
  rw [hm0, Nat.sub_zero] at q1
  refine ⟨x, ?_, q1, by rw [ptotal_eq hy, h1]; exact q4, q2, by omega⟩
  unfold bck
  rw [if_pos ⟨hy, h⟩, q1]
end Go.Proofs.YtcffeepgfjpcaaaGreat

namespace Go.Proofs.YtcffeepgfjpcaaaGreat
set_option linter.unusedSimpArgs false
set_option linter.unusedVariables false
open Go.RowKit

theorem one_to_one {l : List GArc} {t : List GCell} (h : mayOk l t = true) (hl : l.length ≤ 1048576) {x : Nat} (hx : x < ptotal l) :
    frontAt l (toP (gsum l) t x) + metC (gsum l) t (toP (gsum l) t x) x < ptotal l ∧ ivalN l (frontAt l (toP (gsum l) t x) + metC (gsum l) t (toP (gsum l) t x) x) = toP (gsum l) t x ∧
      bck l t (frontAt l (toP (gsum l) t x) + metC (gsum l) t (toP (gsum l) t x) x) = (x, true) := by
  obtain ⟨h1, h2, h3, h4⟩ := mayOk_parts h
  obtain ⟨hg, hW0, _, hW1⟩ := ptotal_pos hx
  have htl := (palias_ok h hx).2
  have hma := met_all h (by omega) hW1 _ htl
  have hfs := frontAt_succ l _ htl
  have hlt := metC_lt (gsum l) t (toP (gsum l) t x) x (gsum l * t.length) rfl (by rw [← h1, ← ptotal_eq hx]; exact hx)
  have hmo := frontAt_mono l (show toP (gsum l) t x + 1 ≤ l.length by omega)
  rw [frontAt_all, ← ptotal_eq hx] at hmo
  generalize hto : toP (gsum l) t x = to at *
  generalize hy : frontAt l to + metC (gsum l) t to x = y at *
  have hyt : y < ptotal l := by omega
  have hiv := ivalN_at l y to htl (by omega) (by omega)
  refine ⟨hyt, hiv, ?_⟩
  obtain ⟨x', q1, _, q3, q4, q5⟩ := bck_ok h hl hyt
  rw [hiv] at q4 q5
  have hxx : x' = x := by
    rcases Nat.lt_trichotomy x' x with c | c | c
    · have := metC_lt (gsum l) t to x' x q4 c
      omega
    · exact c
    · have := metC_lt (gsum l) t to x x' hto c
      omega
  rw [q1, hxx]
end Go.Proofs.YtcffeepgfjpcaaaGreat

namespace Go.Proofs.YtcffeepgfjpcaaaGreat
set_option linter.unusedSimpArgs false
set_option linter.unusedVariables false
open Go.RowKit

set_option maxRecDepth 100000 in
set_option maxHeartbeats 800000 in
theorem isnan32 (w : World) (a : Nat) (ha : a < 4294967296) : Calls Tryz.prog 104 #[.int .u32 (a : Int)] w fun e w' => e = .returned (.bool false) ∧ w = w' := by
  go_enter Tryz.func104, Tryz.ntmps104
  go_wp2_with fail
  go_ret
  exact ⟨rfl, rfl⟩
def cmp3 (a b : Nat) : Int := if a < b then -1 else if b < a then 1 else 0
set_option maxRecDepth 100000 in
set_option maxHeartbeats 800000 in
theorem compare32 (w : World) (a b : Nat) (ha : a < 4294967296) (hb : b < 4294967296) : Calls Tryz.prog 74 #[.int .u32 (a : Int), .int .u32 (b : Int)] w fun e w' => e = .returned (.int .i64 (cmp3 a b)) ∧ w = w' := by
  have hc : cmp3 a b = if a < b then -1 else if b < a then 1 else 0 := rfl
  by_cases h1 : a < b
  · rw [if_pos h1] at hc
    rw [hc]
    clear hc
    go_enter Tryz.func74, Tryz.ntmps74
    go_wp2_with fail
    refine (isnan32 w a ha).mono ?_
    rintro _ _ ⟨rfl, rfl⟩
    go_wp2_with fail
    refine (isnan32 w b hb).mono ?_
    rintro _ _ ⟨rfl, rfl⟩
    go_wp2_with fail
    go_ret
    exact ⟨rfl, rfl⟩
  · rw [if_neg h1] at hc
    have hd1 : decide ((a : Int) < (b : Int)) = false := by simp; omega
    have hd1' : decide (a < b) = false := by simp; omega
    by_cases h2 : b < a
    · rw [if_pos h2] at hc
      rw [hc]
      clear hc h1
      go_enter Tryz.func74, Tryz.ntmps74
      go_wp2_with fail
      refine (isnan32 w a ha).mono ?_
      rintro _ _ ⟨rfl, rfl⟩
      go_wp2_with fail
      refine (isnan32 w b hb).mono ?_
      rintro _ _ ⟨rfl, rfl⟩
      go_wp2_with fail
      go_ret
      exact ⟨rfl, rfl⟩
    · rw [if_neg h2] at hc
      rw [hc]
      have hd2 : decide ((b : Int) < (a : Int)) = false := by simp; omega
      have hd2' : decide (b < a) = false := by simp; omega
      clear hc h1 h2
      go_enter Tryz.func74, Tryz.ntmps74
      go_wp2_with fail
      refine (isnan32 w a ha).mono ?_
      rintro _ _ ⟨rfl, rfl⟩
      go_wp2_with fail
      refine (isnan32 w b hb).mono ?_
      rintro _ _ ⟨rfl, rfl⟩
      go_wp2_with fail
      go_ret
      exact ⟨rfl, rfl⟩
set_option maxRecDepth 100000 in
set_option maxHeartbeats 800000 in
theorem find1_any (w : World) (a x b : Nat) (ha : a < 4294967296) (hb : b < 4294967296) : Calls Tryz.prog 76 #[.agg #[.int .u32 (a : Int), .int .u32 (x : Int)], .int .u32 (b : Int)] w fun e w' => e = .returned (.int .i64 (cmp3 a b)) ∧ Below w.heap.size w w' := by
  have hc := fun W => compare32 W a b ha hb
  have Hc := Lib.hid hc
  clear hc
  generalize cmp3 a b = c at *
  go_enter Tryz.func76, Tryz.ntmps76
  go_wp2_with fail
  refine (Hc.out _).mono ?_
  rintro _ _ ⟨rfl, rfl⟩
  go_wp2_with fail
  go_ret
  exact ⟨rfl, balloc _ _⟩
/-- where an end stands among rising ones -/
def FoundAt (l : List GArc) (t : Nat) (i : Nat) (b : Bool) : Prop :=
  i ≤ l.length ∧ (∀ j, (h : j < l.length) → j < i → (l[j]).to.toNat < t) ∧ (∀ j, (h : j < l.length) → i ≤ j → t ≤ (l[j]).to.toNat) ∧ b = decide (∃ h : i < l.length, (l[i]).to.toNat = t)
set_option maxRecDepth 100000 in
set_option maxHeartbeats 1600000 in
theorem bsf_any (w : World) (B : Nat) (v : Value) (l : List GArc) (hl : l.length ≤ 4294967296) (t : Nat) (ht : t < 4294967296) (h : ByA w B v l) (hB : B ≤ w.heap.size) (hs : ∀ i j, (hi : i < j) → (hj : j < l.length) → (l[i]'(by omega)).to.toNat < (l[j]).to.toNat) :
    Calls Tryz.prog 75 #[v, .int .u32 (t : Int), .func (.func 76) #[] #[]] w fun e w' => ∃ i b, e = .returned (.tuple #[.int .i64 (i : Nat), .bool b]) ∧ FoundAt l t i b ∧ Below w.heap.size w w' := by
  obtain ⟨A, c, rfl, hc1, hc2⟩ := h.form
  unfold maxLen at hc2
  have Hs := Lib.hid hs
  clear hs
  go_enter Tryz.func75, Tryz.ntmps75
  go_wp2_with fail
  go_loopw [9, 10] (fun lo hi wr => ∃ a b : Nat, lo = .int .i64 a ∧ hi = .int .i64 b ∧ a ≤ b ∧ b ≤ l.length ∧ (∀ j, (h : j < l.length) → j < a → (l[j]).to.toNat < t) ∧ (∀ j, (h : j < l.length) → b ≤ j → t ≤ (l[j]).to.toNat) ∧ Below w.heap.size w wr) (fun lo hi _ => (intOf hi).toNat - (intOf lo).toNat)
  case atStart => exact ⟨0, l.length, rfl, rfl, by omega, by omega, fun j _ hj => by omega, fun j hj1 hj2 => by omega, Below.refl _ _⟩
  case round =>
    obtain ⟨a, b, rfl, rfl, hab, hbn, hlo, hhi, hbl⟩ := hrel
    have hsz := hbl.size
    have Hlo := Lib.hid hlo
    have Hhi := Lib.hid hhi
    clear hlo hhi
    by_cases hlt : a < b
    · obtain ⟨m, hm⟩ : ∃ m, m = (a + b) / 2 := ⟨_, rfl⟩
      have hmi : ((a : Int) + (b : Int)) / 2 = ((m : Nat) : Int) := by omega
      have hml : m < l.length := by omega
      obtain ⟨ad, rfl, hadb, hx0, hx1⟩ := (h.below (hbl.mono hB)).cells m hml
      have hto := u32_lt (l[m]).to
      have hf := fun W => find1_any W (l[m]).to.toNat (l[m]).wt.toNat t hto ht
      have Hf := Lib.hid hf
      have hcm : cmp3 (l[m]).to.toNat t = if (l[m]).to.toNat < t then -1 else if t < (l[m]).to.toNat then 1 else 0 := rfl
      have hlow : (l[m]).to.toNat < t → ∀ j, (h : j < l.length) → j < m + 1 → (l[j]).to.toNat < t := fun hl j hj hjm => by
        rcases Nat.lt_or_ge j m with h | h
        · have := Hs.out j m h hml; omega
        · obtain rfl : j = m := by omega
          exact hl
      have hhigh : ¬ (l[m]).to.toNat < t → ∀ j, (h : j < l.length) → m ≤ j → t ≤ (l[j]).to.toNat := fun hl j hj hjm => by
        rcases Nat.lt_or_ge m j with h | h
        · have := Hs.out m j h hj; omega
        · obtain rfl : j = m := by omega
          omega
      have Hlow := Lib.hid hlow
      have Hhigh := Lib.hid hhigh
      have Hcm := Lib.hid hcm
      have Hm := Lib.hid hm
      clear hf hlow hhigh hcm hm
      generalize cmp3 (l[m]).to.toNat t = C at *
      generalize (l[m]).wt.toNat = wx at *
      generalize (l[m]).to.toNat = x at *
      by_cases hcase : x < t
      · have hC : C = -1 := by rw [Hcm.out, if_pos hcase]
        subst hC
        have hlow := Hlow.out hcase
        have Hlow2 := Lib.hid hlow
        clear hlow hcase Hcm Hhigh Hlow
        go_wp2_with (go_at_call 76; refine (Hf.out _).mono ?_; rintro _ w1 ⟨rfl, hb1⟩)
        go_roundw
        case rel => exact ⟨m + 1, b, by go_num, rfl, by have := Hm.out; omega, hbn, Hlow2.out, Hhi.out, bstep hbl hb1⟩
        case measure => have := Hm.out; simp [intOf]; omega
      · have hC : C = 0 ∨ C = 1 := by
          rw [Hcm.out, if_neg hcase]
          split
          · right; rfl
          · left; rfl
        have hhigh := Hhigh.out hcase
        have Hhigh2 := Lib.hid hhigh
        clear hhigh hcase Hcm Hhigh Hlow
        rcases hC with rfl | rfl
        all_goals
          go_wp2_with (go_at_call 76; refine (Hf.out _).mono ?_; rintro _ w1 ⟨rfl, hb1⟩)
          go_roundw
          case rel => exact ⟨a, m, rfl, by go_num, by have := Hm.out; omega, by omega, Hlo.out, Hhigh2.out, bstep hbl hb1⟩
          case measure => have := Hm.out; simp [intOf]; omega
    · obtain rfl : b = a := by omega
      by_cases hbl2 : b < l.length
      · obtain ⟨ad, rfl, hadb, hx0, hx1⟩ := (h.below (hbl.mono hB)).cells b hbl2
        have hto := u32_lt (l[b]).to
        have hf := fun W => find1_any W (l[b]).to.toNat (l[b]).wt.toNat t hto ht
        have Hf := Lib.hid hf
        have hcm : cmp3 (l[b]).to.toNat t = if (l[b]).to.toNat < t then -1 else if t < (l[b]).to.toNat then 1 else 0 := rfl
        have hge := Hhi.out b hbl2 (Nat.le_refl _)
        have hfd : FoundAt l t b (decide (∃ h : b < l.length, (l[b]).to.toNat = t)) := ⟨hbn, Hlo.out, Hhi.out, rfl⟩
        rw [if_neg (by omega)] at hcm
        have hdec : decide (∃ h : b < l.length, (l[b]).to.toNat = t) = decide ((l[b]).to.toNat = t) := decide_eq_decide.2 ⟨fun ⟨_, h⟩ => h, fun h => ⟨hbl2, h⟩⟩
        rw [hdec] at hfd
        have Hfd := Lib.hid hfd
        clear hf hdec hfd
        generalize cmp3 (l[b]).to.toNat t = C at *
        generalize (l[b]).wt.toNat = wx at *
        generalize (l[b]).to.toNat = x at *
        by_cases hcase : t < x
        · rw [if_pos hcase] at hcm
          subst hcm
          have hD : decide (x = t) = false := by simp; omega
          rw [hD] at Hfd
          clear hcase hD hge
          go_wp2_with (go_at_call 76; refine (Hf.out _).mono ?_; rintro _ w1 ⟨rfl, hb1⟩)
          go_ret2
          exact ⟨b, _, rfl, Hfd.out, bstep hbl hb1⟩
        · rw [if_neg hcase] at hcm
          subst hcm
          have hD : decide (x = t) = true := by simp; omega
          rw [hD] at Hfd
          clear hcase hD hge
          go_wp2_with (go_at_call 76; refine (Hf.out _).mono ?_; rintro _ w1 ⟨rfl, hb1⟩)
          go_ret2
          exact ⟨b, _, rfl, Hfd.out, bstep hbl hb1⟩
      · have hfd : FoundAt l t b (decide (∃ h : b < l.length, (l[b]).to.toNat = t)) := ⟨hbn, Hlo.out, Hhi.out, rfl⟩
        rw [decide_eq_false (fun ⟨h, _⟩ => hbl2 h)] at hfd
        have Hfd := Lib.hid hfd
        have hd : decide (b < l.length) = false := by simpa using hbl2
        clear hfd
        go_wp2_with fail
        go_ret2
        exact ⟨b, _, rfl, Hfd.out, hbl⟩

theorem rise_lt (l : List GArc) (hr : rise none l = true) : ∀ i j, (hi : i < j) → (hj : j < l.length) → (l[i]'(by omega)).to.toNat < (l[j]).to.toNat := by
  intro i j hi hj
  induction j with
  | zero => omega
  | succ j ih =>
    have h1 := nextOf_le l (j + 1) hj hr
    rw [nextOf_succ l j (by omega)] at h1
    rcases Nat.lt_or_ge i j with h | h
    · have := ih h (by omega); omega
    · obtain rfl : i = j := by omega
      omega
set_option maxRecDepth 100000 in
set_option maxHeartbeats 800000 in
theorem gapsfind_any (w : World) (B : Nat) (v : Value) (l : List GArc) (hl : l.length ≤ 4294967296) (t : Nat) (ht : t < 4294967296) (h : ByA w B v l) (hB : B ≤ w.heap.size) (hr : rise none l = true) :
    Calls Tryz.prog 44 #[v, .int .u32 (t : Int)] w fun e w' => ∃ i b, e = .returned (.tuple #[.int .i64 (i : Nat), .bool b]) ∧ FoundAt l t i b ∧ Below w.heap.size w w' := by
  have hs := bsf_any w B v l hl t ht h hB (rise_lt l hr)
  have Hs := Lib.hid hs
  obtain ⟨A, c, rfl, hc1, hc2⟩ := h.form
  clear hs h
  go_enter Tryz.func44, Tryz.ntmps44
  go_wp2_with fail
  refine Hs.out.mono ?_
  rintro _ w1 ⟨i, b, rfl, hf, hb1⟩
  have Hf := Lib.hid hf
  clear hf
  go_wp2_with fail
  go_ret2
  exact ⟨i, b, rfl, Hf.out, hb1⟩
end Go.Proofs.YtcffeepgfjpcaaaGreat

namespace Go.Proofs.YtcffeepgfjpcaaaGreat
set_option linter.unusedSimpArgs false
set_option linter.unusedVariables false
open Go.RowKit

set_option maxRecDepth 100000 in
set_option maxHeartbeats 800000 in
theorem rfind1_any (w : World) (a x c : Nat) (A : Option Addr) (b : Nat) (ha : a < 4294967296) (hb : b < 4294967296) : Calls Tryz.prog 73 #[.agg #[.int .u32 (a : Int), .slice A x c], .int .u32 (b : Int)] w fun e w' => e = .returned (.int .i64 (cmp3 a b)) ∧ Below w.heap.size w w' := by
  have hc := fun W => compare32 W a b ha hb
  have Hc := Lib.hid hc
  clear hc
  generalize cmp3 a b = cc at *
  go_enter Tryz.func73, Tryz.ntmps73
  go_wp2_with fail
  refine (Hc.out _).mono ?_
  rintro _ _ ⟨rfl, rfl⟩
  go_wp2_with fail
  go_ret
  exact ⟨rfl, balloc _ _⟩
/-- where an end stands among rising ones -/
def RowAt (l : List GRow) (t : Nat) (i : Nat) (b : Bool) : Prop :=
  i ≤ l.length ∧ (∀ j, (h : j < l.length) → j < i → (l[j]).fr.toNat < t) ∧ (∀ j, (h : j < l.length) → i ≤ j → t ≤ (l[j]).fr.toNat) ∧ b = decide (∃ h : i < l.length, (l[i]).fr.toNat = t)
set_option maxRecDepth 100000 in
set_option maxHeartbeats 1600000 in
theorem bsfR_any (w : World) (B : Nat) (v : Value) (l : List GRow) (hl : l.length ≤ 4294967296) (t : Nat) (ht : t < 4294967296) (h : ByRw w B v l) (hB : B ≤ w.heap.size) (hs : ∀ i j, (hi : i < j) → (hj : j < l.length) → (l[i]'(by omega)).fr.toNat < (l[j]).fr.toNat) :
    Calls Tryz.prog 72 #[v, .int .u32 (t : Int), .func (.func 73) #[] #[]] w fun e w' => ∃ i b, e = .returned (.tuple #[.int .i64 (i : Nat), .bool b]) ∧ RowAt l t i b ∧ Below w.heap.size w w' := by
  obtain ⟨A, c, rfl, hc1, hc2⟩ := h.form
  unfold maxLen at hc2
  have Hs := Lib.hid hs
  clear hs
  go_enter Tryz.func72, Tryz.ntmps72
  go_wp2_with fail
  go_loopw [9, 10] (fun lo hi wr => ∃ a b : Nat, lo = .int .i64 a ∧ hi = .int .i64 b ∧ a ≤ b ∧ b ≤ l.length ∧ (∀ j, (h : j < l.length) → j < a → (l[j]).fr.toNat < t) ∧ (∀ j, (h : j < l.length) → b ≤ j → t ≤ (l[j]).fr.toNat) ∧ Below w.heap.size w wr) (fun lo hi _ => (intOf hi).toNat - (intOf lo).toNat)
  case atStart => exact ⟨0, l.length, rfl, rfl, by omega, by omega, fun j _ hj => by omega, fun j hj1 hj2 => by omega, Below.refl _ _⟩
  case round =>
    obtain ⟨a, b, rfl, rfl, hab, hbn, hlo, hhi, hbl⟩ := hrel
    have hsz := hbl.size
    have Hlo := Lib.hid hlo
    have Hhi := Lib.hid hhi
    clear hlo hhi
    by_cases hlt : a < b
    · obtain ⟨m, hm⟩ : ∃ m, m = (a + b) / 2 := ⟨_, rfl⟩
      have hmi : ((a : Int) + (b : Int)) / 2 = ((m : Nat) : Int) := by omega
      have hml : m < l.length := by omega
      obtain ⟨ad, Aa, ca, rfl, hadb, hx0, hx1, -⟩ := (h.below (hbl.mono hB)).cells m hml
      have hto := u32_lt (l[m]).fr
      have hf := fun W => rfind1_any W (l[m]).fr.toNat (l[m]).arcs.length ca Aa t hto ht
      have Hf := Lib.hid hf
      have hcm : cmp3 (l[m]).fr.toNat t = if (l[m]).fr.toNat < t then -1 else if t < (l[m]).fr.toNat then 1 else 0 := rfl
      have hlow : (l[m]).fr.toNat < t → ∀ j, (h : j < l.length) → j < m + 1 → (l[j]).fr.toNat < t := fun hl j hj hjm => by
        rcases Nat.lt_or_ge j m with h | h
        · have := Hs.out j m h hml; omega
        · obtain rfl : j = m := by omega
          exact hl
      have hhigh : ¬ (l[m]).fr.toNat < t → ∀ j, (h : j < l.length) → m ≤ j → t ≤ (l[j]).fr.toNat := fun hl j hj hjm => by
        rcases Nat.lt_or_ge m j with h | h
        · have := Hs.out m j h hj; omega
        · obtain rfl : j = m := by omega
          omega
      have Hlow := Lib.hid hlow
      have Hhigh := Lib.hid hhigh
      have Hcm := Lib.hid hcm
      have Hm := Lib.hid hm
      clear hf hlow hhigh hcm hm
      generalize cmp3 (l[m]).fr.toNat t = C at *
      generalize (l[m]).arcs.length = wx at *
      generalize (l[m]).fr.toNat = x at *
      by_cases hcase : x < t
      · have hC : C = -1 := by rw [Hcm.out, if_pos hcase]
        subst hC
        have hlow := Hlow.out hcase
        have Hlow2 := Lib.hid hlow
        clear hlow hcase Hcm Hhigh Hlow
        go_wp2_with (go_at_call 73; refine (Hf.out _).mono ?_; rintro _ w1 ⟨rfl, hb1⟩)
        go_roundw
        case rel => exact ⟨m + 1, b, by go_num, rfl, by have := Hm.out; omega, hbn, Hlow2.out, Hhi.out, bstep hbl hb1⟩
        case measure => have := Hm.out; simp [intOf]; omega
      · have hC : C = 0 ∨ C = 1 := by
          rw [Hcm.out, if_neg hcase]
          split
          · right; rfl
          · left; rfl
        have hhigh := Hhigh.out hcase
        have Hhigh2 := Lib.hid hhigh
        clear hhigh hcase Hcm Hhigh Hlow
        rcases hC with rfl | rfl
        all_goals
          go_wp2_with (go_at_call 73; refine (Hf.out _).mono ?_; rintro _ w1 ⟨rfl, hb1⟩)
          go_roundw
          case rel => exact ⟨a, m, rfl, by go_num, by have := Hm.out; omega, by omega, Hlo.out, Hhigh2.out, bstep hbl hb1⟩
          case measure => have := Hm.out; simp [intOf]; omega
    · obtain rfl : b = a := by omega
      by_cases hbl2 : b < l.length
      · obtain ⟨ad, Aa, ca, rfl, hadb, hx0, hx1, -⟩ := (h.below (hbl.mono hB)).cells b hbl2
        have hto := u32_lt (l[b]).fr
        have hf := fun W => rfind1_any W (l[b]).fr.toNat (l[b]).arcs.length ca Aa t hto ht
        have Hf := Lib.hid hf
        have hcm : cmp3 (l[b]).fr.toNat t = if (l[b]).fr.toNat < t then -1 else if t < (l[b]).fr.toNat then 1 else 0 := rfl
        have hge := Hhi.out b hbl2 (Nat.le_refl _)
        have hfd : RowAt l t b (decide (∃ h : b < l.length, (l[b]).fr.toNat = t)) := ⟨hbn, Hlo.out, Hhi.out, rfl⟩
        rw [if_neg (by omega)] at hcm
        have hdec : decide (∃ h : b < l.length, (l[b]).fr.toNat = t) = decide ((l[b]).fr.toNat = t) := decide_eq_decide.2 ⟨fun ⟨_, h⟩ => h, fun h => ⟨hbl2, h⟩⟩
        rw [hdec] at hfd
        have Hfd := Lib.hid hfd
        clear hf hdec hfd
        generalize cmp3 (l[b]).fr.toNat t = C at *
        generalize (l[b]).arcs.length = wx at *
        generalize (l[b]).fr.toNat = x at *
        by_cases hcase : t < x
        · rw [if_pos hcase] at hcm
          subst hcm
          have hD : decide (x = t) = false := by simp; omega
          rw [hD] at Hfd
          clear hcase hD hge
          go_wp2_with (go_at_call 73; refine (Hf.out _).mono ?_; rintro _ w1 ⟨rfl, hb1⟩)
          go_ret2
          exact ⟨b, _, rfl, Hfd.out, bstep hbl hb1⟩
        · rw [if_neg hcase] at hcm
          subst hcm
          have hD : decide (x = t) = true := by simp; omega
          rw [hD] at Hfd
          clear hcase hD hge
          go_wp2_with (go_at_call 73; refine (Hf.out _).mono ?_; rintro _ w1 ⟨rfl, hb1⟩)
          go_ret2
          exact ⟨b, _, rfl, Hfd.out, bstep hbl hb1⟩
      · have hfd : RowAt l t b (decide (∃ h : b < l.length, (l[b]).fr.toNat = t)) := ⟨hbn, Hlo.out, Hhi.out, rfl⟩
        rw [decide_eq_false (fun ⟨h, _⟩ => hbl2 h)] at hfd
        have Hfd := Lib.hid hfd
        have hd : decide (b < l.length) = false := by simpa using hbl2
        clear hfd
        go_wp2_with fail
        go_ret2
        exact ⟨b, _, rfl, Hfd.out, hbl⟩
/-- a graph in memory: its rows, in blocks below B -/
def GraphAt (w : World) (B g : Nat) (R : List GRow) : Prop := ∃ v, BoxAt 78 w g [v] ∧ g < B ∧ ByRw w B v R
theorem GraphAt.below {w w' : World} {B g : Nat} {R : List GRow} (h : GraphAt w B g R) (hb : Below B w w') : GraphAt w' B g R := by
  obtain ⟨v, h1, h2, h3⟩ := h
  exact ⟨v, h1.below h2 hb, h2, h3.below hb⟩
theorem GraphAt.more {w : World} {B B' g : Nat} {R : List GRow} (h : GraphAt w B g R) (hB : B ≤ B') : GraphAt w B' g R := by
  obtain ⟨v, h1, h2, h3⟩ := h
  exact ⟨v, h1, by omega, h3.more hB⟩
theorem pair_lt (R : List GRow) (h : R.Pairwise fun a b => a.fr.toNat < b.fr.toNat) : ∀ i j, (hi : i < j) → (hj : j < R.length) → (R[i]'(by omega)).fr.toNat < (R[j]).fr.toNat := fun i j hi hj => List.pairwise_iff_getElem.1 h i j (by omega) hj hi
theorem arcsR_at (R : List GRow) (h : R.Pairwise fun a b => a.fr.toNat < b.fr.toNat) (i : Nat) (hi : i < R.length) : arcsR R (R[i]).fr = (R[i]).arcs := by
  induction R generalizing i with
  | nil => simp at hi
  | cons r R ih =>
    rw [List.pairwise_cons] at h
    unfold arcsR
    cases i with
    | zero => rw [List.getElem_cons_zero, List.find?_cons_of_pos (by simp)]
    | succ i =>
      have hi2 : i < R.length := by simpa using hi
      have := h.1 R[i] (List.getElem_mem hi2)
      rw [List.getElem_cons_succ, List.find?_cons_of_neg (by simp; intro e; rw [e] at this; omega)]
      exact ih h.2 i hi2
theorem arcsR_no (R : List GRow) (v : UInt32) (h : ∀ j, (hj : j < R.length) → (R[j]).fr ≠ v) : arcsR R v = [] := by
  unfold arcsR
  have : R.find? (fun r => r.fr == v) = none := List.find?_eq_none.2 fun r hr => by
    obtain ⟨j, hj, rfl⟩ := List.mem_iff_getElem.1 hr
    simpa using h j hj
  rw [this]
set_option maxRecDepth 100000 in
set_option maxHeartbeats 1600000 in
theorem find_any22 (w : World) (B g : Nat) (R : List GRow) (v : UInt32) (h : GraphAt w B g R) (hB : B ≤ w.heap.size) (hl : R.length ≤ 1048576) (hup : R.Pairwise fun a b => a.fr.toNat < b.fr.toNat) :
    Calls Tryz.prog 42 #[.pointer (some ⟨g, 0, none⟩), .int .u32 (v.toNat : Int)] w fun e w' => ∃ va, e = .returned va ∧ ByA w' B va (arcsR R v) ∧ Below w.heap.size w w' := by
  obtain ⟨vr, h1, h2, h3⟩ := h
  obtain ⟨A, c, rfl, hc1, hc2⟩ := h3.form
  unfold maxLen at hc2
  have hs := bsfR_any w B _ R (by omega) v.toNat (u32_lt v) h3 hB (pair_lt R hup)
  have Hs := Lib.hid hs
  have H3 := Lib.hid h3
  have H1 := Lib.hid h1
  have Hup := Lib.hid hup
  have hc0 := h1.cell 0 _ rfl
  clear hs h1 h3 hup
  go_enter Tryz.func42, Tryz.ntmps42
  go_wp2_with fail
  refine Hs.out.mono ?_
  rintro _ w1 ⟨i, b, rfl, hf, hb1⟩
  obtain ⟨f1, f2, f3, f4⟩ := hf
  have hc1' := (H1.out.bl_ hb1).cell 0 _ rfl
  have HX := Lib.hid hb1
  clear hb1 hc0
  by_cases hi : i < R.length
  · obtain ⟨ad, Aa, ca, rfl, hab, hx0, hx1, hya⟩ := (H3.out.below (HX.out.mono hB)).cells i hi
    have Hya := Lib.hid hya
    by_cases he : (R[i]).fr.toNat = v.toNat
    · have hb : b = true := by rw [f4]; exact decide_eq_true ⟨hi, he⟩
      have hv : v = (R[i]).fr := (UInt32.toNat_inj.1 he).symm
      have ha := arcsR_at R Hup.out i hi
      rw [← hv] at ha
      have Ha := Lib.hid ha
      clear f1 f2 f3 f4 hya he hv ha
      subst hb
      go_wp2_with fail
      go_ret
      refine ⟨_, rfl, ?_, HX.out⟩
      rw [Ha.out]
      exact Hya.out
    · have hb : b = false := by rw [f4]; exact decide_eq_false fun ⟨_, h⟩ => he h
      have ha := arcsR_no R v fun j hj e => by
        rcases Nat.lt_or_ge j i with h | h
        · have := f2 j hj h; rw [e] at this; omega
        · rcases Nat.lt_or_ge i j with h' | h'
          · have := pair_lt R Hup.out i j h' hj
            have := f3 i hi (Nat.le_refl _)
            rw [e] at *
            omega
          · obtain rfl : j = i := by omega
            exact he (by rw [e])
      have Ha := Lib.hid ha
      clear f1 f2 f3 f4 hya he ha
      subst hb
      go_wp2_with fail
      go_ret
      refine ⟨_, rfl, ?_, HX.out⟩
      rw [Ha.out]
      exact RowOn.nil_
  · have hb : b = false := by rw [f4]; exact decide_eq_false fun ⟨h, _⟩ => hi h
    have ha := arcsR_no R v fun j hj e => by
      have := f2 j hj (by omega)
      rw [e] at this
      omega
    have Ha := Lib.hid ha
    clear f1 f2 f3 f4 ha
    subst hb
    go_wp2_with fail
    go_ret
    refine ⟨_, rfl, ?_, HX.out⟩
    rw [Ha.out]
    exact RowOn.nil_
set_option maxRecDepth 100000 in
set_option maxHeartbeats 800000 in
theorem garcs_any (w : World) (B g : Nat) (R : List GRow) (v : UInt32) (h : GraphAt w B g R) (hB : B ≤ w.heap.size) (hl : R.length ≤ 1048576) (hup : R.Pairwise fun a b => a.fr.toNat < b.fr.toNat) (hal : (arcsR R v).length ≤ 1048576) :
    Calls Tryz.prog 16 #[.pointer (some ⟨g, 0, none⟩), .int .u32 (v.toNat : Int)] w fun e w' => ∃ va, e = .returned va ∧ OwnF 48 cArc w' w.heap.size va (arcsR R v) ∧ Below w.heap.size w w' := by
  have hf := find_any22 w B g R v h hB hl hup
  have Hf := Lib.hid hf
  clear hf h hup
  generalize arcsR R v = l at *
  go_enter Tryz.func16, Tryz.ntmps16
  go_wp2_with fail
  refine Hf.out.mono ?_
  rintro _ w1 ⟨va, rfl, hva, hb1⟩
  have hcl := cloneA w1 va l (hva.more (Nat.le_trans hB hb1.size)) (by omega)
  have Hcl := Lib.hid hcl
  have Hb1 := Lib.hid hb1
  clear hcl hva hb1
  go_wp2_with fail
  refine Hcl.out.mono ?_
  rintro _ w2 ⟨v2, rfl, ho, hb2⟩
  have hs := Hb1.out.size
  go_wp2_with fail
  go_ret
  exact ⟨_, rfl, ho.more hs, bstep Hb1.out hb2⟩
set_option maxRecDepth 100000 in
set_option maxHeartbeats 800000 in
theorem gnear_any (w : World) (B g : Nat) (R : List GRow) (v t : UInt32) (h : GraphAt w B g R) (hB : B ≤ w.heap.size) (hl : R.length ≤ 1048576) (hup : R.Pairwise fun a b => a.fr.toNat < b.fr.toNat) (hal : (arcsR R v).length ≤ 1048576) (hr : rise none (arcsR R v) = true) :
    Calls Tryz.prog 18 #[.pointer (some ⟨g, 0, none⟩), .int .u32 (v.toNat : Int), .int .u32 (t.toNat : Int)] w fun e w' => ∃ i b, e = .returned (.bool b) ∧ FoundAt (arcsR R v) t.toNat i b ∧ Below w.heap.size w w' := by
  have hf := find_any22 w B g R v h hB hl hup
  have Hf := Lib.hid hf
  clear hf h hup
  generalize arcsR R v = l at *
  have Hr := Lib.hid hr
  clear hr
  go_enter Tryz.func18, Tryz.ntmps18
  go_wp2_with fail
  refine Hf.out.mono ?_
  rintro _ w1 ⟨va, rfl, hva, hb1⟩
  have hcl := gapsfind_any w1 B va l (by omega) t.toNat (u32_lt t) hva (Nat.le_trans hB hb1.size) Hr.out
  have Hcl := Lib.hid hcl
  have Hb1 := Lib.hid hb1
  clear hcl hva hb1
  go_wp2_with fail
  refine Hcl.out.mono ?_
  rintro _ w2 ⟨i, b, rfl, hfd, hb2⟩
  have Hfd := Lib.hid hfd
  have Hb2 := Lib.hid (bstep Hb1.out hb2)
  clear hfd hb2
  go_wp2_with fail
  go_ret
  exact ⟨i, b, rfl, Hfd.out, Hb2.out⟩
end Go.Proofs.YtcffeepgfjpcaaaGreat

namespace Go.Proofs.YtcffeepgfjpcaaaGreat
set_option linter.unusedSimpArgs false
set_option linter.unusedVariables false
open Go.RowKit

theorem gsum_posN {l : List GArc} (h : nbrs l = true) : 0 < gsum l := by
  obtain ⟨h1, h2⟩ := nbrs_gmay h
  rw [gmay_parts] at h1
  cases l with
  | nil => simp at h2
  | cons a t =>
    have h3 := h1.1
    simp only [rise, Bool.and_eq_true] at h3
    have h4 : a.wt ≠ 0 := by simpa using h3.1.1
    have h5 : a.wt.toNat ≠ 0 := fun e => h4 (UInt32.toNat_inj.1 e)
    simp [gsum]
    omega
theorem ptotal_posN {l : List GArc} (h : nbrs l = true) : 0 < ptotal l := by
  obtain ⟨h1, h2⟩ := nbrs_gmay h
  unfold ptotal
  rw [if_pos h1]
  exact Nat.mul_pos (gsum_posN h) h2
theorem ptotal_ltN {l : List GArc} (h : nbrs l = true) (hl : l.length ≤ 1048576) : ptotal l < 4611686018427387904 := by
  obtain ⟨h1, h2⟩ := nbrs_gmay h
  unfold ptotal
  rw [if_pos h1]
  have := gmay_sum' h1
  calc gsum l * l.length ≤ 2147483647 * 1048576 := Nat.mul_le_mul this hl
    _ < _ := by decide
theorem cand_facts {l : List GArc} (h : nbrs l = true) (hl : l.length ≤ 1048576) {d : Nat} (hd : d < ptotal l) :
    (rmp l (btab l) d).1 < ptotal l ∧ (ival l (rmp l (btab l) d).1).1 < l.length := by
  have hm := btab_may l hl h (gmay_sum' (nbrs_gmay h).1)
  obtain ⟨h1, h2, h3⟩ := one_to_one hm hl hd
  rw [rmp_ok hm hd]
  refine ⟨h1, ?_⟩
  unfold ival
  rw [if_pos h1]
  simp only
  rw [h2]
  exact (palias_ok hm hd).2
/-- is a vertex among the arcs' ends? -/
theorem near_found {l : List GArc} {t : UInt32} {i : Nat} {b : Bool} (hr : rise none l = true) (h : FoundAt l t.toNat i b) : b = l.any fun a => a.to == t := by
  obtain ⟨h1, h2, h3, rfl⟩ := h
  rw [Bool.eq_iff_iff]
  simp only [decide_eq_true_eq, List.any_eq_true, beq_iff_eq]
  constructor
  · rintro ⟨hi, e⟩
    exact ⟨l[i], List.getElem_mem hi, UInt32.toNat_inj.1 e⟩
  · rintro ⟨a, ha, e⟩
    obtain ⟨k, hk, rfl⟩ := List.mem_iff_getElem.1 ha
    have hki : i ≤ k := by
      rcases Nat.lt_or_ge k i with hlt | hge
      · have := h2 k hk hlt
        rw [e] at this
        omega
      · exact hge
    refine ⟨by omega, ?_⟩
    have h4 := h3 i (by omega) (Nat.le_refl _)
    have h5 : (l[i]'(by omega)).to.toNat ≤ t.toNat := by
      rw [← e]
      rcases Nat.eq_or_lt_of_le hki with rfl | hlt
      · exact Nat.le_refl _
      · exact Nat.le_of_lt (rise_lt l hr i k hlt hk)
    omega
/-- what a graph's rows are -/
structure RGood (R : List GRow) : Prop where
  len : R.length ≤ 1048576
  up : R.Pairwise fun a b => a.fr.toNat < b.fr.toNat
  row : ∀ v, arcsR R v = [] ∨ nbrs (arcsR R v) = true
  al : ∀ v, (arcsR R v).length ≤ 1048576
theorem RGood.rise {R : List GRow} (h : RGood R) (v : UInt32) : rise none (arcsR R v) = true := by
  rcases h.row v with h | h
  · rw [h]; rfl
  · exact (gmay_parts.1 (nbrs_gmay h).1).1
theorem near_any (w : World) (B g : Nat) (R : List GRow) (hR : RGood R) (v t : UInt32) (h : GraphAt w B g R) (hB : B ≤ w.heap.size) :
    Calls Tryz.prog 18 #[.pointer (some ⟨g, 0, none⟩), .int .u32 (v.toNat : Int), .int .u32 (t.toNat : Int)] w fun e w' => e = .returned (.bool (nearP R v t)) ∧ Below w.heap.size w w' := by
  refine (gnear_any w B g R v t h hB hR.len hR.up (hR.al v) (hR.rise v)).mono ?_
  rintro e w' ⟨i, b, rfl, hf, hb⟩
  rw [near_found (hR.rise v) hf]
  exact ⟨rfl, hb⟩
/-- one try, plainly: the neighbour -/
theorem candP_any (w : World) (g B : Nat) (hB : B ≤ w.heap.size) (gv vs vp : Value) (j : GJob) (id : Nat) (l : List UInt32) (hb : BoxAt 85 w g (walkC gv vs j id vp)) (hpl : ByU w B vp l) (hl : l.length ≤ 1048576) (hl0 : 0 < l.length) (hid : id < 4294967296)
    (uk ut : UInt64) (hk : uk.toNat = id) (ht : ut.toNat + 1 = l.length) (tr : Nat) (htr : tr ≤ 1048575) (va vt : Value) (arcs : List GArc) (ha : ByA w B va arcs) (hc : ByC w B vt (btab arcs)) (hal : arcs.length ≤ 1048576) (hn : nbrs arcs = true) :
    Calls Tryz.prog 64 #[.pointer (some ⟨g, 0, none⟩), va, vt, .int .u64 (tr : Int)] w fun e w' => e = .returned (.int .u32 ((candP j uk ut arcs (btab arcs) tr).toNat : Int)) ∧ Below w.heap.size w w' := by
  have hpt := ptotal_ltN hn hal
  have hd := belowU_lt (drawU j.seed uk ut (UInt64.ofNat (2 * tr + 1))) (ptotal arcs) (ptotal_posN hn)
  obtain ⟨h1, h2⟩ := cand_facts hn hal hd
  have hbl := btab_len arcs hal (gmay_sum' (nbrs_gmay hn).1)
  refine (cand_any w g B hB gv vs vp j id l hb hpl hl hl0 hid uk ut (UInt64.ofNat (2 * tr + 1)) hk ht tr htr ?_ va vt arcs (btab arcs) ha hc hal (by rw [hbl]; exact hal) _ _ _ rfl rfl rfl h2 (by omega) (by omega) (by omega)).mono ?_
  · rw [UInt64.toNat_ofNat']
    exact Nat.mod_eq_of_lt (by omega)
  · rintro e w' ⟨rfl, hbw⟩
    exact ⟨rfl, hbw⟩
theorem takesP_any (w : World) (g B gg : Nat) (hB : B ≤ w.heap.size) (vs vp : Value) (R : List GRow) (hR : RGood R) (hg : GraphAt w B gg R) (j : GJob) (id : Nat) (l : List UInt32) (hb : BoxAt 85 w g (walkC (.pointer (some ⟨gg, 0, none⟩)) vs j id vp)) (hpl : ByU w B vp l)
    (hl : l.length ≤ 1048576) (hl0 : 0 < l.length) (hid : id < 4294967296) (uk ut : UInt64) (hk : uk.toNat = id) (ht : ut.toNat + 1 = l.length) (tr : Nat) (htr : tr ≤ 1048575) (to : UInt32) (ah : UInt32) (hah : ah = l.getD (l.length - 2) 0) :
    Calls Tryz.prog 65 #[.pointer (some ⟨g, 0, none⟩), .int .u32 (to.toNat : Int), .int .u64 (tr : Int)] w fun e w' => e = .returned (.bool (takesJ j l.length to.toNat ah.toNat (testP j uk ut tr) (nearP R ah to))) ∧ Below w.heap.size w w' := by
  refine takes_any22 w g B hB _ vs vp j id l hb hpl hl hl0 hid uk ut (UInt64.ofNat (2 * tr)) hk ht tr htr ?_ to.toNat (u32_lt to) (nearP R ah to) ah.toNat (fun _ => by rw [hah]) (fun W hW => near_any W B gg R hR ah to (hg.below (hW.mono hB)) (by have := hW.size; omega)) _ rfl _ rfl
  rw [UInt64.toNat_ofNat']
  exact Nat.mod_eq_of_lt (by omega)
end Go.Proofs.YtcffeepgfjpcaaaGreat

namespace Go.Proofs.YtcffeepgfjpcaaaGreat
set_option linter.unusedSimpArgs false
set_option linter.unusedVariables false
open Go.RowKit

end Go.Proofs.YtcffeepgfjpcaaaGreat

namespace Go.Proofs.YtcffeepgfjpcaaaGreat
set_option linter.unusedSimpArgs false
set_option linter.unusedVariables false
open Go.RowKit

end Go.Proofs.YtcffeepgfjpcaaaGreat

namespace Go.Proofs.YtcffeepgfjpcaaaGreat
set_option linter.unusedSimpArgs false
set_option linter.unusedVariables false
open Go.RowKit

end Go.Proofs.YtcffeepgfjpcaaaGreat

namespace Go.Proofs.YtcffeepgfjpcaaaGreat
set_option linter.unusedSimpArgs false
set_option linter.unusedVariables false
open Go.RowKit

structure MFile where
  name : List UInt8
  id : UInt32
  size : Int
  blocks : List Int
structure MMan where
  ver : UInt64
  next : UInt32
  files : List MFile
def encF (f : MFile) (v : Value) : List Value := [.string (bst f.name), .int .u32 (f.id.toNat : Int), .int .i64 f.size, v]
def fileOk (f : MFile) : Prop := f.name.length ≤ maxLen ∧ -9223372036854775808 ≤ f.size ∧ f.size ≤ 9223372036854775807
def cFile : Cdc MFile where
  n := 4
  at_ := fun w S cs f => ∃ v, cs = encF f v ∧ RowOn cInt w S S v f.blocks ∧ fileOk f
  len := fun h => by obtain ⟨v, rfl, _⟩ := h; rfl
  one := fun h => by
    obtain ⟨v, rfl, h, _⟩ := h
    obtain ⟨A, c, rfl, _⟩ := h
    intro u hu
    simp [encF] at hu
    rcases hu with rfl | rfl | rfl | rfl <;> rfl
  keep := fun h hk => by obtain ⟨v, e, h, ok⟩ := h; exact ⟨v, e, h.keep hk hk, ok⟩
  mono := fun h hk => by obtain ⟨v, e, h, ok⟩ := h; exact ⟨v, e, h.mono hk hk, ok⟩
/-- files in blocks below B, all that they lead to too -/
abbrev ByF (w : World) (B : Nat) (v : Value) (l : List MFile) : Prop := RowOn cFile w (fun k => k < B) (fun k => k < B) v l
abbrev ByI (w : World) (B : Nat) (v : Value) (l : List Int) : Prop := RowOn cInt w (fun k => k < B) (fun k => k < B) v l
theorem ByF.below {w w' : World} {B : Nat} {v : Value} {l : List MFile} (h : ByF w B v l) (hb : Below B w w') : ByF w' B v l := h.keep (fun p hp => hb.cell hp) (fun p hp => hb.cell hp)
theorem ByF.more {w : World} {B B' : Nat} {v : Value} {l : List MFile} (h : ByF w B v l) (hB : B ≤ B') : ByF w B' v l := h.mono (fun k hk => Nat.lt_of_lt_of_le hk hB) (fun k hk => Nat.lt_of_lt_of_le hk hB)
theorem ByF.step {w w' : World} {v : Value} {l : List MFile} (h : ByF w w.heap.size v l) (hb : Below w.heap.size w w') : ByF w' w'.heap.size v l := (h.below hb).more hb.size
theorem ByI.below {w w' : World} {B : Nat} {v : Value} {l : List Int} (h : ByI w B v l) (hb : Below B w w') : ByI w' B v l := h.keep (fun p hp => hb.cell hp) (fun p hp => hb.cell hp)
theorem ByI.more {w : World} {B B' : Nat} {v : Value} {l : List Int} (h : ByI w B v l) (hB : B ≤ B') : ByI w B' v l := h.mono (fun k hk => Nat.lt_of_lt_of_le hk hB) (fun k hk => Nat.lt_of_lt_of_le hk hB)
theorem ByI.step {w w' : World} {v : Value} {l : List Int} (h : ByI w w.heap.size v l) (hb : Below w.heap.size w w') : ByI w' w'.heap.size v l := (h.below hb).more hb.size
/-- the cells of the k-th number -/
theorem ByI.cells {w : World} {B : Nat} {A : Option Addr} {n c : Nat} {l : List Int} (h : ByI w B (.slice A n c) l) (k : Nat) (hk : k < l.length) : n = l.length ∧ ∃ ad, A = some ad ∧ ad.block < B ∧ w.cell? (ad.add k) = some (.int .i64 l[k]) ∧ -9223372036854775808 ≤ l[k] ∧ l[k] ≤ 9223372036854775807 := by
  obtain ⟨ad, cs, e, hb, ⟨rfl, ok⟩, hc⟩ := h.at_ k _ (List.getElem?_eq_getElem hk)
  have := hc 0 _ rfl
  simp only [cInt, Cdc.flat, Nat.mul_one, Nat.add_zero] at this
  exact ⟨(h.len_).1, ad, e, hb, this, ok⟩
/-- the cells of the k-th file -/
theorem ByF.cells {w : World} {B : Nat} {A : Option Addr} {n c : Nat} {l : List MFile} (h : ByF w B (.slice A n c) l) (k : Nat) (hk : k < l.length) :
    n = l.length ∧ ∃ ad v, A = some ad ∧ ad.block < B ∧ ByI w B v (l[k]).blocks ∧ fileOk l[k] ∧ (∀ (j : Nat) (u : Value), (encF l[k] v)[j]? = some u → w.cell? ((ad.add (k * 4)).add j) = some u) := by
  obtain ⟨ad, cs, e, hb, ⟨v, rfl, hr, ok⟩, hc⟩ := h.at_ k _ (List.getElem?_eq_getElem hk)
  exact ⟨(h.len_).1, ad, v, e, hb, hr, ok, fun j u hu => by rw [add_add]; exact hc j u hu⟩
theorem ByF.ok {w : World} {B : Nat} {v : Value} {l : List MFile} (h : ByF w B v l) : ∀ f ∈ l, fileOk f := by
  intro f hf
  obtain ⟨i, hi, rfl⟩ := List.mem_iff_getElem.1 hf
  obtain ⟨A, c, rfl, _, _⟩ := h.form
  obtain ⟨_, _, _, _, _, _, ok, _⟩ := h.cells i hi
  exact ok
def encM (m : MMan) (v : Value) : List Value := [.int .u64 (m.ver.toNat : Int), .int .u32 (m.next.toNat : Int), v]
/-- the value v is a manifest -/
def MAt (w : World) (B : Nat) (v : Value) (m : MMan) : Prop := ∃ vf, v = .agg (encM m vf).toArray ∧ ByF w B vf m.files
theorem MAt.below {w w' : World} {B : Nat} {v : Value} {m : MMan} (h : MAt w B v m) (hb : Below B w w') : MAt w' B v m := by obtain ⟨vf, e, h⟩ := h; exact ⟨vf, e, h.below hb⟩
theorem MAt.more {w : World} {B B' : Nat} {v : Value} {m : MMan} (h : MAt w B v m) (hB : B ≤ B') : MAt w B' v m := by obtain ⟨vf, e, h⟩ := h; exact ⟨vf, e, h.more hB⟩
theorem MAt.step {w w' : World} {v : Value} {m : MMan} (h : MAt w w.heap.size v m) (hb : Below w.heap.size w w') : MAt w' w'.heap.size v m := (h.below hb).more hb.size

theorem InC.ints {w : World} {cs : List Value} (h : InC w 102 cs) : ∃ v xs, cs = [v] ∧ ByI w w.heap.size v xs := h.row (C := cInt) Tryz.underlying102 (by kernel_rfl) (by decide) fun cs hc => hc.i64 Tryz.underlying3
end Go.Proofs.YtcffeepgfjpcaaaGreat

namespace Go.Proofs.YtcffeepgfjpcaaaGreat
set_option linter.unusedSimpArgs false
set_option linter.unusedVariables false
open Go.RowKit

end Go.Proofs.YtcffeepgfjpcaaaGreat

namespace Go.Proofs.YtcffeepgfjpcaaaGreat
set_option linter.unusedSimpArgs false
set_option linter.unusedVariables false
open Go.RowKit

end Go.Proofs.YtcffeepgfjpcaaaGreat

namespace Go.Proofs.YtcffeepgfjpcaaaGreat
set_option linter.unusedSimpArgs false
set_option linter.unusedVariables false
open Go.RowKit

end Go.Proofs.YtcffeepgfjpcaaaGreat

namespace Go.Proofs.YtcffeepgfjpcaaaGreat
set_option linter.unusedSimpArgs false
set_option linter.unusedVariables false
open Go.RowKit

/-- what '[]byte(s)' leaves -/
structure SB (w w' : World) (c : Nat) (l : List UInt8) : Prop where
  by_ : By w' w'.heap.size (.slice (some ⟨w.heap.size, 0, none⟩) l.length c) l
  free : ∀ j, j < l.length → w'.frozen? ⟨w.heap.size, j, none⟩ = false
  below : Below w.heap.size w w'
  size : w'.heap.size = w.heap.size + 1
/-- a byte of it is written -/
theorem By.set_ {w : World} {B g k n c : Nat} {l : List UInt8} (h : By w B (.slice (some ⟨g, 0, none⟩) n c) l) (hk : k < l.length) (b : UInt8) : By (w.setCell ⟨g, k, none⟩ (.int .u8 (b.toNat : Int))) B (.slice (some ⟨g, 0, none⟩) n c) (l.set k b) := by
  obtain ⟨A, c', e, h1, h2, h3, h4⟩ := h
  injection e with e1 e2 e3
  subst e1; subst e2; subst e3
  obtain ⟨ad, e, hb, hc⟩ := h4 (by omega)
  injection e with e
  subst e
  refine ⟨_, _, by rw [List.length_set], by rw [List.length_set]; exact h1, h2, by simp [b8s], fun hn => ⟨_, rfl, hb, fun j u hu => ?_⟩⟩
  have e : b8s (l.set k b) = (b8s l).set k (b8 b) := by unfold b8s; rw [List.map_set]
  rw [e, List.getElem?_set] at hu
  rw [Addr.add_lit, Nat.zero_add]
  have hck := hc k _ (b8s_get l k hk)
  rw [Addr.add_lit, Nat.zero_add] at hck
  by_cases hkj : k = j
  · subst hkj
    rw [if_pos rfl, if_pos (by rw [b8s_length]; exact hk)] at hu
    rw [World.cell?_setCell_same _ _ _ hck, ← hu]
    rfl
  · rw [if_neg hkj] at hu
    have := hc j u hu
    rw [Addr.add_lit, Nat.zero_add] at this
    rw [World.cell?_setCell_other _ _ _ _ (by intro e; injection e with _ e _; omega), this]
end Go.Proofs.YtcffeepgfjpcaaaGreat

namespace Go.Proofs.YtcffeepgfjpcaaaGreat
set_option linter.unusedSimpArgs false
set_option linter.unusedVariables false
open Go.RowKit

structure Wr (w1 w : World) (v : Value) (l : List UInt8) : Prop where
  own : Ow w w1.heap.size v l
  blw : Below w1.heap.size w1 w
structure WrB (T : TypeId) (w1 w : World) (g : Nat) (cs : List Value) (v : Value) (l : List UInt8) : Prop where
  own : Ow w w1.heap.size v l
  blw : Below w1.heap.size w1 w
  box : BoxAt T w g cs
  ne : v.ownBlock ≠ some g
theorem Ext.neM {w w' : World} {v v' : Value} (h : Ext w w' v v') {g : Nat} (hg : g < w.heap.size) (hv : v.ownBlock ≠ some g) : v'.ownBlock ≠ some g := by
  rcases h.at_ with h1 | h1
  · rw [h1]; exact hv
  · intro e; have := h1 g e; omega
theorem Wr.num {w1 w wa wb : World} {v v' : Value} {l l' : List UInt8} (h : Wr w1 w v l) (hb : Below w.heap.size w wa) (hx : Ext wa wb v v') (ho : Ow wb w1.heap.size v' l') : Wr w1 wb v' l' :=
  ⟨ho, (h.blw.trans (hb.mono h.blw.size)).trans (hx.below (Nat.le_trans h.blw.size hb.size) fun q hq => (h.own.blk q hq).1)⟩
theorem WrB.num {T : TypeId} {g : Nat} {cs : List Value} {w1 w wa wb : World} {v v' : Value} {l l' : List UInt8} (h : WrB T w1 w g cs v l) (hb : Below w.heap.size w wa) (hx : Ext wa wb v v') (ho : Ow wb w1.heap.size v' l') : WrB T w1 wb g cs v' l' :=
  have hg := h.box.lt
  have hga := Nat.lt_of_lt_of_le hg hb.size
  ⟨ho, (h.blw.trans (hb.mono h.blw.size)).trans (hx.below (Nat.le_trans h.blw.size hb.size) fun q hq => (h.own.blk q hq).1), (h.box.below hg hb).grown hx.gr h.ne, hx.neM hga h.ne⟩
theorem Wr.put (T : TypeId) {w1 w : World} {v : Value} {l : List UInt8} (h : Wr w1 w v l) (cs : List Value) : WrB T w1 (w.alloc (.cells cs.toArray T)) w.heap.size cs v l :=
  ⟨h.own.alloc _, h.blw.trans ((balloc w _).mono h.blw.size), BoxAt.new_ _ _ _, fun e => Nat.lt_irrefl _ (h.own.blk _ e).2⟩
theorem WrB.wr {T : TypeId} {g : Nat} {cs : List Value} {w1 w : World} {v : Value} {l : List UInt8} (h : WrB T w1 w g cs v l) : Wr w1 w v l := ⟨h.own, h.blw⟩
end Go.Proofs.YtcffeepgfjpcaaaGreat

namespace Go.Proofs.YtcffeepgfjpcaaaGreat
set_option linter.unusedSimpArgs false
set_option linter.unusedVariables false
open Go.RowKit

end Go.Proofs.YtcffeepgfjpcaaaGreat

namespace Go.Proofs.YtcffeepgfjpcaaaGreat
set_option linter.unusedSimpArgs false
set_option linter.unusedVariables false
open Go.RowKit

end Go.Proofs.YtcffeepgfjpcaaaGreat

namespace Go.Proofs.YtcffeepgfjpcaaaGreat
set_option linter.unusedSimpArgs false
set_option linter.unusedVariables false
open Go.RowKit Go.Maps

/-- block b is a set of at most n numbers: those of S -/
def MSet (k : TypeId) (q : IntKind) (w : World) (b n : Nat) (S : List Int) : Prop :=
  ∃ D : DataW Unit, w.ownsMap Tryz.prog k unitElem b n D ∧ ∀ x, (Lit.int q x).wf = true → Maps.has D (.int q x) = decide (x ∈ S)
theorem MSet.lt {k : TypeId} {q : IntKind} {w : World} {b n : Nat} {S : List Int} (h : MSet k q w b n S) : b < w.heap.size := by obtain ⟨D, h, _⟩ := h; exact h.lt
theorem MSet.congr {k : TypeId} {q : IntKind} {w : World} {b n : Nat} {S S' : List Int} (h : MSet k q w b n S) (hS : ∀ x, x ∈ S ↔ x ∈ S') : MSet k q w b n S' := by
  obtain ⟨D, h, hh⟩ := h
  exact ⟨D, h, fun x hx => (hh x hx).trans (decide_eq_decide.2 (hS x))⟩
theorem MSet.kept {k : TypeId} {q : IntKind} {w w' : World} {b n : Nat} {S : List Int} (h : MSet k q w b n S) {row : Option Nat} (hg : w.grownBy w' row) (hne : some b ≠ row) : MSet k q w' b n S := by
  obtain ⟨D, h, hh⟩ := h
  exact ⟨D, h.kept hg hne, hh⟩
theorem MSet.blw {k : TypeId} {q : IntKind} {w w' : World} {b n : Nat} {S : List Int} (h : MSet k q w b n S) (hb : Below w.heap.size w w') : MSet k q w' b n S :=
  h.kept (row := none) ⟨hb.os, hb.tape, hb.output, hb.size, fun i hi _ => hb.block i hi⟩ (by simp)
theorem MSet.mono {k : TypeId} {q : IntKind} {w : World} {b n n' : Nat} {S : List Int} (h : MSet k q w b n S) (hn : n ≤ n') : MSet k q w b n' S := by
  obtain ⟨D, h, hh⟩ := h
  exact ⟨D, h.mono hn, hh⟩
theorem MSet.new_ (k : TypeId) (q : IntKind) (w : World) : MSet k q (w.alloc (.map #[] 0)) w.heap.size 0 [] :=
  ⟨.map [], World.ownsMap_made _ _ _ _, fun x _ => by simp [Maps.has]⟩
/-- all but the blocks m1, m2 stay -/
structure Bt (m1 m2 : Nat) (w w' : World) : Prop where
  os : w'.os = w.os
  tape : w'.tape = w.tape
  output : w'.output = w.output
  size : w.heap.size ≤ w'.heap.size
  block : ∀ k, k < w.heap.size → k ≠ m1 → k ≠ m2 → w'.heap[k]? = w.heap[k]?
theorem Bt.of {m1 m2 : Nat} {w w' : World} (h : Below w.heap.size w w') : Bt m1 m2 w w' := ⟨h.os, h.tape, h.output, h.size, fun k hk _ _ => h.block k hk⟩
theorem Bt.trans {m1 m2 : Nat} {a b c : World} (h : Bt m1 m2 a b) (k : Bt m1 m2 b c) : Bt m1 m2 a c :=
  ⟨k.os.trans h.os, k.tape.trans h.tape, k.output.trans h.output, Nat.le_trans h.size k.size, fun i hi h1 h2 => (k.block i (Nat.lt_of_lt_of_le hi h.size) h1 h2).trans (h.block i hi h1 h2)⟩
theorem Bt.grown {m1 m2 m : Nat} {a b c : World} (h : Bt m1 m2 a b) (hg : b.grownBy c (some m)) (hm : m = m1 ∨ m = m2) : Bt m1 m2 a c :=
  h.trans ⟨hg.os, hg.tape, hg.output, hg.size, fun k hk h1 h2 => hg.block k hk (fun e => by injection e with e; rcases hm with hm | hm <;> omega)⟩
theorem Bt.step {m1 m2 : Nat} {a b c : World} (h : Bt m1 m2 a b) (hb : Below b.heap.size b c) : Bt m1 m2 a c := h.trans (Bt.of hb)
theorem Bt.low {m1 m2 B : Nat} {w w' : World} (h : Bt m1 m2 w w') (h1 : B ≤ m1) (h2 : B ≤ m2) (hB : B ≤ w.heap.size) : Below B w w' :=
  ⟨h.os, h.tape, h.output, h.size, fun k hk => h.block k (by omega) (by omega) (by omega)⟩
theorem Bt.box {m1 m2 g : Nat} {T : TypeId} {cs : List Value} {w w' : World} (h : Bt m1 m2 w w') (hx : BoxAt T w g cs) (h1 : g ≠ m1) (h2 : g ≠ m2) : BoxAt T w' g cs := (h.block g hx.lt h1 h2).trans hx
end Go.Proofs.YtcffeepgfjpcaaaGreat

namespace Go.Proofs.YtcffeepgfjpcaaaGreat
set_option linter.unusedSimpArgs false
set_option linter.unusedVariables false
open Go.RowKit

end Go.Proofs.YtcffeepgfjpcaaaGreat

namespace Go.Proofs.YtcffeepgfjpcaaaGreat
set_option linter.unusedSimpArgs false
set_option linter.unusedVariables false
open Go.RowKit

theorem WrB.drew {T : TypeId} {g : Nat} {cs : List Value} {w1 w : World} {v : Value} {l : List UInt8} (h : WrB T w1 w g cs v l) : WrB T w1 w.drew g cs v l := ⟨h.own, h.blw.drew, h.box, h.ne⟩

end Go.Proofs.YtcffeepgfjpcaaaGreat

namespace Go.Proofs.YtcffeepgfjpcaaaGreat
set_option linter.unusedSimpArgs false
set_option linter.unusedVariables false
open Go.RowKit

end Go.Proofs.YtcffeepgfjpcaaaGreat

namespace Go.Proofs.YtcffeepgfjpcaaaGreat
set_option linter.unusedSimpArgs false
set_option linter.unusedVariables false
open Go.RowKit

end Go.Proofs.YtcffeepgfjpcaaaGreat

namespace Go.Proofs.YtcffeepgfjpcaaaGreat
set_option linter.unusedSimpArgs false
set_option linter.unusedVariables false
open Go.RowKit

end Go.Proofs.YtcffeepgfjpcaaaGreat

namespace Go.Proofs.YtcffeepgfjpcaaaGreat
set_option linter.unusedSimpArgs false
set_option linter.unusedVariables false
open Go.RowKit Go.Maps

end Go.Proofs.YtcffeepgfjpcaaaGreat

namespace Go.Proofs.YtcffeepgfjpcaaaGreat
set_option linter.unusedSimpArgs false
set_option linter.unusedVariables false
open Go.RowKit

section
variable {P : Nat → Prop} {w w' : World}
theorem OwnR.chg {α : Type} {E : TypeId} {C : Cdc α} {base : Nat} {S : Nat → Prop} {v : Value} {xs : List α} (h : OwnR E C w base S v xs) (hc : Chg P w w') (hv : ∀ k, v.ownBlock = some k → ¬ P k) (hS : ∀ k, S k → ¬ P k) : OwnR E C w' base S v xs := by
  have hb := h.blk
  obtain ⟨css, hl, ⟨h1, h2⟩, h3, h4⟩ := h
  refine ⟨css, hl, ⟨h1, ?_⟩, fun i cs x hcs hx => C.keep (h3 i cs x hcs hx) fun p hp => World.cell?_of_block (hc.block p.block (h4 _ hp).1 (hS _ hp)), fun k hk => ⟨Nat.lt_of_lt_of_le (h4 k hk).1 hc.size, (h4 k hk).2⟩⟩
  rcases h2 with h2 | ⟨g, cap, cur, e, hg, h5, r⟩
  · exact .inl h2
  · have hk := hb g (by rw [e]; rfl)
    exact .inr ⟨g, cap, cur, e, hg, (hc.block g hk.2 (hv g (by rw [e]; rfl))).trans h5, r⟩
end
/-- a manifest among new blocks (from lo on) -/
def MIn (w : World) (lo : Nat) (v : Value) (m : MMan) : Prop := ∃ vf, v = .agg (encM m vf).toArray ∧ RowOn cFile w (fun k => lo ≤ k ∧ k < w.heap.size) (fun k => lo ≤ k ∧ k < w.heap.size) vf m.files
theorem MIn.chg {w w' : World} {lo : Nat} {v : Value} {m : MMan} {P : Nat → Prop} (h : MIn w lo v m) (hc : Chg P w w') (hp : ∀ k, P k → k < lo) : MIn w' lo v m := by
  obtain ⟨vf, e, h⟩ := h
  have hk : ∀ p : Addr, (lo ≤ p.block ∧ p.block < w.heap.size) → w'.cell? p = w.cell? p := fun p hq => World.cell?_of_block (hc.block p.block hq.2 fun hx => by have := hp _ hx; omega)
  have := hc.size
  exact ⟨vf, e, (h.keep hk hk).mono (fun k hk => ⟨hk.1, by omega⟩) (fun k hk => ⟨hk.1, by omega⟩)⟩
theorem MIn.step {w w' : World} {lo : Nat} {v : Value} {m : MMan} (h : MIn w lo v m) (hb : Below w.heap.size w w') : MIn w' lo v m := h.chg (P := fun _ => False) (Chg.ofBelow hb) (fun _ h => h.elim)
theorem MIn.low {w : World} {lo lo' : Nat} {v : Value} {m : MMan} (h : MIn w lo v m) (hl : lo' ≤ lo) : MIn w lo' v m := by
  obtain ⟨vf, e, h⟩ := h
  exact ⟨vf, e, h.mono (fun k hk => ⟨by omega, hk.2⟩) (fun k hk => ⟨by omega, hk.2⟩)⟩
end Go.Proofs.YtcffeepgfjpcaaaGreat

namespace Go.Proofs.YtcffeepgfjpcaaaGreat
set_option linter.unusedSimpArgs false
set_option linter.unusedVariables false

abbrev RW := Int × List UInt8
structure RD where
  count : Int
  off : Bool
  fuse : Int
  made : List RW
  wait : List RW
def lastR (l : List RW) (i : Int) (b : List UInt8) : List UInt8 := l.foldl (fun b x => if x.1 = i then x.2 else b) b
def zerosL : List UInt8 := List.replicate 128 0
def goodR (m : RD) (i : Int) : List UInt8 := lastR m.made i zerosL
structure RelD (d : DState) (m : RD) : Prop where
  count : m.count = (d.bl.length : Int)
  off : m.off = d.off
  fuse : m.fuse = d.fuse
  good : ∀ i, i < d.bl.length → goodR m (i : Int) = (d.bl.getD i zeroB).1
  wait : m.wait = d.wt.map fun x => ((x.1 : Int), x.2.1)
end Go.Proofs.YtcffeepgfjpcaaaGreat

namespace Go.Proofs.YtcffeepgfjpcaaaGreat
set_option linter.unusedSimpArgs false
set_option linter.unusedVariables false
open Go.RowKit

def cRW : Cdc RW := Cdc.flat 2 (fun x => [.int .i64 x.1, .string (bst x.2)]) (fun x => x.2.length = 128) (fun _ => rfl) (fun x u hu => by simp at hu; rcases hu with rfl | rfl <;> rfl)
abbrev ByR (w : World) (O : Nat → Prop) (v : Value) (l : List RW) : Prop := RowOn cRW w O (fun _ => True) v l
theorem ByR.below {w w' : World} {O : Nat → Prop} {B : Nat} {v : Value} {l : List RW} (h : ByR w O v l) (hb : Below B w w') (hO : ∀ k, O k → k < B) : ByR w' O v l := by
  obtain ⟨A, c, h1, h2, h3, h4⟩ := h
  refine ⟨A, c, h1, h2, h3, fun hn => ?_⟩
  obtain ⟨ad, e, hb', hc⟩ := h4 hn
  refine ⟨ad, e, hb', fun i x hx => ?_⟩
  obtain ⟨cs, ha, hcs⟩ := hc i x hx
  exact ⟨cs, ha, fun j u hu => (hb.cell (by rw [add_block]; exact hO _ hb')).trans (hcs j u hu)⟩
theorem ByR.more {w : World} {O O' : Nat → Prop} {v : Value} {l : List RW} (h : ByR w O v l) (hB : ∀ k, O k → O' k) : ByR w O' v l := RowOn.mono h hB (fun _ hk => hk)
theorem ByR.chg {w w' : World} {O P : Nat → Prop} {v : Value} {l : List RW} (h : ByR w O v l) (hc : Chg P w w') (hO : ∀ k, O k → k < w.heap.size ∧ ¬ P k) : ByR w' O v l := by
  obtain ⟨A, c, h1, h2, h3, h4⟩ := h
  refine ⟨A, c, h1, h2, h3, fun hn => ?_⟩
  obtain ⟨ad, e, hb', hcc⟩ := h4 hn
  refine ⟨ad, e, hb', fun i x hx => ?_⟩
  obtain ⟨cs, ha, hcs⟩ := hcc i x hx
  exact ⟨cs, ha, fun j u hu => (World.cell?_of_block (hc.block _ (by rw [add_block]; exact (hO _ hb').1) (by rw [add_block]; exact (hO _ hb').2))).trans (hcs j u hu)⟩
theorem ByR.nil_ {w : World} {O : Nat → Prop} : ByR w O (.slice none 0 0) [] := RowOn.nil_
theorem ByR.ok {w : World} {O : Nat → Prop} {v : Value} {l : List RW} (h : ByR w O v l) : ∀ x ∈ l, x.2.length = 128 := by
  intro x hx
  obtain ⟨i, hi, rfl⟩ := List.mem_iff_getElem.1 hx
  obtain ⟨A, c, rfl, _, _⟩ := h.form
  obtain ⟨ad, cs, _, _, ⟨_, hk⟩, _⟩ := h.at_ i _ (List.getElem?_eq_getElem hi)
  exact hk
/-- the cells of the k-th -/
theorem ByR.cells {w : World} {O : Nat → Prop} {A : Option Addr} {n c : Nat} {l : List RW} (h : ByR w O (.slice A n c) l) (k : Nat) (hk : k < l.length) : n = l.length ∧ ∃ ad, A = some ad ∧ O ad.block ∧ w.cell? (ad.add (k * 2)) = some (.int .i64 (l[k]).1) ∧ w.cell? { block := (ad.add (k * 2)).block, off := (ad.add (k * 2)).off + 1 } = some (.string (bst (l[k]).2)) := by
  obtain ⟨ad, cs, e, hb, ⟨rfl, _⟩, hc⟩ := h.at_ k _ (List.getElem?_eq_getElem hk)
  refine ⟨(h.len_).1, ad, e, hb, hc 0 _ rfl, ?_⟩
  have := hc 1 _ rfl
  rw [← add_add] at this
  have e2 : (ad.add (k * cRW.n)).add 1 = { block := (ad.add (k * 2)).block, off := (ad.add (k * 2)).off + 1 } := by simp [Addr.add, cRW, Cdc.flat]; exact ⟨rfl, rfl⟩
  rw [e2] at this
  exact this
/-- the value v is a disk of the document's, its rows in blocks of O -/
def RDV (w : World) (O : Nat → Prop) (v : Value) (m : RD) : Prop := ∃ v1 v2, v = .agg #[.int .i64 m.count, .bool m.off, .int .i64 m.fuse, v1, v2] ∧ ByR w O v1 m.made ∧ ByR w O v2 m.wait ∧
  (-9223372036854775808 ≤ m.count ∧ m.count ≤ 9223372036854775807) ∧ (-9223372036854775808 ≤ m.fuse ∧ m.fuse ≤ 9223372036854775807)
section
variable {w w' : World} {O O' P : Nat → Prop} {v : Value} {m : RD}
theorem RDV.below {B : Nat} (h : RDV w O v m) (hb : Below B w w') (hO : ∀ k, O k → k < B) : RDV w' O v m := by
  obtain ⟨v1, v2, e, h1, h2, h3, h4⟩ := h
  exact ⟨v1, v2, e, h1.below hb hO, h2.below hb hO, h3, h4⟩
theorem RDV.chg (h : RDV w O v m) (hc : Chg P w w') (hO : ∀ k, O k → k < w.heap.size ∧ ¬ P k) : RDV w' O v m := by
  obtain ⟨v1, v2, e, h1, h2, h3, h4⟩ := h
  exact ⟨v1, v2, e, h1.chg hc hO, h2.chg hc hO, h3, h4⟩
theorem RDV.more (h : RDV w O v m) (hO : ∀ k, O k → O' k) : RDV w O' v m := by
  obtain ⟨v1, v2, e, h1, h2, h3, h4⟩ := h
  exact ⟨v1, v2, e, h1.more hO, h2.more hO, h3, h4⟩
end
end Go.Proofs.YtcffeepgfjpcaaaGreat

namespace Go.Proofs.YtcffeepgfjpcaaaGreat
set_option linter.unusedSimpArgs false
set_option linter.unusedVariables false
open Go.RowKit

theorem BoxAt.blw {T : TypeId} {w w' : World} {g : Nat} {cs : List Value} (h : BoxAt T w g cs) (hb : Below w.heap.size w w') : BoxAt T w' g cs := h.below h.lt hb
end Go.Proofs.YtcffeepgfjpcaaaGreat

namespace Go.Proofs.YtcffeepgfjpcaaaGreat
set_option linter.unusedSimpArgs false
set_option linter.unusedVariables false
open Go.RowKit

end Go.Proofs.YtcffeepgfjpcaaaGreat

namespace Go.Proofs.YtcffeepgfjpcaaaGreat
set_option linter.unusedSimpArgs false
set_option linter.unusedVariables false
open Go.RowKit

end Go.Proofs.YtcffeepgfjpcaaaGreat

namespace Go.Proofs.YtcffeepgfjpcaaaGreat
set_option linter.unusedSimpArgs false
set_option linter.unusedVariables false
open Go.RowKit

def Ph.ownA (base : Nat) (l : List GArc) : Ph := ⟨fun v w => OwnF 48 cArc w base v l, fun _ _ _ h hb => h.below_ hb⟩
/-- two cells, whatever they hold -/
def cRaw : Cdc (Value × Value) where
  n := 2
  at_ := fun w S cs x => cs = [x.1, x.2] ∧ x.1.oneCell' = true ∧ x.2.oneCell' = true
  len := fun h => by rw [h.1]; rfl
  one := fun h => by obtain ⟨rfl, h1, h2⟩ := h; intro u hu; simp at hu; rcases hu with rfl | rfl <;> assumption
  keep := fun h _ => h
  mono := fun h _ => h
theorem run_slice_row (w : World) (a b : Value) (ha : a.oneCell' = true := by rfl) : (Instr.buildSlice 74 1 #[(0, .agg #[a, b])]).run Tryz.prog w =
    .ok (.slice (some ⟨w.heap.size, 0, none⟩) 1 1) (w.alloc (.cells #[a, b] 132)) := by
  obtain ⟨it, hit, hz0, hz1, hby⟩ := info_parts infoRow
  refine run_buildSlice w _ _ 1 _ _ it _ Tryz.underlying74 hit hz0 (by rw [hz1]; decide) (by rw [hz1]; decide) ?_
  rw [hz1]
  exact fill_whole 2 _ [a, b] (by first | rfl | simp) (by first | rfl | simp)
theorem rowC_one (fr : Nat) (A : Option Addr) (n c : Nat) : ∀ u ∈ ([.int .u32 (fr : Int), .slice A n c] : List Value), u.oneCell' = true := by
  intro u hu; simp at hu; rcases hu with rfl | rfl <;> rfl

end Go.Proofs.YtcffeepgfjpcaaaGreat

namespace Go.Proofs.YtcffeepgfjpcaaaGreat
set_option linter.unusedSimpArgs false
set_option linter.unusedVariables false
open Go.RowKit

theorem run_slice_u32 (w : World) (a : Int) : (Instr.buildSlice 25 1 #[(0, .int .u32 a)]).run Tryz.prog w =
    .ok (.slice (some ⟨w.heap.size, 0, none⟩) 1 1) (w.alloc (.cells #[.int .u32 a] 24)) := by
  obtain ⟨it, hit, hz0, hz1, hby⟩ := info_parts infoU32
  refine run_buildSlice w _ _ 1 _ _ it _ Tryz.underlying25 hit hz0 (by rw [hz1]; decide) (by rw [hz1]; decide) ?_
  rw [hz1, show cU32.n = 1 from rfl]
  exact fill_whole 1 _ [.int .u32 a] (by first | rfl | simp) (by first | rfl | simp)
theorem goesP_none {R : List GRow} {tab : List GArc → List GCell} {j : GJob} {uk : UInt64} {k : Nat} {path : List UInt32} (h : nextP R tab j uk path = none) : goesP R tab j uk (k + 1) path = path := by rw [goesP, h]
theorem goesP_some {R : List GRow} {tab : List GArc → List GCell} {j : GJob} {uk : UInt64} {k : Nat} {path : List UInt32} {v : UInt32} (h : nextP R tab j uk path = some v) : goesP R tab j uk (k + 1) path = goesP R tab j uk k (path ++ [v]) := by rw [goesP, h]
set_option maxRecDepth 100000 in
set_option maxHeartbeats 6400000 in
theorem goes_any (w : World) (B g gg : Nat) (hB : B ≤ w.heap.size) (hBg : B ≤ g) (R : List GRow) (hR : RGood R) (hg : GraphAt w B gg R) (vs_ vp0 : Value) (j : GJob) (id : Nat) (hid : id < 4294967296) (uk : UInt64) (hk : uk.toNat = id) (x0 : UInt32)
    (hb : BoxAt 85 w g (walkC (.pointer (some ⟨gg, 0, none⟩)) vs_ j id vp0)) (hp : OwnF 24 cU32 w B vp0 [x0]) (hlen : j.len.toNat ≤ 1048574) (htr : j.tries.toNat ≤ 1048575) :
    Calls Tryz.prog 36 #[.pointer (some ⟨g, 0, none⟩)] w fun e w' => e = .returned (.tuple #[]) ∧ ∃ vp', BoxAt 85 w' g (walkC (.pointer (some ⟨gg, 0, none⟩)) vs_ j id vp') ∧ OwnF 24 cU32 w' B vp' (goesP R btab j uk j.len.toNat [x0]) ∧ Below B w w' := by
  have hc3 := hb.cell 3 _ rfl
  obtain ⟨fin, hfin⟩ : ∃ fin, fin = goesP R btab j uk j.len.toNat [x0] := ⟨_, rfl⟩
  rw [← hfin]
  have Hfin := Lib.hid hfin.symm
  have Hb := Lib.hid hb
  have Hp := Lib.hid hp
  have HR := Lib.hid hR
  have HG := Lib.hid hg
  have Hk := Lib.hid hk
  obtain ⟨ln, hln⟩ : ∃ ln, ln = j.len.toNat := ⟨_, rfl⟩
  rw [← hln] at hc3 hlen Hfin
  have Hln := Lib.hid hln
  clear hb hp hR hg hfin hk hln
  go_enter Tryz.func36, Tryz.ntmps36
  go_step3
  go_wp2_with fail
  go_step3
  go_wp2_with fail
  clear hc3
  go_loopg [12] ln (fun gk s12 wr => ∃ (n : Nat) (path : List UInt32) (vp : Value), n + gk = ln ∧ s12 = .int .u32 (n : Int) ∧ path.length = n + 1 ∧ BoxAt 85 wr g (walkC (.pointer (some ⟨gg, 0, none⟩)) vs_ j id vp) ∧ OwnF 24 cU32 wr B vp path ∧ Below B w wr ∧ goesP R btab j uk gk path = fin)
  case atStart => exact ⟨0, [x0], vp0, by omega, rfl, rfl, Hb.out, Hp.out, Below.refl _ _, Hfin.out⟩
  case round =>
    obtain ⟨n, path, vp, hn, rfl, hpl, i1, i2, i3, i4⟩ := hrel
    obtain ⟨Ap, cp, rfl, hcp1, hcp2, hAp⟩ := i2.form'
    unfold maxLen at hcp2
    obtain ⟨gp, rfl, hgp1, hgp2⟩ := hAp (by omega)
    have hs3 := i3.size
    have X := Lib.hid i1
    have O := Lib.hid i2
    have H3 := Lib.hid i3
    have H4 := Lib.hid i4
    have HpL := Lib.hid hpl
    clear i1 i2 i3 i4 Hb Hp Hfin hpl
    cases gk with
    | zero =>
      have hd : decide ((n : Int) < (ln : Int)) = false := decide_eq_false (by omega)
      go_wp2_with fail
      have hf : path = fin := H4.out
      rw [Exit.noGoto_normal]
      go_end0
      rw [← hf]
      exact ⟨rfl, _, X.out, O.out, H3.out⟩
    | succ m =>
      have hd : decide ((n : Int) < (ln : Int)) = true := decide_eq_true (by omega)
      obtain ⟨lv, hlv⟩ : ∃ lv, lv = path.getD n 0 := ⟨_, rfl⟩
      obtain ⟨arcs, harcs⟩ : ∃ arcs, arcs = arcsR R lv := ⟨_, rfl⟩
      have hbyu : ByU wr wr.heap.size (Value.slice (some ⟨gp, 0, none⟩) path.length cp) path := O.out.rowLt.mono (fun _ h => h) (fun _ h => h.elim)
      have HAt := Lib.hid (fun W (hW : Below wr.heap.size wr W) => by
        have := at_any W g wr.heap.size (.pointer (some ⟨gg, 0, none⟩)) vs_ (Value.slice (some ⟨gp, 0, none⟩) path.length cp) j id path (X.out.below X.out.lt hW) (hbyu.below hW) (by rw [HpL.out]; omega) 0 n (by rw [HpL.out]; omega)
        rw [← hlv] at this
        exact this)
      have hsB : B ≤ wr.heap.size := by omega
      have HArcs := Lib.hid (fun W (hW : Below wr.heap.size wr W) => by
        have := garcs_any W B gg R lv ((HG.out.below H3.out).below (hW.mono hsB)) (by have := hW.size; omega) HR.out.len HR.out.up (HR.out.al lv)
        rw [← harcs] at this
        exact this)
      have Hlv := Lib.hid hlv
      have Harcs := Lib.hid harcs
      have hal : arcs.length ≤ 1048576 := by rw [harcs]; exact HR.out.al lv
      clear hlv harcs hbyu
      go_upto_region 2 with fail
      refine wp_region_typed [some 14, some 15, some 16, some 17, some 18, some 19, some 20, some 2] [14, 15, 16, 17, 18, 19, 20, 2]
        [Ph.is (.pointer (some ⟨g, 0, none⟩)),
          Ph.is (.pointer (some ⟨g, 0, none⟩)),
          Ph.is (.pointer (some ⟨g, 0, none⟩)),
          Ph.is (.pointer (some ⟨gg, 0, none⟩)),
          Ph.is (.pointer (some ⟨g, 0, none⟩)),
          Ph.is (.int .u32 (lv.toNat : Int)),
          Ph.ownA wr.heap.size arcs,
          Ph.ownA wr.heap.size arcs] rfl rfl (by kernel_rfl) (by kernel_rfl) ?_ ?_
      · refine ⟨?_, ?_, ?_, ?_, ?_, ?_, ?_, ?_, trivial⟩
        · -- 0: slot 14 := Op.move t0
          refine ob_yes fun f w' hb hp => ?_
          simp [PreOf, factOf, valOf, Ph.is, Ph.by_, Ph.any, Region.binds, Ph.ownA] at hp
          refine ⟨by simp [Gd, valOf, hp], ?_⟩
          refine mild_val (.pointer (some ⟨g, 0, none⟩)) ?_ rfl
          simp [execOp, evalF, hp]
        · -- 1: slot 15 := Op.nilCheck t14
          refine ob_yes fun f w' hb hp => ?_
          simp [PreOf, factOf, valOf, Ph.is, Ph.by_, Ph.any, Region.binds, Ph.ownA] at hp
          refine ⟨by simp [Gd, valOf, hp], ?_⟩
          refine mild_val (.pointer (some ⟨g, 0, none⟩)) ?_ rfl
          simp [execOp, evalF, hp, go_sem]
        · -- 2: slot 16 := Op.fieldAddr 85 t15 0
          refine ob_yes fun f w' hb hp => ?_
          simp [PreOf, factOf, valOf, Ph.is, Ph.by_, Ph.any, Region.binds, Ph.ownA] at hp
          refine ⟨by simp [Gd, valOf, hp], ?_⟩
          refine mild_val (.pointer (some ⟨g, 0, none⟩)) ?_ rfl
          simp [execOp, evalF, hp, go_sem]
        · -- 3: slot 17 := Op.load 32 t16
          refine ob_yes fun f w' hb hp => ?_
          simp [PreOf, factOf, valOf, Ph.is, Ph.by_, Ph.any, Region.binds, Ph.ownA] at hp
          refine ⟨by simp [Gd, valOf, hp], ?_⟩
          refine mild_val (.pointer (some ⟨gg, 0, none⟩)) ?_ rfl
          have hc := (X.out.below X.out.lt hb).cell 0 _ rfl
          simp [execOp, evalF, hp, hc, go_sem]
        · -- 4: slot 18 := Op.move t0
          refine ob_yes fun f w' hb hp => ?_
          simp [PreOf, factOf, valOf, Ph.is, Ph.by_, Ph.any, Region.binds, Ph.ownA] at hp
          refine ⟨by simp [Gd, valOf, hp], ?_⟩
          refine mild_val (.pointer (some ⟨g, 0, none⟩)) ?_ rfl
          simp [execOp, evalF, hp]
        · -- 5: slot 19 := Op.call   value (Operand.func 62), args := #[t18, const (0:i64)], argTypes := #[83, 3]  
          refine ob_yes fun f w' hb hp => ?_
          simp [PreOf, factOf, valOf, Ph.is, Ph.by_, Ph.any, Region.binds, Ph.ownA] at hp
          refine ⟨by simp [Gd, valOf, hp], ?_⟩
          refine mild_call 62 _ _ Tryz.f62 Tryz.func62 (by kernel_rfl) (by kernel_rfl) rfl ?_
          simp [evalF, hp, Ph.is, Ph.by_, Ph.any, Ph.ownA]
          refine (HAt.out w' hb).mono fun ev w8 h => ?_
          obtain ⟨rfl, h2⟩ := h
          exact ⟨rfl, h2⟩
        · -- 6: slot 20 := Op.call   value (Operand.func 16), args := #[t17, t19], argTypes := #[32, 24]  
          refine ob_yes fun f w' hb hp => ?_
          simp [PreOf, factOf, valOf, Ph.is, Ph.by_, Ph.any, Region.binds, Ph.ownA] at hp
          refine ⟨by simp [Gd, valOf, hp], ?_⟩
          refine mild_call 16 _ _ Tryz.f16 Tryz.func16 (by kernel_rfl) (by kernel_rfl) rfl ?_
          simp [evalF, hp, Ph.is, Ph.by_, Ph.any, Ph.ownA]
          refine (HArcs.out w' hb).mono fun ev w8 h => ?_
          obtain ⟨va, rfl, ho, h2⟩ := h
          exact ⟨_, rfl, h2, ho.more hb.size⟩
        · -- 7: slot 2 := Op.assign t20
          refine ob_yes fun f w' hb hp => ?_
          simp [PreOf, factOf, valOf, Ph.is, Ph.by_, Ph.any, Region.binds, Ph.ownA] at hp
          refine ⟨by simp [Gd, valOf, hp], ?_⟩
          exact mild_val (f 20) (by simp [execOp, evalF]) (by first | exact hp.1 | simpa [Ph.ownA] using hp)
      · intro f w2 hb2 hp
        simp only [PostOf, Ph.is, Ph.by_, Ph.any, Ph.ownA] at hp
        obtain ⟨h0, h1, h2, h3, h4, h5, h6, h7, _⟩ := hp
        simp only [fills, List.foldl_cons, List.foldl_nil, Act.put, List.setIfInBounds_toArray, List.set_cons_zero, List.set_cons_succ, h0, h1, h2, h3, h4, h5]
        clear h0 h1 h2 h3 h4 h5
        generalize f 20 = v20 at *
        generalize f 2 = v2 at *
        obtain ⟨A20, c20, rfl, hc20a, hc20b, _⟩ := h7.form'
        unfold maxLen at hc20b
        have hw2 := hb2
        have Hb2 := Lib.hid hb2
        have H20 := Lib.hid h7
        have hs2 := hw2.size
        clear h6 h7 hb2 hw2 HAt HArcs
        have hbyA : ByA w2 w2.heap.size (.slice A20 arcs.length c20) arcs := H20.out.rowLt.mono (fun _ h => h) (fun _ h => h.elim)
        obtain ⟨ut, hut⟩ : ∃ ut, ut = UInt64.ofNat n := ⟨_, rfl⟩
        have hut2 : ut.toNat + 1 = path.length := by
          rw [hut, UInt64.toNat_ofNat', HpL.out, Nat.mod_eq_of_lt (by omega)]
        have hnx : nextP R btab j uk path = if arcs.length = 0 then none else if backJ j uk ut = true then some (path.getD 0 0) else tryP j uk ut path.length (path.getD (path.length - 2) 0).toNat (nearP R (path.getD (path.length - 2) 0)) arcs (btab arcs) j.tries.toNat 0 := by
          unfold nextP
          simp only [show path.length - 1 = n by rw [HpL.out]; rfl]
          rw [← Hlv.out, ← Harcs.out, ← hut]
        have Hnx := Lib.hid hnx
        have Hut2 := Lib.hid hut2
        have H20b := Lib.hid hbyA
        clear hut hut2 hnx hbyA
        by_cases ha0 : arcs = []
        · have hbn := build_no w2 w2.heap.size _ arcs (by omega) H20b.out (Nat.le_refl _) (by rw [ha0]; rfl)
          have Hbn := Lib.hid hbn
          have Ha0 := Lib.hid ha0
          clear hbn ha0
          go_wp2_with fail
          refine Hbn.out.mono ?_
          rintro _ w3 ⟨rfl, hb3⟩
          have Hb3 := Lib.hid hb3
          have hs3' := hb3.size
          clear hb3
          go_wp2_with fail
          have hf : path = fin := by
            rw [← H4.out]
            exact (goesP_none (by rw [Hnx.out, if_pos (by rw [Ha0.out]; rfl)])).symm
          try rw [Exit.noGoto_normal]
          go_end0
          have hb23 := bstep Hb2.out Hb3.out
          rw [← hf]
          exact ⟨rfl, _, X.out.bl_ hb23, O.out.below_ hb23, H3.out.trans (hb23.mono (by omega))⟩
        · have hnb : nbrs arcs = true := by
            rcases HR.out.row lv with h | h
            · rw [← Harcs.out] at h; exact absurd h ha0
            · rw [← Harcs.out] at h; exact h
          have hbn := build_any w2 w2.heap.size _ arcs (by omega) H20b.out (Nat.le_refl _) hnb
          have hpos : ¬ arcs.length = 0 := fun h => ha0 (List.eq_nil_of_length_eq_zero h)
          have hbl := btab_len arcs hal (gmay_sum' (nbrs_gmay hnb).1)
          have Hnb := Lib.hid hnb
          have Hbn := Lib.hid hbn
          have Hpos := Lib.hid hpos
          have Hbl := Lib.hid hbl
          clear hnb hbn hpos ha0 hbl
          go_wp2_with fail
          refine Hbn.out.mono ?_
          rintro _ w3 ⟨vt, rfl, ho3, hb3⟩
          obtain ⟨At, ct, rfl, _⟩ := ho3.form'
          have hb23 := bstep Hb2.out hb3
          have hs3' := hb3.size
          have hs23 := hb23.size
          have X3 := Lib.hid (X.out.bl_ hb23)
          have O3 := Lib.hid (O.out.below_ hb23)
          have H33 := Lib.hid (H3.out.trans (hb23.mono (by omega)))
          have hA3 : ByA w3 w3.heap.size (.slice A20 arcs.length c20) arcs := (H20b.out.below hb3).mono (fun _ h => by omega) (fun _ h => h)
          have hC3 : ByC w3 w3.heap.size (.slice At (btab arcs).length ct) (btab arcs) := ho3.rowLt.mono (fun _ h => h) (fun _ h => h.elim)
          have hU3 : ByU w3 w3.heap.size (Value.slice (some ⟨gp, 0, none⟩) path.length cp) path := O3.out.rowLt.mono (fun _ h => h) (fun _ h => h.elim)
          have hbk := back_any22 w3 g w3.heap.size (Nat.le_refl _) (.pointer (some ⟨gg, 0, none⟩)) vs_ (Value.slice (some ⟨gp, 0, none⟩) path.length cp) j id path X3.out hU3 (by rw [HpL.out]; omega) (by rw [HpL.out]; omega) hid uk ut Hk.out Hut2.out _ rfl
          have Hbk := Lib.hid hbk
          have HA3 := Lib.hid hA3
          have HC3 := Lib.hid hC3
          clear hbk hA3 hC3 hU3 ho3 hb3 hb23 Hbn X O H3 Hb2 H20 H20b
          go_wp2_with fail
          refine Hbk.out.mono ?_
          rintro _ w4 ⟨rfl, hb4⟩
          have hs4 := hb4.size
          have X4 := Lib.hid (X3.out.bl_ hb4)
          have O4 := Lib.hid (O3.out.below_ hb4)
          have H34 := Lib.hid (H33.out.trans (hb4.mono (by omega)))
          have HA4 : Hid (ByA w4 w4.heap.size (.slice A20 arcs.length c20) arcs) := Lib.hid ((HA3.out.below hb4).mono (fun _ h => by omega) (fun _ h => h))
          have HC4 : Hid (ByC w4 w4.heap.size (.slice At (btab arcs).length ct) (btab arcs)) := Lib.hid ((HC3.out.below hb4).mono (fun _ h => by omega) (fun _ h => h))
          clear hb4 X3 O3 H33 HA3 HC3 Hbk
          obtain ⟨tab, htab⟩ : ∃ tab, tab = btab arcs := ⟨_, rfl⟩
          have Htab := Lib.hid htab
          rw [← htab] at HC4 Hnx
          rw [← htab]
          clear htab
          cases hbj : backJ j uk ut with
          | true =>
            have Hbj := Lib.hid hbj
            obtain ⟨x0v, hx0v⟩ : ∃ x0v, x0v = path.getD 0 0 := ⟨_, rfl⟩
            have Hx0v := Lib.hid hx0v
            have Hx0 : Hid (∀ W', OwnF 24 cU32 W' B (Value.slice (some ⟨gp, 0, none⟩) path.length cp) path → W'.cell? ⟨gp, 0, none⟩ = some (.int .u32 (x0v.toNat : Int))) := Lib.hid fun W' ho => by
              have hy : ByU W' W'.heap.size (Value.slice (some ⟨gp, 0, none⟩) path.length cp) path := ho.rowLt.mono (fun _ h => h) (fun _ h => h.elim)
              obtain ⟨ad, e, _, hc⟩ := ByU.cells hy 0 (by rw [HpL.out]; omega)
              injection e with e
              subst e
              rw [add_zero'] at hc
              rw [hc, hx0v]
              simp [List.getD, HpL.out]
            have Hlp : Hid (0 < path.length) := Lib.hid (by rw [HpL.out]; omega)
            have hpl20 : path.length ≤ 1048576 := by rw [HpL.out]; omega
            have hgs : g < w4.heap.size := X4.out.lt
            clear hbj hx0v
            go_upto_region 6 with fail
            refine wp_region_mixSL (ds := [30, 31, 32, 33, 34, 35, 36, 37, 38, 39, 40, 41, 42, 43, 44]) 16 (fun bb vs W' => BoxAt 85 W' g (walkC (.pointer (some ⟨gg, 0, none⟩)) vs_ j id (cond (bb 15) (vs 12) (Value.slice (some ⟨gp, 0, none⟩) path.length cp))) ∧ Chg (fun k => k = g ∨ (Value.slice (some ⟨gp, 0, none⟩) path.length cp).ownBlock = some k) w4 W' ∧ OwnF 24 cU32 W' B (cond (bb 12) (vs 12) (Value.slice (some ⟨gp, 0, none⟩) path.length cp)) (path ++ cond (bb 12) [x0v] []) ∧ TmpT 24 [.int .u32 (x0v.toNat : Int)] W' (bb 11) (bb 12) (vs 11) ∧ (bb 15 = true → bb 12 = true) ∧ (bb 15 = true → bb 4 = true) ∧ (bb 15 = true → bb 8 = true) ∧ (bb 12 = true → bb 10 = true) ∧ (bb 11 = true → bb 10 = true)) [some 30, some 31, some 32, some 33, some 34, some 35, some 36, some 37, some 38, some 39, some 40, some 41, some 42, some 43, some 44, none]
              [fun v => v = .pointer (some ⟨g, 0, none⟩), fun v => v = .pointer (some ⟨g, 0, none⟩), fun v => v = .pointer (some ⟨g, 0, none⟩), fun v => v = .pointer (some ⟨g, 17, none⟩), fun v => v = (Value.slice (some ⟨gp, 0, none⟩) path.length cp), fun v => v = .pointer (some ⟨g, 0, none⟩), fun v => v = .pointer (some ⟨g, 0, none⟩), fun v => v = .pointer (some ⟨g, 17, none⟩), fun v => v = (Value.slice (some ⟨gp, 0, none⟩) path.length cp), fun v => v = .pointer (some ⟨gp, 0, none⟩), fun v => v = .int .u32 (x0v.toNat : Int), fun _ => True, fun _ => True, fun v => v = .pointer (some ⟨g, 0, none⟩), fun v => v = .pointer (some ⟨g, 17, none⟩), fun _ => True]
              rfl rfl rfl (by kernel_rfl) (by kernel_rfl) ?_ (fun _ => ⟨X4.out, Chg.ofBelow ⟨rfl, rfl, rfl, Nat.le_refl _, fun _ _ => rfl⟩, by simpa using (show OwnF 24 cU32 w4.drew B (Value.slice (some ⟨gp, 0, none⟩) path.length cp) path from OwnR.below_ O4.out (Below.refl _ _).drew), fun h _ => (by cases h), fun h => (by cases h), fun h => (by cases h), fun h => (by cases h), fun h => (by cases h), fun h => (by cases h)⟩) ?_
            · refine ⟨?_, ?_, ?_, ?_, ?_, ?_, ?_, ?_, ?_, ?_, ?_, ?_, ?_, ?_, ?_, ?_, trivial⟩
              · -- 0: slot 30 := Op.move t0
                refine obS_yes fun f bb w' hj hs hd hp => ?_
                simp [PreO, factO, valOf, Region.binds] at hp hd
                refine ⟨by simp [Gd, valOf, hp], ?_⟩
                refine mildS_val (.pointer (some ⟨g, 0, none⟩)) (w' := w') ?_ rfl (by simpa using hj)
                simp [execOp, evalF, hp, go_sem]
              · -- 1: slot 31 := Op.move t0
                refine obS_yes fun f bb w' hj hs hd hp => ?_
                simp [PreO, factO, valOf, Region.binds] at hp hd
                refine ⟨by simp [Gd, valOf, hp], ?_⟩
                refine mildS_val (.pointer (some ⟨g, 0, none⟩)) (w' := w') ?_ rfl (by simpa using hj)
                simp [execOp, evalF, hp, go_sem]
              · -- 2: slot 32 := Op.nilCheck t31
                refine obS_yes fun f bb w' hj hs hd hp => ?_
                simp [PreO, factO, valOf, Region.binds] at hp hd
                refine ⟨by simp [Gd, valOf, hp], ?_⟩
                refine mildS_val (.pointer (some ⟨g, 0, none⟩)) (w' := w') ?_ rfl (by simpa using hj)
                simp [execOp, evalF, hp, go_sem]
              · -- 3: slot 33 := Op.fieldAddr 85 t32 3
                refine obS_yes fun f bb w' hj hs hd hp => ?_
                simp [PreO, factO, valOf, Region.binds] at hp hd
                refine ⟨by simp [Gd, valOf, hp], ?_⟩
                refine mildS_val (.pointer (some ⟨g, 17, none⟩)) (w' := w') ?_ rfl (by simpa using hj)
                simp [execOp, evalF, hp, go_sem]
              · -- 4: slot 34 := Op.load 25 t33
                refine obS_yes fun f bb w' hj hs hd hp => ?_
                simp [PreO, factO, valOf, Region.binds] at hp hd
                refine ⟨by simp [Gd, valOf, hp], ?_⟩
                have h15 : bb 15 = false := by cases hx : bb 15 with | false => rfl | true => rw [hj.2.2.2.2.2.1 hx] at hs; cases hs
                have hc : w'.cell? ⟨g, 17, none⟩ = some ((Value.slice (some ⟨gp, 0, none⟩) path.length cp)) := by have h := hj.1; rw [h15] at h; exact BoxAt.cell h 17 _ rfl
                refine mildS_val ((Value.slice (some ⟨gp, 0, none⟩) path.length cp)) (w' := w') ?_ rfl (by obtain ⟨j1, j2, j3, j4, j5, j6, j7, j8, j9⟩ := hj; exact ⟨by simpa using j1, j2, by simpa using j3, by simpa using j4, by simpa using j5, by simp, by simpa using j7, by simpa using j8, by simpa using j9⟩)
                simp [execOp, evalF, hp, go_sem, hc]
              · -- 5: slot 35 := Op.move t0
                refine obS_yes fun f bb w' hj hs hd hp => ?_
                simp [PreO, factO, valOf, Region.binds] at hp hd
                refine ⟨by simp [Gd, valOf, hp], ?_⟩
                refine mildS_val (.pointer (some ⟨g, 0, none⟩)) (w' := w') ?_ rfl (by simpa using hj)
                simp [execOp, evalF, hp, go_sem]
              · -- 6: slot 36 := Op.nilCheck t35
                refine obS_yes fun f bb w' hj hs hd hp => ?_
                simp [PreO, factO, valOf, Region.binds] at hp hd
                refine ⟨by simp [Gd, valOf, hp], ?_⟩
                refine mildS_val (.pointer (some ⟨g, 0, none⟩)) (w' := w') ?_ rfl (by simpa using hj)
                simp [execOp, evalF, hp, go_sem]
              · -- 7: slot 37 := Op.fieldAddr 85 t36 3
                refine obS_yes fun f bb w' hj hs hd hp => ?_
                simp [PreO, factO, valOf, Region.binds] at hp hd
                refine ⟨by simp [Gd, valOf, hp], ?_⟩
                refine mildS_val (.pointer (some ⟨g, 17, none⟩)) (w' := w') ?_ rfl (by simpa using hj)
                simp [execOp, evalF, hp, go_sem]
              · -- 8: slot 38 := Op.load 25 t37
                refine obS_yes fun f bb w' hj hs hd hp => ?_
                simp [PreO, factO, valOf, Region.binds] at hp hd
                refine ⟨by simp [Gd, valOf, hp], ?_⟩
                have h15 : bb 15 = false := by cases hx : bb 15 with | false => rfl | true => rw [hj.2.2.2.2.2.2.1 hx] at hs; cases hs
                have hc : w'.cell? ⟨g, 17, none⟩ = some ((Value.slice (some ⟨gp, 0, none⟩) path.length cp)) := by have h := hj.1; rw [h15] at h; exact BoxAt.cell h 17 _ rfl
                refine mildS_val ((Value.slice (some ⟨gp, 0, none⟩) path.length cp)) (w' := w') ?_ rfl (by obtain ⟨j1, j2, j3, j4, j5, j6, j7, j8, j9⟩ := hj; exact ⟨by simpa using j1, j2, by simpa using j3, by simpa using j4, by simpa using j5, by simpa using j6, by simp, by simpa using j8, by simpa using j9⟩)
                simp [execOp, evalF, hp, go_sem, hc]
              · -- 9: slot 39 := Op.indexAddr 25 t38 (const (0:i64))
                refine obS_yes fun f bb w' hj hs hd hp => ?_
                simp [PreO, factO, valOf, Region.binds] at hp hd
                refine ⟨by simp [Gd, valOf, hp], ?_⟩
                have hlp : 0 < path.length := Hlp.out
                refine mildS_val (.pointer (some ⟨gp, 0, none⟩)) (w' := w') ?_ rfl (by simpa using hj)
                simp [execOp, evalF, hp, go_sem, Instr.indexAt, Addr.add, hlp]
              · -- 10: slot 40 := Op.load 24 t39
                refine obS_yes fun f bb w' hj hs hd hp => ?_
                simp [PreO, factO, valOf, Region.binds] at hp hd
                refine ⟨by simp [Gd, valOf, hp], ?_⟩
                have h12 : bb 12 = false := by cases hx : bb 12 with | false => rfl | true => rw [hj.2.2.2.2.2.2.2.1 hx] at hs; cases hs
                have hc : w'.cell? ⟨gp, 0, none⟩ = some (.int .u32 (x0v.toNat : Int)) := by
                  have h3 := hj.2.2.1
                  rw [h12] at h3
                  exact Hx0.out w' (by simpa using h3)
                refine mildS_val (.int .u32 (x0v.toNat : Int)) (w' := w') ?_ rfl (by obtain ⟨j1, j2, j3, j4, j5, j6, j7, j8, j9⟩ := hj; exact ⟨by simpa using j1, j2, by simpa using j3, by simpa using j4, by simpa using j5, by simpa using j6, by simpa using j7, by simp, by simp⟩)
                simp [execOp, evalF, hp, go_sem, hc]
              · -- 11: slot 41 := Op.buildSlice 25 1 #[(0, t40)]
                refine obS_yes fun f bb w' hj hs hd hp => ?_
                simp [PreO, factO, valOf, Region.binds] at hp hd
                refine ⟨by simp [Gd, valOf, hp], ?_⟩
                have h10 : bb 10 = true := by first | exact hd | exact hd.1 | exact hd.2
                obtain ⟨j1, j2, j3, j4, j5, j6, j7, j8, j9⟩ := hj
                refine mildS_val (.slice (some ⟨w'.heap.size, 0, none⟩) 1 1) (w' := w'.alloc (.cells #[.int .u32 (x0v.toNat : Int)] 24)) ?_ trivial ⟨by simpa using j1.bl_ (balloc _ _), j2.trans (Chg.ofBelow (balloc _ _)), by simpa using j3.below_ (balloc _ _), fun _ _ => ⟨_, by simp, BoxAt.new_ _ _ [.int .u32 (x0v.toNat : Int)]⟩, by simpa using j5, by simpa using j6, by simpa using j7, by simpa using j8, fun _ => by simp [h10]⟩
                have hr := run_slice_u32 w' (x0v.toNat : Int)
                simp [execOp, evalF, hp, hr]
              · -- 12: slot 42 := Op.call   builtin append, args := #[t34, t41], argTypes := #[25, 25]  
                refine obS_yes fun f bb w' hj hs hd hp => ?_
                simp [PreO, factO, valOf, Region.binds] at hp hd
                refine ⟨by simp [Gd, valOf, hp], ?_⟩
                obtain ⟨j1, j2, j3, j4, j5, j6, j7, j8, j9⟩ := hj
                have h15 : bb 15 = false := by cases hx : bb 15 with | false => rfl | true => rw [j5 hx] at hs; cases hs
                have h11 : bb 11 = true := hd.2
                have h4 : bb 4 = true := hd.1
                have h10 := j9 h11
                obtain ⟨q, hv11, hq⟩ := j4 h11 hs
                have k4 : OwnF 24 cU32 w' B (Value.slice (some ⟨gp, 0, none⟩) path.length cp) path := by rw [hs] at j3; simpa using j3
                have k1 := j1
                rw [h15] at k1
                refine mildS_ex (exec_appR (C := cU32) (O := fun _ => True) (.tmp 34) (.tmp 41) 25 rfl Tryz.underlying25 infoU32 (by kernel_rfl) (by decide) (by decide) k4 (rowOfBoxT (y := x0v) hq ⟨rfl, trivial⟩) (by simp [evalF, hp]) (by simpa [evalF, valOf] using hv11) (by simp only [List.length_singleton]; omega) (Nat.le_trans (by omega) j2.size)) ?_
                intro v' w3 g1 g2
                refine ⟨trivial, ?_, j2.trans (Chg.ofGrown g2.gr fun k e => .inr e), by simpa using g1, by simp [TmpT], by simp [h15], by simp [h15], by simp [h15], fun _ => by simp [h10], by simpa using j9⟩
                simp only [h15]
                exact boxKeptT (by decide) k4 g2 k1
              · -- 13: slot 43 := Op.nilCheck t30
                refine obS_yes fun f bb w' hj hs hd hp => ?_
                simp [PreO, factO, valOf, Region.binds] at hp hd
                refine ⟨by simp [Gd, valOf, hp], ?_⟩
                refine mildS_val (.pointer (some ⟨g, 0, none⟩)) (w' := w') ?_ rfl (by simpa using hj)
                simp [execOp, evalF, hp, go_sem]
              · -- 14: slot 44 := Op.fieldAddr 85 t43 3
                refine obS_yes fun f bb w' hj hs hd hp => ?_
                simp [PreO, factO, valOf, Region.binds] at hp hd
                refine ⟨by simp [Gd, valOf, hp], ?_⟩
                refine mildS_val (.pointer (some ⟨g, 17, none⟩)) (w' := w') ?_ rfl (by simpa using hj)
                simp [execOp, evalF, hp, go_sem]
              · -- 15: slot None := Op.store 25 t44 t42
                refine obS_yes fun f bb w' hj hs hd hp => ?_
                simp [PreO, factO, valOf, Region.binds] at hp hd
                refine ⟨by simp [Gd, valOf, hp], ?_⟩
                have h12 : bb 12 = true := (by first | exact hd.1 | exact hd | exact hd.2.1 | exact hd.2 | exact hd.2.2.1 | exact hd.2.2 | exact hd.2.2.2.1 | exact hd.2.2.2 | exact hd.2.2.2.2.1 | exact hd.2.2.2.2 | exact hd.2.2.2.2.2.1 | exact hd.2.2.2.2.2 | exact hd.2.2.2.2.2.2.1 | exact hd.2.2.2.2.2.2 | exact hd.2.2.2.2.2.2.2.1 | exact hd.2.2.2.2.2.2.2 | exact hd.2.2.2.2.2.2.2.2.1 | exact hd.2.2.2.2.2.2.2.2 | exact hd.2.2.2.2.2.2.2.2.2.1 | exact hd.2.2.2.2.2.2.2.2.2 | exact hd.2.2.2.2.2.2.2.2.2.2.1 | exact hd.2.2.2.2.2.2.2.2.2.2 | exact hd.2.2.2.2.2.2.2.2.2.2.2.1 | exact hd.2.2.2.2.2.2.2.2.2.2.2 | exact hd.2.2.2.2.2.2.2.2.2.2.2.2.1 | exact hd.2.2.2.2.2.2.2.2.2.2.2.2 | exact hd.2.2.2.2.2.2.2.2.2.2.2.2.2.1 | exact hd.2.2.2.2.2.2.2.2.2.2.2.2.2 | exact hd.2.2.2.2.2.2.2.2.2.2.2.2.2.2.1 | exact hd.2.2.2.2.2.2.2.2.2.2.2.2.2.2 | exact hd.2.2.2.2.2.2.2.2.2.2.2.2.2.2.2.1 | exact hd.2.2.2.2.2.2.2.2.2.2.2.2.2.2.2)
                have h4 : bb 4 = true := (by first | exact hd.1 | exact hd | exact hd.2.1 | exact hd.2 | exact hd.2.2.1 | exact hd.2.2 | exact hd.2.2.2.1 | exact hd.2.2.2 | exact hd.2.2.2.2.1 | exact hd.2.2.2.2 | exact hd.2.2.2.2.2.1 | exact hd.2.2.2.2.2 | exact hd.2.2.2.2.2.2.1 | exact hd.2.2.2.2.2.2 | exact hd.2.2.2.2.2.2.2.1 | exact hd.2.2.2.2.2.2.2 | exact hd.2.2.2.2.2.2.2.2.1 | exact hd.2.2.2.2.2.2.2.2 | exact hd.2.2.2.2.2.2.2.2.2.1 | exact hd.2.2.2.2.2.2.2.2.2 | exact hd.2.2.2.2.2.2.2.2.2.2.1 | exact hd.2.2.2.2.2.2.2.2.2.2 | exact hd.2.2.2.2.2.2.2.2.2.2.2.1 | exact hd.2.2.2.2.2.2.2.2.2.2.2 | exact hd.2.2.2.2.2.2.2.2.2.2.2.2.1 | exact hd.2.2.2.2.2.2.2.2.2.2.2.2 | exact hd.2.2.2.2.2.2.2.2.2.2.2.2.2.1 | exact hd.2.2.2.2.2.2.2.2.2.2.2.2.2 | exact hd.2.2.2.2.2.2.2.2.2.2.2.2.2.2.1 | exact hd.2.2.2.2.2.2.2.2.2.2.2.2.2.2 | exact hd.2.2.2.2.2.2.2.2.2.2.2.2.2.2.2.1 | exact hd.2.2.2.2.2.2.2.2.2.2.2.2.2.2.2)
                have h8 : bb 8 = true := (by first | exact hd.1 | exact hd | exact hd.2.1 | exact hd.2 | exact hd.2.2.1 | exact hd.2.2 | exact hd.2.2.2.1 | exact hd.2.2.2 | exact hd.2.2.2.2.1 | exact hd.2.2.2.2 | exact hd.2.2.2.2.2.1 | exact hd.2.2.2.2.2 | exact hd.2.2.2.2.2.2.1 | exact hd.2.2.2.2.2.2 | exact hd.2.2.2.2.2.2.2.1 | exact hd.2.2.2.2.2.2.2 | exact hd.2.2.2.2.2.2.2.2.1 | exact hd.2.2.2.2.2.2.2.2 | exact hd.2.2.2.2.2.2.2.2.2.1 | exact hd.2.2.2.2.2.2.2.2.2 | exact hd.2.2.2.2.2.2.2.2.2.2.1 | exact hd.2.2.2.2.2.2.2.2.2.2 | exact hd.2.2.2.2.2.2.2.2.2.2.2.1 | exact hd.2.2.2.2.2.2.2.2.2.2.2 | exact hd.2.2.2.2.2.2.2.2.2.2.2.2.1 | exact hd.2.2.2.2.2.2.2.2.2.2.2.2 | exact hd.2.2.2.2.2.2.2.2.2.2.2.2.2.1 | exact hd.2.2.2.2.2.2.2.2.2.2.2.2.2 | exact hd.2.2.2.2.2.2.2.2.2.2.2.2.2.2.1 | exact hd.2.2.2.2.2.2.2.2.2.2.2.2.2.2 | exact hd.2.2.2.2.2.2.2.2.2.2.2.2.2.2.2.1 | exact hd.2.2.2.2.2.2.2.2.2.2.2.2.2.2.2)
                obtain ⟨j1, j2, j3, j4, j5, j6, j7, j8, j9⟩ := hj
                have hc := j1.cell 17 _ rfl
                have hf := j1.frozen 17
                have k4 : OwnF 24 cU32 w' B (f 42) (path ++ [x0v]) := by have h := j3; rw [h12] at h; exact h
                obtain ⟨A9, c9, e9, _, _, _⟩ := k4.form'
                refine mildS_skip (w' := w'.setCell ⟨g, 17, none⟩ (f 42)) ?_ trivial ⟨?_, j2.trans (Chg.set _ _ _ (.inl rfl)), ?_, ?_, by simp [h12], by simp [h4], by simp [h8], by simpa using j8, by simpa using j9⟩
                · simp [execOp, evalF, hp, go_sem, hc, hf, e9]
                · exact j1.put 17 (f 42)
                · exact ownSetT (by decide) j3 j1 17 (f 42)
                · simpa using TmpT.set (by decide) j4 j1 17 (f 42)
            · intro f bb wd hall hj hp
              simp only [PostO] at hp
              obtain ⟨e0, e1, e2, e3, e4, e5, e6, e7, e8, e9, e10, _, _, e13, e14, _, _⟩ := hp
              simp only [fills, List.foldl_cons, List.foldl_nil, Act.put, List.setIfInBounds_toArray, List.set_cons_zero, List.set_cons_succ, e0, e1, e2, e3, e4, e5, e6, e7, e8, e9, e10, e13, e14]
              clear e0 e1 e2 e3 e4 e5 e6 e7 e8 e9 e10 e13 e14
              simp only [List.drop_succ_cons, List.drop_zero]
              obtain ⟨j1, j2, j3, j4, j5, j6, j7, j8, j9⟩ := hj
              have b12 : bb 12 = true := hall 12 (by decide)
              have b15 : bb 15 = true := hall 15 (by decide)
              rw [b15] at j1
              rw [b12] at j3
              have k1 : BoxAt 85 wd g (walkC (.pointer (some ⟨gg, 0, none⟩)) vs_ j id (f 42)) := j1
              have k4 : OwnF 24 cU32 wd B (f 42) (path ++ [x0v]) := j3
              have K1 := Lib.hid k1
              have K4 := Lib.hid k4
              have J2 := Lib.hid j2
              have hn' : IntKind.u32.wrap ((n : Int) + 1) = (n : Int) + 1 := by rw [IntKind.wrap_u32']; omega
              clear j1 j2 j3 j4 j5 j6 j7 j8 j9 k1 k4
              generalize f 42 = vq at *
              go_wp2_with fail
              go_roundg m
              case measure => omega
              case rel =>
                refine ⟨n + 1, path ++ [x0v], vq, by omega, by go_num, by rw [List.length_append, List.length_singleton, HpL.out], K1.out, K4.out, H34.out.trans (J2.out.below (by omega) fun q hq => ?_), ?_⟩
                · rcases hq with rfl | hq
                  · exact hBg
                  · exact (O4.out.blk q hq).1
                · rw [← H4.out]
                  exact (goesP_some (by rw [Hnx.out, if_neg Hpos.out, if_pos Hbj.out, Hx0v.out])).symm
          | false =>
            have Hbj := Lib.hid hbj
            obtain ⟨tn, htn⟩ : ∃ tn, tn = j.tries.toNat := ⟨_, rfl⟩
            have hc10 : w4.cell? ⟨g, 10, none⟩ = some (.int .u32 (tn : Int)) := by rw [htn]; exact X4.out.cell 10 _ rfl
            obtain ⟨ah, hah⟩ : ∃ ah, ah = path.getD (path.length - 2) 0 := ⟨_, rfl⟩
            obtain ⟨nx, hnx2⟩ : ∃ nx, nx = tryP j uk ut path.length ah.toNat (nearP R ah) arcs tab tn 0 := ⟨_, rfl⟩
            have Hnx2 := Lib.hid hnx2.symm
            have hnx3 : nextP R btab j uk path = nx := by
              rw [Hnx.out, if_neg Hpos.out, if_neg (by rw [hbj]; decide), ← hah, ← htn, hnx2]
            have Hnx3 := Lib.hid hnx3
            have Hah := Lib.hid hah
            have htr2 : tn ≤ 1048575 := by omega
            have Htn := Lib.hid htn
            clear hbj hnx2 hnx3 hah htn htr
            go_wp2_with fail
            clear hc10
            go_loopg [51] tn (fun g2 s51 wy => ∃ k : Nat, k + g2 = tn ∧ s51 = .int .u64 (k : Int) ∧ tryP j uk ut path.length ah.toNat (nearP R ah) arcs tab g2 k = nx ∧ Below w4.heap.size w4 wy)
            case atStart => exact ⟨0, by omega, rfl, Hnx2.out, Below.refl _ _⟩
            case round =>
              obtain ⟨k, hkg, rfl, htp, hbl⟩ := hrel
              have hsy := hbl.size
              have X5 := Lib.hid (X4.out.bl_ hbl)
              have O5 := Lib.hid (OwnR.below_ O4.out hbl)
              have H35 := Lib.hid (H34.out.trans (hbl.mono (by omega)))
              have HA5 : Hid (ByA wr wr.heap.size (.slice A20 arcs.length c20) arcs) := Lib.hid ((HA4.out.below hbl).mono (fun _ h => by omega) (fun _ h => h))
              have HC5 : Hid (ByC wr wr.heap.size (.slice At tab.length ct) tab) := Lib.hid ((HC4.out.below hbl).mono (fun _ h => by omega) (fun _ h => h))
              have Hbl5 := Lib.hid hbl
              have Htp := Lib.hid htp
              clear hbl htp X4 O4 H34 HA4 HC4
              cases gk with
              | zero =>
                have hd2 : decide ((k : Int) < (tn : Int)) = false := decide_eq_false (by omega)
                go_wp2_with fail
                have hf : path = fin := by
                  rw [← H4.out]
                  have := Htp.out
                  rw [tryP] at this
                  exact (goesP_none (by rw [Hnx3.out, ← this])).symm
                try rw [Exit.noGoto_normal]
                go_end0
                rw [← hf]
                exact ⟨rfl, _, X5.out, O5.out, H35.out⟩
              | succ m2 =>
                have hd2 : decide ((k : Int) < (tn : Int)) = true := decide_eq_true (by omega)
                have hU5 : ByU wr wr.heap.size (Value.slice (some ⟨gp, 0, none⟩) path.length cp) path := O5.out.rowLt.mono (fun _ h => h) (fun _ h => h.elim)
                have hcd := candP_any wr g wr.heap.size (Nat.le_refl _) (.pointer (some ⟨gg, 0, none⟩)) vs_ (Value.slice (some ⟨gp, 0, none⟩) path.length cp) j id path X5.out hU5 (by rw [HpL.out]; omega) (by rw [HpL.out]; omega) hid uk ut Hk.out Hut2.out k (by omega) (.slice A20 arcs.length c20) (.slice At tab.length ct) arcs HA5.out (by rw [← Htab.out]; exact HC5.out) hal Hnb.out
                rw [← Htab.out] at hcd
                obtain ⟨to, hto⟩ : ∃ to, to = candP j uk ut arcs tab k := ⟨_, rfl⟩
                rw [← hto] at hcd
                have Hcd := Lib.hid hcd
                have htp := Htp.out
                rw [tryP, ← hto] at htp
                have Htp2 := Lib.hid htp
                clear hcd htp hto hU5 Htp
                go_wp2_with fail
                refine Hcd.out.mono ?_
                rintro _ w5 ⟨rfl, hb5⟩
                have hs5 := hb5.size
                have X6 := Lib.hid (X5.out.bl_ hb5)
                have O6 := Lib.hid (OwnR.below_ O5.out hb5)
                have H36 := Lib.hid (H35.out.trans (hb5.mono (by omega)))
                have Hbl6 := Lib.hid (bstep Hbl5.out hb5)
                have hU6 : ByU w5 w5.heap.size (Value.slice (some ⟨gp, 0, none⟩) path.length cp) path := O6.out.rowLt.mono (fun _ h => h) (fun _ h => h.elim)
                have htk := takesP_any w5 g w5.heap.size gg (Nat.le_refl _) vs_ (Value.slice (some ⟨gp, 0, none⟩) path.length cp) R HR.out ((HG.out.below H36.out).more (by omega)) j id path X6.out hU6 (by rw [HpL.out]; omega) (by rw [HpL.out]; omega) hid uk ut Hk.out Hut2.out k (by omega) to ah Hah.out
                obtain ⟨tr_, htr_⟩ : ∃ tr_, tr_ = takesJ j path.length to.toNat ah.toNat (testP j uk ut k) (nearP R ah to) := ⟨_, rfl⟩
                have htp := Htp2.out
                rw [← htr_] at htk htp
                have Htk := Lib.hid htk
                have Htp := Lib.hid htp
                clear htk htp htr_ hU6 Hcd Htp2 X5 O5 H35 HA5 HC5 Hbl5 hb5
                go_wp2_with fail
                refine Htk.out.mono ?_
                rintro _ w6 ⟨rfl, hb6⟩
                have hs6 := hb6.size
                have X7 := Lib.hid (X6.out.bl_ hb6)
                have O7 := Lib.hid (OwnR.below_ O6.out hb6)
                have H37 := Lib.hid (H36.out.trans (hb6.mono (by omega)))
                have Hbl7 := Lib.hid (bstep Hbl6.out hb6)
                clear Htk X6 O6 H36 Hbl6 hb6
                cases tr_ with
                | false =>
                  go_wp2_with fail
                  go_roundg m2
                  case measure => omega
                  case rel =>
                    have := Htp.out
                    rw [if_neg (by decide)] at this
                    exact ⟨k + 1, by omega, by go_num, this, Hbl7.out⟩
                | true =>
                  have hc7 := X7.out.cell 17 _ rfl
                  have hn' : IntKind.u32.wrap ((n : Int) + 1) = (n : Int) + 1 := by rw [IntKind.wrap_u32']; omega
                  have hpl20 : path.length ≤ 1048576 := by rw [HpL.out]; omega
                  go_wp2_with (
                    (with_reducible refine wpList_app1R (C := cU32) ?_ (.tmp 67) (.tmp 69) 25 ?_ Tryz.underlying25 infoU32 ?_ ?_ ?_ [.int .u32 (to.toNat : Int)] O7.out (y := to) ?_ ?_ ?_ ?_ ?_ ?_); exact rfl; exact rfl; exact (by kernel_rfl); exact (by decide); exact (by decide); exact ⟨rfl, trivial⟩; exact rfl; exact rfl; exact (by omega); exact (by omega)
                    intro v8 w8 ho8 hx8
                    obtain ⟨A8, c8, rfl, _⟩ := ho8.form'
                    have X8 := Lib.hid (boxKeptT (by decide) O7.out hx8 X7.out)
                    have hc8 := X8.out.cell 17 _ rfl
                    have hf8 := X8.out.frozen 17
                    have Ho8 := Lib.hid ho8
                    have Hx8 := Lib.hid hx8
                    clear ho8 hx8)
                  go_roundg m
                  case measure => omega
                  case rel =>
                    have hnt : nx = some to := by
                      have := Htp.out
                      rw [if_pos trivial] at this
                      exact this.symm
                    have hll : (path ++ [to]).length = path.length + 1 := by rw [List.length_append, List.length_singleton]
                    refine ⟨n + 1, path ++ [to], .slice A8 (path.length + 1) c8, by omega, by go_num, by rw [hll, HpL.out], X8.out.put 17 _, ?_, (H37.out.trans (Hx8.out.below (by omega) fun q hq => (O7.out.blk q hq).1)).setCell (p := ⟨g, 17, none⟩) hBg _, ?_⟩
                    · have := ownSetT (by decide) Ho8.out X8.out 17 (.slice A8 (path.length + 1) c8)
                      rw [hll] at this
                      exact this
                    · rw [← H4.out]
                      exact (goesP_some (by rw [Hnx3.out, hnt])).symm
end Go.Proofs.YtcffeepgfjpcaaaGreat

namespace Go.Proofs.YtcffeepgfjpcaaaGreat
set_option linter.unusedSimpArgs false
set_option linter.unusedVariables false
open Go.RowKit

/-- a walker's walk over rows -/
def pathP (R : List GRow) (j : GJob) (id : Nat) : List UInt32 := if id < walkersJ j then goesP R btab j (UInt64.ofNat id) j.len.toNat [j.srcs.getD (srcJ j id) 0] else []
theorem goesP_len {R : List GRow} {tab : List GArc → List GCell} {j : GJob} {uk : UInt64} : ∀ (k : Nat) (path : List UInt32), (goesP R tab j uk k path).length ≤ path.length + k ∧ path.length ≤ (goesP R tab j uk k path).length
  | 0, path => by simp [goesP]
  | k + 1, path => by
    rw [goesP]
    cases nextP R tab j uk path with
    | none => simp only; omega
    | some v =>
      have := goesP_len (R := R) (tab := tab) (j := j) (uk := uk) k (path ++ [v])
      rw [List.length_append, List.length_singleton] at this
      simp only
      omega
set_option maxRecDepth 100000 in
theorem build_walks (W : World) (gg : Nat) (vs : Value) (j : GJob) (id q : Nat) : (Instr.build 85 #[(0, .pointer (some ⟨gg, 0, none⟩)), (1, .agg (jobC j vs).toArray), (2, .int .u32 (id : Int)), (3, .slice (some ⟨q, 0, none⟩) 1 1)]).run Tryz.prog W = .ok (.agg (walkC (.pointer (some ⟨gg, 0, none⟩)) vs j id (.slice (some ⟨q, 0, none⟩) 1 1)).toArray) W :=
  run_build W _ _ _ (by kernel_rfl)
theorem wpList_build_walks {ops : Array Oper} {rest : List Oper} {o : Oper} {a : Act} {w : World} {Q : Exit → Act → World → Prop} (hgd : o.guard = none) (x0 x1 x2 x3 : Operand) (ho : o.op = .build 85 #[(0, x0), (1, x1), (2, x2), (3, x3)])
    (gg : Nat) (vs : Value) (j : GJob) (id q : Nat) (h0 : a.eval x0 = .pointer (some ⟨gg, 0, none⟩)) (h1 : a.eval x1 = .agg (jobC j vs).toArray) (h2 : a.eval x2 = .int .u32 (id : Int)) (h3 : a.eval x3 = .slice (some ⟨q, 0, none⟩) 1 1)
    (h : wpList Tryz.prog ops Q rest (a.put o.dst (.agg (walkC (.pointer (some ⟨gg, 0, none⟩)) vs j id (.slice (some ⟨q, 0, none⟩) 1 1)).toArray)) w) : wpList Tryz.prog ops Q (o :: rest) a w :=
  wpList_plain hgd fun K hK => by
    unfold Oper.wp execOp
    simp only [ho, List.map_toArray, List.map_cons, List.map_nil, h0, h1, h2, h3, Sem.run_bind, build_walks, Result.andThen_ok]
    exact hK _ _ h
set_option maxRecDepth 100000 in
set_option maxHeartbeats 3200000 in
theorem path_any (w : World) (gg : Nat) (R : List GRow) (hR : RGood R) (hg : GraphAt w w.heap.size gg R) (v : Value) (j : GJob) (id : Nat) (hid : id < 4294967296) (h : JobAt w w.heap.size v j) (hnd : j.srcs.Nodup) (hs : SortOk j.srcs) (hlen : j.len.toNat ≤ 1048574) (htr : j.tries.toNat ≤ 1048575) :
    Calls Tryz.prog 11 #[.pointer (some ⟨gg, 0, none⟩), v, .int .u32 (id : Int)] w fun e w' => ∃ vp, e = .returned vp ∧ OwnF 24 cU32 w' w.heap.size vp (pathP R j id) ∧ Below w.heap.size w w' := by
  obtain ⟨fin, hfin⟩ : ∃ fin, fin = pathP R j id := ⟨_, rfl⟩
  rw [← hfin]
  have Hfin := Lib.hid hfin
  clear hfin
  obtain ⟨is, his⟩ : ∃ is, is = decide (id < walkersJ j) := ⟨_, rfl⟩
  have hm := fun W (hW : Below w.heap.size w W) => new_any W v j id hid (h.step hW) hnd hs is his
  obtain ⟨vs, rfl, hby⟩ := h
  obtain ⟨w0, hw0⟩ : ∃ w0, w0 = w.alloc (.cells (jobC j vs).toArray 29) := ⟨_, rfl⟩
  have hb0 : Below w.heap.size w w0 := by rw [hw0]; exact balloc _ _
  have hx0 : BoxAt 29 w0 w.heap.size (jobC j vs) := by rw [hw0]; exact BoxAt.new_ _ _ _
  have hz0 : w0.heap.size = w.heap.size + 1 := by rw [hw0]; simp
  have hbd := fun W q => build_walks W gg vs j id q
  have Hw0 := Lib.hid hw0
  have Hb0 := Lib.hid hb0
  have X0 := Lib.hid hx0
  have Hm := Lib.hid hm
  have His := Lib.hid his
  have HR := Lib.hid hR
  have HG := Lib.hid hg
  clear hw0 hb0 hx0 hm his hR hg
  go_enter Tryz.func11, Tryz.ntmps11
  go_wp2_with (first
    | (rw [← Hw0.out])
    | ((with_reducible refine wpList_load_agg ?_ 29 (.tmp 4) ?_ ⟨w.heap.size, 0, none⟩ ?_ (jobC j vs) X0.out.cells Tryz.underlying29 ?_ ?_ ?_); exact rfl; exact rfl; exact rfl; exact rfl; exact infoJob15))
  refine (Hm.out w0 Hb0.out).mono ?_
  rintro _ w1 ⟨rfl, hb1⟩
  obtain ⟨na, hna⟩ : ∃ na, na = newA j id := ⟨_, rfl⟩
  obtain ⟨nt, hnt⟩ : ∃ nt, nt = newAt j id := ⟨_, rfl⟩
  rw [← hna, ← hnt]
  obtain ⟨w2, hw2⟩ : ∃ w2, w2 = w1.alloc (.cells (walkerC na nt).toArray 80) := ⟨_, rfl⟩
  have hb2 : Below w1.heap.size w1 w2 := by rw [hw2]; exact balloc _ _
  have hx2 : BoxAt 80 w2 w1.heap.size (walkerC na nt) := by rw [hw2]; exact BoxAt.new_ _ _ _
  have hb02 := bstep Hb0.out (bstep hb1 hb2)
  have X2 := Lib.hid (X0.out.bl_ (bstep hb1 hb2))
  have hc2 := hx2.cell 2 _ rfl
  have hs1 := hb1.size
  have hz2 : w2.heap.size = w1.heap.size + 1 := by rw [hw2]; simp
  have hs02 := hb02.size
  have Hb2 := Lib.hid hb02
  have Hw2 := Lib.hid hw2
  have Hnt := Lib.hid hnt
  have Hz2 := Lib.hid hz2
  have Hone : Hid (∀ u ∈ walkerC na nt, u.oneCell' = true) := Lib.hid fun u hu => by
    simp [walkerC] at hu
    rcases hu with rfl | rfl | rfl | rfl <;> rfl
  clear hb1 hb2 hx2 hw2 hb02 hna hnt Hm hz2 Hw0 Hb0 X0
  cases is with
  | false =>
    have hno : ¬ id < walkersJ j := fun h => by have := His.out; rw [decide_eq_true h] at this; cases this
    have hp : pathP R j id = [] := by unfold pathP; rw [if_neg hno]
    have Hp := Lib.hid hp
    clear hno hp
    go_wp2_with (first
      | ((with_reducible refine wpList_alloc_z ?_ 80 ?_ infoWalker (walkerC 0 0) ?_ ?_); exact rfl; exact rfl; exact rfl)
      | ((with_reducible refine wpList_store_new ?_ 80 (.tmp 7) (.tmp 14) ?_ (walkerC 0 0) (walkerC na nt) ?_ ?_ ?_ ?_ Hone.out ?_); exact rfl; exact rfl; exact rfl; exact rfl; exact infoWalker7; exact rfl; rw [← Hw2.out]))
    go_ret
    rw [Hfin.out, Hp.out]
    exact ⟨_, rfl, OwnF.nil_ _ _, Hb2.out⟩
  | true =>
    have hlt : id < walkersJ j := by
      have := His.out
      exact of_decide_eq_true this.symm
    obtain ⟨x0, hx0⟩ : ∃ x0, x0 = j.srcs.getD (srcJ j id) 0 := ⟨_, rfl⟩
    have hp : pathP R j id = goesP R btab j (UInt64.ofNat id) j.len.toNat [x0] := by unfold pathP; rw [if_pos hlt, hx0]
    have hnt2 : nt = x0.toNat := by rw [Hnt.out]; unfold newAt; rw [if_pos hlt, hx0]
    subst hnt2
    rw [← Hfin.out] at hp
    obtain ⟨w3, hw3⟩ : ∃ w3, w3 = w2.alloc (.cells #[.int .u32 (x0.toNat : Int)] 24) := ⟨_, rfl⟩
    obtain ⟨w4, hw4⟩ : ∃ w4, w4 = w3.alloc (.cells (walkC (.pointer (some ⟨gg, 0, none⟩)) vs j id (.slice (some ⟨w2.heap.size, 0, none⟩) 1 1)).toArray 85) := ⟨_, rfl⟩
    have hz3 : w3.heap.size = w2.heap.size + 1 := by rw [hw3]; simp
    have hb3 : Below w2.heap.size w2 w3 := by rw [hw3]; exact balloc _ _
    have hb4 : Below w3.heap.size w3 w4 := by rw [hw4]; exact balloc _ _
    have hz4 : w4.heap.size = w3.heap.size + 1 := by rw [hw4]; simp
    have hX4 : BoxAt 85 w4 w3.heap.size (walkC (.pointer (some ⟨gg, 0, none⟩)) vs j id (.slice (some ⟨w2.heap.size, 0, none⟩) 1 1)) := by rw [hw4]; exact BoxAt.new_ _ _ _
    have hO3 : OwnF 24 cU32 w3 w.heap.size (.slice (some ⟨w2.heap.size, 0, none⟩) 1 1) [x0] := by
      rw [hw3]
      exact (OwnR.new_ (C := cU32) (S := fun _ => False) (xs := [x0]) w2 [[.int .u32 (x0.toNat : Int)]] rfl (by simp [maxLen]) (fun i cs x h1 h2 => by
        match i, h1, h2 with
        | 0, h1, h2 => injection h1 with h1; injection h2 with h2; subst h1; subst h2; exact ⟨rfl, trivial⟩) (fun _ h => h.elim)).more (by omega)
    have hbw4 := bstep Hb2.out (bstep hb3 hb4)
    have hgo := goes_any w4 w.heap.size w3.heap.size gg (by omega) (by omega) R HR.out (HG.out.below hbw4) vs (.slice (some ⟨w2.heap.size, 0, none⟩) 1 1) j id hid (UInt64.ofNat id) (by rw [UInt64.toNat_ofNat']; exact Nat.mod_eq_of_lt (by omega)) x0 hX4 (OwnR.below_ hO3 hb4) hlen htr
    have Hgo := Lib.hid hgo
    have Hw3 := Lib.hid hw3
    have Hw4 := Lib.hid hw4
    have Hbw4 := Lib.hid hbw4
    have Hz4 := Lib.hid hz4
    rw [← hp] at Hgo
    have hX2 := X2.out.cells
    clear hgo hw3 hw4 hbw4 hb3 hb4 hX4 hO3 hz3 hz4 hlt hp hx0
    go_upto_region 4 with (first
      | ((with_reducible refine wpList_alloc_z ?_ 80 ?_ infoWalker (walkerC 0 0) ?_ ?_); exact rfl; exact rfl; exact rfl)
      | ((with_reducible refine wpList_store_new ?_ 80 (.tmp 7) (.tmp 14) ?_ (walkerC 0 0) (walkerC na x0.toNat) ?_ ?_ ?_ ?_ Hone.out ?_); exact rfl; exact rfl; exact rfl; exact rfl; exact infoWalker7; exact rfl; rw [← Hw2.out])
      | ((with_reducible refine wpList_load_agg ?_ 29 (.tmp 4) ?_ ⟨w.heap.size, 0, none⟩ ?_ (jobC j vs) X2.out.cells Tryz.underlying29 ?_ ?_ ?_); exact rfl; exact rfl; exact rfl; exact rfl; exact infoJob15))
    go_wp2_with (first
      | ((with_reducible refine wpList_load_agg ?_ 29 (.tmp 4) ?_ ⟨w.heap.size, 0, none⟩ ?_ (jobC j vs) X2.out.cells Tryz.underlying29 ?_ ?_ ?_); exact rfl; exact rfl; exact rfl; exact rfl; exact infoJob15)
      | ((with_reducible refine wpList_build_walks ?_ (.tmp 18) (.tmp 19) (.tmp 20) (.tmp 23) ?_ gg vs j id w2.heap.size ?_ ?_ ?_ ?_ ?_); exact rfl; exact rfl; exact rfl; exact rfl; exact rfl; exact rfl; rw [← Hw3.out])
      | (rw [← Hw4.out]))
    refine Hgo.out.mono ?_
    rintro _ w5 ⟨rfl, vp, hX5, hO5, hb5⟩
    obtain ⟨A5, c5, rfl, _⟩ := hO5.form'
    have hc17 := hX5.cell 17 _ rfl
    have HO5 := Lib.hid hO5
    have Hb5 := Lib.hid (Hbw4.out.trans hb5)
    clear hX5 hO5 hb5
    go_wp2_with fail
    go_ret
    exact ⟨_, rfl, HO5.out, Hb5.out⟩
end Go.Proofs.YtcffeepgfjpcaaaGreat

namespace Go.Proofs.YtcffeepgfjpcaaaGreat
set_option linter.unusedSimpArgs false
set_option linter.unusedVariables false
open Go.RowKit

def beginJ : GJob := ⟨0, 0, 10, 1, [], 0, 1, 1, 1, 100, 10, 1024, 4096, 64, 64⟩
def zeroJ : GJob := ⟨0, 0, 0, 0, [], 0, 0, 0, 0, 0, 0, 0, 0, 0, 0⟩
theorem infoJobZ : (Tryz.prog.info? 29).map (fun i => (i.zero, i.size, i.bytes)) = some (some (.agg (jobC zeroJ (.slice none 0 0)).toArray), 15, 88) := by kernel_rfl
theorem infoJob_15 : (Tryz.prog.info? 29).map (·.size) = some 15 := by kernel_rfl
theorem jobC_one (j : GJob) (A : Option Addr) (n c : Nat) : ∀ u ∈ jobC j (.slice A n c), u.oneCell' = true := by
  intro u hu
  simp only [jobC, List.mem_cons, List.not_mem_nil, or_false] at hu
  rcases hu with rfl | rfl | rfl | rfl | rfl | rfl | rfl | rfl | rfl | rfl | rfl | rfl | rfl | rfl | rfl <;> rfl
set_option maxRecDepth 100000 in
set_option maxHeartbeats 800000 in
theorem jbegin_any (w : World) : Calls Tryz.prog 55 #[] w fun e w' => e = .returned (.agg (jobC beginJ (.slice none 0 0)).toArray) ∧ Below w.heap.size w w' := by
  have Hone : Hid (∀ u ∈ jobC beginJ (.slice none 0 0), u.oneCell' = true) := Lib.hid (jobC_one _ _ _ _)
  go_enter Tryz.func55, Tryz.ntmps55
  go_wp2_with (first
    | (refine wpList_alloc_z rfl 29 rfl infoJobZ (jobC zeroJ (.slice none 0 0)) rfl ?_)
    | (refine wpList_store_newX rfl 29 (.tmp 0) (.tmp 2) rfl (jobC zeroJ (.slice none 0 0)) (jobC beginJ (.slice none 0 0)) rfl rfl infoJob_15 rfl Hone.out ?_
       intro w4 hbx4 hb4 hz4))
  refine bodyPost_ret (results_c rfl _ _ w.heap.size (jobC beginJ (.slice none 0 0)) rfl (fun j v hj => (hbx4.cells j v hj : _)) Tryz.underlying29 rfl infoJob_15) rfl ?_
  exact ⟨rfl, hb4⟩
end Go.Proofs.YtcffeepgfjpcaaaGreat

namespace Go.Proofs.YtcffeepgfjpcaaaGreat
set_option linter.unusedSimpArgs false
set_option linter.unusedVariables false
open Go.RowKit

theorem nbrs_one (x : UInt32) : nbrs [⟨x, 1⟩] = true := by simp [nbrs, gmay, rise, gsum]
theorem pick_len1 (l : List GArc) (hn : nbrs l = true) (h1 : l.length = 1) (d : Nat) (hd : d < ptotal l) : (ival l (rmp l (btab l) d).1).1 = 0 := by
  have h := (cand_facts hn (by omega) hd).2
  omega
theorem candP_len1 (j : GJob) (uk ut : UInt64) (tr : Nat) (l : List GArc) (hn : nbrs l = true) (h1 : l.length = 1) : candP j uk ut l (btab l) tr = (l.getD 0 ⟨0, 0⟩).to := by
  have hd := belowU_lt (drawU j.seed uk ut (UInt64.ofNat (2 * tr + 1))) (ptotal l) (ptotal_posN hn)
  unfold candP
  rw [pick_len1 l hn h1 _ hd]
theorem candP_one (j : GJob) (uk ut : UInt64) (tr : Nat) (x : UInt32) : candP j uk ut [⟨x, 1⟩] (btab [⟨x, 1⟩]) tr = x := candP_len1 j uk ut tr [⟨x, 1⟩] (nbrs_one x) rfl
def awJ : GJob := { beginJ with srcs := [1], len := 3 }
def awR : List GRow := [⟨1, [⟨2, 1⟩]⟩, ⟨2, [⟨1, 1⟩]⟩]
def awE : List GEdge := [⟨1, 2, 1⟩, ⟨2, 1, 1⟩]
theorem aw_next1 (path : List UInt32) (uk : UInt64) (v x : UInt32) (hv : path.getD (path.length - 1) 0 = v) (ha : arcsR awR v = [⟨x, 1⟩]) : nextP awR btab awJ uk path = some x := by
  unfold nextP
  simp only [hv, ha]
  have hb : backJ awJ uk (UInt64.ofNat (path.length - 1)) = false := by unfold backJ awJ beginJ; simp
  rw [if_neg (by simp), if_neg (by rw [hb]; decide)]
  have ht : awJ.tries.toNat = 99 + 1 := rfl
  rw [ht, tryP, candP_one]
  have hk : takesJ awJ path.length x.toNat (path.getD (path.length - 2) 0).toNat (testP awJ uk (UInt64.ofNat (path.length - 1)) 0) (nearP awR (path.getD (path.length - 2) 0) x) = true := by unfold takesJ awJ beginJ; simp
  rw [if_pos hk]
theorem aw_path : pathP awR awJ 0 = [1, 2, 1, 2] := by
  have hw : walkersJ awJ = 1 := by decide
  unfold pathP
  rw [if_pos (by rw [hw]; decide)]
  have hs : awJ.srcs.getD (srcJ awJ 0) 0 = 1 := by
    unfold srcJ
    rw [if_pos (by rw [hw]; decide)]
    rfl
  rw [hs, show awJ.len.toNat = 2 + 1 from rfl]
  have h1 : ∀ uk k, goesP awR btab awJ uk (k + 1) [1] = goesP awR btab awJ uk k [1, 2] := fun uk k => goesP_some (aw_next1 [1] uk 1 2 rfl rfl)
  have h2 : ∀ uk k, goesP awR btab awJ uk (k + 1) [1, 2] = goesP awR btab awJ uk k [1, 2, 1] := fun uk k => goesP_some (aw_next1 [1, 2] uk 2 1 rfl rfl)
  have h3 : ∀ uk k, goesP awR btab awJ uk (k + 1) [1, 2, 1] = goesP awR btab awJ uk k [1, 2, 1, 2] := fun uk k => goesP_some (aw_next1 [1, 2, 1] uk 1 2 rfl rfl)
  have h4 : ∀ uk, goesP awR btab awJ uk 0 [1, 2, 1, 2] = [1, 2, 1, 2] := fun uk => rfl
  rw [h1]
  show goesP awR btab awJ (UInt64.ofNat 0) (1 + 1) [1, 2] = _
  rw [h2]
  show goesP awR btab awJ (UInt64.ofNat 0) (0 + 1) [1, 2, 1] = _
  rw [h3, h4]
theorem aw_arcs (v : UInt32) : arcsR awR v = [⟨2, 1⟩] ∨ arcsR awR v = [⟨1, 1⟩] ∨ arcsR awR v = [] := by
  unfold arcsR awR
  simp only [List.find?]
  cases h1 : ((1 : UInt32) == v) with
  | true => exact .inl rfl
  | false =>
    cases h2 : ((2 : UInt32) == v) with
    | true => exact .inr (.inl rfl)
    | false => exact .inr (.inr rfl)
theorem aw_good : RGood awR := by
  refine ⟨by simp [awR], by simp [awR], fun v => ?_, fun v => ?_⟩
  · rcases aw_arcs v with h | h | h
    · rw [h]; exact .inr (nbrs_one 2)
    · rw [h]; exact .inr (nbrs_one 1)
    · exact .inl h
  · rcases aw_arcs v with h | h | h <;> rw [h] <;> decide
/-- the rows of the example's edges -/
theorem aw_rows {L : List GEdge} (hp : L.Perm awE) (hs : L.Pairwise fun a b => a.num ≤ b.num) : mrow L ⟨0, []⟩ [] = some awR := by
  have hse : awE.Pairwise fun a b => a.num ≤ b.num := by decide
  have e : L = awE := hp.eq_of_pairwise (fun a b _ _ h1 h2 => GEdge.num_inj (Nat.le_antisymm h1 h2)) hs hse
  subst e
  decide
end Go.Proofs.YtcffeepgfjpcaaaGreat

namespace Go.Proofs.YtcffeepgfjpcaaaGreat
set_option linter.unusedVariables false
open Go.Shelf
def sortL_ren : Go.Shelf.Ren := ⟨fun | 6 => 32 | 15 => 57 | 14 => 56 | 28 => 90 | 29 => 91 | 20 => 82 | 21 => 83 | 22 => 84 | 23 => 85 | 24 => 86 | 25 => 87 | 26 => 88 | 27 => 89 | 46 => 109 | 47 => 110 | 48 => 111 | 49 => 112 | 50 => 113 | 57 => 123 | n => n, fun | 22 => 70 | 24 => 40 | 25 => 73 | 3 => 3 | 39 => 124 | 0 => 0 | 53 => 24 | 55 => 23 | 4 => 4 | 46 => 157 | 45 => 156 | 50 => 60 | 5 => 5 | 9 => 9 | 66 => 185 | 70 => 189 | 76 => 200 | 77 => 201 | n => n, fun | n => n⟩
theorem sortL : Go.Proofs.SlLaysF.n6 Tryz.prog sortL_ren := {
  mixed := by kernel_rfl
  f6 := ⟨Tryz.f32.name, by decide, Tryz.func32.trans (congrArg some (by kernel_rfl))⟩
  f14 := ⟨Tryz.f56.name, by decide, Tryz.func56.trans (congrArg some (by kernel_rfl))⟩
  f15 := Tryz.func57.trans (congrArg some (by kernel_rfl))
  f20 := ⟨Tryz.f82.name, by decide, Tryz.func82.trans (congrArg some (by kernel_rfl))⟩
  f21 := ⟨Tryz.f83.name, by decide, Tryz.func83.trans (congrArg some (by kernel_rfl))⟩
  f22 := ⟨Tryz.f84.name, by decide, Tryz.func84.trans (congrArg some (by kernel_rfl))⟩
  f23 := ⟨Tryz.f85.name, by decide, Tryz.func85.trans (congrArg some (by kernel_rfl))⟩
  f24 := ⟨Tryz.f86.name, by decide, Tryz.func86.trans (congrArg some (by kernel_rfl))⟩
  f25 := ⟨Tryz.f87.name, by decide, Tryz.func87.trans (congrArg some (by kernel_rfl))⟩
  f26 := ⟨Tryz.f88.name, by decide, Tryz.func88.trans (congrArg some (by kernel_rfl))⟩
  f27 := ⟨Tryz.f89.name, by decide, Tryz.func89.trans (congrArg some (by kernel_rfl))⟩
  f28 := Tryz.func90.trans (congrArg some (by kernel_rfl))
  f29 := Tryz.func91.trans (congrArg some (by kernel_rfl))
  f46 := ⟨Tryz.f109.name, by decide, Tryz.func109.trans (congrArg some (by kernel_rfl))⟩
  f47 := Tryz.func110.trans (congrArg some (by kernel_rfl))
  f48 := Tryz.func111.trans (congrArg some (by kernel_rfl))
  f49 := ⟨Tryz.f112.name, by decide, Tryz.func112.trans (congrArg some (by kernel_rfl))⟩
  f50 := ⟨Tryz.f113.name, by decide, Tryz.func113.trans (congrArg some (by kernel_rfl))⟩
  f57 := ⟨Tryz.f123.name, by decide, Tryz.func123.trans (congrArg some (by kernel_rfl))⟩
  t0 := Tryz.underlying0
  a0 := Tryz.isAgg0
  z0 := Tryz.sizeOf0
  v0 := Tryz.zeroValue0
  t3 := Tryz.underlying3
  a3 := Tryz.isAgg3
  z3 := Tryz.sizeOf3
  v3 := Tryz.zeroValue3
  t4 := Tryz.underlying4
  a4 := Tryz.isAgg4
  z4 := Tryz.sizeOf4
  v4 := Tryz.zeroValue4
  t5 := Tryz.underlying5
  a5 := Tryz.isAgg5
  z5 := Tryz.sizeOf5
  v5 := Tryz.zeroValue5
  t9 := Tryz.underlying9
  a9 := Tryz.isAgg9
  z9 := Tryz.sizeOf9
  v9 := Tryz.zeroValue9
  t22 := Tryz.underlying70
  a22 := Tryz.isAgg70
  z22 := Tryz.sizeOf70
  v22 := Tryz.zeroValue70
  a24 := Tryz.isAgg40
  z24 := Tryz.sizeOf40
  t25 := Tryz.underlying73
  a25 := Tryz.isAgg73
  z25 := Tryz.sizeOf73
  v25 := Tryz.zeroValue73
  t39 := Tryz.underlying124
  a39 := Tryz.isAgg124
  z39 := Tryz.sizeOf124
  v39 := Tryz.zeroValue124
  t45 := Tryz.underlying156
  a45 := Tryz.isAgg156
  z45 := Tryz.sizeOf156
  v45 := Tryz.zeroValue156
  t46 := Tryz.underlying157
  a46 := Tryz.isAgg157
  z46 := Tryz.sizeOf157
  v46 := Tryz.zeroValue157
  t50 := Tryz.underlying60
  a50 := Tryz.isAgg60
  z50 := Tryz.sizeOf60
  v50 := Tryz.zeroValue60
  t53 := Tryz.underlying24
  a53 := Tryz.isAgg24
  z53 := Tryz.sizeOf24
  v53 := Tryz.zeroValue24
  t55 := Tryz.underlying23
  a55 := Tryz.isAgg23
  z55 := Tryz.sizeOf23
  v55 := Tryz.zeroValue23
  t66 := Tryz.underlying185
  a66 := Tryz.isAgg185
  z66 := Tryz.sizeOf185
  v66 := Tryz.zeroValue185
  t70 := Tryz.underlying189
  a70 := Tryz.isAgg189
  z70 := Tryz.sizeOf189
  v70 := Tryz.zeroValue189
  t76 := Tryz.underlying200
  a76 := Tryz.isAgg200
  z76 := Tryz.sizeOf200
  v76 := Tryz.zeroValue200
  t77 := Tryz.underlying201
  a77 := Tryz.isAgg201
  z77 := Tryz.sizeOf201
  v77 := Tryz.zeroValue201 }
end Go.Proofs.YtcffeepgfjpcaaaGreat

namespace Go.Proofs.YtcffeepgfjpcaaaGreat
set_option linter.unusedSimpArgs false
set_option linter.unusedVariables false
open Go.RowKit

theorem libBytesOf (l : List UInt8) : Go.Lib.bytesOf (l.map fun b => (b.toNat : Int)) = l := by
  induction l with
  | nil => rfl
  | cons b t ih =>
    have e : Go.Lib.bytesOf ((b :: t).map fun b => (b.toNat : Int)) = (b.toNat : Int).toNat.toUInt8 :: Go.Lib.bytesOf (t.map fun b => (b.toNat : Int)) := rfl
    rw [e, ih]
    congr 1
    rw [Int.toNat_natCast]
    exact UInt8.ofNat_toNat
theorem run_bytesOf {w : World} {B : Nat} {v : Value} {l : List UInt8} (h : By w B v l) : (Extern.Bytes.bytesOf v).run Tryz.prog w = .ok (bst l) w := by
  obtain ⟨A, c, rfl, _, _, hr⟩ := h
  cases A with
  | none =>
    have h0 : l.length = 0 := by
      rcases Nat.eq_zero_or_pos l.length with h | h
      · exact h
      · obtain ⟨_, h, _⟩ := hr.ad h; cases h
    have hl : l = [] := List.eq_nil_of_length_eq_zero h0
    subst hl
    rfl
  | some ad =>
    have hc : ∀ (j : Nat) (x : Int), (l.map fun b => (b.toNat : Int))[j]? = some x → w.cell? (ad.add j) = some (.int .u8 x) := by
      intro j x hx
      rw [List.getElem?_map] at hx
      obtain ⟨b, hb, e⟩ := Option.map_eq_some_iff.1 hx
      subst e
      rcases Nat.eq_zero_or_pos l.length with h | h
      · have hl : l = [] := List.eq_nil_of_length_eq_zero h
        subst hl
        simp at hb
      · obtain ⟨ad', e, _, hc⟩ := hr.ad h
        injection e with e
        subst e
        exact hc j _ (by simp [b8s, b8, hb])
    have hl := Go.Lib.run_loadBytesX (P := Tryz.prog) w (l.map fun b => (b.toNat : Int)) ad .empty hc
    rw [List.length_map, libBytesOf] at hl
    refine hl.trans ?_
    simp [bst, ByteArray.empty, ByteArray.emptyWithCapacity]
    rfl
theorem run_bcmp {w : World} {B1 B2 : Nat} {v1 v2 : Value} {l1 l2 : List UInt8} (h1 : By w B1 v1 l1) (h2 : By w B2 v2 l2) :
    (callFunc 58 #[v1, v2]).run Tryz.prog w = .ok (.value (.int .i64 (Lib.compareBytes l1 l2))) w := by
  rw [run_callFunc_extern (P := Tryz.prog) (e := Extern.BytealgCompare.compare) Tryz.func58 (by kernel_rfl) (by kernel_rfl) (by kernel_rfl) (by kernel_rfl)]
  have e : (Extern.BytealgCompare.compare #[v1, v2]).run Tryz.prog w = .ok (.int .i64 (Lib.compareBytes l1 l2)) w := by
    change Sem.run Tryz.prog (do pure (goInt (Extern.BytealgCompare.cmp (← Extern.Bytes.bytesOf v1) (← Extern.Bytes.bytesOf v2)))) w = _
    simp only [Sem.run_bind, run_bytesOf h1, run_bytesOf h2, Result.andThen, Sem.run_pure]
    rw [Lib.cmp_eq]
    rfl
  rw [e]
  rfl
theorem bcmp_any (w : World) (B1 B2 : Nat) (v1 v2 : Value) (l1 l2 : List UInt8) (h1 : By w B1 v1 l1) (h2 : By w B2 v2 l2) :
    Calls Tryz.prog 33 #[v1, v2] w fun e w' => e = .returned (.int .i64 (Lib.compareBytes l1 l2)) ∧ w' = w := by
  have hr := run_bcmp h1 h2
  clear h1 h2
  generalize Lib.compareBytes l1 l2 = z at *
  go_enter Tryz.func33, Tryz.ntmps33
  go_wp2_with fail
  go_ret
  exact ⟨rfl, rfl⟩
/-- bytes as a number -/
def valB : List UInt8 → Nat
  | [] => 0
  | b :: t => b.toNat * 256 ^ t.length + valB t
theorem valB_lt : ∀ l : List UInt8, valB l < 256 ^ l.length
  | [] => by simp [valB]
  | b :: t => by
    have h := valB_lt t
    have hb := b.toNat_lt
    have hp : 256 ^ (b :: t).length = 256 * 256 ^ t.length := by rw [List.length_cons, Nat.pow_succ, Nat.mul_comm]
    rw [hp, valB]
    have : (b.toNat + 1) * 256 ^ t.length ≤ 256 * 256 ^ t.length := Nat.mul_le_mul_right _ (by omega)
    rw [Nat.add_mul] at this
    omega
theorem cmp_val : ∀ a b : List UInt8, a.length = b.length → Lib.compareBytes a b = if valB a < valB b then -1 else if valB b < valB a then 1 else 0
  | [], [], _ => by simp [Lib.compareBytes]
  | [], _ :: _, h => by simp at h
  | _ :: _, [], h => by simp at h
  | x :: a, y :: b, h => by
    simp only [List.length_cons, Nat.add_right_cancel_iff] at h
    have ih := cmp_val a b h
    have ha := valB_lt a
    have hb := valB_lt b
    rw [h] at ha
    have e1 : valB (x :: a) = x.toNat * 256 ^ b.length + valB a := by rw [valB, h]
    have e2 : valB (y :: b) = y.toNat * 256 ^ b.length + valB b := rfl
    rw [Lib.compareBytes, ih, e1, e2]
    generalize 256 ^ b.length = P at *
    by_cases h1 : x < y
    · have h1' := UInt8.lt_iff_toNat_lt.1 h1
      have : (x.toNat + 1) * P ≤ y.toNat * P := Nat.mul_le_mul_right _ (by omega)
      rw [Nat.add_mul] at this
      rw [if_pos h1, if_pos (by omega)]
    · rw [if_neg h1]
      by_cases h2 : y < x
      · have h2' := UInt8.lt_iff_toNat_lt.1 h2
        have : (y.toNat + 1) * P ≤ x.toNat * P := Nat.mul_le_mul_right _ (by omega)
        rw [Nat.add_mul] at this
        rw [if_pos h2, if_neg (by omega), if_pos (by omega)]
      · have h1' : ¬ x.toNat < y.toNat := fun h => h1 (UInt8.lt_iff_toNat_lt.2 h)
        have h2' : ¬ y.toNat < x.toNat := fun h => h2 (UInt8.lt_iff_toNat_lt.2 h)
        have e : x.toNat = y.toNat := by omega
        rw [if_neg h2, e]
        simp only [Nat.add_lt_add_iff_left]
theorem be4_val (n : Nat) (h : n < 4294967296) : valB (be4 n) = n := by
  simp only [be4, valB, List.length_cons, List.length_nil, UInt8.toNat_ofNat']
  omega
theorem valB_append : ∀ a b : List UInt8, valB (a ++ b) = valB a * 256 ^ b.length + valB b
  | [], b => by simp [valB]
  | x :: a, b => by
    rw [List.cons_append, valB, valB_append a b, valB, List.length_append, Nat.pow_add, Nat.add_mul, Nat.mul_assoc, Nat.add_assoc]
theorem keyL_val (x : GEdge) : valB (keyL x) = x.num := by
  have b0 := u32_lt x.fr
  have b1 := u32_lt x.to
  have b2 := u32_lt x.wt
  have l4 : ∀ n, (be4 n).length = 4 := fun _ => rfl
  unfold keyL GEdge.num
  rw [valB_append, valB_append, be4_val _ b0, be4_val _ b1, be4_val _ b2, l4, l4]
theorem cmp_key (x y : GEdge) : Lib.compareBytes (keyL x) (keyL y) = if x.num < y.num then -1 else if y.num < x.num then 1 else 0 := by
  rw [cmp_val (keyL x) (keyL y) rfl, keyL_val, keyL_val]
end Go.Proofs.YtcffeepgfjpcaaaGreat

namespace Go.Proofs.YtcffeepgfjpcaaaGreat
set_option linter.unusedSimpArgs false
set_option linter.unusedVariables false
open Go.RowKit

theorem infoEdge : (Tryz.prog.info? 55).map (fun i => (i.zero, i.size, i.bytes)) = some (some (.agg #[.int .u32 0, .int .u32 0, .int .u32 0]), 3, 12) := by kernel_rfl
theorem infoEdge3 : (Tryz.prog.info? 55).map (·.size) = some 3 := by kernel_rfl
theorem infoA3 : (Tryz.prog.info? 121).map (fun i => (i.zero, i.size, i.bytes)) = some (some (.agg #[.int .u32 0, .int .u32 0, .int .u32 0]), 3, 12) := by kernel_rfl
def zeroEc : List Value := [.int .u32 0, .int .u32 0, .int .u32 0]
/-- the three words of a key of which i bytes were read -/
def segN (l : List UInt8) (i k : Nat) : Nat := valB (((l.take i).drop (4 * k)).take 4)
def segC (l : List UInt8) (i : Nat) : List Value := [.int .u32 (segN l i 0 : Nat), .int .u32 (segN l i 1 : Nat), .int .u32 (segN l i 2 : Nat)]
theorem valB_snoc (l : List UInt8) (b : UInt8) : valB (l ++ [b]) = 256 * valB l + b.toNat := by
  rw [valB_append]
  simp [valB, Nat.mul_comm]
theorem segN_succ (l : List UInt8) (i k : Nat) (hi : i < l.length) : segN l (i + 1) k = if i / 4 = k then 256 * segN l i k + (l[i]).toNat else segN l i k := by
  unfold segN
  rw [List.take_succ_eq_append_getElem hi, List.drop_append]
  have hlen : (l.take i).length = i := by rw [List.length_take]; omega
  rw [hlen]
  by_cases h : i / 4 = k
  · rw [if_pos h]
    have h1 : 4 * k - i = 0 := by omega
    rw [h1, List.drop_zero, ← valB_snoc]
    congr 1
    have h2 : ((l.take i).drop (4 * k)).length ≤ 3 := by rw [List.length_drop, hlen]; omega
    generalize (l.take i).drop (4 * k) = q at *
    have e1 : (q ++ [l[i]]).length ≤ 4 := by rw [List.length_append]; simp only [List.length_cons, List.length_nil]; omega
    rw [List.take_of_length_le e1, List.take_of_length_le (by omega : q.length ≤ 4)]
  · rw [if_neg h]
    by_cases h1 : i < 4 * k
    · have e1 : (l.take i).drop (4 * k) = [] := List.drop_of_length_le (by omega)
      have e2 : ([l[i]] : List UInt8).drop (4 * k - i) = [] := List.drop_of_length_le (by simp; omega)
      rw [e1, e2]
      rfl
    · congr 1
      rw [List.take_append_of_le_length (by rw [List.length_drop, hlen]; omega)]
theorem segN_lt (l : List UInt8) (i : Nat) (hi : i ≤ l.length) : segN l i (i / 4) < 16777216 := by
  unfold segN
  have h := valB_lt (((l.take i).drop (4 * (i / 4))).take 4)
  have h2 : (((l.take i).drop (4 * (i / 4))).take 4).length ≤ 3 := by rw [List.length_take, List.length_drop, List.length_take]; omega
  have h3 : 256 ^ (((l.take i).drop (4 * (i / 4))).take 4).length ≤ 256 ^ 3 := Nat.pow_le_pow_right (by omega) h2
  omega
theorem or_add32 (s b : Nat) (hs : s < 16777216) (hb : b < 256) : bits .or .u32 ((s : Int) * 256) (b : Int) = ((256 * s + b : Nat) : Int) := by
  have e : ((s : Int) * 256) = ((256 * s : Nat) : Int) := by omega
  rw [e, u32_or_nat _ _ (by omega) (by omega)]
  have := Nat.two_pow_add_eq_or_of_lt (i := 8) (b := b) (by omega) s
  simp only [Nat.reducePow] at this
  rw [this]
theorem segN_all (x : GEdge) : segC (keyL x) 12 = edgeC x := by
  have b0 := be4_val _ (u32_lt x.fr)
  have b1 := be4_val _ (u32_lt x.to)
  have b2 := be4_val _ (u32_lt x.wt)
  have e0 : segN (keyL x) 12 0 = valB (be4 x.fr.toNat) := rfl
  have e1 : segN (keyL x) 12 1 = valB (be4 x.to.toNat) := rfl
  have e2 : segN (keyL x) 12 2 = valB (be4 x.wt.toNat) := rfl
  unfold segC edgeC
  rw [e0, e1, e2, b0, b1, b2]

set_option maxRecDepth 100000 in
set_option maxHeartbeats 3200000 in
theorem mof_any (w : World) (B : Nat) (v : Value) (x : GEdge) (h : By w B v (keyL x)) (hB : B ≤ w.heap.size) :
    Calls Tryz.prog 114 #[v] w fun e w' => e = .returned (.tuple #[edgeV x, .int .i64 0]) ∧ Below w.heap.size w w' := by
  obtain ⟨A, c, rfl, hc1, hc2, hr⟩ := h
  obtain ⟨l, hl⟩ : ∃ l, l = keyL x := ⟨_, rfl⟩
  have h12 : l.length = 12 := by rw [hl]; rfl
  have hall := segN_all x
  rw [← hl] at hr hc1 hall ⊢
  rw [h12] at hc1 hr ⊢
  obtain ⟨ad, rfl, hab, hcs⟩ := hr.ad (by omega)
  have hcell : ∀ i (hi : i < l.length), w.cell? (ad.add i) = some (.int .u8 ((l[i]).toNat : Int)) := fun i hi => hcs i _ (by simp [b8s, b8, hi])
  have hs0 : segC l 0 = zeroEc := rfl
  have Hs0 := Lib.hid hs0
  have Hall := Lib.hid hall
  have Hcell := Lib.hid hcell
  have H12 := Lib.hid h12
  clear hl hr hcs hcell h12 hall hs0
  go_enter Tryz.func114, Tryz.ntmps114
  go_upto_region 1 with (first
    | (refine wpList_alloc_z rfl 55 rfl infoEdge zeroEc rfl ?_))
  obtain ⟨w1, hw1⟩ : ∃ w1, w1 = w.alloc (.cells zeroEc.toArray 55) := ⟨_, rfl⟩
  have hb1 : Below w.heap.size w w1 := by rw [hw1]; exact balloc _ _
  have hx1 : BoxAt 55 w1 w.heap.size zeroEc := by rw [hw1]; exact BoxAt.new_ _ _ _
  have hz1 : w1.heap.size = w.heap.size + 1 := by rw [hw1]; simp
  rw [← hw1]
  have Hb1 := Lib.hid hb1
  have X1 := Lib.hid hx1
  clear hw1 hb1 hx1
  go_upto_region 4 with (first
    | (refine wpList_alloc_z rfl 121 rfl infoA3 zeroEc rfl ?_))
  obtain ⟨w2, hw2⟩ : ∃ w2, w2 = w1.alloc (.cells zeroEc.toArray 121) := ⟨_, rfl⟩
  have hb2 : Below w1.heap.size w1 w2 := by rw [hw2]; exact balloc _ _
  have hx2 : BoxAt 121 w2 w1.heap.size zeroEc := by rw [hw2]; exact BoxAt.new_ _ _ _
  rw [← hw2]
  rw [hz1] at hx2 ⊢
  rw [← Hs0.out] at hx2
  have X2 := Lib.hid (X1.out.bl_ hb2)
  have A2 := Lib.hid hx2
  have Hb2 := Lib.hid (bstep Hb1.out hb2)
  clear hw2 hb2 hx2 X1 Hb1 Hs0
  go_wp2_with fail
  go_loopw [13] (fun iv wr => ∃ i : Nat, i ≤ 12 ∧ iv = .int .i64 i ∧ BoxAt 121 wr (w.heap.size + 1) (segC l i) ∧ BoxAt 55 wr w.heap.size zeroEc ∧ Below w.heap.size w wr) (fun iv _ => 12 - (intOf iv).toNat)
  case atStart => exact ⟨0, by omega, rfl, A2.out, X2.out, Hb2.out⟩
  case round =>
    obtain ⟨i, hi, rfl, hbox, hxe, hbl⟩ := hrel
    have Hbox := Lib.hid hbox
    have Hxe := Lib.hid hxe
    have Hbl := Lib.hid hbl
    have hlt12 := H12.out
    clear hbox hxe hbl A2 X2 Hb2
    by_cases hlt : i < 12
    · have hd : decide ((i : Int) < 12) = true := decide_eq_true (by omega)
      have hc := (Hbl.out.cell (by rw [add_block]; omega)).trans (Hcell.out i (by omega))
      have hsn := fun k => segN_succ l i k (by omega)
      have hsl := segN_lt l i (by omega)
      have hb8 := (l[i]).toNat_lt
      have Hsn := Lib.hid hsn
      have h3 : i / 4 = 0 ∨ i / 4 = 1 ∨ i / 4 = 2 := by omega
      clear hsn
      generalize (l[i]).toNat = b at *
      rcases h3 with h3 | h3 | h3
      · have hq : Int.tdiv (i : Int) 4 = 0 := by rw [Int.tdiv_eq_ediv_of_nonneg (by omega)]; omega
        have hcx := Hbox.out.cell 0 _ rfl
        have hfx := Hbox.out.frozen 0
        rw [h3] at hsl
        have hput := Hbox.out.put 0 (.int .u32 ((256 * segN l i 0 + b : Nat) : Int))
        have hseg : (segC l i).set 0 (.int .u32 ((256 * segN l i 0 + b : Nat) : Int)) = segC l (i + 1) := by
          unfold segC
          rw [Hsn.out 0, Hsn.out 1, Hsn.out 2, h3]
          rfl
        rw [hseg] at hput
        have hor := or_add32 (segN l i 0) b hsl hb8
        have Hput := Lib.hid hput
        have Hor := Lib.hid hor
        clear hput hseg hor h3
        generalize segN l i 0 = s0 at *
        go_wp2_with fail
        rw [Hor.out]
        go_roundw
        case rel => exact ⟨i + 1, by omega, by go_num, Hput.out, Hxe.out.other _ _ (by show w.heap.size + 1 ≠ w.heap.size; omega), Below.setCell Hbl.out (by show w.heap.size ≤ w.heap.size + 1; omega) _⟩
        case measure => simp [intOf]; omega
      · have hq : Int.tdiv (i : Int) 4 = 1 := by rw [Int.tdiv_eq_ediv_of_nonneg (by omega)]; omega
        have hcx := Hbox.out.cell 1 _ rfl
        have hfx := Hbox.out.frozen 1
        rw [h3] at hsl
        have hput := Hbox.out.put 1 (.int .u32 ((256 * segN l i 1 + b : Nat) : Int))
        have hseg : (segC l i).set 1 (.int .u32 ((256 * segN l i 1 + b : Nat) : Int)) = segC l (i + 1) := by
          unfold segC
          rw [Hsn.out 0, Hsn.out 1, Hsn.out 2, h3]
          rfl
        rw [hseg] at hput
        have hor := or_add32 (segN l i 1) b hsl hb8
        have Hput := Lib.hid hput
        have Hor := Lib.hid hor
        clear hput hseg hor h3
        generalize segN l i 1 = s0 at *
        go_wp2_with fail
        rw [Hor.out]
        go_roundw
        case rel => exact ⟨i + 1, by omega, by go_num, Hput.out, Hxe.out.other _ _ (by show w.heap.size + 1 ≠ w.heap.size; omega), Below.setCell Hbl.out (by show w.heap.size ≤ w.heap.size + 1; omega) _⟩
        case measure => simp [intOf]; omega
      · have hq : Int.tdiv (i : Int) 4 = 2 := by rw [Int.tdiv_eq_ediv_of_nonneg (by omega)]; omega
        have hcx := Hbox.out.cell 2 _ rfl
        have hfx := Hbox.out.frozen 2
        rw [h3] at hsl
        have hput := Hbox.out.put 2 (.int .u32 ((256 * segN l i 2 + b : Nat) : Int))
        have hseg : (segC l i).set 2 (.int .u32 ((256 * segN l i 2 + b : Nat) : Int)) = segC l (i + 1) := by
          unfold segC
          rw [Hsn.out 0, Hsn.out 1, Hsn.out 2, h3]
          rfl
        rw [hseg] at hput
        have hor := or_add32 (segN l i 2) b hsl hb8
        have Hput := Lib.hid hput
        have Hor := Lib.hid hor
        clear hput hseg hor h3
        generalize segN l i 2 = s0 at *
        go_wp2_with fail
        rw [Hor.out]
        go_roundw
        case rel => exact ⟨i + 1, by omega, by go_num, Hput.out, Hxe.out.other _ _ (by show w.heap.size + 1 ≠ w.heap.size; omega), Below.setCell Hbl.out (by show w.heap.size ≤ w.heap.size + 1; omega) _⟩
        case measure => simp [intOf]; omega
    · obtain rfl : i = 12 := by omega
      have hd : decide (((12 : Nat) : Int) < 12) = false := rfl
      have hc0 := Hbox.out.cell 0 _ rfl
      have hc1 := Hbox.out.cell 1 _ rfl
      have hc2 := Hbox.out.cell 2 _ rfl
      have hall := Hall.out
      unfold segC at hall
      generalize segN l 12 0 = s0 at *
      generalize segN l 12 1 = s1 at *
      generalize segN l 12 2 = s2 at *
      have Hall2 := Lib.hid hall
      have Hone : Hid (∀ u ∈ ([.int .u32 (s0 : Int), .int .u32 (s1 : Int), .int .u32 (s2 : Int)] : List Value), u.oneCell' = true) := Lib.hid fun u hu => by
        simp at hu
        rcases hu with rfl | rfl | rfl <;> rfl
      clear hall
      go_wp2_with (refine wpList_store_boxX rfl 55 55 (.tmp 2) (.tmp 36) rfl w.heap.size zeroEc [.int .u32 (s0 : Int), .int .u32 (s1 : Int), .int .u32 (s2 : Int)] rfl rfl Hxe.out rfl Hone.out infoEdge3 ?_
                   intro we hend hche hze)
      refine bodyPost_ret (results_ctX rfl _ _ w.heap.size [.int .u32 (s0 : Int), .int .u32 (s1 : Int), .int .u32 (s2 : Int)] rfl (fun j v hj => (hend.cells j v hj : _)) Tryz.underlying55 rfl infoEdge3) rfl ?_
      refine ⟨?_, Hbl.out.trans (hche.below (B := w.heap.size) Hbl.out.size (fun k hk => by omega))⟩
      unfold edgeV
      rw [← Hall2.out]
      rfl
end Go.Proofs.YtcffeepgfjpcaaaGreat

namespace Go.Proofs.YtcffeepgfjpcaaaGreat
set_option linter.unusedSimpArgs false
set_option linter.unusedVariables false
open Go.RowKit

def fullN (n fr : Nat) (x : GEdge) : Bool := decide (0 < n) && decide (fr ≠ x.fr.toNat)
set_option maxRecDepth 100000 in
set_option maxHeartbeats 3200000 in
theorem full_any (w : World) (g : Nat) (x : GEdge) (fr n c : Nat) (A : Option Addr) (vl : Value) (hb : BoxAt 166 w g [.int .u32 (fr : Int), .slice A n c, vl]) :
    Calls Tryz.prog 94 #[.pointer (some ⟨g, 0, none⟩), edgeV x] w fun e w' => e = .returned (.bool (fullN n fr x)) ∧ Below w.heap.size w w' := by
  obtain ⟨w0, hw0⟩ : ∃ w0, w0 = w.alloc (.cells (edgeC x).toArray 55) := ⟨_, rfl⟩
  have hb0 : Below w.heap.size w w0 := by rw [hw0]; exact balloc w _
  have hx0 : BoxAt 55 w0 w.heap.size (edgeC x) := by rw [hw0]; exact BoxAt.new_ _ _ _
  have hg0 := hb.bl_ hb0
  have Hw0 := Lib.hid hw0
  have Hb0 := Lib.hid hb0
  have hcs : edgeC x = [.int .u32 (x.fr.toNat : Int), .int .u32 (x.to.toNat : Int), .int .u32 (x.wt.toNat : Int)] := rfl
  have hcx := hx0.cell 0 _ rfl
  have hc0 := hg0.cell 0 _ rfl
  have hc1 := hg0.cell 1 _ rfl
  unfold edgeV fullN
  rw [hcs] at Hw0 ⊢
  clear hw0 hx0 hb0 hg0 hcs hb
  generalize x.fr.toNat = n0 at *
  generalize x.to.toNat = n1 at *
  generalize x.wt.toNat = n2 at *
  rcases Nat.eq_zero_or_pos n with h0 | h0
  · subst h0
    go_enter Tryz.func94, Tryz.ntmps94
    go_upto_region 1 with fail
    rw [← Hw0.out]
    go_quiet (fail)
    go_wp2_with fail
    go_ret
    exact ⟨by simp, bdrewN Hb0.out _⟩
  · have hd : decide ((0 : Int) < (n : Int)) = true := decide_eq_true (by omega)
    have hd2 : decide (0 < n) = true := decide_eq_true h0
    by_cases he : fr = n0
    · have hd3 : ((fr : Int) == (n0 : Int)) = true := by simp [he]
      have HE := Lib.hid he
      clear h0 he
      go_enter Tryz.func94, Tryz.ntmps94
      go_upto_region 1 with fail
      rw [← Hw0.out]
      go_quiet (fail)
      go_wp2_with fail
      go_ret
      exact ⟨by simp [HE.out], bdrewN Hb0.out _⟩
    · have hd3 : ((fr : Int) == (n0 : Int)) = false := beq_eq_false_iff_ne.2 (by omega)
      have HE := Lib.hid he
      clear h0 he
      go_enter Tryz.func94, Tryz.ntmps94
      go_upto_region 1 with fail
      rw [← Hw0.out]
      go_quiet (fail)
      go_wp2_with fail
      go_ret
      exact ⟨by have := HE.out; simp [this, hd2]; omega, bdrewN Hb0.out _⟩
end Go.Proofs.YtcffeepgfjpcaaaGreat

namespace Go.Proofs.YtcffeepgfjpcaaaGreat
set_option linter.unusedSimpArgs false
set_option linter.unusedVariables false
open Go.RowKit

/-- the merger's cells -/
abbrev mgC (fr : Nat) (va vl : Value) : List Value := [.int .u32 (fr : Int), va, vl]
def mgE (fr n s : Nat) (x : GEdge) : Int := if decide (0 < n) && decide (fr = x.fr.toNat) then (if 2147483647 < s + x.wt.toNat then 10 else 0) else (if 2147483647 < x.wt.toNat then 10 else 0)
set_option maxRecDepth 100000 in
set_option maxHeartbeats 3200000 in
theorem may_any22 (w : World) (B g : Nat) (x : GEdge) (v vl : Value) (last : List UInt8) (fr c : Nat) (A : Option Addr) (l : List GArc) (hg : BoxAt 166 w g (mgC fr (.slice A l.length c) vl))
    (hk : By w B v (keyL x)) (hl : By w B vl last) (ha : ByA w B (.slice A l.length c) l) (hB : B ≤ w.heap.size) (hle : 0 ≤ Lib.compareBytes (keyL x) last) (h0 : x.wt ≠ 0) (hs : gsum l ≤ 2147483647) (hlen : l.length ≤ 1048576) :
    Calls Tryz.prog 93 #[.pointer (some ⟨g, 0, none⟩), v] w fun e w' => e = .returned (.tuple #[edgeV x, .int .i64 (mgE fr l.length (gsum l) x)]) ∧ Below w.heap.size w w' := by
  have hof := fun W (hW : Below w.heap.size w W) => mof_any W B v x (hk.below (hW.mono hB)) (by have := hW.size; omega)
  have hsum := fun W (hW : Below w.heap.size w W) => gsum_any W B _ l (by omega) (ha.below (hW.mono hB)) (by have := hW.size; omega)
  have hcmp := fun W (hW : Below w.heap.size w W) => bcmp_any W B B v vl _ _ (hk.below (hW.mono hB)) (hl.below (hW.mono hB))
  have Hof := Lib.hid hof
  have Hsum := Lib.hid hsum
  have Hcmp := Lib.hid hcmp
  have Hg := Lib.hid hg
  clear hof hsum hcmp hk hl ha hg
  generalize l.length = n at *
  generalize gsum l = S at *
  generalize Lib.compareBytes (keyL x) last = z at *
  have hcs : edgeC x = [.int .u32 (x.fr.toNat : Int), .int .u32 (x.to.toNat : Int), .int .u32 (x.wt.toNat : Int)] := rfl
  have hz : x.wt.toNat ≠ 0 := fun e => h0 (UInt32.toNat_inj.1 e)
  have b2 := u32_lt x.wt
  obtain ⟨r, hr⟩ : ∃ r, r = mgE fr n S x := ⟨_, rfl⟩
  rw [← hr]
  unfold mgE at hr
  unfold edgeV at Hof ⊢
  rw [hcs] at Hof ⊢
  clear hcs h0
  generalize x.fr.toNat = n0 at *
  generalize x.to.toNat = n1 at *
  generalize x.wt.toNat = n2 at *
  have HR := Lib.hid hr
  clear hr
  have Hone : Hid (∀ u ∈ ([.int .u32 (n0 : Int), .int .u32 (n1 : Int), .int .u32 (n2 : Int)] : List Value), u.oneCell' = true) := Lib.hid fun u hu => by
    simp at hu
    rcases hu with rfl | rfl | rfl <;> rfl
  go_enter Tryz.func93, Tryz.ntmps93
  go_upto_region 1 with (first
    | (refine wpList_alloc_z rfl 55 rfl infoEdge zeroEc rfl ?_))
  obtain ⟨w1, hw1⟩ : ∃ w1, w1 = w.alloc (.cells zeroEc.toArray 55) := ⟨_, rfl⟩
  have hb1 : Below w.heap.size w w1 := by rw [hw1]; exact balloc _ _
  have hx1 : BoxAt 55 w1 w.heap.size zeroEc := by rw [hw1]; exact BoxAt.new_ _ _ _
  have hz1 : w1.heap.size = w.heap.size + 1 := by rw [hw1]; simp
  rw [← hw1]
  have Hb1 := Lib.hid hb1
  have X1 := Lib.hid hx1
  clear hw1 hb1 hx1
  go_wp2_with fail
  refine (Hof.out w1 Hb1.out).mono ?_
  rintro _ w2 ⟨rfl, hb2⟩
  have X2 := Lib.hid (X1.out.bl_ hb2)
  have Hb2 := Lib.hid (bstep Hb1.out hb2)
  clear hb2 X1
  go_upto_region 3 with (first
    | (refine wpList_alloc_z rfl 55 rfl infoEdge zeroEc rfl ?_)
    | (refine wpList_store_newX rfl 55 (.tmp 6) (.tmp 12) rfl zeroEc [.int .u32 (n0 : Int), .int .u32 (n1 : Int), .int .u32 (n2 : Int)] rfl rfl infoEdge3 rfl Hone.out ?_
       intro w3 hbx3 hb3 hz3))
  try simp only [Act.put, List.setIfInBounds_toArray, List.set_cons_zero, List.set_cons_succ]
  have Hb3 := Lib.hid (bstep Hb2.out hb3)
  have X3 := Lib.hid (X2.out.bl_ hb3)
  have E3 := Lib.hid hbx3
  have hG3 := Hg.out.below Hg.out.lt Hb3.out
  have hcg0 := hG3.cell 0 _ rfl
  have hcg1 := hG3.cell 1 _ rfl
  have hcg2 := hG3.cell 2 _ rfl
  have hce0 := hbx3.cell 0 _ rfl
  have hce2 := hbx3.cell 2 _ rfl
  have G3 := Lib.hid hG3
  clear hbx3 hb3 X2 Hb2 hG3
  have hn2 : ((n2 : Int) == 0) = false := beq_eq_false_iff_ne.2 (by omega)
  have hE2 : decide ((n2 : Int) = 0) = false := decide_eq_false (by omega)
  rcases Nat.eq_zero_or_pos n with hl0 | hl0
  · rw [hl0] at hcg1
    have HL : Hid (¬ 0 < n) := Lib.hid (by omega)
    clear hl0
    go_quiet (fail)
    have hb4 := bdrewN Hb3.out nq
    have E4 : Hid (BoxAt 55 (w3.drewN nq) w2.heap.size [.int .u32 (n0 : Int), .int .u32 (n1 : Int), .int .u32 (n2 : Int)]) := Lib.hid E3.out
    have X4 : Hid (BoxAt 55 (w3.drewN nq) w.heap.size zeroEc) := Lib.hid X3.out
    have Hb4 := Lib.hid hb4
    clear hb4
    go_wp2_with fail
    refine (Hcmp.out _ Hb4.out).mono ?_
    rintro _ _ ⟨rfl, rfl⟩
    have hzz : decide (z < 0) = false := decide_eq_false (by omega)
    have X5 := X4
    have E5 := E4
    have Hb5 := Hb4
    clear X4 E4 Hb4
    by_cases ho : 2147483647 < n2
    · have hov : decide ((2147483647 : Int) < (n2 : Int)) = true := decide_eq_true (by omega)
      have HO : Hid (2147483647 < n2) := ho
      go_wp2_with (first
        | (refine wpList_load_agg rfl 55 (.tmp 6) rfl ⟨w2.heap.size, 0, none⟩ rfl [.int .u32 (n0 : Int), .int .u32 (n1 : Int), .int .u32 (n2 : Int)] E5.out.cells Tryz.underlying55 rfl infoEdge3 ?_)
        | (refine wpList_store_boxX rfl 55 55 (.tmp 4) (.tmp 63) rfl w.heap.size zeroEc [.int .u32 (n0 : Int), .int .u32 (n1 : Int), .int .u32 (n2 : Int)] rfl rfl X5.out rfl Hone.out infoEdge3 ?_
           intro we hend hche hze))
      refine bodyPost_ret (results_ctX rfl _ _ w.heap.size [.int .u32 (n0 : Int), .int .u32 (n1 : Int), .int .u32 (n2 : Int)] rfl (fun j v hj => (hend.cells j v hj : _)) Tryz.underlying55 rfl infoEdge3) rfl ?_
      exact ⟨by have h1 := HO.out; rw [HR.out]; simp [HL.out, HO.out]; try omega, Hb5.out.trans (hche.below (B := w.heap.size) Hb5.out.size (fun k hk => by omega))⟩

    · have hov : decide ((2147483647 : Int) < (n2 : Int)) = false := decide_eq_false (by omega)
      have HO : Hid (¬ 2147483647 < n2) := ho
      go_wp2_with (first
        | (refine wpList_load_agg rfl 55 (.tmp 6) rfl ⟨w2.heap.size, 0, none⟩ rfl [.int .u32 (n0 : Int), .int .u32 (n1 : Int), .int .u32 (n2 : Int)] E5.out.cells Tryz.underlying55 rfl infoEdge3 ?_)
        | (refine wpList_store_boxX rfl 55 55 (.tmp 4) (.tmp 64) rfl w.heap.size zeroEc [.int .u32 (n0 : Int), .int .u32 (n1 : Int), .int .u32 (n2 : Int)] rfl rfl X5.out rfl Hone.out infoEdge3 ?_
           intro we hend hche hze))
      refine bodyPost_ret (results_ctX rfl _ _ w.heap.size [.int .u32 (n0 : Int), .int .u32 (n1 : Int), .int .u32 (n2 : Int)] rfl (fun j v hj => (hend.cells j v hj : _)) Tryz.underlying55 rfl infoEdge3) rfl ?_
      exact ⟨by have h1 := HO.out; rw [HR.out]; simp [HL.out, HO.out]; try omega, Hb5.out.trans (hche.below (B := w.heap.size) Hb5.out.size (fun k hk => by omega))⟩

  · have hd : decide ((0 : Int) < (n : Int)) = true := decide_eq_true (by omega)
    have hd9 : decide (0 < n) = true := decide_eq_true hl0
    have HL : Hid (0 < n) := Lib.hid (by omega)
    by_cases he : fr = n0
    · have hd3 : ((fr : Int) == (n0 : Int)) = true := by simp [he]
      have HE := Lib.hid he
      clear he hl0
      go_quiet (fail)
      have hb4 := bdrewN Hb3.out nq
      have E4 : Hid (BoxAt 55 (w3.drewN nq) w2.heap.size [.int .u32 (n0 : Int), .int .u32 (n1 : Int), .int .u32 (n2 : Int)]) := Lib.hid E3.out
      have X4 : Hid (BoxAt 55 (w3.drewN nq) w.heap.size zeroEc) := Lib.hid X3.out
      have Hb4 := Lib.hid hb4
      clear hb4
      go_wp2_with fail
      refine (Hsum.out _ Hb4.out).mono ?_
      rintro _ w6 ⟨rfl, hb6⟩
      have G4 : Hid (BoxAt 166 (w3.drewN nq) g (mgC fr (.slice A n c) vl)) := Lib.hid G3.out
      have hcg26 := (G4.out.bl_ hb6).cell 2 _ rfl
      have hce26 := (E4.out.bl_ hb6).cell 2 _ rfl
      have E6 := Lib.hid (E4.out.bl_ hb6)
      have X6 := Lib.hid (X4.out.bl_ hb6)
      have Hb6 := Lib.hid (bstep Hb4.out hb6)
      clear hb6 E4 X4 Hb4 hcg0 hcg1 hcg2 hce0 hce2
      have E4 := E6
      have X4 := X6
      have Hb4 := Hb6
      clear E6 X6 Hb6
      go_wp2_with fail
      refine (Hcmp.out _ Hb4.out).mono ?_
      rintro _ _ ⟨rfl, rfl⟩
      have hzz : decide (z < 0) = false := decide_eq_false (by omega)
      have X5 := X4
      have E5 := E4
      have Hb5 := Hb4
      clear X4 E4 Hb4
      by_cases ho : 2147483647 - S < n2
      · have hov : decide ((2147483647 : Int) - (S : Int) < (n2 : Int)) = true := decide_eq_true (by omega)
        have HO : Hid (2147483647 - S < n2) := ho
        go_wp2_with (first
          | (refine wpList_load_agg rfl 55 (.tmp 6) rfl ⟨w2.heap.size, 0, none⟩ rfl [.int .u32 (n0 : Int), .int .u32 (n1 : Int), .int .u32 (n2 : Int)] E5.out.cells Tryz.underlying55 rfl infoEdge3 ?_)
          | (refine wpList_store_boxX rfl 55 55 (.tmp 4) (.tmp 63) rfl w.heap.size zeroEc [.int .u32 (n0 : Int), .int .u32 (n1 : Int), .int .u32 (n2 : Int)] rfl rfl X5.out rfl Hone.out infoEdge3 ?_
             intro we hend hche hze))
        refine bodyPost_ret (results_ctX rfl _ _ w.heap.size [.int .u32 (n0 : Int), .int .u32 (n1 : Int), .int .u32 (n2 : Int)] rfl (fun j v hj => (hend.cells j v hj : _)) Tryz.underlying55 rfl infoEdge3) rfl ?_
        exact ⟨by have h1 := HO.out; rw [HR.out]; simp [HL.out, HE.out, HO.out]; try omega, Hb5.out.trans (hche.below (B := w.heap.size) Hb5.out.size (fun k hk => by omega))⟩

      · have hov : decide ((2147483647 : Int) - (S : Int) < (n2 : Int)) = false := decide_eq_false (by omega)
        have HO : Hid (¬ 2147483647 - S < n2) := ho
        go_wp2_with (first
          | (refine wpList_load_agg rfl 55 (.tmp 6) rfl ⟨w2.heap.size, 0, none⟩ rfl [.int .u32 (n0 : Int), .int .u32 (n1 : Int), .int .u32 (n2 : Int)] E5.out.cells Tryz.underlying55 rfl infoEdge3 ?_)
          | (refine wpList_store_boxX rfl 55 55 (.tmp 4) (.tmp 64) rfl w.heap.size zeroEc [.int .u32 (n0 : Int), .int .u32 (n1 : Int), .int .u32 (n2 : Int)] rfl rfl X5.out rfl Hone.out infoEdge3 ?_
             intro we hend hche hze))
        refine bodyPost_ret (results_ctX rfl _ _ w.heap.size [.int .u32 (n0 : Int), .int .u32 (n1 : Int), .int .u32 (n2 : Int)] rfl (fun j v hj => (hend.cells j v hj : _)) Tryz.underlying55 rfl infoEdge3) rfl ?_
        exact ⟨by have h1 := HO.out; rw [HR.out]; simp [HL.out, HE.out, HO.out]; try omega, Hb5.out.trans (hche.below (B := w.heap.size) Hb5.out.size (fun k hk => by omega))⟩

    · have hd3 : ((fr : Int) == (n0 : Int)) = false := beq_eq_false_iff_ne.2 (by omega)
      have HE := Lib.hid he
      clear he hl0
      go_quiet (fail)
      have hb4 := bdrewN Hb3.out nq
      have E4 : Hid (BoxAt 55 (w3.drewN nq) w2.heap.size [.int .u32 (n0 : Int), .int .u32 (n1 : Int), .int .u32 (n2 : Int)]) := Lib.hid E3.out
      have X4 : Hid (BoxAt 55 (w3.drewN nq) w.heap.size zeroEc) := Lib.hid X3.out
      have Hb4 := Lib.hid hb4
      clear hb4
      go_wp2_with fail
      refine (Hcmp.out _ Hb4.out).mono ?_
      rintro _ _ ⟨rfl, rfl⟩
      have hzz : decide (z < 0) = false := decide_eq_false (by omega)
      have X5 := X4
      have E5 := E4
      have Hb5 := Hb4
      clear X4 E4 Hb4
      by_cases ho : 2147483647 < n2
      · have hov : decide ((2147483647 : Int) < (n2 : Int)) = true := decide_eq_true (by omega)
        have HO : Hid (2147483647 < n2) := ho
        go_wp2_with (first
          | (refine wpList_load_agg rfl 55 (.tmp 6) rfl ⟨w2.heap.size, 0, none⟩ rfl [.int .u32 (n0 : Int), .int .u32 (n1 : Int), .int .u32 (n2 : Int)] E5.out.cells Tryz.underlying55 rfl infoEdge3 ?_)
          | (refine wpList_store_boxX rfl 55 55 (.tmp 4) (.tmp 63) rfl w.heap.size zeroEc [.int .u32 (n0 : Int), .int .u32 (n1 : Int), .int .u32 (n2 : Int)] rfl rfl X5.out rfl Hone.out infoEdge3 ?_
             intro we hend hche hze))
        refine bodyPost_ret (results_ctX rfl _ _ w.heap.size [.int .u32 (n0 : Int), .int .u32 (n1 : Int), .int .u32 (n2 : Int)] rfl (fun j v hj => (hend.cells j v hj : _)) Tryz.underlying55 rfl infoEdge3) rfl ?_
        exact ⟨by have h1 := HO.out; rw [HR.out]; simp [HL.out, HE.out, HO.out]; try omega, Hb5.out.trans (hche.below (B := w.heap.size) Hb5.out.size (fun k hk => by omega))⟩

      · have hov : decide ((2147483647 : Int) < (n2 : Int)) = false := decide_eq_false (by omega)
        have HO : Hid (¬ 2147483647 < n2) := ho
        go_wp2_with (first
          | (refine wpList_load_agg rfl 55 (.tmp 6) rfl ⟨w2.heap.size, 0, none⟩ rfl [.int .u32 (n0 : Int), .int .u32 (n1 : Int), .int .u32 (n2 : Int)] E5.out.cells Tryz.underlying55 rfl infoEdge3 ?_)
          | (refine wpList_store_boxX rfl 55 55 (.tmp 4) (.tmp 64) rfl w.heap.size zeroEc [.int .u32 (n0 : Int), .int .u32 (n1 : Int), .int .u32 (n2 : Int)] rfl rfl X5.out rfl Hone.out infoEdge3 ?_
             intro we hend hche hze))
        refine bodyPost_ret (results_ctX rfl _ _ w.heap.size [.int .u32 (n0 : Int), .int .u32 (n1 : Int), .int .u32 (n2 : Int)] rfl (fun j v hj => (hend.cells j v hj : _)) Tryz.underlying55 rfl infoEdge3) rfl ?_
        exact ⟨by have h1 := HO.out; rw [HR.out]; simp [HL.out, HE.out, HO.out]; try omega, Hb5.out.trans (hche.below (B := w.heap.size) Hb5.out.size (fun k hk => by omega))⟩

end Go.Proofs.YtcffeepgfjpcaaaGreat

namespace Go.Proofs.YtcffeepgfjpcaaaGreat
set_option linter.unusedSimpArgs false
set_option linter.unusedVariables false
open Go.RowKit

theorem OwnR.drew_T {α : Type} {E : TypeId} {C : Cdc α} {w : World} {base : Nat} {S : Nat → Prop} {v : Value} {xs : List α} (h : OwnR E C w base S v xs) : OwnR E C w.drew base S v xs := h.below_ (Below.refl _ _).drew
set_option maxRecDepth 100000 in
set_option maxHeartbeats 3200000 in
theorem take_new (w : World) (g : Nat) (x : GEdge) (fr n c : Nat) (A : Option Addr) (vl : Value) (hb : BoxAt 166 w g (mgC fr (.slice A n c) vl)) (hn : fullN n fr x = true ∨ n = 0) :
    Calls Tryz.prog 95 #[.pointer (some ⟨g, 0, none⟩), edgeV x] w fun e w' => e = .returned (.tuple #[]) ∧ ∃ va, BoxAt 166 w' g (mgC x.fr.toNat va vl) ∧
      OwnF 48 cArc w' w.heap.size va [⟨x.to, x.wt⟩] ∧ Chg (fun k => k = g) w w' := by
  obtain ⟨w0, hw0⟩ : ∃ w0, w0 = w.alloc (.cells (edgeC x).toArray 55) := ⟨_, rfl⟩
  have hb0 : Below w.heap.size w w0 := by rw [hw0]; exact balloc w _
  have hx0 : BoxAt 55 w0 w.heap.size (edgeC x) := by rw [hw0]; exact BoxAt.new_ _ _ _
  have hgl := hb.lt
  have hg0 := hb.bl_ hb0
  have hfu := fun W (hW : Below w.heap.size w W) => full_any W g x fr n c A vl (hb.below hb.lt hW)
  have Hfu := Lib.hid hfu
  have Hw0 := Lib.hid hw0
  have Hb0 := Lib.hid hb0
  have X0 := Lib.hid hx0
  have G0 := Lib.hid hg0
  have hz0 : w0.heap.size = w.heap.size + 1 := by rw [hw0]; simp
  have Hn := Lib.hid hn
  have hcs : edgeC x = [.int .u32 (x.fr.toNat : Int), .int .u32 (x.to.toNat : Int), .int .u32 (x.wt.toNat : Int)] := rfl
  obtain ⟨ar, har⟩ : ∃ ar : GArc, ar = ⟨x.to, x.wt⟩ := ⟨_, rfl⟩
  have har1 : ar.to.toNat = x.to.toNat := by rw [har]
  have har2 : ar.wt.toNat = x.wt.toNat := by rw [har]
  have HAr : Hid (∀ W : World, cArc.at_ W (fun _ => True) [.int .u32 (x.to.toNat : Int), .int .u32 (x.wt.toNat : Int)] ar) := Lib.hid fun W => by rw [har]; exact ⟨rfl, trivial⟩
  rw [← har]
  unfold edgeV at Hfu ⊢
  rw [hcs] at Hw0 X0 Hfu ⊢
  clear hw0 hx0 hb0 hg0 hcs hb hfu hn har
  generalize fullN n fr x = fu at *
  generalize x.fr.toNat = n0 at *
  generalize x.to.toNat = n1 at *
  generalize x.wt.toNat = n2 at *
  go_enter Tryz.func95, Tryz.ntmps95
  go_upto_region 1 with fail
  rw [← Hw0.out]
  go_wp2_with (refine wpList_load_agg rfl 55 (.tmp 3) rfl ⟨w.heap.size, 0, none⟩ rfl [.int .u32 (n0 : Int), .int .u32 (n1 : Int), .int .u32 (n2 : Int)] X0.out.cells Tryz.underlying55 rfl infoEdge3 ?_)
  refine (Hfu.out w0 Hb0.out).mono ?_
  rintro _ w1 ⟨rfl, hb1⟩
  have X1 := Lib.hid (X0.out.bl_ hb1)
  have hG1 := G0.out.bl_ hb1
  have Hb1 := Lib.hid (bstep Hb0.out hb1)
  have hc0 := hG1.cell 0 _ rfl
  have hc1 := hG1.cell 1 _ rfl
  have hf0 := hG1.frozen 0
  have hf1 := hG1.frozen 1
  have hx0 := X1.out.cell 0 _ rfl
  have hgne : ¬ w.heap.size = g := by omega
  have hgne2 : ¬ g = w.heap.size := by omega
  have G1 := Lib.hid hG1
  clear hb1 hG1 X0 G0 Hb0
  cases fu with
  | true =>
    go_upto_region 4 with fail
    have G2 : Hid (BoxAt 166 ((w1.setCell { block := g, off := 0 } (Value.int IntKind.u32 ↑n0)).setCell { block := g, off := 1 } (Value.slice none 0 0)) g (mgC n0 (.slice none 0 0) vl)) := Lib.hid ((G1.out.put 0 (.int .u32 n0)).put 1 (.slice none 0 0))
    have X2 : Hid (BoxAt 55 ((w1.setCell { block := g, off := 0 } (Value.int IntKind.u32 ↑n0)).setCell { block := g, off := 1 } (Value.slice none 0 0)) w.heap.size [.int .u32 (n0 : Int), .int .u32 (n1 : Int), .int .u32 (n2 : Int)]) := Lib.hid ((X1.out.other _ _ (by show g ≠ w.heap.size; omega)).other _ _ (by show g ≠ w.heap.size; omega))
    have hch : Chg (fun k => k = g) w ((w1.setCell { block := g, off := 0 } (Value.int IntKind.u32 ↑n0)).setCell { block := g, off := 1 } (Value.slice none 0 0)) := ((Chg.ofBelow Hb1.out).trans (Chg.set (P := fun k => k = g) _ ⟨g, 0, none⟩ _ rfl)).trans (Chg.set (P := fun k => k = g) _ ⟨g, 1, none⟩ _ rfl)
    have Hch := Lib.hid hch
    clear hc0 hc1 hf0 hf1 hx0 hch G1 X1
    generalize ((w1.setCell { block := g, off := 0 } (Value.int IntKind.u32 ↑n0)).setCell { block := g, off := 1 } (Value.slice none 0 0)) = w2 at *
    go_quiet (fail)
    have G3 : Hid (BoxAt 166 (w2.drewN nq) g (mgC n0 (.slice none 0 0) vl)) := Lib.hid G2.out
    have X3 : Hid (BoxAt 55 (w2.drewN nq) w.heap.size [.int .u32 (n0 : Int), .int .u32 (n1 : Int), .int .u32 (n2 : Int)]) := Lib.hid X2.out
    have Hch3 : Hid (Chg (fun k => k = g) w (w2.drewN nq)) := Lib.hid (Hch.out.trans (Chg.ofBelow (bdrewN (Below.refl _ _) nq)))
    have hz3 := Hch3.out.size
    have O3 : Hid (OwnF 48 cArc (w2.drewN nq) w.heap.size (.slice none 0 0) []) := Lib.hid (OwnF.nil_ _ _)
    clear G2 X2 Hch
    generalize w2.drewN nq = w3 at *
    go_upto_region 6 with fail
    refine wp_region_mixSL (ds := [61, 62, 63, 64, 65, 66, 67, 68, 69, 70, 71, 72, 73, 74, 75, 76]) 17 (fun bb vs W' => BoxAt 166 W' g (mgC n0 (cond (bb 16) (vs 12) ((Value.slice none 0 0))) vl) ∧ BoxAt 55 W' w.heap.size [.int .u32 (n0 : Int), .int .u32 (n1 : Int), .int .u32 (n2 : Int)] ∧ Chg (fun k => k = g ∨ (Value.slice none 0 0).ownBlock = some k) w3 W' ∧ OwnF 48 cArc W' w.heap.size (cond (bb 12) (vs 12) ((Value.slice none 0 0))) (([] : List GArc) ++ cond (bb 12) [ar] []) ∧ TmpT 48 [.int .u32 (n1 : Int), .int .u32 (n2 : Int)] W' (bb 11) (bb 12) (vs 11) ∧ (bb 16 = true → bb 5 = true) ∧ (bb 16 = true → bb 12 = true)) [some 61, some 62, some 63, some 64, some 65, some 66, some 67, some 68, some 69, some 70, some 71, some 72, some 73, some 74, some 75, some 76, none]
      [fun v => v = .pointer (some ⟨g, 0, none⟩), fun v => v = .pointer (some ⟨g, 0, none⟩), fun v => v = .pointer (some ⟨g, 0, none⟩), fun v => v = .pointer (some ⟨g, 0, none⟩), fun v => v = .pointer (some ⟨g, 1, none⟩), fun v => v = (Value.slice none 0 0), fun v => v = .pointer (some ⟨w.heap.size, 1, none⟩), fun v => v = .int .u32 (n1 : Int), fun v => v = .pointer (some ⟨w.heap.size, 2, none⟩), fun v => v = .int .u32 (n2 : Int), fun v => v = .agg #[.int .u32 (n1 : Int), .int .u32 (n2 : Int)], fun _ => True, fun _ => True, fun v => v = .pointer (some ⟨g, 0, none⟩), fun v => v = .pointer (some ⟨g, 0, none⟩), fun v => v = .pointer (some ⟨g, 1, none⟩), fun _ => True]
      rfl rfl rfl (by kernel_rfl) (by kernel_rfl) ?_ (fun _ => ⟨G3.out, X3.out, Chg.ofBelow ⟨rfl, rfl, rfl, Nat.le_refl _, fun _ _ => rfl⟩, by simpa using (show OwnF 48 cArc w3.drew w.heap.size ((Value.slice none 0 0)) (([] : List GArc)) from O3.out.drew_T), fun h _ => (by cases h), fun h => (by cases h), fun h => (by cases h)⟩) ?_
    · refine ⟨?_, ?_, ?_, ?_, ?_, ?_, ?_, ?_, ?_, ?_, ?_, ?_, ?_, ?_, ?_, ?_, ?_, trivial⟩
      · -- 0: slot 61 := Op.move t0
        refine obS_yes fun f bb w' hj hs hd hp => ?_
        simp [PreO, factO, valOf, Region.binds] at hp hd
        refine ⟨by simp [Gd, valOf, hp], ?_⟩
        refine mildS_val (.pointer (some ⟨g, 0, none⟩)) (w' := w') ?_ rfl (by simpa using hj)
        simp [execOp, evalF, hp, go_sem]
      · -- 1: slot 62 := Op.move t0
        refine obS_yes fun f bb w' hj hs hd hp => ?_
        simp [PreO, factO, valOf, Region.binds] at hp hd
        refine ⟨by simp [Gd, valOf, hp], ?_⟩
        refine mildS_val (.pointer (some ⟨g, 0, none⟩)) (w' := w') ?_ rfl (by simpa using hj)
        simp [execOp, evalF, hp, go_sem]
      · -- 2: slot 63 := Op.nilCheck t62
        refine obS_yes fun f bb w' hj hs hd hp => ?_
        simp [PreO, factO, valOf, Region.binds] at hp hd
        refine ⟨by simp [Gd, valOf, hp], ?_⟩
        refine mildS_val (.pointer (some ⟨g, 0, none⟩)) (w' := w') ?_ rfl (by simpa using hj)
        simp [execOp, evalF, hp, go_sem]
      · -- 3: slot 64 := Op.fieldAddr 166 t63 0
        refine obS_yes fun f bb w' hj hs hd hp => ?_
        simp [PreO, factO, valOf, Region.binds] at hp hd
        refine ⟨by simp [Gd, valOf, hp], ?_⟩
        refine mildS_val (.pointer (some ⟨g, 0, none⟩)) (w' := w') ?_ rfl (by simpa using hj)
        simp [execOp, evalF, hp, go_sem]
      · -- 4: slot 65 := Op.fieldAddr 132 t64 1
        refine obS_yes fun f bb w' hj hs hd hp => ?_
        simp [PreO, factO, valOf, Region.binds] at hp hd
        refine ⟨by simp [Gd, valOf, hp], ?_⟩
        refine mildS_val (.pointer (some ⟨g, 1, none⟩)) (w' := w') ?_ rfl (by simpa using hj)
        simp [execOp, evalF, hp, go_sem]
      · -- 5: slot 66 := Op.load 45 t65
        refine obS_yes fun f bb w' hj hs hd hp => ?_
        simp [PreO, factO, valOf, Region.binds] at hp hd
        refine ⟨by simp [Gd, valOf, hp], ?_⟩
        have h16 : bb 16 = false := by cases hx : bb 16 with | false => rfl | true => rw [hj.2.2.2.2.2.1 hx] at hs; cases hs
        have hc : w'.cell? ⟨g, 1, none⟩ = some ((Value.slice none 0 0)) := by have h := hj.1; rw [h16] at h; exact BoxAt.cell h 1 _ rfl
        refine mildS_val ((Value.slice none 0 0)) (w' := w') ?_ rfl (by obtain ⟨j1, j2, j3, j4, j5, j6, j7⟩ := hj; exact ⟨by simpa using j1, j2, j3, by simpa using j4, by simpa using j5, by simp, by simpa using j7⟩)
        simp [execOp, evalF, hp, go_sem, hc]
      · -- 6: slot 67 := Op.fieldAddr 55 t3 1
        refine obS_yes fun f bb w' hj hs hd hp => ?_
        simp [PreO, factO, valOf, Region.binds] at hp hd
        refine ⟨by simp [Gd, valOf, hp], ?_⟩
        refine mildS_val (.pointer (some ⟨w.heap.size, 1, none⟩)) (w' := w') ?_ rfl (by simpa using hj)
        simp [execOp, evalF, hp, go_sem]
      · -- 7: slot 68 := Op.load 24 t67
        refine obS_yes fun f bb w' hj hs hd hp => ?_
        simp [PreO, factO, valOf, Region.binds] at hp hd
        refine ⟨by simp [Gd, valOf, hp], ?_⟩
        have hc : w'.cell? ⟨w.heap.size, 1, none⟩ = some (.int .u32 (n1 : Int)) := hj.2.1.cell 1 _ rfl
        refine mildS_val (.int .u32 (n1 : Int)) (w' := w') ?_ rfl (by simpa using hj)
        simp [execOp, evalF, hp, go_sem, hc]
      · -- 8: slot 69 := Op.fieldAddr 55 t3 2
        refine obS_yes fun f bb w' hj hs hd hp => ?_
        simp [PreO, factO, valOf, Region.binds] at hp hd
        refine ⟨by simp [Gd, valOf, hp], ?_⟩
        refine mildS_val (.pointer (some ⟨w.heap.size, 2, none⟩)) (w' := w') ?_ rfl (by simpa using hj)
        simp [execOp, evalF, hp, go_sem]
      · -- 9: slot 70 := Op.load 24 t69
        refine obS_yes fun f bb w' hj hs hd hp => ?_
        simp [PreO, factO, valOf, Region.binds] at hp hd
        refine ⟨by simp [Gd, valOf, hp], ?_⟩
        have hc : w'.cell? ⟨w.heap.size, 2, none⟩ = some (.int .u32 (n2 : Int)) := hj.2.1.cell 2 _ rfl
        refine mildS_val (.int .u32 (n2 : Int)) (w' := w') ?_ rfl (by simpa using hj)
        simp [execOp, evalF, hp, go_sem, hc]
      · -- 10: slot 71 := Op.build 48 #[(0, t68), (1, t70)]
        refine obS_yes fun f bb w' hj hs hd hp => ?_
        simp [PreO, factO, valOf, Region.binds] at hp hd
        refine ⟨by simp [Gd, valOf, hp], ?_⟩
        refine mildS_val (.agg #[.int .u32 (n1 : Int), .int .u32 (n2 : Int)]) (w' := w') ?_ rfl (by simpa using hj)
        simp [execOp, evalF, hp, go_sem]
      · -- 11: slot 72 := Op.buildSlice 45 1 #[(0, t71)]
        refine obS_yes fun f bb w' hj hs hd hp => ?_
        simp [PreO, factO, valOf, Region.binds] at hp hd
        refine ⟨by simp [Gd, valOf, hp], ?_⟩
        obtain ⟨j1, j2, j3, j4, j5, j6, j7⟩ := hj
        refine mildS_val (.slice (some ⟨w'.heap.size, 0, none⟩) 1 1) (w' := w'.alloc (.cells #[.int .u32 (n1 : Int), .int .u32 (n2 : Int)] 48)) ?_ trivial ⟨by simpa using j1.bl_ (balloc _ _), j2.bl_ (balloc _ _), j3.trans (Chg.ofBelow (balloc _ _)), by simpa using j4.below_ (balloc _ _), fun _ _ => ⟨_, by simp, BoxAt.new_ _ _ [.int .u32 (n1 : Int), .int .u32 (n2 : Int)]⟩, by simpa using j6, by simpa using j7⟩
        have hr := run_slice_arcT w' (n1 : Int) (n2 : Int)
        simp [execOp, evalF, hp, hr]
      · -- 12: slot 73 := Op.call   builtin append, args := #[t66, t72], argTypes := #[45, 45]  
        refine obS_yes fun f bb w' hj hs hd hp => ?_
        simp [PreO, factO, valOf, Region.binds] at hp hd
        refine ⟨by simp [Gd, valOf, hp], ?_⟩
        obtain ⟨j1, j2, j3, j4, j5, j6, j7⟩ := hj
        have h16 : bb 16 = false := by cases hx : bb 16 with | false => rfl | true => rw [j7 hx] at hs; cases hs
        have h11 : bb 11 = true := by first | exact hd.1 | exact hd.2.1 | exact hd.2 | exact hd | simp_all
        obtain ⟨q, hv11, hq⟩ := j5 h11 hs
        have k4 : OwnF 48 cArc w' w.heap.size ((Value.slice none 0 0)) (([] : List GArc)) := by rw [hs] at j4; simpa using j4
        have k1 := j1
        rw [h16] at k1
        refine mildS_ex (exec_appR (C := cArc) (O := fun _ => True) (.tmp 66) (.tmp 72) 45 rfl Tryz.underlying45 infoArc (by kernel_rfl) (by decide) (by decide) k4 (rowOfBoxT hq (HAr.out w')) (by simp [evalF, hp]) (by simpa [evalF, valOf] using hv11) (by simp) (Nat.le_trans (hz3) j3.size)) ?_
        intro v' w3 g1 g2
        refine ⟨trivial, ?_, boxKeptT (by decide) k4 g2 j2, j3.trans (Chg.ofGrown g2.gr fun k e => .inr e), by simpa using g1, by simp [TmpT], by simpa using j6, by simp [h16]⟩
        simp only [h16]
        exact boxKeptT (by decide) k4 g2 k1
      · -- 13: slot 74 := Op.nilCheck t61
        refine obS_yes fun f bb w' hj hs hd hp => ?_
        simp [PreO, factO, valOf, Region.binds] at hp hd
        refine ⟨by simp [Gd, valOf, hp], ?_⟩
        refine mildS_val (.pointer (some ⟨g, 0, none⟩)) (w' := w') ?_ rfl (by simpa using hj)
        simp [execOp, evalF, hp, go_sem]
      · -- 14: slot 75 := Op.fieldAddr 166 t74 0
        refine obS_yes fun f bb w' hj hs hd hp => ?_
        simp [PreO, factO, valOf, Region.binds] at hp hd
        refine ⟨by simp [Gd, valOf, hp], ?_⟩
        refine mildS_val (.pointer (some ⟨g, 0, none⟩)) (w' := w') ?_ rfl (by simpa using hj)
        simp [execOp, evalF, hp, go_sem]
      · -- 15: slot 76 := Op.fieldAddr 132 t75 1
        refine obS_yes fun f bb w' hj hs hd hp => ?_
        simp [PreO, factO, valOf, Region.binds] at hp hd
        refine ⟨by simp [Gd, valOf, hp], ?_⟩
        refine mildS_val (.pointer (some ⟨g, 1, none⟩)) (w' := w') ?_ rfl (by simpa using hj)
        simp [execOp, evalF, hp, go_sem]
      · -- 16: slot None := Op.store 45 t76 t73
        refine obS_yes fun f bb w' hj hs hd hp => ?_
        simp [PreO, factO, valOf, Region.binds] at hp hd
        refine ⟨by simp [Gd, valOf, hp], ?_⟩
        obtain ⟨j1, j2, j3, j4, j5, j6, j7⟩ := hj
        have h5 : bb 5 = true := by simp_all
        have h12 : bb 12 = true := by simp_all
        have hc := j1.cell 1 _ rfl
        have hf := j1.frozen 1
        have k4 : OwnF 48 cArc w' w.heap.size (f 73) (([] : List GArc) ++ [ar]) := by have h := j4; rw [h12] at h; exact h
        obtain ⟨A9, c9, e9, _, _, _⟩ := k4.form'
        refine mildS_skip (w' := w'.setCell ⟨g, 1, none⟩ (f 73)) ?_ trivial ⟨?_, j2.other _ _ (by show g ≠ w.heap.size; omega), j3.trans (Chg.set _ _ _ (.inl rfl)), ?_, ?_, by simp [h5], by simp [h12]⟩
        · simp [execOp, evalF, hp, go_sem, hc, hf, e9]
        · exact j1.put 1 (f 73)
        · exact ownSetT (by decide) j4 j1 1 (f 73)
        · simpa using TmpT.set (by decide) j5 j1 1 (f 73)
    · intro f bb wd hall hj hp
      simp only [PostO] at hp
      obtain ⟨e0, e1, e2, e3, e4, e5, e6, e7, e8, e9, e10, _, _, e13, e14, e15, _, _⟩ := hp
      simp only [fills, List.foldl_cons, List.foldl_nil, Act.put, List.setIfInBounds_toArray, List.set_cons_zero, List.set_cons_succ, e0, e1, e2, e3, e4, e5, e6, e7, e8, e9, e10, e13, e14, e15]
      clear e0 e1 e2 e3 e4 e5 e6 e7 e8 e9 e10 e13 e14 e15
      simp only [List.drop_succ_cons, List.drop_zero]
      obtain ⟨j1, j2, j3, j4, j5, j6, j7⟩ := hj
      have b12 : bb 12 = true := hall 12 (by decide)
      have b16 : bb 16 = true := hall 16 (by decide)
      rw [b16] at j1
      rw [b12] at j4
      have k1 : BoxAt 166 wd g (mgC n0 (f 73) vl) := j1
      have k4 : OwnF 48 cArc wd w.heap.size (f 73) [ar] := j4
      clear j1 j4
      generalize f 73 = va at *
      go_wp2_with fail
      go_end0
      exact ⟨rfl, va, k1, k4, Hch3.out.trans (Chg.more j3 fun k _ hk => hk.elim id fun h => by simp [Value.ownBlock] at h)⟩
  | false =>
    obtain rfl : n = 0 := by rcases Hn.out with h | h; cases h; exact h
    go_upto_region 4 with fail
    have G2 : Hid (BoxAt 166 ((w1.setCell { block := g, off := 0 } (Value.int IntKind.u32 ↑n0)).setCell { block := g, off := 1 } (Value.slice none 0 0)) g (mgC n0 (.slice none 0 0) vl)) := Lib.hid ((G1.out.put 0 (.int .u32 n0)).put 1 (.slice none 0 0))
    have X2 : Hid (BoxAt 55 ((w1.setCell { block := g, off := 0 } (Value.int IntKind.u32 ↑n0)).setCell { block := g, off := 1 } (Value.slice none 0 0)) w.heap.size [.int .u32 (n0 : Int), .int .u32 (n1 : Int), .int .u32 (n2 : Int)]) := Lib.hid ((X1.out.other _ _ (by show g ≠ w.heap.size; omega)).other _ _ (by show g ≠ w.heap.size; omega))
    have hch : Chg (fun k => k = g) w ((w1.setCell { block := g, off := 0 } (Value.int IntKind.u32 ↑n0)).setCell { block := g, off := 1 } (Value.slice none 0 0)) := ((Chg.ofBelow Hb1.out).trans (Chg.set (P := fun k => k = g) _ ⟨g, 0, none⟩ _ rfl)).trans (Chg.set (P := fun k => k = g) _ ⟨g, 1, none⟩ _ rfl)
    have Hch := Lib.hid hch
    clear hc0 hc1 hf0 hf1 hx0 hch G1 X1
    generalize ((w1.setCell { block := g, off := 0 } (Value.int IntKind.u32 ↑n0)).setCell { block := g, off := 1 } (Value.slice none 0 0)) = w2 at *
    go_quiet (fail)
    have G3 : Hid (BoxAt 166 (w2.drewN nq) g (mgC n0 (.slice none 0 0) vl)) := Lib.hid G2.out
    have X3 : Hid (BoxAt 55 (w2.drewN nq) w.heap.size [.int .u32 (n0 : Int), .int .u32 (n1 : Int), .int .u32 (n2 : Int)]) := Lib.hid X2.out
    have Hch3 : Hid (Chg (fun k => k = g) w (w2.drewN nq)) := Lib.hid (Hch.out.trans (Chg.ofBelow (bdrewN (Below.refl _ _) nq)))
    have hz3 := Hch3.out.size
    have O3 : Hid (OwnF 48 cArc (w2.drewN nq) w.heap.size (.slice none 0 0) []) := Lib.hid (OwnF.nil_ _ _)
    clear G2 X2 Hch
    generalize w2.drewN nq = w3 at *
    go_upto_region 6 with fail
    refine wp_region_mixSL (ds := [61, 62, 63, 64, 65, 66, 67, 68, 69, 70, 71, 72, 73, 74, 75, 76]) 17 (fun bb vs W' => BoxAt 166 W' g (mgC n0 (cond (bb 16) (vs 12) ((Value.slice none 0 0))) vl) ∧ BoxAt 55 W' w.heap.size [.int .u32 (n0 : Int), .int .u32 (n1 : Int), .int .u32 (n2 : Int)] ∧ Chg (fun k => k = g ∨ (Value.slice none 0 0).ownBlock = some k) w3 W' ∧ OwnF 48 cArc W' w.heap.size (cond (bb 12) (vs 12) ((Value.slice none 0 0))) (([] : List GArc) ++ cond (bb 12) [ar] []) ∧ TmpT 48 [.int .u32 (n1 : Int), .int .u32 (n2 : Int)] W' (bb 11) (bb 12) (vs 11) ∧ (bb 16 = true → bb 5 = true) ∧ (bb 16 = true → bb 12 = true)) [some 61, some 62, some 63, some 64, some 65, some 66, some 67, some 68, some 69, some 70, some 71, some 72, some 73, some 74, some 75, some 76, none]
      [fun v => v = .pointer (some ⟨g, 0, none⟩), fun v => v = .pointer (some ⟨g, 0, none⟩), fun v => v = .pointer (some ⟨g, 0, none⟩), fun v => v = .pointer (some ⟨g, 0, none⟩), fun v => v = .pointer (some ⟨g, 1, none⟩), fun v => v = (Value.slice none 0 0), fun v => v = .pointer (some ⟨w.heap.size, 1, none⟩), fun v => v = .int .u32 (n1 : Int), fun v => v = .pointer (some ⟨w.heap.size, 2, none⟩), fun v => v = .int .u32 (n2 : Int), fun v => v = .agg #[.int .u32 (n1 : Int), .int .u32 (n2 : Int)], fun _ => True, fun _ => True, fun v => v = .pointer (some ⟨g, 0, none⟩), fun v => v = .pointer (some ⟨g, 0, none⟩), fun v => v = .pointer (some ⟨g, 1, none⟩), fun _ => True]
      rfl rfl rfl (by kernel_rfl) (by kernel_rfl) ?_ (fun _ => ⟨G3.out, X3.out, Chg.ofBelow ⟨rfl, rfl, rfl, Nat.le_refl _, fun _ _ => rfl⟩, by simpa using (show OwnF 48 cArc w3.drew w.heap.size ((Value.slice none 0 0)) (([] : List GArc)) from O3.out.drew_T), fun h _ => (by cases h), fun h => (by cases h), fun h => (by cases h)⟩) ?_
    · refine ⟨?_, ?_, ?_, ?_, ?_, ?_, ?_, ?_, ?_, ?_, ?_, ?_, ?_, ?_, ?_, ?_, ?_, trivial⟩
      · -- 0: slot 61 := Op.move t0
        refine obS_yes fun f bb w' hj hs hd hp => ?_
        simp [PreO, factO, valOf, Region.binds] at hp hd
        refine ⟨by simp [Gd, valOf, hp], ?_⟩
        refine mildS_val (.pointer (some ⟨g, 0, none⟩)) (w' := w') ?_ rfl (by simpa using hj)
        simp [execOp, evalF, hp, go_sem]
      · -- 1: slot 62 := Op.move t0
        refine obS_yes fun f bb w' hj hs hd hp => ?_
        simp [PreO, factO, valOf, Region.binds] at hp hd
        refine ⟨by simp [Gd, valOf, hp], ?_⟩
        refine mildS_val (.pointer (some ⟨g, 0, none⟩)) (w' := w') ?_ rfl (by simpa using hj)
        simp [execOp, evalF, hp, go_sem]
      · -- 2: slot 63 := Op.nilCheck t62
        refine obS_yes fun f bb w' hj hs hd hp => ?_
        simp [PreO, factO, valOf, Region.binds] at hp hd
        refine ⟨by simp [Gd, valOf, hp], ?_⟩
        refine mildS_val (.pointer (some ⟨g, 0, none⟩)) (w' := w') ?_ rfl (by simpa using hj)
        simp [execOp, evalF, hp, go_sem]
      · -- 3: slot 64 := Op.fieldAddr 166 t63 0
        refine obS_yes fun f bb w' hj hs hd hp => ?_
        simp [PreO, factO, valOf, Region.binds] at hp hd
        refine ⟨by simp [Gd, valOf, hp], ?_⟩
        refine mildS_val (.pointer (some ⟨g, 0, none⟩)) (w' := w') ?_ rfl (by simpa using hj)
        simp [execOp, evalF, hp, go_sem]
      · -- 4: slot 65 := Op.fieldAddr 132 t64 1
        refine obS_yes fun f bb w' hj hs hd hp => ?_
        simp [PreO, factO, valOf, Region.binds] at hp hd
        refine ⟨by simp [Gd, valOf, hp], ?_⟩
        refine mildS_val (.pointer (some ⟨g, 1, none⟩)) (w' := w') ?_ rfl (by simpa using hj)
        simp [execOp, evalF, hp, go_sem]
      · -- 5: slot 66 := Op.load 45 t65
        refine obS_yes fun f bb w' hj hs hd hp => ?_
        simp [PreO, factO, valOf, Region.binds] at hp hd
        refine ⟨by simp [Gd, valOf, hp], ?_⟩
        have h16 : bb 16 = false := by cases hx : bb 16 with | false => rfl | true => rw [hj.2.2.2.2.2.1 hx] at hs; cases hs
        have hc : w'.cell? ⟨g, 1, none⟩ = some ((Value.slice none 0 0)) := by have h := hj.1; rw [h16] at h; exact BoxAt.cell h 1 _ rfl
        refine mildS_val ((Value.slice none 0 0)) (w' := w') ?_ rfl (by obtain ⟨j1, j2, j3, j4, j5, j6, j7⟩ := hj; exact ⟨by simpa using j1, j2, j3, by simpa using j4, by simpa using j5, by simp, by simpa using j7⟩)
        simp [execOp, evalF, hp, go_sem, hc]
      · -- 6: slot 67 := Op.fieldAddr 55 t3 1
        refine obS_yes fun f bb w' hj hs hd hp => ?_
        simp [PreO, factO, valOf, Region.binds] at hp hd
        refine ⟨by simp [Gd, valOf, hp], ?_⟩
        refine mildS_val (.pointer (some ⟨w.heap.size, 1, none⟩)) (w' := w') ?_ rfl (by simpa using hj)
        simp [execOp, evalF, hp, go_sem]
      · -- 7: slot 68 := Op.load 24 t67
        refine obS_yes fun f bb w' hj hs hd hp => ?_
        simp [PreO, factO, valOf, Region.binds] at hp hd
        refine ⟨by simp [Gd, valOf, hp], ?_⟩
        have hc : w'.cell? ⟨w.heap.size, 1, none⟩ = some (.int .u32 (n1 : Int)) := hj.2.1.cell 1 _ rfl
        refine mildS_val (.int .u32 (n1 : Int)) (w' := w') ?_ rfl (by simpa using hj)
        simp [execOp, evalF, hp, go_sem, hc]
      · -- 8: slot 69 := Op.fieldAddr 55 t3 2
        refine obS_yes fun f bb w' hj hs hd hp => ?_
        simp [PreO, factO, valOf, Region.binds] at hp hd
        refine ⟨by simp [Gd, valOf, hp], ?_⟩
        refine mildS_val (.pointer (some ⟨w.heap.size, 2, none⟩)) (w' := w') ?_ rfl (by simpa using hj)
        simp [execOp, evalF, hp, go_sem]
      · -- 9: slot 70 := Op.load 24 t69
        refine obS_yes fun f bb w' hj hs hd hp => ?_
        simp [PreO, factO, valOf, Region.binds] at hp hd
        refine ⟨by simp [Gd, valOf, hp], ?_⟩
        have hc : w'.cell? ⟨w.heap.size, 2, none⟩ = some (.int .u32 (n2 : Int)) := hj.2.1.cell 2 _ rfl
        refine mildS_val (.int .u32 (n2 : Int)) (w' := w') ?_ rfl (by simpa using hj)
        simp [execOp, evalF, hp, go_sem, hc]
      · -- 10: slot 71 := Op.build 48 #[(0, t68), (1, t70)]
        refine obS_yes fun f bb w' hj hs hd hp => ?_
        simp [PreO, factO, valOf, Region.binds] at hp hd
        refine ⟨by simp [Gd, valOf, hp], ?_⟩
        refine mildS_val (.agg #[.int .u32 (n1 : Int), .int .u32 (n2 : Int)]) (w' := w') ?_ rfl (by simpa using hj)
        simp [execOp, evalF, hp, go_sem]
      · -- 11: slot 72 := Op.buildSlice 45 1 #[(0, t71)]
        refine obS_yes fun f bb w' hj hs hd hp => ?_
        simp [PreO, factO, valOf, Region.binds] at hp hd
        refine ⟨by simp [Gd, valOf, hp], ?_⟩
        obtain ⟨j1, j2, j3, j4, j5, j6, j7⟩ := hj
        refine mildS_val (.slice (some ⟨w'.heap.size, 0, none⟩) 1 1) (w' := w'.alloc (.cells #[.int .u32 (n1 : Int), .int .u32 (n2 : Int)] 48)) ?_ trivial ⟨by simpa using j1.bl_ (balloc _ _), j2.bl_ (balloc _ _), j3.trans (Chg.ofBelow (balloc _ _)), by simpa using j4.below_ (balloc _ _), fun _ _ => ⟨_, by simp, BoxAt.new_ _ _ [.int .u32 (n1 : Int), .int .u32 (n2 : Int)]⟩, by simpa using j6, by simpa using j7⟩
        have hr := run_slice_arcT w' (n1 : Int) (n2 : Int)
        simp [execOp, evalF, hp, hr]
      · -- 12: slot 73 := Op.call   builtin append, args := #[t66, t72], argTypes := #[45, 45]  
        refine obS_yes fun f bb w' hj hs hd hp => ?_
        simp [PreO, factO, valOf, Region.binds] at hp hd
        refine ⟨by simp [Gd, valOf, hp], ?_⟩
        obtain ⟨j1, j2, j3, j4, j5, j6, j7⟩ := hj
        have h16 : bb 16 = false := by cases hx : bb 16 with | false => rfl | true => rw [j7 hx] at hs; cases hs
        have h11 : bb 11 = true := by first | exact hd.1 | exact hd.2.1 | exact hd.2 | exact hd | simp_all
        obtain ⟨q, hv11, hq⟩ := j5 h11 hs
        have k4 : OwnF 48 cArc w' w.heap.size ((Value.slice none 0 0)) (([] : List GArc)) := by rw [hs] at j4; simpa using j4
        have k1 := j1
        rw [h16] at k1
        refine mildS_ex (exec_appR (C := cArc) (O := fun _ => True) (.tmp 66) (.tmp 72) 45 rfl Tryz.underlying45 infoArc (by kernel_rfl) (by decide) (by decide) k4 (rowOfBoxT hq (HAr.out w')) (by simp [evalF, hp]) (by simpa [evalF, valOf] using hv11) (by simp) (Nat.le_trans (hz3) j3.size)) ?_
        intro v' w3 g1 g2
        refine ⟨trivial, ?_, boxKeptT (by decide) k4 g2 j2, j3.trans (Chg.ofGrown g2.gr fun k e => .inr e), by simpa using g1, by simp [TmpT], by simpa using j6, by simp [h16]⟩
        simp only [h16]
        exact boxKeptT (by decide) k4 g2 k1
      · -- 13: slot 74 := Op.nilCheck t61
        refine obS_yes fun f bb w' hj hs hd hp => ?_
        simp [PreO, factO, valOf, Region.binds] at hp hd
        refine ⟨by simp [Gd, valOf, hp], ?_⟩
        refine mildS_val (.pointer (some ⟨g, 0, none⟩)) (w' := w') ?_ rfl (by simpa using hj)
        simp [execOp, evalF, hp, go_sem]
      · -- 14: slot 75 := Op.fieldAddr 166 t74 0
        refine obS_yes fun f bb w' hj hs hd hp => ?_
        simp [PreO, factO, valOf, Region.binds] at hp hd
        refine ⟨by simp [Gd, valOf, hp], ?_⟩
        refine mildS_val (.pointer (some ⟨g, 0, none⟩)) (w' := w') ?_ rfl (by simpa using hj)
        simp [execOp, evalF, hp, go_sem]
      · -- 15: slot 76 := Op.fieldAddr 132 t75 1
        refine obS_yes fun f bb w' hj hs hd hp => ?_
        simp [PreO, factO, valOf, Region.binds] at hp hd
        refine ⟨by simp [Gd, valOf, hp], ?_⟩
        refine mildS_val (.pointer (some ⟨g, 1, none⟩)) (w' := w') ?_ rfl (by simpa using hj)
        simp [execOp, evalF, hp, go_sem]
      · -- 16: slot None := Op.store 45 t76 t73
        refine obS_yes fun f bb w' hj hs hd hp => ?_
        simp [PreO, factO, valOf, Region.binds] at hp hd
        refine ⟨by simp [Gd, valOf, hp], ?_⟩
        obtain ⟨j1, j2, j3, j4, j5, j6, j7⟩ := hj
        have h5 : bb 5 = true := by simp_all
        have h12 : bb 12 = true := by simp_all
        have hc := j1.cell 1 _ rfl
        have hf := j1.frozen 1
        have k4 : OwnF 48 cArc w' w.heap.size (f 73) (([] : List GArc) ++ [ar]) := by have h := j4; rw [h12] at h; exact h
        obtain ⟨A9, c9, e9, _, _, _⟩ := k4.form'
        refine mildS_skip (w' := w'.setCell ⟨g, 1, none⟩ (f 73)) ?_ trivial ⟨?_, j2.other _ _ (by show g ≠ w.heap.size; omega), j3.trans (Chg.set _ _ _ (.inl rfl)), ?_, ?_, by simp [h5], by simp [h12]⟩
        · simp [execOp, evalF, hp, go_sem, hc, hf, e9]
        · exact j1.put 1 (f 73)
        · exact ownSetT (by decide) j4 j1 1 (f 73)
        · simpa using TmpT.set (by decide) j5 j1 1 (f 73)
    · intro f bb wd hall hj hp
      simp only [PostO] at hp
      obtain ⟨e0, e1, e2, e3, e4, e5, e6, e7, e8, e9, e10, _, _, e13, e14, e15, _, _⟩ := hp
      simp only [fills, List.foldl_cons, List.foldl_nil, Act.put, List.setIfInBounds_toArray, List.set_cons_zero, List.set_cons_succ, e0, e1, e2, e3, e4, e5, e6, e7, e8, e9, e10, e13, e14, e15]
      clear e0 e1 e2 e3 e4 e5 e6 e7 e8 e9 e10 e13 e14 e15
      simp only [List.drop_succ_cons, List.drop_zero]
      obtain ⟨j1, j2, j3, j4, j5, j6, j7⟩ := hj
      have b12 : bb 12 = true := hall 12 (by decide)
      have b16 : bb 16 = true := hall 16 (by decide)
      rw [b16] at j1
      rw [b12] at j4
      have k1 : BoxAt 166 wd g (mgC n0 (f 73) vl) := j1
      have k4 : OwnF 48 cArc wd w.heap.size (f 73) [ar] := j4
      clear j1 j4
      generalize f 73 = va at *
      go_wp2_with fail
      go_end0
      exact ⟨rfl, va, k1, k4, Hch3.out.trans (Chg.more j3 fun k _ hk => hk.elim id fun h => by simp [Value.ownBlock] at h)⟩
end Go.Proofs.YtcffeepgfjpcaaaGreat
