/- the document's reading of neighbours -/
import Derived.Test.YteakeefocnjlhaaGapsGet
import Derived.Test.YteakeefocnjlhaaLaw04
namespace Go.Proofs.Yteakeefocnjlhaa
set_option linter.unusedSimpArgs false
set_option linter.unusedVariables false
open Go.RowKit

def sliceLen : Value → Nat
  | .slice _ n _ => n
  | _ => 0
/-- what holds in the loop: with an error nothing is left to do -/
def GetRel (N : Nat) (acc : List GArc) (s : List UInt8) (e : Int) (R : List GArc × List UInt8 × Int) : Prop :=
  (e = 0 ∧ acc.length ≤ N ∧ gsum acc ≤ 2147483647 ∧ gget (N - acc.length) acc (nextOf acc acc.length) (2147483647 - gsum acc) s 0 = R) ∨ (e ≠ 0 ∧ s = [] ∧ R = ([], [], e))
theorem OwnA.empty (W : World) (g base : Nat) (hg : W.heap.size = g) (hb : base ≤ g) : OwnF 38 cArc (W.alloc (.cells #[] 38)) base (.slice (some ⟨g, 0, none⟩) 0 0) [] := by
  subst hg
  exact (OwnA.new_ W [] (by simp)).more hb
theorem nextOf_snoc (acc : List GArc) (a : GArc) : nextOf (acc ++ [a]) (acc ++ [a]).length = a.to.toNat + 1 := by
  unfold nextOf
  rw [if_neg (by simp)]
  simp

theorem meas_step {n m : Nat} {acc : List GArc} {x : GArc} (h : n - acc.length = m + 1) : n - (acc ++ [x]).length < n - acc.length := by
  rw [List.length_append, List.length_singleton]; omega
theorem getRel_step (n0 m nx lf r1 q1 : Nat) (acc : List GArc) (s3 : List UInt8) (e3 : Int) (R : List GArc × List UInt8 × Int) (hm : n0 - acc.length = m + 1) (hS : gsum acc ≤ 2147483647) (hlf : 2147483647 - gsum acc = lf)
    (hnx : nx + r1 ≤ 4294967295) (hq : q1 + 1 ≤ lf) (herr : e3 ≠ 0 → s3 = [])
    (h : (if e3 ≠ 0 then ([], [], e3) else gget m (acc ++ [⟨UInt32.ofNat (nx + r1), UInt32.ofNat (q1 + 1)⟩]) (nx + r1 + 1) (lf - (q1 + 1)) s3 0) = R) :
    GetRel n0 (acc ++ [⟨UInt32.ofNat (nx + r1), UInt32.ofNat (q1 + 1)⟩]) s3 e3 R := by
  by_cases he : e3 = 0
  · subst he
    rw [if_neg (by simp)] at h
    have h1 := u32_ofNat_toNat (nx + r1) (by omega)
    have h2 := u32_ofNat_toNat (q1 + 1) (by omega)
    have hg : gsum (acc ++ [⟨UInt32.ofNat (nx + r1), UInt32.ofNat (q1 + 1)⟩]) = gsum acc + (q1 + 1) := by rw [gsum_append, gsum_one]; simp only; rw [h2]
    refine .inl ⟨rfl, by simp; omega, by rw [hg]; omega, ?_⟩
    rw [nextOf_snoc, hg]
    simp only
    rw [h1, show 2147483647 - (gsum acc + (q1 + 1)) = lf - (q1 + 1) from by omega, show n0 - (acc ++ [(⟨UInt32.ofNat (nx + r1), UInt32.ofNat (q1 + 1)⟩ : GArc)]).length = m from by simp; omega]
    exact h
  · rw [if_pos he] at h
    exact .inr ⟨he, herr he, h.symm⟩
set_option maxRecDepth 100000 in
set_option maxHeartbeats 8000000 in
theorem rgget_any (w : World) (B : Nat) (v : Value) (s0 : List UInt8) (e0 : Int) (hl : s0.length ≤ 1073741824) (hby : By w B v s0) (hB : B ≤ w.heap.size) (he0 : e0 ≠ 0 → s0 = []) :
    Calls Try.prog 41 #[.agg #[v, .int .i64 e0]] w fun ev w' => ∃ vo v', ev = .returned (.tuple #[vo, .agg #[v', .int .i64 (gread s0 e0).2.2]]) ∧ OwnF 38 cArc w' w.heap.size vo (gread s0 e0).1 ∧ By w' B v' (gread s0 e0).2.1 ∧ Below w.heap.size w w' := by
  have hn := fun W h hW => rnum_any W B v s0 e0 18446744073709551615 (by decide) h hW he0
  rw [show (((18446744073709551615 : Nat) : Int)) = 18446744073709551615 from rfl] at hn
  have hlt := (numS_lt 18446744073709551615 s0 e0).1
  have herr := numS_err 18446744073709551615 s0 e0
  have hlen := numS_len 18446744073709551615 s0 e0
  have hR : gread s0 e0 = if (numS 18446744073709551615 s0 e0).2.2 ≠ 0 then ([], [], (numS 18446744073709551615 s0 e0).2.2) else gget (numS 18446744073709551615 s0 e0).1 [] 0 2147483647 (numS 18446744073709551615 s0 e0).2.1 0 := rfl
  generalize gread s0 e0 = R at *
  generalize numS 18446744073709551615 s0 e0 = N at *
  obtain ⟨n0, s1, e1⟩ := N
  simp only at hlt herr hlen hR hn
  have hrel0 : GetRel n0 [] s1 e1 R := by
    by_cases he : e1 = 0
    · subst he
      rw [if_neg (by simp)] at hR
      exact .inl ⟨rfl, by simp, by simp [gsum], by simpa [gsum, nextOf] using hR.symm⟩
    · rw [if_pos he] at hR
      exact .inr ⟨he, (herr he).1, hR⟩
  have Hn := Lib.hid hn
  have Hrel0 := Lib.hid hrel0
  obtain ⟨A, c, rfl, _, _, _⟩ := id hby
  clear hR hn herr hrel0 he0
  go_enter Try.func41, Try.ntmps41
  go_wp2_with fail
  have hb0 := bstep (bstep (balloc w (.cells #[.slice A s0.length c, .int .i64 e0] 46)) (balloc _ (.cells #[.slice none 0 0, .int .i64 0] 46))) (balloc _ (.cells #[] 38))
  refine (Hn.out _ (hby.below (hb0.mono hB)) (Nat.le_trans hB hb0.size)).mono ?_
  rintro _ w1 ⟨v1, rfl, hby1, hb1⟩
  obtain ⟨A1, c1, rfl, _, _, _⟩ := id hby1
  have hbx1 := (((BoxAt.new_ 46 w [.slice A s0.length c, .int .i64 e0]).alloc (.cells #[.slice none 0 0, .int .i64 0] 46)).alloc (.cells #[] 38)).below (by simp; omega) hb1
  have hbx3 := ((BoxAt.new_ 46 (w.alloc (.cells #[.slice A s0.length c, .int .i64 e0] 46)) [.slice none 0 0, .int .i64 0]).alloc (.cells #[] 38)).below (by simp) hb1
  have hown := (OwnA.new_ ((w.alloc (.cells #[.slice A s0.length c, .int .i64 e0] 46)).alloc (.cells #[.slice none 0 0, .int .i64 0] 46)) [] (by simp)).below_ hb1
  have hb01 := bstep hb0 hb1
  simp only [World.size_alloc] at hbx3 hown
  have hc0 := hbx1.cell 0 _ rfl
  have hc1 := hbx1.cell 1 _ rfl
  have hf0 := hbx1.frozen 0
  have hf1 := hbx1.frozen 1
  have hbx1' := (hbx1.put 0 (.slice A1 s1.length c1)).put 1 (.int .i64 e1)
  have hbx3' := (hbx3.other ⟨w.heap.size, 0, none⟩ (.slice A1 s1.length c1) (by show w.heap.size ≠ w.heap.size + 1; omega)).other ⟨w.heap.size, 1, none⟩ (.int .i64 e1) (by show w.heap.size ≠ w.heap.size + 1; omega)
  have hown' := (hown.grownRd (gset w1 ⟨w.heap.size, 0, none⟩ (.slice A1 s1.length c1)) (by show w.heap.size < _; omega)).grownRd (gset _ ⟨w.heap.size, 1, none⟩ (.int .i64 e1)) (by show w.heap.size < _; omega)
  have hbs : Below w.heap.size w1 ((w1.setCell ⟨w.heap.size, 0, none⟩ (.slice A1 s1.length c1)).setCell ⟨w.heap.size, 1, none⟩ (.int .i64 e1)) :=
    ((Below.refl _ _).setCell (p := ⟨w.heap.size, 0, none⟩) (Nat.le_refl _) _).setCell (p := ⟨w.heap.size, 1, none⟩) (Nat.le_refl _) _
  have hb02 := hb01.trans hbs
  have hby2 := hby1.below (hbs.mono hB)
  have Hbx1 := Lib.hid hbx1'
  have Hbx3 := Lib.hid hbx3'
  have Hown := Lib.hid hown'
  have Hb02 := Lib.hid hb02
  have Hby2 := Lib.hid hby2
  clear hbx1' hbx3' hown' hb02 hby2 hbs hbx1 hbx3 hown hb01 hby1 hb1 hb0 hby
  go_wp2_with fail
  go_loopw [4] (fun vo wr => ∃ (acc : List GArc) (s : List UInt8) (e : Int) (As : Option Addr) (cs : Nat), OwnF 38 cArc wr (w.heap.size + 1 + 1) vo acc ∧ BoxAt 46 wr w.heap.size [.slice As s.length cs, .int .i64 e] ∧ By wr B (.slice As s.length cs) s ∧ BoxAt 46 wr (w.heap.size + 1) [.slice none 0 0, .int .i64 0] ∧ Below w.heap.size w wr ∧ GetRel n0 acc s e R ∧ (e = 0 → acc.length + s.length ≤ s0.length) ∧ acc.length ≤ s0.length + 1) (fun vo _ => n0 - sliceLen vo)
  case atStart => exact ⟨[], s1, e1, A1, c1, Hown.out, Hbx1.out, Hby2.out, Hbx3.out, Hb02.out, Hrel0.out, fun _ => by simpa using hlen, by simp⟩
  case round =>
    obtain ⟨acc, s, e, As, cs, hown, hbx1, hvs, hbx3, hbl, hrel, hal, hal2⟩ := hrel
    have hsz := hbl.size
    have hl1 := hbx1.lt
    have hl3 := hbx3.lt
    have hx0 := hbx1.cell 0 _ rfl
    have hx1 := hbx1.cell 1 _ rfl
    have hy0 := hbx3.cell 0 _ rfl
    have hy1 := hbx3.cell 1 _ rfl
    have hz0 := hbx3.frozen 0
    have hz1 := hbx3.frozen 1
    have hbW : ∀ (u0 u1 : Value), Below w.heap.size wr ((wr.setCell ⟨w.heap.size + 1, 0, none⟩ u0).setCell ⟨w.heap.size + 1, 1, none⟩ u1) := fun u0 u1 =>
      ((Below.refl _ _).setCell (p := ⟨w.heap.size + 1, 0, none⟩) (by show w.heap.size ≤ w.heap.size + 1; omega) _).setCell (p := ⟨w.heap.size + 1, 1, none⟩) (by show w.heap.size ≤ w.heap.size + 1; omega) _
    have HbW := Lib.hid hbW
    clear hbW
    rcases hrel with ⟨rfl, hr1, hr2, hr3⟩ | ⟨he, rfl, rfl⟩
    · rcases Nat.lt_or_ge acc.length n0 with hfin | hfin
      · obtain ⟨m, hm⟩ : ∃ m, n0 - acc.length = m + 1 := ⟨n0 - acc.length - 1, by omega⟩
        rw [hm, gget_succ] at hr3
        have hbyA := hown.byA
        obtain ⟨Ao, co, rfl, hco1, hco2, _⟩ := hown.form'
        have hnx : acc.length = 0 ∧ nextOf acc acc.length = 0 ∨ ∃ k, ∃ hk : k < acc.length, acc.length = k + 1 ∧ nextOf acc acc.length = (acc[k]).to.toNat + 1 := by
          rcases Nat.eq_zero_or_pos acc.length with h | h
          · left; exact ⟨h, by rw [h]; rfl⟩
          · right
            refine ⟨acc.length - 1, by omega, by omega, ?_⟩
            have := nextOf_succ acc (acc.length - 1) (by omega)
            rwa [show acc.length - 1 + 1 = acc.length from by omega] at this
        have hlf : (2147483647 : Int) - ((gsum acc : Nat) : Int) = ((2147483647 - gsum acc : Nat) : Int) := by omega
        have hlfl : 2147483647 - gsum acc ≤ 2147483647 := by omega
        generalize hnxx : nextOf acc acc.length = nx at *
        generalize hlfS : 2147483647 - gsum acc = lf at *
        have HlfS := Lib.hid hlfS
        have HS := Lib.hid hr2
        clear hlfS
        rcases hnx with ⟨hL, rfl⟩ | ⟨k, hk, hL, hnk⟩
        · have hL0 : decide (0 < acc.length) = false := decide_eq_false (by omega)
          have HL := Lib.hid hL
          clear hL hnxx
          go_wp2_with fail
          refine (rgsum_any wr _ _ acc (by omega) hbyA).mono ?_
          rintro _ _ ⟨rfl, rfl⟩
          generalize hSS : gsum acc = S at *
          have HSS := Lib.hid hSS
          clear hSS
          by_cases hstop : 4294967295 < 0 ∨ lf = 0
          · rw [if_pos hstop] at hr3
            have hst : ((lf : Int) == 0) = true := by
              simp; omega
            have Hr3 := Lib.hid hr3
            have hgb : gbad s = if s = [] then 2 else 9 := rfl
            clear hr3 hstop hown hal
            by_cases hs : s = []
            · subst hs
              rw [if_pos rfl] at hgb
              have Hgb := Lib.hid hgb
              clear hgb
              have h1 := hst
              all_goals
                go_wp2_with fail
                have hend := ((hbx3.put 0 (.slice none 0 0)).put 1 (.int .i64 2)).alloc (.cells #[] 38)
                have hbf : Below w.heap.size wr (((wr.setCell ⟨w.heap.size + 1, 0, none⟩ (.slice none 0 0)).setCell ⟨w.heap.size + 1, 1, none⟩ (.int .i64 2)).alloc (.cells #[] 38)) := (HbW.out (.slice none 0 0) (.int .i64 2)).trans ((balloc _ _).mono (by simp [World.setCell]; omega))
                refine bodyPost_ret (results_tc rfl _ _ (w.heap.size + 1) [.slice none 0 0, .int .i64 2] rfl (fun j v hj => (hend.cells j v hj : _)) Try.underlying46 rfl (by kernel_rfl)) rfl ?_
                rw [← Hr3.out, Hgb.out]
                exact ⟨_, _, rfl, OwnA.empty _ wr.heap.size _ (by simp [World.setCell]) (by omega), By.nil_, hbl.trans hbf⟩
            · rw [if_neg hs] at hgb
              have hl0 : ((s.length : Int) == 0) = false := beq_eq_false_iff_ne.2 (by have := List.length_pos_iff.2 hs; omega)
              have Hgb := Lib.hid hgb
              clear hgb hs
              have h1 := hst
              all_goals
                go_wp2_with fail
                have hend := ((hbx3.put 0 (.slice none 0 0)).put 1 (.int .i64 9)).alloc (.cells #[] 38)
                have hbf : Below w.heap.size wr (((wr.setCell ⟨w.heap.size + 1, 0, none⟩ (.slice none 0 0)).setCell ⟨w.heap.size + 1, 1, none⟩ (.int .i64 9)).alloc (.cells #[] 38)) := (HbW.out (.slice none 0 0) (.int .i64 9)).trans ((balloc _ _).mono (by simp [World.setCell]; omega))
                refine bodyPost_ret (results_tc rfl _ _ (w.heap.size + 1) [.slice none 0 0, .int .i64 9] rfl (fun j v hj => (hend.cells j v hj : _)) Try.underlying46 rfl (by kernel_rfl)) rfl ?_
                rw [← Hr3.out, Hgb.out]
                exact ⟨_, _, rfl, OwnA.empty _ wr.heap.size _ (by simp [World.setCell]) (by omega), By.nil_, hbl.trans hbf⟩
          · rw [if_neg hstop] at hr3
            have hns : 0 ≤ 4294967295 ∧ 0 < lf := by omega
            have hlf0 : ((lf : Int) == 0) = false := beq_eq_false_iff_ne.2 (by omega)
            have hsub : (4294967295 : Int) - (0 : Int) = ((4294967295 - 0 : Nat) : Int) := by omega
            have hsub2 : (lf : Int) - 1 = ((lf - 1 : Nat) : Int) := by omega
            have hn1 := rnum_any wr B (.slice As s.length cs) s 0 (4294967295 - 0) (by omega) hvs (Nat.le_trans hB hsz) (fun h => absurd rfl h)
            have hb1 := numS_lt (4294967295 - 0) s 0
            have hlen1 := numS_len (4294967295 - 0) s 0
            have herr1 : (numS (4294967295 - 0) s 0).2.2 ≠ 0 → (numS (4294967295 - 0) s 0).2.1 = [] := fun h => (numS_err (4294967295 - 0) s 0 h).1
            generalize numS (4294967295 - 0) s 0 = r at *
            obtain ⟨r1, s2, e2⟩ := r
            simp only at hr3 hb1 hlen1 herr1 hn1
            have hb2 := numS_lt (lf - 1) s2 e2
            have hlen2 := numS_len (lf - 1) s2 e2
            have herr2 : (numS (lf - 1) s2 e2).2.2 ≠ 0 → (numS (lf - 1) s2 e2).2.1 = [] := fun h => (numS_err (lf - 1) s2 e2 h).1
            have hdx : (numS (lf - 1) s2 e2).2.2 = 0 → (numS (lf - 1) s2 e2).2.1.length < s.length := fun h => by have := numS_dec (lf - 1) s2 e2 h; omega
            have hn2 := fun W v h hW => rnum_any W B v s2 e2 (lf - 1) (by omega) h hW herr1
            generalize numS (lf - 1) s2 e2 = q at *
            obtain ⟨q1, s3, e3⟩ := q
            simp only at hr3 hb2 hlen2 herr2 hn2 hdx
            have Hn1 := Lib.hid hn1
            have Hn2 := Lib.hid hn2
            have Hr3 := Lib.hid hr3
            have Hown := Lib.hid hown
            have Herr2 := Lib.hid herr2
            have Hdx := Lib.hid hdx
            have Hal := Lib.hid hal
            skip
            clear hn1 hn2 hr3 hown herr1 herr2 hdx hal hstop
            go_wp2_with fail
            refine Hn1.out.mono ?_
            rintro _ w2 ⟨v2, rfl, hby2, hb2w⟩
            obtain ⟨A2, c2, rfl, _, _, _⟩ := id hby2
            go_wp2_with fail
            have hb9 := balloc w2 (.cells #[.slice A2 s2.length c2, .int .i64 e2] 46)
            have hs2 : w.heap.size ≤ w2.heap.size := Nat.le_trans hsz hb2w.size
            refine (Hn2.out _ _ (hby2.below (hb9.mono (Nat.le_trans hB hs2))) (Nat.le_trans (Nat.le_trans hB hs2) hb9.size)).mono ?_
            rintro _ w3 ⟨v3, rfl, hby3, hb3w⟩
            obtain ⟨A3, c3, rfl, _, _, _⟩ := id hby3
            have hbr3 : Below wr.heap.size wr w3 := bstep hb2w (bstep hb9 hb3w)
            have hbx13 := hbx1.below hl1 hbr3
            have hbx33 := hbx3.below hl3 hbr3
            have hown3 := Hown.out.below_ hbr3
            have hp0 := hbx13.cell 0 _ rfl
            have hp1 := hbx13.cell 1 _ rfl
            have hq0 := hbx13.frozen 0
            have hq1 := hbx13.frozen 1
            have hl13 := hbx13.lt
            have hl33 := hbx33.lt
            have hne13 : w.heap.size ≠ w3.heap.size := by omega
            have hs3 : w.heap.size ≤ w3.heap.size := Nat.le_trans hsz hbr3.size
            clear hx0 hx1 hy0 hy1 hz0 hz1 hbx1 hbx3 hb2w hb9 hb3w
            have hu1 := u32_ofNat_toNat (0 + r1) (by omega)
            have hu2 := u32_ofNat_toNat (q1 + 1) (by omega)
            have Hu1 := Lib.hid hu1
            have Hu2 := Lib.hid hu2
            have hcs : cArc.at_ ((((w3.setCell ⟨w.heap.size, 0, none⟩ (.slice A3 s3.length c3)).setCell ⟨w.heap.size, 1, none⟩ (.int .i64 e3)).alloc (.cells #[.slice A3 s3.length c3, .int .i64 e3] 46))) (fun _ => False) [.int .u32 ((r1 : Int)), .int .u32 ((q1 : Int) + 1)] ⟨UInt32.ofNat (0 + r1), UInt32.ofNat (q1 + 1)⟩ :=
              ⟨by simp only [hu1, hu2]; first | rfl | simp, trivial⟩
            have hownX := ((hown3.grownRd (gset w3 ⟨w.heap.size, 0, none⟩ (.slice A3 s3.length c3)) (by show w.heap.size < _; omega)).grownRd (gset _ ⟨w.heap.size, 1, none⟩ (.int .i64 e3)) (by show w.heap.size < _; omega)).alloc (.cells #[.slice A3 s3.length c3, .int .i64 e3] 46)
            have hbx1X := ((hbx13.put 0 (.slice A3 s3.length c3)).put 1 (.int .i64 e3)).alloc (.cells #[.slice A3 s3.length c3, .int .i64 e3] 46)
            have hbx3X := ((hbx33.other ⟨w.heap.size, 0, none⟩ (.slice A3 s3.length c3) (by show w.heap.size ≠ w.heap.size + 1; omega)).other ⟨w.heap.size, 1, none⟩ (.int .i64 e3) (by show w.heap.size ≠ w.heap.size + 1; omega)).alloc (.cells #[.slice A3 s3.length c3, .int .i64 e3] 46)
            have hbX : Below w.heap.size w3 ((((w3.setCell ⟨w.heap.size, 0, none⟩ (.slice A3 s3.length c3)).setCell ⟨w.heap.size, 1, none⟩ (.int .i64 e3)).alloc (.cells #[.slice A3 s3.length c3, .int .i64 e3] 46))) :=
              (((Below.refl _ _).setCell (p := ⟨w.heap.size, 0, none⟩) (Nat.le_refl _) _).setCell (p := ⟨w.heap.size, 1, none⟩) (Nat.le_refl _) _).alloc (by simp [World.setCell]; omega) _
            have hbyX := hby3.below (hbX.mono hB)
            have hblX : Below w.heap.size w ((((w3.setCell ⟨w.heap.size, 0, none⟩ (.slice A3 s3.length c3)).setCell ⟨w.heap.size, 1, none⟩ (.int .i64 e3)).alloc (.cells #[.slice A3 s3.length c3, .int .i64 e3] 46))) := (hbl.trans (hbr3.mono hsz)).trans hbX
            have hszX := hblX.size
            have hl3X := hbx3X.lt
            have hblkX := hownX.blk
            have HownX := Lib.hid hownX
            have Hbx1X := Lib.hid hbx1X
            have Hbx3X := Lib.hid hbx3X
            have HbyX := Lib.hid hbyX
            have HblX := Lib.hid hblX
            have HblkX := Lib.hid hblkX
            have Hcs := Lib.hid hcs
            clear hownX hbx1X hbx3X hbX hbyX hblX hcs hblkX hu1 hu2
            go_wp2_with (at_builtin
                         go_loud (refine wpList_app1R rfl (.tmp 72) (.tmp 81) 32 rfl Try.underlying32 infoArc rfl (by decide) (by decide) (y := ⟨UInt32.ofNat (0 + r1), UInt32.ofNat (q1 + 1)⟩) [.int .u32 ((r1 : Int)), .int .u32 ((q1 : Int) + 1)] HownX.out Hcs.out rfl (Eq.trans (b := .slice (some ⟨w3.heap.size + 1, 0, none⟩) 1 1) rfl (by simp [World.setCell])) (by omega) (by omega) ?_)
                         intro v4 w4 hown4 hext4)
            have hrow : ∀ q, q < w.heap.size + 1 + 1 → Value.ownBlock (.slice Ao acc.length co) ≠ some q := fun q hq e => by have := (HblkX.out q e).1; omega
            have hb4 : Below (w.heap.size + 1 + 1) _ w4 := hext4.below (by omega) fun q hq => (HblkX.out q hq).1
            obtain ⟨A4, c4, rfl, _, _, _⟩ := hown4.form'
            refine ⟨⟨_, s3, e3, A3, c3, hown4, Hbx1X.out.below (by omega) hb4, HbyX.out.below (hb4.mono (by omega)), Hbx3X.out.below (by omega) hb4, HblX.out.trans (hb4.mono (by omega)), getRel_step n0 m 0 lf r1 q1 acc s3 e3 R hm (by first | exact HS.out | (rw [HSS.out]; exact HS.out)) (by first | exact HlfS.out | (rw [HSS.out]; exact HlfS.out)) (by omega) (by omega) Herr2.out Hr3.out, fun he => ?_, ?_⟩, ?_⟩
            · have h1 := Hdx.out he
              have h2 := Hal.out (by trivial)
              simp; omega
            · have h2 := Hal.out (by trivial)
              simp; omega
            · exact meas_step hm
        · obtain ⟨ad, rfl, hab, hk0, hk1⟩ := hbyA.cells k hk
          have hto := u32_lt (acc[k]).to
          generalize (acc[k]).to.toNat = x at *
          have hnk' : (x : Int) + 1 = (nx : Int) := by omega
          have hLi : (acc.length : Int) - 1 = (k : Int) := by omega
          have HL := Lib.hid hL
          clear hL hnxx hnk
          go_wp2_with fail
          refine (rgsum_any wr _ _ acc (by omega) hbyA).mono ?_
          rintro _ _ ⟨rfl, rfl⟩
          generalize hSS : gsum acc = S at *
          have HSS := Lib.hid hSS
          clear hSS
          by_cases hstop : 4294967295 < nx ∨ lf = 0
          · rw [if_pos hstop] at hr3
            have hst : decide (4294967295 < (nx : Int)) = true ∨ (decide (4294967295 < (nx : Int)) = false ∧ ((lf : Int) == 0) = true) := by
              rcases Decidable.em (4294967295 < nx) with h | h
              · left; simp; omega
              · right; simp; omega
            have Hr3 := Lib.hid hr3
            have hgb : gbad s = if s = [] then 2 else 9 := rfl
            clear hr3 hstop hown hal
            by_cases hs : s = []
            · subst hs
              rw [if_pos rfl] at hgb
              have Hgb := Lib.hid hgb
              clear hgb
              rcases hst with h1 | ⟨h1, h2⟩
              all_goals
                go_wp2_with fail
                have hend := ((hbx3.put 0 (.slice none 0 0)).put 1 (.int .i64 2)).alloc (.cells #[] 38)
                have hbf : Below w.heap.size wr (((wr.setCell ⟨w.heap.size + 1, 0, none⟩ (.slice none 0 0)).setCell ⟨w.heap.size + 1, 1, none⟩ (.int .i64 2)).alloc (.cells #[] 38)) := (HbW.out (.slice none 0 0) (.int .i64 2)).trans ((balloc _ _).mono (by simp [World.setCell]; omega))
                refine bodyPost_ret (results_tc rfl _ _ (w.heap.size + 1) [.slice none 0 0, .int .i64 2] rfl (fun j v hj => (hend.cells j v hj : _)) Try.underlying46 rfl (by kernel_rfl)) rfl ?_
                rw [← Hr3.out, Hgb.out]
                exact ⟨_, _, rfl, OwnA.empty _ wr.heap.size _ (by simp [World.setCell]) (by omega), By.nil_, hbl.trans hbf⟩
            · rw [if_neg hs] at hgb
              have hl0 : ((s.length : Int) == 0) = false := beq_eq_false_iff_ne.2 (by have := List.length_pos_iff.2 hs; omega)
              have Hgb := Lib.hid hgb
              clear hgb hs
              rcases hst with h1 | ⟨h1, h2⟩
              all_goals
                go_wp2_with fail
                have hend := ((hbx3.put 0 (.slice none 0 0)).put 1 (.int .i64 9)).alloc (.cells #[] 38)
                have hbf : Below w.heap.size wr (((wr.setCell ⟨w.heap.size + 1, 0, none⟩ (.slice none 0 0)).setCell ⟨w.heap.size + 1, 1, none⟩ (.int .i64 9)).alloc (.cells #[] 38)) := (HbW.out (.slice none 0 0) (.int .i64 9)).trans ((balloc _ _).mono (by simp [World.setCell]; omega))
                refine bodyPost_ret (results_tc rfl _ _ (w.heap.size + 1) [.slice none 0 0, .int .i64 9] rfl (fun j v hj => (hend.cells j v hj : _)) Try.underlying46 rfl (by kernel_rfl)) rfl ?_
                rw [← Hr3.out, Hgb.out]
                exact ⟨_, _, rfl, OwnA.empty _ wr.heap.size _ (by simp [World.setCell]) (by omega), By.nil_, hbl.trans hbf⟩
          · rw [if_neg hstop] at hr3
            have hns : nx ≤ 4294967295 ∧ 0 < lf := by omega
            have hlf0 : ((lf : Int) == 0) = false := beq_eq_false_iff_ne.2 (by omega)
            have hsub : (4294967295 : Int) - (nx : Int) = ((4294967295 - nx : Nat) : Int) := by omega
            have hsub2 : (lf : Int) - 1 = ((lf - 1 : Nat) : Int) := by omega
            have hn1 := rnum_any wr B (.slice As s.length cs) s 0 (4294967295 - nx) (by omega) hvs (Nat.le_trans hB hsz) (fun h => absurd rfl h)
            have hb1 := numS_lt (4294967295 - nx) s 0
            have hlen1 := numS_len (4294967295 - nx) s 0
            have herr1 : (numS (4294967295 - nx) s 0).2.2 ≠ 0 → (numS (4294967295 - nx) s 0).2.1 = [] := fun h => (numS_err (4294967295 - nx) s 0 h).1
            generalize numS (4294967295 - nx) s 0 = r at *
            obtain ⟨r1, s2, e2⟩ := r
            simp only at hr3 hb1 hlen1 herr1 hn1
            have hb2 := numS_lt (lf - 1) s2 e2
            have hlen2 := numS_len (lf - 1) s2 e2
            have herr2 : (numS (lf - 1) s2 e2).2.2 ≠ 0 → (numS (lf - 1) s2 e2).2.1 = [] := fun h => (numS_err (lf - 1) s2 e2 h).1
            have hdx : (numS (lf - 1) s2 e2).2.2 = 0 → (numS (lf - 1) s2 e2).2.1.length < s.length := fun h => by have := numS_dec (lf - 1) s2 e2 h; omega
            have hn2 := fun W v h hW => rnum_any W B v s2 e2 (lf - 1) (by omega) h hW herr1
            generalize numS (lf - 1) s2 e2 = q at *
            obtain ⟨q1, s3, e3⟩ := q
            simp only at hr3 hb2 hlen2 herr2 hn2 hdx
            have Hn1 := Lib.hid hn1
            have Hn2 := Lib.hid hn2
            have Hr3 := Lib.hid hr3
            have Hown := Lib.hid hown
            have Herr2 := Lib.hid herr2
            have Hdx := Lib.hid hdx
            have Hal := Lib.hid hal
            have hd1 : decide (4294967295 < (nx : Int)) = false := by simp; omega
            clear hn1 hn2 hr3 hown herr1 herr2 hdx hal hstop
            go_wp2_with fail
            refine Hn1.out.mono ?_
            rintro _ w2 ⟨v2, rfl, hby2, hb2w⟩
            obtain ⟨A2, c2, rfl, _, _, _⟩ := id hby2
            go_wp2_with fail
            have hb9 := balloc w2 (.cells #[.slice A2 s2.length c2, .int .i64 e2] 46)
            have hs2 : w.heap.size ≤ w2.heap.size := Nat.le_trans hsz hb2w.size
            refine (Hn2.out _ _ (hby2.below (hb9.mono (Nat.le_trans hB hs2))) (Nat.le_trans (Nat.le_trans hB hs2) hb9.size)).mono ?_
            rintro _ w3 ⟨v3, rfl, hby3, hb3w⟩
            obtain ⟨A3, c3, rfl, _, _, _⟩ := id hby3
            have hbr3 : Below wr.heap.size wr w3 := bstep hb2w (bstep hb9 hb3w)
            have hbx13 := hbx1.below hl1 hbr3
            have hbx33 := hbx3.below hl3 hbr3
            have hown3 := Hown.out.below_ hbr3
            have hp0 := hbx13.cell 0 _ rfl
            have hp1 := hbx13.cell 1 _ rfl
            have hq0 := hbx13.frozen 0
            have hq1 := hbx13.frozen 1
            have hl13 := hbx13.lt
            have hl33 := hbx33.lt
            have hne13 : w.heap.size ≠ w3.heap.size := by omega
            have hs3 : w.heap.size ≤ w3.heap.size := Nat.le_trans hsz hbr3.size
            clear hx0 hx1 hy0 hy1 hz0 hz1 hbx1 hbx3 hb2w hb9 hb3w
            have hu1 := u32_ofNat_toNat (nx + r1) (by omega)
            have hu2 := u32_ofNat_toNat (q1 + 1) (by omega)
            have Hu1 := Lib.hid hu1
            have Hu2 := Lib.hid hu2
            have hcs : cArc.at_ ((((w3.setCell ⟨w.heap.size, 0, none⟩ (.slice A3 s3.length c3)).setCell ⟨w.heap.size, 1, none⟩ (.int .i64 e3)).alloc (.cells #[.slice A3 s3.length c3, .int .i64 e3] 46))) (fun _ => False) [.int .u32 ((nx : Int) + (r1 : Int)), .int .u32 ((q1 : Int) + 1)] ⟨UInt32.ofNat (nx + r1), UInt32.ofNat (q1 + 1)⟩ :=
              ⟨by simp only [hu1, hu2]; first | rfl | simp, trivial⟩
            have hownX := ((hown3.grownRd (gset w3 ⟨w.heap.size, 0, none⟩ (.slice A3 s3.length c3)) (by show w.heap.size < _; omega)).grownRd (gset _ ⟨w.heap.size, 1, none⟩ (.int .i64 e3)) (by show w.heap.size < _; omega)).alloc (.cells #[.slice A3 s3.length c3, .int .i64 e3] 46)
            have hbx1X := ((hbx13.put 0 (.slice A3 s3.length c3)).put 1 (.int .i64 e3)).alloc (.cells #[.slice A3 s3.length c3, .int .i64 e3] 46)
            have hbx3X := ((hbx33.other ⟨w.heap.size, 0, none⟩ (.slice A3 s3.length c3) (by show w.heap.size ≠ w.heap.size + 1; omega)).other ⟨w.heap.size, 1, none⟩ (.int .i64 e3) (by show w.heap.size ≠ w.heap.size + 1; omega)).alloc (.cells #[.slice A3 s3.length c3, .int .i64 e3] 46)
            have hbX : Below w.heap.size w3 ((((w3.setCell ⟨w.heap.size, 0, none⟩ (.slice A3 s3.length c3)).setCell ⟨w.heap.size, 1, none⟩ (.int .i64 e3)).alloc (.cells #[.slice A3 s3.length c3, .int .i64 e3] 46))) :=
              (((Below.refl _ _).setCell (p := ⟨w.heap.size, 0, none⟩) (Nat.le_refl _) _).setCell (p := ⟨w.heap.size, 1, none⟩) (Nat.le_refl _) _).alloc (by simp [World.setCell]; omega) _
            have hbyX := hby3.below (hbX.mono hB)
            have hblX : Below w.heap.size w ((((w3.setCell ⟨w.heap.size, 0, none⟩ (.slice A3 s3.length c3)).setCell ⟨w.heap.size, 1, none⟩ (.int .i64 e3)).alloc (.cells #[.slice A3 s3.length c3, .int .i64 e3] 46))) := (hbl.trans (hbr3.mono hsz)).trans hbX
            have hszX := hblX.size
            have hl3X := hbx3X.lt
            have hblkX := hownX.blk
            have HownX := Lib.hid hownX
            have Hbx1X := Lib.hid hbx1X
            have Hbx3X := Lib.hid hbx3X
            have HbyX := Lib.hid hbyX
            have HblX := Lib.hid hblX
            have HblkX := Lib.hid hblkX
            have Hcs := Lib.hid hcs
            clear hownX hbx1X hbx3X hbX hbyX hblX hcs hblkX hu1 hu2
            go_wp2_with (at_builtin
                         go_loud (refine wpList_app1R rfl (.tmp 72) (.tmp 81) 32 rfl Try.underlying32 infoArc rfl (by decide) (by decide) (y := ⟨UInt32.ofNat (nx + r1), UInt32.ofNat (q1 + 1)⟩) [.int .u32 ((nx : Int) + (r1 : Int)), .int .u32 ((q1 : Int) + 1)] HownX.out Hcs.out rfl (Eq.trans (b := .slice (some ⟨w3.heap.size + 1, 0, none⟩) 1 1) rfl (by simp [World.setCell])) (by omega) (by omega) ?_)
                         intro v4 w4 hown4 hext4)
            have hrow : ∀ q, q < w.heap.size + 1 + 1 → Value.ownBlock (.slice (some ad) acc.length co) ≠ some q := fun q hq e => by have := (HblkX.out q e).1; omega
            have hb4 : Below (w.heap.size + 1 + 1) _ w4 := hext4.below (by omega) fun q hq => (HblkX.out q hq).1
            obtain ⟨A4, c4, rfl, _, _, _⟩ := hown4.form'
            refine ⟨⟨_, s3, e3, A3, c3, hown4, Hbx1X.out.below (by omega) hb4, HbyX.out.below (hb4.mono (by omega)), Hbx3X.out.below (by omega) hb4, HblX.out.trans (hb4.mono (by omega)), getRel_step n0 m nx lf r1 q1 acc s3 e3 R hm (by first | exact HS.out | (rw [HSS.out]; exact HS.out)) (by first | exact HlfS.out | (rw [HSS.out]; exact HlfS.out)) (by omega) (by omega) Herr2.out Hr3.out, fun he => ?_, ?_⟩, ?_⟩
            · have h1 := Hdx.out he
              have h2 := Hal.out (by trivial)
              simp; omega
            · have h2 := Hal.out (by trivial)
              simp; omega
            · exact meas_step hm
      · obtain rfl : n0 = acc.length := by omega
        have hr3' : (acc, s, 0) = R := by rw [Nat.sub_self] at hr3; exact hr3
        subst hr3'
        have hkeep : ∀ (u0 u1 : Value), OwnF 38 cArc ((wr.setCell ⟨w.heap.size + 1, 0, none⟩ u0).setCell ⟨w.heap.size + 1, 1, none⟩ u1) (w.heap.size + 1 + 1) u4 acc := fun u0 u1 =>
          (hown.grownRd (gset wr ⟨w.heap.size + 1, 0, none⟩ u0) (by show w.heap.size + 1 < _; omega)).grownRd (gset _ ⟨w.heap.size + 1, 1, none⟩ u1) (by show w.heap.size + 1 < _; omega)
        have Hkeep := Lib.hid hkeep
        obtain ⟨Ao, co, rfl, _, _, _⟩ := hown.form'
        have hd : decide ((acc.length : Int) < (acc.length : Int)) = false := by simp
        clear hkeep hr1 hr2 hr3 hal hown
        go_wp2_with fail
        go_region
        have hend := ((hbx3.put 0 (.slice As s.length cs)).put 1 (.int .i64 0))
        have hbf := (HbW.out (.slice As s.length cs) (.int .i64 0)).drew
        go_wp2_with fail
        refine bodyPost_ret (results_tc rfl _ _ (w.heap.size + 1) [.slice As s.length cs, .int .i64 0] rfl (fun j v hj => (hend.cells j v hj : _)) Try.underlying46 rfl (by kernel_rfl)) rfl ?_
        exact ⟨_, _, rfl, (Hkeep.out _ _).more (by omega), hvs.below (hbf.mono hB), hbl.trans hbf⟩
    · have hne : (e == 0) = false := by simpa using he
      have hne' : (e != 0) = true := by simpa using he
      clear he hal
      go_wp2_with fail
      go_region
      have hend := ((hbx3.put 0 (.slice As 0 cs)).put 1 (.int .i64 e)).alloc (.cells #[] 38)
      have hbf : Below w.heap.size wr (((wr.setCell ⟨w.heap.size + 1, 0, none⟩ (.slice As 0 cs)).setCell ⟨w.heap.size + 1, 1, none⟩ (.int .i64 e)).alloc (.cells #[] 38)).drew := ((HbW.out (.slice As 0 cs) (.int .i64 e)).trans ((balloc _ _).mono (by simp [World.setCell]; omega))).drew
      go_wp2_with fail
      refine bodyPost_ret (results_tc rfl _ _ (w.heap.size + 1) [.slice As 0 cs, .int .i64 e] rfl (fun j v hj => (hend.cells j v hj : _)) Try.underlying46 rfl (by kernel_rfl)) rfl ?_
      exact ⟨_, _, rfl, OwnA.empty _ wr.heap.size _ (by simp [World.setCell]) (by omega), By.empty _ _ (hvs.len_.2.2), hbl.trans hbf⟩
end Go.Proofs.Yteakeefocnjlhaa
