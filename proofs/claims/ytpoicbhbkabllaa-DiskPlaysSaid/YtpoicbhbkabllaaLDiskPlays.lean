/- The law 'DiskPlays' returns true for every input, and each argument reads behind the call as it read before. No condition. -/
import Derived.Test.YtpoicbhbkabllaaRows
import Derived.Test.YtpoicbhbkabllaaIn
import Derived.Test.YtpoicbhbkabllaaDoes
import Derived.Test.YtpoicbhbkabllaaMixM
import Derived.WalkKit
import Derived.ProofKit
import Derived.OpenShut
import Derived.ShutString
import Derived.ChangeOld
import Derived.Below
namespace Go.Proofs.Ytpoicbhbkabllaa.diskPlays
open Go.Proofs.Ytpoicbhbkabllaa
open Go.ChangeShapes Go.WideShapes Go.ChangeAt Go.RowKit
set_option linter.unusedVariables false
set_option linter.unusedSimpArgs false

theorem own : ownKnob Try.prog.godebug = none := by kernel_rfl
theorem laidOut : laidOutB Try.prog = true := by kernel_rfl

theorem info_rd : (Try.prog.info? 42).map (fun i => (i.zero, i.size, i.bytes)) = some (some (.agg #[.int .i64 0, .bool false, .int .i64 0, .slice none 0 0, .slice none 0 0]), 5, 72) := by kernel_rfl
set_option maxRecDepth 100000 in
set_option maxHeartbeats 6400000 in
theorem walk (v0 v1 : Value) (w : World) (h0 : InC w 3 [v0]) (h1 : InC w 39 [v1]) :
    Calls Try.prog 5 #[v0, v1] w fun e w' => e = .returned (.bool true) ∧ Below w.heap.size w w' := by
  obtain ⟨n, e1, hn⟩ := InC.i64 (S := fun _ => True) Try.underlying3 h0
  simp at e1
  subst e1
  obtain ⟨l, hl⟩ := h1.acts
  obtain ⟨A, c, rfl, hc1, hc2⟩ := hl.form
  unfold maxLen at hc2
  clear h0 h1
  by_cases hn40 : 40 < n
  · have hd1 : decide (40 < n) = true := decide_eq_true hn40
    clear hn40
    go_enter Try.func5, Try.ntmps5
    go_wp2_with fail
    refine (awake06_any _).mono ?_
    rintro e wa ⟨rfl, hba⟩
    go_wp2_with fail
    go_ret
    exact ⟨rfl, hba⟩
  have hd1 : decide (40 < n) = false := decide_eq_false hn40
  by_cases hl100 : 100 < l.length
  · have hd2 : decide (100 < l.length) = true := decide_eq_true hl100
    have hd2' : decide (100 < (l.length : Int)) = true := decide_eq_true (by omega)
    clear hn40 hl100
    go_enter Try.func5, Try.ntmps5
    go_wp2_with fail
    refine (awake06_any _).mono ?_
    rintro e wa ⟨rfl, hba⟩
    go_wp2_with fail
    go_ret
    exact ⟨rfl, hba⟩
  have hd2 : decide (100 < l.length) = false := decide_eq_false hl100
  have hd2' : decide (100 < (l.length : Int)) = false := decide_eq_false (by omega)
  by_cases hn1 : n < 1
  · have hd3 : decide (n < 1) = true := decide_eq_true hn1
    have Hn := Lib.hid (dnew_no w n (.inl hn1))
    clear hn40 hl100 hn1
    go_enter Try.func5, Try.ntmps5
    go_wp2_with fail
    refine Hn.out.mono ?_
    rintro _ _ ⟨rfl, rfl⟩
    go_wp2_with fail
    refine (awake06_any _).mono ?_
    rintro e wa ⟨rfl, hba⟩
    go_wp2_with fail
    go_ret
    exact ⟨rfl, hba⟩
  have hd3 : decide (n < 1) = false := decide_eq_false hn1
  obtain ⟨cn, rfl⟩ : ∃ cn : Nat, n = (cn : Int) := ⟨n.toNat, by omega⟩
  have hcn : 1 ≤ cn ∧ cn ≤ 40 := by omega
  have Hl := Lib.hid hl
  have hd1' : decide (40 < cn) = false := decide_eq_false (by omega)
  have hd3' : decide (cn < 1) = false := decide_eq_false (by omega)
  clear hn40 hn1 hl hn
  go_enter Try.func5, Try.ntmps5
  go_wp2_with fail
  refine (dnew_dk _ cn (by omega) (by omega)).mono ?_
  rintro _ w1 ⟨g, rfl, hd1x, hb1⟩
  have hz1 := hb1.size
  have Hd1 := Lib.hid hd1x
  have Hb1 := Lib.hid hb1
  clear hd1x hb1
  go_wp2_with fail
  refine (rnewD w1 (cn : Int) (by omega)).mono ?_
  rintro _ w2 ⟨v2, rfl, hv2, hb2⟩
  obtain ⟨u1, u2, rfl, r1, r2, g3, g4⟩ := hv2
  obtain ⟨A3, c3, rfl, _⟩ := r1.form
  obtain ⟨A4, c4, rfl, _⟩ := r2.form
  have hz2 := hb2.size
  obtain ⟨w3, hw3⟩ : ∃ w3, w3 = w2.alloc (.cells (encD (newR (cn : Int)) (.slice A3 (newR (cn : Int)).made.length c3) (.slice A4 (newR (cn : Int)).wait.length c4)).toArray 42) := ⟨_, rfl⟩
  have hb3 : Below w2.heap.size w2 w3 := by rw [hw3]; exact balloc w2 _
  have hz3 : w2.heap.size < w3.heap.size := by rw [hw3]; simp
  have x3 : BoxAt 42 w3 w2.heap.size (encD (newR (cn : Int)) (.slice A3 (newR (cn : Int)).made.length c3) (.slice A4 (newR (cn : Int)).wait.length c4)) := by rw [hw3]; exact BoxAt.new_ _ _ _
  have V3 := Lib.hid (RDV.mk' (m := newR (cn : Int)) (r1.below hb3 (fun k h => h.elim)) (r2.below hb3 (fun k h => h.elim)) g3 g4)
  have X3 := Lib.hid x3
  have B3 := Lib.hid ((Hb1.out.trans (hb2.mono hz1)).trans (hb3.mono (by omega)))
  have Hd3 := Lib.hid ((((Hd1.out.below_ hb2).apart (X' := fun k => k = w2.heap.size) (fun k hk => .inr (by omega)))).below_ hb3)
  have Hw3 := Lib.hid hw3
  have Hrl := Lib.hid (rel_new cn)
  generalize hgb : w2.heap.size = gb at *
  have Hgb := Lib.hid hgb
  clear hb2 hb3 x3 hw3 r1 r2 hgb Hd1 Hb1
  go_wp2_with fail
  rw [Hgb.out, show w2.alloc (.cells #[.int .i64 (newR (cn : Int)).count, .bool (newR (cn : Int)).off, .int .i64 (newR (cn : Int)).fuse, .slice A3 (newR (cn : Int)).made.length c3, .slice A4 (newR (cn : Int)).wait.length c4] 42) = w3 from Hw3.out.symm]
  go_loopw [8, 9, 10] (fun iv ov mv wr => ∃ (k : Nat) (d : DState) (m : RD) (O : Nat → Prop) (A5 A6 : Option Addr) (c5 c6 : Nat), k ≤ l.length ∧ iv = .int .i64 k ∧
      BoxAt 42 wr gb (encD m (.slice A5 m.made.length c5) (.slice A6 m.wait.length c6)) ∧
      RDV wr O (.agg (encD m (.slice A5 m.made.length c5) (.slice A6 m.wait.length c6)).toArray) m ∧ (∀ q, O q → q < wr.heap.size ∧ q ≠ gb) ∧ DK w.heap.size (fun q => q = gb ∨ O q) wr g d ∧ RelD d m ∧ d.bl.length = cn ∧ d.wt.length ≤ k ∧ m.made.length + m.wait.length ≤ k ∧
      Below w.heap.size w wr ∧ gb < wr.heap.size) (fun i _ _ _ => l.length - (intOf i).toNat)
  case atStart => exact ⟨0, _, _, fun _ => False, A3, A4, c3, c4, by omega, rfl, X3.out, V3.out, fun q h => h.elim, Hd3.out.apart (fun q hq => .inl (hq.elim id (fun h => h.elim))), Hrl.out, newD_len cn, Nat.zero_le _, by simp [newR], B3.out, hz3⟩
  case round =>
    obtain ⟨k, d, m, O, A5, A6, c5, c6, hk, rfl, xr, vr, hO, hdk, hrel, hbl, hwt, hmm, hbw, hgr⟩ := hrel
    have Xr := Lib.hid xr
    have Vr := Lib.hid vr
    have HO := Lib.hid hO
    have Hdk := Lib.hid hdk
    have Hrel := Lib.hid hrel
    have Hbw := Lib.hid hbw
    have Hbl := Lib.hid hbl
    have hmade : d.wt.length ≤ 1000 ∧ m.made.length + m.wait.length ≤ 1000 := by omega
    have hBr := hbw.size
    have hla := Hl.out.below hbw
    clear xr vr hO hdk hrel hbl hbw
    by_cases hlt : k < l.length
    · obtain ⟨ad, cs, rfl, hab, ⟨rfl, hok⟩, hcl⟩ := hla.at_ k _ (List.getElem?_eq_getElem hlt)
      have hcl2 : ∀ (j : Nat) (v : Value), (encA l[k])[j]? = some v → wr.cell? ((ad.add (k * 7)).add j) = some v := fun j v hv => by rw [add_add]; exact hcl j v hv
      have habr : (ad.add (k * 7)).block < wr.heap.size := by rw [add_block]; omega
      obtain ⟨hn', hkp, htn⟩ := hok
      have hal := actD_len d l[k]
      have har := actR_len m l[k]
      have harel := act_rel Hrel.out Hdk.out.wts l[k]
      generalize l[k] = a at *
      have Hcl := Lib.hid hcl2
      have Hn' := Lib.hid hn'
      have Hkp := Lib.hid hkp
      have Htn := Lib.hid htn
      have Harel := Lib.hid harel
      have Hal := Lib.hid hal
      have Har := Lib.hid har
      clear hcl hcl2 hla hn' hkp htn harel hal har
      go_wp2_with fail
      refine wp_region_mixL (ds := [55, 56, 57, 58, 59, 60, 61, 54, 62, 63, 10, 9]) 12 (fun bb vs W' => (bb 6 = true → bb 1 = true ∧ bb 5 = true) ∧ (bb 6 = false → Below wr.heap.size wr W') ∧
      (bb 6 = true → ∃ v' O', vs 6 = .tuple #[.bool true, v'] ∧ RDV W' O' v' (actR m a) ∧ (∀ q, O' q → q < W'.heap.size ∧ (O q ∨ wr.heap.size ≤ q) ∧ (bb 10 = true → vs 10 ≠ .pointer (some ⟨q, 0, none⟩))) ∧
        DK w.heap.size (fun q => (q = gb ∨ O q) ∨ O' q ∨ (bb 10 = true ∧ vs 10 = .pointer (some ⟨q, 0, none⟩))) W' g (actD d a) ∧ DChg w.heap.size (fun q => q = gb ∨ O q) wr W') ∧
      (bb 10 = true → ∃ q, vs 10 = .pointer (some ⟨q, 0, none⟩) ∧ wr.heap.size ≤ q ∧ BoxAt 42 W' q zeroDc) ∧ (bb 7 = true → bb 6 = true ∧ vs 7 = vs 6) ∧ (bb 9 = true → bb 7 = true ∧ vs 7 = .tuple #[.bool true, vs 9])) [some 55, some 56, some 57, some 58, some 59, some 60, some 61, some 54, some 62, some 63, some 10, some 9]
        [fun v => v = .pointer (some ⟨g, 0, none⟩), fun v => v = .agg (encD m (.slice A5 m.made.length c5) (.slice A6 m.wait.length c6)).toArray, fun v => v = .slice (some ad) l.length c, fun v => v = .int .i64 (k : Int), fun v => v = .pointer (some (ad.add (k * 7))), fun v => v = .agg (encA a).toArray, fun _ => True, fun _ => True, fun v => v = .bool true, fun _ => True, fun _ => True, fun v => v = .bool true]
        rfl rfl rfl (by kernel_rfl) (by kernel_rfl) ?_ (fun _ => ⟨fun h => (by cases h), fun _ => (Below.refl _ wr).drew, fun h => (by cases h), fun h => (by cases h), fun h => (by cases h), fun h => (by cases h)⟩) ?_
      · refine ⟨?_, ?_, ?_, ?_, ?_, ?_, ?_, ?_, ?_, ?_, ?_, ?_, trivial⟩
        · -- 0: slot 55 := Op.move t5
          refine obM_yes fun f bb w' hj hs hd hp => ?_
          simp [PreO, factO, valOf, Region.binds] at hp hd
          refine ⟨by simp [Gd, valOf, hp], ?_⟩
          refine mildM_val (.pointer (some ⟨g, 0, none⟩)) (w' := w') ?_ rfl (by simpa using hj)
          simp [execOp, evalF, hp, go_sem]
        · -- 1: slot 56 := Op.load 42 t7
          refine obM_yes fun f bb w' hj hs hd hp => ?_
          simp [PreO, factO, valOf, Region.binds] at hp hd
          refine ⟨by simp [Gd, valOf, hp], ?_⟩
          have hb6 : bb 6 = false := by cases hx : bb 6 with | false => rfl | true => rw [(hj.1 hx).1] at hs; cases hs
          have hbl := hj.2.1 hb6
          have hl := run_loadVar_cells w' ⟨gb, 0, none⟩ 42 (encD m (.slice A5 m.made.length c5) (.slice A6 m.wait.length c6)) (Xr.out.blw hbl).cells Try.underlying42 rfl (by kernel_rfl)
          refine mildM_val (.agg (encD m (.slice A5 m.made.length c5) (.slice A6 m.wait.length c6)).toArray) (w' := w') ?_ rfl ⟨fun h => ⟨rfl, (hj.1 h).2⟩, hj.2⟩
          simp only [execOp, evalF, List.contains_eq_mem, Instr.loadAt, Instr.sureAddr, Sem.run_bind, Sem.run_pure, Result.andThen_ok]
          simp [hp, hl]
        · -- 2: slot 57 := Op.move t1
          refine obM_yes fun f bb w' hj hs hd hp => ?_
          simp [PreO, factO, valOf, Region.binds] at hp hd
          refine ⟨by simp [Gd, valOf, hp], ?_⟩
          refine mildM_val (.slice (some ad) l.length c) (w' := w') ?_ rfl (by simpa using hj)
          simp [execOp, evalF, hp, go_sem]
        · -- 3: slot 58 := Op.move t8
          refine obM_yes fun f bb w' hj hs hd hp => ?_
          simp [PreO, factO, valOf, Region.binds] at hp hd
          refine ⟨by simp [Gd, valOf, hp], ?_⟩
          refine mildM_val (.int .i64 (k : Int)) (w' := w') ?_ rfl (by simpa using hj)
          simp [execOp, evalF, hp, go_sem]
        · -- 4: slot 59 := Op.indexAddr 39 t57 t58
          refine obM_yes fun f bb w' hj hs hd hp => ?_
          simp [PreO, factO, valOf, Region.binds] at hp hd
          refine ⟨by simp [Gd, valOf, hp], ?_⟩
          refine mildM_val (.pointer (some (ad.add (k * 7)))) (w' := w') ?_ rfl (by simpa using hj)
          simp [execOp, evalF, hp, go_sem, hlt]
        · -- 5: slot 60 := Op.load 47 t59
          refine obM_yes fun f bb w' hj hs hd hp => ?_
          simp [PreO, factO, valOf, Region.binds] at hp hd
          refine ⟨by simp [Gd, valOf, hp], ?_⟩
          have hb6 : bb 6 = false := by cases hx : bb 6 with | false => rfl | true => rw [(hj.1 hx).2] at hs; cases hs
          have hbl := hj.2.1 hb6
          have hl := run_loadVar_cells w' (ad.add (k * 7)) 47 (encA a) (fun j v hv => (hbl.cell (by rw [add_block]; exact habr)).trans (Hcl.out j v hv)) Try.underlying47 rfl (by kernel_rfl)
          refine mildM_val (.agg (encA a).toArray) (w' := w') ?_ rfl ⟨fun h => ⟨(hj.1 h).1, rfl⟩, hj.2⟩
          simp only [execOp, evalF, List.contains_eq_mem, Instr.loadAt, Instr.sureAddr, Sem.run_bind, Sem.run_pure, Result.andThen_ok]
          simp [hp, hl]
        · -- 6: slot 61 := Op.call   value (Operand.func 23), args := #[t55, t56, t60], argTypes := #[23, 42, 47]  
          refine obM_yes fun f bb w' hj hs hd hp => ?_
          simp [PreO, factO, valOf, Region.binds] at hp hd
          refine ⟨by simp [Gd, valOf, hp], ?_⟩
          obtain ⟨j1, j2, j3, j4, j5, j6⟩ := hj
          have hbl := j2 hs
          have h7 : bb 7 = true → False := fun h => by rw [(j5 h).1] at hs; cases hs
          have h15 : bb 1 = true ∧ bb 5 = true := by first | exact ⟨hd.2.1, hd.2.2⟩ | exact ⟨hd.1, hd.2⟩ | simp_all
          refine mildM_call 23 _ _ Try.f23 Try.func23 (by kernel_rfl) (by kernel_rfl) rfl ?_
          refine calls_args (args' := #[.pointer (some ⟨g, 0, none⟩), .agg (encD m (.slice A5 m.made.length c5) (.slice A6 m.wait.length c6)).toArray, .agg (encA a).toArray]) (by simp [evalF, hp]) ?_
          generalize valOf _ f = vs at j1 j2 j3 j4 j5 j6 ⊢
          have hsz := hbl.size
          have hX1 : ∀ q, ((q = gb ∨ O q) ∨ (bb 10 = true ∧ vs 10 = .pointer (some ⟨q, 0, none⟩))) → q < w'.heap.size ∧ ((q = gb ∨ O q) ∨ wr.heap.size ≤ q) := fun q hq => by
            rcases hq with (hq | hq) | hq
            · exact ⟨by omega, .inl (.inl hq)⟩
            · exact ⟨by have := (HO.out q hq).1; omega, .inl (.inr hq)⟩
            · obtain ⟨q', e1, e2, e3⟩ := j4 hq.1
              rw [hq.2] at e1
              have e : q = q' := by injection e1 with e1; injection e1 with e1; injection e1
              subst e
              exact ⟨e3.lt, .inr e2⟩
          refine (does_any w' w.heap.size (fun q => (q = gb ∨ O q) ∨ (bb 10 = true ∧ vs 10 = .pointer (some ⟨q, 0, none⟩))) O g d m _ a Hn'.out Hkp.out Htn.out (by omega) (fun q hq => (hX1 q hq).1) (fun q hq => .inl (.inr hq)) ((Hdk.out.apart (fun q hq => (hX1 q hq).2)).below_ hbl) (Vr.out.below hbl (fun q hq => (HO.out q hq).1)) Hrel.out hmade.1 hmade.2).mono ?_
          rintro _ w9 ⟨v', rfl, O', p1, p2, p3, p4⟩
          refine ⟨_, rfl, trivial, fun _ => h15, fun h => (by cases h), fun _ => ⟨v', O', rfl, p1, fun q hq => ⟨(p2 q hq).1, ?_, fun hx e => ?_⟩, ?_, ?_⟩, fun hx => ?_, fun hx => (h7 hx).elim, fun hx => (h7 (j6 hx).1).elim⟩
          · rcases (p2 q hq).2 with h | h
            · exact .inl h
            · exact .inr (by omega)
          · obtain ⟨q', e1, e2, e3⟩ := j4 hx
            have e' : vs 10 = .pointer (some ⟨q, 0, none⟩) := e
            rw [e'] at e1
            have e4 : q = q' := by injection e1 with e1; injection e1 with e1; injection e1
            subst e4
            rcases (p2 q hq).2 with h | h
            · have := (HO.out q h).1; omega
            · have := e3.lt; omega
          · exact p3.apart (fun q hq => .inl (by
              rcases hq with hq | hq | hq
              · exact .inl (.inl hq)
              · exact .inr hq
              · exact .inl (.inr hq)))
          · exact (Chg.ofBelow hbl).trans (p4.more' (fun q hq => .inl hq))
          · obtain ⟨q', e1, e2, e3⟩ := j4 hx
            exact ⟨q', e1, e2, p4.box (.inr ⟨hx, e1⟩) e3⟩
        · -- 7: slot 54 := Op.move t61
          refine obM_yes fun f bb w' hj hs hd hp => ?_
          simp [PreO, factO, valOf, Region.binds] at hp hd
          refine ⟨by simp [Gd, valOf, hp], ?_⟩
          obtain ⟨j1, j2, j3, j4, j5, j6⟩ := hj
          have hd' : bb 6 = true := by first | exact hd | exact hd.1
          exact mildM_val (f 61) (w' := w') (by simp [execOp, evalF]) trivial ⟨j1, j2, j3, j4, fun _ => ⟨hd', rfl⟩, fun h => by
            have h9 : bb 9 = true := h
            have := (j6 h9).1
            rw [hs] at this
            cases this⟩
        · -- 8: slot 62 := Op.extract t54 0
          refine obM_yes fun f bb w' hj hs hd hp => ?_
          simp [PreO, factO, valOf, Region.binds] at hp hd
          refine ⟨by simp [Gd, valOf, hp], ?_⟩
          have hd' : bb 7 = true := by first | exact hd | exact hd.1
          obtain ⟨v', O', e, _⟩ := hj.2.2.1 (hj.2.2.2.2.1 hd').1
          have hf : f 54 = .tuple #[.bool true, v'] := (hj.2.2.2.2.1 hd').2.trans e
          exact mildM_val (.bool true) (w' := w') (by simp [execOp, evalF, hf, go_sem]) rfl hj
        · -- 9: slot 63 := Op.extract t54 1
          refine obM_yes fun f bb w' hj hs hd hp => ?_
          simp [PreO, factO, valOf, Region.binds] at hp hd
          refine ⟨by simp [Gd, valOf, hp], ?_⟩
          have hd' : bb 7 = true := by first | exact hd | exact hd.1
          obtain ⟨j1, j2, j3, j4, j5, j6⟩ := hj
          obtain ⟨v', O', e, _⟩ := j3 (j5 hd').1
          have hf : f 54 = .tuple #[.bool true, v'] := (j5 hd').2.trans e
          exact mildM_val v' (w' := w') (by simp [execOp, evalF, hf, go_sem]) trivial ⟨j1, j2, j3, j4, j5, fun _ => ⟨hd', hf⟩⟩
        · -- 10: slot 10 := Op.alloc 42
          refine obM_yes fun f bb w' hj hs hd hp => ?_
          simp [PreO, factO, valOf, Region.binds] at hp hd
          refine ⟨by simp [Gd, valOf, hp], ?_⟩
          obtain ⟨j1, j2, j3, j4, j5, j6⟩ := hj
          have hba := balloc w' (.cells zeroDc.toArray 42)
          have hsz : wr.heap.size ≤ w'.heap.size := by
            cases hx : bb 6 with
            | false => exact (j2 hx).size
            | true => obtain ⟨v', O', _, _, _, _, p4⟩ := j3 hx; exact p4.size
          refine mildM_val (.pointer (some ⟨w'.heap.size, 0, none⟩)) (w' := w'.alloc (.cells zeroDc.toArray 42)) ?_ trivial ?_
          · simp only [execOp]
            simp [evalF, hp, run_alloc_z w' _ info_rd zeroDc rfl]
          · refine ⟨j1, fun h => (j2 h).trans (hba.mono hsz), fun h => ?_, fun _ => ⟨w'.heap.size, rfl, hsz, BoxAt.new_ _ _ _⟩, j5, j6⟩
            obtain ⟨v', O', p0, p1, p2, p3, p4⟩ := j3 h
            refine ⟨v', O', p0, p1.below hba (fun q hq => (p2 q hq).1), fun q hq => ⟨by have := (p2 q hq).1; simp; omega, (p2 q hq).2.1, fun _ e => ?_⟩, ?_, p4.trans (Chg.ofBelow hba)⟩
            · have e' : (Value.pointer (some ⟨w'.heap.size, 0, none⟩)) = .pointer (some ⟨q, 0, none⟩) := e
              have e4 : w'.heap.size = q := by injection e' with e1; injection e1 with e1; injection e1
              have := (p2 q hq).1
              omega
            · refine (p3.apart (fun q hq => ?_)).below_ hba
              rcases hq with hq | hq | hq
              · exact .inl (.inl hq)
              · exact .inl (.inr (.inl hq))
              · have e' : (Value.pointer (some ⟨w'.heap.size, 0, none⟩)) = .pointer (some ⟨q, 0, none⟩) := hq.2
                have e4 : w'.heap.size = q := by injection e' with e1; injection e1 with e1; injection e1
                exact .inr (by omega)
        · -- 11: slot 9 := Op.assign t62
          refine obM_yes fun f bb w' hj hs hd hp => ?_
          simp [PreO, factO, valOf, Region.binds] at hp hd
          refine ⟨by simp [Gd, valOf, hp], ?_⟩
          refine mildM_val (.bool true) (w' := w') ?_ rfl (by simpa using hj)
          simp [execOp, evalF, hp, go_sem]
      · intro f bb wd hall hj hp
        simp only [PostO] at hp
        obtain ⟨e0, e1, e2, e3, e4, e5, _, _, e8, _, _, e11, _⟩ := hp
        simp only [fills, List.foldl_cons, List.foldl_nil, Act.put, List.setIfInBounds_toArray, List.set_cons_zero, List.set_cons_succ, e0, e1, e2, e3, e4, e5, e8, e11]
        clear e0 e1 e2 e3 e4 e5 e8 e11
        simp only [List.drop_succ_cons, List.drop_zero]
        obtain ⟨_, _, j3, j4, j5, j6⟩ := hj
        obtain ⟨v', O', e6, p1, p2, p3, p4⟩ := j3 (hall 6 (by decide))
        have hall10 := hall 10 (by decide)
        obtain ⟨q10, e10, hq10, bx10⟩ := j4 hall10
        have e9 := (j6 (hall 9 (by decide))).2
        have e7 := (j5 (hall 7 (by decide))).2
        rw [e7, e6] at e9
        have e9' : v' = f 63 := by injection e9 with e9; simp at e9; exact e9
        have e10' : f 10 = .pointer (some ⟨q10, 0, none⟩) := e10
        rw [← e9', e10']
        have p2' : ∀ q, O' q → q < wd.heap.size ∧ q ≠ q10 ∧ q ≠ gb := fun q hq => ⟨(p2 q hq).1, fun e => (p2 q hq).2.2 hall10 (by rw [e]; exact e10), fun e => by
          rcases (p2 q hq).2.1 with h | h
          · exact (HO.out q h).2 e
          · omega⟩
        have p3' : DK w.heap.size (fun q => q = gb ∨ O' q ∨ q = q10) wd g (actD d a) := p3.apart (fun q hq => .inl (by
          rcases hq with hq | hq | hq
          · exact .inl (.inl hq)
          · exact .inr (.inl hq)
          · exact .inr (.inr ⟨hall10, by rw [hq]; exact e10⟩)))
        have xrd := p4.box (.inl rfl) Xr.out
        have hbwd := Hbw.out.trans (p4.below_ hBr)
        have hzd := p4.size
        have hal := Hal.out
        have har := Har.out
        generalize hm' : actR m a = m' at *
        generalize hd' : actD d a = d' at *
        have Hrel' := Lib.hid Harel.out
        clear e6 e7 e9 e9' e10 e10' j3 j4 j5 j6 p2 p3 p4 hall hm' hd' Harel Hal Har
        obtain ⟨u7, u8, rfl, r7, r8, g7, g8⟩ := p1
        obtain ⟨A7, c7, rfl, _⟩ := r7.form
        obtain ⟨A8, c8, rfl, hw8, hw8'⟩ := r8.form
        unfold maxLen at hw8'
        have ck1 : Chg (fun q => q = q10) wd (wd.setRow q10 (encD m' (.slice A7 m'.made.length c7) (.slice A8 m'.wait.length c8)).toArray) := Chg.ofGrown (gsetRow' wd q10 _) (fun k e => by injection e with e; exact e.symm)
        have hbl10 := bx10.lt
        have x10 := bx10.setRow (encD m' (.slice A7 m'.made.length c7) (.slice A8 m'.wait.length c8))
        have x11 := xrd.chg ck1 (by omega)
        have dk1 := p3'.grown (gsetRow' wd q10 (encD m' (.slice A7 m'.made.length c7) (.slice A8 m'.wait.length c8)).toArray) (fun q e => .inr (.inr (.inr (by injection e with e; exact e.symm))))
        have r71 := r7.chg ck1 (fun q hq => ⟨(p2' q hq).1, (p2' q hq).2.1⟩)
        have r81 := r8.chg ck1 (fun q hq => ⟨(p2' q hq).1, (p2' q hq).2.1⟩)
        have hb1x := hbwd.trans (ck1.below (by omega) (fun q hq => by omega))
        have Bx10 := Lib.hid bx10
        have X10c := Lib.hid x10.cells
        have Hz := ck1.size
        clear bx10 x10 xrd p3' r7 r8 ck1 hbwd
        go_wp2_with (first
          | (refine wpList_store_box rfl 42 42 (.tmp 10) (.tmp 63) rfl q10 zeroDc (encD m' (.slice A7 m'.made.length c7) (.slice A8 m'.wait.length c8)) rfl rfl Bx10.out rfl (encD_one _ _ _ _ _ _ _) (by kernel_rfl) ?_; intro _)
          | (refine wpList_load_agg rfl 42 (.tmp 10) rfl ⟨q10, 0, none⟩ rfl (encD m' (.slice A7 m'.made.length c7) (.slice A8 m'.wait.length c8)) X10c.out Try.underlying42 rfl (by kernel_rfl) ?_)
          | (refine wpList_store_box rfl 42 42 (.tmp 7) (.tmp 64) rfl gb (encD m (.slice A5 m.made.length c5) (.slice A6 m.wait.length c6)) (encD m' (.slice A7 m'.made.length c7) (.slice A8 m'.wait.length c8)) rfl rfl x11 rfl (encD_one _ _ _ _ _ _ _) (by kernel_rfl) ?_; intro xE))
        obtain ⟨wE, hwE⟩ : ∃ wE, wE = (wd.setRow q10 (encD m' (.slice A7 m'.made.length c7) (.slice A8 m'.wait.length c8)).toArray).setRow gb (encD m' (.slice A7 m'.made.length c7) (.slice A8 m'.wait.length c8)).toArray := ⟨_, rfl⟩
        have ck2 : Chg (fun q => q = gb) (wd.setRow q10 (encD m' (.slice A7 m'.made.length c7) (.slice A8 m'.wait.length c8)).toArray) wE := by rw [hwE]; exact Chg.ofGrown (gsetRow' _ gb _) (fun k e => by injection e with e; exact e.symm)
        have dk2 : DK w.heap.size (fun q => q = gb ∨ O' q) wE g d' := by
          rw [hwE]
          exact (dk1.grown (gsetRow' _ gb (encD m' (.slice A7 m'.made.length c7) (.slice A8 m'.wait.length c8)).toArray) (fun q e => .inr (.inl (by injection e with e; exact e.symm)))).apart (fun q hq => .inl (by
            rcases hq with hq | hq
            · exact .inl hq
            · exact .inr (.inl hq)))
        rw [← hwE] at xE ⊢
        have r72 := r71.chg ck2 (fun q hq => ⟨by have := (p2' q hq).1; omega, (p2' q hq).2.2⟩)
        have r82 := r81.chg ck2 (fun q hq => ⟨by have := (p2' q hq).1; omega, (p2' q hq).2.2⟩)
        have hbE := hb1x.trans (ck2.below (by omega) (fun q hq => by omega))
        have HzE := ck2.size
        have VE := Lib.hid (RDV.mk' (m := m') r72 r82 g7 g8)
        have DkE := Lib.hid dk2
        have XE := Lib.hid xE
        have HbE := Lib.hid hbE
        have hoff := Hrel'.out.off
        have hwl : m'.wait.length = d'.wt.length := by rw [Hrel'.out.wait, List.length_map]
        have hcl : d'.bl.length = cn := by rw [hal.1]; exact Hbl.out
        have Hoff := Lib.hid hoff
        have Hwl := Lib.hid hwl
        have Hcl' := Lib.hid hcl
        have Hal := Lib.hid hal
        have Har := Lib.hid har
        have P2 := Lib.hid p2'
        clear hwE ck2 dk1 dk2 r71 r81 r72 r82 hb1x hbE xE x11 hoff hwl hcl hal har p2' Bx10 X10c
        simp only [Act.put]
        refine wp_region_typed [some 65, some 66, some 67, some 68, some 69, some 70, some 71, some 72, some 73, some 74, some 75, some 76, some 77, some 78, some 79, some 80, some 81, some 82, some 83, some 84, some 85, some 86, some 87] [65, 66, 67, 68, 69, 70, 71, 72, 73, 74, 75, 76, 77, 78, 79, 80, 81, 82, 83, 84, 85, 86, 87]
          [Ph.is (.bool true),
            Ph.is (.bool false),
            Ph.is (.bool false),
            Ph.is (.pointer (some ⟨g, 0, none⟩)),
            Ph.is (.bool (!d'.off)),
            Ph.is (.pointer (some ⟨gb, 1, none⟩)),
            Ph.is (.bool d'.off),
            Ph.is (.bool false),
            Ph.is (.bool false),
            Ph.is (.bool false),
            Ph.is (.pointer (some ⟨g, 0, none⟩)),
            Ph.is (.int .i64 (d'.wt.length : Int)),
            Ph.is (.pointer (some ⟨gb, 4, none⟩)),
            Ph.is (.slice A8 d'.wt.length c8),
            Ph.is (.int .i64 (d'.wt.length : Int)),
            Ph.is (.bool false),
            Ph.is (.bool false),
            Ph.is (.bool false),
            Ph.is (.pointer (some ⟨g, 0, none⟩)),
            Ph.is (.int .i64 (cn : Int)),
            Ph.is (.int .i64 (cn : Int)),
            Ph.is (.bool false),
            Ph.is (.bool false)] rfl rfl (by kernel_rfl) (by kernel_rfl) ?_ ?_
        · refine ⟨?_, ?_, ?_, ?_, ?_, ?_, ?_, ?_, ?_, ?_, ?_, ?_, ?_, ?_, ?_, ?_, ?_, ?_, ?_, ?_, ?_, ?_, ?_, trivial⟩
          · -- 0: slot 65 := Op.move t9
            refine ob_yes fun f w' hb hp => ?_
            simp [PreOf, factOf, valOf, Ph.is, Ph.by_, Ph.any, Region.binds] at hp
            refine ⟨by simp [Gd, valOf, hp], ?_⟩
            refine mild_val (.bool true) ?_ rfl
            simp [execOp, evalF, hp]
          · -- 1: slot 66 := Op.unOp UnOp.not 4 t65
            refine ob_yes fun f w' hb hp => ?_
            simp [PreOf, factOf, valOf, Ph.is, Ph.by_, Ph.any, Region.binds] at hp
            refine ⟨by simp [Gd, valOf, hp], ?_⟩
            refine mild_val (.bool false) ?_ rfl
            simp [execOp, evalF, hp, go_sem]
          · -- 2: slot 67 := Op.move t66
            refine ob_yes fun f w' hb hp => ?_
            simp [PreOf, factOf, valOf, Ph.is, Ph.by_, Ph.any, Region.binds] at hp
            refine ⟨by simp [Gd, valOf, hp], ?_⟩
            refine mild_val (.bool false) ?_ rfl
            simp [execOp, evalF, hp]
          · -- 3: slot 68 := Op.move t5
            refine ob_yes fun f w' hb hp => ?_
            simp [PreOf, factOf, valOf, Ph.is, Ph.by_, Ph.any, Region.binds] at hp
            refine ⟨by simp [Gd, valOf, hp], ?_⟩
            refine mild_val (.pointer (some ⟨g, 0, none⟩)) ?_ rfl
            simp [execOp, evalF, hp]
          · -- 4: slot 69 := Op.call   value (Operand.func 18), args := #[t68], argTypes := #[23]  
            refine ob_yes fun f w' hb hp => ?_
            simp [PreOf, factOf, valOf, Ph.is, Ph.by_, Ph.any, Region.binds] at hp
            refine ⟨by simp [Gd, valOf, hp], ?_⟩
            refine mild_call 18 _ _ Try.f18 Try.func18 (by kernel_rfl) (by kernel_rfl) rfl ?_
            simp [evalF, hp, Ph.is, Ph.by_, Ph.any]
            refine (don_dk (DkE.out.below_ hb)).mono fun ev w2 h => ?_
            obtain ⟨rfl, rfl⟩ := h
            first | exact ⟨_, rfl, Below.refl _ _, rfl⟩ | exact ⟨rfl, Below.refl _ _⟩ | exact Below.refl _ _ | simpa using Below.refl _ _
          · -- 5: slot 70 := Op.fieldAddr 42 t7 1
            refine ob_yes fun f w' hb hp => ?_
            simp [PreOf, factOf, valOf, Ph.is, Ph.by_, Ph.any, Region.binds] at hp
            refine ⟨by simp [Gd, valOf, hp], ?_⟩
            refine mild_val (.pointer (some ⟨gb, 1, none⟩)) ?_ rfl
            simp [execOp, evalF, hp, go_sem]
          · -- 6: slot 71 := Op.load 4 t70
            refine ob_yes fun f w' hb hp => ?_
            simp [PreOf, factOf, valOf, Ph.is, Ph.by_, Ph.any, Region.binds] at hp
            refine ⟨by simp [Gd, valOf, hp], ?_⟩
            refine mild_val (.bool d'.off) ?_ rfl
            have hc := (XE.out.blw hb).cell 1 _ rfl
            rw [Hoff.out] at hc
            simp [execOp, evalF, hp, hc, go_sem]
          · -- 7: slot 72 := Op.binOp BinOp.eql 4 t69 t71 4
            refine ob_yes fun f w' hb hp => ?_
            simp [PreOf, factOf, valOf, Ph.is, Ph.by_, Ph.any, Region.binds] at hp
            refine ⟨by simp [Gd, valOf, hp], ?_⟩
            refine mild_val (.bool false) ?_ rfl
            simp [execOp, evalF, hp, go_sem]
          · -- 8: slot 73 := Op.pick t67 (const (Value.bool true)) t72
            refine ob_yes fun f w' hb hp => ?_
            simp [PreOf, factOf, valOf, Ph.is, Ph.by_, Ph.any, Region.binds] at hp
            refine ⟨by simp [Gd, valOf, hp], ?_⟩
            refine mild_val (.bool false) ?_ rfl
            simp [execOp, evalF, hp, go_sem]
          · -- 9: slot 74 := Op.move t73
            refine ob_yes fun f w' hb hp => ?_
            simp [PreOf, factOf, valOf, Ph.is, Ph.by_, Ph.any, Region.binds] at hp
            refine ⟨by simp [Gd, valOf, hp], ?_⟩
            refine mild_val (.bool false) ?_ rfl
            simp [execOp, evalF, hp]
          · -- 10: slot 75 := Op.move t5
            refine ob_yes fun f w' hb hp => ?_
            simp [PreOf, factOf, valOf, Ph.is, Ph.by_, Ph.any, Region.binds] at hp
            refine ⟨by simp [Gd, valOf, hp], ?_⟩
            refine mild_val (.pointer (some ⟨g, 0, none⟩)) ?_ rfl
            simp [execOp, evalF, hp]
          · -- 11: slot 76 := Op.call   value (Operand.func 21), args := #[t75], argTypes := #[23]  
            refine ob_yes fun f w' hb hp => ?_
            simp [PreOf, factOf, valOf, Ph.is, Ph.by_, Ph.any, Region.binds] at hp
            refine ⟨by simp [Gd, valOf, hp], ?_⟩
            refine mild_call 21 _ _ Try.f21 Try.func21 (by kernel_rfl) (by kernel_rfl) rfl ?_
            simp [evalF, hp, Ph.is, Ph.by_, Ph.any]
            refine (dwaiting_dk (DkE.out.below_ hb)).mono fun ev w2 h => ?_
            obtain ⟨rfl, rfl⟩ := h
            first | exact ⟨_, rfl, Below.refl _ _, rfl⟩ | exact ⟨rfl, Below.refl _ _⟩ | exact Below.refl _ _ | simpa using Below.refl _ _
          · -- 12: slot 77 := Op.fieldAddr 42 t7 4
            refine ob_yes fun f w' hb hp => ?_
            simp [PreOf, factOf, valOf, Ph.is, Ph.by_, Ph.any, Region.binds] at hp
            refine ⟨by simp [Gd, valOf, hp], ?_⟩
            refine mild_val (.pointer (some ⟨gb, 4, none⟩)) ?_ rfl
            simp [execOp, evalF, hp, go_sem]
          · -- 13: slot 78 := Op.load 40 t77
            refine ob_yes fun f w' hb hp => ?_
            simp [PreOf, factOf, valOf, Ph.is, Ph.by_, Ph.any, Region.binds] at hp
            refine ⟨by simp [Gd, valOf, hp], ?_⟩
            refine mild_val (.slice A8 d'.wt.length c8) ?_ rfl
            have hc := (XE.out.blw hb).cell 4 _ rfl
            rw [Hwl.out] at hc
            simp [execOp, evalF, hp, hc, go_sem]
          · -- 14: slot 79 := Op.call   builtin len, args := #[t78], argTypes := #[40]  
            refine ob_yes fun f w' hb hp => ?_
            simp [PreOf, factOf, valOf, Ph.is, Ph.by_, Ph.any, Region.binds] at hp
            refine ⟨by simp [Gd, valOf, hp], ?_⟩
            refine mild_val (.int .i64 (d'.wt.length : Int)) ?_ rfl
            simp [execOp, evalF, hp, go_sem]
          · -- 15: slot 80 := Op.binOp BinOp.neq 3 t76 t79 3
            refine ob_yes fun f w' hb hp => ?_
            simp [PreOf, factOf, valOf, Ph.is, Ph.by_, Ph.any, Region.binds] at hp
            refine ⟨by simp [Gd, valOf, hp], ?_⟩
            refine mild_val (.bool false) ?_ rfl
            simp [execOp, evalF, hp, go_sem]
          · -- 16: slot 81 := Op.pick t74 (const (Value.bool true)) t80
            refine ob_yes fun f w' hb hp => ?_
            simp [PreOf, factOf, valOf, Ph.is, Ph.by_, Ph.any, Region.binds] at hp
            refine ⟨by simp [Gd, valOf, hp], ?_⟩
            refine mild_val (.bool false) ?_ rfl
            simp [execOp, evalF, hp, go_sem]
          · -- 17: slot 82 := Op.move t81
            refine ob_yes fun f w' hb hp => ?_
            simp [PreOf, factOf, valOf, Ph.is, Ph.by_, Ph.any, Region.binds] at hp
            refine ⟨by simp [Gd, valOf, hp], ?_⟩
            refine mild_val (.bool false) ?_ rfl
            simp [execOp, evalF, hp]
          · -- 18: slot 83 := Op.move t5
            refine ob_yes fun f w' hb hp => ?_
            simp [PreOf, factOf, valOf, Ph.is, Ph.by_, Ph.any, Region.binds] at hp
            refine ⟨by simp [Gd, valOf, hp], ?_⟩
            refine mild_val (.pointer (some ⟨g, 0, none⟩)) ?_ rfl
            simp [execOp, evalF, hp]
          · -- 19: slot 84 := Op.call   value (Operand.func 24), args := #[t83], argTypes := #[23]  
            refine ob_yes fun f w' hb hp => ?_
            simp [PreOf, factOf, valOf, Ph.is, Ph.by_, Ph.any, Region.binds] at hp
            refine ⟨by simp [Gd, valOf, hp], ?_⟩
            refine mild_call 24 _ _ Try.f24 Try.func24 (by kernel_rfl) (by kernel_rfl) rfl ?_
            simp [evalF, hp, Ph.is, Ph.by_, Ph.any]
            have hct := dcount_dk (DkE.out.below_ hb)
            rw [Hcl'.out] at hct
            refine (hct).mono fun ev w2 h => ?_
            obtain ⟨rfl, rfl⟩ := h
            first | exact ⟨_, rfl, Below.refl _ _, rfl⟩ | exact ⟨rfl, Below.refl _ _⟩ | exact Below.refl _ _ | simpa using Below.refl _ _
          · -- 20: slot 85 := Op.move t0
            refine ob_yes fun f w' hb hp => ?_
            simp [PreOf, factOf, valOf, Ph.is, Ph.by_, Ph.any, Region.binds] at hp
            refine ⟨by simp [Gd, valOf, hp], ?_⟩
            refine mild_val (.int .i64 (cn : Int)) ?_ rfl
            simp [execOp, evalF, hp]
          · -- 21: slot 86 := Op.binOp BinOp.neq 3 t84 t85 3
            refine ob_yes fun f w' hb hp => ?_
            simp [PreOf, factOf, valOf, Ph.is, Ph.by_, Ph.any, Region.binds] at hp
            refine ⟨by simp [Gd, valOf, hp], ?_⟩
            refine mild_val (.bool false) ?_ rfl
            simp [execOp, evalF, hp, go_sem]
          · -- 22: slot 87 := Op.pick t82 (const (Value.bool true)) t86
            refine ob_yes fun f w' hb hp => ?_
            simp [PreOf, factOf, valOf, Ph.is, Ph.by_, Ph.any, Region.binds] at hp
            refine ⟨by simp [Gd, valOf, hp], ?_⟩
            refine mild_val (.bool false) ?_ rfl
            simp [execOp, evalF, hp, go_sem]
        · intro f wF hbF hp
          simp only [PostOf, Ph.is, Ph.by_, Ph.any] at hp
          obtain ⟨h0, h1, h2, h3, h4, h5, h6, h7, h8, h9, h10, h11, h12, h13, h14, h15, h16, h17, h18, h19, h20, h21, h22, _⟩ := hp
          simp only [fills, List.foldl_cons, List.foldl_nil, Act.put, List.setIfInBounds_toArray, List.set_cons_zero, List.set_cons_succ, h0, h1, h2, h3, h4, h5, h6, h7, h8, h9, h10, h11, h12, h13, h14, h15, h16, h17, h18, h19, h20, h21, h22]
          clear h0 h1 h2 h3 h4 h5 h6 h7 h8 h9 h10 h11 h12 h13 h14 h15 h16 h17 h18 h19 h20 h21 h22
          have hzF := hbF.size
          have VF := Lib.hid ((VE.out.below hbF (fun q hq => by have := (P2.out q hq).1; omega)))
          have XF := Lib.hid (XE.out.blw hbF)
          have DkF := Lib.hid (DkE.out.below_ hbF)
          have HbF := Lib.hid (HbE.out.trans (hbF.mono (by have := HbE.out.size; omega)))
          clear hbF
          go_wp2_with fail
          go_roundw
          case rel => exact ⟨k + 1, d', m', O', A7, A8, c7, c8, by omega, by go_num, XF.out, VF.out, fun q hq => ⟨by have := (P2.out q hq).1; omega, (P2.out q hq).2.2⟩, DkF.out, Hrel'.out, Hcl'.out, by have := Hal.out.2; omega, by have := Har.out; omega, HbF.out, by omega⟩
          case measure => simp [intOf]; omega
    · obtain rfl : k = l.length := by omega
      clear hla
      obtain ⟨ws, hws⟩ : ∃ ws, ws = wr := ⟨_, rfl⟩
      have hOs : ∀ q, O q → q < wr.heap.size := fun q hq => (HO.out q hq).1
      have HOs := Lib.hid hOs
      clear hOs
      subst hws
      go_wp2_with fail
      go_loopw [11, 12, 13, 14, 15] (fun iv _ _ _ _ wr => ∃ j : Nat, j ≤ cn + 2 ∧ iv = .int .i64 ((j : Int) - 1) ∧ Below ws.heap.size ws wr ∧ DK w.heap.size (fun q => q = gb ∨ O q) wr g d) (fun iv _ _ _ _ _ => cn + 2 - (intOf iv + 1).toNat)
      case atStart => exact ⟨0, by omega, rfl, Below.refl _ _, Hdk.out⟩
      case round =>
        obtain ⟨j, hj, rfl, hbj, hdj⟩ := hrel
        have hzj := hbj.size
        have Hbj := Lib.hid hbj
        have Hdj := Lib.hid hdj
        clear hbj hdj
        by_cases hlj : j < cn + 2
        · have hle : decide (((j : Int) - 1) ≤ (cn : Int)) = true := decide_eq_true (by omega)
          have hle' : (j : Int) ≤ (cn : Int) + 1 := by omega
          have hwj : IntKind.i64.wrap ((j : Int) - 1 + 1) = ((j + 1 : Nat) : Int) - 1 := by rw [wrap_i64]; omega
          have hbe : (j : Int) - 1 + 1 = (j : Int) := by omega
          have hrl := rel_read Hrel.out ((j : Int) - 1)
          have hre := rel_mayE Hrel.out ((j : Int) - 1)
          have Hrl := Lib.hid hrl
          have Hre := Lib.hid hre
          have Hwj := Lib.hid hwj
          clear hrl hre hwj hbe
          generalize hjj : (j : Int) - 1 = ji at *
          have Hjj := Lib.hid hjj
          have hj1 : -1 ≤ ji := by omega
          have hj2 : ji ≤ 41 := by omega
          clear hjj
          go_wp2_with fail
          refine (dread_dk (i := ji) Hdj.out (by omega)).mono ?_
          rintro _ w6 ⟨vb, rfl, hf6, hd6, hb6⟩
          have hz6 := hb6.size
          obtain ⟨A9, c9, rfl, _⟩ := hf6.form
          have hb56 := Hbj.out.trans (hb6.mono hzj)
          have Xc6 := Lib.hid (Xr.out.blw hb56).cells
          have hvm := Vr.out.below hb56 HOs.out
          have hmc := rread w6 O _ m ji (fun q hq => by have := HOs.out q hq; omega) (by omega) (by omega) hvm
          rw [Hrl.out, Hre.out] at hmc
          have Hmc := Lib.hid hmc
          have F6 := Lib.hid hf6
          have Hd6 := Lib.hid hd6
          have Hb56 := Lib.hid hb56
          clear hmc hf6 hd6 hb6 hb56 hvm
          go_wp2_with (refine wpList_load_agg rfl 42 (.tmp 7) rfl ⟨gb, 0, none⟩ rfl (encD m (.slice A5 m.made.length c5) (.slice A6 m.wait.length c6)) Xc6.out Try.underlying42 rfl (by kernel_rfl) ?_)
          refine Hmc.out.mono ?_
          rintro _ w7 ⟨rfl, hb7⟩
          have hz7 := hb7.size
          have hcv := conv8 (F6.out.below_ hb7).by_
          have Hb7 := Lib.hid (Hb56.out.trans (hb7.mono (by omega)))
          have Hd7 := Lib.hid (Hd6.out.below_ hb7)
          clear hb7
          go_wp2_with fail
          go_roundw
          case rel => exact ⟨j + 1, by omega, by rw [show (((j + 1 : Nat)) : Int) - 1 = ji + 1 by (have := Hjj.out; omega)], Hb7.out, Hd7.out⟩
          case measure => have := Hjj.out; simp [intOf]; omega
        · obtain rfl : j = cn + 2 := by omega
          have hle : decide ((((cn + 2 : Nat) : Int) - 1) ≤ (cn : Int)) = false := decide_eq_false (by omega)
          have hle' : ¬ (((cn + 2 : Nat) : Int) - 1 ≤ (cn : Int)) := by omega
          generalize hjj : ((cn + 2 : Nat) : Int) - 1 = ji at *
          clear hjj hlj
          go_wp2_with fail
          refine (awake06_any _).mono ?_
          rintro e wa ⟨rfl, hba⟩
          go_wp2_with fail
          go_ret
          exact ⟨rfl, (Hbw.out.trans (Hbj.out.mono (by omega))).trans (hba.mono (by omega))⟩

set_option maxRecDepth 100000 in
theorem lifted (os : Os) (started : os.Started) (H : Type) (enc : TypeId × Value → H) :
    ReturnsInHanded {} Try.checked os 5 .any (Rows.diskPlaysSpec.pre6 enc Try.prog Try.f5 Rows.diskPlaysRow.domain false) (Rows.diskPlaysSpec.post enc Try.prog Try.f5 false true false false) := by
  refine returnsInHanded_of_change (C := Try.checked) own started (by kernel_rfl) Try.func5
    (ChangeSpec.witness6 (enc := enc) (C := Try.checked) false ⟨#[], #[.int .i64 0, .slice none 0 0], []⟩ 8 (by kernel_rfl) (by kernel_rfl) (by kernel_rfl) (by kernel_rfl)) ?_
  intro W base args ds gs before hval0 hW hcnd _
  have hval : ∀ (j : Nat) t v, Try.f5.params[j]? = some t → args[j]? = some v → Value.okWide Try.prog W .any base t v := hval0
  have hW' := hW
  obtain ⟨p, q, hA0, hV, rfl, hfz, hnd⟩ := hW
  have hA : DataW.TrodAll enc Try.prog W 0 (fun _ => true) true Try.f5.params.toList args.toList ds p := hA0
  rw [Try.params5] at hA hval
  obtain ⟨v0, vs0, d0, ds0, p0, q0, hargs, rfl, rfl, h0, r0⟩ := trodAll_cons hA
  obtain ⟨v1, vs1, d1, ds1, p1, q1, rfl, rfl, rfl, h1, r1⟩ := trodAll_cons r0
  obtain ⟨rfl, rfl, rfl⟩ := trodAll_nil r1
  obtain rfl : args = #[v0, v1] := by cases args; simp_all
  obtain ⟨rfl, rfl⟩ := trodVars_none hV
  have k0 := h0
  have lt0 : ∀ x ∈ p0, x.block < W.heap.size := by obtain ⟨m, hm⟩ := k0; exact DataW.trod_lt m _ _ _ hm
  have i0 := InC.of h0
  obtain ⟨a0, rfl⟩ := okWide_int Try.underlying3 (hval 0 3 v0 rfl rfl)
  have j0 : InC W 3 [_] := i0
  have k1 := h1
  have lt1 : ∀ x ∈ p1, x.block < W.heap.size := by obtain ⟨m, hm⟩ := k1; exact DataW.trod_lt m _ _ _ hm
  have i1 := InC.of h1
  obtain ⟨a1, len1, cap1, rfl⟩ := okWide_slice Try.underlying39 (hval 1 39 v1 rfl rfl)
  have j1 : InC W 39 [_] := i1
  clear hA0 hval0
  refine (walk _ _ W j0 j1).mono fun e W' ⟨he, bel⟩ => ?_
  subst he
  exact ⟨_, rfl, _, _, _, [], _, [], hW', trodAll_mk1 (shut_bool Try.underlying4 _), (trodAll_cons_mk (Below.trod laidOut (by kernel_rfl) (of_decide_eq_true (by kernel_rfl)) k0 bel lt0) (trodAll_cons_mk (Below.trod laidOut (by kernel_rfl) (of_decide_eq_true (by kernel_rfl)) k1 bel lt1) trodAll_mk0)), rfl, bel.frame _, fun h => by cases h⟩

theorem over : Rows.diskPlaysRow.holds Try.pinned (OpenSpec.ofChange Rows.diskPlaysSpec) :=
  OpenClaim.holds_of_wide 5 Try.f5 rfl rfl rfl rfl rfl rfl rfl ⟨rfl, rfl, rfl, rfl, rfl⟩ rfl rfl rfl rfl rfl (by kernel_rfl) Try.func5 (by kernel_rfl)
    (of_decide_eq_true (by kernel_rfl)) (by unfold Func.isWrapper; first | (rw [if_pos (by decide +kernel)]; kernel_rfl) | (rw [if_neg (by decide +kernel)]; exact ⟨rfl, rfl⟩))
    (fun os started H enc _ => lifted os started H enc)

theorem proved : Rows.DiskPlaysSaid := over
#print axioms proved
end Go.Proofs.Ytpoicbhbkabllaa.diskPlays
