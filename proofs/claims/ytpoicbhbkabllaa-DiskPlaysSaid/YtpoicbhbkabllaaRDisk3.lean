/- The document's disks: New, deed -/
import Derived.Test.YtpoicbhbkabllaaRDisk2
namespace Go.Proofs.Ytpoicbhbkabllaa
set_option linter.unusedSimpArgs false
set_option linter.unusedVariables false
open Go.RowKit

/-- results: a struct that lies in memory, then a slot -/
theorem results_ct {fn : Func} {p q : Tmp} {T : TypeId} (h : fn.results = #[.cell p T, .tmp q]) (tmps : Array Value) (w : World) (g : Nat) (cs : List Value)
    (hp : tmps.getD p undef = .pointer (some ⟨g, 0, none⟩)) (hs : ∀ (j : Nat) (v : Value), cs[j]? = some v → w.cell? ((⟨g, 0, none⟩ : Addr).add j) = some v) {d : TypeDesc} (hu : Try.prog.underlying T = some d)
    (hd : (match d with | .struct _ | .array _ _ => true | _ => false) = true) (hi : (Try.prog.info? T).map (·.size) = some cs.length) :
    (results fn tmps).run Try.prog w = .ok (.tuple #[.agg cs.toArray, tmps.getD q undef]) w := by
  have hp' : tmps[p]?.getD undef = .pointer (some ⟨g, 0, none⟩) := by simpa using hp
  have hr := run_loadVar_cells w ⟨g, 0, none⟩ T cs hs hu hd hi
  simp [results, h, hp', asAddr, hr]
/-- how a disk of the document's lies in cells -/
abbrev encD (m : RD) (v1 v2 : Value) : List Value := [.int .i64 m.count, .bool m.off, .int .i64 m.fuse, v1, v2]
theorem RDV.mk' {w : World} {O : Nat → Prop} {m : RD} {v1 v2 : Value} (h1 : ByR w O v1 m.made) (h2 : ByR w O v2 m.wait) (h3 : -9223372036854775808 ≤ m.count ∧ m.count ≤ 9223372036854775807) (h4 : -9223372036854775808 ≤ m.fuse ∧ m.fuse ≤ 9223372036854775807) : RDV w O (.agg (encD m v1 v2).toArray) m := ⟨v1, v2, rfl, h1, h2, h3, h4⟩
set_option maxRecDepth 100000 in
set_option maxHeartbeats 1600000 in
theorem rnewD (w : World) (n : Int) (hn : -9223372036854775808 ≤ n ∧ n ≤ 9223372036854775807) :
    Calls Try.prog 22 #[.int .i64 n] w fun e w' => ∃ v, e = .returned v ∧ RDV w' (fun _ => False) v (newR n) ∧ Below w.heap.size w w' := by
  have Hn := Lib.hid hn
  clear hn
  go_enter Try.func22, Try.ntmps22
  go_wp2_with fail
  have hbx := BoxAt.new_ 42 w (encD (newR n) (.slice none 0 0) (.slice none 0 0))
  refine bodyPost_ret (results_c rfl _ _ w.heap.size (encD (newR n) (.slice none 0 0) (.slice none 0 0)) rfl (fun j v hj => (hbx.cells j v hj : _)) Try.underlying42 rfl (by kernel_rfl)) rfl ?_
  exact ⟨_, rfl, RDV.mk' ByR.nil_ ByR.nil_ Hn.out ⟨(by decide : (-9223372036854775808 : Int) ≤ -1), (by decide : (-1 : Int) ≤ 9223372036854775807)⟩, balloc w _⟩
set_option maxRecDepth 100000 in
set_option maxHeartbeats 1600000 in
theorem rdeed (w : World) (O : Nat → Prop) (v : Value) (m : RD) (hO : ∀ k, O k → k < w.heap.size) (h : RDV w O v m) :
    Calls Try.prog 71 #[v] w fun e w' => ∃ v', e = .returned (.tuple #[v', .int .i64 (deedRE m)]) ∧ RDV w' O v' (deedRD m) ∧ Below w.heap.size w w' := by
  obtain ⟨v1, v2, rfl, h1, h2, h3, h4⟩ := h
  obtain ⟨cn, of, fu, md, wt⟩ := m
  simp only at h1 h2 h3 h4
  obtain ⟨A1, c1, rfl, _⟩ := h1.form
  obtain ⟨A2, c2, rfl, _⟩ := h2.form
  have hbb : ∀ x y : Obj, Below w.heap.size w ((w.alloc x).alloc y) := fun x y => bstep (balloc w x) (balloc _ y)
  have H1 := Lib.hid (fun x y => h1.below (hbb x y) hO)
  have H2 := Lib.hid (fun x y => h2.below (hbb x y) hO)
  have Hb := Lib.hid hbb
  have H3 := Lib.hid h3
  have hfr := h4
  have H4 := Lib.hid h4
  clear h1 h2 h3 h4 hbb hO
  by_cases hf : fu = 0
  · have hd : (fu == 0) = true := by simp [hf]
    have e1 : deedRE ⟨cn, of, fu, md, wt⟩ = 6 := by unfold deedRE; rw [if_pos hf]
    have e2 : deedRD ⟨cn, of, fu, md, wt⟩ = ⟨cn, true, fu, md, wt⟩ := by unfold deedRD; rw [if_pos hf]
    rw [e1, e2]
    clear hf e1 e2 hfr
    go_enter Try.func71, Try.ntmps71
    go_wp2_with fail
    have hbx := BoxAt.new_ 42 (w.alloc (.cells (encD ⟨cn, true, fu, md, wt⟩ (.slice A1 md.length c1) (.slice A2 wt.length c2)).toArray 42)) (encD ⟨cn, true, fu, md, wt⟩ (.slice A1 md.length c1) (.slice A2 wt.length c2))
    rw [World.size_alloc] at hbx
    refine bodyPost_ret (results_ct rfl _ _ (w.heap.size + 1) (encD ⟨cn, true, fu, md, wt⟩ (.slice A1 md.length c1) (.slice A2 wt.length c2)) rfl (fun j v hj => (hbx.cells j v hj : _)) Try.underlying42 rfl (by kernel_rfl)) rfl ?_
    exact ⟨_, rfl, RDV.mk' (m := ⟨cn, true, fu, md, wt⟩) (H1.out _ _) (H2.out _ _) H3.out H4.out, Hb.out _ _⟩
  · have hd : (fu == 0) = false := beq_eq_false_iff_ne.2 hf
    by_cases hp : 0 < fu
    · have hd2 : decide (0 < fu) = true := decide_eq_true hp
      have hw : IntKind.i64.wrap (fu - 1) = fu - 1 := by rw [wrap_i64]; omega
      have e1 : deedRE ⟨cn, of, fu, md, wt⟩ = 0 := by unfold deedRE; rw [if_neg hf]
      have e2 : deedRD ⟨cn, of, fu, md, wt⟩ = ⟨cn, of, fu - 1, md, wt⟩ := by unfold deedRD; rw [if_neg hf, if_pos hp]
      have Hfr := Lib.hid (show -9223372036854775808 ≤ fu - 1 ∧ fu - 1 ≤ 9223372036854775807 by omega)
      rw [e1, e2]
      clear hf e1 e2 hfr hp
      go_enter Try.func71, Try.ntmps71
      go_wp2_with fail
      have hbx := BoxAt.new_ 42 (w.alloc (.cells (encD ⟨cn, of, fu - 1, md, wt⟩ (.slice A1 md.length c1) (.slice A2 wt.length c2)).toArray 42)) (encD ⟨cn, of, fu - 1, md, wt⟩ (.slice A1 md.length c1) (.slice A2 wt.length c2))
      rw [World.size_alloc] at hbx
      refine bodyPost_ret (results_ct rfl _ _ (w.heap.size + 1) (encD ⟨cn, of, fu - 1, md, wt⟩ (.slice A1 md.length c1) (.slice A2 wt.length c2)) rfl (fun j v hj => (hbx.cells j v hj : _)) Try.underlying42 rfl (by kernel_rfl)) rfl ?_
      exact ⟨_, rfl, RDV.mk' (m := ⟨cn, of, fu - 1, md, wt⟩) (H1.out _ _) (H2.out _ _) H3.out Hfr.out, Hb.out _ _⟩
    · have hd2 : decide (0 < fu) = false := decide_eq_false hp
      have e1 : deedRE ⟨cn, of, fu, md, wt⟩ = 0 := by unfold deedRE; rw [if_neg hf]
      have e2 : deedRD ⟨cn, of, fu, md, wt⟩ = ⟨cn, of, fu, md, wt⟩ := by unfold deedRD; rw [if_neg hf, if_neg hp]
      rw [e1, e2]
      clear hf e1 e2 hfr hp
      go_enter Try.func71, Try.ntmps71
      go_wp2_with fail
      have hbx := BoxAt.new_ 42 (w.alloc (.cells (encD ⟨cn, of, fu, md, wt⟩ (.slice A1 md.length c1) (.slice A2 wt.length c2)).toArray 42)) (encD ⟨cn, of, fu, md, wt⟩ (.slice A1 md.length c1) (.slice A2 wt.length c2))
      rw [World.size_alloc] at hbx
      refine bodyPost_ret (results_ct rfl _ _ (w.heap.size + 1) (encD ⟨cn, of, fu, md, wt⟩ (.slice A1 md.length c1) (.slice A2 wt.length c2)) rfl (fun j v hj => (hbx.cells j v hj : _)) Try.underlying42 rfl (by kernel_rfl)) rfl ?_
      exact ⟨_, rfl, RDV.mk' (m := ⟨cn, of, fu, md, wt⟩) (H1.out _ _) (H2.out _ _) H3.out H4.out, Hb.out _ _⟩
end Go.Proofs.Ytpoicbhbkabllaa
