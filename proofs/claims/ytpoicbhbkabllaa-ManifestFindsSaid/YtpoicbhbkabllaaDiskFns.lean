/- Disks: On, Count, there, may, deed, Fuse, Off, Waiting, New -/
import Derived.Test.YtpoicbhbkabllaaDiskPure
import Derived.Test.YtpoicbhbkabllaaMix
namespace Go.Proofs.Ytpoicbhbkabllaa
set_option linter.unusedSimpArgs false
set_option linter.unusedVariables false
open Go.RowKit

abbrev dptr (g : Nat) : Value := .pointer (some ⟨g, 0, none⟩)
set_option maxRecDepth 100000 in
set_option maxHeartbeats 1600000 in
theorem don_any (w : World) (S : Nat → Prop) (g : Nat) (d : DState) (h : DiskAt w S g d) :
    Calls Try.prog 18 #[.pointer (some ⟨g, 0, none⟩)] w fun e w' => e = .returned (.bool (!d.off)) ∧ w = w' := by
  obtain ⟨hb, vw, h1, h2, h3, h4, h5, h6⟩ := h.ex
  have hc := h1.cell 2 _ rfl
  clear h h1 h2 h3
  generalize d.off = b at *
  go_enter Try.func18, Try.ntmps18
  go_wp2_with fail
  go_ret
  exact ⟨rfl, rfl⟩
set_option maxRecDepth 100000 in
set_option maxHeartbeats 1600000 in
theorem dcount_any (w : World) (S : Nat → Prop) (g : Nat) (d : DState) (h : DiskAt w S g d) :
    Calls Try.prog 24 #[.pointer (some ⟨g, 0, none⟩)] w fun e w' => e = .returned (.int .i64 (d.bl.length : Int)) ∧ w = w' := by
  obtain ⟨hb, vw, h1, h2, h3, h4, h5, h6⟩ := h.ex
  have hc := h1.cell 0 _ rfl
  go_enter Try.func24, Try.ntmps24
  go_wp2_with fail
  go_ret
  exact ⟨rfl, rfl⟩
set_option maxRecDepth 100000 in
set_option maxHeartbeats 1600000 in
theorem dwaiting_any (w : World) (S : Nat → Prop) (g : Nat) (d : DState) (h : DiskAt w S g d) :
    Calls Try.prog 21 #[.pointer (some ⟨g, 0, none⟩)] w fun e w' => e = .returned (.int .i64 (d.wt.length : Int)) ∧ w = w' := by
  obtain ⟨hb, vw, h1, h2, h3, h4, h5, h6⟩ := h.ex
  obtain ⟨A, c, rfl, _, _, _⟩ := h3.form'
  have hc := h1.cell 1 _ rfl
  go_enter Try.func21, Try.ntmps21
  go_wp2_with fail
  go_ret
  exact ⟨rfl, rfl⟩
set_option maxRecDepth 100000 in
set_option maxHeartbeats 1600000 in
theorem dthere_any (w : World) (S : Nat → Prop) (g : Nat) (d : DState) (i : Int) (h : DiskAt w S g d) :
    Calls Try.prog 50 #[.pointer (some ⟨g, 0, none⟩), .int .i64 i] w fun e w' => e = .returned (.bool (decide (0 ≤ i) && decide (i < (d.bl.length : Int)))) ∧ w = w' := by
  have hc := dcount_any w S g d h
  have Hc := Lib.hid hc
  clear hc h
  by_cases hi : 0 ≤ i
  · have hd : decide (0 ≤ i) = true := decide_eq_true hi
    have Hd := Lib.hid hd
    clear hi
    go_enter Try.func50, Try.ntmps50
    go_wp2_with fail
    refine Hc.out.mono ?_
    rintro _ _ ⟨rfl, rfl⟩
    go_wp2_with fail
    go_ret
    rw [Hd.out]
    exact ⟨rfl, rfl⟩
  · have hd : decide (0 ≤ i) = false := decide_eq_false hi
    have Hd := Lib.hid hd
    clear hi
    go_enter Try.func50, Try.ntmps50
    go_wp2_with fail
    go_ret
    rw [Hd.out]
    exact ⟨rfl, rfl⟩
set_option maxRecDepth 100000 in
set_option maxHeartbeats 1600000 in
theorem dmay_any (w : World) (S : Nat → Prop) (g : Nat) (d : DState) (i : Int) (h : DiskAt w S g d) :
    Calls Try.prog 42 #[.pointer (some ⟨g, 0, none⟩), .int .i64 i] w fun e w' => e = .returned (.int .i64 (mayE d i)) ∧ w = w' := by
  have Ho := Lib.hid (don_any w S g d h)
  have ht := dthere_any w S g d i h
  clear h
  unfold mayE
  cases hof : d.off with
  | true =>
    rw [hof] at Ho
    clear ht
    go_enter Try.func42, Try.ntmps42
    go_wp2_with fail
    refine Ho.out.mono ?_
    rintro _ _ ⟨rfl, rfl⟩
    go_wp2_with fail
    go_ret
    exact ⟨rfl, rfl⟩
  | false =>
    rw [hof] at Ho
    by_cases hi : 0 ≤ i ∧ i < (d.bl.length : Int)
    · rw [decide_eq_true hi.1, decide_eq_true hi.2] at ht
      have Ht := Lib.hid ht
      rw [if_neg (by simp), if_pos hi]
      clear hi ht
      go_enter Try.func42, Try.ntmps42
      go_wp2_with fail
      refine Ho.out.mono ?_
      rintro _ _ ⟨rfl, rfl⟩
      go_wp2_with fail
      refine Ht.out.mono ?_
      rintro _ _ ⟨rfl, rfl⟩
      go_wp2_with fail
      go_ret
      exact ⟨rfl, rfl⟩
    · have e : (decide (0 ≤ i) && decide (i < (d.bl.length : Int))) = false := by simp only [Bool.and_eq_false_iff, decide_eq_false_iff_not]; omega
      rw [e] at ht
      have Ht := Lib.hid ht
      rw [if_neg (by simp), if_neg hi]
      clear hi ht e
      go_enter Try.func42, Try.ntmps42
      go_wp2_with fail
      refine Ho.out.mono ?_
      rintro _ _ ⟨rfl, rfl⟩
      go_wp2_with fail
      refine Ht.out.mono ?_
      rintro _ _ ⟨rfl, rfl⟩
      go_wp2_with fail
      go_ret
      exact ⟨rfl, rfl⟩
/-- a field of the disk's own is set -/
theorem DiskAt.setOff {w : World} {S : Nat → Prop} {g : Nat} {d : DState} (h : DiskAt w S g d) (b : Bool) : DiskAt (w.setCell ⟨g, 2, none⟩ (.bool b)) S g { d with off := b } := by
  obtain ⟨hb, vw, h1, h2, h3, h4, h5, h6⟩ := h.ex
  exact ⟨⟨hb, vw, h1.put 2 _, h2.other _ _ (fun e => h4 e.symm), h3.keep (gset w ⟨g, 2, none⟩ _) (by cases hv : vw.ownBlock with
    | none => exact .inl rfl
    | some q => exact .inr (fun e => (h6 q hv).1 (by injection e))) (fun k hk => hk.elim), h4, h5, h6⟩, h.here, fun k hk => by simpa [World.setCell] using h.lt k hk, h.wts, h.pos, h.few, h.fuseR⟩
theorem DiskAt.setFuse {w : World} {S : Nat → Prop} {g : Nat} {d : DState} (h : DiskAt w S g d) (n : Int) (hn : -9223372036854775808 ≤ n ∧ n ≤ 9223372036854775807) : DiskAt (w.setCell ⟨g, 3, none⟩ (.int .i64 n)) S g { d with fuse := n } := by
  obtain ⟨hb, vw, h1, h2, h3, h4, h5, h6⟩ := h.ex
  exact ⟨⟨hb, vw, h1.put 3 _, h2.other _ _ (fun e => h4 e.symm), h3.keep (gset w ⟨g, 3, none⟩ _) (by cases hv : vw.ownBlock with
    | none => exact .inl rfl
    | some q => exact .inr (fun e => (h6 q hv).1 (by injection e))) (fun k hk => hk.elim), h4, h5, h6⟩, h.here, fun k hk => by simpa [World.setCell] using h.lt k hk, h.wts, h.pos, h.few, hn⟩
/-- what a deed of the disk's leaves -/
def DPost (w : World) (S : Nat → Prop) (g : Nat) (d' : DState) (w' : World) : Prop := ∃ S', DiskAt w' S' g d' ∧ (∀ k, S' k → S k ∨ w.heap.size ≤ k) ∧ Chg S w w'
theorem DPost.id_ {w : World} {S : Nat → Prop} {g : Nat} {d : DState} (h : DiskAt w S g d) : DPost w S g d w := ⟨S, h, fun k hk => .inl hk, Chg.refl _ _⟩
theorem DPost.trans {a b c : World} {S : Nat → Prop} {g : Nat} {d1 d2 : DState} (h : DPost a S g d1 b) (k : ∀ S', DiskAt b S' g d1 → DPost b S' g d2 c) : DPost a S g d2 c := by
  obtain ⟨S', h1, h2, h3⟩ := h
  obtain ⟨S2, k1, k2, k3⟩ := k S' h1
  refine ⟨S2, k1, fun i hi => ?_, h3.past k3 fun i hi => (h2 i hi).symm⟩
  rcases k2 i hi with h | h
  · exact h2 i h
  · exact .inr (Nat.le_trans h3.size h)
set_option maxRecDepth 100000 in
set_option maxHeartbeats 1600000 in
theorem ddeed_any (w : World) (S : Nat → Prop) (g : Nat) (d : DState) (h : DiskAt w S g d) :
    Calls Try.prog 41 #[.pointer (some ⟨g, 0, none⟩)] w fun e w' => e = .returned (.int .i64 (deedE d)) ∧ DiskAt w' S g (deedD d) ∧ Chg S w w' := by
  obtain ⟨hb, vw, h1, h2, h3, h4, h5, h6⟩ := id h.ex
  have hc := h1.cell 3 _ rfl
  have hf2 := h1.frozen 2
  have hf3 := h1.frozen 3
  have hc2 := h1.cell 2 _ rfl
  have hfr := h.fuseR
  unfold deedE deedD
  by_cases h0 : d.fuse = 0
  · have hd : (d.fuse == 0) = true := by simp [h0]
    have Hh := Lib.hid h
    rw [if_pos h0, if_pos h0]
    clear h0 h hfr h2 h3
    generalize hn : d.fuse = n at *
    have Hn := Lib.hid hn
    clear hn
    go_enter Try.func41, Try.ntmps41
    go_wp2_with fail
    go_ret
    exact ⟨rfl, by rw [← Hn.out]; exact Hh.out.setOff true, Chg.set w _ _ Hh.out.here⟩
  · have hd : (d.fuse == 0) = false := by simpa using h0
    rw [if_neg h0, if_neg h0]
    have Hh := Lib.hid h
    by_cases hp : 0 < d.fuse
    · have hd2 : decide (0 < d.fuse) = true := decide_eq_true hp
      rw [if_pos hp]
      have hw : IntKind.i64.wrap (d.fuse - 1) = d.fuse - 1 := by rw [wrap_i64]; omega
      have hfr2 : -9223372036854775808 ≤ d.fuse - 1 ∧ d.fuse - 1 ≤ 9223372036854775807 := by omega
      have Hfr := Lib.hid hfr2
      clear h0 h h2 h3 hp hfr hfr2
      generalize hn : d.fuse = n at *
      have Hn := Lib.hid hn
      clear hn
      go_enter Try.func41, Try.ntmps41
      go_wp2_with fail
      go_ret
      exact ⟨rfl, Hh.out.setFuse _ Hfr.out, Chg.set w _ _ Hh.out.here⟩
    · have hd2 : decide (0 < d.fuse) = false := decide_eq_false hp
      rw [if_neg hp]
      clear h0 h h2 h3 hp hfr
      generalize hn : d.fuse = n at *
      clear hn
      go_enter Try.func41, Try.ntmps41
      go_wp2_with fail
      go_ret
      exact ⟨rfl, Hh.out, Chg.refl _ _⟩
set_option maxRecDepth 100000 in
set_option maxHeartbeats 1600000 in
theorem dfuse_any (w : World) (S : Nat → Prop) (g : Nat) (d : DState) (n : Int) (hn : -9223372036854775808 ≤ n ∧ n ≤ 9223372036854775807) (h : DiskAt w S g d) :
    Calls Try.prog 14 #[.pointer (some ⟨g, 0, none⟩), .int .i64 n] w fun e w' => e = .returned (.tuple #[]) ∧ DiskAt w' S g { d with fuse := n } ∧ Chg S w w' := by
  obtain ⟨hb, vw, h1, h2, h3, h4, h5, h6⟩ := id h.ex
  have hc := h1.cell 3 _ rfl
  have hf3 := h1.frozen 3
  have Hh := Lib.hid h
  have Hn := Lib.hid hn
  clear h h2 h3 hn
  go_enter Try.func14, Try.ntmps14
  go_wp2_with fail
  go_end0
  exact ⟨rfl, Hh.out.setFuse _ Hn.out, Chg.set w _ _ Hh.out.here⟩
set_option maxRecDepth 100000 in
set_option maxHeartbeats 1600000 in
theorem doff_any (w : World) (S : Nat → Prop) (g : Nat) (d : DState) (h : DiskAt w S g d) :
    Calls Try.prog 26 #[.pointer (some ⟨g, 0, none⟩)] w fun e w' => e = .returned (.tuple #[]) ∧ DiskAt w' S g { d with off := true } ∧ Chg S w w' := by
  obtain ⟨hb, vw, h1, h2, h3, h4, h5, h6⟩ := id h.ex
  have hc := h1.cell 2 _ rfl
  have hf3 := h1.frozen 2
  have Hh := Lib.hid h
  clear h h2 h3
  go_enter Try.func26, Try.ntmps26
  go_wp2_with fail
  go_end0
  exact ⟨rfl, Hh.out.setOff true, Chg.set w _ _ Hh.out.here⟩
end Go.Proofs.Ytpoicbhbkabllaa
