/- DiskPlays: acts, in plain. -/
import Derived.Test.YtpoicbhbkabllaaSyncLaw
import Derived.Test.YtpoicbhbkabllaaRDisk8
namespace Go.Proofs.Ytpoicbhbkabllaa
set_option linter.unusedSimpArgs false
set_option linter.unusedVariables false

structure ActS where
  kind : Int
  i : Int
  n : Int
  c : UInt8
  short : Bool
  keep : Nat
  torn : Nat
def actD (d : DState) (a : ActS) : DState :=
  if a.kind = 0 then writeD d a.i (filledL a.c a.short) else if a.kind = 1 then syncD d else if a.kind = 2 then { d with fuse := a.n } else if a.kind = 3 then { d with off := true } else
  if a.kind = 4 then backD d a.keep a.torn else if a.kind = 5 then spoilD d a.i a.n a.c else d
def actR (m : RD) (a : ActS) : RD :=
  if a.kind = 0 then writeRD m a.i (filledL a.c a.short) else if a.kind = 1 then syncRD m else if a.kind = 2 then { m with fuse := a.n } else if a.kind = 3 then { m with off := true } else
  if a.kind = 4 then backRD m a.keep a.torn else if a.kind = 5 then spoilRD m a.i a.n a.c else m
theorem act_rel {d : DState} {m : RD} (h : RelD d m) (hw : ∀ x ∈ d.wt, x.1 < d.bl.length) (a : ActS) : RelD (actD d a) (actR m a) := by
  unfold actD actR
  by_cases h0 : a.kind = 0
  · rw [if_pos h0, if_pos h0]; exact rel_write h _ _
  rw [if_neg h0, if_neg h0]
  by_cases h1 : a.kind = 1
  · rw [if_pos h1, if_pos h1]; exact rel_sync h hw
  rw [if_neg h1, if_neg h1]
  by_cases h2 : a.kind = 2
  · rw [if_pos h2, if_pos h2]; exact ⟨h.count, h.off, rfl, h.good, h.wait⟩
  rw [if_neg h2, if_neg h2]
  by_cases h3 : a.kind = 3
  · rw [if_pos h3, if_pos h3]; exact ⟨h.count, rfl, h.fuse, h.good, h.wait⟩
  rw [if_neg h3, if_neg h3]
  by_cases h4 : a.kind = 4
  · rw [if_pos h4, if_pos h4]; exact rel_back h _ _ hw
  rw [if_neg h4, if_neg h4]
  by_cases h5 : a.kind = 5
  · rw [if_pos h5, if_pos h5]; exact rel_spoil h _ _ _
  rw [if_neg h5, if_neg h5]
  exact h
theorem writeD_bl (d : DState) (i : Int) (b : List UInt8) : (writeD d i b).bl.length = d.bl.length ∧ (writeD d i b).wt.length ≤ d.wt.length + 1 := by
  unfold writeD
  by_cases x1 : mayE d i ≠ 0
  · rw [if_pos x1]; exact ⟨rfl, by omega⟩
  rw [if_neg x1]
  by_cases hb : b.length = 128
  · rw [dif_pos hb]
    by_cases x2 : deedE d ≠ 0
    · rw [if_pos x2, deedD_bl, deedD_wt]; exact ⟨rfl, by omega⟩
    · rw [if_neg x2]
      refine ⟨by show (deedD d).bl.length = _; rw [deedD_bl], ?_⟩
      show (d.wt ++ _).length ≤ _
      simp
  · rw [dif_neg hb]; exact ⟨rfl, by omega⟩
theorem syncD_bl (d : DState) : (syncD d).bl.length = d.bl.length ∧ (syncD d).wt.length ≤ d.wt.length := by
  unfold syncD
  by_cases x1 : d.off = true
  · rw [if_pos x1]; exact ⟨rfl, by omega⟩
  rw [if_neg x1]
  by_cases x2 : deedE d ≠ 0
  · rw [if_pos x2, deedD_bl, deedD_wt]; exact ⟨rfl, by omega⟩
  · rw [if_neg x2]; exact ⟨by simp only [syncBl_len], by simp⟩
theorem spoilD_bl (d : DState) (i a : Int) (c : UInt8) : (spoilD d i a c).bl.length = d.bl.length ∧ (spoilD d i a c).wt = d.wt := by
  unfold spoilD
  split
  · exact ⟨rfl, rfl⟩
  · exact ⟨by simp, rfl⟩
theorem actD_len (d : DState) (a : ActS) : (actD d a).bl.length = d.bl.length ∧ (actD d a).wt.length ≤ d.wt.length + 1 := by
  unfold actD
  by_cases h0 : a.kind = 0
  · rw [if_pos h0]; exact writeD_bl _ _ _
  rw [if_neg h0]
  by_cases h1 : a.kind = 1
  · rw [if_pos h1]; have := syncD_bl d; exact ⟨this.1, by omega⟩
  rw [if_neg h1]
  by_cases h2 : a.kind = 2
  · rw [if_pos h2]; exact ⟨rfl, by show d.wt.length ≤ _; omega⟩
  rw [if_neg h2]
  by_cases h3 : a.kind = 3
  · rw [if_pos h3]; exact ⟨rfl, by show d.wt.length ≤ _; omega⟩
  rw [if_neg h3]
  by_cases h4 : a.kind = 4
  · rw [if_pos h4]; exact ⟨by simp only [backD, backBl_len], by simp [backD]⟩
  rw [if_neg h4]
  by_cases h5 : a.kind = 5
  · rw [if_pos h5]; have := spoilD_bl d a.i a.n a.c; exact ⟨this.1, by rw [this.2]; omega⟩
  rw [if_neg h5]
  exact ⟨rfl, by omega⟩
theorem actR_len (m : RD) (a : ActS) : (actR m a).made.length + (actR m a).wait.length ≤ m.made.length + m.wait.length + 1 := by
  unfold actR
  by_cases h0 : a.kind = 0
  · rw [if_pos h0]
    unfold writeRD
    by_cases x1 : readRE m a.i ≠ 0
    · rw [if_pos x1]; omega
    rw [if_neg x1]
    by_cases x2 : (filledL a.c a.short).length ≠ 128
    · rw [if_pos x2]; omega
    rw [if_neg x2]
    by_cases x3 : deedRE m ≠ 0
    · rw [if_pos x3, deedRD_made, deedRD_wait]; omega
    rw [if_neg x3]
    show (deedRD m).made.length + (m.wait ++ _).length ≤ _
    rw [deedRD_made]; simp; omega
  rw [if_neg h0]
  by_cases h1 : a.kind = 1
  · rw [if_pos h1]
    unfold syncRD
    by_cases x1 : m.off = true
    · rw [if_pos x1]; omega
    rw [if_neg x1]
    by_cases x2 : deedRE m ≠ 0
    · rw [if_pos x2, deedRD_made, deedRD_wait]; omega
    rw [if_neg x2]
    have := foldl_putRD_made m.wait (deedRD m)
    rw [deedRD_made] at this
    show (m.wait.foldl putRD (deedRD m)).made.length + ([] : List RW).length ≤ _
    simp; omega
  rw [if_neg h1]
  by_cases h2 : a.kind = 2
  · rw [if_pos h2]; show m.made.length + m.wait.length ≤ _; omega
  rw [if_neg h2]
  by_cases h3 : a.kind = 3
  · rw [if_pos h3]; show m.made.length + m.wait.length ≤ _; omega
  rw [if_neg h3]
  by_cases h4 : a.kind = 4
  · rw [if_pos h4]
    have := backRL_made a.keep a.torn m.wait 0 m
    show (backRL a.keep a.torn 0 m.wait m).made.length + ([] : List RW).length ≤ _
    simp; omega
  rw [if_neg h4]
  by_cases h5 : a.kind = 5
  · rw [if_pos h5]
    unfold spoilRD
    split
    · omega
    · show (putMade m.made _).length + m.wait.length ≤ _
      have := putMade_len m.made (a.i, (goodR m a.i).set a.n.toNat ((goodR m a.i).getD a.n.toNat 0 ^^^ a.c))
      omega
  rw [if_neg h5]
  omega
end Go.Proofs.Ytpoicbhbkabllaa
