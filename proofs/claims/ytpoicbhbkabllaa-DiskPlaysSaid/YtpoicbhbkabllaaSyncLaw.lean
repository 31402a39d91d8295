/- DiskSyncs, DiskFuses: the plain law. -/
import Derived.Test.YtpoicbhbkabllaaAwake06b
namespace Go.Proofs.Ytpoicbhbkabllaa
set_option linter.unusedSimpArgs false
set_option linter.unusedVariables false

theorem awW40 : (newD 40).wt.length ≤ 1000000 := by decide +kernel
theorem filledL_len (c : UInt8) : (filledL c false).length = 128 := by unfold filledL; rw [if_neg (by simp)]; exact fillL_len c 128
theorem writeD_ok {d : DState} {i : Nat} {b : List UInt8} (ho : d.off = false) (hi : i < d.bl.length) (hb : b.length = 128) (hf : d.fuse = -1) : writeE d i b = 0 ∧ writeD d i b = { d with wt := d.wt ++ [(i, ⟨b, hb⟩)] } := by
  have hm : mayE d i = 0 := by unfold mayE; rw [if_neg (by simp [ho]), if_pos (by omega)]
  have he : deedE d = 0 := by unfold deedE; rw [if_neg (by rw [hf]; decide)]
  have hd : deedD d = d := by unfold deedD; rw [if_neg (by rw [hf]; decide), if_neg (by rw [hf]; decide)]
  unfold writeE writeD
  rw [if_neg (by simp [hm]), if_neg (by simp [hb]), if_neg (by simp [hm]), dif_pos hb, if_neg (by simp [he]), he, hd]
  exact ⟨rfl, by simp⟩
theorem syncD_ok {d : DState} (ho : d.off = false) (hf : d.fuse = -1) : syncE d = 0 ∧ syncD d = { d with bl := syncBl d.wt d.bl, wt := [] } := by
  have he : deedE d = 0 := by unfold deedE; rw [if_neg (by rw [hf]; decide)]
  have hd : deedD d = d := by unfold deedD; rw [if_neg (by rw [hf]; decide), if_neg (by rw [hf]; decide)]
  unfold syncE syncD
  rw [if_neg (by simp [ho]), if_neg (by simp [ho]), if_neg (by simp [he]), he, hd]
  exact ⟨rfl, rfl⟩
theorem newD_off (n : Nat) : (newD n).off = false := rfl
theorem newD_len (n : Nat) : (newD n).bl.length = n := by simp [newD]
theorem sync_law (a b : Nat) (c c7 : UInt8) (kp tn : Nat) (ha : a < 40) (hb : b < 40) (hne : a ≠ b) :
    writeE (newD 40) (a : Int) (filledL c false) = 0 ∧ (writeD (newD 40) (a : Int) (filledL c false)).wt.length ≤ 1000000 ∧ syncE (writeD (newD 40) (a : Int) (filledL c false)) = 0 ∧
    (syncD (writeD (newD 40) (a : Int) (filledL c false))).wt.length ≤ 1000000 ∧ writeE (syncD (writeD (newD 40) (a : Int) (filledL c false))) (b : Int) (filledL c7 false) = 0 ∧
    (writeD (syncD (writeD (newD 40) (a : Int) (filledL c false))) (b : Int) (filledL c7 false)).wt.length ≤ 1000000 ∧
    (backD (writeD (syncD (writeD (newD 40) (a : Int) (filledL c false))) (b : Int) (filledL c7 false)) kp tn).wt.length ≤ 1000000 ∧
    mayE (backD (writeD (syncD (writeD (newD 40) (a : Int) (filledL c false))) (b : Int) (filledL c7 false)) kp tn) (a : Int) = 0 ∧
    readL (backD (writeD (syncD (writeD (newD 40) (a : Int) (filledL c false))) (b : Int) (filledL c7 false)) kp tn) (a : Int) = filledL c false ∧
    (backD (writeD (syncD (writeD (newD 40) (a : Int) (filledL c false))) (b : Int) (filledL c7 false)) kp tn).wt.length = 0 := by
  obtain ⟨p1, p2⟩ := writeD_ok (d := newD 40) (i := a) (newD_off 40) (by rw [newD_len]; exact ha) (filledL_len c) rfl
  rw [p1, p2]
  obtain ⟨p3, p4⟩ := syncD_ok (d := { newD 40 with wt := (newD 40).wt ++ [(a, ⟨filledL c false, filledL_len c⟩)] }) rfl rfl
  rw [p3, p4]
  have hwn : (newD 40).wt = [] := rfl
  simp only [hwn, List.nil_append]
  have hsb : syncBl [(a, (⟨filledL c false, filledL_len c⟩ : Blk))] (newD 40).bl = (newD 40).bl.set a ⟨filledL c false, filledL_len c⟩ := rfl
  rw [hsb]
  obtain ⟨p5, p6⟩ := writeD_ok (d := { newD 40 with bl := (newD 40).bl.set a ⟨filledL c false, filledL_len c⟩, wt := [] }) (i := b) rfl (by simp only [List.length_set]; rw [newD_len]; exact hb) (filledL_len c7) rfl
  rw [p5, p6]
  simp only [List.nil_append]
  refine ⟨trivial, by simp, trivial, by simp, trivial, by simp, by simp [backD], ?_, ?_, rfl⟩
  · unfold mayE backD
    rw [if_neg (by simp)]
    simp only [backBl_len, List.length_set, newD_len]
    rw [if_pos (by omega)]
  · have hm : mayE (backD { newD 40 with bl := (newD 40).bl.set a ⟨filledL c false, filledL_len c⟩, wt := [(b, ⟨filledL c7 false, filledL_len c7⟩)] } kp tn) (a : Int) = 0 := by
      unfold mayE backD
      rw [if_neg (by simp)]
      simp only [backBl_len, List.length_set, newD_len]
      rw [if_pos (by omega)]
    unfold readL
    rw [if_neg (by rw [hm]; simp), Int.toNat_natCast]
    have hbk : ((backD { newD 40 with bl := (newD 40).bl.set a ⟨filledL c false, filledL_len c⟩, wt := [(b, ⟨filledL c7 false, filledL_len c7⟩)] } kp tn).bl)[a]? = some ⟨filledL c false, filledL_len c⟩ := by
      show (backStep kp tn 0 (b, ⟨filledL c7 false, filledL_len c7⟩) ((newD 40).bl.set a ⟨filledL c false, filledL_len c⟩))[a]? = _
      have h0 : ((newD 40).bl.set a (⟨filledL c false, filledL_len c⟩ : Blk))[a]? = some ⟨filledL c false, filledL_len c⟩ := by
        rw [List.getElem?_set, if_pos rfl, if_pos (by rw [newD_len]; exact ha)]
      unfold backStep
      split
      · rw [List.getElem?_set, if_neg (fun e => hne e.symm)]; exact h0
      · split
        · rw [List.getElem?_set, if_neg (fun e => hne e.symm)]; exact h0
        · exact h0
    unfold readB
    rw [List.getD_eq_getElem?_getD, hbk]
    rfl
end Go.Proofs.Ytpoicbhbkabllaa
