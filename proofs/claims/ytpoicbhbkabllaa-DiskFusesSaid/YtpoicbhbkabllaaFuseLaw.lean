/- DiskFuses: the plain law. -/
import Derived.Test.YtpoicbhbkabllaaSyncLaw
namespace Go.Proofs.Ytpoicbhbkabllaa
set_option linter.unusedSimpArgs false
set_option linter.unusedVariables false

/-- the disk, and the count of deeds that were done, behind k rounds -/
def FS (n k : Nat) (d : DState) (c : Nat) : Prop := d.bl.length = 1 ∧ d.wt.length ≤ k ∧ ((k ≤ n ∧ d.off = false ∧ d.fuse = (n : Int) - k ∧ c = k) ∨ (n < k ∧ d.off = true ∧ c = n))
theorem fs_start (n : Nat) : FS n 0 { newD 1 with fuse := (n : Int) } 0 := ⟨rfl, Nat.le_refl _, .inl ⟨Nat.zero_le _, rfl, by simp, rfl⟩⟩
theorem fs_write {n k c : Nat} {d : DState} (h : FS n k d c) (b : List UInt8) (hb : b.length = 128) : FS n (k + 1) (writeD d 0 b) (if writeE d 0 b = 0 then c + 1 else c) := by
  obtain ⟨h1, h2, h3⟩ := h
  have hlen : (writeD d 0 b).bl.length = 1 ∧ (writeD d 0 b).wt.length ≤ k + 1 := by
    unfold writeD
    by_cases x1 : mayE d 0 ≠ 0
    · rw [if_pos x1]; exact ⟨h1, by omega⟩
    · rw [if_neg x1, dif_pos hb]
      by_cases x2 : deedE d ≠ 0
      · rw [if_pos x2, deedD_bl, deedD_wt]; exact ⟨h1, by omega⟩
      · rw [if_neg x2]
        refine ⟨?_, ?_⟩
        · show (deedD d).bl.length = 1
          rw [deedD_bl]; exact h1
        · show (d.wt ++ _).length ≤ k + 1
          simp; omega
  refine ⟨hlen.1, hlen.2, ?_⟩
  rcases h3 with ⟨a, b1, b2, rfl⟩ | ⟨a, b1, rfl⟩
  · have hm : mayE d 0 = 0 := by unfold mayE; rw [if_neg (by simp [b1]), if_pos (by omega)]
    by_cases hkn : c = n
    · subst hkn
      have he : deedE d = 6 := by unfold deedE; rw [if_pos (by omega)]
      have hd : deedD d = { d with off := true } := by unfold deedD; rw [if_pos (by omega)]
      refine .inr ⟨by omega, ?_, ?_⟩
      · unfold writeD
        rw [if_neg (by simp [hm]), dif_pos hb, if_pos (by simp [he]), hd]
      · have hE : writeE d 0 b = 6 := by
          unfold writeE
          rw [if_neg (by simp [hm]), if_neg (by simp [hb]), he]
        rw [hE]
        rfl
    · have he : deedE d = 0 := by unfold deedE; rw [if_neg (by omega)]
      have hd : deedD d = { d with fuse := d.fuse - 1 } := by unfold deedD; rw [if_neg (by omega), if_pos (by omega)]
      refine .inl ⟨by omega, ?_, ?_, ?_⟩
      · unfold writeD
        rw [if_neg (by simp [hm]), dif_pos hb, if_neg (by simp [he]), hd]
        exact b1
      · unfold writeD
        rw [if_neg (by simp [hm]), dif_pos hb, if_neg (by simp [he]), hd]
        show d.fuse - 1 = _
        omega
      · have hE : writeE d 0 b = 0 := by
          unfold writeE
          rw [if_neg (by simp [hm]), if_neg (by simp [hb]), he]
        rw [hE]
        rfl
  · have hm : mayE d 0 = 6 := by unfold mayE; rw [if_pos b1]
    refine .inr ⟨by omega, ?_, ?_⟩
    · unfold writeD
      rw [if_pos (by simp [hm])]
      exact b1
    · have hE : writeE d 0 b = 6 := by
        unfold writeE
        rw [if_pos (by simp [hm]), hm]
      rw [hE]
      rfl
theorem fs_sync {n k c : Nat} {d : DState} (h : FS n k d c) : FS n (k + 1) (syncD d) (if syncE d = 0 then c + 1 else c) := by
  obtain ⟨h1, h2, h3⟩ := h
  have hlen : (syncD d).bl.length = 1 ∧ (syncD d).wt.length ≤ k + 1 := by
    unfold syncD
    by_cases x1 : d.off = true
    · rw [if_pos x1]; exact ⟨h1, by omega⟩
    · rw [if_neg x1]
      by_cases x2 : deedE d ≠ 0
      · rw [if_pos x2, deedD_bl, deedD_wt]; exact ⟨h1, by omega⟩
      · rw [if_neg x2]
        exact ⟨by simp only [syncBl_len]; exact h1, by simp⟩
  refine ⟨hlen.1, hlen.2, ?_⟩
  rcases h3 with ⟨a, b1, b2, rfl⟩ | ⟨a, b1, rfl⟩
  · by_cases hkn : c = n
    · subst hkn
      have he : deedE d = 6 := by unfold deedE; rw [if_pos (by omega)]
      have hd : deedD d = { d with off := true } := by unfold deedD; rw [if_pos (by omega)]
      refine .inr ⟨by omega, ?_, ?_⟩
      · unfold syncD
        rw [if_neg (by simp [b1]), if_pos (by simp [he]), hd]
      · have hE : syncE d = 6 := by
          unfold syncE
          rw [if_neg (by simp [b1]), he]
        rw [hE]
        rfl
    · have he : deedE d = 0 := by unfold deedE; rw [if_neg (by omega)]
      have hd : deedD d = { d with fuse := d.fuse - 1 } := by unfold deedD; rw [if_neg (by omega), if_pos (by omega)]
      refine .inl ⟨by omega, ?_, ?_, ?_⟩
      · unfold syncD
        rw [if_neg (by simp [b1]), if_neg (by simp [he]), hd]
        exact b1
      · unfold syncD
        rw [if_neg (by simp [b1]), if_neg (by simp [he]), hd]
        show d.fuse - 1 = _
        omega
      · have hE : syncE d = 0 := by
          unfold syncE
          rw [if_neg (by simp [b1]), he]
        rw [hE]
        rfl
  · refine .inr ⟨by omega, ?_, ?_⟩
    · unfold syncD
      rw [if_pos b1]
      exact b1
    · have hE : syncE d = 6 := by
        unfold syncE
        rw [if_pos b1]
      rw [hE]
      rfl
theorem wrap_u8_nat (k : Nat) : IntKind.u8.wrap (k : Int) = ((UInt8.ofNat k).toNat : Int) := by
  rw [IntKind.wrap_u8', UInt8.toNat_ofNat']
  omega
end Go.Proofs.Ytpoicbhbkabllaa
