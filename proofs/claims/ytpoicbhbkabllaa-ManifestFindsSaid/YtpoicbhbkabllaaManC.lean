/- cmp.Compare of strings; the comparison that Find hands over. -/
import Derived.Test.YtpoicbhbkabllaaManY
namespace Go.Proofs.Ytpoicbhbkabllaa
set_option linter.unusedSimpArgs false
set_option linter.unusedVariables false
open Go.RowKit

def cmpS (a b : List UInt8) : Int := if bless a b then -1 else if a = b then 0 else 1
theorem isnan_any (w : World) (a : List UInt8) : Calls Try.prog 80 #[.string (bst a)] w fun e w' => e = .returned (.bool false) ∧ w = w' := by
  have hq : (a != a) = false := by simp
  go_enter Try.func80, Try.ntmps80
  go_wp2_with fail
  go_ret
  exact ⟨rfl, rfl⟩
set_option maxHeartbeats 800000 in
theorem compare_any (w : World) (a b : List UInt8) : Calls Try.prog 57 #[.string (bst a), .string (bst b)] w fun e w' => e = .returned (.int .i64 (cmpS a b)) ∧ w = w' := by
  have hna := fun W => isnan_any W a
  have hnb := fun W => isnan_any W b
  have Ha := Lib.hid hna
  obtain ⟨r, hr⟩ : ∃ r, r = cmpS a b := ⟨_, rfl⟩
  rw [← hr]
  have Hb := Lib.hid hnb
  clear hna hnb
  go_enter Try.func57, Try.ntmps57
  go_wp2_with fail
  refine (Ha.out w).mono ?_
  rintro _ _ ⟨rfl, rfl⟩
  go_wp2_with fail
  refine (Hb.out w).mono ?_
  rintro _ _ ⟨rfl, rfl⟩
  have hlt : Op.bytesLess (bst a).toList (bst b).toList = bless a b := by rw [bst_toList, bst_toList]
  have heq : ((bst a).toList == (bst b).toList) = decide (a = b) := by rw [bst_toList, bst_toList]; by_cases h : a = b <;> simp [h]
  by_cases h1 : bless a b = true
  · have hc : r = -1 := by rw [hr]; unfold cmpS; rw [if_pos h1]
    subst hc
    clear hr
    go_wp2_with fail
    go_ret
    exact ⟨rfl, rfl⟩
  · by_cases h2 : a = b
    · have hc : r = 0 := by rw [hr]; unfold cmpS; rw [if_neg h1, if_pos h2]
      subst hc
      clear hr
      subst h2
      have hl : Op.bytesLess (bst a).toList (bst a).toList = false := by rw [bst_toList]; exact bless_irrefl a
      clear h1 hlt heq
      go_wp2_with fail
      go_ret
      exact ⟨rfl, rfl⟩
    · have hc : r = 1 := by rw [hr]; unfold cmpS; rw [if_neg h1, if_neg h2]
      subst hc
      clear hr
      simp at h1
      go_wp2_with fail
      go_ret
      exact ⟨rfl, rfl⟩
theorem find1_any (w : World) (f : MFile) (v : Value) (s : List UInt8) : Calls Try.prog 56 #[.agg (encF f v).toArray, .string (bst s)] w fun e w' => e = .returned (.int .i64 (cmpS f.name s)) ∧ Below w.heap.size w w' := by
  have hb := balloc w (.cells (encF f v).toArray 62)
  have hx : BoxAt 62 (w.alloc (.cells (encF f v).toArray 62)) w.heap.size (encF f v) := BoxAt.new_ _ _ _
  have hc0 := hx.cell 0 _ rfl
  have Hb := Lib.hid hb
  have Hc := Lib.hid (fun W => compare_any W f.name s)
  clear hb hx
  go_enter Try.func56, Try.ntmps56
  go_wp2_with fail
  refine (Hc.out _).mono ?_
  rintro _ _ ⟨rfl, rfl⟩
  go_wp2_with fail
  go_ret
  exact ⟨rfl, Hb.out⟩
end Go.Proofs.Ytpoicbhbkabllaa
