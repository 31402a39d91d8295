/- palmerref02.Fits: bytes without their check, or the error's number. The row is a readable slice of at most 2^40 bytes. -/
import Derived.Test.YtneihfmacljjbaaRefCrc
namespace Go.Proofs.Ytneihfmacljjbaa
set_option linter.unusedSimpArgs false
set_option linter.unusedVariables false
open Go.RowKit

set_option maxRecDepth 100000 in
set_option maxHeartbeats 800000 in
theorem rfits_any (w : World) (v : Value) (l : List UInt8) (hby : By w w.heap.size v l) (hsz : l.length ≤ 1099511627776) :
    Calls Try.prog 19 #[v] w fun e w' => ∃ v', e = .returned (.tuple #[v', .int .i64 (fitsE l)]) ∧ Ow w' w.heap.size v' (fitsL l) ∧ Below w.heap.size w w' := by
  have hby0 := hby
  obtain ⟨A, c, rfl, hc1, hc2, hrd⟩ := hby
  unfold maxLen at hc2
  by_cases h4 : l.length < 4
  · have hE : fitsE l = 2 := by simp [fitsE, h4]
    have hL : fitsL l = [] := by
      have : fitsB l = false := by simp [fitsB]; omega
      simp [fitsL, this]
    rw [hE, hL]
    clear hE hL
    go_enter Try.func19, Try.ntmps19
    go_wp2_with fail
    go_ret2
    exact ⟨_, rfl, Ow.new_ w [] (Nat.zero_le _), balloc _ _⟩
  · have hown : By w w.heap.size (.slice A (l.length - 4) c) (l.take (l.length - 4)) := by
      refine ⟨A, c, by simp, by simp; omega, hc2, ?_⟩
      have := hrd.front (k := l.length - 4) (by omega)
      simpa [b8s, List.map_take] using this
    have hlt : (l.take (l.length - 4)).length = l.length - 4 := by simp
    have HE : Hid (fitsE l = if markOf (l.take (l.length - 4)) = l then 0 else 5) := by
      unfold Hid fitsE fitsB
      rw [if_neg h4]
      by_cases hm : markOf (l.take (l.length - 4)) = l
      · rw [if_pos (by simp [hm]; omega), if_pos hm]
      · rw [if_neg (by simp [hm]), if_neg hm]
    have HL : Hid (fitsL l = if markOf (l.take (l.length - 4)) = l then l.take (l.length - 4) else []) := by
      unfold Hid fitsL fitsB
      by_cases hm : markOf (l.take (l.length - 4)) = l
      · rw [if_pos (by simp [hm]; omega), if_pos hm]
      · rw [if_neg (by simp [hm]), if_neg hm]
    have Hlt := Lib.hid hlt
    clear hlt
    generalize fitsE l = E at *
    generalize fitsL l = L at *
    generalize l.take (l.length - 4) = l0 at *
    go_enter Try.func19, Try.ntmps19
    go_wp2_with (first
      | (at_builtin
         refine wpList_app8 rfl (.tmp 9) (.tmp 14) rfl (Ow.new_ w [] (Nat.zero_le _)) (hown.alloc (Nat.le_refl _) _) rfl rfl (by rw [Hlt.out]; simp; omega) (by simp) ?_
         intro v1 w1 hown1 hext1
         have hb1 := (balloc w _).trans (hext1.below (by simp) (by simp [Value.ownBlock]))))
    refine wp_region_typed [some 16, some 17, some 18, some 19, some 20, some 21] [16, 17, 18, 19, 20, 21] [Ph.is v1, Ph.by_ (markOf l0), Ph.is (.string (bst (markOf l0))), Ph.is (.slice A l.length c), Ph.is (.string (bst l)), Ph.is (.bool (!(decide (markOf l0 = l))))] rfl rfl (by kernel_rfl) (by kernel_rfl) ?_ ?_
    · have hc2 : ∀ w', Below w1.heap.size w1 w' → (convert 22 9 (.slice A l.length c)).run Try.prog w' = .ok (.string (bst l)) w' := fun w' hb => conv8 ((hby0.step hb1).below hb)
      have hq := bst_eq (markOf l0) l
      refine ⟨?_, ?_, ?_, ?_, ?_, ?_, trivial⟩
      all_goals
        refine ob_yes fun f w' hb hp => ?_
        simp [PreOf, factOf, valOf, Ph.is, Ph.by_, Region.binds] at hp
        refine ⟨by simp [Gd], ?_⟩
      · refine mild_val v1 ?_ ?_ <;> simp [execOp, evalF, Ph.is]
      · refine mild_call 20 _ _ Try.f20 Try.func20 (by kernel_rfl) (by kernel_rfl) rfl ?_
        simp [evalF, hp, Ph.by_]
        refine (rmark_any w' v1 l0 ?_ (by rw [Hlt.out]; omega)).mono ?_
        · exact hown1.by_.step hb
        · rintro e w2 ⟨v2, rfl, hown2, hb2⟩
          exact ⟨v2, rfl, hb2, hown2.by_⟩
      · refine mild_val (.string (bst (markOf l0))) ?_ rfl
        have hcc := conv8 hp
        simp [execOp, evalF, hcc]
      · refine mild_val (.slice A l.length c) ?_ ?_ <;> simp [execOp, evalF, Ph.is]
      · refine mild_val (.string (bst l)) ?_ rfl
        simp [execOp, evalF, hp, hc2 w' hb]
      · refine mild_val (.bool (!decide (markOf l0 = l))) ?_ rfl
        simp [execOp, evalF, hp, go_sem]
        exact hq
    · intro f w2 hb2 hp
      simp only [PostOf, Ph.is, Ph.by_] at hp
      obtain ⟨h16, h17, h18, h19, h20, h21, _⟩ := hp
      simp only [fills, List.foldl_cons, List.foldl_nil, Act.put, List.setIfInBounds_toArray, List.set_cons_zero, List.set_cons_succ, h16, h18, h19, h20, h21]
      clear h16 h17 h18 h19 h20 h21
      generalize f 17 = v17
      have hb02 := bstep hb1 hb2
      by_cases hm : markOf l0 = l
      · rw [decide_eq_true hm]
        have Hm := Lib.hid hm
        clear hm
        go_wp2_with fail
        go_ret2
        refine ⟨v1, by rw [HE.out, if_pos Hm.out]; rfl, ?_, hb02⟩
        rw [HL.out, if_pos Hm.out]
        exact hown1.below_ hb2
      · rw [decide_eq_false hm]
        have Hm := Lib.hid hm
        clear hm
        go_wp2_with fail
        go_ret2
        refine ⟨_, by rw [HE.out, if_neg Hm.out]; rfl, ?_, hb02.trans ((balloc w2 _).mono hb02.size)⟩
        rw [HL.out, if_neg Hm.out]
        exact (Ow.new_ w2 [] (Nat.zero_le _)).mono hb02.size
end Go.Proofs.Ytneihfmacljjbaa
