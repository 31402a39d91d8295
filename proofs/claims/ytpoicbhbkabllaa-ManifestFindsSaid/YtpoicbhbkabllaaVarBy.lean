/- a reader's bytes -/
import Derived.Test.YtpoicbhbkabllaaVarRefNum
namespace Go.Proofs.Ytpoicbhbkabllaa
set_option linter.unusedSimpArgs false
set_option linter.unusedVariables false
open Go.RowKit

/-- a reader's bytes: the bytes, what is left, the error -/
def bytesS (n : Int) (l : List UInt8) (e : Int) : List UInt8 × List UInt8 × Int :=
  if e ≠ 0 then ([], [], e) else if n < 0 then ([], [], 1) else if (l.length : Int) < n then ([], [], 2) else (l.take n.toNat, l.drop n.toNat, 0)
set_option maxRecDepth 100000 in
set_option maxHeartbeats 800000 in
theorem vbytes_any (w : World) (g : Nat) (l : List UInt8) (e n : Int) (hn : -9223372036854775808 ≤ n ∧ n ≤ 9223372036854775807) (hsz : l.length ≤ 140737488355328) (h : RdrAt w g l e) :
    Calls Try.prog 85 #[.pointer (some ⟨g, 0, none⟩), .int .i64 n] w fun ev w' => ∃ v', ev = .returned v' ∧ Ow w' w.heap.size v' (bytesS n l e).1 ∧ RdrAt w' g (bytesS n l e).2.1 (bytesS n l e).2.2 ∧ w.grownBy w' (some g) := by
  have h0 := h
  obtain ⟨v, l', h1, h2, h3, h4, h5⟩ := h
  have hc := h1.cell 1 _ rfl
  have hd := h1.cell 0 _ rfl
  have hfr := h1.frozen 0
  by_cases he : e = 0
  · obtain rfl := h3 he
    subst he
    obtain ⟨A, c, rfl, hc1, hc2, hrd⟩ := id h2
    unfold maxLen at hc2
    have hbad := fun (n : Int) hn => vbad_any w g l' 0 n h0 hn
    have Hbad := Lib.hid hbad
    clear hbad h3 h4
    by_cases hn0 : n < 0
    · have hR : bytesS n l' 0 = ([], [], 1) := by unfold bytesS; rw [if_neg (by simp), if_pos hn0]
      rw [hR]
      clear hR
      go_enter Try.func85, Try.ntmps85
      go_wp2_with (first
        | (go_at_call 97; refine (Hbad.out 1 (by decide)).mono ?_; rintro _ w1 ⟨rfl, hr1, hg1⟩))
      go_ret
      exact ⟨_, rfl, Ow.nil_ _ _, hr1, hg1⟩
    · obtain ⟨k, rfl⟩ : ∃ k : Nat, n = (k : Int) := ⟨n.toNat, by omega⟩
      by_cases hnl : l'.length < k
      · have hR : bytesS (k : Int) l' 0 = ([], [], 2) := by unfold bytesS; rw [if_neg (by simp), if_neg hn0, if_pos (by omega)]
        rw [hR]
        clear hR
        go_enter Try.func85, Try.ntmps85
        go_wp2_with (first
          | (go_at_call 97; refine (Hbad.out 2 (by decide)).mono ?_; rintro _ w1 ⟨rfl, hr1, hg1⟩))
        go_ret
        exact ⟨_, rfl, Ow.nil_ _ _, hr1, hg1⟩
      · have hR : bytesS (k : Int) l' 0 = (l'.take k, l'.drop k, 0) := by unfold bytesS; rw [if_neg (by simp), if_neg hn0, if_neg (by omega)]; simp
        rw [hR]
        have hlt := h1.lt
        have hfront := (h2.front_ (k := k) (by omega)).more (B' := w.heap.size) (by omega)
        have hback := h2.back_ (k := k) (by omega)
        have htl : (l'.take k).length ≤ 140737488355328 := by simp; omega
        have hcl := clone8 w _ (l'.take k) hfront htl
        have Hfront := Lib.hid hfront
        have Hback := Lib.hid hback
        have Hcl := Lib.hid hcl
        clear hR hfront hback hcl htl hrd
        go_enter Try.func85, Try.ntmps85
        go_wp2_with fail
        refine Hcl.out.mono ?_
        rintro _ w1 ⟨v1, rfl, hown1, hb1⟩
        have h11 := h1.below hlt hb1
        have hd1 := h11.cell 0 _ rfl
        have hfr1 := h11.frozen 0
        have hlt1 := h11.lt
        have hkeep : ∀ u, Ow (w1.setCell ⟨g, 0, none⟩ u) w.heap.size v1 (l'.take k) := fun u => hown1.keep (gset w1 ⟨g, 0, none⟩ u) (by
          cases hv : v1.ownBlock with
          | none => exact .inl rfl
          | some q => exact .inr (fun e => by injection e with e; have h8 := (hown1.blk q hv).1; have h9 : q = g := e; omega))
        have Hkeep := Lib.hid hkeep
        clear hkeep
        have H11 := Lib.hid h11
        clear hown1 h11 hd hc hfr h1
        go_wp2_with fail
        all_goals
          go_ret
          refine ⟨_, rfl, Hkeep.out _, ?_, gtrans (gbelow hb1 _) (gset _ _ _)⟩
          have hb2 := Hback.out
          first | rw [if_pos (show c = k by first | assumption | omega), show c - k = 0 from by omega] at hb2 | rw [if_neg (show ¬ c = k by first | assumption | omega)] at hb2
          exact ⟨_, _, H11.out.put 0 _, hb2.below ((hb1.mono (by omega)).trans ((Below.refl _ _).setCell (p := ⟨g, 0, none⟩) (Nat.le_refl _) _)), fun _ => rfl, fun h => absurd rfl h, by show _ ≤ (0 : Int); decide, by show (0 : Int) ≤ _; decide⟩
  · have hne : (e != 0) = true := by simpa using he
    have hne' : (e == 0) = false := by simpa using he
    have hR : bytesS n l e = ([], [], e) := by unfold bytesS; rw [if_pos he]
    rw [hR]
    have hl := h4 he
    subst hl
    clear hR
    go_enter Try.func85, Try.ntmps85
    go_wp2_with fail
    go_ret
    exact ⟨_, rfl, Ow.nil_ _ _, h0, grefl _ _⟩
end Go.Proofs.Ytpoicbhbkabllaa
