/- the document's numbers as bytes; its reader's bytes and end -/
import Derived.Test.YtpoicbhbkabllaaVarBy
namespace Go.Proofs.Ytpoicbhbkabllaa
set_option linter.unusedSimpArgs false
set_option linter.unusedVariables false
open Go.RowKit

set_option maxRecDepth 100000 in
set_option maxHeartbeats 800000 in
theorem refnum_any (n : Nat) : ∀ (w : World), n < 18446744073709551616 → Calls Try.prog 76 #[.int .u64 (n : Int)] w fun e w' => ∃ v', e = .returned v' ∧ Ow w' w.heap.size v' (vput n) ∧ Below w.heap.size w w' := by
  induction n using Nat.strongRecOn with
  | _ n ih =>
    intro w hn
    have hlen := vput_len64 n hn
    by_cases hlt : n < 128
    · have hst := vput_lt hlt
      rw [hst]
      have hw : (((UInt8.ofNat n).toNat : Nat) : Int) = n := by rw [u8_ofNat_toNat n (by omega)]
      have hnew := Ow.new_ w [UInt8.ofNat n] (by simp [maxLen])
      have e : (b8s [UInt8.ofNat n]).toArray = #[.int .u8 (n : Int)] := by simp only [b8s, List.map_cons, List.map_nil, b8, hw]
      rw [e] at hnew
      have Hnew := Lib.hid hnew
      clear ih hst hw hnew e hlen
      go_enter Try.func76, Try.ntmps76
      go_wp2_with fail
      go_ret
      exact ⟨_, rfl, Hnew.out, balloc _ _⟩
    · have hst := vput_ge (n := n) (by omega)
      have hih := fun W => ih (n / 128) (by omega) W (by omega)
      have hnew := Ow.new_ w [UInt8.ofNat (n % 128 + 128)] (by simp [maxLen])
      have hw : (((UInt8.ofNat (n % 128 + 128)).toNat : Nat) : Int) = (n : Int) % 128 + 128 := by rw [u8_ofNat_toNat _ (by omega)]; omega
      have e : (b8s [UInt8.ofNat (n % 128 + 128)]).toArray = #[.int .u8 ((n : Int) % 128 + 128)] := by simp only [b8s, List.map_cons, List.map_nil, b8, hw]
      have e2 : ((n / 128 : Nat) : Int) = (n : Int) / 128 := by omega
      rw [e] at hnew
      rw [e2] at hih
      have hl2 : (vput (n / 128)).length ≤ 11 := (vput_len64 _ (by omega)).2
      have Hnew := Lib.hid hnew
      have Hih := Lib.hid hih
      have Hst := Lib.hid hst
      clear ih hst hw hnew e hlen e2 hih
      go_enter Try.func76, Try.ntmps76
      go_wp2_with fail
      refine (Hih.out _).mono ?_
      rintro _ w1 ⟨v1, rfl, hown1, hb1⟩
      have hs1 := hb1.size
      simp at hs1
      have hb01 := bstep (balloc w _) hb1
      go_wp2_with (at_builtin
                   refine wpList_app8 rfl (.tmp 12) (.tmp 15) rfl (Hnew.out.below_ hb1) hown1.by_ rfl rfl (by simp; omega) hb01.size ?_
                   intro v2 w2 hown2 hext2)
      go_ret
      refine ⟨_, rfl, ?_, hb01.trans (hext2.below hb01.size (by simp [Value.ownBlock]))⟩
      rw [Hst.out]
      exact hown2
def endR (l : List UInt8) (e : Int) : Int := if e = 0 ∧ 0 < l.length then 4 else e
theorem endR_eq (l : List UInt8) (e : Int) (h : e ≠ 0 → l = []) : endR l e = endE l e := by
  unfold endR endE
  by_cases he : e = 0
  · subst he; simp
  · rw [h he]; simp [he]
set_option maxRecDepth 100000 in
set_option maxHeartbeats 800000 in
theorem rend_any (w : World) (v : Value) (l : List UInt8) (e : Int) (B : Nat) (hby : By w B v l) : Calls Try.prog 64 #[.agg #[v, .int .i64 e]] w fun ev w' => ev = .returned (.int .i64 (endR l e)) ∧ Below w.heap.size w w' := by
  obtain ⟨A, c, rfl, hc1, hc2, hrd⟩ := hby
  unfold maxLen at hc2
  by_cases he : e = 0
  · subst he
    by_cases h0 : 0 < l.length
    · have hR : endR l 0 = 4 := by unfold endR; rw [if_pos ⟨rfl, h0⟩]
      rw [hR]
      clear hR hrd
      go_enter Try.func64, Try.ntmps64
      go_wp2_with fail
      go_ret
      exact ⟨rfl, balloc _ _⟩
    · have hR : endR l 0 = 0 := by unfold endR; rw [if_neg (fun h => h0 h.2)]
      rw [hR]
      have hd : decide (0 < l.length) = false := by simpa using h0
      clear hR hrd
      go_enter Try.func64, Try.ntmps64
      go_wp2_with fail
      go_ret
      exact ⟨rfl, balloc _ _⟩
  · have hR : endR l e = e := by unfold endR; rw [if_neg (fun h => he h.1)]
    rw [hR]
    have hne' : (e == 0) = false := by simpa using he
    clear hR hrd
    go_enter Try.func64, Try.ntmps64
    go_wp2_with fail
    go_ret
    exact ⟨rfl, balloc _ _⟩
set_option maxRecDepth 100000 in
set_option maxHeartbeats 1600000 in
theorem rbytes_any (w : World) (B : Nat) (v : Value) (l : List UInt8) (e n : Int) (hn : -9223372036854775808 ≤ n ∧ n ≤ 9223372036854775807) (hby : By w B v l) (hB : B ≤ w.heap.size) (hl : e ≠ 0 → l = []) :
    Calls Try.prog 62 #[.agg #[v, .int .i64 e], .int .i64 n] w fun ev w' => ∃ v1 v', ev = .returned (.tuple #[v1, .agg #[v', .int .i64 (bytesS n l e).2.2]]) ∧ By w' B v1 (bytesS n l e).1 ∧ By w' B v' (bytesS n l e).2.1 ∧ Below w.heap.size w w' := by
  obtain ⟨A, c, rfl, hc1, hc2, hrd⟩ := id hby
  unfold maxLen at hc2
  have hb0 := bstep (balloc w (.cells #[.slice A l.length c, .int .i64 e] 114)) (balloc _ (.cells #[.slice none 0 0, .int .i64 0] 114))
  by_cases he : e = 0
  · subst he
    clear hl
    by_cases hn0 : n < 0
    · have hR : bytesS n l 0 = ([], [], 1) := by unfold bytesS; rw [if_neg (by simp), if_pos hn0]
      rw [hR]
      clear hR hrd
      go_enter Try.func62, Try.ntmps62
      go_wp2_with fail
      refine bodyPost_ret (v := .tuple #[.slice (some { block := w.heap.size + 1 + 1, off := 0 }) 0 0, .agg #[.slice none 0 0, .int .i64 1]]) (by simp [results, Try.results62, go_sem]) rfl ?_
      exact ⟨_, _, rfl, By.empty _ _ (by simp), By.nil_, bstep (bstep (balloc _ _) (balloc _ _)) (balloc _ _)⟩
    · obtain ⟨k, rfl⟩ : ∃ k : Nat, n = (k : Int) := ⟨n.toNat, by omega⟩
      by_cases hnl : l.length < k
      · have hR : bytesS (k : Int) l 0 = ([], [], 2) := by unfold bytesS; rw [if_neg (by simp), if_neg hn0, if_pos (by omega)]
        rw [hR]
        clear hR hrd
        go_enter Try.func62, Try.ntmps62
        go_wp2_with fail
        refine bodyPost_ret (v := .tuple #[.slice (some { block := w.heap.size + 1 + 1, off := 0 }) 0 0, .agg #[.slice none 0 0, .int .i64 2]]) (by simp [results, Try.results62, go_sem]) rfl ?_
        exact ⟨_, _, rfl, By.empty _ _ (by simp), By.nil_, bstep (bstep (balloc _ _) (balloc _ _)) (balloc _ _)⟩
      · have hR : bytesS (k : Int) l 0 = (l.take k, l.drop k, 0) := by unfold bytesS; rw [if_neg (by simp), if_neg hn0, if_neg (by omega)]; simp
        rw [hR]
        have hfront := hby.front_ (k := k) (by omega)
        have hback := hby.back_ (k := k) (by omega)
        have Hfront := Lib.hid hfront
        have Hback := Lib.hid hback
        clear hR hfront hback hrd
        go_enter Try.func62, Try.ntmps62
        go_wp2_with fail
        go_region
        have hb2 := Hback.out
        by_cases hck : c = k
        · rw [if_pos hck] at hb2 ⊢
          go_wp2_with fail
          refine bodyPost_ret (v := .tuple #[.slice A k c, .agg #[.slice A (l.length - k) (c - k), .int .i64 0]]) (by simp [results, Try.results62, go_sem]) rfl ?_
          exact ⟨_, _, rfl, Hfront.out.below ((bdrew (bstep (balloc _ _) (balloc _ _))).mono hB), hb2.below ((bdrew (bstep (balloc _ _) (balloc _ _))).mono hB), bdrew (bstep (balloc _ _) (balloc _ _))⟩
        · rw [if_neg hck] at hb2 ⊢
          go_wp2_with fail
          refine bodyPost_ret (v := .tuple #[.slice A k c, .agg #[.slice (A.map fun x => x.add k) (l.length - k) (c - k), .int .i64 0]]) (by simp [results, Try.results62, go_sem]) rfl ?_
          exact ⟨_, _, rfl, Hfront.out.below ((bdrew (bstep (balloc _ _) (balloc _ _))).mono hB), hb2.below ((bdrew (bstep (balloc _ _) (balloc _ _))).mono hB), bdrew (bstep (balloc _ _) (balloc _ _))⟩
  · have hne : (e != 0) = true := by simpa using he
    have hne' : (e == 0) = false := by simpa using he
    have hR : bytesS n l e = ([], [], e) := by unfold bytesS; rw [if_pos he]
    rw [hR]
    have hl' := hl he
    subst hl'
    clear hR hl
    go_enter Try.func62, Try.ntmps62
    go_wp2_with fail
    go_region
    go_wp2_with fail
    refine bodyPost_ret (v := .tuple #[.slice (some { block := w.heap.size + 1 + 1, off := 0 }) 0 0, .agg #[.slice A 0 c, .int .i64 e]]) (by simp [results, Try.results62, go_sem]) rfl ?_
    exact ⟨_, _, rfl, By.empty _ _ (by simp), By.empty _ _ (by unfold maxLen; omega), bdrew (bstep (bstep (balloc _ _) (balloc _ _)) (balloc _ _))⟩
end Go.Proofs.Ytpoicbhbkabllaa
