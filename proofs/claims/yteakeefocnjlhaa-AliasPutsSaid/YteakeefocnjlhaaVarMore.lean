/- numbers with a sign, bytes: the program's, and the document's -/
import Derived.Test.YteakeefocnjlhaaVarRefNum
namespace Go.Proofs.Yteakeefocnjlhaa
set_option linter.unusedSimpArgs false
set_option linter.unusedVariables false
open Go.RowKit

/-- the number that stands for one with a sign, and back -/
def zz (k : Int) : Nat := if 0 ≤ k then 2 * k.toNat else 2 * (-(k + 1)).toNat + 1
def unzz (n : Nat) : Int := if n % 2 = 1 then -((n / 2 : Nat) : Int) - 1 else ((n / 2 : Nat) : Int)
theorem zz_lt (k : Int) (h1 : -9223372036854775808 ≤ k) (h2 : k ≤ 9223372036854775807) : zz k < 18446744073709551616 := by unfold zz; split <;> omega
theorem unzz_zz (k : Int) : unzz (zz k) = k := by unfold unzz zz; split <;> split <;> omega

theorem and1_u64 (n : Nat) (h : n < 18446744073709551616) : bits .and .u64 (n : Int) 1 = ((n % 2 : Nat) : Int) := by
  have := u64_and_nat n 1 h (by decide)
  rw [nat_mask1] at this
  simpa using this
theorem xor0_i64 (a : Int) (h1 : -9223372036854775808 ≤ a) (h2 : a ≤ 9223372036854775807) : bits .xor .i64 a 0 = a := by
  have e : (BitVec.ofInt 64 a ^^^ BitVec.ofInt 64 0) = BitVec.ofInt 64 a := by simp
  have e2 : bits .xor .i64 a 0 = IntKind.i64.wrap ((BitVec.ofInt 64 a ^^^ BitVec.ofInt 64 0).toNat : Nat) := rfl
  rw [e2, e, BitVec.toNat_ofInt, wrap_i64]
  omega
theorem xorm1_i64 (a : Int) (h1 : -9223372036854775808 ≤ a) (h2 : a ≤ 9223372036854775807) : bits .xor .i64 a (-1) = -a - 1 := by
  have e : (BitVec.ofInt 64 a ^^^ BitVec.ofInt 64 (-1)) = ~~~ (BitVec.ofInt 64 a) := by
    rw [show BitVec.ofInt 64 (-1) = BitVec.allOnes 64 from by decide, BitVec.xor_allOnes]
  have e2 : bits .xor .i64 a (-1) = IntKind.i64.wrap ((BitVec.ofInt 64 a ^^^ BitVec.ofInt 64 (-1)).toNat : Nat) := rfl
  rw [e2, e, BitVec.toNat_not, BitVec.toNat_ofInt, wrap_i64]
  omega
theorem xor0_u64 (n : Nat) (h : n < 18446744073709551616) : bits .xor .u64 (n : Int) 0 = n := by
  have := u64_xor_nat n 0 h (by decide)
  simpa using this
theorem xorm1_u64 (n : Nat) (h : n < 18446744073709551616) : bits .xor .u64 (n : Int) 18446744073709551615 = ((18446744073709551615 - n : Nat) : Int) := by
  have h1 := compl_u64 (UInt64.ofNat n)
  have e1 : (UInt64.ofNat n).toNat = n := by rw [UInt64.toNat_ofNat']; exact Nat.mod_eq_of_lt (by omega)
  have h2 := u64_xor_nat n 18446744073709551615 h (by decide)
  rw [show (((18446744073709551615 : Nat) : Int)) = 18446744073709551615 from rfl] at h2
  rw [h2]
  have h3 := u64_xor_nat 18446744073709551615 n (by decide) h
  rw [show (((18446744073709551615 : Nat) : Int)) = IntKind.u64.max from rfl, ← e1, h1, e1] at h3
  rw [Nat.xor_comm, ← h3, UInt64.toNat_not, e1]
  rfl
set_option maxRecDepth 100000 in
set_option maxHeartbeats 800000 in
theorem vsigned_any (w : World) (g : Nat) (l : List UInt8) (e : Int) (h : RdrAt w g l e) :
    Calls Try.prog 28 #[.pointer (some ⟨g, 0, none⟩)] w fun ev w' => ev = .returned (.int .i64 (unzz (numS 18446744073709551615 l e).1)) ∧ RdrAt w' g (numS 18446744073709551615 l e).2.1 (numS 18446744073709551615 l e).2.2 ∧ w.grownBy w' (some g) := by
  have hn := vnum_any w g l e 18446744073709551615 (by decide) h
  have hlt := (numS_lt 18446744073709551615 l e).1
  rw [show (((18446744073709551615 : Nat) : Int)) = 18446744073709551615 from rfl] at hn
  generalize numS 18446744073709551615 l e = R at *
  obtain ⟨n, l', e'⟩ := R
  simp only at hlt
  have hand := and1_u64 n hlt
  have hx0 := xor0_i64 ((n : Int) / 2) (by omega) (by omega)
  have hx1 := xorm1_i64 ((n : Int) / 2) (by omega) (by omega)
  have hu : unzz n = if n % 2 = 1 then -((n : Int) / 2) - 1 else ((n : Int) / 2) := by
    have e : ((n / 2 : Nat) : Int) = (n : Int) / 2 := by omega
    unfold unzz
    rw [e]
  go_enter Try.func28, Try.ntmps28
  go_wp2_with fail
  refine hn.mono ?_
  rintro _ w1 ⟨rfl, hr1, hg1⟩
  have Hr := Lib.hid hr1
  have Hu := Lib.hid hu
  rcases Nat.mod_two_eq_zero_or_one n with hm | hm
  all_goals
    rw [hm] at hand
    have Hm := Lib.hid hm
    clear hn hr1 hu h hm
    go_wp2_with fail
    go_ret
    refine ⟨ret_i64 ?_, Hr.out, hg1⟩
    rw [Hu.out, Hm.out]
    rfl
/-- a reader's bytes: the bytes, what is left, the error -/
def bytesS (n : Int) (l : List UInt8) (e : Int) : List UInt8 × List UInt8 × Int :=
  if e ≠ 0 then ([], [], e) else if n < 0 then ([], [], 1) else if (l.length : Int) < n then ([], [], 2) else (l.take n.toNat, l.drop n.toNat, 0)
set_option maxRecDepth 100000 in
set_option maxHeartbeats 800000 in
theorem vbytes_any (w : World) (g : Nat) (l : List UInt8) (e n : Int) (hn : -9223372036854775808 ≤ n ∧ n ≤ 9223372036854775807) (hsz : l.length ≤ 140737488355328) (h : RdrAt w g l e) :
    Calls Try.prog 29 #[.pointer (some ⟨g, 0, none⟩), .int .i64 n] w fun ev w' => ∃ v', ev = .returned v' ∧ Ow w' w.heap.size v' (bytesS n l e).1 ∧ RdrAt w' g (bytesS n l e).2.1 (bytesS n l e).2.2 ∧ w.grownBy w' (some g) := by
  have h0 := h
  obtain ⟨v, l', h1, h2, h3, h4, h5⟩ := h
  have hc := h1.cell 1 _ rfl
  have hd := h1.cell 0 _ rfl
  have hfr := h1.frozen 0
  by_cases he : e = 0
  · obtain rfl := h3 he
    subst he
    obtain ⟨A, c, rfl, hc1, hc2, hrd⟩ := id h2
    unfold maxLen at hc2
    have hbad := fun (n : Int) hn => vbad_any w g l' 0 n h0 hn
    have Hbad := Lib.hid hbad
    clear hbad h3 h4
    by_cases hn0 : n < 0
    · have hR : bytesS n l' 0 = ([], [], 1) := by unfold bytesS; rw [if_neg (by simp), if_pos hn0]
      rw [hR]
      clear hR
      go_enter Try.func29, Try.ntmps29
      go_wp2_with (first
        | (go_at_call 34; refine (Hbad.out 1 (by decide)).mono ?_; rintro _ w1 ⟨rfl, hr1, hg1⟩))
      go_ret
      exact ⟨_, rfl, Ow.nil_ _ _, hr1, hg1⟩
    · obtain ⟨k, rfl⟩ : ∃ k : Nat, n = (k : Int) := ⟨n.toNat, by omega⟩
      by_cases hnl : l'.length < k
      · have hR : bytesS (k : Int) l' 0 = ([], [], 2) := by unfold bytesS; rw [if_neg (by simp), if_neg hn0, if_pos (by omega)]
        rw [hR]
        clear hR
        go_enter Try.func29, Try.ntmps29
        go_wp2_with (first
          | (go_at_call 34; refine (Hbad.out 2 (by decide)).mono ?_; rintro _ w1 ⟨rfl, hr1, hg1⟩))
        go_ret
        exact ⟨_, rfl, Ow.nil_ _ _, hr1, hg1⟩
      · have hR : bytesS (k : Int) l' 0 = (l'.take k, l'.drop k, 0) := by unfold bytesS; rw [if_neg (by simp), if_neg hn0, if_neg (by omega)]; simp
        rw [hR]
        have hlt := h1.lt
        have hfront := (h2.front_ (k := k) (by omega)).more (B' := w.heap.size) (by omega)
        have hback := h2.back_ (k := k) (by omega)
        have htl : (l'.take k).length ≤ 140737488355328 := by simp; omega
        have hcl := clone8 w _ (l'.take k) hfront htl
        have Hfront := Lib.hid hfront
        have Hback := Lib.hid hback
        have Hcl := Lib.hid hcl
        clear hR hfront hback hcl htl hrd
        go_enter Try.func29, Try.ntmps29
        go_wp2_with fail
        refine Hcl.out.mono ?_
        rintro _ w1 ⟨v1, rfl, hown1, hb1⟩
        have h11 := h1.below hlt hb1
        have hd1 := h11.cell 0 _ rfl
        have hfr1 := h11.frozen 0
        have hlt1 := h11.lt
        have hkeep : ∀ u, Ow (w1.setCell ⟨g, 0, none⟩ u) w.heap.size v1 (l'.take k) := fun u => hown1.keep (gset w1 ⟨g, 0, none⟩ u) (by
          cases hv : v1.ownBlock with
          | none => exact .inl rfl
          | some q => exact .inr (fun e => by injection e with e; have h8 := (hown1.blk q hv).1; have h9 : q = g := e; omega))
        have Hkeep := Lib.hid hkeep
        clear hkeep
        have H11 := Lib.hid h11
        clear hown1 h11 hd hc hfr h1
        go_wp2_with fail
        all_goals
          go_ret
          refine ⟨_, rfl, Hkeep.out _, ?_, gtrans (gbelow hb1 _) (gset _ _ _)⟩
          have hb2 := Hback.out
          first | rw [if_pos (show c = k by first | assumption | omega), show c - k = 0 from by omega] at hb2 | rw [if_neg (show ¬ c = k by first | assumption | omega)] at hb2
          exact ⟨_, _, H11.out.put 0 _, hb2.below ((hb1.mono (by omega)).trans ((Below.refl _ _).setCell (p := ⟨g, 0, none⟩) (Nat.le_refl _) _)), fun _ => rfl, fun h => absurd rfl h, by show _ ≤ (0 : Int); decide, by show (0 : Int) ≤ _; decide⟩
  · have hne : (e != 0) = true := by simpa using he
    have hne' : (e == 0) = false := by simpa using he
    have hR : bytesS n l e = ([], [], e) := by unfold bytesS; rw [if_pos he]
    rw [hR]
    have hl := h4 he
    subst hl
    clear hR
    go_enter Try.func29, Try.ntmps29
    go_wp2_with fail
    go_ret
    exact ⟨_, rfl, Ow.nil_ _ _, h0, grefl _ _⟩

theorem zz_wrap (k : Int) (h1 : -9223372036854775808 ≤ k) (h2 : k < 0) : zz k = (-(2 * k) - 1).toNat := by unfold zz; rw [if_neg (by omega)]; omega
set_option maxRecDepth 100000 in
set_option maxHeartbeats 800000 in
theorem vputs_any (w : World) (base : Nat) (v0 : Value) (l0 : List UInt8) (hown : Ow w base v0 l0) (k : Int) (hk : -9223372036854775808 ≤ k ∧ k ≤ 9223372036854775807) (hsz0 : l0.length ≤ 549755813888) (hbase : base ≤ w.heap.size) :
    Calls Try.prog 37 #[v0, .int .i64 k] w fun e w' => ∃ v', e = .returned v' ∧ Ow w' base v' (l0 ++ vput (zz k)) ∧ Ext w w' v0 v' := by
  have hlt := zz_lt k hk.1 hk.2
  have hp := vput_any w base v0 l0 hown (zz k) hlt hsz0 hbase
  have hz0 : 0 ≤ k → zz k = 2 * k.toNat := fun h => by unfold zz; rw [if_pos h]
  have hz1 : k < 0 → zz k = 2 * (-(k + 1)).toNat + 1 := fun h => by unfold zz; rw [if_neg (by omega)]
  generalize zz k = z at *
  have Hp := Lib.hid hp
  clear hp hown
  by_cases h0 : 0 ≤ k
  · obtain ⟨m, rfl⟩ : ∃ m : Nat, k = (m : Int) := ⟨k.toNat, by omega⟩
    have hz := hz0 h0
    obtain rfl : z = 2 * m := by omega
    have hx : bits .xor .u64 ((m : Int) * 2) ((m : Int) / 9223372036854775808) = ((2 * m : Nat) : Int) := by
      have e := xor0_u64 (2 * m) hlt
      rw [show ((m : Int) * 2) = ((2 * m : Nat) : Int) from by omega, show (m : Int) / 9223372036854775808 = 0 from by omega]
      exact e
    clear hz hz0 hz1
    go_enter Try.func37, Try.ntmps37
    go_wp2_with fail
    refine Hp.out.mono ?_
    rintro _ w1 ⟨v1, rfl, hown1, hext1⟩
    go_wp2_with fail
    go_ret
    exact ⟨_, rfl, hown1, hext1⟩
  · have hz := hz1 (by omega)
    have hx : bits .xor .u64 (IntKind.u64.wrap (IntKind.u64.wrap k * 2)) (IntKind.u64.wrap (k / 9223372036854775808)) = (z : Int) := by
      have e1 : IntKind.u64.wrap (k / 9223372036854775808) = 18446744073709551615 := by rw [wrap_u64]; omega
      have e2 : IntKind.u64.wrap (IntKind.u64.wrap k * 2) = (((2 * k + 18446744073709551616).toNat : Nat) : Int) := by rw [wrap_u64, wrap_u64]; omega
      rw [e1, e2, xorm1_u64 _ (by omega)]
      omega
    clear hz hz0 hz1
    go_enter Try.func37, Try.ntmps37
    go_wp2_with fail
    refine Hp.out.mono ?_
    rintro _ w1 ⟨v1, rfl, hown1, hext1⟩
    go_wp2_with fail
    go_ret
    exact ⟨_, rfl, hown1, hext1⟩
end Go.Proofs.Yteakeefocnjlhaa
