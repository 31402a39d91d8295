/- gaps.Get -/
import Derived.Test.YteakeefocnjlhaaArc
import Derived.Test.YteakeefocnjlhaaVarNum
namespace Go.Proofs.Yteakeefocnjlhaa
set_option linter.unusedSimpArgs false
set_option linter.unusedVariables false
open Go.RowKit

theorem gget_succ (n : Nat) (acc : List GArc) (next left : Nat) (s : List UInt8) (e : Int) : gget (n + 1) acc next left s e =
    if 4294967295 < next ∨ left = 0 then ([], [], gbad s)
    else if (numS (left - 1) (numS (4294967295 - next) s e).2.1 (numS (4294967295 - next) s e).2.2).2.2 ≠ 0 then ([], [], (numS (left - 1) (numS (4294967295 - next) s e).2.1 (numS (4294967295 - next) s e).2.2).2.2)
    else gget n (acc ++ [⟨UInt32.ofNat (next + (numS (4294967295 - next) s e).1), UInt32.ofNat ((numS (left - 1) (numS (4294967295 - next) s e).2.1 (numS (4294967295 - next) s e).2.2).1 + 1)⟩]) (next + (numS (4294967295 - next) s e).1 + 1) (left - ((numS (left - 1) (numS (4294967295 - next) s e).2.1 (numS (4294967295 - next) s e).2.2).1 + 1)) (numS (left - 1) (numS (4294967295 - next) s e).2.1 (numS (4294967295 - next) s e).2.2).2.1 0 := rfl
theorem numS_dec (most : Nat) (s : List UInt8) (e : Int) (h : (numS most s e).2.2 = 0) : (numS most s e).2.1.length < s.length := by
  unfold numS at *
  split at h
  · rename_i he; exact absurd h he
  · rename_i he
    rw [if_neg he]
    obtain ⟨k, hk, h1, h2⟩ := numR_rest most s
    obtain ⟨h3, h4⟩ := h1 h
    have hne : s ≠ [] := by
      rintro rfl
      simp at hk; omega
    have := List.length_pos_iff.2 hne
    rw [h3]; simp; omega
theorem OwnR.grownRd {α : Type} {E : TypeId} {C : Cdc α} {w w' : World} {base : Nat} {v : Value} {xs : List α} {g : Nat} (h : OwnF E C w base v xs) (hg : w.grownBy w' (some g)) (hb : g < base) : OwnF E C w' base v xs :=
  h.keep hg (by
    cases hv : v.ownBlock with
    | none => exact .inl rfl
    | some q => exact .inr fun e => by injection e with e; have := (h.blk q hv).1; omega) (fun _ h => h.elim)

set_option maxRecDepth 100000 in
set_option maxHeartbeats 4000000 in
theorem gapsget_any (w : World) (g : Nat) (s0 : List UInt8) (e0 : Int) (hl : s0.length ≤ 1073741824) (h : RdrAt w g s0 e0) :
    Calls Try.prog 40 #[.pointer (some ⟨g, 0, none⟩)] w fun ev w' => ∃ v', ev = .returned v' ∧ OwnF 38 cArc w' w.heap.size v' (gread s0 e0).1 ∧ RdrAt w' g (gread s0 e0).2.1 (gread s0 e0).2.2 ∧ w.grownBy w' (some g) := by
  have hg0 := h.lt
  have hn := vnum_any w g s0 e0 18446744073709551615 (by decide) h
  rw [show (((18446744073709551615 : Nat) : Int)) = 18446744073709551615 from rfl] at hn
  have hlt := (numS_lt 18446744073709551615 s0 e0).1
  have herr := numS_err 18446744073709551615 s0 e0
  have hlen := numS_len 18446744073709551615 s0 e0
  have hR : gread s0 e0 = if (numS 18446744073709551615 s0 e0).2.2 ≠ 0 then ([], [], (numS 18446744073709551615 s0 e0).2.2) else gget (numS 18446744073709551615 s0 e0).1 [] 0 2147483647 (numS 18446744073709551615 s0 e0).2.1 0 := rfl
  generalize gread s0 e0 = R at *
  generalize numS 18446744073709551615 s0 e0 = N at *
  obtain ⟨n0, s1, e1⟩ := N
  simp only at hlt herr hlen hR
  have hR' : gget n0 [] 0 2147483647 s1 e1 = R ∧ (e1 ≠ 0 → n0 = 0) := by
    by_cases he : e1 = 0
    · subst he
      rw [if_neg (by simp)] at hR
      exact ⟨hR.symm, fun h => absurd rfl h⟩
    · rw [if_pos he] at hR
      obtain ⟨h1, h2⟩ := herr he
      subst h1; subst h2
      exact ⟨hR.symm, fun _ => rfl⟩
  obtain ⟨hR1, hR2⟩ := hR'
  have Hn := Lib.hid hn
  have HR1 := Lib.hid hR1
  have HR2 := Lib.hid hR2
  clear hR hn h herr hR1 hR2
  go_enter Try.func40, Try.ntmps40
  go_wp2_with fail
  refine Hn.out.mono ?_
  rintro _ w1 ⟨rfl, hr1, hg1⟩
  have Hr1 := Lib.hid hr1
  have Hg1 := Lib.hid hg1
  clear hr1 hg1 Hn
  go_wp2_with fail
  go_loopw [3, 4, 5, 6] (fun vo vl vx vn wr => ∃ (n : Nat) (acc : List GArc) (next left : Nat) (s : List UInt8) (e : Int), vn = .int .u64 (n : Int) ∧ vx = .int .u64 (next : Int) ∧ vl = .int .u64 (left : Int) ∧ n < 18446744073709551616 ∧ next ≤ 4294967296 ∧ left ≤ 2147483647 ∧ OwnF 38 cArc wr w.heap.size vo acc ∧ RdrAt wr g s e ∧ w.grownBy wr (some g) ∧ gget n acc next left s e = R ∧ (e ≠ 0 → n = 0) ∧ acc.length + s.length ≤ s0.length) (fun _ _ _ vn _ => (intOf vn).toNat)
  case atStart => exact ⟨n0, [], 0, 2147483647, s1, e1, rfl, rfl, rfl, hlt, by omega, by omega, OwnF.nil_ _ _, Hr1.out, Hg1.out, HR1.out, HR2.out, by simpa using hlen⟩
  case round =>
    obtain ⟨n, acc, next, left, s, e, rfl, rfl, rfl, hn, hnx, hlf, hown, hrd, hgr, hget, hen, hal⟩ := hrel
    have hsz := hgr.size
    rcases Nat.eq_zero_or_pos n with hn0 | hn0
    · subst hn0
      have hget' : (acc, s, e) = R := hget
      have Hget := Lib.hid hget'
      clear hget hget' hen
      go_wp2_with fail
      go_ret
      rw [← Hget.out]
      exact ⟨_, rfl, hown, hrd, hgr⟩
    · obtain ⟨m, rfl⟩ : ∃ m, n = m + 1 := ⟨n - 1, by omega⟩
      have he : e = 0 := by
        rcases Decidable.em (e = 0) with h | h
        · exact h
        · have := hen h; omega
      subst he
      rw [gget_succ] at hget
      have hleft := vleft_any wr g s 0 hrd
      have Hleft := Lib.hid hleft
      clear hen hleft
      by_cases hstop : 4294967295 < next ∨ left = 0
      · rw [if_pos hstop] at hget
        have Hget := Lib.hid hget
        have hgb : gbad s = if s = [] then 2 else 9 := rfl
        have hst : decide (4294967295 < (next : Int)) = true ∨ (decide (4294967295 < (next : Int)) = false ∧ ((left : Int) == 0) = true) := by
          rcases Decidable.em (4294967295 < next) with h | h
          · left; simp; omega
          · right; simp; omega
        clear hget hstop
        by_cases hs : s = []
        · subst hs
          rw [if_pos rfl] at hgb
          have hbad := vbad_any wr g [] 0 2 hrd (by decide)
          have hb2 : badL [] 0 2 = [] := rfl
          have he2 : badE 0 2 = 2 := rfl
          rw [hb2, he2] at hbad
          have Hbad := Lib.hid hbad
          have Hgb := Lib.hid hgb
          clear hbad hgb hb2 he2
          rcases hst with h1 | ⟨h1, h2⟩
          all_goals
            go_wp2_with (first
              | (go_at_call 30; refine Hleft.out.mono ?_; rintro _ _ ⟨rfl, rfl⟩))
            refine Hbad.out.mono ?_
            rintro _ w2 ⟨rfl, hr2, hg2⟩
            have hbad2 := vbad_any w2 g [] 2 9 hr2 (by decide)
            have hb3 : badL [] 2 9 = [] := rfl
            have he3 : badE 2 9 = 2 := rfl
            rw [hb3, he3] at hbad2
            go_wp2_with fail
            refine hbad2.mono ?_
            rintro _ w3 ⟨rfl, hr3, hg3⟩
            go_wp2_with fail
            go_ret
            rw [← Hget.out, Hgb.out]
            exact ⟨_, rfl, OwnF.nil_ _ _, hr3, gtrans hgr (gtrans hg2 hg3)⟩
        · rw [if_neg hs] at hgb
          have hlp := List.length_pos_iff.2 hs
          have hbad := vbad_any wr g s 0 9 hrd (by decide)
          have hb2 : badL s 0 9 = [] := by unfold badL; rw [if_pos ⟨rfl, by decide⟩]
          have he2 : badE 0 9 = 9 := rfl
          rw [hb2, he2] at hbad
          have hl0 : ((s.length : Int) == 0) = false := beq_eq_false_iff_ne.2 (by omega)
          have Hbad := Lib.hid hbad
          have Hgb := Lib.hid hgb
          clear hbad hgb hb2 he2 hs
          rcases hst with h1 | ⟨h1, h2⟩
          all_goals
            go_wp2_with (first
              | (go_at_call 30; refine Hleft.out.mono ?_; rintro _ _ ⟨rfl, rfl⟩))
            refine Hbad.out.mono ?_
            rintro _ w3 ⟨rfl, hr3, hg3⟩
            go_wp2_with fail
            go_ret
            rw [← Hget.out, Hgb.out]
            exact ⟨_, rfl, OwnF.nil_ _ _, hr3, gtrans hgr hg3⟩
      · rw [if_neg hstop] at hget
        have hns : next ≤ 4294967295 ∧ 0 < left := by omega
        have hd1 : decide (4294967295 < (next : Int)) = false := by simp; omega
        have hd2 : ((left : Int) == 0) = false := beq_eq_false_iff_ne.2 (by omega)
        have hsub : (4294967295 : Int) - (next : Int) = ((4294967295 - next : Nat) : Int) := by omega
        have hsub2 : (left : Int) - 1 = ((left - 1 : Nat) : Int) := by omega
        have hn1 := vnum_any wr g s 0 (4294967295 - next) (by omega) hrd
        have hb1 := numS_lt (4294967295 - next) s 0
        have hdec1 := numS_dec (4294967295 - next) s 0
        have hlen1 := numS_len (4294967295 - next) s 0
        have herr1 := numS_err (4294967295 - next) s 0
        generalize numS (4294967295 - next) s 0 = r at *
        obtain ⟨r1, s2, e2⟩ := r
        simp only at hget hb1 hdec1 hlen1 herr1
        have hb2 := numS_lt (left - 1) s2 e2
        have hlen2 := numS_len (left - 1) s2 e2
        have hn2 := fun W h => vnum_any W g s2 e2 (left - 1) (by omega) h
        have hdx : (numS (left - 1) s2 e2).2.2 = 0 → (numS (left - 1) s2 e2).2.1.length < s.length := fun h => by have := numS_dec (left - 1) s2 e2 h; omega
        generalize numS (left - 1) s2 e2 = q at *
        obtain ⟨q1, s3, e3⟩ := q
        simp only at hget hb2 hlen2 hn2 hdx
        have Hn1 := Lib.hid hn1
        have Hn2 := Lib.hid hn2
        have Hget := Lib.hid hget
        have hown' := Lib.hid hown
        have hdd : e3 = 0 → s3.length < s.length := hdx
        have Hd := Lib.hid hdd
        clear hn1 hn2 hget hstop hdec1 herr1 hown hdx hdd
        go_wp2_with fail
        refine Hn1.out.mono ?_
        rintro _ w2 ⟨rfl, hrd2, hg2⟩
        go_wp2_with fail
        refine (Hn2.out _ hrd2).mono ?_
        rintro _ w3 ⟨rfl, hrd3, hg3⟩
        have hg03 : wr.grownBy w3 (some g) := gtrans hg2 hg3
        have hown3 := hown'.out.grownRd hg03 hg0
        have hgr3 := gtrans hgr hg03
        have hsz3 := hgr3.size
        have herrc := verr_any w3 g s3 e3 hrd3
        have Herr := Lib.hid herrc
        clear herrc hrd2 hg2 hg3 hown'
        by_cases he3 : e3 = 0
        · subst he3
          have hget := Hget.out
          rw [if_neg (by simp)] at hget
          have hu1 := u32_ofNat_toNat (next + r1) (by omega)
          have hu2 := u32_ofNat_toNat (q1 + 1) (by omega)
          have hs23 : s3.length < s.length := by
            have := Hd.out
            omega
          have Hu1 := Lib.hid hu1
          have Hu2 := Lib.hid hu2
          have Hget2 := Lib.hid hget
          clear Hget hget hu1 hu2
          go_wp2_with (first
            | (go_at_call 31; refine Herr.out.mono ?_; rintro _ _ ⟨rfl, rfl⟩)
            | (at_builtin
               go_loud (refine wpList_app1R rfl (.tmp 42) (.tmp 48) 32 rfl Try.underlying32 infoArc rfl (by decide) (by decide) (y := ⟨UInt32.ofNat (next + r1), UInt32.ofNat (q1 + 1)⟩) [.int .u32 ((next : Int) + (r1 : Int)), .int .u32 ((q1 : Int) + 1)] hown3 ⟨by simp only [Hu1.out, Hu2.out]; first | done | rfl | simp, trivial⟩ rfl rfl (by omega) hsz3 ?_)
               intro v4 w4 hown4 hext4))
          go_roundw
          case rel =>
            have hlt3 : g < w3.heap.size := hrd3.lt
            exact ⟨m, _, next + r1 + 1, left - (q1 + 1), s3, 0, by go_num, by go_num, by go_num, by omega, by omega, by omega, hown4, hrd3.grown hext4.gr (fun k hk => by have := (hown3.blk k hk).1; omega), gnew hgr3 hext4.gr (fun i hi => .inl (hown3.blk i hi).1), Hget2.out, fun h => absurd rfl h, by simp; omega⟩
          case measure => first | (simp [intOf]; done) | (simp [intOf]; omega)
        · have hne : (e3 == 0) = false := by simpa using he3
          have hne' : (e3 != 0) = true := by simpa using he3
          have hget := Hget.out
          rw [if_pos he3] at hget
          have hs3 := hrd3.err he3
          subst hs3
          have Hget2 := Lib.hid hget
          clear hget Hget he3
          go_wp2_with (go_at_call 31; refine Herr.out.mono ?_; rintro _ _ ⟨rfl, rfl⟩)
          go_ret
          rw [← Hget2.out]
          exact ⟨_, rfl, OwnF.nil_ _ _, hrd3, hgr3⟩
end Go.Proofs.Yteakeefocnjlhaa
