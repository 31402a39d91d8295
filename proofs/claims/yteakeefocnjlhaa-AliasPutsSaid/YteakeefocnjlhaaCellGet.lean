/- alias.Get -/
import Derived.Test.YteakeefocnjlhaaRBuild
import Derived.Test.YteakeefocnjlhaaGapsGet
namespace Go.Proofs.Yteakeefocnjlhaa
set_option linter.unusedSimpArgs false
set_option linter.unusedVariables false
open Go.RowKit

/-- n cells are read; W: the most a cut may be; most: the most another may be -/
def cget (W most : Nat) : Nat → List GCell → List UInt8 → Int → List GCell × List UInt8 × Int
  | 0, acc, s, e => (acc, s, e)
  | n + 1, acc, s, e =>
    if (numS most (numS W s e).2.1 (numS W s e).2.2).2.2 ≠ 0 then ([], (numS most (numS W s e).2.1 (numS W s e).2.2).2.1, (numS most (numS W s e).2.1 (numS W s e).2.2).2.2)
    else cget W most n (acc ++ [mkC (numS W s e).1 (numS most (numS W s e).2.1 (numS W s e).2.2).1]) (numS most (numS W s e).2.1 (numS W s e).2.2).2.1 0
def lenOf : Value → Nat
  | .slice _ n _ => n
  | _ => 0

set_option maxRecDepth 100000 in
set_option maxHeartbeats 3200000 in
theorem aget_any (w : World) (g d W : Nat) (s : List UInt8) (e : Int) (hW : W < 18446744073709551616) (hd : d ≤ 1073741824) (h : RdrAt w g s e) :
    Calls Try.prog 67 #[.pointer (some ⟨g, 0, none⟩), .int .i64 (d : Int), .int .u64 (W : Int)] w fun ev w' => ∃ vo, ev = .returned vo ∧ OwnF 83 cCell w' w.heap.size vo (cget W (min (d - 1) 4294967295) d [] s e).1 ∧
      RdrAt w' g (cget W (min (d - 1) 4294967295) d [] s e).2.1 (cget W (min (d - 1) 4294967295) d [] s e).2.2 ∧ w.grownBy w' (some g) := by
  have hg := h.lt
  generalize hR : cget W (min (d - 1) 4294967295) d [] s e = R at *
  have HR := Lib.hid hR
  have H := Lib.hid h
  clear hR h
  go_enter Try.func67, Try.ntmps67
  go_wp2_with fail
  go_loopw [7] (fun o wr => ∃ (acc : List GCell) (s' : List UInt8) (e' : Int), OwnF 83 cCell wr w.heap.size o acc ∧ acc.length ≤ d ∧ RdrAt wr g s' e' ∧ w.grownBy wr (some g) ∧ cget W (min (d - 1) 4294967295) (d - acc.length) acc s' e' = R) (fun o _ => d - lenOf o)
  case atStart => exact ⟨[], s, e, OwnF.nil_ _ _, by simp, H.out, grefl w _, HR.out⟩
  case round =>
    obtain ⟨acc, s', e', hown, hlen, hrd, hgr, hcg⟩ := hrel
    obtain ⟨A, c, rfl, hc1, hc2, hc3⟩ := hown.form'
    clear hc3
    have hsz := hgr.size
    have Hown := Lib.hid hown
    have Hgr := Lib.hid hgr
    by_cases hlt : acc.length < d
    · obtain ⟨n, hn⟩ : ∃ n, d - acc.length = n + 1 := ⟨d - acc.length - 1, by omega⟩
      rw [hn, cget] at hcg
      have h1 := numS_lt W s' e'
      have hN1 := vnum_any wr g s' e' W hW hrd
      generalize numS W s' e' = P1 at *
      obtain ⟨a, s1, e1⟩ := P1
      simp only at hcg h1 hN1
      have h2 := numS_lt (min (d - 1) 4294967295) s1 e1
      have hN2 := fun w' h => vnum_any w' g s1 e1 (min (d - 1) 4294967295) (by omega) h
      generalize numS (min (d - 1) 4294967295) s1 e1 = P2 at *
      obtain ⟨b, s2, e2⟩ := P2
      simp only at hcg h2 hN2
      have HN1 := Lib.hid hN1
      have HN2 := Lib.hid hN2
      have Hcg := Lib.hid hcg
      have hbb : b ≤ 4294967295 := by have := h2.2; omega
      obtain ⟨ha, _⟩ := h1
      have hmin : min ((d : Int) - 1) 4294967295 = ((min (d - 1) 4294967295 : Nat) : Int) := by omega
      have hsub : IntKind.u64.wrap ((d : Int) - 1) = (d : Int) - 1 := by rw [wrap_u64]; omega
      have hw32 : IntKind.u32.wrap (b : Int) = (b : Int) := by rw [IntKind.wrap_u32']; omega
      clear hown hrd hgr hcg hN1 hN2 h2
      generalize min (d - 1) 4294967295 = most at *
      go_wp2_with fail
      refine HN1.out.mono ?_
      rintro _ w1 ⟨rfl, hrd1, hg1⟩
      go_wp2_with fail
      refine (HN2.out w1 hrd1).mono ?_
      rintro _ w2 ⟨rfl, hrd2, hg2⟩
      have hg02 := gtrans hg1 hg2
      have Hg02 := Lib.hid hg02
      have Hrd2 := Lib.hid hrd2
      have Hown2 := Lib.hid (OwnR.grownRd Hown.out hg02 hg)
      have hs2 := hg02.size
      clear hrd1 hg1 hrd2 hg2 hg02 HN1 HN2 Hown
      go_wp2_with fail
      have hal := balloc w2 (.cells #[.int .u64 (a : Int), .int .u32 (b : Int)] 83)
      have hbx := BoxAt.new_ 83 w2 [.int .u64 (a : Int), .int .u32 (b : Int)]
      have hrd3 := Hrd2.out.below (Nat.lt_of_lt_of_le hg (Nat.le_trans hsz hs2)) hal
      have Hown3 := Lib.hid (Hown2.out.below_ hal)
      have hsz3 := hal.size
      have Hal := Lib.hid hal
      generalize hw3 : w2.alloc (.cells #[.int .u64 (a : Int), .int .u32 (b : Int)] 83) = w3 at *
      clear hw3
      have hxa := hbx.cell 0 _ rfl
      have hxb := hbx.cell 1 _ rfl
      have Hrd3 := Lib.hid hrd3
      clear hal hbx hrd3 Hrd2 Hown2
      refine (verr_any w3 g s2 e2 Hrd3.out).mono ?_
      rintro _ _ ⟨rfl, rfl⟩
      by_cases he : e2 = 0
      · subst he
        go_wp2_with (at_builtin
                     go_loud (refine wpList_app1R rfl (.tmp 31) (.tmp 33) 67 rfl Try.underlying67 infoCell2 rfl (by decide) (by decide) (y := mkC a b) [.int .u64 (a : Int), .int .u32 (b : Int)] Hown3.out ⟨by show _ = [Value.int .u64 ((mkC a b).cut.toNat : Int), .int .u32 ((mkC a b).oth.toNat : Int)]; rw [mkC_cut _ _ ha, mkC_oth _ _ (by omega)], trivial⟩ rfl rfl (by omega) (by omega) ?_)
                     intro v4 w4 hown4 hext4)
        have hb4 : Below w.heap.size w3 w4 := hext4.below (by omega) fun q hq => (Hown3.out.blk q hq).1
        have hg4 : w.grownBy w4 (some g) := gnew (gtrans (gtrans Hgr.out Hg02.out) (gbelow Hal.out _)) hext4.gr (fun i hi => Or.inl (Hown3.out.blk i hi).1)
        have hrd4 := Hrd3.out.below hg hb4
        have hc2 := Hcg.out
        rw [if_neg (by simp)] at hc2
        have hl4 : (acc ++ [mkC a b]).length = acc.length + 1 := by simp
        have hdn : d - (acc ++ [mkC a b]).length = n := by rw [hl4]; omega
        obtain ⟨A4, c4, rfl, _, _, _⟩ := hown4.form'
        have Hown4 := Lib.hid hown4
        clear hown4 hext4
        rw [← hdn] at hc2
        go_roundw
        case rel => exact ⟨acc ++ [mkC a b], s2, 0, Hown4.out, by rw [hl4]; omega, hrd4, hg4, hc2⟩
        case measure => simp [lenOf]; omega
      · have hed : (e2 != 0) = true := by simp [he]
        go_wp2_with fail
        go_ret
        have hc2 := Hcg.out
        rw [if_pos he] at hc2
        rw [← hc2]
        exact ⟨_, rfl, OwnF.nil_ _ _, Hrd3.out, gtrans (gtrans Hgr.out Hg02.out) (gbelow Hal.out _)⟩
    · obtain hle : d = acc.length := by omega
      rw [hle, Nat.sub_self] at hcg
      have hcg' : (acc, s', e') = R := hcg
      subst hcg'
      have hdl : decide (acc.length < d) = false := decide_eq_false hlt
      go_wp2_with fail
      go_ret
      exact ⟨_, rfl, hown, hrd, hgr⟩
end Go.Proofs.Yteakeefocnjlhaa
