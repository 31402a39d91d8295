/- The law 'TopDraws' returns true for every input, and each argument reads behind the call as it read before. For arguments of bulk at most 1048576. -/
import Derived.Test.YtcffeepgfjpcaaaGreatZTopMapped6
import Derived.Test.YtcffeepgfjpcaaaGreatRows
import Derived.WalkKit
import Derived.ProofKit
import Derived.OpenShut
import Derived.ShutString
import Derived.ChangeOld
import Derived.Below
import Derived.JoinedCond
namespace Go.Proofs.YtcffeepgfjpcaaaGreat
set_option linter.unusedSimpArgs false
set_option linter.unusedVariables false

theorem ByE.more {w : World} {B B' : Nat} {v : Value} {l : List GEdge} (h : ByE w B v l) (hB : B ≤ B') : ByE w B' v l := h.mono (fun _ hk => by omega) fun _ h => h
theorem vsum_take (l : List GEdge) (v : UInt32) (k : Nat) (hk : k < l.length) : vsum (l.take (k + 1)) v = if l[k].fr = v then vsum (l.take k) v + l[k].wt.toNat else vsum (l.take k) v := by
  rw [List.take_succ_eq_append_getElem hk, vsum_append, vsum_one]
  split <;> omega
theorem vsum_le (l : List GEdge) (v : UInt32) : vsum l v ≤ l.length * 4294967295 := by
  induction l with
  | nil => simp [vsum]
  | cons x r ih =>
    have e : vsum (x :: r) v = vsum [x] v + vsum r v := vsum_append [x] r v
    have h := x.wt.toNat_lt
    rw [e, vsum_one, List.length_cons]
    have h2 := ih
    split <;> omega
theorem arc_wt {l : List GEdge} {R : List GRow} (h : RowsOk l R) (v : UInt32) (i : Nat) (hi : i < (arcsR R v).length) :
    wtE l v (arcsR R v)[i].to = (arcsR R v)[i].wt.toNat ∧ 0 < (arcsR R v)[i].wt.toNat := by
  obtain ⟨h1, _, h3, _⟩ := h.arcs v
  have hr := (gmay_parts.1 h3).1
  have hm := List.getElem_mem hi
  have hw := (rise_to _ none _ hr hm).2
  refine ⟨?_, ?_⟩
  · rw [wtE_wsum, ← h1, asum_at _ none _ hr hm]
  · rcases Nat.eq_zero_or_pos (arcsR R v)[i].wt.toNat with h0 | h0
    · exact absurd (UInt32.toNat_inj.1 (by rw [h0]; rfl)) hw
    · exact h0
theorem ival_facts (l : List GArc) (hn : nbrs l = true) (hp : ∀ i (hi : i < l.length), 0 < l[i].wt.toNat) (i : Nat) (hi : i < l.length) :
    ival l (frontAt l i) = (i, true) ∧ ival l (frontAt l i + l.length * l[i].wt.toNat - 1) = (i, true) ∧
    ival l (frontAt l i + l.length * l[i].wt.toNat) = (if i + 1 < l.length then (i + 1, true) else (0, false)) ∧
    frontAt l i + l.length * l[i].wt.toNat ≤ ptotal l ∧ 0 < l.length * l[i].wt.toNat := by
  have hs := frontAt_succ l i hi
  have hd : 0 < l.length * l[i].wt.toNat := Nat.mul_pos (by omega) (hp i hi)
  have ht : ptotal l = frontAt l l.length := by rw [ptotal_nbrs, if_pos hn, frontAt_all]
  have hm : frontAt l (i + 1) ≤ ptotal l := by rw [ht]; exact frontAt_mono l (by omega)
  refine ⟨?_, ?_, ?_, by omega, hd⟩
  · unfold ival; rw [if_pos (by omega), ivalN_at l _ i hi (Nat.le_refl _) (by omega)]
  · unfold ival; rw [if_pos (by omega), ivalN_at l _ i hi (by omega) (by omega)]
  · rw [← hs]
    split
    · rename_i h
      have hs2 := frontAt_succ l (i + 1) h
      have hd2 : 0 < l.length * l[i + 1].wt.toNat := Nat.mul_pos (by omega) (hp _ h)
      have hm2 : frontAt l (i + 1 + 1) ≤ ptotal l := by rw [ht]; exact frontAt_mono l (by omega)
      unfold ival
      rw [if_pos (by omega), ivalN_at l _ (i + 1) h (Nat.le_refl _) (by omega)]
    · rename_i h
      have : i + 1 = l.length := by omega
      rw [this, ← ht]
      unfold ival
      rw [if_neg (by omega)]
end Go.Proofs.YtcffeepgfjpcaaaGreat

namespace Go.Proofs.YtcffeepgfjpcaaaGreat
set_option linter.unusedSimpArgs false
set_option linter.unusedVariables false
open Go.RowKit

set_option maxRecDepth 100000 in
set_option maxHeartbeats 6400000 in
theorem tdraws_walk (w : World) (A : Option Addr) (c : Nat) (b : List UInt8) (hby : By w w.heap.size (.slice A b.length c) b) (hl : b.length ≤ 1048576) (v : UInt32) :
    Calls Tryz.prog 5 #[.slice A b.length c, .int .u32 (v.toNat : Int)] w fun e w' => e = .returned (.bool true) ∧ Below w.heap.size w w' := by
  have hrr := rread12_any w _ b hby hl
  have haw := fun W => awake_any22 W
  obtain ⟨R, hR⟩ : ∃ R, R = readE (linesP b) 0 [] := ⟨_, rfl⟩
  rw [← hR] at hrr
  have HR := Lib.hid hR
  have Hrr := Lib.hid hrr
  have Haw := Lib.hid haw
  have Hby := Lib.hid hby
  clear hR hrr haw hby
  go_enter Tryz.func5, Tryz.ntmps5
  go_wp2_with fail
  refine Hrr.out.mono ?_
  rintro _ w1 ⟨vl, rfl, hol, hb1⟩
  obtain ⟨Al, cl, rfl, _⟩ := hol.form'
  have Hb1 := Lib.hid hb1
  clear hb1 Hrr
  obtain ⟨l, hlx⟩ : ∃ l, l = R.1 := ⟨_, rfl⟩
  obtain ⟨er, her⟩ : ∃ er, er = R.2.2 := ⟨_, rfl⟩
  obtain ⟨ln, hln⟩ : ∃ ln, ln = R.2.1 := ⟨_, rfl⟩
  rw [← hlx, ← her, ← hln]
  rw [← hlx] at hol
  have HE1 := Lib.hid (show ByE w1 w1.heap.size (.slice Al l.length cl) l from hol.rowLt.mono (fun _ h => h) (fun _ h => h.elim))
  clear hol
  have Hlx := Lib.hid hlx
  have Her := Lib.hid her
  have Hln := Lib.hid hln
  clear hlx her hln
  by_cases hbig : 1500 < b.length ∨ ¬ er = 0 ∨ 60 < l.length
  · have hcs : decide ((1500 : Int) < (b.length : Int)) = true ∨ (decide ((1500 : Int) < (b.length : Int)) = false ∧ (er != 0) = true) ∨ (decide ((1500 : Int) < (b.length : Int)) = false ∧ (er != 0) = false ∧ decide ((60 : Int) < (l.length : Int)) = true) := by
      by_cases h1 : 1500 < b.length
      · exact .inl (decide_eq_true (by omega))
      · by_cases h2 : er = 0
        · exact .inr (.inr ⟨decide_eq_false (by omega), by simp [bne, h2], decide_eq_true (by omega)⟩)
        · exact .inr (.inl ⟨decide_eq_false (by omega), by simp [bne, h2]⟩)
    clear hbig
    rcases hcs with d1 | ⟨d1, d2⟩ | ⟨d1, d2, d3⟩
    all_goals
      go_wp2_with fail
      refine (Haw.out _).mono ?_
      rintro _ w2 ⟨rfl, hb2⟩
      go_wp2_with fail
      go_ret
      exact ⟨rfl, Hb1.out.trans (hb2.mono Hb1.out.size)⟩
  · have d1 : decide ((1500 : Int) < (b.length : Int)) = false := decide_eq_false (by omega)
    have he0 : er = 0 := by omega
    have hl60 : l.length ≤ 60 := by omega
    have d2 : (er != 0) = false := by simp [bne, he0]
    have d3 : decide ((60 : Int) < (l.length : Int)) = false := decide_eq_false (by omega)
    have hb15 : b.length ≤ 1500 := by omega
    have htr := tread_any w1 A c b ((Hby.out.below Hb1.out).more Hb1.out.size) (by omega)
    rw [← HR.out, ← Hlx.out, ← Her.out, ← Hln.out, he0] at htr
    have hwt : ∀ x ∈ l, x.wt ≠ 0 := by rw [Hlx.out, HR.out]; exact readE_wt _ _ _ (fun x h => by simp at h)
    have Htr := Lib.hid htr
    have Hwt := Lib.hid hwt
    clear hbig htr hwt he0 Her
    go_wp2_with fail
    refine Htr.out.mono ?_
    rintro _ w2 ⟨v2, rfl, ho2, hb2⟩
    have hgo := gof_any w2 v2 l (ho2.rowLt.mono (fun _ h => h) (fun _ h => h.elim)) (by omega)
    have Hgo := Lib.hid hgo
    have Hb12 := Lib.hid hb2
    have Hb2 := Lib.hid (Hb1.out.trans (hb2.mono Hb1.out.size))
    clear hgo ho2 hb2 Htr
    go_wp2_with fail
    refine Hgo.out.mono ?_
    rintro _ w3 ⟨hb3, (⟨⟨q, hq, h0⟩, rfl⟩ | ⟨_, L, hp, hs, (⟨hm, rfl⟩ | ⟨Rw, g, hm, rfl, hgs, hG⟩)⟩)⟩
    · exact absurd h0 (Hwt.out q hq)
    · have Hb3 := Lib.hid (Hb2.out.trans (hb3.mono Hb2.out.size))
      clear hb3 hm hp hs
      go_wp2_with fail
      refine (Haw.out _).mono ?_
      rintro _ w4 ⟨rfl, hb4⟩
      go_wp2_with fail
      go_ret
      exact ⟨rfl, Hb3.out.trans (hb4.mono Hb3.out.size)⟩
    · have hok := mrow_ok l L Rw hp (Hwt.out) hs hm
      have hgd := hok.good (by omega)
      have hal : (arcsR Rw v).length ≤ 60 := Nat.le_trans (hok.alen v) hl60
      have hga := garcs_any w3 w3.heap.size g Rw v hG (Nat.le_refl _) hgd.len hgd.up (hgd.al v)
      have hnb := hgd.row v
      have hwp := fun i hi => arc_wt hok v i hi
      obtain ⟨_, hva, _, hno⟩ := hok.arcs v
      obtain ⟨arcs, har⟩ : ∃ arcs, arcs = arcsR Rw v := ⟨_, rfl⟩
      rw [← har] at hal hga hnb hwp hva hno
      have Hga := Lib.hid hga
      have Hnb := Lib.hid hnb
      have Hwp := Lib.hid hwp
      have Hva := Lib.hid hva
      have Hno := Lib.hid hno
      have HE3 := Lib.hid (((HE1.out.below (Hb12.out.trans (hb3.mono Hb12.out.size))).more (Hb12.out.trans (hb3.mono Hb12.out.size)).size) : ByE w3 w3.heap.size (.slice Al l.length cl) l)
      have Hb3 := Lib.hid (Hb2.out.trans (hb3.mono Hb2.out.size))
      clear hb3 hm hp hs hok hgd hga hnb har hG hgs Hgo hwp hva hno Hb12 HE1
      go_wp2_with fail
      refine Hga.out.mono ?_
      rintro _ w4 ⟨va, rfl, hoa, hb4⟩
      obtain ⟨Aa, ca, rfl, _⟩ := hoa.form'
      have hA4 : ByA w4 w4.heap.size (.slice Aa arcs.length ca) arcs := hoa.rowLt.mono (fun _ h => h) (fun _ h => h.elim)
      have HA4 := Lib.hid hA4
      have HE4 := Lib.hid ((HE3.out.below hb4).more hb4.size)
      have Hb4 := Lib.hid (Hb3.out.trans (hb4.mono Hb3.out.size))
      clear hoa hA4 hb4 Hga Hb3 HE3
      rcases Nat.eq_zero_or_pos arcs.length with ha0 | ha0
      · have hz : (((arcs.length : Nat) : Int) == 0) = true := by rw [ha0]; rfl
        have hfr : ∀ k (hk : k < l.length), l[k].fr ≠ v := fun k hk e => (Hno.out.1 ha0) ⟨_, List.getElem_mem hk, e⟩
        have Hfr := Lib.hid hfr
        have Hz := hz
        clear hfr ha0 hz
        go_wp2_with fail
        go_loopw [14] (fun i wr => ∃ k : Nat, k ≤ l.length ∧ i = .int .i64 (k : Int) ∧ wr = w4) (fun i _ => l.length - (intOf i).toNat)
        case atStart => exact ⟨0, Nat.zero_le _, rfl, rfl⟩
        case round =>
          obtain ⟨k, hk, rfl, hww⟩ := hrel
          subst hww
          by_cases hlt : k < l.length
          · obtain ⟨ad, hAl, hab, hcell⟩ := HE4.out.cells k hlt
            subst hAl
            have c0 := hcell 0 _ rfl
            have hne := Hfr.out k hlt
            have b0 : (((l[k].fr.toNat : Int)) == (v.toNat : Int)) = false := by rw [u32_beq]; exact decide_eq_false hne
            rw [add_zero'] at c0
            have hdk : decide (k < l.length) = true := decide_eq_true hlt
            clear hne hcell
            generalize l[k].fr.toNat = xf at *
            go_wp2_with fail
            go_roundw
            case rel => exact ⟨k + 1, by omega, by go_num, by first | rfl | trivial⟩
            case measure => simp [intOf]; omega
          · have hdk : decide (k < l.length) = false := decide_eq_false hlt
            go_wp2_with fail
            refine (Haw.out _).mono ?_
            rintro _ w5 ⟨rfl, hb5⟩
            go_wp2_with fail
            go_ret
            exact ⟨rfl, Hb4.out.trans (hb5.mono Hb4.out.size)⟩
      · have hz : (((arcs.length : Nat) : Int) == 0) = false := beq_eq_false_iff_ne.2 (by omega)
        have hnb : nbrs arcs = true := by
          rcases Hnb.out with h | h
          · rw [h] at ha0; exact absurd ha0 (by simp)
          · exact h
        have hgs := (gmay_parts.1 (nbrs_gmay hnb).1).2
        have hbl := btab_len arcs (by omega) hgs
        have hcnt := btab_cnt arcs (by omega) hgs
        have hiv := ival_facts arcs hnb (fun i hi => (Hwp.out i hi).2)
        have hpt : ptotal arcs = gsum arcs * arcs.length := by rw [ptotal_nbrs, if_pos hnb]
        have hfr : ∀ m, frontAt arcs m ≤ 60 * 2147483647 := fun m => by
          unfold frontAt
          exact Nat.mul_le_mul hal (Nat.le_trans (gsum_take_le _ _) hgs)
        have hbu := build_any w4 w4.heap.size (.slice Aa arcs.length ca) arcs (by omega) HA4.out (Nat.le_refl _) hnb
        have Hbu := Lib.hid hbu
        have Hcnt := Lib.hid hcnt
        have Hiv := Lib.hid hiv
        have Hpt := Lib.hid hpt
        have Hfr := Lib.hid hfr
        have Hgs := Lib.hid hgs
        have Hbl := Lib.hid hbl
        clear hnb hgs hbl hcnt hiv hpt hbu Hnb Hno hfr
        go_wp2_with fail
        refine Hbu.out.mono ?_
        rintro _ w5 ⟨vt, rfl, hot, hb5⟩
        have HA5 := Lib.hid ((HA4.out.below hb5).more hb5.size)
        have HE5 := Lib.hid ((HE4.out.below hb5).more hb5.size)
        have HT5 := Lib.hid (show ByC w5 w5.heap.size vt (btab arcs) from hot.rowLt.mono (fun _ h => h) (fun _ h => h.elim))
        have Hb5 := Lib.hid (Hb4.out.trans (hb5.mono Hb4.out.size))
        clear hot hb5 Hbu HA4 Hb4 HE4
        go_wp2_with fail
        go_loopw [17, 18] (fun n i wr => ∃ k : Nat, k ≤ l.length ∧ i = .int .i64 (k : Int) ∧ n = .int .u64 (vsum (l.take k) v : Int) ∧ wr = w5) (fun _ i _ => l.length - (intOf i).toNat)
        case atStart => exact ⟨0, Nat.zero_le _, rfl, rfl, rfl⟩
        case round =>
          obtain ⟨k, hk, rfl, rfl, hww⟩ := hrel
          subst hww
          by_cases hlt : k < l.length
          · obtain ⟨ad, hAl, hab, hcell⟩ := HE5.out.cells k hlt
            subst hAl
            have hst := vsum_take l v k hlt
            have hle := vsum_le (l.take k) v
            rw [List.length_take] at hle
            have c0 := hcell 0 _ rfl
            have hc2 := hcell 2 _ rfl
            obtain ⟨p, hp⟩ : ∃ p, p = ad.add (k * 3) := ⟨_, rfl⟩
            rw [← hp] at hc2
            have c2 : wr.cell? { block := p.block, off := p.off + 2 } = some (.int .u32 (l[k].wt.toNat : Int)) := by rw [← hc2]; simp [Addr.add]
            rw [hp] at c2
            clear hp hc2
            rw [add_zero'] at c0
            obtain ⟨s, hs⟩ : ∃ s, s = vsum (l.take k) v := ⟨_, rfl⟩
            rw [← hs] at hst hle
            have hdk : decide (k < l.length) = true := decide_eq_true hlt
            have hwl := l[k].wt.toNat_lt
            have hs1 : s ≤ 257698037700 := by
              have : min k l.length * 4294967295 ≤ 60 * 4294967295 := Nat.mul_le_mul (by omega) (Nat.le_refl _)
              omega
            have hwr : IntKind.u64.wrap ((s : Int) + (l[k].wt.toNat : Int)) = ((s + l[k].wt.toNat : Nat) : Int) := by rw [wrap_u64]; omega
            have hwr2 : IntKind.u64.wrap (l[k].wt.toNat : Int) = (l[k].wt.toNat : Int) := by rw [wrap_u64]; omega
            have b0 := u32_beq l[k].fr v
            have Hst := Lib.hid hst
            clear hcell hst hle hs1
            rw [← hs]
            clear hs
            generalize l[k].wt.toNat = wn at *
            obtain ⟨p1, hp1⟩ : ∃ p1, decide (l[k].fr = v) = p1 := ⟨_, rfl⟩
            rw [hp1] at b0
            have Hyes : Hid (p1 = true → vsum (l.take (k + 1)) v = s + wn) := Lib.hid fun h1 => by
              rw [Hst.out, if_pos (of_decide_eq_true (hp1.trans h1))]
            have Hnn : Hid (p1 = false → vsum (l.take (k + 1)) v = s) := Lib.hid fun h => by
              rw [Hst.out, if_neg (of_decide_eq_false (hp1.trans h))]
            clear hp1 Hst
            generalize l[k].fr.toNat = xf at *
            cases p1
            · have HN := Lib.hid (Hnn.out rfl)
              clear Hnn Hyes
              go_wp2_with fail
              go_roundw
              case rel => exact ⟨k + 1, by omega, by go_num, by rw [HN.out], by first | rfl | trivial⟩
              case measure => simp [intOf]; omega
            · have HN := Lib.hid (Hyes.out rfl)
              clear Hnn Hyes
              go_wp2_with fail
              go_roundw
              case rel => exact ⟨k + 1, by omega, by go_num, by rw [HN.out]; rfl, by first | rfl | trivial⟩
              case measure => simp [intOf]; omega
          · have e : k = l.length := by omega
            have hdk : decide (k < l.length) = false := decide_eq_false hlt
            rw [e, List.take_length, ← Hva.out]
            clear e hlt Hva
            generalize wr = w6 at *
            go_wp2_with fail
            go_loopw [20] (fun i wx => ∃ k : Nat, k ≤ arcs.length ∧ i = .int .i64 (k : Int) ∧ Below w6.heap.size w6 wx) (fun i _ => arcs.length - (intOf i).toNat)
            case atStart => exact ⟨0, Nat.zero_le _, rfl, Below.refl _ _⟩
            case round =>
              obtain ⟨k, hk, rfl, hbx⟩ := hrel
              generalize wr = wx at *
              have Hbx := Lib.hid hbx
              clear hbx
              by_cases hlt : k < arcs.length
              · have hwx := Hbx.out.size
                have HA := Lib.hid ((HA5.out.below Hbx.out).more hwx)
                have HE := Lib.hid ((HE5.out.below Hbx.out).more hwx)
                have HT := Lib.hid ((HT5.out.below Hbx.out).more hwx)
                obtain ⟨ad, hAa, hab, hc0, _⟩ := HA.out.cells k hlt
                subst hAa
                obtain ⟨hw1, hw2⟩ := Hwp.out k hlt
                obtain ⟨hi1, hi2, hi3, hi4, hi5⟩ := Hiv.out k hlt
                have hct := Hcnt.out k hlt
                have hwt := wt_any wx wx.heap.size l Al cl HE.out (by omega) v arcs[k].to
                rw [hw1] at hwt
                have hac := acount_any wx wx.heap.size vt (btab arcs) (gsum arcs) (by have := Hgs.out; omega) (k : Int) (by rw [Hbl.out]; omega) HT.out (Nat.le_refl _)
                rw [hct] at hac
                have hd60 : arcs.length * arcs[k].wt.toNat ≤ 60 * 4294967295 := Nat.mul_le_mul hal (by have := arcs[k].wt.toNat_lt; omega)
                obtain ⟨dw, hdw⟩ : ∃ dw, dw = arcs.length * arcs[k].wt.toNat := ⟨_, rfl⟩
                rw [← hdw] at hac hi2 hi3 hi4 hi5 hd60
                have hwr : IntKind.u64.wrap ((arcs.length : Int) * (arcs[k].wt.toNat : Int)) = (dw : Int) := by
                  rw [← Int.natCast_mul, ← hdw, wrap_u64]; omega
                have hwrk := Lib.hid hwr
                have b0 : ((arcs[k].wt.toNat : Int) == 0) = false := beq_eq_false_iff_ne.2 (by omega)
                have b1 : ((dw : Int) != (dw : Int)) = false := by simp
                have hfk := Hfr.out k
                have Hwt := Lib.hid hwt
                have Hac := Lib.hid hac
                have Hi1 := Lib.hid hi1
                have Hi2 := Lib.hid hi2
                have Hi3 := Lib.hid hi3
                have hdk : decide (k < arcs.length) = true := decide_eq_true hlt
                clear hwt hac hw1 hw2 hi1 hi2 hi3 hi4 hct hdw
                generalize arcs[k].wt.toNat = wk at *
                generalize arcs[k].to.toNat = tk at *
                go_wp2_with fail
                refine Hwt.out.mono ?_
                rintro _ wy ⟨rfl, hwy⟩
                subst hwy
                go_wp2_with fail
                refine Hac.out.mono ?_
                rintro _ wy ⟨rfl, hby2⟩
                have HA6 := Lib.hid ((HA.out.below hby2).more hby2.size)
                have HE6 := Lib.hid ((HE.out.below hby2).more hby2.size)
                have Hb6 := Lib.hid (Hbx.out.trans (hby2.mono hwx))
                have hs6 : w6.heap.size ≤ wy.heap.size := Nat.le_trans hwx hby2.size
                clear hby2 HT HA HE Hbx Hwt Hac hab hc0
                go_wp2_with fail
                clear b0 b1 hwr
                go_loopw [22, 23] (fun f m wr => ∃ q : Nat, q ≤ k ∧ m = .int .i64 (q : Int) ∧ f = .int .u64 (frontAt arcs q : Int) ∧ wr = wy) (fun _ m _ => k - (intOf m).toNat)
                case atStart => exact ⟨0, Nat.zero_le _, rfl, by rw [frontAt_zero]; rfl, rfl⟩
                case round =>
                  obtain ⟨q, hq, rfl, rfl, hww⟩ := hrel
                  obtain rfl := hww.symm
                  by_cases hlq : q < k
                  · obtain ⟨ad2, hA2, _, hc2, _⟩ := HA6.out.cells q (by omega)
                    injection hA2 with hA2
                    subst hA2
                    obtain ⟨hw3, _⟩ := Hwp.out q (by omega)
                    have hwt2 := wt_any wy wy.heap.size l Al cl HE6.out (by omega) v (arcs[q]'(by omega)).to
                    rw [hw3] at hwt2
                    have hs := frontAt_succ arcs q (by omega)
                    have hpb : arcs.length * (arcs[q]'(by omega)).wt.toNat ≤ 60 * 4294967295 := Nat.mul_le_mul hal (by have := (arcs[q]'(by omega)).wt.toNat_lt; omega)
                    obtain ⟨pw, hpw⟩ : ∃ pw, pw = arcs.length * (arcs[q]'(by omega)).wt.toNat := ⟨_, rfl⟩
                    rw [← hpw] at hs hpb
                    have hwq : IntKind.u64.wrap ((arcs.length : Int) * ((arcs[q]'(by omega)).wt.toNat : Int)) = (pw : Int) := by
                      rw [← Int.natCast_mul, ← hpw, wrap_u64]; omega
                    have hfq := Hfr.out q
                    have hwa : IntKind.u64.wrap ((frontAt arcs q : Int) + (pw : Int)) = ((frontAt arcs q + pw : Nat) : Int) := by rw [wrap_u64]; omega
                    have Hs := Lib.hid hs
                    have Hwt2 := Lib.hid hwt2
                    have hdq : decide (q < k) = true := decide_eq_true hlq
                    clear hs hwt2 hw3 hpw hpb
                    generalize (arcs[q]'(by omega)).wt.toNat = wq at *
                    generalize (arcs[q]'(by omega)).to.toNat = tq at *
                    obtain ⟨fq, hfq2⟩ : ∃ fq, fq = frontAt arcs q := ⟨_, rfl⟩
                    rw [← hfq2] at hwa hfq Hs ⊢
                    clear hfq2
                    go_wp2_with fail
                    refine Hwt2.out.mono ?_
                    rintro _ wz ⟨rfl, hwz⟩
                    subst hwz
                    go_wp2_with fail
                    go_roundw
                    case rel => exact ⟨q + 1, by omega, by go_num, by rw [Hs.out]; first | rfl | go_num, by first | rfl | trivial⟩
                    case measure => simp [intOf]; omega
                  · have e : q = k := by omega
                    have hdq : decide (q < k) = false := decide_eq_false hlq
                    clear hq hlq
                    subst e
                    have hi5 := Hfr.out q
                    obtain ⟨y1, hy1⟩ : ∃ y1, y1 = frontAt arcs q := ⟨_, rfl⟩
                    obtain ⟨y3, hy3⟩ : ∃ y3, y3 = frontAt arcs q + dw := ⟨_, rfl⟩
                    obtain ⟨y2, hy2⟩ : ∃ y2, y2 = frontAt arcs q + dw - 1 := ⟨_, rfl⟩
                    have Hi1 := Lib.hid Hi1.out
                    have hiv := fun (W : World) (y : Nat) (hy : y ≤ 515396075400) (hB : ByA W W.heap.size (.slice (some ad) arcs.length ca) arcs) => interval_any W W.heap.size (.slice (some ad) arcs.length ca) arcs y (by omega) (by omega) hB (Nat.le_refl _)
                    have hq1 := fun W h => hiv W y1 (by omega) h
                    have hq2 := fun W h => hiv W y2 (by omega) h
                    have hq3 := fun W h => hiv W y3 (by omega) h
                    rw [show ival arcs y1 = (q, true) by rw [hy1]; exact Hi1.out] at hq1
                    rw [show ival arcs y2 = (q, true) by rw [hy2]; exact Hi2.out] at hq2
                    rw [show ival arcs y3 = (if q + 1 < arcs.length then (q + 1, true) else (0, false)) by rw [hy3]; exact Hi3.out] at hq3
                    have hz3 : (y1 : Int) + (dw : Int) = (y3 : Int) := by omega
                    have hz2 : (y3 : Int) - 1 = (y2 : Int) := by omega
                    have hwr : IntKind.u64.wrap ((arcs.length : Int) * (wk : Int)) = (dw : Int) := hwrk.out
                    have hy3b : y3 ≤ 515396075400 := by omega
                    have hy2b : y2 ≤ 515396075400 := by omega
                    have Hq1 := Lib.hid hq1
                    have Hq2 := Lib.hid hq2
                    have Hq3 := Lib.hid hq3
                    rw [← hy1]
                    clear hiv hq1 hq2 hq3 hy1 hy2 hy3 Hi1 Hi2 Hi3
                    go_wp2_with fail
                    refine (Hq1.out _ HA6.out).mono ?_
                    rintro _ w7 ⟨rfl, hb7⟩
                    have HA7 := Lib.hid ((HA6.out.below hb7).more hb7.size)
                    have Hb7 := Lib.hid (Hb6.out.trans (hb7.mono hs6))
                    have hs7 := Nat.le_trans hs6 hb7.size
                    clear hb7 HA6 Hb6 Hq1
                    go_wp2_with fail
                    refine (Hq2.out _ HA7.out).mono ?_
                    rintro _ w8 ⟨rfl, hb8⟩
                    have HA8 := Lib.hid ((HA7.out.below hb8).more hb8.size)
                    have Hb8 := Lib.hid (Hb7.out.trans (hb8.mono hs7))
                    have hs8 := Nat.le_trans hs7 hb8.size
                    clear hb8 HA7 Hb7 Hq2
                    go_wp2_with fail
                    refine (Hq3.out _ HA8.out).mono ?_
                    rintro _ w9 ⟨rfl, hb9⟩
                    have Hb9 := Lib.hid (Hb8.out.trans (hb9.mono hs8))
                    have b1 : ((q : Int) != (q : Int)) = false := by simp
                    have b2 : (((q : Int) + 1) != ((q : Int) + 1)) = false := by simp
                    clear hb9 HA8 Hb8 Hq3
                    by_cases hlast : q + 1 < arcs.length
                    · rw [if_pos hlast]
                      have hd : decide ((q : Int) < (arcs.length : Int) - 1) = true := decide_eq_true (by omega)
                      go_wp2_with fail
                      go_roundw
                      case rel => exact ⟨q + 1, by omega, by go_num, Hb9.out⟩
                      case measure => simp [intOf]; omega
                    · rw [if_neg hlast]
                      have hd : decide ((q : Int) < (arcs.length : Int) - 1) = false := decide_eq_false (by omega)
                      go_wp2_with fail
                      go_roundw
                      case rel => exact ⟨q + 1, by omega, by go_num, Hb9.out⟩
                      case measure => simp [intOf]; omega
              · have hkk : k = arcs.length := by omega
                have hdk : decide (k < arcs.length) = false := decide_eq_false hlt
                subst hkk
                have hwx := Hbx.out.size
                have HA := Lib.hid ((HA5.out.below Hbx.out).more hwx)
                have htt := ptotal_any wx wx.heap.size (.slice Aa arcs.length ca) arcs (by omega) HA.out (Nat.le_refl _)
                have hmb : gsum arcs * arcs.length ≤ 2147483647 * 60 := Nat.mul_le_mul Hgs.out hal
                rw [Hpt.out] at htt
                obtain ⟨tot, htot⟩ : ∃ tot, tot = gsum arcs * arcs.length := ⟨_, rfl⟩
                rw [← htot] at htt hmb
                have hwm : IntKind.u64.wrap ((gsum arcs : Int) * (arcs.length : Int)) = (tot : Int) := by rw [← Int.natCast_mul, ← htot, wrap_u64]; omega
                have Htt := Lib.hid htt
                have hbx := Lib.hid (Hb5.out.trans (Hbx.out.mono Hb5.out.size))
                clear htt htot hmb
                generalize gsum arcs = gs at *
                go_wp2_with fail
                refine Htt.out.mono ?_
                rintro _ wy ⟨rfl, hby2⟩
                have Hby2 := Lib.hid (hbx.out.trans (hby2.mono hbx.out.size))
                clear hby2 hbx
                go_wp2_with fail
                refine (Haw.out _).mono ?_
                rintro _ wz ⟨rfl, hbz⟩
                go_wp2_with fail
                go_ret
                exact ⟨rfl, Hby2.out.trans (hbz.mono Hby2.out.size)⟩
end Go.Proofs.YtcffeepgfjpcaaaGreat

namespace Go.Proofs.YtcffeepgfjpcaaaGreat.topDraws
open Go.Proofs.YtcffeepgfjpcaaaGreat
open Go.ChangeShapes Go.WideShapes Go.ChangeAt Go.RowKit
set_option linter.unusedVariables false
set_option linter.unusedSimpArgs false

theorem own : ownKnob Tryz.prog.godebug = none := by kernel_rfl
theorem laidOut : laidOutB Tryz.prog = true := by kernel_rfl

set_option maxRecDepth 100000 in
theorem walk (v0 v1 : Value) (w : World) (h0 : InC w 40 [v0]) (h1 : InC w 24 [v1]) (hn : ∀ A n c, v0 = .slice A n c → n ≤ 1048576) :
    Calls Tryz.prog 5 #[v0, v1] w fun e w' => e = .returned (.bool true) ∧ Below w.heap.size w w' := by
  obtain ⟨b, hb⟩ := h0.bytes
  obtain ⟨v, e1, _⟩ := InC.u32 (S := fun _ => True) Tryz.underlying24 h1
  injection e1 with e1
  subst e1
  obtain ⟨A, c, rfl, _⟩ := id hb
  exact tdraws_walk w A c b hb (hn A _ c rfl) v

set_option maxRecDepth 100000 in
theorem lifted (os : Os) (started : os.Started) (H : Type) (enc : TypeId × Value → H) (Fi : Stop.Interp) :
    ReturnsInHanded {} Tryz.checked os 5 .any ((Rows.OpenSpec.upto Rows.topDrawsSpec).pre6 enc Tryz.prog Tryz.f5 Rows.topDrawsUptoRow.domain false) (((Rows.OpenSpec.upto Rows.topDrawsSpec).at Fi).post enc Tryz.prog Tryz.f5 false true false false) := by
  refine returnsInHanded_of_cond (C := Tryz.checked) (s := Rows.OpenSpec.upto Rows.topDrawsSpec) (k := Rows.uptoSmall) rfl own started (by kernel_rfl) Tryz.func5
    (OpenSpec.witness (enc := enc) (C := Tryz.checked) (s := Rows.OpenSpec.upto Rows.topDrawsSpec) (k := Rows.uptoSmall) rfl false ⟨#[], #[.slice none 0 0, .int .u32 0], []⟩ 8 (by kernel_rfl) (by kernel_rfl) (by kernel_rfl)
      (x := ([.nil, .lit (.int .u32 0)], [], [])) (by kernel_rfl) rfl (by kernel_rfl)) ?_
  intro W base args ds gs before hval0 hW _ hk _
  have hval : ∀ (j : Nat) t v, Tryz.f5.params[j]? = some t → args[j]? = some v → Value.okWide Tryz.prog W .any base t v := hval0
  have hW' := hW
  obtain ⟨p, q, hA0, hV, rfl, hfz, hnd⟩ := hW
  have hA : DataW.TrodAll enc Tryz.prog W 0 (fun _ => true) true Tryz.f5.params.toList args.toList ds p := hA0
  rw [Tryz.params5] at hA hval
  obtain ⟨v0, vs0, d0, ds0, p0, q0, hargs, rfl, rfl, h0, r0⟩ := trodAll_cons hA
  obtain ⟨v1, vs1, d1, ds1, p1, q1, rfl, rfl, rfl, h1, r1⟩ := trodAll_cons r0
  obtain ⟨rfl, rfl, rfl⟩ := trodAll_nil r1
  obtain rfl : args = #[v0, v1] := by cases args; simp_all
  obtain ⟨rfl, rfl⟩ := trodVars_none hV
  have k0 := h0
  have lt0 : ∀ x ∈ p0, x.block < W.heap.size := by obtain ⟨m, hm⟩ := k0; exact DataW.trod_lt m _ _ _ hm
  have i0 := InC.of h0
  obtain ⟨a0, len0, cap0, rfl⟩ := okWide_slice Tryz.underlying40 (hval 0 40 v0 rfl rfl)
  have j0 : InC W 40 [_] := i0
  have k1 := h1
  have lt1 : ∀ x ∈ p1, x.block < W.heap.size := by obtain ⟨m, hm⟩ := k1; exact DataW.trod_lt m _ _ _ hm
  have i1 := InC.of h1
  obtain ⟨a1, rfl⟩ := okWide_int Tryz.underlying24 (hval 1 24 v1 rfl rfl)
  have j1 : InC W 24 [_] := i1
  clear hA0 hval0
  have hb0 := bulk_len (e := 5) Tryz.underlying40 h0 hk
  refine (walk _ _ W j0 j1 (fun A n c e => by injection e with _ e2 _; subst e2; exact hb0)).mono fun e W' ⟨he, bel⟩ => ?_
  subst he
  exact ⟨_, rfl, _, _, _, [], _, [], hW', trodAll_mk1 (shut_bool Tryz.underlying4 _), (trodAll_cons_mk (Below.trod laidOut (by kernel_rfl) (of_decide_eq_true (by kernel_rfl)) k0 bel lt0) (trodAll_cons_mk (Below.trod laidOut (by kernel_rfl) (of_decide_eq_true (by kernel_rfl)) k1 bel lt1) trodAll_mk0)), rfl, bel.frame _, fun h => by cases h⟩

theorem over : Rows.topDrawsUptoRow.holds Tryz.pinned (Rows.OpenSpec.upto Rows.topDrawsSpec) :=
  OpenClaim.holds_of_cond 5 Tryz.f5 rfl rfl rfl rfl rfl rfl rfl ⟨rfl, rfl, rfl, rfl, rfl⟩ rfl rfl rfl rfl rfl (by kernel_rfl) Tryz.func5 (by kernel_rfl)
    (of_decide_eq_true (by kernel_rfl)) (by unfold Func.isWrapper; first | (rw [if_pos (by decide +kernel)]; kernel_rfl) | (rw [if_neg (by decide +kernel)]; exact ⟨rfl, rfl⟩))
    (fun os started H enc _ Fi => lifted os started H enc Fi)

theorem proved : Rows.TopDrawsUptoSaid := over
#print axioms proved
end Go.Proofs.YtcffeepgfjpcaaaGreat.topDraws
