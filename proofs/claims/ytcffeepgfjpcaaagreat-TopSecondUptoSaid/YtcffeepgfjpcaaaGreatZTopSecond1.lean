/- The law 'TopSecond' returns true for every input, and each argument reads behind the call as it read before. For arguments of bulk at most 1048576. -/
import Derived.Test.YtcffeepgfjpcaaaGreatZTopMapped6
import Derived.Test.YtcffeepgfjpcaaaGreatRows
import Derived.WalkKit
import Derived.ProofKit
import Derived.OpenShut
import Derived.ShutString
import Derived.ChangeOld
import Derived.Below
import Derived.JoinedCond
namespace Go.Proofs.YtcffeepgfjpcaaaGreat
set_option linter.unusedSimpArgs false
set_option linter.unusedVariables false

theorem ByE.more {w : World} {B B' : Nat} {v : Value} {l : List GEdge} (h : ByE w B v l) (hB : B ≤ B') : ByE w B' v l := h.mono (fun _ hk => by omega) fun _ h => h
theorem vsum_take (l : List GEdge) (v : UInt32) (k : Nat) (hk : k < l.length) : vsum (l.take (k + 1)) v = if l[k].fr = v then vsum (l.take k) v + l[k].wt.toNat else vsum (l.take k) v := by
  rw [List.take_succ_eq_append_getElem hk, vsum_append, vsum_one]
  split <;> omega
theorem vsum_le (l : List GEdge) (v : UInt32) : vsum l v ≤ l.length * 4294967295 := by
  induction l with
  | nil => simp [vsum]
  | cons x r ih =>
    have e : vsum (x :: r) v = vsum [x] v + vsum r v := vsum_append [x] r v
    have h := x.wt.toNat_lt
    rw [e, vsum_one, List.length_cons]
    have h2 := ih
    split <;> omega
theorem arc_wt {l : List GEdge} {R : List GRow} (h : RowsOk l R) (v : UInt32) (i : Nat) (hi : i < (arcsR R v).length) :
    wtE l v (arcsR R v)[i].to = (arcsR R v)[i].wt.toNat ∧ 0 < (arcsR R v)[i].wt.toNat := by
  obtain ⟨h1, _, h3, _⟩ := h.arcs v
  have hr := (gmay_parts.1 h3).1
  have hm := List.getElem_mem hi
  have hw := (rise_to _ none _ hr hm).2
  refine ⟨?_, ?_⟩
  · rw [wtE_wsum, ← h1, asum_at _ none _ hr hm]
  · rcases Nat.eq_zero_or_pos (arcsR R v)[i].wt.toNat with h0 | h0
    · exact absurd (UInt32.toNat_inj.1 (by rw [h0]; rfl)) hw
    · exact h0
theorem ival_facts (l : List GArc) (hn : nbrs l = true) (hp : ∀ i (hi : i < l.length), 0 < l[i].wt.toNat) (i : Nat) (hi : i < l.length) :
    ival l (frontAt l i) = (i, true) ∧ ival l (frontAt l i + l.length * l[i].wt.toNat - 1) = (i, true) ∧
    ival l (frontAt l i + l.length * l[i].wt.toNat) = (if i + 1 < l.length then (i + 1, true) else (0, false)) ∧
    frontAt l i + l.length * l[i].wt.toNat ≤ ptotal l ∧ 0 < l.length * l[i].wt.toNat := by
  have hs := frontAt_succ l i hi
  have hd : 0 < l.length * l[i].wt.toNat := Nat.mul_pos (by omega) (hp i hi)
  have ht : ptotal l = frontAt l l.length := by rw [ptotal_nbrs, if_pos hn, frontAt_all]
  have hm : frontAt l (i + 1) ≤ ptotal l := by rw [ht]; exact frontAt_mono l (by omega)
  refine ⟨?_, ?_, ?_, by omega, hd⟩
  · unfold ival; rw [if_pos (by omega), ivalN_at l _ i hi (Nat.le_refl _) (by omega)]
  · unfold ival; rw [if_pos (by omega), ivalN_at l _ i hi (by omega) (by omega)]
  · rw [← hs]
    split
    · rename_i h
      have hs2 := frontAt_succ l (i + 1) h
      have hd2 : 0 < l.length * l[i + 1].wt.toNat := Nat.mul_pos (by omega) (hp _ h)
      have hm2 : frontAt l (i + 1 + 1) ≤ ptotal l := by rw [ht]; exact frontAt_mono l (by omega)
      unfold ival
      rw [if_pos (by omega), ivalN_at l _ (i + 1) h (Nat.le_refl _) (by omega)]
    · rename_i h
      have : i + 1 = l.length := by omega
      rw [this, ← ht]
      unfold ival
      rw [if_neg (by omega)]
end Go.Proofs.YtcffeepgfjpcaaaGreat

namespace Go.Proofs.YtcffeepgfjpcaaaGreat
set_option linter.unusedSimpArgs false
set_option linter.unusedVariables false
open Go.RowKit

theorem near_wt {l : List GEdge} {R : List GRow} (h : RowsOk l R) (v t : UInt32) : nearP R v t = decide (0 < wtE l v t) := by
  obtain ⟨h1, _, h3, _⟩ := h.arcs v
  have hr := (gmay_parts.1 h3).1
  rw [wtE_wsum, ← h1]
  unfold nearP
  by_cases hx : ∃ a ∈ arcsR R v, a.to = t
  · obtain ⟨a, ha, rfl⟩ := hx
    rw [asum_at _ none a hr ha]
    have hw := (rise_to _ none a hr ha).2
    have hp : 0 < a.wt.toNat := by
      rcases Nat.eq_zero_or_pos a.wt.toNat with h0 | h0
      · exact absurd (UInt32.toNat_inj.1 (by rw [h0]; rfl)) hw
      · exact h0
    rw [decide_eq_true hp, List.any_eq_true]
    exact ⟨a, ha, by simp⟩
  · rw [asum_none _ _ fun a ha e => hx ⟨a, ha, e⟩]
    rw [List.any_eq_false.2 fun a ha => by simpa using fun e => hx ⟨a, ha, e⟩]
    rfl
theorem biasW_le {p q : Nat} (hp : 1 ≤ p) (hq : 1 ≤ q) (b n : Bool) : biasW p q b n ≤ p * q := by
  have h1 : p * 1 ≤ p * q := Nat.mul_le_mul (Nat.le_refl _) hq
  have h2 : 1 * q ≤ p * q := Nat.mul_le_mul hp (Nat.le_refl _)
  unfold biasW
  split
  · omega
  · split <;> omega
set_option maxRecDepth 100000 in
set_option maxHeartbeats 6400000 in
theorem tsecond_walk (w : World) (A : Option Addr) (c : Nat) (b : List UInt8) (hby : By w w.heap.size (.slice A b.length c) b) (hl : b.length ≤ 1048576) (fr v : UInt32) (p q : Nat) (hp8 : p < 256) (hq8 : q < 256) :
    Calls Tryz.prog 4 #[.slice A b.length c, .int .u32 (fr.toNat : Int), .int .u32 (v.toNat : Int), .int .u8 (p : Int), .int .u8 (q : Int)] w fun e w' => e = .returned (.bool true) ∧ Below w.heap.size w w' := by
  have hrr := rread12_any w _ b hby hl
  have haw := fun W => awake_any22 W
  obtain ⟨R, hR⟩ : ∃ R, R = readE (linesP b) 0 [] := ⟨_, rfl⟩
  rw [← hR] at hrr
  have HR := Lib.hid hR
  have Hrr := Lib.hid hrr
  have Haw := Lib.hid haw
  have Hby := Lib.hid hby
  clear hR hrr haw hby
  go_enter Tryz.func4, Tryz.ntmps4
  go_wp2_with fail
  refine Hrr.out.mono ?_
  rintro _ w1 ⟨vl, rfl, hol, hb1⟩
  obtain ⟨Al, cl, rfl, _⟩ := hol.form'
  have Hb1 := Lib.hid hb1
  clear hb1 Hrr
  obtain ⟨l, hlx⟩ : ∃ l, l = R.1 := ⟨_, rfl⟩
  obtain ⟨er, her⟩ : ∃ er, er = R.2.2 := ⟨_, rfl⟩
  obtain ⟨ln, hln⟩ : ∃ ln, ln = R.2.1 := ⟨_, rfl⟩
  rw [← hlx, ← her, ← hln]
  rw [← hlx] at hol
  have HE1 := Lib.hid (show ByE w1 w1.heap.size (.slice Al l.length cl) l from hol.rowLt.mono (fun _ h => h) (fun _ h => h.elim))
  clear hol
  have Hlx := Lib.hid hlx
  have Her := Lib.hid her
  have Hln := Lib.hid hln
  clear hlx her hln
  by_cases hbig : 1500 < b.length ∨ ¬ er = 0 ∨ 60 < l.length ∨ p < 1 ∨ 40 < p ∨ q < 1 ∨ 40 < q
  · have hcs : (decide ((1500 : Int) < (b.length : Int)) = true) ∨ (decide ((1500 : Int) < (b.length : Int)) = false ∧ (er != 0) = true) ∨ (decide ((1500 : Int) < (b.length : Int)) = false ∧ (er != 0) = false ∧ decide ((60 : Int) < (l.length : Int)) = true) ∨ (decide ((1500 : Int) < (b.length : Int)) = false ∧ (er != 0) = false ∧ decide ((60 : Int) < (l.length : Int)) = false ∧ decide ((p : Int) < 1) = true) ∨ (decide ((1500 : Int) < (b.length : Int)) = false ∧ (er != 0) = false ∧ decide ((60 : Int) < (l.length : Int)) = false ∧ decide ((p : Int) < 1) = false ∧ decide ((40 : Int) < (p : Int)) = true) ∨ (decide ((1500 : Int) < (b.length : Int)) = false ∧ (er != 0) = false ∧ decide ((60 : Int) < (l.length : Int)) = false ∧ decide ((p : Int) < 1) = false ∧ decide ((40 : Int) < (p : Int)) = false ∧ decide ((q : Int) < 1) = true) ∨ (decide ((1500 : Int) < (b.length : Int)) = false ∧ (er != 0) = false ∧ decide ((60 : Int) < (l.length : Int)) = false ∧ decide ((p : Int) < 1) = false ∧ decide ((40 : Int) < (p : Int)) = false ∧ decide ((q : Int) < 1) = false ∧ decide ((40 : Int) < (q : Int)) = true) := by
      by_cases h1 : 1500 < b.length
      · exact .inl (decide_eq_true (by omega))
      · skip
        by_cases h2 : ¬ er = 0
        · exact .inr (.inl ⟨(decide_eq_false (by omega)), (by simp [bne, h2])⟩)
        · have h2 : er = 0 := Decidable.not_not.1 h2
          by_cases h3 : 60 < l.length
          · exact .inr (.inr (.inl ⟨(decide_eq_false (by omega)), (by simp [bne, h2]), (decide_eq_true (by omega))⟩))
          · skip
            by_cases h4 : p < 1
            · exact .inr (.inr (.inr (.inl ⟨(decide_eq_false (by omega)), (by simp [bne, h2]), (decide_eq_false (by omega)), (decide_eq_true (by omega))⟩)))
            · skip
              by_cases h5 : 40 < p
              · exact .inr (.inr (.inr (.inr (.inl ⟨(decide_eq_false (by omega)), (by simp [bne, h2]), (decide_eq_false (by omega)), (decide_eq_false (by omega)), (decide_eq_true (by omega))⟩))))
              · skip
                by_cases h6 : q < 1
                · exact .inr (.inr (.inr (.inr (.inr (.inl ⟨(decide_eq_false (by omega)), (by simp [bne, h2]), (decide_eq_false (by omega)), (decide_eq_false (by omega)), (decide_eq_false (by omega)), (decide_eq_true (by omega))⟩)))))
                · skip
                  exact .inr (.inr (.inr (.inr (.inr (.inr (⟨(decide_eq_false (by omega)), (by simp [bne, h2]), (decide_eq_false (by omega)), (decide_eq_false (by omega)), (decide_eq_false (by omega)), (decide_eq_false (by omega)), (decide_eq_true (by omega))⟩))))))
    clear hbig
    rcases hcs with d1 | ⟨d1, d2⟩ | ⟨d1, d2, d3⟩ | ⟨d1, d2, d3, d4⟩ | ⟨d1, d2, d3, d4, d5⟩ | ⟨d1, d2, d3, d4, d5, d6⟩ | ⟨d1, d2, d3, d4, d5, d6, d7⟩
    all_goals
      go_wp2_with fail
      refine (Haw.out _).mono ?_
      rintro _ w2 ⟨rfl, hb2⟩
      go_wp2_with fail
      go_ret
      exact ⟨rfl, Hb1.out.trans (hb2.mono Hb1.out.size)⟩
  · have d1 : decide ((1500 : Int) < (b.length : Int)) = false := decide_eq_false (by omega)
    have he0 : er = 0 := by omega
    have hl60 : l.length ≤ 60 := by omega
    have d2 : (er != 0) = false := by simp [bne, he0]
    have d3 : decide ((60 : Int) < (l.length : Int)) = false := decide_eq_false (by omega)
    have d4 : decide ((p : Int) < 1) = false := decide_eq_false (by omega)
    have d5 : decide ((40 : Int) < (p : Int)) = false := decide_eq_false (by omega)
    have d6 : decide ((q : Int) < 1) = false := decide_eq_false (by omega)
    have d7 : decide ((40 : Int) < (q : Int)) = false := decide_eq_false (by omega)
    have hpq : 1 ≤ p ∧ p ≤ 40 ∧ 1 ≤ q ∧ q ≤ 40 := by omega
    have hb15 : b.length ≤ 1500 := by omega
    have htr := tread_any w1 A c b ((Hby.out.below Hb1.out).more Hb1.out.size) (by omega)
    rw [← HR.out, ← Hlx.out, ← Her.out, ← Hln.out, he0] at htr
    have hwt : ∀ x ∈ l, x.wt ≠ 0 := by rw [Hlx.out, HR.out]; exact readE_wt _ _ _ (fun x h => by simp at h)
    have Htr := Lib.hid htr
    have Hwt := Lib.hid hwt
    clear hbig htr hwt he0 Her
    go_wp2_with fail
    refine Htr.out.mono ?_
    rintro _ w2 ⟨v2, rfl, ho2, hb2⟩
    have hgo := gof_any w2 v2 l (ho2.rowLt.mono (fun _ h => h) (fun _ h => h.elim)) (by omega)
    have Hgo := Lib.hid hgo
    have Hb12 := Lib.hid hb2
    have Hb2 := Lib.hid (Hb1.out.trans (hb2.mono Hb1.out.size))
    clear hgo ho2 hb2 Htr
    go_wp2_with fail
    refine Hgo.out.mono ?_
    rintro _ w3 ⟨hb3, (⟨⟨q, hq, h0⟩, rfl⟩ | ⟨_, L, hp, hs, (⟨hm, rfl⟩ | ⟨Rw, g, hm, rfl, hgs, hG⟩)⟩)⟩
    · exact absurd h0 (Hwt.out q hq)
    · have Hb3 := Lib.hid (Hb2.out.trans (hb3.mono Hb2.out.size))
      clear hb3 hm hp hs
      go_wp2_with fail
      refine (Haw.out _).mono ?_
      rintro _ w4 ⟨rfl, hb4⟩
      go_wp2_with fail
      go_ret
      exact ⟨rfl, Hb3.out.trans (hb4.mono Hb3.out.size)⟩
    · have hok := mrow_ok l L Rw hp (Hwt.out) hs hm
      have hgd := hok.good (by omega)
      have hal : (arcsR Rw v).length ≤ 60 := Nat.le_trans (hok.alen v) hl60
      have hga := garcs_any w3 w3.heap.size g Rw v hG (Nat.le_refl _) hgd.len hgd.up (hgd.al v)
      have hnr := fun t => near_wt hok fr t
      have Hnr := Lib.hid hnr
      obtain ⟨arcs, har⟩ : ∃ arcs, arcs = arcsR Rw v := ⟨_, rfl⟩
      rw [← har] at hal hga
      have Hga := Lib.hid hga
      have Hgd := Lib.hid hgd
      have HG3 := Lib.hid hG
      have HE3 := Lib.hid (((HE1.out.below (Hb12.out.trans (hb3.mono Hb12.out.size))).more (Hb12.out.trans (hb3.mono Hb12.out.size)).size) : ByE w3 w3.heap.size (.slice Al l.length cl) l)
      have Hb3 := Lib.hid (Hb2.out.trans (hb3.mono Hb2.out.size))
      clear hb3 hm hp hs hok hgd hga har hG hgs Hgo hnr Hb12 HE1
      go_wp2_with fail
      refine Hga.out.mono ?_
      rintro _ w4 ⟨va, rfl, hoa, hb4⟩
      obtain ⟨Aa, ca, rfl, _⟩ := hoa.form'
      have HA4 := Lib.hid (show ByA w4 w4.heap.size (.slice Aa arcs.length ca) arcs from hoa.rowLt.mono (fun _ h => h) (fun _ h => h.elim))
      have HE4 := Lib.hid ((HE3.out.below hb4).more hb4.size)
      have HG4 := Lib.hid ((HG3.out.below hb4).more hb4.size)
      have Hb4 := Lib.hid (Hb3.out.trans (hb4.mono Hb3.out.size))
      have hpq2 : p * q ≤ 40 * 40 := Nat.mul_le_mul hpq.2.1 hpq.2.2.2
      obtain ⟨pq, hpq3⟩ : ∃ pq, pq = p * q := ⟨_, rfl⟩
      have hm64 : IntKind.u64.wrap ((p : Int) * (q : Int)) = (pq : Int) := by rw [← Int.natCast_mul, ← hpq3, wrap_u64]; omega
      have hmi : IntKind.i64.wrap ((p : Int) * (q : Int)) = (pq : Int) := by rw [← Int.natCast_mul, ← hpq3, wrap_i64]; omega
      have hble := fun b2 n2 => biasW_le hpq.1 hpq.2.2.1 b2 n2
      have hsc := fun (W : World) => scale_any W p q (by omega) (by omega)
      rw [← hpq3] at hble hpq2 hsc
      have Hble := Lib.hid hble
      have Hpq3 := Lib.hid hpq3
      have Hsc := Lib.hid hsc
      have hu1 : IntKind.u64.wrap (p : Int) = (p : Int) := by rw [wrap_u64]; omega
      have hu2 : IntKind.u64.wrap (q : Int) = (q : Int) := by rw [wrap_u64]; omega
      have hu3 : IntKind.i64.wrap (p : Int) = (p : Int) := by rw [wrap_i64]; omega
      have hu4 : IntKind.i64.wrap (q : Int) = (q : Int) := by rw [wrap_i64]; omega
      have hu5 : IntKind.u32.wrap (p : Int) = (p : Int) := by rw [IntKind.wrap_u32']; omega
      have hu6 : IntKind.u32.wrap (q : Int) = (q : Int) := by rw [IntKind.wrap_u32']; omega
      have hp1 : 1 ≤ p := hpq.1
      have hq1 : 1 ≤ q := hpq.2.2.1
      clear hoa hb4 Hga Hb3 HE3 HG3 hpq3 hble hpq hsc
      go_wp2_with fail
      go_loopw [20] (fun i wx => ∃ k : Nat, k ≤ arcs.length ∧ i = .int .i64 (k : Int) ∧ Below w4.heap.size w4 wx) (fun i _ => arcs.length - (intOf i).toNat)
      case atStart => exact ⟨0, Nat.zero_le _, rfl, Below.refl _ _⟩
      case round =>
        obtain ⟨k, hk, rfl, hbx⟩ := hrel
        generalize wr = wx at *
        have Hbx := Lib.hid hbx
        clear hbx
        by_cases hlt : k < arcs.length
        · have hwx := Hbx.out.size
          have HA := Lib.hid ((HA4.out.below Hbx.out).more hwx)
          have HE := Lib.hid ((HE4.out.below Hbx.out).more hwx)
          have HG := Lib.hid ((HG4.out.below Hbx.out).more hwx)
          obtain ⟨ad, hAa, hab, hc0, _⟩ := HA.out.cells k hlt
          subst hAa
          have hnr := Hnr.out arcs[k].to
          have hna := fun (W : World) (B : Nat) (hG : GraphAt W B g Rw) (hB : B ≤ W.heap.size) => near_any W B g Rw Hgd.out fr arcs[k].to hG hB
          have hwt := fun (W : World) (B : Nat) (hE : ByE W B (.slice Al l.length cl) l) => wt_any W B l Al cl hE (by omega) fr arcs[k].to
          have b0 := u32_beq arcs[k].to fr
          obtain ⟨bk, hbk⟩ : ∃ bk, decide (arcs[k].to = fr) = bk := ⟨_, rfl⟩
          obtain ⟨nr, hnr2⟩ : ∃ nr, nearP Rw fr arcs[k].to = nr := ⟨_, rfl⟩
          rw [hbk] at b0
          rw [hnr2] at hna hnr
          have hacc := fun (W : World) (m : Nat) => accepts_any W p q m (by omega) (by omega) bk nr
          have hbl := Hble.out bk nr
          obtain ⟨bw, hbw⟩ : ∃ bw, bw = biasW p q bk nr := ⟨_, rfl⟩
          rw [← hbw] at hacc hbl
          have Hbw := Lib.hid hbw
          have Hnrd := Lib.hid hnr
          have Hna := Lib.hid hna
          have Hwt := Lib.hid hwt
          have Hacc := Lib.hid hacc
          have hdk : decide (k < arcs.length) = true := decide_eq_true hlt
          have Bq := Lib.hid b0
          clear hnr hna hwt hacc hbw hbk hnr2 b0
          generalize wtE l fr arcs[k].to = wn at *
          generalize arcs[k].to.toNat = tk at *
          go_wp2_with fail
          go_loopw [22, 23] (fun n u wy => ∃ m : Nat, m ≤ pq ∧ u = .int .u64 (m : Int) ∧ n = .int .i64 ((min m bw : Nat) : Int) ∧ Below wx.heap.size wx wy) (fun _ u _ => pq - (intOf u).toNat)
          case atStart => exact ⟨0, Nat.zero_le _, rfl, by simp, Below.refl _ _⟩
          case round =>
            obtain ⟨m, hm, rfl, rfl, hby2⟩ := hrel
            generalize wr = wy at *
            by_cases hlm : m < pq
            · have HN := Lib.hid (Hna.out wy wy.heap.size ((HG.out.below hby2).more hby2.size) (Nat.le_refl _))
              have Hby := Lib.hid hby2
              have hdm : decide (m < pq) = true := decide_eq_true hlm
              have b0 := Bq.out
              clear hby2
              go_wp2_with fail
              refine HN.out.mono ?_
              rintro _ wz ⟨rfl, hbz⟩
              have Hbz := Lib.hid (Hby.out.trans (hbz.mono Hby.out.size))
              clear hbz HN Hby
              go_wp2_with fail
              refine (Hacc.out _ m).mono ?_
              rintro _ wz2 ⟨rfl, hwz⟩
              subst hwz
              by_cases hmb : m < bw
              · have hd : decide (m < bw) = true := decide_eq_true hmb
                rw [hd, Nat.min_eq_left (Nat.le_of_lt hmb)]
                go_wp2_with fail
                go_roundw
                case rel => exact ⟨m + 1, by omega, by go_num, by rw [Nat.min_eq_left (show m + 1 ≤ bw by omega)]; go_num, Hbz.out⟩
                case measure => simp [intOf]; omega
              · have hd : decide (m < bw) = false := decide_eq_false hmb
                rw [hd, Nat.min_eq_right (by omega)]
                go_wp2_with fail
                go_roundw
                case rel => exact ⟨m + 1, by omega, by go_num, by rw [Nat.min_eq_right (by omega)], Hbz.out⟩
                case measure => simp [intOf]; omega
            · have hdm : decide (m < pq) = false := decide_eq_false hlm
              have hmn : min m bw = bw := by omega
              have b0 := Bq.out
              rw [hmn]
              have HW := Lib.hid (Hwt.out wy wy.heap.size ((HE.out.below hby2).more hby2.size))
              have Hby := Lib.hid (Hbx.out.trans (hby2.mono hwx))
              have hpb := Hbw.out
              have hpq3 := Hpq3.out
              have hnd := Hnrd.out
              have hcs : (bk = true ∧ bw = q) ∨ (bk = false ∧ 0 < wn ∧ bw = pq) ∨ (bk = false ∧ wn = 0 ∧ bw = p) := by
                unfold biasW at hpb
                cases bk
                · rw [if_neg (by simp)] at hpb
                  cases nr
                  · rw [if_neg (by simp)] at hpb
                    exact .inr (.inr ⟨rfl, by have := of_decide_eq_false hnd.symm; omega, hpb⟩)
                  · rw [if_pos rfl] at hpb
                    exact .inr (.inl ⟨rfl, of_decide_eq_true hnd.symm, by omega⟩)
                · rw [if_pos rfl] at hpb
                  exact .inl ⟨rfl, hpb⟩
              have Hcs := Lib.hid hcs
              clear hby2 hpb hpq3 hnd hcs hmn Hbw Hnrd Hna Hacc hm hbl
              go_wp2_with fail
              refine HW.out.mono ?_
              rintro _ wz ⟨rfl, hwz⟩
              subst hwz
              have b1 : ((bw : Int) != (bw : Int)) = false := by simp
              rcases Hcs.out with ⟨e1, e2⟩ | ⟨e1, e2, e3⟩ | ⟨e1, e2, e3⟩
              · subst e1
                subst e2
                by_cases hw0 : 0 < wn
                · have hd0 : decide ((0 : Int) < (wn : Int)) = true := decide_eq_true (by omega)
                  go_wp2_with fail
                  go_roundw
                  case rel => exact ⟨k + 1, by omega, by go_num, Hby.out⟩
                  case measure => simp [intOf]; omega
                · have hd0 : decide ((0 : Int) < (wn : Int)) = false := decide_eq_false (by omega)
                  go_wp2_with fail
                  go_roundw
                  case rel => exact ⟨k + 1, by omega, by go_num, Hby.out⟩
                  case measure => simp [intOf]; omega
              · subst e1
                subst e3
                have hd0 : decide ((0 : Int) < (wn : Int)) = true := decide_eq_true (by omega)
                go_wp2_with fail
                go_roundw
                case rel => exact ⟨k + 1, by omega, by go_num, Hby.out⟩
                case measure => simp [intOf]; omega
              · subst e1
                subst e2
                subst e3
                go_wp2_with fail
                go_roundw
                case rel => exact ⟨k + 1, by omega, by go_num, Hby.out⟩
                case measure => simp [intOf]; omega
        · have hdk : decide (k < arcs.length) = false := decide_eq_false hlt
          have Hbw := Lib.hid (Hb4.out.trans (Hbx.out.mono Hb4.out.size))
          have b1 : ((pq : Int) == (pq : Int)) = true := by simp
          clear Hbx
          go_wp2_with fail
          refine (Hsc.out _).mono ?_
          rintro _ wz ⟨rfl, hwz⟩
          subst hwz
          go_wp2_with fail
          refine (Haw.out _).mono ?_
          rintro _ wz2 ⟨rfl, hbz⟩
          go_wp2_with fail
          go_ret
          exact ⟨rfl, Hbw.out.trans (hbz.mono Hbw.out.size)⟩
end Go.Proofs.YtcffeepgfjpcaaaGreat

namespace Go.Proofs.YtcffeepgfjpcaaaGreat.topSecond
open Go.Proofs.YtcffeepgfjpcaaaGreat
open Go.ChangeShapes Go.WideShapes Go.ChangeAt Go.RowKit
set_option linter.unusedVariables false
set_option linter.unusedSimpArgs false

theorem own : ownKnob Tryz.prog.godebug = none := by kernel_rfl
theorem laidOut : laidOutB Tryz.prog = true := by kernel_rfl

set_option maxRecDepth 100000 in
theorem walk (v0 v1 v2 v3 v4 : Value) (w : World) (h0 : InC w 40 [v0]) (h1 : InC w 24 [v1]) (h2 : InC w 24 [v2]) (h3 : InC w 5 [v3]) (h4 : InC w 5 [v4]) (hn : ∀ A n c, v0 = .slice A n c → n ≤ 1048576) :
    Calls Tryz.prog 4 #[v0, v1, v2, v3, v4] w fun e w' => e = .returned (.bool true) ∧ Below w.heap.size w w' := by
  obtain ⟨b, hb⟩ := h0.bytes
  obtain ⟨f, e1, _⟩ := InC.u32 (S := fun _ => True) Tryz.underlying24 h1
  obtain ⟨v, e2, _⟩ := InC.u32 (S := fun _ => True) Tryz.underlying24 h2
  obtain ⟨p, e3, _⟩ := InC.u8 (S := fun _ => True) Tryz.underlying5 h3
  obtain ⟨q, e4, _⟩ := InC.u8 (S := fun _ => True) Tryz.underlying5 h4
  injection e1 with e1
  injection e2 with e2
  injection e3 with e3
  injection e4 with e4
  subst e1; subst e2; subst e3; subst e4
  obtain ⟨A, c, rfl, _⟩ := id hb
  exact tsecond_walk w A c b hb (hn A _ c rfl) f v p.toNat q.toNat p.toNat_lt q.toNat_lt

set_option maxRecDepth 100000 in
theorem lifted (os : Os) (started : os.Started) (H : Type) (enc : TypeId × Value → H) (Fi : Stop.Interp) :
    ReturnsInHanded {} Tryz.checked os 4 .any ((Rows.OpenSpec.upto Rows.topSecondSpec).pre6 enc Tryz.prog Tryz.f4 Rows.topSecondUptoRow.domain false) (((Rows.OpenSpec.upto Rows.topSecondSpec).at Fi).post enc Tryz.prog Tryz.f4 false true false false) := by
  refine returnsInHanded_of_cond (C := Tryz.checked) (s := Rows.OpenSpec.upto Rows.topSecondSpec) (k := Rows.uptoSmall) rfl own started (by kernel_rfl) Tryz.func4
    (OpenSpec.witness (enc := enc) (C := Tryz.checked) (s := Rows.OpenSpec.upto Rows.topSecondSpec) (k := Rows.uptoSmall) rfl false ⟨#[], #[.slice none 0 0, .int .u32 0, .int .u32 0, .int .u8 0, .int .u8 0], []⟩ 8 (by kernel_rfl) (by kernel_rfl) (by kernel_rfl)
      (x := ([.nil, .lit (.int .u32 0), .lit (.int .u32 0), .lit (.int .u8 0), .lit (.int .u8 0)], [], [])) (by kernel_rfl) rfl (by kernel_rfl)) ?_
  intro W base args ds gs before hval0 hW _ hk _
  have hval : ∀ (j : Nat) t v, Tryz.f4.params[j]? = some t → args[j]? = some v → Value.okWide Tryz.prog W .any base t v := hval0
  have hW' := hW
  obtain ⟨p, q, hA0, hV, rfl, hfz, hnd⟩ := hW
  have hA : DataW.TrodAll enc Tryz.prog W 0 (fun _ => true) true Tryz.f4.params.toList args.toList ds p := hA0
  rw [Tryz.params4] at hA hval
  obtain ⟨v0, vs0, d0, ds0, p0, q0, hargs, rfl, rfl, h0, r0⟩ := trodAll_cons hA
  obtain ⟨v1, vs1, d1, ds1, p1, q1, rfl, rfl, rfl, h1, r1⟩ := trodAll_cons r0
  obtain ⟨v2, vs2, d2, ds2, p2, q2, rfl, rfl, rfl, h2, r2⟩ := trodAll_cons r1
  obtain ⟨v3, vs3, d3, ds3, p3, q3, rfl, rfl, rfl, h3, r3⟩ := trodAll_cons r2
  obtain ⟨v4, vs4, d4, ds4, p4, q4, rfl, rfl, rfl, h4, r4⟩ := trodAll_cons r3
  obtain ⟨rfl, rfl, rfl⟩ := trodAll_nil r4
  obtain rfl : args = #[v0, v1, v2, v3, v4] := by cases args; simp_all
  obtain ⟨rfl, rfl⟩ := trodVars_none hV
  have k0 := h0
  have lt0 : ∀ x ∈ p0, x.block < W.heap.size := by obtain ⟨m, hm⟩ := k0; exact DataW.trod_lt m _ _ _ hm
  have i0 := InC.of h0
  obtain ⟨a0, len0, cap0, rfl⟩ := okWide_slice Tryz.underlying40 (hval 0 40 v0 rfl rfl)
  have j0 : InC W 40 [_] := i0
  have k1 := h1
  have lt1 : ∀ x ∈ p1, x.block < W.heap.size := by obtain ⟨m, hm⟩ := k1; exact DataW.trod_lt m _ _ _ hm
  have i1 := InC.of h1
  obtain ⟨a1, rfl⟩ := okWide_int Tryz.underlying24 (hval 1 24 v1 rfl rfl)
  have j1 : InC W 24 [_] := i1
  have k2 := h2
  have lt2 : ∀ x ∈ p2, x.block < W.heap.size := by obtain ⟨m, hm⟩ := k2; exact DataW.trod_lt m _ _ _ hm
  have i2 := InC.of h2
  obtain ⟨a2, rfl⟩ := okWide_int Tryz.underlying24 (hval 2 24 v2 rfl rfl)
  have j2 : InC W 24 [_] := i2
  have k3 := h3
  have lt3 : ∀ x ∈ p3, x.block < W.heap.size := by obtain ⟨m, hm⟩ := k3; exact DataW.trod_lt m _ _ _ hm
  have i3 := InC.of h3
  obtain ⟨a3, rfl⟩ := okWide_int Tryz.underlying5 (hval 3 5 v3 rfl rfl)
  have j3 : InC W 5 [_] := i3
  have k4 := h4
  have lt4 : ∀ x ∈ p4, x.block < W.heap.size := by obtain ⟨m, hm⟩ := k4; exact DataW.trod_lt m _ _ _ hm
  have i4 := InC.of h4
  obtain ⟨a4, rfl⟩ := okWide_int Tryz.underlying5 (hval 4 5 v4 rfl rfl)
  have j4 : InC W 5 [_] := i4
  clear hA0 hval0
  have hb0 := bulk_len (e := 5) Tryz.underlying40 h0 hk
  refine (walk _ _ _ _ _ W j0 j1 j2 j3 j4 (fun A n c e => by injection e with _ e2 _; subst e2; exact hb0)).mono fun e W' ⟨he, bel⟩ => ?_
  subst he
  exact ⟨_, rfl, _, _, _, [], _, [], hW', trodAll_mk1 (shut_bool Tryz.underlying4 _), (trodAll_cons_mk (Below.trod laidOut (by kernel_rfl) (of_decide_eq_true (by kernel_rfl)) k0 bel lt0) (trodAll_cons_mk (Below.trod laidOut (by kernel_rfl) (of_decide_eq_true (by kernel_rfl)) k1 bel lt1) (trodAll_cons_mk (Below.trod laidOut (by kernel_rfl) (of_decide_eq_true (by kernel_rfl)) k2 bel lt2) (trodAll_cons_mk (Below.trod laidOut (by kernel_rfl) (of_decide_eq_true (by kernel_rfl)) k3 bel lt3) (trodAll_cons_mk (Below.trod laidOut (by kernel_rfl) (of_decide_eq_true (by kernel_rfl)) k4 bel lt4) trodAll_mk0))))), rfl, bel.frame _, fun h => by cases h⟩

theorem over : Rows.topSecondUptoRow.holds Tryz.pinned (Rows.OpenSpec.upto Rows.topSecondSpec) :=
  OpenClaim.holds_of_cond 4 Tryz.f4 rfl rfl rfl rfl rfl rfl rfl ⟨rfl, rfl, rfl, rfl, rfl⟩ rfl rfl rfl rfl rfl (by kernel_rfl) Tryz.func4 (by kernel_rfl)
    (of_decide_eq_true (by kernel_rfl)) (by unfold Func.isWrapper; first | (rw [if_pos (by decide +kernel)]; kernel_rfl) | (rw [if_neg (by decide +kernel)]; exact ⟨rfl, rfl⟩))
    (fun os started H enc _ Fi => lifted os started H enc Fi)

theorem proved : Rows.TopSecondUptoSaid := over
#print axioms proved
end Go.Proofs.YtcffeepgfjpcaaaGreat.topSecond
