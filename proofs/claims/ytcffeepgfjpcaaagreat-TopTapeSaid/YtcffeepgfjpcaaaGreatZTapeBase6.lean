/- the base of the law TopTape -/
import Derived.Test.YtcffeepgfjpcaaaGreatZTapeBase5
import Derived.Deep.Cut
import Derived.Deep.CutRange
namespace Go.Proofs.YtcffeepgfjpcaaaGreat
set_option linter.unusedSimpArgs false
set_option linter.unusedVariables false
open Go.RowKit

set_option maxRecDepth 100000 in
set_option maxHeartbeats 6400000 in
theorem pdqU (base g off n c : Nat) (l0 : List UInt32) (W0 : World) (hn : n ≤ 1048576) : ∀ (N a b lim : Nat) (W : World), b - a < N → a ≤ b → b ≤ n → lim ≤ 64 → Srt base g off n c l0 W0 W →
    Calls Tryz.prog 132 #[.slice (some ⟨g, off, none⟩) n c, .int .i64 (a : Int), .int .i64 (b : Int), .int .i64 (lim : Int)] W fun e w' => e = .returned (.tuple #[]) ∧ Srt base g off n c l0 W0 w' := by
  intro N
  induction N with
  | zero => intro a b lim W h; omega
  | succ N ih =>
    intro a b lim W hN hab hb hlim h
    have IH := Lib.hid ih
    have S0 := Lib.hid h
    have HIns := Lib.hid (fun (a b : Nat) (w : World) (h' : Srt base g off n c l0 W0 w) (h1 : a ≤ b) (h2 : b ≤ n) => insU base g off n c a b l0 W0 w h' h1 h2 hn)
    have HHeap := Lib.hid (fun (a b : Nat) (w : World) (h' : Srt base g off n c l0 W0 w) (h1 : a < b) (h2 : b ≤ n) => heapU base g off n c a b l0 W0 w h' h1 h2 hn)
    have HBrk := Lib.hid (fun (a b : Nat) (w : World) (h' : Srt base g off n c l0 W0 w) (h1 : a + 8 ≤ b) (h2 : b ≤ n) => brkU base g off n c a b l0 W0 w h' h1 h2 hn)
    have HPiv := Lib.hid (fun (a b : Nat) (w : World) (h' : Srt base g off n c l0 W0 w) (h1 : a + 8 ≤ b) (h2 : b ≤ n) => pivU base g off n c a b l0 W0 w h' h1 h2 hn)
    have HRev := Lib.hid (fun (a b : Nat) (w : World) (h' : Srt base g off n c l0 W0 w) (h1 : a < b) (h2 : b ≤ n) => revU base g off n c a b l0 W0 w h' h1 h2 hn)
    have HPin := Lib.hid (fun (a b : Nat) (w : World) (h' : Srt base g off n c l0 W0 w) (h1 : a < b) (h2 : b ≤ n) => pinsU base g off n c a b l0 W0 w h' h1 h2 hn)
    have HPeq := Lib.hid (fun (a b p : Nat) (w : World) (h' : Srt base g off n c l0 W0 w) (h1 : a < b) (h2 : a ≤ p ∧ p < b) (h3 : b ≤ n) => partEqU base g off n c a b p l0 W0 w h' h1 h2 h3 hn)
    have HPar := Lib.hid (fun (a b p : Nat) (w : World) (h' : Srt base g off n c l0 W0 w) (h1 : a < b) (h2 : a ≤ p ∧ p < b) (h3 : b ≤ n) => partU base g off n c a b p l0 W0 w h' h1 h2 h3 hn)
    clear ih h
    go_enter Tryz.func132, Tryz.ntmps132
    go_wp2_with fail
    go_loopg [1, 2, 3, 8, 9] (b - a) (fun gh va vb vl vx vy wx => ∃ (p q m : Nat) (x y : Bool), va = .int .i64 (p : Int) ∧ vb = .int .i64 (q : Int) ∧ vl = .int .i64 (m : Int) ∧ vx = .bool x ∧ vy = .bool y ∧ (p ≤ q ∧ q ≤ n) ∧ q - p ≤ gh ∧ q - p ≤ N ∧ m ≤ 64 ∧ Srt base g off n c l0 W0 wx)
    case atStart => exact ⟨a, b, lim, true, true, rfl, rfl, rfl, rfl, rfl, by omega, by omega, by omega, by omega, S0.out⟩
    case round =>
      obtain ⟨p, q, m, x, y, rfl, rfl, rfl, rfl, rfl, hpq, hgh, hqN, hm, hS⟩ := hrel
      have S1 := Lib.hid hS
      clear hS S0
      generalize wr = wv at *
      obtain ⟨L, hL⟩ : ∃ L : Nat, L + p = q := ⟨q - p, by omega⟩
      have hLz : (q : Int) - (p : Int) = (L : Int) := by omega
      by_cases h12 : L ≤ 12
      · have hd12 : decide ((L : Int) ≤ 12) = true := decide_eq_true (by omega)
        clear hL
        go_wp2_with fail
        refine (HIns.out p q _ S1.out hpq.1 hpq.2).mono ?_
        rintro _ w1 ⟨rfl, hS2⟩
        go_wp2_with fail
        (try simp only [Exit.inBlock, Exit.then]); refine bodyPost_ret (results_none rfl _ _ _) rfl ?_
        exact ⟨rfl, hS2⟩
      · have hd12 : decide ((L : Int) ≤ 12) = false := decide_eq_false (by omega)
        by_cases hm0 : m = 0
        · have hd0 : ((m : Int) == 0) = true := by rw [hm0]; rfl
          have hlt : p < q := by omega
          clear hm0 hL
          go_wp2_with fail
          refine (HHeap.out p q _ S1.out hlt hpq.2).mono ?_
          rintro _ w1 ⟨rfl, hS2⟩
          go_wp2_with fail
          (try simp only [Exit.inBlock, Exit.then]); refine bodyPost_ret (results_none rfl _ _ _) rfl ?_
          exact ⟨rfl, hS2⟩
        · have hd0 : ((m : Int) == 0) = false := beq_eq_false_iff_ne.2 (by omega)
          have hm1 : 1 ≤ m := by omega
          have hp8 : p + 8 ≤ q := by omega
          have hlt : p < q := by omega
          have HL := Lib.hid hL
          clear hm0 hL
          go_upto_if 35 with fail
          go_cut [3] from 19 to 133 (fun v3 wx => ∃ m2 : Nat, v3 = .int .i64 (m2 : Int) ∧ m2 ≤ 64 ∧ Srt base g off n c l0 W0 wx)
          case first =>
            cases x with
            | true =>
              go_wp2_with fail
              go_meet
              exact ⟨m, rfl, hm, S1.out⟩
            | false =>
              go_wp2_with fail
              refine (HBrk.out p q _ S1.out hp8 hpq.2).mono ?_
              rintro _ w1 ⟨rfl, hS2⟩
              have HS2 := Lib.hid hS2
              clear hS2
              go_wp2_with fail
              go_meet
              exact ⟨m - 1, by congr 1; omega, by omega, HS2.out⟩
          case rest =>
            obtain ⟨m2, rfl, hm2, hS⟩ := hcut
            have S2 := Lib.hid hS
            clear hS S1 hm hd0 hm1
            generalize wc = wv at *
            go_wp2_with fail
            refine (HPiv.out p q _ S2.out hp8 hpq.2).mono ?_
            rintro _ w1 ⟨pv, t, rfl, hpv, hS⟩
            have S3 := Lib.hid hS
            clear hS S2
            go_upto_if 50 with fail
            go_cut [11, 12] from 19 to 133 (fun vp vt wx => ∃ (pv : Nat) (t : Int), vp = .int .i64 (pv : Int) ∧ vt = .int .i64 t ∧ (p ≤ pv ∧ pv < q) ∧ Srt base g off n c l0 W0 wx)
            case first =>
              by_cases ht : t = 2
              · subst ht
                go_wp2_with fail
                refine (HRev.out p q _ S3.out hlt hpq.2).mono ?_
                rintro _ w2 ⟨rfl, hS⟩
                have S4 := Lib.hid hS
                clear hS S3
                go_wp2_with fail
                go_meet
                exact ⟨q - 1 - (pv - p), 1, by congr 1; omega, rfl, by omega, S4.out⟩
              · have hdt : (t == 2) = false := beq_eq_false_iff_ne.2 ht
                go_wp2_with fail
                go_meet
                exact ⟨pv, t, rfl, rfl, hpv, S3.out⟩
            case rest =>
              clear hpv S3
              obtain ⟨pv, t, rfl, rfl, hpv, hS⟩ := hcut
              have S4 := Lib.hid hS
              clear hS
              generalize wc = wv at *
              go_step
              go_step
              go_cut [] from 19 to 133 (fun wx => Srt base g off n c l0 W0 wx)
              case first =>
                cases x with
                | false =>
                  go_wp2_with fail
                  go_meet
                  exact S4.out
                | true =>
                  cases y with
                  | false =>
                    go_wp2_with fail
                    go_meet
                    exact S4.out
                  | true =>
                    by_cases ht : t = 1
                    · subst ht
                      go_wp2_with fail
                      refine (HPin.out p q _ S4.out hlt hpq.2).mono ?_
                      rintro _ w2 ⟨r, rfl, hS⟩
                      have S5 := Lib.hid hS
                      clear hS S4
                      cases r with
                      | true =>
                        go_wp2_with fail
                        (try simp only [Exit.inBlock, Exit.then]); refine bodyPost_ret (results_none rfl _ _ _) rfl ?_
                        exact ⟨rfl, S5.out⟩
                      | false =>
                        go_wp2_with fail
                        go_meet
                        exact S5.out
                    · have hdt : (t == 1) = false := beq_eq_false_iff_ne.2 ht
                      go_wp2_with fail
                      go_meet
                      exact S4.out
              case rest =>
                have S5 := Lib.hid hcut
                clear hcut S4
                generalize wc = wv at *
                go_step
                go_step
                go_cut [1] from 19 to 133 (fun va wx => va = .int .i64 (p : Int) ∧ Srt base g off n c l0 W0 wx)
                case first =>
                  by_cases hp0 : 0 < p
                  · obtain ⟨k, hk⟩ : ∃ k, k + 1 = p := ⟨p - 1, by omega⟩
                    subst hk
                    obtain ⟨G, hcw, hfw, SW⟩ := S5.out.fam
                    go_wp2
                    go_quiet (first | (go_at_call 143; refine Calls.quiet_of_same (lessU _ _ _)))
                    have S6 := Lib.hid (S5.out.drewN nq)
                    clear hcw hfw SW S5
                    generalize wv.drewN nq = wz at *
                    go_wp2_with fail
                    · refine (HPeq.out (k + 1) q pv _ S6.out hlt hpv hpq.2).mono ?_
                      rintro _ w2 ⟨z, rfl, hz, hS⟩
                      have S7 := Lib.hid hS
                      clear hS S6
                      go_wp2_with fail
                      go_roundg (q - z)
                      case measure => have := HL.out; omega
                      case rel => exact ⟨z, q, m2, x, y, rfl, rfl, rfl, rfl, rfl, by omega, by omega, by omega, by omega, S7.out⟩
                    · go_meet
                      exact ⟨rfl, S6.out⟩
                  · have hpz : p = 0 := by omega
                    have hdp : decide ((p : Int) > 0) = false := decide_eq_false (by omega)
                    go_wp2
                    go_quiet (first | (go_at_call 143; refine Calls.quiet_of_same (lessU _ _ _)))
                    go_wp2
                    go_meet
                    exact ⟨rfl, S5.out.drewN _⟩
                case rest =>
                  obtain ⟨rfl, hS6⟩ := hcut
                  have S6 := Lib.hid hS6
                  clear hS6 S5
                  generalize wc = wv at *
                  go_wp2_with fail
                  refine (HPar.out p q pv _ S6.out hlt hpv hpq.2).mono ?_
                  rintro _ w2 ⟨z, r, rfl, hz, hS⟩
                  have S7 := Lib.hid hS
                  clear hS S6
                  have hz1 : (z : Int) - (p : Int) = ((z - p : Nat) : Int) := by omega
                  have hz2 : (q : Int) - (z : Int) = ((q - z : Nat) : Int) := by omega
                  obtain ⟨ll, hll⟩ : ∃ ll, ll = z - p := ⟨_, rfl⟩
                  obtain ⟨rr, hrr⟩ : ∃ rr, rr = q - z := ⟨_, rfl⟩
                  rw [← hll] at hz1
                  rw [← hrr] at hz2
                  clear hll hrr
                  have hiq := HL.out
                  by_cases hlr : ll < rr
                  · have hdl : decide ((ll : Int) < (rr : Int)) = true := decide_eq_true (by omega)
                    have HI := Lib.hid (IH.out p z m2 w2 (by omega) hz.1 (by omega) hm2 S7.out)
                    clear hiq
                    go_wp2_with fail
                    refine HI.out.mono ?_
                    rintro _ w3 ⟨rfl, hS⟩
                    have S8 := Lib.hid hS
                    clear hS S7 HI
                    go_wp2_with fail
                    go_roundg (q - (z + 1))
                    case measure => have := HL.out; omega
                    case rel => exact ⟨z + 1, q, m2, _, r, by go_num, rfl, rfl, rfl, rfl, by omega, by omega, by omega, by omega, S8.out⟩
                  · have hdl : decide ((ll : Int) < (rr : Int)) = false := decide_eq_false (by omega)
                    have hzz : (z : Int) + 1 = ((z + 1 : Nat) : Int) := by omega
                    have HI := Lib.hid (IH.out (z + 1) q m2 w2 (by omega) (by omega) hpq.2 hm2 S7.out)
                    obtain ⟨z1, hz3⟩ : ∃ z1, z1 = z + 1 := ⟨_, rfl⟩
                    rw [← hz3] at HI hzz
                    clear hiq hz3
                    go_wp2_with fail
                    refine HI.out.mono ?_
                    rintro _ w3 ⟨rfl, hS⟩
                    have S8 := Lib.hid hS
                    clear hS S7 HI
                    go_wp2_with fail
                    go_roundg (z - p)
                    case measure => have := HL.out; omega
                    case rel => exact ⟨p, z, m2, _, r, rfl, rfl, rfl, rfl, rfl, by omega, by omega, by omega, by omega, S8.out⟩
end Go.Proofs.YtcffeepgfjpcaaaGreat

namespace Go.Proofs.YtcffeepgfjpcaaaGreat
set_option linter.unusedSimpArgs false
set_option linter.unusedVariables false
open Go.RowKit

theorem bitLenAux_le : ∀ f x, Lib.bitLenAux f x ≤ f
  | 0, x => by simp [Lib.bitLenAux]
  | f + 1, x => by
    unfold Lib.bitLenAux
    have := bitLenAux_le f (x / 2)
    split <;> omega
theorem srt_start {W : World} {base g c : Nat} {l : List UInt32} (h : OwnF 24 cU32 W base (.slice (some ⟨g, 0, none⟩) l.length c) l) (hg : g < W.heap.size) : Srt base g 0 l.length c l W W := by
  obtain ⟨css, h1, h2, h3, _⟩ := h
  refine ⟨rfl, ⟨l, List.Perm.refl _, rfl, ?_⟩, Chg.refl _ _, hg⟩
  have e : css = l.map fun x => [eU x] := by
    apply List.ext_getElem?
    intro i
    rw [List.getElem?_map]
    by_cases hi : i < l.length
    · rw [List.getElem?_eq_getElem hi, Option.map_some, List.getElem?_eq_getElem (by omega)]
      have := h3 i _ l[i] (List.getElem?_eq_getElem (by omega)) (List.getElem?_eq_getElem hi)
      rw [this.1]
      rfl
    · rw [List.getElem?_eq_none (by omega), List.getElem?_eq_none (by omega)]
      rfl
  rw [e] at h2
  have e2 : (l.map fun x => [eU x]).flatten = l.map eU := by
    have : ∀ l : List UInt32, (l.map fun x => [eU x]).flatten = l.map eU := fun l => by
      induction l with
      | nil => rfl
      | cons a l ih => rw [List.map_cons, List.flatten_cons, ih]; rfl
    exact this l
  rw [e2] at h2
  exact h2
theorem srt_end {W0 W : World} {base g n c : Nat} {l0 : List UInt32} (h : Srt base g 0 n c l0 W0 W) : ∃ l' : List UInt32, l'.Perm l0 ∧ OwnF 24 cU32 W base (.slice (some ⟨g, 0, none⟩) n c) l' ∧ Chg (fun k => k = g) W0 W := by
  obtain ⟨l, h1, rfl, h3⟩ := h.ex
  refine ⟨l, h1, ⟨l.map fun x => [eU x], by simp, ?_, fun i cs x hc hx => ?_, fun k hk => hk.elim⟩, h.chg⟩
  · have e2 : (l.map fun x => [eU x]).flatten = l.map eU := by
      have : ∀ l : List UInt32, (l.map fun x => [eU x]).flatten = l.map eU := fun l => by
        induction l with
        | nil => rfl
        | cons a l ih => rw [List.map_cons, List.flatten_cons, ih]; rfl
      exact this l
    rw [e2]
    exact h3
  · rw [List.getElem?_map, hx, Option.map_some] at hc
    injection hc with hc
    subst hc
    exact ⟨rfl, trivial⟩
set_option maxRecDepth 100000 in
theorem sort_ok (l : List UInt32) (h0 : 0 < l.length) (hl : l.length ≤ 1048576) : SortOk l := by
  intro W base v ho hb
  have ho2 := ho
  obtain ⟨A, c, rfl, _, _, hA⟩ := ho2.form'
  obtain ⟨g, rfl, hg1, hg2⟩ := hA h0
  have hS := srt_start ho hg2
  have hp := fun (m : Nat) (hm : m ≤ 64) => pdqU base g 0 l.length c l W hl (l.length + 1) 0 l.length m W (by omega) (by omega) (by omega) hm hS
  have hbl : Lib.bitLen l.length ≤ 64 := bitLenAux_le 64 _
  have hl2 := fun W' => blen_any W' l.length (by omega)
  have Hp := Lib.hid hp
  have Hl := Lib.hid hl2
  have Hbl := Lib.hid hbl
  clear hp hl2 ho ho2 hS hA hbl
  generalize Lib.bitLen l.length = m at *
  go_enter Tryz.func127, Tryz.ntmps127
  go_wp2_with fail
  refine (Hl.out _).mono ?_
  rintro _ _ ⟨rfl, rfl⟩
  go_wp2_with fail
  refine (Hp.out m Hbl.out).mono ?_
  rintro _ w2 ⟨rfl, hS2⟩
  obtain ⟨l', h1, h2, h3⟩ := srt_end hS2
  go_wp2_with fail
  go_end0
  exact ⟨rfl, l', h1, h2, h3.more fun k _ e => by subst e; rfl⟩
end Go.Proofs.YtcffeepgfjpcaaaGreat

namespace Go.Proofs.YtcffeepgfjpcaaaGreat
set_option linter.unusedSimpArgs false
set_option linter.unusedVariables false
open Go.RowKit

def inB (x lo hi : Nat) : Bool := decide (lo ≤ x) && decide (x ≤ hi)
def m1J (j : GJob) : Bool := decide (j.kind.toNat ≤ 2) && (inB j.len.toNat 0 65536 && (inB j.walks.toNat 1 65536 && (decide (1 ≤ j.of_.toNat) && decide (j.stop.toNat ≤ j.of_.toNat))))
def m2J (j : GJob) : Bool := inB j.p.toNat 1 65536 && (inB j.q.toNat 1 65536 && (inB j.tries.toNat 1 1024 && decide (j.best.toNat ≤ 1024)))
def m3J (j : GJob) : Bool := inB j.shard.toNat 1 65536 && (inB j.room.toNat 1 16777216 && (inB j.pool.toNat 2 65536 && inB j.sort.toNat 1 4096))
def srcs19 (l : List UInt32) : Bool := decide (1 ≤ l.length) && (decide (l.length ≤ 256) && decide l.Nodup)
def may19 (j : GJob) : Bool := m1J j && (m2J j && (m3J j && srcs19 j.srcs))
def great22 (j : GJob) : Bool := decide (20 < j.len.toNat) || (decide (20 < j.tries.toNat) || (decide (300 < j.srcs.length) || (decide (60 < j.walks.toNat) || decide (60 < j.srcs.length * j.walks.toNat))))
theorem may19_srcs {j : GJob} (h : may19 j = true) : 1 ≤ j.srcs.length ∧ j.srcs.length ≤ 256 ∧ j.srcs.Nodup := by
  simp only [may19, srcs19, Bool.and_eq_true, decide_eq_true_eq] at h
  exact h.2.2.2
theorem may19_may {j : GJob} (h : may19 j = true) : mayJ j = true := by
  have hs := may19_srcs h
  simp only [may19, m1J, m2J, m3J, inB, Bool.and_eq_true, decide_eq_true_eq] at h
  obtain ⟨⟨h1, h2, h3, h4, h5⟩, ⟨h6, h7, h8, h9⟩, ⟨h10, h11, h12, h13⟩, _⟩ := h
  have hst := u32_lt j.stop
  have hof := u32_lt j.of_
  unfold mayJ
  simp only [Bool.and_eq_true, decide_eq_true_eq]
  refine ⟨by omega, h5, by omega, hs.2.1, ?_⟩
  unfold numsOk
  rw [List.all_eq_true]
  intro i hi
  rw [List.mem_range] at hi
  rw [List.all_eq_true]
  have hall : ∀ i, i < 10 → ∀ x ∈ (spI i).l, specOk j x = true := by
    intro i hi x hx
    rcases i with _ | _ | _ | _ | _ | _ | _ | _ | _ | _ | i
    all_goals first
      | (exfalso; omega)
      | (simp [spI, numT] at hx; subst hx; simp [specOk, jobN]; omega)
      | (simp [spI, numT] at hx; rcases hx with rfl | rfl <;> simp [specOk, jobN] <;> omega)
  exact hall i hi
theorem great22_parts {j : GJob} (h : great22 j = false) : j.len.toNat ≤ 20 ∧ j.tries.toNat ≤ 20 ∧ j.srcs.length ≤ 300 := by
  simp only [great22, Bool.or_eq_false_iff, decide_eq_false_iff_not] at h
  omega
/-- a walk asks nothing of the job's sources -/
theorem nextP_srcs (R : List GRow) (tab : List GArc → List GCell) (j : GJob) (s : List UInt32) (uk : UInt64) (path : List UInt32) : nextP R tab { j with srcs := s } uk path = nextP R tab j uk path := by
  have ht : ∀ (n ah : Nat) (near : UInt32 → Bool) (l : List GArc) (t : List GCell) (ut : UInt64) (k tr : Nat), tryP { j with srcs := s } uk ut n ah near l t k tr = tryP j uk ut n ah near l t k tr := by
    intro n ah near l t ut k
    induction k with
    | zero => intro tr; rfl
    | succ k ih =>
      intro tr
      unfold tryP
      rw [ih]
      rfl
  unfold nextP
  simp only [ht]
  rfl
theorem goesP_srcs (R : List GRow) (tab : List GArc → List GCell) (j : GJob) (s : List UInt32) (uk : UInt64) : ∀ (k : Nat) (path : List UInt32), goesP R tab { j with srcs := s } uk k path = goesP R tab j uk k path
  | 0, _ => rfl
  | k + 1, path => by
    unfold goesP
    rw [nextP_srcs]
    cases nextP R tab j uk path with
    | none => rfl
    | some v => exact goesP_srcs R tab j s uk k _
theorem walkersJ_may {j : GJob} (h : mayJ j = true) : walkersJ j = j.srcs.length * j.walks.toNat := by unfold walkersJ; rw [if_pos h]
theorem pathP_len (R : List GRow) (j : GJob) (id : Nat) : 0 < (pathP R j id).length ↔ id < walkersJ j := by
  unfold pathP
  split
  · rename_i h
    have := (goesP_len (R := R) (tab := btab) (j := j) (uk := UInt64.ofNat id) j.len.toNat [j.srcs.getD (srcJ j id) 0]).2
    simp only [List.length_cons, List.length_nil] at this
    exact ⟨fun _ => h, fun _ => by omega⟩
  · rename_i h
    exact ⟨fun h2 => by simp at h2, fun h2 => absurd h2 h⟩
theorem pathP_more (R : List GRow) (j : GJob) (more : List UInt32) (id : Nat) (hj : mayJ j = true) (hk : mayJ { j with srcs := j.srcs ++ more } = true) (hid : id < walkersJ j) :
    pathP R { j with srcs := j.srcs ++ more } id = pathP R j id := by
  have h1 := walkersJ_may hj
  have h2 := walkersJ_may hk
  simp only [List.length_append, Nat.add_mul] at h2
  have h3 : id < walkersJ { j with srcs := j.srcs ++ more } := by rw [h2, ← h1]; omega
  have h4 := srcJ_lt hid
  unfold pathP
  rw [if_pos hid, if_pos h3, goesP_srcs]
  have e : srcJ { j with srcs := j.srcs ++ more } id = srcJ j id := by unfold srcJ; rw [if_pos hid, if_pos h3]
  rw [e]
  have e2 : srcJ j id = id / j.walks.toNat := by unfold srcJ; rw [if_pos hid]
  have e3 : (j.srcs ++ more).getD (srcJ j id) 0 = j.srcs.getD (srcJ j id) 0 := by
    rw [List.getD_eq_getElem?_getD, List.getD_eq_getElem?_getD, List.getElem?_append_left (by rw [e2]; exact h4.2.1)]
  show goesP R btab j (UInt64.ofNat id) j.len.toNat [(j.srcs ++ more).getD (srcJ j id) 0] = _
  rw [e3]
end Go.Proofs.YtcffeepgfjpcaaaGreat

namespace Go.Proofs.YtcffeepgfjpcaaaGreat
set_option linter.unusedSimpArgs false
set_option linter.unusedVariables false
open Go.RowKit

theorem u32_beqT (a b : UInt32) : (((a.toNat : Int)) == (b.toNat : Int)) = decide (a = b) := by
  by_cases h : a = b
  · rw [h]; simp
  · rw [decide_eq_false h]
    exact beq_eq_false_iff_ne.2 fun e => h (UInt32.toNat_inj.1 (by omega))
theorem in19_any (w : World) (x lo hi : Nat) : Calls Tryz.prog 28 #[.int .u32 (x : Int), .int .u32 (lo : Int), .int .u32 (hi : Int)] w fun e w' => e = .returned (.bool (inB x lo hi)) ∧ w' = w := by
  unfold inB
  by_cases h1 : lo ≤ x
  · have d1 : decide ((x : Int) ≥ (lo : Int)) = true := decide_eq_true (by omega)
    go_enter Tryz.func28, Tryz.ntmps28
    go_wp2
    go_ret
    exact ⟨by simp [h1], rfl⟩
  · have d1 : decide ((x : Int) ≥ (lo : Int)) = false := decide_eq_false (by omega)
    go_enter Tryz.func28, Tryz.ntmps28
    go_wp2
    go_ret
    exact ⟨by simp [h1], rfl⟩
set_option maxRecDepth 100000 in
set_option maxHeartbeats 1600000 in
theorem srcs19_any (w : World) (v : Value) (l : List UInt32) (h : ByU w w.heap.size v l) : Calls Tryz.prog 29 #[v] w fun e w' => e = .returned (.bool (srcs19 l)) ∧ Below w.heap.size w w' := by
  obtain ⟨A, c, rfl, hc1, hc2⟩ := h.form
  obtain ⟨r, hr⟩ : ∃ r, r = srcs19 l := ⟨_, rfl⟩
  rw [← hr]
  have Hr := Lib.hid hr
  have H := Lib.hid h
  clear hr h
  have hgo : r = true ∨ r = false := by cases r <;> simp
  unfold maxLen at hc2
  by_cases h0 : l.length < 1
  · have hrf : r = false := by rw [Hr.out]; unfold srcs19; rw [decide_eq_false (by omega)]; rfl
    have d0 : decide ((l.length : Int) < 1) = true := decide_eq_true (by omega)
    clear h0 hgo
    go_enter Tryz.func29, Tryz.ntmps29
    go_wp2
    go_ret
    exact ⟨by rw [hrf]; rfl, Below.refl _ _⟩
  · have d0 : decide ((l.length : Int) < 1) = false := decide_eq_false (by omega)
    by_cases h2 : 256 < l.length
    · have hrf : r = false := by rw [Hr.out]; unfold srcs19; rw [decide_eq_false (show ¬ l.length ≤ 256 by omega)]; simp
      have d2 : decide ((l.length : Int) > 256) = true := decide_eq_true (by omega)
      clear hgo
      go_enter Tryz.func29, Tryz.ntmps29
      go_wp2
      go_ret
      exact ⟨by rw [hrf]; rfl, Below.refl _ _⟩
    · have d2 : decide ((l.length : Int) > 256) = false := decide_eq_false (by omega)
      have hl : l.length ≤ 256 := by omega
      have hrn : r = decide l.Nodup := by rw [Hr.out]; unfold srcs19; rw [decide_eq_true (show 1 ≤ l.length by omega), decide_eq_true hl]; simp
      have Hrn := Lib.hid hrn
      clear h0 h2 hgo hrn
      go_enter Tryz.func29, Tryz.ntmps29
      go_wp2
      go_loopw [15] (fun vi wr => ∃ i : Nat, i ≤ l.length ∧ vi = .int .i64 (i : Int) ∧ (∀ a b, (ha : a < b) → (hb : b < i) → (hb2 : b < l.length) → l[a] ≠ l[b]) ∧ Below w.heap.size w wr) (fun vi _ => l.length - (intOf vi).toNat)
      case atStart => exact ⟨0, Nat.zero_le _, rfl, fun a b _ hb => by omega, Below.refl _ _⟩
      case round =>
        obtain ⟨i, hi, rfl, hd, hb⟩ := hrel
        have Hd := Lib.hid hd
        have Hb := Lib.hid hb
        clear hd hb
        generalize wr = wx at *
        by_cases hlt : i < l.length
        · have hdi : decide ((i : Int) < (l.length : Int)) = true := decide_eq_true (by omega)
          go_wp2
          go_loopw [4] (fun vk wr => ∃ k : Nat, k ≤ i ∧ vk = .int .i64 (k : Int) ∧ (∀ a, (ha : a < k) → (ha2 : a < l.length) → l[a] ≠ l[i]) ∧ Below w.heap.size w wr) (fun vk _ => i - (intOf vk).toNat)
          case atStart => exact ⟨0, Nat.zero_le _, rfl, fun a ha => by omega, Hb.out⟩
          case round =>
            obtain ⟨k, hk, rfl, hd2, hb2⟩ := hrel
            have Hd2 := Lib.hid hd2
            have Hb2 := Lib.hid hb2
            clear hd2 hb2
            generalize wr = wy at *
            by_cases hkl : k < i
            · have hdk : decide ((k : Int) < (i : Int)) = true := decide_eq_true (by omega)
              obtain ⟨ad, hA, hab, hc1'⟩ := (H.out.below Hb2.out).cells k (by omega)
              obtain ⟨ad2, hA2, _, hc2'⟩ := (H.out.below Hb2.out).cells i hlt
              rw [hA] at hA2
              injection hA2 with hA2
              subst hA2
              subst hA
              have hx1 := hc1'
              have hx2 := hc2'
              obtain ⟨x, hx⟩ : ∃ x, x = l[k] := ⟨_, rfl⟩
              obtain ⟨y, hy⟩ : ∃ y, y = l[i] := ⟨_, rfl⟩
              rw [← hx] at hx1
              rw [← hy] at hx2
              have b0 := u32_beqT x y
              have Hxy := Lib.hid (And.intro hx hy)
              clear hc1' hc2' hx hy
              by_cases hxy : x = y
              · rw [decide_eq_true hxy] at b0
                have hrf : r = false := by
                  rw [Hrn.out]
                  refine decide_eq_false fun hnd => ?_
                  have := (List.pairwise_iff_getElem.1 hnd) k i (by omega) hlt hkl
                  exact this (by rw [← Hxy.out.1, ← Hxy.out.2]; exact hxy)
                have Hrf := Lib.hid hrf
                clear hrf hxy
                generalize x.toNat = xn at *
                generalize y.toNat = yn at *
                go_wp2
                go_quiet (fail)
                go_wp2
                go_ret
                exact ⟨by rw [Hrf.out]; rfl, bdrewN Hb2.out _⟩
              · rw [decide_eq_false hxy] at b0
                have Hne := Lib.hid hxy
                clear hxy
                generalize x.toNat = xn at *
                generalize y.toNat = yn at *
                go_wp2
                go_quiet (fail)
                go_wp2
                go_roundw
                case rel =>
                  refine ⟨k + 1, by omega, by go_num, fun a ha ha2 => ?_, bdrewN Hb2.out _⟩
                  by_cases hak : a < k
                  · exact Hd2.out a hak ha2
                  · obtain rfl : a = k := by omega
                    rw [← Hxy.out.1, ← Hxy.out.2]
                    exact Hne.out
                case measure => simp [intOf]; omega
            · have hdk : decide ((k : Int) < (i : Int)) = false := decide_eq_false (by omega)
              obtain rfl : k = i := by omega
              go_wp2
              go_roundw
              case rel =>
                refine ⟨k + 1, by omega, by go_num, fun a b ha hb hb3 => ?_, Hb2.out⟩
                by_cases hbk : b < k
                · exact Hd.out a b ha hbk hb3
                · obtain rfl : b = k := by omega
                  exact Hd2.out a ha (by omega)
              case measure => simp [intOf]; omega
        · have hdi : decide ((i : Int) < (l.length : Int)) = false := decide_eq_false (by omega)
          have hrt : r = true := by
            rw [Hrn.out]
            refine decide_eq_true (List.pairwise_iff_getElem.2 fun a b _ hb hab => Hd.out a b hab (by omega) hb)
          go_wp2
          go_ret
          exact ⟨by rw [hrt]; rfl, Hb.out⟩
set_option maxRecDepth 100000 in
set_option maxHeartbeats 1600000 in
theorem great22_any (w : World) (v : Value) (j : GJob) (h : JobAt w w.heap.size v j) : Calls Tryz.prog 7 #[v] w fun e w' => e = .returned (.bool (great22 j)) ∧ Below w.heap.size w w' := by
  obtain ⟨vs, rfl, hby⟩ := h
  obtain ⟨A, c, rfl, hc1, hc2⟩ := hby.form
  obtain ⟨r, hr⟩ : ∃ r, r = great22 j := ⟨_, rfl⟩
  rw [← hr]
  have Hr := Lib.hid hr
  have Hb1 := Lib.hid (balloc w (.cells (jobC j (.slice A j.srcs.length c)).toArray 29))
  have X1 : BoxAt 29 (w.alloc (.cells (jobC j (.slice A j.srcs.length c)).toArray 29)) w.heap.size (jobC j (.slice A j.srcs.length c)) := BoxAt.new_ _ _ _
  have X1 := Lib.hid X1
  clear hr hby
  unfold maxLen at hc2
  have hwk := u32_lt j.walks
  have hlw : j.srcs.length ≤ 300 → j.srcs.length * j.walks.toNat ≤ 300 * 4294967295 := fun h => Nat.mul_le_mul h (by omega)
  have x2 := X1.out.cell 2 _ rfl
  have x3 := X1.out.cell 3 _ rfl
  have x4 := X1.out.cell 4 _ rfl
  have x9 := X1.out.cell 9 _ rfl
  by_cases h0 : 20 < j.len.toNat
  · have d0 : decide ((j.len.toNat : Int) > 20) = true := decide_eq_true (by omega)
    have hrt : r = true := by rw [Hr.out]; simp [great22, h0]
    have Hrt := Lib.hid hrt
    clear hrt hlw h0
    go_enter Tryz.func7, Tryz.ntmps7
    go_wp2_with fail
    go_ret
    exact ⟨by rw [Hrt.out]; rfl, Hb1.out⟩
  · have d0 : decide ((j.len.toNat : Int) > 20) = false := decide_eq_false (by omega)
    by_cases h1 : 20 < j.tries.toNat
    · have d1 : decide ((j.tries.toNat : Int) > 20) = true := decide_eq_true (by omega)
      have hrt : r = true := by rw [Hr.out]; simp [great22, h0, h1]
      have Hrt := Lib.hid hrt
      clear hrt hlw h0 h1
      go_enter Tryz.func7, Tryz.ntmps7
      go_wp2_with fail
      go_ret
      exact ⟨by rw [Hrt.out]; rfl, Hb1.out⟩
    · have d1 : decide ((j.tries.toNat : Int) > 20) = false := decide_eq_false (by omega)
      by_cases h2 : 300 < j.srcs.length
      · have d2 : decide ((j.srcs.length : Int) > 300) = true := decide_eq_true (by omega)
        have hrt : r = true := by rw [Hr.out]; simp [great22, h0, h1, h2]
        have Hrt := Lib.hid hrt
        clear hrt hlw h0 h1 h2
        go_enter Tryz.func7, Tryz.ntmps7
        go_wp2_with fail
        go_ret
        exact ⟨by rw [Hrt.out]; rfl, Hb1.out⟩
      · have d2 : decide ((j.srcs.length : Int) > 300) = false := decide_eq_false (by omega)
        by_cases h3 : 60 < j.walks.toNat
        · have d3 : decide ((j.walks.toNat : Int) > 60) = true := decide_eq_true (by omega)
          have hrt : r = true := by rw [Hr.out]; simp [great22, h0, h1, h2, h3]
          have Hrt := Lib.hid hrt
          clear hrt hlw h0 h1 h2 h3
          go_enter Tryz.func7, Tryz.ntmps7
          go_wp2_with fail
          go_ret
          exact ⟨by rw [Hrt.out]; rfl, Hb1.out⟩
        · have d3 : decide ((j.walks.toNat : Int) > 60) = false := decide_eq_false (by omega)
          have hwz : IntKind.i64.wrap (j.walks.toNat : Int) = (j.walks.toNat : Int) := by rw [IntKind.wrap_i64]; omega
          have hlw2 := hlw (by omega)
          obtain ⟨pw, hpw⟩ : ∃ pw, pw = j.srcs.length * j.walks.toNat := ⟨_, rfl⟩
          have hpz : (j.srcs.length : Int) * (j.walks.toNat : Int) = (pw : Int) := by rw [hpw, Int.natCast_mul]
          rw [← hpw] at hlw2
          have hpz2 : IntKind.i64.wrap ((j.srcs.length : Int) * (j.walks.toNat : Int)) = (pw : Int) := by rw [hpz, IntKind.wrap_i64]; omega
          by_cases h4 : 60 < j.srcs.length * j.walks.toNat
          · have d4 : decide ((pw : Int) > 60) = true := decide_eq_true (by omega)
            have hrt : r = true := by rw [Hr.out]; simp [great22, h0, h1, h2, h3, h4]
            have Hrt := Lib.hid hrt
            clear hrt hlw h0 h1 h2 h3 h4 hpw
            go_enter Tryz.func7, Tryz.ntmps7
            go_wp2_with fail
            go_ret
            exact ⟨by rw [Hrt.out]; rfl, Hb1.out⟩
          · have d4 : decide ((pw : Int) > 60) = false := decide_eq_false (by omega)
            have hrt : r = false := by rw [Hr.out]; simp [great22, h0, h1, h2, h3, h4]
            have Hrt := Lib.hid hrt
            clear hrt hlw h0 h1 h2 h3 h4 hpw
            go_enter Tryz.func7, Tryz.ntmps7
            go_wp2_with fail
            go_ret
            exact ⟨by rw [Hrt.out]; rfl, Hb1.out⟩
set_option maxRecDepth 100000 in
set_option maxHeartbeats 3200000 in
theorem may19_any (w : World) (v : Value) (j : GJob) (h : JobAt w w.heap.size v j) : Calls Tryz.prog 8 #[v] w fun e w' => e = .returned (.bool (may19 j)) ∧ Below w.heap.size w w' := by
  obtain ⟨vs, rfl, hby⟩ := h
  obtain ⟨A, c, rfl, hc1, hc2⟩ := hby.form
  obtain ⟨w1, hw1⟩ : ∃ w1, w1 = w.alloc (.cells (jobC j (.slice A j.srcs.length c)).toArray 29) := ⟨_, rfl⟩
  have hb1 : Below w.heap.size w w1 := by rw [hw1]; exact balloc _ _
  have X1 : BoxAt 29 w1 w.heap.size (jobC j (.slice A j.srcs.length c)) := by rw [hw1]; exact BoxAt.new_ _ _ _
  have hss := fun W (hW : Below w.heap.size w W) => srcs19_any W (.slice A j.srcs.length c) j.srcs ((hby.below hW).more hW.size)
  obtain ⟨sr, hsr⟩ : ∃ sr, sr = srcs19 j.srcs := ⟨_, rfl⟩
  rw [← hsr] at hss
  have hin := fun W x lo hi => in19_any W x lo hi
  obtain ⟨m1, hm1⟩ : ∃ m1, m1 = m1J j := ⟨_, rfl⟩
  obtain ⟨m2, hm2⟩ : ∃ m2, m2 = m2J j := ⟨_, rfl⟩
  obtain ⟨m3, hm3⟩ : ∃ m3, m3 = m3J j := ⟨_, rfl⟩
  obtain ⟨r, hr⟩ : ∃ r, r = may19 j := ⟨_, rfl⟩
  rw [← hr]
  unfold may19 at hr
  rw [← hm1, ← hm2, ← hm3, ← hsr] at hr
  have Hr := Lib.hid hr
  have Hm1 := Lib.hid hm1
  have Hm2 := Lib.hid hm2
  have Hm3 := Lib.hid hm3
  have Hss := Lib.hid hss
  have Hin := Lib.hid hin
  have Hb1 := Lib.hid hb1
  have Hw1 := Lib.hid hw1
  have x0 := X1.cell 0 _ rfl
  have x2 := X1.cell 2 _ rfl
  have x3 := X1.cell 3 _ rfl
  have x4 := X1.cell 4 _ rfl
  have x5 := X1.cell 5 _ rfl
  have x6 := X1.cell 6 _ rfl
  have x7 := X1.cell 7 _ rfl
  have x8 := X1.cell 8 _ rfl
  have x9 := X1.cell 9 _ rfl
  have x10 := X1.cell 10 _ rfl
  have x11 := X1.cell 11 _ rfl
  have x12 := X1.cell 12 _ rfl
  have x13 := X1.cell 13 _ rfl
  have x14 := X1.cell 14 _ rfl
  clear hr hm1 hm2 hm3 hss hin hby hb1 hw1 hsr X1
  go_enter Tryz.func8, Tryz.ntmps8
  go_upto_region 1 with (rw [← Hw1.out])
  (try rw [← Hw1.out])
  go_cut [3] from 6 (fun v wx => v = .bool m1 ∧ wx = w1)
  case first =>
    obtain ⟨c0, hc0⟩ : ∃ c0, c0 = decide (j.kind.toNat ≤ 2) := ⟨_, rfl⟩
    obtain ⟨c1, hc1⟩ : ∃ c1, c1 = inB j.len.toNat 0 65536 := ⟨_, rfl⟩
    obtain ⟨c2, hc2⟩ : ∃ c2, c2 = inB j.walks.toNat 1 65536 := ⟨_, rfl⟩
    obtain ⟨c3, hc3⟩ : ∃ c3, c3 = decide (1 ≤ j.of_.toNat) := ⟨_, rfl⟩
    obtain ⟨c4, hc4⟩ : ∃ c4, c4 = decide (j.stop.toNat ≤ j.of_.toNat) := ⟨_, rfl⟩
    have hmm : m1 = (c0 && (c1 && (c2 && (c3 && (c4))))) := by rw [Hm1.out]; unfold m1J; rw [← hc0, ← hc1, ← hc2, ← hc3, ← hc4]
    have f0 : decide ((j.kind.toNat : Int) ≤ 2) = c0 := by rw [hc0]; exact decide_eq_decide.2 (by omega)
    have g0 : decide (j.kind.toNat ≤ 2) = c0 := hc0.symm
    have f1 := Lib.hid (Hin.out w1 j.len.toNat 0 65536)
    rw [← hc1] at f1
    have f2 := Lib.hid (Hin.out w1 j.walks.toNat 1 65536)
    rw [← hc2] at f2
    have f3 : decide ((j.of_.toNat : Int) ≥ 1) = c3 := by rw [hc3]; exact decide_eq_decide.2 (by omega)
    have g3 : decide (1 ≤ j.of_.toNat) = c3 := hc3.symm
    have f4 : decide ((j.stop.toNat : Int) ≤ (j.of_.toNat : Int)) = c4 := by rw [hc4]; exact decide_eq_decide.2 (by omega)
    have g4 : decide (j.stop.toNat ≤ j.of_.toNat) = c4 := hc4.symm
    clear hc0 hc1 hc2 hc3 hc4
    have Hmm := Lib.hid hmm
    clear hmm
    cases c0 with
    | false =>
      go_wp2_with fail
      go_meet
      exact ⟨by rw [Hmm.out]; simp, rfl⟩
    | true =>
      cases c1 with
      | false =>
        go_wp2_with fail
        refine f1.out.mono ?_
        rintro _ _ ⟨rfl, rfl⟩
        go_wp2_with fail
        go_meet
        exact ⟨by rw [Hmm.out]; simp, rfl⟩
      | true =>
        cases c2 with
        | false =>
          go_wp2_with fail
          refine f1.out.mono ?_
          rintro _ _ ⟨rfl, rfl⟩
          go_wp2_with fail
          refine f2.out.mono ?_
          rintro _ _ ⟨rfl, rfl⟩
          go_wp2_with fail
          go_meet
          exact ⟨by rw [Hmm.out]; simp, rfl⟩
        | true =>
          cases c3 with
          | false =>
            go_wp2_with fail
            refine f1.out.mono ?_
            rintro _ _ ⟨rfl, rfl⟩
            go_wp2_with fail
            refine f2.out.mono ?_
            rintro _ _ ⟨rfl, rfl⟩
            go_wp2_with fail
            go_meet
            exact ⟨by rw [Hmm.out]; simp, rfl⟩
          | true =>
            cases c4 with
            | false =>
              go_wp2_with fail
              refine f1.out.mono ?_
              rintro _ _ ⟨rfl, rfl⟩
              go_wp2_with fail
              refine f2.out.mono ?_
              rintro _ _ ⟨rfl, rfl⟩
              go_wp2_with fail
              go_meet
              exact ⟨by rw [Hmm.out]; simp, rfl⟩
            | true =>
              go_wp2_with fail
              refine f1.out.mono ?_
              rintro _ _ ⟨rfl, rfl⟩
              go_wp2_with fail
              refine f2.out.mono ?_
              rintro _ _ ⟨rfl, rfl⟩
              go_wp2_with fail
              go_meet
              exact ⟨by rw [Hmm.out]; simp, rfl⟩
  case rest =>
    obtain ⟨rfl, hww⟩ := hcut
    subst hww
    generalize wc = w1 at *
    go_step
    go_step
    go_cut [4] from 6 (fun v wx => v = .bool m2 ∧ wx = w1)
    case first =>
      obtain ⟨c0, hc0⟩ : ∃ c0, c0 = inB j.p.toNat 1 65536 := ⟨_, rfl⟩
      obtain ⟨c1, hc1⟩ : ∃ c1, c1 = inB j.q.toNat 1 65536 := ⟨_, rfl⟩
      obtain ⟨c2, hc2⟩ : ∃ c2, c2 = inB j.tries.toNat 1 1024 := ⟨_, rfl⟩
      obtain ⟨c3, hc3⟩ : ∃ c3, c3 = decide (j.best.toNat ≤ 1024) := ⟨_, rfl⟩
      have hmm : m2 = (c0 && (c1 && (c2 && (c3)))) := by rw [Hm2.out]; unfold m2J; rw [← hc0, ← hc1, ← hc2, ← hc3]
      have f0 := Lib.hid (Hin.out w1 j.p.toNat 1 65536)
      rw [← hc0] at f0
      have f1 := Lib.hid (Hin.out w1 j.q.toNat 1 65536)
      rw [← hc1] at f1
      have f2 := Lib.hid (Hin.out w1 j.tries.toNat 1 1024)
      rw [← hc2] at f2
      have f3 : decide ((j.best.toNat : Int) ≤ 1024) = c3 := by rw [hc3]; exact decide_eq_decide.2 (by omega)
      have g3 : decide (j.best.toNat ≤ 1024) = c3 := hc3.symm
      clear hc0 hc1 hc2 hc3
      have Hmm := Lib.hid hmm
      clear hmm
      cases c0 with
      | false =>
        go_wp2_with fail
        refine f0.out.mono ?_
        rintro _ _ ⟨rfl, rfl⟩
        go_wp2_with fail
        go_meet
        exact ⟨by rw [Hmm.out]; simp, rfl⟩
      | true =>
        cases c1 with
        | false =>
          go_wp2_with fail
          refine f0.out.mono ?_
          rintro _ _ ⟨rfl, rfl⟩
          go_wp2_with fail
          refine f1.out.mono ?_
          rintro _ _ ⟨rfl, rfl⟩
          go_wp2_with fail
          go_meet
          exact ⟨by rw [Hmm.out]; simp, rfl⟩
        | true =>
          cases c2 with
          | false =>
            go_wp2_with fail
            refine f0.out.mono ?_
            rintro _ _ ⟨rfl, rfl⟩
            go_wp2_with fail
            refine f1.out.mono ?_
            rintro _ _ ⟨rfl, rfl⟩
            go_wp2_with fail
            refine f2.out.mono ?_
            rintro _ _ ⟨rfl, rfl⟩
            go_wp2_with fail
            go_meet
            exact ⟨by rw [Hmm.out]; simp, rfl⟩
          | true =>
            cases c3 with
            | false =>
              go_wp2_with fail
              refine f0.out.mono ?_
              rintro _ _ ⟨rfl, rfl⟩
              go_wp2_with fail
              refine f1.out.mono ?_
              rintro _ _ ⟨rfl, rfl⟩
              go_wp2_with fail
              refine f2.out.mono ?_
              rintro _ _ ⟨rfl, rfl⟩
              go_wp2_with fail
              go_meet
              exact ⟨by rw [Hmm.out]; simp, rfl⟩
            | true =>
              go_wp2_with fail
              refine f0.out.mono ?_
              rintro _ _ ⟨rfl, rfl⟩
              go_wp2_with fail
              refine f1.out.mono ?_
              rintro _ _ ⟨rfl, rfl⟩
              go_wp2_with fail
              refine f2.out.mono ?_
              rintro _ _ ⟨rfl, rfl⟩
              go_wp2_with fail
              go_meet
              exact ⟨by rw [Hmm.out]; simp, rfl⟩
    case rest =>
      obtain ⟨rfl, hww⟩ := hcut
      subst hww
      generalize wc = w1 at *
      go_step
      go_step
      go_cut [5] from 6 (fun v wx => v = .bool m3 ∧ wx = w1)
      case first =>
        obtain ⟨c0, hc0⟩ : ∃ c0, c0 = inB j.shard.toNat 1 65536 := ⟨_, rfl⟩
        obtain ⟨c1, hc1⟩ : ∃ c1, c1 = inB j.room.toNat 1 16777216 := ⟨_, rfl⟩
        obtain ⟨c2, hc2⟩ : ∃ c2, c2 = inB j.pool.toNat 2 65536 := ⟨_, rfl⟩
        obtain ⟨c3, hc3⟩ : ∃ c3, c3 = inB j.sort.toNat 1 4096 := ⟨_, rfl⟩
        have hmm : m3 = (c0 && (c1 && (c2 && (c3)))) := by rw [Hm3.out]; unfold m3J; rw [← hc0, ← hc1, ← hc2, ← hc3]
        have f0 := Lib.hid (Hin.out w1 j.shard.toNat 1 65536)
        rw [← hc0] at f0
        have f1 := Lib.hid (Hin.out w1 j.room.toNat 1 16777216)
        rw [← hc1] at f1
        have f2 := Lib.hid (Hin.out w1 j.pool.toNat 2 65536)
        rw [← hc2] at f2
        have f3 := Lib.hid (Hin.out w1 j.sort.toNat 1 4096)
        rw [← hc3] at f3
        clear hc0 hc1 hc2 hc3
        have Hmm := Lib.hid hmm
        clear hmm
        cases c0 with
        | false =>
          go_wp2_with fail
          refine f0.out.mono ?_
          rintro _ _ ⟨rfl, rfl⟩
          go_wp2_with fail
          go_meet
          exact ⟨by rw [Hmm.out]; simp, rfl⟩
        | true =>
          cases c1 with
          | false =>
            go_wp2_with fail
            refine f0.out.mono ?_
            rintro _ _ ⟨rfl, rfl⟩
            go_wp2_with fail
            refine f1.out.mono ?_
            rintro _ _ ⟨rfl, rfl⟩
            go_wp2_with fail
            go_meet
            exact ⟨by rw [Hmm.out]; simp, rfl⟩
          | true =>
            cases c2 with
            | false =>
              go_wp2_with fail
              refine f0.out.mono ?_
              rintro _ _ ⟨rfl, rfl⟩
              go_wp2_with fail
              refine f1.out.mono ?_
              rintro _ _ ⟨rfl, rfl⟩
              go_wp2_with fail
              refine f2.out.mono ?_
              rintro _ _ ⟨rfl, rfl⟩
              go_wp2_with fail
              go_meet
              exact ⟨by rw [Hmm.out]; simp, rfl⟩
            | true =>
              cases c3 with
              | false =>
                go_wp2_with fail
                refine f0.out.mono ?_
                rintro _ _ ⟨rfl, rfl⟩
                go_wp2_with fail
                refine f1.out.mono ?_
                rintro _ _ ⟨rfl, rfl⟩
                go_wp2_with fail
                refine f2.out.mono ?_
                rintro _ _ ⟨rfl, rfl⟩
                go_wp2_with fail
                refine f3.out.mono ?_
                rintro _ _ ⟨rfl, rfl⟩
                go_wp2_with fail
                go_meet
                exact ⟨by rw [Hmm.out]; simp, rfl⟩
              | true =>
                go_wp2_with fail
                refine f0.out.mono ?_
                rintro _ _ ⟨rfl, rfl⟩
                go_wp2_with fail
                refine f1.out.mono ?_
                rintro _ _ ⟨rfl, rfl⟩
                go_wp2_with fail
                refine f2.out.mono ?_
                rintro _ _ ⟨rfl, rfl⟩
                go_wp2_with fail
                refine f3.out.mono ?_
                rintro _ _ ⟨rfl, rfl⟩
                go_wp2_with fail
                go_meet
                exact ⟨by rw [Hmm.out]; simp, rfl⟩
      case rest =>
        obtain ⟨rfl, hww⟩ := hcut
        subst hww
        generalize wc = w1 at *
        cases m1 with
        | false =>
          go_wp2_with fail
          go_ret
          exact ⟨by rw [Hr.out]; first | rfl | simp, Hb1.out⟩
        | true =>
          cases m2 with
          | false =>
            go_wp2_with fail
            go_ret
            exact ⟨by rw [Hr.out]; first | rfl | simp, Hb1.out⟩
          | true =>
            cases m3 with
            | false =>
              go_wp2_with fail
              go_ret
              exact ⟨by rw [Hr.out]; first | rfl | simp, Hb1.out⟩
            | true =>
              go_wp2_with fail
              refine (Hss.out w1 Hb1.out).mono ?_
              rintro _ w2 ⟨rfl, hb2⟩
              go_wp2_with fail
              go_ret
              exact ⟨by rw [Hr.out]; first | rfl | simp, bstep Hb1.out hb2⟩
set_option maxRecDepth 100000 in
set_option maxHeartbeats 1600000 in
/-- palmerref19.Walkers at a job that may be -/
theorem walkers19_any (w : World) (v : Value) (j : GJob) (h : JobAt w w.heap.size v j) (hj : may19 j = true) : Calls Tryz.prog 12 #[v] w fun e w' => e = .returned (.int .u32 (walkersJ j : Int)) ∧ Below w.heap.size w w' := by
  have hm := fun W (hW : Below w.heap.size w W) => may19_any W v j (h.step hW)
  rw [hj] at hm
  obtain ⟨vs, rfl, hby⟩ := h
  obtain ⟨A, c, rfl, hc1, hc2⟩ := hby.form
  obtain ⟨n, hn⟩ : ∃ n, n = walkersJ j := ⟨_, rfl⟩
  have hmj := may19_may hj
  obtain ⟨p1, p2, p3, p4, -⟩ := mayJ_parts hmj
  rw [← hn]
  rw [walkersJ_may hmj] at hn
  have hb1 : Below w.heap.size w (w.alloc (.cells (jobC j (.slice A j.srcs.length c)).toArray 29)) := balloc _ _
  have hx1 : BoxAt 29 (w.alloc (.cells (jobC j (.slice A j.srcs.length c)).toArray 29)) w.heap.size (jobC j (.slice A j.srcs.length c)) := BoxAt.new_ _ _ _
  have Hm := Lib.hid hm
  have Hn := Lib.hid hn
  have Hb1 := Lib.hid hb1
  have X1 := Lib.hid hx1
  have hmm : j.srcs.length * j.walks.toNat ≤ 256 * 65536 := Nat.mul_le_mul p2 p4
  have hw1 : IntKind.u32.wrap (j.srcs.length : Int) = (j.srcs.length : Int) := by rw [IntKind.wrap_u32']; omega
  have hw2 : IntKind.u32.wrap ((j.srcs.length : Int) * (j.walks.toNat : Int)) = (n : Int) := by
    rw [← Int.natCast_mul, IntKind.wrap_u32', hn]; omega
  clear hm hn hby hb1 hx1 hj hmj hmm p1 p2 p3 p4
  have hwk := u32_lt j.walks
  go_enter Tryz.func12, Tryz.ntmps12
  go_wp2_with (refine wpList_load_agg rfl 29 (.tmp 1) rfl ⟨w.heap.size, 0, none⟩ rfl (jobC j (.slice A j.srcs.length c)) X1.out.cells Tryz.underlying29 rfl infoJob15 ?_)
  refine (Hm.out _ Hb1.out).mono ?_
  rintro _ w2 ⟨rfl, hb2⟩
  have X2 := X1.out.below X1.out.lt hb2
  have hc3 := X2.cell 3 _ rfl
  have hc4 := X2.cell 4 _ rfl
  have Hb2 := Lib.hid (bstep Hb1.out hb2)
  clear hb2 X2 Hm Hb1
  go_wp2_with fail
  go_ret
  exact ⟨by first | rfl | simp [hw2], Hb2.out⟩
end Go.Proofs.YtcffeepgfjpcaaaGreat

namespace Go.Proofs.YtcffeepgfjpcaaaGreat
set_option linter.unusedSimpArgs false
set_option linter.unusedVariables false

theorem nodup_lenT : ∀ (a b : List UInt32), a.Nodup → (∀ x ∈ a, x ∈ b) → a.length ≤ b.length
  | [], b, _, _ => Nat.zero_le _
  | x :: t, b, hn, hs => by
    rw [List.nodup_cons] at hn
    have hx := hs x (by simp)
    have h1 := List.length_erase_of_mem hx
    have h2 := nodup_lenT t (b.erase x) hn.2 fun y hy => (List.mem_erase_of_ne (fun e => hn.1 (by rw [← e]; exact hy))).2 (hs y (by simp [hy]))
    have h3 : 0 < b.length := List.length_pos_of_mem hx
    rw [List.length_cons]
    omega
theorem rise_nodupT : ∀ (l : List GArc) (p : Option UInt32), rise p l = true → (l.map (·.to)).Nodup
  | [], _, _ => List.nodup_nil
  | a :: l, p, h => by
    have h2 : rise (some a.to) l = true := by rw [rise_cons] at h; simp only [Bool.and_eq_true] at h; exact h.2
    rw [List.map_cons, List.nodup_cons]
    refine ⟨fun hm => ?_, rise_nodupT l _ h2⟩
    obtain ⟨b, hb, e⟩ := List.mem_map.1 hm
    have := (rise_to l (some a.to) b h2 hb).1
    simp only at this
    rw [e] at this
    omega
theorem up_nodupT : ∀ (R : List GRow), (R.Pairwise fun a b => a.fr.toNat < b.fr.toNat) → (R.map (·.fr)).Nodup
  | [], _ => List.nodup_nil
  | r :: R, h => by
    rw [List.pairwise_cons] at h
    rw [List.map_cons, List.nodup_cons]
    refine ⟨fun hm => ?_, up_nodupT R h.2⟩
    obtain ⟨b, hb, e⟩ := List.mem_map.1 hm
    have := h.1 b hb
    rw [e] at this
    omega
theorem wsum_posT (l : List GEdge) (v t : UInt32) (h : 0 < wsum l v t) : ∃ x ∈ l, x.fr = v ∧ x.to = t := by
  induction l with
  | nil => simp [wsum] at h
  | cons x r ih =>
    have e : wsum (x :: r) v t = wsum [x] v t + wsum r v t := wsum_append [x] r v t
    rw [e, wsum_one] at h
    by_cases hx : x.fr = v ∧ x.to = t
    · exact ⟨x, by simp, hx⟩
    · rw [if_neg hx, Nat.zero_add] at h
      obtain ⟨y, hy, h2⟩ := ih h
      exact ⟨y, by simp [hy], h2⟩
theorem RowsOk.alenT {l : List GEdge} {R : List GRow} (h : RowsOk l R) (v : UInt32) : (arcsR R v).length ≤ l.length := by
  obtain ⟨h1, _, h3, _⟩ := h.arcs v
  have hr := (gmay_parts.1 h3).1
  have := nodup_lenT _ (l.map (·.to)) (rise_nodupT _ none hr) (fun t ht => by
    obtain ⟨b, hb, rfl⟩ := List.mem_map.1 ht
    have hw := (rise_to _ none b hr hb).2
    have e := asum_at _ none b hr hb
    rw [h1] at e
    have hp : 0 < wsum l v b.to := by
      rw [e]
      rcases Nat.eq_zero_or_pos b.wt.toNat with h0 | h0
      · exact absurd (UInt32.toNat_inj.1 (by rw [h0]; rfl)) hw
      · exact h0
    obtain ⟨x, hx, _, hx2⟩ := wsum_posT l v b.to hp
    exact List.mem_map.2 ⟨x, hx, hx2⟩)
  simpa using this
theorem RowsOk.rlenT {l : List GEdge} {R : List GRow} (h : RowsOk l R) : R.length ≤ l.length := by
  have := nodup_lenT _ (l.map (·.fr)) (up_nodupT R h.up) (fun t ht => by
    obtain ⟨r, hr, rfl⟩ := List.mem_map.1 ht
    obtain ⟨x, hx, e⟩ := (h.mem r.fr).1 ⟨r, hr, rfl⟩
    exact List.mem_map.2 ⟨x, hx, e⟩)
  simpa using this
theorem RowsOk.goodT {l : List GEdge} {R : List GRow} (h : RowsOk l R) (hl : l.length ≤ 1048576) : RGood R := by
  refine ⟨Nat.le_trans h.rlenT hl, h.up, fun v => ?_, fun v => Nat.le_trans (h.alenT v) hl⟩
  obtain ⟨_, _, h3, _⟩ := h.arcs v
  cases ha : arcsR R v with
  | nil => exact .inl rfl
  | cons a t =>
    refine .inr ?_
    rw [ha] at h3
    unfold nbrs
    rw [h3]
    rfl
end Go.Proofs.YtcffeepgfjpcaaaGreat

namespace Go.Proofs.YtcffeepgfjpcaaaGreat
end Go.Proofs.YtcffeepgfjpcaaaGreat
