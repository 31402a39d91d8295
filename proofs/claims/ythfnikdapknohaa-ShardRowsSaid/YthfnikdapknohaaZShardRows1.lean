/- The law 'ShardRows' returns true for every input, and each argument reads behind the call as it read before. No condition. -/
import Derived.Test.YthfnikdapknohaaZShardPuts5
import Derived.Test.YthfnikdapknohaaRows
import Derived.WalkKit
import Derived.ProofKit
import Derived.OpenShut
import Derived.ShutString
import Derived.ChangeOld
import Derived.Below
namespace Go.Proofs.Ythfnikdapknohaa
set_option linter.unusedSimpArgs false
set_option linter.unusedVariables false
open Go.RowKit

set_option maxRecDepth 100000 in
set_option maxHeartbeats 800000 in
theorem isnan32 (w : World) (a : Nat) (ha : a < 4294967296) : Calls Try.prog 88 #[.int .u32 (a : Int)] w fun e w' => e = .returned (.bool false) ∧ w = w' := by
  go_enter Try.func88, Try.ntmps88
  go_wp2_with fail
  go_ret
  exact ⟨rfl, rfl⟩
def cmp3 (a b : Nat) : Int := if a < b then -1 else if b < a then 1 else 0
set_option maxRecDepth 100000 in
set_option maxHeartbeats 800000 in
theorem compare32 (w : World) (a b : Nat) (ha : a < 4294967296) (hb : b < 4294967296) : Calls Try.prog 66 #[.int .u32 (a : Int), .int .u32 (b : Int)] w fun e w' => e = .returned (.int .i64 (cmp3 a b)) ∧ w = w' := by
  have hc : cmp3 a b = if a < b then -1 else if b < a then 1 else 0 := rfl
  by_cases h1 : a < b
  · rw [if_pos h1] at hc
    rw [hc]
    clear hc
    go_enter Try.func66, Try.ntmps66
    go_wp2_with fail
    refine (isnan32 w a ha).mono ?_
    rintro _ _ ⟨rfl, rfl⟩
    go_wp2_with fail
    refine (isnan32 w b hb).mono ?_
    rintro _ _ ⟨rfl, rfl⟩
    go_wp2_with fail
    go_ret
    exact ⟨rfl, rfl⟩
  · rw [if_neg h1] at hc
    have hd1 : decide ((a : Int) < (b : Int)) = false := by simp; omega
    have hd1' : decide (a < b) = false := by simp; omega
    by_cases h2 : b < a
    · rw [if_pos h2] at hc
      rw [hc]
      clear hc h1
      go_enter Try.func66, Try.ntmps66
      go_wp2_with fail
      refine (isnan32 w a ha).mono ?_
      rintro _ _ ⟨rfl, rfl⟩
      go_wp2_with fail
      refine (isnan32 w b hb).mono ?_
      rintro _ _ ⟨rfl, rfl⟩
      go_wp2_with fail
      go_ret
      exact ⟨rfl, rfl⟩
    · rw [if_neg h2] at hc
      rw [hc]
      have hd2 : decide ((b : Int) < (a : Int)) = false := by simp; omega
      have hd2' : decide (b < a) = false := by simp; omega
      clear hc h1 h2
      go_enter Try.func66, Try.ntmps66
      go_wp2_with fail
      refine (isnan32 w a ha).mono ?_
      rintro _ _ ⟨rfl, rfl⟩
      go_wp2_with fail
      refine (isnan32 w b hb).mono ?_
      rintro _ _ ⟨rfl, rfl⟩
      go_wp2_with fail
      go_ret
      exact ⟨rfl, rfl⟩
/-- where an end stands among rising ones -/
def FoundAt (l : List GArc) (t : Nat) (i : Nat) (b : Bool) : Prop :=
  i ≤ l.length ∧ (∀ j, (h : j < l.length) → j < i → (l[j]).to.toNat < t) ∧ (∀ j, (h : j < l.length) → i ≤ j → t ≤ (l[j]).to.toNat) ∧ b = decide (∃ h : i < l.length, (l[i]).to.toNat = t)
theorem rise_lt (l : List GArc) (hr : rise none l = true) : ∀ i j, (hi : i < j) → (hj : j < l.length) → (l[i]'(by omega)).to.toNat < (l[j]).to.toNat := by
  intro i j hi hj
  induction j with
  | zero => omega
  | succ j ih =>
    have h1 := nextOf_le l (j + 1) hj hr
    rw [nextOf_succ l j (by omega)] at h1
    rcases Nat.lt_or_ge i j with h | h
    · have := ih h (by omega); omega
    · obtain rfl : i = j := by omega
      omega
end Go.Proofs.Ythfnikdapknohaa

namespace Go.Proofs.Ythfnikdapknohaa
set_option linter.unusedSimpArgs false
set_option linter.unusedVariables false
open Go.RowKit

set_option maxRecDepth 100000 in
set_option maxHeartbeats 800000 in
theorem row1_any (w : World) (a : Nat) (x y : Value) (b : Nat) (hx : x.oneCell' = true) (hy : y.oneCell' = true) (ha : a < 4294967296) (hb : b < 4294967296) : Calls Try.prog 68 #[.agg #[.int .u32 (a : Int), x, y], .int .u32 (b : Int)] w fun e w' => e = .returned (.int .i64 (cmp3 a b)) ∧ Below w.heap.size w w' := by
  have hc := fun W => compare32 W a b ha hb
  have Hc := Lib.hid hc
  clear hc
  generalize cmp3 a b = c at *
  go_enter Try.func68, Try.ntmps68
  go_wp2_with fail
  refine (Hc.out _).mono ?_
  rintro _ _ ⟨rfl, rfl⟩
  go_wp2_with fail
  go_ret
  exact ⟨rfl, balloc _ _⟩
/-- where an end stands among rising ones -/
def FoundL (l : List GLine) (t : Nat) (i : Nat) (b : Bool) : Prop :=
  i ≤ l.length ∧ (∀ j, (h : j < l.length) → j < i → (l[j]).1.fr.toNat < t) ∧ (∀ j, (h : j < l.length) → i ≤ j → t ≤ (l[j]).1.fr.toNat) ∧ b = decide (∃ h : i < l.length, (l[i]).1.fr.toNat = t)
set_option maxRecDepth 100000 in
set_option maxHeartbeats 1600000 in
theorem lbsf_any (w : World) (B : Nat) (v : Value) (l : List GLine) (hl : l.length ≤ 4294967296) (t : Nat) (ht : t < 4294967296) (h : RowOn cLine w (fun k => k < B) (fun k => k < B) v l) (hB : B ≤ w.heap.size) (hs : ∀ i j, (hi : i < j) → (hj : j < l.length) → (l[i]'(by omega)).1.fr.toNat < (l[j]).1.fr.toNat) :
    Calls Try.prog 67 #[v, .int .u32 (t : Int), .func (.func 68) #[] #[]] w fun e w' => ∃ i b, e = .returned (.tuple #[.int .i64 (i : Nat), .bool b]) ∧ FoundL l t i b ∧ Below w.heap.size w w' := by
  obtain ⟨A, c, rfl, hc1, hc2⟩ := h.form
  unfold maxLen at hc2
  have Hs := Lib.hid hs
  clear hs
  go_enter Try.func67, Try.ntmps67
  go_wp2_with fail
  go_loopw [9, 10] (fun lo hi wr => ∃ a b : Nat, lo = .int .i64 a ∧ hi = .int .i64 b ∧ a ≤ b ∧ b ≤ l.length ∧ (∀ j, (h : j < l.length) → j < a → (l[j]).1.fr.toNat < t) ∧ (∀ j, (h : j < l.length) → b ≤ j → t ≤ (l[j]).1.fr.toNat) ∧ Below w.heap.size w wr) (fun lo hi _ => (intOf hi).toNat - (intOf lo).toNat)
  case atStart => exact ⟨0, l.length, rfl, rfl, by omega, by omega, fun j _ hj => by omega, fun j hj1 hj2 => by omega, Below.refl _ _⟩
  case round =>
    obtain ⟨a, b, rfl, rfl, hab, hbn, hlo, hhi, hbl⟩ := hrel
    have hsz := hbl.size
    have Hlo := Lib.hid hlo
    have Hhi := Lib.hid hhi
    clear hlo hhi
    by_cases hlt : a < b
    · obtain ⟨m, hm⟩ : ∃ m, m = (a + b) / 2 := ⟨_, rfl⟩
      have hmi : ((a : Int) + (b : Int)) / 2 = ((m : Nat) : Int) := by omega
      have hml : m < l.length := by omega
      obtain ⟨ad, Aa, ca, At, ct, rfl, hadb, hcl, _, _⟩ := LinesAt.line (h.keep (fun p hp => (hbl.mono hB).cell hp) (fun p hp => (hbl.mono hB).cell hp)) m hml
      have hx0 : wr.cell? (ad.add (m * 3)) = some (.int .u32 ((l[m]).1.fr.toNat : Int)) := by have := hcl 0 _ rfl; simpa [Addr.add] using this
      have hx1 : wr.cell? { block := (ad.add (m * 3)).block, off := (ad.add (m * 3)).off + 1 } = some (.slice Aa (l[m]).1.arcs.length ca) := by have := hcl 1 _ rfl; simpa [Addr.add] using this
      have hx2 : wr.cell? { block := (ad.add (m * 3)).block, off := (ad.add (m * 3)).off + 2 } = some (.slice At (l[m]).2.length ct) := by have := hcl 2 _ rfl; simpa [Addr.add] using this
      have Hcl := Lib.hid hcl
      clear hcl
      have hto := u32_lt (l[m]).1.fr
      have hf := fun W => row1_any W (l[m]).1.fr.toNat (.slice Aa (l[m]).1.arcs.length ca) (.slice At (l[m]).2.length ct) t rfl rfl hto ht
      have Hf := Lib.hid hf
      have hcm : cmp3 (l[m]).1.fr.toNat t = if (l[m]).1.fr.toNat < t then -1 else if t < (l[m]).1.fr.toNat then 1 else 0 := rfl
      have hlow : (l[m]).1.fr.toNat < t → ∀ j, (h : j < l.length) → j < m + 1 → (l[j]).1.fr.toNat < t := fun hl j hj hjm => by
        rcases Nat.lt_or_ge j m with h | h
        · have := Hs.out j m h hml; omega
        · obtain rfl : j = m := by omega
          exact hl
      have hhigh : ¬ (l[m]).1.fr.toNat < t → ∀ j, (h : j < l.length) → m ≤ j → t ≤ (l[j]).1.fr.toNat := fun hl j hj hjm => by
        rcases Nat.lt_or_ge m j with h | h
        · have := Hs.out m j h hj; omega
        · obtain rfl : j = m := by omega
          omega
      have Hlow := Lib.hid hlow
      have Hhigh := Lib.hid hhigh
      have Hcm := Lib.hid hcm
      have Hm := Lib.hid hm
      clear hf hlow hhigh hcm hm
      generalize cmp3 (l[m]).1.fr.toNat t = C at *
      generalize (l[m]).1.arcs.length = wx at *
      generalize (l[m]).2.length = wy at *
      generalize (l[m]).1.fr.toNat = x at *
      by_cases hcase : x < t
      · have hC : C = -1 := by rw [Hcm.out, if_pos hcase]
        subst hC
        have hlow := Hlow.out hcase
        have Hlow2 := Lib.hid hlow
        clear hlow hcase Hcm Hhigh Hlow
        go_wp2_with (go_at_call 68; refine (Hf.out _).mono ?_; rintro _ w1 ⟨rfl, hb1⟩)
        go_roundw
        case rel => exact ⟨m + 1, b, by go_num, rfl, by have := Hm.out; omega, hbn, Hlow2.out, Hhi.out, bstep hbl hb1⟩
        case measure => have := Hm.out; simp [intOf]; omega
      · have hC : C = 0 ∨ C = 1 := by
          rw [Hcm.out, if_neg hcase]
          split
          · right; rfl
          · left; rfl
        have hhigh := Hhigh.out hcase
        have Hhigh2 := Lib.hid hhigh
        clear hhigh hcase Hcm Hhigh Hlow
        rcases hC with rfl | rfl
        all_goals
          go_wp2_with (go_at_call 68; refine (Hf.out _).mono ?_; rintro _ w1 ⟨rfl, hb1⟩)
          go_roundw
          case rel => exact ⟨a, m, rfl, by go_num, by have := Hm.out; omega, by omega, Hlo.out, Hhigh2.out, bstep hbl hb1⟩
          case measure => have := Hm.out; simp [intOf]; omega
    · obtain rfl : b = a := by omega
      by_cases hbl2 : b < l.length
      · obtain ⟨ad, Aa, ca, At, ct, rfl, hadb, hcl, _, _⟩ := LinesAt.line (h.keep (fun p hp => (hbl.mono hB).cell hp) (fun p hp => (hbl.mono hB).cell hp)) b hbl2
        have hx0 : wr.cell? (ad.add (b * 3)) = some (.int .u32 ((l[b]).1.fr.toNat : Int)) := by have := hcl 0 _ rfl; simpa [Addr.add] using this
        have hx1 : wr.cell? { block := (ad.add (b * 3)).block, off := (ad.add (b * 3)).off + 1 } = some (.slice Aa (l[b]).1.arcs.length ca) := by have := hcl 1 _ rfl; simpa [Addr.add] using this
        have hx2 : wr.cell? { block := (ad.add (b * 3)).block, off := (ad.add (b * 3)).off + 2 } = some (.slice At (l[b]).2.length ct) := by have := hcl 2 _ rfl; simpa [Addr.add] using this
        have Hcl := Lib.hid hcl
        clear hcl
        have hto := u32_lt (l[b]).1.fr
        have hf := fun W => row1_any W (l[b]).1.fr.toNat (.slice Aa (l[b]).1.arcs.length ca) (.slice At (l[b]).2.length ct) t rfl rfl hto ht
        have Hf := Lib.hid hf
        have hcm : cmp3 (l[b]).1.fr.toNat t = if (l[b]).1.fr.toNat < t then -1 else if t < (l[b]).1.fr.toNat then 1 else 0 := rfl
        have hge := Hhi.out b hbl2 (Nat.le_refl _)
        have hfd : FoundL l t b (decide (∃ h : b < l.length, (l[b]).1.fr.toNat = t)) := ⟨hbn, Hlo.out, Hhi.out, rfl⟩
        rw [if_neg (by omega)] at hcm
        have hdec : decide (∃ h : b < l.length, (l[b]).1.fr.toNat = t) = decide ((l[b]).1.fr.toNat = t) := decide_eq_decide.2 ⟨fun ⟨_, h⟩ => h, fun h => ⟨hbl2, h⟩⟩
        rw [hdec] at hfd
        have Hfd := Lib.hid hfd
        clear hf hdec hfd
        generalize cmp3 (l[b]).1.fr.toNat t = C at *
        generalize (l[b]).1.arcs.length = wx at *
        generalize (l[b]).2.length = wy at *
        generalize (l[b]).1.fr.toNat = x at *
        by_cases hcase : t < x
        · rw [if_pos hcase] at hcm
          subst hcm
          have hD : decide (x = t) = false := by simp; omega
          rw [hD] at Hfd
          clear hcase hD hge
          go_wp2_with (go_at_call 68; refine (Hf.out _).mono ?_; rintro _ w1 ⟨rfl, hb1⟩)
          go_ret2
          exact ⟨b, _, rfl, Hfd.out, bstep hbl hb1⟩
        · rw [if_neg hcase] at hcm
          subst hcm
          have hD : decide (x = t) = true := by simp; omega
          rw [hD] at Hfd
          clear hcase hD hge
          go_wp2_with (go_at_call 68; refine (Hf.out _).mono ?_; rintro _ w1 ⟨rfl, hb1⟩)
          go_ret2
          exact ⟨b, _, rfl, Hfd.out, bstep hbl hb1⟩
      · have hfd : FoundL l t b (decide (∃ h : b < l.length, (l[b]).1.fr.toNat = t)) := ⟨hbn, Hlo.out, Hhi.out, rfl⟩
        rw [decide_eq_false (fun ⟨h, _⟩ => hbl2 h)] at hfd
        have Hfd := Lib.hid hfd
        have hd : decide (b < l.length) = false := by simpa using hbl2
        clear hfd
        go_wp2_with fail
        go_ret2
        exact ⟨b, _, rfl, Hfd.out, hbl⟩


end Go.Proofs.Ythfnikdapknohaa

namespace Go.Proofs.Ythfnikdapknohaa
set_option linter.unusedSimpArgs false
set_option linter.unusedVariables false
open Go.RowKit

def lineAt (l : List GLine) (t : Nat) : Option GLine := l.find? fun x => decide (x.1.fr.toNat = t)
def arcsL (l : List GLine) (t : Nat) : List GArc := match lineAt l t with | some x => x.1.arcs | none => []
def tabL (l : List GLine) (t : Nat) : List GCell := match lineAt l t with | some x => x.2 | none => []
theorem lineAt_true {l : List GLine} {t i : Nat} (h : FoundL l t i true) : ∃ hi : i < l.length, lineAt l t = some l[i] := by
  obtain ⟨h1, h2, h3, h4⟩ := h
  obtain ⟨hi, he⟩ := of_decide_eq_true h4.symm
  refine ⟨hi, ?_⟩
  unfold lineAt
  rw [List.find?_eq_some_iff_getElem]
  refine ⟨by simpa using he, i, hi, rfl, fun j hj => ?_⟩
  have := h2 j (by omega) hj
  simp only [Bool.not_eq_true', decide_eq_false_iff_not]
  omega
theorem lineAt_false {l : List GLine} {t i : Nat} (h : FoundL l t i false) (hs : ∀ i j, (hi : i < j) → (hj : j < l.length) → (l[i]'(by omega)).1.fr.toNat < (l[j]).1.fr.toNat) : lineAt l t = none := by
  obtain ⟨h1, h2, h3, h4⟩ := h
  unfold lineAt
  rw [List.find?_eq_none]
  intro x hx
  obtain ⟨j, hj, rfl⟩ := List.mem_iff_getElem.1 hx
  simp only [decide_eq_true_eq]
  intro e
  rcases Nat.lt_trichotomy j i with hji | hji | hji
  · have := h2 j hj hji; omega
  · subst hji
    have := decide_eq_true (p := ∃ h : j < l.length, (l[j]).1.fr.toNat = t) ⟨hj, e⟩
    rw [this] at h4
    cases h4
  · have h5 := h3 i (by omega) (Nat.le_refl _)
    have h6 := hs i j hji hj
    omega
def Ph.ownC (base : Nat) (l : List GCell) : Ph := ⟨fun v w => OwnF 73 cCell w base v l, fun _ _ _ h hb => h.below_ hb⟩
theorem srow_nil (w : World) (t : Nat) : Calls Try.prog 32 #[.pointer none, .int .u32 (t : Int)] w fun e w' => e = .returned (.tuple #[.slice none 0 0, .slice none 0 0]) ∧ w = w' := by
  go_enter Try.func32, Try.ntmps32
  go_wp2_with fail
  go_ret2
  exact ⟨rfl, rfl⟩
set_option maxRecDepth 100000 in
set_option maxHeartbeats 4000000 in
theorem srow_any (w : World) (L0 g : Nat) (lines : List GLine) (t : Nat) (ht : t < 4294967296) (h : LinesAt w L0 g lines) (hL : L0 ≤ w.heap.size) (hn : lines.length ≤ 4294967296) (hs : ∀ i j, (hi : i < j) → (hj : j < lines.length) → (lines[i]'(by omega)).1.fr.toNat < (lines[j]).1.fr.toNat)
    (hz : ∀ x ∈ lines, x.1.arcs.length ≤ 4294967296 ∧ x.2.length ≤ 4294967296) :
    Calls Try.prog 32 #[.pointer (some ⟨g, 0, none⟩), .int .u32 (t : Int)] w fun e w' => ∃ va vt, e = .returned (.tuple #[va, vt]) ∧ OwnF 70 cArc w' w.heap.size va (arcsL lines t) ∧ OwnF 73 cCell w' w.heap.size vt (tabL lines t) ∧ Below w.heap.size w w' := by
  obtain ⟨A, c, hbx, hg, hc1, hc2, hrow⟩ := h
  have hb := lbsf_any w L0 _ lines hn t ht hrow hL hs
  have hc := hbx.cell 0 _ rfl
  have Hbx := Lib.hid hbx
  have Hrow := Lib.hid hrow
  have Hb := Lib.hid hb
  have Hs := Lib.hid hs
  have Hz := Lib.hid hz
  unfold maxLen at hc2
  clear hb hrow hbx hs hz
  go_enter Try.func32, Try.ntmps32
  go_wp2_with fail
  refine Hb.out.mono ?_
  rintro _ w1 ⟨i, b, rfl, hf, hb1⟩
  cases b with
  | false =>
    have hla := lineAt_false hf Hs.out
    have Hfin : Hid (arcsL lines t = [] ∧ tabL lines t = []) := Lib.hid (by unfold arcsL tabL; rw [hla]; exact ⟨rfl, rfl⟩)
    clear hf hla
    go_wp2_with fail
    go_ret2
    obtain ⟨e1, e2⟩ := Hfin.out
    rw [e1, e2]
    exact ⟨_, _, rfl, OwnF.nil_ _ _, OwnF.nil_ _ _, hb1⟩
  | true =>
    obtain ⟨hi, hla⟩ := lineAt_true hf
    have Hfin : Hid (arcsL lines t = (lines[i]).1.arcs ∧ tabL lines t = (lines[i]).2) := Lib.hid (by unfold arcsL tabL; rw [hla]; exact ⟨rfl, rfl⟩)
    obtain ⟨hz1, hz2⟩ := Hz.out _ (List.getElem_mem hi)
    clear hf hla Hz Hs
    have hb1L := hb1.mono hL
    have hs1 := hb1.size
    have hrow1 : RowOn cLine w1 (fun k => k < L0) (fun k => k < L0) (.slice A lines.length c) lines := Hrow.out.keep (fun p hp => hb1L.cell hp) (fun p hp => hb1L.cell hp)
    obtain ⟨ad, Aa, ca, At, ct, rfl, hadb, hcl, hya, hyc⟩ := LinesAt.line hrow1 i hi
    have Hx1 : Hid (w1.cell? ⟨(ad.add (i * 3)).block, (ad.add (i * 3)).off + 1, none⟩ = some (.slice Aa (lines[i]).1.arcs.length ca)) := Lib.hid (by have := hcl 1 _ rfl; simpa [Addr.add] using this)
    have Hx2 : Hid (w1.cell? ⟨(ad.add (i * 3)).block, (ad.add (i * 3)).off + 2, none⟩ = some (.slice At (lines[i]).2.length ct)) := Lib.hid (by have := hcl 2 _ rfl; simpa [Addr.add] using this)
    have Hya := Lib.hid (hya.more (B' := w1.heap.size) (by omega))
    have Hyc := Lib.hid (show ByC w1 w1.heap.size _ _ from hyc.mono (fun _ hk => by omega) fun _ hk => hk)
    have hblk : (ad.add (i * 3)).block < w1.heap.size := by rw [add_block]; omega
    have Hbx1 := Lib.hid (Hbx.out.below hg hb1L)
    have Hb1 := Lib.hid hb1
    clear hcl hya hyc hrow1 Hrow hb1 hb1L
    generalize (lines[i]).1.arcs = aa at *
    generalize (lines[i]).2 = ts at *
    generalize hpp : ad.add (i * 3) = pp at *
    go_upto_region 6 with fail
    refine wp_region_typed [some 21, some 22, some 23, some 24, some 25, some 26, some 27, some 28, some 29, some 30, some 31, some 32, some 33, some 34, some 35, some 36, some 37, some 38, some 39, some 4, some 5] [21, 22, 23, 24, 25, 26, 27, 28, 29, 30, 31, 32, 33, 34, 35, 36, 37, 38, 39, 4, 5]
      [Ph.is (.pointer (some ⟨g, 0, none⟩)),
        Ph.is (.pointer (some ⟨g, 0, none⟩)),
        Ph.is (.pointer (some ⟨g, 0, none⟩)),
        Ph.is (.slice (some ad) lines.length c),
        Ph.is (.int .i64 (i : Int)),
        Ph.is (.pointer (some pp)),
        Ph.is (.pointer (some pp)),
        Ph.is (.pointer (some ⟨pp.block, pp.off + 1, none⟩)),
        Ph.is (.slice Aa aa.length ca),
        Ph.ownA w1.heap.size aa,
        Ph.is (.pointer (some ⟨g, 0, none⟩)),
        Ph.is (.pointer (some ⟨g, 0, none⟩)),
        Ph.is (.pointer (some ⟨g, 0, none⟩)),
        Ph.is (.slice (some ad) lines.length c),
        Ph.is (.int .i64 (i : Int)),
        Ph.is (.pointer (some pp)),
        Ph.is (.pointer (some ⟨pp.block, pp.off + 2, none⟩)),
        Ph.is (.slice At ts.length ct),
        Ph.ownC w1.heap.size ts,
        Ph.ownA w1.heap.size aa,
        Ph.ownC w1.heap.size ts] rfl rfl (by kernel_rfl) (by kernel_rfl) ?_ ?_
    · refine ⟨?_, ?_, ?_, ?_, ?_, ?_, ?_, ?_, ?_, ?_, ?_, ?_, ?_, ?_, ?_, ?_, ?_, ?_, ?_, ?_, ?_, trivial⟩
      · -- 0: slot 21 := Op.move t0
        refine ob_yes fun f w' hb hp => ?_
        simp [PreOf, factOf, valOf, Ph.is, Ph.by_, Ph.any, Region.binds, Ph.ownA, Ph.ownC] at hp
        refine ⟨by simp [Gd, valOf, hp], ?_⟩
        refine mild_val (.pointer (some ⟨g, 0, none⟩)) ?_ rfl
        simp [execOp, evalF, hp]
      · -- 1: slot 22 := Op.nilCheck t21
        refine ob_yes fun f w' hb hp => ?_
        simp [PreOf, factOf, valOf, Ph.is, Ph.by_, Ph.any, Region.binds, Ph.ownA, Ph.ownC] at hp
        refine ⟨by simp [Gd, valOf, hp], ?_⟩
        refine mild_val (.pointer (some ⟨g, 0, none⟩)) ?_ rfl
        simp [execOp, evalF, hp, go_sem]
      · -- 2: slot 23 := Op.fieldAddr 94 t22 0
        refine ob_yes fun f w' hb hp => ?_
        simp [PreOf, factOf, valOf, Ph.is, Ph.by_, Ph.any, Region.binds, Ph.ownA, Ph.ownC] at hp
        refine ⟨by simp [Gd, valOf, hp], ?_⟩
        refine mild_val (.pointer (some ⟨g, 0, none⟩)) ?_ rfl
        simp [execOp, evalF, hp, go_sem]
      · -- 3: slot 24 := Op.load 92 t23
        refine ob_yes fun f w' hb hp => ?_
        simp [PreOf, factOf, valOf, Ph.is, Ph.by_, Ph.any, Region.binds, Ph.ownA, Ph.ownC] at hp
        refine ⟨by simp [Gd, valOf, hp], ?_⟩
        have hc := (Hbx1.out.below Hbx1.out.lt hb).cell 0 _ rfl
        refine mild_val (.slice (some ad) lines.length c) ?_ rfl
        simp [execOp, evalF, hp, hc, go_sem]
      · -- 4: slot 25 := Op.move t6
        refine ob_yes fun f w' hb hp => ?_
        simp [PreOf, factOf, valOf, Ph.is, Ph.by_, Ph.any, Region.binds, Ph.ownA, Ph.ownC] at hp
        refine ⟨by simp [Gd, valOf, hp], ?_⟩
        refine mild_val (.int .i64 (i : Int)) ?_ rfl
        simp [execOp, evalF, hp]
      · -- 5: slot 26 := Op.indexAddr 92 t24 t25
        refine ob_yes fun f w' hb hp => ?_
        simp [PreOf, factOf, valOf, Ph.is, Ph.by_, Ph.any, Region.binds, Ph.ownA, Ph.ownC] at hp
        refine ⟨by simp [Gd, valOf, hp], ?_⟩
        refine mild_val (.pointer (some pp)) ?_ rfl
        simp [execOp, evalF, hp, go_sem, hi, hpp]
        try exact fun h => absurd (h (by omega)) (by omega)
      · -- 6: slot 27 := Op.fieldAddr 98 t26 0
        refine ob_yes fun f w' hb hp => ?_
        simp [PreOf, factOf, valOf, Ph.is, Ph.by_, Ph.any, Region.binds, Ph.ownA, Ph.ownC] at hp
        refine ⟨by simp [Gd, valOf, hp], ?_⟩
        refine mild_val (.pointer (some pp)) ?_ rfl
        simp [execOp, evalF, hp, go_sem]
      · -- 7: slot 28 := Op.fieldAddr 75 t27 1
        refine ob_yes fun f w' hb hp => ?_
        simp [PreOf, factOf, valOf, Ph.is, Ph.by_, Ph.any, Region.binds, Ph.ownA, Ph.ownC] at hp
        refine ⟨by simp [Gd, valOf, hp], ?_⟩
        refine mild_val (.pointer (some ⟨pp.block, pp.off + 1, none⟩)) ?_ rfl
        simp [execOp, evalF, hp, go_sem]
      · -- 8: slot 29 := Op.load 65 t28
        refine ob_yes fun f w' hb hp => ?_
        simp [PreOf, factOf, valOf, Ph.is, Ph.by_, Ph.any, Region.binds, Ph.ownA, Ph.ownC] at hp
        refine ⟨by simp [Gd, valOf, hp], ?_⟩
        have hc := (hb.cell (p := ⟨pp.block, pp.off + 1, none⟩) hblk).trans Hx1.out
        refine mild_val (.slice Aa aa.length ca) ?_ rfl
        simp [execOp, evalF, hp, hc, go_sem]
      · -- 9: slot 30 := Op.call   value (Operand.func 69), args := #[t29], argTypes := #[65]  
        refine ob_yes fun f w' hb hp => ?_
        simp [PreOf, factOf, valOf, Ph.is, Ph.by_, Ph.any, Region.binds, Ph.ownA, Ph.ownC] at hp
        refine ⟨by simp [Gd, valOf, hp], ?_⟩
        refine mild_call 69 _ _ Try.f69 Try.func69 (by kernel_rfl) (by kernel_rfl) rfl ?_
        simp [evalF, hp, Ph.is, Ph.by_, Ph.any, Ph.ownA, Ph.ownC]
        refine (cloneA w' _ aa (Hya.out.step hb) (by omega)).mono ?_
        rintro _ w7 ⟨v7, rfl, ho, hb7⟩
        exact ⟨_, rfl, hb7, ho.more hb.size⟩
      · -- 10: slot 31 := Op.move t0
        refine ob_yes fun f w' hb hp => ?_
        simp [PreOf, factOf, valOf, Ph.is, Ph.by_, Ph.any, Region.binds, Ph.ownA, Ph.ownC] at hp
        refine ⟨by simp [Gd, valOf, hp], ?_⟩
        refine mild_val (.pointer (some ⟨g, 0, none⟩)) ?_ rfl
        simp [execOp, evalF, hp]
      · -- 11: slot 32 := Op.nilCheck t31
        refine ob_yes fun f w' hb hp => ?_
        simp [PreOf, factOf, valOf, Ph.is, Ph.by_, Ph.any, Region.binds, Ph.ownA, Ph.ownC] at hp
        refine ⟨by simp [Gd, valOf, hp], ?_⟩
        refine mild_val (.pointer (some ⟨g, 0, none⟩)) ?_ rfl
        simp [execOp, evalF, hp, go_sem]
      · -- 12: slot 33 := Op.fieldAddr 94 t32 0
        refine ob_yes fun f w' hb hp => ?_
        simp [PreOf, factOf, valOf, Ph.is, Ph.by_, Ph.any, Region.binds, Ph.ownA, Ph.ownC] at hp
        refine ⟨by simp [Gd, valOf, hp], ?_⟩
        refine mild_val (.pointer (some ⟨g, 0, none⟩)) ?_ rfl
        simp [execOp, evalF, hp, go_sem]
      · -- 13: slot 34 := Op.load 92 t33
        refine ob_yes fun f w' hb hp => ?_
        simp [PreOf, factOf, valOf, Ph.is, Ph.by_, Ph.any, Region.binds, Ph.ownA, Ph.ownC] at hp
        refine ⟨by simp [Gd, valOf, hp], ?_⟩
        have hc := (Hbx1.out.below Hbx1.out.lt hb).cell 0 _ rfl
        refine mild_val (.slice (some ad) lines.length c) ?_ rfl
        simp [execOp, evalF, hp, hc, go_sem]
      · -- 14: slot 35 := Op.move t6
        refine ob_yes fun f w' hb hp => ?_
        simp [PreOf, factOf, valOf, Ph.is, Ph.by_, Ph.any, Region.binds, Ph.ownA, Ph.ownC] at hp
        refine ⟨by simp [Gd, valOf, hp], ?_⟩
        refine mild_val (.int .i64 (i : Int)) ?_ rfl
        simp [execOp, evalF, hp]
      · -- 15: slot 36 := Op.indexAddr 92 t34 t35
        refine ob_yes fun f w' hb hp => ?_
        simp [PreOf, factOf, valOf, Ph.is, Ph.by_, Ph.any, Region.binds, Ph.ownA, Ph.ownC] at hp
        refine ⟨by simp [Gd, valOf, hp], ?_⟩
        refine mild_val (.pointer (some pp)) ?_ rfl
        simp [execOp, evalF, hp, go_sem, hi, hpp]
        try exact fun h => absurd (h (by omega)) (by omega)
      · -- 16: slot 37 := Op.fieldAddr 98 t36 1
        refine ob_yes fun f w' hb hp => ?_
        simp [PreOf, factOf, valOf, Ph.is, Ph.by_, Ph.any, Region.binds, Ph.ownA, Ph.ownC] at hp
        refine ⟨by simp [Gd, valOf, hp], ?_⟩
        refine mild_val (.pointer (some ⟨pp.block, pp.off + 2, none⟩)) ?_ rfl
        simp [execOp, evalF, hp, go_sem]
      · -- 17: slot 38 := Op.load 66 t37
        refine ob_yes fun f w' hb hp => ?_
        simp [PreOf, factOf, valOf, Ph.is, Ph.by_, Ph.any, Region.binds, Ph.ownA, Ph.ownC] at hp
        refine ⟨by simp [Gd, valOf, hp], ?_⟩
        have hc := (hb.cell (p := ⟨pp.block, pp.off + 2, none⟩) hblk).trans Hx2.out
        refine mild_val (.slice At ts.length ct) ?_ rfl
        simp [execOp, evalF, hp, hc, go_sem]
      · -- 18: slot 39 := Op.call   value (Operand.func 70), args := #[t38], argTypes := #[66]  
        refine ob_yes fun f w' hb hp => ?_
        simp [PreOf, factOf, valOf, Ph.is, Ph.by_, Ph.any, Region.binds, Ph.ownA, Ph.ownC] at hp
        refine ⟨by simp [Gd, valOf, hp], ?_⟩
        refine mild_call 70 _ _ Try.f70 Try.func70 (by kernel_rfl) (by kernel_rfl) rfl ?_
        simp [evalF, hp, Ph.is, Ph.by_, Ph.any, Ph.ownA, Ph.ownC]
        refine (cloneC w' _ ts (Hyc.out.step hb) (by omega)).mono ?_
        rintro _ w7 ⟨v7, rfl, ho, hb7⟩
        exact ⟨_, rfl, hb7, ho.more hb.size⟩
      · -- 19: slot 4 := Op.assign t30
        refine ob_yes fun f w' hb hp => ?_
        simp [PreOf, factOf, valOf, Ph.is, Ph.by_, Ph.any, Region.binds, Ph.ownA, Ph.ownC] at hp
        refine ⟨by simp [Gd, valOf, hp], ?_⟩
        exact mild_val (f 30) (by simp [execOp, evalF]) hp.1
      · -- 20: slot 5 := Op.assign t39
        refine ob_yes fun f w' hb hp => ?_
        simp [PreOf, factOf, valOf, Ph.is, Ph.by_, Ph.any, Region.binds, Ph.ownA, Ph.ownC] at hp
        refine ⟨by simp [Gd, valOf, hp], ?_⟩
        exact mild_val (f 39) (by simp [execOp, evalF]) hp.1
    · intro f w2 hb2 hp
      simp only [PostOf, Ph.is, Ph.by_, Ph.any, Ph.ownA, Ph.ownC] at hp
      obtain ⟨h0, h1, h2, h3, h4, h5, h6, h7, h8, h9, h10, h11, h12, h13, h14, h15, h16, h17, h18, h19, h20, _⟩ := hp
      simp only [fills, List.foldl_cons, List.foldl_nil, Act.put, List.setIfInBounds_toArray, List.set_cons_zero, List.set_cons_succ, h0, h1, h2, h3, h4, h5, h6, h7, h8, h10, h11, h12, h13, h14, h15, h16, h17]
      clear h0 h1 h2 h3 h4 h5 h6 h7 h8 h10 h11 h12 h13 h14 h15 h16 h17
      generalize f 30 = v30 at *
      generalize f 39 = v39 at *
      generalize f 4 = v4 at *
      generalize f 5 = v5 at *
      go_wp2_with fail
      go_ret2
      obtain ⟨e1, e2⟩ := Hfin.out
      rw [e1, e2]
      exact ⟨_, _, rfl, h19.more Hb1.out.size, h20.more Hb1.out.size, bstep Hb1.out hb2⟩
end Go.Proofs.Ythfnikdapknohaa

namespace Go.Proofs.Ythfnikdapknohaa
set_option linter.unusedSimpArgs false
set_option linter.unusedVariables false
open Go.RowKit

theorem lineAt_withT (l : List GRow) (x : UInt32) : lineAt (withT l) x.toNat = (l.find? fun r => r.fr == x).map fun r => (r, btab r.arcs) := by
  unfold lineAt withT
  rw [List.find?_map]
  congr 2
  funext r
  simp only [Function.comp]
  rw [Bool.eq_iff_iff]
  simp only [decide_eq_true_eq, beq_iff_eq]
  exact ⟨fun h => UInt32.toNat_inj.1 h, fun h => by rw [h]⟩
theorem arcsL_withT (l : List GRow) (x : UInt32) : arcsL (withT l) x.toNat = arcsOf l x := by
  unfold arcsL arcsOf
  rw [lineAt_withT]
  cases l.find? (fun r => r.fr == x) <;> rfl
theorem fr_rise (l : List GRow) (h : newE none l = 0) : ∀ i j, (hi : i < j) → (hj : j < l.length) → (l[i]'(by omega)).fr.toNat < (l[j]).fr.toNat := by
  intro i j hi hj
  induction j with
  | zero => omega
  | succ j ih =>
    have h1 := (newE_row l (j + 1) hj h).2
    have h2 : nxt 0 (l.take (j + 1)) = (l[j]).fr.toNat + 1 := by
      rw [List.take_succ_eq_append_getElem (by omega), nxt_snoc]
    rw [h2] at h1
    rcases Nat.lt_or_ge i j with h | h
    · have := ih h (by omega); omega
    · obtain rfl : i = j := by omega
      omega
theorem withT_rise (l : List GRow) (h : newE none l = 0) : ∀ i j, (hi : i < j) → (hj : j < (withT l).length) → ((withT l)[i]'(by omega)).1.fr.toNat < ((withT l)[j]).1.fr.toNat := by
  intro i j hi hj
  have hl : (withT l).length = l.length := by simp [withT]
  have := fr_rise l h i j hi (by omega)
  simpa [withT] using this
theorem find_row (l : List GRow) (h : newE none l = 0) (k : Nat) (hk : k < l.length) : l.find? (fun r => r.fr == (l[k]).fr) = some l[k] := by
  rw [List.find?_eq_some_iff_getElem]
  refine ⟨by simp, k, hk, rfl, fun j hj => ?_⟩
  have := fr_rise l h j k hj hk
  simp only [Bool.not_eq_true', beq_eq_false_iff_ne]
  intro e
  rw [e] at this
  omega
theorem arcsL_row (l : List GRow) (h : newE none l = 0) (k : Nat) (hk : k < l.length) : arcsL (withT l) (l[k]).fr.toNat = (l[k]).arcs := by
  unfold arcsL
  rw [lineAt_withT, find_row l h k hk]
  rfl
theorem tabL_row (l : List GRow) (h : newE none l = 0) (k : Nat) (hk : k < l.length) : tabL (withT l) (l[k]).fr.toNat = btab (l[k]).arcs := by
  unfold tabL
  rw [lineAt_withT, find_row l h k hk]
  rfl
theorem row_arcs_le (l : List GRow) (x : GRow) (hx : x ∈ l) : x.arcs.length ≤ rsz l := by
  induction l with
  | nil => cases hx
  | cons a t ih =>
    have e : rsz (a :: t) = a.arcs.length + 1 + rsz t := by simp [rsz]
    rcases List.mem_cons.1 hx with rfl | hx
    · omega
    · have := ih hx; omega
theorem row_nbrs (l : List GRow) (h : newE none l = 0) (x : GRow) (hx : x ∈ l) : nbrs x.arcs = true := by
  obtain ⟨k, hk, rfl⟩ := List.mem_iff_getElem.1 hx
  exact (newE_row l k hk h).1
theorem btab_row (l : List GRow) (h : newE none l = 0) (hs : rsz l ≤ 1048576) (x : GRow) (hx : x ∈ l) : (btab x.arcs).length = x.arcs.length :=
  btab_len _ (by have := row_arcs_le l x hx; omega) (gmay_sum' (nbrs_gmay (row_nbrs l h x hx)).1)
theorem tabL_len (l : List GRow) (h : newE none l = 0) (hs : rsz l ≤ 1048576) (x : UInt32) : (tabL (withT l) x.toNat).length = (arcsOf l x).length := by
  unfold tabL arcsOf
  rw [lineAt_withT]
  cases hf : l.find? (fun r => r.fr == x) with
  | none => rfl
  | some r => exact btab_row l h hs r (List.mem_of_find?_eq_some hf)

/-- a row, of a block of one's own, in which each element has a number in cell o -/
def WBox (T : TypeId) (K : IntKind) (m o lo : Nat) (A : Option Addr) (n : Nat) (W : World) : Prop :=
  n = 0 ∨ ∃ g cs, A = some ⟨g, 0, none⟩ ∧ lo ≤ g ∧ BoxAt T W g cs ∧ ∀ k, k < n → ∃ x : Int, cs[k * m + o]? = some (.int K x)
theorem WBox.below {T : TypeId} {K : IntKind} {m o lo n : Nat} {A : Option Addr} {W W' : World} (h : WBox T K m o lo A n W) (hb : Below W.heap.size W W') : WBox T K m o lo A n W' := by
  rcases h with h | ⟨g, cs, h1, h2, h3, h4⟩
  · exact .inl h
  · exact .inr ⟨g, cs, h1, h2, h3.below h3.lt hb, h4⟩
theorem WBox.at_ {T : TypeId} {K : IntKind} {m o lo n : Nat} {A : Option Addr} {W : World} (h : WBox T K m o lo A n W) (k : Nat) (hk : k < n) :
    ∃ g x, A = some ⟨g, 0, none⟩ ∧ lo ≤ g ∧ g < W.heap.size ∧ (∃ cs, BoxAt T W g cs) ∧ W.cell? ⟨g, k * m + o, none⟩ = some (.int K x) ∧ W.frozen? ⟨g, k * m + o, none⟩ = false ∧
      ∀ y, WBox T K m o lo A n (W.setCell ⟨g, k * m + o, none⟩ (.int K y)) := by
  rcases h with h | ⟨g, cs, h1, h2, h3, h4⟩
  · omega
  · obtain ⟨x, hx⟩ := h4 k hk
    refine ⟨g, x, h1, h2, h3.lt, ⟨cs, h3⟩, h3.cell _ _ hx, h3.frozen _, fun y => .inr ⟨g, _, h1, h2, h3.put _ _, fun j hj => ?_⟩⟩
    by_cases e : j * m + o = k * m + o
    · rw [e]
      refine ⟨y, ?_⟩
      rw [List.getElem?_set_self (by
        rcases Nat.lt_or_ge (k * m + o) cs.length with h | h
        · exact h
        · rw [List.getElem?_eq_none h] at hx; cases hx)]
    · obtain ⟨z, hz⟩ := h4 j hj
      exact ⟨z, by rw [List.getElem?_set_ne (fun h => e h.symm)]; exact hz⟩
theorem WBox.other {T T2 : TypeId} {K : IntKind} {m o lo n : Nat} {A : Option Addr} {W : World} (h : WBox T K m o lo A n W) (hT : T2 ≠ T) {g : Nat} {cs : List Value} (hg : BoxAt T2 W g cs) (j : Nat) (v : Value) : WBox T K m o lo A n (W.setCell ⟨g, j, none⟩ v) := by
  rcases h with h | ⟨g', cs', h1, h2, h3, h4⟩
  · exact .inl h
  · refine .inr ⟨g', cs', h1, h2, h3.other _ _ (fun e => ?_), h4⟩
    simp only at e
    subst e
    have := hg.symm.trans h3
    injection this with this
    injection this with _ e _
    exact hT e
theorem WBox.ofA {W : World} {base : Nat} {A : Option Addr} {c : Nat} {l : List GArc} (h : OwnF 70 cArc W base (.slice A l.length c) l) : WBox 70 .u32 2 1 base A l.length W := by
  obtain ⟨css, hl, ⟨h1, h2⟩, h3, h4⟩ := h
  have hcl := OwnR.clen hl h3
  rcases h2 with ⟨e, hn⟩ | ⟨g, cap, cur, e, hg, h5, h6, h7, h8, h9⟩
  · exact .inl hn
  · injection e with e _ _
    refine .inr ⟨g, cur.toList, e, hg, by simpa [BoxAt] using h5, fun k hk => ?_⟩
    obtain ⟨cs, hcs⟩ : ∃ cs, css[k]? = some cs := ⟨_, List.getElem?_eq_getElem (by omega)⟩
    obtain ⟨rfl, _⟩ := h3 k cs l[k] hcs (List.getElem?_eq_getElem hk)
    have := flat_get 2 css hcl k _ 1 hcs (by omega)
    refine ⟨((l[k]).wt.toNat : Int), ?_⟩
    have h10 : (cur.toList.take (l.length * cArc.n))[k * 2 + 1]? = some (.int .u32 ((l[k]).wt.toNat : Int)) := by rw [h9]; exact this
    rw [List.getElem?_take] at h10
    split at h10
    · exact h10
    · cases h10
theorem WBox.ofC {W : World} {base : Nat} {A : Option Addr} {c : Nat} {l : List GCell} (h : OwnF 73 cCell W base (.slice A l.length c) l) : WBox 73 .u64 2 0 base A l.length W := by
  obtain ⟨css, hl, ⟨h1, h2⟩, h3, h4⟩ := h
  have hcl := OwnR.clen hl h3
  rcases h2 with ⟨e, hn⟩ | ⟨g, cap, cur, e, hg, h5, h6, h7, h8, h9⟩
  · exact .inl hn
  · injection e with e _ _
    refine .inr ⟨g, cur.toList, e, hg, by simpa [BoxAt] using h5, fun k hk => ?_⟩
    obtain ⟨cs, hcs⟩ : ∃ cs, css[k]? = some cs := ⟨_, List.getElem?_eq_getElem (by omega)⟩
    obtain ⟨rfl, _⟩ := h3 k cs l[k] hcs (List.getElem?_eq_getElem hk)
    have := flat_get 2 css hcl k _ 0 hcs (by omega)
    refine ⟨((l[k]).cut.toNat : Int), ?_⟩
    have h10 : (cur.toList.take (l.length * cCell.n))[k * 2 + 0]? = some (.int .u64 ((l[k]).cut.toNat : Int)) := by rw [h9]; exact this
    rw [List.getElem?_take] at h10
    split at h10
    · exact h10
    · cases h10
end Go.Proofs.Ythfnikdapknohaa

namespace Go.Proofs.Ythfnikdapknohaa.shardRows
open Go.Proofs.Ythfnikdapknohaa
open Go.ChangeShapes Go.WideShapes Go.ChangeAt Go.RowKit
set_option linter.unusedVariables false
set_option linter.unusedSimpArgs false

theorem own : ownKnob Try.prog.godebug = none := by kernel_rfl
theorem laidOut : laidOutB Try.prog = true := by kernel_rfl

set_option maxRecDepth 100000 in
set_option maxHeartbeats 8000000 in
theorem walk0 (v0 : Value) (l : List GRow) (x : UInt32) (w : World) (hr : ByRw w w.heap.size v0 l) :
    Calls Try.prog 9 #[v0, .int .u32 (x.toNat : Int)] w fun e w' => e = .returned (.bool true) ∧ Below w.heap.size w w' := by
  obtain ⟨A, c, rfl, hc1, hc2⟩ := hr.form
  unfold maxLen at hc2
  have hfew := few_any w w.heap.size _ l hr
  have hxl := u32_lt x
  have H := Lib.hid hr
  clear hr
  cases hf : fewR l with
  | false =>
    rw [hf] at hfew
    go_enter Try.func9, Try.ntmps9
    go_wp2_with fail
    refine hfew.mono ?_
    rintro _ _ ⟨rfl, rfl⟩
    go_wp2_with (go_at_call 12; refine (awake23 _).mono ?_; rintro e wa ⟨rfl, hba⟩)
    go_ret
    exact ⟨rfl, hba⟩
  | true =>
    rw [hf] at hfew
    have hsz := fewR_rsz l hf
    clear hf
    have Hfew := Lib.hid hfew
    clear hfew
    by_cases hl0 : l = []
    · subst hl0
      go_enter Try.func9, Try.ntmps9
      go_wp2_with fail
      refine Hfew.out.mono ?_
      rintro _ _ ⟨rfl, rfl⟩
      go_wp2_with (go_at_call 12; refine (awake23 _).mono ?_; rintro e wa ⟨rfl, hba⟩)
      go_ret
      exact ⟨rfl, hba⟩
    · have hlen : 0 < l.length := List.length_pos_iff.2 hl0
      have hd0 : ((l.length : Int) == 0) = false := beq_eq_false_iff_ne.2 (by omega)
      have hd1 : (l.length == 0) = false := beq_eq_false_iff_ne.2 (by omega)
      have Hrn := Lib.hid (rnew_any w w.heap.size (.slice A l.length c) l (by omega) H.out)
      have hE : shE l = newE none l := if_neg hl0
      by_cases hn : newE none l = 0
      · have Hn := Lib.hid hn
        have Hl0 := Lib.hid hl0
        have Hput := Lib.hid fun q => shput_any (w.drewN q) w.heap.size (.slice A l.length c) l (by omega) (show ByRw (w.drewN q) w.heap.size (.slice A l.length c) l from H.out) (Nat.le_refl _)
        rw [hE, hn] at Hput
        rw [hn] at Hrn
        clear hE hn hl0
        go_enter Try.func9, Try.ntmps9
        go_wp2_with fail
        refine Hfew.out.mono ?_
        rintro _ _ ⟨rfl, rfl⟩
        go_wp2_with fail
        refine Hrn.out.mono ?_
        rintro _ _ ⟨rfl, q, rfl⟩
        go_wp2_with fail
        refine (Hput.out q).mono ?_
        rintro _ w3 ⟨v3, rfl, hn3, ho3, hb3⟩
        have ho := ho3 trivial
        obtain ⟨A3, c3, rfl, _, _, _⟩ := ho.form_
        have Hs3 := Lib.hid ho
        have Hb3 := Lib.hid (show Below w.heap.size w w3 from (bdrewN (Below.refl w.heap.size w) q).trans hb3)
        have hslen : (senc l).length ≤ 100000 := by
          have h1 := rowsB_len l none 0 Hn.out (by omega)
          have h2 := vput_len64 l.length (by omega)
          rw [senc_len]; omega
        have hpl := plines_ok l Hn.out (by omega)
        have hget := shget_any w3 (.slice A3 (senc l).length c3) (senc l) Hs3.out.by_ hslen (by rw [hpl, rowsOf_withT]; omega)
        have hsh := isSh_enc l Hl0.out Hn.out (by omega)
        rw [hpl] at hget
        have Hget := Lib.hid hget
        have Hsh := Lib.hid hsh
        clear hget hsh hpl ho hn3 ho3 hb3
        go_wp2_with fail
        refine Hget.out.mono ?_
        rintro _ w5 ⟨hb5, ⟨_, g, rfl, hg, hl⟩ | ⟨hns, _⟩⟩
        · have hll : (withT l).length = l.length := by simp [withT]
          have Hrise := Lib.hid (withT_rise l Hn.out)
          have Hzz : Hid (∀ y ∈ withT l, y.1.arcs.length ≤ 4294967296 ∧ y.2.length ≤ 4294967296) := Lib.hid (by
            intro y hy
            obtain ⟨r, hr, rfl⟩ := List.mem_map.1 hy
            have h1 := row_arcs_le l r hr
            have h2 := btab_row l Hn.out (by omega) r hr
            exact ⟨by show r.arcs.length ≤ _; omega, by show (btab r.arcs).length ≤ _; omega⟩)
          have hnl : (withT l).length ≤ 4294967296 := by have := rsz_len l; omega
          have Hrow := Lib.hid (fun (W : World) (t : Nat) (ht : t < 4294967296) (hb : Below w5.heap.size w5 W) => srow_any W w5.heap.size g (withT l) t ht (hl.below hb) hb.size hnl Hrise.out Hzz.out)
          have Hb5 := Lib.hid (bstep Hb3.out hb5)
          have H5 := Lib.hid (H.out.below Hb5.out)
          have hw5 := Hb5.out.size
          have hrx := Hrow.out w5 x.toNat hxl (Below.refl _ _)
          rw [arcsL_withT] at hrx
          have hal := tabL_len l Hn.out (by omega) x
          generalize hta : tabL (withT l) x.toNat = ta at *
          have Hrx := Lib.hid hrx
          have Har := Lib.hid (fun (W : World) (hb : Below w.heap.size w W) => rarcs_any W w.heap.size (.slice A l.length c) l x (H.out.below hb) hb.size)
          generalize arcsOf l x = aa at *
          have Hal := Lib.hid hal
          clear hb5 hl Hget hrx hta hal hnl hll Hzz Hrise
          go_wp2_with fail
          refine Hrx.out.mono ?_
          rintro _ w6 ⟨va, vt, rfl, hoa, hot, hb6⟩
          obtain ⟨Aa, ca, rfl, hca1, hca2, _⟩ := hoa.form'
          obtain ⟨At, ct, rfl, hct1, hct2, _⟩ := hot.form'
          unfold maxLen at hca2 hct2
          have Hba := Lib.hid (WBox.ofA hoa)
          have Hbt := Lib.hid (WBox.ofC hot)
          have Hb6 := Lib.hid hb6
          clear hoa hot hb6 Hrx
          go_wp2_with fail
          go_loopw [11] (fun vi wr => ∃ k : Nat, k ≤ aa.length ∧ vi = .int .i64 (k : Int) ∧ WBox 70 .u32 2 1 w5.heap.size Aa aa.length wr ∧ WBox 73 .u64 2 0 w5.heap.size At ta.length wr ∧ Below w5.heap.size w5 wr) (fun i _ => aa.length + 1 - (intOf i).toNat)
          case atStart => exact ⟨0, by omega, rfl, Hba.out, Hbt.out, Hb6.out⟩
          case round =>
            obtain ⟨k, hk, rfl, hba, hbt, hbl⟩ := hrel
            have Hbl := Lib.hid hbl
            have hsl := hbl.size
            by_cases hlt : k < aa.length
            · obtain ⟨g1, y, rfl, hlo, hgl, ⟨cs1, hbx1⟩, hcell, hfr, hset⟩ := hba.at_ k hlt
              have Hbx1 := Lib.hid hbx1
              have Hbt1 := Lib.hid hbt
              have Hba1 := Lib.hid hba
              have Hset := Lib.hid hset
              clear hset hbt hba hbx1
              go_wp2_with fail
              refine ⟨⟨k + 1, by omega, by go_num, Hset.out _, Hbt1.out.other (by decide) Hbx1.out _ _, Hbl.out.trans ((Chg.set (P := fun k => k = g1) wr ⟨g1, k * 2 + 1, none⟩ _ rfl).below (B := w5.heap.size) hsl (fun k hk => by omega))⟩, ?_⟩
              simp [intOf]; omega
            · have Hbt1 := Lib.hid hbt
              clear hba hbt
              go_wp2_with fail
              go_loopw [12] (fun vi wr => ∃ k : Nat, k ≤ ta.length ∧ vi = .int .i64 (k : Int) ∧ WBox 73 .u64 2 0 w5.heap.size At ta.length wr ∧ Below w5.heap.size w5 wr) (fun i _ => ta.length + 1 - (intOf i).toNat)
              case atStart => exact ⟨0, by omega, rfl, Hbt1.out, Hbl.out⟩
              case round =>
                obtain ⟨k2, hk2, rfl, hbt, hbl2⟩ := hrel
                have Hbl2 := Lib.hid hbl2
                have hsl2 := hbl2.size
                by_cases hlt2 : k2 < ta.length
                · obtain ⟨g1, y, rfl, hlo, hgl, ⟨cs1, hbx1⟩, hcell, hfr, hset⟩ := hbt.at_ k2 hlt2
                  simp only [Nat.add_zero] at hcell hfr hset
                  have Hset := Lib.hid hset
                  clear hset hbt hbx1
                  go_wp2_with fail
                  refine ⟨⟨k2 + 1, by omega, by go_num, Hset.out _, Hbl2.out.trans ((Chg.set (P := fun k => k = g1) wr ⟨g1, k2 * 2, none⟩ _ rfl).below (B := w5.heap.size) hsl2 (fun k hk => by omega))⟩, ?_⟩
                  simp [intOf]; omega
                · clear hbt
                  go_wp2_with fail
                  go_loopw [13] (fun vi wr => ∃ k : Nat, k ≤ l.length ∧ vi = .int .i64 (k : Int) ∧ Below w5.heap.size w5 wr) (fun i _ => l.length + 1 - (intOf i).toNat)
                  case atStart => exact ⟨0, by omega, rfl, Hbl2.out⟩
                  case round =>
                    obtain ⟨k3, hk3, rfl, hbl3⟩ := hrel
                    have Hbl3 := Lib.hid hbl3
                    have hsl3 := hbl3.size
                    by_cases hlt3 : k3 < l.length
                    · have hrow := Hrow.out _ (l[k3]).fr.toNat (u32_lt _) hbl3
                      rw [arcsL_row l Hn.out k3 hlt3, tabL_row l Hn.out k3 hlt3] at hrow
                      have H7 := H5.out.below (hbl3.mono hw5)
                      obtain ⟨ad, Ab, cb, rfl, hab, hx0, hx1, hyb⟩ := H7.cells k3 hlt3
                      have Hrw := Lib.hid hrow
                      have hnb := row_nbrs l Hn.out _ (List.getElem_mem hlt3)
                      have hln := row_arcs_le l _ (List.getElem_mem hlt3)
                      have hcells := fun (W : World) (hb : Below w5.heap.size w5 W) => (H5.out.below (hb.mono hw5)).cells k3 hlt3
                      have Hcells := Lib.hid hcells
                      have Hnb := Lib.hid hnb
                      clear hrow H7 hyb hnb hcells
                      generalize (l[k3]).arcs = ak at *
                      generalize (l[k3]).fr.toNat = fk at *
                      go_wp2_with fail
                      refine Hrw.out.mono ?_
                      rintro _ w8 ⟨va, vt, rfl, ho8, ht8, hb8⟩
                      have hbl8 : Below w5.heap.size w5 w8 := bstep Hbl3.out hb8
                      obtain ⟨ad2, Ab2, cb2, e2, hab2, hy0, hy1, hyb2⟩ := Hcells.out w8 hbl8
                      injection e2 with e2
                      subst e2
                      have Hbl8 := Lib.hid hbl8
                      have Ho8 := Lib.hid ho8
                      have Ht8 := Lib.hid ht8
                      have Hyb2 := Lib.hid hyb2
                      have hs8 := hbl8.size
                      clear ho8 ht8 hyb2 hbl8 hb8 Hcells Hrw hx0 hx1
                      go_wp2_with fail
                      refine (gsame_any w8 w8.heap.size w.heap.size va _ ak ak (OwnF.byA Ho8.out) Hyb2.out).mono ?_
                      rintro _ _ ⟨rfl, q2, rfl⟩
                      rw [decide_eq_true rfl]
                      have hz0 : (w8.drewN q2).cell? { block := (ad.add (k3 * 2)).block, off := (ad.add (k3 * 2)).off + 1 } = some (.slice Ab2 ak.length cb2) := hy1
                      go_wp2_with fail
                      refine (rbuild_any (w8.drewN q2) w.heap.size _ ak (by omega) (show ByA (w8.drewN q2) w.heap.size _ ak from Hyb2.out) (Nat.le_trans hw5 hs8) Hnb.out).mono ?_
                      rintro _ w9 ⟨vo, rfl, ho9, hb9⟩
                      have Ho9 := Lib.hid ho9
                      have Hb9 := Lib.hid hb9
                      clear ho9 hb9 hz0 hy0 hy1
                      go_wp2_with fail
                      refine (csame_any w9 w9.heap.size w9.heap.size vt vo (btab ak) (btab ak) (OwnF.byC (OwnR.below_ (w := w8.drewN q2) (show OwnF 73 cCell (w8.drewN q2) _ vt (btab ak) from Ht8.out) Hb9.out)) Ho9.out.byC).mono ?_
                      rintro _ _ ⟨rfl, q3, rfl⟩
                      rw [decide_eq_true rfl]
                      have hbl9 : Below w5.heap.size w5 (w9.drewN q3) := bdrewN (bstep (bdrewN Hbl8.out q2) Hb9.out) q3
                      have Hbl9 := Lib.hid hbl9
                      clear hbl9
                      go_wp2_with fail
                      go_roundw
                      case rel => exact ⟨k3 + 1, by omega, by go_num, Hbl9.out⟩
                      case measure => simp [intOf]; omega
                    · have har := Har.out _ (Hb5.out.trans (hbl3.mono hw5))
                      have Har2 := Lib.hid har
                      clear har
                      go_wp2_with fail
                      refine Har2.out.mono ?_
                      rintro _ w8 ⟨v8, rfl, hv8, hb8⟩
                      obtain ⟨A8, c8, rfl, _, _⟩ := hv8.form
                      have Hb8 := Lib.hid (bstep (Hb5.out.trans (hbl3.mono hw5)) hb8)
                      obtain ⟨bz, hbz⟩ : ∃ bz, decide (0 < aa.length) = bz := ⟨_, rfl⟩
                      have hbz1 : decide ((0 : Int) < (aa.length : Int)) = bz := by rw [← hbz]; exact decide_eq_decide.2 (by omega)
                      have hbz2 : decide (0 < ta.length) = bz := by have hal' := Hal.out; rw [← hbz]; exact decide_eq_decide.2 (by omega)
                      have hbz3 : decide ((0 : Int) < (ta.length : Int)) = bz := by have hal' := Hal.out; rw [← hbz]; exact decide_eq_decide.2 (by omega)
                      have hbb : (bz == bz) = true := by cases bz <;> rfl
                      clear hv8 hb8
                      go_wp2_with fail
                      refine (srow_nil w8 x.toNat).mono ?_
                      rintro _ _ ⟨rfl, rfl⟩
                      go_wp2_with (first
                        | (go_at_call 17
                           refine (slen_nil _).mono ?_
                           rintro _ _ ⟨rfl, rfl⟩)
                        | (go_at_call 12
                           refine (awake23 _).mono ?_
                           rintro _ w10 ⟨rfl, hb10⟩))
                      go_ret
                      exact ⟨rfl, bstep Hb8.out hb10⟩
        · exact absurd Hsh.out hns
      · have hne : (newE none l == 0) = false := by simpa using hn
        have hne' : (newE none l != 0) = true := by simpa using hn
        clear hn hE hl0
        generalize newE none l = e at *
        go_enter Try.func9, Try.ntmps9
        go_wp2_with fail
        refine Hfew.out.mono ?_
        rintro _ _ ⟨rfl, rfl⟩
        go_wp2_with fail
        refine Hrn.out.mono ?_
        rintro _ _ ⟨rfl, q, rfl⟩
        go_wp2_with (go_at_call 12; refine (awake23 _).mono ?_; rintro e wa ⟨rfl, hba⟩)
        go_ret
        exact ⟨rfl, (bdrewN (Below.refl w.heap.size w) q).trans (hba.mono (Nat.le_refl _))⟩
theorem walk (v0 v1 : Value) (w : World) (h0 : InC w 22 [v0]) (h1 : InC w 51 [v1]) :
    Calls Try.prog 9 #[v0, v1] w fun e w' => e = .returned (.bool true) ∧ Below w.heap.size w w' := by
  obtain ⟨l, hr⟩ := h0.rows
  obtain ⟨t, e, _⟩ := InC.u32 (S := fun _ => True) Try.underlying51 h1
  simp at e
  subst e
  exact walk0 v0 l t w hr

set_option maxRecDepth 100000 in
theorem lifted (os : Os) (started : os.Started) (H : Type) (enc : TypeId × Value → H) :
    ReturnsInHanded {} Try.checked os 9 .any (Rows.shardRowsSpec.pre6 enc Try.prog Try.f9 Rows.shardRowsRow.domain false) (Rows.shardRowsSpec.post enc Try.prog Try.f9 false true false false) := by
  refine returnsInHanded_of_change (C := Try.checked) own started (by kernel_rfl) Try.func9
    (ChangeSpec.witness6 (enc := enc) (C := Try.checked) false ⟨#[], #[.slice none 0 0, .int .u32 0], []⟩ 8 (by kernel_rfl) (by kernel_rfl) (by kernel_rfl) (by kernel_rfl)) ?_
  intro W base args ds gs before hval0 hW hcnd _
  have hval : ∀ (j : Nat) t v, Try.f9.params[j]? = some t → args[j]? = some v → Value.okWide Try.prog W .any base t v := hval0
  have hW' := hW
  obtain ⟨p, q, hA0, hV, rfl, hfz, hnd⟩ := hW
  have hA : DataW.TrodAll enc Try.prog W 0 (fun _ => true) true Try.f9.params.toList args.toList ds p := hA0
  rw [Try.params9] at hA hval
  obtain ⟨v0, vs0, d0, ds0, p0, q0, hargs, rfl, rfl, h0, r0⟩ := trodAll_cons hA
  obtain ⟨v1, vs1, d1, ds1, p1, q1, rfl, rfl, rfl, h1, r1⟩ := trodAll_cons r0
  obtain ⟨rfl, rfl, rfl⟩ := trodAll_nil r1
  obtain rfl : args = #[v0, v1] := by cases args; simp_all
  obtain ⟨rfl, rfl⟩ := trodVars_none hV
  have k0 := h0
  have lt0 : ∀ x ∈ p0, x.block < W.heap.size := by obtain ⟨m, hm⟩ := k0; exact DataW.trod_lt m _ _ _ hm
  have i0 := InC.of h0
  obtain ⟨a0, len0, cap0, rfl⟩ := okWide_slice Try.underlying22 (hval 0 22 v0 rfl rfl)
  have j0 : InC W 22 [_] := i0
  have k1 := h1
  have lt1 : ∀ x ∈ p1, x.block < W.heap.size := by obtain ⟨m, hm⟩ := k1; exact DataW.trod_lt m _ _ _ hm
  have i1 := InC.of h1
  obtain ⟨a1, rfl⟩ := okWide_int Try.underlying51 (hval 1 51 v1 rfl rfl)
  have j1 : InC W 51 [_] := i1
  clear hA0 hval0
  refine (walk _ _ W j0 j1).mono fun e W' ⟨he, bel⟩ => ?_
  subst he
  exact ⟨_, rfl, _, _, _, [], _, [], hW', trodAll_mk1 (shut_bool Try.underlying4 _), (trodAll_cons_mk (Below.trod laidOut (by kernel_rfl) (of_decide_eq_true (by kernel_rfl)) k0 bel lt0) (trodAll_cons_mk (Below.trod laidOut (by kernel_rfl) (of_decide_eq_true (by kernel_rfl)) k1 bel lt1) trodAll_mk0)), rfl, bel.frame _, fun h => by cases h⟩

theorem over : Rows.shardRowsRow.holds Try.pinned (OpenSpec.ofChange Rows.shardRowsSpec) :=
  OpenClaim.holds_of_wide 9 Try.f9 rfl rfl rfl rfl rfl rfl rfl ⟨rfl, rfl, rfl, rfl, rfl⟩ rfl rfl rfl rfl rfl (by kernel_rfl) Try.func9 (by kernel_rfl)
    (of_decide_eq_true (by kernel_rfl)) (by unfold Func.isWrapper; first | (rw [if_pos (by decide +kernel)]; kernel_rfl) | (rw [if_neg (by decide +kernel)]; exact ⟨rfl, rfl⟩))
    (fun os started H enc _ => lifted os started H enc)

theorem proved : Rows.ShardRowsSaid := over
#print axioms proved
end Go.Proofs.Ythfnikdapknohaa.shardRows
