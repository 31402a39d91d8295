/- Rows of cells; the count of a neighbour's draws: the document's and alias.Count. -/
import Derived.Test.YteakeefocnjlhaaLaw04
namespace Go.Proofs.Yteakeefocnjlhaa
set_option linter.unusedSimpArgs false
set_option linter.unusedVariables false
open Go.RowKit

structure GCell where
  cut : UInt64
  oth : UInt32
deriving DecidableEq
def cCell : Cdc GCell := Cdc.flat 2 (fun a => [.int .u64 (a.cut.toNat : Int), .int .u32 (a.oth.toNat : Int)]) (fun _ => True) (fun _ => rfl) (fun x u hu => by
  simp at hu
  rcases hu with rfl | rfl <;> rfl)
theorem InC.cells' {w : World} {cs : List Value} (h : InC w 67 cs) : ∃ v xs, cs = [v] ∧ RowOn cCell w (fun k => k < w.heap.size) (fun k => k < w.heap.size) v xs :=
  h.row (C := cCell) Try.underlying67 (by kernel_rfl) (by decide) fun cs hc => by
    obtain ⟨hl, hf⟩ := hc.fields Try.underlying83 (by kernel_rfl) (by kernel_rfl)
    obtain ⟨u0, h0, g0⟩ := hf 0 _ rfl
    obtain ⟨u1, h1, g1⟩ := hf 1 _ rfl
    obtain ⟨n0, e0, k0⟩ := InC.u64 (S := fun _ => True) Try.underlying26 g0
    obtain ⟨n1, e1, k1⟩ := InC.u32 (S := fun _ => True) Try.underlying33 g1
    simp at e0 e1
    subst e0; subst e1
    match cs, hl with
    | [c0, c1], _ =>
      injection h0 with h0
      injection h1 with h1
      subst h0; subst h1
      exact ⟨⟨n0, n1⟩, rfl, trivial⟩
/-- the value reads as these cells, in blocks below B -/
abbrev ByC (w : World) (B : Nat) (v : Value) (l : List GCell) : Prop := RowOn cCell w (fun k => k < B) (fun _ => True) v l
theorem ByC.below {w w' : World} {B : Nat} {v : Value} {l : List GCell} (h : ByC w B v l) (hb : Below B w w') : ByC w' B v l := by
  obtain ⟨A, c, h1, h2, h3, h4⟩ := h
  refine ⟨A, c, h1, h2, h3, fun hn => ?_⟩
  obtain ⟨ad, e, hb', hc⟩ := h4 hn
  refine ⟨ad, e, hb', fun i x hx => ?_⟩
  obtain ⟨cs, ha, hcs⟩ := hc i x hx
  exact ⟨cs, ha, fun j u hu => (hb.cell (by rw [add_block]; exact hb')).trans (hcs j u hu)⟩
theorem ByC.more {w : World} {B B' : Nat} {v : Value} {l : List GCell} (h : ByC w B v l) (hB : B ≤ B') : ByC w B' v l := h.mono (fun _ hk => by omega) fun _ hk => hk
theorem ByC.step {w w' : World} {v : Value} {l : List GCell} (h : ByC w w.heap.size v l) (hb : Below w.heap.size w w') : ByC w' w'.heap.size v l := (h.below hb).more hb.size
theorem InC.gcells {w : World} {v : Value} (h : InC w 67 [v]) : ∃ l, ByC w w.heap.size v l := by
  obtain ⟨v', xs, e, hr⟩ := h.cells'
  injection e with e
  subst e
  exact ⟨xs, hr.mono (fun _ hk => hk) (fun _ _ => trivial)⟩
theorem ByC.cells {w : World} {B : Nat} {A : Option Addr} {n c : Nat} {l : List GCell} (h : ByC w B (.slice A n c) l) (k : Nat) (hk : k < l.length) :
    ∃ ad, A = some ad ∧ ad.block < B ∧ w.cell? (ad.add (k * 2)) = some (.int .u64 ((l[k]).cut.toNat : Int)) ∧ w.cell? { block := (ad.add (k * 2)).block, off := (ad.add (k * 2)).off + 1 } = some (.int .u32 ((l[k]).oth.toNat : Int)) := by
  obtain ⟨ad, cs, e, hb, ⟨rfl, _⟩, hc⟩ := h.at_ k l[k] (List.getElem?_eq_getElem hk)
  refine ⟨ad, e, hb, hc 0 _ rfl, ?_⟩
  have := hc 1 _ rfl
  rw [← add_add] at this
  have e2 : (ad.add (k * cCell.n)).add 1 = { block := (ad.add (k * 2)).block, off := (ad.add (k * 2)).off + 1 } := by simp [Addr.add, cCell, Cdc.flat]
  rw [← e2]
  exact this

/-! ### how many draws come to a neighbour -/
def cstep (W : Nat) (to : Int) (i : Nat) (c : GCell) (n : Nat) : Nat :=
  let cut := if W < c.cut.toNat then W else c.cut.toNat
  let n1 := if (i : Int) = to then (n + cut) % 18446744073709551616 else n
  if (c.oth.toNat : Int) = to then (n1 + (W - cut)) % 18446744073709551616 else n1
def cntK (W : Nat) (to : Int) (l : List GCell) : Nat → Nat
  | 0 => 0
  | k + 1 => match l[k]? with
    | some c => cstep W to k c (cntK W to l k)
    | none => cntK W to l k
def cnt (W : Nat) (to : Int) (l : List GCell) : Nat := cntK W to l l.length
theorem cntK_succ (W : Nat) (to : Int) (l : List GCell) (k : Nat) (hk : k < l.length) : cntK W to l (k + 1) = cstep W to k l[k] (cntK W to l k) := by
  rw [cntK, List.getElem?_eq_getElem hk]
theorem cstep_lt {W : Nat} {to : Int} {i : Nat} {c : GCell} {n : Nat} (hn : n < 18446744073709551616) : cstep W to i c n < 18446744073709551616 := by
  unfold cstep
  simp only
  split
  · exact Nat.mod_lt _ (by decide)
  · split
    · exact Nat.mod_lt _ (by decide)
    · exact hn
theorem cntK_lt (W : Nat) (to : Int) (l : List GCell) : ∀ k, cntK W to l k < 18446744073709551616
  | 0 => by simp [cntK]
  | k + 1 => by
    rw [cntK]
    split
    · exact cstep_lt (cntK_lt W to l k)
    · exact cntK_lt W to l k

set_option maxRecDepth 100000 in
set_option maxHeartbeats 3200000 in
theorem rcount_any (w : World) (B : Nat) (v : Value) (l : List GCell) (W : Nat) (hW : W < 18446744073709551616) (to : Int) (hl : l.length ≤ 4294967296) (h : ByC w B v l) :
    Calls Try.prog 64 #[v, .int .u64 (W : Int), .int .i64 to] w fun e w' => e = .returned (.int .u64 (cnt W to l : Nat)) ∧ w = w' := by
  obtain ⟨A, c, rfl, hc1, hc2⟩ := h.form
  unfold maxLen at hc2
  have hlt := cntK_lt W to l
  have Hlt := Lib.hid hlt
  clear hlt
  go_enter Try.func64, Try.ntmps64
  go_wp2_with fail
  go_loop [7, 12] (fun x i => ∃ k : Nat, k ≤ l.length ∧ i = .int .i64 k ∧ x = .int .u64 (cntK W to l k : Nat)) (fun _ i => l.length - (intOf i).toNat)
  case atStart => exact ⟨0, by omega, rfl, rfl⟩
  case round =>
    obtain ⟨k, hk, rfl, rfl⟩ := hrel
    by_cases hlt : k < l.length
    · obtain ⟨ad, rfl, hab, hx0, hx1⟩ := h.cells k hlt
      have hsn := cntK_succ W to l k hlt
      have h1 := Hlt.out k
      have hcu := u64_lt (l[k]).cut
      have hot := u32_lt (l[k]).oth
      have hst : ∀ n, cstep W to k l[k] n = cstep W to k ⟨l[k].cut, l[k].oth⟩ n := fun _ => rfl
      rw [hst] at hsn
      unfold cstep at hsn
      simp only at hsn
      generalize (l[k]).cut.toNat = cut at *
      generalize (l[k]).oth.toNat = oth at *
      generalize cntK W to l k = n at *
      clear hst
      have e1 : decide (W < cut) = true ∨ decide (W < cut) = false := by cases decide (W < cut) <;> simp
      have e2 : ((k : Int) == to) = true ∨ ((k : Int) == to) = false := by cases ((k : Int) == to) <;> simp
      have e3 : ((oth : Int) == to) = true ∨ ((oth : Int) == to) = false := by cases ((oth : Int) == to) <;> simp
      rcases e1 with h5 | h5 <;> rcases e2 with h6 | h6 <;> rcases e3 with h7 | h7
      all_goals
        have h5' := h5
        have h6' := h6
        have h7' := h7
        simp at h5' h6' h7'
        simp only [h5', h6', h7', if_true, if_false, Nat.not_lt.2 ‹_›] at hsn
        have Hsn := Lib.hid hsn
        have H5 := Lib.hid h5'
        clear hsn h5' h6' h7'
        go_wp2_with fail
        go_round
        case rel => exact ⟨k + 1, by omega, by go_num, by rw [Hsn.out]; first | done | (go_num; done) | (have := H5.out; simp only [wrap_u64]; first | omega | (congr 1; omega) | (congr 1; congr 1; omega))⟩
        case measure => simp [intOf]; omega
    · obtain rfl : k = l.length := by omega
      go_wp2_with fail
      go_ret
      exact ⟨rfl, rfl⟩
end Go.Proofs.Yteakeefocnjlhaa
