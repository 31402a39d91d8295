/- Rows of arcs; gaps.Sum, gaps.May, and the document's. -/
import Derived.Test.YteakeefocnjlhaaGapsPure
import Derived.Test.YteakeefocnjlhaaVarRd
import Derived.Test.YteakeefocnjlhaaIn
import Derived.RegionTactic
import Derived.ChangeAlike
namespace Go.Proofs.Yteakeefocnjlhaa
set_option linter.unusedSimpArgs false
set_option linter.unusedVariables false
open Go.RowKit

def cArc : Cdc GArc := Cdc.flat 2 (fun a => [.int .u32 (a.to.toNat : Int), .int .u32 (a.wt.toNat : Int)]) (fun _ => True) (fun _ => rfl) (fun x u hu => by
  simp at hu
  rcases hu with rfl | rfl <;> rfl)
theorem infoArc : (Try.prog.info? 38).map (fun i => (i.zero, i.size, i.bytes)) = some (some (.agg #[.int .u32 0, .int .u32 0]), cArc.n, 8) := by kernel_rfl
theorem InC.arcs' {w : World} {cs : List Value} (h : InC w 32 cs) : ∃ v xs, cs = [v] ∧ RowOn cArc w (fun k => k < w.heap.size) (fun k => k < w.heap.size) v xs :=
  h.row (C := cArc) Try.underlying32 (by kernel_rfl) (by decide) fun cs hc => by
    obtain ⟨hl, hf⟩ := hc.fields Try.underlying38 (by kernel_rfl) (by kernel_rfl)
    obtain ⟨u0, h0, g0⟩ := hf 0 _ rfl
    obtain ⟨u1, h1, g1⟩ := hf 1 _ rfl
    obtain ⟨n0, e0, k0⟩ := InC.u32 (S := fun _ => True) Try.underlying33 g0
    obtain ⟨n1, e1, k1⟩ := InC.u32 (S := fun _ => True) Try.underlying33 g1
    simp at e0 e1
    subst e0; subst e1
    match cs, hl with
    | [c0, c1], _ =>
      injection h0 with h0
      injection h1 with h1
      subst h0; subst h1
      exact ⟨⟨n0, n1⟩, rfl, trivial⟩
/-- the value reads as these arcs, in blocks below B -/
abbrev ByA (w : World) (B : Nat) (v : Value) (l : List GArc) : Prop := RowOn cArc w (fun k => k < B) (fun _ => True) v l
theorem ByA.below {w w' : World} {B : Nat} {v : Value} {l : List GArc} (h : ByA w B v l) (hb : Below B w w') : ByA w' B v l := by
  obtain ⟨A, c, h1, h2, h3, h4⟩ := h
  refine ⟨A, c, h1, h2, h3, fun hn => ?_⟩
  obtain ⟨ad, e, hb', hc⟩ := h4 hn
  refine ⟨ad, e, hb', fun i x hx => ?_⟩
  obtain ⟨cs, ha, hcs⟩ := hc i x hx
  exact ⟨cs, ha, fun j u hu => (hb.cell (by rw [add_block]; exact hb')).trans (hcs j u hu)⟩
theorem ByA.more {w : World} {B B' : Nat} {v : Value} {l : List GArc} (h : ByA w B v l) (hB : B ≤ B') : ByA w B' v l := h.mono (fun _ hk => by omega) fun _ hk => hk
theorem ByA.step {w w' : World} {v : Value} {l : List GArc} (h : ByA w w.heap.size v l) (hb : Below w.heap.size w w') : ByA w' w'.heap.size v l := (h.below hb).more hb.size
theorem InC.arcs {w : World} {v : Value} (h : InC w 32 [v]) : ∃ l, ByA w w.heap.size v l := by
  obtain ⟨v', xs, e, hr⟩ := h.arcs'
  injection e with e
  subst e
  exact ⟨xs, hr.mono (fun _ hk => hk) (fun _ _ => trivial)⟩
/-- the two cells of the k-th arc -/
theorem ByA.cells {w : World} {B : Nat} {A : Option Addr} {n c : Nat} {l : List GArc} (h : ByA w B (.slice A n c) l) (k : Nat) (hk : k < l.length) :
    ∃ ad, A = some ad ∧ ad.block < B ∧ w.cell? (ad.add (k * 2)) = some (.int .u32 ((l[k]).to.toNat : Int)) ∧ w.cell? { block := (ad.add (k * 2)).block, off := (ad.add (k * 2)).off + 1 } = some (.int .u32 ((l[k]).wt.toNat : Int)) := by
  obtain ⟨ad, cs, e, hb, ⟨rfl, _⟩, hc⟩ := h.at_ k l[k] (List.getElem?_eq_getElem hk)
  refine ⟨ad, e, hb, hc 0 _ rfl, ?_⟩
  have := hc 1 _ rfl
  rw [← add_add] at this
  have e2 : (ad.add (k * cArc.n)).add 1 = { block := (ad.add (k * 2)).block, off := (ad.add (k * 2)).off + 1 } := by simp [Addr.add, cArc, Cdc.flat]
  rw [← e2]
  exact this

set_option maxRecDepth 100000 in
set_option maxHeartbeats 800000 in
theorem gsum_any (w : World) (B : Nat) (v : Value) (l : List GArc) (hl : l.length ≤ 4294967296) (h : ByA w B v l) (hB : B ≤ w.heap.size) :
    Calls Try.prog 50 #[v] w fun e w' => e = .returned (.int .u64 (gsum l : Nat)) ∧ Below w.heap.size w w' := by
  obtain ⟨A, c, rfl, hc1, hc2⟩ := h.form
  unfold maxLen at hc2
  have hlt := fun k => gsum_lt (l.take k)
  have Hlt := Lib.hid hlt
  clear hlt
  go_enter Try.func50, Try.ntmps50
  go_wp2_with fail
  go_loopw [3, 8] (fun x i wr => ∃ k : Nat, k ≤ l.length ∧ i = .int .i64 k ∧ x = .int .u64 (gsum (l.take k) : Nat) ∧ Below w.heap.size w wr) (fun _ i _ => l.length - (intOf i).toNat)
  case atStart => exact ⟨0, by omega, rfl, rfl, Below.refl _ _⟩
  case round =>
    obtain ⟨k, hk, rfl, rfl, hbl⟩ := hrel
    by_cases hlt : k < l.length
    · obtain ⟨ad, rfl, hab, hx0, hx1⟩ := (h.below (hbl.mono hB)).cells k hlt
      have hsn := gsum_snoc l k hlt
      have h1 := Hlt.out k
      have h2 : (l.take k).length ≤ 4294967296 := by simp; omega
      have h3 : gsum (l.take k) ≤ 18446744069414584320 := by
        have := Nat.mul_le_mul_right 4294967295 h2
        omega
      have Hsn := Lib.hid hsn
      have hwt := u32_lt (l[k]).wt
      clear hsn h1 h2
      generalize l[k] = a at *
      generalize gsum (l.take k) = S at *
      go_wp2_with fail
      go_roundw
      case rel => exact ⟨k + 1, by omega, by go_num, by rw [Hsn.out]; go_num, hbl.trans ((balloc _ _).mono hbl.size)⟩
      case measure => simp [intOf]; omega
    · obtain rfl : k = l.length := by omega
      rw [List.take_length]
      go_wp2_with fail
      go_ret
      exact ⟨rfl, hbl⟩
end Go.Proofs.Yteakeefocnjlhaa
