/- The document's disks: how one lies in memory; zeros, last, New, deed, bit. -/
import Derived.Test.YtpoicbhbkabllaaDiskRel
import Derived.Test.YtpoicbhbkabllaaKp
import Derived.Test.YtpoicbhbkabllaaTail
namespace Go.Proofs.Ytpoicbhbkabllaa
set_option linter.unusedSimpArgs false
set_option linter.unusedVariables false
open Go.RowKit

def cRW : Cdc RW := Cdc.flat 2 (fun x => [.int .i64 x.1, .string (bst x.2)]) (fun x => x.2.length = 128) (fun _ => rfl) (fun x u hu => by simp at hu; rcases hu with rfl | rfl <;> rfl)
abbrev ByR (w : World) (O : Nat → Prop) (v : Value) (l : List RW) : Prop := RowOn cRW w O (fun _ => True) v l
theorem ByR.below {w w' : World} {O : Nat → Prop} {B : Nat} {v : Value} {l : List RW} (h : ByR w O v l) (hb : Below B w w') (hO : ∀ k, O k → k < B) : ByR w' O v l := by
  obtain ⟨A, c, h1, h2, h3, h4⟩ := h
  refine ⟨A, c, h1, h2, h3, fun hn => ?_⟩
  obtain ⟨ad, e, hb', hc⟩ := h4 hn
  refine ⟨ad, e, hb', fun i x hx => ?_⟩
  obtain ⟨cs, ha, hcs⟩ := hc i x hx
  exact ⟨cs, ha, fun j u hu => (hb.cell (by rw [add_block]; exact hO _ hb')).trans (hcs j u hu)⟩
theorem ByR.more {w : World} {O O' : Nat → Prop} {v : Value} {l : List RW} (h : ByR w O v l) (hB : ∀ k, O k → O' k) : ByR w O' v l := RowOn.mono h hB (fun _ hk => hk)
theorem ByR.chg {w w' : World} {O P : Nat → Prop} {v : Value} {l : List RW} (h : ByR w O v l) (hc : Chg P w w') (hO : ∀ k, O k → k < w.heap.size ∧ ¬ P k) : ByR w' O v l := by
  obtain ⟨A, c, h1, h2, h3, h4⟩ := h
  refine ⟨A, c, h1, h2, h3, fun hn => ?_⟩
  obtain ⟨ad, e, hb', hcc⟩ := h4 hn
  refine ⟨ad, e, hb', fun i x hx => ?_⟩
  obtain ⟨cs, ha, hcs⟩ := hcc i x hx
  exact ⟨cs, ha, fun j u hu => (World.cell?_of_block (hc.block _ (by rw [add_block]; exact (hO _ hb').1) (by rw [add_block]; exact (hO _ hb').2))).trans (hcs j u hu)⟩
theorem ByR.nil_ {w : World} {O : Nat → Prop} : ByR w O (.slice none 0 0) [] := RowOn.nil_
theorem ByR.ok {w : World} {O : Nat → Prop} {v : Value} {l : List RW} (h : ByR w O v l) : ∀ x ∈ l, x.2.length = 128 := by
  intro x hx
  obtain ⟨i, hi, rfl⟩ := List.mem_iff_getElem.1 hx
  obtain ⟨A, c, rfl, _, _⟩ := h.form
  obtain ⟨ad, cs, _, _, ⟨_, hk⟩, _⟩ := h.at_ i _ (List.getElem?_eq_getElem hi)
  exact hk
/-- the cells of the k-th -/
theorem ByR.cells {w : World} {O : Nat → Prop} {A : Option Addr} {n c : Nat} {l : List RW} (h : ByR w O (.slice A n c) l) (k : Nat) (hk : k < l.length) : n = l.length ∧ ∃ ad, A = some ad ∧ O ad.block ∧ w.cell? (ad.add (k * 2)) = some (.int .i64 (l[k]).1) ∧ w.cell? { block := (ad.add (k * 2)).block, off := (ad.add (k * 2)).off + 1 } = some (.string (bst (l[k]).2)) := by
  obtain ⟨ad, cs, e, hb, ⟨rfl, _⟩, hc⟩ := h.at_ k _ (List.getElem?_eq_getElem hk)
  refine ⟨(h.len_).1, ad, e, hb, hc 0 _ rfl, ?_⟩
  have := hc 1 _ rfl
  rw [← add_add] at this
  have e2 : (ad.add (k * cRW.n)).add 1 = { block := (ad.add (k * 2)).block, off := (ad.add (k * 2)).off + 1 } := by simp [Addr.add, cRW, Cdc.flat]; exact ⟨rfl, rfl⟩
  rw [e2] at this
  exact this
/-- the value v is a disk of the document's, its rows in blocks of O -/
def RDV (w : World) (O : Nat → Prop) (v : Value) (m : RD) : Prop := ∃ v1 v2, v = .agg #[.int .i64 m.count, .bool m.off, .int .i64 m.fuse, v1, v2] ∧ ByR w O v1 m.made ∧ ByR w O v2 m.wait ∧
  (-9223372036854775808 ≤ m.count ∧ m.count ≤ 9223372036854775807) ∧ (-9223372036854775808 ≤ m.fuse ∧ m.fuse ≤ 9223372036854775807)
section
variable {w w' : World} {O O' P : Nat → Prop} {v : Value} {m : RD}
theorem RDV.below {B : Nat} (h : RDV w O v m) (hb : Below B w w') (hO : ∀ k, O k → k < B) : RDV w' O v m := by
  obtain ⟨v1, v2, e, h1, h2, h3, h4⟩ := h
  exact ⟨v1, v2, e, h1.below hb hO, h2.below hb hO, h3, h4⟩
theorem RDV.chg (h : RDV w O v m) (hc : Chg P w w') (hO : ∀ k, O k → k < w.heap.size ∧ ¬ P k) : RDV w' O v m := by
  obtain ⟨v1, v2, e, h1, h2, h3, h4⟩ := h
  exact ⟨v1, v2, e, h1.chg hc hO, h2.chg hc hO, h3, h4⟩
theorem RDV.more (h : RDV w O v m) (hO : ∀ k, O k → O' k) : RDV w O' v m := by
  obtain ⟨v1, v2, e, h1, h2, h3, h4⟩ := h
  exact ⟨v1, v2, e, h1.more hO, h2.more hO, h3, h4⟩
end
/-- what a call has made, beside what there was -/
def Onew (O : Nat → Prop) (w w' : World) : Nat → Prop := fun k => O k ∨ (w.heap.size ≤ k ∧ k < w'.heap.size)
theorem lastR_len {l : List RW} (h : ∀ x ∈ l, x.2.length = 128) (i : Int) : ∀ b : List UInt8, b.length = 128 → (lastR l i b).length = 128 := by
  induction l with
  | nil => intro b hb; exact hb
  | cons x t ih =>
    intro b hb
    show (lastR t i (if x.1 = i then x.2 else b)).length = 128
    refine ih (fun y hy => h y (by simp [hy])) _ ?_
    split
    · exact h x (by simp)
    · exact hb
theorem zerosL_len : zerosL.length = 128 := by simp [zerosL]
theorem goodR_len {w : World} {O : Nat → Prop} {v : Value} {m : RD} (h : ByR w O v m.made) (i : Int) : (goodR m i).length = 128 := lastR_len h.ok i _ zerosL_len

set_option maxRecDepth 100000 in
set_option maxHeartbeats 1600000 in
theorem rzeros (w : World) : Calls Try.prog 74 #[] w fun e w' => e = .returned (.string (bst zerosL)) ∧ Below w.heap.size w w' := by
  have hmk : ∀ w : World, (Instr.makeSlice 30 (.int .i64 128) (.int .i64 128)).run Try.prog w = .ok (.slice (some ⟨w.heap.size, 0, none⟩) 128 128) (w.alloc (.cells (b8s zerosL).toArray 5)) := fun _ => by kernel_rfl
  have hby : By (w.alloc (.cells (b8s zerosL).toArray 5)) (w.heap.size + 1) (.slice (some ⟨w.heap.size, 0, none⟩) 128 128) zerosL := by
    have := By.new_ w zerosL (by simp [zerosL, maxLen])
    rwa [zerosL_len] at this
  have hc := conv8 hby
  clear hby
  generalize hz : b8s zerosL = Z at *
  generalize hz2 : bst zerosL = Z2 at *
  clear hz hz2
  go_enter Try.func74, Try.ntmps74
  go_wp2_with fail
  go_ret
  exact ⟨rfl, balloc w _⟩

set_option maxRecDepth 100000 in
set_option maxHeartbeats 1600000 in
theorem rlast (w : World) (O : Nat → Prop) (v : Value) (l : List RW) (i : Int) (b : List UInt8) (hl : l.length ≤ 1000000) (h : ByR w O v l) :
    Calls Try.prog 48 #[v, .int .i64 i, .string (bst b)] w fun e w' => e = .returned (.string (bst (lastR l i b))) ∧ w = w' := by
  obtain ⟨A, c, rfl, hc1, hc2⟩ := h.form
  unfold maxLen at hc2
  have H := Lib.hid h
  clear h
  go_enter Try.func48, Try.ntmps48
  go_wp2_with fail
  go_loop [2, 7, 10] (fun bv xv iv => ∃ k : Nat, k ≤ l.length ∧ iv = .int .i64 k ∧ bv = .string (bst (lastR (l.take k) i b))) (fun _ _ i => l.length - (intOf i).toNat)
  case atStart => exact ⟨0, by omega, rfl, rfl⟩
  case round =>
    obtain ⟨k, hk, rfl, rfl⟩ := hrel
    by_cases hlt : k < l.length
    · obtain ⟨_, ad, rfl, hab, k1, k2⟩ := H.out.cells k hlt
      have hsn := lastR_snoc (l.take k) (l[k]) i b
      have htk : l.take (k + 1) = l.take k ++ [l[k]] := by rw [List.take_add_one, List.getElem?_eq_getElem hlt]; rfl
      rw [← htk] at hsn
      clear htk
      generalize lastR (l.take k) i b = cur at *
      generalize l[k] = x at *
      obtain ⟨x1, x2⟩ := x
      simp only at k1 k2 hsn
      by_cases he : x1 = i
      · rw [if_pos he] at hsn
        have hd : (x1 == i) = true := by simp [he]
        have Hsn := Lib.hid hsn
        clear he hsn
        go_wp2_with fail
        go_round
        case rel => exact ⟨k + 1, by omega, by go_num, by rw [Hsn.out]⟩
        case measure => simp [intOf]; omega
      · rw [if_neg he] at hsn
        have hd : (x1 == i) = false := beq_eq_false_iff_ne.2 he
        have Hsn := Lib.hid hsn
        clear he hsn
        go_wp2_with fail
        go_round
        case rel => exact ⟨k + 1, by omega, by go_num, by rw [Hsn.out]⟩
        case measure => simp [intOf]; omega
    · obtain rfl : k = l.length := by omega
      rw [List.take_length]
      go_wp2_with fail
      go_ret
      exact ⟨rfl, rfl⟩

theorem testBit_div (n k : Nat) : n.testBit k = ((n / 2 ^ k) % 2 == 1) := by
  rw [Nat.testBit_eq_decide_div_mod_eq]
  rcases Nat.mod_two_eq_zero_or_one (n / 2 ^ k) with h | h <;> simp [h]
set_option maxRecDepth 100000 in
set_option maxHeartbeats 1600000 in
theorem rbit (w : World) (n i : Nat) (hn : n < 18446744073709551616) (hi : i ≤ 1000000) :
    Calls Try.prog 73 #[.int .u64 (n : Int), .int .i64 (i : Int)] w fun e w' => e = .returned (.bool (bitAt n i)) ∧ w = w' := by
  have hrem : (i : Int).tmod 64 = ((i % 64 : Nat) : Int) := by rw [Int.tmod_eq_emod_of_nonneg (by omega)]; rfl
  have hj : i % 64 < 64 := Nat.mod_lt _ (by decide)
  unfold bitAt
  rw [testBit_div]
  have hrem2 : (i : Int) % 64 = ((i % 64 : Nat) : Int) := rfl
  have hm : i % 64 ≤ i := Nat.mod_le _ _
  generalize i % 64 = j at *
  go_enter Try.func73, Try.ntmps73
  go_wp2_with fail
  go_loop [0, 5] (fun nv iv => ∃ k : Nat, k ≤ j ∧ iv = .int .i64 k ∧ nv = .int .u64 ((n / 2 ^ k : Nat) : Int)) (fun _ i => j - (intOf i).toNat)
  case atStart => exact ⟨0, by omega, rfl, by simp⟩
  case round =>
    obtain ⟨k, hk, rfl, rfl⟩ := hrel
    have hdk : n / 2 ^ (k + 1) = n / 2 ^ k / 2 := by rw [Nat.pow_succ, Nat.div_div_eq_div_mul]
    have hle : n / 2 ^ k ≤ n := Nat.div_le_self _ _
    have Hdk := Lib.hid hdk
    clear hdk
    by_cases hlt : k < j
    · generalize n / 2 ^ k = q at *
      have hq1 : IntKind.u64.wrap ((q : Int).tdiv 2) = ((q / 2 : Nat) : Int) := by rw [wrap_u64, Int.tdiv_eq_ediv_of_nonneg (by omega)]; omega
      have hq2 : IntKind.u64.wrap ((q : Int) / 2) = ((q / 2 : Nat) : Int) := by rw [wrap_u64]; omega
      have hlt' : decide ((k : Int) < (j : Int)) = true := decide_eq_true (by omega)
      go_wp2_with fail
      go_round
      case rel => exact ⟨k + 1, by omega, by go_num, by rw [Hdk.out]; first | rfl | simp⟩
      case measure => simp [intOf]; omega
    · obtain rfl : k = j := by omega
      generalize hq : n / 2 ^ k = q at *
      have Hq := Lib.hid hq
      clear hq
      have hlt' : decide ((k : Int) < (k : Int)) = false := decide_eq_false (by omega)
      go_wp2_with fail
      go_ret
      refine ⟨?_, rfl⟩
      rcases Nat.mod_two_eq_zero_or_one q with h | h
      · have h2 : (q : Int) % 2 = 0 := by omega
        rw [Hq.out]
        simp [h, h2]
      · have h2 : (q : Int) % 2 = 1 := by omega
        rw [Hq.out]
        simp [h, h2]
end Go.Proofs.Ytpoicbhbkabllaa
