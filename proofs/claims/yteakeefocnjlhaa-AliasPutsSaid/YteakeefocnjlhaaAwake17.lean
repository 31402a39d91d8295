/- palmerlaw17.awake returns true -/
import Derived.Test.YteakeefocnjlhaaPick2
namespace Go.Proofs.Yteakeefocnjlhaa
set_option linter.unusedSimpArgs false
set_option linter.unusedVariables false
open Go.RowKit

theorem OwnC.new_ (w : World) (l : List GCell) (hm : l.length ≤ maxLen) :
    OwnF 83 cCell (w.alloc (.cells ((l.map fun a => [Value.int .u64 (a.cut.toNat : Int), .int .u32 (a.oth.toNat : Int)]).flatten.toArray) 83)) w.heap.size (.slice (some ⟨w.heap.size, 0, none⟩) l.length l.length) l :=
  OwnR.new_ w _ (by simp) hm (fun i cs x hc hx => by
    rw [List.getElem?_map, hx] at hc
    injection hc with hc
    exact ⟨hc.symm, trivial⟩) fun _ h => h.elim
theorem OwnF.byC {w : World} {base : Nat} {v : Value} {l : List GCell} (h : OwnF 83 cCell w base v l) : ByC w w.heap.size v l := h.row.mono (fun _ hk => hk.2) fun _ h => h.elim

set_option maxRecDepth 100000 in
set_option maxHeartbeats 800000 in
theorem awake17 (w : World) : Calls Try.prog 45 #[] w fun e w' => e = .returned (.bool true) ∧ Below w.heap.size w w' := by
  have hrow := (OwnA.new_ w [⟨1, 1⟩, ⟨2, 3⟩] (by simp [maxLen])).byA
  have hb0 := balloc w (.cells (([⟨1, 1⟩, ⟨2, 3⟩] : List GArc).map fun a => [Value.int .u32 (a.to.toNat : Int), .int .u32 (a.wt.toNat : Int)]).flatten.toArray 38)
  have e0 : (([⟨1, 1⟩, ⟨2, 3⟩] : List GArc).map fun a => [Value.int .u32 (a.to.toNat : Int), .int .u32 (a.wt.toNat : Int)]).flatten.toArray = #[.int .u32 1, .int .u32 1, .int .u32 2, .int .u32 3] := rfl
  rw [e0] at hrow hb0
  have hrow2 := (OwnC.new_ (w.alloc (.cells #[.int .u32 1, .int .u32 1, .int .u32 2, .int .u32 3] 38)) [⟨2, 1⟩, ⟨4, 1⟩] (by simp [maxLen])).byC
  have hb1 := balloc (w.alloc (.cells #[.int .u32 1, .int .u32 1, .int .u32 2, .int .u32 3] 38)) (.cells (([⟨2, 1⟩, ⟨4, 1⟩] : List GCell).map fun a => [Value.int .u64 (a.cut.toNat : Int), .int .u32 (a.oth.toNat : Int)]).flatten.toArray 83)
  have e1 : (([⟨2, 1⟩, ⟨4, 1⟩] : List GCell).map fun a => [Value.int .u64 (a.cut.toNat : Int), .int .u32 (a.oth.toNat : Int)]).flatten.toArray = #[.int .u64 2, .int .u32 1, .int .u64 4, .int .u32 1] := rfl
  rw [e1] at hrow2 hb1
  have hb01 := bstep hb0 hb1
  have hl1 := hrow.step hb1
  have p1 : palias [⟨1, 1⟩, ⟨2, 3⟩] [⟨2, 1⟩, ⟨4, 1⟩] 1 = (0, true) := by decide +kernel
  have p2 : palias [⟨1, 1⟩, ⟨2, 3⟩] [⟨2, 1⟩, ⟨4, 1⟩] 2 = (1, true) := by decide +kernel
  have p3 : ptotal [⟨1, 1⟩, ⟨2, 3⟩] = 8 := by decide +kernel
  have ha := fun W B x hx h h2 hB => palias_any W B B (.slice (some ⟨w.heap.size, 0, none⟩) 2 2) (.slice (some ⟨w.heap.size + 1, 0, none⟩) 2 2) [⟨1, 1⟩, ⟨2, 3⟩] [⟨2, 1⟩, ⟨4, 1⟩] x hx (by simp) (by simp) h h2 hB hB
  have ht := fun W B h hB => ptotal_any W B (.slice (some ⟨w.heap.size, 0, none⟩) 2 2) [⟨1, 1⟩, ⟨2, 3⟩] (by simp) h hB
  have Hl := Lib.hid hl1
  have Ht := Lib.hid (show ByC _ _ (.slice (some ⟨w.heap.size + 1, 0, none⟩) 2 2) [⟨2, 1⟩, ⟨4, 1⟩] from by simpa using hrow2)
  have Hb := Lib.hid hb01
  have Ha := Lib.hid ha
  have Htt := Lib.hid ht
  have P1 := Lib.hid p1
  have P2 := Lib.hid p2
  have P3 := Lib.hid p3
  clear hrow hb0 e0 hrow2 hb1 e1 hb01 hl1 p1 p2 p3 ha ht
  go_enter Try.func45, Try.ntmps45
  go_wp2_with fail
  have h1 := Ha.out _ _ 1 (by decide) Hl.out (ByC.more Ht.out (by simp)) (Nat.le_refl _)
  rw [P1.out] at h1
  refine h1.mono ?_
  rintro _ w1 ⟨rfl, hb1⟩
  go_wp2_with fail
  have h2 := Ha.out _ _ 2 (by decide) (Hl.out.step hb1) (ByC.step (ByC.more Ht.out (by simp)) hb1) (Nat.le_refl _)
  rw [P2.out] at h2
  refine h2.mono ?_
  rintro _ w2 ⟨rfl, hb2⟩
  go_wp2_with fail
  have h3 := Htt.out _ _ ((Hl.out.step hb1).step hb2) (Nat.le_refl _)
  rw [P3.out] at h3
  refine h3.mono ?_
  rintro _ w3 ⟨rfl, hb3⟩
  go_wp2_with fail
  go_ret
  exact ⟨rfl, bstep (bstep (bstep Hb.out hb1) hb2) hb3⟩
end Go.Proofs.Yteakeefocnjlhaa
