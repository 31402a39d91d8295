/- palmerlaw04.awake returns true -/
import Derived.Test.YteakeefocnjlhaaGapsRef2
namespace Go.Proofs.Yteakeefocnjlhaa
set_option linter.unusedSimpArgs false
set_option linter.unusedVariables false
open Go.RowKit

theorem OwnA.new_ (w : World) (l : List GArc) (hm : l.length ≤ maxLen) :
    OwnF 38 cArc (w.alloc (.cells ((l.map fun a => [Value.int .u32 (a.to.toNat : Int), .int .u32 (a.wt.toNat : Int)]).flatten.toArray) 38)) w.heap.size (.slice (some ⟨w.heap.size, 0, none⟩) l.length l.length) l :=
  OwnR.new_ w _ (by simp) hm (fun i cs x hc hx => by
    rw [List.getElem?_map, hx] at hc
    injection hc with hc
    exact ⟨hc.symm, trivial⟩) fun _ h => h.elim
theorem OwnF.byA {w : World} {base : Nat} {v : Value} {l : List GArc} (h : OwnF 38 cArc w base v l) : ByA w w.heap.size v l := h.row.mono (fun _ hk => hk.2) fun _ h => h.elim

set_option maxRecDepth 100000 in
set_option maxHeartbeats 800000 in
theorem awake04 (w : World) : Calls Try.prog 26 #[] w fun e w' => e = .returned (.bool true) ∧ Below w.heap.size w w' := by
  have hrow := (OwnA.new_ w [⟨5, 1⟩, ⟨7, 2⟩] (by simp [maxLen])).byA
  have hb0 := balloc w (.cells (([⟨5, 1⟩, ⟨7, 2⟩] : List GArc).map fun a => [Value.int .u32 (a.to.toNat : Int), .int .u32 (a.wt.toNat : Int)]).flatten.toArray 38)
  have e0 : (([⟨5, 1⟩, ⟨7, 2⟩] : List GArc).map fun a => [Value.int .u32 (a.to.toNat : Int), .int .u32 (a.wt.toNat : Int)]).flatten.toArray = #[.int .u32 5, .int .u32 1, .int .u32 7, .int .u32 2] := rfl
  rw [e0] at hrow hb0
  have hgp : gput [⟨5, 1⟩, ⟨7, 2⟩] = [2, 5, 0, 1, 1] := by
    have h2 : vput 2 = [2] := vput_lt (by decide)
    have h5 : vput 5 = [5] := vput_lt (by decide)
    have h0 : vput 0 = [0] := vput_lt (by decide)
    have h1 : vput 1 = [1] := vput_lt (by decide)
    show vput 2 ++ (vput 5 ++ vput 0 ++ (vput 1 ++ vput 1 ++ [])) = _
    rw [h2, h5, h0, h1]
    rfl
  have hp := gapsput_any _ _ _ (.slice none 0 0) [] (Ow.nil_ _ _) _ _ (by decide) (by decide) hrow (Nat.le_refl _) (Nat.le_refl _) (by decide)
  rw [hgp, List.nil_append] at hp
  have hs : bst [2, 5, 0, 1, 1] = { data := #[2, 5, 0, 1, 1] } := rfl
  have Hp := Lib.hid hp
  clear hp hgp e0 hrow
  go_enter Try.func26, Try.ntmps26
  go_wp2_with fail
  refine Hp.out.mono ?_
  rintro _ w1 ⟨v1, rfl, hown1, hext1⟩
  have hc := conv8 hown1.by_
  rw [hs] at hc
  have hb1 := bstep hb0 (hext1.below (Nat.le_refl _) (by simp [Value.ownBlock]))
  clear hown1 hext1 hb0
  go_wp2_with fail
  go_ret
  exact ⟨rfl, hb1⟩
end Go.Proofs.Yteakeefocnjlhaa
