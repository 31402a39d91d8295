/- (*alias.rests).next -/
import Derived.Test.YteakeefocnjlhaaBegin
namespace Go.Proofs.Yteakeefocnjlhaa
set_option linter.unusedSimpArgs false
set_option linter.unusedVariables false
open Go.RowKit

set_option maxRecDepth 100000 in
set_option maxHeartbeats 1600000 in
theorem next_any (w : World) (g : Nat) (W : Nat) (vl : Value) (rich : Int) (O S : Nat → Prop) (A : Option Addr) (n c : Nat) (p : Int) (ps : List Int) (hbx : BoxAt 117 w g [.int .u64 (W : Int), vl, .slice A n c, .int .i64 rich]) (hr : RowOn cInt w O S (.slice A n c) (p :: ps)) :
    Calls Try.prog 81 #[.pointer (some ⟨g, 0, none⟩)] w fun e w' => e = .returned (.int .i64 p) ∧ ∃ A' c', w' = w.setCell ⟨g, 2, none⟩ (.slice A' ps.length c') ∧ RowOn cInt w O S (.slice A' ps.length c') ps := by
  obtain ⟨rfl, hc1, hc2⟩ := hr.len_
  obtain ⟨ad, cs, rfl, hO, ⟨rfl, _⟩, hcs⟩ := hr.at_ 0 p rfl
  have hx := hcs 0 _ rfl
  have hy := hbx.cell 2 _ rfl
  have hf := hbx.frozen 2
  have hb := hr.back (k := 1) (by simp)
  rw [Nat.zero_mul, Nat.zero_add, show ad.add 0 = ad from by cases ad; simp [Addr.add]] at hx
  simp only [List.length_cons] at hc1 hb
  simp only [List.drop_succ_cons, List.drop_zero, Nat.add_sub_cancel] at hb
  have Hb := Lib.hid hb
  simp only [List.length_cons] at hy
  clear hb hcs hbx hr
  unfold maxLen at hc2
  have hcl : ps.length + 1 ≤ c := hc1
  by_cases h1 : c = 1
  · have hc1' : (c == 1) = true := by simpa using h1
    rw [if_pos h1, show c - 1 = 0 from by omega] at Hb
    go_enter Try.func81, Try.ntmps81
    go_wp2_with fail
    go_ret
    exact ⟨rfl, _, _, rfl, Hb.out⟩
  · have hc1' : (c == 1) = false := by simpa using h1
    rw [if_neg h1] at Hb
    go_enter Try.func81, Try.ntmps81
    go_wp2_with fail
    go_ret
    exact ⟨rfl, _, _, rfl, Hb.out⟩
end Go.Proofs.Yteakeefocnjlhaa
