/- palmerlaw06.does: any act; rows of acts. -/
import Derived.Test.YtpoicbhbkabllaaDoes0
import Derived.Test.YtpoicbhbkabllaaDoes1
import Derived.Test.YtpoicbhbkabllaaDoes2
import Derived.Test.YtpoicbhbkabllaaDoes3
import Derived.Test.YtpoicbhbkabllaaDoes4
import Derived.Test.YtpoicbhbkabllaaDoes5
import Derived.Test.YtpoicbhbkabllaaDoes6
import Derived.Test.YtpoicbhbkabllaaIn
namespace Go.Proofs.Ytpoicbhbkabllaa
set_option linter.unusedSimpArgs false
set_option linter.unusedVariables false
set_option maxRecDepth 100000
open Go.RowKit

theorem does_any (w : World) (B : Nat) (X O : Nat → Prop) (g : Nat) (d : DState) (m : RD) (v : Value) (a : ActS) (hn : -9223372036854775808 ≤ a.n ∧ a.n ≤ 9223372036854775807) (hkp : a.keep < 18446744073709551616) (htn : a.torn < 18446744073709551616) (hB : B ≤ w.heap.size)
    (hX : ∀ k, X k → k < w.heap.size) (hO : ∀ k, O k → X k) (hd : DK B X w g d) (hv : RDV w O v m) (hr : RelD d m) (hw : d.wt.length ≤ 1000) (hm : m.made.length + m.wait.length ≤ 1000) :
    Calls Try.prog 23 #[.pointer (some ⟨g, 0, none⟩), v, .agg (encA a).toArray] w fun e w' => ∃ v', e = .returned (.tuple #[.bool true, v']) ∧ DoesPost B X O w g (actD d a) (actR m a) v' w' := by
  by_cases h0 : a.kind = 0
  · exact does0 w B X O g d m v a h0 hn hkp htn hB hX hO hd hv hr hw hm
  by_cases h1 : a.kind = 1
  · exact does1 w B X O g d m v a h1 hn hkp htn hB hX hO hd hv hr hw hm
  by_cases h2 : a.kind = 2
  · exact does2 w B X O g d m v a h2 hn hkp htn hB hX hO hd hv hr hw hm
  by_cases h3 : a.kind = 3
  · exact does3 w B X O g d m v a h3 hn hkp htn hB hX hO hd hv hr hw hm
  by_cases h4 : a.kind = 4
  · exact does4 w B X O g d m v a h4 hn hkp htn hB hX hO hd hv hr hw hm
  by_cases h5 : a.kind = 5
  · exact does5 w B X O g d m v a h5 hn hkp htn hB hX hO hd hv hr hw hm
  exact does6 w B X O g d m v a ⟨h0, h1, h2, h3, h4, h5⟩ hn hkp htn hB hX hO hd hv hr hw hm

def actOk (a : ActS) : Prop := (-9223372036854775808 ≤ a.n ∧ a.n ≤ 9223372036854775807) ∧ a.keep < 18446744073709551616 ∧ a.torn < 18446744073709551616
def cAct : Cdc ActS := Cdc.flat 7 encA actOk (fun _ => rfl) (fun a u hu => by
  simp [encA] at hu
  rcases hu with rfl | rfl | rfl | rfl | rfl | rfl | rfl <;> rfl)
abbrev ByAct (w : World) (B : Nat) (v : Value) (l : List ActS) : Prop := RowOn cAct w (fun k => k < B) (fun _ => True) v l
theorem ByAct.below {w w' : World} {B : Nat} {v : Value} {l : List ActS} (h : ByAct w B v l) (hb : Below B w w') : ByAct w' B v l := by
  obtain ⟨A, c, h1, h2, h3, h4⟩ := h
  refine ⟨A, c, h1, h2, h3, fun hn => ?_⟩
  obtain ⟨ad, e, hb', hc⟩ := h4 hn
  refine ⟨ad, e, hb', fun i x hx => ?_⟩
  obtain ⟨cs, ha, hcs⟩ := hc i x hx
  exact ⟨cs, ha, fun j u hu => (hb.cell (by rw [add_block]; exact hb')).trans (hcs j u hu)⟩
theorem InC.acts {w : World} {v : Value} (h : InC w 39 [v]) : ∃ l, ByAct w w.heap.size v l := by
  obtain ⟨v', xs, e, hr⟩ := h.row (C := cAct) Try.underlying39 (by kernel_rfl) (by decide) fun cs hc => by
    obtain ⟨hl, hf⟩ := hc.fields Try.underlying47 (by kernel_rfl) (by kernel_rfl)
    obtain ⟨u0, h0, g0⟩ := hf 0 _ rfl
    obtain ⟨u1, h1, g1⟩ := hf 1 _ rfl
    obtain ⟨u2, h2, g2⟩ := hf 2 _ rfl
    obtain ⟨u3, h3, g3⟩ := hf 3 _ rfl
    obtain ⟨u4, h4, g4⟩ := hf 4 _ rfl
    obtain ⟨u5, h5, g5⟩ := hf 5 _ rfl
    obtain ⟨u6, h6, g6⟩ := hf 6 _ rfl
    obtain ⟨n0, e0, k0⟩ := InC.i64 (S := fun _ => True) Try.underlying3 g0
    obtain ⟨n1, e1, k1⟩ := InC.i64 (S := fun _ => True) Try.underlying3 g1
    obtain ⟨n2, e2, k2⟩ := InC.i64 (S := fun _ => True) Try.underlying3 g2
    obtain ⟨n3, e3, k3⟩ := InC.u8 (S := fun _ => True) Try.underlying5 g3
    obtain ⟨n4, e4, k4⟩ := InC.cbool (S := fun _ => True) Try.underlying4 g4
    obtain ⟨n5, e5, k5⟩ := InC.u64 (S := fun _ => True) Try.underlying33 g5
    obtain ⟨n6, e6, k6⟩ := InC.u64 (S := fun _ => True) Try.underlying33 g6
    simp [b8] at e0 e1 e2 e3 e4 e5 e6
    subst e0; subst e1; subst e2; subst e3; subst e4; subst e5; subst e6
    match cs, hl with
    | [c0, c1, c2, c3, c4, c5, c6], _ =>
      injection h0 with h0
      injection h1 with h1
      injection h2 with h2
      injection h3 with h3
      injection h4 with h4
      injection h5 with h5
      injection h6 with h6
      subst h0; subst h1; subst h2; subst h3; subst h4; subst h5; subst h6
      exact ⟨⟨n0, n1, n2, n3, n4, n5.toNat, n6.toNat⟩, rfl, k2, u64_lt n5, u64_lt n6⟩
  injection e with e
  subst e
  exact ⟨xs, hr.mono (fun _ h => h) (fun _ _ => trivial)⟩
end Go.Proofs.Ytpoicbhbkabllaa
