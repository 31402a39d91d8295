/- palmerref17.Remap -/
import Derived.Test.YteakeefocnjlhaaBelow17
namespace Go.Proofs.Yteakeefocnjlhaa
set_option linter.unusedSimpArgs false
set_option linter.unusedVariables false
open Go.RowKit

set_option maxRecDepth 100000 in
set_option maxHeartbeats 1600000 in
theorem rremap_any (w : World) (B : Nat) (v v2 : Value) (l : List GArc) (t : List GCell) (x : Nat) (hxt : x < ptotal l) (hm : mayOk l t = true) (hl : l.length ≤ 1048576) (h : ByA w B v l) (h2 : ByC w B v2 t) (hB : B ≤ w.heap.size) :
    Calls Try.prog 54 #[v, v2, .int .u64 (x : Int)] w fun e w' => e = .returned (.int .u64 ((frontAt l (toP (gsum l) t x) + metC (gsum l) t (toP (gsum l) t x) x : Nat) : Int)) ∧ Below w.heap.size w w' := by
  have hal := ralias17_any w B v v2 l t x hxt hm hl h h2 hB
  obtain ⟨A, c, rfl, hc1, hc2⟩ := h.form
  obtain ⟨A2, c2, rfl, hd1, hd2⟩ := h2.form
  unfold maxLen at hc2 hd2
  obtain ⟨hlt, hnb, hcs, hcn⟩ := mayOk_parts hm
  clear hnb hcn
  have hto := (palias_ok hm hxt).2
  obtain ⟨hg, hW0, hk0, hW1⟩ := ptotal_pos hxt
  have hpl : gsum l * l.length ≤ 2147483647 * 1048576 := Nat.mul_le_mul hW1 hl
  have hfa : frontAt l (toP (gsum l) t x) ≤ 1048576 * 2147483647 := Nat.mul_le_mul hl (Nat.le_trans (gsum_take_le l _) hW1)
  have hme := metC_le (gsum l) t (toP (gsum l) t x) x
  have hxb : x < 2147483647 * 1048576 := by rw [ptotal_eq hxt] at hxt; omega
  have hbe := fun w' hb => rbelow_any w' B (.slice A2 t.length c2) t (gsum l) (toP (gsum l) t x) x hW1 (by omega) (fun c hc => (hcs c hc).1) (by rw [← hlt, ← ptotal_eq hxt]; exact hxt) hb
  have hmul : IntKind.u64.wrap ((l.length : Int) * (gsum (l.take (toP (gsum l) t x)) : Int)) = (frontAt l (toP (gsum l) t x) : Int) := by
    rw [← Int.natCast_mul, show l.length * gsum (l.take (toP (gsum l) t x)) = frontAt l (toP (gsum l) t x) from rfl, wrap_u64]; omega
  have Hbe := Lib.hid hbe
  have Hal := Lib.hid hal
  have H1 := Lib.hid h
  have H2 := Lib.hid h2
  have Hfront := Lib.hid (h.front (k := toP (gsum l) t x) (by omega))
  have Hlt := Lib.hid hlt
  clear hbe hal h h2 hcs hxt hm hg hlt
  generalize metC (gsum l) t (toP (gsum l) t x) x = mm at *
  generalize frontAt l (toP (gsum l) t x) = ff at *
  generalize toP (gsum l) t x = to at *
  have htk : (l.take to).length = to := by rw [List.length_take]; omega
  have Htk := Lib.hid htk
  clear htk
  go_enter Try.func54, Try.ntmps54
  go_wp2_with fail
  refine Hal.out.mono ?_
  rintro _ w1 ⟨rfl, hb1⟩
  have hfr : ByA w1 B (.slice A to c) (l.take to) := ByA.below Hfront.out (hb1.mono hB)
  have Hfr := Lib.hid hfr
  have htc : to ≤ c := by omega
  have hsm := rgsum_any w1 B (.slice A to c) (l.take to) (by rw [Htk.out]; omega) hfr
  have Hsm := Lib.hid hsm
  have hrl : ByA w1 B (.slice A l.length c) l := ByA.below H1.out (hb1.mono hB)
  have Hs2 := Lib.hid (rgsum_any w1 B (.slice A l.length c) l (by omega) hrl)
  have Hb2 := Lib.hid (Hbe.out w1 (ByC.below H2.out (hb1.mono hB)))
  have Hb1 := Lib.hid hb1
  generalize gsum (l.take to) = gt at *
  clear hfr hsm hrl
  go_wp2_with fail
  refine Hsm.out.mono ?_
  rintro _ _ ⟨rfl, rfl⟩
  clear Hsm Hfr
  go_wp2_with fail
  refine Hs2.out.mono ?_
  rintro _ _ ⟨rfl, rfl⟩
  go_wp2_with fail
  refine Hb2.out.mono ?_
  rintro _ _ ⟨rfl, rfl⟩
  go_wp2_with fail
  go_ret
  exact ⟨by rw [Int.natCast_add]; rfl, Hb1.out⟩
end Go.Proofs.Yteakeefocnjlhaa
