/- a draw is told back from its number (plain) -/
import Derived.Test.YteakeefocnjlhaaBack
namespace Go.Proofs.Yteakeefocnjlhaa
set_option linter.unusedSimpArgs false
set_option linter.unusedVariables false
open Go.RowKit

theorem one_to_one {l : List GArc} {t : List GCell} (h : mayOk l t = true) (hl : l.length ≤ 1048576) {x : Nat} (hx : x < ptotal l) :
    frontAt l (toP (gsum l) t x) + metC (gsum l) t (toP (gsum l) t x) x < ptotal l ∧ ivalN l (frontAt l (toP (gsum l) t x) + metC (gsum l) t (toP (gsum l) t x) x) = toP (gsum l) t x ∧
      bck l t (frontAt l (toP (gsum l) t x) + metC (gsum l) t (toP (gsum l) t x) x) = (x, true) := by
  obtain ⟨h1, h2, h3, h4⟩ := mayOk_parts h
  obtain ⟨hg, hW0, _, hW1⟩ := ptotal_pos hx
  have htl := (palias_ok h hx).2
  have hma := met_all h (by omega) hW1 _ htl
  have hfs := frontAt_succ l _ htl
  have hlt := metC_lt (gsum l) t (toP (gsum l) t x) x (gsum l * t.length) rfl (by rw [← h1, ← ptotal_eq hx]; exact hx)
  have hmo := frontAt_mono l (show toP (gsum l) t x + 1 ≤ l.length by omega)
  rw [frontAt_all, ← ptotal_eq hx] at hmo
  generalize hto : toP (gsum l) t x = to at *
  generalize hy : frontAt l to + metC (gsum l) t to x = y at *
  have hyt : y < ptotal l := by omega
  have hiv := ivalN_at l y to htl (by omega) (by omega)
  refine ⟨hyt, hiv, ?_⟩
  obtain ⟨x', q1, _, q3, q4, q5⟩ := bck_ok h hl hyt
  rw [hiv] at q4 q5
  have hxx : x' = x := by
    rcases Nat.lt_trichotomy x' x with c | c | c
    · have := metC_lt (gsum l) t to x' x q4 c
      omega
    · exact c
    · have := metC_lt (gsum l) t to x x' hto c
      omega
  rw [q1, hxx]
end Go.Proofs.Yteakeefocnjlhaa
