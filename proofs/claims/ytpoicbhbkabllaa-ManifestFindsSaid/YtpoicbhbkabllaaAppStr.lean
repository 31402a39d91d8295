/- append(b, s...): a string's bytes behind an own row. -/
import Derived.Test.YtpoicbhbkabllaaBytes
import Derived.Lib.AppendStr
namespace Go.Proofs.Ytpoicbhbkabllaa
set_option linter.unusedSimpArgs false
set_option linter.unusedVariables false
open Go.RowKit

theorem strCells_bst (l : List UInt8) : Lib.strCells (bst l) = b8s l := by simp [Lib.strCells, bst, b8s, b8]
theorem bst_size (l : List UInt8) : (bst l).size = l.length := rfl
theorem wpList_apps {ops : Array Oper} {rest : List Oper} {o : Oper} {a : Act} {w : World} {Q : Exit → Act → World → Prop} (hgd : o.guard = none) (s x : Operand)
    (ho : o.op = .call { callee := .builtin .append, args := #[s, x], argTypes := #[30, 9] })
    {base : Nat} {v : Value} {l : List UInt8} (l2 : List UInt8) (hown : Ow w base v l) (hs : a.eval s = v) (hx : a.eval x = .string (bst l2))
    (hsz : l.length + l2.length ≤ 140737488355328) (hbase : base ≤ w.heap.size)
    (h : ∀ v' w', Ow w' base v' (l ++ l2) → Ext w w' v v' → wpList Try.prog ops Q rest (a.put o.dst v') w') : wpList Try.prog ops Q (o :: rest) a w := by
  obtain ⟨i, hi, hz0, hz1, hz2⟩ := info_parts info8
  have hu8 := Try.underlying30
  have hust := Try.underlying9
  refine wpList_plain hgd fun K hK => ?_
  obtain ⟨v', w', hr, h2, h3, h4⟩ := Lib.run_append_own_string (P := Try.prog) w base 30 9 o.type 5 i hu8 hust hi hz0 hz1 hz2 v l.length (b8s l) hown (bst l2)
    (by rw [bst_size]; unfold maxLen; omega) (by rw [bst_size]; omega) hbase
  have hat : v'.ownBlock = v.ownBlock ∨ v'.ownBlock = some w.heap.size := by
    rcases hown.2 with ⟨rfl, hn⟩ | ⟨g, cap, cur, rfl, hbg, hg, hnc, hcm, hcs, htake⟩
    · by_cases hm : l2.length = 0
      · exact .inl (by rw [h4.2 ⟨rfl, hm⟩])
      · have hk := run_append_nil_string (P := Try.prog) w 30 9 o.type 5 i (.int .u8 0) hu8 hust hi hz0 (bst l2) (by rw [bst_size]; omega) (by rw [bst_size]; omega) (by rw [bst_size, hz2]; omega)
        rw [hr] at hk
        injection hk with hk1 _
        exact .inr (by rw [hk1]; rfl)
    · by_cases hroom : l.length + (bst l2).size ≤ cap
      · have hcs' : cur.size = cap := by simpa using hcs
        have hk := Lib.run_append_room_string (P := Try.prog) w 30 9 o.type 5 i hu8 hust hi hz1 g l.length cap cur hg (bst l2) hroom (by omega)
        rw [hr] at hk
        injection hk with hk1 _
        exact .inl (by rw [hk1]; rfl)
      · have holds : ∀ j u, (b8s l)[j]? = some u → w.cell? ((⟨g, 0, none⟩ : Addr).add j) = some u := hown.cells (g := g) rfl
        have hk := Lib.run_append_grow_string (P := Try.prog) w 30 9 o.type 5 i (.int .u8 0) hu8 hust hi hz0 ⟨g, 0, none⟩ l.length cap (b8s l) (by rw [hz1, b8s_length]; omega) holds (bst l2) (by omega) (by rw [bst_size]; omega)
          (by rw [hz2]; exact growslice_fits (by omega) (by rw [bst_size]; omega))
        rw [hr] at hk
        injection hk with hk1 _
        exact .inr (by rw [hk1]; rfl)
  unfold Oper.wp execOp
  simp only [ho, resolve, invoke, builtin, Sem.run_bind, Sem.run_pure, Result.andThen_ok, List.map_toArray, List.map_cons, List.map_nil, hs, hx, hr]
  refine hK _ _ (h v' w' ?_ ⟨h3, ?_⟩)
  · unfold Ow
    rw [List.length_append, b8s_append, ← strCells_bst l2]
    exact h2
  · rcases hat with h5 | h5
    · exact .inl h5
    · exact .inr fun k hk => by rw [h5] at hk; injection hk with hk; omega
end Go.Proofs.Ytpoicbhbkabllaa
