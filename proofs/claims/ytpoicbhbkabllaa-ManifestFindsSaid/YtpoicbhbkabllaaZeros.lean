/- append(s, make([]byte, n)...) onto an own row of bytes. No condition beyond the size. -/
import Derived.Test.YtpoicbhbkabllaaBytes
import Derived.Lib.AppendZerosOnto
namespace Go.Proofs.Ytpoicbhbkabllaa
set_option linter.unusedSimpArgs false
set_option linter.unusedVariables false
open Go.RowKit

theorem zeroCells8 (n : Nat) : Builtin.zeroCells (Value.cells (.int .u8 0)) n = (b8s (List.replicate n 0)).toArray := by
  apply Array.ext
  · simp [Builtin.zeroCells, Value.cells, b8s]
  · intro i h1 h2
    simp [Builtin.zeroCells, Value.cells, b8s, b8, Nat.mod_one]

theorem run_zero8 (w : World) (base : Nat) (v : Value) (l : List UInt8) (hown : Ow w base v l) (n : Nat) (ty : TypeId) (hsz : l.length + n ≤ 140737488355328) (hbase : base ≤ w.heap.size) :
    ∃ v' w', (Builtin.append_ #[30, 3] ty #[v, .int .i64 (n : Int)]).run Try.prog w = .ok v' w' ∧ Ow w' base v' (l ++ List.replicate n 0) ∧ Ext w w' v v' := by
  obtain ⟨i, hi, hz0, hz1, hz2⟩ := info_parts info8
  have hw : IntKind.i64.wrap (n : Int) = n := by rw [wrap_i64]; omega
  have hneg : ¬ ((n : Int) < 0) := by omega
  have h48i : ¬ (281474976710656 < (n : Int)) := by omega
  by_cases hn : n = 0
  · subst hn
    refine ⟨v, w, ?_, by simpa using hown, Ext.refl _ _⟩
    obtain ⟨A, c, rfl, hc, _, _⟩ := hown.form_
    cases A with
    | none => simp [Builtin.append_, run_underlying Try.underlying30, run_underlying Try.underlying3, sizeOf, typeInfo, hi, hz1, hz2, asInt, asIntOf, wrap_i64, hc]
    | some a => simp [Builtin.append_, run_underlying Try.underlying30, run_underlying Try.underlying3, sizeOf, typeInfo, hi, hz1, hz2, asInt, asIntOf, wrap_i64, hc, storeCells]
  · have h0 : 0 < n := by omega
    -- a new row
    have grows : ∀ (bs : Option Addr) (cap : Nat), cap < l.length + n → (Builtin.firstCells 1 l.length (.slice bs l.length cap)).run Try.prog w.drew = .ok (b8s l).toArray w.drew → v = .slice bs l.length cap →
        ∃ v' w', (Builtin.append_ #[30, 3] ty #[v, .int .i64 (n : Int)]).run Try.prog w = .ok v' w' ∧ Ow w' base v' (l ++ List.replicate n 0) ∧ Ext w w' v v' := by
      intro bs cap hcap hf hv
      have hr := Lib.run_append_grow_zeros (P := Try.prog) w 30 3 ty 5 i (.int .u8 0) .i64 .i64 Try.underlying30 Try.underlying3 hi hz0 bs l.length cap (b8s l) (by rw [hz1]; exact hf) n h0 (by omega) hcap (by omega) (by rw [hz2]; omega)
        (growslice_fits hcap (by rw [hz2]; omega))
      rw [← hv] at hr
      have hge := grownCap_ge w (l.length + n) cap 5
      have hcm := grownCap_le_maxLen w (l.length + n) cap 5 (by unfold maxLen; omega)
      generalize grownCap w (l.length + n) cap 5 = nc at *
      refine ⟨_, _, hr, ⟨by simp [b8s], .inr ⟨w.heap.size, nc, _, by simp, hbase, heap_alloc_new w.drew _, by simpa using hge, hcm, ?_, ?_⟩⟩, ⟨⟨rfl, rfl, rfl, by simp, fun k hk _ => heap_alloc_old w.drew _ hk⟩, .inr fun k hk => ?_⟩⟩
      · simp [Builtin.zeroCells, Value.cells, b8s]; omega
      · rw [zeroCells8, Array.toList_append, Array.toList_append, b8s_append]
        exact List.take_left' (by simp [b8s])
      · simp [Value.ownBlock] at hk
        omega
    rcases hown.2 with ⟨hv, hl0⟩ | ⟨g, cap, cur, hv, hb, hg, hnc, hcm, hcs, htake⟩
    · have hl : l = [] := List.eq_nil_of_length_eq_zero hl0
      subst hl
      exact grows none 0 (by simpa using h0) rfl hv
    · by_cases hroom : l.length + n ≤ cap
      · have hst := run_storeCells_at Try.prog g l.length 5 (b8s (List.replicate n 0)) 0 cur w hg (by simp [b8s]; omega) (b8s_one _)
        simp only [Nat.add_zero] at hst
        have hr : (Builtin.append_ #[30, 3] ty #[v, .int .i64 (n : Int)]).run Try.prog w = .ok (.slice (some ⟨g, 0, none⟩) (l.length + n) cap) (w.setRow g (cur.toList.take l.length ++ b8s (List.replicate n 0) ++ cur.toList.drop (l.length + (b8s (List.replicate n 0)).length)).toArray) := by
          rw [hv]
          simp [Builtin.append_, run_underlying Try.underlying30, run_underlying Try.underlying3, sizeOf, typeInfo, zeroValue, hi, hz0, hz1, hz2, asInt, asIntOf, hw, hneg, h48i, hroom, hn, zeroCells8, Addr.add_lit, hst]
        refine ⟨_, _, hr, ⟨by simp [b8s], .inr ⟨g, cap, _, by simp, hb, setRow_heap w g cur _ _ _ hg, by simpa using hroom, hcm, ?_, ?_⟩⟩, ⟨⟨rfl, rfl, rfl, by simp, fun k _ hk => setRow_other w g k _ (fun e => hk (by rw [hv]; simp [Value.ownBlock, e]))⟩, .inl (by rw [hv]; rfl)⟩⟩
        · simp [b8s]; omega
        · have e1 : cur.toList.take l.length = b8s l := by simpa using htake
          rw [e1]
          rw [List.take_append_of_le_length (by simp [b8s])]
          rw [List.take_of_length_le (by simp [b8s])]
          simp [b8s]
      · have hcells : ∀ j u, (b8s l)[j]? = some u → w.cell? ((⟨g, 0, none⟩ : Addr).add j) = some u := World.ownsRow.cells hown (g := g) (by rw [hv]; rfl)
        refine grows (some ⟨g, 0, none⟩) cap (by omega) ?_ hv
        have := run_loadCells_list (P := Try.prog) w.drew ⟨g, 0, none⟩ (b8s l) hcells
        simpa [Builtin.firstCells, b8s] using this

theorem wpList_zero8 {ops : Array Oper} {rest : List Oper} {o : Oper} {a : Act} {w : World} {Q : Exit → Act → World → Prop} (hgd : o.guard = none) (s x : Operand)
    (ho : o.op = .call { callee := .builtin .append, args := #[s, x], argTypes := #[30, 3] })
    {base : Nat} {v : Value} {l : List UInt8} (hown : Ow w base v l) (n : Nat) (hs : a.eval s = v) (hx : a.eval x = .int .i64 (n : Int))
    (hsz : l.length + n ≤ 140737488355328) (hbase : base ≤ w.heap.size)
    (h : ∀ v' w', Ow w' base v' (l ++ List.replicate n 0) → Ext w w' v v' → wpList Try.prog ops Q rest (a.put o.dst v') w') : wpList Try.prog ops Q (o :: rest) a w := by
  obtain ⟨v', w', hr, h2, h3⟩ := run_zero8 w base v l hown n o.type hsz hbase
  exact Lib.wpList_append_run w hgd s x _ _ ho v _ hs hx v' w' hr (h v' w' h2 h3)
end Go.Proofs.Ytpoicbhbkabllaa
