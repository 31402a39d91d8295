/- append, as an operation is run. -/
import Derived.Test.YtpoicbhbkabllaaCdc
namespace Go.Proofs.Ytpoicbhbkabllaa
set_option linter.unusedSimpArgs false
set_option linter.unusedVariables false
open Go.RowKit

/-- append(s, x...), s the call's own, x any readable row -/
theorem exec_appR {α : Type} {E : TypeId} {C : Cdc α} {w : World} {base : Nat} {O S : Nat → Prop} {v : Value} {xs : List α} {o : Oper} {ρ : Operand → Value} (s x : Operand) (t : TypeId)
    (ho : o.op = .call { callee := .builtin .append, args := #[s, x], argTypes := #[t, t] })
    (ht : Try.prog.underlying t = some (.slice E)) {z : Value} {bytes : Nat} (hinfo : (Try.prog.info? E).map (fun i => (i.zero, i.size, i.bytes)) = some (some z, C.n, bytes)) (hz2 : z.cells.size = C.n) (hn0 : 0 < C.n) (hb0 : bytes ≤ 256)
    {v2 : Value} {ys : List α} (hown : OwnR E C w base S v xs) (hrd : RowOn C w O S v2 ys) (hs : ρ s = v) (hx : ρ x = v2)
    (hsz : xs.length + ys.length ≤ 549755813888) (hbase : base ≤ w.heap.size) : ∃ v' w', (execOp ρ o).run Try.prog w = .ok (.value v') w' ∧ OwnR E C w' base S v' (xs ++ ys) ∧ Ext w w' v v' := by
  obtain ⟨i, hi, hz0, hz1, hby⟩ := info_parts hinfo
  obtain ⟨css, hl, h2, h3, h4⟩ := hown
  have hcl := OwnR.clen hl h3
  obtain ⟨A, c, rfl, hc1, hc2, hcell⟩ := hrd
  -- the cells of the source
  obtain ⟨dss, hdl, hd3, hdr⟩ : ∃ dss : List (List Value), dss.length = ys.length ∧ (∀ (i : Nat) (cs : List Value) (y : α), dss[i]? = some cs → ys[i]? = some y → C.at_ w S cs y) ∧
      ∃ B, Rd w B C.n A ys.length dss.flatten := by
    rcases Nat.eq_zero_or_pos ys.length with h0 | h0
    · have : ys = [] := List.eq_nil_of_length_eq_zero h0
      subst this
      exact ⟨[], rfl, fun i cs y h => by simp at h, 0, by simp [Rd]⟩
    · obtain ⟨ad, rfl, _, hc⟩ := hcell h0
      have hex : ∀ i : Fin ys.length, ∃ cs, C.at_ w S cs (ys[i.1]'i.2) ∧ ∀ (j : Nat) (u : Value), cs[j]? = some u → w.cell? (ad.add (i.1 * C.n + j)) = some u := fun i => hc i.1 _ (List.getElem?_eq_getElem i.2)
      refine ⟨List.ofFn fun i => (hex i).choose, by simp, ?_, ad.block + 1, ?_⟩
      · intro i cs y hcs hy
        obtain ⟨hi', rfl⟩ := List.getElem?_eq_some_iff.1 hy
        rw [List.getElem?_ofFn, dif_pos hi'] at hcs
        injection hcs with hcs
        rw [← hcs]
        exact (hex ⟨i, hi'⟩).choose_spec.1
      · have hcl2 : ∀ cs ∈ (List.ofFn fun i => (hex i).choose), cs.length = C.n := by
          intro cs hcs
          obtain ⟨i, rfl⟩ := List.mem_ofFn.1 hcs
          exact C.len (hex i).choose_spec.1
        refine ⟨by rw [flat_len C.n _ hcl2]; simp, fun _ => ⟨ad, rfl, Nat.lt_succ_self _, fun j u hu => ?_⟩⟩
        have hj : j < ys.length * C.n := by
          have := (List.getElem?_eq_some_iff.1 hu).1
          rw [flat_len C.n _ hcl2] at this
          simpa using this
        have hi' : j / C.n < ys.length := Nat.div_lt_of_lt_mul (by rw [Nat.mul_comm]; exact hj)
        have hj2 : j % C.n < C.n := Nat.mod_lt _ hn0
        have hdm : j / C.n * C.n + j % C.n = j := by rw [Nat.mul_comm]; exact Nat.div_add_mod j C.n
        have := flat_get C.n _ hcl2 (j / C.n) (hex ⟨j / C.n, hi'⟩).choose (j % C.n) (by rw [List.getElem?_ofFn, dif_pos hi']) hj2
        rw [hdm, hu] at this
        have := (hex ⟨j / C.n, hi'⟩).choose_spec.2 (j % C.n) u this.symm
        rwa [hdm] at this
  obtain ⟨B, hrd⟩ := hdr
  have hcl2 := OwnR.clen hdl hd3
  obtain ⟨v', w', hr, g2, g3, g5⟩ := run_append_rd (P := Try.prog) w base t o.type E i z C.n bytes ht hi hz0 hz1 hby hz2 hn0 v xs.length css.flatten h2 B A ys.length c dss.flatten hrd (by
      intro u hu
      obtain ⟨cs, hcs, hu⟩ := List.mem_flatten.1 hu
      obtain ⟨i, hi', rfl⟩ := List.mem_iff_getElem.1 hcs
      exact C.one (hd3 i _ (ys[i]'(by omega)) (List.getElem?_eq_getElem hi') (List.getElem?_eq_getElem (by omega))) u hu)
    (by unfold maxLen; omega) (by
      calc (xs.length + ys.length) * bytes ≤ 549755813888 * 256 := Nat.mul_le_mul hsz hb0
        _ ≤ _ := by decide) hbase
  have hSame : ∀ p : Addr, S p.block → w'.cell? p = w.cell? p := fun p hp => World.cell?_of_block (g3.block p.block (h4 _ hp).1 (fun e => (h4 _ hp).2 e.symm))
  refine ⟨v', w', ?_, ⟨css ++ dss, by simp [hl, hdl], by rw [List.length_append, List.flatten_append]; exact g2, ?_, ?_⟩, ⟨g3, ?_⟩⟩
  · unfold execOp
    simp only [ho, resolve, invoke, builtin, Sem.run_bind, Sem.run_pure, Result.andThen_ok, List.map_toArray, List.map_cons, List.map_nil, hs, hx, hr]
  · intro j cs x hc hx'
    refine C.keep ?_ hSame
    rcases Nat.lt_or_ge j xs.length with hj | hj
    · rw [List.getElem?_append_left (by omega)] at hc
      rw [List.getElem?_append_left hj] at hx'
      exact h3 j cs x hc hx'
    · rw [List.getElem?_append_right (by omega)] at hc
      rw [List.getElem?_append_right hj, ← hl] at hx'
      exact hd3 _ cs x hc hx'
  · intro k hk
    refine ⟨Nat.lt_of_lt_of_le (h4 k hk).1 g3.size, ?_⟩
    rcases g5 with g5 | g5
    · rw [g5]; exact (h4 k hk).2
    · rw [g5]; intro e; injection e with e; have := (h4 k hk).1; omega
  · rcases g5 with g5 | g5
    · exact .inl g5
    · exact .inr fun k hk => by rw [g5] at hk; injection hk with hk; omega

/-- append(s, y), one thing -/
theorem exec_app1R {α : Type} {E : TypeId} {C : Cdc α} {S : Nat → Prop} {o : Oper} {ρ : Operand → Value} {w : World} (s x : Operand) (t : TypeId)
    (ho : o.op = .call { callee := .builtin .append, args := #[s, x], argTypes := #[t, t] })
    (ht : Try.prog.underlying t = some (.slice E)) {z : Value} {bytes : Nat} (hinfo : (Try.prog.info? E).map (fun i => (i.zero, i.size, i.bytes)) = some (some z, C.n, bytes)) (hz2 : z.cells.size = C.n) (hn0 : 0 < C.n) (hb0 : bytes ≤ 256)
    {base : Nat} {v : Value} {xs : List α} {y : α} (cs : List Value) (hown : OwnR E C w base S v xs) (hy : C.at_ w S cs y) (hs : ρ s = v) (hx : ρ x = .slice (some ⟨w.heap.size, 0, none⟩) 1 1)
    (hsz : xs.length ≤ 549755813887) (hbase : base ≤ w.heap.size) : ∃ v' w', (execOp ρ o).run Try.prog (w.alloc (.cells cs.toArray E)) = .ok (.value v') w' ∧ OwnR E C w' base S v' (xs ++ [y]) ∧ Ext w w' v v' := by
  have hS : ∀ k, S k → k < w.heap.size := by obtain ⟨_, _, _, _, h4⟩ := hown; exact fun k hk => (h4 k hk).1
  have hrow : RowOn C (w.alloc (.cells cs.toArray E)) (fun k => k < w.heap.size + 1) S (.slice (some ⟨w.heap.size, 0, none⟩) 1 1) [y] := by
    refine ⟨_, 1, rfl, Nat.le_refl _, by simp [maxLen], fun _ => ⟨_, rfl, Nat.lt_succ_self _, fun i y' hi => ?_⟩⟩
    match i, hi with
    | 0, hi =>
      injection hi with hi
      subst hi
      refine ⟨cs, C.keep hy fun p hp => World.cell?_alloc_lt w _ p (hS _ hp), fun j u hu => ?_⟩
      rw [Nat.zero_mul, Nat.zero_add]
      exact World.news_of_block (heap_alloc_new w _) j u (by simpa using hu)
    | i + 1, hi => simp at hi
  obtain ⟨v', w', hr, h1, h2⟩ := exec_appR s x t ho ht hinfo hz2 hn0 hb0 (hown.alloc _) hrow hs hx (by simp; omega) (by simp; omega)
  exact ⟨v', w', hr, h1, h2.after (balloc w _) v rfl⟩
/-- a row of bytes, as an array's cells -/
theorem rowOn_load {w : World} {O S : Nat → Prop} {ad : Addr} {n c : Nat} {l : List UInt8} (h : RowOn c8 w O S (.slice (some ad) n c) l) : ∀ (j : Nat) (v : Value), (b8s l)[j]? = some v → w.cell? (ad.add j) = some v := by
  intro j v hv
  have hv' : (l[j]?).map b8 = some v := by rw [← hv]; simp [b8s]
  obtain ⟨x, hx, rfl⟩ := Option.map_eq_some_iff.1 hv'
  obtain ⟨ad', cs, e, _, ⟨rfl, _⟩, hc⟩ := h.at_ j x hx
  injection e with e
  subst e
  have := hc 0 _ rfl
  simpa [c8, Cdc.flat] using this
end Go.Proofs.Ytpoicbhbkabllaa
