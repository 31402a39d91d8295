/- Rows of bytes: append, new rows, whole reads, as laws of the walk; slices.Clone and slices.Equal at bytes. The rows are readable slices. -/
import Derived.Test.YtpoicbhbkabllaaRows
import Derived.Test.YtpoicbhbkabllaaWords
import Derived.Test.YtpoicbhbkabllaaNum
namespace Go.Proofs.Ytpoicbhbkabllaa
set_option linter.unusedSimpArgs false
set_option linter.unusedVariables false
open Go.RowKit

/-! ### what an append onto an own row leaves -/
structure Ext (w w' : World) (v v' : Value) : Prop where
  gr : w.grownBy w' v.ownBlock
  at_ : v'.ownBlock = v.ownBlock ∨ ∀ k, v'.ownBlock = some k → w.heap.size ≤ k
theorem Ext.refl (w : World) (v : Value) : Ext w w v v := ⟨World.grownBy.refl _ _, .inl rfl⟩
theorem Ext.trans {a b c : World} {u v x : Value} (h : Ext a b u v) (k : Ext b c v x) : Ext a c u x := by
  refine ⟨⟨k.gr.os.trans h.gr.os, k.gr.tape.trans h.gr.tape, k.gr.output.trans h.gr.output, Nat.le_trans h.gr.size k.gr.size, fun i hi hne => ?_⟩, ?_⟩
  · refine (k.gr.block i (Nat.lt_of_lt_of_le hi h.gr.size) (fun e => ?_)).trans (h.gr.block i hi hne)
    rcases h.at_ with h1 | h1
    · exact hne (by rw [e, h1])
    · exact absurd (h1 i e.symm) (by omega)
  · rcases k.at_ with k1 | k1
    · rcases h.at_ with h1 | h1
      · exact .inl (k1.trans h1)
      · exact .inr fun i hi => h1 i (by rw [← k1]; exact hi)
    · exact .inr fun i hi => Nat.le_trans h.gr.size (k1 i hi)
theorem Ext.below {w w' : World} {v v' : Value} (h : Ext w w' v v') {B : Nat} (hB : B ≤ w.heap.size) (hv : ∀ k, v.ownBlock = some k → B ≤ k) : Below B w w' :=
  (Below.refl B w).grown h.gr hB hv
theorem Ext.after {a w w' : World} {v v' : Value} (h : Ext w w' v v') (hb : Below a.heap.size a w) (row : Value) (hv : v.ownBlock = row.ownBlock) : Ext a w' row v' := by
  refine ⟨⟨h.gr.os.trans hb.os, h.gr.tape.trans hb.tape, h.gr.output.trans hb.output, Nat.le_trans hb.size h.gr.size, fun i hi hne => ?_⟩, ?_⟩
  · exact (h.gr.block i (Nat.lt_of_lt_of_le hi hb.size) (by rw [hv]; exact hne)).trans (hb.block i hi)
  · rcases h.at_ with h1 | h1
    · exact .inl (h1.trans hv)
    · exact .inr fun k hk => Nat.le_trans hb.size (h1 k hk)
theorem Ext.then_ {w w' w'' : World} {v v' : Value} (h : Ext w w' v v') (hb : Below w'.heap.size w' w'') : Ext w w'' v v' :=
  ⟨⟨hb.os.trans h.gr.os, hb.tape.trans h.gr.tape, hb.output.trans h.gr.output, Nat.le_trans h.gr.size hb.size, fun i hi hne => (hb.block i (Nat.lt_of_lt_of_le hi h.gr.size)).trans (h.gr.block i hi hne)⟩, h.at_⟩

/-! ### own rows of bytes -/
theorem info8 : (Try.prog.info? 5).map (fun i => (i.zero, i.size, i.bytes)) = some (some (.int .u8 0), 1, 1) := by kernel_rfl
theorem size8 : (Try.prog.info? 5).map (·.size) = some 1 := by kernel_rfl
section
variable {w w' : World} {base B : Nat} {v : Value} {l : List UInt8}
theorem Ow.blk (h : Ow w base v l) : ∀ k, v.ownBlock = some k → base ≤ k ∧ k < w.heap.size := World.ownsRow.lt h
theorem Ow.keep (h : Ow w base v l) {row : Option Nat} (hg : w.grownBy w' row) (hne : v.ownBlock = none ∨ v.ownBlock ≠ row) : Ow w' base v l := World.ownsRow.kept h hg hne
theorem Ow.below_ (h : Ow w base v l) (hb : Below w.heap.size w w') : Ow w' base v l :=
  World.ownsRow.kept h (row := none) ⟨hb.os, hb.tape, hb.output, hb.size, fun k hk _ => hb.block k hk⟩ (by cases hv : v.ownBlock <;> simp)
theorem Ow.nil_ (w : World) (base : Nat) : Ow w base (.slice none 0 0) [] := World.ownsRow_nil _ _ _ _
theorem Ow.alloc (h : Ow w base v l) (o : Obj) : Ow (w.alloc o) base v l := World.ownsRow.alloc h o
theorem Ow.form (h : Ow w base v l) (hl : l ≠ []) : ∃ g cap, v = .slice (some ⟨g, 0, none⟩) l.length cap ∧ l.length ≤ cap ∧ cap ≤ maxLen ∧ base ≤ g ∧ g < w.heap.size := by
  obtain ⟨g, cap, hv, hb, hlt⟩ := World.ownsRow.form (size := 1) h (List.length_pos_iff.2 hl)
  rcases h.2 with ⟨rfl, _⟩ | ⟨g', cap', cur, hv', _, _, h1, h2, _⟩
  · cases hv
  · rw [hv] at hv'
    injection hv' with e1 e2 e3
    subst e3
    exact ⟨g, cap, hv, h1, h2, hb, hlt⟩
end

/-- a new row of bytes, written out -/
theorem By.new_ (w : World) (l : List UInt8) (hm : l.length ≤ maxLen) : By (w.alloc (.cells (b8s l).toArray 5)) (w.heap.size + 1) (.slice (some ⟨w.heap.size, 0, none⟩) l.length l.length) l :=
  ⟨_, _, rfl, Nat.le_refl _, hm, by simp [b8s_length], fun _ => ⟨_, rfl, by simp, fun j u hu => World.news_of_block (heap_alloc_new w _) j u (by simpa using hu)⟩⟩
theorem By.newF (w : World) (l : List UInt8) (hm : l.length ≤ maxLen) (fr : Nat × Nat) : By (w.alloc (.cells (b8s l).toArray 5 fr)) (w.heap.size + 1) (.slice (some ⟨w.heap.size, 0, none⟩) l.length l.length) l :=
  ⟨_, _, rfl, Nat.le_refl _, hm, by simp [b8s_length], fun _ => ⟨_, rfl, by simp, fun j u hu => World.news_of_block (heap_alloc_new w _) j u (by simpa using hu)⟩⟩
theorem Ow.new_ (w : World) (l : List UInt8) (hm : l.length ≤ maxLen) : Ow (w.alloc (.cells (b8s l).toArray 5)) w.heap.size (.slice (some ⟨w.heap.size, 0, none⟩) l.length l.length) l := by
  refine ⟨by simp [b8s_length], .inr ⟨w.heap.size, l.length, _, rfl, Nat.le_refl _, heap_alloc_new w _, Nat.le_refl _, hm, by simp [b8s_length], ?_⟩⟩
  exact List.take_of_length_le (by simp [b8s_length])

/-- append(s, x...), s the call's own, x any readable row -/
theorem wpList_app8 {ops : Array Oper} {rest : List Oper} {o : Oper} {a : Act} {w : World} {Q : Exit → Act → World → Prop} (hgd : o.guard = none) (s x : Operand)
    (ho : o.op = .call { callee := .builtin .append, args := #[s, x], argTypes := #[30, 30] })
    {base B : Nat} {v v2 : Value} {l l2 : List UInt8} (hown : Ow w base v l) (hby : By w B v2 l2) (hs : a.eval s = v) (hx : a.eval x = v2)
    (hsz : l.length + l2.length ≤ 140737488355328) (hbase : base ≤ w.heap.size)
    (h : ∀ v' w', Ow w' base v' (l ++ l2) → Ext w w' v v' → wpList Try.prog ops Q rest (a.put o.dst v') w') : wpList Try.prog ops Q (o :: rest) a w := by
  obtain ⟨i, hi, hz0, hz1, hz2⟩ := info_parts info8
  obtain ⟨A, c, rfl, _, _, hrd⟩ := hby
  refine wpList_plain hgd fun K hK => ?_
  obtain ⟨v', w', hr, h2, h3, h5⟩ := run_append_rd (P := Try.prog) w base 30 o.type 5 i (.int .u8 0) 1 1 Try.underlying30 hi hz0 hz1 hz2 rfl (by omega) v l.length (b8s l) hown B A l2.length c (b8s l2) hrd (b8s_one l2)
    (by unfold maxLen; omega) (by omega) hbase
  unfold Oper.wp execOp
  simp only [ho, resolve, invoke, builtin, Sem.run_bind, Sem.run_pure, Result.andThen_ok, List.map_toArray, List.map_cons, List.map_nil, hs, hx, hr]
  refine hK _ _ (h v' w' ?_ ⟨h3, ?_⟩)
  · unfold Ow
    rw [List.length_append, b8s_append]
    exact h2
  · rcases h5 with h5 | h5
    · exact .inl h5
    · exact .inr fun k hk => by rw [h5] at hk; injection hk with hk; omega

/-! ### bytes to a string -/
def bst (l : List UInt8) : ByteArray := ⟨l.toArray⟩
theorem bst_toList (l : List UInt8) : (bst l).toList = l := ByteArray.toList_mk l
theorem foldl_push8 : ∀ (ns : List UInt8) (s : ByteArray), (ns.map fun b => (b.toNat : Int)).foldl (fun r n => r.push (UInt8.ofNat n.toNat)) s = ⟨s.data ++ ns.toArray⟩ := by
  intro ns
  induction ns with
  | nil => intro s; simp
  | cons n ns ih =>
    intro s
    rw [List.map_cons, List.foldl_cons, ih]
    simp [ByteArray.push]
theorem conv8 {w : World} {B : Nat} {v : Value} {l : List UInt8} (h : By w B v l) : (convert 30 9 v).run Try.prog w = .ok (.string (bst l)) w := by
  obtain ⟨A, c, rfl, _, _, hr⟩ := h
  rw [run_convert_bytes_string w _ _ 5 A l.length c Try.underlying30 Try.underlying5 Try.underlying9]
  cases A with
  | none =>
    have h0 : l.length = 0 := by
      rcases Nat.eq_zero_or_pos l.length with h | h
      · exact h
      · obtain ⟨_, h, _⟩ := hr.ad h; cases h
    have hl : l = [] := List.eq_nil_of_length_eq_zero h0
    subst hl
    rfl
  | some ad =>
    have hc : ∀ j u, (b8s l)[j]? = some u → w.cell? (ad.add j) = some u := by
      intro j u hu
      rcases Nat.eq_zero_or_pos l.length with h | h
      · have hl : l = [] := List.eq_nil_of_length_eq_zero h
        subst hl
        simp [b8s] at hu
      · obtain ⟨ad', e, _, hc⟩ := hr.ad h
        injection e with e
        subst e
        exact hc j u hu
    have hl := run_loadCells_list (P := Try.prog) w ad (b8s l) hc
    rw [b8s_length] at hl
    have hm : b8s l = (l.map fun b => (b.toNat : Int)).map (Value.int .u8) := by simp [b8s, b8]
    rw [hm] at hl
    rw [run_bytesToString w ad l.length c (l.map fun b => (b.toNat : Int)) hl, foldl_push8]
    simp [bst, ByteArray.empty, ByteArray.emptyWithCapacity]
    rfl
theorem bst_eq (a b : List UInt8) : ((bst a).toList == (bst b).toList) = decide (a = b) := by rw [bst_toList, bst_toList, Bool.eq_iff_iff]; simp

theorem eqnil (t e : TypeId) (h : Try.prog.underlying t = some (.slice e)) (w : World) (A : Option Addr) (n c : Nat) : (binOp .eql t (.slice A n c) (.slice none 0 0)).run Try.prog w = .ok (.bool A.isNone) w := Lib.run_eql_slice_nil w t e A n c 0 0 h

set_option maxHeartbeats 400000 in
/-- slices.Clone at bytes: the same bytes in memory of one's own -/
theorem clone8 (w : World) (v : Value) (l : List UInt8) (hby : By w w.heap.size v l) (hsz : l.length ≤ 140737488355328) :
    Calls Try.prog 94 #[v] w fun e w' => ∃ v', e = .returned v' ∧ Ow w' w.heap.size v' l ∧ Below w.heap.size w w' := by
  have hby2 := hby.alloc (Nat.le_refl _) (.cells #[] 5)
  obtain ⟨A, c, rfl, hc1, hc2, hrd⟩ := hby
  have hn := eqnil 30 5 Try.underlying30
  cases A with
  | none =>
    have h0 : l.length = 0 := by
      rcases Nat.eq_zero_or_pos l.length with h | h
      · exact h
      · obtain ⟨_, h, _⟩ := hrd.ad h; cases h
    have hl : l = [] := List.eq_nil_of_length_eq_zero h0
    subst hl
    go_enter Try.func94, Try.ntmps94
    go_wp2
    go_ret
    exact ⟨_, rfl, Ow.nil_ _ _, Below.refl _ _⟩
  | some ad =>
    go_enter Try.func94, Try.ntmps94
    go_wp2_with (first
      | (at_builtin
         refine wpList_app8 rfl (.tmp 5) (.tmp 6) rfl (Ow.new_ w [] (Nat.zero_le _)) hby2 rfl rfl (by simpa using hsz) (by simp) ?_
         intro v1 w1 hown1 hext1))
    go_ret
    exact ⟨_, rfl, by simpa using hown1, ((Below.refl _ _).alloc (Nat.le_refl _) _).trans (hext1.below (by simp) (by simp [Value.ownBlock]))⟩

/-! ### reading and writing an own row -/
section
variable {w : World} {base g n cap : Nat} {l : List UInt8} {v : Value}
theorem Ow.cellAt (h : Ow w base (.slice (some ⟨g, 0, none⟩) n cap) l) (hn : n = l.length) (j : Nat) (hj : j < l.length) : w.cell? ⟨g, j, none⟩ = some (.int .u8 ((l[j]).toNat : Int)) := by
  subst hn
  rw [World.ownsRow.cellAt h j (by simpa using hj), b8s_get l j hj]
theorem Ow.cell_ (h : Ow w base (.slice (some ⟨g, 0, none⟩) n cap) l) (hn : n = l.length) (j : Nat) (b : UInt8) (hb : l[j]? = some b) : w.cell? ⟨g, j, none⟩ = some (.int .u8 (b.toNat : Int)) := by
  obtain ⟨hj, e⟩ := List.getElem?_eq_some_iff.1 hb
  rw [h.cellAt hn j hj, e]
theorem Ow.frozenAt (h : Ow w base (.slice (some ⟨g, 0, none⟩) n cap) l) (hn : n = l.length) (j : Nat) : w.frozen? ⟨g, j, none⟩ = false := by
  subst hn
  exact World.ownsRow.frozenAt h j
theorem Ow.put_ (h : Ow w base (.slice (some ⟨g, 0, none⟩) n cap) l) (hn : n = l.length) (j : Nat) (b : UInt8) :
    Ow (w.setCell ⟨g, j, none⟩ (.int .u8 (b.toNat : Int))) base (.slice (some ⟨g, 0, none⟩) n cap) (l.set j b) := by
  subst hn
  have := (World.ownsRow.stored h j (b8 b)).1
  unfold Ow
  rw [List.length_set, show b8s (l.set j b) = (b8s l).set j (b8 b) from by simp [b8s, List.map_set]]
  exact this
theorem Ow.drew (h : Ow w base v l) : Ow w.drew base v l := h
end

theorem Ow.form_ {w : World} {base : Nat} {v : Value} {l : List UInt8} (h : Ow w base v l) :
    ∃ A cap, v = .slice A l.length cap ∧ l.length ≤ cap ∧ cap ≤ maxLen ∧ (0 < l.length → ∃ g, A = some ⟨g, 0, none⟩ ∧ base ≤ g ∧ g < w.heap.size) := by
  rcases Nat.eq_zero_or_pos l.length with h0 | h0
  · obtain ⟨A, c, rfl, h1, h2, _⟩ := h.by_
    exact ⟨A, c, rfl, h1, h2, fun h => by omega⟩
  · obtain ⟨g, cap, rfl, h1, h2, h3, h4⟩ := h.form (fun e => by subst e; simp at h0)
    exact ⟨_, cap, rfl, h1, h2, fun _ => ⟨g, rfl, h3, h4⟩⟩

/-! ### cuts -/
theorem By.front_ {w : World} {B : Nat} {A : Option Addr} {n c : Nat} {l : List UInt8} (h : By w B (.slice A n c) l) {k : Nat} (hk : k ≤ l.length) : By w B (.slice A k c) (l.take k) := by
  obtain ⟨A', c', e, h1, h2, hr⟩ := h
  injection e with e1 e2 e3
  subst e1; subst e2; subst e3
  refine ⟨A, c, by simp [hk], by simp; omega, h2, ?_⟩
  have := hr.front hk
  simpa [b8s, List.map_take, hk] using this
theorem By.back_ {w : World} {B : Nat} {A : Option Addr} {n c : Nat} {l : List UInt8} (h : By w B (.slice A n c) l) {k : Nat} (hk : k ≤ l.length) :
    By w B (.slice (if c = k then A else A.map (·.add k)) (l.length - k) (c - k)) (l.drop k) := by
  obtain ⟨A', c', e, h1, h2, hr⟩ := h
  injection e with e1 e2 e3
  subst e1; subst e2; subst e3
  refine ⟨if c = k then A else A.map (·.add k), c - k, by simp, by simp; omega, by omega, ?_⟩
  have := hr.cut hk h1
  simpa [b8s, List.map_drop] using this
theorem By.len_ {w : World} {B : Nat} {A : Option Addr} {n c : Nat} {l : List UInt8} (h : By w B (.slice A n c) l) : n = l.length ∧ l.length ≤ c ∧ c ≤ maxLen := by
  obtain ⟨A', c', e, h1, h2, hr⟩ := h
  injection e with e1 e2 e3
  exact ⟨e2, by omega, by omega⟩

/-! ### what a law's frame tells of a slice of bytes that came in -/
theorem u8_of_wf {n : Int} (h : (Lit.int .u8 n).wf = true) : ∃ b : UInt8, n = (b.toNat : Int) := by
  have hb : 0 ≤ n ∧ n ≤ 255 := by
    simp [Lit.wf, IntKind.min, IntKind.max, IntKind.bits, IntKind.signed] at h
    omega
  refine ⟨UInt8.ofNat n.toNat, ?_⟩
  rw [UInt8.toNat_ofNat']
  omega
theorem u32_of_wf {n : Int} (h : (Lit.int .u32 n).wf = true) : ∃ b : UInt32, n = (b.toNat : Int) := by
  have hb : 0 ≤ n ∧ n ≤ 4294967295 := by
    simp [Lit.wf, IntKind.min, IntKind.max, IntKind.bits, IntKind.signed] at h
    omega
  refine ⟨UInt32.ofNat n.toNat, ?_⟩
  rw [UInt32.toNat_ofNat']
  omega
theorem u64_of_wf {n : Int} (h : (Lit.int .u64 n).wf = true) : ∃ b : UInt64, n = (b.toNat : Int) := by
  have hb : 0 ≤ n ∧ n ≤ 18446744073709551615 := by
    simp [Lit.wf, IntKind.min, IntKind.max, IntKind.bits, IntKind.signed] at h
    omega
  refine ⟨UInt64.ofNat n.toNat, ?_⟩
  rw [UInt64.toNat_ofNat']
  omega
theorem i64_of_wf {n : Int} (h : (Lit.int .i64 n).wf = true) : -9223372036854775808 ≤ n ∧ n ≤ 9223372036854775807 := by
  simp [Lit.wf, IntKind.min, IntKind.max, IntKind.bits, IntKind.signed] at h
  omega
theorem by_of_row {w : World} {a : Option Addr} {len cap : Nat} {zs : List Int}
    (h : (a = none ∧ len = 0 ∧ cap = 0 ∧ zs = []) ∨
      ∃ x, a = some x ∧ len ≤ cap ∧ cap ≤ maxLen ∧ zs.length = cap ∧ (∀ i, i < zs.length → w.cell? (x.add i) = some (.int .u8 (zs.getD i 0))) ∧ ∀ n ∈ zs, (Lit.int .u8 n).wf = true) :
    ∃ l : List UInt8, l.length = len ∧ By w w.heap.size (.slice a len cap) l := by
  rcases h with ⟨rfl, rfl, rfl, rfl⟩ | ⟨x, rfl, hlc, hcm, hz, hcell, hwf⟩
  · exact ⟨[], rfl, By.nil_⟩
  · refine ⟨(zs.take len).map fun n => UInt8.ofNat n.toNat, by simp; omega, some x, cap, by simp; omega, by simp; omega, hcm, ?_⟩
    refine ⟨by simp [b8s], fun hn => ⟨x, rfl, ?_, ?_⟩⟩
    · have h0 := hcell 0 (by simp at hn; omega)
      have := World.block_lt_of_cell? w (x.add 0) h0
      rwa [add_block] at this
    · intro j u hu
      simp only [b8s, List.map_map, List.getElem?_map, List.getElem?_take] at hu
      by_cases hj : j < len
      · rw [if_pos hj] at hu
        have hjz : j < zs.length := by omega
        rw [List.getElem?_eq_getElem hjz] at hu
        simp only [Option.map_some, Option.some.injEq] at hu
        rw [hcell j hjz, ← hu]
        have hd : zs.getD j 0 = zs[j] := by simp [hjz]
        rw [hd]
        obtain ⟨b, hb⟩ := u8_of_wf (hwf _ (List.getElem_mem hjz))
        rw [hb]
        simp [b8]
      · rw [if_neg hj] at hu
        simp at hu
end Go.Proofs.Ytpoicbhbkabllaa
