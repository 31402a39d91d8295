/- Rows of numbers in a block of one's own, with spare cells and an offset; slices.Insert at ints. -/
import Derived.Test.YteakeefocnjlhaaLays
import Derived.Test.YteakeefocnjlhaaBuildPure
namespace Go.Proofs.Yteakeefocnjlhaa
set_option linter.unusedSimpArgs false
set_option linter.unusedVariables false
open Go.RowKit

def RwAt (T : TypeId) (K : IntKind) (w : World) (base : Nat) (v : Value) (xs : List Nat) : Prop :=
  ∃ A c, v = .slice A xs.length c ∧ xs.length ≤ c ∧ c ≤ maxLen ∧ (∀ q, v.ownBlock = some q → base ≤ q ∧ q < w.heap.size) ∧
    (0 < c → ∃ b off cs, A = some ⟨b, off, none⟩ ∧ BoxAt T w b cs ∧ off + c ≤ cs.length ∧ ∀ (j x : Nat), xs[j]? = some x → cs[off + j]? = some (.int K (x : Int)))
section
variable {T : TypeId} {K : IntKind} {w w' : World} {base : Nat} {v : Value} {xs : List Nat}
theorem RwAt.keep {row : Option Nat} (h : RwAt T K w base v xs) (hg : w.grownBy w' row) (hne : ∀ q, v.ownBlock = some q → row ≠ some q) : RwAt T K w' base v xs := by
  obtain ⟨A, c, rfl, h1, h2, h3, h4⟩ := h
  refine ⟨A, c, rfl, h1, h2, fun q hq => ⟨(h3 q hq).1, Nat.lt_of_lt_of_le (h3 q hq).2 hg.size⟩, fun hc => ?_⟩
  obtain ⟨b, off, cs, rfl, hb, hl, hx⟩ := h4 hc
  exact ⟨b, off, cs, rfl, hb.grown hg (hne b rfl), hl, hx⟩
theorem RwAt.below_ (h : RwAt T K w base v xs) (hb : Below w.heap.size w w') : RwAt T K w' base v xs := h.keep (gbelow hb none) fun _ _ e => by cases e
theorem RwAt.alloc_ (h : RwAt T K w base v xs) (o : Obj) : RwAt T K (w.alloc o) base v xs := h.below_ (balloc w o)
theorem RwAt.drew_ (h : RwAt T K w base v xs) : RwAt T K w.drew base v xs := h
theorem RwAt.drewN_ (h : RwAt T K w base v xs) (n : Nat) : RwAt T K (w.drewN n) base v xs := h
theorem RwAt.blk (h : RwAt T K w base v xs) : ∀ q, v.ownBlock = some q → base ≤ q ∧ q < w.heap.size := by
  obtain ⟨A, c, rfl, h1, h2, h3, h4⟩ := h; exact h3
theorem RwAt.form (h : RwAt T K w base v xs) : ∃ A c, v = .slice A xs.length c ∧ xs.length ≤ c ∧ c ≤ maxLen := by
  obtain ⟨A, c, rfl, h1, h2, h3, h4⟩ := h; exact ⟨A, c, rfl, h1, h2⟩
/-- the cell of an element -/
theorem RwAt.at_ {A : Option Addr} {n c : Nat} (h : RwAt T K w base (.slice A n c) xs) (i x : Nat) (hx : xs[i]? = some x) :
    n = xs.length ∧ ∃ b off, A = some ⟨b, off, none⟩ ∧ base ≤ b ∧ b < w.heap.size ∧ w.cell? ⟨b, off + i, none⟩ = some (.int K (x : Int)) ∧ w.frozen? ⟨b, off + i, none⟩ = false := by
  obtain ⟨A', c', e, h1, h2, h3, h4⟩ := h
  injection e with e1 e2 e3
  subst e1; subst e3
  have hi : i < xs.length := (List.getElem?_eq_some_iff.1 hx).1
  obtain ⟨b, off, cs, rfl, hb, hl, hg⟩ := h4 (by omega)
  exact ⟨e2, b, off, rfl, (h3 b rfl).1, (h3 b rfl).2, hb.cell _ _ (hg i x hx), hb.frozen _⟩
/-- an element is written -/
theorem RwAt.put {b off n c : Nat} (h : RwAt T K w base (.slice (some ⟨b, off, none⟩) n c) xs) (i y : Nat) (hi : i < xs.length) :
    RwAt T K (w.setCell ⟨b, off + i, none⟩ (.int K (y : Int))) base (.slice (some ⟨b, off, none⟩) n c) (xs.set i y) := by
  obtain ⟨A', c', e, h1, h2, h3, h4⟩ := h
  injection e with e1 e2 e3
  subst e1; subst e3; subst e2
  obtain ⟨b', off', cs, e, hb, hl, hg⟩ := h4 (by omega)
  injection e with e; injection e with e1 e2 _
  subst e1; subst e2
  refine ⟨_, _, by rw [List.length_set], by rw [List.length_set]; exact h1, h2, fun q hq => ⟨(h3 q hq).1, by have := (h3 q hq).2; simp [World.setCell]; exact this⟩, fun hc => ⟨b, off, _, rfl, hb.put _ _, by rw [List.length_set]; exact hl, fun j x hx => ?_⟩⟩
  rw [List.getElem?_set] at hx ⊢
  by_cases hij : i = j
  · subst hij
    rw [if_pos rfl, if_pos hi] at hx
    injection hx with hx
    rw [if_pos rfl, if_pos (by omega), hx]
  · rw [if_neg hij] at hx
    rw [if_neg (by omega)]
    exact hg j x hx
end

/-! ### cells, one behind the other -/
def puts : List Value → Nat → List Value → List Value
  | cs, _, [] => cs
  | cs, o, v :: r => puts (cs.set o v) (o + 1) r
theorem puts_len : ∀ (vs : List Value) (cs : List Value) (o : Nat), (puts cs o vs).length = cs.length
  | [], _, _ => rfl
  | v :: r, cs, o => by rw [puts, puts_len r, List.length_set]
theorem puts_get : ∀ (vs : List Value) (cs : List Value) (o k : Nat), o + vs.length ≤ cs.length → (puts cs o vs)[k]? = if o ≤ k ∧ k < o + vs.length then vs[k - o]? else cs[k]?
  | [], cs, o, k, h => by
    rw [puts, if_neg]
    intro hh
    simp only [List.length_nil] at hh
    omega
  | v :: r, cs, o, k, h => by
    simp only [List.length_cons] at h ⊢
    rw [puts, puts_get r _ _ k (by rw [List.length_set]; omega)]
    by_cases h1 : o = k
    · subst h1
      rw [if_neg (by omega), if_pos (by omega), List.getElem?_set, if_pos rfl, if_pos (by omega), Nat.sub_self]
      first | done | rfl
    · by_cases h2 : o + 1 ≤ k ∧ k < o + 1 + r.length
      · rw [if_pos h2, if_pos (by omega), show k - o = (k - (o + 1)) + 1 from by omega, List.getElem?_cons_succ]
      · rw [if_neg h2, if_neg (by omega), List.getElem?_set, if_neg h1]
theorem BoxAt.setCells_ {T : TypeId} {b : Nat} : ∀ (vs : List Value) {w : World} {cs : List Value} (o : Nat), BoxAt T w b cs → BoxAt T (w.setCells b o vs) b (puts cs o vs)
  | [], _, _, _, h => h
  | v :: r, w, cs, o, h => BoxAt.setCells_ r (o + 1) (h.put o v)
theorem gsetCells (b : Nat) : ∀ (vs : List Value) (w : World) (o : Nat), w.grownBy (w.setCells b o vs) (some b)
  | [], w, _ => grefl w _
  | v :: r, w, o => gtrans (gset w ⟨b, o, none⟩ v) (gsetCells b r _ (o + 1))
theorem gdrew_ {w w' : World} {row : Option Nat} (h : w.grownBy w' row) : w.grownBy w'.drew row := gtrans h (gbelow ((Below.refl w'.heap.size w').drew) row)
theorem ins_get (xs : List Nat) (a j k : Nat) (ha : a ≤ xs.length) : (ins xs a j)[k]? = if k < a then xs[k]? else if k = a then some j else xs[k - 1]? := by
  unfold ins
  rw [List.getElem?_append, List.length_take, Nat.min_eq_left ha]
  split
  · rw [List.getElem?_take, if_pos (by assumption)]
  · split
    · subst_vars; simp
    · rw [show k - a = (k - 1 - a) + 1 from by omega, List.getElem?_cons_succ, List.getElem?_drop, show a + (k - 1 - a) = k - 1 from by omega]

def valsI (xs : List Nat) : List Value := xs.map fun (x : Nat) => Value.int .i64 (x : Int)
theorem valsI_one (xs : List Nat) : ∀ v ∈ valsI xs, v.oneCell' = true := by
  intro v hv
  simp [valsI] at hv
  obtain ⟨x, _, rfl⟩ := hv
  rfl
theorem valsI_get (xs : List Nat) (j : Nat) (v : Value) (h : (valsI xs)[j]? = some v) : ∃ x, xs[j]? = some x ∧ v = .int .i64 (x : Int) := by
  simp [valsI] at h
  obtain ⟨x, h1, h2⟩ := h
  exact ⟨x, h1, h2.symm⟩
theorem valsI_at (xs : List Nat) (j x : Nat) (h : xs[j]? = some x) : (valsI xs)[j]? = some (.int .i64 (x : Int)) := by simp [valsI, h]

theorem zc (n : Nat) : Builtin.zeroCells (Value.int .i64 0).cells n = (List.replicate n (Value.int .i64 0)).toArray := by
  apply Array.ext
  · simp [Builtin.zeroCells, Value.cells]
  · intro i h1 h2
    simp [Builtin.zeroCells, Value.cells, Nat.mod_one]

set_option maxRecDepth 100000 in
set_option maxHeartbeats 1600000 in
theorem insert_any (w : World) (base : Nat) (v : Value) (xs : List Nat) (a j vb : Nat) (ha : a ≤ xs.length) (hlen : xs.length ≤ 4294967296) (h : RwAt 3 .i64 w base v xs) (harg : BoxAt 3 w vb [.int .i64 (j : Int)]) (hvb : v.ownBlock ≠ some vb) (hbase : base ≤ w.heap.size) :
    Calls Try.prog 89 #[v, .int .i64 (a : Nat), .slice (some ⟨vb, 0, none⟩) 1 1] w fun e w' => ∃ v', e = .returned v' ∧ RwAt 3 .i64 w' base v' (ins xs a j) ∧ w.grownBy w' v.ownBlock ∧ (v'.ownBlock = v.ownBlock ∨ ∃ q, v'.ownBlock = some q ∧ w.heap.size ≤ q) := by
  obtain ⟨A, c, rfl, h1, h2, h3, h4⟩ := h
  have hvl : ([Value.int .i64 (j : Int)] : List Value).length = 1 := rfl
  have hcl : (valsI xs).length = xs.length := by simp [valsI]
  have h1v : ∀ u ∈ ([Value.int .i64 (j : Int)] : List Value), u.oneCell' = true := by simp [Value.oneCell']
  have hvs : ∀ k u, ([Value.int .i64 (j : Int)] : List Value)[k]? = some u → w.cell? ⟨vb, 0 + k, none⟩ = some u := fun k u hu => by rw [Nat.zero_add]; exact harg.cell k u hu
  have hil := ins_len xs a j ha
  have hbig : (xs.length + 1) * 8 ≤ 140737488355328 := by omega
  unfold maxLen at h2
  by_cases hroom : xs.length + 1 ≤ c
  · obtain ⟨b, off, cs, rfl, hb, hl, hg⟩ := h4 (by omega)
    have hsp : ∀ k, k < xs.length + 1 → (w.cell? ⟨b, off + k, none⟩).isSome = true := fun k hk => by
      rw [hb.cell (off + k) _ (List.getElem?_eq_getElem (by omega))]; rfl
    have hb3 := h3 b rfl
    by_cases hn : a = xs.length
    · subst hn
      refine (Any2.slices_Insert_int_end_room lays221 b off xs.length c vb 0 1 1 [.int .i64 (j : Int)] w (by omega) hroom (by omega) rfl (fun k hk => by rw [Nat.add_assoc]; exact hsp _ (by omega)) (fun k hk => hb.frozen _) hvs h1v).mono ?_
      rintro e w' ⟨rfl, rfl⟩
      refine ⟨_, rfl, ⟨_, _, by rw [hil], by rw [hil]; exact hroom, by unfold maxLen; exact h2, fun q hq => ⟨(h3 q hq).1, Nat.lt_of_lt_of_le (h3 q hq).2 (gsetCells b _ w _).size⟩, fun _ => ⟨b, off, _, rfl, hb.setCells_ _ _, by rw [puts_len]; exact hl, fun k x hx => ?_⟩⟩, gsetCells b _ w _, Or.inl rfl⟩
      rw [ins_get _ _ _ _ (Nat.le_refl _)] at hx
      rw [puts_get _ _ _ _ (by simp; omega)]
      simp only [List.length_cons, List.length_nil]
      by_cases hk : k < xs.length
      · rw [if_pos hk] at hx
        rw [if_neg (by omega)]
        exact hg k x hx
      · rw [if_neg hk] at hx
        by_cases hk2 : k = xs.length
        · subst hk2
          rw [if_pos rfl] at hx
          injection hx with hx
          rw [if_pos (by omega), Nat.sub_self, ← hx]
          rfl
        · rw [if_neg hk2, List.getElem?_eq_none (by omega)] at hx
          cases hx
    · have hsb : w.shape? b = some (3, cs.length) := by have := hb; unfold BoxAt at this; simp [World.shape?, this]
      have hsa : w.shape? vb = some (3, 1) := by have := harg; unfold BoxAt at this; simp [World.shape?, this]
      refine (Any2.slices_Insert_int_shift lays221 b off xs.length c a vb 0 1 1 (valsI xs) [.int .i64 (j : Int)] w (by omega) (by omega) hroom (by omega) (fun e => hvb (by rw [e]; rfl)) hcl rfl
        (fun k u hu => by obtain ⟨x, hx, rfl⟩ := valsI_get xs k u hu; exact hb.cell _ _ (hg k x hx)) hsp (fun k _ => hb.frozen _) hvs (valsI_one xs) h1v _ _ 1 cs.length hsa hsb (by omega) (harg.frozen _) (harg.frozen _)).mono ?_
      rintro e w' ⟨rfl, rfl⟩
      have hgr : w.grownBy ((w.drew.setCells b (off + (a + 1)) ((valsI xs).drop a)).setCells b (off + a) [.int .i64 (j : Int)]) (some b) := gtrans (gtrans (gdrew_ (grefl w _)) (gsetCells b _ w.drew _)) (gsetCells b _ _ _)
      have hdl : ((valsI xs).drop a).length = xs.length - a := by rw [List.length_drop, hcl]
      refine ⟨_, rfl, ⟨_, _, by rw [hil], by rw [hil]; exact hroom, by unfold maxLen; exact h2, fun q hq => ⟨(h3 q hq).1, Nat.lt_of_lt_of_le (h3 q hq).2 hgr.size⟩, fun _ => ⟨b, off, _, rfl, BoxAt.setCells_ _ _ (BoxAt.setCells_ (w := w.drew) _ _ hb), by rw [puts_len, puts_len]; exact hl, fun k x hx => ?_⟩⟩, hgr, Or.inl rfl⟩
      rw [ins_get _ _ _ _ ha] at hx
      rw [puts_get _ _ _ _ (by rw [puts_len]; simp; omega), puts_get _ _ _ _ (by rw [hdl]; omega), hdl]
      simp only [List.length_cons, List.length_nil]
      by_cases hk : k < a
      · rw [if_pos hk] at hx
        rw [if_neg (by omega), if_neg (by omega)]
        exact hg k x hx
      · rw [if_neg hk] at hx
        by_cases hk2 : k = a
        · subst hk2
          rw [if_pos rfl] at hx
          injection hx with hx
          rw [if_pos (by omega), Nat.sub_self, ← hx]
          rfl
        · rw [if_neg hk2] at hx
          have hkl : k - 1 < xs.length := (List.getElem?_eq_some_iff.1 hx).1
          rw [if_neg (by omega), if_pos (by omega), List.getElem?_drop, show a + (off + k - (off + (a + 1))) = k - 1 from by omega]
          exact valsI_at xs _ x hx
  · by_cases hn : a = xs.length
    · subst hn
      refine (Any2.slices_Insert_int_end_grow lays221 A xs.length c vb 0 1 1 (valsI xs) [.int .i64 (j : Int)] w (by omega) h1 (by omega) hbig hcl rfl (fun e => by
          rcases Nat.eq_zero_or_pos xs.length with h0 | h0
          · exact h0
          · obtain ⟨b, off, cs, e2, _⟩ := h4 (by omega)
            rw [e] at e2; cases e2) (fun ad e k u hu => by
          obtain ⟨x, hx, rfl⟩ := valsI_get xs k u hu
          have hk : k < xs.length := (List.getElem?_eq_some_iff.1 hx).1
          obtain ⟨b, off, cs, e2, hb, hl, hg⟩ := h4 (by omega)
          rw [e] at e2
          injection e2 with e2
          subst e2
          have := hb.cell _ _ (hg k x hx)
          rw [Addr.add_lit]
          exact this) hvs h1v).mono ?_
      rintro e w' ⟨rfl, rfl⟩
      have hG := grownCap_ge w (xs.length + 1) c 3
      have hG63 := grownCap_le_maxLen w (xs.length + 1) c 3 (by unfold maxLen; omega)
      rw [zc]
      have hne := BoxAt.new_ 3 w.drew ((valsI xs ++ [Value.int .i64 (j : Int)]) ++ List.replicate (grownCap w (xs.length + 1) c 3 - (xs.length + 1)) (Value.int .i64 0))
      have hgr : w.grownBy (w.drew.alloc (.cells ((valsI xs ++ [Value.int .i64 (j : Int)]).toArray ++ (List.replicate (grownCap w (xs.length + 1) c 3 - (xs.length + 1)) (Value.int .i64 0)).toArray) 3)) (Value.slice A xs.length c).ownBlock := gbelow (((Below.refl w.heap.size w).drew).alloc (Nat.le_refl _) _) _
      rw [List.append_toArray] at hgr ⊢
      refine ⟨_, rfl, ⟨_, _, by rw [hil]; rfl, by rw [hil]; exact hG, hG63, fun q hq => ?_, fun _ => ⟨w.heap.size, 0, _, rfl, hne, ?_, fun k x hx => ?_⟩⟩, hgr, Or.inr ⟨w.heap.size, rfl, Nat.le_refl _⟩⟩
      · injection hq with hq
        subst hq
        exact ⟨hbase, by simp⟩
      · simp [valsI]; omega
      · rw [ins_get _ _ _ _ (Nat.le_refl _)] at hx
        rw [Nat.zero_add, List.getElem?_append_left (by
          have hkx : k < xs.length + 1 := by
            by_cases hk : k < xs.length
            · omega
            · rw [if_neg hk] at hx
              by_cases hk2 : k = xs.length
              · omega
              · rw [if_neg hk2, List.getElem?_eq_none (by omega)] at hx; cases hx
          simp [valsI]; omega)]
        by_cases hk : k < xs.length
        · rw [if_pos hk] at hx
          rw [List.getElem?_append_left (by rw [hcl]; exact hk)]
          exact valsI_at xs _ x hx
        · rw [if_neg hk] at hx
          by_cases hk2 : k = xs.length
          · subst hk2
            rw [if_pos rfl] at hx
            injection hx with hx
            rw [List.getElem?_append_right (by rw [hcl]; omega), hcl, Nat.sub_self, ← hx]
            rfl
          · rw [if_neg hk2, List.getElem?_eq_none (by omega)] at hx
            cases hx
    · obtain ⟨b, off, cs, rfl, hb, hl, hg⟩ := h4 (by omega)
      refine (Any2.slices_Insert_int_grow lays221 b off xs.length c a vb 0 1 1 (valsI xs) [.int .i64 (j : Int)] w (by omega) (by omega) h1 (by omega) hbig hcl rfl
        (fun k u hu => by obtain ⟨x, hx, rfl⟩ := valsI_get xs k u hu; exact hb.cell _ _ (hg k x hx)) hvs (valsI_one xs) h1v).mono ?_
      rintro e w' ⟨rfl, rfl⟩
      have hG := grownCap_ge w (xs.length + 1) c 3
      have hG63 := grownCap_le_maxLen w (xs.length + 1) c 3 (by unfold maxLen; omega)
      have hgc : grownCap w (xs.length + 1) c (lays221_ren.t 3) = grownCap w (xs.length + 1) c 3 := rfl
      rw [hgc]
      generalize grownCap w (xs.length + 1) c 3 = G at *
      rw [zc, zc, List.append_toArray, List.append_toArray]
      have hdl : ((valsI xs).drop a).length = xs.length - a := by rw [List.length_drop, hcl]
      have htl : ((valsI xs).take a).length = a := by rw [List.length_take, hcl, Nat.min_eq_left ha]
      generalize hROW : (valsI xs).take a ++ List.replicate (xs.length + 1 - a) (Value.int .i64 0) ++ List.replicate (G - (xs.length + 1)) (Value.int .i64 0) = ROW
      have hRl : ROW.length = G := by rw [← hROW]; simp [htl]; omega
      have hne : BoxAt 3 (w.alloc (.cells ROW.toArray 3)).drew w.heap.size ROW := (BoxAt.new_ 3 w ROW)
      have hn1 := BoxAt.setCells_ [Value.int .i64 (j : Int)] a hne
      have hn2 := BoxAt.setCells_ ((valsI xs).drop a) (a + 1) (w := ((w.alloc (.cells ROW.toArray 3)).drew.setCells w.heap.size a [Value.int .i64 (j : Int)]).drew) hn1
      have hgr : w.grownBy ((((w.alloc (.cells ROW.toArray 3)).drew.setCells w.heap.size a [Value.int .i64 (j : Int)]).drew).setCells w.heap.size (a + 1) ((valsI xs).drop a)) (some b) :=
        gnew (gnew (gbelow ((balloc w (.cells ROW.toArray 3)).drew) (some b)) (gdrew_ (gsetCells w.heap.size [Value.int .i64 (j : Int)] _ a)) (fun i e => Or.inl (by injection e with e; omega))) (gsetCells w.heap.size _ _ _) (fun i e => Or.inl (by injection e with e; omega))
      refine ⟨_, rfl, ⟨_, _, by rw [hil], by rw [hil]; exact hG, hG63, fun q hq => ?_, fun _ => ⟨w.heap.size, 0, _, rfl, hn2, ?_, fun k x hx => ?_⟩⟩, hgr, Or.inr ⟨w.heap.size, rfl, Nat.le_refl _⟩⟩
      · injection hq with hq
        subst hq
        exact ⟨hbase, hn2.lt⟩
      · rw [puts_len, puts_len, hRl]; omega
      · rw [ins_get _ _ _ _ ha] at hx
        rw [Nat.zero_add, puts_get _ _ _ _ (by rw [puts_len, hdl, hRl]; omega), puts_get _ _ _ _ (by simp; omega), hdl]
        simp only [List.length_cons, List.length_nil]
        by_cases hk : k < a
        · rw [if_pos hk] at hx
          rw [if_neg (by omega), if_neg (by omega), ← hROW, List.append_assoc, List.getElem?_append_left (by omega), List.getElem?_take, if_pos hk]
          exact valsI_at xs _ x hx
        · rw [if_neg hk] at hx
          by_cases hk2 : k = a
          · subst hk2
            rw [if_pos rfl] at hx
            injection hx with hx
            rw [if_neg (by omega), if_pos (by omega), Nat.sub_self, ← hx]
            rfl
          · rw [if_neg hk2] at hx
            have hkl : k - 1 < xs.length := (List.getElem?_eq_some_iff.1 hx).1
            rw [if_pos (by omega), List.getElem?_drop, show a + (k - (a + 1)) = k - 1 from by omega]
            exact valsI_at xs _ x hx
end Go.Proofs.Yteakeefocnjlhaa
