/- Rows of anything: how a thing lies in cells (a codec), slices that read as a list, rows of the call's own; append, load and store laws. -/
import Derived.Test.YtpoicbhbkabllaaBytes
namespace Go.Proofs.Ytpoicbhbkabllaa
set_option linter.unusedSimpArgs false
set_option linter.unusedVariables false
open Go.RowKit

/-- how a thing lies in cells; S: the blocks in which what it leads to may be -/
structure Cdc (α : Type) where
  n : Nat
  at_ : World → (Nat → Prop) → List Value → α → Prop
  len : ∀ {w S cs x}, at_ w S cs x → cs.length = n
  one : ∀ {w S cs x}, at_ w S cs x → ∀ u ∈ cs, u.oneCell' = true
  keep : ∀ {w w' S cs x}, at_ w S cs x → (∀ p : Addr, S p.block → w'.cell? p = w.cell? p) → at_ w' S cs x
  mono : ∀ {w S S' cs x}, at_ w S cs x → (∀ k, S k → S' k) → at_ w S' cs x

/-- a thing without pointers -/
def Cdc.flat {α : Type} (n : Nat) (enc : α → List Value) (ok : α → Prop) (hl : ∀ x, (enc x).length = n) (h1 : ∀ x, ∀ u ∈ enc x, u.oneCell' = true) : Cdc α where
  n := n
  at_ := fun _ _ cs x => cs = enc x ∧ ok x
  len := fun h => by rw [h.1]; exact hl _
  one := fun h => by rw [h.1]; exact h1 _
  keep := fun h _ => h
  mono := fun h _ => h

/-- the slice value v reads as xs: its row in a block of O, what the elements lead to in blocks of S -/
def RowOn {α : Type} (C : Cdc α) (w : World) (O S : Nat → Prop) (v : Value) (xs : List α) : Prop :=
  ∃ A c, v = .slice A xs.length c ∧ xs.length ≤ c ∧ c ≤ maxLen ∧ (0 < xs.length → ∃ ad, A = some ad ∧ O ad.block ∧
    ∀ (i : Nat) (x : α), xs[i]? = some x → ∃ cs, C.at_ w S cs x ∧ ∀ (j : Nat) (u : Value), cs[j]? = some u → w.cell? (ad.add (i * C.n + j)) = some u)

section
variable {α β : Type} {C : Cdc α} {w w' : World} {O O' S S' : Nat → Prop} {v : Value} {xs : List α}
theorem RowOn.keep (h : RowOn C w O S v xs) (hO : ∀ p : Addr, O p.block → w'.cell? p = w.cell? p) (hS : ∀ p : Addr, S p.block → w'.cell? p = w.cell? p) : RowOn C w' O S v xs := by
  obtain ⟨A, c, h1, h2, h3, h4⟩ := h
  refine ⟨A, c, h1, h2, h3, fun hn => ?_⟩
  obtain ⟨ad, e, hb, hc⟩ := h4 hn
  refine ⟨ad, e, hb, fun i x hx => ?_⟩
  obtain ⟨cs, ha, hcs⟩ := hc i x hx
  exact ⟨cs, C.keep ha hS, fun j u hu => (hO _ (by rw [add_block]; exact hb)).trans (hcs j u hu)⟩
theorem RowOn.mono (h : RowOn C w O S v xs) (hO : ∀ k, O k → O' k) (hS : ∀ k, S k → S' k) : RowOn C w O' S' v xs := by
  obtain ⟨A, c, h1, h2, h3, h4⟩ := h
  refine ⟨A, c, h1, h2, h3, fun hn => ?_⟩
  obtain ⟨ad, e, hb, hc⟩ := h4 hn
  refine ⟨ad, e, hO _ hb, fun i x hx => ?_⟩
  obtain ⟨cs, ha, hcs⟩ := hc i x hx
  exact ⟨cs, C.mono ha hS, hcs⟩
theorem RowOn.nil_ : RowOn C w O S (.slice none 0 0) [] := ⟨none, 0, rfl, Nat.le_refl _, Nat.zero_le _, fun h => absurd h (by simp)⟩
theorem RowOn.form (h : RowOn C w O S v xs) : ∃ A c, v = .slice A xs.length c ∧ xs.length ≤ c ∧ c ≤ maxLen := by
  obtain ⟨A, c, h1, h2, h3, _⟩ := h
  exact ⟨A, c, h1, h2, h3⟩
theorem RowOn.len_ {A : Option Addr} {n c : Nat} (h : RowOn C w O S (.slice A n c) xs) : n = xs.length ∧ xs.length ≤ c ∧ c ≤ maxLen := by
  obtain ⟨A', c', e, h1, h2, _⟩ := h
  injection e with e1 e2 e3
  subst e3
  exact ⟨e2, h1, h2⟩
/-- the cells of one element -/
theorem RowOn.at_ {A : Option Addr} {n c : Nat} (h : RowOn C w O S (.slice A n c) xs) (i : Nat) (x : α) (hx : xs[i]? = some x) :
    ∃ ad cs, A = some ad ∧ O ad.block ∧ C.at_ w S cs x ∧ ∀ (j : Nat) (u : Value), cs[j]? = some u → w.cell? (ad.add (i * C.n + j)) = some u := by
  obtain ⟨A', c', e, h1, h2, h3⟩ := h
  injection e with e1 e2 e3
  subst e1
  obtain ⟨ad, ea, hb, hc⟩ := h3 (by have := (List.getElem?_eq_some_iff.1 hx).1; omega)
  obtain ⟨cs, ha, hcs⟩ := hc i x hx
  exact ⟨ad, cs, ea, hb, ha, hcs⟩
theorem RowOn.front {A : Option Addr} {n c : Nat} (h : RowOn C w O S (.slice A n c) xs) {k : Nat} (hk : k ≤ xs.length) : RowOn C w O S (.slice A k c) (xs.take k) := by
  obtain ⟨A', c', e, h1, h2, h3⟩ := h
  injection e with e1 e2 e3
  subst e1; subst e3
  refine ⟨A, c, by simp [hk], by simp; omega, h2, fun hn => ?_⟩
  obtain ⟨ad, ea, hb, hc⟩ := h3 (by simp at hn; omega)
  refine ⟨ad, ea, hb, fun i x hx => hc i x ?_⟩
  rw [List.getElem?_take] at hx
  split at hx
  · exact hx
  · cases hx
theorem RowOn.back {A : Option Addr} {n c : Nat} (h : RowOn C w O S (.slice A n c) xs) {k : Nat} (hk : k ≤ xs.length) :
    RowOn C w O S (.slice (if c = k then A else A.map (·.add (k * C.n))) (xs.length - k) (c - k)) (xs.drop k) := by
  obtain ⟨A', c', e, h1, h2, h3⟩ := h
  injection e with e1 e2 e3
  subst e1; subst e3
  refine ⟨if c = k then A else A.map (·.add (k * C.n)), c - k, by simp, by simp; omega, by omega, fun hn => ?_⟩
  simp only [List.length_drop] at hn
  obtain ⟨ad, rfl, hb, hc⟩ := h3 (by omega)
  rw [if_neg (by omega)]
  refine ⟨ad.add (k * C.n), rfl, by rw [add_block]; exact hb, fun i x hx => ?_⟩
  rw [List.getElem?_drop] at hx
  obtain ⟨cs, ha, hcs⟩ := hc _ x hx
  refine ⟨cs, ha, fun j u hu => ?_⟩
  rw [add_add, ← hcs j u hu]
  congr 2
  rw [Nat.add_mul, Nat.add_assoc]

/-- a slice as a thing of one cell -/
def Cdc.row (C : Cdc α) : Cdc (List α) where
  n := 1
  at_ := fun w S cs xs => ∃ v, cs = [v] ∧ RowOn C w S S v xs
  len := fun h => by obtain ⟨v, rfl, _⟩ := h; rfl
  one := fun h => by obtain ⟨v, rfl, h⟩ := h; obtain ⟨A, c, rfl, _⟩ := h; intro u hu; simp at hu; subst hu; rfl
  keep := fun h hk => by obtain ⟨v, e, h⟩ := h; exact ⟨v, e, h.keep hk hk⟩
  mono := fun h hk => by obtain ⟨v, e, h⟩ := h; exact ⟨v, e, h.mono hk hk⟩
/-- one thing behind another -/
def Cdc.pair (C : Cdc α) (D : Cdc β) : Cdc (α × β) where
  n := C.n + D.n
  at_ := fun w S cs x => ∃ c1 c2, cs = c1 ++ c2 ∧ C.at_ w S c1 x.1 ∧ D.at_ w S c2 x.2
  len := fun h => by obtain ⟨c1, c2, rfl, h1, h2⟩ := h; simp [C.len h1, D.len h2]
  one := fun h => by
    obtain ⟨c1, c2, rfl, h1, h2⟩ := h
    intro u hu
    rcases List.mem_append.1 hu with hu | hu
    · exact C.one h1 u hu
    · exact D.one h2 u hu
  keep := fun h hk => by obtain ⟨c1, c2, e, h1, h2⟩ := h; exact ⟨c1, c2, e, C.keep h1 hk, D.keep h2 hk⟩
  mono := fun h hk => by obtain ⟨c1, c2, e, h1, h2⟩ := h; exact ⟨c1, c2, e, C.mono h1 hk, D.mono h2 hk⟩
/-- the same, read as another type -/
def Cdc.map (C : Cdc α) (f : β → α) : Cdc β where
  n := C.n
  at_ := fun w S cs x => C.at_ w S cs (f x)
  len := fun h => C.len h
  one := fun h => C.one h
  keep := fun h hk => C.keep h hk
  mono := fun h hk => C.mono h hk

end

/-! ### lists of lists of one length -/
theorem flat_get {α : Type} (n : Nat) : ∀ (css : List (List α)) (_ : ∀ cs ∈ css, cs.length = n) (i : Nat) (cs : List α) (j : Nat), css[i]? = some cs → j < n → css.flatten[i * n + j]? = cs[j]?
  | [], _, i, cs, j, h, _ => by simp at h
  | c :: css, hl, 0, cs, j, h, hj => by
    simp at h; subst h
    simp only [Nat.zero_mul, Nat.zero_add, List.flatten_cons]
    rw [List.getElem?_append_left (by rw [hl c (by simp)]; exact hj)]
  | c :: css, hl, i + 1, cs, j, h, hj => by
    have h' : css[i]? = some cs := by simpa using h
    rw [List.flatten_cons, List.getElem?_append_right (by rw [hl c (by simp), Nat.add_mul]; omega), hl c (by simp)]
    rw [show (i + 1) * n + j - n = i * n + j from by rw [Nat.add_mul]; omega]
    exact flat_get n css (fun c hc => hl c (by simp [hc])) i cs j h' hj
theorem flat_len {α : Type} (n : Nat) : ∀ (css : List (List α)) (_ : ∀ cs ∈ css, cs.length = n), css.flatten.length = css.length * n
  | [], _ => by simp
  | c :: css, hl => by
    rw [List.flatten_cons, List.length_append, flat_len n css (fun c hc => hl c (by simp [hc])), hl c (by simp), List.length_cons, Nat.add_mul]; omega

/-! ### rows of the call's own -/
/-- a slice of the call's own (its row in a block from base on), what the elements lead to in blocks of S -/
def OwnR {α : Type} (E : TypeId) (C : Cdc α) (w : World) (base : Nat) (S : Nat → Prop) (v : Value) (xs : List α) : Prop :=
  ∃ css : List (List Value), css.length = xs.length ∧ w.ownsRow base E C.n v xs.length css.flatten ∧
    (∀ (i : Nat) (cs : List Value) (x : α), css[i]? = some cs → xs[i]? = some x → C.at_ w S cs x) ∧ ∀ k, S k → k < w.heap.size ∧ v.ownBlock ≠ some k
/-- the same of things without pointers -/
abbrev OwnF {α : Type} (E : TypeId) (C : Cdc α) (w : World) (base : Nat) (v : Value) (xs : List α) : Prop := OwnR E C w base (fun _ => False) v xs

section
variable {α : Type} {E : TypeId} {C : Cdc α} {w w' : World} {base : Nat} {O S S' : Nat → Prop} {v : Value} {xs : List α}
theorem OwnR.clen {css : List (List Value)} (hl : css.length = xs.length) (h : ∀ (i : Nat) (cs : List Value) (x : α), css[i]? = some cs → xs[i]? = some x → C.at_ w S cs x) : ∀ cs ∈ css, cs.length = C.n := by
  intro cs hcs
  obtain ⟨i, hi, rfl⟩ := List.mem_iff_getElem.1 hcs
  exact C.len (h i _ (xs[i]'(by omega)) (List.getElem?_eq_getElem hi) (List.getElem?_eq_getElem (by omega)))
theorem OwnR.nil_ (hS : ∀ k, S k → k < w.heap.size) : OwnR E C w base S (.slice none 0 0) ([] : List α) :=
  ⟨[], rfl, World.ownsRow_nil _ _ _ _, fun i cs x h => by simp at h, fun k hk => ⟨hS k hk, by simp [Value.ownBlock]⟩⟩
theorem OwnF.nil_ (w : World) (base : Nat) : OwnF E C w base (.slice none 0 0) ([] : List α) := OwnR.nil_ fun _ h => h.elim
theorem OwnR.blk (h : OwnR E C w base S v xs) : ∀ k, v.ownBlock = some k → base ≤ k ∧ k < w.heap.size := by
  obtain ⟨css, _, h, _⟩ := h
  exact World.ownsRow.lt h
theorem OwnR.form (h : OwnR E C w base S v xs) : (v = .slice none 0 0 ∧ xs = []) ∨ ∃ g cap, v = .slice (some ⟨g, 0, none⟩) xs.length cap ∧ xs.length ≤ cap ∧ cap ≤ maxLen ∧ base ≤ g ∧ g < w.heap.size := by
  have hb := h.blk
  obtain ⟨css, hl, ⟨_, h2⟩, _⟩ := h
  rcases h2 with ⟨rfl, hn⟩ | ⟨g, cap, cur, rfl, h3, h4, h5, h6, _⟩
  · exact .inl ⟨rfl, List.eq_nil_of_length_eq_zero hn⟩
  · exact .inr ⟨g, cap, rfl, h5, h6, hb g rfl⟩
theorem OwnR.form' (h : OwnR E C w base S v xs) : ∃ A cap, v = .slice A xs.length cap ∧ xs.length ≤ cap ∧ cap ≤ maxLen ∧ (0 < xs.length → ∃ g, A = some ⟨g, 0, none⟩ ∧ base ≤ g ∧ g < w.heap.size) := by
  rcases h.form with ⟨rfl, rfl⟩ | ⟨g, cap, rfl, h1, h2, h3, h4⟩
  · exact ⟨none, 0, rfl, Nat.le_refl _, Nat.zero_le _, fun h => by simp at h⟩
  · exact ⟨_, cap, rfl, h1, h2, fun _ => ⟨g, rfl, h3, h4⟩⟩
theorem OwnR.keep {row : Option Nat} (h : OwnR E C w base S v xs) (hg : w.grownBy w' row) (hne : v.ownBlock = none ∨ v.ownBlock ≠ row) (hS : ∀ k, S k → row ≠ some k) : OwnR E C w' base S v xs := by
  obtain ⟨css, hl, h2, h3, h4⟩ := h
  exact ⟨css, hl, World.ownsRow.kept h2 hg hne, fun i cs x hc hx => C.keep (h3 i cs x hc hx) fun p hp => World.cell?_of_block (hg.block p.block (h4 _ hp).1 (fun e => hS _ hp e.symm)),
    fun k hk => ⟨Nat.lt_of_lt_of_le (h4 k hk).1 hg.size, (h4 k hk).2⟩⟩
theorem OwnR.below_ (h : OwnR E C w base S v xs) (hb : Below w.heap.size w w') : OwnR E C w' base S v xs :=
  h.keep (row := none) ⟨hb.os, hb.tape, hb.output, hb.size, fun i hi _ => hb.block i hi⟩ (by cases hv : v.ownBlock <;> simp) (fun k _ e => by cases e)
theorem OwnR.alloc (h : OwnR E C w base S v xs) (o : Obj) : OwnR E C (w.alloc o) base S v xs := h.below_ (balloc w o)
theorem OwnR.more {base' : Nat} (h : OwnR E C w base S v xs) (hb : base' ≤ base) : OwnR E C w base' S v xs := by
  obtain ⟨css, hl, ⟨h1, h2⟩, h3, h4⟩ := h
  refine ⟨css, hl, ⟨h1, ?_⟩, h3, h4⟩
  rcases h2 with h2 | ⟨g, cap, cur, e, hg, r⟩
  · exact .inl h2
  · exact .inr ⟨g, cap, cur, e, Nat.le_trans hb hg, r⟩
theorem OwnR.widen (h : OwnR E C w base S v xs) (hS : ∀ k, S k → S' k) (hlt : ∀ k, S' k → k < w.heap.size ∧ v.ownBlock ≠ some k) : OwnR E C w base S' v xs := by
  obtain ⟨css, hl, h2, h3, h4⟩ := h
  exact ⟨css, hl, h2, fun i cs x hc hx => C.mono (h3 i cs x hc hx) hS, hlt⟩
/-- an own row reads -/
theorem OwnR.row (h : OwnR E C w base S v xs) : RowOn C w (fun k => base ≤ k ∧ k < w.heap.size) S v xs := by
  have hb := h.blk
  obtain ⟨css, hl, h2, h3, h4⟩ := h
  have hcl := OwnR.clen hl h3
  have h2' := h2.2
  rcases h2' with ⟨rfl, hn⟩ | ⟨g, cap, cur, rfl, hg1, hg2, hg3, hg4, _⟩
  · have : xs = [] := List.eq_nil_of_length_eq_zero hn
    subst this
    exact RowOn.nil_
  · refine ⟨_, cap, rfl, hg3, hg4, fun hn => ⟨_, rfl, hb g rfl, fun i x hx => ?_⟩⟩
    have hi : i < css.length := by rw [hl]; exact (List.getElem?_eq_some_iff.1 hx).1
    refine ⟨css[i], h3 i _ x (List.getElem?_eq_getElem hi) hx, fun j u hu => ?_⟩
    have hj : j < C.n := by rw [← hcl _ (List.getElem_mem hi)]; exact (List.getElem?_eq_some_iff.1 hu).1
    refine World.ownsRow.cells h2 (g := g) rfl _ u ?_
    rw [flat_get C.n css hcl i _ j (List.getElem?_eq_getElem hi) hj, hu]
theorem OwnR.rowLt (h : OwnR E C w base S v xs) : RowOn C w (fun k => k < w.heap.size) S v xs := h.row.mono (fun _ hk => hk.2) fun _ hk => hk
theorem OwnR.rowAll (h : OwnR E C w base S v xs) : RowOn C w (fun k => k < w.heap.size) (fun k => k < w.heap.size) v xs := by
  have h4 : ∀ k, S k → k < w.heap.size := by obtain ⟨_, _, _, _, h4⟩ := h; exact fun k hk => (h4 k hk).1
  exact h.row.mono (fun _ hk => hk.2) h4
/-- a new row, written out -/
theorem OwnR.new_ (w : World) (css : List (List Value)) (hl : css.length = xs.length) (hm : xs.length ≤ maxLen)
    (h3 : ∀ (i : Nat) (cs : List Value) (x : α), css[i]? = some cs → xs[i]? = some x → C.at_ w S cs x) (hS : ∀ k, S k → k < w.heap.size) :
    OwnR E C (w.alloc (.cells css.flatten.toArray E)) w.heap.size S (.slice (some ⟨w.heap.size, 0, none⟩) xs.length xs.length) xs := by
  have hcl := OwnR.clen hl h3
  have hfl := flat_len C.n css hcl
  refine ⟨css, hl, ⟨by rw [hfl, hl], .inr ⟨w.heap.size, xs.length, _, rfl, Nat.le_refl _, heap_alloc_new w _, Nat.le_refl _, hm, by simp [hfl, hl], ?_⟩⟩, ?_, ?_⟩
  · exact List.take_of_length_le (by simp [hfl, hl])
  · intro i cs x hc hx
    exact C.keep (h3 i cs x hc hx) fun p hp => World.cell?_alloc_lt w _ p (hS _ hp)
  · intro k hk
    have := hS k hk
    refine ⟨by simp; omega, ?_⟩
    simp [Value.ownBlock]; omega

/-- append(s, x...), s the call's own, x any readable row -/
theorem wpList_appR {ops : Array Oper} {rest : List Oper} {o : Oper} {a : Act} {Q : Exit → Act → World → Prop} (hgd : o.guard = none) (s x : Operand) (t : TypeId)
    (ho : o.op = .call { callee := .builtin .append, args := #[s, x], argTypes := #[t, t] })
    (ht : Try.prog.underlying t = some (.slice E)) {z : Value} {bytes : Nat} (hinfo : (Try.prog.info? E).map (fun i => (i.zero, i.size, i.bytes)) = some (some z, C.n, bytes)) (hz2 : z.cells.size = C.n) (hn0 : 0 < C.n) (hb0 : bytes ≤ 256)
    {v2 : Value} {ys : List α} (hown : OwnR E C w base S v xs) (hrd : RowOn C w O S v2 ys) (hs : a.eval s = v) (hx : a.eval x = v2)
    (hsz : xs.length + ys.length ≤ 549755813888) (hbase : base ≤ w.heap.size)
    (h : ∀ v' w', OwnR E C w' base S v' (xs ++ ys) → Ext w w' v v' → wpList Try.prog ops Q rest (a.put o.dst v') w') : wpList Try.prog ops Q (o :: rest) a w := by
  obtain ⟨i, hi, hz0, hz1, hby⟩ := info_parts hinfo
  obtain ⟨css, hl, h2, h3, h4⟩ := hown
  have hcl := OwnR.clen hl h3
  obtain ⟨A, c, rfl, hc1, hc2, hcell⟩ := hrd
  -- the cells of the source
  obtain ⟨dss, hdl, hd3, hdr⟩ : ∃ dss : List (List Value), dss.length = ys.length ∧ (∀ (i : Nat) (cs : List Value) (y : α), dss[i]? = some cs → ys[i]? = some y → C.at_ w S cs y) ∧
      ∃ B, Rd w B C.n A ys.length dss.flatten := by
    rcases Nat.eq_zero_or_pos ys.length with h0 | h0
    · have : ys = [] := List.eq_nil_of_length_eq_zero h0
      subst this
      exact ⟨[], rfl, fun i cs y h => by simp at h, 0, by simp [Rd]⟩
    · obtain ⟨ad, rfl, _, hc⟩ := hcell h0
      have hex : ∀ i : Fin ys.length, ∃ cs, C.at_ w S cs (ys[i.1]'i.2) ∧ ∀ (j : Nat) (u : Value), cs[j]? = some u → w.cell? (ad.add (i.1 * C.n + j)) = some u := fun i => hc i.1 _ (List.getElem?_eq_getElem i.2)
      refine ⟨List.ofFn fun i => (hex i).choose, by simp, ?_, ad.block + 1, ?_⟩
      · intro i cs y hcs hy
        obtain ⟨hi', rfl⟩ := List.getElem?_eq_some_iff.1 hy
        rw [List.getElem?_ofFn, dif_pos hi'] at hcs
        injection hcs with hcs
        rw [← hcs]
        exact (hex ⟨i, hi'⟩).choose_spec.1
      · have hcl2 : ∀ cs ∈ (List.ofFn fun i => (hex i).choose), cs.length = C.n := by
          intro cs hcs
          obtain ⟨i, rfl⟩ := List.mem_ofFn.1 hcs
          exact C.len (hex i).choose_spec.1
        refine ⟨by rw [flat_len C.n _ hcl2]; simp, fun _ => ⟨ad, rfl, Nat.lt_succ_self _, fun j u hu => ?_⟩⟩
        have hj : j < ys.length * C.n := by
          have := (List.getElem?_eq_some_iff.1 hu).1
          rw [flat_len C.n _ hcl2] at this
          simpa using this
        have hi' : j / C.n < ys.length := Nat.div_lt_of_lt_mul (by rw [Nat.mul_comm]; exact hj)
        have hj2 : j % C.n < C.n := Nat.mod_lt _ hn0
        have hdm : j / C.n * C.n + j % C.n = j := by rw [Nat.mul_comm]; exact Nat.div_add_mod j C.n
        have := flat_get C.n _ hcl2 (j / C.n) (hex ⟨j / C.n, hi'⟩).choose (j % C.n) (by rw [List.getElem?_ofFn, dif_pos hi']) hj2
        rw [hdm, hu] at this
        have := (hex ⟨j / C.n, hi'⟩).choose_spec.2 (j % C.n) u this.symm
        rwa [hdm] at this
  obtain ⟨B, hrd⟩ := hdr
  have hcl2 := OwnR.clen hdl hd3
  refine wpList_plain hgd fun K hK => ?_
  obtain ⟨v', w', hr, g2, g3, g5⟩ := run_append_rd (P := Try.prog) w base t o.type E i z C.n bytes ht hi hz0 hz1 hby hz2 hn0 v xs.length css.flatten h2 B A ys.length c dss.flatten hrd (by
      intro u hu
      obtain ⟨cs, hcs, hu⟩ := List.mem_flatten.1 hu
      obtain ⟨i, hi', rfl⟩ := List.mem_iff_getElem.1 hcs
      exact C.one (hd3 i _ (ys[i]'(by omega)) (List.getElem?_eq_getElem hi') (List.getElem?_eq_getElem (by omega))) u hu)
    (by unfold maxLen; omega) (by
      calc (xs.length + ys.length) * bytes ≤ 549755813888 * 256 := Nat.mul_le_mul hsz hb0
        _ ≤ _ := by decide) hbase
  unfold Oper.wp execOp
  simp only [ho, resolve, invoke, builtin, Sem.run_bind, Sem.run_pure, Result.andThen_ok, List.map_toArray, List.map_cons, List.map_nil, hs, hx, hr]
  have hSame : ∀ p : Addr, S p.block → w'.cell? p = w.cell? p := fun p hp => World.cell?_of_block (g3.block p.block (h4 _ hp).1 (fun e => (h4 _ hp).2 e.symm))
  refine hK _ _ (h v' w' ⟨css ++ dss, by simp [hl, hdl], by rw [List.length_append, List.flatten_append]; exact g2, ?_, ?_⟩ ⟨g3, ?_⟩)
  · intro j cs x hc hx'
    refine C.keep ?_ hSame
    rcases Nat.lt_or_ge j xs.length with hj | hj
    · rw [List.getElem?_append_left (by omega)] at hc
      rw [List.getElem?_append_left hj] at hx'
      exact h3 j cs x hc hx'
    · rw [List.getElem?_append_right (by omega)] at hc
      rw [List.getElem?_append_right hj, ← hl] at hx'
      exact hd3 _ cs x hc hx'
  · intro k hk
    refine ⟨Nat.lt_of_lt_of_le (h4 k hk).1 g3.size, ?_⟩
    rcases g5 with g5 | g5
    · rw [g5]; exact (h4 k hk).2
    · rw [g5]; intro e; injection e with e; have := (h4 k hk).1; omega
  · rcases g5 with g5 | g5
    · exact .inl g5
    · exact .inr fun k hk => by rw [g5] at hk; injection hk with hk; omega

/-! ### a block that holds one thing (a struct whose address is taken) -/
/-- block g holds just these cells, of type T -/
def BoxAt (T : TypeId) (w : World) (g : Nat) (cs : List Value) : Prop := w.heap[g]? = some (.cells cs.toArray T (0, 0))
theorem BoxAt.new_ (T : TypeId) (w : World) (cs : List Value) : BoxAt T (w.alloc (.cells cs.toArray T)) w.heap.size cs := heap_alloc_new w _
end
section
variable {T : TypeId} {w w' : World} {g : Nat} {cs : List Value}
theorem BoxAt.lt (h : BoxAt T w g cs) : g < w.heap.size := (Array.getElem?_eq_some_iff.1 h).1
theorem BoxAt.alloc (h : BoxAt T w g cs) (o : Obj) : BoxAt T (w.alloc o) g cs := (heap_alloc_old w o h.lt).trans h
theorem BoxAt.below (h : BoxAt T w g cs) {B : Nat} (hg : g < B) (hb : Below B w w') : BoxAt T w' g cs := (hb.block g hg).trans h
theorem BoxAt.grown {row : Option Nat} (h : BoxAt T w g cs) (hg : w.grownBy w' row) (hne : row ≠ some g) : BoxAt T w' g cs := (hg.block g h.lt (fun e => hne e.symm)).trans h
theorem BoxAt.cell (h : BoxAt T w g cs) (j : Nat) (u : Value) (hu : cs[j]? = some u) : w.cell? { block := g, off := j } = some u := by
  unfold BoxAt at h; simp [World.cell?, h, hu]
theorem BoxAt.frozen (h : BoxAt T w g cs) (j : Nat) : w.frozen? { block := g, off := j } = false := by
  unfold BoxAt at h; simp [World.frozen?, h]
theorem BoxAt.put (h : BoxAt T w g cs) (j : Nat) (u : Value) : BoxAt T (w.setCell { block := g, off := j } u) g (cs.set j u) := by
  unfold BoxAt at h ⊢
  simp [World.setCell, h, Array.getElem?_modify]
theorem BoxAt.other (h : BoxAt T w g cs) (p : Addr) (u : Value) (hne : p.block ≠ g) : BoxAt T (w.setCell p u) g cs := (Below.heap_setCell w p u g (fun e => hne e.symm)).trans h
end
theorem gset (w : World) (p : Addr) (u : Value) : w.grownBy (w.setCell p u) (some p.block) :=
  ⟨rfl, rfl, rfl, by simp [World.setCell], fun k _ hne => Below.heap_setCell w p u k (fun e => hne (by rw [e]))⟩
theorem grefl (w : World) (row : Option Nat) : w.grownBy w row := World.grownBy.refl w row
theorem gtrans {a b c : World} {row : Option Nat} (h : a.grownBy b row) (k : b.grownBy c row) : a.grownBy c row :=
  ⟨k.os.trans h.os, k.tape.trans h.tape, k.output.trans h.output, Nat.le_trans h.size k.size, fun i hi hne => (k.block i (Nat.lt_of_lt_of_le hi h.size) hne).trans (h.block i hi hne)⟩
theorem gbelow {a b : World} (h : Below a.heap.size a b) (row : Option Nat) : a.grownBy b row := ⟨h.os, h.tape, h.output, h.size, fun i hi _ => h.block i hi⟩
/-- new blocks, of which one was written, behind other new blocks -/
theorem gnew {a b c : World} {row row' : Option Nat} (h : a.grownBy b row) (k : b.grownBy c row') (hr : ∀ i, row' = some i → a.heap.size ≤ i ∨ row = some i) : a.grownBy c row :=
  ⟨k.os.trans h.os, k.tape.trans h.tape, k.output.trans h.output, Nat.le_trans h.size k.size, fun i hi hne => (k.block i (Nat.lt_of_lt_of_le hi h.size) (fun e => by
    rcases hr i e.symm with h | h
    · omega
    · exact hne h.symm)).trans (h.block i hi hne)⟩
theorem gofBelow {a b : World} {row : Option Nat} (h : a.grownBy b row) {B : Nat} (hB : B ≤ a.heap.size) (hr : ∀ k, row = some k → B ≤ k) : Below B a b := (Below.refl B a).grown h hB hr

/-! ### whole things loaded and stored -/
theorem isAgg_run {T : TypeId} {d : TypeDesc} (hu : Try.prog.underlying T = some d) (hd : (match d with | .struct _ | .array _ _ => true | _ => false) = true) (w : World) : (isAgg T).run Try.prog w = .ok true w := by
  unfold isAgg
  rw [Sem.run_bind, run_underlying hu w]
  cases d <;> simp_all
theorem run_loadVar_cells (w : World) (a : Addr) (T : TypeId) (cs : List Value) (h : ∀ (j : Nat) (v : Value), cs[j]? = some v → w.cell? (a.add j) = some v) {d : TypeDesc} (hu : Try.prog.underlying T = some d)
    (hd : (match d with | .struct _ | .array _ _ => true | _ => false) = true) (hi : (Try.prog.info? T).map (·.size) = some cs.length) : (loadVar T a).run Try.prog w = .ok (.agg cs.toArray) w := by
  have hl := run_loadCells_list (P := Try.prog) w a cs h
  cases hq : Try.prog.info? T with
  | none => simp [hq] at hi
  | some i =>
    have hs : i.size = cs.length := by simpa [hq] using hi
    simp [loadVar, Sem.run_bind, isAgg_run hu hd w, sizeOf, typeInfo, hq, hs, hl]
/-- a whole thing is loaded out of cells that are known -/
theorem wpList_load_agg {ops : Array Oper} {rest : List Oper} {o : Oper} {a : Act} {w : World} {Q : Exit → Act → World → Prop} (hgd : o.guard = none) (T : TypeId) (x : Operand) (ho : o.op = .load T x)
    (ad : Addr) (hx : a.eval x = .pointer (some ad)) (cs : List Value) (hc : ∀ (j : Nat) (v : Value), cs[j]? = some v → w.cell? (ad.add j) = some v) {d : TypeDesc} (hu : Try.prog.underlying T = some d)
    (hd : (match d with | .struct _ | .array _ _ => true | _ => false) = true) (hi : (Try.prog.info? T).map (·.size) = some cs.length)
    (h : wpList Try.prog ops Q rest (a.put o.dst (.agg cs.toArray)) w) : wpList Try.prog ops Q (o :: rest) a w :=
  wpList_plain hgd fun K hK => by
    unfold Oper.wp execOp
    simp only [ho, hx, Instr.loadAt, Instr.sureAddr, Sem.run_bind, Sem.run_pure, Result.andThen_ok, run_loadVar_cells w ad T cs hc hu hd hi]
    exact hK _ _ h
theorem BoxAt.cells {T : TypeId} {w : World} {g : Nat} {cs : List Value} (h : BoxAt T w g cs) : ∀ (j : Nat) (v : Value), cs[j]? = some v → w.cell? ((⟨g, 0, none⟩ : Addr).add j) = some v := by
  intro j v hv
  have hadd : (⟨g, 0, none⟩ : Addr).add j = ⟨g, j, none⟩ := by unfold Addr.add; split <;> simp_all
  rw [hadd]
  exact h.cell j v hv
theorem BoxAt.setRow {T : TypeId} {w : World} {g : Nat} {cs : List Value} (h : BoxAt T w g cs) (ds : List Value) : BoxAt T (w.setRow g ds.toArray) g ds := setRow_heap _ _ _ _ _ _ h
theorem wpList_store_box {ops : Array Oper} {rest : List Oper} {o : Oper} {a : Act} {w : World} {Q : Exit → Act → World → Prop} (hgd : o.guard = none) (T T' : TypeId) (x y : Operand) (ho : o.op = .store T x y)
    (g : Nat) (cs ds : List Value) (hx : a.eval x = .pointer (some ⟨g, 0, none⟩)) (hy : a.eval y = .agg ds.toArray) (hs : BoxAt T' w g cs) (hl : ds.length = cs.length) (h1 : ∀ u ∈ ds, u.oneCell' = true)
    (hi : (Try.prog.info? T).map (·.size) = some ds.length)
    (h : BoxAt T' (w.setRow g ds.toArray) g ds → wpList Try.prog ops Q rest (a.put o.dst undef) (w.setRow g ds.toArray)) : wpList Try.prog ops Q (o :: rest) a w :=
  wpList_store_row hgd T x y ho g ds.toArray hx hy T' cs.toArray hs (by simpa using hi) (by simpa using hl) (by simpa using h1) (h (hs.setRow ds))
theorem By.empty {w : World} {B : Nat} (A : Option Addr) (c : Nat) (hc : c ≤ maxLen) : By w B (.slice A 0 c) [] := ⟨A, c, rfl, Nat.zero_le _, hc, by simp [b8s], fun h => by simp at h⟩
/-- results: a slot, then a struct that lies in memory -/
theorem results_tc {fn : Func} {p q : Tmp} {T : TypeId} (h : fn.results = #[.tmp q, .cell p T]) (tmps : Array Value) (w : World) (g : Nat) (cs : List Value)
    (hp : tmps.getD p undef = .pointer (some ⟨g, 0, none⟩)) (hs : ∀ (j : Nat) (v : Value), cs[j]? = some v → w.cell? ((⟨g, 0, none⟩ : Addr).add j) = some v) {d : TypeDesc} (hu : Try.prog.underlying T = some d)
    (hd : (match d with | .struct _ | .array _ _ => true | _ => false) = true) (hi : (Try.prog.info? T).map (·.size) = some cs.length) :
    (results fn tmps).run Try.prog w = .ok (.tuple #[tmps.getD q undef, .agg cs.toArray]) w := by
  have hp' : tmps[p]?.getD undef = .pointer (some ⟨g, 0, none⟩) := by simpa using hp
  have hr := run_loadVar_cells w ⟨g, 0, none⟩ T cs hs hu hd hi
  simp [results, h, hp', asAddr, hr]
/-- a result: a struct that lies in memory -/
theorem results_c {fn : Func} {p : Tmp} {T : TypeId} (h : fn.results = #[.cell p T]) (tmps : Array Value) (w : World) (g : Nat) (cs : List Value)
    (hp : tmps.getD p undef = .pointer (some ⟨g, 0, none⟩)) (hs : ∀ (j : Nat) (v : Value), cs[j]? = some v → w.cell? ((⟨g, 0, none⟩ : Addr).add j) = some v) {d : TypeDesc} (hu : Try.prog.underlying T = some d)
    (hd : (match d with | .struct _ | .array _ _ => true | _ => false) = true) (hi : (Try.prog.info? T).map (·.size) = some cs.length) :
    (results fn tmps).run Try.prog w = .ok (.agg cs.toArray) w := by
  have hp' : tmps[p]?.getD undef = .pointer (some ⟨g, 0, none⟩) := by simpa using hp
  have hr := run_loadVar_cells w ⟨g, 0, none⟩ T cs hs hu hd hi
  simp [results, h, hp', asAddr, hr]
theorem gsetRow' (w : World) (g : Nat) (cs : Array Value) : w.grownBy (w.setRow g cs) (some g) :=
  ⟨rfl, rfl, rfl, by simp, fun i _ hne => setRow_other w g i cs (fun e => hne (by rw [e]))⟩
/-- append(s, b), one byte -/
theorem wpList_app1 {ops : Array Oper} {rest : List Oper} {o : Oper} {a : Act} {w : World} {Q : Exit → Act → World → Prop} (hgd : o.guard = none) (s x : Operand)
    (ho : o.op = .call { callee := .builtin .append, args := #[s, x], argTypes := #[30, 30] })
    {base : Nat} {v u : Value} {l : List UInt8} {b : UInt8} (hown : Ow w base v l) (hu : u = b8 b) (hs : a.eval s = v) (hx : a.eval x = .slice (some ⟨w.heap.size, 0, none⟩) 1 1)
    (hsz : l.length ≤ 140737488355327) (hbase : base ≤ w.heap.size)
    (h : ∀ v' w', Ow w' base v' (l ++ [b]) → Ext w w' v v' → wpList Try.prog ops Q rest (a.put o.dst v') w') : wpList Try.prog ops Q (o :: rest) a (w.alloc (.cells #[u] 5)) := by
  subst hu
  exact wpList_app8 hgd s x ho (hown.below_ (balloc w _)) (By.new_ w [b] (by simp [maxLen])) hs hx (by simp; omega) (by simp; omega) fun v' w' h1 h2 => h v' w' h1 (h2.after (balloc w _) v rfl)
/-- append(s, y), one thing -/
theorem wpList_app1R {α : Type} {E : TypeId} {C : Cdc α} {S : Nat → Prop} {ops : Array Oper} {rest : List Oper} {o : Oper} {a : Act} {w : World} {Q : Exit → Act → World → Prop} (hgd : o.guard = none) (s x : Operand) (t : TypeId)
    (ho : o.op = .call { callee := .builtin .append, args := #[s, x], argTypes := #[t, t] })
    (ht : Try.prog.underlying t = some (.slice E)) {z : Value} {bytes : Nat} (hinfo : (Try.prog.info? E).map (fun i => (i.zero, i.size, i.bytes)) = some (some z, C.n, bytes)) (hz2 : z.cells.size = C.n) (hn0 : 0 < C.n) (hb0 : bytes ≤ 256)
    {base : Nat} {v : Value} {xs : List α} {y : α} (cs : List Value) (hown : OwnR E C w base S v xs) (hy : C.at_ w S cs y) (hs : a.eval s = v) (hx : a.eval x = .slice (some ⟨w.heap.size, 0, none⟩) 1 1)
    (hsz : xs.length ≤ 549755813887) (hbase : base ≤ w.heap.size)
    (h : ∀ v' w', OwnR E C w' base S v' (xs ++ [y]) → Ext w w' v v' → wpList Try.prog ops Q rest (a.put o.dst v') w') : wpList Try.prog ops Q (o :: rest) a (w.alloc (.cells cs.toArray E)) := by
  have hS : ∀ k, S k → k < w.heap.size := by obtain ⟨_, _, _, _, h4⟩ := hown; exact fun k hk => (h4 k hk).1
  have hrow : RowOn C (w.alloc (.cells cs.toArray E)) (fun k => k < w.heap.size + 1) S (.slice (some ⟨w.heap.size, 0, none⟩) 1 1) [y] := by
    refine ⟨_, 1, rfl, Nat.le_refl _, by simp [maxLen], fun _ => ⟨_, rfl, Nat.lt_succ_self _, fun i y' hi => ?_⟩⟩
    match i, hi with
    | 0, hi =>
      injection hi with hi
      subst hi
      refine ⟨cs, C.keep hy fun p hp => World.cell?_alloc_lt w _ p (hS _ hp), fun j u hu => ?_⟩
      rw [Nat.zero_mul, Nat.zero_add]
      exact World.news_of_block (heap_alloc_new w _) j u (by simpa using hu)
    | i + 1, hi => simp at hi
  exact wpList_appR hgd s x t ho ht hinfo hz2 hn0 hb0 (hown.alloc _) hrow hs hx (by simp; omega) (by simp; omega) fun v' w' h1 h2 => h v' w' h1 (h2.after (balloc w _) v rfl)
theorem Ow.newAt (w : World) (l : List UInt8) (g n base : Nat) (hg : w.heap.size = g) (hn : l.length = n) (hm : n ≤ maxLen) (hb : base ≤ g) : Ow (w.alloc (.cells (b8s l).toArray 5)) base (.slice (some ⟨g, 0, none⟩) n n) l := by
  subst hg; subst hn
  exact (Ow.new_ w l hm).mono hb
/-- two rows of the call's own that aren't one -/
def Apart (u v : Value) : Prop := ∀ q, u.ownBlock = some q → v.ownBlock ≠ some q
theorem Apart.symm {u v : Value} (h : Apart u v) : Apart v u := fun q hv hu => h q hu hv
theorem Apart.ne {u v : Value} (h : Apart u v) : u.ownBlock = none ∨ u.ownBlock ≠ v.ownBlock := by
  cases hu : u.ownBlock with
  | none => exact .inl rfl
  | some q => exact .inr fun e => h q hu e.symm
/-- an append onto one keeps it apart from another one that lies there -/
theorem Apart.ext {w w' : World} {u v v' : Value} (h : Apart u v) (hx : Ext w w' v v') (hu : ∀ q, u.ownBlock = some q → q < w.heap.size) : Apart u v' := by
  intro q hq e
  rcases hx.at_ with h1 | h1
  · exact h q hq (by rw [← h1]; exact e)
  · have := h1 q e; have := hu q hq; omega
theorem Apart.new_ {w : World} {u v : Value} (hu : ∀ q, u.ownBlock = some q → q < w.heap.size) (hv : ∀ q, v.ownBlock = some q → w.heap.size ≤ q) : Apart u v :=
  fun q hq e => by have := hu q hq; have := hv q e; omega

/-! ### what the walk meets as bytes -/
/-- a byte in one cell -/
def c8 : Cdc UInt8 := Cdc.flat 1 (fun b => [b8 b]) (fun _ => True) (fun _ => rfl) (fun x u hu => by simp at hu; subst hu; rfl)
def c32 : Cdc UInt32 := Cdc.flat 1 (fun b => [.int .u32 (b.toNat : Int)]) (fun _ => True) (fun _ => rfl) (fun x u hu => by simp at hu; subst hu; rfl)
def c64 : Cdc UInt64 := Cdc.flat 1 (fun b => [.int .u64 (b.toNat : Int)]) (fun _ => True) (fun _ => rfl) (fun x u hu => by simp at hu; subst hu; rfl)
def cInt : Cdc Int := Cdc.flat 1 (fun b => [.int .i64 b]) (fun b => -9223372036854775808 ≤ b ∧ b ≤ 9223372036854775807) (fun _ => rfl) (fun x u hu => by simp at hu; subst hu; rfl)
def cBool : Cdc Bool := Cdc.flat 1 (fun b => [.bool b]) (fun _ => True) (fun _ => rfl) (fun x u hu => by simp at hu; subst hu; rfl)
def cStr : Cdc ByteArray := Cdc.flat 1 (fun b => [.string b]) (fun b => b.size ≤ maxLen) (fun _ => rfl) (fun x u hu => by simp at hu; subst hu; rfl)

theorem RowOn.toBy {w : World} {B : Nat} {v : Value} {l : List UInt8} {S : Nat → Prop} (h : RowOn c8 w (fun k => k < B) S v l) : By w B v l := by
  obtain ⟨A, c, h1, h2, h3, h4⟩ := h
  refine ⟨A, c, h1, h2, h3, by simp [b8s_length], fun hn => ?_⟩
  obtain ⟨ad, e, hb, hc⟩ := h4 hn
  refine ⟨ad, e, hb, fun j u hu => ?_⟩
  obtain ⟨hj, he⟩ := List.getElem?_eq_some_iff.1 hu
  rw [b8s_length] at hj
  obtain ⟨cs, ⟨rfl, _⟩, hcs⟩ := hc j _ (List.getElem?_eq_getElem hj)
  have := hcs 0 _ rfl
  simp only [c8, Cdc.flat, Nat.mul_one, Nat.add_zero] at this
  rw [this, ← he]
  simp [b8s]
theorem By.toRow {w : World} {B : Nat} {v : Value} {l : List UInt8} {S : Nat → Prop} (h : By w B v l) : RowOn c8 w (fun k => k < B) S v l := by
  obtain ⟨A, c, h1, h2, h3, h4⟩ := h
  refine ⟨A, c, h1, h2, h3, fun hn => ?_⟩
  obtain ⟨ad, e, hb, hc⟩ := h4.2 hn
  refine ⟨ad, e, hb, fun i x hx => ⟨[b8 x], ⟨rfl, trivial⟩, fun j u hu => ?_⟩⟩
  match j, hu with
  | 0, hu =>
    injection hu with hu
    subst hu
    simp only [c8, Cdc.flat, Nat.mul_one, Nat.add_zero]
    refine hc i _ ?_
    simp [b8s, hx]
  | j + 1, hu => simp at hu
theorem flatten_b8 : ∀ l : List UInt8, (l.map fun b => [b8 b]).flatten = b8s l
  | [] => rfl
  | b :: l => by rw [List.map_cons, List.flatten_cons, flatten_b8 l]; rfl
theorem OwnF.toOw {w : World} {base : Nat} {v : Value} {l : List UInt8} (h : OwnF 5 c8 w base v l) : Ow w base v l := by
  obtain ⟨css, hl, h2, h3, _⟩ := h
  have : css.flatten = b8s l := by
    rw [← flatten_b8]
    congr 1
    refine List.ext_getElem? fun i => ?_
    rcases Nat.lt_or_ge i l.length with hi | hi
    · have := h3 i (css[i]'(by omega)) (l[i]'hi) (List.getElem?_eq_getElem (by omega)) (List.getElem?_eq_getElem hi)
      simp [List.getElem?_eq_getElem (show i < css.length by omega), List.getElem?_eq_getElem hi, this.1]
    · rw [List.getElem?_eq_none (by omega), List.getElem?_eq_none (by simpa using hi)]
  unfold Ow
  rw [← this]
  exact h2
theorem Ow.toOwn {w : World} {base : Nat} {v : Value} {l : List UInt8} (h : Ow w base v l) : OwnF 5 c8 w base v l := by
  refine ⟨l.map fun b => [b8 b], by simp, by rw [flatten_b8]; exact h, fun i cs x hc hx => ?_, fun _ hk => hk.elim⟩
  rw [List.getElem?_map, hx] at hc
  injection hc with hc
  exact ⟨hc.symm, trivial⟩
end Go.Proofs.Ytpoicbhbkabllaa
