/- Disks: how one lies in memory; its blocks, what waits. -/
import Derived.Test.YtpoicbhbkabllaaPuts
import Derived.Deep.MidRow
namespace Go.Proofs.Ytpoicbhbkabllaa
set_option linter.unusedSimpArgs false
set_option linter.unusedVariables false
open Go.RowKit

abbrev Blk := {l : List UInt8 // l.length = 128}
def flatB (bl : List Blk) : List Value := (bl.map fun b => b8s b.1).flatten
theorem blk_len (b : Blk) : (b8s b.1).length = 128 := by simp [b8s, b.2]
theorem flatB_len (bl : List Blk) : (flatB bl).length = bl.length * 128 := by
  unfold flatB
  rw [flat_len 128 _ (by intro cs hcs; obtain ⟨b, _, rfl⟩ := List.mem_map.1 hcs; exact blk_len b)]
  simp
theorem flatB_at (bl : List Blk) (i j : Nat) (hi : i < bl.length) (hj : j < 128) : (flatB bl)[i * 128 + j]? = (b8s (bl[i]).1)[j]? := by
  unfold flatB
  exact flat_get 128 _ (by intro cs hcs; obtain ⟨b, _, rfl⟩ := List.mem_map.1 hcs; exact blk_len b) i _ j (by rw [List.getElem?_map, List.getElem?_eq_getElem hi]; rfl) hj
/-- bytes laid over a block from o on -/
def over (b : Blk) (o : Nat) (us : List UInt8) : Blk := if h : o + us.length ≤ 128 then ⟨b.1.take o ++ us ++ b.1.drop (o + us.length), by have := b.2; simp; omega⟩ else b
theorem over_get (b : Blk) (o : Nat) (us : List UInt8) (h : o + us.length ≤ 128) (k : Nat) : (over b o us).1[k]? = if o ≤ k ∧ k < o + us.length then us[k - o]? else b.1[k]? := by
  have hb := b.2
  unfold over
  rw [dif_pos h]
  simp only [List.append_assoc]
  rw [List.getElem?_append, List.length_take, Nat.min_eq_left (by omega)]
  split
  · rw [if_neg (by omega), List.getElem?_take, if_pos (by assumption)]
  · rw [List.getElem?_append]
    split
    · rw [if_pos (by omega)]
    · rw [if_neg (by omega), List.getElem?_drop]
      congr 1
      omega
theorem b8s_opt (l : List UInt8) (k : Nat) : (b8s l)[k]? = (l[k]?).map b8 := by simp [b8s]
theorem flatB_puts (bl : List Blk) (i o : Nat) (us : List UInt8) (hi : i < bl.length) (h : o + us.length ≤ 128) : puts (flatB bl) (i * 128 + o) (b8s us) = flatB (bl.set i (over (bl[i]) o us)) := by
  have hl : (b8s us).length = us.length := by simp [b8s]
  have hm : i * 128 + 128 ≤ bl.length * 128 := by omega
  apply List.ext_getElem?
  intro k
  rw [puts_get _ _ _ _ (by rw [hl, flatB_len]; omega), hl]
  by_cases hk : k < bl.length * 128
  · obtain ⟨q, r, hr, rfl⟩ : ∃ q r, r < 128 ∧ k = q * 128 + r := ⟨k / 128, k % 128, Nat.mod_lt _ (by decide), by omega⟩
    have hq : q < bl.length := by omega
    rw [flatB_at (bl.set i _) q r (by simpa using hq) hr, flatB_at bl q r hq hr, b8s_opt, b8s_opt, b8s_opt]
    by_cases hqi : q = i
    · subst hqi
      rw [List.getElem_set_self, over_get _ _ _ h]
      by_cases hc : o ≤ r ∧ r < o + us.length
      · rw [if_pos (by omega), if_pos hc]
        congr 2
        omega
      · rw [if_neg (by omega), if_neg hc]
    · rw [List.getElem_set_ne (by omega), if_neg (by omega)]
  · rw [if_neg (by omega), List.getElem?_eq_none (by rw [flatB_len]; omega), List.getElem?_eq_none (by rw [flatB_len]; simp; omega)]
theorem over_all (b c : Blk) : over b 0 c.1 = c := by
  apply Subtype.ext
  apply List.ext_getElem?
  intro k
  rw [over_get _ _ _ (by rw [c.2]; decide)]
  have h1 := b.2
  have h2 := c.2
  by_cases hk : k < 128
  · rw [if_pos (by omega)]; rfl
  · rw [if_neg (by omega), List.getElem?_eq_none (by omega), List.getElem?_eq_none (by omega)]

abbrev Wt := Nat × Blk
def cWt : Cdc Wt := Cdc.flat 129 (fun x => .int .i64 (x.1 : Int) :: b8s x.2.1) (fun _ => True) (fun x => by simp [b8s, x.2.2]) (fun x u hu => by
  rcases List.mem_cons.1 hu with rfl | hu
  · rfl
  · obtain ⟨b, _, rfl⟩ := List.mem_map.1 hu; rfl)

structure DState where
  bl : List Blk
  wt : List Wt
  off : Bool
  fuse : Int
/-- the disk at g, all its blocks in S -/
structure DiskAt (w : World) (S : Nat → Prop) (g : Nat) (d : DState) : Prop where
  ex : ∃ hb vw, BoxAt 84 w g [.slice (some ⟨hb, 0, none⟩) d.bl.length d.bl.length, vw, .bool d.off, .int .i64 d.fuse] ∧ BoxAt 86 w hb (flatB d.bl) ∧
    OwnF 88 cWt w 0 vw d.wt ∧ hb ≠ g ∧ S hb ∧ ∀ q, vw.ownBlock = some q → q ≠ g ∧ q ≠ hb ∧ S q
  here : S g
  lt : ∀ k, S k → k < w.heap.size
  wts : ∀ x ∈ d.wt, x.1 < d.bl.length
  pos : 0 < d.bl.length
  few : d.bl.length ≤ 65536
  fuseR : -9223372036854775808 ≤ d.fuse ∧ d.fuse ≤ 9223372036854775807
theorem OwnF.kept {α : Type} {E : TypeId} {C : Cdc α} {w w' : World} {base : Nat} {v : Value} {xs : List α} (h : OwnF E C w base v xs) (hk : ∀ q, v.ownBlock = some q → w'.heap[q]? = w.heap[q]?) : OwnF E C w' base v xs := by
  obtain ⟨css, hl, ⟨h1, h2⟩, h3, h4⟩ := h
  refine ⟨css, hl, ⟨h1, ?_⟩, fun i cs x hc hx => C.keep (h3 i cs x hc hx) fun p hp => hp.elim, fun k hk => hk.elim⟩
  rcases h2 with h2 | ⟨g, cap, cur, e, hg, hh, r⟩
  · exact .inl h2
  · subst e
    exact .inr ⟨g, cap, cur, rfl, hg, (hk g rfl).trans hh, r⟩
theorem DiskAt.keep {w w' : World} {S : Nat → Prop} {g : Nat} {d : DState} (h : DiskAt w S g d) (hs : w.heap.size ≤ w'.heap.size) (hk : ∀ k, S k → w'.heap[k]? = w.heap[k]?) : DiskAt w' S g d := by
  obtain ⟨hb, vw, h1, h2, h3, h4, h5, h6⟩ := h.ex
  exact ⟨⟨hb, vw, (hk g h.here).trans h1, (hk hb h5).trans h2, h3.kept fun q hq => hk q (h6 q hq).2.2, h4, h5, h6⟩, h.here, fun k hx => Nat.lt_of_lt_of_le (h.lt k hx) hs, h.wts, h.pos, h.few, h.fuseR⟩
theorem DiskAt.below_ {w w' : World} {S : Nat → Prop} {g : Nat} {d : DState} (h : DiskAt w S g d) (hb : Below w.heap.size w w') : DiskAt w' S g d := h.keep hb.size fun k hk => hb.block k (h.lt k hk)
theorem DiskAt.chg_ {w w' : World} {S P : Nat → Prop} {g : Nat} {d : DState} (h : DiskAt w S g d) (hc : Chg P w w') (hn : ∀ k, S k → ¬ P k) : DiskAt w' S g d := h.keep hc.size fun k hk => hc.block k (h.lt k hk) (hn k hk)
theorem DiskAt.more {w : World} {S S' : Nat → Prop} {g : Nat} {d : DState} (h : DiskAt w S g d) (hs : ∀ k, S k → S' k) (hl : ∀ k, S' k → k < w.heap.size) : DiskAt w S' g d := by
  obtain ⟨hb, vw, h1, h2, h3, h4, h5, h6⟩ := h.ex
  exact ⟨⟨hb, vw, h1, h2, h3, h4, hs _ h5, fun q hq => ⟨(h6 q hq).1, (h6 q hq).2.1, hs _ (h6 q hq).2.2⟩⟩, hs _ h.here, hl, h.wts, h.pos, h.few, h.fuseR⟩
end Go.Proofs.Ytpoicbhbkabllaa
