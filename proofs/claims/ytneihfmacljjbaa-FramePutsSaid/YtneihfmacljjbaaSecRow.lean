/- rows of Sections: readable, own; append of one -/
import Derived.Test.YtneihfmacljjbaaFrameRef
namespace Go.Proofs.Ytneihfmacljjbaa
set_option linter.unusedSimpArgs false
set_option linter.unusedVariables false
open Go.RowKit

abbrev Sect := UInt8 × List UInt8
/-- the cells of a row of Sections: the kinds and the values of the bodies -/
def sCells : List Sect → List Value → List Value
  | s :: ss, v :: vs => b8 s.1 :: v :: sCells ss vs
  | _, _ => []
theorem sCells_length : ∀ (ss : List Sect) (vs : List Value), vs.length = ss.length → (sCells ss vs).length = ss.length * 2
  | [], [], _ => rfl
  | _ :: ss, _ :: vs, h => by
    have := sCells_length ss vs (by simpa using h)
    simp [sCells, this]; omega
theorem sCells_append : ∀ (ss : List Sect) (vs : List Value) (s : Sect) (v : Value), vs.length = ss.length → sCells (ss ++ [s]) (vs ++ [v]) = sCells ss vs ++ [b8 s.1, v]
  | [], [], _, _, _ => rfl
  | _ :: ss, _ :: vs, s, v, h => by
    have := sCells_append ss vs s v (by simpa using h)
    simp [sCells, this]
theorem sCells_get0 : ∀ (ss : List Sect) (vs : List Value) (i : Nat) (s : Sect), vs.length = ss.length → ss[i]? = some s → (sCells ss vs)[i * 2]? = some (b8 s.1)
  | s :: ss, v :: vs, 0, _, _, h => by
    injection h with h
    subst h
    rfl
  | _ :: ss, _ :: vs, i + 1, s, hl, h => by
    have := sCells_get0 ss vs i s (by simpa using hl) (by simpa using h)
    rw [show (i + 1) * 2 = i * 2 + 1 + 1 from by omega]
    simpa [sCells] using this
theorem sCells_get1 : ∀ (ss : List Sect) (vs : List Value) (i : Nat) (v : Value), vs.length = ss.length → vs[i]? = some v → (sCells ss vs)[i * 2 + 1]? = some v
  | [], vs, i, v, hl, h => by
    have : vs = [] := List.eq_nil_of_length_eq_zero hl
    subst this
    simp at h
  | s :: ss, v :: vs, 0, _, _, h => by simpa [sCells] using h
  | _ :: ss, _ :: vs, i + 1, v, hl, h => by
    have := sCells_get1 ss vs i v (by simpa using hl) (by simpa using h)
    rw [show (i + 1) * 2 + 1 = i * 2 + 1 + 1 + 1 from by omega]
    simpa [sCells] using this

/-- the value v is a slice of Sections that reads as ss, in blocks below B -/
def ByS (w : World) (B : Nat) (v : Value) (ss : List Sect) : Prop :=
  ∃ (A : Option Addr) (c : Nat) (vs : List Value), v = .slice A ss.length c ∧ ss.length ≤ c ∧ c ≤ maxLen ∧ vs.length = ss.length ∧ Rd w B 2 A ss.length (sCells ss vs) ∧
    ∀ (i : Nat) (u : Value) (s : Sect), vs[i]? = some u → ss[i]? = some s → By w B u s.2
theorem ByS.below {w w' : World} {B : Nat} {v : Value} {ss : List Sect} (h : ByS w B v ss) (hb : Below B w w') : ByS w' B v ss := by
  obtain ⟨A, c, vs, h1, h2, h3, h4, h5, h6⟩ := h
  exact ⟨A, c, vs, h1, h2, h3, h4, h5.below hb, fun i u s hu hs => (h6 i u s hu hs).below hb⟩
theorem ByS.more {w : World} {B B' : Nat} {v : Value} {ss : List Sect} (h : ByS w B v ss) (hB : B ≤ B') : ByS w B' v ss := by
  obtain ⟨A, c, vs, h1, h2, h3, h4, h5, h6⟩ := h
  exact ⟨A, c, vs, h1, h2, h3, h4, h5.more hB, fun i u s hu hs => (h6 i u s hu hs).more hB⟩
theorem ByS.step {w w' : World} {v : Value} {ss : List Sect} (h : ByS w w.heap.size v ss) (hb : Below w.heap.size w w') : ByS w' w'.heap.size v ss := (h.below hb).more hb.size

/-- an own row of Sections, the bodies own rows too -/
def OwS (w : World) (base : Nat) (v : Value) (ss : List Sect) : Prop :=
  ∃ vs : List Value, vs.length = ss.length ∧ w.ownsRow base 46 2 v ss.length (sCells ss vs) ∧
    ∀ (i : Nat) (u : Value) (s : Sect), vs[i]? = some u → ss[i]? = some s → Ow w base u s.2 ∧ (u.ownBlock = none ∨ u.ownBlock ≠ v.ownBlock)
theorem OwS.nil_ (w : World) (base : Nat) : OwS w base (.slice none 0 0) [] := ⟨[], rfl, World.ownsRow_nil _ _ _ _, fun i u s h => by simp at h⟩
theorem OwS.blk {w : World} {base : Nat} {v : Value} {ss : List Sect} (h : OwS w base v ss) : ∀ k, v.ownBlock = some k → base ≤ k ∧ k < w.heap.size := by
  obtain ⟨vs, _, h, _⟩ := h
  exact World.ownsRow.lt h
theorem OwS.below_ {w w' : World} {base : Nat} {v : Value} {ss : List Sect} (h : OwS w base v ss) (hb : Below w.heap.size w w') : OwS w' base v ss := by
  have hk := h.blk
  obtain ⟨vs, h1, h2, h3⟩ := h
  refine ⟨vs, h1, ?_, fun i u s hu hs => ⟨(h3 i u s hu hs).1.below_ hb, (h3 i u s hu hs).2⟩⟩
  refine World.ownsRow.kept h2 (row := none) ⟨hb.os, hb.tape, hb.output, hb.size, fun i hi _ => hb.block i hi⟩ ?_
  cases hv : v.ownBlock with
  | none => exact .inl rfl
  | some k => exact .inr (by simp)
theorem OwS.by_ {w : World} {base : Nat} {v : Value} {ss : List Sect} (h : OwS w base v ss) : ByS w w.heap.size v ss := by
  obtain ⟨vs, h1, h2, h3⟩ := h
  rcases Nat.eq_zero_or_pos ss.length with h0 | h0
  · have : ss = [] := List.eq_nil_of_length_eq_zero h0
    subst this
    have : vs = [] := List.eq_nil_of_length_eq_zero h1
    subst this
    rcases h2.2 with ⟨rfl, _⟩ | ⟨g, cap, cur, rfl, hg1, hg2, hg3, hg4, hg5⟩
    · exact ⟨none, 0, [], rfl, Nat.le_refl _, Nat.zero_le _, rfl, Rd.none_, fun i u s h => by simp at h⟩
    · exact ⟨_, cap, [], rfl, Nat.zero_le _, by omega, rfl, Rd.none_, fun i u s h => by simp at h⟩
  · obtain ⟨g, cap, rfl, _, _⟩ := h2.form h0
    have hr := Rd.of_own h2
    rcases h2.2 with ⟨h9, _⟩ | ⟨g', cap', cur, he, hg1, hg2, hg3, hg4, hg5⟩
    · cases h9
    · injection he with e1 e2 e3
      subst e3
      exact ⟨_, cap, vs, rfl, by omega, by omega, h1, hr, fun i u s hu hs => (h3 i u s hu hs).1.by_⟩

theorem infoSec3 : (Try.prog.info? 46).map (fun i => (i.zero, i.size, i.bytes)) = some (some (.agg #[.int .u8 0, .slice none 0 0]), 2, 32) := by kernel_rfl

/-- append(s, x), s the call's own row of Sections, x a Section whose body is the call's own -/
theorem wpList_appS {ops : Array Oper} {rest : List Oper} {o : Oper} {a : Act} {w : World} {Q : Exit → Act → World → Prop} (hgd : o.guard = none) (s x : Operand)
    (ho : o.op = .call { callee := .builtin .append, args := #[s, x], argTypes := #[48, 48] })
    {base : Nat} {v u : Value} {ss : List Sect} {k : UInt8} {l : List UInt8} (hown : OwS w base v ss) (hu : Ow w base u l) (hne : u.ownBlock = none ∨ u.ownBlock ≠ v.ownBlock) (g c : Nat)
    (hg : SecAt w g (.int .u8 (k.toNat : Int)) u) (hs : a.eval s = v) (hx : a.eval x = .slice (some ⟨g, 0, none⟩) 1 c) (hu1 : u.oneCell' = true)
    (hsz : ss.length ≤ 1099511627776) (hbase : base ≤ w.heap.size)
    (h : ∀ v' w', OwS w' base v' (ss ++ [(k, l)]) → Ext w w' v v' → wpList Try.prog ops Q rest (a.put o.dst v') w') : wpList Try.prog ops Q (o :: rest) a w := by
  obtain ⟨i, hi, hz0, hz1, hz2⟩ := info_parts infoSec3
  obtain ⟨vs, h1, h2, h3⟩ := hown
  have hrd : Rd w w.heap.size 2 (some ⟨g, 0, none⟩) 1 [b8 k, u] := ⟨rfl, fun _ => ⟨_, rfl, hg.lt, fun j u' hj => by
    match j, hj with
    | 0, hj => injection hj with hj; subst hj; exact hg.cell0
    | 1, hj => injection hj with hj; subst hj; exact hg.cell1
    | j + 2, hj => simp at hj⟩⟩
  refine wpList_plain hgd fun K hK => ?_
  obtain ⟨v', w', hr, h4, h5, h6⟩ := run_append_rd (P := Try.prog) w base 48 o.type 46 i (.agg #[.int .u8 0, .slice none 0 0]) 2 32 Try.underlying48 hi hz0 hz1 hz2 rfl (by omega) v ss.length (sCells ss vs) h2 w.heap.size _ 1 c [b8 k, u] hrd (by
      intro y hy
      simp at hy
      rcases hy with rfl | rfl
      · rfl
      · exact hu1)
    (by unfold maxLen; omega) (by omega) hbase
  unfold Oper.wp execOp
  simp only [ho, resolve, invoke, builtin, Sem.run_bind, Sem.run_pure, Result.andThen_ok, List.map_toArray, List.map_cons, List.map_nil, hs, hx, hr]
  have hlt := World.ownsRow.lt h2
  refine hK _ _ (h v' w' ⟨vs ++ [u], by simp [h1], ?_, ?_⟩ ⟨h5, ?_⟩)
  · rw [List.length_append, sCells_append _ _ _ _ h1]
    exact h4
  · intro j y z hy hz
    have hkeep : ∀ (y : Value) (l' : List UInt8), Ow w base y l' → (y.ownBlock = none ∨ y.ownBlock ≠ v.ownBlock) → Ow w' base y l' ∧ (y.ownBlock = none ∨ y.ownBlock ≠ v'.ownBlock) := by
      intro y l' ho hn
      refine ⟨ho.keep h5 hn, ?_⟩
      cases hy : y.ownBlock with
      | none => exact .inl rfl
      | some q =>
        rcases h6 with h6 | h6
        · rw [h6]; rw [hy] at hn; exact hn
        · rw [h6]
          have := (ho.blk q hy).2
          exact .inr (fun e => by injection e with e; omega)
    rcases Nat.lt_or_ge j ss.length with hj | hj
    · rw [List.getElem?_append_left (by omega)] at hy
      rw [List.getElem?_append_left (by omega)] at hz
      obtain ⟨h7, h8⟩ := h3 j y z hy hz
      exact hkeep y _ h7 h8
    · rw [List.getElem?_append_right (by omega)] at hy
      rw [List.getElem?_append_right (by omega)] at hz
      have hj0 : j - vs.length = 0 := by
        rcases Nat.eq_zero_or_pos (j - vs.length) with h | h
        · exact h
        · rw [List.getElem?_eq_none (by simp; omega)] at hy; cases hy
      have hj1 : j - ss.length = 0 := by omega
      rw [hj0] at hy
      rw [hj1] at hz
      injection hy with hy
      injection hz with hz
      subst hy
      subst hz
      exact hkeep u l hu hne
  · rcases h6 with h6 | h6
    · exact .inl h6
    · exact .inr fun k hk => by rw [h6] at hk; injection hk with hk; omega

/-! ### all sections of bytes -/
def allA : Nat → List UInt8 → List Sect → List Sect × Int
  | 0, _, acc => (acc, 0)
  | n + 1, b, acc => if b = [] then (acc, 0) else if sE b = 0 then allA n (b.drop (sN b)) (acc ++ [(sK b, sL b)]) else ([], sE b)
def allOf (b : List UInt8) : List Sect × Int := allA b.length b []
theorem allA_nil (n : Nat) (acc : List Sect) : allA n [] acc = (acc, 0) := by
  cases n <;> simp [allA]
theorem sN_pos (b : List UInt8) (h : sE b = 0) : 13 ≤ sN b ∧ sN b ≤ b.length := by
  have h1 : sN b = sLen b + 13 := by unfold sN; rw [if_pos h]
  rw [h1]
  refine ⟨by omega, ?_⟩
  unfold sE at h
  split at h
  · cases h
  split at h
  · cases h
  split at h
  · cases h
  split at h
  · cases h
  omega
theorem allA_fuel : ∀ (n m : Nat) (b : List UInt8) (acc : List Sect), b.length ≤ n → b.length ≤ m → allA n b acc = allA m b acc
  | 0, m, b, acc, h, _ => by
    have : b = [] := List.eq_nil_of_length_eq_zero (by omega)
    subst this
    rw [allA_nil, allA_nil]
  | n + 1, 0, b, acc, _, h => by
    have : b = [] := List.eq_nil_of_length_eq_zero (by omega)
    subst this
    rw [allA_nil, allA_nil]
  | n + 1, m + 1, b, acc, h1, h2 => by
    unfold allA
    split
    · rfl
    · split
      · rename_i h3
        have := sN_pos b h3
        exact allA_fuel n m _ _ (by simp; omega) (by simp; omega)
      · rfl
theorem allA_step (b : List UInt8) (acc : List Sect) (h : b ≠ []) (hE : sE b = 0) : allA b.length b acc = allA (b.drop (sN b)).length (b.drop (sN b)) (acc ++ [(sK b, sL b)]) := by
  obtain ⟨n, hn⟩ : ∃ n, b.length = n + 1 := ⟨b.length - 1, by have := List.length_pos_iff.2 h; omega⟩
  have hp := sN_pos b hE
  rw [hn]
  show (if b = [] then _ else if sE b = 0 then _ else _) = _
  rw [if_neg h, if_pos hE]
  exact allA_fuel _ _ _ _ (by simp; omega) (Nat.le_refl _)
theorem allA_err (b : List UInt8) (acc : List Sect) (h : b ≠ []) (hE : sE b ≠ 0) : allA b.length b acc = ([], sE b) := by
  obtain ⟨n, hn⟩ : ∃ n, b.length = n + 1 := ⟨b.length - 1, by have := List.length_pos_iff.2 h; omega⟩
  rw [hn]
  show (if b = [] then _ else if sE b = 0 then _ else _) = _
  rw [if_neg h, if_neg hE]
end Go.Proofs.Ytneihfmacljjbaa
