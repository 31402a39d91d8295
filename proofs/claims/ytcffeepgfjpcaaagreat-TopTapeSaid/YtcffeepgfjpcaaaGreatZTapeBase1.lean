/- Lemmas for the law TapeBase: Words for memory and for numbers, used by all walks of this seat: what a slice value reads as, what a call leaves below. No condition.; The model's integer operations at UInt8, UInt32, UInt64, as rules of the walk: a value of such a kind is written by its UInt. No condition.; Rows of bytes: append, new rows, whole reads, as laws of the walk; slices.Clone and slices.Equal at bytes. The rows are readable slices.; Rows of anything: how a thing lies in cells (a codec), slices that read as a list, rows of the call's own; append, load and store laws.; Cells put one behind the other; what a call has changed.; Disks: how one lies in memory; its blocks, what waits.; Disks: what each deed does, in plain.; A region that draws its order: if each operation, in whatever later world, from operands that meet their own facts, yields a value that meets its fact, then the region's end meets all facts, whatever the order. The facts are such as later worlds keep. No condition beyond these.; Regions that draw their order and end in operations that wait for all others (an append, a store): the others by facts on their values, the end in its own order.; A region that draws its order, in which ONE operation (a call) changes the world, and whose end waits for all the others: the others by facts on their values, which speak of no world.; A region that draws its order, in which SOME operations change the world: what holds of the world is told by which operations have come up (J), the others by facts on . No condition. -/
import Derived.WalkKit
import Derived.WalkSpells
import Derived.WalkLawsBesides
import Derived.Deep.AppendLies
import Derived.Deep.Draws
import Derived.Deep.QuietTactic
import Derived.BigQuiet
import Derived.Lib.Hide
import Derived.Laws.BitsAllLaws
import Derived.Test.YtcffeepgfjpcaaaGreatRows
import Derived.Laws.IdiomCopy
import Derived.Deep.MidRow
import Derived.RegionTactic
import Derived.Great.BuildSlice
import Derived.Deep.WholeRow
import Derived.StillTailTactics
import Derived.Outline
import Derived.Lib.BitFns
import Derived.ChangeArms
import Derived.DataReads
import Derived.WideShapes
import Derived.ProofKit
import Derived.OpenShut
import Derived.ShutString
import Derived.ChangeOld
import Derived.Below
import Derived.Carry
import Derived.Lib.SmallJoins
import Derived.ChangeAlike
import Derived.Laws.StructEq
import Derived.Shelf.Slices.SearchI
import Derived.Shelf.Slices.Empties
import Derived.Shelf.Spec.SlicesInsertGrow
import Derived.Test.YtcffeepgfjpcaaaGreatProg
import Derived.Laws.MakeOwn
import Derived.Deep.RegionLaw
namespace Go.Proofs.YtcffeepgfjpcaaaGreat
set_option linter.unusedSimpArgs false
set_option linter.unusedVariables false
open Go.RowKit

/-! ### addresses -/
theorem add_block (a : Addr) (n : Nat) : (a.add n).block = a.block := by unfold Addr.add; split <;> rfl
theorem add_add (a : Addr) (i j : Nat) : (a.add i).add j = a.add (i + j) := by
  unfold Addr.add
  by_cases hi : i = 0 <;> by_cases hj : j = 0 <;> simp [hi, hj, Nat.add_assoc]
theorem add_zero' (a : Addr) : a.add 0 = a := by simp [Addr.add]

/-! ### 'Below' once more -/
theorem bdrewN {B : Nat} {a w : World} (h : Below B a w) (n : Nat) : Below B a (w.drewN n) := ⟨h.os, h.tape, h.output, h.size, h.block⟩
theorem bsetRow {B : Nat} {a w : World} (h : Below B a w) {g : Nat} (hg : B ≤ g) (cs : Array Value) : Below B a (w.setRow g cs) :=
  h.trans ⟨rfl, rfl, rfl, by simp, fun k hk => setRow_other w g k cs (by omega)⟩
theorem bstep {a b c : World} (h : Below a.heap.size a b) (k : Below b.heap.size b c) : Below a.heap.size a c := h.trans (k.mono h.size)
theorem bstepB {B : Nat} {a b c : World} (h : Below B a b) (k : Below b.heap.size b c) (hB : B ≤ b.heap.size) : Below B a c := h.trans (k.mono hB)
theorem balloc (w : World) (o : Obj) : Below w.heap.size w (w.alloc o) := (Below.refl _ _).alloc (Nat.le_refl _) o

/-! ### a slice that reads as a list of cells; nil let in -/
/-- the slice address A with n elements of 'size' cells reads as xs, all in blocks below B -/
def Rd (w : World) (B size : Nat) (A : Option Addr) (n : Nat) (xs : List Value) : Prop :=
  xs.length = n * size ∧ (0 < n → ∃ ad, A = some ad ∧ ad.block < B ∧ ∀ j u, xs[j]? = some u → w.cell? (ad.add j) = some u)

section
variable {w w' : World} {B B' size n : Nat} {A : Option Addr} {xs : List Value}
theorem Rd.none_ : Rd w B size A 0 [] := ⟨by simp, fun h => absurd h (by omega)⟩
theorem Rd.ad (h : Rd w B size A n xs) (hn : 0 < n) : ∃ ad, A = some ad ∧ ad.block < B ∧ ∀ j u, xs[j]? = some u → w.cell? (ad.add j) = some u := h.2 hn
theorem Rd.keep (h : Rd w B size A n xs) (hk : ∀ p : Addr, p.block < B → w'.cell? p = w.cell? p) : Rd w' B size A n xs :=
  ⟨h.1, fun hn => by
    obtain ⟨ad, e, hb, hc⟩ := h.2 hn
    exact ⟨ad, e, hb, fun j u hu => (hk _ (by rw [add_block]; exact hb)).trans (hc j u hu)⟩⟩
theorem Rd.more (h : Rd w B size A n xs) (hB : B ≤ B') : Rd w B' size A n xs :=
  ⟨h.1, fun hn => by
    obtain ⟨ad, e, hb, hc⟩ := h.2 hn
    exact ⟨ad, e, by omega, hc⟩⟩
theorem Rd.below (h : Rd w B size A n xs) (hb : Below B w w') : Rd w' B size A n xs := h.keep fun _ hp => hb.cell hp
theorem Rd.alloc (h : Rd w B size A n xs) (hB : B ≤ w.heap.size) (o : Obj) : Rd (w.alloc o) B size A n xs := h.keep fun p hp => World.cell?_alloc_lt w o p (by omega)
theorem Rd.cut (h : Rd w B size A n xs) {k cap : Nat} (hk : k ≤ n) (hc : n ≤ cap) :
    Rd w B size (if cap = k then A else A.map (·.add (k * size))) (n - k) (xs.drop (k * size)) := by
  refine ⟨by rw [List.length_drop, h.1, Nat.sub_mul], fun hn => ?_⟩
  obtain ⟨ad, rfl, hb, hcell⟩ := h.2 (by omega)
  rw [if_neg (by omega)]
  refine ⟨ad.add (k * size), rfl, by rw [add_block]; exact hb, fun j u hu => ?_⟩
  rw [add_add]
  exact hcell _ u (by rw [← hu, List.getElem?_drop])
theorem Rd.front (h : Rd w B size A n xs) {k : Nat} (hk : k ≤ n) : Rd w B size A k (xs.take (k * size)) := by
  refine ⟨by rw [List.length_take, h.1]; exact Nat.min_eq_left (Nat.mul_le_mul_right _ hk), fun hn => ?_⟩
  obtain ⟨ad, rfl, hb, hcell⟩ := h.2 (by omega)
  refine ⟨ad, rfl, hb, fun j u hu => hcell j u ?_⟩
  rw [List.getElem?_take] at hu
  split at hu
  · exact hu
  · cases hu
theorem Rd.of_own {base : Nat} {e : TypeId} {c : Nat} (h : w.ownsRow base e size (.slice A n c) n xs) : Rd w w.heap.size size A n xs := by
  refine ⟨h.1, fun hn => ?_⟩
  obtain ⟨g, cap, hv, _, hlt⟩ := h.form hn
  have hA : A = some ⟨g, 0, none⟩ := by injection hv
  subst hA
  exact ⟨_, rfl, hlt, h.cells (g := g) rfl⟩
end

/-! ### append from any readable source -/
section
variable {P : Program} (w : World)

theorem run_append_of_nil (base : Nat) (t ty e : TypeId) (i : TypeInfo) (size : Nat) (ht : P.underlying t = some (.slice e)) (hi : P.info? e = some i)
    (v : Value) (n : Nat) (xs : List Value) (hown : w.ownsRow base e size v n xs) (c : Nat) : (Builtin.append_ #[t, t] ty #[v, .slice none 0 c]).run P w = .ok v w := by
  rcases hown.2 with ⟨rfl, rfl⟩ | ⟨g, cap, cur, rfl, _, _, hnc, _⟩
  · simp [Builtin.append_, run_underlying ht, sizeOf, typeInfo, hi, Builtin.lenOf, Builtin.firstCells]
  · simp [Builtin.append_, run_underlying ht, sizeOf, typeInfo, hi, Builtin.lenOf, Builtin.firstCells, hnc, storeCells]

theorem run_append_rd (base : Nat) (t ty e : TypeId) (i : TypeInfo) (z : Value) (size bytes : Nat) (ht : P.underlying t = some (.slice e)) (hi : P.info? e = some i) (hz : i.zero = some z)
    (hsize : i.size = size) (hby : i.bytes = bytes) (hzs : z.cells.size = size) (hsz : 0 < size)
    (v : Value) (n : Nat) (xs : List Value) (hown : w.ownsRow base e size v n xs)
    (B : Nat) (A : Option Addr) (m c : Nat) (news : List Value) (hr : Rd w B size A m news) (h1 : ∀ u ∈ news, u.oneCell' = true)
    (h63 : n + m ≤ maxLen) (hbytes : (n + m) * bytes ≤ 140737488355328) (hbase : base ≤ w.heap.size) :
    ∃ v' w', (Builtin.append_ #[t, t] ty #[v, .slice A m c]).run P w = .ok v' w' ∧ w'.ownsRow base e size v' (n + m) (xs ++ news) ∧ w.grownBy w' v.ownBlock ∧
      (v'.ownBlock = v.ownBlock ∨ v'.ownBlock = some w.heap.size) := by
  rcases A with _ | ad
  · have hm : m = 0 := by
      rcases Nat.eq_zero_or_pos m with h0 | h0
      · exact h0
      · obtain ⟨ad, h, _⟩ := hr.2 h0
        cases h
    subst hm
    have hn : news = [] := List.eq_nil_of_length_eq_zero (by simpa using hr.1)
    subst hn
    exact ⟨v, w, run_append_of_nil w base t ty e i size ht hi v n xs hown c, by simpa using hown, World.grownBy.refl w _, .inl rfl⟩
  · have hcells : ∀ j u, news[j]? = some u → w.cell? (ad.add j) = some u := by
      intro j u hu
      rcases Nat.eq_zero_or_pos m with h0 | h0
      · subst h0
        have hn : news = [] := List.eq_nil_of_length_eq_zero (by simpa using hr.1)
        subst hn
        simp at hu
      · obtain ⟨ad', h, _, hc⟩ := hr.2 h0
        injection h with h
        subst h
        exact hc j u hu
    obtain ⟨v', w', hrun, h2, h3, _, h5⟩ := run_append_own_at (P := P) w base t ty e i z size bytes ht hi hz hsize hby hzs hsz v n xs hown ad m c news hr.1 hcells h1 h63 hbytes hbase
    exact ⟨v', w', hrun, h2, h3, h5⟩
end

/-! ### a whole struct or array, stored into a block -/
section
variable {P : Program}
theorem run_storeVar_at (w : World) (g o : Nat) (t ty : TypeId) (cur vals : Array Value) (hg : w.heap[g]? = some (.cells cur t (0, 0))) (hi : (P.info? ty).map (·.size) = some vals.size)
    (hfit : o + vals.size ≤ cur.size) (h1 : ∀ v ∈ vals.toList, v.oneCell' = true) :
    (storeVar ty ⟨g, o, none⟩ (.agg vals)).run P w = .ok () (w.setRow g (cur.toList.take o ++ vals.toList ++ cur.toList.drop (o + vals.size)).toArray) := by
  have hst := run_storeCells_at P g o t vals.toList 0 cur w hg (by simpa using hfit) h1
  cases hq : P.info? ty with
  | none => simp [hq] at hi
  | some i =>
    have hs : i.size = vals.size := by simpa [hq] using hi
    simp [storeVar, Value.cells, sizeOf, typeInfo, hq, hs, hst]
theorem run_storeVar_row (w : World) (g : Nat) (t ty : TypeId) (cur vals : Array Value) (hg : w.heap[g]? = some (.cells cur t (0, 0))) (hi : (P.info? ty).map (·.size) = some vals.size)
    (hfit : vals.size = cur.size) (h1 : ∀ v ∈ vals.toList, v.oneCell' = true) : (storeVar ty ⟨g, 0, none⟩ (.agg vals)).run P w = .ok () (w.setRow g vals) := by
  rw [run_storeVar_at w g 0 t ty cur vals hg hi (by omega) h1]
  have : cur.toList.drop (0 + vals.size) = [] := List.drop_eq_nil_of_le (by simp; omega)
  rw [this]
  simp
theorem wpList_store_row {ops : Array Oper} {rest : List Oper} {o : Oper} {a : Act} {w : World} {Q : Exit → Act → World → Prop} (hgd : o.guard = none) (ty : TypeId) (x y : Operand) (ho : o.op = .store ty x y)
    (g : Nat) (vals : Array Value) (hx : a.eval x = .pointer (some ⟨g, 0, none⟩)) (hy : a.eval y = .agg vals) (t : TypeId) (cur : Array Value) (hg : w.heap[g]? = some (.cells cur t (0, 0)))
    (hi : (P.info? ty).map (·.size) = some vals.size) (hfit : vals.size = cur.size) (h1 : ∀ v ∈ vals.toList, v.oneCell' = true)
    (h : wpList P ops Q rest (a.put o.dst undef) (w.setRow g vals)) : wpList P ops Q (o :: rest) a w :=
  wpList_plain hgd fun K hK => by
    unfold Oper.wp execOp
    simp only [ho, hx, hy, Instr.storeAt, Instr.sureAddr, Sem.run_bind, Sem.run_pure, Result.andThen_ok, run_storeVar_row w g t ty cur vals hg hi hfit h1]
    exact hK _ _ h
end

/-! ### bytes -/
/-- a byte as a value -/
def b8 (b : UInt8) : Value := .int .u8 (b.toNat : Int)
/-- the cells of a list of bytes -/
def b8s (l : List UInt8) : List Value := l.map b8
theorem b8s_length (l : List UInt8) : (b8s l).length = l.length := by simp [b8s]
theorem b8s_get (l : List UInt8) (k : Nat) (h : k < l.length) : (b8s l)[k]? = some (.int .u8 ((l[k]).toNat : Int)) := by simp [b8s, h, b8]
theorem b8s_append (a b : List UInt8) : b8s (a ++ b) = b8s a ++ b8s b := by simp [b8s]
theorem b8s_one (l : List UInt8) : ∀ u ∈ b8s l, u.oneCell' = true := by
  intro u hu
  obtain ⟨_, _, rfl⟩ := List.mem_map.1 hu
  rfl

/-- the value v is a slice of bytes that reads as l, in blocks below B -/
def By (w : World) (B : Nat) (v : Value) (l : List UInt8) : Prop :=
  ∃ A c, v = .slice A l.length c ∧ l.length ≤ c ∧ c ≤ maxLen ∧ Rd w B 1 A l.length (b8s l)

/-- the value v is a slice of bytes of the call's own, all of whose cells lie in blocks from base on -/
def Ow (w : World) (base : Nat) (v : Value) (l : List UInt8) : Prop := w.ownsRow base 5 1 v l.length (b8s l)

section
variable {w w' : World} {B B' : Nat} {v : Value} {l : List UInt8}
theorem By.below (h : By w B v l) (hb : Below B w w') : By w' B v l := by
  obtain ⟨A, c, h1, h2, h3, h4⟩ := h
  exact ⟨A, c, h1, h2, h3, h4.below hb⟩
theorem By.more (h : By w B v l) (hB : B ≤ B') : By w B' v l := by
  obtain ⟨A, c, h1, h2, h3, h4⟩ := h
  exact ⟨A, c, h1, h2, h3, h4.more hB⟩
theorem By.alloc (h : By w B v l) (hB : B ≤ w.heap.size) (o : Obj) : By (w.alloc o) B v l := by
  obtain ⟨A, c, h1, h2, h3, h4⟩ := h
  exact ⟨A, c, h1, h2, h3, h4.alloc hB o⟩
theorem By.step (h : By w w.heap.size v l) (hb : Below w.heap.size w w') : By w' w'.heap.size v l := (h.below hb).more hb.size
theorem By.nil_ : By w B (.slice none 0 0) [] := ⟨none, 0, rfl, Nat.le_refl _, Nat.zero_le _, Rd.none_⟩
theorem Ow.by_ {base : Nat} (h : Ow w base v l) : By w w.heap.size v l := by
  unfold Ow at h
  rcases h.2 with ⟨rfl, hn⟩ | ⟨g, cap, cur, rfl, _, hg, hnc, hcm, _⟩
  · have : l = [] := List.eq_nil_of_length_eq_zero hn
    subst this
    exact By.nil_
  · exact ⟨_, cap, rfl, hnc, hcm, Rd.of_own h⟩
theorem Ow.mono {base base' : Nat} (h : Ow w base v l) (hb : base' ≤ base) : Ow w base' v l := by
  refine ⟨h.1, ?_⟩
  rcases h.2 with h2 | ⟨g, cap, cur, h1, h2, h3⟩
  · exact .inl h2
  · exact .inr ⟨g, cap, cur, h1, Nat.le_trans hb h2, h3⟩
end

/-- one new cell reads as a row of one -/
theorem rd1 (w : World) (x : Value) (t : TypeId) (hx : x.oneCell' = true) : Rd (w.alloc (.cells #[x] t)) (w.alloc (.cells #[x] t)).heap.size 1 (some ⟨w.heap.size, 0, none⟩) 1 [x] :=
  have _ := hx
  ⟨rfl, fun _ => ⟨_, rfl, by simp, cell_one_new w x t⟩⟩
theorem one_by {w : World} {B : Nat} {v : Value} {l : List UInt8} (h : By w B v l) : ∀ k (h1 : k < [v].length) (h2 : k < [l].length), By w B [v][k] [l][k] := by
  intro k h1 h2
  have : k = 0 := by simp at h1; omega
  subst this
  exact h
end Go.Proofs.YtcffeepgfjpcaaaGreat

namespace Go.Proofs.YtcffeepgfjpcaaaGreat
set_option linter.unusedSimpArgs false
set_option linter.unusedVariables false

theorem u8_lt (x : UInt8) : x.toNat < 256 := x.toNat_lt
theorem u16_lt (x : UInt16) : x.toNat < 65536 := x.toNat_lt
theorem u32_lt (x : UInt32) : x.toNat < 4294967296 := x.toNat_lt
theorem u64_lt (x : UInt64) : x.toNat < 18446744073709551616 := x.toNat_lt

/-! conversions -/
theorem wrap_u8_u8 (x : UInt8) : IntKind.u8.wrap (x.toNat : Int) = (x.toNat : Int) := by rw [IntKind.wrap_u8']; have := u8_lt x; omega
theorem wrap_u8_u32 (x : UInt32) : IntKind.u8.wrap (x.toNat : Int) = (x.toUInt8.toNat : Int) := by
  rw [IntKind.wrap_u8', UInt32.toNat_toUInt8]; simp
theorem wrap_u8_u64 (x : UInt64) : IntKind.u8.wrap (x.toNat : Int) = (x.toUInt8.toNat : Int) := by
  rw [IntKind.wrap_u8', UInt64.toNat_toUInt8]; simp
theorem wrap_u32_u8 (x : UInt8) : IntKind.u32.wrap (x.toNat : Int) = (x.toUInt32.toNat : Int) := by
  rw [IntKind.wrap_u32', UInt8.toNat_toUInt32]; have := u8_lt x; omega
theorem wrap_u32_u32 (x : UInt32) : IntKind.u32.wrap (x.toNat : Int) = (x.toNat : Int) := by rw [IntKind.wrap_u32']; have := u32_lt x; omega
theorem wrap_u32_u64 (x : UInt64) : IntKind.u32.wrap (x.toNat : Int) = (x.toUInt32.toNat : Int) := by
  rw [IntKind.wrap_u32', UInt64.toNat_toUInt32]; simp
theorem wrap_u64 (n : Int) : IntKind.u64.wrap n = n % 18446744073709551616 := by simp [IntKind.wrap, IntKind.bits, IntKind.signed]
theorem wrap_i64 (n : Int) : IntKind.i64.wrap n = (n + 9223372036854775808) % 18446744073709551616 - 9223372036854775808 := by
  simp [IntKind.wrap, IntKind.bits, IntKind.signed]
  omega
theorem wrap_u64_u8 (x : UInt8) : IntKind.u64.wrap (x.toNat : Int) = (x.toUInt64.toNat : Int) := by
  rw [wrap_u64, UInt8.toNat_toUInt64]; have := u8_lt x; omega
theorem wrap_u64_u32 (x : UInt32) : IntKind.u64.wrap (x.toNat : Int) = (x.toUInt64.toNat : Int) := by
  rw [wrap_u64, UInt32.toNat_toUInt64]; have := u32_lt x; omega
theorem wrap_u64_u64 (x : UInt64) : IntKind.u64.wrap (x.toNat : Int) = (x.toNat : Int) := by rw [wrap_u64]; have := u64_lt x; omega
theorem wrap_i64_u8 (x : UInt8) : IntKind.i64.wrap (x.toNat : Int) = (x.toNat : Int) := by rw [wrap_i64]; have := u8_lt x; omega
theorem wrap_i64_u32 (x : UInt32) : IntKind.i64.wrap (x.toNat : Int) = (x.toNat : Int) := by rw [wrap_i64]; have := u32_lt x; omega

/-! bits -/
theorem and_u8 (a b : UInt8) : bits .and .u8 (a.toNat : Int) (b.toNat : Int) = ((a &&& b).toNat : Int) := by rw [u8_and_nat _ _ (u8_lt a) (u8_lt b), UInt8.toNat_and]
theorem or_u8 (a b : UInt8) : bits .or .u8 (a.toNat : Int) (b.toNat : Int) = ((a ||| b).toNat : Int) := by rw [u8_or_nat _ _ (u8_lt a) (u8_lt b), UInt8.toNat_or]
theorem xor_u8 (a b : UInt8) : bits .xor .u8 (a.toNat : Int) (b.toNat : Int) = ((a ^^^ b).toNat : Int) := by rw [u8_xor_nat _ _ (u8_lt a) (u8_lt b), UInt8.toNat_xor]
theorem and_u32 (a b : UInt32) : bits .and .u32 (a.toNat : Int) (b.toNat : Int) = ((a &&& b).toNat : Int) := by rw [u32_and_nat _ _ (u32_lt a) (u32_lt b), UInt32.toNat_and]
theorem or_u32 (a b : UInt32) : bits .or .u32 (a.toNat : Int) (b.toNat : Int) = ((a ||| b).toNat : Int) := by rw [u32_or_nat _ _ (u32_lt a) (u32_lt b), UInt32.toNat_or]
theorem xor_u32 (a b : UInt32) : bits .xor .u32 (a.toNat : Int) (b.toNat : Int) = ((a ^^^ b).toNat : Int) := by rw [u32_xor_nat _ _ (u32_lt a) (u32_lt b), UInt32.toNat_xor]
theorem and_u64 (a b : UInt64) : bits .and .u64 (a.toNat : Int) (b.toNat : Int) = ((a &&& b).toNat : Int) := by rw [u64_and_nat _ _ (u64_lt a) (u64_lt b), UInt64.toNat_and]
theorem or_u64 (a b : UInt64) : bits .or .u64 (a.toNat : Int) (b.toNat : Int) = ((a ||| b).toNat : Int) := by rw [u64_or_nat _ _ (u64_lt a) (u64_lt b), UInt64.toNat_or]
theorem xor_u64 (a b : UInt64) : bits .xor .u64 (a.toNat : Int) (b.toNat : Int) = ((a ^^^ b).toNat : Int) := by rw [u64_xor_nat _ _ (u64_lt a) (u64_lt b), UInt64.toNat_xor]

/-! shifts by a literal -/
theorem shr_u32 (a : UInt32) (k : Nat) (hk : k < 32) : ((a.toNat : Int)).fdiv (2 ^ k) = ((a >>> (UInt32.ofNat k)).toNat : Int) := by
  have h : (UInt32.ofNat k).toNat % 32 = k := by rw [UInt32.toNat_ofNat']; omega
  rw [UInt32.toNat_shiftRight, h, Nat.shiftRight_eq_div_pow, Int.fdiv_eq_ediv_of_nonneg _ (by exact Int.le_of_lt (Int.pow_pos (by decide)))]
  simp
theorem shr_u64 (a : UInt64) (k : Nat) (hk : k < 64) : ((a.toNat : Int)).fdiv (2 ^ k) = ((a >>> (UInt64.ofNat k)).toNat : Int) := by
  have h : (UInt64.ofNat k).toNat % 64 = k := by rw [UInt64.toNat_ofNat']; omega
  rw [UInt64.toNat_shiftRight, h, Nat.shiftRight_eq_div_pow, Int.fdiv_eq_ediv_of_nonneg _ (by exact Int.le_of_lt (Int.pow_pos (by decide)))]
  simp
theorem not_u32 (a : UInt32) : IntKind.u32.wrap (-(a.toNat : Int) - 1) = ((~~~a).toNat : Int) := by
  have := u32_lt a
  rw [IntKind.wrap_u32', UInt32.toNat_not]; simp only [UInt32.size]; omega
theorem not_u64 (a : UInt64) : IntKind.u64.wrap (-(a.toNat : Int) - 1) = ((~~~a).toNat : Int) := by
  have := u64_lt a
  rw [wrap_u64, UInt64.toNat_not]; simp only [UInt64.size]; omega
theorem mul_u32 (a b : UInt32) : IntKind.u32.wrap ((a.toNat : Int) * (b.toNat : Int)) = ((a * b).toNat : Int) := by
  rw [IntKind.wrap_u32', UInt32.toNat_mul]; simp
theorem mul_u64 (a b : UInt64) : IntKind.u64.wrap ((a.toNat : Int) * (b.toNat : Int)) = ((a * b).toNat : Int) := by
  rw [wrap_u64, UInt64.toNat_mul]; simp
theorem add_u32 (a b : UInt32) : IntKind.u32.wrap ((a.toNat : Int) + (b.toNat : Int)) = ((a + b).toNat : Int) := by
  rw [IntKind.wrap_u32', UInt32.toNat_add]; simp
theorem add_u64 (a b : UInt64) : IntKind.u64.wrap ((a.toNat : Int) + (b.toNat : Int)) = ((a + b).toNat : Int) := by
  rw [wrap_u64, UInt64.toNat_add]; simp

theorem compl_u32 (a : UInt32) : bits .xor .u32 IntKind.u32.max (a.toNat : Int) = ((~~~a).toNat : Int) := by
  have h : (-1 : UInt32) ^^^ a = ~~~a := by rw [UInt32.xor_comm, UInt32.xor_neg_one]
  rw [← h, ← xor_u32]; rfl
theorem compl_u64 (a : UInt64) : bits .xor .u64 IntKind.u64.max (a.toNat : Int) = ((~~~a).toNat : Int) := by
  have h : (-1 : UInt64) ^^^ a = ~~~a := by rw [UInt64.xor_comm, UInt64.xor_neg_one]
  rw [← h, ← xor_u64]; rfl

/-! in the walk's own forms: a conversion to uint8 is '% 256', a shift is a division -/
theorem mod_u8_u32 (x : UInt32) : (x.toNat : Int) % 256 = (x.toUInt8.toNat : Int) := by rw [← wrap_u8_u32, IntKind.wrap_u8']
theorem mod_u8_u64 (x : UInt64) : (x.toNat : Int) % 256 = (x.toUInt8.toNat : Int) := by rw [← wrap_u8_u64, IntKind.wrap_u8']
theorem div_u32 (x : UInt32) (k : Nat) (hk : k < 32) (d : Int) (hd : d = 2 ^ k) : (x.toNat : Int) / d = ((x >>> UInt32.ofNat k).toNat : Int) := by
  rw [hd, ← shr_u32 x k hk, Int.fdiv_eq_ediv_of_nonneg _ (by exact Int.le_of_lt (Int.pow_pos (by decide)))]
theorem div_u64 (x : UInt64) (k : Nat) (hk : k < 64) (d : Int) (hd : d = 2 ^ k) : (x.toNat : Int) / d = ((x >>> UInt64.ofNat k).toNat : Int) := by
  rw [hd, ← shr_u64 x k hk, Int.fdiv_eq_ediv_of_nonneg _ (by exact Int.le_of_lt (Int.pow_pos (by decide)))]
end Go.Proofs.YtcffeepgfjpcaaaGreat

namespace Go.Proofs.YtcffeepgfjpcaaaGreat
set_option linter.unusedSimpArgs false
set_option linter.unusedVariables false
open Go.RowKit

/-! ### what an append onto an own row leaves -/
structure Ext (w w' : World) (v v' : Value) : Prop where
  gr : w.grownBy w' v.ownBlock
  at_ : v'.ownBlock = v.ownBlock ∨ ∀ k, v'.ownBlock = some k → w.heap.size ≤ k
theorem Ext.refl (w : World) (v : Value) : Ext w w v v := ⟨World.grownBy.refl _ _, .inl rfl⟩
theorem Ext.trans {a b c : World} {u v x : Value} (h : Ext a b u v) (k : Ext b c v x) : Ext a c u x := by
  refine ⟨⟨k.gr.os.trans h.gr.os, k.gr.tape.trans h.gr.tape, k.gr.output.trans h.gr.output, Nat.le_trans h.gr.size k.gr.size, fun i hi hne => ?_⟩, ?_⟩
  · refine (k.gr.block i (Nat.lt_of_lt_of_le hi h.gr.size) (fun e => ?_)).trans (h.gr.block i hi hne)
    rcases h.at_ with h1 | h1
    · exact hne (by rw [e, h1])
    · exact absurd (h1 i e.symm) (by omega)
  · rcases k.at_ with k1 | k1
    · rcases h.at_ with h1 | h1
      · exact .inl (k1.trans h1)
      · exact .inr fun i hi => h1 i (by rw [← k1]; exact hi)
    · exact .inr fun i hi => Nat.le_trans h.gr.size (k1 i hi)
theorem Ext.below {w w' : World} {v v' : Value} (h : Ext w w' v v') {B : Nat} (hB : B ≤ w.heap.size) (hv : ∀ k, v.ownBlock = some k → B ≤ k) : Below B w w' :=
  (Below.refl B w).grown h.gr hB hv
theorem Ext.after {a w w' : World} {v v' : Value} (h : Ext w w' v v') (hb : Below a.heap.size a w) (row : Value) (hv : v.ownBlock = row.ownBlock) : Ext a w' row v' := by
  refine ⟨⟨h.gr.os.trans hb.os, h.gr.tape.trans hb.tape, h.gr.output.trans hb.output, Nat.le_trans hb.size h.gr.size, fun i hi hne => ?_⟩, ?_⟩
  · exact (h.gr.block i (Nat.lt_of_lt_of_le hi hb.size) (by rw [hv]; exact hne)).trans (hb.block i hi)
  · rcases h.at_ with h1 | h1
    · exact .inl (h1.trans hv)
    · exact .inr fun k hk => Nat.le_trans hb.size (h1 k hk)
theorem Ext.then_ {w w' w'' : World} {v v' : Value} (h : Ext w w' v v') (hb : Below w'.heap.size w' w'') : Ext w w'' v v' :=
  ⟨⟨hb.os.trans h.gr.os, hb.tape.trans h.gr.tape, hb.output.trans h.gr.output, Nat.le_trans h.gr.size hb.size, fun i hi hne => (hb.block i (Nat.lt_of_lt_of_le hi h.gr.size)).trans (h.gr.block i hi hne)⟩, h.at_⟩

/-! ### own rows of bytes -/
theorem info8 : (Tryz.prog.info? 5).map (fun i => (i.zero, i.size, i.bytes)) = some (some (.int .u8 0), 1, 1) := by kernel_rfl
theorem size8 : (Tryz.prog.info? 5).map (·.size) = some 1 := by kernel_rfl
section
variable {w w' : World} {base B : Nat} {v : Value} {l : List UInt8}
theorem Ow.blk (h : Ow w base v l) : ∀ k, v.ownBlock = some k → base ≤ k ∧ k < w.heap.size := World.ownsRow.lt h
theorem Ow.keep (h : Ow w base v l) {row : Option Nat} (hg : w.grownBy w' row) (hne : v.ownBlock = none ∨ v.ownBlock ≠ row) : Ow w' base v l := World.ownsRow.kept h hg hne
theorem Ow.below_ (h : Ow w base v l) (hb : Below w.heap.size w w') : Ow w' base v l :=
  World.ownsRow.kept h (row := none) ⟨hb.os, hb.tape, hb.output, hb.size, fun k hk _ => hb.block k hk⟩ (by cases hv : v.ownBlock <;> simp)
theorem Ow.nil_ (w : World) (base : Nat) : Ow w base (.slice none 0 0) [] := World.ownsRow_nil _ _ _ _
theorem Ow.alloc (h : Ow w base v l) (o : Obj) : Ow (w.alloc o) base v l := World.ownsRow.alloc h o
theorem Ow.form (h : Ow w base v l) (hl : l ≠ []) : ∃ g cap, v = .slice (some ⟨g, 0, none⟩) l.length cap ∧ l.length ≤ cap ∧ cap ≤ maxLen ∧ base ≤ g ∧ g < w.heap.size := by
  obtain ⟨g, cap, hv, hb, hlt⟩ := World.ownsRow.form (size := 1) h (List.length_pos_iff.2 hl)
  rcases h.2 with ⟨rfl, _⟩ | ⟨g', cap', cur, hv', _, _, h1, h2, _⟩
  · cases hv
  · rw [hv] at hv'
    injection hv' with e1 e2 e3
    subst e3
    exact ⟨g, cap, hv, h1, h2, hb, hlt⟩
end

/-- a new row of bytes, written out -/
theorem By.new_ (w : World) (l : List UInt8) (hm : l.length ≤ maxLen) : By (w.alloc (.cells (b8s l).toArray 5)) (w.heap.size + 1) (.slice (some ⟨w.heap.size, 0, none⟩) l.length l.length) l :=
  ⟨_, _, rfl, Nat.le_refl _, hm, by simp [b8s_length], fun _ => ⟨_, rfl, by simp, fun j u hu => World.news_of_block (heap_alloc_new w _) j u (by simpa using hu)⟩⟩
theorem By.newF (w : World) (l : List UInt8) (hm : l.length ≤ maxLen) (fr : Nat × Nat) : By (w.alloc (.cells (b8s l).toArray 5 fr)) (w.heap.size + 1) (.slice (some ⟨w.heap.size, 0, none⟩) l.length l.length) l :=
  ⟨_, _, rfl, Nat.le_refl _, hm, by simp [b8s_length], fun _ => ⟨_, rfl, by simp, fun j u hu => World.news_of_block (heap_alloc_new w _) j u (by simpa using hu)⟩⟩
theorem Ow.new_ (w : World) (l : List UInt8) (hm : l.length ≤ maxLen) : Ow (w.alloc (.cells (b8s l).toArray 5)) w.heap.size (.slice (some ⟨w.heap.size, 0, none⟩) l.length l.length) l := by
  refine ⟨by simp [b8s_length], .inr ⟨w.heap.size, l.length, _, rfl, Nat.le_refl _, heap_alloc_new w _, Nat.le_refl _, hm, by simp [b8s_length], ?_⟩⟩
  exact List.take_of_length_le (by simp [b8s_length])

/-- append(s, x...), s the call's own, x any readable row -/
theorem wpList_app8 {ops : Array Oper} {rest : List Oper} {o : Oper} {a : Act} {w : World} {Q : Exit → Act → World → Prop} (hgd : o.guard = none) (s x : Operand)
    (ho : o.op = .call { callee := .builtin .append, args := #[s, x], argTypes := #[40, 40] })
    {base B : Nat} {v v2 : Value} {l l2 : List UInt8} (hown : Ow w base v l) (hby : By w B v2 l2) (hs : a.eval s = v) (hx : a.eval x = v2)
    (hsz : l.length + l2.length ≤ 140737488355328) (hbase : base ≤ w.heap.size)
    (h : ∀ v' w', Ow w' base v' (l ++ l2) → Ext w w' v v' → wpList Tryz.prog ops Q rest (a.put o.dst v') w') : wpList Tryz.prog ops Q (o :: rest) a w := by
  obtain ⟨i, hi, hz0, hz1, hz2⟩ := info_parts info8
  obtain ⟨A, c, rfl, _, _, hrd⟩ := hby
  refine wpList_plain hgd fun K hK => ?_
  obtain ⟨v', w', hr, h2, h3, h5⟩ := run_append_rd (P := Tryz.prog) w base 40 o.type 5 i (.int .u8 0) 1 1 Tryz.underlying40 hi hz0 hz1 hz2 rfl (by omega) v l.length (b8s l) hown B A l2.length c (b8s l2) hrd (b8s_one l2)
    (by unfold maxLen; omega) (by omega) hbase
  unfold Oper.wp execOp
  simp only [ho, resolve, invoke, builtin, Sem.run_bind, Sem.run_pure, Result.andThen_ok, List.map_toArray, List.map_cons, List.map_nil, hs, hx, hr]
  refine hK _ _ (h v' w' ?_ ⟨h3, ?_⟩)
  · unfold Ow
    rw [List.length_append, b8s_append]
    exact h2
  · rcases h5 with h5 | h5
    · exact .inl h5
    · exact .inr fun k hk => by rw [h5] at hk; injection hk with hk; omega

/-! ### bytes to a string -/
def bst (l : List UInt8) : ByteArray := ⟨l.toArray⟩
theorem bst_toList (l : List UInt8) : (bst l).toList = l := ByteArray.toList_mk l
theorem foldl_push8 : ∀ (ns : List UInt8) (s : ByteArray), (ns.map fun b => (b.toNat : Int)).foldl (fun r n => r.push (UInt8.ofNat n.toNat)) s = ⟨s.data ++ ns.toArray⟩ := by
  intro ns
  induction ns with
  | nil => intro s; simp
  | cons n ns ih =>
    intro s
    rw [List.map_cons, List.foldl_cons, ih]
    simp [ByteArray.push]
theorem conv8 {w : World} {B : Nat} {v : Value} {l : List UInt8} (h : By w B v l) : (convert 40 9 v).run Tryz.prog w = .ok (.string (bst l)) w := by
  obtain ⟨A, c, rfl, _, _, hr⟩ := h
  rw [run_convert_bytes_string w _ _ 5 A l.length c Tryz.underlying40 Tryz.underlying5 Tryz.underlying9]
  cases A with
  | none =>
    have h0 : l.length = 0 := by
      rcases Nat.eq_zero_or_pos l.length with h | h
      · exact h
      · obtain ⟨_, h, _⟩ := hr.ad h; cases h
    have hl : l = [] := List.eq_nil_of_length_eq_zero h0
    subst hl
    rfl
  | some ad =>
    have hc : ∀ j u, (b8s l)[j]? = some u → w.cell? (ad.add j) = some u := by
      intro j u hu
      rcases Nat.eq_zero_or_pos l.length with h | h
      · have hl : l = [] := List.eq_nil_of_length_eq_zero h
        subst hl
        simp [b8s] at hu
      · obtain ⟨ad', e, _, hc⟩ := hr.ad h
        injection e with e
        subst e
        exact hc j u hu
    have hl := run_loadCells_list (P := Tryz.prog) w ad (b8s l) hc
    rw [b8s_length] at hl
    have hm : b8s l = (l.map fun b => (b.toNat : Int)).map (Value.int .u8) := by simp [b8s, b8]
    rw [hm] at hl
    rw [run_bytesToString w ad l.length c (l.map fun b => (b.toNat : Int)) hl, foldl_push8]
    simp [bst, ByteArray.empty, ByteArray.emptyWithCapacity]
    rfl
theorem bst_eq (a b : List UInt8) : ((bst a).toList == (bst b).toList) = decide (a = b) := by rw [bst_toList, bst_toList, Bool.eq_iff_iff]; simp

theorem eqnil (t e : TypeId) (h : Tryz.prog.underlying t = some (.slice e)) (w : World) (A : Option Addr) (n c : Nat) : (binOp .eql t (.slice A n c) (.slice none 0 0)).run Tryz.prog w = .ok (.bool A.isNone) w := Lib.run_eql_slice_nil w t e A n c 0 0 h

set_option maxHeartbeats 400000 in
/-- slices.Clone at bytes: the same bytes in memory of one's own -/
theorem clone8 (w : World) (v : Value) (l : List UInt8) (hby : By w w.heap.size v l) (hsz : l.length ≤ 140737488355328) :
    Calls Tryz.prog 96 #[v] w fun e w' => ∃ v', e = .returned v' ∧ Ow w' w.heap.size v' l ∧ Below w.heap.size w w' := by
  have hby2 := hby.alloc (Nat.le_refl _) (.cells #[] 5)
  obtain ⟨A, c, rfl, hc1, hc2, hrd⟩ := hby
  have hn := eqnil 40 5 Tryz.underlying40
  cases A with
  | none =>
    have h0 : l.length = 0 := by
      rcases Nat.eq_zero_or_pos l.length with h | h
      · exact h
      · obtain ⟨_, h, _⟩ := hrd.ad h; cases h
    have hl : l = [] := List.eq_nil_of_length_eq_zero h0
    subst hl
    go_enter Tryz.func96, Tryz.ntmps96
    go_wp2
    go_ret
    exact ⟨_, rfl, Ow.nil_ _ _, Below.refl _ _⟩
  | some ad =>
    go_enter Tryz.func96, Tryz.ntmps96
    go_wp2_with (first
      | (at_builtin
         refine wpList_app8 rfl (.tmp 5) (.tmp 6) rfl (Ow.new_ w [] (Nat.zero_le _)) hby2 rfl rfl (by simpa using hsz) (by simp) ?_
         intro v1 w1 hown1 hext1))
    go_ret
    exact ⟨_, rfl, by simpa using hown1, ((Below.refl _ _).alloc (Nat.le_refl _) _).trans (hext1.below (by simp) (by simp [Value.ownBlock]))⟩

/-! ### reading and writing an own row -/
section
variable {w : World} {base g n cap : Nat} {l : List UInt8} {v : Value}
theorem Ow.cellAt (h : Ow w base (.slice (some ⟨g, 0, none⟩) n cap) l) (hn : n = l.length) (j : Nat) (hj : j < l.length) : w.cell? ⟨g, j, none⟩ = some (.int .u8 ((l[j]).toNat : Int)) := by
  subst hn
  rw [World.ownsRow.cellAt h j (by simpa using hj), b8s_get l j hj]
theorem Ow.cell_ (h : Ow w base (.slice (some ⟨g, 0, none⟩) n cap) l) (hn : n = l.length) (j : Nat) (b : UInt8) (hb : l[j]? = some b) : w.cell? ⟨g, j, none⟩ = some (.int .u8 (b.toNat : Int)) := by
  obtain ⟨hj, e⟩ := List.getElem?_eq_some_iff.1 hb
  rw [h.cellAt hn j hj, e]
theorem Ow.frozenAt (h : Ow w base (.slice (some ⟨g, 0, none⟩) n cap) l) (hn : n = l.length) (j : Nat) : w.frozen? ⟨g, j, none⟩ = false := by
  subst hn
  exact World.ownsRow.frozenAt h j
theorem Ow.put_ (h : Ow w base (.slice (some ⟨g, 0, none⟩) n cap) l) (hn : n = l.length) (j : Nat) (b : UInt8) :
    Ow (w.setCell ⟨g, j, none⟩ (.int .u8 (b.toNat : Int))) base (.slice (some ⟨g, 0, none⟩) n cap) (l.set j b) := by
  subst hn
  have := (World.ownsRow.stored h j (b8 b)).1
  unfold Ow
  rw [List.length_set, show b8s (l.set j b) = (b8s l).set j (b8 b) from by simp [b8s, List.map_set]]
  exact this
theorem Ow.drew (h : Ow w base v l) : Ow w.drew base v l := h
end

theorem Ow.form_ {w : World} {base : Nat} {v : Value} {l : List UInt8} (h : Ow w base v l) :
    ∃ A cap, v = .slice A l.length cap ∧ l.length ≤ cap ∧ cap ≤ maxLen ∧ (0 < l.length → ∃ g, A = some ⟨g, 0, none⟩ ∧ base ≤ g ∧ g < w.heap.size) := by
  rcases Nat.eq_zero_or_pos l.length with h0 | h0
  · obtain ⟨A, c, rfl, h1, h2, _⟩ := h.by_
    exact ⟨A, c, rfl, h1, h2, fun h => by omega⟩
  · obtain ⟨g, cap, rfl, h1, h2, h3, h4⟩ := h.form (fun e => by subst e; simp at h0)
    exact ⟨_, cap, rfl, h1, h2, fun _ => ⟨g, rfl, h3, h4⟩⟩

/-! ### cuts -/
theorem By.front_ {w : World} {B : Nat} {A : Option Addr} {n c : Nat} {l : List UInt8} (h : By w B (.slice A n c) l) {k : Nat} (hk : k ≤ l.length) : By w B (.slice A k c) (l.take k) := by
  obtain ⟨A', c', e, h1, h2, hr⟩ := h
  injection e with e1 e2 e3
  subst e1; subst e2; subst e3
  refine ⟨A, c, by simp [hk], by simp; omega, h2, ?_⟩
  have := hr.front hk
  simpa [b8s, List.map_take, hk] using this
theorem By.back_ {w : World} {B : Nat} {A : Option Addr} {n c : Nat} {l : List UInt8} (h : By w B (.slice A n c) l) {k : Nat} (hk : k ≤ l.length) :
    By w B (.slice (if c = k then A else A.map (·.add k)) (l.length - k) (c - k)) (l.drop k) := by
  obtain ⟨A', c', e, h1, h2, hr⟩ := h
  injection e with e1 e2 e3
  subst e1; subst e2; subst e3
  refine ⟨if c = k then A else A.map (·.add k), c - k, by simp, by simp; omega, by omega, ?_⟩
  have := hr.cut hk h1
  simpa [b8s, List.map_drop] using this
theorem By.len_ {w : World} {B : Nat} {A : Option Addr} {n c : Nat} {l : List UInt8} (h : By w B (.slice A n c) l) : n = l.length ∧ l.length ≤ c ∧ c ≤ maxLen := by
  obtain ⟨A', c', e, h1, h2, hr⟩ := h
  injection e with e1 e2 e3
  exact ⟨e2, by omega, by omega⟩

/-! ### what a law's frame tells of a slice of bytes that came in -/
theorem u8_of_wf {n : Int} (h : (Lit.int .u8 n).wf = true) : ∃ b : UInt8, n = (b.toNat : Int) := by
  have hb : 0 ≤ n ∧ n ≤ 255 := by
    simp [Lit.wf, IntKind.min, IntKind.max, IntKind.bits, IntKind.signed] at h
    omega
  refine ⟨UInt8.ofNat n.toNat, ?_⟩
  rw [UInt8.toNat_ofNat']
  omega
theorem u32_of_wf {n : Int} (h : (Lit.int .u32 n).wf = true) : ∃ b : UInt32, n = (b.toNat : Int) := by
  have hb : 0 ≤ n ∧ n ≤ 4294967295 := by
    simp [Lit.wf, IntKind.min, IntKind.max, IntKind.bits, IntKind.signed] at h
    omega
  refine ⟨UInt32.ofNat n.toNat, ?_⟩
  rw [UInt32.toNat_ofNat']
  omega
theorem u64_of_wf {n : Int} (h : (Lit.int .u64 n).wf = true) : ∃ b : UInt64, n = (b.toNat : Int) := by
  have hb : 0 ≤ n ∧ n ≤ 18446744073709551615 := by
    simp [Lit.wf, IntKind.min, IntKind.max, IntKind.bits, IntKind.signed] at h
    omega
  refine ⟨UInt64.ofNat n.toNat, ?_⟩
  rw [UInt64.toNat_ofNat']
  omega
theorem i64_of_wf {n : Int} (h : (Lit.int .i64 n).wf = true) : -9223372036854775808 ≤ n ∧ n ≤ 9223372036854775807 := by
  simp [Lit.wf, IntKind.min, IntKind.max, IntKind.bits, IntKind.signed] at h
  omega
theorem by_of_row {w : World} {a : Option Addr} {len cap : Nat} {zs : List Int}
    (h : (a = none ∧ len = 0 ∧ cap = 0 ∧ zs = []) ∨
      ∃ x, a = some x ∧ len ≤ cap ∧ cap ≤ maxLen ∧ zs.length = cap ∧ (∀ i, i < zs.length → w.cell? (x.add i) = some (.int .u8 (zs.getD i 0))) ∧ ∀ n ∈ zs, (Lit.int .u8 n).wf = true) :
    ∃ l : List UInt8, l.length = len ∧ By w w.heap.size (.slice a len cap) l := by
  rcases h with ⟨rfl, rfl, rfl, rfl⟩ | ⟨x, rfl, hlc, hcm, hz, hcell, hwf⟩
  · exact ⟨[], rfl, By.nil_⟩
  · refine ⟨(zs.take len).map fun n => UInt8.ofNat n.toNat, by simp; omega, some x, cap, by simp; omega, by simp; omega, hcm, ?_⟩
    refine ⟨by simp [b8s], fun hn => ⟨x, rfl, ?_, ?_⟩⟩
    · have h0 := hcell 0 (by simp at hn; omega)
      have := World.block_lt_of_cell? w (x.add 0) h0
      rwa [add_block] at this
    · intro j u hu
      simp only [b8s, List.map_map, List.getElem?_map, List.getElem?_take] at hu
      by_cases hj : j < len
      · rw [if_pos hj] at hu
        have hjz : j < zs.length := by omega
        rw [List.getElem?_eq_getElem hjz] at hu
        simp only [Option.map_some, Option.some.injEq] at hu
        rw [hcell j hjz, ← hu]
        have hd : zs.getD j 0 = zs[j] := by simp [hjz]
        rw [hd]
        obtain ⟨b, hb⟩ := u8_of_wf (hwf _ (List.getElem_mem hjz))
        rw [hb]
        simp [b8]
      · rw [if_neg hj] at hu
        simp at hu
end Go.Proofs.YtcffeepgfjpcaaaGreat

namespace Go.Proofs.YtcffeepgfjpcaaaGreat
set_option linter.unusedSimpArgs false
set_option linter.unusedVariables false
open Go.RowKit

/-- how a thing lies in cells; S: the blocks in which what it leads to may be -/
structure Cdc (α : Type) where
  n : Nat
  at_ : World → (Nat → Prop) → List Value → α → Prop
  len : ∀ {w S cs x}, at_ w S cs x → cs.length = n
  one : ∀ {w S cs x}, at_ w S cs x → ∀ u ∈ cs, u.oneCell' = true
  keep : ∀ {w w' S cs x}, at_ w S cs x → (∀ p : Addr, S p.block → w'.cell? p = w.cell? p) → at_ w' S cs x
  mono : ∀ {w S S' cs x}, at_ w S cs x → (∀ k, S k → S' k) → at_ w S' cs x

/-- a thing without pointers -/
def Cdc.flat {α : Type} (n : Nat) (enc : α → List Value) (ok : α → Prop) (hl : ∀ x, (enc x).length = n) (h1 : ∀ x, ∀ u ∈ enc x, u.oneCell' = true) : Cdc α where
  n := n
  at_ := fun _ _ cs x => cs = enc x ∧ ok x
  len := fun h => by rw [h.1]; exact hl _
  one := fun h => by rw [h.1]; exact h1 _
  keep := fun h _ => h
  mono := fun h _ => h

/-- the slice value v reads as xs: its row in a block of O, what the elements lead to in blocks of S -/
def RowOn {α : Type} (C : Cdc α) (w : World) (O S : Nat → Prop) (v : Value) (xs : List α) : Prop :=
  ∃ A c, v = .slice A xs.length c ∧ xs.length ≤ c ∧ c ≤ maxLen ∧ (0 < xs.length → ∃ ad, A = some ad ∧ O ad.block ∧
    ∀ (i : Nat) (x : α), xs[i]? = some x → ∃ cs, C.at_ w S cs x ∧ ∀ (j : Nat) (u : Value), cs[j]? = some u → w.cell? (ad.add (i * C.n + j)) = some u)

section
variable {α β : Type} {C : Cdc α} {w w' : World} {O O' S S' : Nat → Prop} {v : Value} {xs : List α}
theorem RowOn.keep (h : RowOn C w O S v xs) (hO : ∀ p : Addr, O p.block → w'.cell? p = w.cell? p) (hS : ∀ p : Addr, S p.block → w'.cell? p = w.cell? p) : RowOn C w' O S v xs := by
  obtain ⟨A, c, h1, h2, h3, h4⟩ := h
  refine ⟨A, c, h1, h2, h3, fun hn => ?_⟩
  obtain ⟨ad, e, hb, hc⟩ := h4 hn
  refine ⟨ad, e, hb, fun i x hx => ?_⟩
  obtain ⟨cs, ha, hcs⟩ := hc i x hx
  exact ⟨cs, C.keep ha hS, fun j u hu => (hO _ (by rw [add_block]; exact hb)).trans (hcs j u hu)⟩
theorem RowOn.mono (h : RowOn C w O S v xs) (hO : ∀ k, O k → O' k) (hS : ∀ k, S k → S' k) : RowOn C w O' S' v xs := by
  obtain ⟨A, c, h1, h2, h3, h4⟩ := h
  refine ⟨A, c, h1, h2, h3, fun hn => ?_⟩
  obtain ⟨ad, e, hb, hc⟩ := h4 hn
  refine ⟨ad, e, hO _ hb, fun i x hx => ?_⟩
  obtain ⟨cs, ha, hcs⟩ := hc i x hx
  exact ⟨cs, C.mono ha hS, hcs⟩
theorem RowOn.nil_ : RowOn C w O S (.slice none 0 0) [] := ⟨none, 0, rfl, Nat.le_refl _, Nat.zero_le _, fun h => absurd h (by simp)⟩
theorem RowOn.form (h : RowOn C w O S v xs) : ∃ A c, v = .slice A xs.length c ∧ xs.length ≤ c ∧ c ≤ maxLen := by
  obtain ⟨A, c, h1, h2, h3, _⟩ := h
  exact ⟨A, c, h1, h2, h3⟩
theorem RowOn.len_ {A : Option Addr} {n c : Nat} (h : RowOn C w O S (.slice A n c) xs) : n = xs.length ∧ xs.length ≤ c ∧ c ≤ maxLen := by
  obtain ⟨A', c', e, h1, h2, _⟩ := h
  injection e with e1 e2 e3
  subst e3
  exact ⟨e2, h1, h2⟩
/-- the cells of one element -/
theorem RowOn.at_ {A : Option Addr} {n c : Nat} (h : RowOn C w O S (.slice A n c) xs) (i : Nat) (x : α) (hx : xs[i]? = some x) :
    ∃ ad cs, A = some ad ∧ O ad.block ∧ C.at_ w S cs x ∧ ∀ (j : Nat) (u : Value), cs[j]? = some u → w.cell? (ad.add (i * C.n + j)) = some u := by
  obtain ⟨A', c', e, h1, h2, h3⟩ := h
  injection e with e1 e2 e3
  subst e1
  obtain ⟨ad, ea, hb, hc⟩ := h3 (by have := (List.getElem?_eq_some_iff.1 hx).1; omega)
  obtain ⟨cs, ha, hcs⟩ := hc i x hx
  exact ⟨ad, cs, ea, hb, ha, hcs⟩
theorem RowOn.front {A : Option Addr} {n c : Nat} (h : RowOn C w O S (.slice A n c) xs) {k : Nat} (hk : k ≤ xs.length) : RowOn C w O S (.slice A k c) (xs.take k) := by
  obtain ⟨A', c', e, h1, h2, h3⟩ := h
  injection e with e1 e2 e3
  subst e1; subst e3
  refine ⟨A, c, by simp [hk], by simp; omega, h2, fun hn => ?_⟩
  obtain ⟨ad, ea, hb, hc⟩ := h3 (by simp at hn; omega)
  refine ⟨ad, ea, hb, fun i x hx => hc i x ?_⟩
  rw [List.getElem?_take] at hx
  split at hx
  · exact hx
  · cases hx
theorem RowOn.back {A : Option Addr} {n c : Nat} (h : RowOn C w O S (.slice A n c) xs) {k : Nat} (hk : k ≤ xs.length) :
    RowOn C w O S (.slice (if c = k then A else A.map (·.add (k * C.n))) (xs.length - k) (c - k)) (xs.drop k) := by
  obtain ⟨A', c', e, h1, h2, h3⟩ := h
  injection e with e1 e2 e3
  subst e1; subst e3
  refine ⟨if c = k then A else A.map (·.add (k * C.n)), c - k, by simp, by simp; omega, by omega, fun hn => ?_⟩
  simp only [List.length_drop] at hn
  obtain ⟨ad, rfl, hb, hc⟩ := h3 (by omega)
  rw [if_neg (by omega)]
  refine ⟨ad.add (k * C.n), rfl, by rw [add_block]; exact hb, fun i x hx => ?_⟩
  rw [List.getElem?_drop] at hx
  obtain ⟨cs, ha, hcs⟩ := hc _ x hx
  refine ⟨cs, ha, fun j u hu => ?_⟩
  rw [add_add, ← hcs j u hu]
  congr 2
  rw [Nat.add_mul, Nat.add_assoc]

/-- a slice as a thing of one cell -/
def Cdc.row (C : Cdc α) : Cdc (List α) where
  n := 1
  at_ := fun w S cs xs => ∃ v, cs = [v] ∧ RowOn C w S S v xs
  len := fun h => by obtain ⟨v, rfl, _⟩ := h; rfl
  one := fun h => by obtain ⟨v, rfl, h⟩ := h; obtain ⟨A, c, rfl, _⟩ := h; intro u hu; simp at hu; subst hu; rfl
  keep := fun h hk => by obtain ⟨v, e, h⟩ := h; exact ⟨v, e, h.keep hk hk⟩
  mono := fun h hk => by obtain ⟨v, e, h⟩ := h; exact ⟨v, e, h.mono hk hk⟩
/-- one thing behind another -/
def Cdc.pair (C : Cdc α) (D : Cdc β) : Cdc (α × β) where
  n := C.n + D.n
  at_ := fun w S cs x => ∃ c1 c2, cs = c1 ++ c2 ∧ C.at_ w S c1 x.1 ∧ D.at_ w S c2 x.2
  len := fun h => by obtain ⟨c1, c2, rfl, h1, h2⟩ := h; simp [C.len h1, D.len h2]
  one := fun h => by
    obtain ⟨c1, c2, rfl, h1, h2⟩ := h
    intro u hu
    rcases List.mem_append.1 hu with hu | hu
    · exact C.one h1 u hu
    · exact D.one h2 u hu
  keep := fun h hk => by obtain ⟨c1, c2, e, h1, h2⟩ := h; exact ⟨c1, c2, e, C.keep h1 hk, D.keep h2 hk⟩
  mono := fun h hk => by obtain ⟨c1, c2, e, h1, h2⟩ := h; exact ⟨c1, c2, e, C.mono h1 hk, D.mono h2 hk⟩
/-- the same, read as another type -/
def Cdc.map (C : Cdc α) (f : β → α) : Cdc β where
  n := C.n
  at_ := fun w S cs x => C.at_ w S cs (f x)
  len := fun h => C.len h
  one := fun h => C.one h
  keep := fun h hk => C.keep h hk
  mono := fun h hk => C.mono h hk

end

/-! ### lists of lists of one length -/
theorem flat_get {α : Type} (n : Nat) : ∀ (css : List (List α)) (_ : ∀ cs ∈ css, cs.length = n) (i : Nat) (cs : List α) (j : Nat), css[i]? = some cs → j < n → css.flatten[i * n + j]? = cs[j]?
  | [], _, i, cs, j, h, _ => by simp at h
  | c :: css, hl, 0, cs, j, h, hj => by
    simp at h; subst h
    simp only [Nat.zero_mul, Nat.zero_add, List.flatten_cons]
    rw [List.getElem?_append_left (by rw [hl c (by simp)]; exact hj)]
  | c :: css, hl, i + 1, cs, j, h, hj => by
    have h' : css[i]? = some cs := by simpa using h
    rw [List.flatten_cons, List.getElem?_append_right (by rw [hl c (by simp), Nat.add_mul]; omega), hl c (by simp)]
    rw [show (i + 1) * n + j - n = i * n + j from by rw [Nat.add_mul]; omega]
    exact flat_get n css (fun c hc => hl c (by simp [hc])) i cs j h' hj
theorem flat_len {α : Type} (n : Nat) : ∀ (css : List (List α)) (_ : ∀ cs ∈ css, cs.length = n), css.flatten.length = css.length * n
  | [], _ => by simp
  | c :: css, hl => by
    rw [List.flatten_cons, List.length_append, flat_len n css (fun c hc => hl c (by simp [hc])), hl c (by simp), List.length_cons, Nat.add_mul]; omega

/-! ### rows of the call's own -/
/-- a slice of the call's own (its row in a block from base on), what the elements lead to in blocks of S -/
def OwnR {α : Type} (E : TypeId) (C : Cdc α) (w : World) (base : Nat) (S : Nat → Prop) (v : Value) (xs : List α) : Prop :=
  ∃ css : List (List Value), css.length = xs.length ∧ w.ownsRow base E C.n v xs.length css.flatten ∧
    (∀ (i : Nat) (cs : List Value) (x : α), css[i]? = some cs → xs[i]? = some x → C.at_ w S cs x) ∧ ∀ k, S k → k < w.heap.size ∧ v.ownBlock ≠ some k
/-- the same of things without pointers -/
abbrev OwnF {α : Type} (E : TypeId) (C : Cdc α) (w : World) (base : Nat) (v : Value) (xs : List α) : Prop := OwnR E C w base (fun _ => False) v xs

section
variable {α : Type} {E : TypeId} {C : Cdc α} {w w' : World} {base : Nat} {O S S' : Nat → Prop} {v : Value} {xs : List α}
theorem OwnR.clen {css : List (List Value)} (hl : css.length = xs.length) (h : ∀ (i : Nat) (cs : List Value) (x : α), css[i]? = some cs → xs[i]? = some x → C.at_ w S cs x) : ∀ cs ∈ css, cs.length = C.n := by
  intro cs hcs
  obtain ⟨i, hi, rfl⟩ := List.mem_iff_getElem.1 hcs
  exact C.len (h i _ (xs[i]'(by omega)) (List.getElem?_eq_getElem hi) (List.getElem?_eq_getElem (by omega)))
theorem OwnR.nil_ (hS : ∀ k, S k → k < w.heap.size) : OwnR E C w base S (.slice none 0 0) ([] : List α) :=
  ⟨[], rfl, World.ownsRow_nil _ _ _ _, fun i cs x h => by simp at h, fun k hk => ⟨hS k hk, by simp [Value.ownBlock]⟩⟩
theorem OwnF.nil_ (w : World) (base : Nat) : OwnF E C w base (.slice none 0 0) ([] : List α) := OwnR.nil_ fun _ h => h.elim
theorem OwnR.blk (h : OwnR E C w base S v xs) : ∀ k, v.ownBlock = some k → base ≤ k ∧ k < w.heap.size := by
  obtain ⟨css, _, h, _⟩ := h
  exact World.ownsRow.lt h
theorem OwnR.form (h : OwnR E C w base S v xs) : (v = .slice none 0 0 ∧ xs = []) ∨ ∃ g cap, v = .slice (some ⟨g, 0, none⟩) xs.length cap ∧ xs.length ≤ cap ∧ cap ≤ maxLen ∧ base ≤ g ∧ g < w.heap.size := by
  have hb := h.blk
  obtain ⟨css, hl, ⟨_, h2⟩, _⟩ := h
  rcases h2 with ⟨rfl, hn⟩ | ⟨g, cap, cur, rfl, h3, h4, h5, h6, _⟩
  · exact .inl ⟨rfl, List.eq_nil_of_length_eq_zero hn⟩
  · exact .inr ⟨g, cap, rfl, h5, h6, hb g rfl⟩
theorem OwnR.form' (h : OwnR E C w base S v xs) : ∃ A cap, v = .slice A xs.length cap ∧ xs.length ≤ cap ∧ cap ≤ maxLen ∧ (0 < xs.length → ∃ g, A = some ⟨g, 0, none⟩ ∧ base ≤ g ∧ g < w.heap.size) := by
  rcases h.form with ⟨rfl, rfl⟩ | ⟨g, cap, rfl, h1, h2, h3, h4⟩
  · exact ⟨none, 0, rfl, Nat.le_refl _, Nat.zero_le _, fun h => by simp at h⟩
  · exact ⟨_, cap, rfl, h1, h2, fun _ => ⟨g, rfl, h3, h4⟩⟩
theorem OwnR.keep {row : Option Nat} (h : OwnR E C w base S v xs) (hg : w.grownBy w' row) (hne : v.ownBlock = none ∨ v.ownBlock ≠ row) (hS : ∀ k, S k → row ≠ some k) : OwnR E C w' base S v xs := by
  obtain ⟨css, hl, h2, h3, h4⟩ := h
  exact ⟨css, hl, World.ownsRow.kept h2 hg hne, fun i cs x hc hx => C.keep (h3 i cs x hc hx) fun p hp => World.cell?_of_block (hg.block p.block (h4 _ hp).1 (fun e => hS _ hp e.symm)),
    fun k hk => ⟨Nat.lt_of_lt_of_le (h4 k hk).1 hg.size, (h4 k hk).2⟩⟩
theorem OwnR.below_ (h : OwnR E C w base S v xs) (hb : Below w.heap.size w w') : OwnR E C w' base S v xs :=
  h.keep (row := none) ⟨hb.os, hb.tape, hb.output, hb.size, fun i hi _ => hb.block i hi⟩ (by cases hv : v.ownBlock <;> simp) (fun k _ e => by cases e)
theorem OwnR.alloc (h : OwnR E C w base S v xs) (o : Obj) : OwnR E C (w.alloc o) base S v xs := h.below_ (balloc w o)
theorem OwnR.more {base' : Nat} (h : OwnR E C w base S v xs) (hb : base' ≤ base) : OwnR E C w base' S v xs := by
  obtain ⟨css, hl, ⟨h1, h2⟩, h3, h4⟩ := h
  refine ⟨css, hl, ⟨h1, ?_⟩, h3, h4⟩
  rcases h2 with h2 | ⟨g, cap, cur, e, hg, r⟩
  · exact .inl h2
  · exact .inr ⟨g, cap, cur, e, Nat.le_trans hb hg, r⟩
theorem OwnR.widen (h : OwnR E C w base S v xs) (hS : ∀ k, S k → S' k) (hlt : ∀ k, S' k → k < w.heap.size ∧ v.ownBlock ≠ some k) : OwnR E C w base S' v xs := by
  obtain ⟨css, hl, h2, h3, h4⟩ := h
  exact ⟨css, hl, h2, fun i cs x hc hx => C.mono (h3 i cs x hc hx) hS, hlt⟩
/-- an own row reads -/
theorem OwnR.row (h : OwnR E C w base S v xs) : RowOn C w (fun k => base ≤ k ∧ k < w.heap.size) S v xs := by
  have hb := h.blk
  obtain ⟨css, hl, h2, h3, h4⟩ := h
  have hcl := OwnR.clen hl h3
  have h2' := h2.2
  rcases h2' with ⟨rfl, hn⟩ | ⟨g, cap, cur, rfl, hg1, hg2, hg3, hg4, _⟩
  · have : xs = [] := List.eq_nil_of_length_eq_zero hn
    subst this
    exact RowOn.nil_
  · refine ⟨_, cap, rfl, hg3, hg4, fun hn => ⟨_, rfl, hb g rfl, fun i x hx => ?_⟩⟩
    have hi : i < css.length := by rw [hl]; exact (List.getElem?_eq_some_iff.1 hx).1
    refine ⟨css[i], h3 i _ x (List.getElem?_eq_getElem hi) hx, fun j u hu => ?_⟩
    have hj : j < C.n := by rw [← hcl _ (List.getElem_mem hi)]; exact (List.getElem?_eq_some_iff.1 hu).1
    refine World.ownsRow.cells h2 (g := g) rfl _ u ?_
    rw [flat_get C.n css hcl i _ j (List.getElem?_eq_getElem hi) hj, hu]
theorem OwnR.rowLt (h : OwnR E C w base S v xs) : RowOn C w (fun k => k < w.heap.size) S v xs := h.row.mono (fun _ hk => hk.2) fun _ hk => hk
theorem OwnR.rowAll (h : OwnR E C w base S v xs) : RowOn C w (fun k => k < w.heap.size) (fun k => k < w.heap.size) v xs := by
  have h4 : ∀ k, S k → k < w.heap.size := by obtain ⟨_, _, _, _, h4⟩ := h; exact fun k hk => (h4 k hk).1
  exact h.row.mono (fun _ hk => hk.2) h4
/-- a new row, written out -/
theorem OwnR.new_ (w : World) (css : List (List Value)) (hl : css.length = xs.length) (hm : xs.length ≤ maxLen)
    (h3 : ∀ (i : Nat) (cs : List Value) (x : α), css[i]? = some cs → xs[i]? = some x → C.at_ w S cs x) (hS : ∀ k, S k → k < w.heap.size) :
    OwnR E C (w.alloc (.cells css.flatten.toArray E)) w.heap.size S (.slice (some ⟨w.heap.size, 0, none⟩) xs.length xs.length) xs := by
  have hcl := OwnR.clen hl h3
  have hfl := flat_len C.n css hcl
  refine ⟨css, hl, ⟨by rw [hfl, hl], .inr ⟨w.heap.size, xs.length, _, rfl, Nat.le_refl _, heap_alloc_new w _, Nat.le_refl _, hm, by simp [hfl, hl], ?_⟩⟩, ?_, ?_⟩
  · exact List.take_of_length_le (by simp [hfl, hl])
  · intro i cs x hc hx
    exact C.keep (h3 i cs x hc hx) fun p hp => World.cell?_alloc_lt w _ p (hS _ hp)
  · intro k hk
    have := hS k hk
    refine ⟨by simp; omega, ?_⟩
    simp [Value.ownBlock]; omega

/-- append(s, x...), s the call's own, x any readable row -/
theorem wpList_appR {ops : Array Oper} {rest : List Oper} {o : Oper} {a : Act} {Q : Exit → Act → World → Prop} (hgd : o.guard = none) (s x : Operand) (t : TypeId)
    (ho : o.op = .call { callee := .builtin .append, args := #[s, x], argTypes := #[t, t] })
    (ht : Tryz.prog.underlying t = some (.slice E)) {z : Value} {bytes : Nat} (hinfo : (Tryz.prog.info? E).map (fun i => (i.zero, i.size, i.bytes)) = some (some z, C.n, bytes)) (hz2 : z.cells.size = C.n) (hn0 : 0 < C.n) (hb0 : bytes ≤ 256)
    {v2 : Value} {ys : List α} (hown : OwnR E C w base S v xs) (hrd : RowOn C w O S v2 ys) (hs : a.eval s = v) (hx : a.eval x = v2)
    (hsz : xs.length + ys.length ≤ 549755813888) (hbase : base ≤ w.heap.size)
    (h : ∀ v' w', OwnR E C w' base S v' (xs ++ ys) → Ext w w' v v' → wpList Tryz.prog ops Q rest (a.put o.dst v') w') : wpList Tryz.prog ops Q (o :: rest) a w := by
  obtain ⟨i, hi, hz0, hz1, hby⟩ := info_parts hinfo
  obtain ⟨css, hl, h2, h3, h4⟩ := hown
  have hcl := OwnR.clen hl h3
  obtain ⟨A, c, rfl, hc1, hc2, hcell⟩ := hrd
  -- the cells of the source
  obtain ⟨dss, hdl, hd3, hdr⟩ : ∃ dss : List (List Value), dss.length = ys.length ∧ (∀ (i : Nat) (cs : List Value) (y : α), dss[i]? = some cs → ys[i]? = some y → C.at_ w S cs y) ∧
      ∃ B, Rd w B C.n A ys.length dss.flatten := by
    rcases Nat.eq_zero_or_pos ys.length with h0 | h0
    · have : ys = [] := List.eq_nil_of_length_eq_zero h0
      subst this
      exact ⟨[], rfl, fun i cs y h => by simp at h, 0, by simp [Rd]⟩
    · obtain ⟨ad, rfl, _, hc⟩ := hcell h0
      have hex : ∀ i : Fin ys.length, ∃ cs, C.at_ w S cs (ys[i.1]'i.2) ∧ ∀ (j : Nat) (u : Value), cs[j]? = some u → w.cell? (ad.add (i.1 * C.n + j)) = some u := fun i => hc i.1 _ (List.getElem?_eq_getElem i.2)
      refine ⟨List.ofFn fun i => (hex i).choose, by simp, ?_, ad.block + 1, ?_⟩
      · intro i cs y hcs hy
        obtain ⟨hi', rfl⟩ := List.getElem?_eq_some_iff.1 hy
        rw [List.getElem?_ofFn, dif_pos hi'] at hcs
        injection hcs with hcs
        rw [← hcs]
        exact (hex ⟨i, hi'⟩).choose_spec.1
      · have hcl2 : ∀ cs ∈ (List.ofFn fun i => (hex i).choose), cs.length = C.n := by
          intro cs hcs
          obtain ⟨i, rfl⟩ := List.mem_ofFn.1 hcs
          exact C.len (hex i).choose_spec.1
        refine ⟨by rw [flat_len C.n _ hcl2]; simp, fun _ => ⟨ad, rfl, Nat.lt_succ_self _, fun j u hu => ?_⟩⟩
        have hj : j < ys.length * C.n := by
          have := (List.getElem?_eq_some_iff.1 hu).1
          rw [flat_len C.n _ hcl2] at this
          simpa using this
        have hi' : j / C.n < ys.length := Nat.div_lt_of_lt_mul (by rw [Nat.mul_comm]; exact hj)
        have hj2 : j % C.n < C.n := Nat.mod_lt _ hn0
        have hdm : j / C.n * C.n + j % C.n = j := by rw [Nat.mul_comm]; exact Nat.div_add_mod j C.n
        have := flat_get C.n _ hcl2 (j / C.n) (hex ⟨j / C.n, hi'⟩).choose (j % C.n) (by rw [List.getElem?_ofFn, dif_pos hi']) hj2
        rw [hdm, hu] at this
        have := (hex ⟨j / C.n, hi'⟩).choose_spec.2 (j % C.n) u this.symm
        rwa [hdm] at this
  obtain ⟨B, hrd⟩ := hdr
  have hcl2 := OwnR.clen hdl hd3
  refine wpList_plain hgd fun K hK => ?_
  obtain ⟨v', w', hr, g2, g3, g5⟩ := run_append_rd (P := Tryz.prog) w base t o.type E i z C.n bytes ht hi hz0 hz1 hby hz2 hn0 v xs.length css.flatten h2 B A ys.length c dss.flatten hrd (by
      intro u hu
      obtain ⟨cs, hcs, hu⟩ := List.mem_flatten.1 hu
      obtain ⟨i, hi', rfl⟩ := List.mem_iff_getElem.1 hcs
      exact C.one (hd3 i _ (ys[i]'(by omega)) (List.getElem?_eq_getElem hi') (List.getElem?_eq_getElem (by omega))) u hu)
    (by unfold maxLen; omega) (by
      calc (xs.length + ys.length) * bytes ≤ 549755813888 * 256 := Nat.mul_le_mul hsz hb0
        _ ≤ _ := by decide) hbase
  unfold Oper.wp execOp
  simp only [ho, resolve, invoke, builtin, Sem.run_bind, Sem.run_pure, Result.andThen_ok, List.map_toArray, List.map_cons, List.map_nil, hs, hx, hr]
  have hSame : ∀ p : Addr, S p.block → w'.cell? p = w.cell? p := fun p hp => World.cell?_of_block (g3.block p.block (h4 _ hp).1 (fun e => (h4 _ hp).2 e.symm))
  refine hK _ _ (h v' w' ⟨css ++ dss, by simp [hl, hdl], by rw [List.length_append, List.flatten_append]; exact g2, ?_, ?_⟩ ⟨g3, ?_⟩)
  · intro j cs x hc hx'
    refine C.keep ?_ hSame
    rcases Nat.lt_or_ge j xs.length with hj | hj
    · rw [List.getElem?_append_left (by omega)] at hc
      rw [List.getElem?_append_left hj] at hx'
      exact h3 j cs x hc hx'
    · rw [List.getElem?_append_right (by omega)] at hc
      rw [List.getElem?_append_right hj, ← hl] at hx'
      exact hd3 _ cs x hc hx'
  · intro k hk
    refine ⟨Nat.lt_of_lt_of_le (h4 k hk).1 g3.size, ?_⟩
    rcases g5 with g5 | g5
    · rw [g5]; exact (h4 k hk).2
    · rw [g5]; intro e; injection e with e; have := (h4 k hk).1; omega
  · rcases g5 with g5 | g5
    · exact .inl g5
    · exact .inr fun k hk => by rw [g5] at hk; injection hk with hk; omega

/-! ### a block that holds one thing (a struct whose address is taken) -/
/-- block g holds just these cells, of type T -/
def BoxAt (T : TypeId) (w : World) (g : Nat) (cs : List Value) : Prop := w.heap[g]? = some (.cells cs.toArray T (0, 0))
theorem BoxAt.new_ (T : TypeId) (w : World) (cs : List Value) : BoxAt T (w.alloc (.cells cs.toArray T)) w.heap.size cs := heap_alloc_new w _
end
section
variable {T : TypeId} {w w' : World} {g : Nat} {cs : List Value}
theorem BoxAt.lt (h : BoxAt T w g cs) : g < w.heap.size := (Array.getElem?_eq_some_iff.1 h).1
theorem BoxAt.alloc (h : BoxAt T w g cs) (o : Obj) : BoxAt T (w.alloc o) g cs := (heap_alloc_old w o h.lt).trans h
theorem BoxAt.below (h : BoxAt T w g cs) {B : Nat} (hg : g < B) (hb : Below B w w') : BoxAt T w' g cs := (hb.block g hg).trans h
theorem BoxAt.grown {row : Option Nat} (h : BoxAt T w g cs) (hg : w.grownBy w' row) (hne : row ≠ some g) : BoxAt T w' g cs := (hg.block g h.lt (fun e => hne e.symm)).trans h
theorem BoxAt.cell (h : BoxAt T w g cs) (j : Nat) (u : Value) (hu : cs[j]? = some u) : w.cell? { block := g, off := j } = some u := by
  unfold BoxAt at h; simp [World.cell?, h, hu]
theorem BoxAt.frozen (h : BoxAt T w g cs) (j : Nat) : w.frozen? { block := g, off := j } = false := by
  unfold BoxAt at h; simp [World.frozen?, h]
theorem BoxAt.put (h : BoxAt T w g cs) (j : Nat) (u : Value) : BoxAt T (w.setCell { block := g, off := j } u) g (cs.set j u) := by
  unfold BoxAt at h ⊢
  simp [World.setCell, h, Array.getElem?_modify]
theorem BoxAt.other (h : BoxAt T w g cs) (p : Addr) (u : Value) (hne : p.block ≠ g) : BoxAt T (w.setCell p u) g cs := (Below.heap_setCell w p u g (fun e => hne e.symm)).trans h
end
theorem gset (w : World) (p : Addr) (u : Value) : w.grownBy (w.setCell p u) (some p.block) :=
  ⟨rfl, rfl, rfl, by simp [World.setCell], fun k _ hne => Below.heap_setCell w p u k (fun e => hne (by rw [e]))⟩
theorem grefl (w : World) (row : Option Nat) : w.grownBy w row := World.grownBy.refl w row
theorem gtrans {a b c : World} {row : Option Nat} (h : a.grownBy b row) (k : b.grownBy c row) : a.grownBy c row :=
  ⟨k.os.trans h.os, k.tape.trans h.tape, k.output.trans h.output, Nat.le_trans h.size k.size, fun i hi hne => (k.block i (Nat.lt_of_lt_of_le hi h.size) hne).trans (h.block i hi hne)⟩
theorem gbelow {a b : World} (h : Below a.heap.size a b) (row : Option Nat) : a.grownBy b row := ⟨h.os, h.tape, h.output, h.size, fun i hi _ => h.block i hi⟩
/-- new blocks, of which one was written, behind other new blocks -/
theorem gnew {a b c : World} {row row' : Option Nat} (h : a.grownBy b row) (k : b.grownBy c row') (hr : ∀ i, row' = some i → a.heap.size ≤ i ∨ row = some i) : a.grownBy c row :=
  ⟨k.os.trans h.os, k.tape.trans h.tape, k.output.trans h.output, Nat.le_trans h.size k.size, fun i hi hne => (k.block i (Nat.lt_of_lt_of_le hi h.size) (fun e => by
    rcases hr i e.symm with h | h
    · omega
    · exact hne h.symm)).trans (h.block i hi hne)⟩
theorem gofBelow {a b : World} {row : Option Nat} (h : a.grownBy b row) {B : Nat} (hB : B ≤ a.heap.size) (hr : ∀ k, row = some k → B ≤ k) : Below B a b := (Below.refl B a).grown h hB hr

/-! ### whole things loaded and stored -/
theorem isAgg_run {T : TypeId} {d : TypeDesc} (hu : Tryz.prog.underlying T = some d) (hd : (match d with | .struct _ | .array _ _ => true | _ => false) = true) (w : World) : (isAgg T).run Tryz.prog w = .ok true w := by
  unfold isAgg
  rw [Sem.run_bind, run_underlying hu w]
  cases d <;> simp_all
theorem run_loadVar_cells (w : World) (a : Addr) (T : TypeId) (cs : List Value) (h : ∀ (j : Nat) (v : Value), cs[j]? = some v → w.cell? (a.add j) = some v) {d : TypeDesc} (hu : Tryz.prog.underlying T = some d)
    (hd : (match d with | .struct _ | .array _ _ => true | _ => false) = true) (hi : (Tryz.prog.info? T).map (·.size) = some cs.length) : (loadVar T a).run Tryz.prog w = .ok (.agg cs.toArray) w := by
  have hl := run_loadCells_list (P := Tryz.prog) w a cs h
  cases hq : Tryz.prog.info? T with
  | none => simp [hq] at hi
  | some i =>
    have hs : i.size = cs.length := by simpa [hq] using hi
    simp [loadVar, Sem.run_bind, isAgg_run hu hd w, sizeOf, typeInfo, hq, hs, hl]
/-- a whole thing is loaded out of cells that are known -/
theorem wpList_load_agg {ops : Array Oper} {rest : List Oper} {o : Oper} {a : Act} {w : World} {Q : Exit → Act → World → Prop} (hgd : o.guard = none) (T : TypeId) (x : Operand) (ho : o.op = .load T x)
    (ad : Addr) (hx : a.eval x = .pointer (some ad)) (cs : List Value) (hc : ∀ (j : Nat) (v : Value), cs[j]? = some v → w.cell? (ad.add j) = some v) {d : TypeDesc} (hu : Tryz.prog.underlying T = some d)
    (hd : (match d with | .struct _ | .array _ _ => true | _ => false) = true) (hi : (Tryz.prog.info? T).map (·.size) = some cs.length)
    (h : wpList Tryz.prog ops Q rest (a.put o.dst (.agg cs.toArray)) w) : wpList Tryz.prog ops Q (o :: rest) a w :=
  wpList_plain hgd fun K hK => by
    unfold Oper.wp execOp
    simp only [ho, hx, Instr.loadAt, Instr.sureAddr, Sem.run_bind, Sem.run_pure, Result.andThen_ok, run_loadVar_cells w ad T cs hc hu hd hi]
    exact hK _ _ h
theorem BoxAt.cells {T : TypeId} {w : World} {g : Nat} {cs : List Value} (h : BoxAt T w g cs) : ∀ (j : Nat) (v : Value), cs[j]? = some v → w.cell? ((⟨g, 0, none⟩ : Addr).add j) = some v := by
  intro j v hv
  have hadd : (⟨g, 0, none⟩ : Addr).add j = ⟨g, j, none⟩ := by unfold Addr.add; split <;> simp_all
  rw [hadd]
  exact h.cell j v hv
theorem BoxAt.setRow {T : TypeId} {w : World} {g : Nat} {cs : List Value} (h : BoxAt T w g cs) (ds : List Value) : BoxAt T (w.setRow g ds.toArray) g ds := setRow_heap _ _ _ _ _ _ h
theorem wpList_store_box {ops : Array Oper} {rest : List Oper} {o : Oper} {a : Act} {w : World} {Q : Exit → Act → World → Prop} (hgd : o.guard = none) (T T' : TypeId) (x y : Operand) (ho : o.op = .store T x y)
    (g : Nat) (cs ds : List Value) (hx : a.eval x = .pointer (some ⟨g, 0, none⟩)) (hy : a.eval y = .agg ds.toArray) (hs : BoxAt T' w g cs) (hl : ds.length = cs.length) (h1 : ∀ u ∈ ds, u.oneCell' = true)
    (hi : (Tryz.prog.info? T).map (·.size) = some ds.length)
    (h : BoxAt T' (w.setRow g ds.toArray) g ds → wpList Tryz.prog ops Q rest (a.put o.dst undef) (w.setRow g ds.toArray)) : wpList Tryz.prog ops Q (o :: rest) a w :=
  wpList_store_row hgd T x y ho g ds.toArray hx hy T' cs.toArray hs (by simpa using hi) (by simpa using hl) (by simpa using h1) (h (hs.setRow ds))
theorem By.empty {w : World} {B : Nat} (A : Option Addr) (c : Nat) (hc : c ≤ maxLen) : By w B (.slice A 0 c) [] := ⟨A, c, rfl, Nat.zero_le _, hc, by simp [b8s], fun h => by simp at h⟩
/-- results: a slot, then a struct that lies in memory -/
theorem results_tc {fn : Func} {p q : Tmp} {T : TypeId} (h : fn.results = #[.tmp q, .cell p T]) (tmps : Array Value) (w : World) (g : Nat) (cs : List Value)
    (hp : tmps.getD p undef = .pointer (some ⟨g, 0, none⟩)) (hs : ∀ (j : Nat) (v : Value), cs[j]? = some v → w.cell? ((⟨g, 0, none⟩ : Addr).add j) = some v) {d : TypeDesc} (hu : Tryz.prog.underlying T = some d)
    (hd : (match d with | .struct _ | .array _ _ => true | _ => false) = true) (hi : (Tryz.prog.info? T).map (·.size) = some cs.length) :
    (results fn tmps).run Tryz.prog w = .ok (.tuple #[tmps.getD q undef, .agg cs.toArray]) w := by
  have hp' : tmps[p]?.getD undef = .pointer (some ⟨g, 0, none⟩) := by simpa using hp
  have hr := run_loadVar_cells w ⟨g, 0, none⟩ T cs hs hu hd hi
  simp [results, h, hp', asAddr, hr]
/-- a result: a struct that lies in memory -/
theorem results_c {fn : Func} {p : Tmp} {T : TypeId} (h : fn.results = #[.cell p T]) (tmps : Array Value) (w : World) (g : Nat) (cs : List Value)
    (hp : tmps.getD p undef = .pointer (some ⟨g, 0, none⟩)) (hs : ∀ (j : Nat) (v : Value), cs[j]? = some v → w.cell? ((⟨g, 0, none⟩ : Addr).add j) = some v) {d : TypeDesc} (hu : Tryz.prog.underlying T = some d)
    (hd : (match d with | .struct _ | .array _ _ => true | _ => false) = true) (hi : (Tryz.prog.info? T).map (·.size) = some cs.length) :
    (results fn tmps).run Tryz.prog w = .ok (.agg cs.toArray) w := by
  have hp' : tmps[p]?.getD undef = .pointer (some ⟨g, 0, none⟩) := by simpa using hp
  have hr := run_loadVar_cells w ⟨g, 0, none⟩ T cs hs hu hd hi
  simp [results, h, hp', asAddr, hr]
theorem gsetRow' (w : World) (g : Nat) (cs : Array Value) : w.grownBy (w.setRow g cs) (some g) :=
  ⟨rfl, rfl, rfl, by simp, fun i _ hne => setRow_other w g i cs (fun e => hne (by rw [e]))⟩
/-- append(s, b), one byte -/
theorem wpList_app1 {ops : Array Oper} {rest : List Oper} {o : Oper} {a : Act} {w : World} {Q : Exit → Act → World → Prop} (hgd : o.guard = none) (s x : Operand)
    (ho : o.op = .call { callee := .builtin .append, args := #[s, x], argTypes := #[40, 40] })
    {base : Nat} {v u : Value} {l : List UInt8} {b : UInt8} (hown : Ow w base v l) (hu : u = b8 b) (hs : a.eval s = v) (hx : a.eval x = .slice (some ⟨w.heap.size, 0, none⟩) 1 1)
    (hsz : l.length ≤ 140737488355327) (hbase : base ≤ w.heap.size)
    (h : ∀ v' w', Ow w' base v' (l ++ [b]) → Ext w w' v v' → wpList Tryz.prog ops Q rest (a.put o.dst v') w') : wpList Tryz.prog ops Q (o :: rest) a (w.alloc (.cells #[u] 5)) := by
  subst hu
  exact wpList_app8 hgd s x ho (hown.below_ (balloc w _)) (By.new_ w [b] (by simp [maxLen])) hs hx (by simp; omega) (by simp; omega) fun v' w' h1 h2 => h v' w' h1 (h2.after (balloc w _) v rfl)
/-- append(s, y), one thing -/
theorem wpList_app1R {α : Type} {E : TypeId} {C : Cdc α} {S : Nat → Prop} {ops : Array Oper} {rest : List Oper} {o : Oper} {a : Act} {w : World} {Q : Exit → Act → World → Prop} (hgd : o.guard = none) (s x : Operand) (t : TypeId)
    (ho : o.op = .call { callee := .builtin .append, args := #[s, x], argTypes := #[t, t] })
    (ht : Tryz.prog.underlying t = some (.slice E)) {z : Value} {bytes : Nat} (hinfo : (Tryz.prog.info? E).map (fun i => (i.zero, i.size, i.bytes)) = some (some z, C.n, bytes)) (hz2 : z.cells.size = C.n) (hn0 : 0 < C.n) (hb0 : bytes ≤ 256)
    {base : Nat} {v : Value} {xs : List α} {y : α} (cs : List Value) (hown : OwnR E C w base S v xs) (hy : C.at_ w S cs y) (hs : a.eval s = v) (hx : a.eval x = .slice (some ⟨w.heap.size, 0, none⟩) 1 1)
    (hsz : xs.length ≤ 549755813887) (hbase : base ≤ w.heap.size)
    (h : ∀ v' w', OwnR E C w' base S v' (xs ++ [y]) → Ext w w' v v' → wpList Tryz.prog ops Q rest (a.put o.dst v') w') : wpList Tryz.prog ops Q (o :: rest) a (w.alloc (.cells cs.toArray E)) := by
  have hS : ∀ k, S k → k < w.heap.size := by obtain ⟨_, _, _, _, h4⟩ := hown; exact fun k hk => (h4 k hk).1
  have hrow : RowOn C (w.alloc (.cells cs.toArray E)) (fun k => k < w.heap.size + 1) S (.slice (some ⟨w.heap.size, 0, none⟩) 1 1) [y] := by
    refine ⟨_, 1, rfl, Nat.le_refl _, by simp [maxLen], fun _ => ⟨_, rfl, Nat.lt_succ_self _, fun i y' hi => ?_⟩⟩
    match i, hi with
    | 0, hi =>
      injection hi with hi
      subst hi
      refine ⟨cs, C.keep hy fun p hp => World.cell?_alloc_lt w _ p (hS _ hp), fun j u hu => ?_⟩
      rw [Nat.zero_mul, Nat.zero_add]
      exact World.news_of_block (heap_alloc_new w _) j u (by simpa using hu)
    | i + 1, hi => simp at hi
  exact wpList_appR hgd s x t ho ht hinfo hz2 hn0 hb0 (hown.alloc _) hrow hs hx (by simp; omega) (by simp; omega) fun v' w' h1 h2 => h v' w' h1 (h2.after (balloc w _) v rfl)
theorem Ow.newAt (w : World) (l : List UInt8) (g n base : Nat) (hg : w.heap.size = g) (hn : l.length = n) (hm : n ≤ maxLen) (hb : base ≤ g) : Ow (w.alloc (.cells (b8s l).toArray 5)) base (.slice (some ⟨g, 0, none⟩) n n) l := by
  subst hg; subst hn
  exact (Ow.new_ w l hm).mono hb
/-- two rows of the call's own that aren't one -/
def Apart (u v : Value) : Prop := ∀ q, u.ownBlock = some q → v.ownBlock ≠ some q
theorem Apart.symm {u v : Value} (h : Apart u v) : Apart v u := fun q hv hu => h q hu hv
theorem Apart.ne {u v : Value} (h : Apart u v) : u.ownBlock = none ∨ u.ownBlock ≠ v.ownBlock := by
  cases hu : u.ownBlock with
  | none => exact .inl rfl
  | some q => exact .inr fun e => h q hu e.symm
/-- an append onto one keeps it apart from another one that lies there -/
theorem Apart.ext {w w' : World} {u v v' : Value} (h : Apart u v) (hx : Ext w w' v v') (hu : ∀ q, u.ownBlock = some q → q < w.heap.size) : Apart u v' := by
  intro q hq e
  rcases hx.at_ with h1 | h1
  · exact h q hq (by rw [← h1]; exact e)
  · have := h1 q e; have := hu q hq; omega
theorem Apart.new_ {w : World} {u v : Value} (hu : ∀ q, u.ownBlock = some q → q < w.heap.size) (hv : ∀ q, v.ownBlock = some q → w.heap.size ≤ q) : Apart u v :=
  fun q hq e => by have := hu q hq; have := hv q e; omega

/-! ### what the walk meets as bytes -/
/-- a byte in one cell -/
def c8 : Cdc UInt8 := Cdc.flat 1 (fun b => [b8 b]) (fun _ => True) (fun _ => rfl) (fun x u hu => by simp at hu; subst hu; rfl)
def c32 : Cdc UInt32 := Cdc.flat 1 (fun b => [.int .u32 (b.toNat : Int)]) (fun _ => True) (fun _ => rfl) (fun x u hu => by simp at hu; subst hu; rfl)
def c64 : Cdc UInt64 := Cdc.flat 1 (fun b => [.int .u64 (b.toNat : Int)]) (fun _ => True) (fun _ => rfl) (fun x u hu => by simp at hu; subst hu; rfl)
def cInt : Cdc Int := Cdc.flat 1 (fun b => [.int .i64 b]) (fun b => -9223372036854775808 ≤ b ∧ b ≤ 9223372036854775807) (fun _ => rfl) (fun x u hu => by simp at hu; subst hu; rfl)
def cBool : Cdc Bool := Cdc.flat 1 (fun b => [.bool b]) (fun _ => True) (fun _ => rfl) (fun x u hu => by simp at hu; subst hu; rfl)
def cStr : Cdc ByteArray := Cdc.flat 1 (fun b => [.string b]) (fun b => b.size ≤ maxLen) (fun _ => rfl) (fun x u hu => by simp at hu; subst hu; rfl)

theorem RowOn.toBy {w : World} {B : Nat} {v : Value} {l : List UInt8} {S : Nat → Prop} (h : RowOn c8 w (fun k => k < B) S v l) : By w B v l := by
  obtain ⟨A, c, h1, h2, h3, h4⟩ := h
  refine ⟨A, c, h1, h2, h3, by simp [b8s_length], fun hn => ?_⟩
  obtain ⟨ad, e, hb, hc⟩ := h4 hn
  refine ⟨ad, e, hb, fun j u hu => ?_⟩
  obtain ⟨hj, he⟩ := List.getElem?_eq_some_iff.1 hu
  rw [b8s_length] at hj
  obtain ⟨cs, ⟨rfl, _⟩, hcs⟩ := hc j _ (List.getElem?_eq_getElem hj)
  have := hcs 0 _ rfl
  simp only [c8, Cdc.flat, Nat.mul_one, Nat.add_zero] at this
  rw [this, ← he]
  simp [b8s]
theorem By.toRow {w : World} {B : Nat} {v : Value} {l : List UInt8} {S : Nat → Prop} (h : By w B v l) : RowOn c8 w (fun k => k < B) S v l := by
  obtain ⟨A, c, h1, h2, h3, h4⟩ := h
  refine ⟨A, c, h1, h2, h3, fun hn => ?_⟩
  obtain ⟨ad, e, hb, hc⟩ := h4.2 hn
  refine ⟨ad, e, hb, fun i x hx => ⟨[b8 x], ⟨rfl, trivial⟩, fun j u hu => ?_⟩⟩
  match j, hu with
  | 0, hu =>
    injection hu with hu
    subst hu
    simp only [c8, Cdc.flat, Nat.mul_one, Nat.add_zero]
    refine hc i _ ?_
    simp [b8s, hx]
  | j + 1, hu => simp at hu
theorem flatten_b8 : ∀ l : List UInt8, (l.map fun b => [b8 b]).flatten = b8s l
  | [] => rfl
  | b :: l => by rw [List.map_cons, List.flatten_cons, flatten_b8 l]; rfl
theorem OwnF.toOw {w : World} {base : Nat} {v : Value} {l : List UInt8} (h : OwnF 5 c8 w base v l) : Ow w base v l := by
  obtain ⟨css, hl, h2, h3, _⟩ := h
  have : css.flatten = b8s l := by
    rw [← flatten_b8]
    congr 1
    refine List.ext_getElem? fun i => ?_
    rcases Nat.lt_or_ge i l.length with hi | hi
    · have := h3 i (css[i]'(by omega)) (l[i]'hi) (List.getElem?_eq_getElem (by omega)) (List.getElem?_eq_getElem hi)
      simp [List.getElem?_eq_getElem (show i < css.length by omega), List.getElem?_eq_getElem hi, this.1]
    · rw [List.getElem?_eq_none (by omega), List.getElem?_eq_none (by simpa using hi)]
  unfold Ow
  rw [← this]
  exact h2
theorem Ow.toOwn {w : World} {base : Nat} {v : Value} {l : List UInt8} (h : Ow w base v l) : OwnF 5 c8 w base v l := by
  refine ⟨l.map fun b => [b8 b], by simp, by rw [flatten_b8]; exact h, fun i cs x hc hx => ?_, fun _ hk => hk.elim⟩
  rw [List.getElem?_map, hx] at hc
  injection hc with hc
  exact ⟨hc.symm, trivial⟩
end Go.Proofs.YtcffeepgfjpcaaaGreat

namespace Go.Proofs.YtcffeepgfjpcaaaGreat
set_option linter.unusedSimpArgs false
set_option linter.unusedVariables false
open Go.RowKit

def puts : List Value → Nat → List Value → List Value
  | cs, _, [] => cs
  | cs, o, v :: r => puts (cs.set o v) (o + 1) r
theorem puts_len : ∀ (vs : List Value) (cs : List Value) (o : Nat), (puts cs o vs).length = cs.length
  | [], _, _ => rfl
  | v :: r, cs, o => by rw [puts, puts_len r, List.length_set]
theorem puts_get : ∀ (vs : List Value) (cs : List Value) (o k : Nat), o + vs.length ≤ cs.length → (puts cs o vs)[k]? = if o ≤ k ∧ k < o + vs.length then vs[k - o]? else cs[k]?
  | [], cs, o, k, h => by
    rw [puts, if_neg]
    intro hh
    simp only [List.length_nil] at hh
    omega
  | v :: r, cs, o, k, h => by
    simp only [List.length_cons] at h ⊢
    rw [puts, puts_get r _ _ k (by rw [List.length_set]; omega)]
    by_cases h1 : o = k
    · subst h1
      rw [if_neg (by omega), if_pos (by omega), List.getElem?_set, if_pos rfl, if_pos (by omega), Nat.sub_self]
      first | done | rfl
    · by_cases h2 : o + 1 ≤ k ∧ k < o + 1 + r.length
      · rw [if_pos h2, if_pos (by omega), show k - o = (k - (o + 1)) + 1 from by omega, List.getElem?_cons_succ]
      · rw [if_neg h2, if_neg (by omega), List.getElem?_set, if_neg h1]
theorem BoxAt.setCells_ {T : TypeId} {b : Nat} : ∀ (vs : List Value) {w : World} {cs : List Value} (o : Nat), BoxAt T w b cs → BoxAt T (w.setCells b o vs) b (puts cs o vs)
  | [], _, _, _, h => h
  | v :: r, w, cs, o, h => BoxAt.setCells_ r (o + 1) (h.put o v)
theorem gsetCells (b : Nat) : ∀ (vs : List Value) (w : World) (o : Nat), w.grownBy (w.setCells b o vs) (some b)
  | [], w, _ => grefl w _
  | v :: r, w, o => gtrans (gset w ⟨b, o, none⟩ v) (gsetCells b r _ (o + 1))
theorem gdrew_ {w w' : World} {row : Option Nat} (h : w.grownBy w' row) : w.grownBy w'.drew row := gtrans h (gbelow ((Below.refl w'.heap.size w').drew) row)
/-- what a call has changed: blocks of P, and new ones -/
structure Chg (P : Nat → Prop) (w w' : World) : Prop where
  os : w'.os = w.os
  tape : w'.tape = w.tape
  output : w'.output = w.output
  size : w.heap.size ≤ w'.heap.size
  block : ∀ k, k < w.heap.size → ¬ P k → w'.heap[k]? = w.heap[k]?
theorem Chg.refl (P : Nat → Prop) (w : World) : Chg P w w := ⟨rfl, rfl, rfl, Nat.le_refl _, fun _ _ _ => rfl⟩
theorem Chg.trans {P : Nat → Prop} {a b c : World} (h : Chg P a b) (k : Chg P b c) : Chg P a c :=
  ⟨k.os.trans h.os, k.tape.trans h.tape, k.output.trans h.output, Nat.le_trans h.size k.size, fun i hi hn => (k.block i (Nat.lt_of_lt_of_le hi h.size) hn).trans (h.block i hi hn)⟩
theorem Chg.more {P Q : Nat → Prop} {a b : World} (h : Chg P a b) (hq : ∀ k, k < a.heap.size → P k → Q k) : Chg Q a b := ⟨h.os, h.tape, h.output, h.size, fun k hk hn => h.block k hk fun hp => hn (hq k hk hp)⟩
theorem Chg.ofGrown {P : Nat → Prop} {a b : World} {row : Option Nat} (h : a.grownBy b row) (hr : ∀ k, row = some k → P k) : Chg P a b := ⟨h.os, h.tape, h.output, h.size, fun k hk hn => h.block k hk fun e => hn (hr k e.symm)⟩
theorem Chg.ofBelow {P : Nat → Prop} {a b : World} (h : Below a.heap.size a b) : Chg P a b := ⟨h.os, h.tape, h.output, h.size, fun k hk _ => h.block k hk⟩
theorem Chg.set {P : Nat → Prop} (w : World) (p : Addr) (u : Value) (h : P p.block) : Chg P w (w.setCell p u) := Chg.ofGrown (gset w p u) fun k e => by injection e with e; rw [← e]; exact h
theorem Chg.drew_ {P : Nat → Prop} {a b : World} (h : Chg P a b) : Chg P a b.drew := ⟨h.os, h.tape, h.output, h.size, h.block⟩
theorem Chg.alloc_ {P : Nat → Prop} {a b : World} (h : Chg P a b) (o : Obj) : Chg P a (b.alloc o) := h.trans (Chg.ofBelow (balloc b o))
/-- changes of what was new are none -/
theorem Chg.past {P Q : Nat → Prop} {a b c : World} (h : Chg P a b) (k : Chg Q b c) (hq : ∀ i, Q i → a.heap.size ≤ i ∨ P i) : Chg P a c :=
  ⟨k.os.trans h.os, k.tape.trans h.tape, k.output.trans h.output, Nat.le_trans h.size k.size, fun i hi hn => (k.block i (Nat.lt_of_lt_of_le hi h.size) (fun hx => by
    rcases hq i hx with h1 | h1
    · omega
    · exact hn h1)).trans (h.block i hi hn)⟩
theorem Chg.below {P : Nat → Prop} {a b : World} {B : Nat} (h : Chg P a b) (hB : B ≤ a.heap.size) (hp : ∀ k, P k → B ≤ k) : Below B a b := by
  have h1 := h.block
  refine (Below.refl B a).trans ⟨h.os, h.tape, h.output, h.size, fun k hk => h1 k (by omega) fun hx => by have := hp k hx; omega⟩
theorem BoxAt.chg {P : Nat → Prop} {T : TypeId} {w w' : World} {g : Nat} {cs : List Value} (h : BoxAt T w g cs) (hc : Chg P w w') (hn : ¬ P g) : BoxAt T w' g cs := (hc.block g h.lt hn).trans h
theorem Chg.drewN_ {P : Nat → Prop} {a b : World} (h : Chg P a b) (n : Nat) : Chg P a (b.drewN n) := ⟨h.os, h.tape, h.output, h.size, h.block⟩
end Go.Proofs.YtcffeepgfjpcaaaGreat

namespace Go.Proofs.YtcffeepgfjpcaaaGreat
set_option linter.unusedSimpArgs false
set_option linter.unusedVariables false
open Go.RowKit

abbrev Blk := {l : List UInt8 // l.length = 128}
/-- bytes laid over a block from o on -/
def over (b : Blk) (o : Nat) (us : List UInt8) : Blk := if h : o + us.length ≤ 128 then ⟨b.1.take o ++ us ++ b.1.drop (o + us.length), by have := b.2; simp; omega⟩ else b
abbrev Wt := Nat × Blk
structure DState where
  bl : List Blk
  wt : List Wt
  off : Bool
  fuse : Int
theorem OwnF.kept {α : Type} {E : TypeId} {C : Cdc α} {w w' : World} {base : Nat} {v : Value} {xs : List α} (h : OwnF E C w base v xs) (hk : ∀ q, v.ownBlock = some q → w'.heap[q]? = w.heap[q]?) : OwnF E C w' base v xs := by
  obtain ⟨css, hl, ⟨h1, h2⟩, h3, h4⟩ := h
  refine ⟨css, hl, ⟨h1, ?_⟩, fun i cs x hc hx => C.keep (h3 i cs x hc hx) fun p hp => hp.elim, fun k hk => hk.elim⟩
  rcases h2 with h2 | ⟨g, cap, cur, e, hg, hh, r⟩
  · exact .inl h2
  · subst e
    exact .inr ⟨g, cap, cur, rfl, hg, (hk g rfl).trans hh, r⟩
end Go.Proofs.YtcffeepgfjpcaaaGreat

namespace Go.Proofs.YtcffeepgfjpcaaaGreat
set_option linter.unusedSimpArgs false
set_option linter.unusedVariables false

def zeroB : Blk := ⟨List.replicate 128 0, by simp⟩
end Go.Proofs.YtcffeepgfjpcaaaGreat

namespace Go.Proofs.YtcffeepgfjpcaaaGreat
set_option linter.unusedSimpArgs false
set_option linter.unusedVariables false
open Go.RowKit

/-- a fact on a value that every later world keeps -/
structure Ph where
  p : Value → World → Prop
  st : ∀ v w w', p v w → Below w.heap.size w w' → p v w'
/-- the value is this one -/
def Ph.is (c : Value) : Ph := ⟨fun v _ => v = c, fun _ _ _ h _ => h⟩
def Ph.any : Ph := ⟨fun _ _ => True, fun _ _ _ h _ => h⟩
instance : Inhabited Ph := ⟨Ph.any⟩
/-- a readable row of bytes -/
def Ph.by_ (l : List UInt8) : Ph := ⟨fun v w => By w w.heap.size v l, fun _ _ _ h hb => h.step hb⟩

/-- what lies in the slot behind the operation -/
def dstVal (d : Option Nat) (v : Value) : Value := match d with | some _ => v | none => undef
@[simp] theorem dstVal_some (d : Nat) (v : Value) : dstVal (some d) v = v := rfl
@[simp] theorem dstVal_none (v : Value) : dstVal none v = undef := rfl
def mildUpon (P : Program) (w : World) (d : Option Nat) (ph : Value → World → Prop) : Result Next → Prop
  | .ok (.value u) w' => Below w.heap.size w w' ∧ ph (dstVal d u) w'
  | .ok .skip w' => Below w.heap.size w w' ∧ ph undef w'
  | .ok (.enter f args) w' => Calls P f args w' (fun e w'' => ∃ v, e = .returned v ∧ Below w.heap.size w w'' ∧ ph (dstVal d v) w'')
  | _ => False

/-- the frame with the slots ds written anew -/
def fills (ds : List Nat) (f : Nat → Value) (a : Act) : Act := ds.foldl (fun a d => a.put (some d) (f d)) a

theorem fills_defers (ds : List Nat) (f : Nat → Value) (a : Act) : (fills ds f a).defers = a.defers := by
  unfold fills
  induction ds generalizing a with
  | nil => rfl
  | cons d ds ih => rw [List.foldl_cons, ih]; rfl
theorem fills_size (ds : List Nat) (f : Nat → Value) (a : Act) : (fills ds f a).tmps.size = a.tmps.size := by
  unfold fills
  induction ds generalizing a with
  | nil => rfl
  | cons d ds ih => rw [List.foldl_cons, ih]; simp [Act.put]
theorem fills_get (ds : List Nat) (f : Nat → Value) (a : Act) (t : Nat) : (fills ds f a).tmps[t]? = if t ∈ ds ∧ t < a.tmps.size then some (f t) else a.tmps[t]? := by
  unfold fills
  induction ds generalizing a with
  | nil => simp
  | cons d ds ih =>
    rw [List.foldl_cons, ih]
    simp only [Act.put, Array.size_setIfInBounds, List.mem_cons]
    by_cases h1 : t ∈ ds ∧ t < a.tmps.size
    · rw [if_pos h1, if_pos ⟨.inr h1.1, h1.2⟩]
    · rw [if_neg h1]
      by_cases h2 : t = d
      · subst h2
        by_cases h3 : t < a.tmps.size
        · rw [if_pos ⟨.inl rfl, h3⟩]; simp [h3]
        · rw [if_neg (fun h => h3 h.2)]; simp [Array.setIfInBounds, h3]
      · rw [if_neg (fun h => by rcases h with ⟨h | h, h'⟩; exact h2 h; exact h1 ⟨h, h'⟩), Array.getElem?_setIfInBounds_ne (Ne.symm h2)]
theorem act_ext {a b : Act} (h1 : ∀ t : Nat, a.tmps[t]? = b.tmps[t]?) (h2 : a.defers = b.defers) : a = b := by
  cases a; cases b
  have : _ = _ := Array.ext_getElem? h1
  simp_all
theorem fills_put (ds : List Nat) (f : Nat → Value) (a : Act) (d : Nat) (v : Value) (hd : d ∈ ds) : (fills ds f a).put (some d) v = fills ds (fun t => if t = d then v else f t) a := by
  refine act_ext (fun t => ?_) ?_
  · rw [fills_get]
    simp only [Act.put]
    by_cases h : t = d
    · subst h
      by_cases h3 : t < a.tmps.size
      · rw [if_pos ⟨hd, h3⟩, Array.getElem?_setIfInBounds_self_of_lt (by rw [fills_size]; exact h3)]; simp
      · rw [if_neg (fun h => h3 h.2)]
        have h4 : ¬ t < (fills ds f a).tmps.size := by rw [fills_size]; exact h3
        simp only [Array.setIfInBounds, h4, dite_false]
        rw [fills_get, if_neg (fun h => h3 h.2)]
    · rw [Array.getElem?_setIfInBounds_ne (Ne.symm h), fills_get, if_neg h]
  · rw [fills_defers]; exact fills_defers ds f a
theorem fills_self (ds : List Nat) (a : Act) : fills ds (fun t => a.tmps.getD t undef) a = a := by
  refine act_ext (fun t => ?_) (fills_defers _ _ _)
  rw [fills_get]
  split
  · rename_i h
    rw [Array.getD_eq_getD_getElem?, Array.getElem?_eq_getElem h.2]; rfl
  · rfl
theorem fills_getD (ds : List Nat) (f : Nat → Value) (a : Act) (d : Nat) (hd : d ∈ ds) (h : d < a.tmps.size) : (fills ds f a).tmps.getD d undef = f d := by
  rw [Array.getD_eq_getD_getElem?, fills_get, if_pos ⟨hd, h⟩]; rfl

/-- the value of operation number j; dl: the slots that the operations write -/
def valOf (dl : List (Option Nat)) (f : Nat → Value) (j : Nat) : Value := match dl[j]? with | some (some d) => f d | _ => undef
def factOf (dl : List (Option Nat)) (Φ : List Ph) (f : Nat → Value) (w : World) (j : Nat) : Prop := (Φ.getD j default).p (valOf dl f j) w
/-- the facts of all that an operation waits for -/
def PreOf (dl : List (Option Nat)) (Φ : List Ph) (f : Nat → Value) (w : World) : List Edge → Prop
  | [] => True
  | e :: es => (if Region.binds .any e then factOf dl Φ f w e.on else True) ∧ PreOf dl Φ f w es
/-- its guard says yes -/
def Gd (dl : List (Option Nat)) (f : Nat → Value) : Option (Nat × Bool) → Prop
  | none => True
  | some (j, want) => valOf dl f j = .bool want
/-- the frame as the operations see it -/
def evalF (ds : List Nat) (f : Nat → Value) (a : Act) : Operand → Value
  | .tmp t => if ds.contains t then f t else a.tmps.getD t undef
  | x => a.eval x
/-- what is to be shown of one operation -/
def Ob1 (P : Program) (dl : List (Option Nat)) (Φ : List Ph) (ds : List Nat) (a : Act) (w : World) (ph : Ph) (o : Oper) : Prop :=
  ∀ f w', Below w.heap.size w w' → PreOf dl Φ f w' o.after.toList →
    (Gd dl f o.guard → mildUpon P w' o.dst ph.p ((execOp (evalF ds f a) o).run P w')) ∧ (¬ Gd dl f o.guard → ph.p undef w')
def ObAll (P : Program) (dl : List (Option Nat)) (Φ : List Ph) (ds : List Nat) (a : Act) (w : World) : List Oper → List Ph → Prop
  | [], _ => True
  | _ :: _, [] => False
  | o :: os, ph :: phs => Ob1 P dl Φ ds a w ph o ∧ ObAll P dl Φ ds a w os phs
def PostOf (f : Nat → Value) (w : World) : List (Option Nat) → List Ph → Prop
  | [], _ => True
  | _ :: _, [] => True
  | d :: os, ph :: phs => ph.p (match d with | some d => f d | none => undef) w ∧ PostOf f w os phs

theorem evalF_fills {ds : List Nat} {a : Act} (f : Nat → Value) (h : ∀ d ∈ ds, d < a.tmps.size) : (fills ds f a).eval = evalF ds f a := by
  funext x
  cases x with
  | tmp t =>
    simp only [Act.eval, evalF]
    rw [Array.getD_eq_getD_getElem?, fills_get]
    by_cases ht : t ∈ ds
    · rw [if_pos ⟨ht, h t ht⟩, if_pos (by simpa using ht)]; rfl
    · rw [if_neg (fun h => ht h.1), if_neg (by simpa using ht), Array.getD_eq_getD_getElem?]
  | const v => rfl
  | global g => rfl
  | func g => rfl
theorem yielded_iff (ops : Array Oper) (dl : List (Option Nat)) (hdl : ops.toList.map (·.dst) = dl) (ds : List Nat) (f : Nat → Value) (a : Act) (h : ∀ d ∈ ds, d < a.tmps.size) (hds : ∀ d, some d ∈ dl → d ∈ ds) (g : Option (Nat × Bool)) (o : Oper) (hg : o.guard = g) :
    Region.wanted o (yielded ops (fills ds f a).tmps) = true ↔ Gd dl f g := by
  subst hg
  unfold Region.wanted Gd
  cases hgd : o.guard with
  | none => simp
  | some x =>
    obtain ⟨j, want⟩ := x
    simp only [beq_iff_eq]
    unfold yielded valOf
    have hj : dl[j]? = (ops[j]?).map (fun (o : Oper) => o.dst) := by rw [← hdl]; simp
    rw [hj]
    cases ho : ops[j]? with
    | none => simp [undef]
    | some oj =>
      simp only [Option.map_some, Option.bind_some]
      cases hd : oj.dst with
      | none => simp [undef]
      | some d =>
        have hdd : d ∈ ds := hds d (by
          rw [← hdl]
          exact List.mem_map.2 ⟨oj, by simpa using Array.mem_of_getElem? ho, hd⟩)
        have hv : (fills ds f a).tmps.getD d undef = f d := fills_getD ds f a d hdd (h d hdd)
        have hv2 : (fills ds f a).tmps[d]? = some (f d) := by rw [fills_get, if_pos ⟨hdd, h d hdd⟩]
        simp only [Option.bind_some, hv2]
        cases f d <;> simp

theorem preOf_mk {dl : List (Option Nat)} {Φ : List Ph} {f : Nat → Value} {w : World} : ∀ (es : List Edge), (∀ e ∈ es, Region.binds .any e = true → factOf dl Φ f w e.on) → PreOf dl Φ f w es
  | [], _ => trivial
  | e :: es, h => by
    refine ⟨?_, preOf_mk es fun x hx => h x (List.mem_cons_of_mem _ hx)⟩
    split
    · exact h e (List.mem_cons_self ..) ‹_›
    · trivial
theorem obAll_get {P : Program} {dl : List (Option Nat)} {Φ : List Ph} {ds : List Nat} {a : Act} {w : World} : ∀ (os : List Oper) (phs : List Ph), ObAll P dl Φ ds a w os phs →
    ∀ (i : Nat) (o : Oper), os[i]? = some o → Ob1 P dl Φ ds a w (phs.getD i default) o
  | [], _, _, i, o, h => by simp at h
  | _ :: _, [], h, _, _, _ => h.elim
  | o' :: os, ph :: phs, h, 0, o, ho => by
    simp at ho; subst ho; exact h.1
  | o' :: os, ph :: phs, h, i + 1, o, ho => by
    simp at ho; simpa using obAll_get os phs h.2 i o ho
theorem postOf_mk {f : Nat → Value} {w : World} : ∀ (os : List (Option Nat)) (phs : List Ph),
    (∀ (i : Nat) (d : Option Nat), os[i]? = some d → (phs.getD i default).p (match d with | some d => f d | none => undef) w) → PostOf f w os phs
  | [], _, _ => by simp [PostOf]
  | _ :: _, [], _ => by simp [PostOf]
  | d :: os, ph :: phs, h => ⟨h 0 d rfl, postOf_mk os phs fun i d hd => by simpa using h (i + 1) d (by simpa using hd)⟩

/-- the closed facts on the region: the slots that are written are different ones, in the frame; edges go backward -/
def dstsOf_ (l : List Oper) : List Nat := l.filterMap (·.dst)
def typedB (l : List Oper) (n : Nat) : Bool :=
  decide ((dstsOf_ l).Nodup) && (dstsOf_ l).all (fun d => decide (d < n)) &&
  (l.zipIdx).all (fun x => x.1.after.all fun e => !Region.binds .any e || decide (e.on < x.2)) && Region.noSelect l.toArray

section
variable {P : Program} {l : List Oper} {dl : List (Option Nat)} {ds : List Nat} {Φ : List Ph} {a : Act} {w : World} {Q : Exit → Act → World → Prop}

theorem typed_aux (hdl : l.map (·.dst) = dl) (hn : typedB l a.tmps.size = true) (hob : ObAll P dl Φ (dstsOf_ l) a w l Φ)
    (hQ : ∀ f w', Below w.heap.size w w' → PostOf f w' dl Φ → Q .normal (fills (dstsOf_ l) f a) w') :
    ∀ (fuel : Nat) (listed : Array Bool) (rem : List Nat), rem.length = fuel → listed.size = l.length → rem.Nodup → (∀ i, i ∈ rem ↔ i < l.length ∧ listed.getD i true = false) →
      ∀ f w', Below w.heap.size w w' → (∀ i, i < l.length → listed.getD i false = true → factOf dl Φ f w' i) →
      wpAny P .any l.toArray Q fuel listed (fills (dstsOf_ l) f a) w' := by
  simp only [typedB, Bool.and_eq_true] at hn
  obtain ⟨⟨⟨hnd, hlt⟩, hed⟩, _⟩ := hn
  have hdlg : ∀ i : Nat, dl[i]? = (l[i]?).map (fun (o : Oper) => o.dst) := fun i => by rw [← hdl]; simp
  have hnd := of_decide_eq_true hnd
  have hlt : ∀ d ∈ dstsOf_ l, d < a.tmps.size := fun d hd => of_decide_eq_true (List.all_eq_true.1 hlt d hd)
  have hed : ∀ (i : Nat) (o : Oper), l[i]? = some o → ∀ e ∈ o.after, Region.binds .any e = true → e.on < i := by
    intro i o ho e he hb
    have h1 := List.all_eq_true.1 hed (o, i) (by
      rw [List.mem_zipIdx_iff_getElem?]; exact ho)
    have h2 := (Array.all_eq_true_iff_forall_mem.1 h1) e he
    simpa [hb] using h2
  have hall : ∀ (listed : Array Bool), listed.size = l.length → Region.ready .any l.toArray listed = [] → ∀ i, i < l.length → listed.getD i false = true := by
    intro listed hs hr i
    induction i using Nat.strongRecOn with
    | _ i ih =>
      intro hi
      rcases hc : listed.getD i false with _ | _
      · exfalso
        have hm : i ∈ Region.ready .any l.toArray listed := by
          rw [mem_ready]
          refine ⟨?_, l[i], by simp [hi], fun e he hb => ?_⟩
          · rw [Array.getD_eq_getD_getElem?] at hc ⊢
            rw [Array.getElem?_eq_getElem (by omega)] at hc ⊢
            exact hc
          · have := hed i l[i] (by simp [hi]) e he hb
            exact ih e.on this (by omega)
        rw [hr] at hm
        cases hm
      · rfl
  have hend : ∀ (listed : Array Bool), listed.size = l.length → (∀ i, i < l.length → listed.getD i false = true) → ∀ f w', Below w.heap.size w w' → (∀ i, i < l.length → listed.getD i false = true → factOf dl Φ f w' i) →
      Q .normal (fills (dstsOf_ l) f a) w' := by
    intro listed hs hal f w' hb hf
    refine hQ f w' hb (postOf_mk dl Φ fun i d hd => ?_)
    have hi : i < l.length := by
      have := (List.getElem?_eq_some_iff.1 hd).1
      rw [← hdl] at this
      simpa using this
    have := hf i hi (hal i hi)
    unfold factOf valOf at this
    rw [hd] at this
    cases d <;> exact this
  intro fuel
  induction fuel with
  | zero =>
    intro listed rem hrem hs hnr hmem f w' hb hf
    have hr0 : rem = [] := List.eq_nil_of_length_eq_zero hrem
    have hal : ∀ i, i < l.length → listed.getD i false = true := by
      intro i hi
      rcases hc : listed.getD i false with _ | _
      · exfalso
        have : i ∈ rem := (hmem i).2 ⟨hi, by
          rw [Array.getD_eq_getD_getElem?] at hc ⊢
          rw [Array.getElem?_eq_getElem (by omega)] at hc ⊢
          exact hc⟩
        rw [hr0] at this
        cases this
      · rfl
    refine ⟨?_, hend listed hs hal f w' hb hf⟩
    rw [List.eq_nil_iff_forall_not_mem]
    intro i hi
    have h1 := (mem_ready.1 hi).1
    obtain ⟨_, o, ho, _⟩ := mem_ready.1 hi
    have hil : i < l.length := by
      have := (Array.getElem?_eq_some_iff.1 ho).1
      simpa using this
    have h2 := hal i hil
    rw [Array.getD_eq_getD_getElem?, Array.getElem?_eq_getElem (by omega)] at h1 h2
    simp at h1 h2
    rw [h1] at h2
    cases h2
  | succ fuel ih =>
    intro listed rem hrem hs hnr hmem f w' hb hf
    refine ⟨fun h => hend listed hs (hall listed hs h) f w' hb hf, fun i hi => ?_⟩
    obtain ⟨hun, o, ho, hpre⟩ := mem_ready.1 hi
    have hol : l[i]? = some o := by simpa using ho
    have hil : i < l.length := (List.getElem?_eq_some_iff.1 hol).1
    have hp : PreOf dl Φ f w' o.after.toList := preOf_mk _ fun e he hbd => by
      have he' : e ∈ o.after := by simpa using he
      have hlist := hpre e he' hbd
      exact hf e.on (Nat.lt_trans (hed i o hol e he' hbd) hil) hlist
    have hone := obAll_get l Φ hob i o hol f w' hb hp
    have hgd := yielded_iff l.toArray dl (by simpa using hdl) (dstsOf_ l) f a hlt (fun d hd => by
      rw [← hdl] at hd
      obtain ⟨oo, h1, h2⟩ := List.mem_map.1 hd
      exact List.mem_filterMap.2 ⟨oo, h1, h2⟩) o.guard o rfl
    -- what follows once the value is there
    have hnext : ∀ v w'', Below w'.heap.size w' w'' → (Φ.getD i default).p (dstVal o.dst v) w'' →
        wpAny P .any l.toArray Q fuel (listed.setIfInBounds i true) ((fills (dstsOf_ l) f a).put o.dst v) w'' := by
      intro v w'' hb' hv
      have hrem' : (rem.erase i).length = fuel := by
        have : i ∈ rem := (hmem i).2 ⟨hil, hun⟩
        rw [List.length_erase_of_mem this]; omega
      have hmem' : ∀ k, k ∈ rem.erase i ↔ k < l.length ∧ (listed.setIfInBounds i true).getD k true = false := by
        intro k
        rw [hnr.mem_erase_iff, hmem]
        by_cases hk : k = i
        · subst hk
          simp only [ne_eq, not_true, false_and, false_iff, not_and]
          intro hk
          rw [Array.getD_eq_getD_getElem?, Array.getElem?_setIfInBounds_self_of_lt (by omega)]
          simp
        · rw [getD_set_ne true (Ne.symm hk)]
          simp [hk]
      have hst : ∀ k, k < l.length → k ≠ i → (listed.setIfInBounds i true).getD k false = true → listed.getD k false = true := by
        intro k _ hk h
        rw [getD_set_ne false (Ne.symm hk)] at h
        exact h
      cases hd : o.dst with
      | none =>
        show wpAny P .any l.toArray Q fuel _ (fills (dstsOf_ l) f a) w''
        refine ih _ (rem.erase i) hrem' (by simpa using hs) (hnr.erase i) hmem' f w'' (hb.trans (hb'.mono hb.size)) fun k hk hl => ?_
        by_cases hki : k = i
        · subst hki
          unfold factOf valOf
          rw [hdlg, hol]
          simp only [Option.map_some, hd]
          simpa [hd] using hv
        · exact (Φ.getD k default).st _ _ _ (hf k hk (hst k hk hki hl)) hb'
      | some d =>
        have hdm : d ∈ dstsOf_ l := List.mem_filterMap.2 ⟨o, List.mem_of_getElem? hol, hd⟩
        rw [fills_put _ _ _ _ _ hdm]
        refine ih _ (rem.erase i) hrem' (by simpa using hs) (hnr.erase i) hmem' _ w'' (hb.trans (hb'.mono hb.size)) fun k hk hl => ?_
        by_cases hki : k = i
        · subst hki
          unfold factOf valOf
          rw [hdlg, hol]
          simp only [Option.map_some, hd]
          simpa [hd] using hv
        · have h0 := (Φ.getD k default).st _ _ _ (hf k hk (hst k hk hki hl)) hb'
          unfold factOf
          have hval : valOf dl (fun t => if t = d then v else f t) k = valOf dl f k := by
            unfold valOf
            rw [hdlg]
            cases hok : l[k]? with
            | none => rfl
            | some ok =>
              cases hdk : ok.dst with
              | none => simp [hdk]
              | some dk =>
                simp only [Option.map_some, hdk]
                rw [if_neg]
                intro e
                subst e
                -- two operations with one slot
                have h3 : (dstsOf_ l).Nodup := hnd
                have : ∀ (m : List Oper) (x y : Nat) (ox oy : Oper), (m.filterMap (·.dst)).Nodup → m[x]? = some ox → m[y]? = some oy → ox.dst = some dk → oy.dst = some dk → x = y := by
                  intro m
                  induction m with
                  | nil => intro x y ox oy _ hx; simp at hx
                  | cons q m ihm =>
                    intro x y ox oy hnd hx hy hdx hdy
                    cases x with
                    | zero =>
                      cases y with
                      | zero => rfl
                      | succ y =>
                        exfalso
                        simp at hx hy
                        subst hx
                        simp only [List.filterMap_cons, hdx] at hnd
                        exact (List.nodup_cons.1 hnd).1 (List.mem_filterMap.2 ⟨oy, List.mem_of_getElem? hy, hdy⟩)
                    | succ x =>
                      cases y with
                      | zero =>
                        exfalso
                        simp at hx hy
                        subst hy
                        simp only [List.filterMap_cons, hdy] at hnd
                        exact (List.nodup_cons.1 hnd).1 (List.mem_filterMap.2 ⟨ox, List.mem_of_getElem? hx, hdx⟩)
                      | succ y =>
                        simp at hx hy
                        have : (m.filterMap (·.dst)).Nodup := by
                          simp only [List.filterMap_cons] at hnd
                          cases hq : q.dst with
                          | none => simpa [hq] using hnd
                          | some _ => simp only [hq] at hnd; exact (List.nodup_cons.1 hnd).2
                        rw [ihm x y ox oy this hx hy hdx hdy]
                exact hki (this l k i ok o h3 hok hol hdk hd)
          rw [hval]
          exact h0
    unfold wpOp
    simp only [ho]
    by_cases hw : Region.wanted o (yielded l.toArray (fills (dstsOf_ l) f a).tmps) = true
    · replace hone := hone.1 (hgd.1 hw)
      simp only [hw, if_true]
      left
      unfold Oper.wp
      rw [evalF_fills f hlt]
      generalize (execOp (evalF (dstsOf_ l) f a) o).run P w' = r at *
      cases r with
      | ok n w'' =>
        cases n <;> simp only [mildUpon] at hone <;> simp only [Oper.upon]
        case value u =>
          exact hnext u w'' hone.1 hone.2
        case skip =>
          refine hnext undef w'' hone.1 ?_
          cases o.dst <;> exact hone.2
        case enter f' args =>
          refine hone.mono ?_
          rintro e w3 ⟨v, rfl, hb3, hv⟩
          exact hnext v w3 hb3 hv
      | halt x w'' => simp only [mildUpon] at hone
    · replace hone := hone.2 (fun h => hw (hgd.2 h))
      simp only [hw]
      refine hnext undef w' (Below.refl _ _) ?_
      cases o.dst <;> exact hone

/-- THE LAW: a region that draws its order, by facts on its values. -/
theorem wp_region_typed {id : Nat} (dl : List (Option Nat)) (ds : List Nat) (Φ : List Ph) (hdl : l.map (·.dst) = dl) (hds : dstsOf_ l = ds) (hm : P.follows .mixedOrders = true) (hn : typedB l a.tmps.size = true) (hob : ObAll P dl Φ ds a w l Φ)
    (hQ : ∀ f w', Below w.heap.size w w' → PostOf f w' dl Φ → Q .normal (fills ds f a) w') : (Code.region id l.toArray true).wp P Q a w := by
  subst hds
  refine wp_region_any hm ?_
  have := typed_aux hdl hn hob hQ l.length (Array.replicate l.length false) (List.range l.length) (by simp) (by simp) List.nodup_range (by
    intro i
    simp only [List.mem_range, Array.getD_eq_getD_getElem?]
    constructor
    · intro h; exact ⟨h, by simp [h]⟩
    · exact fun h => h.1) (fun t => a.tmps.getD t undef) { w with drawn := w.drawn + 1 } ((Below.refl _ w).drew) (by
    intro i hi h
    simp [Array.getD_eq_getD_getElem?, hi] at h)
  rw [fills_self] at this
  simpa using this
end

/-! ### one operation -/
section
variable {P : Program} {dl : List (Option Nat)} {ds : List Nat} {Φ : List Ph} {a : Act} {w : World} {ph : Ph} {o : Oper}
/-- its guard, if there is one, says yes by the facts -/
theorem ob_yes (h : ∀ f w', Below w.heap.size w w' → PreOf dl Φ f w' o.after.toList → Gd dl f o.guard ∧ mildUpon P w' o.dst ph.p ((execOp (evalF ds f a) o).run P w')) : Ob1 P dl Φ ds a w ph o :=
  fun f w' hb hp => ⟨fun _ => (h f w' hb hp).2, fun hn => (hn (h f w' hb hp).1).elim⟩
/-- its guard says no by the facts -/
theorem ob_no (h : ∀ f w', Below w.heap.size w w' → PreOf dl Φ f w' o.after.toList → ¬ Gd dl f o.guard ∧ ph.p undef w') : Ob1 P dl Φ ds a w ph o :=
  fun f w' hb hp => ⟨fun hg => ((h f w' hb hp).1 hg).elim, fun _ => (h f w' hb hp).2⟩
/-- a value, the world as it was -/
theorem mild_val {d : Option Nat} {q : Value → World → Prop} {r : Result Next} {w' : World} (u : Value) (hr : r = .ok (.value u) w') (hq : q (dstVal d u) w') : mildUpon P w' d q r := by
  subst hr; exact ⟨Below.refl _ _, hq⟩
theorem mild_call {d : Option Nat} {q : Value → World → Prop} {w' : World} {ρ : Operand → Value} (f : Nat) (args : Array Operand) (ts : Array TypeId) (fn : Func) (hf : P.funcs[f]? = some fn) (hn : (fn.name == "runtime.NumGoroutine") = false) (hb : fn.body.isNone = false)
    {t : TypeId} {pos : String} {af : Array Edge} {g : Option (Nat × Bool)} (hρ : ρ (.func f) = .func (.func f) #[] #[])
    (h : Calls P f (args.map ρ) w' (fun e w'' => ∃ v, e = .returned v ∧ Below w'.heap.size w' w'' ∧ q (dstVal d v) w'')) :
    mildUpon P w' d q ((execOp ρ { dst := d, op := .call { callee := .value (.func f), args := args, argTypes := ts }, type := t, pos := pos, after := af, guard := g }).run P w') := by
  have hr : (execOp ρ { dst := d, op := .call { callee := .value (.func f), args := args, argTypes := ts }, type := t, pos := pos, after := af, guard := g }).run P w' = .ok (.enter f (args.map ρ)) w' := by
    simp [execOp, resolve, hρ, Deferred.ofValue, invoke, callFunc, hf]
    rw [if_neg (by simpa using hn), if_neg (by intro h; simp [h] at hb)]
  rw [hr]
  exact h
end

/-- a value in a new block -/
theorem mild_alloc {P : Program} {d : Option Nat} {q : Value → World → Prop} {r : Result Next} {w' : World} (u : Value) (ob : Obj) (hr : r = .ok (.value u) (w'.alloc ob)) (hq : q (dstVal d u) (w'.alloc ob)) : mildUpon P w' d q r := by
  subst hr; exact ⟨balloc _ _, hq⟩
/-- a row of cells in a block that is known whole -/
def Ph.blk (t : TypeId) (vs : List Value) : Ph :=
  ⟨fun v w => ∃ g, v = .slice (some ⟨g, 0, none⟩) vs.length vs.length ∧ w.heap[g]? = some (.cells vs.toArray t (0, 0)), fun _ w _ ⟨g, h1, h2⟩ hb => ⟨g, h1, (hb.block g (by
    rcases Nat.lt_or_ge g w.heap.size with h | h
    · exact h
    · rw [Array.getElem?_eq_none h] at h2; cases h2)).trans h2⟩⟩
theorem rd_blk {w : World} {g : Nat} {t : TypeId} {vs : List Value} {fr : Nat × Nat} (h : w.heap[g]? = some (.cells vs.toArray t fr)) : Rd w w.heap.size 1 (some ⟨g, 0, none⟩) vs.length vs := by
  refine ⟨by simp, fun _ => ⟨_, rfl, ?_, fun j u hu => World.news_of_block h j u (by simpa using hu)⟩⟩
  rcases Nat.lt_or_ge g w.heap.size with h' | h'
  · exact h'
  · rw [Array.getElem?_eq_none h'] at h; cases h

/-! ### cuts of a slice, at the operation -/
section
variable {P : Program} {w : World} {ρ : Operand → Value} {t e : TypeId} {sz : Nat} {A : Option Addr} {n c : Nat} {d : Option Nat} {ty : TypeId} {pos : String} {af : Array Edge} {g : Option (Nat × Bool)}
theorem run_cut_both (x lo hi : Operand) (kl kh : IntKind) (l h : Nat) (hu : P.underlying t = some (.slice e)) (hs : (P.info? e).map (·.size) = some sz) (hx : ρ x = .slice A n c) (hl : ρ lo = .int kl l) (hh : ρ hi = .int kh h) (h1 : l ≤ h) (h2 : h ≤ c) :
    (execOp ρ { dst := d, op := .slice t x (some lo) (some hi) none, type := ty, pos := pos, after := af, guard := g }).run P w = .ok (.value (.slice (if c = l then A else A.map (·.add (l * sz))) (h - l) (c - l))) w := by
  cases hq : P.info? e with
  | none => simp [hq] at hs
  | some i =>
    have hi : i.size = sz := by simpa [hq] using hs
    have h1' : (l : Int) ≤ (h : Int) := by omega
    have h2' : (h : Int) ≤ (c : Int) := by omega
    simp [execOp, hx, hl, hh, Instr.sliceAt, Instr.slice, run_underlying hu, Instr.sliceBounds, Instr.sliceBound, asIntOf, h1, h2, sizeOf, typeInfo, hq, hi]
theorem run_cut_hi (x hi : Operand) (kh : IntKind) (h : Nat) (hu : P.underlying t = some (.slice e)) (hs : (P.info? e).map (·.size) = some sz) (hx : ρ x = .slice A n c) (hh : ρ hi = .int kh h) (h2 : h ≤ c) :
    (execOp ρ { dst := d, op := .slice t x none (some hi) none, type := ty, pos := pos, after := af, guard := g }).run P w = .ok (.value (.slice A h c)) w := by
  cases hq : P.info? e with
  | none => simp [hq] at hs
  | some i =>
    have h2' : (h : Int) ≤ (c : Int) := by omega
    simp [execOp, hx, hh, Instr.sliceAt, Instr.slice, run_underlying hu, Instr.sliceBounds, Instr.sliceBound, asIntOf, h2, sizeOf, typeInfo, hq, Addr.add]
theorem run_cut_lo (x lo : Operand) (kl : IntKind) (l : Nat) (hu : P.underlying t = some (.slice e)) (hs : (P.info? e).map (·.size) = some sz) (hx : ρ x = .slice A n c) (hl : ρ lo = .int kl l) (h1 : l ≤ n) :
    (execOp ρ { dst := d, op := .slice t x (some lo) none none, type := ty, pos := pos, after := af, guard := g }).run P w = .ok (.value (.slice (if c = l then A else A.map (·.add (l * sz))) (n - l) (c - l))) w := by
  cases hq : P.info? e with
  | none => simp [hq] at hs
  | some i =>
    have hi : i.size = sz := by simpa [hq] using hs
    simp [execOp, hx, hl, Instr.sliceAt, Instr.slice, run_underlying hu, Instr.sliceBounds, Instr.sliceBound, asIntOf, h1, sizeOf, typeInfo, hq, hi]
end
end Go.Proofs.YtcffeepgfjpcaaaGreat

namespace Go.Proofs.YtcffeepgfjpcaaaGreat
set_option linter.unusedSimpArgs false
set_option linter.unusedVariables false
open Go.RowKit

def predsOf (o : Oper) : List Nat := o.after.toList.filterMap fun e => if Region.binds .any e then some e.on else none
theorem mem_predsOf {o : Oper} {k : Nat} : k ∈ predsOf o ↔ ∃ e ∈ o.after, Region.binds .any e = true ∧ e.on = k := by
  unfold predsOf
  rw [List.mem_filterMap]
  constructor
  · rintro ⟨e, he, h⟩
    split at h
    · exact ⟨e, by simpa using he, ‹_›, by simpa using h⟩
    · cases h
  · rintro ⟨e, he, hb, rfl⟩
    exact ⟨e, by simpa using he, by rw [if_pos hb]⟩
/-- all that an operation waits for, directly and through others -/
def ancs : List Oper → List (List Nat) → List (List Nat)
  | [], acc => acc
  | o :: os, acc => ancs os (acc ++ [(predsOf o ++ (predsOf o).flatMap fun j => acc.getD j []).eraseDups])
def backB (L : List Oper) : Bool := (L.zipIdx).all (fun x => x.1.after.all fun e => !Region.binds .any e || decide (e.on < x.2))
theorem back_spec {L : List Oper} (h : backB L = true) (i : Nat) (o : Oper) (ho : L[i]? = some o) (e : Edge) (he : e ∈ o.after) (hb : Region.binds .any e = true) : e.on < i := by
  have h1 := List.all_eq_true.1 h (o, i) (by
    rw [List.mem_zipIdx_iff_getElem?]; exact ho)
  have h2 := (Array.all_eq_true_iff_forall_mem.1 h1) e he
  simpa [hb] using h2
def guardB (l : List Oper) : Bool := l.all fun o => match o.guard with | none => true | some (j, _) => decide (j < l.length)
theorem guard_spec {l : List Oper} (h : guardB l = true) {i : Nat} {o : Oper} (ho : l[i]? = some o) (j : Nat) (b : Bool) (hg : o.guard = some (j, b)) : j < l.length := by
  have h1 := List.all_eq_true.1 h o (List.mem_of_getElem? ho)
  rw [hg] at h1
  exact of_decide_eq_true h1
def tailB (l l2 : List Oper) : Bool :=
  backB (l ++ l2) && guardB l && (List.range l2.length).all fun k => (List.range (l.length + k)).all fun j => ((ancs (l ++ l2) []).getD (l.length + k) []).contains j
def Closed (L : List Oper) (listed : Array Bool) : Prop :=
  ∀ (i : Nat) (o : Oper), L[i]? = some o → listed.getD i false = true → ∀ e ∈ o.after, Region.binds .any e = true → listed.getD e.on false = true

theorem ancs_spec {L : List Oper} {S : Nat → Prop} (hcl : ∀ (i : Nat) (o : Oper), L[i]? = some o → S i → ∀ k ∈ predsOf o, S k) : ∀ (os : List Oper) (acc : List (List Nat)) (m : Nat), acc.length = m → (∀ j : Nat, os[j]? = L[m + j]?) →
    (∀ (i : Nat) (o : Oper), L[i]? = some o → (∀ k ∈ predsOf o, S k) → ∀ k ∈ acc.getD i [], S k) →
    ∀ (i : Nat) (o : Oper), L[i]? = some o → (∀ k ∈ predsOf o, S k) → ∀ k ∈ (ancs os acc).getD i [], S k
  | [], acc, m, _, _, hacc => hacc
  | o :: os, acc, m, hm, hos, hacc => by
    unfold ancs
    refine ancs_spec hcl os _ (m + 1) (by simp [hm]) (fun j => by have := hos (j + 1); simpa [Nat.add_assoc, Nat.add_comm 1 j] using this) ?_
    intro i oi hoi hp k hk
    rw [List.getD_eq_getElem?_getD, List.getElem?_append] at hk
    split at hk
    · exact hacc i oi hoi hp k (by rw [List.getD_eq_getElem?_getD]; exact hk)
    · rename_i hge
      by_cases hi : i = acc.length
      · subst hi
        simp only [Nat.sub_self, List.getElem?_cons_zero, Option.getD_some, List.mem_eraseDups, List.mem_append, List.mem_flatMap] at hk
        have ho : oi = o := by
          have := hos 0
          rw [Nat.add_zero, ← hm, hoi] at this
          simpa using this.symm
        subst ho
        rcases hk with hk | ⟨j, hj, hk⟩
        · exact hp k hk
        · have hSj := hp j hj
          rcases Nat.lt_or_ge j acc.length with hjl | hjl
          · cases hoj : L[j]? with
            | none =>
              exfalso
              have h1 := List.getElem?_eq_none_iff.1 hoj
              have h2 := (List.getElem?_eq_some_iff.1 hoi).1
              omega
            | some oj => exact hacc j oj hoj (hcl j oj hoj hSj) k hk
          · rw [List.getD_eq_getElem?_getD, List.getElem?_eq_none hjl] at hk
            simp at hk
      · have : 1 ≤ i - acc.length := by omega
        rw [List.getElem?_eq_none (by simpa using this)] at hk
        simp at hk
theorem tail_anc {l l2 : List Oper} (ht : tailB l l2 = true) (listed : Array Bool) (hcl : Closed (l ++ l2) listed) (i : Nat) (o : Oper) (ho : (l ++ l2)[i]? = some o) (hi : l.length ≤ i)
    (hp : ∀ e ∈ o.after, Region.binds .any e = true → listed.getD e.on false = true) : ∀ k, k < i → listed.getD k false = true := by
  intro k hk
  have hil : i < l.length + l2.length := by
    have := (List.getElem?_eq_some_iff.1 ho).1
    simpa using this
  simp only [tailB, Bool.and_eq_true] at ht
  have h1 := List.all_eq_true.1 ht.2 (i - l.length) (by rw [List.mem_range]; omega)
  have h2 := List.all_eq_true.1 h1 k (by rw [List.mem_range]; omega)
  rw [show l.length + (i - l.length) = i by omega] at h2
  refine ancs_spec (L := l ++ l2) (S := fun k => listed.getD k false = true) (fun i o ho hS k hk => ?_) (l ++ l2) [] 0 rfl (by simp) (by simp) i o ho (fun k hk => ?_) k (by simpa using h2)
  · obtain ⟨e, he, hb, rfl⟩ := mem_predsOf.1 hk
    exact hcl i o ho hS e he hb
  · obtain ⟨e, he, hb, rfl⟩ := mem_predsOf.1 hk
    exact hp e he hb
theorem yielded_iff2 (l l2 : List Oper) (dl : List (Option Nat)) (hdl : l.map (·.dst) = dl) (ds : List Nat) (f : Nat → Value) (a : Act) (h : ∀ d ∈ ds, d < a.tmps.size) (hds : ∀ d, some d ∈ dl → d ∈ ds) (g : Option (Nat × Bool)) (o : Oper) (hg : o.guard = g)
    (hgl : ∀ j b, g = some (j, b) → j < l.length) :
    Region.wanted o (yielded (l ++ l2).toArray (fills ds f a).tmps) = true ↔ Gd dl f g := by
  rw [← yielded_iff l.toArray dl (by simpa using hdl) ds f a h hds g o hg]
  unfold Region.wanted
  subst hg
  cases hgd : o.guard with
  | none => simp
  | some x =>
    obtain ⟨j, want⟩ := x
    have := hgl j want hgd
    simp only [yielded]
    rw [show (l ++ l2).toArray[j]? = l.toArray[j]? from by simp [List.getElem?_append_left this]]
section
variable {P : Program} {l : List Oper} {dl : List (Option Nat)} {Φ : List Ph} {a : Act} {w : World} {Q : Exit → Act → World → Prop}
theorem lex_tail {l2 : List Oper} (hback : backB (l ++ l2) = true) (hanc : ∀ (listed : Array Bool), Closed (l ++ l2) listed → ∀ (i : Nat) (o : Oper), (l ++ l2)[i]? = some o → l.length ≤ i → (∀ e ∈ o.after, Region.binds .any e = true → listed.getD e.on false = true) → ∀ k, k < i → listed.getD k false = true) :
    ∀ (rest : List Oper) (m : Nat) (listed : Array Bool), l.length ≤ m → (∀ j : Nat, rest[j]? = (l ++ l2)[m + j]?) → m + rest.length = (l ++ l2).length → listed.size = (l ++ l2).length → (∀ i, i < m → listed.getD i false = true) →
      (∀ i, m ≤ i → i < (l ++ l2).length → listed.getD i false = false) →
      ∀ {a : Act} {w : World}, wpList P (l ++ l2).toArray Q rest a w → wpAny P .any (l ++ l2).toArray Q rest.length listed a w
  | [], m, listed, hlm, hos, hml, hs, hlow, hhigh, a, w, h => by
    refine ⟨?_, h⟩
    rw [List.eq_nil_iff_forall_not_mem]
    intro i hi
    obtain ⟨h1, o, ho, _⟩ := mem_ready.1 hi
    have hil : i < (l ++ l2).length := by
      have := (Array.getElem?_eq_some_iff.1 ho).1
      simpa using this
    have h2 := hlow i (by simpa [← hml] using hil)
    rw [Array.getD_eq_getD_getElem?, Array.getElem?_eq_getElem (by omega)] at h1 h2
    simp at h1 h2
    rw [h1] at h2
    cases h2
  | o :: rest, m, listed, hlm, hos, hml, hs, hlow, hhigh, a, w, h => by
    have hm0 : (l ++ l2)[m]? = some o := by have := hos 0; simpa using this.symm
    have hmlt : m < (l ++ l2).length := (List.getElem?_eq_some_iff.1 hm0).1
    have hclo : Closed (l ++ l2) listed := by
      intro i oi hoi hl e he hb
      have hil : i < (l ++ l2).length := (List.getElem?_eq_some_iff.1 hoi).1
      have him : i < m := by
        rcases Nat.lt_or_ge i m with h | h
        · exact h
        · rw [hhigh i h hil] at hl; cases hl
      exact hlow e.on (Nat.lt_trans (back_spec hback i oi hoi e he hb) him)
    have hready : m ∈ Region.ready .any (l ++ l2).toArray listed := by
      rw [mem_ready]
      refine ⟨?_, o, by simpa using hm0, fun e he hb => hlow e.on (back_spec hback m o hm0 e he hb)⟩
      have := hhigh m (Nat.le_refl _) hmlt
      rw [Array.getD_eq_getD_getElem?] at this ⊢
      rw [Array.getElem?_eq_getElem (by omega)] at this ⊢
      exact this
    rw [List.length_cons]
    refine ⟨fun h0 => ?_, fun i hi => ?_⟩
    · rw [h0] at hready; cases hready
    · obtain ⟨hun, oi, hoi, hpre⟩ := mem_ready.1 hi
      have hoi' : (l ++ l2)[i]? = some oi := by simpa using hoi
      have hil : i < (l ++ l2).length := (List.getElem?_eq_some_iff.1 hoi').1
      have him : ¬ i < m := by
        intro h1
        have h2 := hlow i h1
        rw [Array.getD_eq_getD_getElem?, Array.getElem?_eq_getElem (by omega)] at h2 hun
        simp at h2 hun
        rw [hun] at h2
        cases h2
      have hi_eq : i = m := by
        rcases Nat.lt_or_ge m i with h1 | h1
        · have h2 := hanc listed hclo i oi hoi' (by omega) hpre m h1
          rw [hhigh m (Nat.le_refl _) hmlt] at h2
          cases h2
        · omega
      subst hi_eq
      rw [hm0] at hoi'
      injection hoi' with hoi'
      subst hoi'
      have hnext : ∀ a' w', wpList P (l ++ l2).toArray Q rest a' w' → wpAny P .any (l ++ l2).toArray Q rest.length (listed.setIfInBounds i true) a' w' := by
        intro a' w' h'
        refine lex_tail hback hanc rest (i + 1) _ (by omega) (fun j => by have := hos (j + 1); simpa [Nat.add_assoc, Nat.add_comm 1 j] using this) (by simp at hml ⊢; omega) (by simpa using hs) ?_ ?_ h'
        · intro k hk
          by_cases hki : k = i
          · rw [hki, Array.getD_eq_getD_getElem?, Array.getElem?_setIfInBounds_self_of_lt (by omega)]; rfl
          · rw [getD_set_ne false (Ne.symm hki)]; exact hlow k (by omega)
        · intro k h1 h2
          rw [getD_set_ne false (by omega)]; exact hhigh k (by omega) h2
      unfold wpOp
      simp only [hoi]
      unfold wpList at h
      split at h
      · rename_i hw
        rw [if_pos hw]
        rcases h with h | h
        · exact .inl (Oper.wp_mono hnext h)
        · exact .inr h
      · rename_i hw
        rw [if_neg hw]
        exact hnext _ _ h
theorem typed_aux2 {l2 : List Oper} (hdl : l.map (·.dst) = dl) (hn : typedB l a.tmps.size = true) (ht : tailB l l2 = true) (hob : ObAll P dl Φ (dstsOf_ l) a w l Φ)
    (hQ : ∀ f w', Below w.heap.size w w' → PostOf f w' dl Φ → wpList P (l ++ l2).toArray Q l2 (fills (dstsOf_ l) f a) w') :
    ∀ (fuel : Nat) (listed : Array Bool) (rem : List Nat), rem.length = fuel → listed.size = (l ++ l2).length → rem.Nodup → (∀ i, i ∈ rem ↔ i < l.length ∧ listed.getD i true = false) →
      (∀ i, l.length ≤ i → i < (l ++ l2).length → listed.getD i false = false) → Closed (l ++ l2) listed →
      ∀ f w', Below w.heap.size w w' → (∀ i, i < l.length → listed.getD i false = true → factOf dl Φ f w' i) →
      wpAny P .any (l ++ l2).toArray Q (fuel + l2.length) listed (fills (dstsOf_ l) f a) w' := by
  simp only [typedB, Bool.and_eq_true] at hn
  obtain ⟨⟨⟨hnd, hlt⟩, hed⟩, _⟩ := hn
  have hdlg : ∀ i : Nat, dl[i]? = (l[i]?).map (fun (o : Oper) => o.dst) := fun i => by rw [← hdl]; simp
  have hnd := of_decide_eq_true hnd
  have hlt : ∀ d ∈ dstsOf_ l, d < a.tmps.size := fun d hd => of_decide_eq_true (List.all_eq_true.1 hlt d hd)
  have hed : ∀ (i : Nat) (o : Oper), l[i]? = some o → ∀ e ∈ o.after, Region.binds .any e = true → e.on < i := by
    intro i o ho e he hb
    have h1 := List.all_eq_true.1 hed (o, i) (by
      rw [List.mem_zipIdx_iff_getElem?]; exact ho)
    have h2 := (Array.all_eq_true_iff_forall_mem.1 h1) e he
    simpa [hb] using h2
  have hanc := tail_anc ht
  have hback : backB (l ++ l2) = true := by simp only [tailB, Bool.and_eq_true] at ht; exact ht.1.1
  have hguard : guardB l = true := by simp only [tailB, Bool.and_eq_true] at ht; exact ht.1.2
  intro fuel
  induction fuel with
  | zero =>
    intro listed rem hrem hs hnr hmem hhi hcl f w' hb hf
    have hr0 : rem = [] := List.eq_nil_of_length_eq_zero hrem
    have hal : ∀ i, i < l.length → listed.getD i false = true := by
      intro i hi
      rcases hc : listed.getD i false with _ | _
      · exfalso
        have : i ∈ rem := (hmem i).2 ⟨hi, by
          rw [Array.getD_eq_getD_getElem?] at hc ⊢
          rw [Array.getElem?_eq_getElem (by rw [hs, List.length_append]; omega)] at hc ⊢
          exact hc⟩
        rw [hr0] at this
        cases this
      · rfl
    rw [Nat.zero_add]
    refine lex_tail (l := l) hback hanc l2 l.length listed (Nat.le_refl _) (fun j => by rw [List.getElem?_append_right (by omega)]; congr 1; omega) (by simp) hs hal hhi ?_
    refine hQ f w' hb (postOf_mk dl Φ fun i d hd => ?_)
    have hi : i < l.length := by
      have := (List.getElem?_eq_some_iff.1 hd).1
      rw [← hdl] at this
      simpa using this
    have := hf i hi (hal i hi)
    unfold factOf valOf at this
    rw [hd] at this
    cases d <;> exact this
  | succ fuel ih =>
    intro listed rem hrem hs hnr hmem hhi hcl f w' hb hf
    rw [show fuel + 1 + l2.length = (fuel + l2.length) + 1 by omega]
    refine ⟨fun h => ?_, fun i hi => ?_⟩
    · exfalso
      -- the least one that has not come up may come up
      have hno : ∀ i, i < l.length → listed.getD i false = true := by
        intro i
        induction i using Nat.strongRecOn with
        | _ i ih =>
          intro hi
          rcases hc : listed.getD i false with _ | _
          · exfalso
            have hm : i ∈ Region.ready .any (l ++ l2).toArray listed := by
              rw [mem_ready]
              refine ⟨?_, l[i], by simp [List.getElem?_append_left hi, hi], fun e he hb => ?_⟩
              · rw [Array.getD_eq_getD_getElem?] at hc ⊢
                rw [Array.getElem?_eq_getElem (by rw [hs, List.length_append]; omega)] at hc ⊢
                exact hc
              · have := hed i l[i] (by simp [hi]) e he hb
                exact ih e.on this (by omega)
            rw [h] at hm
            cases hm
          · rfl
      obtain ⟨k, hk⟩ : ∃ k, k ∈ rem := by
        cases rem with
        | nil => simp at hrem
        | cons x _ => exact ⟨x, List.mem_cons_self ..⟩
      obtain ⟨hk1, hk2⟩ := (hmem k).1 hk
      have h1 := hno k hk1
      rw [Array.getD_eq_getD_getElem?, Array.getElem?_eq_getElem (by rw [hs, List.length_append]; omega)] at h1 hk2
      simp at h1 hk2
      rw [h1] at hk2
      cases hk2
    obtain ⟨hun, o, ho, hpre⟩ := mem_ready.1 hi
    have hil : i < l.length := by
      rcases Nat.lt_or_ge i l.length with h | h
      · exact h
      · exfalso
        have hall := hanc listed hcl i o (by simpa using ho) h hpre
        obtain ⟨k, hk⟩ : ∃ k, k ∈ rem := by
          cases rem with
          | nil => simp at hrem
          | cons x _ => exact ⟨x, List.mem_cons_self ..⟩
        obtain ⟨hk1, hk2⟩ := (hmem k).1 hk
        have h1 := hall k (by omega)
        rw [Array.getD_eq_getD_getElem?, Array.getElem?_eq_getElem (by rw [hs, List.length_append]; omega)] at h1 hk2
        simp at h1 hk2
        rw [h1] at hk2
        cases hk2
    have hol : l[i]? = some o := by
      have h1 : (l ++ l2)[i]? = some o := by simpa using ho
      rwa [List.getElem?_append_left hil] at h1
    have hcl2 : Closed (l ++ l2) (listed.setIfInBounds i true) := by
      intro k ok hok hlk e he hbd
      by_cases hki : k = i
      · subst hki
        have h1 : (l ++ l2)[k]? = some o := by simpa using ho
        rw [h1] at hok
        injection hok with hok
        subst hok
        have h2 := hpre e he hbd
        by_cases hei : e.on = k
        · rw [hei] at h2 ⊢; rw [Array.getD_eq_getD_getElem?, Array.getElem?_setIfInBounds_self_of_lt (by rw [hs, List.length_append]; omega)]; rfl
        · rw [getD_set_ne false (Ne.symm hei)]; exact h2
      · rw [getD_set_ne false (Ne.symm hki)] at hlk
        have h2 := hcl k ok hok hlk e he hbd
        by_cases hei : e.on = i
        · rw [hei, Array.getD_eq_getD_getElem?, Array.getElem?_setIfInBounds_self_of_lt (by rw [hs, List.length_append]; omega)]; rfl
        · rw [getD_set_ne false (Ne.symm hei)]; exact h2
    have hhi2 : ∀ k, l.length ≤ k → k < (l ++ l2).length → (listed.setIfInBounds i true).getD k false = false := by
      intro k h1 h2
      rw [getD_set_ne false (by omega)]
      exact hhi k h1 h2
    have hp : PreOf dl Φ f w' o.after.toList := preOf_mk _ fun e he hbd => by
      have he' : e ∈ o.after := by simpa using he
      have hlist := hpre e he' hbd
      exact hf e.on (Nat.lt_trans (hed i o hol e he' hbd) hil) hlist
    have hone := obAll_get l Φ hob i o hol f w' hb hp
    have hgd := yielded_iff2 l l2 dl hdl (dstsOf_ l) f a hlt (fun d hd => by
      rw [← hdl] at hd
      obtain ⟨oo, h1, h2⟩ := List.mem_map.1 hd
      exact List.mem_filterMap.2 ⟨oo, h1, h2⟩) o.guard o rfl (fun j b hg => guard_spec hguard hol j b hg)
    -- what follows once the value is there
    have hnext : ∀ v w'', Below w'.heap.size w' w'' → (Φ.getD i default).p (dstVal o.dst v) w'' →
        wpAny P .any (l ++ l2).toArray Q (fuel + l2.length) (listed.setIfInBounds i true) ((fills (dstsOf_ l) f a).put o.dst v) w'' := by
      intro v w'' hb' hv
      have hrem' : (rem.erase i).length = fuel := by
        have : i ∈ rem := (hmem i).2 ⟨hil, hun⟩
        rw [List.length_erase_of_mem this]; omega
      have hmem' : ∀ k, k ∈ rem.erase i ↔ k < l.length ∧ (listed.setIfInBounds i true).getD k true = false := by
        intro k
        rw [hnr.mem_erase_iff, hmem]
        by_cases hk : k = i
        · subst hk
          simp only [ne_eq, not_true, false_and, false_iff, not_and]
          intro hk
          rw [Array.getD_eq_getD_getElem?, Array.getElem?_setIfInBounds_self_of_lt (by rw [hs, List.length_append]; omega)]
          simp
        · rw [getD_set_ne true (Ne.symm hk)]
          simp [hk]
      have hst : ∀ k, k < l.length → k ≠ i → (listed.setIfInBounds i true).getD k false = true → listed.getD k false = true := by
        intro k _ hk h
        rw [getD_set_ne false (Ne.symm hk)] at h
        exact h
      cases hd : o.dst with
      | none =>
        show wpAny P .any (l ++ l2).toArray Q (fuel + l2.length) _ (fills (dstsOf_ l) f a) w''
        refine ih _ (rem.erase i) hrem' (by simpa using hs) (hnr.erase i) hmem' hhi2 hcl2 f w'' (hb.trans (hb'.mono hb.size)) fun k hk hl => ?_
        by_cases hki : k = i
        · subst hki
          unfold factOf valOf
          rw [hdlg, hol]
          simp only [Option.map_some, hd]
          simpa [hd] using hv
        · exact (Φ.getD k default).st _ _ _ (hf k hk (hst k hk hki hl)) hb'
      | some d =>
        have hdm : d ∈ dstsOf_ l := List.mem_filterMap.2 ⟨o, List.mem_of_getElem? hol, hd⟩
        rw [fills_put _ _ _ _ _ hdm]
        refine ih _ (rem.erase i) hrem' (by simpa using hs) (hnr.erase i) hmem' hhi2 hcl2 _ w'' (hb.trans (hb'.mono hb.size)) fun k hk hl => ?_
        by_cases hki : k = i
        · subst hki
          unfold factOf valOf
          rw [hdlg, hol]
          simp only [Option.map_some, hd]
          simpa [hd] using hv
        · have h0 := (Φ.getD k default).st _ _ _ (hf k hk (hst k hk hki hl)) hb'
          unfold factOf
          have hval : valOf dl (fun t => if t = d then v else f t) k = valOf dl f k := by
            unfold valOf
            rw [hdlg]
            cases hok : l[k]? with
            | none => rfl
            | some ok =>
              cases hdk : ok.dst with
              | none => simp [hdk]
              | some dk =>
                simp only [Option.map_some, hdk]
                rw [if_neg]
                intro e
                subst e
                -- two operations with one slot
                have h3 : (dstsOf_ l).Nodup := hnd
                have : ∀ (m : List Oper) (x y : Nat) (ox oy : Oper), (m.filterMap (·.dst)).Nodup → m[x]? = some ox → m[y]? = some oy → ox.dst = some dk → oy.dst = some dk → x = y := by
                  intro m
                  induction m with
                  | nil => intro x y ox oy _ hx; simp at hx
                  | cons q m ihm =>
                    intro x y ox oy hnd hx hy hdx hdy
                    cases x with
                    | zero =>
                      cases y with
                      | zero => rfl
                      | succ y =>
                        exfalso
                        simp at hx hy
                        subst hx
                        simp only [List.filterMap_cons, hdx] at hnd
                        exact (List.nodup_cons.1 hnd).1 (List.mem_filterMap.2 ⟨oy, List.mem_of_getElem? hy, hdy⟩)
                    | succ x =>
                      cases y with
                      | zero =>
                        exfalso
                        simp at hx hy
                        subst hy
                        simp only [List.filterMap_cons, hdy] at hnd
                        exact (List.nodup_cons.1 hnd).1 (List.mem_filterMap.2 ⟨ox, List.mem_of_getElem? hx, hdx⟩)
                      | succ y =>
                        simp at hx hy
                        have : (m.filterMap (·.dst)).Nodup := by
                          simp only [List.filterMap_cons] at hnd
                          cases hq : q.dst with
                          | none => simpa [hq] using hnd
                          | some _ => simp only [hq] at hnd; exact (List.nodup_cons.1 hnd).2
                        rw [ihm x y ox oy this hx hy hdx hdy]
                exact hki (this l k i ok o h3 hok hol hdk hd)
          rw [hval]
          exact h0
    unfold wpOp
    simp only [ho]
    by_cases hw : Region.wanted o (yielded (l ++ l2).toArray (fills (dstsOf_ l) f a).tmps) = true
    · replace hone := hone.1 (hgd.1 hw)
      simp only [hw, if_true]
      left
      unfold Oper.wp
      rw [evalF_fills f hlt]
      generalize (execOp (evalF (dstsOf_ l) f a) o).run P w' = r at *
      cases r with
      | ok n w'' =>
        cases n <;> simp only [mildUpon] at hone <;> simp only [Oper.upon]
        case value u =>
          exact hnext u w'' hone.1 hone.2
        case skip =>
          refine hnext undef w'' hone.1 ?_
          cases o.dst <;> exact hone.2
        case enter f' args =>
          refine hone.mono ?_
          rintro e w3 ⟨v, rfl, hb3, hv⟩
          exact hnext v w3 hb3 hv
      | halt x w'' => simp only [mildUpon] at hone
    · replace hone := hone.2 (fun h => hw (hgd.2 h))
      simp only [hw]
      refine hnext undef w' (Below.refl _ _) ?_
      cases o.dst <;> exact hone

/-- THE LAW: a region that draws its order; n: how many operations come ahead of the end that waits for all. -/
theorem wp_region_tail {id : Nat} {L : List Oper} {ds : List Nat} (n : Nat) (dl : List (Option Nat)) (Φ : List Ph) (hdl : (L.take n).map (·.dst) = dl) (hds : dstsOf_ (L.take n) = ds) (hm : P.follows .mixedOrders = true)
    (hn : typedB (L.take n) a.tmps.size = true) (ht : tailB (L.take n) (L.drop n) = true) (hob : ObAll P dl Φ ds a w (L.take n) Φ)
    (hQ : ∀ f w', Below w.heap.size w w' → PostOf f w' dl Φ → wpList P L.toArray Q (L.drop n) (fills ds f a) w') : (Code.region id L.toArray true).wp P Q a w := by
  subst hds
  refine wp_region_any hm ?_
  have hL : L.take n ++ L.drop n = L := List.take_append_drop n L
  have := typed_aux2 (l2 := L.drop n) hdl hn ht hob (by rw [hL]; exact hQ) (L.take n).length (Array.replicate L.length false) (List.range (L.take n).length) (by simp) (by rw [hL]; simp) List.nodup_range (by
    intro i
    simp only [List.mem_range, Array.getD_eq_getD_getElem?]
    constructor
    · intro h; exact ⟨h, by
        have : i < L.length := by rw [List.length_take] at h; omega
        simp [this]⟩
    · exact fun h => h.1) (by
    intro i _ hi
    rw [hL] at hi
    simp [Array.getD_eq_getD_getElem?, hi]) (by
    intro i o _ hl
    exfalso
    simp [Array.getD_eq_getD_getElem?, Array.getElem?_replicate] at hl
    split at hl <;> simp at hl) (fun t => a.tmps.getD t undef) { w with drawn := w.drawn + 1 } ((Below.refl _ w).drew) (by
    intro i hi h
    exfalso
    simp [Array.getD_eq_getD_getElem?, Array.getElem?_replicate] at h
    split at h <;> simp at h)
  rw [fills_self, hL] at this
  have hlen : (L.take n).length + (L.drop n).length = L.toArray.size := by rw [← List.length_append, hL]; simp
  rw [hlen] at this
  exact this
end
end Go.Proofs.YtcffeepgfjpcaaaGreat

namespace Go.Proofs.YtcffeepgfjpcaaaGreat
set_option linter.unusedSimpArgs false
set_option linter.unusedVariables false
open Go.RowKit

def factO (dl : List (Option Nat)) (Φ : List (Value → Prop)) (f : Nat → Value) (j : Nat) : Prop := (Φ.getD j fun _ => True) (valOf dl f j)
def PreO (dl : List (Option Nat)) (Φ : List (Value → Prop)) (f : Nat → Value) : List Edge → Prop
  | [] => True
  | e :: es => (if Region.binds .any e then factO dl Φ f e.on else True) ∧ PreO dl Φ f es
def PostO (f : Nat → Value) : List (Option Nat) → List (Value → Prop) → Prop
  | [], _ => True
  | _ :: _, [] => True
  | d :: os, ph :: phs => ph (match d with | some d => f d | none => undef) ∧ PostO f os phs
theorem preO_mk {dl : List (Option Nat)} {Φ : List (Value → Prop)} {f : Nat → Value} : ∀ (es : List Edge), (∀ e ∈ es, Region.binds .any e = true → factO dl Φ f e.on) → PreO dl Φ f es
  | [], _ => trivial
  | e :: es, h => by
    refine ⟨?_, preO_mk es fun x hx => h x (List.mem_cons_of_mem _ hx)⟩
    split
    · exact h e (List.mem_cons_self ..) ‹_›
    · trivial
theorem postO_mk {f : Nat → Value} : ∀ (os : List (Option Nat)) (phs : List (Value → Prop)),
    (∀ (i : Nat) (d : Option Nat), os[i]? = some d → (phs.getD i fun _ => True) (match d with | some d => f d | none => undef)) → PostO f os phs
  | [], _, _ => by simp [PostO]
  | _ :: _, [], _ => by simp [PostO]
  | d :: os, ph :: phs, h => ⟨h 0 d rfl, postO_mk os phs fun i d hd => by simpa using h (i + 1) d (by simpa using hd)⟩
section
variable {P : Program} {l : List Oper} {dl : List (Option Nat)} {Φ : List (Value → Prop)} {a : Act} {w : World} {Q : Exit → Act → World → Prop} {s : Nat} {J : Bool → Value → World → Prop}
end
end Go.Proofs.YtcffeepgfjpcaaaGreat

namespace Go.Proofs.YtcffeepgfjpcaaaGreat
set_option linter.unusedSimpArgs false
set_option linter.unusedVariables false
open Go.RowKit

section
variable {P : Program} {l : List Oper} {dl : List (Option Nat)} {Φ : List (Value → Prop)} {a : Act} {w : World} {Q : Exit → Act → World → Prop} {J : (Nat → Bool) → (Nat → Value) → World → Prop}
end

/-! ### one by one -/
section
variable {P : Program} {dl : List (Option Nat)} {Φ : List (Value → Prop)} {ds : List Nat} {a : Act} {w : World} {i : Nat} {J : (Nat → Bool) → (Nat → Value) → World → Prop} {ph : Value → Prop} {o : Oper}
end
end Go.Proofs.YtcffeepgfjpcaaaGreat

namespace Go.Proofs.YtcffeepgfjpcaaaGreat
set_option linter.unusedSimpArgs false
set_option linter.unusedVariables false
open Go.RowKit

end Go.Proofs.YtcffeepgfjpcaaaGreat

namespace Go.Proofs.YtcffeepgfjpcaaaGreat
set_option linter.unusedSimpArgs false
set_option linter.unusedVariables false
open Go.RowKit

theorem fill_whole (n : Nat) (cells : Array Value) (cs : List Value) (hc : cells.size = n) (hn : cs.length = n) : Instr.fill (fun i => some (i * n, n)) cells [(0, .agg cs.toArray)] = some cs.toArray := by
  obtain ⟨g1, g2⟩ := Go.Great.foldl_set (0 * n) cs 0 cells
  unfold Instr.fill
  simp only [Value.cells, List.size_toArray, hn]
  rw [if_neg (by simp; omega)]
  unfold Instr.fill
  congr 1
  apply Array.ext_getElem?
  intro k
  have := g2 k
  have e : (cs.toArray.zipIdx.foldl (fun cs (x : Value × Nat) => cs.setIfInBounds (0 * n + x.2) x.1) cells) = (List.foldl (fun cs (x : Value × Nat) => cs.setIfInBounds (0 * n + x.2) x.1) cells (cs.zipIdx 0)) := by simp
  show (cs.toArray.zipIdx.foldl (fun cs (x : Value × Nat) => cs.setIfInBounds (0 * n + x.2) x.1) cells)[k]? = _
  rw [e, this]
  simp only [Nat.zero_mul, Nat.zero_add, Nat.sub_zero, Nat.zero_le, true_and, List.getElem?_toArray]
  split
  · rfl
  · rw [List.getElem?_eq_none (by omega), Array.getElem?_eq_none (by omega)]
end Go.Proofs.YtcffeepgfjpcaaaGreat

namespace Go.Proofs.YtcffeepgfjpcaaaGreat
set_option linter.unusedSimpArgs false
set_option linter.unusedVariables false
open Go.RowKit

/-- append(s, x...), s the call's own, x any readable row -/
theorem exec_appR {α : Type} {E : TypeId} {C : Cdc α} {w : World} {base : Nat} {O S : Nat → Prop} {v : Value} {xs : List α} {o : Oper} {ρ : Operand → Value} (s x : Operand) (t : TypeId)
    (ho : o.op = .call { callee := .builtin .append, args := #[s, x], argTypes := #[t, t] })
    (ht : Tryz.prog.underlying t = some (.slice E)) {z : Value} {bytes : Nat} (hinfo : (Tryz.prog.info? E).map (fun i => (i.zero, i.size, i.bytes)) = some (some z, C.n, bytes)) (hz2 : z.cells.size = C.n) (hn0 : 0 < C.n) (hb0 : bytes ≤ 256)
    {v2 : Value} {ys : List α} (hown : OwnR E C w base S v xs) (hrd : RowOn C w O S v2 ys) (hs : ρ s = v) (hx : ρ x = v2)
    (hsz : xs.length + ys.length ≤ 549755813888) (hbase : base ≤ w.heap.size) : ∃ v' w', (execOp ρ o).run Tryz.prog w = .ok (.value v') w' ∧ OwnR E C w' base S v' (xs ++ ys) ∧ Ext w w' v v' := by
  obtain ⟨i, hi, hz0, hz1, hby⟩ := info_parts hinfo
  obtain ⟨css, hl, h2, h3, h4⟩ := hown
  have hcl := OwnR.clen hl h3
  obtain ⟨A, c, rfl, hc1, hc2, hcell⟩ := hrd
  -- the cells of the source
  obtain ⟨dss, hdl, hd3, hdr⟩ : ∃ dss : List (List Value), dss.length = ys.length ∧ (∀ (i : Nat) (cs : List Value) (y : α), dss[i]? = some cs → ys[i]? = some y → C.at_ w S cs y) ∧
      ∃ B, Rd w B C.n A ys.length dss.flatten := by
    rcases Nat.eq_zero_or_pos ys.length with h0 | h0
    · have : ys = [] := List.eq_nil_of_length_eq_zero h0
      subst this
      exact ⟨[], rfl, fun i cs y h => by simp at h, 0, by simp [Rd]⟩
    · obtain ⟨ad, rfl, _, hc⟩ := hcell h0
      have hex : ∀ i : Fin ys.length, ∃ cs, C.at_ w S cs (ys[i.1]'i.2) ∧ ∀ (j : Nat) (u : Value), cs[j]? = some u → w.cell? (ad.add (i.1 * C.n + j)) = some u := fun i => hc i.1 _ (List.getElem?_eq_getElem i.2)
      refine ⟨List.ofFn fun i => (hex i).choose, by simp, ?_, ad.block + 1, ?_⟩
      · intro i cs y hcs hy
        obtain ⟨hi', rfl⟩ := List.getElem?_eq_some_iff.1 hy
        rw [List.getElem?_ofFn, dif_pos hi'] at hcs
        injection hcs with hcs
        rw [← hcs]
        exact (hex ⟨i, hi'⟩).choose_spec.1
      · have hcl2 : ∀ cs ∈ (List.ofFn fun i => (hex i).choose), cs.length = C.n := by
          intro cs hcs
          obtain ⟨i, rfl⟩ := List.mem_ofFn.1 hcs
          exact C.len (hex i).choose_spec.1
        refine ⟨by rw [flat_len C.n _ hcl2]; simp, fun _ => ⟨ad, rfl, Nat.lt_succ_self _, fun j u hu => ?_⟩⟩
        have hj : j < ys.length * C.n := by
          have := (List.getElem?_eq_some_iff.1 hu).1
          rw [flat_len C.n _ hcl2] at this
          simpa using this
        have hi' : j / C.n < ys.length := Nat.div_lt_of_lt_mul (by rw [Nat.mul_comm]; exact hj)
        have hj2 : j % C.n < C.n := Nat.mod_lt _ hn0
        have hdm : j / C.n * C.n + j % C.n = j := by rw [Nat.mul_comm]; exact Nat.div_add_mod j C.n
        have := flat_get C.n _ hcl2 (j / C.n) (hex ⟨j / C.n, hi'⟩).choose (j % C.n) (by rw [List.getElem?_ofFn, dif_pos hi']) hj2
        rw [hdm, hu] at this
        have := (hex ⟨j / C.n, hi'⟩).choose_spec.2 (j % C.n) u this.symm
        rwa [hdm] at this
  obtain ⟨B, hrd⟩ := hdr
  have hcl2 := OwnR.clen hdl hd3
  obtain ⟨v', w', hr, g2, g3, g5⟩ := run_append_rd (P := Tryz.prog) w base t o.type E i z C.n bytes ht hi hz0 hz1 hby hz2 hn0 v xs.length css.flatten h2 B A ys.length c dss.flatten hrd (by
      intro u hu
      obtain ⟨cs, hcs, hu⟩ := List.mem_flatten.1 hu
      obtain ⟨i, hi', rfl⟩ := List.mem_iff_getElem.1 hcs
      exact C.one (hd3 i _ (ys[i]'(by omega)) (List.getElem?_eq_getElem hi') (List.getElem?_eq_getElem (by omega))) u hu)
    (by unfold maxLen; omega) (by
      calc (xs.length + ys.length) * bytes ≤ 549755813888 * 256 := Nat.mul_le_mul hsz hb0
        _ ≤ _ := by decide) hbase
  have hSame : ∀ p : Addr, S p.block → w'.cell? p = w.cell? p := fun p hp => World.cell?_of_block (g3.block p.block (h4 _ hp).1 (fun e => (h4 _ hp).2 e.symm))
  refine ⟨v', w', ?_, ⟨css ++ dss, by simp [hl, hdl], by rw [List.length_append, List.flatten_append]; exact g2, ?_, ?_⟩, ⟨g3, ?_⟩⟩
  · unfold execOp
    simp only [ho, resolve, invoke, builtin, Sem.run_bind, Sem.run_pure, Result.andThen_ok, List.map_toArray, List.map_cons, List.map_nil, hs, hx, hr]
  · intro j cs x hc hx'
    refine C.keep ?_ hSame
    rcases Nat.lt_or_ge j xs.length with hj | hj
    · rw [List.getElem?_append_left (by omega)] at hc
      rw [List.getElem?_append_left hj] at hx'
      exact h3 j cs x hc hx'
    · rw [List.getElem?_append_right (by omega)] at hc
      rw [List.getElem?_append_right hj, ← hl] at hx'
      exact hd3 _ cs x hc hx'
  · intro k hk
    refine ⟨Nat.lt_of_lt_of_le (h4 k hk).1 g3.size, ?_⟩
    rcases g5 with g5 | g5
    · rw [g5]; exact (h4 k hk).2
    · rw [g5]; intro e; injection e with e; have := (h4 k hk).1; omega
  · rcases g5 with g5 | g5
    · exact .inl g5
    · exact .inr fun k hk => by rw [g5] at hk; injection hk with hk; omega

/-- append(s, y), one thing -/
theorem exec_app1R {α : Type} {E : TypeId} {C : Cdc α} {S : Nat → Prop} {o : Oper} {ρ : Operand → Value} {w : World} (s x : Operand) (t : TypeId)
    (ho : o.op = .call { callee := .builtin .append, args := #[s, x], argTypes := #[t, t] })
    (ht : Tryz.prog.underlying t = some (.slice E)) {z : Value} {bytes : Nat} (hinfo : (Tryz.prog.info? E).map (fun i => (i.zero, i.size, i.bytes)) = some (some z, C.n, bytes)) (hz2 : z.cells.size = C.n) (hn0 : 0 < C.n) (hb0 : bytes ≤ 256)
    {base : Nat} {v : Value} {xs : List α} {y : α} (cs : List Value) (hown : OwnR E C w base S v xs) (hy : C.at_ w S cs y) (hs : ρ s = v) (hx : ρ x = .slice (some ⟨w.heap.size, 0, none⟩) 1 1)
    (hsz : xs.length ≤ 549755813887) (hbase : base ≤ w.heap.size) : ∃ v' w', (execOp ρ o).run Tryz.prog (w.alloc (.cells cs.toArray E)) = .ok (.value v') w' ∧ OwnR E C w' base S v' (xs ++ [y]) ∧ Ext w w' v v' := by
  have hS : ∀ k, S k → k < w.heap.size := by obtain ⟨_, _, _, _, h4⟩ := hown; exact fun k hk => (h4 k hk).1
  have hrow : RowOn C (w.alloc (.cells cs.toArray E)) (fun k => k < w.heap.size + 1) S (.slice (some ⟨w.heap.size, 0, none⟩) 1 1) [y] := by
    refine ⟨_, 1, rfl, Nat.le_refl _, by simp [maxLen], fun _ => ⟨_, rfl, Nat.lt_succ_self _, fun i y' hi => ?_⟩⟩
    match i, hi with
    | 0, hi =>
      injection hi with hi
      subst hi
      refine ⟨cs, C.keep hy fun p hp => World.cell?_alloc_lt w _ p (hS _ hp), fun j u hu => ?_⟩
      rw [Nat.zero_mul, Nat.zero_add]
      exact World.news_of_block (heap_alloc_new w _) j u (by simpa using hu)
    | i + 1, hi => simp at hi
  obtain ⟨v', w', hr, h1, h2⟩ := exec_appR s x t ho ht hinfo hz2 hn0 hb0 (hown.alloc _) hrow hs hx (by simp; omega) (by simp; omega)
  exact ⟨v', w', hr, h1, h2.after (balloc w _) v rfl⟩
end Go.Proofs.YtcffeepgfjpcaaaGreat

namespace Go.Proofs.YtcffeepgfjpcaaaGreat
set_option linter.unusedSimpArgs false
set_option linter.unusedVariables false
open Go.RowKit

/-- bytes that lie outside S -/
abbrev BX (w : World) (S : Nat → Prop) (v : Value) (l : List UInt8) : Prop := RowOn c8 w (fun k => k < w.heap.size ∧ ¬ S k) (fun _ => True) v l
theorem BX.chg {w w' : World} {S : Nat → Prop} {v : Value} {l : List UInt8} (h : BX w S v l) (hc : Chg S w w') : BX w' S v l := by
  obtain ⟨A, c, h1, h2, h3, h4⟩ := h
  refine ⟨A, c, h1, h2, h3, fun hn => ?_⟩
  obtain ⟨ad, e, hb, hcc⟩ := h4 hn
  refine ⟨ad, e, ⟨Nat.lt_of_lt_of_le hb.1 hc.size, hb.2⟩, fun i x hx => ?_⟩
  obtain ⟨cs, ha, hcs⟩ := hcc i x hx
  exact ⟨cs, ha, fun j u hu => (World.cell?_of_block (hc.block _ (by rw [add_block]; exact hb.1) (by rw [add_block]; exact hb.2))).trans (hcs j u hu)⟩
theorem BX.grown {w w' : World} {S : Nat → Prop} {v : Value} {l : List UInt8} {row : Option Nat} (h : BX w S v l) (hg : w.grownBy w' row) (hr : ∀ k, row = some k → w.heap.size ≤ k ∨ S k) : BX w' S v l :=
  h.chg ⟨hg.os, hg.tape, hg.output, hg.size, fun k hk hn => hg.block k hk fun e => by rcases hr k e.symm with h | h; omega; exact hn h⟩
theorem BX.form {w : World} {S : Nat → Prop} {v : Value} {l : List UInt8} (h : BX w S v l) : ∃ A c, v = .slice A l.length c ∧ l.length ≤ c ∧ c ≤ maxLen := RowOn.form h

end Go.Proofs.YtcffeepgfjpcaaaGreat

namespace Go.Proofs.YtcffeepgfjpcaaaGreat
set_option linter.unusedSimpArgs false
set_option linter.unusedVariables false
open Go.RowKit

theorem wpList_alloc_z {ops : Array Oper} {rest : List Oper} {o : Oper} {a : Act} {w : World} {Q : Exit → Act → World → Prop} (hgd : o.guard = none) (T : TypeId) (ho : o.op = .alloc T) {z : Value} {n bytes : Nat}
    (hinfo : (Tryz.prog.info? T).map (fun i => (i.zero, i.size, i.bytes)) = some (some z, n, bytes)) (cs : List Value) (hz : z.cells = cs.toArray)
    (h : wpList Tryz.prog ops Q rest (a.put o.dst (.pointer (some ⟨w.heap.size, 0, none⟩))) (w.alloc (.cells cs.toArray T))) : wpList Tryz.prog ops Q (o :: rest) a w :=
  wpList_plain hgd fun K hK => by
    obtain ⟨i, hi, hz0, hz1, hby⟩ := info_parts hinfo
    have hr : (Instr.alloc T true (.tuple #[])).run Tryz.prog w = .ok (.pointer (some ⟨w.heap.size, 0, none⟩)) (w.alloc (.cells cs.toArray T)) := by
      simp [Instr.alloc, Sem.run_bind, zeroValue, typeInfo, hi, hz0, newVar, newRow, hz]
    unfold Oper.wp execOp
    simp only [ho, Sem.run_bind, hr, Result.andThen_ok]
    exact hK _ _ h
theorem wpList_store_new {ops : Array Oper} {rest : List Oper} {o : Oper} {a : Act} {w : World} {Q : Exit → Act → World → Prop} (hgd : o.guard = none) (T : TypeId) (x y : Operand) (ho : o.op = .store T x y)
    (cs ds : List Value) (hx : a.eval x = .pointer (some ⟨w.heap.size, 0, none⟩)) (hy : a.eval y = .agg ds.toArray) (hi : (Tryz.prog.info? T).map (·.size) = some ds.length) (hl : cs.length = ds.length) (h1 : ∀ u ∈ ds, u.oneCell' = true)
    (h : wpList Tryz.prog ops Q rest (a.put o.dst undef) (w.alloc (.cells ds.toArray T))) : wpList Tryz.prog ops Q (o :: rest) a (w.alloc (.cells cs.toArray T)) :=
  wpList_plain hgd fun K hK => by
    unfold Oper.wp execOp
    simp only [ho, hx, hy, Instr.storeAt, Instr.sureAddr, Sem.run_bind, Sem.run_pure, Result.andThen_ok, run_storeVar_new w T cs.toArray ds.toArray (by simpa using hi) (by simpa using hl) (all_oneCell_toArray h1)]
    exact hK _ _ h
end Go.Proofs.YtcffeepgfjpcaaaGreat

namespace Go.Proofs.YtcffeepgfjpcaaaGreat
set_option linter.unusedSimpArgs false
set_option linter.unusedVariables false
open Go.RowKit

theorem chg_setRowX (w : World) (g : Nat) (cs : Array Value) : Chg (fun k => k = g) w (w.setRow g cs) := Chg.ofGrown (gsetRow' w g cs) fun k e => (Option.some.inj e).symm
theorem wpList_store_boxX {ops : Array Oper} {rest : List Oper} {o : Oper} {a : Act} {w : World} {Q : Exit → Act → World → Prop} (hgd : o.guard = none) (T T' : TypeId) (x y : Operand) (ho : o.op = .store T x y)
    (g : Nat) (cs ds : List Value) (hx : a.eval x = .pointer (some ⟨g, 0, none⟩)) (hy : a.eval y = .agg ds.toArray) (hs : BoxAt T' w g cs) (hl : ds.length = cs.length) (h1 : ∀ u ∈ ds, u.oneCell' = true)
    (hi : (Tryz.prog.info? T).map (·.size) = some ds.length)
    (h : ∀ w', BoxAt T' w' g ds → Chg (fun k => k = g) w w' → w'.heap.size = w.heap.size → wpList Tryz.prog ops Q rest (a.put o.dst undef) w') : wpList Tryz.prog ops Q (o :: rest) a w :=
  wpList_store_box hgd T T' x y ho g cs ds hx hy hs hl h1 hi fun hb => h (w.setRow g ds.toArray) hb (chg_setRowX w g ds.toArray) (by simp)
theorem wpList_store_newX {ops : Array Oper} {rest : List Oper} {o : Oper} {a : Act} {w : World} {Q : Exit → Act → World → Prop} (hgd : o.guard = none) (T : TypeId) (x y : Operand) (ho : o.op = .store T x y)
    (cs ds : List Value) (hx : a.eval x = .pointer (some ⟨w.heap.size, 0, none⟩)) (hy : a.eval y = .agg ds.toArray) (hi : (Tryz.prog.info? T).map (·.size) = some ds.length) (hl : cs.length = ds.length) (h1 : ∀ u ∈ ds, u.oneCell' = true)
    (h : ∀ w', BoxAt T w' w.heap.size ds → Below w.heap.size w w' → w'.heap.size = w.heap.size + 1 → wpList Tryz.prog ops Q rest (a.put o.dst undef) w') : wpList Tryz.prog ops Q (o :: rest) a (w.alloc (.cells cs.toArray T)) :=
  wpList_store_new hgd T x y ho cs ds hx hy hi hl h1 (h _ (BoxAt.new_ _ _ _) (balloc _ _) (by simp))
theorem results_ctX {fn : Func} {p q : Tmp} {T : TypeId} (h : fn.results = #[.cell p T, .tmp q]) (tmps : Array Value) (w : World) (g : Nat) (cs : List Value)
    (hp : tmps.getD p undef = .pointer (some ⟨g, 0, none⟩)) (hs : ∀ (j : Nat) (v : Value), cs[j]? = some v → w.cell? ((⟨g, 0, none⟩ : Addr).add j) = some v) {d : TypeDesc} (hu : Tryz.prog.underlying T = some d)
    (hd : (match d with | .struct _ | .array _ _ => true | _ => false) = true) (hi : (Tryz.prog.info? T).map (·.size) = some cs.length) :
    (results fn tmps).run Tryz.prog w = .ok (.tuple #[.agg cs.toArray, tmps.getD q undef]) w := by
  have hp' : tmps[p]?.getD undef = .pointer (some ⟨g, 0, none⟩) := by simpa using hp
  have hr := run_loadVar_cells w ⟨g, 0, none⟩ T cs hs hu hd hi
  simp [results, h, hp', asAddr, hr]
end Go.Proofs.YtcffeepgfjpcaaaGreat

namespace Go.Proofs.YtcffeepgfjpcaaaGreat
set_option linter.unusedSimpArgs false
set_option linter.unusedVariables false
open Go.RowKit

section
variable {P : Program} {dl : List (Option Nat)} {Φ : List (Value → Prop)} {ds : List Nat} {a : Act} {w : World} {s i : Nat} {J : Bool → Value → World → Prop} {ph : Value → Prop} {o : Oper}
end
end Go.Proofs.YtcffeepgfjpcaaaGreat

namespace Go.Proofs.YtcffeepgfjpcaaaGreat
set_option linter.unusedSimpArgs false
set_option linter.unusedVariables false

end Go.Proofs.YtcffeepgfjpcaaaGreat

namespace Go.Proofs.YtcffeepgfjpcaaaGreat
set_option linter.unusedSimpArgs false
set_option linter.unusedVariables false

structure GArc where
  to : UInt32
  wt : UInt32
deriving DecidableEq
def gsum (l : List GArc) : Nat := (l.map fun a => a.wt.toNat).sum
theorem gsum_append (a b : List GArc) : gsum (a ++ b) = gsum a + gsum b := by simp [gsum]
theorem gsum_one (a : GArc) : gsum [a] = a.wt.toNat := by simp [gsum]
theorem gsum_lt (l : List GArc) : gsum l ≤ l.length * 4294967295 := by
  induction l with
  | nil => simp [gsum]
  | cons a t ih =>
    have := u32_lt a.wt
    simp only [gsum, List.map_cons, List.sum_cons, List.length_cons] at *
    omega
theorem gsum_take_le (l : List GArc) (k : Nat) : gsum (l.take k) ≤ gsum l := by
  have h : gsum l = gsum (l.take k) + gsum (l.drop k) := by rw [← gsum_append, List.take_append_drop]
  omega
theorem gsum_snoc (l : List GArc) (k : Nat) (h : k < l.length) : gsum (l.take (k + 1)) = gsum (l.take k) + l[k].wt.toNat := by
  rw [List.take_succ_eq_append_getElem h, gsum_append, gsum_one]
/-- each weight is one at least, the ends rise -/
def rise : Option UInt32 → List GArc → Bool
  | _, [] => true
  | p, a :: t => a.wt != 0 && (match p with | none => true | some q => decide (q < a.to)) && rise (some a.to) t
def gmay (l : List GArc) : Bool := rise none l && decide (gsum l ≤ 2147483647)
/-- the k-th one is right behind its neighbour -/
def stepOk (l : List GArc) (k : Nat) (a : GArc) : Bool := a.wt != 0 && (k == 0 || match l[k - 1]? with | some b => decide (b.to < a.to) | none => true)
theorem rise_take : ∀ (l : List GArc) (p : Option UInt32) (k : Nat), rise p l = true → rise p (l.take k) = true
  | [], p, k, h => by simp [rise]
  | a :: t, p, 0, h => by simp [rise]
  | a :: t, p, k + 1, h => by
    simp only [rise, List.take_succ_cons, Bool.and_eq_true] at *
    exact ⟨h.1, rise_take t _ k h.2⟩
theorem rise_cons (p : Option UInt32) (a : GArc) (t : List GArc) : rise p (a :: t) = (a.wt != 0 && (match p with | none => true | some q => decide (q < a.to)) && rise (some a.to) t) := rfl
def lastTo : Option UInt32 → List GArc → Option UInt32
  | p, [] => p
  | _, a :: t => lastTo (some a.to) t
theorem lastTo_snoc : ∀ (l : List GArc) (p : Option UInt32) (a : GArc), lastTo p (l ++ [a]) = some a.to
  | [], _, _ => rfl
  | _ :: t, _, a => lastTo_snoc t _ a
theorem rise_append : ∀ (l m : List GArc) (p : Option UInt32), rise p (l ++ m) = (rise p l && rise (lastTo p l) m)
  | [], m, p => by simp [rise, lastTo]
  | a :: t, m, p => by
    have := rise_append t m (some a.to)
    rw [List.cons_append]
    rw [rise_cons, rise_cons, this, Bool.and_assoc, Bool.and_assoc, Bool.and_assoc]
    rfl
theorem take_last {α : Type} (l : List α) (k : Nat) (h0 : 0 < k) (h : k ≤ l.length) : l.take k = l.take (k - 1) ++ [l[k - 1]'(by omega)] := by
  have := List.take_succ_eq_append_getElem (l := l) (i := k - 1) (by omega)
  rwa [show k - 1 + 1 = k from by omega] at this
theorem rise_snoc (l : List GArc) (k : Nat) (h : k < l.length) : rise none (l.take (k + 1)) = (rise none (l.take k) && stepOk l k l[k]) := by
  rw [List.take_succ_eq_append_getElem h, rise_append]
  congr 1
  unfold stepOk
  rcases Nat.eq_zero_or_pos k with h0 | h0
  · subst h0
    simp [rise, lastTo]
  · rw [take_last l k h0 (by omega), lastTo_snoc, List.getElem?_eq_getElem (show k - 1 < l.length by omega)]
    have : (k == 0) = false := by simp; omega
    simp [rise, this]
theorem rise_stepOk (l : List GArc) (k : Nat) (h : k < l.length) (hr : rise none l = true) : stepOk l k l[k] = true := by
  have := rise_take l none (k + 1) hr
  rw [rise_snoc l k h] at this
  simp at this
  exact this.2
/-- what the next one can be at least -/
def nextOf (l : List GArc) (k : Nat) : Nat := if k = 0 then 0 else match l[k - 1]? with | some b => b.to.toNat + 1 | none => 0
theorem nextOf_succ (l : List GArc) (k : Nat) (h : k < l.length) : nextOf l (k + 1) = l[k].to.toNat + 1 := by
  unfold nextOf
  rw [if_neg (by omega), Nat.add_sub_cancel, List.getElem?_eq_getElem h]
theorem nextOf_le (l : List GArc) (k : Nat) (h : k < l.length) (hr : rise none l = true) : nextOf l k ≤ l[k].to.toNat := by
  have := rise_stepOk l k h hr
  unfold stepOk at this
  unfold nextOf
  split
  · omega
  · rename_i hk
    have hk' : (k == 0) = false := by simpa using hk
    rw [hk', List.getElem?_eq_getElem (show k - 1 < l.length by omega)] at this
    rw [List.getElem?_eq_getElem (show k - 1 < l.length by omega)]
    simp at this
    have := UInt32.lt_iff_toNat_lt.1 this.2
    simp only
    omega
end Go.Proofs.YtcffeepgfjpcaaaGreat

namespace Go.Proofs.YtcffeepgfjpcaaaGreat
set_option linter.unusedSimpArgs false
set_option linter.unusedVariables false
open Go.RowKit

end Go.Proofs.YtcffeepgfjpcaaaGreat

namespace Go.Proofs.YtcffeepgfjpcaaaGreat
set_option linter.unusedSimpArgs false
set_option linter.unusedVariables false
open Go.RowKit

end Go.Proofs.YtcffeepgfjpcaaaGreat

namespace Go.Proofs.YtcffeepgfjpcaaaGreat
set_option linter.unusedSimpArgs false
set_option linter.unusedVariables false
set_option maxRecDepth 100000
open Go.ChangeShapes Go.WideShapes Go.ChangeAt Go.RowKit

/-- these cells read as data of type T -/
def InC (w : World) (T : TypeId) (cs : List Value) : Prop :=
  ∃ (H : Type) (enc : TypeId × Value → H) (n : Nat) (y : DataW H × List MemPlace), DataW.trod enc Tryz.prog w 0 (fun _ => true) true n T cs = some y

section
variable {w : World} {T e : TypeId} {cs : List Value}
theorem InC.of {H : Type} {enc : TypeId × Value → H} {v : Value} {d : DataW H} {p : List MemPlace} (h : DataW.Trod enc Tryz.prog w 0 (fun _ => true) true T v d p) : InC w T v.cells.toList := by
  obtain ⟨n, h⟩ := h
  exact ⟨_, enc, n, _, h⟩
theorem InC.int {k : IntKind} (ht : Tryz.prog.underlying T = some (.int k)) (h : InC w T cs) : ∃ n, cs = [.int k n] ∧ (Lit.int k n).wf = true := by
  obtain ⟨H, enc, m, y, h⟩ := h
  obtain ⟨n, h1, _, h3⟩ := DataW.trod_int ht h
  exact ⟨n, h1, h3⟩
theorem InC.bool (ht : Tryz.prog.underlying T = some .bool) (h : InC w T cs) : ∃ b, cs = [.bool b] := by
  obtain ⟨H, enc, m, y, h⟩ := h
  obtain ⟨b, h1, _⟩ := DataW.trod_bool ht h
  exact ⟨b, h1⟩
theorem InC.string (ht : Tryz.prog.underlying T = some .string) (h : InC w T cs) : ∃ s : ByteArray, cs = [.string s] ∧ s.size ≤ maxLen := by
  obtain ⟨H, enc, m, y, h⟩ := h
  obtain ⟨s, h1, _, h3⟩ := DataW.trod_string ht h
  exact ⟨s, h1, h3⟩
theorem InC.struct {fs : Array Field} (ht : Tryz.prog.underlying T = some (.struct fs)) (h : InC w T cs) :
    cs.length = Tryz.prog.cellsOf T ∧ ∀ (j : Nat) (f : Field), fs[j]? = some f → InC w f.type ((cs.drop f.offset).take (Tryz.prog.cellsOf f.type)) := by
  obtain ⟨H, enc, m, y, h⟩ := h
  obtain ⟨xs, n, _, _, hl, hlen, hf⟩ := DataW.trod_struct ht h
  refine ⟨hl, fun j f hj => ?_⟩
  have h1 := hf j f hj
  have hj' : j < fs.size := (Array.getElem?_eq_some_iff.1 hj).1
  exact ⟨H, enc, n, xs[j]'(by omega), by rw [h1]; exact List.getElem?_eq_getElem (by omega)⟩
theorem InC.slice (ht : Tryz.prog.underlying T = some (.slice e)) (h : InC w T cs) :
    cs = [.slice none 0 0] ∨ ∃ (a : Addr) (len cap : Nat), cs = [.slice (some a) len cap] ∧ len ≤ cap ∧ cap ≤ maxLen ∧
      ∀ i, i < len → ∃ cs', cs'.length = Tryz.prog.cellsOf e ∧ (∀ j, j < Tryz.prog.cellsOf e → w.cell? (a.add (i * Tryz.prog.cellsOf e + j)) = cs'[j]?) ∧ InC w e cs' := by
  obtain ⟨H, enc, m, y, h⟩ := h
  rcases DataW.trod_slice ht h with ⟨h0, _⟩ | ⟨a, len, cap, elems, rest, n, _, rfl, _, _, hl, hm, hlen, hel, _⟩
  · exact .inl h0
  · refine .inr ⟨a, len, cap, rfl, hl, hm, fun i hi => ?_⟩
    have h1 := hel i hi
    rw [List.getElem?_eq_getElem (by omega), Option.bind_eq_some_iff] at h1
    obtain ⟨cs', h2, h3⟩ := h1
    obtain ⟨_, h4, h5⟩ := World.cells?_some h2
    refine ⟨cs', h4, fun j hj => ?_, H, enc, n, _, h3⟩
    rw [← add_add]
    exact h5 j hj
/-- a slice that came in reads as a list -/
theorem InC.row {α : Type} {C : Cdc α} (ht : Tryz.prog.underlying T = some (.slice e)) (hn : Tryz.prog.cellsOf e = C.n) (hn0 : 0 < C.n)
    (hel : ∀ cs, InC w e cs → ∃ x, C.at_ w (fun k => k < w.heap.size) cs x) (h : InC w T cs) :
    ∃ v xs, cs = [v] ∧ RowOn C w (fun k => k < w.heap.size) (fun k => k < w.heap.size) v xs := by
  rcases h.slice ht with rfl | ⟨a, len, cap, rfl, hl, hm, hi⟩
  · exact ⟨_, [], rfl, RowOn.nil_⟩
  · rw [hn] at hi
    have hex : ∀ i : Fin len, ∃ (cs : List Value) (x : α), C.at_ w (fun k => k < w.heap.size) cs x ∧ ∀ (j : Nat) (u : Value), cs[j]? = some u → w.cell? (a.add (i.1 * C.n + j)) = some u := by
      intro i
      obtain ⟨cs, h1, h2, h3⟩ := hi i.1 i.2
      obtain ⟨x, hx⟩ := hel cs h3
      refine ⟨cs, x, hx, fun j u hu => ?_⟩
      rw [h2 j (by rw [← h1]; exact (List.getElem?_eq_some_iff.1 hu).1), hu]
    refine ⟨_, List.ofFn fun i => (hex i).choose_spec.choose, rfl, some a, cap, by simp, by simpa using hl, hm, fun hp => ⟨a, rfl, ?_, ?_⟩⟩
    · have hp' : 0 < len := by simpa using hp
      obtain ⟨cs, h1, h2, h3⟩ := hi 0 hp'
      have h4 := h2 0 hn0
      rw [List.getElem?_eq_getElem (by omega)] at h4
      have := World.block_lt_of_cell? w _ h4
      rwa [add_block] at this
    · intro i x hx
      rw [List.getElem?_ofFn] at hx
      split at hx
      · rename_i hi'
        injection hx with hx
        have := (hex ⟨i, hi'⟩).choose_spec.choose_spec
        rw [hx] at this
        exact ⟨_, this.1, this.2⟩
      · cases hx
/-- a struct of one-cell fields: field by field -/
theorem InC.fields {fs : Array Field} (ht : Tryz.prog.underlying T = some (.struct fs)) (hone : Go.Deep.oneCellFields Tryz.prog fs = true) (hC : Tryz.prog.cellsOf T = fs.size) (h : InC w T cs) :
    cs.length = fs.size ∧ ∀ (j : Nat) (f : Field), fs[j]? = some f → ∃ u, cs[j]? = some u ∧ InC w f.type [u] := by
  obtain ⟨hl, hf⟩ := h.struct ht
  rw [hC] at hl
  refine ⟨hl, fun j f hj => ?_⟩
  obtain ⟨ho, hk⟩ := Go.Deep.hone_of hone j f hj
  have h1 := hf j f hj
  have hj' : j < fs.size := (Array.getElem?_eq_some_iff.1 hj).1
  rw [ho, hk] at h1
  refine ⟨cs[j]'(by omega), List.getElem?_eq_getElem (by omega), ?_⟩
  have : (cs.drop j).take 1 = [cs[j]'(by omega)] := by
    rw [List.drop_eq_getElem_cons (by omega)]
    rfl
  rwa [this] at h1
theorem InC.agg {fs : Array Field} {v : Value} {base : Nat} (ht : Tryz.prog.underlying T = some (.struct fs)) (hv : Value.okWide Tryz.prog w .any base T v) (h : InC w T v.cells.toList) :
    ∃ cs : List Value, v = .agg cs.toArray ∧ InC w T cs := by
  obtain ⟨cs, rfl, _⟩ := okWide_struct ht hv
  exact ⟨cs.toList, by simp, by simpa [Value.cells] using h⟩
end

section
variable {w : World} {cs : List Value} {S : Nat → Prop} {T : TypeId}
theorem InC.u8 (ht : Tryz.prog.underlying T = some (.int .u8)) (h : InC w T cs) : ∃ x, c8.at_ w S cs x := by
  obtain ⟨n, rfl, hw⟩ := h.int ht
  obtain ⟨b, rfl⟩ := u8_of_wf hw
  exact ⟨b, rfl, trivial⟩
theorem InC.u32 (ht : Tryz.prog.underlying T = some (.int .u32)) (h : InC w T cs) : ∃ x, c32.at_ w S cs x := by
  obtain ⟨n, rfl, hw⟩ := h.int ht
  obtain ⟨b, rfl⟩ := u32_of_wf hw
  exact ⟨b, rfl, trivial⟩
theorem InC.u64 (ht : Tryz.prog.underlying T = some (.int .u64)) (h : InC w T cs) : ∃ x, c64.at_ w S cs x := by
  obtain ⟨n, rfl, hw⟩ := h.int ht
  obtain ⟨b, rfl⟩ := u64_of_wf hw
  exact ⟨b, rfl, trivial⟩
theorem InC.i64 (ht : Tryz.prog.underlying T = some (.int .i64)) (h : InC w T cs) : ∃ x, cInt.at_ w S cs x := by
  obtain ⟨n, rfl, hw⟩ := h.int ht
  exact ⟨n, rfl, i64_of_wf hw⟩
theorem InC.cbool (ht : Tryz.prog.underlying T = some .bool) (h : InC w T cs) : ∃ x, cBool.at_ w S cs x := by
  obtain ⟨b, rfl⟩ := h.bool ht
  exact ⟨b, rfl, trivial⟩
theorem InC.cstr (ht : Tryz.prog.underlying T = some .string) (h : InC w T cs) : ∃ x, cStr.at_ w S cs x := by
  obtain ⟨s, rfl, hs⟩ := h.string ht
  exact ⟨s, rfl, hs⟩
/-- a slice of bytes that came in -/
theorem InC.bytes {v : Value} (h : InC w 40 [v]) : ∃ l, By w w.heap.size v l := by
  obtain ⟨v', xs, e, hr⟩ := h.row (C := c8) Tryz.underlying40 (by kernel_rfl) (by decide) fun cs hc => hc.u8 Tryz.underlying5
  injection e with e
  subst e
  exact ⟨xs, hr.toBy⟩
theorem InC.bytes' (h : InC w 40 cs) : ∃ l v, cs = [v] ∧ By w w.heap.size v l := by
  obtain ⟨v', xs, e, hr⟩ := h.row (C := c8) Tryz.underlying40 (by kernel_rfl) (by decide) fun cs hc => hc.u8 Tryz.underlying5
  exact ⟨xs, v', e, hr.toBy⟩
end
end Go.Proofs.YtcffeepgfjpcaaaGreat

namespace Go.Proofs.YtcffeepgfjpcaaaGreat
set_option linter.unusedSimpArgs false
set_option linter.unusedVariables false
open Go.RowKit

def cArc : Cdc GArc := Cdc.flat 2 (fun a => [.int .u32 (a.to.toNat : Int), .int .u32 (a.wt.toNat : Int)]) (fun _ => True) (fun _ => rfl) (fun x u hu => by
  simp at hu
  rcases hu with rfl | rfl <;> rfl)
theorem infoArc : (Tryz.prog.info? 48).map (fun i => (i.zero, i.size, i.bytes)) = some (some (.agg #[.int .u32 0, .int .u32 0]), cArc.n, 8) := by kernel_rfl
theorem InC.arcs' {w : World} {cs : List Value} (h : InC w 45 cs) : ∃ v xs, cs = [v] ∧ RowOn cArc w (fun k => k < w.heap.size) (fun k => k < w.heap.size) v xs :=
  h.row (C := cArc) Tryz.underlying45 (by kernel_rfl) (by decide) fun cs hc => by
    obtain ⟨hl, hf⟩ := hc.fields Tryz.underlying48 (by kernel_rfl) (by kernel_rfl)
    obtain ⟨u0, h0, g0⟩ := hf 0 _ rfl
    obtain ⟨u1, h1, g1⟩ := hf 1 _ rfl
    obtain ⟨n0, e0, k0⟩ := InC.u32 (S := fun _ => True) Tryz.underlying24 g0
    obtain ⟨n1, e1, k1⟩ := InC.u32 (S := fun _ => True) Tryz.underlying24 g1
    simp at e0 e1
    subst e0; subst e1
    match cs, hl with
    | [c0, c1], _ =>
      injection h0 with h0
      injection h1 with h1
      subst h0; subst h1
      exact ⟨⟨n0, n1⟩, rfl, trivial⟩
/-- the value reads as these arcs, in blocks below B -/
abbrev ByA (w : World) (B : Nat) (v : Value) (l : List GArc) : Prop := RowOn cArc w (fun k => k < B) (fun _ => True) v l
theorem ByA.below {w w' : World} {B : Nat} {v : Value} {l : List GArc} (h : ByA w B v l) (hb : Below B w w') : ByA w' B v l := by
  obtain ⟨A, c, h1, h2, h3, h4⟩ := h
  refine ⟨A, c, h1, h2, h3, fun hn => ?_⟩
  obtain ⟨ad, e, hb', hc⟩ := h4 hn
  refine ⟨ad, e, hb', fun i x hx => ?_⟩
  obtain ⟨cs, ha, hcs⟩ := hc i x hx
  exact ⟨cs, ha, fun j u hu => (hb.cell (by rw [add_block]; exact hb')).trans (hcs j u hu)⟩
theorem ByA.more {w : World} {B B' : Nat} {v : Value} {l : List GArc} (h : ByA w B v l) (hB : B ≤ B') : ByA w B' v l := h.mono (fun _ hk => by omega) fun _ hk => hk
theorem ByA.step {w w' : World} {v : Value} {l : List GArc} (h : ByA w w.heap.size v l) (hb : Below w.heap.size w w') : ByA w' w'.heap.size v l := (h.below hb).more hb.size
theorem InC.arcs {w : World} {v : Value} (h : InC w 45 [v]) : ∃ l, ByA w w.heap.size v l := by
  obtain ⟨v', xs, e, hr⟩ := h.arcs'
  injection e with e
  subst e
  exact ⟨xs, hr.mono (fun _ hk => hk) (fun _ _ => trivial)⟩
/-- the two cells of the k-th arc -/
theorem ByA.cells {w : World} {B : Nat} {A : Option Addr} {n c : Nat} {l : List GArc} (h : ByA w B (.slice A n c) l) (k : Nat) (hk : k < l.length) :
    ∃ ad, A = some ad ∧ ad.block < B ∧ w.cell? (ad.add (k * 2)) = some (.int .u32 ((l[k]).to.toNat : Int)) ∧ w.cell? { block := (ad.add (k * 2)).block, off := (ad.add (k * 2)).off + 1 } = some (.int .u32 ((l[k]).wt.toNat : Int)) := by
  obtain ⟨ad, cs, e, hb, ⟨rfl, _⟩, hc⟩ := h.at_ k l[k] (List.getElem?_eq_getElem hk)
  refine ⟨ad, e, hb, hc 0 _ rfl, ?_⟩
  have := hc 1 _ rfl
  rw [← add_add] at this
  have e2 : (ad.add (k * cArc.n)).add 1 = { block := (ad.add (k * 2)).block, off := (ad.add (k * 2)).off + 1 } := by simp [Addr.add, cArc, Cdc.flat]
  rw [← e2]
  exact this

set_option maxRecDepth 100000 in
set_option maxHeartbeats 800000 in
theorem gsum_any (w : World) (B : Nat) (v : Value) (l : List GArc) (hl : l.length ≤ 4294967296) (h : ByA w B v l) (hB : B ≤ w.heap.size) :
    Calls Tryz.prog 50 #[v] w fun e w' => e = .returned (.int .u64 (gsum l : Nat)) ∧ Below w.heap.size w w' := by
  obtain ⟨A, c, rfl, hc1, hc2⟩ := h.form
  unfold maxLen at hc2
  have hlt := fun k => gsum_lt (l.take k)
  have Hlt := Lib.hid hlt
  clear hlt
  go_enter Tryz.func50, Tryz.ntmps50
  go_wp2_with fail
  go_loopw [3, 8] (fun x i wr => ∃ k : Nat, k ≤ l.length ∧ i = .int .i64 k ∧ x = .int .u64 (gsum (l.take k) : Nat) ∧ Below w.heap.size w wr) (fun _ i _ => l.length - (intOf i).toNat)
  case atStart => exact ⟨0, by omega, rfl, rfl, Below.refl _ _⟩
  case round =>
    obtain ⟨k, hk, rfl, rfl, hbl⟩ := hrel
    by_cases hlt : k < l.length
    · obtain ⟨ad, rfl, hab, hx0, hx1⟩ := (h.below (hbl.mono hB)).cells k hlt
      have hsn := gsum_snoc l k hlt
      have h1 := Hlt.out k
      have h2 : (l.take k).length ≤ 4294967296 := by simp; omega
      have h3 : gsum (l.take k) ≤ 18446744069414584320 := by
        have := Nat.mul_le_mul_right 4294967295 h2
        omega
      have Hsn := Lib.hid hsn
      have hwt := u32_lt (l[k]).wt
      clear hsn h1 h2
      generalize l[k] = a at *
      generalize gsum (l.take k) = S at *
      go_wp2_with fail
      go_roundw
      case rel => exact ⟨k + 1, by omega, by go_num, by rw [Hsn.out]; go_num, hbl.trans ((balloc _ _).mono hbl.size)⟩
      case measure => simp [intOf]; omega
    · obtain rfl : k = l.length := by omega
      rw [List.take_length]
      go_wp2_with fail
      go_ret
      exact ⟨rfl, hbl⟩
end Go.Proofs.YtcffeepgfjpcaaaGreat

namespace Go.Proofs.YtcffeepgfjpcaaaGreat
set_option linter.unusedSimpArgs false
set_option linter.unusedVariables false
open Go.RowKit

theorem gmay_take (l : List GArc) (k : Nat) (h : k < l.length) (hk : stepOk l k l[k] = false) : gmay l = false := by
  rcases hg : gmay l with _ | _
  · rfl
  · unfold gmay at hg
    simp at hg
    have := rise_stepOk l k h hg.1
    rw [hk] at this
    cases this

set_option maxRecDepth 100000 in
set_option maxHeartbeats 1600000 in
theorem gmay_any (w : World) (B : Nat) (v : Value) (l : List GArc) (hl : l.length ≤ 4294967296) (h : ByA w B v l) (hB : B ≤ w.heap.size) :
    Calls Tryz.prog 45 #[v] w fun e w' => e = .returned (.bool (gmay l)) ∧ Below w.heap.size w w' := by
  obtain ⟨A, c, rfl, hc1, hc2⟩ := h.form
  unfold maxLen at hc2
  have hsum := fun W (h : ByA W B (.slice A l.length c) l) hW => gsum_any W B (.slice A l.length c) l hl h hW
  have hgm : gmay l = (rise none l && decide (gsum l ≤ 2147483647)) := rfl
  have hno := fun k h hk => gmay_take l k h hk
  have Hsum := Lib.hid hsum
  have Hno := Lib.hid hno
  have Hgm := Lib.hid hgm
  clear hsum hno hgm
  go_enter Tryz.func45, Tryz.ntmps45
  go_wp2_with fail
  go_loopw [7] (fun i wr => ∃ k : Nat, k ≤ l.length ∧ i = .int .i64 k ∧ rise none (l.take k) = true ∧ Below w.heap.size w wr) (fun i _ => l.length - (intOf i).toNat)
  case atStart => exact ⟨0, by omega, rfl, rfl, Below.refl _ _⟩
  case round =>
    obtain ⟨k, hk, rfl, hri, hbl⟩ := hrel
    by_cases hlt : k < l.length
    · obtain ⟨ad, rfl, hab, hx0, hx1⟩ := (h.below (hbl.mono hB)).cells k hlt
      have hstep := rise_snoc l k hlt
      rw [hri, Bool.true_and] at hstep
      have hno := Hno.out k hlt
      have hst : stepOk l k l[k] = ((l[k]).wt != 0 && (k == 0 || match l[k - 1]? with | some b => decide (b.to < (l[k]).to) | none => true)) := rfl
      have hbz := hbl.size
      by_cases hw0 : (l[k]).wt = 0
      · rw [hw0] at hst
        simp at hst
        have hf := hno hst
        have Hf := Lib.hid hf
        have hwt : (((l[k]).wt.toNat : Nat) : Int) = 0 := by rw [hw0]; rfl
        rw [hwt] at hx1
        clear hst hf hno hstep hwt hw0
        generalize l[k] = a at *
        go_wp2_with fail
        go_quiet (fail)
        go_wp2_with fail
        go_ret
        rw [Hf.out]
        exact ⟨rfl, bdrewN (hbl.trans ((balloc _ _).mono hbl.size)) _⟩
      · have hwn : ((((l[k]).wt.toNat : Nat) : Int) == 0) = false := beq_eq_false_iff_ne.2 (fun e => hw0 (UInt32.toNat_inj.1 (by simpa using e)))
        have hwn' : ((l[k]).wt != 0) = true := by simpa using hw0
        rw [hwn', Bool.true_and] at hst
        rcases Nat.eq_zero_or_pos k with hk0 | hk0
        · have h0' : (k == 0) = true := by simpa using hk0
          rw [h0', Bool.true_or] at hst
          rw [hst] at hstep
          have hk0i : decide (0 < k) = false := by simp; omega
          have Hstep := Lib.hid hstep
          have Hk0 := Lib.hid hk0
          clear hst hstep hno hwn' hw0 h0' hk0
          generalize l[k] = a at *
          go_wp2_with fail
          go_quiet (fail)
          go_wp2_with fail
          go_roundw
          case rel => exact ⟨k + 1, by omega, by go_num, Hstep.out, bdrewN (hbl.trans ((balloc _ _).mono hbl.size)) _⟩
          case measure => simp [intOf]; omega
        · obtain ⟨m, rfl⟩ : ∃ m, k = m + 1 := ⟨k - 1, by omega⟩
          have h0' : (m + 1 == 0) = false := by simp
          have hm : m < l.length := by omega
          rw [h0', Bool.false_or, Nat.add_sub_cancel, List.getElem?_eq_getElem hm] at hst
          obtain ⟨ad', e, _, hy0, hy1⟩ := (h.below (hbl.mono hB)).cells m hm
          injection e with e
          subst e
          simp only at hst
          rw [hst] at hstep hno
          have Hstep := Lib.hid hstep
          have Hno1 := Lib.hid hno
          clear hst hstep hno hwn' hw0 h0'
          generalize l[m + 1] = a at *
          generalize l[m] = b at *
          have hx0' := World.cell?_alloc_lt wr (.cells #[.int .u32 (a.to.toNat : Int), .int .u32 (a.wt.toNat : Int)] 48) (ad.add (m * 2)) (by rw [add_block]; omega)
          rw [hy0] at hx0'
          by_cases hlo : b.to < a.to
          · have hle : decide ((a.to.toNat : Int) ≤ (b.to.toNat : Int)) = false := by
              have := UInt32.lt_iff_toNat_lt.1 hlo
              simp; omega
            have hle' : decide (a.to.toNat ≤ b.to.toNat) = false := by
              have := UInt32.lt_iff_toNat_lt.1 hlo
              simp; omega
            have hlt' : (decide (b.to < a.to)) = true := by simpa using hlo
            rw [hlt'] at Hstep
            clear hlo hlt' Hno1
            go_wp2_with fail
            go_quiet (fail)
            go_wp2_with fail
            go_roundw
            case rel => exact ⟨m + 1 + 1, by omega, by go_num, Hstep.out, bdrewN (hbl.trans ((balloc _ _).mono hbl.size)) _⟩
            case measure => simp [intOf]; omega
          · have hle : decide ((a.to.toNat : Int) ≤ (b.to.toNat : Int)) = true := by
              have : ¬ b.to.toNat < a.to.toNat := fun h => hlo (UInt32.lt_iff_toNat_lt.2 h)
              simp; omega
            have hle' : decide (a.to.toNat ≤ b.to.toNat) = true := by
              have : ¬ b.to.toNat < a.to.toNat := fun h => hlo (UInt32.lt_iff_toNat_lt.2 h)
              simp; omega
            have hf := Hno1.out (by simpa using hlo)
            have Hf := Lib.hid hf
            clear hlo hf Hstep Hno1
            go_wp2_with fail
            go_quiet (fail)
            go_wp2_with fail
            go_ret
            rw [Hf.out]
            exact ⟨rfl, bdrewN (hbl.trans ((balloc _ _).mono hbl.size)) _⟩
    · obtain rfl : k = l.length := by omega
      rw [List.take_length] at hri
      have hs := Hsum.out wr (h.below (hbl.mono hB)) (Nat.le_trans hB hbl.size)
      have hgm := Hgm.out
      rw [hri, Bool.true_and] at hgm
      have HG := Lib.hid hgm
      clear hgm Hgm
      generalize gsum l = S at *
      have Hs := Lib.hid hs
      clear hs
      go_wp2_with fail
      refine Hs.out.mono ?_
      rintro _ w1 ⟨rfl, hb1⟩
      go_wp2_with fail
      go_ret
      rw [HG.out]
      refine ⟨?_, bstep hbl hb1⟩
      exact congrArg (fun b => Ending.returned (Value.bool b)) (decide_eq_decide.2 (by omega))

theorem Ext.ne {w w' : World} {v v' : Value} (h : Ext w w' v v') {g : Nat} (hg : g < w.heap.size) (hv : v.ownBlock ≠ some g) : v'.ownBlock ≠ some g := by
  rcases h.at_ with h1 | h1
  · rw [h1]; exact hv
  · intro e; have := h1 g e; omega
end Go.Proofs.YtcffeepgfjpcaaaGreat

namespace Go.Proofs.YtcffeepgfjpcaaaGreat
set_option linter.unusedSimpArgs false
set_option linter.unusedVariables false
open Go.RowKit

end Go.Proofs.YtcffeepgfjpcaaaGreat

namespace Go.Proofs.YtcffeepgfjpcaaaGreat
set_option linter.unusedSimpArgs false
set_option linter.unusedVariables false
open Go.RowKit

end Go.Proofs.YtcffeepgfjpcaaaGreat

namespace Go.Proofs.YtcffeepgfjpcaaaGreat
set_option linter.unusedSimpArgs false
set_option linter.unusedVariables false
open Go.RowKit

end Go.Proofs.YtcffeepgfjpcaaaGreat

namespace Go.Proofs.YtcffeepgfjpcaaaGreat
set_option linter.unusedSimpArgs false
set_option linter.unusedVariables false
open Go.RowKit

end Go.Proofs.YtcffeepgfjpcaaaGreat

namespace Go.Proofs.YtcffeepgfjpcaaaGreat
set_option linter.unusedSimpArgs false
set_option linter.unusedVariables false
open Go.RowKit

end Go.Proofs.YtcffeepgfjpcaaaGreat

namespace Go.Proofs.YtcffeepgfjpcaaaGreat
set_option linter.unusedSimpArgs false
set_option linter.unusedVariables false
open Go.RowKit

end Go.Proofs.YtcffeepgfjpcaaaGreat

namespace Go.Proofs.YtcffeepgfjpcaaaGreat
set_option linter.unusedSimpArgs false
set_option linter.unusedVariables false
open Go.RowKit

end Go.Proofs.YtcffeepgfjpcaaaGreat

namespace Go.Proofs.YtcffeepgfjpcaaaGreat
set_option linter.unusedSimpArgs false
set_option linter.unusedVariables false
open Go.RowKit
end Go.Proofs.YtcffeepgfjpcaaaGreat

namespace Go.Proofs.YtcffeepgfjpcaaaGreat
set_option linter.unusedSimpArgs false
set_option linter.unusedVariables false
open Go.RowKit

end Go.Proofs.YtcffeepgfjpcaaaGreat

namespace Go.Proofs.YtcffeepgfjpcaaaGreat
set_option linter.unusedSimpArgs false
set_option linter.unusedVariables false
open Go.RowKit

theorem OwnA.new_ (w : World) (l : List GArc) (hm : l.length ≤ maxLen) :
    OwnF 48 cArc (w.alloc (.cells ((l.map fun a => [Value.int .u32 (a.to.toNat : Int), .int .u32 (a.wt.toNat : Int)]).flatten.toArray) 48)) w.heap.size (.slice (some ⟨w.heap.size, 0, none⟩) l.length l.length) l :=
  OwnR.new_ w _ (by simp) hm (fun i cs x hc hx => by
    rw [List.getElem?_map, hx] at hc
    injection hc with hc
    exact ⟨hc.symm, trivial⟩) fun _ h => h.elim
theorem OwnF.byA {w : World} {base : Nat} {v : Value} {l : List GArc} (h : OwnF 48 cArc w base v l) : ByA w w.heap.size v l := h.row.mono (fun _ hk => hk.2) fun _ h => h.elim

end Go.Proofs.YtcffeepgfjpcaaaGreat

namespace Go.Proofs.YtcffeepgfjpcaaaGreat
set_option linter.unusedSimpArgs false
set_option linter.unusedVariables false
open Go.RowKit

structure GCell where
  cut : UInt64
  oth : UInt32
deriving DecidableEq
def cCell : Cdc GCell := Cdc.flat 2 (fun a => [.int .u64 (a.cut.toNat : Int), .int .u32 (a.oth.toNat : Int)]) (fun _ => True) (fun _ => rfl) (fun x u hu => by
  simp at hu
  rcases hu with rfl | rfl <;> rfl)
/-- the value reads as these cells, in blocks below B -/
abbrev ByC (w : World) (B : Nat) (v : Value) (l : List GCell) : Prop := RowOn cCell w (fun k => k < B) (fun _ => True) v l
theorem ByC.below {w w' : World} {B : Nat} {v : Value} {l : List GCell} (h : ByC w B v l) (hb : Below B w w') : ByC w' B v l := by
  obtain ⟨A, c, h1, h2, h3, h4⟩ := h
  refine ⟨A, c, h1, h2, h3, fun hn => ?_⟩
  obtain ⟨ad, e, hb', hc⟩ := h4 hn
  refine ⟨ad, e, hb', fun i x hx => ?_⟩
  obtain ⟨cs, ha, hcs⟩ := hc i x hx
  exact ⟨cs, ha, fun j u hu => (hb.cell (by rw [add_block]; exact hb')).trans (hcs j u hu)⟩
theorem ByC.more {w : World} {B B' : Nat} {v : Value} {l : List GCell} (h : ByC w B v l) (hB : B ≤ B') : ByC w B' v l := h.mono (fun _ hk => by omega) fun _ hk => hk
theorem ByC.step {w w' : World} {v : Value} {l : List GCell} (h : ByC w w.heap.size v l) (hb : Below w.heap.size w w') : ByC w' w'.heap.size v l := (h.below hb).more hb.size
theorem ByC.cells {w : World} {B : Nat} {A : Option Addr} {n c : Nat} {l : List GCell} (h : ByC w B (.slice A n c) l) (k : Nat) (hk : k < l.length) :
    ∃ ad, A = some ad ∧ ad.block < B ∧ w.cell? (ad.add (k * 2)) = some (.int .u64 ((l[k]).cut.toNat : Int)) ∧ w.cell? { block := (ad.add (k * 2)).block, off := (ad.add (k * 2)).off + 1 } = some (.int .u32 ((l[k]).oth.toNat : Int)) := by
  obtain ⟨ad, cs, e, hb, ⟨rfl, _⟩, hc⟩ := h.at_ k l[k] (List.getElem?_eq_getElem hk)
  refine ⟨ad, e, hb, hc 0 _ rfl, ?_⟩
  have := hc 1 _ rfl
  rw [← add_add] at this
  have e2 : (ad.add (k * cCell.n)).add 1 = { block := (ad.add (k * 2)).block, off := (ad.add (k * 2)).off + 1 } := by simp [Addr.add, cCell, Cdc.flat]
  rw [← e2]
  exact this

/-! ### how many draws come to a neighbour -/
def cstep (W : Nat) (to : Int) (i : Nat) (c : GCell) (n : Nat) : Nat :=
  let cut := if W < c.cut.toNat then W else c.cut.toNat
  let n1 := if (i : Int) = to then (n + cut) % 18446744073709551616 else n
  if (c.oth.toNat : Int) = to then (n1 + (W - cut)) % 18446744073709551616 else n1
def cntK (W : Nat) (to : Int) (l : List GCell) : Nat → Nat
  | 0 => 0
  | k + 1 => match l[k]? with
    | some c => cstep W to k c (cntK W to l k)
    | none => cntK W to l k
def cnt (W : Nat) (to : Int) (l : List GCell) : Nat := cntK W to l l.length
theorem cntK_succ (W : Nat) (to : Int) (l : List GCell) (k : Nat) (hk : k < l.length) : cntK W to l (k + 1) = cstep W to k l[k] (cntK W to l k) := by
  rw [cntK, List.getElem?_eq_getElem hk]
theorem cstep_lt {W : Nat} {to : Int} {i : Nat} {c : GCell} {n : Nat} (hn : n < 18446744073709551616) : cstep W to i c n < 18446744073709551616 := by
  unfold cstep
  simp only
  split
  · exact Nat.mod_lt _ (by decide)
  · split
    · exact Nat.mod_lt _ (by decide)
    · exact hn
theorem cntK_lt (W : Nat) (to : Int) (l : List GCell) : ∀ k, cntK W to l k < 18446744073709551616
  | 0 => by simp [cntK]
  | k + 1 => by
    rw [cntK]
    split
    · exact cstep_lt (cntK_lt W to l k)
    · exact cntK_lt W to l k

end Go.Proofs.YtcffeepgfjpcaaaGreat

namespace Go.Proofs.YtcffeepgfjpcaaaGreat
set_option linter.unusedSimpArgs false
set_option linter.unusedVariables false
open Go.RowKit

end Go.Proofs.YtcffeepgfjpcaaaGreat

namespace Go.Proofs.YtcffeepgfjpcaaaGreat
set_option linter.unusedSimpArgs false
set_option linter.unusedVariables false
open Go.Shelf
def lays225_ren : Go.Shelf.Ren := ⟨fun | 25 => 77 | 31 => 105 | 32 => 106 | 37 => 121 | n => n, fun | 22 => 102 | 3 => 3 | 4 => 4 | 40 => 124 | 0 => 0 | n => n, fun | n => n⟩
theorem lays225 : Go.Proofs.Lays2.n25 Tryz.prog lays225_ren := {
  mixed := by kernel_rfl
  f25 := Tryz.func77.trans (congrArg some (by kernel_rfl))
  f31 := Tryz.func105.trans (congrArg some (by kernel_rfl))
  f32 := Tryz.func106.trans (congrArg some (by kernel_rfl))
  f37 := Tryz.func121.trans (congrArg some (by kernel_rfl))
  t0 := Tryz.underlying0
  a0 := Tryz.isAgg0
  z0 := Tryz.sizeOf0
  v0 := Tryz.zeroValue0
  t3 := Tryz.underlying3
  a3 := Tryz.isAgg3
  z3 := Tryz.sizeOf3
  v3 := Tryz.zeroValue3
  t4 := Tryz.underlying4
  a4 := Tryz.isAgg4
  z4 := Tryz.sizeOf4
  v4 := Tryz.zeroValue4
  t22 := Tryz.underlying102
  a22 := Tryz.isAgg102
  z22 := Tryz.sizeOf102
  v22 := Tryz.zeroValue102
  t40 := Tryz.underlying124
  a40 := Tryz.isAgg124
  z40 := Tryz.sizeOf124
  v40 := Tryz.zeroValue124 }
def lays221_ren : Go.Shelf.Ren := ⟨fun | 21 => 78 | 27 => 107 | 28 => 108 | 35 => 122 | 39 => 131 | n => n, fun | 22 => 102 | 3 => 3 | 4 => 4 | 0 => 0 | n => n, fun | n => n⟩
theorem lays221 : Go.Proofs.Lays2.n21 Tryz.prog lays221_ren := {
  mixed := by kernel_rfl
  f21 := Tryz.func78.trans (congrArg some (by kernel_rfl))
  f27 := Tryz.func107.trans (congrArg some (by kernel_rfl))
  f28 := Tryz.func108.trans (congrArg some (by kernel_rfl))
  f35 := Tryz.func122.trans (congrArg some (by kernel_rfl))
  f39 := Tryz.func131.trans (congrArg some (by kernel_rfl))
  t0 := Tryz.underlying0
  a0 := Tryz.isAgg0
  z0 := Tryz.sizeOf0
  v0 := Tryz.zeroValue0
  t3 := Tryz.underlying3
  a3 := Tryz.isAgg3
  z3 := Tryz.sizeOf3
  v3 := Tryz.zeroValue3
  t4 := Tryz.underlying4
  a4 := Tryz.isAgg4
  z4 := Tryz.sizeOf4
  v4 := Tryz.zeroValue4
  t22 := Tryz.underlying102
  a22 := Tryz.isAgg102
  z22 := Tryz.sizeOf102
  v22 := Tryz.zeroValue102
  i3 := by kernel_rfl }
end Go.Proofs.YtcffeepgfjpcaaaGreat

namespace Go.Proofs.YtcffeepgfjpcaaaGreat
set_option linter.unusedSimpArgs false
set_option linter.unusedVariables false
open Go.RowKit

end Go.Proofs.YtcffeepgfjpcaaaGreat

namespace Go.Proofs.YtcffeepgfjpcaaaGreat
set_option linter.unusedSimpArgs false
set_option linter.unusedVariables false
open Go.RowKit

/-- is each cell right? -/
def cgood (W n : Nat) (l : List GCell) : Bool := l.all fun c => decide (c.cut.toNat ≤ W) && decide (c.oth.toNat < n)
/-- how many draws come to each of n, by the first k cells -/
def cntRow (W : Nat) (l : List GCell) (n k : Nat) : List Value := (List.range n).map fun (j : Nat) => Value.int .u64 ((cntK W (j : Int) l k : Nat) : Int)
theorem cntRow_get (W : Nat) (l : List GCell) (n k j : Nat) (hj : j < n) : (cntRow W l n k)[j]? = some (.int .u64 ((cntK W (j : Int) l k : Nat) : Int)) := by
  simp [cntRow, List.getElem?_range hj]
theorem cntRow_len (W : Nat) (l : List GCell) (n k : Nat) : (cntRow W l n k).length = n := by simp [cntRow]
theorem made64 (n : Nat) (l : List GCell) (W : Nat) : madeCells (Value.cells (.int .u64 0)) n = (cntRow W l n 0).toArray := by
  apply Array.ext
  · simp [madeCells, Value.cells, cntRow]
  · intro i h1 h2
    simp [madeCells, Value.cells, cntRow, cntK, Nat.mod_one]
theorem info64 : (Tryz.prog.info? 23).map (fun i => (i.zero, i.size, i.bytes)) = some (some (.int .u64 0), 1, 8) := by kernel_rfl
theorem make64 (l : List GCell) (W n : Nat) (hn : n ≤ 4294967296) : ∀ w : World, (Instr.makeSlice 101 (.int .i64 (n : Int)) (.int .i64 (n : Int))).run Tryz.prog w = .ok (.slice (some ⟨w.heap.size, 0, none⟩) n n) (w.alloc (.cells (cntRow W l n 0).toArray 23)) := fun w => by
  obtain ⟨i, hi, hz0, hz1, hz2⟩ := info_parts info64
  have hr := run_make (P := Tryz.prog) w 101 23 i (.int .u64 0) Tryz.underlying101 hi hz0 .i64 .i64 (n : Int) (n : Int) (by omega) (by omega) (by rw [hz2]; omega) (by omega)
  rw [Int.toNat_natCast, hz1, Nat.mul_one, made64 n l W] at hr
  exact hr
/-- a cell that is right is added -/
theorem cntRow_step (W : Nat) (l : List GCell) (n k : Nat) (hk : k < l.length) (hkn : k < n) (cut oth : Nat) (hc : (l[k]).cut.toNat = cut) (ho : (l[k]).oth.toNat = oth) (hcW : cut ≤ W) (hon : oth < n) (x : Nat)
    (hx : x = if oth = k then (cntK W (k : Int) l k + cut) % 18446744073709551616 else cntK W (oth : Int) l k) :
    ((cntRow W l n k).set k (.int .u64 (((cntK W (k : Int) l k + cut) % 18446744073709551616 : Nat) : Int))).set oth (.int .u64 (((x + (W - cut)) % 18446744073709551616 : Nat) : Int)) = cntRow W l n (k + 1) := by
  apply List.ext_getElem?
  intro j
  rcases Nat.lt_or_ge j n with hj | hj
  · rw [cntRow_get W l n (k + 1) j hj, cntK_succ W j l k hk, List.getElem?_set, List.getElem?_set, cntRow_get W l n k j hj]
    unfold cstep
    simp only [hc, ho, Nat.not_lt.2 hcW, if_false, List.length_set, cntRow_len, hon, hkn, if_true]
    subst hx
    by_cases h1 : oth = j
    · subst h1
      by_cases h2 : oth = k
      · subst h2; simp
      · have : ¬ k = oth := fun e => h2 e.symm
        have h3 : ¬ (k : Int) = (oth : Int) := by omega
        simp [this, h2, h3]
    · have h4 : ¬ (oth : Int) = (j : Int) := by omega
      rw [if_neg h1, if_neg h4]
      by_cases h2 : k = j
      · subst h2; simp
      · have h3 : ¬ (k : Int) = (j : Int) := by omega
        rw [if_neg h2, if_neg h3]
  · rw [List.getElem?_eq_none (by simp [cntRow_len]; omega), List.getElem?_eq_none (by rw [cntRow_len]; omega)]
theorem cgood_snoc (W n : Nat) (l : List GCell) (k : Nat) (hk : k < l.length) : cgood W n (l.take (k + 1)) = (cgood W n (l.take k) && (decide ((l[k]).cut.toNat ≤ W) && decide ((l[k]).oth.toNat < n))) := by
  unfold cgood
  rw [List.take_add_one, List.all_append, List.getElem?_eq_getElem hk]
  simp
theorem cgood_no (W n : Nat) (l : List GCell) (k : Nat) (hk : k < l.length) (h : ¬ ((l[k]).cut.toNat ≤ W ∧ (l[k]).oth.toNat < n)) : cgood W n l = false := by
  unfold cgood
  rw [Bool.eq_false_iff]
  intro hc
  have := List.all_eq_true.1 hc _ (List.getElem_mem hk)
  simp at this
  exact h this

set_option maxRecDepth 100000 in
set_option maxHeartbeats 3200000 in
theorem counts_any (w : World) (B : Nat) (v : Value) (l : List GCell) (W : Nat) (hW : W < 18446744073709551616) (hl : l.length ≤ 4294967296) (h : ByC w B v l) (hB : B ≤ w.heap.size) :
    Calls Tryz.prog 80 #[v, .int .u64 (W : Int)] w fun e w' => ∃ vo, e = .returned (.tuple #[vo, .bool (cgood W l.length l)]) ∧ (cgood W l.length l = true → vo = .slice (some ⟨w.heap.size, 0, none⟩) l.length l.length ∧ BoxAt 23 w' w.heap.size (cntRow W l l.length l.length)) ∧ Below w.heap.size w w' := by
  obtain ⟨A, c, rfl, hc1, hc2⟩ := h.form
  unfold maxLen at hc2
  have hlt := fun j => cntK_lt W j l
  have hno := fun k hk => cgood_no W l.length l k hk
  have hmk := make64 l W l.length hl
  have Hlt := Lib.hid hlt
  have Hno := Lib.hid hno
  clear hlt hno
  go_enter Tryz.func80, Tryz.ntmps80
  go_wp2_with fail
  have hbx0 := BoxAt.new_ 23 w (cntRow W l l.length 0)
  clear hmk
  go_loopw [14] (fun i wr => ∃ k : Nat, k ≤ l.length ∧ i = .int .i64 k ∧ BoxAt 23 wr w.heap.size (cntRow W l l.length k) ∧ cgood W l.length (l.take k) = true ∧ Below w.heap.size w wr) (fun i _ => l.length - (intOf i).toNat)
  case atStart => exact ⟨0, by omega, rfl, hbx0, rfl, balloc _ _⟩
  case round =>
    obtain ⟨k, hk, rfl, hbx, hgk, hbl⟩ := hrel
    have hbz := hbl.size
    have hblt := hbx.lt
    by_cases hlt : k < l.length
    · obtain ⟨ad, rfl, hab, hx0, hx1⟩ := (h.below (hbl.mono hB)).cells k hlt
      have hcu := u64_lt (l[k]).cut
      have hot := u32_lt (l[k]).oth
      have hgs := cgood_snoc W l.length l k hlt
      rw [hgk, Bool.true_and] at hgs
      have hno := Hno.out k hlt
      by_cases hgd : (l[k]).cut.toNat ≤ W ∧ (l[k]).oth.toNat < l.length
      · have hgg : cgood W l.length (l.take (k + 1)) = true := by rw [hgs]; simp [hgd.1, hgd.2]
        have hstp := cntRow_step W l l.length k hlt hlt _ _ rfl rfl hgd.1 hgd.2
        have hy0 := hbx.cell k _ (cntRow_get W l _ k k hlt)
        have hy1 := hbx.cell _ _ (cntRow_get W l _ k _ hgd.2)
        have hn0 := Hlt.out k k
        have hn1 := Hlt.out (l[k]).oth.toNat k
        obtain ⟨hg1, hg2⟩ := hgd
        clear hgs hno
        have Hgg := Lib.hid hgg
        have Hstp := Lib.hid hstp
        have hbw := Lib.hid hbx
        clear hgg hstp hgk
        generalize (l[k]).cut.toNat = cut at *
        generalize (l[k]).oth.toNat = oth at *
        have hd1 : decide (W < cut) = false := decide_eq_false (by omega)
        have hd2 : decide (l.length ≤ oth) = false := decide_eq_false (by omega)
        go_wp2_with fail
        have hbxA := hbx.alloc (.cells #[.int .u64 (cut : Int), .int .u32 (oth : Int)] 106)
        have hcA := BoxAt.new_ 106 wr [.int .u64 (cut : Int), .int .u32 (oth : Int)]
        have ha0 := hbxA.cell k _ (cntRow_get W l _ k k hlt)
        have haf := hbxA.frozen k
        have hc0 := hcA.cell 0 _ rfl
        have hc1 := hcA.cell 1 _ rfl
        have Hbx := Lib.hid hbxA
        have HcA := Lib.hid hcA
        have HbA := Lib.hid (hbl.trans ((balloc wr (.cells #[.int .u64 (cut : Int), .int .u32 (oth : Int)] 106)).mono hbz))
        have e1 : IntKind.u64.wrap (((cntK W (k : Int) l k : Nat) : Int) + (cut : Int)) = (((cntK W (k : Int) l k + cut) % 18446744073709551616 : Nat) : Int) := by rw [wrap_u64]; omega
        obtain ⟨x, hx⟩ : ∃ x, x = if oth = k then (cntK W (k : Int) l k + cut) % 18446744073709551616 else cntK W (oth : Int) l k := ⟨_, rfl⟩
        have hstp2 := Hstp.out x hx
        have hxlt : x < 18446744073709551616 := by rw [hx]; split <;> omega
        have hget : ((cntRow W l l.length k).set k (.int .u64 (((cntK W (k : Int) l k + cut) % 18446744073709551616 : Nat) : Int)))[oth]? = some (.int .u64 (x : Int)) := by
          rw [List.getElem?_set, cntRow_get W l _ k _ hg2, cntRow_len, hx]
          by_cases hko : oth = k
          · subst hko; simp [hlt]
          · rw [if_neg (fun e => hko e.symm), if_neg hko]
        have Hget := Lib.hid hget
        have Hstp2 := Lib.hid hstp2
        have E1 := Lib.hid e1
        clear hbxA hcA hbx hy0 hy1 hbl hx0 hx1 hbw Hstp hx hget hstp2 e1
        generalize cntK W (k : Int) l k = n at *
        generalize cntK W (oth : Int) l k = m at *
        generalize wr.alloc (.cells #[.int .u64 (cut : Int), .int .u32 (oth : Int)] 106) = wa at *
        generalize wr.heap.size = gc at *
        go_region
        rw [E1.out]
        have hbx1 := Hbx.out.put k (.int .u64 (((n + cut) % 18446744073709551616 : Nat) : Int))
        have hcA1 := HcA.out.other ⟨w.heap.size, k, none⟩ (.int .u64 (((n + cut) % 18446744073709551616 : Nat) : Int)) (by show w.heap.size ≠ gc; omega)
        have hb1 : Below w.heap.size w (wa.setCell ⟨w.heap.size, k, none⟩ (.int .u64 (((n + cut) % 18446744073709551616 : Nat) : Int))).drew := (HbA.out.setCell (p := ⟨w.heap.size, k, none⟩) (Nat.le_refl _) _).drew
        clear ha0 haf hc0 hc1
        generalize (n + cut) % 18446744073709551616 = nc at *
        replace hbx1 : BoxAt 23 (wa.setCell ⟨w.heap.size, k, none⟩ (.int .u64 (nc : Int))).drew w.heap.size _ := hbx1
        replace hcA1 : BoxAt 106 (wa.setCell ⟨w.heap.size, k, none⟩ (.int .u64 (nc : Int))).drew gc _ := hcA1
        generalize (wa.setCell ⟨w.heap.size, k, none⟩ (.int .u64 (nc : Int))).drew = wb at *
        have ha0 := hbx1.cell oth _ Hget.out
        have haf := hbx1.frozen oth
        have hc0 := hcA1.cell 0 _ rfl
        have hc1 := hcA1.cell 1 _ rfl
        have Hbx1 := Lib.hid hbx1
        have Hb1 := Lib.hid hb1
        have e2 : IntKind.u64.wrap ((x : Int) + ((W : Int) - (cut : Int))) = (((x + (W - cut)) % 18446744073709551616 : Nat) : Int) := by rw [wrap_u64]; omega
        have E2 := Lib.hid e2
        clear hbx1 hcA1 hb1 Hbx HcA HbA Hget e2
        go_wp2_with fail
        go_region
        rw [E2.out]
        go_wp2_with fail
        go_roundw
        case rel => exact ⟨k + 1, by omega, by go_num, by rw [← Hstp2.out]; exact Hbx1.out.put oth _, Hgg.out, (Hb1.out.setCell (p := ⟨w.heap.size, oth, none⟩) (Nat.le_refl _) _).drew⟩
        case measure => simp [intOf]; omega
      · have hf := Lib.hid (hno hgd)
        clear hno hgs hgk hbx
        generalize (l[k]).cut.toNat = cut at *
        generalize (l[k]).oth.toNat = oth at *
        have hcs : decide (W < cut) = true ∨ (decide (W < cut) = false ∧ decide (l.length ≤ oth) = true) := by
          by_cases h1 : W < cut
          · left; exact decide_eq_true h1
          · right; exact ⟨decide_eq_false h1, decide_eq_true (by omega)⟩
        clear hgd
        rcases hcs with h1 | ⟨h1, h2⟩
        all_goals
          go_wp2_with fail
          go_ret2
          rw [hf.out]
          exact ⟨_, rfl, fun e => by simp at e, hbl.trans ((balloc _ _).mono hbz)⟩
    · obtain rfl : k = l.length := by omega
      rw [List.take_length] at hgk
      go_wp2_with fail
      go_ret2
      rw [hgk]
      exact ⟨_, rfl, fun _ => ⟨rfl, hbx⟩, hbl⟩
end Go.Proofs.YtcffeepgfjpcaaaGreat

namespace Go.Proofs.YtcffeepgfjpcaaaGreat
set_option linter.unusedSimpArgs false
set_option linter.unusedVariables false
open Go.RowKit

def nbrs (l : List GArc) : Bool := decide (0 < l.length) && gmay l
/-- is a table right? -/
def mayOk (l : List GArc) (t : List GCell) : Bool :=
  nbrs l && (decide (l.length = t.length) && (cgood (gsum l) t.length t && (List.range l.length).all fun i => decide (cnt (gsum l) (i : Int) t = l.length * ((l[i]?).getD ⟨0, 0⟩).wt.toNat)))

theorem mayOk_no1 {l : List GArc} {t : List GCell} (h : nbrs l = false) : mayOk l t = false := by simp [mayOk, h]
theorem mayOk_no2 {l : List GArc} {t : List GCell} (h : l.length ≠ t.length) : mayOk l t = false := by simp [mayOk, h]
theorem mayOk_no3 {l : List GArc} {t : List GCell} (h : cgood (gsum l) t.length t = false) : mayOk l t = false := by simp [mayOk, h]
theorem mayOk_no4 {l : List GArc} {t : List GCell} (k : Nat) (hk : k < l.length) (h : cnt (gsum l) (k : Int) t ≠ l.length * (l[k]).wt.toNat) : mayOk l t = false := by
  unfold mayOk
  have : ((List.range l.length).all fun i => decide (cnt (gsum l) (i : Int) t = l.length * ((l[i]?).getD ⟨0, 0⟩).wt.toNat)) = false := by
    rw [Bool.eq_false_iff]
    intro hc
    have := List.all_eq_true.1 hc k (List.mem_range.2 hk)
    rw [List.getElem?_eq_getElem hk] at this
    simp at this
    exact h this
  rw [this]
  simp
theorem mayOk_yes {l : List GArc} {t : List GCell} (h1 : nbrs l = true) (h2 : l.length = t.length) (h3 : cgood (gsum l) t.length t = true) (h4 : ∀ k (hk : k < l.length), cnt (gsum l) (k : Int) t = l.length * (l[k]).wt.toNat) : mayOk l t = true := by
  unfold mayOk
  rw [h1, h3, decide_eq_true h2]
  simp only [Bool.true_and, List.all_eq_true, List.mem_range, decide_eq_true_eq]
  intro i hi
  rw [List.getElem?_eq_getElem hi]
  exact h4 i hi

end Go.Proofs.YtcffeepgfjpcaaaGreat

namespace Go.Proofs.YtcffeepgfjpcaaaGreat
set_option linter.unusedSimpArgs false
set_option linter.unusedVariables false
open Go.RowKit

set_option maxRecDepth 100000 in
set_option maxHeartbeats 3200000 in
theorem amay_any (w : World) (B B2 : Nat) (v v2 : Value) (l : List GArc) (t : List GCell) (hl : l.length ≤ 4294967296) (ht : t.length ≤ 4294967296) (h : ByA w B v l) (h2 : ByC w B2 v2 t) (hB : B ≤ w.heap.size) (hB2 : B2 ≤ w.heap.size) :
    Calls Tryz.prog 51 #[v, v2] w fun e w' => e = .returned (.bool (mayOk l t)) ∧ Below w.heap.size w w' := by
  obtain ⟨A, c, rfl, hc1, hc2⟩ := h.form
  obtain ⟨A2, c2, rfl, hd1, hd2⟩ := h2.form
  unfold maxLen at hc2 hd2
  have hmy := gmay_any w B _ l hl h hB
  have hS := gsum_lt l
  have hSS : gsum l < 18446744073709551616 := by omega
  have hsum := fun W h hW => gsum_any W B (.slice A l.length c) l hl h hW
  have hcn := fun W h hW => counts_any W B2 (.slice A2 t.length c2) t (gsum l) hSS ht h hW
  have hno1 := @mayOk_no1 l t
  have hno2 := @mayOk_no2 l t
  have hno3 := @mayOk_no3 l t
  have hno4 := @mayOk_no4 l t
  have hyes := @mayOk_yes l t
  have hcl := fun j => cntK_lt (gsum l) j t t.length
  have Hmy := Lib.hid hmy
  have Hsum := Lib.hid hsum
  have Hcn := Lib.hid hcn
  have Hno1 := Lib.hid hno1
  have Hno2 := Lib.hid hno2
  have Hno3 := Lib.hid hno3
  have Hno4 := Lib.hid hno4
  have Hyes := Lib.hid hyes
  have Hcl := Lib.hid hcl
  clear hmy hsum hcn hno1 hno2 hno3 hno4 hyes hS hcl
  by_cases h0 : 0 < l.length
  · have hz1 : ((l.length : Int) == 0) = false := beq_eq_false_iff_ne.2 (by omega)
    have hz2 : (l.length == 0) = false := beq_eq_false_iff_ne.2 (by omega)
    have Hz := Lib.hid h0
    clear h0
    by_cases hlt : l.length = t.length
    · have Hlt := Lib.hid hlt
      have hle2 : ((l.length : Int) != (t.length : Int)) = false := by simp [hlt]
      have hle1 : ((l.length : Int) == (t.length : Int)) = true := by simp [hlt]
      clear hlt
      go_enter Tryz.func51, Tryz.ntmps51
      go_wp2_with fail
      refine Hmy.out.mono ?_
      rintro _ w1 ⟨rfl, hb1⟩
      cases hm : gmay l with
      | false =>
        have hf := Lib.hid (Hno1.out (by unfold nbrs; rw [hm, Bool.and_false]))
        clear hm
        go_wp2_with fail
        go_ret
        rw [hf.out]
        exact ⟨rfl, hb1⟩
      | true =>
        have Hnb : nbrs l = true := by unfold nbrs; rw [hm, decide_eq_true Hz.out]; rfl
        have hnb := Lib.hid Hnb
        clear hm Hnb
        go_wp2_with fail
        refine (Hsum.out w1 (h.below (hb1.mono hB)) (Nat.le_trans hB hb1.size)).mono ?_
        rintro _ w2 ⟨rfl, hb2⟩
        have hb02 := bstep hb1 hb2
        go_wp2_with fail
        refine (Hcn.out w2 (ByC.below h2 (hb02.mono hB2)) (Nat.le_trans hB2 hb02.size)).mono ?_
        rintro _ w3 ⟨vo, rfl, hvo, hb3⟩
        have hb03 := bstep hb02 hb3
        cases hg : cgood (gsum l) t.length t with
        | false =>
          have hf := Lib.hid (Hno3.out hg)
          clear hg hvo
          go_wp2_with fail
          go_loopw [6, 7] (fun o i wr => o = .bool false ∧ i = .int .i64 0 ∧ wr = w3) (fun _ _ _ => 0)
          case atStart => exact ⟨rfl, rfl, rfl⟩
          case round =>
            obtain ⟨rfl, rfl, rfl⟩ := hrel
            go_wp2_with fail
            go_ret
            rw [hf.out]
            exact ⟨rfl, hb03⟩
        | true =>
          obtain ⟨rfl, hbx⟩ := hvo hg
          have Hgk := Lib.hid hg
          clear hg hvo
          go_wp2_with fail
          go_loopw [6, 7] (fun o i wr => ∃ (k : Nat) (ob : Bool), k ≤ l.length ∧ o = .bool ob ∧ i = .int .i64 k ∧ (if ob = true then (∀ j (hj : j < k) (hl : j < l.length), cnt (gsum l) (j : Int) t = l.length * (l[j]).wt.toNat) else mayOk l t = false) ∧ ∃ q, wr = w3.drewN q) (fun _ i _ => l.length - (intOf i).toNat)
          case atStart => exact ⟨0, true, by omega, rfl, rfl, fun j hj => absurd hj (Nat.not_lt_zero _), 0, rfl⟩
          case round =>
            obtain ⟨k, ob, hk, rfl, rfl, hall, q, rfl⟩ := hrel
            cases ob with
            | false =>
              have hf := Lib.hid (show mayOk l t = false by simpa using hall)
              clear hall
              go_wp2_with fail
              go_ret
              rw [hf.out]
              exact ⟨rfl, bdrewN hb03 q⟩
            | true =>
              rw [if_pos rfl] at hall
              have Hall := Lib.hid hall
              clear hall
              by_cases hkl : k < l.length
              · obtain ⟨ad, rfl, hab, hx0, hx1⟩ := ByA.cells (h.below (hb03.mono hB)) k hkl
                have hwt := u32_lt (l[k]).wt
                have hno := Hno4.out k hkl
                have hkt : k < t.length := by have := Hlt.out; omega
                have hcnk : cnt (gsum l) (k : Int) t < 18446744073709551616 := Hcl.out k
                have hmb : l.length * (l[k]).wt.toNat ≤ 4294967296 * 4294967295 := Nat.mul_le_mul hl (by omega)
                have hmul : IntKind.u64.wrap ((l.length : Int) * ((l[k]).wt.toNat : Int)) = ((l.length * (l[k]).wt.toNat : Nat) : Int) := by
                  rw [← Int.natCast_mul, wrap_u64]; omega
                have hrd : w3.cell? { block := w2.heap.size, off := k } = some (.int .u64 ((cnt (gsum l) (k : Int) t : Nat) : Int)) := hbx.cell k _ (cntRow_get (gsum l) t _ t.length k hkt)
                have hbd : decide ((k : Int) < (t.length : Int)) = true := by simp; omega
                by_cases he : cnt (gsum l) (k : Int) t = l.length * (l[k]).wt.toNat
                · have hn2 : (((cnt (gsum l) (k : Int) t : Nat) : Int) == ((l.length * (l[k]).wt.toNat : Nat) : Int)) = true := by rw [he]; simp
                  have hrel2 : ∀ j (hj : j < k + 1) (hl : j < l.length), cnt (gsum l) (j : Int) t = l.length * (l[j]).wt.toNat := fun j hj hl => by
                    rcases Nat.lt_or_ge j k with h | h
                    · exact Hall.out j h hl
                    · obtain rfl : j = k := by omega
                      exact he
                  have Hrel2 := Lib.hid hrel2
                  clear hno he hrel2
                  generalize (l[k]).wt.toNat = wt at *
                  generalize hpp : l.length * wt = p at *
                  generalize hcc : cnt (gsum l) (k : Int) t = cv at *
                  clear hpp hcc
                  go_wp2_with fail
                  go_quiet (fail)
                  go_wp2_with fail
                  go_roundw
                  case rel => exact ⟨k + 1, true, by omega, rfl, by go_num, Hrel2.out, q + nq, by simp⟩
                  case measure => simp [intOf]; omega
                · have hf := Lib.hid (hno he)
                  have hn2 : (((cnt (gsum l) (k : Int) t : Nat) : Int) == ((l.length * (l[k]).wt.toNat : Nat) : Int)) = false := by simp; omega
                  clear hno he
                  generalize (l[k]).wt.toNat = wt at *
                  generalize hpp : l.length * wt = p at *
                  generalize hcc : cnt (gsum l) (k : Int) t = cv at *
                  clear hpp hcc
                  go_wp2_with fail
                  go_quiet (fail)
                  go_wp2_with fail
                  go_roundw
                  case rel => exact ⟨k + 1, false, by omega, rfl, by go_num, by simpa using hf.out, q + nq, by simp⟩
                  case measure => simp [intOf]; omega
              · obtain rfl : k = l.length := by omega
                have hf := Lib.hid (Hyes.out hnb.out Hlt.out Hgk.out (fun j hj => Hall.out j hj hj))
                go_wp2_with fail
                go_ret
                rw [hf.out]
                exact ⟨rfl, bdrewN hb03 q⟩
    · have hf := Lib.hid (Hno2.out hlt)
      have hle1 : ((l.length : Int) == (t.length : Int)) = false := beq_eq_false_iff_ne.2 (by omega)
      have hle2 : ((l.length : Int) != (t.length : Int)) = true := by simp; omega
      clear hlt
      go_enter Tryz.func51, Tryz.ntmps51
      go_wp2_with fail
      go_ret
      rw [hf.out]
      exact ⟨rfl, Below.refl _ _⟩
  · have hz : l.length = 0 := by omega
    have hf := Lib.hid (Hno1.out (by unfold nbrs; rw [hz]; rfl))
    have hz1 : ((l.length : Int) == 0) = true := by simp [hz]
    have hz2 : (l.length == 0) = true := by simp [hz]
    clear h0 hz
    go_enter Tryz.func51, Tryz.ntmps51
    go_wp2_with fail
    go_ret
    rw [hf.out]
    exact ⟨rfl, Below.refl _ _⟩
end Go.Proofs.YtcffeepgfjpcaaaGreat

namespace Go.Proofs.YtcffeepgfjpcaaaGreat
set_option linter.unusedSimpArgs false
set_option linter.unusedVariables false
open Go.RowKit
section
variable {α : Type} {E : TypeId} {C : Cdc α} {w w' : World} {base : Nat} {O S S' : Nat → Prop} {v : Value} {xs : List α}
theorem wp_appR {o : Oper} {a : Act} {K : Act → World → Prop} {Q : Exit → Act → World → Prop} (s x : Operand) (t : TypeId)
    (ho : o.op = .call { callee := .builtin .append, args := #[s, x], argTypes := #[t, t] })
    (ht : Tryz.prog.underlying t = some (.slice E)) {z : Value} {bytes : Nat} (hinfo : (Tryz.prog.info? E).map (fun i => (i.zero, i.size, i.bytes)) = some (some z, C.n, bytes)) (hz2 : z.cells.size = C.n) (hn0 : 0 < C.n) (hb0 : bytes ≤ 256)
    {v2 : Value} {ys : List α} (hown : OwnR E C w base S v xs) (hrd : RowOn C w O S v2 ys) (hs : a.eval s = v) (hx : a.eval x = v2)
    (hsz : xs.length + ys.length ≤ 549755813888) (hbase : base ≤ w.heap.size)
    (h : ∀ v' w', OwnR E C w' base S v' (xs ++ ys) → Ext w w' v v' → K (a.put o.dst v') w') : Oper.wp Tryz.prog o a w K Q := by
  obtain ⟨i, hi, hz0, hz1, hby⟩ := info_parts hinfo
  obtain ⟨css, hl, h2, h3, h4⟩ := hown
  have hcl := OwnR.clen hl h3
  obtain ⟨A, c, rfl, hc1, hc2, hcell⟩ := hrd
  -- the cells of the source
  obtain ⟨dss, hdl, hd3, hdr⟩ : ∃ dss : List (List Value), dss.length = ys.length ∧ (∀ (i : Nat) (cs : List Value) (y : α), dss[i]? = some cs → ys[i]? = some y → C.at_ w S cs y) ∧
      ∃ B, Rd w B C.n A ys.length dss.flatten := by
    rcases Nat.eq_zero_or_pos ys.length with h0 | h0
    · have : ys = [] := List.eq_nil_of_length_eq_zero h0
      subst this
      exact ⟨[], rfl, fun i cs y h => by simp at h, 0, by simp [Rd]⟩
    · obtain ⟨ad, rfl, _, hc⟩ := hcell h0
      have hex : ∀ i : Fin ys.length, ∃ cs, C.at_ w S cs (ys[i.1]'i.2) ∧ ∀ (j : Nat) (u : Value), cs[j]? = some u → w.cell? (ad.add (i.1 * C.n + j)) = some u := fun i => hc i.1 _ (List.getElem?_eq_getElem i.2)
      refine ⟨List.ofFn fun i => (hex i).choose, by simp, ?_, ad.block + 1, ?_⟩
      · intro i cs y hcs hy
        obtain ⟨hi', rfl⟩ := List.getElem?_eq_some_iff.1 hy
        rw [List.getElem?_ofFn, dif_pos hi'] at hcs
        injection hcs with hcs
        rw [← hcs]
        exact (hex ⟨i, hi'⟩).choose_spec.1
      · have hcl2 : ∀ cs ∈ (List.ofFn fun i => (hex i).choose), cs.length = C.n := by
          intro cs hcs
          obtain ⟨i, rfl⟩ := List.mem_ofFn.1 hcs
          exact C.len (hex i).choose_spec.1
        refine ⟨by rw [flat_len C.n _ hcl2]; simp, fun _ => ⟨ad, rfl, Nat.lt_succ_self _, fun j u hu => ?_⟩⟩
        have hj : j < ys.length * C.n := by
          have := (List.getElem?_eq_some_iff.1 hu).1
          rw [flat_len C.n _ hcl2] at this
          simpa using this
        have hi' : j / C.n < ys.length := Nat.div_lt_of_lt_mul (by rw [Nat.mul_comm]; exact hj)
        have hj2 : j % C.n < C.n := Nat.mod_lt _ hn0
        have hdm : j / C.n * C.n + j % C.n = j := by rw [Nat.mul_comm]; exact Nat.div_add_mod j C.n
        have := flat_get C.n _ hcl2 (j / C.n) (hex ⟨j / C.n, hi'⟩).choose (j % C.n) (by rw [List.getElem?_ofFn, dif_pos hi']) hj2
        rw [hdm, hu] at this
        have := (hex ⟨j / C.n, hi'⟩).choose_spec.2 (j % C.n) u this.symm
        rwa [hdm] at this
  obtain ⟨B, hrd⟩ := hdr
  have hcl2 := OwnR.clen hdl hd3
  obtain ⟨v', w', hr, g2, g3, g5⟩ := run_append_rd (P := Tryz.prog) w base t o.type E i z C.n bytes ht hi hz0 hz1 hby hz2 hn0 v xs.length css.flatten h2 B A ys.length c dss.flatten hrd (by
      intro u hu
      obtain ⟨cs, hcs, hu⟩ := List.mem_flatten.1 hu
      obtain ⟨i, hi', rfl⟩ := List.mem_iff_getElem.1 hcs
      exact C.one (hd3 i _ (ys[i]'(by omega)) (List.getElem?_eq_getElem hi') (List.getElem?_eq_getElem (by omega))) u hu)
    (by unfold maxLen; omega) (by
      calc (xs.length + ys.length) * bytes ≤ 549755813888 * 256 := Nat.mul_le_mul hsz hb0
        _ ≤ _ := by decide) hbase
  unfold Oper.wp execOp
  simp only [ho, resolve, invoke, builtin, Sem.run_bind, Sem.run_pure, Result.andThen_ok, List.map_toArray, List.map_cons, List.map_nil, hs, hx, hr]
  have hSame : ∀ p : Addr, S p.block → w'.cell? p = w.cell? p := fun p hp => World.cell?_of_block (g3.block p.block (h4 _ hp).1 (fun e => (h4 _ hp).2 e.symm))
  refine (h v' w' ⟨css ++ dss, by simp [hl, hdl], by rw [List.length_append, List.flatten_append]; exact g2, ?_, ?_⟩ ⟨g3, ?_⟩)
  · intro j cs x hc hx'
    refine C.keep ?_ hSame
    rcases Nat.lt_or_ge j xs.length with hj | hj
    · rw [List.getElem?_append_left (by omega)] at hc
      rw [List.getElem?_append_left hj] at hx'
      exact h3 j cs x hc hx'
    · rw [List.getElem?_append_right (by omega)] at hc
      rw [List.getElem?_append_right hj, ← hl] at hx'
      exact hd3 _ cs x hc hx'
  · intro k hk
    refine ⟨Nat.lt_of_lt_of_le (h4 k hk).1 g3.size, ?_⟩
    rcases g5 with g5 | g5
    · rw [g5]; exact (h4 k hk).2
    · rw [g5]; intro e; injection e with e; have := (h4 k hk).1; omega
  · rcases g5 with g5 | g5
    · exact .inl g5
    · exact .inr fun k hk => by rw [g5] at hk; injection hk with hk; omega


end
/-- append(s, y), y in a block of its own, at a step -/
theorem step_app1R {α : Type} {E : TypeId} {C : Cdc α} {S : Nat → Prop} {ops : Array Oper} {o : Oper} {a : Act} {w : World} {K : Act → World → Prop} {Q : Exit → Act → World → Prop} {E0 : Prop} (hgd : o.guard = none) (s x : Operand) (t : TypeId)
    (ho : o.op = .call { callee := .builtin .append, args := #[s, x], argTypes := #[t, t] })
    (ht : Tryz.prog.underlying t = some (.slice E)) {z : Value} {bytes : Nat} (hinfo : (Tryz.prog.info? E).map (fun i => (i.zero, i.size, i.bytes)) = some (some z, C.n, bytes)) (hz2 : z.cells.size = C.n) (hn0 : 0 < C.n) (hb0 : bytes ≤ 256)
    {base g : Nat} {v : Value} {xs : List α} {y : α} (cs : List Value) (hown : OwnR E C w base S v xs) (hy : C.at_ w S cs y) (hg : BoxAt E w g cs) (hs : a.eval s = v) (hx : a.eval x = .slice (some ⟨g, 0, none⟩) 1 1)
    (hsz : xs.length ≤ 549755813887) (hbase : base ≤ w.heap.size)
    (h : ∀ v' w', OwnR E C w' base S v' (xs ++ [y]) → Ext w w' v v' → K (a.put o.dst v') w') :
    if Region.wanted o (yielded ops a.tmps) = true then Oper.wp Tryz.prog o a w K Q else E0 := by
  have hw : Region.wanted o (yielded ops a.tmps) = true := by simp [Region.wanted, hgd]
  rw [if_pos hw]
  have hrow : RowOn C w (fun k => k < w.heap.size) S (.slice (some ⟨g, 0, none⟩) 1 1) [y] := by
    refine ⟨_, 1, rfl, Nat.le_refl _, by simp [maxLen], fun _ => ⟨_, rfl, hg.lt, fun i y' hi => ?_⟩⟩
    match i, hi with
    | 0, hi =>
      injection hi with hi
      subst hi
      refine ⟨cs, hy, fun j u hu => ?_⟩
      rw [Nat.zero_mul, Nat.zero_add]
      exact hg.cells j u hu
    | i + 1, hi => simp at hi
  exact wp_appR s x t ho ht hinfo hz2 hn0 hb0 hown hrow hs hx (by simp; omega) hbase h
end Go.Proofs.YtcffeepgfjpcaaaGreat

namespace Go.Proofs.YtcffeepgfjpcaaaGreat
set_option linter.unusedSimpArgs false
set_option linter.unusedVariables false
open Go.RowKit

theorem OwnR.grownRd {α : Type} {E : TypeId} {C : Cdc α} {w w' : World} {base : Nat} {v : Value} {xs : List α} {g : Nat} (h : OwnF E C w base v xs) (hg : w.grownBy w' (some g)) (hb : g < base) : OwnF E C w' base v xs :=
  h.keep hg (by
    cases hv : v.ownBlock with
    | none => exact .inl rfl
    | some q => exact .inr fun e => by injection e with e; have := (h.blk q hv).1; omega) (fun _ h => h.elim)

end Go.Proofs.YtcffeepgfjpcaaaGreat

namespace Go.Proofs.YtcffeepgfjpcaaaGreat
set_option linter.unusedSimpArgs false
set_option linter.unusedVariables false
open Go.RowKit

def left0 (l : List GArc) (i : Nat) : Nat := l.length * ((l[i]?).getD ⟨0, 0⟩).wt.toNat
def lefts (l : List GArc) (k : Nat) : List UInt64 := (List.range k).map fun i => UInt64.ofNat (left0 l i)
def poors (l : List GArc) (k : Nat) : List Int := ((List.range k).filter fun i => decide (left0 l i < gsum l)).map fun (i : Nat) => (i : Int)
theorem lefts_len (l : List GArc) (k : Nat) : (lefts l k).length = k := by simp [lefts]
theorem lefts_succ (l : List GArc) (k : Nat) : lefts l (k + 1) = lefts l k ++ [UInt64.ofNat (left0 l k)] := by simp [lefts, List.range_succ]
theorem poors_yes (l : List GArc) (k : Nat) (h : left0 l k < gsum l) : poors l (k + 1) = poors l k ++ [(k : Int)] := by simp [poors, List.range_succ, h]
theorem poors_no (l : List GArc) (k : Nat) (h : ¬ left0 l k < gsum l) : poors l (k + 1) = poors l k := by simp [poors, List.range_succ, h]
theorem poors_len (l : List GArc) (k : Nat) : (poors l k).length ≤ k := by
  have := List.length_filter_le (fun i => decide (left0 l i < gsum l)) (List.range k)
  simp [poors] at this ⊢
  exact this
theorem info64' : (Tryz.prog.info? 23).map (fun i => (i.zero, i.size, i.bytes)) = some (some (.int .u64 0), c64.n, 8) := by kernel_rfl
theorem infoInt : (Tryz.prog.info? 3).map (fun i => (i.zero, i.size, i.bytes)) = some (some (.int .i64 0), cInt.n, 8) := by kernel_rfl

theorem BoxAt.drew_ {T : TypeId} {w : World} {g : Nat} {cs : List Value} (h : BoxAt T w g cs) : BoxAt T w.drew g cs := h
theorem OwnR.drew_ {α : Type} {E : TypeId} {C : Cdc α} {w : World} {base : Nat} {S : Nat → Prop} {v : Value} {xs : List α} (h : OwnR E C w base S v xs) : OwnR E C w.drew base S v xs := h.below_ (Below.refl _ _).drew

set_option maxRecDepth 100000 in
set_option maxHeartbeats 3200000 in
theorem begin_any (w : World) (B : Nat) (v : Value) (l : List GArc) (hl : l.length ≤ 1048576) (h : ByA w B v l) (hB : B ≤ w.heap.size) :
    Calls Tryz.prog 46 #[v] w fun e w' => ∃ g vl vp, e = .returned (.pointer (some ⟨g, 0, none⟩)) ∧ w.heap.size ≤ g ∧ BoxAt 104 w' g [.int .u64 (gsum l : Nat), vl, vp, .int .i64 0] ∧
      OwnF 23 c64 w' (g + 1) vl (lefts l l.length) ∧ OwnF 3 cInt w' (g + 1) vp (poors l l.length) ∧ Apart vl vp ∧ Below w.heap.size w w' := by
  obtain ⟨A, c, rfl, hc1, hc2⟩ := h.form
  unfold maxLen at hc2
  have hS := gsum_lt l
  have hSS : gsum l < 18446744073709551616 := by omega
  have hsum := gsum_any w B (.slice A l.length c) l (by omega) h hB
  have Hsum := Lib.hid hsum
  clear hsum hS
  go_enter Tryz.func46, Tryz.ntmps46
  go_wp2_with fail
  refine Hsum.out.mono ?_
  rintro _ w1 ⟨rfl, hb1⟩
  go_wp2_with fail
  have hs1 := hb1.size
  have hbx0 := BoxAt.new_ 104 w1 [.int .u64 (gsum l : Nat), .slice none 0 0, .slice none 0 0, .int .i64 0]
  have hb02 := bstep hb1 (balloc w1 (.cells #[.int .u64 (gsum l : Nat), .slice none 0 0, .slice none 0 0, .int .i64 0] 104))
  generalize hgg : w1.heap.size = g at *
  have hw2 : (w1.alloc (.cells #[.int .u64 (gsum l : Nat), .slice none 0 0, .slice none 0 0, .int .i64 0] 104)).heap.size = g + 1 := by simp [hgg]
  generalize hW2 : w1.alloc (.cells #[.int .u64 (gsum l : Nat), .slice none 0 0, .slice none 0 0, .int .i64 0] 104) = w2 at *
  have hbx0' : BoxAt 104 w2 g [.int .u64 (gsum l : Nat), .slice none 0 0, .slice none 0 0, .int .i64 0] := hbx0
  have Hbx0 := Lib.hid hbx0'
  have Hb02 := Lib.hid hb02
  clear hbx0 hbx0' hb02 hb1 hgg hW2
  go_loopw [12] (fun i wr => ∃ (k : Nat) (vl vp : Value), k ≤ l.length ∧ i = .int .i64 k ∧ BoxAt 104 wr g [.int .u64 (gsum l : Nat), vl, vp, .int .i64 0] ∧ OwnF 23 c64 wr (g + 1) vl (lefts l k) ∧ OwnF 3 cInt wr (g + 1) vp (poors l k) ∧ Apart vl vp ∧ Below w.heap.size w wr) (fun i _ => l.length - (intOf i).toNat)
  case atStart => exact ⟨0, _, _, by omega, rfl, Hbx0.out, OwnF.nil_ _ _, OwnF.nil_ _ _, fun q hq => by simp [Value.ownBlock] at hq, Hb02.out⟩
  case round =>
    obtain ⟨k, vl, vp, hk, rfl, hbx, hol, hop, hap, hbl⟩ := hrel
    have hbz := hbl.size
    have hglt := hbx.lt
    by_cases hlt : k < l.length
    · obtain ⟨ad, rfl, hab, hx0, hx1⟩ := (h.below (hbl.mono hB)).cells k hlt
      have hwt := u32_lt (l[k]).wt
      have hl0 : left0 l k = l.length * (l[k]).wt.toNat := by unfold left0; rw [List.getElem?_eq_getElem hlt]; rfl
      have hmb : l.length * (l[k]).wt.toNat ≤ 1048576 * 4294967295 := Nat.mul_le_mul hl (by omega)
      have hmul : IntKind.u64.wrap ((l.length : Int) * ((l[k]).wt.toNat : Int)) = ((l.length * (l[k]).wt.toNat : Nat) : Int) := by
        rw [← Int.natCast_mul, wrap_u64]; omega
      have hls := lefts_succ l k
      have hpy := poors_yes l k
      have hpn := poors_no l k
      rw [hl0] at hls hpy hpn
      generalize (l[k]).to.toNat = to at *
      generalize (l[k]).wt.toNat = wt at *
      generalize l.length * wt = p at *
      obtain ⟨Al, cl, rfl, hcl1, hcl2, _⟩ := hol.form'
      obtain ⟨Ap, cp, rfl, hcp1, hcp2, _⟩ := hop.form'
      rw [lefts_len] at hcl1
      go_wp2_with fail
      have hbA := balloc wr (.cells #[.int .u32 (to : Int), .int .u32 (wt : Int)] 48)
      have hcA := BoxAt.new_ 48 wr [.int .u32 (to : Int), .int .u32 (wt : Int)]
      have Hbx := Lib.hid (hbx.alloc (.cells #[.int .u32 (to : Int), .int .u32 (wt : Int)] 48))
      have HcA := Lib.hid hcA
      have hol' := hol
      have Hol := Lib.hid (hol.below_ hbA)
      have Hop := Lib.hid (hop.below_ hbA)
      have Hbl := Lib.hid (hbl.trans (hbA.mono hbz))
      have Hap := Lib.hid hap
      have Hls := Lib.hid hls
      have Hpy := Lib.hid hpy
      have Hpn := Lib.hid hpn
      clear hbA hcA hbx hol hop hbl hap hls hpy hpn hx0 hx1 hl0
      have hnq : ∀ q, (Value.slice Al (lefts l k).length cl).ownBlock = some q → some q ≠ some wr.heap.size := fun q hq e => by injection e with e; have := (hol'.blk q hq).2; omega
      clear hol'
      have hgcz : wr.heap.size < (wr.alloc (.cells #[.int .u32 (to : Int), .int .u32 (wt : Int)] 48)).heap.size := by simp
      generalize wr.alloc (.cells #[.int .u32 (to : Int), .int .u32 (wt : Int)] 48) = wa at *
      generalize wr.heap.size = gc at *
      have hblk := Hol.out.blk
      have hng : some g ≠ (Value.slice Al (lefts l k).length cl).ownBlock := fun e => by have := hblk _ e.symm; omega
      have hnc : some gc ≠ (Value.slice Al (lefts l k).length cl).ownBlock := fun e => hnq gc e.symm rfl
      have hy1 := Hbx.out.cell 1 _ rfl
      have hf1 := Hbx.out.frozen 1
      have hz1 := HcA.out.cell 1 _ rfl
      have hlg := Hbx.out.lt
      have hp64 : (UInt64.ofNat p).toNat = p := by rw [UInt64.toNat_ofNat']; omega
      clear hblk
      have hq : IntKind.u64.wrap (IntKind.u64.wrap (l.length : Int) * IntKind.u64.wrap (wt : Int)) = (p : Int) := by
        rw [← hmul, wrap_u64 (l.length : Int), wrap_u64 (wt : Int), Int.emod_eq_of_lt (by omega) (by omega), Int.emod_eq_of_lt (by omega) (by omega)]
      have Hq := Lib.hid hq
      clear hq
      go_wp2_with fail
      have hk1 := (Hbx.out.alloc (.cells #[.int .u64 (IntKind.u64.wrap (IntKind.u64.wrap (l.length : Int) * IntKind.u64.wrap (wt : Int)))] 23)).drew_
      have hk2 := (HcA.out.alloc (.cells #[.int .u64 (IntKind.u64.wrap (IntKind.u64.wrap (l.length : Int) * IntKind.u64.wrap (wt : Int)))] 23)).drew_
      have hka := hk1.cell 1 _ rfl
      have hkb := hk2.cell 1 _ rfl
      have hkf := hk1.frozen 1
      have Hk1 := Lib.hid hk1
      have Hk2 := Lib.hid hk2
      have Hka := Lib.hid hka
      have Hkb := Lib.hid hkb
      have Hkf := Lib.hid hkf
      clear hk1 hk2 hka hkb hkf
      go_region_law
        ((go_loud (refine step_app1R (by rfl) _ _ 101 (by rfl) Tryz.underlying101 info64' (by rfl) (by decide) (by decide) (y := UInt64.ofNat p) [.int .u64 (IntKind.u64.wrap (IntKind.u64.wrap (l.length : Int) * IntKind.u64.wrap (wt : Int)))] (Hol.out.alloc _).drew_ ⟨by simp only [hp64, Hq.out], trivial⟩ (BoxAt.new_ 23 wa [.int .u64 (IntKind.u64.wrap (IntKind.u64.wrap (l.length : Int) * IntKind.u64.wrap (wt : Int)))]).drew_ (by rfl) (by rfl) (by rw [lefts_len]; omega) (by simp; omega) ?_); intro v3 w3 hown3 hext3; obtain ⟨A3, c3, rfl, hd1, hd2, _⟩ := hown3.form'; have hk3 := Hk1.out.grown hext3.gr hng.symm; have hs3 := hk3.cell 1 _ rfl; have hs4 := hk3.frozen 1))
      all_goals
        go_wp2_with fail
        rw [lefts_len]
        have hown3' : OwnF 23 c64 w3 (g + 1) (.slice A3 (k + 1) c3) (lefts l (k + 1)) := by
          rw [Hls.out, show k + 1 = (lefts l k ++ [UInt64.ofNat p]).length from by simp [lefts_len]]
          exact hown3
        have hbx4 := hk3.put 1 (.slice A3 (k + 1) c3)
        have hown4 := OwnR.grownRd hown3' (gset w3 ⟨g, 1, none⟩ (.slice A3 (k + 1) c3)) (by show g < g + 1; omega)
        have hopA := (Hop.out.alloc (.cells #[.int .u64 (IntKind.u64.wrap (IntKind.u64.wrap (l.length : Int) * IntKind.u64.wrap (wt : Int)))] 23)).drew_
        have hop4 := OwnR.grownRd (hopA.keep hext3.gr Hap.out.symm.ne (fun _ h => h.elim)) (gset w3 ⟨g, 1, none⟩ (.slice A3 (k + 1) c3)) (by show g < g + 1; omega)
        have hap4 := (Hap.out.symm.ext hext3 (fun q hq => (hopA.blk q hq).2)).symm
        have hb4 : Below w.heap.size w (w3.setCell ⟨g, 1, none⟩ (.slice A3 (k + 1) c3)) := by
          have hA := (Hbl.out.trans ((balloc wa (.cells #[.int .u64 (IntKind.u64.wrap (IntKind.u64.wrap (l.length : Int) * IntKind.u64.wrap (wt : Int)))] 23)).mono Hbl.out.size)).drew
          exact (hA.trans (hext3.below hA.size (fun q hq => by have := (Hol.out.blk q hq).1; omega))).setCell (p := ⟨g, 1, none⟩) hs1 _
        have Hown4 := Lib.hid hown4
        have Hop4 := Lib.hid hop4
        have Hap4 := Lib.hid hap4
        have Hb4 := Lib.hid hb4
        have Hbx4 := Lib.hid hbx4
        have hy0 := hbx4.cell 0 _ rfl
        have hy1' := hbx4.cell 1 _ rfl
        have hy2 := hbx4.cell 2 _ rfl
        obtain ⟨a3, cs3, rfl, hblk3, ⟨rfl, _⟩, hcs3⟩ := hown4.row.at_ k (UInt64.ofNat p) (by rw [Hls.out, List.getElem?_append_right (by rw [lefts_len]; omega), lefts_len, Nat.sub_self]; rfl)
        have hy3 := hcs3 0 _ rfl
        have hp64' : (((UInt64.ofNat p).toNat : Nat) : Int) = (p : Int) := by rw [hp64]
        replace hy3 : (w3.setCell ⟨g, 1, none⟩ (.slice (some a3) (k + 1) c3)).cell? (a3.add k) = some (.int .u64 (p : Int)) := by
          have h9 : k * c64.n + 0 = k := by show k * 1 + 0 = k; omega
          rw [h9, hp64'] at hy3
          exact hy3
        have hkk : decide ((k : Int) < ((k + 1 : Nat) : Int)) = true := decide_eq_true (by omega)
        clear hs3 hs4 hk3 hbx4 hown4 hop4 hap4 hb4 hown3 hown3' hext3 hopA hcs3 hblk3 hd1 hng hnc hy1 hf1 hz1 hp64' hmul hd2
        generalize w3.setCell ⟨g, 1, none⟩ (.slice (some a3) (k + 1) c3) = w4 at *
        by_cases hpw : p < gsum l
        · have hdp : decide (p < gsum l) = true := decide_eq_true hpw
          have Hpp := Lib.hid (Hpy.out hpw)
          clear hpw
          go_wp2_with fail
          go_quiet (fail)
          have hop5 := OwnR.below_ Hop4.out (bdrewN (Below.refl _ _) nq)
          have hpl := poors_len l k
          have hn2 : (poors l k).length ≤ 549755813887 := by omega
          have Hop5 := Lib.hid hop5
          clear hop5 hpl
          have hbx5 : BoxAt 104 (w4.drewN nq) g _ := Hbx4.out
          have hglt5 := hbx5.lt
          have Hbx5 := Lib.hid hbx5
          clear hbx5
          go_wp2_with (at_builtin
                       go_loud (refine wpList_app1R rfl (.tmp 49) (.tmp 51) 102 rfl Tryz.underlying102 infoInt rfl (by decide) (by decide) (y := (k : Int)) [.int .i64 (k : Int)] Hop5.out ⟨rfl, by omega, by omega⟩ rfl rfl hn2 (by omega) ?_)
                       intro v6 w6 hown6 hext6
                       obtain ⟨A6, c6, rfl, _, _, _⟩ := hown6.form'
                       have hng6 : (Value.slice Ap (poors l k).length cp).ownBlock ≠ some g := fun e => by have := (Hop5.out.blk _ e).1; omega
                       have hk6 := Hbx5.out.grown hext6.gr hng6
                       have hs6 := hk6.cell 2 _ rfl
                       have hs7 := hk6.frozen 2)
          have hown6' : OwnF 3 cInt w6 (g + 1) (.slice A6 ((poors l k).length + 1) c6) (poors l (k + 1)) := by
            rw [Hpp.out, show (poors l k).length + 1 = (poors l k ++ [(k : Int)]).length from by simp]
            exact hown6
          have hbx7 := hk6.put 2 (.slice A6 ((poors l k).length + 1) c6)
          have hop7 := OwnR.grownRd hown6' (gset w6 ⟨g, 2, none⟩ (.slice A6 ((poors l k).length + 1) c6)) (by show g < g + 1; omega)
          have holA := OwnR.below_ Hown4.out (bdrewN (Below.refl _ _) nq)
          have hol7 := OwnR.grownRd (holA.keep hext6.gr Hap4.out.ne (fun _ h => h.elim)) (gset w6 ⟨g, 2, none⟩ (.slice A6 ((poors l k).length + 1) c6)) (by show g < g + 1; omega)
          have hap7 := Hap4.out.ext hext6 (fun q hq => (holA.blk q hq).2)
          have hb7 : Below w.heap.size w (w6.setCell ⟨g, 2, none⟩ (.slice A6 ((poors l k).length + 1) c6)) := by
            have hA := bdrewN Hb4.out nq
            exact (hA.trans (hext6.below hA.size (fun q hq => by have := (Hop5.out.blk q hq).1; omega))).setCell (p := ⟨g, 2, none⟩) hs1 _
          clear hs6 hs7 hk6
          go_wp2_with fail
          go_roundw
          case rel => exact ⟨k + 1, _, _, by omega, by go_num, hbx7, hol7, hop7, (by have h := hap7; simp only [List.length_append, List.length_singleton, lefts_len] at h; exact h), hb7⟩
          case measure => simp [intOf]; omega
        · have hdp : decide (p < gsum l) = false := decide_eq_false hpw
          have Hpp := Lib.hid (Hpn.out hpw)
          clear hpw
          go_wp2_with fail
          go_quiet (fail)
          go_wp2_with fail
          go_roundw
          case rel => exact ⟨k + 1, _, _, by omega, by go_num, Hbx4.out, Hown4.out.below_ (bdrewN (Below.refl _ _) _), by rw [Hpp.out]; exact Hop4.out.below_ (bdrewN (Below.refl _ _) _), fun q hq e => Hap4.out q hq e, bdrewN Hb4.out _⟩
          case measure => simp [intOf]; omega
    · obtain rfl : k = l.length := by omega
      go_wp2_with fail
      go_ret
      exact ⟨_, _, _, rfl, hs1, hbx, hol, hop, hap, hbl⟩
end Go.Proofs.YtcffeepgfjpcaaaGreat

namespace Go.Proofs.YtcffeepgfjpcaaaGreat
set_option linter.unusedSimpArgs false
set_option linter.unusedVariables false
open Go.RowKit

end Go.Proofs.YtcffeepgfjpcaaaGreat

namespace Go.Proofs.YtcffeepgfjpcaaaGreat
set_option linter.unusedSimpArgs false
set_option linter.unusedVariables false
open Go.RowKit

/-! ### two lists that rise, with the same members, are one -/
theorem rise_uniq : ∀ (a b : List Nat), a.Pairwise (· < ·) → b.Pairwise (· < ·) → (∀ x, x ∈ a ↔ x ∈ b) → a = b
  | [], [], _, _, _ => rfl
  | [], y :: b, _, _, h => by have := (h y).2 (by simp); simp at this
  | x :: a, [], _, _, h => by have := (h x).1 (by simp); simp at this
  | x :: a, y :: b, ha, hb, h => by
    rw [List.pairwise_cons] at ha hb
    have hxy : x = y := by
      have h1 := (h x).1 (by simp)
      have h2 := (h y).2 (by simp)
      simp at h1 h2
      rcases h1 with h1 | h1
      · exact h1
      · rcases h2 with h2 | h2
        · exact h2.symm
        · have := ha.1 y h2
          have := hb.1 x h1
          omega
    subst hxy
    congr 1
    refine rise_uniq a b ha.2 hb.2 fun z => ⟨fun hz => ?_, fun hz => ?_⟩
    · have h1 := (h z).1 (by simp [hz])
      have h2 := ha.1 z hz
      simp at h1
      rcases h1 with h1 | h1
      · omega
      · exact h1
    · have h1 := (h z).2 (by simp [hz])
      have h2 := hb.1 z hz
      simp at h1
      rcases h1 with h1 | h1
      · omega
      · exact h1

/-! ### put in where it stands in order -/
def ins (xs : List Nat) (a j : Nat) : List Nat := xs.take a ++ j :: xs.drop a
theorem ins_len (xs : List Nat) (a j : Nat) (h : a ≤ xs.length) : (ins xs a j).length = xs.length + 1 := by simp [ins]; omega
theorem ins_mem (xs : List Nat) (a j x : Nat) : x ∈ ins xs a j ↔ x = j ∨ x ∈ xs := by
  unfold ins
  rw [List.mem_append, List.mem_cons]
  constructor
  · rintro (h | h | h)
    · exact Or.inr (List.mem_of_mem_take h)
    · exact Or.inl h
    · exact Or.inr (List.mem_of_mem_drop h)
  · rintro (h | h)
    · exact Or.inr (Or.inl h)
    · rw [← List.take_append_drop a xs] at h
      rw [List.mem_append] at h
      rcases h with h | h
      · exact Or.inl h
      · exact Or.inr (Or.inr h)
theorem ins_rise : ∀ (xs : List Nat) (j : Nat), xs.Pairwise (· < ·) → j ∉ xs → (ins xs (xs.countP fun x => decide (x < j)) j).Pairwise (· < ·)
  | [], j, _, _ => by simp [ins]
  | a :: r, j, h, hj => by
    rw [List.pairwise_cons] at h
    simp at hj
    by_cases hlt : a < j
    · have ih := ins_rise r j h.2 hj.2
      rw [List.countP_cons, if_pos (by simpa using hlt)]
      have : ins (a :: r) ((r.countP fun x => decide (x < j)) + 1) j = a :: ins r (r.countP fun x => decide (x < j)) j := by simp [ins]
      rw [this, List.pairwise_cons]
      refine ⟨fun x hx => ?_, ih⟩
      rw [ins_mem] at hx
      rcases hx with rfl | hx
      · exact hlt
      · exact h.1 x hx
    · have h0 : (a :: r).countP (fun x => decide (x < j)) = 0 := by
        rw [List.countP_eq_zero]
        intro x hx
        simp at hx
        rcases hx with rfl | hx
        · simpa using hlt
        · have := h.1 x hx
          simp; omega
      rw [h0]
      have : ins (a :: r) 0 j = j :: a :: r := by simp [ins]
      rw [this, List.pairwise_cons]
      refine ⟨fun x hx => ?_, List.pairwise_cons.2 h⟩
      simp at hx
      rcases hx with rfl | hx
      · omega
      · have := h.1 x hx
        omega

/-! ### who lacks -/
def poorL (W : Nat) (left : List Nat) : List Nat := (List.range left.length).filter fun k => decide (left.getD k 0 < W)
theorem poorL_mem (W : Nat) (left : List Nat) (k : Nat) : k ∈ poorL W left ↔ k < left.length ∧ left.getD k 0 < W := by simp [poorL]
theorem poorL_rise (W : Nat) (left : List Nat) : (poorL W left).Pairwise (· < ·) := List.Pairwise.filter _ List.pairwise_lt_range
theorem poorL_len (W : Nat) (left : List Nat) : (poorL W left).length ≤ left.length := by
  have := List.length_filter_le (fun k => decide (left.getD k 0 < W)) (List.range left.length)
  simpa [poorL] using this
theorem getD_get (l : List Nat) (k : Nat) (h : k < l.length) : l.getD k 0 = l[k] := by simp [List.getD, h]
theorem getD_set (l : List Nat) (k j x : Nat) (h : j < l.length) : (l.set j x).getD k 0 = if j = k then x else l.getD k 0 := by
  simp only [List.getD, List.getElem?_set]
  split
  · subst_vars; simp [h]
  · rfl

structure BSt where
  left : List Nat
  out : List GCell
def mkC (cut oth : Nat) : GCell := ⟨UInt64.ofNat cut, UInt32.ofNat oth⟩
/-- what stands behind i, who lacks, and j, who has: the rests -/
def pay (W : Nat) (left : List Nat) (i j : Nat) : List Nat := (left.set j (left.getD j 0 - (W - left.getD i 0))).set i W
theorem pay_len (W : Nat) (left : List Nat) (i j : Nat) : (pay W left i j).length = left.length := by simp [pay]
def bstep1 (W : Nat) (s : BSt) : Option BSt :=
  match s.left.findIdx? (fun x => decide (x < W)), s.left.findIdx? (fun x => decide (W < x)) with
  | some i, some j => some ⟨pay W s.left i j, s.out.set i (mkC (s.left.getD i 0) j)⟩
  | _, _ => none
def brun (W : Nat) : Nat → BSt → BSt
  | 0, s => s
  | k + 1, s => match bstep1 W (brun W k s) with
    | some s' => s'
    | none => brun W k s
theorem brun_succ (W k : Nat) (s s' : BSt) (h : bstep1 W (brun W k s) = some s') : brun W (k + 1) s = s' := by rw [brun, h]
theorem brun_stop (W k : Nat) (s : BSt) (h : bstep1 W (brun W k s) = none) : ∀ m, brun W (k + m) s = brun W k s
  | 0 => rfl
  | m + 1 => by
    have ih := brun_stop W k s h m
    rw [show k + (m + 1) = (k + m) + 1 from rfl, brun, ih, h]

theorem poor_head (W : Nat) (left : List Nat) (i : Nat) (r : List Nat) (h : poorL W left = i :: r) : left.findIdx? (fun x => decide (x < W)) = some i ∧ i < left.length ∧ left.getD i 0 < W := by
  have hm := (poorL_mem W left i).1 (by rw [h]; simp)
  refine ⟨?_, hm⟩
  rw [List.findIdx?_eq_some_iff_getElem]
  refine ⟨hm.1, by rw [← getD_get]; simpa using hm.2, fun j hji hj => ?_⟩
  rw [← getD_get] at hj
  have hj' : left.getD j 0 < W := by simpa using hj
  have h2 := (poorL_mem W left j).2 ⟨by omega, hj'⟩
  have hr := poorL_rise W left
  rw [h] at h2 hr
  rw [List.pairwise_cons] at hr
  simp at h2
  rcases h2 with h2 | h2
  · omega
  · have := hr.1 j h2
    omega
theorem poor_none (W : Nat) (left : List Nat) (h : poorL W left = []) : left.findIdx? (fun x => decide (x < W)) = none := by
  rw [List.findIdx?_eq_none_iff]
  intro x hx
  obtain ⟨k, hk, rfl⟩ := List.mem_iff_getElem.1 hx
  have : ¬ k ∈ poorL W left := by rw [h]; simp
  rw [poorL_mem, getD_get _ _ hk] at this
  simp
  omega
theorem pay_get (W : Nat) (left : List Nat) (i j k : Nat) (hi : i < left.length) (hj : j < left.length) : (pay W left i j).getD k 0 = if i = k then W else if j = k then left.getD j 0 - (W - left.getD i 0) else left.getD k 0 := by
  unfold pay
  rw [getD_set _ _ _ _ (by simpa using hi), getD_set _ _ _ _ hj]
/-- who lacks behind a turn -/
theorem poor_pay (W : Nat) (left : List Nat) (i j : Nat) (r : List Nat) (h : poorL W left = i :: r) (hj : j < left.length) (hjW : W < left.getD j 0) :
    poorL W (pay W left i j) = if left.getD j 0 - (W - left.getD i 0) < W then ins r (r.countP fun x => decide (x < j)) j else r := by
  obtain ⟨_, hi, hiW⟩ := poor_head W left i r h
  have hr := poorL_rise W left
  rw [h, List.pairwise_cons] at hr
  have hmem : ∀ x, x ∈ r ↔ x ≠ i ∧ x < left.length ∧ left.getD x 0 < W := fun x => by
    have h1 := poorL_mem W left x
    rw [h] at h1
    simp only [List.mem_cons] at h1
    constructor
    · intro hx
      have := hr.1 x hx
      exact ⟨by omega, h1.1 (Or.inr hx)⟩
    · rintro ⟨h2, h3⟩
      exact (h1.2 h3).resolve_left h2
  have hjr : j ∉ r := fun hx => by have := (hmem j).1 hx; omega
  have hij : i ≠ j := fun e => by subst e; omega
  by_cases hc : left.getD j 0 - (W - left.getD i 0) < W
  · rw [if_pos hc]
    apply rise_uniq
    · exact poorL_rise _ _
    · exact ins_rise r j hr.2 hjr
    · intro x
      rw [poorL_mem, pay_len, pay_get W left i j x hi hj]
      rw [ins_mem, hmem]
      constructor
      · rintro ⟨h1, h2⟩
        split at h2
        · omega
        · split at h2
          · exact Or.inl (by omega)
          · exact Or.inr ⟨by omega, h1, h2⟩
      · rintro (rfl | ⟨h1, h2, h3⟩)
        · refine ⟨hj, ?_⟩
          rw [if_neg hij, if_pos rfl]
          assumption
        · refine ⟨h2, ?_⟩
          rw [if_neg (fun e => h1 e.symm)]
          split
          · assumption
          · exact h3
  · rw [if_neg hc]
    apply rise_uniq
    · exact poorL_rise _ _
    · exact hr.2
    · intro x
      rw [poorL_mem, pay_len, pay_get W left i j x hi hj]
      rw [hmem]
      constructor
      · rintro ⟨h1, h2⟩
        split at h2
        · omega
        · split at h2
          · omega
          · exact ⟨by omega, h1, h2⟩
      · rintro ⟨h1, h2, h3⟩
        refine ⟨h2, ?_⟩
        rw [if_neg (fun e => h1 e.symm)]
        split
        · subst_vars; omega
        · exact h3

/-! ### sums -/
theorem sum_set : ∀ (l : List Nat) (k x : Nat), k < l.length → (l.set k x).sum + l.getD k 0 = l.sum + x
  | [], k, x, h => by simp at h
  | a :: l, 0, x, h => by simp [List.getD]; omega
  | a :: l, k + 1, x, h => by
    have ih := sum_set l k x (by simpa using h)
    simp [List.getD] at ih ⊢
    omega
theorem pay_sum (W : Nat) (left : List Nat) (i j : Nat) (hi : i < left.length) (hj : j < left.length) (hiW : left.getD i 0 < W) (hjW : W < left.getD j 0) : (pay W left i j).sum = left.sum := by
  have hij : j ≠ i := fun e => by subst e; omega
  unfold pay
  have h1 := sum_set (left.set j (left.getD j 0 - (W - left.getD i 0))) i W (by simpa using hi)
  have h2 := sum_set left j (left.getD j 0 - (W - left.getD i 0)) hj
  rw [getD_set _ _ _ _ hj, if_neg hij] at h1
  omega
theorem sum_le_all (W : Nat) : ∀ (l : List Nat), (∀ x ∈ l, x ≤ W) → l.sum ≤ l.length * W
  | [], _ => by simp
  | a :: l, h => by
    have ih := sum_le_all W l fun x hx => h x (by simp [hx])
    have := h a (by simp)
    simp [Nat.add_mul]
    omega
theorem sum_lt_one (W : Nat) : ∀ (l : List Nat), (∀ x ∈ l, x ≤ W) → (∃ x ∈ l, x < W) → l.sum < l.length * W
  | [], _, h => by obtain ⟨x, hx, _⟩ := h; simp at hx
  | a :: l, h, hx => by
    have h1 := h a (by simp)
    have h2 := sum_le_all W l fun x hx => h x (by simp [hx])
    obtain ⟨x, hx, hlt⟩ := hx
    simp at hx
    rcases hx with rfl | hx
    · simp [Nat.add_mul]; omega
    · have := sum_lt_one W l (fun x hx => h x (by simp [hx])) ⟨x, hx, hlt⟩
      simp [Nat.add_mul]; omega
theorem sum_gt_one (W : Nat) (l : List Nat) (h : l.sum = l.length * W) (h1 : ∀ x ∈ l, W ≤ x) : ∀ x ∈ l, x = W := by
  induction l with
  | nil => simp
  | cons a l ih =>
    have h2 : l.length * W ≤ l.sum := by
      clear ih h
      have h1' : ∀ x ∈ l, W ≤ x := fun x hx => h1 x (by simp [hx])
      clear h1
      induction l with
      | nil => simp
      | cons b l ih =>
        have := ih fun x hx => h1' x (by simp [hx])
        have := h1' b (by simp)
        simp [Nat.add_mul]; omega
    have h3 := h1 a (by simp)
    simp [Nat.add_mul] at h
    intro x hx
    simp at hx
    rcases hx with rfl | hx
    · omega
    · exact ih (by omega) (fun x hx => h1 x (by simp [hx])) x hx
/-- who has is there while one lacks -/
theorem rich_ex (W : Nat) (left : List Nat) (i : Nat) (hs : left.sum = left.length * W) (hi : i < left.length) (hiW : left.getD i 0 < W) (m : Nat) (hm : ∀ k, k < m → left.getD k 0 ≤ W) (hmn : m ≤ left.length) : m < left.length := by
  refine Nat.lt_of_le_of_ne hmn fun e => ?_
  have := sum_lt_one W left (fun x hx => by obtain ⟨k, hk, rfl⟩ := List.mem_iff_getElem.1 hx; rw [← getD_get _ _ hk]; exact hm k (by omega)) ⟨left[i], List.getElem_mem hi, by rw [← getD_get]; exact hiW⟩
  omega
def bad (W : Nat) (left : List Nat) : Nat := left.countP fun x => decide (x ≠ W)
theorem countP_set1 (p : Nat → Bool) : ∀ (l : List Nat) (k x : Nat), k < l.length → (l.set k x).countP p + (if p (l.getD k 0) then 1 else 0) = l.countP p + (if p x then 1 else 0)
  | [], k, x, h => by simp at h
  | a :: l, 0, x, h => by simp only [List.set_cons_zero, List.countP_cons, List.getD_cons_zero]; omega
  | a :: l, k + 1, x, h => by
    have ih := countP_set1 p l k x (by simpa using h)
    simp only [List.set_cons_succ, List.countP_cons, List.getD_cons_succ]
    omega
theorem bad_pay (W : Nat) (left : List Nat) (i j : Nat) (hi : i < left.length) (hj : j < left.length) (hiW : left.getD i 0 < W) (hjW : W < left.getD j 0) : bad W (pay W left i j) + 1 ≤ bad W left := by
  have hij : j ≠ i := fun e => by subst e; omega
  unfold bad pay
  have h1 := countP_set1 (fun x => decide (x ≠ W)) (left.set j (left.getD j 0 - (W - left.getD i 0))) i W (by simpa using hi)
  have h2 := countP_set1 (fun x => decide (x ≠ W)) left j (left.getD j 0 - (W - left.getD i 0)) hj
  rw [getD_set _ _ _ _ hj, if_neg hij] at h1
  rw [if_pos (show decide (left.getD i 0 ≠ W) = true from decide_eq_true (by omega)), if_neg (show ¬ decide (W ≠ W) = true from by simp)] at h1
  rw [if_pos (show decide (left.getD j 0 ≠ W) = true from decide_eq_true (by omega))] at h2
  split at h2 <;> omega
theorem bad_le (W : Nat) (left : List Nat) : bad W left ≤ left.length := List.countP_le_length
end Go.Proofs.YtcffeepgfjpcaaaGreat
